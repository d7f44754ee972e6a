/- Stable sorting by a key: insertion, merging, blocks. -/
import Derived.Test.YtiijgokgojjocaaLawKit
namespace Go.Proofs.Ytiijgokgojjocaa.Srt

section
variable {α : Type} (f : α → Int)
/-- x behind all that are not greater. -/
def ins : List α → α → List α
  | [], x => [x]
  | y :: l, x => if f y ≤ f x then y :: ins l x else x :: y :: l
def srt (l : List α) : List α := l.foldl (ins f) []
def Asc (l : List α) : Prop := l.Pairwise (fun a b => f a ≤ f b)
def mrg : List α → List α → List α
  | [], r => r
  | x :: l, [] => x :: l
  | x :: l, y :: r => if f x ≤ f y then x :: mrg l (y :: r) else y :: mrg (x :: l) r
variable {f}
theorem ins_length (x : α) : ∀ l : List α, (ins f l x).length = l.length + 1
  | [] => rfl
  | y :: l => by
    unfold ins
    split
    · simp [ins_length x l]
    · simp
theorem mem_ins {x z : α} : ∀ {l : List α}, z ∈ ins f l x ↔ z = x ∨ z ∈ l
  | [] => by simp [ins]
  | y :: l => by
    unfold ins
    split
    · simp only [List.mem_cons, mem_ins]
      constructor
      · rintro (h | h | h)
        · exact .inr (.inl h)
        · exact .inl h
        · exact .inr (.inr h)
      · rintro (h | h | h)
        · exact .inr (.inl h)
        · exact .inl h
        · exact .inr (.inr h)
    · simp
theorem ins_asc (x : α) : ∀ {l : List α}, Asc f l → Asc f (ins f l x)
  | [], _ => by simp [ins, Asc]
  | y :: l, h => by
    have h' := List.pairwise_cons.1 h
    unfold ins
    split
    · rename_i hyx
      refine List.pairwise_cons.2 ⟨fun z hz => ?_, ins_asc x h'.2⟩
      rcases mem_ins.1 hz with rfl | hz
      · exact hyx
      · exact h'.1 z hz
    · rename_i hyx
      refine List.pairwise_cons.2 ⟨fun z hz => ?_, h⟩
      rcases List.mem_cons.1 hz with rfl | hz
      · omega
      · have := h'.1 z hz; omega
theorem srt_snoc (l : List α) (x : α) : srt f (l ++ [x]) = ins f (srt f l) x := by simp [srt, List.foldl_append]
theorem foldl_ins_asc : ∀ (l acc : List α), Asc f acc → Asc f (l.foldl (ins f) acc)
  | [], _, h => h
  | x :: l, _acc, h => foldl_ins_asc l _ (ins_asc x h)
theorem srt_asc (l : List α) : Asc f (srt f l) := foldl_ins_asc l [] (by simp [Asc])
theorem foldl_ins_length : ∀ (l acc : List α), (l.foldl (ins f) acc).length = acc.length + l.length
  | [], _ => rfl
  | x :: l, acc => by
    show (l.foldl (ins f) (ins f acc x)).length = _
    rw [foldl_ins_length l, ins_length]
    simp
    omega
theorem srt_length (l : List α) : (srt f l).length = l.length := by simp [srt, foldl_ins_length]
theorem ins_perm (x : α) : ∀ l : List α, (ins f l x).Perm (x :: l)
  | [] => List.Perm.refl _
  | y :: l => by
    unfold ins
    split
    · exact ((ins_perm x l).cons y).trans (List.Perm.swap x y l)
    · exact List.Perm.refl _
theorem foldl_ins_perm : ∀ (l acc : List α), (l.foldl (ins f) acc).Perm (acc ++ l)
  | [], acc => by simp
  | x :: l, acc => by
    refine (foldl_ins_perm l _).trans ?_
    refine ((ins_perm x acc).append_right l).trans ?_
    simpa using (List.perm_middle (l₁ := acc) (a := x) (l₂ := l)).symm
theorem srt_perm (l : List α) : (srt f l).Perm l := by
  have := foldl_ins_perm (f := f) l []
  simpa [srt] using this
/-- x goes between those that are not greater and those that are. -/
theorem ins_between (x : α) (r : List α) (hr : ∀ z ∈ r, f x < f z) : ∀ (l : List α), (∀ z ∈ l, f z ≤ f x) → ins f (l ++ r) x = l ++ x :: r
  | [], _ => by
    cases r with
    | nil => rfl
    | cons y r =>
      have := hr y (by simp)
      show (if f y ≤ f x then _ else _) = _
      rw [if_neg (by omega)]
      rfl
  | y :: l, h => by
    show (if f y ≤ f x then y :: ins f (l ++ r) x else _) = _
    rw [if_pos (h y (by simp)), ins_between x r hr l (fun z hz => h z (by simp [hz]))]
    rfl
theorem mrg_nil_left (r : List α) : mrg f [] r = r := by rw [mrg]
theorem mrg_nil_right : ∀ l : List α, mrg f l [] = l
  | [] => by rw [mrg]
  | x :: l => by rw [mrg]
theorem mrg_cons (x : α) (l : List α) (y : α) (r : List α) : mrg f (x :: l) (y :: r) = if f x ≤ f y then x :: mrg f l (y :: r) else y :: mrg f (x :: l) r := by rw [mrg]
theorem mrg_length : ∀ (l r : List α), (mrg f l r).length = l.length + r.length
  | [], r => by simp [mrg]
  | x :: l, [] => by simp [mrg]
  | x :: l, y :: r => by
    unfold mrg
    split
    · simp [mrg_length l (y :: r)]; omega
    · simp [mrg_length (x :: l) r]; omega
termination_by l r => l.length + r.length
theorem mem_mrg {z : α} : ∀ {l r : List α}, z ∈ mrg f l r ↔ z ∈ l ∨ z ∈ r
  | [], r => by simp [mrg]
  | x :: l, [] => by simp [mrg]
  | x :: l, y :: r => by
    unfold mrg
    split
    · rw [List.mem_cons, mem_mrg (l := l) (r := y :: r), List.mem_cons (l := l), or_assoc]
    · rw [List.mem_cons, mem_mrg (l := x :: l) (r := r), List.mem_cons (l := r)]
      constructor
      · rintro (h | h | h)
        · exact .inr (.inl h)
        · exact .inl h
        · exact .inr (.inr h)
      · rintro (h | h | h)
        · exact .inr (.inl h)
        · exact .inl h
        · exact .inr (.inr h)
termination_by l r => l.length + r.length
theorem mrg_asc : ∀ {l r : List α}, Asc f l → Asc f r → Asc f (mrg f l r)
  | [], r, _, hr => by simpa [mrg] using hr
  | x :: l, [], hl, _ => by rw [mrg_nil_right]; exact hl
  | x :: l, y :: r, hl, hr => by
    have hl' := List.pairwise_cons.1 hl
    have hr' := List.pairwise_cons.1 hr
    unfold mrg
    split
    · rename_i h
      refine List.pairwise_cons.2 ⟨fun z hz => ?_, mrg_asc hl'.2 hr⟩
      rcases mem_mrg.1 hz with hz | hz
      · exact hl'.1 z hz
      · rcases List.mem_cons.1 hz with rfl | hz
        · exact h
        · have := hr'.1 z hz; omega
    · rename_i h
      refine List.pairwise_cons.2 ⟨fun z hz => ?_, mrg_asc hl hr'.2⟩
      rcases mem_mrg.1 hz with hz | hz
      · rcases List.mem_cons.1 hz with rfl | hz
        · omega
        · have := hl'.1 z hz; omega
      · exact hr'.1 z hz
termination_by l r => l.length + r.length
/-- Two parts merge each for itself, if nobody of the first ones is behind one of the second ones. -/
theorem mrg_append {L2 R2 : List α} : ∀ (L1 R1 : List α), (∀ x ∈ L1, ∀ y ∈ R2, f x ≤ f y) → (∀ y ∈ R1, ∀ x ∈ L2, f y < f x) → mrg f (L1 ++ L2) (R1 ++ R2) = mrg f L1 R1 ++ mrg f L2 R2
  | [], [], _, _ => by rw [mrg_nil_left]; rfl
  | [], y :: R1, h1, h2 => by
    cases L2 with
    | nil => simp [mrg]
    | cons x L2 =>
      have := h2 y (by simp) x (by simp)
      have ih := mrg_append (L2 := x :: L2) (R2 := R2) [] R1 h1 (fun z hz => h2 z (by simp [hz]))
      rw [List.nil_append, List.cons_append, mrg_cons, if_neg (by omega)]
      simp only [List.nil_append] at ih
      rw [ih]
      simp [mrg_nil_left]
  | x :: L1, [], h1, h2 => by
    have ih := mrg_append (L2 := L2) (R2 := R2) L1 [] (fun z hz => h1 z (by simp [hz])) h2
    cases R2 with
    | nil => simp [mrg_nil_right]
    | cons y R2 =>
      have := h1 x (by simp) y (by simp)
      rw [List.nil_append, List.cons_append, mrg_cons, if_pos this]
      simp only [List.nil_append] at ih
      rw [ih]
      simp [mrg_nil_right]
  | x :: L1, y :: R1, h1, h2 => by
    rw [List.cons_append, List.cons_append, mrg_cons, mrg_cons]
    by_cases hxy : f x ≤ f y
    · have ih := mrg_append (L2 := L2) (R2 := R2) L1 (y :: R1) (fun z hz => h1 z (by simp [hz])) h2
      rw [if_pos hxy, if_pos hxy]
      rw [List.cons_append] at ih
      rw [ih]
      rfl
    · have ih := mrg_append (L2 := L2) (R2 := R2) (x :: L1) R1 h1 (fun z hz => h2 z (by simp [hz]))
      rw [if_neg hxy, if_neg hxy]
      rw [List.cons_append] at ih
      rw [ih]
      rfl
termination_by L1 R1 => L1.length + R1.length
theorem asc_append {a b : List α} : Asc f (a ++ b) ↔ Asc f a ∧ Asc f b ∧ ∀ x ∈ a, ∀ y ∈ b, f x ≤ f y := List.pairwise_append
/-- An ascending list parts at a key. -/
theorem asc_part (k : Int) : ∀ {l : List α}, Asc f l → ∃ a b, l = a ++ b ∧ (∀ x ∈ a, f x ≤ k) ∧ ∀ x ∈ b, k < f x
  | [], _ => ⟨[], [], rfl, by simp, by simp⟩
  | y :: l, h => by
    have h' := List.pairwise_cons.1 h
    by_cases hy : f y ≤ k
    · obtain ⟨a, b, rfl, h1, h2⟩ := asc_part k h'.2
      exact ⟨y :: a, b, rfl, fun x hx => by
        rcases List.mem_cons.1 hx with rfl | hx
        · exact hy
        · exact h1 x hx, h2⟩
    · exact ⟨[], y :: l, rfl, by simp, fun x hx => by
        rcases List.mem_cons.1 hx with rfl | hx
        · omega
        · have := h'.1 x hx; omega⟩
theorem mrg_ins {L R : List α} (hL : Asc f L) (hR : Asc f R) (x : α) : mrg f L (ins f R x) = ins f (mrg f L R) x := by
  obtain ⟨L1, L2, rfl, a1, a2⟩ := asc_part (f x) hL
  obtain ⟨R1, R2, rfl, b1, b2⟩ := asc_part (f x) hR
  rw [ins_between x R2 b2 R1 b1]
  have e1 : mrg f (L1 ++ L2) (R1 ++ R2) = mrg f L1 R1 ++ mrg f L2 R2 := mrg_append L1 R1 (fun z hz y hy => by have := a1 z hz; have := b2 y hy; omega) (fun y hy z hz => by have := b1 y hy; have := a2 z hz; omega)
  have e2 : mrg f (L1 ++ L2) (R1 ++ x :: R2) = mrg f L1 R1 ++ mrg f L2 (x :: R2) := mrg_append L1 R1 (fun z hz y hy => by
    have := a1 z hz
    rcases List.mem_cons.1 hy with rfl | hy
    · exact this
    · have := b2 y hy; omega) (fun y hy z hz => by have := b1 y hy; have := a2 z hz; omega)
  have e3 : mrg f L2 (x :: R2) = x :: mrg f L2 R2 := by
    have := mrg_append (f := f) (L2 := L2) (R2 := R2) [] [x] (by simp) (by simpa using a2)
    simpa [mrg_nil_left] using this
  rw [e1, e2, e3, ins_between x (mrg f L2 R2) (fun z hz => by
    rcases mem_mrg.1 hz with hz | hz
    · exact a2 z hz
    · exact b2 z hz) (mrg f L1 R1) (fun z hz => by
    rcases mem_mrg.1 hz with hz | hz
    · exact a1 z hz
    · exact b1 z hz)]
theorem mrg_foldl {L : List α} (hL : Asc f L) : ∀ (B acc : List α), Asc f acc → mrg f L (B.foldl (ins f) acc) = B.foldl (ins f) (mrg f L acc)
  | [], _, _ => rfl
  | x :: B, acc, h => by
    show mrg f L (B.foldl (ins f) (ins f acc x)) = B.foldl (ins f) (ins f (mrg f L acc) x)
    rw [mrg_foldl hL B _ (ins_asc x h), mrg_ins hL h]
theorem mrg_srt (A B : List α) : mrg f (srt f A) (srt f B) = srt f (A ++ B) := by
  have := mrg_foldl (srt_asc (f := f) A) B [] (by simp [Asc])
  rw [mrg_nil_right] at this
  show mrg f (srt f A) (B.foldl (ins f) []) = _
  rw [this]
  simp [srt, List.foldl_append]
theorem srt_of_asc' : ∀ (n : Nat) (l : List α), l.length = n → Asc f l → srt f l = l
  | 0, l, hn, _ => by obtain rfl := List.eq_nil_of_length_eq_zero hn; rfl
  | n + 1, l, hn, h => by
    rcases List.eq_nil_or_concat l with rfl | ⟨l', x, rfl⟩
    · rfl
    · rw [List.concat_eq_append] at h hn ⊢
      have h' := asc_append.1 h
      rw [srt_snoc, srt_of_asc' n l' (by simpa using hn) h'.1]
      have := ins_between (f := f) x [] (by simp) l' (fun z hz => h'.2.2 z hz x (by simp))
      simpa using this
theorem srt_of_asc {l : List α} (h : Asc f l) : srt f l = l := srt_of_asc' _ l rfl h
/-- Blocks of so many, each for itself. -/
def bls (f : α → Int) (s : Nat) : Nat → List α → List α
  | 0, _ => []
  | k + 1, l => srt f (l.take s) ++ bls f s k (l.drop s)
/-- All blocks. -/
def blsA (f : α → Int) (s : Nat) (l : List α) : List α := bls f s l.length l
theorem bls_nil (s : Nat) : ∀ k, bls f s k ([] : List α) = []
  | 0 => rfl
  | k + 1 => by simp [bls, bls_nil s k, srt]
theorem bls_more (s : Nat) (hs : 0 < s) : ∀ (k k' : Nat) (l : List α), l.length ≤ k → l.length ≤ k' → bls f s k l = bls f s k' l
  | 0, k', l, h, _ => by
    obtain rfl := List.eq_nil_of_length_eq_zero (Nat.le_zero.1 h)
    rw [bls_nil, bls_nil]
  | k + 1, 0, l, _, h => by
    obtain rfl := List.eq_nil_of_length_eq_zero (Nat.le_zero.1 h)
    rw [bls_nil, bls_nil]
  | k + 1, k' + 1, l, h, h' => by
    cases l with
    | nil => rw [bls_nil, bls_nil]
    | cons x l =>
      unfold bls
      rw [bls_more s hs k k' _ (by rw [List.length_drop]; simp at h ⊢; omega) (by rw [List.length_drop]; simp at h' ⊢; omega)]
theorem blsA_cons (s : Nat) (hs : 0 < s) (l : List α) : blsA f s l = srt f (l.take s) ++ blsA f s (l.drop s) := by
  cases l with
  | nil => simp [blsA, bls, srt]
  | cons x l =>
    unfold blsA
    show srt f ((x :: l).take s) ++ bls f s l.length ((x :: l).drop s) = _
    rw [bls_more s hs l.length ((x :: l).drop s).length _ (by rw [List.length_drop]; simp; omega) (Nat.le_refl _)]
theorem blsA_nil (s : Nat) : blsA f s ([] : List α) = [] := rfl
theorem blsA_small (s : Nat) (hs : 0 < s) (l : List α) (h : l.length ≤ s) : blsA f s l = srt f l := by
  rw [blsA_cons s hs, List.take_of_length_le h, List.drop_of_length_le h, blsA_nil, List.append_nil]
theorem bls_length (s : Nat) (hs : 0 < s) (l : List α) : (blsA f s l).length = l.length := by
  cases l with
  | nil => rfl
  | cons x l =>
    have h : ((x :: l).drop s).length < (x :: l).length := by rw [List.length_drop]; simp; omega
    rw [blsA_cons s hs, List.length_append, srt_length, bls_length s hs ((x :: l).drop s), List.length_take, List.length_drop]
    omega
termination_by l.length
/-- Whole blocks ahead come first. -/
theorem blsA_snoc (s : Nat) (hs : 0 < s) (l r : List α) (q : Nat) (h : l.length = q * s) : blsA f s (l ++ r) = blsA f s l ++ blsA f s r := by
  induction q generalizing l with
  | zero =>
    obtain rfl := List.eq_nil_of_length_eq_zero (by simpa using h)
    simp [blsA_nil]
  | succ q ih =>
    have hl : s ≤ l.length := by rw [h, Nat.add_mul]; omega
    rw [blsA_cons s hs (l ++ r), blsA_cons s hs l, List.take_append_of_le_length hl, List.drop_append_of_le_length hl, ih (l.drop s) (by rw [List.length_drop, h, Nat.add_mul]; omega), List.append_assoc]
end
end Go.Proofs.Ytiijgokgojjocaa.Srt
