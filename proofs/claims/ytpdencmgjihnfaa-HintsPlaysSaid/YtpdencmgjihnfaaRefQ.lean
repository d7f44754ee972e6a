/- Contracts of vigilref11: Known, Drop. -/
import Derived.Test.YtpdencmgjihnfaaLet
import Derived.Lib.MinMax
namespace Go.Proofs.Ytpdencmgjihnfaa
open Go.RowKit Go.ChangeMaps

abbrev TL := List (Int × Int)
@[elab_as_elim] theorem _root_.List.reverseRecOn' {α : Type} {motive : List α → Prop} (l : List α) (nil : motive []) (snoc : ∀ l a, motive l → motive (l ++ [a])) : motive l := by
  rw [← List.reverse_reverse l]
  induction l.reverse with
  | nil => exact nil
  | cons a r ih => rw [List.reverse_cons]; exact snoc _ _ ih
def knownL (T : TL) (s : Int) : Bool := T.any (fun x => x.1 == s)
def lastL (T : TL) (s : Int) : Int := T.foldl (fun a x => if x.1 = s then max a x.2 else a) 0
theorem knownL_snoc (T : TL) (x : Int × Int) (s : Int) : knownL (T ++ [x]) s = (knownL T s || (x.1 == s)) := by
  unfold knownL
  rw [List.any_append]
  simp
theorem lastL_snoc (T : TL) (x : Int × Int) (s : Int) : lastL (T ++ [x]) s = if x.1 = s then max (lastL T s) x.2 else lastL T s := by
  unfold lastL
  rw [List.foldl_append]
  rfl
theorem le_lastL {T : TL} {s p : Int} : ∀ {a : Int}, ((s, p) ∈ T ∨ p ≤ a) → p ≤ T.foldl (fun a x => if x.1 = s then max a x.2 else a) a := by
  induction T with
  | nil => intro a h; simpa using h
  | cons y r ih =>
    intro a h
    rw [List.foldl_cons]
    apply ih
    rcases h with h | h
    · rcases List.mem_cons.1 h with h | h
      · right; rw [← h]; simp; omega
      · exact .inl h
    · right; split <;> omega
theorem lastL_le {T : TL} {s B : Int} : ∀ {a : Int}, (∀ p, (s, p) ∈ T → p ≤ B) → a ≤ B → T.foldl (fun a x => if x.1 = s then max a x.2 else a) a ≤ B := by
  induction T with
  | nil => intro a _ h; simpa using h
  | cons y r ih =>
    intro a h ha
    rw [List.foldl_cons]
    apply ih (fun p hp => h p (List.mem_cons_of_mem _ hp))
    split
    · rename_i he
      have := h y.2 (by rw [← he]; exact List.mem_cons_self ..)
      omega
    · exact ha
theorem lastL_eq {T : TL} {s p0 : Int} (h : (s, p0) ∈ T) (hb : ∀ p, (s, p) ∈ T → p ≤ p0) (h0 : 0 ≤ p0) : lastL T s = p0 := by
  have h1 : p0 ≤ lastL T s := le_lastL (.inl h)
  have h2 : lastL T s ≤ p0 := lastL_le hb h0
  omega
theorem lastL_zero {T : TL} {s : Int} (h : knownL T s = false) : lastL T s = 0 := by
  unfold lastL
  unfold knownL at h
  rw [List.any_eq_false] at h
  have : ∀ a : Int, T.foldl (fun a x => if x.1 = s then max a x.2 else a) a = a := by
    intro a
    induction T generalizing a with
    | nil => rfl
    | cons y r ih =>
      rw [List.foldl_cons, if_neg (by simpa using h y (List.mem_cons_self ..))]
      exact ih (fun x hx => h x (List.mem_cons_of_mem _ hx)) a
  exact this 0
/-- The senders, each once. -/
def dd (l : List Int) : List Int := l.foldl (fun a x => if x ∈ a then a else a ++ [x]) []
theorem dd_snoc (l : List Int) (x : Int) : dd (l ++ [x]) = if x ∈ dd l then dd l else dd l ++ [x] := by
  unfold dd
  rw [List.foldl_append]
  rfl
theorem dd_mem (l : List Int) : ∀ x, x ∈ dd l ↔ x ∈ l := by
  induction l using List.reverseRecOn' with
  | nil => intro x; simp [dd]
  | snoc l y ih =>
    intro x
    rw [dd_snoc]
    split
    · rename_i h
      rw [ih]
      have h' := (ih y).1 h
      constructor
      · intro hx; simp [hx]
      · intro hx
        rcases List.mem_append.1 hx with hx | hx
        · exact hx
        · rw [List.mem_singleton.1 hx]; exact h'
    · rw [List.mem_append, ih, List.mem_append]
theorem dd_nodup (l : List Int) : (dd l).Nodup := by
  induction l using List.reverseRecOn' with
  | nil => simp [dd]
  | snoc l y ih =>
    rw [dd_snoc]
    split
    · exact ih
    · rename_i h
      rw [List.nodup_append]
      refine ⟨ih, by simp, ?_⟩
      intro a ha b hb
      rw [List.mem_singleton.1 hb]
      intro he
      exact h (he ▸ ha)
def cntL (T : TL) : Nat := (dd (T.map (·.1))).length
theorem cntL_snoc (T : TL) (x : Int × Int) : cntL (T ++ [x]) = cntL T + (if T.all (fun y => y.1 != x.1) then 1 else 0) := by
  unfold cntL
  rw [List.map_append, List.map_singleton, dd_snoc]
  by_cases h : x.1 ∈ dd (T.map (·.1))
  · rw [if_pos h]
    rw [dd_mem] at h
    obtain ⟨y, hy, he⟩ := List.mem_map.1 h
    have : T.all (fun y => y.1 != x.1) = false := by
      rw [List.all_eq_false]
      exact ⟨y, hy, by simp [he]⟩
    rw [this]
    rfl
  · rw [if_neg h]
    rw [dd_mem] at h
    have : T.all (fun y => y.1 != x.1) = true := by
      rw [List.all_eq_true]
      intro y hy
      have : y.1 ≠ x.1 := fun he => h (List.mem_map.2 ⟨y, hy, he⟩)
      simpa using this
    rw [this]
    simp
theorem cntL_le (T : TL) : cntL T ≤ T.length := by
  induction T using List.reverseRecOn' with
  | nil => simp [cntL, dd]
  | snoc l y ih =>
    rw [cntL_snoc, List.length_append]
    split <;> simp <;> omega

set_option maxRecDepth 100000 in
set_option maxHeartbeats 1000000 in
theorem knownT_c (A : Option Addr) (n c : Nat) (l : TL) (s : Int) (w : World) (hx : Sl w A (tcs l)) (hn : l.length = n) (hl : n ≤ 1000000) :
    Calls Try.prog 18 #[.slice A n c, .int .i64 s] w fun e w' => e = .returned (.tuple #[.bool (knownL l s), .int .i64 (lastL l s)]) ∧ w' = w := by
  have HN := Lib.hid hn
  clear hn
  go_enter Try.func18, Try.ntmps18
  go_wp2_with fail
  go_loop [6, 7, 8] (fun b x i => ∃ k : Nat, k ≤ n ∧ i = .int .i64 k ∧ b = .bool (knownL (l.take k) s) ∧ x = .int .i64 (lastL (l.take k) s)) (fun _ _ i => n - (intOf i).toNat)
  case atStart => exact ⟨0, Nat.zero_le _, rfl, rfl, rfl⟩
  case round =>
    obtain ⟨k, hk, rfl, rfl, rfl⟩ := hrel
    have i0 : (0 : Int) ≤ (k : Int) := Int.natCast_nonneg _
    by_cases hlt : k < n
    · have kx : k < l.length := by rw [HN.out]; exact hlt
      obtain ⟨b1, o1, rfl, l1, c0, c1⟩ := tcs_at hx kx
      have i1 : (k : Int) < (n : Int) := by omega
      have s1 := knownL_snoc (l.take k) l[k] s
      have s2 := lastL_snoc (l.take k) l[k] s
      rw [← List.take_succ_eq_append_getElem kx] at s1 s2
      generalize knownL (l.take k) s = kb at *
      generalize lastL (l.take k) s = kp at *
      generalize l[k] = x at *
      obtain ⟨x1, x2⟩ := x
      simp only at c0 c1 s1 s2
      by_cases a1 : x1 = s
      · have a1' : (x1 == s) = true := by simpa using a1
        rw [a1'] at s1
        rw [if_pos a1] at s2
        have S1 := Lib.hid s1
        have S2 := Lib.hid s2
        clear a1 s1 s2
        go_wp2_with fail
        go_round
        case rel => exact ⟨k + 1, by omega, by go_num, by rw [S1.out]; simp, by rw [S2.out]⟩
        case measure => simp [intOf]; omega
      · have a1' : (x1 == s) = false := by simpa using a1
        rw [a1'] at s1
        rw [if_neg a1] at s2
        have S1 := Lib.hid s1
        have S2 := Lib.hid s2
        clear a1 s1 s2
        go_wp2_with fail
        go_round
        case rel => exact ⟨k + 1, by omega, by go_num, by rw [S1.out]; simp, by rw [S2.out]⟩
        case measure => simp [intOf]; omega
    · obtain rfl : k = n := by omega
      have i1 : ¬ (k : Int) < (k : Int) := by omega
      have ht : l.take k = l := List.take_of_length_le (by rw [HN.out]; exact Nat.le_refl _)
      rw [ht]
      clear ht
      go_wp2_with fail
      go_ret2
      exact ⟨by simp, rfl⟩

set_option maxRecDepth 100000 in
set_option maxHeartbeats 1000000 in
theorem dropT_c (A : Option Addr) (n c : Nat) (l : TL) (s : Int) (w : World) (hx : Sl w A (tcs l)) (hn : l.length = n) (hl : n ≤ 1000000) :
    Calls Try.prog 20 #[.slice A n c, .int .i64 s] w fun e w' => ∃ D nd cd, e = .returned (.slice D nd cd) ∧ w'.ownsRow w.heap.size 41 2 (.slice D nd cd) nd (tcs (l.filter (fun x => x.1 != s))) ∧ Turn [] w w' := by
  have HN := Lib.hid hn
  clear hn
  go_enter Try.func20, Try.ntmps20
  go_wp2_with fail
  go_loopw [5, 6] (fun out i wr => ∃ k : Nat, k ≤ n ∧ i = .int .i64 k ∧ ∃ D nd cd, out = .slice D nd cd ∧ nd ≤ k ∧ wr.ownsRow w.heap.size 41 2 (.slice D nd cd) nd (tcs ((l.take k).filter (fun x => x.1 != s))) ∧ Turn [] w wr) (fun _ i _ => n - (intOf i).toNat)
  case atStart => exact ⟨0, Nat.zero_le _, rfl, none, 0, 0, rfl, by omega, World.ownsRow_nil _ _ _ _, Turn.refl _ _⟩
  case round =>
    obtain ⟨k, hk, rfl, D, nd, cd, rfl, hnd, ho, hT⟩ := hrel
    have i0 : (0 : Int) ≤ (k : Int) := Int.natCast_nonneg _
    by_cases hlt : k < n
    · have kx : k < l.length := by rw [HN.out]; exact hlt
      have i1 : (k : Int) < (n : Int) := by omega
      obtain ⟨b1, o1, rfl, l1, c0, c1⟩ := tcs_at (hx.turn0 hT) kx
      have hst : Hid ((l.take (k + 1)).filter (fun x => x.1 != s) = (l.take k).filter (fun x => x.1 != s) ++ (if l[k].1 = s then [] else [l[k]])) := by
        show _ = _
        rw [List.take_succ_eq_append_getElem kx, List.filter_append]
        congr 1
        by_cases h : l[k].1 = s <;> simp [h]
      have hD := own_ltA ho
      have hzz := hT.size
      by_cases he : l[k].1 = s
      · have he' : (l[k].1 == s) = true := by simpa using he
        have he2 : (l[k].1 != s) = false := by simpa using he
        have hv : Hid ((l.take (k + 1)).filter (fun x => x.1 != s) = (l.take k).filter (fun x => x.1 != s)) := by show _ = _; rw [hst.out, if_pos he, List.append_nil]
        clear he
        generalize l[k] = x at *
        go_wp2_with fail
        go_roundw
        case rel => exact ⟨k + 1, by omega, by go_num, D, nd, cd, rfl, by omega, by rw [hv.out]; exact ho, hT⟩
        case measure => simp [intOf]; omega
      · have he' : (l[k].1 == s) = false := by simpa using he
        have he2 : (l[k].1 != s) = true := by simpa using he
        have hv : Hid ((l.take (k + 1)).filter (fun x => x.1 != s) = (l.take k).filter (fun x => x.1 != s) ++ [l[k]]) := by show _ = _; rw [hst.out, if_neg he]
        clear he
        generalize l[k] = x at *
        obtain ⟨x1, x2⟩ := x
        simp only at c0 c1 he' he2
        go_wp2_with (at_builtin; go_must (refine wpList_append_sl elemT rfl _ _ rfl D nd cd _ rfl (ho.alloc _) (some ⟨wr.heap.size, 0, none⟩) 1 1 [.int .i64 x1, .int .i64 x2] rfl (Sl.new _ #[.int .i64 x1, .int .i64 x2] _) (by simp) (by simp [Value.oneCell']) (by omega) (by omega) (by simp; omega) ?_); intro D2 cd2 w3 own3 hg3 hlie3)
        go_roundw
        case rel => exact ⟨k + 1, by omega, by go_num, D2, nd + 1, cd2, rfl, by omega, by rw [hv.out, tcs_append]; exact own3, (hT.alloc _).andThen (grown_turn hg3) (fun i hi => .inr (hD i hi).2)⟩
        case measure => simp [intOf]; omega
    · obtain rfl : k = n := by omega
      have i1 : ¬ (k : Int) < (k : Int) := by omega
      rw [List.take_of_length_le (by rw [HN.out]; exact Nat.le_refl _)] at ho
      go_wp2_with fail
      go_ret
      exact ⟨D, nd, cd, by simp, ho, hT⟩

end Go.Proofs.Ytpdencmgjihnfaa
