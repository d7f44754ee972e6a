/- What Send does: plain law and relations. -/
import Derived.Test.YtiijgokgojjocaaNetFates
namespace Go.Proofs.Ytiijgokgojjocaa
open Go.RowKit Go.ChangeMaps Go.WideMaps Go.MapKept Go.WideShapes

/-- A letter: to whom, and where its bytes lie. -/
structure Lt where
  dst : Int
  B : Option Addr
  nb : Nat
  c : Nat
  xs : List Int
def lcell (l : Lt) : List Value := [.int .i64 l.dst, .slice l.B l.nb l.c]
def lcs : List Lt → List Value
  | [] => []
  | l :: ls => lcell l ++ lcs ls
theorem lcs_len : ∀ l : List Lt, (lcs l).length = l.length * 2
  | [] => rfl
  | m :: l => by rw [lcs, List.length_append, lcs_len l]; simp [lcell]; omega
theorem lcs_append : ∀ a b : List Lt, lcs (a ++ b) = lcs a ++ lcs b
  | [], b => rfl
  | m :: a, b => by rw [List.cons_append, lcs, lcs, lcs_append a b, List.append_assoc]
theorem lcs_get : ∀ (ls : List Lt) (k : Nat) (hk : k < ls.length) (i : Nat), i < 2 → (lcs ls)[k * 2 + i]? = (lcell ls[k])[i]?
  | [], k, hk, i, hi => by simp at hk
  | m :: l, 0, hk, i, hi => by
    rw [lcs, List.getElem?_append_left (by simp [lcell]; omega)]
    simp
  | m :: l, k + 1, hk, i, hi => by
    rw [lcs, List.getElem?_append_right (by simp [lcell]; omega)]
    have e : (k + 1) * 2 + i - (lcell m).length = k * 2 + i := by simp [lcell]; omega
    rw [e, lcs_get l k (by simpa using hk) i hi]
    simp
theorem lcs_at {w : World} {L : Option Addr} {ls : List Lt} (h : Sl w L (lcs ls)) {k : Nat} (hk : k < ls.length) :
    ∃ b off, L = some ⟨b, off, none⟩ ∧ b < w.heap.size ∧ w.cell? ⟨b, off + k * 2, none⟩ = some (.int .i64 ls[k].dst) ∧ w.cell? ⟨b, off + k * 2 + 1, none⟩ = some (.slice ls[k].B ls[k].nb ls[k].c) := by
  obtain ⟨b, off, hA, hlt, hc⟩ := h (by rw [lcs_len]; omega)
  refine ⟨b, off, hA, hlt, ?_, ?_⟩
  · have := hc (k * 2 + 0) _ (lcs_get ls k hk 0 (by omega))
    simpa using this
  · have := hc (k * 2 + 1) _ (lcs_get ls k hk 1 (by omega))
    rw [← Nat.add_assoc] at this
    exact this
/-- One letter more: who is on the way, the draws' state, how many were lost. -/
def sendStep (cut : List (Int × Int)) (r : Rl) (tick fr : Int) (n0 : Nat) (st : List PMl × Int × Nat) (l : Lt) : List PMl × Int × Nat :=
  let f := fate cut r st.2.1 tick fr l.dst l.xs
  let acc := f.1.take (2048 - (n0 + st.1.length))
  (st.1 ++ acc, f.2, st.2.2 + if acc = [] then 1 else 0)
def sendAll (cut : List (Int × Int)) (r : Rl) (tick fr : Int) (n0 : Nat) (s : Int) (ls : List Lt) : List PMl × Int × Nat := ls.foldl (sendStep cut r tick fr n0) ([], s, 0)
theorem sendAll_snoc (cut : List (Int × Int)) (r : Rl) (tick fr : Int) (n0 : Nat) (s : Int) (ls : List Lt) {j : Nat} (hj : j < ls.length) : sendAll cut r tick fr n0 s (ls.take (j + 1)) = sendStep cut r tick fr n0 (sendAll cut r tick fr n0 s (ls.take j)) ls[j] := by
  unfold sendAll
  rw [List.take_succ_eq_append_getElem hj, List.foldl_append]
  rfl

/-- Letters lie there, apart from what a net writes. -/
structure LtOk (w : World) (g d : Nat) (A : Option Addr) (L : Option Addr) (ls : List Lt) : Prop where
  sl : Sl w L (lcs ls)
  offL : ls ≠ [] → ∀ i ∈ blks L, i ≠ g ∧ i ≠ d ∧ i ∉ blks A
  ok : ∀ l ∈ ls, Sl w l.B (u8s l.xs) ∧ l.xs.length = l.nb ∧ l.nb ≤ 1000000 ∧ wf64 l.dst ∧ (l.xs ≠ [] → ∀ i ∈ blks l.B, i ≠ g ∧ i ≠ d ∧ i ∉ blks A)
theorem LtOk.turn {w w' : World} {g d : Nat} {A L : Option Addr} {ls : List Lt} (h : LtOk w g d A L ls) (hT : Turn (g :: d :: blks A) w w') : LtOk w' g d A L ls := by
  refine ⟨?_, h.offL, fun l hl => ⟨?_, (h.ok l hl).2⟩⟩
  · by_cases hn : ls = []
    · subst hn; exact Sl.nil _ _
    · exact h.sl.turn hT (off_blks (fun i hi => by have := h.offL hn i hi; simp; exact this))
  · exact (h.ok l hl).1.turnP hT (fun hne i hi => by
      have := (h.ok l hl).2.2.2.2 (fun e => hne (by rw [e]; rfl)) i hi
      simp; exact this)

section
variable {w wr wi wf : World} {g d cb kb : Nat} {s s' : Int} {r : Rl} {cut : List (Int × Int)} {came : List ((Int × Int) × Int)} {base : Nat} {A : Option Addr} {n cap : Nat} {ms : List Ml} {sent lost told : Int}
/-- Where Send stands behind j letters. -/
def SRel (w : World) (g d cb kb : Nat) (s : Int) (r : Rl) (cut : List (Int × Int)) (came : List ((Int × Int) × Int)) (base : Nat) (A : Option Addr) (n : Nat) (ms : List Ml) (sent lost told tick fr : Int) (ls : List Lt) (j : Nat) (ms' : List Ml) (wr : World) : Prop :=
  ∃ A' cap', NetIs wr g d cb kb (sendAll cut r tick fr n s (ls.take j)).2.1 r cut came base A' (n + ms'.length) cap' (ms ++ ms') (sent + j) (lost + (sendAll cut r tick fr n s (ls.take j)).2.2) told ∧ ms'.map Ml.pure = (sendAll cut r tick fr n s (ls.take j)).1 ∧
    Turn (g :: d :: blks A) w wr ∧ (∀ i ∈ blks A', i ∈ blks A ∨ w.heap.size ≤ i) ∧ ∀ m ∈ ms', ∀ i ∈ blks m.A, w.heap.size ≤ i
/-- Where the mails of one letter stand behind i of them: p are put. -/
def PRel (wf : World) (g d cb kb : Nat) (s : Int) (r : Rl) (cut : List (Int × Int)) (came : List ((Int × Int) × Int)) (base : Nat) (A : Option Addr) (n : Nat) (ms fs : List Ml) (sent lost told : Int) (i : Nat) (wi : World) : Prop :=
  ∃ A' cap', NetIs wi g d cb kb s r cut came base A' (n + (fs.take (min i (2048 - n))).length) cap' (ms ++ fs.take (min i (2048 - n))) sent lost told ∧ Turn (g :: blks A) wf wi ∧ ∀ i ∈ blks A', i ∈ blks A ∨ wf.heap.size ≤ i
theorem PRel.step {O : Option Addr} {co b0 : Nat} {fs : List Ml} {i : Nat} (_hF : FrIs wf b0 O co fs) (_hb0 : base ≤ b0) (_hA : ∀ k ∈ blks A, k < b0) (hi : i < fs.length) (hn : n ≤ 2048)
    {A' : Option Addr} {cap' : Nat} (_N : NetIs wi g d cb kb s r cut came base A' (n + (fs.take (min i (2048 - n))).length) cap' (ms ++ fs.take (min i (2048 - n))) sent lost told) (hT : Turn (g :: blks A) wf wi) (hA' : ∀ k ∈ blks A', k ∈ blks A ∨ wf.heap.size ≤ k)
    {w2 w3 : World} (hT2 : Turn [] wi w2) {e : Ending} (hp : Putted w2 g d cb kb s r cut came base A' (n + (fs.take (min i (2048 - n))).length) (ms ++ fs.take (min i (2048 - n))) fs[i] sent lost told e w3) (hN2 : ∀ {w4}, Turn [] w2 w4 → NetIs w4 g d cb kb s r cut came base A' (n + (fs.take (min i (2048 - n))).length) cap' (ms ++ fs.take (min i (2048 - n))) sent lost told) :
    e = .returned (.bool (decide (i < 2048 - n))) ∧ PRel wf g d cb kb s r cut came base A n ms fs sent lost told (i + 1) w3 := by
  have hz := hT.size
  have hz2 := hT2.size
  rcases hp with ⟨h1, h2, h3⟩ | ⟨h1, A2, cap2, h2, h3, h4, h5⟩
  · rw [List.length_take] at h1
    have e1 : min (i + 1) (2048 - n) = min i (2048 - n) := by omega
    have e2 : decide (i < 2048 - n) = false := by simp; omega
    refine ⟨by rw [h2, e2], A', cap', ?_, (hT.trans (hT2.mono (by simp))).trans (h3.mono (by simp)), hA'⟩
    rw [e1]
    exact hN2 h3
  · rw [List.length_take] at h1
    have e0 : min i (2048 - n) = i := by omega
    have e1 : min (i + 1) (2048 - n) = i + 1 := by omega
    have e2 : decide (i < 2048 - n) = true := by simp; omega
    refine ⟨by rw [h2, e2], A2, cap2, ?_, (hT.trans (hT2.mono (by simp))).andThen h4 ?_, ?_⟩
    · have e3 : (List.take i fs).length = i := by rw [List.length_take]; omega
      have e4 : (List.take (i + 1) fs).length = i + 1 := by rw [List.length_take]; omega
      rw [e0, e3] at h3
      rw [e1, e4, List.take_succ_eq_append_getElem hi, ← List.append_assoc, ← Nat.add_assoc]
      exact h3
    · intro k hk
      simp at hk
      rcases hk with hk | hk
      · exact .inl (by simp [hk])
      · rcases hA' k hk with h6 | h6
        · exact .inl (by simp [h6])
        · exact .inr h6
    · intro k hk
      rcases h5 k hk with h6 | h6
      · exact hA' k h6
      · exact .inr (by omega)
theorem SRel.next {w1 w6 : World} {A1 A2 : Option Addr} {cap2 : Nat} {tick fr sj s3 lost' : Int} {ls : List Lt} {l : Lt} {j lc : Nat} {al fl : List PMl} {ms' fs : List Ml} (hpu : ms'.map Ml.pure = al) (hfp : fs.map Ml.pure = fl)
    (SN : sendAll cut r tick fr n s (ls.take (j + 1)) = sendStep cut r tick fr n (al, sj, lc) l) (hfa : fate cut r sj tick fr l.dst l.xs = (fl, s3))
    (N : NetIs w6 g d cb kb s3 r cut came base A2 ((n + ms'.length) + (fs.take (min fs.length (2048 - (n + ms'.length)))).length) cap2 ((ms ++ ms') ++ fs.take (min fs.length (2048 - (n + ms'.length)))) (sent + (j : Int) + 1) lost' told)
    (hlost : lost' = lost + (lc : Int) + if min fs.length (2048 - (n + ms'.length)) = 0 then 1 else 0) (T1 : Turn (g :: d :: blks A) w w1) (hA1 : ∀ i ∈ blks A1, i ∈ blks A ∨ w.heap.size ≤ i) (T16 : Turn (g :: d :: blks A1) w1 w6) (hA2 : ∀ i ∈ blks A2, i ∈ blks A1 ∨ w1.heap.size ≤ i)
    (hnew : ∀ m ∈ ms', ∀ i ∈ blks m.A, w.heap.size ≤ i) (hfn : ∀ m ∈ fs, ∀ i ∈ blks m.A, w.heap.size ≤ i) :
    SRel w g d cb kb s r cut came base A n ms sent lost told tick fr ls (j + 1) (ms' ++ fs.take (min fs.length (2048 - (n + ms'.length)))) w6 := by
  subst hpu
  subst hfp
  have hst : sendStep cut r tick fr n (ms'.map Ml.pure, sj, lc) l = ((ms' ++ fs.take (min fs.length (2048 - (n + ms'.length)))).map Ml.pure, s3, lc + if min fs.length (2048 - (n + ms'.length)) = 0 then 1 else 0) := by
    have e1 : List.take (2048 - (n + (ms'.map Ml.pure).length)) (fs.map Ml.pure) = (fs.take (min fs.length (2048 - (n + ms'.length)))).map Ml.pure := by
      rw [List.length_map, List.map_take]
      apply List.take_eq_take_iff.2
      simp
      omega
    unfold sendStep
    simp only [hfa, e1, List.map_append]
    congr 3
    by_cases h0 : min fs.length (2048 - (n + ms'.length)) = 0
    · simp [h0]
    · have : ¬ (fs.take (min fs.length (2048 - (n + ms'.length)))).map Ml.pure = [] := fun e => by
        have h1 := congrArg List.length e
        rw [List.length_map, List.length_take] at h1
        simp only [List.length_nil] at h1
        omega
      rw [if_neg this, if_neg h0]
  have hz := T1.size
  refine ⟨A2, cap2, ?_, by rw [SN, hst], T1.andThen T16 ?_, ?_, fun m hm i hi => ?_⟩
  · rw [SN, hst]
    have e1 : n + (ms' ++ fs.take (min fs.length (2048 - (n + ms'.length)))).length = (n + ms'.length) + (fs.take (min fs.length (2048 - (n + ms'.length)))).length := by rw [List.length_append]; omega
    have e2 : sent + ((j + 1 : Nat) : Int) = sent + (j : Int) + 1 := by omega
    have e3 : lost + ((lc + if min fs.length (2048 - (n + ms'.length)) = 0 then 1 else 0 : Nat) : Int) = lost' := by rw [hlost]; split <;> omega
    simp only [e2, e3]
    rw [e1, ← List.append_assoc]
    exact N
  · intro i hi
    simp at hi
    rcases hi with hi | hi | hi
    · simp [hi]
    · simp [hi]
    · rcases hA1 i hi with h1 | h1
      · simp [h1]
      · exact .inr h1
  · intro i hi
    rcases hA2 i hi with h1 | h1
    · exact hA1 i h1
    · exact .inr (by omega)
  · rcases List.mem_append.1 hm with hm | hm
    · exact hnew m hm i hi
    · exact hfn m (List.mem_of_mem_take hm) i hi
theorem fate_len (cut : List (Int × Int)) (r : Rl) (s tick fr dst : Int) (xs : List Int) : (fate cut r s tick fr dst xs).1.length ≤ 2 := by
  have hb : ∀ (l : List PMl) ys, (bendLast l ys).length = l.length := by
    intro l ys
    rcases List.eq_nil_or_concat l with rfl | ⟨l', m, rfl⟩
    · rfl
    · simp [bendLast_snoc]
  have ht : tmOf r s ≤ 2 := by unfold tmOf; split <;> omega
  unfold fate
  split
  · simp
  · split
    · simp
    · simp only
      split
      · simp only [hb, lates_len]; exact ht
      · rw [lates_len]; exact ht
end
end Go.Proofs.Ytiijgokgojjocaa
