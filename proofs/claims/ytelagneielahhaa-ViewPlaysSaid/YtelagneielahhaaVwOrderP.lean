/- Plain law of ViewOrder: who is in a view does not depend on the order in which those came whose serials are unlike. -/
import Derived.Test.YtelagneielahhaaVwAdd
namespace Go.Proofs.Ytelagneielahhaa

theorem rises_unique {α : Type} : ∀ {l m : List (Int × α)}, Rises l → Rises m → (∀ x, x ∈ l ↔ x ∈ m) → l = m
  | [], [], _, _, _ => rfl
  | [], y :: m, _, _, h => by have := (h y).2 (by simp); simp at this
  | x :: l, [], _, _, h => by have := (h x).1 (by simp); simp at this
  | x :: l, y :: m, hl, hm, h => by
    unfold Rises at hl hm
    obtain ⟨l1, l2⟩ := List.pairwise_cons.1 hl
    obtain ⟨m1, m2⟩ := List.pairwise_cons.1 hm
    have hxy : x = y := by
      rcases List.mem_cons.1 ((h x).1 (by simp)) with e | e
      · exact e
      · rcases List.mem_cons.1 ((h y).2 (by simp)) with e' | e'
        · exact e'.symm
        · have h1 := m1 x e
          have h2 := l1 y e'
          omega
    subst hxy
    have ht : ∀ z, z ∈ l ↔ z ∈ m := fun z => by
      constructor
      · intro hz
        rcases List.mem_cons.1 ((h z).1 (by simp [hz])) with e | e
        · have := l1 z hz; rw [e] at this; omega
        · exact e
      · intro hz
        rcases List.mem_cons.1 ((h z).2 (by simp [hz])) with e | e
        · have := m1 z hz; rw [e] at this; omega
        · exact e
    rw [rises_unique l2 m2 ht]
theorem kget_ext {α : Type} {l m : List (Int × α)} (hl : Rises l) (hm : Rises m) (h : ∀ k, kget l k = kget m k) : l = m := by
  refine rises_unique hl hm (fun ⟨k, v⟩ => ?_)
  constructor
  · intro hx
    have h1 := kget_of_mem hl hx
    rw [h k] at h1
    exact kget_mem h1
  · intro hx
    have h1 := kget_of_mem hm hx
    rw [← h k] at h1
    exact kget_mem h1

/-- Who may be a member at all. -/
def Elig (own : C4) (c : C4) : Prop := Right c ∧ c.1 ≠ own.1
/-- A view behind the adds of l. -/
structure Best (own : C4) (tick : Int) (l : List C4) (m : VM) : Prop where
  rises : Rises m
  len : m.length ≤ l.length
  gone : ∀ k, kget m k = none → ∀ c ∈ l, Elig own c → c.1 ≠ k
  has : ∀ k e, kget m k = some e → e.c ∈ l ∧ Elig own e.c ∧ e = ⟨e.c, false, tick, 0, 0⟩ ∧ e.c.1 = k ∧ ∀ c ∈ l, Elig own c → c.1 = k → c.2.2.2 ≤ e.c.2.2.2
theorem Best.nil (own : C4) (tick : Int) : Best own tick [] [] := ⟨by simp [Rises], by simp, by simp, by simp [kget]⟩
theorem Best.snoc {own : C4} {tick : Int} {l : List C4} {m : VM} (h : Best own tick l m) (hl : l.length < 16) (c : C4) : Best own tick (l ++ [c]) (addR own m c tick).2 := by
  have keep : (∀ c', c' = c → ∀ k, kget m k = none → Elig own c' → c'.1 ≠ k) → (∀ k e, kget m k = some e → Elig own c → c.1 = k → c.2.2.2 ≤ e.c.2.2.2) → Best own tick (l ++ [c]) m := fun h1 h2 =>
    ⟨h.rises, by have := h.len; simp; omega, fun k hk c' hc' he => by
      rcases List.mem_append.1 hc' with hc' | hc'
      · exact h.gone k hk c' hc' he
      · simp at hc'; exact h1 c' hc' k hk he, fun k e hk => by
      obtain ⟨a1, a2, a3, a4, a5⟩ := h.has k e hk
      refine ⟨by simp [a1], a2, a3, a4, fun c' hc' he hk' => ?_⟩
      rcases List.mem_append.1 hc' with hc' | hc'
      · exact a5 c' hc' he hk'
      · simp at hc'; subst hc'; exact h2 k e hk he hk'⟩
  have put : Elig own c → (∀ e, kget m c.1 = some e → e.c.2.2.2 < c.2.2.2) → Best own tick (l ++ [c]) (kput m c.1 ⟨c, false, tick, 0, 0⟩) := fun he hlt => by
    have key : ∀ k, kget (kput m c.1 (⟨c, false, tick, 0, 0⟩ : En)) k = if c.1 = k then some ⟨c, false, tick, 0, 0⟩ else kget m k := fun k => by
      by_cases hk : c.1 = k
      · subst hk; rw [if_pos rfl, kget_kput_same h.rises]
      · rw [if_neg hk, kget_kput_other h.rises (Ne.symm hk)]
    refine ⟨rises_kput h.rises, ?_, fun k hk c' hc' he' => ?_, fun k e hk => ?_⟩
    · have := h.len
      have := @kput_length_le _ m c.1 (⟨c, false, tick, 0, 0⟩ : En)
      simp
      omega
    · rw [key] at hk
      split at hk
      · cases hk
      · rename_i hne
        rcases List.mem_append.1 hc' with hc' | hc'
        · exact h.gone k hk c' hc' he'
        · simp at hc'; subst hc'; exact hne
    · rw [key] at hk
      split at hk
      · rename_i hkk
        injection hk with hk
        subst hk
        refine ⟨by simp, he, rfl, hkk, fun c' hc' he' hk' => ?_⟩
        rcases List.mem_append.1 hc' with hc' | hc'
        · cases hg : kget m c.1 with
          | none => exact absurd (hk'.trans hkk.symm) (h.gone c.1 hg c' hc' he')
          | some e0 =>
            have h1 := (h.has c.1 e0 hg).2.2.2.2 c' hc' he' (hk'.trans hkk.symm)
            have h2 := hlt e0 hg
            show c'.2.2.2 ≤ c.2.2.2
            omega
        · simp at hc'; subst hc'; exact Int.le_refl _
      · rename_i hne
        obtain ⟨a1, a2, a3, a4, a5⟩ := h.has k e hk
        refine ⟨by simp [a1], a2, a3, a4, fun c' hc' he' hk' => ?_⟩
        rcases List.mem_append.1 hc' with hc' | hc'
        · exact a5 c' hc' he' hk'
        · simp at hc'; subst hc'; exact absurd hk' hne
  unfold addR
  by_cases hr : Right c
  · rw [if_neg (fun hh => hh hr)]
    by_cases ho : c.1 = own.1
    · rw [if_pos ho]
      exact keep (fun c' hc' k hk he => by subst hc'; exact absurd ho he.2) (fun k e hk he => absurd ho he.2)
    · rw [if_neg ho]
      cases hg : kget m c.1 with
      | none =>
        simp only
        have hlen := h.len
        rw [if_neg (by omega)]
        exact put ⟨hr, ho⟩ (fun e he => by rw [hg] at he; cases he)
      | some e =>
        simp only
        have same : ∀ k e', kget m k = some e' → c.1 = k → e' = e := fun k e' hk hck => by
          subst hck
          rw [hg] at hk
          injection hk with hk
          exact hk.symm
        by_cases hec : e.c = c
        · rw [if_pos hec]
          refine keep (fun c' hc' k hk he => by subst hc'; intro hck; subst hck; rw [hg] at hk; cases hk) (fun k e' hk _ hck => ?_)
          rw [same k e' hk hck, hec]
          exact Int.le_refl _
        · rw [if_neg hec]
          by_cases hs : c.2.2.2 ≤ e.c.2.2.2
          · rw [if_pos hs]
            refine keep (fun c' hc' k hk he => by subst hc'; intro hck; subst hck; rw [hg] at hk; cases hk) (fun k e' hk _ hck => ?_)
            rw [same k e' hk hck]
            exact hs
          · rw [if_neg hs]
            exact put ⟨hr, ho⟩ (fun e' he' => by rw [hg] at he'; injection he' with he'; subst he'; omega)
  · rw [if_pos hr]
    exact keep (fun c' hc' k hk he => by subst hc'; exact absurd he.1 hr) (fun k e hk he => absurd he.1 hr)
/-- No two of l have both identity and serial alike. -/
def Unlike (l : List C4) : Prop := ∀ i j (hi : i < l.length) (hj : j < l.length), l[i].1 = l[j].1 → l[i].2.2.2 = l[j].2.2.2 → i = j
theorem best_unique {own : C4} {tick : Int} {l l' : List C4} {m m' : VM} (h : Best own tick l m) (h' : Best own tick l' m') (hm : ∀ c, c ∈ l ↔ c ∈ l') (hu : Unlike l) : m = m' := by
  refine kget_ext h.rises h'.rises (fun k => ?_)
  cases h1 : kget m k with
  | none =>
    cases h2 : kget m' k with
    | none => rfl
    | some e =>
      obtain ⟨a1, a2, -, a4, -⟩ := h'.has k e h2
      exact absurd a4 (h.gone k h1 _ ((hm _).2 a1) a2)
  | some e =>
    obtain ⟨a1, a2, a3, a4, a5⟩ := h.has k e h1
    cases h2 : kget m' k with
    | none => exact absurd a4 (h'.gone k h2 _ ((hm _).1 a1) a2)
    | some e' =>
      obtain ⟨b1, b2, b3, b4, b5⟩ := h'.has k e' h2
      have c1 := a5 e'.c ((hm _).2 b1) b2 b4
      have c2 := b5 e.c ((hm _).1 a1) a2 a4
      obtain ⟨i, hi, hie⟩ := List.mem_iff_getElem.1 a1
      obtain ⟨j, hj, hje⟩ := List.mem_iff_getElem.1 ((hm _).2 b1)
      have hij : i = j := hu i j hi hj (by rw [hie, hje, a4, b4]) (by rw [hie, hje]; omega)
      subst hij
      have hc : e.c = e'.c := hie.symm.trans hje
      rw [a3, b3, hc]
/-- All are added, one behind the other. -/
def addAll (own : C4) (tick : Int) (l : List C4) : VM := l.foldl (fun m c => (addR own m c tick).2) []
theorem addAll_snoc (own : C4) (tick : Int) (l : List C4) (c : C4) : addAll own tick (l ++ [c]) = (addR own (addAll own tick l) c tick).2 := by simp [addAll, List.foldl_append]
theorem best_take (own : C4) (tick : Int) (l : List C4) (hl : l.length ≤ 16) : ∀ i, i ≤ l.length → Best own tick (l.take i) (addAll own tick (l.take i))
  | 0, _ => by simpa [addAll] using Best.nil own tick
  | i + 1, hi => by
    rw [List.take_succ_eq_append_getElem (by omega), addAll_snoc]
    exact (best_take own tick l hl i (by omega)).snoc (by rw [List.length_take]; omega) _
theorem order_eq {own : C4} {tick : Int} {l : List C4} (hl : l.length ≤ 16) (hu : Unlike l) : addAll own tick l = addAll own tick l.reverse := by
  have h1 := best_take own tick l hl l.length (Nat.le_refl _)
  have h2 := best_take own tick l.reverse (by simpa using hl) l.length (by simp)
  rw [List.take_length] at h1
  rw [List.take_of_length_le (by simp)] at h2
  exact best_unique h1 h2 (fun c => by simp) hu
theorem umod_range (x m : Int) (h0 : 0 < m) (h1 : m ≤ 9223372036854775807) : 0 ≤ Go.RowKit.wrap64 ((IntKind.u64.wrap x).tmod m) ∧ Go.RowKit.wrap64 ((IntKind.u64.wrap x).tmod m) < m := by
  have h2 : 0 ≤ IntKind.u64.wrap x := by rw [IntKind.wrap_u64]; omega
  have h3 : (IntKind.u64.wrap x).tmod m = IntKind.u64.wrap x % m := Int.tmod_eq_emod_of_nonneg h2
  have h4 := Int.emod_nonneg (IntKind.u64.wrap x) (show m ≠ 0 by omega)
  have h5 := Int.emod_lt_of_pos (IntKind.u64.wrap x) h0
  rw [h3, IntWalk.wrap64_in _ (by omega)]
  omega
/-- What an add leaves is well. -/
theorem addR_ok {own : C4} {m : VM} (h : VOk m) (c : C4) (tick : Int) : VOk (addR own m c tick).2 := by
  unfold addR
  by_cases hr : Right c
  · rw [if_neg (fun hh => hh hr)]
    split
    · exact h
    · split
      · split
        · exact h
        · split
          · exact h
          · exact h.put rfl hr
      · split
        · exact h
        · exact h.put rfl hr
  · rw [if_pos hr]; exact h
end Go.Proofs.Ytelagneielahhaa
