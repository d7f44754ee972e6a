/- Plain law of ViewHolds: who stays. -/
import Derived.Test.YtelagneielahhaaVwOrderP
import Derived.Test.YtelagneielahhaaVwSweep
namespace Go.Proofs.Ytelagneielahhaa

/-- Whoever was a member is one, with his claims or ones of a greater serial. -/
def Stays (m m' : VM) : Prop := m.length ≤ m'.length ∧ ∀ k e, kget m k = some e → ∃ e', kget m' k = some e' ∧ (e'.c = e.c ∨ e.c.2.2.2 < e'.c.2.2.2)
theorem Stays.refl (m : VM) : Stays m m := ⟨Nat.le_refl _, fun _ e h => ⟨e, h, .inl rfl⟩⟩
theorem stays_put {m : VM} (h : Rises m) {k : Int} {e' : En} (hs : ∀ e, kget m k = some e → e'.c = e.c ∨ e.c.2.2.2 < e'.c.2.2.2) : Stays m (kput m k e') := by
  refine ⟨?_, fun k' e he => ?_⟩
  · by_cases hk : kget m k = none
    · rw [kput_length_new hk]; omega
    · rw [kput_length_old h hk]; exact Nat.le_refl _
  · by_cases hkk : k' = k
    · subst hkk
      exact ⟨e', kget_kput_same h, hs e he⟩
    · exact ⟨e, by rw [kget_kput_other h hkk]; exact he, .inl rfl⟩
/-- Since when somebody is in doubt. -/
def SinceOk (m : VM) : Prop := ∀ p ∈ m, 0 ≤ p.2.since ∧ p.2.since ≤ 1073741824
theorem SinceOk.put {m : VM} (h : SinceOk m) {k : Int} {e : En} (he : 0 ≤ e.since ∧ e.since ≤ 1073741824) : SinceOk (kput m k e) := fun p hp => by
  rcases mem_kput.1 hp with rfl | ⟨h1, -⟩
  · exact he
  · exact h p h1
theorem addR_stays {own : C4} {m : VM} (h : Rises m) (hs : SinceOk m) (c : C4) (tick : Int) : Stays m (addR own m c tick).2 ∧ SinceOk (addR own m c tick).2 := by
  unfold addR
  by_cases hr : Right c
  · rw [if_neg (fun hh => hh hr)]
    by_cases ho : c.1 = own.1
    · rw [if_pos ho]; exact ⟨Stays.refl m, hs⟩
    · rw [if_neg ho]
      cases hk : kget m c.1 with
      | none =>
        simp only
        split
        · exact ⟨Stays.refl m, hs⟩
        · exact ⟨stays_put h (fun e he => by rw [hk] at he; cases he), hs.put (by simp)⟩
      | some e =>
        simp only
        split
        · exact ⟨Stays.refl m, hs⟩
        · split
          · exact ⟨Stays.refl m, hs⟩
          · rename_i hlt
            refine ⟨stays_put h (fun e' he => ?_), hs.put (by simp)⟩
            rw [hk] at he
            injection he with he
            subst he
            right
            show e.c.2.2.2 < c.2.2.2
            omega
  · rw [if_pos hr]; exact ⟨Stays.refl m, hs⟩
theorem doubtR_stays {m : VM} (h : Rises m) (hs : SinceOk m) (hok : VOk m) (id tick : Int) (h0 : 0 ≤ tick) (h1 : tick ≤ 1073741824) : Stays m (doubtR m id tick).2 ∧ SinceOk (doubtR m id tick).2 ∧ VOk (doubtR m id tick).2 := by
  unfold doubtR
  cases hk : kget m id with
  | none => exact ⟨Stays.refl m, hs, hok⟩
  | some e =>
    simp only
    have hmem := kget_mem hk
    split
    · exact ⟨Stays.refl m, hs, hok⟩
    · refine ⟨stays_put h (fun e' he => ?_), hs.put ⟨h0, h1⟩, hok.put (hok.key _ hmem) (hok.right _ hmem)⟩
      rw [hk] at he
      injection he with he
      subst he
      exact .inl rfl
theorem rises_at {m : VM} (h : Rises m) {i : Nat} (hi : i + 1 < m.length) : (m[i]'(by omega)).1 < m[i + 1].1 := by
  unfold Rises at h
  rw [List.pairwise_iff_getElem] at h
  exact h i (i + 1) (by omega) hi (by omega)
/-- Nobody who is left is to go. -/
theorem left_stays {m : VM} {p : En → Bool} {q : Int × En} (h : q ∈ m.filter (fun q => !p q.2)) : p q.2 = false := by
  have := (List.mem_filter.1 h).2
  simpa using this
theorem gone_none {m : VM} {p : En → Bool} : suchL p ((m.filter (fun q => !p q.2)).map (·.2)) = [] := by
  unfold suchL
  rw [List.map_eq_nil_iff, List.filter_eq_nil_iff]
  intro e he
  obtain ⟨q, hq, rfl⟩ := List.mem_map.1 he
  simp [left_stays hq]
end Go.Proofs.Ytelagneielahhaa
