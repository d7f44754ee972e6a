/- Plain lemmas on lists of entries that rise by their keys. -/
import Derived.Test.YtiijgokgojjocaaKit
namespace Go.Proofs.Ytiijgokgojjocaa

section
variable {α : Type} {m : List (Int × α)} {k k' : Int} {v : α} {x : Int × α}

theorem mem_kins {y : Int × α} : ∀ {m : List (Int × α)}, y ∈ kins x m ↔ y = x ∨ y ∈ m
  | [] => by simp [kins]
  | z :: r => by
    unfold kins
    split
    · simp
    · simp only [List.mem_cons, mem_kins (m := r)]
      constructor
      · rintro (h | h | h)
        · exact .inr (.inl h)
        · exact .inl h
        · exact .inr (.inr h)
      · rintro (h | h | h)
        · exact .inr (.inl h)
        · exact .inl h
        · exact .inr (.inr h)
theorem kins_length : ∀ {m : List (Int × α)}, (kins x m).length = m.length + 1
  | [] => rfl
  | z :: r => by
    unfold kins
    split
    · rfl
    · simp [kins_length (m := r)]
theorem mem_kput {y : Int × α} : y ∈ kput m k v ↔ y = (k, v) ∨ (y ∈ m ∧ y.1 ≠ k) := by
  unfold kput
  rw [mem_kins, List.mem_filter]
  simp
theorem mem_kdel {y : Int × α} : y ∈ kdel m k ↔ y ∈ m ∧ y.1 ≠ k := by
  unfold kdel
  rw [List.mem_filter]
  simp
theorem rises_kdel (h : Rises m) : Rises (kdel m k) := List.Pairwise.filter _ h
theorem rises_kins : ∀ {m : List (Int × α)}, Rises m → (∀ y ∈ m, y.1 ≠ x.1) → Rises (kins x m)
  | [], _, _ => by simp [kins, Rises]
  | z :: r, h, hn => by
    unfold Rises at h ⊢
    obtain ⟨h1, h2⟩ := List.pairwise_cons.1 h
    unfold kins
    split
    · rename_i hlt
      refine List.pairwise_cons.2 ⟨fun y hy => ?_, h⟩
      rcases List.mem_cons.1 hy with rfl | hy
      · exact hlt
      · have := h1 y hy
        omega
    · rename_i hlt
      have hne := hn z (by simp)
      refine List.pairwise_cons.2 ⟨fun y hy => ?_, rises_kins h2 (fun y hy => hn y (by simp [hy]))⟩
      rcases mem_kins.1 hy with rfl | hy
      · omega
      · exact h1 y hy
theorem rises_kput (h : Rises m) : Rises (kput m k v) := rises_kins (rises_kdel (k := k) h) (fun _ hy => (mem_kdel.1 hy).2)

theorem kget_none : kget m k = none ↔ ∀ y ∈ m, y.1 ≠ k := by
  unfold kget
  simp
theorem kget_mem {v : α} (h : kget m k = some v) : (k, v) ∈ m := by
  unfold kget at h
  obtain ⟨y, hy, rfl⟩ := Option.map_eq_some_iff.1 h
  have h1 := List.find?_some hy
  have h2 := List.mem_of_find?_eq_some hy
  simp at h1
  subst h1
  exact h2
theorem kget_of_mem (h : Rises m) (hm : (k, v) ∈ m) : kget m k = some v := by
  induction m with
  | nil => simp at hm
  | cons y r ih =>
    unfold Rises at h
    obtain ⟨h1, h2⟩ := List.pairwise_cons.1 h
    rcases List.mem_cons.1 hm with rfl | hm
    · simp [kget]
    · have hlt := h1 _ hm
      have := ih h2 hm
      unfold kget at this ⊢
      rw [List.find?_cons]
      have : (y.1 == k) = false := by simp; omega
      rw [this]
      assumption
theorem kget_kput_same (h : Rises m) : kget (kput m k v) k = some v := kget_of_mem (rises_kput h) (mem_kput.2 (.inl rfl))
theorem kget_kput_other (h : Rises m) (hne : k' ≠ k) : kget (kput m k v) k' = kget m k' := by
  cases hx : kget m k' with
  | none => exact kget_none.2 (fun y hy => by
      rcases mem_kput.1 hy with rfl | ⟨hy, _⟩
      · exact Ne.symm hne
      · exact kget_none.1 hx y hy)
  | some u => exact kget_of_mem (rises_kput h) (mem_kput.2 (.inr ⟨kget_mem hx, hne⟩))
theorem kget_kdel_same : kget (kdel m k) k = none := kget_none.2 (fun _ hy => (mem_kdel.1 hy).2)
theorem kget_kdel_other (h : Rises m) (hne : k' ≠ k) : kget (kdel m k) k' = kget m k' := by
  cases hx : kget m k' with
  | none => exact kget_none.2 (fun y hy => kget_none.1 hx y (mem_kdel.1 hy).1)
  | some u => exact kget_of_mem (rises_kdel h) (mem_kdel.2 ⟨kget_mem hx, hne⟩)
theorem kdel_absent (h : kget m k = none) : kdel m k = m := by
  unfold kdel
  rw [List.filter_eq_self]
  intro y hy
  simpa using kget_none.1 h y hy
theorem kput_length_new (h : kget m k = none) : (kput m k v).length = m.length + 1 := by
  have := kdel_absent h
  unfold kdel at this
  unfold kput
  rw [kins_length, this]
theorem kdel_length (h : Rises m) (hx : kget m k ≠ none) : (kdel m k).length + 1 = m.length := by
  induction m with
  | nil => simp [kget] at hx
  | cons y r ih =>
    unfold Rises at h
    obtain ⟨h1, h2⟩ := List.pairwise_cons.1 h
    unfold kdel at ih ⊢
    by_cases hy : y.1 = k
    · have : r.filter (fun p => p.1 != k) = r := by
        rw [List.filter_eq_self]
        intro z hz
        have := h1 z hz
        simp
        omega
      simp [hy, this]
    · have hx' : kget r k ≠ none := by
        intro h0
        apply hx
        rw [kget_none] at h0 ⊢
        intro z hz
        rcases List.mem_cons.1 hz with rfl | hz
        · exact hy
        · exact h0 z hz
      have := ih h2 hx'
      simp [hy]
      omega
theorem kput_length_old (h : Rises m) (hx : kget m k ≠ none) : (kput m k v).length = m.length := by
  have := kdel_length h hx
  unfold kdel at this
  unfold kput
  rw [kins_length]
  exact this
theorem kput_length_le : (kput m k v).length ≤ m.length + 1 := by
  unfold kput
  rw [kins_length]
  have := List.length_filter_le (fun p : Int × α => p.1 != k) m
  omega
end
end Go.Proofs.Ytiijgokgojjocaa
