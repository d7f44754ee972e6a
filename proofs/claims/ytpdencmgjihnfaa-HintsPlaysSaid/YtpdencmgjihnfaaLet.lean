/- What is let, told by a list of takes and by the map of a Quotas (plain). -/
import Derived.Test.YtpdencmgjihnfaaTimes
namespace Go.Proofs.Ytpdencmgjihnfaa
open Go.RowKit Go.ChangeMaps

/-- The list of takes says as much as the map does. -/
def LetOk (times : Int) (m : QM) (T : List (Int × Int)) : Prop :=
  ∀ s, (kget m s = none → ∀ p, timesL T s p = 0) ∧ ∀ p0 n0, kget m s = some (p0, n0) → (timesL T s p0 : Int) = n0 ∧ (∀ p, p0 < p → timesL T s p = 0) ∧ ∀ p, (timesL T s p : Int) ≤ times
theorem LetOk.nil (times : Int) : LetOk times [] [] := fun s => ⟨fun _ p => rfl, fun p0 n0 h => by simp [kget] at h⟩
theorem LetOk.le {times : Int} {m : QM} {T : List (Int × Int)} (h : LetOk times m T) (ht : 1 ≤ times) (s p : Int) : (timesL T s p : Int) ≤ times := by
  cases hk : kget m s with
  | none => rw [(h s).1 hk p]; simp; omega
  | some x => exact ((h s).2 x.1 x.2 hk).2.2 p
theorem timesL_snoc (T : List (Int × Int)) (s p s' p' : Int) : timesL (T ++ [(s', p')]) s p = timesL T s p + (if s' = s ∧ p' = p then 1 else 0) := by
  unfold timesL
  rw [List.countP_append]
  congr 1
  simp [List.countP_cons]
theorem LetOk.take {times s t : Int} {m : QM} {T : List (Int × Int)} (hq : QOk times m) (h : LetOk times m T) (h0 : (qtake m times s t).1 = 0) : LetOk times (qtake m times s t).2 (T ++ [(s, t / 32)]) := by
  have ht := hq.t0
  unfold qtake at h0 ⊢
  split at h0
  · rename_i hb
    exact absurd h0 hb
  rename_i hb
  rw [if_neg hb]
  split at h0
  · simp at h0
  rename_i hn
  rw [if_neg hn]
  split at h0
  · simp at h0
  rename_i hf
  rw [if_neg hf]
  have hb' : (qlook m s t).2 = 0 := by simpa using hb
  have hl : ∀ x : Int × Int, (kget m s).getD (0, 0) = x → 0 ≤ t ∧ x.1 ≤ t / 32 ∧ (qlook m s t).1 = (t / 32, atN x.1 x.2 (t / 32)) := by
    intro x hx
    unfold qlook at hb' ⊢
    rw [hx] at hb' ⊢
    split at hb'
    · simp at hb'
    split at hb'
    · simp at hb'
    rename_i g1 g2
    rw [if_neg g1, if_neg g2]
    refine ⟨by omega, by omega, ?_⟩
    simp only [atP]
    rw [Int.max_eq_right (by omega)]
  intro s'
  by_cases hs : s' = s
  · subst hs
    refine ⟨fun hk => ?_, fun p0 n0 hk => ?_⟩
    · rw [kget_kput_same hq.rises] at hk
      cases hk
    · rw [kget_kput_same hq.rises] at hk
      cases hk
      cases hkm : kget m s' with
      | none =>
        obtain ⟨g0, g1, g2⟩ := hl (0, 0) (by rw [hkm]; rfl)
        have hz := (h s').1 hkm
        rw [g2] at hn ⊢
        simp only at hn ⊢
        have hN : atN 0 0 (t / 32) = 0 := by unfold atN; split <;> rfl
        rw [hN] at hn ⊢
        refine ⟨?_, fun p hp => ?_, fun p => ?_⟩
        · rw [timesL_snoc, hz]; simp
        · rw [timesL_snoc, hz]; simp; omega
        · rw [timesL_snoc, hz]; split <;> simp <;> omega
      | some x =>
        obtain ⟨g0, g1, g2⟩ := hl x (by rw [hkm]; rfl)
        obtain ⟨z1, z2, z3⟩ := (h s').2 x.1 x.2 hkm
        rw [g2] at hn ⊢
        simp only at hn ⊢
        have hN : atN x.1 x.2 (t / 32) = timesL T s' (t / 32) := by
          unfold atN
          split
          · rename_i hlt
            rw [z2 _ hlt]
            rfl
          · have : t / 32 = x.1 := by omega
            rw [this, z1]
        rw [hN] at hn ⊢
        refine ⟨?_, fun p hp => ?_, fun p => ?_⟩
        · rw [timesL_snoc]; simp
        · rw [timesL_snoc, z2 p (by omega)]; simp; omega
        · rw [timesL_snoc]
          have := z3 p
          split
          · rename_i hh
            rw [← hh.2]
            omega
          · omega
  · have e : ∀ p, timesL (T ++ [(s, t / 32)]) s' p = timesL T s' p := fun p => by
      rw [timesL_snoc, if_neg (fun hh => hs hh.1.symm)]
      rfl
    rw [kget_kput_other hq.rises hs]
    simp only [e]
    exact h s'

theorem qtake_same {times s t : Int} {m : QM} (h : (qtake m times s t).1 ≠ 0) : (qtake m times s t).2 = m := by
  unfold qtake at h ⊢
  split
  · rfl
  · split
    · rfl
    · split
      · rfl
      · rename_i h1 h2 h3
        rw [if_neg h1, if_neg h2, if_neg h3] at h
        simp at h
theorem qtake_keys {times s t : Int} {m : QM} {x : Int} (h : x ∈ m.map (·.1)) : x ∈ (qtake m times s t).2.map (·.1) := by
  unfold qtake
  split
  · exact h
  · split
    · exact h
    · split
      · exact h
      · obtain ⟨y, hy, rfl⟩ := List.mem_map.1 h
        by_cases he : y.1 = s
        · exact List.mem_map.2 ⟨_, mem_kput.2 (.inl rfl), he.symm⟩
        · exact List.mem_map.2 ⟨y, mem_kput.2 (.inr ⟨hy, he⟩), rfl⟩
theorem umod_range (a k : Int) (h0 : 0 < k) (h1 : k ≤ 4611686018427387904) : 0 ≤ wrap64 ((IntKind.u64.wrap a).tmod k) ∧ wrap64 ((IntKind.u64.wrap a).tmod k) < k := by
  have g0 : 0 ≤ IntKind.u64.wrap a := by rw [IntKind.wrap_u64]; omega
  have g1 : (IntKind.u64.wrap a).tmod k = IntKind.u64.wrap a % k := Int.tmod_eq_emod_of_nonneg g0
  have g2 := Int.emod_nonneg (IntKind.u64.wrap a) (show k ≠ 0 by omega)
  have g3 := Int.emod_lt_of_pos (IntKind.u64.wrap a) h0
  have g4 : wrap64 (IntKind.u64.wrap a % k) = IntKind.u64.wrap a % k := IntWalk.wrap64_in _ (by omega)
  rw [g1, g4]
  exact ⟨g2, g3⟩
end Go.Proofs.Ytpdencmgjihnfaa
