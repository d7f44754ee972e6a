/- What is let, told by a list of takes and by the map of a Quotas (plain). -/
import Derived.Test.YtpdencmgjihnfaaHints
namespace Go.Proofs.Ytpdencmgjihnfaa
open Go.RowKit Go.ChangeMaps

/-- The list of takes says as much as the map does. -/
def LetOk (times : Int) (m : QM) (T : List (Int × Int)) : Prop :=
  ∀ s, (kget m s = none → ∀ p, timesL T s p = 0) ∧ ∀ p0 n0, kget m s = some (p0, n0) → (timesL T s p0 : Int) = n0 ∧ (∀ p, p0 < p → timesL T s p = 0) ∧ ∀ p, (timesL T s p : Int) ≤ times
theorem LetOk.nil (times : Int) : LetOk times [] [] := fun s => ⟨fun _ p => rfl, fun p0 n0 h => by simp [kget] at h⟩
theorem LetOk.le {times : Int} {m : QM} {T : List (Int × Int)} (h : LetOk times m T) (ht : 1 ≤ times) (s p : Int) : (timesL T s p : Int) ≤ times := by
  cases hk : kget m s with
  | none => rw [(h s).1 hk p]; simp; omega
  | some x => exact ((h s).2 x.1 x.2 hk).2.2 p
theorem timesL_snoc (T : List (Int × Int)) (s p s' p' : Int) : timesL (T ++ [(s', p')]) s p = timesL T s p + (if s' = s ∧ p' = p then 1 else 0) := by
  unfold timesL
  rw [List.countP_append]
  congr 1
  simp [List.countP_cons]
theorem LetOk.take {times s t : Int} {m : QM} {T : List (Int × Int)} (hq : QOk times m) (h : LetOk times m T) (h0 : (qtake m times s t).1 = 0) : LetOk times (qtake m times s t).2 (T ++ [(s, t / 32)]) := by
  have ht := hq.t0
  unfold qtake at h0 ⊢
  split at h0
  · rename_i hb
    exact absurd h0 hb
  rename_i hb
  rw [if_neg hb]
  split at h0
  · simp at h0
  rename_i hn
  rw [if_neg hn]
  split at h0
  · simp at h0
  rename_i hf
  rw [if_neg hf]
  have hb' : (qlook m s t).2 = 0 := by simpa using hb
  have hl : ∀ x : Int × Int, (kget m s).getD (0, 0) = x → 0 ≤ t ∧ x.1 ≤ t / 32 ∧ (qlook m s t).1 = (t / 32, atN x.1 x.2 (t / 32)) := by
    intro x hx
    unfold qlook at hb' ⊢
    rw [hx] at hb' ⊢
    split at hb'
    · simp at hb'
    split at hb'
    · simp at hb'
    rename_i g1 g2
    rw [if_neg g1, if_neg g2]
    refine ⟨by omega, by omega, ?_⟩
    simp only [atP]
    rw [Int.max_eq_right (by omega)]
  intro s'
  by_cases hs : s' = s
  · subst hs
    refine ⟨fun hk => ?_, fun p0 n0 hk => ?_⟩
    · rw [kget_kput_same hq.rises] at hk
      cases hk
    · rw [kget_kput_same hq.rises] at hk
      cases hk
      cases hkm : kget m s' with
      | none =>
        obtain ⟨g0, g1, g2⟩ := hl (0, 0) (by rw [hkm]; rfl)
        have hz := (h s').1 hkm
        rw [g2] at hn ⊢
        simp only at hn ⊢
        have hN : atN 0 0 (t / 32) = 0 := by unfold atN; split <;> rfl
        rw [hN] at hn ⊢
        refine ⟨?_, fun p hp => ?_, fun p => ?_⟩
        · rw [timesL_snoc, hz]; simp
        · rw [timesL_snoc, hz]; simp; omega
        · rw [timesL_snoc, hz]; split <;> simp <;> omega
      | some x =>
        obtain ⟨g0, g1, g2⟩ := hl x (by rw [hkm]; rfl)
        obtain ⟨z1, z2, z3⟩ := (h s').2 x.1 x.2 hkm
        rw [g2] at hn ⊢
        simp only at hn ⊢
        have hN : atN x.1 x.2 (t / 32) = timesL T s' (t / 32) := by
          unfold atN
          split
          · rename_i hlt
            rw [z2 _ hlt]
            rfl
          · have : t / 32 = x.1 := by omega
            rw [this, z1]
        rw [hN] at hn ⊢
        refine ⟨?_, fun p hp => ?_, fun p => ?_⟩
        · rw [timesL_snoc]; simp
        · rw [timesL_snoc, z2 p (by omega)]; simp; omega
        · rw [timesL_snoc]
          have := z3 p
          split
          · rename_i hh
            rw [← hh.2]
            omega
          · omega
  · have e : ∀ p, timesL (T ++ [(s, t / 32)]) s' p = timesL T s' p := fun p => by
      rw [timesL_snoc, if_neg (fun hh => hs hh.1.symm)]
      rfl
    rw [kget_kput_other hq.rises hs]
    simp only [e]
    exact h s'

theorem qtake_same {times s t : Int} {m : QM} (h : (qtake m times s t).1 ≠ 0) : (qtake m times s t).2 = m := by
  unfold qtake at h ⊢
  split
  · rfl
  · split
    · rfl
    · split
      · rfl
      · rename_i h1 h2 h3
        rw [if_neg h1, if_neg h2, if_neg h3] at h
        simp at h
theorem offE_cases (own : C4) (wl : List C4) (m : QM) (times s t : Int) (c : C4) : ((offE own wl m times s t c).1 ≠ 0 ∧ (offE own wl m times s t c).2 = m) ∨ ((qtake m times s t).1 = 0 ∧ offE own wl m times s t c = qtake m times s t) := by
  unfold offE
  split
  · left; simp
  · split
    · left; simp
    · split
      · left; simp
      · split
        · left; simp
        · split
          · left; simp
          · by_cases h : (qtake m times s t).1 = 0
            · exact .inr ⟨h, rfl⟩
            · exact .inl ⟨h, qtake_same h⟩
/-- What an offer adds to the takes. -/
def addT (s p : Int) : List Int → List (Int × Int)
  | [] => []
  | e :: r => if e = 0 then (s, p) :: addT s p r else addT s p r
theorem addT_len (s p : Int) : ∀ l : List Int, (addT s p l).length ≤ l.length
  | [] => by simp [addT]
  | e :: r => by
    have := addT_len s p r
    unfold addT
    split <;> simp <;> omega
theorem addT_snoc (s p : Int) : ∀ (l : List Int) (e : Int), addT s p (l ++ [e]) = addT s p l ++ (if e = 0 then [(s, p)] else [])
  | [], e => by simp [addT]
  | x :: r, e => by
    have := addT_snoc s p r e
    simp only [List.cons_append, addT]
    split <;> simp [this]
theorem LetOk.all (own : C4) (times s t : Int) : ∀ (cs wl : List C4) (m : QM) (T : List (Int × Int)), QOk times m → LetOk times m T → LetOk times (offAll own times s t cs wl m).2.2 (T ++ addT s (t / 32) (offAll own times s t cs wl m).1)
  | [], wl, m, T, hq, h => by simpa [offAll, addT] using h
  | c :: r, wl, m, T, hq, h => by
    simp only [offAll]
    rcases offE_cases own wl m times s t c with ⟨h1, h2⟩ | ⟨h1, h2⟩
    · rw [addT, if_neg h1, if_neg h1, h2]
      exact LetOk.all own times s t r wl m T hq h
    · rw [h2, addT, if_pos h1, if_pos h1]
      have := LetOk.all own times s t r (wl ++ [c]) _ _ (qtake_ok hq) (h.take hq h1)
      rw [List.append_assoc] at this
      exact this
theorem offAll_pre (own : C4) (times s t : Int) : ∀ (cs wl : List C4) (m : QM), ∃ x, (offAll own times s t cs wl m).2.1 = wl ++ x
  | [], wl, m => ⟨[], by simp [offAll]⟩
  | c :: r, wl, m => by
    simp only [offAll]
    obtain ⟨x, hx⟩ := offAll_pre own times s t r (if (offE own wl m times s t c).1 = 0 then wl ++ [c] else wl) (offE own wl m times s t c).2
    rw [hx]
    split
    · exact ⟨c :: x, by simp⟩
    · exact ⟨x, rfl⟩
theorem offAll_errs (own : C4) (times s t : Int) : ∀ (cs wl : List C4) (m : QM), (offAll own times s t cs wl m).1.length = cs.length
  | [], wl, m => rfl
  | c :: r, wl, m => by simp [offAll, offAll_errs own times s t r]
end Go.Proofs.Ytpdencmgjihnfaa
