/- Plain lemmas for the laws on rounds. -/
import Derived.Test.YtibepkipbmfonaaRound2
namespace Go.Proofs.Ytibepkipbmfonaa

theorem nodup_length_le : ∀ {xs ys : List Int}, xs.Nodup → (∀ x ∈ xs, x ∈ ys) → xs.length ≤ ys.length
  | [], _, _, _ => by simp
  | x :: r, ys, hn, hs => by
    obtain ⟨h1, h2⟩ := List.nodup_cons.1 hn
    have hx := hs x (by simp)
    have := nodup_length_le (xs := r) (ys := ys.erase x) h2 (fun y hy => by
      have hne : y ≠ x := by rintro rfl; exact h1 hy
      exact (List.mem_erase_of_ne hne).2 (hs y (by simp [hy])))
    rw [List.length_erase_of_mem hx] at this
    have := List.length_pos_of_mem hx
    simp
    omega

theorem takeL_some {tg : List Int} {x : Int} {r : List Int} : ∀ {o : List Int}, takeL tg o = (some x, r) → x ∈ tg ∧ o.filter (· ∈ tg) = x :: r.filter (· ∈ tg) ∧ (o.Nodup → r.Nodup) ∧ r.length ≤ o.length
  | [], h => by simp [takeL] at h
  | y :: o, h => by
    unfold takeL at h
    split at h
    · rename_i hy
      cases h
      exact ⟨hy, by simp [hy], fun hn => (List.nodup_cons.1 hn).2, by simp⟩
    · rename_i hy
      obtain ⟨h1, h2, h3, h4⟩ := takeL_some (o := o) h
      exact ⟨h1, by simp [hy, h2], fun hn => h3 (List.nodup_cons.1 hn).2, by simp; omega⟩
theorem takeL_none {tg : List Int} {r : List Int} : ∀ {o : List Int}, takeL tg o = (none, r) → o.filter (· ∈ tg) = [] ∧ r = []
  | [], h => by simp [takeL] at h; simp [h]
  | y :: o, h => by
    unfold takeL at h
    split at h
    · cases h
    · rename_i hy
      obtain ⟨h1, h2⟩ := takeL_none (o := o) h
      exact ⟨by simpa [hy] using h1, h2⟩

theorem onceL_ne {tg : List Int} (h : tg ≠ []) : onceL tg ≠ [] := by
  intro he
  cases tg with
  | nil => exact h rfl
  | cons x r =>
    have : x ∈ onceL (x :: r) := (mem_onceL _).2 (by simp)
    rw [he] at this
    cases this

/-- The mixed targets: the first one is told at once. -/
theorem takeL_mixed {tg : List Int} (h : tg ≠ []) (s : Int) : ∃ x r, (mixL s (onceL tg)).2 = x :: r ∧ takeL tg (mixL s (onceL tg)).2 = (some x, r) ∧ x ∈ tg := by
  have hp := mixL_perm s (onceL tg)
  cases hm : (mixL s (onceL tg)).2 with
  | nil =>
    rw [hm] at hp
    exact absurd hp.symm.eq_nil (onceL_ne h)
  | cons x r =>
    rw [hm] at hp
    have hx : x ∈ tg := (mem_onceL tg).1 (hp.mem_iff.1 (by simp))
    exact ⟨x, r, rfl, by simp [takeL, hx], hx⟩

theorem filter_all_in {tg l : List Int} (h : ∀ x ∈ l, x ∈ tg) : l.filter (· ∈ tg) = l := by
  rw [List.filter_eq_self]
  intro x hx
  simpa using h x hx

theorem rnext_round {tg : List Int} (h : tg ≠ []) (s : Int) (ord : List Int) (cnt : Int) : ∃ x, (rnext tg s ord cnt).1 = some x ∧ x ∈ tg ∧
    ∀ told, Rounded (onceL tg) (told ++ ord.filter (· ∈ tg)) → Rounded (onceL tg) ((told ++ [x]) ++ (rnext tg s ord cnt).2.2.1.filter (· ∈ tg)) := by
  unfold rnext
  rw [if_neg h]
  rcases htk : takeL tg ord with ⟨_ | y, o1⟩
  · obtain ⟨x, r, hm, hx, hxt⟩ := takeL_mixed h s
    refine ⟨x, by simp only [hx], hxt, fun told hr => ?_⟩
    obtain ⟨he, -⟩ := takeL_none htk
    rw [he, List.append_nil] at hr
    have h2 := hr.more (mixL_perm s (onceL tg))
    simp only [hx]
    rw [hm] at h2
    have hall : ∀ y ∈ r, y ∈ tg := fun y hy => (mem_onceL tg).1 ((mixL_perm s (onceL tg)).mem_iff.1 (by rw [hm]; simp [hy]))
    rw [filter_all_in hall]
    simpa using h2
  · obtain ⟨h1, h2, -, -⟩ := takeL_some htk
    refine ⟨y, rfl, h1, fun told hr => ?_⟩
    rw [h2] at hr
    simpa using hr

theorem rnext_nodup (tg : List Int) (s : Int) {ord : List Int} (cnt : Int) (hn : ord.Nodup) : (rnext tg s ord cnt).2.2.1.Nodup := by
  unfold rnext
  split
  · exact hn
  · rename_i h
    rcases htk : takeL tg ord with ⟨_ | y, o1⟩
    · obtain ⟨x, r, hm, hx, hxt⟩ := takeL_mixed h s
      simp only [hx]
      have : (mixL s (onceL tg)).2.Nodup := (mixL_perm s (onceL tg)).nodup_iff.2 (onceL_nodup tg)
      rw [hm] at this
      exact (List.nodup_cons.1 this).2
    · exact (takeL_some htk).2.2.1 hn
theorem rnext_cnt (tg : List Int) (s : Int) (ord : List Int) (cnt : Int) : cnt ≤ (rnext tg s ord cnt).2.2.2 ∧ (rnext tg s ord cnt).2.2.2 ≤ cnt + 1 := by
  unfold rnext
  split
  · simp; omega
  · rcases takeL tg ord with ⟨_ | y, o1⟩
    · simp; omega
    · simp; omega
theorem rounded_start {tg ord : List Int} (hn : ord.Nodup) : Rounded (onceL tg) ([] ++ ord.filter (· ∈ tg)) := by
  refine ⟨ord.filter (· ∈ tg), [], by simp, nodup_length_le (hn.filter _) (fun x hx => ?_), by simp⟩
  have := (List.mem_filter.1 hx).2
  exact (mem_onceL tg).2 (by simpa using this)
end Go.Proofs.Ytibepkipbmfonaa
