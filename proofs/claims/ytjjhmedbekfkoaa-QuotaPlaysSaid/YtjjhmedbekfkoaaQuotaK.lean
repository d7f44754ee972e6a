/- The chapter's example of layer 11. -/
import Derived.Test.YtjjhmedbekfkoaaLeft
namespace Go.Proofs.Ytjjhmedbekfkoaa
open Go.RowKit Go.ChangeMaps

theorem qk1 : qtake [] 1 9 5 = (0, [(9, 0, 1)]) := by decide +kernel
theorem qk2 : qtake [(9, 0, 1)] 1 9 31 = (15, [(9, 0, 1)]) := by decide +kernel
theorem qk3 : qtake [(9, 0, 1)] 1 9 32 = (0, [(9, 1, 1)]) := by decide +kernel
theorem known_c (w : World) : Calls Try.prog 11 #[] w fun e w' => e = .returned (.bool true) ∧ Turn [] w w' := by
  go_enter Try.func11, Try.ntmps11
  go_wp2_with fail
  refine (new_c 1 _ (by decide) (by decide)).mono ?_
  rintro e w1 ⟨rfl, hq1, hT1⟩
  go_wp2_with fail
  refine (take_c _ _ _ _ _ _ _ hq1 (by decide)).mono ?_
  rw [qk1]
  rintro e w2 ⟨rfl, hq2, hT2⟩
  go_wp2_with fail
  refine (take_c _ _ _ _ _ _ _ hq2 (by decide)).mono ?_
  rw [qk2]
  rintro e w3 ⟨rfl, hq3, hT3⟩
  go_wp2_with fail
  refine (take_c _ _ _ _ _ _ _ hq3 (by decide)).mono ?_
  rw [qk3]
  rintro e w4 ⟨rfl, hq4, hT4⟩
  go_wp2_with fail
  go_ret
  exact ⟨by simp, ((hT1.andThen hT2 (by simp)).andThen hT3 (by simp)).andThen hT4 (by simp)⟩
end Go.Proofs.Ytjjhmedbekfkoaa
