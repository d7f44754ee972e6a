/- Nil nets: the walk of NetNil. -/
import Derived.Test.YtiijgokgojjocaaNetKnown
namespace Go.Proofs.Ytiijgokgojjocaa
open Go.RowKit Go.ChangeMaps

theorem ruleNil (a b c d : Int) (w : World) : Calls Try.prog 22 #[.pointer none, .agg #[.int .i64 a, .int .i64 b, .int .i64 c, .int .i64 d]] w fun e w' => e = .returned (.int .i64 11) ∧ Turn [] w w' := by
  go_enter Try.func22, Try.ntmps22
  go_wp2_with fail
  go_ret
  exact ⟨by simp, (Turn.refl _ _).alloc _⟩
theorem cutNil (a b : Int) (w : World) : Calls Try.prog 16 #[.pointer none, .int .i64 a, .int .i64 b] w fun e w' => e = .returned (.int .i64 11) ∧ w = w' := by
  go_enter Try.func16, Try.ntmps16
  go_wp2_with fail
  go_ret
  exact ⟨by simp, rfl⟩
theorem healNil (w : World) : Calls Try.prog 17 #[.pointer none] w fun e w' => e = .returned (.int .i64 0) ∧ w = w' := by
  go_enter Try.func17, Try.ntmps17
  go_wp2_with fail
  go_ret
  exact ⟨by simp, rfl⟩
theorem sendNil (a b : Int) (v : Value) (w : World) : Calls Try.prog 9 #[.pointer none, .int .i64 a, .int .i64 b, v] w fun e w' => e = .returned (.int .i64 0) ∧ w = w' := by
  go_enter Try.func9, Try.ntmps9
  go_wp2_with fail
  go_ret
  exact ⟨by simp, rfl⟩
theorem injectNil (a b c : Int) (v : Value) (w : World) : Calls Try.prog 15 #[.pointer none, .int .i64 a, .int .i64 b, .int .i64 c, v] w fun e w' => e = .returned (.int .i64 11) ∧ w = w' := by
  go_enter Try.func15, Try.ntmps15
  go_wp2_with fail
  go_ret
  exact ⟨by simp, rfl⟩
theorem dueNil (a : Int) (w : World) : Calls Try.prog 10 #[.pointer none, .int .i64 a] w fun e w' => e = .returned (.slice none 0 0) ∧ Turn [] w w' := by
  go_enter Try.func10, Try.ntmps10
  go_wp2_with fail
  go_ret
  exact ⟨by simp, (Turn.refl _ _).alloc _⟩
theorem bytesNil (a b : Int) (w : World) : Calls Try.prog 25 #[.pointer none, .int .i64 a, .int .i64 b] w fun e w' => e = .returned (.int .i64 0) ∧ w = w' := by
  go_enter Try.func25, Try.ntmps25
  go_wp2_with fail
  go_ret
  exact ⟨by simp, rfl⟩
theorem countsNil (w : World) : Calls Try.prog 14 #[.pointer none] w fun e w' => e = .returned (.tuple #[.int .i64 0, .int .i64 0, .int .i64 0]) ∧ w = w' := by
  go_enter Try.func14, Try.ntmps14
  go_wp2_with fail
  refine bodyPost_ret (v := .tuple #[.int .i64 0, .int .i64 0, .int .i64 0]) ?_ rfl ⟨rfl, rfl⟩
  simp [results, Try.results14, go_sem]
theorem lenNil (w : World) : Calls Try.prog 11 #[.pointer none] w fun e w' => e = .returned (.int .i64 0) ∧ w = w' := by
  go_enter Try.func11, Try.ntmps11
  go_wp2_with fail
  go_ret
  exact ⟨by simp, rfl⟩
theorem rulesNil (w : World) : Calls Try.prog 27 #[.pointer none] w fun e w' => e = .returned (.agg #[.int .i64 0, .int .i64 0, .int .i64 0, .int .i64 0]) ∧ Turn [] w w' := by
  go_enter Try.func27, Try.ntmps27
  go_wp2_with fail
  refine bodyPost_ret (v := .agg #[.int .i64 0, .int .i64 0, .int .i64 0, .int .i64 0]) ?_ rfl ⟨rfl, by first | exact (Turn.refl _ _).alloc _ | exact ((Turn.refl _ _).alloc _).setCell (.inr (by simp)) _⟩
  simp [results, Try.results27, go_sem]

set_option maxRecDepth 100000 in
set_option maxHeartbeats 4000000 in
theorem nnil_walk (a b tick : Int) (w : World) : Calls Try.prog 7 #[.int .i64 a, .int .i64 b, .int .i64 tick] w fun e w' => e = .returned (.bool true) ∧ Turn [] w w' := by
  have KC := Lib.hid (fun wz => known_c wz)
  go_enter Try.func7, Try.ntmps7
  go_wp2_with fail
  refine (countsNil _).mono ?_
  rintro e w0 ⟨rfl, rfl⟩
  go_wp2_with fail
  refine (KC.out _).mono ?_
  rintro e w1 ⟨rfl, T1⟩
  go_wp2_with fail
  refine (ruleNil _ _ _ _ _).mono ?_
  rintro e w2 ⟨rfl, T2⟩
  go_wp2_with fail
  refine (cutNil _ _ _).mono ?_
  rintro e w3 ⟨rfl, rfl⟩
  go_wp2_with fail
  refine (healNil _).mono ?_
  rintro e w3 ⟨rfl, rfl⟩
  go_wp2_with fail
  refine (sendNil _ _ _ _).mono ?_
  rintro e w3 ⟨rfl, rfl⟩
  go_wp2_with fail
  refine (injectNil _ _ _ _ _).mono ?_
  rintro e w3 ⟨rfl, rfl⟩
  go_wp2_with fail
  refine (dueNil _ _).mono ?_
  rintro e w3 ⟨rfl, T3⟩
  go_wp2_with fail
  refine (bytesNil _ _ _).mono ?_
  rintro e w4 ⟨rfl, rfl⟩
  go_wp2_with fail
  refine (lenNil _).mono ?_
  rintro e w4 ⟨rfl, rfl⟩
  go_wp2_with fail
  refine (rulesNil _).mono ?_
  rintro e w5 ⟨rfl, T5⟩
  go_wp2_with fail
  go_ret
  exact ⟨by simp, (T1.trans T2).trans ((((Turn.refl [] w2).alloc _).trans T3).trans T5)⟩
end Go.Proofs.Ytiijgokgojjocaa
