/- Claims as four numbers: slices of them, and contracts of claims.Check, To, Of, Expired. -/
import Derived.Test.YtelagneielahhaaChecked
import Derived.Test.YtelagneielahhaaSlices
import Derived.Outline
import Derived.KernelRfl
import Derived.StillTailTactics
namespace Go.Proofs.Ytelagneielahhaa
open Go.RowKit Go.ChangeMaps

abbrev C4 := Int × Int × Int × Int
def cval (c : C4) : Value := .agg #[.int .i64 c.1, .int .i64 c.2.1, .int .i64 c.2.2.1, .int .i64 c.2.2.2]
def ccs : List C4 → List Value
  | [] => []
  | c :: r => .int .i64 c.1 :: .int .i64 c.2.1 :: .int .i64 c.2.2.1 :: .int .i64 c.2.2.2 :: ccs r

/-- What claims may be. -/
def Right (c : C4) : Prop := (1 ≤ c.1 ∧ c.1 ≤ 65535) ∧ (0 ≤ c.2.1 ∧ c.2.1 ≤ 255) ∧ (0 ≤ c.2.2.1 ∧ c.2.2.1 ≤ 1073741824) ∧ (1 ≤ c.2.2.2 ∧ c.2.2.2 ≤ 65535)
instance (c : C4) : Decidable (Right c) := by unfold Right; exact inferInstance

/-- Check's answer. -/
def checkE (c : C4) : Int := if Right c then 0 else 10

theorem to_c (a b c d : Int) (w : World) : Calls Try.prog 10 #[.agg #[.int .i64 a, .int .i64 b, .int .i64 c, .int .i64 d]] w fun e w' => e = .returned (.agg #[.int .i64 a, .int .i64 b, .int .i64 c, .int .i64 d]) ∧ Turn [] w w' := by
  go_enter Try.func10, Try.ntmps10
  go_wp2_with fail
  refine bodyPost_ret (v := .agg #[.int .i64 a, .int .i64 b, .int .i64 c, .int .i64 d]) ?_ rfl ⟨rfl, ((Turn.refl _ _).alloc _).alloc _⟩
  simp [results, Try.results10, go_sem]
theorem of_c (a b c d : Int) (w : World) : Calls Try.prog 32 #[.agg #[.int .i64 a, .int .i64 b, .int .i64 c, .int .i64 d]] w fun e w' => e = .returned (.agg #[.int .i64 a, .int .i64 b, .int .i64 c, .int .i64 d]) ∧ Turn [] w w' := by
  go_enter Try.func32, Try.ntmps32
  go_wp2_with fail
  refine bodyPost_ret (v := .agg #[.int .i64 a, .int .i64 b, .int .i64 c, .int .i64 d]) ?_ rfl ⟨rfl, ((Turn.refl _ _).alloc _).alloc _⟩
  simp [results, Try.results32, go_sem]
theorem spans_c (a b c d : Int) (w : World) : Calls Try.prog 52 #[.agg #[.int .i64 a, .int .i64 b, .int .i64 c, .int .i64 d]] w fun e w' => e = .returned (.agg #[.int .i64 a, .int .i64 1, .int .i64 65535, .int .i64 b, .int .i64 0, .int .i64 255, .int .i64 c, .int .i64 0, .int .i64 1073741824, .int .i64 d, .int .i64 1, .int .i64 65535]) ∧ Turn [] w w' := by
  go_enter Try.func52, Try.ntmps52
  go_wp2_with fail
  refine bodyPost_ret (v := .agg #[.int .i64 a, .int .i64 1, .int .i64 65535, .int .i64 b, .int .i64 0, .int .i64 255, .int .i64 c, .int .i64 0, .int .i64 1073741824, .int .i64 d, .int .i64 1, .int .i64 65535]) ?_ rfl ⟨rfl, ((Turn.refl _ _).alloc _).alloc _⟩
  simp [results, Try.results52, go_sem]
theorem expired_c (a b c d t : Int) (w : World) : Calls Try.prog 24 #[.agg #[.int .i64 a, .int .i64 b, .int .i64 c, .int .i64 d], .int .i64 t] w fun e w' => e = .returned (.bool (decide (c ≤ t))) ∧ Turn [] w w' := by
  go_enter Try.func24, Try.ntmps24
  go_wp2_with fail
  go_ret
  exact ⟨by simp, (Turn.refl _ _).alloc _⟩
theorem span0 (a b c d : Int) (w : World) : (Instr.index 98 (.agg #[.int .i64 a, .int .i64 1, .int .i64 65535, .int .i64 b, .int .i64 0, .int .i64 255, .int .i64 c, .int .i64 0, .int .i64 1073741824, .int .i64 d, .int .i64 1, .int .i64 65535]) (.int .i64 0)).run Try.prog w = .ok (.agg #[.int .i64 a, .int .i64 1, .int .i64 65535]) w := by kernel_rfl
theorem span1 (a b c d : Int) (w : World) : (Instr.index 98 (.agg #[.int .i64 a, .int .i64 1, .int .i64 65535, .int .i64 b, .int .i64 0, .int .i64 255, .int .i64 c, .int .i64 0, .int .i64 1073741824, .int .i64 d, .int .i64 1, .int .i64 65535]) (.int .i64 1)).run Try.prog w = .ok (.agg #[.int .i64 b, .int .i64 0, .int .i64 255]) w := by kernel_rfl
theorem span2 (a b c d : Int) (w : World) : (Instr.index 98 (.agg #[.int .i64 a, .int .i64 1, .int .i64 65535, .int .i64 b, .int .i64 0, .int .i64 255, .int .i64 c, .int .i64 0, .int .i64 1073741824, .int .i64 d, .int .i64 1, .int .i64 65535]) (.int .i64 2)).run Try.prog w = .ok (.agg #[.int .i64 c, .int .i64 0, .int .i64 1073741824]) w := by kernel_rfl
theorem span3 (a b c d : Int) (w : World) : (Instr.index 98 (.agg #[.int .i64 a, .int .i64 1, .int .i64 65535, .int .i64 b, .int .i64 0, .int .i64 255, .int .i64 c, .int .i64 0, .int .i64 1073741824, .int .i64 d, .int .i64 1, .int .i64 65535]) (.int .i64 3)).run Try.prog w = .ok (.agg #[.int .i64 d, .int .i64 1, .int .i64 65535]) w := by kernel_rfl
/-- The first j of the numbers are right. -/
def RightTo (c : C4) : Nat → Prop
  | 0 => True
  | 1 => 1 ≤ c.1 ∧ c.1 ≤ 65535
  | 2 => (1 ≤ c.1 ∧ c.1 ≤ 65535) ∧ (0 ≤ c.2.1 ∧ c.2.1 ≤ 255)
  | 3 => (1 ≤ c.1 ∧ c.1 ≤ 65535) ∧ (0 ≤ c.2.1 ∧ c.2.1 ≤ 255) ∧ (0 ≤ c.2.2.1 ∧ c.2.2.1 ≤ 1073741824)
  | _ => Right c
set_option maxRecDepth 100000 in
set_option maxHeartbeats 1000000 in
theorem check_c (a b c d : Int) (w : World) : Calls Try.prog 36 #[.agg #[.int .i64 a, .int .i64 b, .int .i64 c, .int .i64 d]] w fun e w' => e = .returned (.int .i64 (checkE (a, b, c, d))) ∧ Turn [] w w' := by
  go_enter Try.func36, Try.ntmps36
  go_wp2_with fail
  go_step3
  go_wp2_with fail
  go_step3
  go_wp2_with fail
  refine (spans_c a b c d _).mono ?_
  rintro e w1 ⟨rfl, hT1⟩
  go_wp2_with fail
  have T1 := ((Turn.refl [] w).alloc (.cells #[.int .i64 a, .int .i64 b, .int .i64 c, .int .i64 d] 29)).trans hT1
  clear hT1
  go_loopw [7] (fun x wr => ∃ j : Nat, j ≤ 4 ∧ x = .int .i64 j ∧ Hid (RightTo (a, b, c, d) j) ∧ Turn [] w wr) (fun x _ => 4 - (intOf x).toNat)
  case atStart => exact ⟨0, by omega, rfl, trivial, T1⟩
  case round =>
    obtain ⟨j, hj, rfl, HR, hT⟩ := hrel
    have hc : j = 0 ∨ j = 1 ∨ j = 2 ∨ j = 3 ∨ j = 4 := by omega
    rcases hc with rfl | rfl | rfl | rfl | rfl
    · have HI := span0 a b c d
      by_cases h1 : (1 : Int) ≤ a
      · by_cases h2 : a ≤ 65535
        · go_wp2_with fail
          go_roundw
          case rel => exact ⟨1, by omega, by go_num, ⟨h1, h2⟩, by first | exact (hT.alloc _) | exact ((hT.alloc _).setCell (.inr (by have := hT.size; simpa using this)) _)⟩
          case measure => simp [intOf]
        · have hv : Hid (checkE (a, b, c, d) = 10) := by show checkE _ = _; unfold checkE; rw [if_neg (by unfold Right; simp only; omega)]
          go_wp2_with fail
          go_ret
          exact ⟨by rw [hv.out]; simp, by first | exact (hT.alloc _) | exact ((hT.alloc _).setCell (.inr (by have := hT.size; simpa using this)) _)⟩
      · have hv : Hid (checkE (a, b, c, d) = 10) := by show checkE _ = _; unfold checkE; rw [if_neg (by unfold Right; simp only; omega)]
        go_wp2_with fail
        go_ret
        exact ⟨by rw [hv.out]; simp, by first | exact (hT.alloc _) | exact ((hT.alloc _).setCell (.inr (by have := hT.size; simpa using this)) _)⟩
    · have HI := span1 a b c d
      by_cases h1 : (0 : Int) ≤ b
      · by_cases h2 : b ≤ 255
        · go_wp2_with fail
          go_roundw
          case rel => exact ⟨2, by omega, by go_num, (by have h := HR.out; simp only [RightTo] at h; show RightTo _ _; simp only [RightTo, Right]; omega), by first | exact (hT.alloc _) | exact ((hT.alloc _).setCell (.inr (by have := hT.size; simpa using this)) _)⟩
          case measure => simp [intOf]
        · have hv : Hid (checkE (a, b, c, d) = 10) := by show checkE _ = _; unfold checkE; rw [if_neg (by unfold Right; simp only; omega)]
          go_wp2_with fail
          go_ret
          exact ⟨by rw [hv.out]; simp, by first | exact (hT.alloc _) | exact ((hT.alloc _).setCell (.inr (by have := hT.size; simpa using this)) _)⟩
      · have hv : Hid (checkE (a, b, c, d) = 10) := by show checkE _ = _; unfold checkE; rw [if_neg (by unfold Right; simp only; omega)]
        go_wp2_with fail
        go_ret
        exact ⟨by rw [hv.out]; simp, by first | exact (hT.alloc _) | exact ((hT.alloc _).setCell (.inr (by have := hT.size; simpa using this)) _)⟩
    · have HI := span2 a b c d
      by_cases h1 : (0 : Int) ≤ c
      · by_cases h2 : c ≤ 1073741824
        · go_wp2_with fail
          go_roundw
          case rel => exact ⟨3, by omega, by go_num, (by have h := HR.out; simp only [RightTo] at h; show RightTo _ _; simp only [RightTo, Right]; omega), by first | exact (hT.alloc _) | exact ((hT.alloc _).setCell (.inr (by have := hT.size; simpa using this)) _)⟩
          case measure => simp [intOf]
        · have hv : Hid (checkE (a, b, c, d) = 10) := by show checkE _ = _; unfold checkE; rw [if_neg (by unfold Right; simp only; omega)]
          go_wp2_with fail
          go_ret
          exact ⟨by rw [hv.out]; simp, by first | exact (hT.alloc _) | exact ((hT.alloc _).setCell (.inr (by have := hT.size; simpa using this)) _)⟩
      · have hv : Hid (checkE (a, b, c, d) = 10) := by show checkE _ = _; unfold checkE; rw [if_neg (by unfold Right; simp only; omega)]
        go_wp2_with fail
        go_ret
        exact ⟨by rw [hv.out]; simp, by first | exact (hT.alloc _) | exact ((hT.alloc _).setCell (.inr (by have := hT.size; simpa using this)) _)⟩
    · have HI := span3 a b c d
      by_cases h1 : (1 : Int) ≤ d
      · by_cases h2 : d ≤ 65535
        · go_wp2_with fail
          go_roundw
          case rel => exact ⟨4, by omega, by go_num, (by have h := HR.out; simp only [RightTo] at h; show RightTo _ _; simp only [RightTo, Right]; omega), by first | exact (hT.alloc _) | exact ((hT.alloc _).setCell (.inr (by have := hT.size; simpa using this)) _)⟩
          case measure => simp [intOf]
        · have hv : Hid (checkE (a, b, c, d) = 10) := by show checkE _ = _; unfold checkE; rw [if_neg (by unfold Right; simp only; omega)]
          go_wp2_with fail
          go_ret
          exact ⟨by rw [hv.out]; simp, by first | exact (hT.alloc _) | exact ((hT.alloc _).setCell (.inr (by have := hT.size; simpa using this)) _)⟩
      · have hv : Hid (checkE (a, b, c, d) = 10) := by show checkE _ = _; unfold checkE; rw [if_neg (by unfold Right; simp only; omega)]
        go_wp2_with fail
        go_ret
        exact ⟨by rw [hv.out]; simp, by first | exact (hT.alloc _) | exact ((hT.alloc _).setCell (.inr (by have := hT.size; simpa using this)) _)⟩
    · have hv : Hid (checkE (a, b, c, d) = 0) := by show checkE _ = _; unfold checkE; rw [if_pos (show Right (a, b, c, d) from HR.out)]
      go_wp2_with fail
      try rw [Exit.noGoto_ret]
      go_ret
      exact ⟨by rw [hv.out]; simp, hT⟩
end Go.Proofs.Ytelagneielahhaa
