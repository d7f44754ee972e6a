/- The walk of the law ProbeNil. -/
import Derived.Test.YtibepkipbmfonaaSome
import Derived.Deep.RegionHeld3
import Derived.Lib.MinMax
import Derived.Test.YtibepkipbmfonaaRoundsW
namespace Go.Proofs.Ytibepkipbmfonaa
open Go.RowKit Go.ChangeMaps

theorem eight_nil0 (w : World) : Calls Try.prog 22 #[.pointer none] w fun e w' => e = .returned (.agg #[.int .u8 0, .int .u8 0, .int .u8 0, .int .u8 0, .int .u8 0, .int .u8 0, .int .u8 0, .int .u8 0]) ∧ Turn [] w w' := by
  refine (eight_nil w).mono ?_
  rintro e w1 ⟨rfl, h⟩
  exact ⟨rfl, h⟩

theorem eq8_0 (w : World) : (Op.equalIn 10000 51 (.agg #[.int .u8 0, .int .u8 0, .int .u8 0, .int .u8 0, .int .u8 0, .int .u8 0, .int .u8 0, .int .u8 0]) (.agg #[.int .u8 0, .int .u8 0, .int .u8 0, .int .u8 0, .int .u8 0, .int .u8 0, .int .u8 0, .int .u8 0])).run Try.prog w = .ok true w := by kernel_rfl

set_option maxRecDepth 100000 in
set_option maxHeartbeats 4000000 in
theorem pnil_walk (A : Option Addr) (len cap : Nat) (n : Int) (xs : List Int) (w : World) (hx : Sl w A (i64s xs)) (hxn : xs.length = len) (hxc : len ≤ cap) (hxm : cap ≤ maxLen) (hn : n ≤ 9223372036854775807) :
    Calls Try.prog 6 #[.slice A len cap, .int .i64 n] w fun e w' => e = .returned (.bool true) ∧ Turn [] w w' := by
  go_enter Try.func6, Try.ntmps6
  have HXN := Lib.hid hxn
  clear hxn
  go_wp2_with fail
  refine (few_c A len cap 12 xs _ hx HXN.out hxc (by omega) hxm).mono ?_
  have m1 : (xs.take 12).length ≤ 12 := by simp; omega
  generalize xs.take 12 = X at *
  generalize hXn : X.length = nx at *
  have XN := Lib.hid hXn
  clear hXn
  rintro e w2 ⟨B1, e1, rfl, o1, hT2⟩
  go_wp2_with fail
  refine (rnext_nil _ _ _ _).mono ?_
  rintro e w3 ⟨rfl, hT3⟩
  go_wp2_with fail
  have sB := (Sl.of_own o1).turn0 hT3
  have TT := hT2.trans hT3
  obtain ⟨hnc, hcm⟩ := own_caps o1
  clear o1 hT2 hT3 hx
  have T3 := (Turn.refl [] w3).drew
  have nx0 : (0 : Int) ≤ (nx : Int) := Int.natCast_nonneg _
  have hkv : min (max n 0) (nx : Int) = ((someN n nx : Nat) : Int) := by unfold someN; omega
  have SN := fun (w : World) (h : Sl w B1 (i64s X)) => some_nil n B1 nx e1 X w h XN.out (by omega)
  have hXk := fun (w : World) (h : Sl w B1 (i64s X)) => i64s_take h (someN n nx)
  have hkl : (X.take (someN n nx)).length = someN n nx := by rw [List.length_take, XN.out]; unfold someN; omega
  have hkn : someN n nx ≤ nx := by unfold someN; omega
  generalize X.take (someN n nx) = Xk at *
  generalize someN n nx = k at *
  have SN' := Lib.hid SN
  have hXk' := Lib.hid hXk
  have hkl' := Lib.hid hkl
  clear SN hXk hkl
  obtain ⟨iI, hiI, -⟩ := elemI.info
  have HD := fun (w : World) => run_slice_head (P := Try.prog) Try.underlying23 hiI w B1 nx e1 .i64 (min (max n 0) (nx : Int)) (by omega) (by omega)
  have hkt : (min (max n 0) (nx : Int)).toNat = k := by omega
  rw [hkt] at HD
  clear hiI hkt hkv
  have HE := fun w => eq8_0 w
  go_region_held3 (fun w' => Turn [] w3 w') (first | assumption)
      (first
        | (go_at_call 11; refine (known_c _).mono ?_; rintro e w4 ⟨rfl, hT4⟩; have hT4' : Turn [] w3 w4 := Turn.trans (by assumption) hT4)
        | (go_at_call 16; refine (dnext_nil _).mono ?_; rintro e w4 ⟨rfl, rfl⟩)
        | (go_at_call 18; refine (below_nil _ _ hn).mono ?_; rintro e w4 ⟨rfl, rfl⟩)
        | (go_at_call 21; refine (mix_nil B1 nx e1 X _ (sB.turn0 (by assumption)) XN.out (by omega)).mono ?_; rintro e w4 ⟨A', c', rfl, ho, hT4⟩; have hT4' : Turn [] w3 w4 := Turn.trans (by assumption) hT4; have hs4 := Sl.of_own ho)
        | (go_at_call 20; refine (SN'.out _ (sB.turn0 (by assumption))).mono ?_; rintro e w4 ⟨A', rfl, hs4, hT4⟩; have hT4' : Turn [] w3 w4 := Turn.trans (by assumption) hT4)
        | (go_at_call 22; refine (eight_nil0 _).mono ?_; rintro e w4 ⟨rfl, hT4⟩; have hT4' : Turn [] w3 w4 := Turn.trans (by assumption) hT4)
        | (go_at_call 14; refine (left_nil _).mono ?_; rintro e w4 ⟨rfl, rfl⟩)
        | (go_at_call 15; refine (rounds_nil _).mono ?_; rintro e w4 ⟨rfl, rfl⟩)
        | (go_at_call 13; refine (same8_eq _ _ _ _ _ _ _ _ (by assumption) (by first | exact sB.turn0 (by assumption) | exact hXk'.out _ (sB.turn0 (by assumption))) (by first | exact XN.out | exact hkl'.out) (by first | exact XN.out | exact hkl'.out) (by omega)).mono ?_; rintro e w4 ⟨rfl, hT4⟩; have hT4' : Turn [] w3 w4 := Turn.trans (by assumption) hT4))
  all_goals go_wp2_with fail
  all_goals go_ret
  all_goals exact ⟨by simp, TT.trans (by assumption)⟩
end Go.Proofs.Ytibepkipbmfonaa
