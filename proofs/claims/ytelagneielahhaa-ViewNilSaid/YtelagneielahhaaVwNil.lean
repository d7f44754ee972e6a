/- The walk of ViewNil. -/
import Derived.Test.YtelagneielahhaaVwKnown
namespace Go.Proofs.Ytelagneielahhaa
open Go.RowKit Go.ChangeMaps Go.MapKept

set_option maxRecDepth 100000 in
set_option maxHeartbeats 4000000 in
theorem vnil_walk (a b c d tick : Int) (w : World) :
    Calls Try.prog 4 #[.agg #[.int .i64 a, .int .i64 b, .int .i64 c, .int .i64 d], .int .i64 tick] w fun e w' => e = .returned (.bool true) ∧ Turn [] w w' := by
  have KC := Lib.hid (fun wz => known_c wz)
  have TO := Lib.hid (fun wz => to_c a b c d wz)
  have FN := Lib.hid (fun wz => findNil a wz)
  unfold ven en0 at FN
  simp only at FN
  have DR := Lib.hid (fun (wz : World) => dropNilV (some ⟨wz.heap.size, 0, none⟩) 1 1 [a] (wz.alloc (.cells #[.int .i64 a] 3)) (by
    have := Sl.new wz #[.int .i64 a] 3
    simpa [i64s] using this) rfl (by omega))
  have B0 := Blk.new w 30 #[.int .i64 a, .int .i64 b, .int .i64 c, .int .i64 d]
  have T0 := (Turn.refl [] w).alloc (.cells #[.int .i64 a, .int .i64 b, .int .i64 c, .int .i64 d] 30)
  go_enter Try.func4, Try.ntmps4
  go_wp2_with fail
  refine (TO.out _).mono ?_
  rintro e w1 ⟨rfl, hT1⟩
  have T1 := T0.trans hT1
  have B1 := hT1.blk B0 (by simp)
  have BX := Blk.new w1 29 #[.int .i64 a, .int .i64 b, .int .i64 c, .int .i64 d]
  have TX := (Turn.refl [] w1).alloc (.cells #[.int .i64 a, .int .i64 b, .int .i64 c, .int .i64 d] 29)
  have B2 := TX.blk B1 (by simp)
  have T2 := T1.trans TX
  have k0 := B1.cell 0
  have kl := B1.lt
  clear B0 T0 hT1 T1
  go_wp2_with fail
  refine (FN.out _).mono ?_
  rintro e w3 ⟨rfl, hT3⟩
  have T3 := T2.trans hT3
  have B3 := hT3.blk B2 (by simp)
  have X3 := hT3.blk BX (by simp)
  clear B2 T2 hT3 B1 BX TX k0 kl
  go_wp2_with fail
  refine (KC.out _).mono ?_
  rintro e w4 ⟨rfl, hT4⟩
  have S4 := ((Turn.refl [] w3).alloc (.cells #[.int .i64 0, .int .i64 0, .int .i64 0, .int .i64 0, .bool false, .int .i64 0, .int .i64 0, .int .i64 0] 37)).trans hT4
  have T4 := T3.trans S4
  have B4 := S4.blk B3 (by simp)
  have X4 := S4.blk X3 (by simp)
  clear B3 X3 T3 hT4 S4
  have x0 := X4.cell 0
  have x1 := X4.cell 1
  have x2 := X4.cell 2
  have x3 := X4.cell 3
  have xl := X4.lt
  have b0 := B4.cell 0
  have bl := B4.lt
  go_wp2_with fail
  refine (addNil a b c d tick _).mono ?_
  rintro e w5 ⟨rfl, hT5⟩
  have T5 := T4.trans hT5
  have B5 := hT5.blk B4 (by simp)
  have X5 := hT5.blk X4 (by simp)
  clear x0 x1 x2 x3 xl b0 bl B4 X4 T4 hT5
  have x0 := X5.cell 0
  have x1 := X5.cell 1
  have x2 := X5.cell 2
  have x3 := X5.cell 3
  have xl := X5.lt
  have b0 := B5.cell 0
  have bl := B5.lt
  go_wp2_with fail
  refine (hearNil a b c d tick _).mono ?_
  rintro e w6 ⟨rfl, hT6⟩
  have T6 := T5.trans hT6
  have B6 := hT6.blk B5 (by simp)
  have X6 := hT6.blk X5 (by simp)
  clear x0 x1 x2 x3 xl b0 bl B5 X5 T5 hT6
  have x0 := X6.cell 0
  have x1 := X6.cell 1
  have x2 := X6.cell 2
  have x3 := X6.cell 3
  have xl := X6.lt
  have b0 := B6.cell 0
  have bl := B6.lt
  go_wp2_with fail
  refine (doubtNil a tick _).mono ?_
  rintro e w7 ⟨rfl, hT7⟩
  have T7 := T6.trans hT7
  have B7 := hT7.blk B6 (by simp)
  have X7 := hT7.blk X6 (by simp)
  clear x0 x1 x2 x3 xl b0 bl B6 X6 T6 hT7
  have x0 := X7.cell 0
  have x1 := X7.cell 1
  have x2 := X7.cell 2
  have x3 := X7.cell 3
  have xl := X7.lt
  have b0 := B7.cell 0
  have bl := B7.lt
  go_wp2_with fail
  refine (noteNil a tick _).mono ?_
  rintro e w8 ⟨rfl, hT8⟩
  have T8 := T7.trans hT8
  have B8 := hT8.blk B7 (by simp)
  have X8 := hT8.blk X7 (by simp)
  clear x0 x1 x2 x3 xl b0 bl B7 X7 T7 hT8
  have x0 := X8.cell 0
  have x1 := X8.cell 1
  have x2 := X8.cell 2
  have x3 := X8.cell 3
  have xl := X8.lt
  have b0 := B8.cell 0
  have bl := B8.lt
  go_wp2_with fail
  refine (sweepNil tick _).mono ?_
  rintro e w9 ⟨A9, c9, rfl, hT9⟩
  have T9 := T8.trans hT9
  have B9 := hT9.blk B8 (by simp)
  have X9 := hT9.blk X8 (by simp)
  clear x0 x1 x2 x3 xl b0 bl B8 X8 T8 hT9
  have x0 := X9.cell 0
  have x1 := X9.cell 1
  have x2 := X9.cell 2
  have x3 := X9.cell 3
  have xl := X9.lt
  have b0 := B9.cell 0
  have bl := B9.lt
  go_wp2_with fail
  refine (DR.out _).mono ?_
  rintro e w10 ⟨rfl, hT10⟩
  have hT10' := ((Turn.refl [] w9).alloc (.cells #[.int .i64 a] 3)).trans hT10
  have T10 := T9.trans hT10'
  have B10 := hT10'.blk B9 (by simp)
  have X10 := hT10'.blk X9 (by simp)
  clear x0 x1 x2 x3 xl b0 bl B9 X9 T9 hT10 hT10'
  go_wp2_with fail
  refine (allNil _).mono ?_
  rintro e w' ⟨rfl, rfl⟩
  have x0 := X10.cell 0
  have x1 := X10.cell 1
  have x2 := X10.cell 2
  have x3 := X10.cell 3
  have xl := X10.lt
  have b0 := B10.cell 0
  have bl := B10.lt
  go_wp2_with fail
  refine (upNil _).mono ?_
  rintro e w11 ⟨rfl, hT11⟩
  have T11 := T10.trans hT11
  have B11 := hT11.blk B10 (by simp)
  have X11 := hT11.blk X10 (by simp)
  clear x0 x1 x2 x3 xl b0 bl B10 X10 T10 hT11
  have x0 := X11.cell 0
  have x1 := X11.cell 1
  have x2 := X11.cell 2
  have x3 := X11.cell 3
  have xl := X11.lt
  have b0 := B11.cell 0
  have bl := B11.lt
  go_wp2_with fail
  refine (hasNil a b c d _).mono ?_
  rintro e w12 ⟨rfl, hT12⟩
  have T12 := T11.trans hT12
  have B12 := hT12.blk B11 (by simp)
  have X12 := hT12.blk X11 (by simp)
  clear x0 x1 x2 x3 xl b0 bl B11 X11 T11 hT12
  have x0 := X12.cell 0
  have x1 := X12.cell 1
  have x2 := X12.cell 2
  have x3 := X12.cell 3
  have xl := X12.lt
  have b0 := B12.cell 0
  have bl := B12.lt
  go_wp2_with fail
  refine (ownNil _).mono ?_
  rintro e w13 ⟨rfl, hT13⟩
  have T13 := T12.trans hT13
  have B13 := hT13.blk B12 (by simp)
  have X13 := hT13.blk X12 (by simp)
  clear x0 x1 x2 x3 xl b0 bl B12 X12 T12 hT13
  go_wp2_with fail
  refine (lenNilV _).mono ?_
  rintro e w' ⟨rfl, rfl⟩
  go_wp2_with fail
  go_ret
  exact ⟨by simp, T13⟩
end Go.Proofs.Ytelagneielahhaa
