/- The walk of the law ProbeDraws. -/
import Derived.Test.YtibepkipbmfonaaSome
import Derived.Deep.RegionHeld3
import Derived.Test.YtibepkipbmfonaaRoundsW
import Derived.Lib.MinMax
namespace Go.Proofs.Ytibepkipbmfonaa
open Go.RowKit Go.ChangeMaps

def byteQ : Nat → Int | 8 => 1 | 7 => 256 | 6 => 65536 | 5 => 16777216 | 4 => 4294967296 | 3 => 1099511627776 | 2 => 281474976710656 | 1 => 72057594037927936 | _ => 18446744073709551616
theorem byteQ_step (v : Int) : ∀ j, j < 8 → v / byteQ (j + 1) / 256 = v / byteQ j := fun j h => by
  have : j = 0 ∨ j = 1 ∨ j = 2 ∨ j = 3 ∨ j = 4 ∨ j = 5 ∨ j = 6 ∨ j = 7 := by omega
  rcases this with rfl | rfl | rfl | rfl | rfl | rfl | rfl | rfl <;> simp only [byteQ] <;> omega
theorem byteQ_at (v : Int) : ∀ j, j < 8 → (v / byteQ (j + 1)) % 256 = eightB v j := fun j h => by
  have : j = 0 ∨ j = 1 ∨ j = 2 ∨ j = 3 ∨ j = 4 ∨ j = 5 ∨ j = 6 ∨ j = 7 := by omega
  unfold eightB
  rw [IntKind.wrap_u8]
  rcases this with rfl | rfl | rfl | rfl | rfl | rfl | rfl | rfl <;> rfl
theorem byteQ_range {v : Int} (h0 : 0 ≤ v) (h1 : v ≤ 18446744073709551615) : ∀ j, j ≤ 8 → 0 ≤ v / byteQ j ∧ v / byteQ j ≤ 18446744073709551615 := fun j h => by
  have : j = 0 ∨ j = 1 ∨ j = 2 ∨ j = 3 ∨ j = 4 ∨ j = 5 ∨ j = 6 ∨ j = 7 ∨ j = 8 := by omega
  rcases this with rfl | rfl | rfl | rfl | rfl | rfl | rfl | rfl | rfl <;> simp only [byteQ] <;> omega

set_option maxRecDepth 100000 in
set_option maxHeartbeats 4000000 in
theorem draws_walk (seed : Int) (A : Option Addr) (len cap : Nat) (n : Int) (xs : List Int) (w : World) (hx : Sl w A (i64s xs)) (hxn : xs.length = len) (hxc : len ≤ cap) (hxm : cap ≤ maxLen) (hn : n ≤ 9223372036854775807) :
    Calls Try.prog 5 #[.int .u64 seed, .slice A len cap, .int .i64 n] w fun e w' => e = .returned (.bool true) ∧ Turn [] w w' := by
  have HXN := Lib.hid hxn
  clear hxn
  go_enter Try.func5, Try.ntmps5
  go_wp2_with fail
  refine (seeded_c seed _).mono ?_
  rintro e w1 ⟨rfl, rfl⟩
  go_wp2_with fail
  have start : Turn [] w ((w.alloc (.cells #[.int .u64 seed] 56)).alloc (.cells #[.int .u64 seed] 38)) ∧ Blk ((w.alloc (.cells #[.int .u64 seed] 56)).alloc (.cells #[.int .u64 seed] 38)) w.heap.size 56 #[.int .u64 seed] ∧ Blk ((w.alloc (.cells #[.int .u64 seed] 56)).alloc (.cells #[.int .u64 seed] 38)) (w.heap.size + 1) 38 #[.int .u64 seed] ∧ w.heap.size + 2 ≤ ((w.alloc (.cells #[.int .u64 seed] 56)).alloc (.cells #[.int .u64 seed] 38)).heap.size := by
    have b0 := Blk.new w 56 #[.int .u64 seed]
    have b1 := Blk.new (w.alloc (.cells #[.int .u64 seed] 56)) 38 #[.int .u64 seed]
    simp only [World.size_alloc] at b1
    exact ⟨((Turn.refl [] w).alloc _).alloc _, b0.alloc _, b1, by simp⟩
  obtain ⟨T0, d0, m0, z0⟩ := start
  generalize hw4 : ((w.alloc (.cells #[.int .u64 seed] 56)).alloc (.cells #[.int .u64 seed] 38)) = w4 at *
  clear hw4
  refine (few_c A len cap 20 xs _ (hx.turn0 T0) HXN.out hxc (by omega) hxm).mono ?_
  have m1 : (xs.take 20).length ≤ 20 := by simp; omega
  generalize xs.take 20 = X at *
  generalize hXn : X.length = nx at *
  have XN := Lib.hid hXn
  clear hXn
  rintro e w2 ⟨B1, e1, rfl, o1, hT2⟩
  have sB := Sl.of_own o1
  have fB : Off B1 [w.heap.size, w.heap.size + 1] := fun a ha => by have := own_base o1 a ha; simp; omega
  obtain ⟨hnc, hcm⟩ := own_caps o1
  have d1 := hT2.blk d0 (by simp)
  have e1' := hT2.blk m0 (by simp)
  have z2 := hT2.size
  have TT := T0.trans hT2
  clear o1 hT2 hx d0 m0 T0
  go_wp2_with fail
  go_loopw [9] (fun i wr => ∃ k : Nat, k ≤ 20 ∧ i = .int .i64 k ∧ ∃ s, Blk wr w.heap.size 56 #[.int .u64 s] ∧ Blk wr (w.heap.size + 1) 38 #[.int .u64 s] ∧ Turn [w.heap.size, w.heap.size + 1] w2 wr) (fun i _ => 21 - (intOf i).toNat)
  case atStart => exact ⟨0, by omega, rfl, seed, d1, e1', Turn.refl _ _⟩
  case round =>
    obtain ⟨k, hk, rfl, s, d2, m2, hT⟩ := hrel
    have i0 : (0 : Int) ≤ (k : Int) := Int.natCast_nonneg _
    have TW : ∀ wz, Turn [w.heap.size, w.heap.size + 1] w2 wz → Turn [] w wz := fun wz h => TT.andThen h (by intro i hi; simp at hi; rcases hi with rfl | rfl <;> exact .inr (by omega))
    clear d1 e1'
    have zr := hT.size
    by_cases hgo : k < 20
    · have i1 : (k : Int) < 20 := by omega
      have hc : (k : Int) % 4 = 0 ∨ (k : Int) % 4 = 1 ∨ (k : Int) % 4 = 2 ∨ (k : Int) % 4 = 3 := by omega
      have hc' : (k : Int).tmod 4 = (k : Int) % 4 := Int.tmod_eq_emod_of_nonneg i0
      rcases hc with h4 | h4 | h4 | h4
      · rw [h4] at hc'
        go_wp2_with fail
        refine (dnext_c w.heap.size s wr d2).mono ?_
        rintro e wa ⟨rfl, d3, hTa⟩
        have m3 := hTa.blk m2 (by simp)
        go_wp2_with fail
        refine (rdnext_c (w.heap.size + 1) s wa m3).mono ?_
        rintro e wb ⟨rfl, m4, hTb⟩
        have d4 := hTb.blk d3 (by simp)
        go_wp2_with fail
        go_roundw
        case rel => exact ⟨k + 1, by omega, by go_num, dstep s, d4, m4, (hT.trans (hTa.mono (by simp))).trans (hTb.mono (by simp))⟩
        case measure => simp [intOf]; omega
      · rw [h4] at hc'
        by_cases hnp : 0 < n
        · have hz : n ≠ 0 := by omega
          have hw1 : IntKind.u64.wrap n = n := by rw [IntKind.wrap_u64]; omega
          have hr := dbelow_range (n := n) (s := s) (by omega)
          have hvr := dval_range (dstep s)
          have hnb : wrap64 (dval (dstep s) % n) = dbelow n s := IntWalk.wrap64_in _ ⟨by unfold dbelow at hr; omega, by unfold dbelow at hr; omega⟩
          have BL := Lib.hid (fun (wz : World) (h : Blk wz w.heap.size 56 #[.int .u64 s]) => below_c w.heap.size s n wz h (by omega) hn)
          generalize hdb : dbelow n s = db at *
          have hdv : dval (dstep s) % n = db := hdb
          have HDB := Lib.hid hdb
          clear hdb
          go_wp2_with fail
          refine (rdnext_c (w.heap.size + 1) s wr m2).mono ?_
          rintro e wa ⟨rfl, m3, hTa⟩
          have d3 := hTa.blk d2 (by simp)
          generalize dval (dstep s) = v at *
          go_wp2_with fail
          refine (BL.out wa d3).mono ?_
          rintro e wb ⟨rfl, d4, hTb⟩
          have m4 := hTb.blk m3 (by simp)
          go_wp2_with fail
          go_roundw
          case rel => exact ⟨k + 1, by omega, by go_num, dstep s, d4, m4, (hT.trans (hTa.mono (by simp))).trans (hTb.mono (by simp))⟩
          case measure => simp [intOf]; omega
        · have hn1 : n < 1 := by omega
          go_wp2_with fail
          refine (below_no _ n wr hn1).mono ?_
          rintro e wa ⟨rfl, rfl⟩
          go_wp2_with fail
          go_roundw
          case rel => exact ⟨k + 1, by omega, by go_num, s, d2, m2, hT⟩
          case measure => simp [intOf]; omega
      · rw [h4] at hc'
        have sW := sB.turn hT fB
        go_wp2_with fail
        refine (rmix_c (w.heap.size + 1) s B1 nx e1 X wr m2 sW XN.out (by omega)).mono ?_
        rintro e wa ⟨A', c', rfl, oA, m3, hTa⟩
        have d3 := hTa.blk d2 (by simp)
        have sA := Sl.of_own oA
        have fA : Off A' [w.heap.size, w.heap.size + 1] := fun a ha => by have := own_base oA a ha; simp; omega
        have sW' := sW.turn hTa (fun a ha => by have := fB a ha; simp at this ⊢; omega)
        have hac := (own_caps oA).1
        have hxl : (mixL s X).2.length = nx := by rw [mixL_length, XN.out]
        by_cases h9 : (9 : Int) < (k : Int)
        · have hkv : min (max n 0) (nx : Int) = ((someN n nx : Nat) : Int) := by unfold someN; omega
          have hkn : someN n nx ≤ nx := by unfold someN; omega
          have SC := Lib.hid (some_c w.heap.size s n B1 nx e1 X wa d3 sW' XN.out (by omega))
          have sA' := i64s_take sA (someN n nx)
          have hkl : ((mixL s X).2.take (someN n nx)).length = someN n nx := by rw [List.length_take, hxl]; omega
          generalize (mixL s X).2.take (someN n nx) = Y at *
          generalize (mixL s X).1 = s' at *
          generalize someN n nx = q at *
          have HYL := Lib.hid hkl
          clear hkl hxl
          obtain ⟨iI, hiI, -⟩ := elemI.info
          have HD := fun (w : World) => run_slice_head (P := Try.prog) Try.underlying23 hiI w A' nx c' .i64 (min (max n 0) (nx : Int)) (by omega) (by omega)
          have hkt : (min (max n 0) (nx : Int)).toNat = q := by omega
          rw [hkt] at HD
          clear hiI hkt hkv
          go_wp2_with fail
          refine SC.out.mono ?_
          rintro e wb ⟨A2, rfl, sY, -, d4, hTb⟩
          have m4 := hTb.blk m3 (by simp)
          have sA2 := sA'.turn hTb (fun a ha => by have := fA a ha; simp at this ⊢; omega)
          go_wp2_with fail
          refine (same8_eq _ _ _ _ _ _ Y wb sY sA2 HYL.out HYL.out (by omega)).mono ?_
          rintro e wc ⟨rfl, hTc⟩
          go_wp2_with fail
          go_roundw
          case rel => exact ⟨k + 1, by omega, by go_num, s', hTc.blk d4 (by simp), hTc.blk m4 (by simp), ((hT.trans (hTa.mono (by simp))).trans (hTb.mono (by simp))).trans (hTc.mono (by simp))⟩
          case measure => simp [intOf]; omega
        · have MC := Lib.hid (mix_c w.heap.size s B1 nx e1 X wa d3 sW' XN.out (by omega))
          generalize mixL s X = q at *
          have HYL := Lib.hid hxl
          clear hxl
          go_wp2_with fail
          refine MC.out.mono ?_
          rintro e wb ⟨A2, c2, rfl, oY, d4, hTb⟩
          have sY := Sl.of_own oY
          have m4 := hTb.blk m3 (by simp)
          have sA2 := sA.turn hTb (fun a ha => by have := fA a ha; simp at this ⊢; omega)
          go_wp2_with fail
          refine (same8_eq _ _ _ _ _ _ q.2 wb sY sA2 HYL.out HYL.out (by omega)).mono ?_
          rintro e wc ⟨rfl, hTc⟩
          go_wp2_with fail
          go_roundw
          case rel => exact ⟨k + 1, by omega, by go_num, q.1, hTc.blk d4 (by simp), hTc.blk m4 (by simp), ((hT.trans (hTa.mono (by simp))).trans (hTb.mono (by simp))).trans (hTc.mono (by simp))⟩
          case measure => simp [intOf]; omega
      · rw [h4] at hc'
        go_wp2_with fail
        refine (rdnext_c (w.heap.size + 1) s wr m2).mono ?_
        rintro e wa ⟨rfl, m3, hTa⟩
        have d3 := hTa.blk d2 (by simp)
        have E8 := Lib.hid (eight_c w.heap.size s wa d3)
        obtain ⟨hv0, hv1⟩ := dval_range (dstep s)
        generalize dval (dstep s) = v at *
        go_wp2_with fail
        refine E8.out.mono ?_
        rintro e wb ⟨rfl, d4, hTb⟩
        have m4 := hTb.blk m3 (by simp)
        simp only [eightA, eb]
        simp only [Nat.reduceLT, if_true]
        go_wp2_with fail
        have B8 := Blk.new wb 51 #[.int .u8 (eightB v 0), .int .u8 (eightB v 1), .int .u8 (eightB v 2), .int .u8 (eightB v 3), .int .u8 (eightB v 4), .int .u8 (eightB v 5), .int .u8 (eightB v 6), .int .u8 (eightB v 7)]
        have hTc := (Turn.refl [] wb).alloc (.cells #[.int .u8 (eightB v 0), .int .u8 (eightB v 1), .int .u8 (eightB v 2), .int .u8 (eightB v 3), .int .u8 (eightB v 4), .int .u8 (eightB v 5), .int .u8 (eightB v 6), .int .u8 (eightB v 7)] 51)
        generalize wb.alloc (.cells #[.int .u8 (eightB v 0), .int .u8 (eightB v 1), .int .u8 (eightB v 2), .int .u8 (eightB v 3), .int .u8 (eightB v 4), .int .u8 (eightB v 5), .int .u8 (eightB v 6), .int .u8 (eightB v 7)] 51) = wd at *
        have d5 := hTc.blk d4 (by simp)
        have m5 := hTc.blk m4 (by simp)
        go_loopw [12, 14] (fun x i wz => ∃ j : Nat, j ≤ 8 ∧ i = .int .i64 ((j : Int) - 1) ∧ x = .int .u64 (v / byteQ j) ∧ wz = wd) (fun _ i _ => (intOf i + 1).toNat)
        case atStart => exact ⟨8, by omega, by go_num, by simp [byteQ], rfl⟩
        case round =>
          obtain ⟨j, hj, rfl, rfl, hwz⟩ := hrel
          subst hwz
          have hj' : j = 0 ∨ j = 1 ∨ j = 2 ∨ j = 3 ∨ j = 4 ∨ j = 5 ∨ j = 6 ∨ j = 7 ∨ j = 8 := by omega
          rcases hj' with rfl | rfl | rfl | rfl | rfl | rfl | rfl | rfl | rfl
          · go_wp2_with fail
            go_roundw
            case rel => exact ⟨k + 1, by omega, by go_num, dstep s, d5, m5, ((hT.trans (hTa.mono (by simp))).trans (hTb.mono (by simp))).trans (hTc.mono (by simp))⟩
            case measure => simp [intOf]; omega
          · have hq := byteQ_at v 0 (by omega)
            have cq := B8.cell 0
            have hs := byteQ_step v 0 (by omega)
            have hr := byteQ_range hv0 hv1 1 (by omega)
            generalize v / byteQ 1 = y at *
            obtain ⟨r0, r1⟩ := hr
            go_wp2_with fail
            go_roundw
            case rel => exact ⟨0, by omega, by go_num, by rw [hs], trivial⟩
            case measure => simp [intOf]
          · have hq := byteQ_at v 1 (by omega)
            have cq := B8.cell 1
            have hs := byteQ_step v 1 (by omega)
            have hr := byteQ_range hv0 hv1 2 (by omega)
            generalize v / byteQ 2 = y at *
            obtain ⟨r0, r1⟩ := hr
            go_wp2_with fail
            go_roundw
            case rel => exact ⟨1, by omega, by go_num, by rw [hs], trivial⟩
            case measure => simp [intOf]
          · have hq := byteQ_at v 2 (by omega)
            have cq := B8.cell 2
            have hs := byteQ_step v 2 (by omega)
            have hr := byteQ_range hv0 hv1 3 (by omega)
            generalize v / byteQ 3 = y at *
            obtain ⟨r0, r1⟩ := hr
            go_wp2_with fail
            go_roundw
            case rel => exact ⟨2, by omega, by go_num, by rw [hs], trivial⟩
            case measure => simp [intOf]
          · have hq := byteQ_at v 3 (by omega)
            have cq := B8.cell 3
            have hs := byteQ_step v 3 (by omega)
            have hr := byteQ_range hv0 hv1 4 (by omega)
            generalize v / byteQ 4 = y at *
            obtain ⟨r0, r1⟩ := hr
            go_wp2_with fail
            go_roundw
            case rel => exact ⟨3, by omega, by go_num, by rw [hs], trivial⟩
            case measure => simp [intOf]
          · have hq := byteQ_at v 4 (by omega)
            have cq := B8.cell 4
            have hs := byteQ_step v 4 (by omega)
            have hr := byteQ_range hv0 hv1 5 (by omega)
            generalize v / byteQ 5 = y at *
            obtain ⟨r0, r1⟩ := hr
            go_wp2_with fail
            go_roundw
            case rel => exact ⟨4, by omega, by go_num, by rw [hs], trivial⟩
            case measure => simp [intOf]
          · have hq := byteQ_at v 5 (by omega)
            have cq := B8.cell 5
            have hs := byteQ_step v 5 (by omega)
            have hr := byteQ_range hv0 hv1 6 (by omega)
            generalize v / byteQ 6 = y at *
            obtain ⟨r0, r1⟩ := hr
            go_wp2_with fail
            go_roundw
            case rel => exact ⟨5, by omega, by go_num, by rw [hs], trivial⟩
            case measure => simp [intOf]
          · have hq := byteQ_at v 6 (by omega)
            have cq := B8.cell 6
            have hs := byteQ_step v 6 (by omega)
            have hr := byteQ_range hv0 hv1 7 (by omega)
            generalize v / byteQ 7 = y at *
            obtain ⟨r0, r1⟩ := hr
            go_wp2_with fail
            go_roundw
            case rel => exact ⟨6, by omega, by go_num, by rw [hs], trivial⟩
            case measure => simp [intOf]
          · have hq := byteQ_at v 7 (by omega)
            have cq := B8.cell 7
            have hs := byteQ_step v 7 (by omega)
            have hr := byteQ_range hv0 hv1 8 (by omega)
            generalize v / byteQ 8 = y at *
            obtain ⟨r0, r1⟩ := hr
            go_wp2_with fail
            go_roundw
            case rel => exact ⟨7, by omega, by go_num, by rw [hs], trivial⟩
            case measure => simp [intOf]
    · have i1 : ¬ (k : Int) < 20 := by omega
      go_wp2_with fail
      refine (known_c _).mono ?_
      rintro e w5 ⟨rfl, hT5⟩
      go_wp2_with fail
      go_ret
      exact ⟨by simp, (TW _ hT).trans hT5⟩
end Go.Proofs.Ytibepkipbmfonaa
