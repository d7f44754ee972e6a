/- The walk of NetPlays. -/
import Derived.Test.YtiijgokgojjocaaNpC
import Derived.Test.YtiijgokgojjocaaOpenA
namespace Go.Proofs.Ytiijgokgojjocaa
open Go.RowKit Go.ChangeMaps Go.WideMaps Go.MapKept Go.WideShapes

/-- At the head of a round. -/
def NpInv (w : World) (g d cb kb base m : Nat) (k : Nat) (wr : World) : Prop := ∃ N R, Np2 w g d cb kb base m N R wr ∧ NpEq N R k
set_option maxRecDepth 100000 in
set_option maxHeartbeats 16000000 in
theorem nplays_walk (s0 : Int) (A0 : Option Addr) (len cap0 : Nat) (X : Nat → Act9) (fr dst : Int) (w : World) (hX : Acts9 w A0 len X) (hlen : len ≤ maxLen) (hfr : wf64 fr) (hdst : wf64 dst) :
    Calls Try.prog 6 #[.int .u64 s0, .slice A0 len cap0, .int .i64 fr, .int .i64 dst] w fun e w' => e = .returned (.bool true) ∧ Turn [] w w' := by
  have KC := Lib.hid (fun wz => known_c wz)
  unfold maxLen at hlen
  have HX := Lib.hid hX
  have WF := Lib.hid (And.intro hfr hdst)
  clear hX hfr hdst
  go_enter Try.func6, Try.ntmps6
  go_wp2_with fail
  refine (newN_c s0 w).mono ?_
  rintro e w1 ⟨g, d, cb, kb, base, rfl, N1, hlo, hT1⟩
  have HI : Hid (NpInv w g d cb kb base w1.heap.size 0 (w1.alloc (.cells #[.int .u64 s0, .int .i64 0, .int .i64 0, .int .i64 0, .int .i64 1, .slice none 0 0, .slice none 0 0, .slice none 0 0, .int .i64 0, .int .i64 0, .int .i64 0] 54))) := by
    have TA : Turn [] w1 (w1.alloc (.cells #[.int .u64 s0, .int .i64 0, .int .i64 0, .int .i64 0, .int .i64 1, .slice none 0 0, .slice none 0 0, .slice none 0 0, .int .i64 0, .int .i64 0, .int .i64 0] 54)) := (Turn.refl [] w1).alloc _
    have hl := N1.lo
    refine ⟨⟨s0, ⟨0, 0, 0, 1⟩, [], [], none, 0, 0, [], 0, 0, 0⟩, ⟨s0, ⟨0, 0, 0, 1⟩, none, 0, 0, [], none, 0, 0, [], none, 0, 0, [], 0, 0, 0⟩, ⟨NetIs.turn N1 TA (by simp), ⟨Blk.new _ _ _, ⟨w1.heap.size + 1, by omega, World.ownsRow_nil _ _ _ _⟩, ⟨w1.heap.size + 1, by omega, World.ownsRow_nil _ _ _ _⟩, ⟨w1.heap.size + 1, by omega, World.ownsRow_nil _ _ _ _⟩, by simp [blks], by simp, N1.rok⟩, hl, ⟨by omega, by omega, by omega, by omega, by omega⟩, by simp [blks], by simp [RS.rows, blks], by simp, hT1.trans TA⟩, ⟨rfl, rfl, rfl, rfl, fun p => by simp [pget, sumP], rfl, rfl, rfl, by simp, by simp, by simp, by simp, by simp, by simp⟩⟩
  clear N1 hlo hT1
  go_upto_block 0 with fail
  generalize w1.alloc (.cells #[.int .u64 s0, .int .i64 0, .int .i64 0, .int .i64 0, .int .i64 1, .slice none 0 0, .slice none 0 0, .slice none 0 0, .int .i64 0, .int .i64 0, .int .i64 0] 54) = w2 at *
  generalize w1.heap.size = m at *
  go_cut [11] (fun _ wc => ∃ k, NpInv w g d cb kb base m k wc)
  case first =>
    go_wp2_with fail
    go_loopw [11] (fun ix wr => ∃ i : Nat, i ≤ len ∧ i ≤ 40 ∧ ix = .int .i64 ((i : Nat) : Int) ∧ NpInv w g d cb kb base m (12 * i) wr) (fun ix _ => 40 - (intOf ix).toNat)
    case atStart => exact ⟨0, by omega, by omega, rfl, HI.out⟩
    case round =>
      obtain ⟨i, hi, hi40, rfl, N, R, two, eq⟩ := hrel
      obtain ⟨wx, rfl⟩ : ∃ wo : World, wo = wr := ⟨_, rfl⟩
      have i0 : (0 : Int) ≤ (i : Int) := Int.natCast_nonneg _
      clear HI
      as_aux_lemma =>
        by_cases hgo : i < len ∧ i < 40
        · skip
          as_aux_lemma =>
            obtain ⟨hlt, hlt40⟩ := hgo
            have i1 : (i : Int) < (len : Int) := by omega
            have i2 : (i : Int) < 40 := by omega
            obtain ⟨bl, off, rfl, hbl, hcell⟩ := HX.out (by omega)
            obtain ⟨hF, hL4, hF5, hLn, hrows⟩ := hcell i hlt
            have TW := two.turn
            have q0 : wx.cell? ⟨bl, off + i * 9, none⟩ = _ := (TW.cell hbl (by simp)).trans (hF 0 (by omega)).1
            have q1 : wx.cell? ⟨bl, off + i * 9 + 1, none⟩ = _ := (TW.cell hbl (by simp)).trans (hF 1 (by omega)).1
            have q2 : wx.cell? ⟨bl, off + i * 9 + 2, none⟩ = _ := (TW.cell hbl (by simp)).trans (hF 2 (by omega)).1
            have q3 : wx.cell? ⟨bl, off + i * 9 + 3, none⟩ = _ := (TW.cell hbl (by simp)).trans (hF 3 (by omega)).1
            have q4 : wx.cell? ⟨bl, off + i * 9 + 4, none⟩ = _ := (TW.cell hbl (by simp)).trans hL4
            have q5 : wx.cell? ⟨bl, off + i * 9 + 5, none⟩ = some (.int .i64 ((X i).F 5)) := (TW.cell hbl (by simp)).trans (hF5 0 (by omega)).1
            have q6 : wx.cell? ⟨bl, off + i * 9 + 6, none⟩ = some (.int .i64 ((X i).F 6)) := (TW.cell hbl (by simp)).trans (hF5 1 (by omega)).1
            have q7 : wx.cell? ⟨bl, off + i * 9 + 7, none⟩ = some (.int .i64 ((X i).F 7)) := (TW.cell hbl (by simp)).trans (hF5 2 (by omega)).1
            have q8 : wx.cell? ⟨bl, off + i * 9 + 8, none⟩ = some (.int .i64 ((X i).F 8)) := (TW.cell hbl (by simp)).trans (hF5 3 (by omega)).1
            have WA := Lib.hid (And.intro (hF 1 (by omega)).2 (hF 2 (by omega)).2)
            have hb3 := Nat.lt_of_lt_of_le hbl TW.size
            have HLT := Lib.hid (Letters.of_rows hrows)
            have TWO := Lib.hid two
            have EQ := Lib.hid eq
            clear hcell TW two eq hF hL4 hF5 hrows
            generalize (X i).F 0 = f0 at *
            generalize (X i).F 1 = fa at *
            generalize (X i).F 2 = fb at *
            generalize (X i).F 3 = f3 at *
            generalize (X i).F 5 = r0 at *
            generalize (X i).F 6 = r1 at *
            generalize (X i).F 7 = r2 at *
            generalize (X i).F 8 = r3 at *
            generalize (X i).A = LA at *
            generalize (X i).n = ln at *
            generalize (X i).c = lc at *
            generalize (fun i_1 => (⟨(X i).As i_1, (X i).ns i_1, (X i).cs i_1, (X i).Z i_1⟩ : Bs)) = L at *
            go_wp2_with fail
            have TA : Turn [] wx (wx.alloc (.cells #[.int .i64 f0, .int .i64 fa, .int .i64 fb, .int .i64 f3, .slice LA ln lc, .int .i64 r0, .int .i64 r1, .int .i64 r2, .int .i64 r3] 56)) := (Turn.refl [] wx).alloc _
            refine (few_c LA ln lc L fb _ (HLT.out.turn0 (TWO.out.turn.trans TA)) hLn).mono ?_
            rintro e w6 ⟨XA, xc, YA, yc, rfl, oX, oY, hT6⟩
            as_aux_lemma =>
              have T6 : Turn [] wx w6 := TA.trans hT6
              have HBA := Lib.hid (hT6.blk (Blk.new wx 56 #[.int .i64 f0, .int .i64 fa, .int .i64 fb, .int .i64 f3, .slice LA ln lc, .int .i64 r0, .int .i64 r1, .int .i64 r2, .int .i64 r3]) (by simp))
              have TWO6 := Lib.hid (TWO.out.turn0 T6)
              have HLS := Lib.hid (LsOk.few HLT.out fb (Nat.min_le_left ln 6))
              have HLL := Lib.hid (fewL_len fb L (min ln 6))
              have hX6 := own_ltA oX
              have hY6 := own_ltA oY
              have SX := Lib.hid (Sl.of_own oX)
              have SY := Lib.hid (Sl.of_own oY)
              have hxs : wx.heap.size + 1 = (wx.alloc (.cells #[.int .i64 f0, .int .i64 fa, .int .i64 fb, .int .i64 f3, .slice LA ln lc, .int .i64 r0, .int .i64 r1, .int .i64 r2, .int .i64 r3] 56)).heap.size := by simp
              rw [← hxs] at hX6 hY6
              have HX6 : Hid ((∀ j ∈ blks XA, j < w6.heap.size ∧ wx.heap.size + 1 ≤ j) ∧ (∀ j ∈ blks YA, j < w6.heap.size ∧ wx.heap.size + 1 ≤ j) ∧ wx.heap.size < w6.heap.size) := ⟨hX6, hY6, HBA.out.lt⟩
              have nl6 : min ln 6 ≤ 6 := Nat.min_le_right ln 6
              have NB : Hid (∀ b, wx.heap.size ≤ b → b ∉ m :: g :: d :: cb :: kb :: (blks N.A ++ R.rows)) := fun b hb hm => by
                have h1 := TWO.out.lts
                simp only [List.mem_cons, List.mem_append] at hm
                rcases hm with h2 | h2 | h2 | h2 | h2 | h2 | h2
                · omega
                · omega
                · omega
                · omega
                · omega
                · have := (TWO.out.blkA b h2).1; omega
                · have := (TWO.out.rowsLt b h2).1; omega
              have AE : ∀ wy, Turn (m :: g :: d :: cb :: kb :: (blks N.A ++ R.rows)) w6 wy → (wy.cell? ⟨wx.heap.size, 1, none⟩ = some (.int .i64 fa) ∧ wy.cell? ⟨wx.heap.size, 2, none⟩ = some (.int .i64 fb) ∧ Turn (m :: g :: d :: cb :: kb :: (blks N.A ++ R.rows)) w6 wy) := fun wy hy => by
                have B := hy.blk HBA.out (NB.out _ (Nat.le_refl _))
                exact ⟨B.cell 1, B.cell 2, hy⟩
              have hk480 : 12 * i ≤ 468 := by omega
              have a0 := HBA.out.cell 0
              have al := HBA.out.lt
              clear oX oY q0 q1 q2 q3 q4 q5 q6 q7 q8 TA hT6 T6 hX6 hY6 hxs
              generalize fewL fb L (min ln 6) = LS at *
              generalize min ln 6 = nl at *
              have htk := umod_range f3 1073741825 (by omega) (by omega)
              go_upto_block 2 with fail
              generalize wrap64 ((IntKind.u64.wrap f3).tmod 1073741825) = tt at *
              have hkr : 0 ≤ (IntKind.u64.wrap f0).tmod 6 ∧ (IntKind.u64.wrap f0).tmod 6 < 6 := by
                have h2 : 0 ≤ IntKind.u64.wrap f0 := by rw [IntKind.wrap_u64]; omega
                rw [Int.tmod_eq_emod_of_nonneg h2]
                omega
              generalize (IntKind.u64.wrap f0).tmod 6 = kd at *
              go_cut [16, 17, 18, 19] (fun _ _ _ _ wc => NpInv w g d cb kb base m (12 * i + 12) wc)
              case first =>
                have hkk : kd = 0 ∨ kd = 1 ∨ kd = 2 ∨ kd = 3 ∨ kd = 4 ∨ kd = 5 := by omega
                clear hkr
                rcases hkk with rfl | rfl | rfl | rfl | rfl | rfl
                · skip
                  as_aux_lemma =>
                    go_wp2_with fail
                    go_loopw [16, 17] (fun kx jx wr => ∃ (j : Nat) (R' : RS), j ≤ nl ∧ jx = .int .i64 ((j : Nat) : Int) ∧ kx = .int .i64 (((sendAll (cutP R.cl) R.r tt fa R.n R.s (LS.take j)).1.length : Nat) : Int) ∧ SdRel w g d cb kb base m N R w6 tt fa LS j R' wr) (fun _ jx _ => nl - (intOf jx).toNat)
                    case atStart => exact ⟨0, R, by omega, rfl, by simp [sendAll], SdRel.start TWO6.out⟩
                    case round =>
                      obtain ⟨j, R', hj, rfl, rfl, SD⟩ := hrel
                      obtain ⟨wz, rfl⟩ : ∃ wo : World, wo = wr := ⟨_, rfl⟩
                      have j0 : (0 : Int) ≤ (j : Int) := Int.natCast_nonneg _
                      have TZ := SD.turn
                      have hnb : ∀ b, wx.heap.size ≤ b → b ∉ m :: blks R.A := fun b hb hm => NB.out b hb (by simp [RS.rows] at hm ⊢; rcases hm with hm | hm <;> simp [hm])
                      by_cases hlt : j < nl
                      · have j1 : (j : Int) < (nl : Int) := by omega
                        have hjl : j < LS.length := by have := HLL.out; omega
                        obtain ⟨yb, yo, rfl, ybl, y0, y1⟩ := lcs_at SY.out hjl
                        have AZ : ∀ wy, Turn (m :: blks R.A) w6 wy → (wy.cell? ⟨wx.heap.size, 1, none⟩ = some (.int .i64 fa) ∧ wy.cell? ⟨yb, yo + j * 2, none⟩ = some (.int .i64 LS[j].dst) ∧ wy.cell? ⟨yb, yo + j * 2 + 1, none⟩ = some (.slice LS[j].B LS[j].nb LS[j].c) ∧ Turn (m :: blks R.A) w6 wy) := fun wy hy => by
                          have hyb := hnb yb (by have := (HX6.out.2.1 yb (by simp [blks])).2; omega)
                          exact ⟨(hy.blk HBA.out (hnb _ (Nat.le_refl _))).cell 1, (hy.cell ybl hyb).trans y0, (hy.cell ybl hyb).trans y1, hy⟩
                        obtain ⟨z1, z2, z3, -⟩ := AZ _ TZ
                        have zl := Nat.lt_of_lt_of_le HBA.out.lt TZ.size
                        have zyl := Nat.lt_of_lt_of_le ybl TZ.size
                        have TD : Turn [] wz wz.drew := (Turn.refl [] wz).drew
                        have TZD : Turn (m :: blks R.A) w6 wz.drew := TZ.drew
                        have CALL := Lib.hid (fun wy (hy : Turn [] wz wy) => npSend_c (SD.turn0 hy) EQ.out (by omega) TWO.out.ref HLS.out (by have := HLL.out; omega) htk.1 (by omega) WA.out.1 WA.out.2 hjl)
                        have hq := sendAll_len (cutP R.cl) R.r tt fa R.n R.s LS j (by omega)
                        generalize (sendAll (cutP R.cl) R.r tt fa R.n R.s (LS.take j)).1.length = q at *
                        have hq0 : (0 : Int) ≤ (q : Int) := Int.natCast_nonneg _
                        have sl2 := sendAll_len (cutP R.cl) R.r tt fa R.n R.s LS (j + 1) (by omega)
                        clear SD TZ y0 y1
                        go_wp2_with fail
                        go_region_held3 (fun w' => w'.cell? ⟨wx.heap.size, 1, none⟩ = some (.int .i64 fa) ∧ w'.cell? ⟨yb, yo + j * 2, none⟩ = some (.int .i64 LS[j].dst) ∧ w'.cell? ⟨yb, yo + j * 2 + 1, none⟩ = some (.slice LS[j].B LS[j].nb LS[j].c) ∧ Turn (m :: blks R.A) w6 w') (first | with_reducible exact AZ _ TZD | with_reducible exact AZ _ T7)
                          (first
                            | (go_at_call 19; refine (CALL.out _ TD).mono ?_; rintro e w7 ⟨a, R2, rfl, hlen2, SD2⟩; have T7 : Turn (m :: blks R.A) w6 w7 := SD2.turn; have sq : IntKind.i64.wrap ((q : Int) + (a : Int)) = (q : Int) + (a : Int) := IntWalk.i64_in _ (by omega)))
                        go_wp2_with fail
                        go_roundw
                        case rel => exact ⟨j + 1, R2, by omega, by go_num, by rw [hlen2]; simp, SD2⟩
                        case measure => simp [intOf]; omega
                      · obtain rfl : j = nl := by omega
                        have j1 : ¬ (j : Int) < (j : Int) := by omega
                        have htk2 : LS.take j = LS := List.take_of_length_le (by have := HLL.out; omega)
                        rw [htk2]
                        have CALL := Lib.hid (npSendN_c (show SdRel w g d cb kb base m N R w6 tt fa LS LS.length R' wz by rw [HLL.out]; exact SD) EQ.out (by omega) TWO.out.ref HLS.out (by have := HLL.out; omega) htk.1 (by omega) WA.out.1 WA.out.2 (SX.out.turn TZ (off_blks (fun b hb => hnb b (by have := (HX6.out.1 b hb).2; omega)))) (fun b hb => by
                          have h1 := NB.out b (by have := (HX6.out.1 b hb).2; omega)
                          simp only [List.mem_cons, List.mem_append, not_or] at h1
                          exact ⟨h1.2.1, h1.2.2.1, h1.2.2.2.2.2.1⟩) xc HLL.out)
                        generalize (sendAll (cutP R.cl) R.r tt fa R.n R.s LS).1.length = q at *
                        have z1 := (TZ.blk HBA.out (hnb _ (Nat.le_refl _))).cell 1
                        have zl := Nat.lt_of_lt_of_le HBA.out.lt TZ.size
                        clear SD TZ htk2
                        go_wp2_with fail
                        refine CALL.out.mono ?_
                        rintro e w7 ⟨rfl, N2, two2, eq2⟩
                        go_wp2_with fail
                        go_meet
                        exact ⟨N2, R', two2, eq2⟩
                · skip
                  as_aux_lemma =>
                    go_wp2_with fail
                    go_loopw [18] (fun jx wr => ∃ (j : Nat) (N' : NS) (R' : RS), j ≤ nl ∧ jx = .int .i64 ((j : Nat) : Int) ∧ InjRel w g d cb kb base m N R w6 (12 * i) j N' R' wr) (fun jx _ => nl - (intOf jx).toNat)
                    case atStart => exact ⟨0, N, R, by omega, rfl, InjRel.start TWO6.out EQ.out⟩
                    case round =>
                      obtain ⟨j, N', R', hj, rfl, IR⟩ := hrel
                      obtain ⟨wz, rfl⟩ : ∃ wo : World, wo = wr := ⟨_, rfl⟩
                      have j0 : (0 : Int) ≤ (j : Int) := Int.natCast_nonneg _
                      have TZ := IR.turn
                      have hnb : ∀ b, wx.heap.size ≤ b → b ∉ g :: m :: (blks N.A ++ blks R.A) := fun b hb hm => NB.out b hb (by simp [RS.rows] at hm ⊢; rcases hm with hm | hm | hm | hm <;> simp [hm])
                      by_cases hlt : j < nl
                      · have j1 : (j : Int) < (nl : Int) := by omega
                        have hjl : j < LS.length := by have := HLL.out; omega
                        obtain ⟨yb, yo, hYA, ybl, y0, y1⟩ := lcs_at SY.out hjl
                        obtain ⟨xb, xo, hXA, xbl, x0, x1⟩ := lcs_at SX.out hjl
                        have hyb := hnb yb (by have := (HX6.out.2.1 yb (by rw [hYA]; simp [blks])).2; omega)
                        have hxb := hnb xb (by have := (HX6.out.1 xb (by rw [hXA]; simp [blks])).2; omega)
                        obtain ⟨l1, l2, l3, l4, l5⟩ := HLS.out.ok LS[j] (List.getElem_mem hjl)
                        obtain ⟨l, hl⟩ : ∃ l, l = LS[j] := ⟨_, rfl⟩
                        rw [← hl] at x1 y1 l1 l2 l3 l5
                        have HL5 := Lib.hid l5
                        subst hYA
                        subst hXA
                        have AZ : ∀ wy, Turn (g :: m :: (blks N.A ++ blks R.A)) w6 wy → (wy.cell? ⟨wx.heap.size, 1, none⟩ = some (.int .i64 fa) ∧ wy.cell? ⟨wx.heap.size, 2, none⟩ = some (.int .i64 fb) ∧ wy.cell? ⟨xb, xo + j * 2 + 1, none⟩ = some (.slice l.B l.nb l.c) ∧ wy.cell? ⟨yb, yo + j * 2 + 1, none⟩ = some (.slice l.B l.nb l.c) ∧ Turn (g :: m :: (blks N.A ++ blks R.A)) w6 wy) := fun wy hy => by
                          have B := hy.blk HBA.out (hnb _ (Nat.le_refl _))
                          exact ⟨B.cell 1, B.cell 2, (hy.cell xbl hxb).trans x1, (hy.cell ybl hyb).trans y1, hy⟩
                        obtain ⟨z1, z2, z3, z4, -⟩ := AZ _ TZ
                        have zl := Nat.lt_of_lt_of_le HBA.out.lt TZ.size
                        have zxl := Nat.lt_of_lt_of_le xbl TZ.size
                        have zyl := Nat.lt_of_lt_of_le ybl TZ.size
                        have TD : Turn [] wz wz.drew := (Turn.refl [] wz).drew
                        have TZD : Turn (g :: m :: (blks N.A ++ blks R.A)) w6 wz.drew := TZ.drew
                        have CALL := Lib.hid (fun wy (hy : Turn [] wz wy) => npInj_c (IR.turn0 hy) (by omega) htk.1 (by omega) WA.out.1 WA.out.2 (B := l.B) (nb := l.nb) (c := l.c) (xs := l.xs) (l1.turn0 (IR.turn0 hy).two.turn) l2 l3)
                        have HIR := Lib.hid IR
                        have hRn : R'.n ≤ 2048 := by
                          have h1 := (IR.eq.nn IR.two.net IR.two.ref).1
                          have h2 := IR.eq.bn
                          omega
                        have sw : IntKind.i64.wrap (tt + 1) = tt + 1 := IntWalk.i64_in _ (by omega)
                        clear IR TZ x0 y0 x1 y1 l5 hl
                        go_wp2_with fail
                        go_region_held3 (fun wy => wy.cell? ⟨wx.heap.size, 1, none⟩ = some (.int .i64 fa) ∧ wy.cell? ⟨wx.heap.size, 2, none⟩ = some (.int .i64 fb) ∧ wy.cell? ⟨xb, xo + j * 2 + 1, none⟩ = some (.slice l.B l.nb l.c) ∧ wy.cell? ⟨yb, yo + j * 2 + 1, none⟩ = some (.slice l.B l.nb l.c) ∧ Turn (g :: m :: (blks N.A ++ blks R.A)) w6 wy) (first | with_reducible exact AZ _ TZD | with_reducible exact AZ _ T7)
                          (first
                            | (go_at_call 15; refine (CALL.out _ TD).mono ?_; rintro e w7 ⟨rfl, A2, cap2, mm, hmm, two7, hA2, hT7⟩; have T7 : Turn (g :: m :: (blks N.A ++ blks R.A)) w6 w7 := TZD.andThen hT7 (fun b hb => (by
                                rw [List.mem_cons] at hb
                                rcases hb with hb | hb
                                · exact .inl (by simp [hb])
                                · rcases HIR.out.rowsN b hb with h1 | h1
                                  · exact .inl (by simp [h1])
                                  · exact .inr h1))))
                        have c67 : w7.cell? ⟨m, 6, none⟩ = some (.slice R'.A R'.n R'.cap) := two7.ref.blk.cell 6
                        have ml7 := two7.ref.blk.lt
                        obtain ⟨bA, gA, oA⟩ := two7.ref.mails
                        have hmA2 : m ∉ blks R'.A := fun hm => (RNetIs.blks_ok two7.ref m (by simp [hm])).2 rfl
                        have HO := Lib.hid (own_down oA (show m + 1 ≤ bA by omega))
                        have POST : Hid (∀ (w8 w9 : World), Turn [] w7 w8 → Turn (blks R'.A) w8 w9 → (w9.cell? ⟨m, 6, none⟩ = some (.slice R'.A R'.n R'.cap) ∧ w9.frozen? ⟨m, 6, none⟩ = false ∧ m < w9.heap.size) ∧ Turn (blks R'.A) w7 w9 ∧ Turn (g :: m :: (blks N.A ++ blks R.A)) w6 w9) := fun w8 w9 h8 h9 => by
                          have T := (h8.mono (by simp)).trans h9
                          have B := T.blk two7.ref.blk hmA2
                          exact ⟨⟨B.cell 6, B.frozen 6, B.lt⟩, T, T7.andThen T (fun b hb => by
                            rcases HIR.out.rowsR b hb with h1 | h1
                            · exact .inl (by simp [h1])
                            · exact .inr h1)⟩
                        have TA1 := Lib.hid (((Turn.refl [] w7).drew).alloc (.cells #[.int .i64 (tt + 1), .int .i64 fa, .int .i64 fb, .slice l.B l.nb l.c] 63))
                        have TA2 := Lib.hid (((Turn.refl [] w7).alloc (.cells #[.int .i64 (tt + 1), .int .i64 fa, .int .i64 fb, .slice l.B l.nb l.c] 63)).drew)
                        have TD7 : Turn (g :: m :: (blks N.A ++ blks R.A)) w6 w7.drew := T7.drew
                        have TT1 : Turn (g :: m :: (blks N.A ++ blks R.A)) w6 (w7.drew.alloc (.cells #[.int .i64 (tt + 1), .int .i64 fa, .int .i64 fb, .slice l.B l.nb l.c] 63)) := TD7.alloc _
                        have TT2 : Turn (g :: m :: (blks N.A ++ blks R.A)) w6 (w7.alloc (.cells #[.int .i64 (tt + 1), .int .i64 fa, .int .i64 fb, .slice l.B l.nb l.c] 63)) := T7.alloc _
                        have HTWO7 := Lib.hid two7
                        obtain ⟨u1, u2, u3, u4, -⟩ := AZ _ T7
                        have zl7 := Nat.lt_of_lt_of_le HBA.out.lt T7.size
                        have zxl7 := Nat.lt_of_lt_of_le xbl T7.size
                        have zyl7 := Nat.lt_of_lt_of_le ybl T7.size
                        clear oA two7 z1 z2 z3 z4 zl zxl zyl
                        go_wp2_with fail
                        conv in (occs := 1) (Oper.mk (some 126) _ _ _ _ _) => change id _
                        go_region_held3 (fun wy => wy.cell? ⟨wx.heap.size, 1, none⟩ = some (.int .i64 fa) ∧ wy.cell? ⟨wx.heap.size, 2, none⟩ = some (.int .i64 fb) ∧ wy.cell? ⟨xb, xo + j * 2 + 1, none⟩ = some (.slice l.B l.nb l.c) ∧ wy.cell? ⟨yb, yo + j * 2 + 1, none⟩ = some (.slice l.B l.nb l.c) ∧ Turn (g :: m :: (blks N.A ++ blks R.A)) w6 wy) (first | with_reducible exact AZ _ TD7 | with_reducible exact AZ _ T7 | with_reducible exact AZ _ TT1 | with_reducible exact AZ _ TT2 | with_reducible exact AZ _ (Turn.drew TT2) | with_reducible exact AZ _ T8 | exact AZ _ (T8.setCell (.inl (by simp)) _) | (trace_state; fail))
                          (first
                            | (refine step_append_sl elemRM (by rfl) _ _ (by rfl) R'.A R'.n R'.cap _ (by rfl) ((HO.out.drew).alloc _) _ 1 1 [.int .i64 (tt + 1), .int .i64 fa, .int .i64 fb, .slice l.B l.nb l.c] (by rfl) (Sl.new _ #[.int .i64 (tt + 1), .int .i64 fa, .int .i64 fb, .slice l.B l.nb l.c] _) (by simp) (by simp [Value.oneCell']) (by omega) (by omega) (by simp; omega) ?_; intro A3 cap3 w8 own2 hg2 hlie2; obtain ⟨⟨c62, f62, ml2⟩, T12, T8⟩ := POST.out _ w8 TA1.out (grown_turn hg2))
                            | (refine step_append_sl elemRM (by rfl) _ _ (by rfl) R'.A R'.n R'.cap _ (by rfl) ((HO.out.alloc _).drew) _ 1 1 [.int .i64 (tt + 1), .int .i64 fa, .int .i64 fb, .slice l.B l.nb l.c] (by rfl) ((Sl.new w7 #[.int .i64 (tt + 1), .int .i64 fa, .int .i64 fb, .slice l.B l.nb l.c] _).turn0 ((Turn.refl [] _).drew)) (by simp) (by simp [Value.oneCell']) (by omega) (by omega) (by simp; omega) ?_; intro A3 cap3 w8 own2 hg2 hlie2; obtain ⟨⟨c62, f62, ml2⟩, T12, T8⟩ := POST.out _ w8 TA2.out (grown_turn hg2)))
                        all_goals
                          go_wp2_with fail
                          have hA3 : ∀ b ∈ blks A3, b ∈ blks R'.A ∨ w7.heap.size ≤ b := fun b hb => by
                            rcases lies_blks hlie2 b hb with h1 | h1
                            · exact .inl h1
                            · exact .inr (by simp at h1; omega)
                          have FIN := (HIR.out.turn0 TD).fin hT7 hA2 HTWO7.out l hmm l1 l2 l3 HL5.out htk.1 (by omega) WA.out.1 WA.out.2 T12 own2 hA3
                          go_roundw
                          case rel => exact ⟨j + 1, _, _, by omega, by go_num, FIN⟩
                          case measure => simp [intOf]; omega
                      · obtain rfl : j = nl := by omega
                        have j1 : ¬ (j : Int) < (j : Int) := by omega
                        have HIR := Lib.hid IR
                        clear IR TZ
                        go_wp2_with fail
                        go_meet
                        exact ⟨N', R', HIR.out.two, HIR.out.eq.up (by omega)⟩
                · skip
                  as_aux_lemma =>
                    have CALL := Lib.hid (npDueN_c TWO6.out EQ.out (by omega) tt)
                    go_wp2_with fail
                    refine CALL.out.mono ?_
                    rintro e w7 ⟨O, co, n', cap', rfl, two7, sO, hOo, hx, hT7⟩
                    have CALL2 := Lib.hid (fun wy (hy : Turn [] w7 wy) => npDueR_c (two7.turn0 hy) EQ.out (by omega) tt TWO6.out.net TWO6.out.ref rfl co (sO.turn0 hy) hOo (fun x hx2 => ⟨(hx x hx2).1.turn hy (by simp), (hx x hx2).2⟩))
                    clear two7 sO hOo hx hT7
                    go_wp2_with fail
                    refine (CALL2.out _ (Turn.refl _ _)).mono ?_
                    rintro e w8 ⟨O2, no2, co2, R', rfl, two8, eq8, SM⟩
                    go_wp2_with fail
                    refine (SM _ (Turn.refl _ _)).mono ?_
                    rintro e w9 ⟨rfl, hT9⟩
                    go_wp2_with fail
                    go_meet
                    exact ⟨_, R', two8.turn0 hT9, eq8⟩
                · skip
                  as_aux_lemma =>
                    have a5 := HBA.out.cell 5
                    have a6 := HBA.out.cell 6
                    have a7 := HBA.out.cell 7
                    have a8 := HBA.out.cell 8
                    have CALL := Lib.hid (npRule_c TWO6.out ⟨r0, r1, r2, r3⟩)
                    have RC := Lib.hid (fun wz => rRight30_c ⟨r0, r1, r2, r3⟩ wz)
                    have hgn : wx.heap.size ∉ [g] := fun hm => NB.out wx.heap.size (Nat.le_refl _) (by simp at hm; simp [hm])
                    by_cases hr : RlOk ⟨r0, r1, r2, r3⟩
                    · rw [decide_eq_true hr] at RC
                      simp only [if_pos hr] at CALL
                      go_wp2_with fail
                      refine CALL.out.mono ?_
                      rintro e w7 ⟨rfl, two7, hT7⟩
                      have B7 := hT7.blk HBA.out hgn
                      have HTW7 := Lib.hid two7
                      clear a5 a6 a7 a8 two7
                      have a5 := B7.cell 5
                      have a6 := B7.cell 6
                      have a7 := B7.cell 7
                      have a8 := B7.cell 8
                      have al7 := B7.lt
                      go_wp2_with fail
                      refine (RC.out _).mono ?_
                      rintro e w8 ⟨rfl, hT8⟩
                      have B8 := hT8.blk B7 (by simp)
                      have two8 := HTW7.out.turn0 hT8
                      have SR := Lib.hid (two8.setR hr)
                      have NE := Lib.hid ((EQ.out.rule ⟨r0, r1, r2, r3⟩).up (show 12 * i ≤ 12 * i + 12 by omega))
                      have f1 := two8.ref.blk.frozen 1
                      have f2 := two8.ref.blk.frozen 2
                      have f3' := two8.ref.blk.frozen 3
                      have f4 := two8.ref.blk.frozen 4
                      have c81 := two8.ref.blk.cell 1
                      have c82 := two8.ref.blk.cell 2
                      have c83 := two8.ref.blk.cell 3
                      have c84 := two8.ref.blk.cell 4
                      have ml8 := two8.ref.blk.lt
                      have hn1 : ¬ wx.heap.size = m := fun e => NB.out wx.heap.size (Nat.le_refl _) (by simp [e])
                      have hn2 : ¬ m = wx.heap.size := fun e => hn1 e.symm
                      clear a5 a6 a7 a8 two8
                      have a5 := B8.cell 5
                      have a6 := B8.cell 6
                      have a7 := B8.cell 7
                      have a8 := B8.cell 8
                      have al8 := B8.lt
                      go_wp2_with fail
                      refine (RC.out _).mono ?_
                      rintro e w9 ⟨rfl, hT9⟩
                      go_wp2_with fail
                      go_meet
                      exact ⟨_, _, SR.out.turn0 hT9, NE.out⟩
                    · rw [decide_eq_false hr] at RC
                      simp only [if_neg hr] at CALL
                      go_wp2_with fail
                      refine CALL.out.mono ?_
                      rintro e w7 ⟨rfl, two7, hT7⟩
                      have B7 := hT7.blk HBA.out hgn
                      have HTW7 := Lib.hid two7
                      clear a5 a6 a7 a8 two7
                      have a5 := B7.cell 5
                      have a6 := B7.cell 6
                      have a7 := B7.cell 7
                      have a8 := B7.cell 8
                      have al7 := B7.lt
                      go_wp2_with fail
                      refine (RC.out _).mono ?_
                      rintro e w8 ⟨rfl, hT8⟩
                      have B8 := hT8.blk B7 (by simp)
                      clear a5 a6 a7 a8
                      have a5 := B8.cell 5
                      have a6 := B8.cell 6
                      have a7 := B8.cell 7
                      have a8 := B8.cell 8
                      have al8 := B8.lt
                      go_wp2_with fail
                      refine (RC.out _).mono ?_
                      rintro e w9 ⟨rfl, hT9⟩
                      go_wp2_with fail
                      go_meet
                      exact ⟨_, R, (HTW7.out.turn0 hT8).turn0 hT9, EQ.out.up (by omega)⟩
                · skip
                  as_aux_lemma =>
                    have a1 := HBA.out.cell 1
                    have a2 := HBA.out.cell 2
                    have TD : Turn [] w6 w6.drew := (Turn.refl [] w6).drew
                    have TDm : Turn (m :: g :: d :: cb :: kb :: (blks N.A ++ R.rows)) w6 w6.drew := TD.mono (by simp)
                    have CALL := Lib.hid (fun wy (hy : Turn [] w6 wy) => npCut_c (TWO6.out.turn0 hy) fa fb WA.out.1 WA.out.2)
                    go_wp2_with fail
                    go_region_held3 (fun w' => w'.cell? ⟨wx.heap.size, 1, none⟩ = some (.int .i64 fa) ∧ w'.cell? ⟨wx.heap.size, 2, none⟩ = some (.int .i64 fb) ∧ Turn (m :: g :: d :: cb :: kb :: (blks N.A ++ R.rows)) w6 w') (first | with_reducible exact AE _ TDm | with_reducible exact AE _ T7 | with_reducible exact AE _ T8)
                      (first
                        | (go_at_call 16; refine (CALL.out _ TD).mono ?_; rintro e w7 ⟨rfl, two7, hT7⟩; have T7 : Turn (m :: g :: d :: cb :: kb :: (blks N.A ++ R.rows)) w6 w7 := TDm.trans (hT7.mono (by simp)))
                        | (go_at_call 24; refine (npCutR_c two7 EQ.out fa fb rfl).mono ?_; rintro e w8 ⟨rfl, ⟨R', two8, eq8⟩, hT8⟩; have T8 : Turn (m :: g :: d :: cb :: kb :: (blks N.A ++ R.rows)) w6 w8 := T7.trans (hT8.mono (by intro x hx; simp at hx ⊢; rcases hx with h | h <;> simp [h]))))
                    go_wp2_with fail
                    go_meet
                    exact ⟨_, R', two8, eq8⟩
                · skip
                  as_aux_lemma =>
                    have hmc : m ∉ [cb] := fun hm => by have h1 := TWO.out.net.low; have h2 := TWO.out.mlow; simp at hm; omega
                    have TD : Turn [cb] w6 w6.drew := (Turn.refl [cb] w6).drew
                    have TD0 : Turn [] w6 w6.drew := (Turn.refl [] w6).drew
                    have CALL := Lib.hid (fun wy (hy : Turn [] w6 wy) => npHeal_c (TWO6.out.turn0 hy) EQ.out)
                    have c5 := TWO6.out.ref.blk.cell 5
                    have ml6 := TWO6.out.ref.blk.lt
                    have AH : ∀ wy, Turn [cb] w6 wy → (wy.cell? ⟨m, 5, none⟩ = some (.slice R.C R.nc R.kc) ∧ Turn [cb] w6 wy) := fun wy hy => ⟨(hy.cell ml6 hmc).trans c5, hy⟩
                    go_wp2_with fail
                    go_region_held3 (fun w' => w'.cell? ⟨m, 5, none⟩ = some (.slice R.C R.nc R.kc) ∧ Turn [cb] w6 w') (first | with_reducible exact AH _ TD | with_reducible exact AH _ T7)
                      (first
                        | (go_at_call 17; refine (CALL.out _ TD0).mono ?_; rintro e w7 ⟨rfl, two7, hT7⟩; have T7 : Turn [cb] w6 w7 := TD.trans hT7))
                    have HF := Lib.hid (two7.heal EQ.out rfl)
                    have f5 := two7.ref.blk.frozen 5
                    have ml7 := two7.ref.blk.lt
                    clear two7
                    go_wp2_with fail
                    go_meet
                    exact ⟨_, _, HF.out.1, HF.out.2⟩
              case rest =>
                obtain ⟨N', R', two8, eq8⟩ := hcut
                obtain ⟨w8, rfl⟩ : ∃ w8 : World, w8 = wc := ⟨_, rfl⟩
                as_aux_lemma =>
                  have CNT := Lib.hid (counts_c two8.net)
                  have TWO8 := Lib.hid two8
                  have EQ8 := Lib.hid eq8
                  have hnn := eq8.nn two8.net two8.ref
                  have hbn := eq8.bn
                  have e1 := eq8.sent
                  have e2 := eq8.lost
                  have e3 := eq8.told
                  have e4 := eq8.r
                  have e5 := eq8.sum (fr, dst)
                  obtain ⟨-, g1, g2, g3, g4, -, g6, -, g8, g9, g10, gml⟩ := RNetIs.cells two8.ref
                  rw [e1] at g8
                  rw [e2] at g9
                  rw [e3] at g10
                  rw [e4] at g1 g2 g3 g4
                  rw [hnn.1] at g6
                  have LEN := Lib.hid (fun wy (hy : Turn [] w8 wy) => lenN_c (two8.turn0 hy).net)
                  have BYT := Lib.hid (fun wy (hy : Turn [] w8 wy) => bytes_c (two8.turn0 hy).net fr dst WF.out.1 WF.out.2)
                  have RBY := Lib.hid (fun wy (hy : Turn [] w8 wy) => rBytes_c (two8.turn0 hy).ref (by omega) fr dst)
                  have RUL := Lib.hid (fun wy (hy : Turn [] w8 wy) => rules_c (two8.turn0 hy).net)
                  rw [e5] at BYT
                  generalize sumP (R'.cs.map Ml.pure) (fr, dst) = sb at *
                  generalize N'.sent = v1 at *
                  generalize N'.lost = v2 at *
                  generalize N'.told = v3 at *
                  generalize N'.r.lose = t1 at *
                  generalize N'.r.twice = t2 at *
                  generalize N'.r.bend = t3 at *
                  generalize N'.r.late = t4 at *
                  generalize N'.n = nn at *
                  have AR : ∀ wy, Turn [] w8 wy → (wy.cell? ⟨m, 1, none⟩ = some (.int .i64 t1) ∧ wy.cell? ⟨m, 2, none⟩ = some (.int .i64 t2) ∧ wy.cell? ⟨m, 3, none⟩ = some (.int .i64 t3) ∧ wy.cell? ⟨m, 4, none⟩ = some (.int .i64 t4) ∧ wy.cell? ⟨m, 6, none⟩ = some (.slice R'.A nn R'.cap) ∧ wy.cell? ⟨m, 8, none⟩ = some (.int .i64 v1) ∧ wy.cell? ⟨m, 9, none⟩ = some (.int .i64 v2) ∧ wy.cell? ⟨m, 10, none⟩ = some (.int .i64 v3) ∧ Turn [] w8 wy) := fun wy hy =>
                    ⟨(hy.cell gml (by simp)).trans g1, (hy.cell gml (by simp)).trans g2, (hy.cell gml (by simp)).trans g3, (hy.cell gml (by simp)).trans g4, (hy.cell gml (by simp)).trans g6, (hy.cell gml (by simp)).trans g8, (hy.cell gml (by simp)).trans g9, (hy.cell gml (by simp)).trans g10, hy⟩
                  clear two8 eq8 hnn hbn e1 e2 e3 e4 e5 g1 g2 g3 g4 g6 g8 g9 g10
                  go_wp2_with fail
                  refine CNT.out.mono ?_
                  rintro e w9 ⟨rfl, hT9⟩
                  obtain ⟨g1, g2, g3, g4, g6, g8, g9, g10, -⟩ := AR _ hT9
                  have gml9 := Nat.lt_of_lt_of_le gml hT9.size
                  have TD : Turn [] w8 w9.drew := hT9.drew
                  go_upto_region 43 with fail
                  simp only [List.append]
                  go_region_held3 (fun wy => wy.cell? ⟨m, 1, none⟩ = some (.int .i64 t1) ∧ wy.cell? ⟨m, 2, none⟩ = some (.int .i64 t2) ∧ wy.cell? ⟨m, 3, none⟩ = some (.int .i64 t3) ∧ wy.cell? ⟨m, 4, none⟩ = some (.int .i64 t4) ∧ wy.cell? ⟨m, 6, none⟩ = some (.slice R'.A nn R'.cap) ∧ wy.cell? ⟨m, 8, none⟩ = some (.int .i64 v1) ∧ wy.cell? ⟨m, 9, none⟩ = some (.int .i64 v2) ∧ wy.cell? ⟨m, 10, none⟩ = some (.int .i64 v3) ∧ Turn [] w8 wy) (first | with_reducible exact AR _ TD | with_reducible exact AR _ TB | with_reducible exact AR _ TC)
                    (first
                      | (go_at_call 11; refine (LEN.out _ TD).mono ?_; rintro e wL ⟨rfl, rfl⟩)
                      | (go_at_call 25; refine (BYT.out _ TD).mono ?_; rintro e wL ⟨rfl, rfl⟩)
                      | (go_at_call 26; refine (RBY.out _ TD).mono ?_; rintro e wB ⟨rfl, hTB⟩; have TB : Turn [] w8 wB := TD.trans hTB)
                      | (go_at_call 27; refine (RUL.out _ TB).mono ?_; rintro e wC ⟨rfl, hTC⟩; have TC : Turn [] w8 wC := TB.trans hTC))
                  go_wp2_with fail
                  go_roundw
                  case rel => exact ⟨i + 1, by omega, by omega, by go_num, _, _, TWO8.out.turn0 TC, EQ8.out.up (by omega)⟩
                  case measure => simp [intOf]; omega
        · have hgo2 : ¬ ((i : Int) < (len : Int) ∧ (i : Int) < 40) := by omega
          have RI : Hid (NpInv w g d cb kb base m (12 * i) wx) := ⟨N, R, two, eq⟩
          clear two eq
          by_cases h1 : i < len
          · have i1 : (i : Int) < (len : Int) := by omega
            have i2 : ¬ (i : Int) < 40 := by omega
            go_wp2_with fail
            go_meet
            case rel => exact ⟨_, RI.out⟩
          · have i1 : ¬ (i : Int) < (len : Int) := by omega
            go_wp2_with fail
            go_meet
            case rel => exact ⟨_, RI.out⟩
  case rest =>
    obtain ⟨k, N, R, two, eq⟩ := hcut
    have HT := Lib.hid two.turn
    clear two eq HI
    go_wp2_with fail
    refine (KC.out _).mono ?_
    rintro e w9 ⟨rfl, hT9⟩
    go_wp2_with fail
    go_ret
    exact ⟨by simp, HT.out.trans hT9⟩
end Go.Proofs.Ytiijgokgojjocaa
