/- The walk of the law HintsPlays. -/
import Derived.Test.YtpdencmgjihnfaaHPlaysL
import Derived.Test.YtpdencmgjihnfaaActs
import Derived.Deep.DeepCutAuto
import Derived.Deep.CutBlock
import Derived.StillTailTactics
namespace Go.Proofs.Ytpdencmgjihnfaa
open Go.RowKit Go.ChangeMaps

theorem act_wf {W : World} {A : Option Addr} {len : Nat} {F : Nat → Nat → Int} {As : Nat → Option Addr} {ns cs : Nat → Nat} {G : Nat → Nat → Nat → Int} (h : ActRows W A len 3 F As ns cs 4 G) {k : Nat} (hk : k < len) :
    ∃ b off, A = some ⟨b, off, none⟩ ∧ b < W.heap.size ∧ W.cell? ⟨b, off + k * 4, none⟩ = some (.int .i64 (F k 0)) ∧ W.cell? ⟨b, off + k * 4 + 1, none⟩ = some (.int .i64 (F k 1)) ∧ W.cell? ⟨b, off + k * 4 + 2, none⟩ = some (.int .i64 (F k 2)) ∧ W.cell? ⟨b, off + k * 4 + 3, none⟩ = some (.slice (As k) (ns k) (cs k)) ∧ ns k ≤ maxLen ∧ Sl W (As k) (ccs (rowsC (G k) (ns k))) ∧ (Lit.int .i64 (F k 1)).wf = true ∧ (Lit.int .i64 (F k 2)).wf = true := by
  obtain ⟨b, off, hA, hb, hc⟩ := h (by omega)
  obtain ⟨h1, h2, h3, h4, h5⟩ := hc k hk
  exact ⟨b, off, hA, hb, (h1 0 (by omega)).1, (h1 1 (by omega)).1, (h1 2 (by omega)).1, h2, by omega, rows_ccs h5, (h1 1 (by omega)).2, (h1 2 (by omega)).2⟩

set_option maxRecDepth 100000 in
set_option maxHeartbeats 80000000 in
theorem hplays_walk (o1 o2 o3 o4 times : Int) (B : Option Addr) (len cap : Nat) (F : Nat → Nat → Int) (As : Nat → Option Addr) (ns cs : Nat → Nat) (G : Nat → Nat → Nat → Int) (sender tick : Int) (w : World) (hlm : len ≤ maxLen) (hR : ActRows w B len 3 F As ns cs 4 G) (htick : tick ≤ 9223372036854775807) :
    Calls Try.prog 4 #[.agg #[.int .i64 o1, .int .i64 o2, .int .i64 o3, .int .i64 o4], .int .i64 times, .slice B len cap, .int .i64 sender, .int .i64 tick] w fun e w' => e = .returned (.bool true) ∧ Turn [] w w' := by
  unfold maxLen at hlm
  have HRR := Lib.hid hR
  clear hR
  have T0 := (Turn.refl [] w).alloc (.cells #[.int .i64 o1, .int .i64 o2, .int .i64 o3, .int .i64 o4] 37)
  have B0 := Blk.new w 37 #[.int .i64 o1, .int .i64 o2, .int .i64 o3, .int .i64 o4]
  have RR := Lib.hid (rightR_c o1 o2 o3 o4)
  by_cases hgood : Right (o1, o2, o3, o4) ∧ 1 ≤ times ∧ times ≤ 255
  · obtain ⟨hr, ht1, ht255⟩ := hgood
    have hrd : Hid (decide (Right (o1, o2, o3, o4)) = true) := by show _ = _; simpa using hr
    have NW := Lib.hid (fun wz => newH_c o1 o2 o3 o4 times wz hr ht1 ht255)
    clear hr
    go_enter Try.func4, Try.ntmps4
    go_wp2_with fail
    generalize w.alloc (.cells #[.int .i64 o1, .int .i64 o2, .int .i64 o3, .int .i64 o4] 37) = w0 at *
    refine (to_c o1 o2 o3 o4 _).mono ?_
    rintro e w1 ⟨rfl, hT1⟩
    go_wp2_with fail
    refine (NW.out w1).mono ?_
    rintro e w2 ⟨h, q, bm, base, rfl, H2, l1, l2, l3, hT2⟩
    have BO := hT2.blk (hT1.blk B0 (by simp)) (by simp)
    have c0 := BO.cell 0
    have c1 := BO.cell 1
    have c2 := BO.cell 2
    have c3 := BO.cell 3
    have cl := BO.lt
    go_wp2_with fail
    refine (RR.out _).mono ?_
    rw [hrd.out]
    rintro e w3 ⟨rfl, hT3⟩
    have H3 := Lib.hid (H2.turn hT3 (by simp) (by simp) (by simp) (by simp))
    have BO3 := hT3.blk BO (by simp)
    have z1 := T0.size
    have z12 := hT1.size
    have z23 := hT2.size
    have z33 := hT3.size
    have TW := ((T0.trans hT1).trans hT2).trans hT3
    have lo := H2.lo
    have RF : RefIs (w3.alloc (.cells #[.int .i64 o1, .int .i64 o2, .int .i64 o3, .int .i64 o4, .int .i64 times, .slice none 0 0, .slice none 0 0] 48)) w3.heap.size (o1, o2, o3, o4) times none 0 0 [] none 0 0 [] :=
      ⟨Blk.new _ _ _, Sl.nil _ _, rfl, by omega, Sl.nil _ _, rfl, by simp [blks], by simp [blks]⟩
    have TF : Turn [] w3 (w3.alloc (.cells #[.int .i64 o1, .int .i64 o2, .int .i64 o3, .int .i64 o4, .int .i64 times, .slice none 0 0, .slice none 0 0] 48)) := (Turn.refl [] w3).alloc _
    have lo3 := H3.out.lo
    have hq3 := H3.out.qs.lt
    have hh3 := H3.out.blk.lt
    have R0 := Lib.hid (show HPRel w h q bm base w3.heap.size (o1, o2, o3, o4) times (6 * 0) [] none 0 0 [] none 0 0 none 0 0 [] (w3.alloc (.cells #[.int .i64 o1, .int .i64 o2, .int .i64 o3, .int .i64 o4, .int .i64 times, .slice none 0 0, .slice none 0 0] 48)) from
      ⟨H3.out.turn TF (by simp) (by simp) (by simp) (by simp), RF, PlOk.nil, by simp, by omega, by simp [blks], ⟨by omega, by omega, by omega⟩, by simp [blks], by simp [blks], ⟨by simp [blks], by simp [blks]⟩, ⟨by omega, by omega, by omega, by omega, by omega⟩, TW.trans TF⟩)
    clear c0 c1 c2 c3 cl H2 RF TF lo lo3 hq3 hh3 BO
    have g0 := BO3.cell 0
    have g1 := BO3.cell 1
    have g2 := BO3.cell 2
    have g3 := BO3.cell 3
    have gl := BO3.lt
    go_wp2_with fail
    clear g0 g1 g2 g3 gl BO3
    generalize w3.alloc (.cells #[.int .i64 o1, .int .i64 o2, .int .i64 o3, .int .i64 o4, .int .i64 times, .slice none 0 0, .slice none 0 0] 48) = wS at *
    generalize w3.heap.size = mb at *
    go_loopw [14] (fun i wr => ∃ k : Nat, k ≤ len ∧ k ≤ 40 ∧ i = .int .i64 k ∧ ∃ m A n cp wl Ar nr cr L nl cl T, HPRel w h q bm base mb (o1, o2, o3, o4) times (6 * k) m A n cp wl Ar nr cr L nl cl T wr) (fun i _ => 41 - (intOf i).toNat)
    case atStart => exact ⟨0, by omega, by omega, rfl, [], none, 0, 0, [], none, 0, 0, none, 0, 0, [], R0.out⟩
    case round =>
      obtain ⟨k, hk, hk40, rfl, m, A, n, cp, wl, Ar, nr, cr, L, nl, cl, T, R⟩ := hrel
      have i0 : (0 : Int) ≤ (k : Int) := Int.natCast_nonneg _
      have HR := Lib.hid R
      by_cases hgo : k < len ∧ k < 40
      · obtain ⟨hlt, hlt40⟩ := hgo
        have i1 : (k : Int) < (len : Int) := by omega
        have i2 : (k : Int) < 40 := by omega
        obtain ⟨bl, off, rfl, hbl, hc0, hc1, hc2, hc3, hnm, hsl, wf1, wf2⟩ := act_wf HRR.out hlt
        have lbl := Nat.lt_of_lt_of_le hbl R.turn.size
        have q0 := (R.turn.cell (p := ⟨bl, off + k * 4, none⟩) hbl (by simp)).trans hc0
        have q1 := (R.turn.cell (p := ⟨bl, off + k * 4 + 1, none⟩) hbl (by simp)).trans hc1
        have q2 := (R.turn.cell (p := ⟨bl, off + k * 4 + 2, none⟩) hbl (by simp)).trans hc2
        have q3 := (R.turn.cell (p := ⟨bl, off + k * 4 + 3, none⟩) hbl (by simp)).trans hc3
        have hsl' := hsl.turn0 R.turn
        have hAk : Hid (rowsC (G k) (ns k) ≠ [] → ∀ i ∈ blks (As k), i < w.heap.size) := fun hne i hi => by
          obtain ⟨b, o, hA, hb, -⟩ := hsl (by rw [ccs_len]; have := List.length_pos_iff.2 hne; omega)
          rw [hA] at hi
          simp [blks] at hi
          omega
        have hXl := rowsC_len (G k) (ns k)
        have htk : F k 2 ≤ 9223372036854775807 := by simp [Lit.wf, IntKind.min, IntKind.max, IntKind.signed, IntKind.bits] at wf2; omega
        clear hc0 hc1 hc2 hc3 wf2
        generalize rowsC (G k) (ns k) = X at *
        generalize F k 0 = kd at *
        generalize F k 1 = sd at *
        generalize F k 2 = tk at *
        generalize As k = Ak at *
        generalize ns k = nk at *
        generalize cs k = ck at *
        have HXL := Lib.hid hXl
        have HSL := Lib.hid hsl'
        have HS0 := Lib.hid hsl
        clear hXl hsl' hsl
        unfold maxLen at hnm
        obtain ⟨wK, rfl⟩ : ∃ wo : World, wo = wr := ⟨_, rfl⟩
        have BA := Blk.new wK 35 #[.int .i64 kd, .int .i64 sd, .int .i64 tk, .slice Ak nk ck]
        have TA := (Turn.refl [] wK).alloc (.cells #[.int .i64 kd, .int .i64 sd, .int .i64 tk, .slice Ak nk ck] 35)
        clear R
        have hu : (IntKind.u64.wrap kd).tmod 4 = 0 ∨ (IntKind.u64.wrap kd).tmod 4 = 1 ∨ (IntKind.u64.wrap kd).tmod 4 = 2 ∨ (IntKind.u64.wrap kd).tmod 4 = 3 := by
          have g0 : 0 ≤ IntKind.u64.wrap kd := by rw [IntKind.wrap_u64]; omega
          rw [Int.tmod_eq_emod_of_nonneg g0]
          omega
        have HU := Lib.hid hu
        clear hu
        go_upto_block 2 with fail
        generalize hwA : wK.alloc (.cells #[.int .i64 kd, .int .i64 sd, .int .i64 tk, .slice Ak nk ck] 35) = wA at *
        have zA : wA.heap.size = wK.heap.size + 1 := by rw [← hwA]; simp
        have ZA := Lib.hid zA
        clear hwA zA
        clear q0 q1 q2 q3 lbl
        have RA := Lib.hid (HR.out.go TA)
        go_cut [16] (fun x wz => ∃ j : Nat, j ≤ nk ∧ j ≤ 6 ∧ ∃ D cd, x = .slice D j cd ∧ wz.ownsRow wA.heap.size 29 4 (.slice D j cd) j (ccs (X.take j)) ∧ Turn [] wA wz)
        case first =>
         go_wp2_with fail
         go_loopw [16, 17] (fun x i wz => ∃ j : Nat, j ≤ nk ∧ j ≤ 6 ∧ i = .int .i64 j ∧ ∃ D cd, x = .slice D j cd ∧ wz.ownsRow wA.heap.size 29 4 (.slice D j cd) j (ccs (X.take j)) ∧ Turn [] wA wz) (fun _ i _ => 7 - (intOf i).toNat)
         case atStart => exact ⟨0, by omega, by omega, rfl, none, 0, rfl, World.ownsRow_nil _ _ _ _, Turn.refl _ _⟩
         case round =>
          obtain ⟨j, hj, hj6, rfl, D, cd, rfl, oD, hTz⟩ := hrel
          obtain ⟨wz, rfl⟩ : ∃ wo : World, wo = wr := ⟨_, rfl⟩
          have j0 : (0 : Int) ≤ (j : Int) := Int.natCast_nonneg _
          have BZ := hTz.blk BA (by simp)
          have s0 := BZ.cell 0
          have s1 := BZ.cell 1
          have s2 := BZ.cell 2
          have s3 := BZ.cell 3
          have sl := BZ.lt
          by_cases hgo : j < nk ∧ j < 6
          · obtain ⟨g1, g2⟩ := hgo
            have g1' : (j : Int) < (nk : Int) := by omega
            have g2' : (j : Int) < 6 := by omega
            have jx : j < X.length := by rw [HXL.out]; exact g1
            obtain ⟨bx, ox, rfl, lbx, x0, x1, x2, x3⟩ := ccs_at (HSL.out.turn0 (TA.trans hTz)) jx
            have htake : Hid (ccs (X.take (j + 1)) = ccs (X.take j) ++ [.int .i64 X[j].1, .int .i64 X[j].2.1, .int .i64 X[j].2.2.1, .int .i64 X[j].2.2.2]) := by
              show _ = _
              rw [List.take_succ_eq_append_getElem jx, ccs_append]
              rfl
            generalize X[j] = y at *
            obtain ⟨y1, y2, y3, y4⟩ := y
            simp only at x0 x1 x2 x3 htake
            have TO := Lib.hid (to_c y1 y2 y3 y4)
            go_wp2_with fail
            refine (TO.out _).mono ?_
            rintro e w3' ⟨rfl, hT3'⟩
            have oD3 := own_turnA oD hT3' (by simp)
            have hz3 := hT3'.size
            have hzz := hTz.size
            go_wp2_with (at_builtin; refine wpList_append_sl elemC rfl _ _ rfl D j cd (ccs (X.take j)) rfl (oD3.alloc _) (some ⟨w3'.heap.size, 0, none⟩) 1 1 [.int .i64 y1, .int .i64 y2, .int .i64 y3, .int .i64 y4] rfl (Sl.new _ #[.int .i64 y1, .int .i64 y2, .int .i64 y3, .int .i64 y4] _) (by simp) (by simp [Value.oneCell']) (by omega) (by omega) (by simp; omega) ?_; intro D' cd' w5 oD5 hg5 hlie5)
            go_roundw
            case rel => exact ⟨j + 1, by omega, by omega, by go_num, D', cd', rfl, by rw [htake.out]; exact oD5, ((hTz.trans hT3').alloc _).andThen (grown_turn hg5) (fun i hi => .inr (own_ltA oD i hi).2)⟩
            case measure => simp [intOf]; omega
          · have hEND : (¬ (j : Int) < (nk : Int)) ∨ ((j : Int) < (nk : Int) ∧ ¬ (j : Int) < 6) := by omega
            rcases hEND with e1 | ⟨e1, e2⟩
            all_goals
              as_aux_lemma =>
                go_wp2_with fail
                go_meet
                exact ⟨j, hj, hj6, D, cd, rfl, oD, hTz⟩
        case rest =>
            obtain ⟨j, hj, hj6, D, cd, rfl, oD, hTz⟩ := hcut
            obtain ⟨wz, rfl⟩ : ∃ wo : World, wo = wc := ⟨_, rfl⟩
            have j0 : (0 : Int) ≤ (j : Int) := Int.natCast_nonneg _
            have BZ := hTz.blk BA (by simp)
            have s0 := BZ.cell 0
            have s1 := BZ.cell 1
            have s2 := BZ.cell 2
            have s3 := BZ.cell 3
            have sl := BZ.lt
            have RZ := Lib.hid (RA.out.go hTz)
            have hD : ∀ i ∈ blks D, wA.heap.size ≤ i := fun i hi => (own_ltA oD i hi).2
            have zA := ZA.out
            have hzz := hTz.size
            have hh := HR.out.his.blk.lt
            have hqq := HR.out.his.qs.lt
            have hAz : ∀ i ∈ blks A, i < wK.heap.size := fun i hi => (own_ltA HR.out.his.row i hi).1
            have HNEW := Lib.hid HR.out.new
            have hmbc := HR.out.ref.blk.lt
            have hnew1 := HNEW.out.1
            have hnew3 := HNEW.out.2.2.1
            have hnew5 := HNEW.out.2.2.2.2
            clear zA
            have zA' := ZA.out
            have ZA' := Lib.hid zA'
            have hwcA : wK.heap.size < wA.heap.size := by omega
            clear zA'
            go_upto_block 4 with fail
            go_cut [18, 19, 20, 21, 22, 23, 24, 96] (fun _ _ _ _ _ _ _ _ wx => ∃ m A n cp wl Ar nr cr L nl cl T, HPRel w h q bm base mb (o1, o2, o3, o4) times (6 * (k + 1)) m A n cp wl Ar nr cr L nl cl T wx)
            case first =>
              rcases HU.out with hu | hu | hu | hu
              · as_aux_lemma =>
                  have OA := Lib.hid (offerAll_c h q bm (o1, o2, o3, o4) times m base A n cp wl sd tk D j cd (X.take j) wz RZ.out.his htk (Sl.of_own oD) (by rw [List.length_take, HXL.out]; omega) (by omega) (fun i hi => by have := hD i hi; exact ⟨by omega, by omega, fun hm => by have := hAz i hm; omega⟩))

                  go_wp2_with fail
                  refine OA.out.mono ?_
                  rintro e w4 ⟨E, ne, ce, A', n', cp', rfl, oE, hne, H4, newA', apE, hT4⟩
                  subst hne
                  obtain ⟨RF4, mbA', offR', offL', tw⟩ := RZ.out.real H4 hT4 newA'
                  have hE := own_ltA oE
                  have z4 := hT4.size
                  have INV := Lib.hid (offAll_inv (o1, o2, o3, o4) times sd tk (X.take ne) wl m RZ.out.his.qs.ok (by rw [RZ.out.his.len]; exact RZ.out.his.le) RZ.out.nd)
                  have sE := Sl.of_own oE
                  have hmbz := RZ.out.ref.blk.lt
                  have BA4 := hT4.blk BZ (by
                    simp only [List.mem_append, List.mem_cons, List.not_mem_nil, or_false, not_or]
                    exact ⟨⟨by omega, by omega⟩, fun hm => by have := hAz _ hm; omega⟩)
                  have hlo4 : h < w4.heap.size ∧ q < w4.heap.size ∧ bm < w4.heap.size ∧ ∀ i ∈ blks A', i < w4.heap.size := ⟨H4.blk.lt, H4.qs.lt.1, H4.qs.lt.2, fun i hi => (own_ltA H4.row i hi).1⟩
                  have HS := Lib.hid (show HOff w4 h q bm mb (o1, o2, o3, o4) times sd tk nl A' (X.take ne) wl m 0 Ar nr cr L nl cl T w4 from
                    ⟨by simpa [offAll] using RF4, by simpa [offAll] using RZ.out.ok, by omega, offR', offL', ⟨fun i hi => Nat.lt_of_lt_of_le (RZ.out.ltR.1 i hi) hT4.size, fun i hi => Nat.lt_of_lt_of_le (RZ.out.ltR.2 i hi) hT4.size⟩, Turn.refl _ _⟩)
                  have HTW := Lib.hid tw
                  have SE := Lib.hid sE
                  have HLO := Lib.hid hlo4
                  have H4' := Lib.hid H4
                  have OFF := Lib.hid (And.intro offR' offL')
                  clear sE hlo4 RF4 tw H4 offR' offL' apE newA'
                  have ELN : Hid ((offAll (o1, o2, o3, o4) times sd tk (X.take ne) wl m).1.length = ne) := by show _ = _; rw [offAll_len, List.length_take, HXL.out]; omega
                  have hXt : Hid ((X.take ne).length = ne) := by show _ = _; rw [List.length_take, HXL.out]; omega
                  go_wp2_with fail
                  go_loopw [19] (fun i wr => ∃ p : Nat, p ≤ ne ∧ i = .int .i64 p ∧ ∃ Ar' nr' cr' L' nl' cl' T', HOff w4 h q bm mb (o1, o2, o3, o4) times sd tk nl A' (X.take ne) wl m p Ar' nr' cr' L' nl' cl' T' wr) (fun i _ => ne - (intOf i).toNat)
                  case atStart => exact ⟨0, by omega, rfl, Ar, nr, cr, L, nl, cl, T, HS.out⟩
                  case round =>
                    obtain ⟨p, hp, rfl, Ar', nr', cr', L', nl', cl', T', HO⟩ := hrel
                    obtain ⟨w5, rfl⟩ : ∃ wo : World, wo = wr := ⟨_, rfl⟩
                    have HO' := Lib.hid HO
                    have p0 : (0 : Int) ≤ (p : Int) := Int.natCast_nonneg _
                    have TW5 : Turn [] w w5 := HTW.out.andThen HO.turn (fun i hi => by simp at hi; subst hi; exact .inr HNEW.out.2.2.2.2)
                    have zz5 := HO.turn.size
                    by_cases hpl : p < ne
                    · as_aux_lemma =>
                        have p1 : (p : Int) < (ne : Int) := by omega
                        have pX : p < X.length := by rw [HXL.out]; omega
                        have pX' : p < (X.take ne).length := by rw [hXt.out]; exact hpl
                        obtain ⟨ev, hev⟩ : ∃ ev, (offAll (o1, o2, o3, o4) times sd tk (X.take ne) wl m).1[p]? = some ev := ⟨_, List.getElem?_eq_getElem (by rw [ELN.out]; exact hpl)⟩
                        have hEm : mb ∉ blks E := fun hm => by have := (hE mb hm).2; omega
                        obtain ⟨bE, oEE, rfl, lE, cE⟩ := SE.out.turn HO.turn (off_blks (fun i hi hm => hEm (by simp at hm; rw [← hm]; exact hi))) (by rw [ents64, List.length_map, ELN.out]; omega)
                        have cEp := cE p (.int .i64 ev) (by rw [ents64, List.getElem?_map, hev]; rfl)
                        have B5 := HO.turn.blk BA4 (show wK.heap.size ∉ [mb] by simp; omega)
                        have s1 := B5.cell 1
                        have s2 := B5.cell 2
                        have s3 := B5.cell 3
                        have sl5 := B5.lt
                        obtain ⟨bx, ox, rfl, lbx, x0, x1, x2, x3⟩ := ccs_at (HS0.out.turn0 TW5) pX
                        have hbx : bx < w.heap.size := hAk.out (fun h0 => by rw [h0] at pX; simp at pX) bx (by simp [blks])
                        have hgx : (X.take ne)[p] = X[p] := List.getElem_take
                        have STEP := Lib.hid (fun wy e wz' (hy : Turn [] w5 wy) (ho : Offered wy mb (o1, o2, o3, o4) times Ar' nr' cr' (offAll (o1, o2, o3, o4) times sd tk ((X.take ne).take p) wl m).2.1 L' nl' cl' T' sd tk (X.take ne)[p] e wz') => HOff.step HO'.out pX' RZ.out.his.qs.ok (by rw [RZ.out.his.len]; exact RZ.out.his.le) RZ.out.nd HLO.out hy ho ev hev)
                        rw [hgx] at STEP
                        have hn16 := (offAll_inv (o1, o2, o3, o4) times sd tk ((X.take ne).take p) wl m RZ.out.his.qs.ok (by rw [RZ.out.his.len]; exact RZ.out.his.le) RZ.out.nd).2.1
                        rw [HO.ref.wn] at hn16
                        have hnl5 := HO.nle
                        have hnl0 := RZ.out.nle
                        clear hgx hev cE
                        generalize X[p] = x at *
                        obtain ⟨y1, y2, y3, y4⟩ := x
                        simp only at x0 x1 x2 x3
                        have RO := Lib.hid (fun wy (hy : Turn [] w5 wy) => refOffer_c mb (o1, o2, o3, o4) times Ar' nr' cr' _ L' nl' cl' T' sd tk y1 y2 y3 y4 wy (HO'.out.ref.turn hy (by simp) (by simp) (by simp)) hn16 (by omega) htk)
                        generalize (offAll (o1, o2, o3, o4) times sd tk ((X.take ne).take p) wl m).2.1 = wlp at *
                        have T50 := (Turn.refl [] w5).drew
                        have hbm : bx ≠ mb := fun h => by have := HNEW.out.2.2.2.2; omega
                        have hcm : wK.heap.size ≠ mb := by omega
                        have hEm' : bE ≠ mb := fun h => hEm (by simp [blks, h])
                        have AE : ∀ wy, Turn [mb] w5 wy → (wy.cell? ⟨bE, oEE + p, none⟩ = some (.int .i64 ev) ∧ wy.cell? ⟨wK.heap.size, 1, none⟩ = some (.int .i64 sd) ∧ wy.cell? ⟨wK.heap.size, 2, none⟩ = some (.int .i64 tk) ∧ wy.cell? ⟨wK.heap.size, 3, none⟩ = some (.slice (some ⟨bx, ox, none⟩) nk ck) ∧
                            wy.cell? ⟨bx, ox + p * 4, none⟩ = some (.int .i64 y1) ∧ wy.cell? ⟨bx, ox + p * 4 + 1, none⟩ = some (.int .i64 y2) ∧ wy.cell? ⟨bx, ox + p * 4 + 2, none⟩ = some (.int .i64 y3) ∧ wy.cell? ⟨bx, ox + p * 4 + 3, none⟩ = some (.int .i64 y4) ∧ Turn [mb] w5 wy) := fun wy hy =>
                          ⟨(hy.cell lE (by simpa using hEm')).trans cEp, (hy.cell sl5 (by simpa using hcm)).trans s1, (hy.cell sl5 (by simpa using hcm)).trans s2, (hy.cell sl5 (by simpa using hcm)).trans s3, (hy.cell lbx (by simpa using hbm)).trans x0, (hy.cell lbx (by simpa using hbm)).trans x1, (hy.cell lbx (by simpa using hbm)).trans x2, (hy.cell lbx (by simpa using hbm)).trans x3, hy⟩
                        have T5m : Turn [mb] w5 w5.drew := T50.mono (by simp)
                        have p2 : (p : Int) < (nk : Int) := by omega
                        go_wp2_with fail
                        go_region_held3 (fun w' => w'.cell? ⟨bE, oEE + p, none⟩ = some (.int .i64 ev) ∧ w'.cell? ⟨wK.heap.size, 1, none⟩ = some (.int .i64 sd) ∧ w'.cell? ⟨wK.heap.size, 2, none⟩ = some (.int .i64 tk) ∧ w'.cell? ⟨wK.heap.size, 3, none⟩ = some (.slice (some ⟨bx, ox, none⟩) nk ck) ∧
                            w'.cell? ⟨bx, ox + p * 4, none⟩ = some (.int .i64 y1) ∧ w'.cell? ⟨bx, ox + p * 4 + 1, none⟩ = some (.int .i64 y2) ∧ w'.cell? ⟨bx, ox + p * 4 + 2, none⟩ = some (.int .i64 y3) ∧ w'.cell? ⟨bx, ox + p * 4 + 3, none⟩ = some (.int .i64 y4) ∧ Turn [mb] w5 w') (first | exact AE _ (by assumption))
                          ((go_at_call 13; refine (RO.out _ (by assumption)).mono ?_; rintro e w6 ho6; have T6m : Turn [mb] w5 w6 := T5m.trans ho6.turn; obtain ⟨he6, hn6⟩ := STEP.out _ _ _ T50 ho6; subst he6; have HN6 := Lib.hid hn6; clear hn6))
                        go_wp2_with fail
                        obtain ⟨Ar2, nr2, cr2, L2, nl2, cl2, T2, HO2⟩ := HN6.out
                        go_roundw
                        case rel => exact ⟨p + 1, by omega, by go_num, Ar2, nr2, cr2, L2, nl2, cl2, T2, HO2⟩
                        case measure => simp [intOf]; omega
                    · as_aux_lemma =>
                        obtain rfl : p = ne := by omega
                        have p1 : ¬ (p : Int) < (p : Int) := by omega
                        have htt : (X.take p).take p = X.take p := by rw [List.take_take, Nat.min_self]
                        have rf := HO.ref
                        have ok := HO.ok
                        rw [htt] at rf ok
                        have hnl5 := HO.nle
                        have hnl0 := RZ.out.nle
                        have mbh := RZ.out.mbh
                        have RT := Lib.hid (show HPRel w h q bm base mb (o1, o2, o3, o4) times (6 * (k + 1)) (offAll (o1, o2, o3, o4) times sd tk (X.take p) wl m).2.2 A' n' cp' (offAll (o1, o2, o3, o4) times sd tk (X.take p) wl m).2.1 Ar' nr' cr' L' nl' cl' T' w5 from
                          ⟨H4'.out.turn HO.turn (by simp; exact fun h => mbh.1 h.symm) (by simp; exact fun h => mbh.2.1 h.symm) (by simp; exact fun h => mbh.2.2 h.symm) (fun i hi hm => by simp at hm; subst hm; exact mbA' hi), rf, ok, INV.out.2.2, by omega, mbA', mbh, HO.offR, HO.offL, HO.ltR, HNEW.out, TW5⟩)
                        clear rf ok htt HO
                        generalize (offAll (o1, o2, o3, o4) times sd tk (X.take p) wl m).2.2 = m' at *
                        generalize (offAll (o1, o2, o3, o4) times sd tk (X.take p) wl m).2.1 = wl' at *
                        go_wp2_with fail
                        go_meet
                        exact ⟨_, _, _, _, _, _, _, _, _, _, _, _, RT.out⟩
              · as_aux_lemma =>
                  have NX := Lib.hid (next_c h q bm (o1, o2, o3, o4) times m base A n cp wl wz RZ.out.his)

                  have hmbz := RZ.out.ref.blk.lt
                  go_wp2_with fail
                  refine NX.out.mono ?_
                  rintro e w4 (⟨hn0, rfl, hT4⟩ | ⟨x1, x2, x3, x4, r, n', hwl, hn0, rfl, H4, hT4⟩)
                  · as_aux_lemma =>
                    have hnr0 : nr = 0 := by have h1 := RZ.out.ref.wn; have h2 := RZ.out.his.len; omega
                    have T5 : Turn [] wz (w4.alloc (.cells #[.int .i64 0, .int .i64 0, .int .i64 0, .int .i64 0] 29)) := hT4.alloc _
                    have R5 := Lib.hid (RZ.out.go T5)
                    obtain ⟨-, -, d5, d6, dl⟩ := R5.out.ref.cells
                    have d5' : (w4.alloc (.cells #[.int .i64 0, .int .i64 0, .int .i64 0, .int .i64 0] 29)).cell? ⟨mb, 5, none⟩ = some (.slice Ar 0 cr) := by rw [d5, hnr0]
                    clear d5 d6 hn0 hnr0 s0 s1 s2 s3 sl
                    go_wp2_with fail
                    generalize w4.alloc (.cells #[.int .i64 0, .int .i64 0, .int .i64 0, .int .i64 0] 29) = w5 at *
                    go_quiet (fail)
                    have RT := Lib.hid ((R5.out.go ((Turn.refl [] w5).drewN nq)).more (show 6 * k ≤ 6 * (k + 1) by omega))
                    clear d5' dl
                    generalize w5.drewN nq = w6 at *
                    go_wp2_with fail
                    go_meet
                    exact ⟨_, _, _, _, _, _, _, _, _, _, _, _, RT.out⟩
                  · as_aux_lemma =>
                    subst hwl
                    subst hn0
                    have hnr : nr = n' + 1 := by have h1 := RZ.out.ref.wn; have h2 := RZ.out.his.len; omega
                    subst hnr
                    have hT4' : Turn ([h, bm] ++ blks A) wz w4 := hT4.mono (by intro i hi; simp at hi ⊢; rcases hi with hi | hi <;> simp [hi])
                    obtain ⟨RF4, mbA', offR', offL', tw⟩ := RZ.out.real H4 hT4' (fun i hi => .inl hi)
                    have z4 := hT4.size
                    have T5 := (Turn.refl [] w4).alloc (.cells #[.int .i64 x1, .int .i64 x2, .int .i64 x3, .int .i64 x4] 29)
                    have BN := Blk.new w4 29 #[.int .i64 x1, .int .i64 x2, .int .i64 x3, .int .i64 x4]
                    have RF5 := Lib.hid (RF4.turn T5 (by simp) (by simp) (by simp))
                    have H5 := Lib.hid (H4.turn T5 (by simp) (by simp) (by simp) (by simp))
                    have HTW := Lib.hid (tw.trans T5)
                    have OFF := Lib.hid (And.intro offR' offL')
                    clear RF4 tw offR' offL' s0 s1 s2 s3 sl
                    go_wp2_with fail
                    generalize w4.alloc (.cells #[.int .i64 x1, .int .i64 x2, .int .i64 x3, .int .i64 x4] 29) = w5 at *
                    obtain ⟨-, -, d5, -, dl⟩ := RF5.out.cells
                    obtain ⟨bx, ox, hAr, lbx, y0, y1, y2, y3⟩ := ccs_at RF5.out.ws (k := 0) (by simp)
                    simp only [Nat.zero_mul, Nat.add_zero, List.getElem_cons_zero] at y0 y1 y2 y3
                    have n0 := BN.cell 0
                    have n1 := BN.cell 1
                    have n2 := BN.cell 2
                    have n3 := BN.cell 3
                    have nl_ := BN.lt
                    subst hAr
                    have T50 := (Turn.refl [] w5).drew
                    have AE : ∀ wy, Turn [] w5 wy → (wy.cell? ⟨mb, 5, none⟩ = some (.slice (some ⟨bx, ox, none⟩) (n' + 1) cr) ∧ wy.cell? ⟨w4.heap.size, 0, none⟩ = some (.int .i64 x1) ∧ wy.cell? ⟨w4.heap.size, 1, none⟩ = some (.int .i64 x2) ∧ wy.cell? ⟨w4.heap.size, 2, none⟩ = some (.int .i64 x3) ∧ wy.cell? ⟨w4.heap.size, 3, none⟩ = some (.int .i64 x4) ∧
                        wy.cell? ⟨bx, ox, none⟩ = some (.int .i64 x1) ∧ wy.cell? ⟨bx, ox + 1, none⟩ = some (.int .i64 x2) ∧ wy.cell? ⟨bx, ox + 2, none⟩ = some (.int .i64 x3) ∧ wy.cell? ⟨bx, ox + 3, none⟩ = some (.int .i64 x4) ∧ Turn [] w5 wy) := fun wy hy =>
                      ⟨(hy.cell dl (by simp)).trans d5, (hy.cell nl_ (by simp)).trans n0, (hy.cell nl_ (by simp)).trans n1, (hy.cell nl_ (by simp)).trans n2, (hy.cell nl_ (by simp)).trans n3, (hy.cell lbx (by simp)).trans y0, (hy.cell lbx (by simp)).trans y1, (hy.cell lbx (by simp)).trans y2, (hy.cell lbx (by simp)).trans y3, hy⟩
                    go_region_held3 (fun w' => w'.cell? ⟨mb, 5, none⟩ = some (.slice (some ⟨bx, ox, none⟩) (n' + 1) cr) ∧ w'.cell? ⟨w4.heap.size, 0, none⟩ = some (.int .i64 x1) ∧ w'.cell? ⟨w4.heap.size, 1, none⟩ = some (.int .i64 x2) ∧ w'.cell? ⟨w4.heap.size, 2, none⟩ = some (.int .i64 x3) ∧ w'.cell? ⟨w4.heap.size, 3, none⟩ = some (.int .i64 x4) ∧
                        w'.cell? ⟨bx, ox, none⟩ = some (.int .i64 x1) ∧ w'.cell? ⟨bx, ox + 1, none⟩ = some (.int .i64 x2) ∧ w'.cell? ⟨bx, ox + 2, none⟩ = some (.int .i64 x3) ∧ w'.cell? ⟨bx, ox + 3, none⟩ = some (.int .i64 x4) ∧ Turn [] w5 w') (first | exact AE _ (by assumption))
                      ((go_at_call 15; refine (of_c x1 x2 x3 x4 _).mono ?_; rintro e w6 ⟨rfl, hT6⟩; have T6 : Turn [] w5 w6 := Turn.trans T50 hT6))
                    have RF6 := Lib.hid (RF5.out.turn T6 (by simp) (by simp) (by simp))
                    have H6 := Lib.hid (H5.out.turn T6 (by simp) (by simp) (by simp) (by simp))
                    clear d5 dl y0 y1 y2 y3 n0 n1 n2 n3 nl_
                    obtain ⟨-, -, c5, c6, cl_⟩ := RF6.out.cells
                    have f5 := RF6.out.blk.frozen 5
                    obtain ⟨ti, hti, hti4⟩ : ∃ i, Try.prog.info? 37 = some i ∧ i.size = 4 := by
                      obtain ⟨-, ⟨i, h1, -, h2, -⟩, -, -⟩ := elemR
                      exact ⟨i, h1, h2⟩
                    have hsl1 := run_slice_one (P := Try.prog) Try.underlying33 hti w6 (some ⟨bx, ox, none⟩) (n' + 1) cr (by omega)
                    rw [hti4] at hsl1
                    have hs1 := Lib.hid (sl_one RF6.out.ws cr (by have h1 := RF6.out.wn; have h2 := RF6.out.wc; simp at h1; omega))
                    have hb1 := Lib.hid (fun i (hi : i ∈ blks (if cr = 1 then (some ⟨bx, ox, none⟩ : Option Addr) else (some ⟨bx, ox, none⟩ : Option Addr).map (·.add 4))) => blks_one hi)
                    generalize (if cr = 1 then (some ⟨bx, ox, none⟩ : Option Addr) else (some ⟨bx, ox, none⟩ : Option Addr).map (·.add 4)) = A1 at *
                    rw [show n' + 1 - 1 = n' by omega] at hsl1
                    clear hti hti4
                    have hgA1 : mb ∉ blks A1 := fun hm => RF6.out.offA (hb1.out mb hm)
                    have Tg : Turn [mb] w6 (w6.setCell ⟨mb, 5, none⟩ (.slice A1 n' (cr - 1))) := (Turn.refl [mb] w6).setCell (.inl (by simp)) _
                    have Bg : Blk (w6.setCell ⟨mb, 5, none⟩ (.slice A1 n' (cr - 1))) mb 48 #[.int .i64 o1, .int .i64 o2, .int .i64 o3, .int .i64 o4, .int .i64 times, .slice A1 n' (cr - 1), .slice L nl cl] := by
                      have := RF6.out.blk.set_ 5 (.slice A1 n' (cr - 1))
                      simpa using this
                    have nonm : ∀ {B : Option Addr}, mb ∉ blks B → ∀ i ∈ blks B, i ∉ [mb] := fun h i hi hm => h (by simp at hm; rw [← hm]; exact hi)
                    have mbh := RZ.out.mbh
                    have nd := RZ.out.nd
                    rw [List.map_cons, List.nodup_cons] at nd
                    have ltR := RZ.out.ltR
                    have zz6 := T6.size
                    have zz5 := T5.size
                    have zg := Tg.size
                    have hb2 : ∀ i ∈ blks A1, i ∈ blks (some ⟨bx, ox, none⟩) := hb1.out
                    have hwn := RF6.out.wn
                    have hwc := RF6.out.wc
                    have RT := Lib.hid (show HPRel w h q bm base mb (o1, o2, o3, o4) times (6 * (k + 1)) m A n' cp r A1 n' (cr - 1) L nl cl T (w6.setCell ⟨mb, 5, none⟩ (.slice A1 n' (cr - 1))) from
                      ⟨H6.out.turn Tg (by simp; exact fun h => mbh.1 h.symm) (by simp; exact fun h => mbh.2.1 h.symm) (by simp; exact fun h => mbh.2.2 h.symm) (nonm mbA'),
                       ⟨Bg, hs1.out.turn Tg (off_blks (nonm hgA1)), by simpa using hwn, by omega, RF6.out.ls.turn Tg (off_blks (nonm RF6.out.offL)), RF6.out.ln, hgA1, RF6.out.offL⟩,
                       RZ.out.ok, nd.2, by have := RZ.out.nle; omega, mbA', mbh, fun i hi => OFF.out.1 i (hb2 i hi), OFF.out.2, ⟨fun i hi => by have := ltR.1 i (hb2 i hi); omega, fun i hi => by have := ltR.2 i hi; omega⟩, HNEW.out, ((HTW.out.trans T6).andThen Tg (by simp; omega))⟩)
                    clear Bg Tg nd hwn hwc hs1 hgA1 nonm
                    go_wp2_with fail
                    go_meet
                    exact ⟨_, _, _, _, _, _, _, _, _, _, _, _, RT.out⟩
              ·
                  by_cases hj0 : j = 0
                  · as_aux_lemma =>
                    subst hj0
                    go_wp2_with fail
                    refine ⟨⟨k + 1, by omega, by omega, by go_num, _, _, _, _, _, _, _, _, _, _, _, _, RZ.out.more (by omega)⟩, ?_⟩
                    simp [intOf]; omega
                  ·
                    have jp : 0 < (X.take j).length := by rw [List.length_take, HXL.out]; omega
                    have pX : 0 < X.length := by rw [HXL.out]; omega
                    obtain ⟨bd, od, rfl, lbd, x0, x1, x2, x3⟩ := ccs_at (Sl.of_own oD) jp
                    obtain ⟨bx, ox, rfl, lbx, y0, y1, y2, y3⟩ := ccs_at (HS0.out.turn0 RZ.out.turn) pX
                    have hbx : bx < w.heap.size := hAk.out (fun h0 => by rw [h0] at pX; simp at pX) bx (by simp [blks])
                    simp only [Nat.zero_mul, Nat.add_zero, List.getElem_take] at x0 x1 x2 x3 y0 y1 y2 y3
                    generalize X[0] = x at *
                    obtain ⟨c1, c2, c3, c4⟩ := x
                    simp only at x0 x1 x2 x3 y0 y1 y2 y3
                    have hbd := hD bd (by simp [blks])
                    have j1 : (0 : Int) < (j : Int) := by omega
                    have hj0' : ((j : Int) == 0) = false := by simp; omega
                    have jn : 0 < j := by omega
                    have n1 : (0 : Int) < (nk : Int) ∨ nk = 0 := by omega
                    have T50 := (Turn.refl [] wz).drew
                    have T5a : Turn (h :: blks A) wz wz.drew := T50.mono (by simp)
                    have bdh : bd ∉ h :: blks A := by simp; exact ⟨by omega, fun hm => by have := hAz _ hm; omega⟩
                    have AE : ∀ wy, Turn (h :: blks A) wz wy → (wy.cell? ⟨bd, od, none⟩ = some (.int .i64 c1) ∧ wy.cell? ⟨bd, od + 1, none⟩ = some (.int .i64 c2) ∧ wy.cell? ⟨bd, od + 2, none⟩ = some (.int .i64 c3) ∧ wy.cell? ⟨bd, od + 3, none⟩ = some (.int .i64 c4) ∧ Turn (h :: blks A) wz wy) := fun wy hy =>
                      ⟨(hy.cell lbd bdh).trans x0, (hy.cell lbd bdh).trans x1, (hy.cell lbd bdh).trans x2, (hy.cell lbd bdh).trans x3, hy⟩
                    have z50 := T50.size
                    have DR := Lib.hid (fun wy (hy : Turn [] wz wy) => hdrop_c h q bm (o1, o2, o3, o4) times m base A n cp wl (some ⟨wy.heap.size, 0, none⟩) 2 2 [(c1, c2, c3, c4), (c1, c2, c3, c4)] (wy.alloc (.cells #[.int .i64 c1, .int .i64 c2, .int .i64 c3, .int .i64 c4, .int .i64 c1, .int .i64 c2, .int .i64 c3, .int .i64 c4] 29)) (RZ.out.go (hy.alloc _)).his (Sl.new _ #[.int .i64 c1, .int .i64 c2, .int .i64 c3, .int .i64 c4, .int .i64 c1, .int .i64 c2, .int .i64 c3, .int .i64 c4] _) rfl (by omega) (fun i hi => by have := hy.size; simp [blks] at hi; subst hi; exact ⟨by omega, fun hm => by have := hAz _ hm; omega⟩))
                    rw [filter_contains2] at DR
                    go_wp2_with fail
                    go_region_held3 (fun w' => w'.cell? ⟨bd, od, none⟩ = some (.int .i64 c1) ∧ w'.cell? ⟨bd, od + 1, none⟩ = some (.int .i64 c2) ∧ w'.cell? ⟨bd, od + 2, none⟩ = some (.int .i64 c3) ∧ w'.cell? ⟨bd, od + 3, none⟩ = some (.int .i64 c4) ∧ Turn (h :: blks A) wz w') (first | exact AE _ (by first | assumption | exact Turn.alloc (by assumption) _))
                      ((go_at_call 16; refine (DR.out _ T50).mono ?_; rintro e w4 ⟨n', hn', rfl, H4, hT4⟩; have hT4' : Turn (h :: blks A) wz w4 := (T5a.alloc _).trans hT4))
                    have hT5 : Turn ([h, bm] ++ blks A) wz w4 := hT4'.mono (by intro i hi; simp at hi ⊢; rcases hi with hi | hi <;> simp [hi])
                    obtain ⟨RF4, mbA', offR', offL', tw⟩ := RZ.out.real H4 hT5 (fun i hi => .inl hi)
                    have z4 := hT5.size
                    have hnr : nr = n := by have h1 := RZ.out.ref.wn; have h2 := RZ.out.his.len; omega
                    have hnl1 := filter_len1 RZ.out.nd (c1, c2, c3, c4)
                    rw [RZ.out.his.len] at hnl1
                    have hfn := H4.len
                    rw [hfn] at hnl1
                    have BA4 := hT4'.blk BZ (show wK.heap.size ∉ h :: blks A by simp; exact ⟨by omega, fun hm => by have := hAz _ hm; omega⟩)
                    have s34 := BA4.cell 3
                    have sl4 := BA4.lt
                    have y0' := (tw.cell (p := ⟨bx, ox, none⟩) hbx (by simp)).trans ((RZ.out.turn.cell (p := ⟨bx, ox, none⟩) hbx (by simp)).symm.trans y0)
                    have y1' := (tw.cell (p := ⟨bx, ox + 1, none⟩) hbx (by simp)).trans ((RZ.out.turn.cell (p := ⟨bx, ox + 1, none⟩) hbx (by simp)).symm.trans y1)
                    have y2' := (tw.cell (p := ⟨bx, ox + 2, none⟩) hbx (by simp)).trans ((RZ.out.turn.cell (p := ⟨bx, ox + 2, none⟩) hbx (by simp)).symm.trans y2)
                    have y3' := (tw.cell (p := ⟨bx, ox + 3, none⟩) hbx (by simp)).trans ((RZ.out.turn.cell (p := ⟨bx, ox + 3, none⟩) hbx (by simp)).symm.trans y3)
                    have lbx4 : bx < w4.heap.size := by have := tw.size; omega
                    have hle := RZ.out.his.le
                    have RD := Lib.hid (refDrop_c mb (o1, o2, o3, o4) times Ar nr cr wl L nl cl T c1 c2 c3 c4 w4 RF4 (by omega))
                    have nkp : (0 : Int) < (nk : Int) := by omega
                    have nkn : 0 < nk := by omega
                    have HTW := Lib.hid tw
                    have OFF := Lib.hid (And.intro offR' offL')
                    have H4' := Lib.hid H4
                    clear x0 x1 x2 x3 y0 y1 y2 y3 s0 s1 s2 s3 sl n1 H4 RF4 tw offR' offL'
                    have hsb : (n : Int) - (n' : Int) = 1 ∨ n' = n := by omega
                    go_wp2_with fail
                    refine RD.out.mono ?_
                    rintro e w5 ⟨A1, n1, cap1, rfl, RF5, hA1, hT5'⟩
                    have hn1 : n1 = n' := by have h1 := RF5.wn; omega
                    subst hn1
                    subst hnr
                    have mbh := RZ.out.mbh
                    have zz := hT5'.size
                    have ltR := RZ.out.ltR
                    have hal := H4'.out.row
                    have hAa := fun i hi => (own_ltA hal i hi).1
                    have h4l := H4'.out.blk.lt
                    have q4l := H4'.out.qs.lt
                    have RT := Lib.hid (show HPRel w h q bm base mb (o1, o2, o3, o4) times (6 * (k + 1)) m A n1 cp (wl.filter (fun x => x != (c1, c2, c3, c4))) A1 n1 cap1 L nl cl T w5 from
                      ⟨H4'.out.turn hT5' (by simp; exact fun h => mbh.1 h.symm) (by simp; exact fun h => mbh.2.1 h.symm) (by simp; exact fun h => mbh.2.2 h.symm) (fun i hi hm => mbA' (by simp at hm; rw [← hm]; exact hi)), RF5, RZ.out.ok, filter_nodup RZ.out.nd _, by have := RZ.out.nle; omega, mbA', mbh,
                       fun i hi => by have := (hA1 i hi).1; exact ⟨by omega, by omega, by omega, fun hm => by have := hAa i hm; omega⟩, OFF.out.2, ⟨fun i hi => (hA1 i hi).2, fun i hi => by have := ltR.2 i hi; omega⟩, HNEW.out, HTW.out.andThen hT5' (by simp; omega)⟩)
                    rcases hsb with hsb | hsb
                    · have e1 : ((nr : Int) - (n1 : Int) == 1) = true := by simpa using hsb
                      have e2 : decide (n1 < nr) = true := by simp; omega
                      have e3 : ¬ (1 : Int) < (nr : Int) - (n1 : Int) := by omega
                      clear hsb
                      go_wp2_with fail
                      go_meet
                      exact ⟨_, _, _, _, _, _, _, _, _, _, _, _, RT.out⟩
                    · subst hsb
                      have e1 : ((n1 : Int) - (n1 : Int) == 1) = false := by simp
                      have e2 : decide (n1 < n1) = false := by simp
                      have e3 : ¬ (1 : Int) < (n1 : Int) - (n1 : Int) := by omega
                      go_wp2_with fail
                      go_meet
                      exact ⟨_, _, _, _, _, _, _, _, _, _, _, _, RT.out⟩
              · as_aux_lemma =>
                  have wfs := wf1
                  have KN := Lib.hid (fun wy (hy : Turn [] wz wy) => knownT_c L nl cl T sd wy (RZ.out.ref.ls.turn0 hy) RZ.out.ref.ln (by have := RZ.out.nle; omega))
                  have hke := RZ.out.ok.known sd
                  have T50 := (Turn.refl [] wz).drew
                  obtain ⟨-, -, d5, d6, dl⟩ := RZ.out.ref.cells
                  have AE : ∀ wy, Turn [] wz wy → (wy.cell? ⟨mb, 6, none⟩ = some (.slice L nl cl) ∧ wy.cell? ⟨wK.heap.size, 1, none⟩ = some (.int .i64 sd) ∧ Turn [] wz wy) := fun wy hy =>
                    ⟨(hy.cell dl (by simp)).trans d6, (hy.cell sl (by simp)).trans s1, hy⟩
                  have hk1 := kdel_one (m := m) RZ.out.his.qs.ok.rises sd
                  have hfw : Hid (knownL T sd = true ↔ kget m sd ≠ none) := by show _ ↔ _; rw [hke]; cases kget m sd <;> simp
                  have hmb6 := RZ.out.ref.blk.frozen 6
                  generalize knownL T sd = kb at *
                  generalize lastL T sd = kp at *
                  clear hke d5 d6 dl s0 s1 s2 s3 sl hmb6
                  go_wp2_with fail
                  go_region_held3 (fun w' => w'.cell? ⟨mb, 6, none⟩ = some (.slice L nl cl) ∧ w'.cell? ⟨wK.heap.size, 1, none⟩ = some (.int .i64 sd) ∧ Turn [] wz w') (first | exact AE _ (by assumption))
                    ((go_at_call 18; refine (KN.out _ T50).mono ?_; rintro e w4 ⟨rfl, hw4⟩; obtain rfl : wz.drew = w4 := hw4.symm))
                  generalize hwd : wz.drew = w4 at *
                  have R4 := Lib.hid (RZ.out.go T50)
                  have BA4 := T50.blk BZ (by simp)
                  have s1 := BA4.cell 1
                  have sl4 := BA4.lt
                  have z4 := T50.size
                  have FG := Lib.hid (hforget_c h q bm (o1, o2, o3, o4) times m base A n cp wl (some ⟨w4.heap.size, 0, none⟩) 1 1 [sd] (w4.alloc (.cells #[.int .i64 sd] 3)) (R4.out.go ((Turn.refl [] w4).alloc _)).his (Sl.new w4 #[.int .i64 sd] _) rfl (by omega) (by have := R4.out.his.qs.lt; simp [blks]; omega) (by intro x hx; simp at hx; subst hx; exact wfs))
                  have TA4 := (Turn.refl [] w4).alloc (.cells #[.int .i64 sd] 3)
                  clear hwd
                  go_wp2_with fail
                  refine FG.out.mono ?_
                  rw [hk1]
                  rintro e w5 ⟨rfl, H5, hT5⟩
                  have T45 : Turn ([h, bm] ++ blks A) w4 w5 := (TA4.mono (by simp)).trans (hT5.mono (by simp))
                  obtain ⟨RF5, mbA', offR', offL', tw⟩ := R4.out.real H5 T45 (fun i hi => .inl hi)
                  have z5 := T45.size
                  have mbh := RZ.out.mbh
                  have ltR := R4.out.ltR
                  have BA5 := T45.blk BA4 (by
                    simp only [List.mem_append, List.mem_cons, List.not_mem_nil, or_false, not_or]
                    exact ⟨⟨by omega, by omega⟩, fun hm => by have := hAz _ hm; omega⟩)
                  have s15 := BA5.cell 1
                  have sl5 := BA5.lt
                  obtain ⟨-, -, d5, d6, dl⟩ := RF5.cells
                  have f6 := RF5.blk.frozen 6
                  have DT := Lib.hid (fun wy (hy : Turn [] w5 wy) => dropT_c L nl cl T sd wy (RF5.ls.turn0 hy) RF5.ln (by have := RZ.out.nle; omega))
                  have POK := Lib.hid (RZ.out.ok.drop RZ.out.his.qs.ok.rises sd)
                  have HTW := Lib.hid tw
                  have OFF := Lib.hid (And.intro offR' offL')
                  have H5' := Lib.hid H5
                  have RF5' := Lib.hid RF5
                  have hfl := List.length_filter_le (fun x : Int × Int => x.1 != sd) T
                  rw [RZ.out.ref.ln] at hfl
                  have hqd : qdel m [sd] = kdel m sd := rfl
                  have FL : Hid ((T.filter (fun x => x.1 != sd)).length ≤ nl) := hfl
                  clear tw offR' offL' H5 hfl hqd hk1
                  generalize T.filter (fun x => x.1 != sd) = T' at *
                  clear RF5
                  by_cases hkn : kget m sd = none
                  · rw [if_pos hkn]
                    have hkb : kb = false := by cases kb with
                      | false => rfl
                      | true => exact absurd hkn (hfw.out.1 rfl)
                    subst hkb
                    clear hkn
                    go_wp2_with fail
                    have T60 := (Turn.refl [] w5).drew
                    go_region_law (first
                      | (go_simp; go_at_call 20; refine (DT.out w5.drew T60).mono ?_; rintro e w6 ⟨L2, nl2, cl2, rfl, oL2, hT6⟩; have T56 : Turn [] w5 w6 := Turn.trans T60 hT6; have f66 := (T56.blk RF5'.out.blk (by simp)).frozen 6; have d66 := (T56.cell dl (by simp)).trans d6))
                    all_goals
                      have RTT := Lib.hid (arm3_rel (N' := 6 * (k + 1)) R4.out T45 H5'.out RF5'.out POK.out HTW.out T60 T56 oL2 FL.out (by omega))
                      clear oL2
                      go_wp2_with fail
                      go_meet
                      exact ⟨_, _, _, _, _, _, _, _, _, _, _, _, RTT.out⟩
                  · rw [if_neg hkn]
                    have hkb : kb = true := hfw.out.2 hkn
                    subst hkb
                    clear hkn
                    go_wp2_with fail
                    have T60 := (Turn.refl [] w5).drew
                    go_region_law (first
                      | (go_simp; go_at_call 20; refine (DT.out w5.drew T60).mono ?_; rintro e w6 ⟨L2, nl2, cl2, rfl, oL2, hT6⟩; have T56 : Turn [] w5 w6 := Turn.trans T60 hT6; have f66 := (T56.blk RF5'.out.blk (by simp)).frozen 6; have d66 := (T56.cell dl (by simp)).trans d6))
                    all_goals
                      have RTT := Lib.hid (arm3_rel (N' := 6 * (k + 1)) R4.out T45 H5'.out RF5'.out POK.out HTW.out T60 T56 oL2 FL.out (by omega))
                      clear oL2
                      go_wp2_with fail
                      go_meet
                      exact ⟨_, _, _, _, _, _, _, _, _, _, _, _, RTT.out⟩
            case rest =>
              obtain ⟨m', A', n', cp', wl', Ar', nr', cr', L', nl', cl', T', RT0⟩ := hcut
              obtain ⟨wt, rfl⟩ : ∃ wo : World, wo = wc := ⟨_, rfl⟩
              have RT := Lib.hid RT0
              clear RT0
              have hnr : nr' = n' := by have h1 := RT.out.ref.wn; have h2 := RT.out.his.len; omega
              have hcr := RT.out.ref.wc
              have hle := RT.out.his.le
              have hnl := RT.out.nle
              first | subst hnr | clear hnr
              have LK := Lib.hid (fun wy (hy : Turn [] wt wy) => lookT_c L' nl' cl' T' sender tick wy (RT.out.ref.ls.turn0 hy) RT.out.ref.ln (by omega) htick)
              have TI := Lib.hid (fun wy (hy : Turn [] wt wy) => times_c L' nl' cl' T' sender (tick / 32) wy (RT.out.ref.ls.turn0 hy) RT.out.ref.ln (by omega))
              have HLN := Lib.hid (fun wy (hy : Turn [] wt wy) => hlen_c h q bm _ times m' base A' nr' cp' wl' wy (RT.out.go hy).his)
              have WTG := Lib.hid (fun wy (hy : Turn [] wt wy) => waiting_c h q bm _ times m' base A' nr' cp' wl' wy (RT.out.go hy).his)
              have LFT := Lib.hid (fun wy (hy : Turn [] wt wy) => hleft_c h q bm _ times m' base A' nr' cp' wl' sender tick wy (RT.out.go hy).his htick)
              have SMC := Lib.hid (fun (B : Option Addr) (cB : Nat) wy (hy : Turn [] wt wy) (hB : Sl wy B (ccs wl')) => sameC_c B Ar' nr' cB cr' wl' wy hB (RT.out.ref.ws.turn0 hy) RT.out.his.len (by omega))
              have HV := Lib.hid (left_ref (times := times) (s := sender) (t := tick) RT.out.ok)
              have tq := timesL_le T' sender (tick / 32)
              rw [RT.out.ref.ln] at tq
              have hnn := Lib.hid (look_nonneg (T := T') (s := sender) (t := tick))
              generalize qleft m' times sender tick = vq at *
              generalize timesL T' sender (tick / 32) = tqn at *
              obtain ⟨-, -, d5, d6, dl⟩ := RT.out.ref.cells
              have A5 : ∀ wy, Turn [] wt wy → (wy.cell? ⟨mb, 5, none⟩ = some (.slice Ar' nr' cr') ∧ Turn [] wt wy) := fun wy hy => ⟨(hy.cell dl (by simp)).trans d5, hy⟩
              by_cases hl0 : lookL T' sender tick = 0
              · as_aux_lemma =>
                  rw [hl0] at LK
                  have hv := HV.out
                  rw [if_pos hl0] at hv
                  have HV2 := Lib.hid hv
                  have t0 := hnn.out hl0
                  have ttd : tick.tdiv 32 = tick / 32 := Int.tdiv_eq_ediv_of_nonneg t0
                  have wfd : (Lit.int .i64 (tick / 32)).wf = true := by simp [Lit.wf, IntKind.min, IntKind.max, IntKind.signed, IntKind.bits]; omega
                  have hsub : IntKind.i64.wrap (times - (tqn : Int)) = times - (tqn : Int) := IntWalk.i64_in _ (by omega)
                  clear hl0 HV hnn hv
                  go_wp2_with fail
                  refine (LK.out _ (Turn.refl [] _)).mono ?_
                  rintro e x1w ⟨rfl, hx1⟩
                  obtain rfl : wt = x1w := hx1.symm
                  go_wp2_with fail
                  refine (TI.out _ (Turn.refl [] _)).mono ?_
                  rintro e x2w ⟨rfl, hX2⟩
                  have TD := hX2.drew
                  have ex5 := (A5 x2w hX2).1
                  have HV3 : Hid (times - (tqn : Int) = vq) := HV2.out
                  go_wp2_with fail
                  go_region_held3 (fun w' => w'.cell? ⟨mb, 5, none⟩ = some (.slice Ar' nr' cr') ∧ Turn [] wt w') (first | exact A5 _ (by assumption))
                    (first
                      | (go_at_call 22; refine (HLN.out _ (by assumption)).mono ?_; rintro e x3w ⟨rfl, rfl⟩)
                      | (go_at_call 7; refine (WTG.out _ (by assumption)).mono ?_; rintro e x4w ⟨B4, cB4, rfl, oB4, hX4⟩; have TX4 : Turn [] wt x4w := Turn.trans TD hX4)
                      | (go_at_call 23; refine (SMC.out B4 cB4 _ (by assumption) (Sl.of_own oB4)).mono ?_; rintro e x5w ⟨rfl, hX5⟩; have TX5 : Turn [] wt x5w := Turn.trans TX4 hX5)
                      | (go_at_call 24; refine (LFT.out _ (by assumption)).mono ?_; rw [← HV3.out]; rintro e x6w ⟨rfl, hX6⟩; have TX6 : Turn [] wt x6w := Turn.trans TX5 hX6))
                  go_wp2_with fail
                  go_roundw
                  case rel => exact ⟨k + 1, by omega, by omega, by go_num, m', A', nr', cp', wl', Ar', nr', cr', L', nl', cl', T', RT.out.go TX6⟩
                  case measure => simp [intOf]; omega
              · as_aux_lemma =>
                  have hl1 : (lookL T' sender tick == 0) = false := by simpa using hl0
                  have hv := HV.out
                  rw [if_neg hl0] at hv
                  have HV2 := Lib.hid hv
                  generalize lookL T' sender tick = lk at *
                  clear hl0 HV hnn hv
                  go_wp2_with fail
                  refine (LK.out _ (Turn.refl [] _)).mono ?_
                  rintro e x1w ⟨rfl, hx1⟩
                  obtain rfl : wt = x1w := hx1.symm
                  have TD := (Turn.refl [] wt).drew
                  have HV3 : Hid ((0 : Int) = vq) := HV2.out
                  go_wp2_with fail
                  go_region_held3 (fun w' => w'.cell? ⟨mb, 5, none⟩ = some (.slice Ar' nr' cr') ∧ Turn [] wt w') (first | exact A5 _ (by assumption))
                    (first
                      | (go_at_call 22; refine (HLN.out _ (by assumption)).mono ?_; rintro e x3w ⟨rfl, rfl⟩)
                      | (go_at_call 7; refine (WTG.out _ (by assumption)).mono ?_; rintro e x4w ⟨B4, cB4, rfl, oB4, hX4⟩; have TX4 : Turn [] wt x4w := Turn.trans TD hX4)
                      | (go_at_call 23; refine (SMC.out B4 cB4 _ (by assumption) (Sl.of_own oB4)).mono ?_; rintro e x5w ⟨rfl, hX5⟩; have TX5 : Turn [] wt x5w := Turn.trans TX4 hX5)
                      | (go_at_call 24; refine (LFT.out _ (by assumption)).mono ?_; rw [← HV3.out]; rintro e x6w ⟨rfl, hX6⟩; have TX6 : Turn [] wt x6w := Turn.trans TX5 hX6))
                  go_wp2_with fail
                  go_roundw
                  case rel => exact ⟨k + 1, by omega, by omega, by go_num, m', A', nr', cp', wl', Ar', nr', cr', L', nl', cl', T', RT.out.go TX6⟩
                  case measure => simp [intOf]; omega
      · by_cases hkl : k < len
        · have i1 : (k : Int) < (len : Int) := by omega
          have i2 : ¬ (k : Int) < 40 := by omega
          clear R
          go_wp2_with fail
          refine (hknown_c _).mono ?_
          rintro e w5 ⟨rfl, hT5⟩
          go_wp2_with fail
          go_ret
          exact ⟨by simp, HR.out.turn.trans hT5⟩
        · have i1 : ¬ (k : Int) < (len : Int) := by omega
          clear R
          go_wp2_with fail
          refine (hknown_c _).mono ?_
          rintro e w5 ⟨rfl, hT5⟩
          go_wp2_with fail
          go_ret
          exact ⟨by simp, HR.out.turn.trans hT5⟩
  · have hno : ¬ Right (o1, o2, o3, o4) ∨ times < 1 ∨ 255 < times := by
      by_cases hr : Right (o1, o2, o3, o4)
      · by_cases h1 : 1 ≤ times
        · exact .inr (.inr (by have : ¬ times ≤ 255 := fun h2 => hgood ⟨hr, h1, h2⟩; omega))
        · exact .inr (.inl (by omega))
      · exact .inl hr
    have HB := Lib.hid (fun wz => newH_no o1 o2 o3 o4 times wz hno)
    have hcase : Hid (decide (Right (o1, o2, o3, o4)) = false) ∨ (Hid (decide (Right (o1, o2, o3, o4)) = true) ∧ times < 1) ∨ (Hid (decide (Right (o1, o2, o3, o4)) = true) ∧ 1 ≤ times ∧ 255 < times) := by
      by_cases hr : Right (o1, o2, o3, o4)
      · have hd : Hid (decide (Right (o1, o2, o3, o4)) = true) := by show _ = _; simpa using hr
        by_cases h1 : 1 ≤ times
        · exact .inr (.inr ⟨hd, h1, by have : ¬ times ≤ 255 := fun h2 => hgood ⟨hr, h1, h2⟩; omega⟩)
        · exact .inr (.inl ⟨hd, by omega⟩)
      · exact .inl (by show _ = _; simpa using hr)
    clear hgood hno
    go_enter Try.func4, Try.ntmps4
    go_wp2_with fail
    generalize w.alloc (.cells #[.int .i64 o1, .int .i64 o2, .int .i64 o3, .int .i64 o4] 37) = w0 at *
    refine (to_c o1 o2 o3 o4 _).mono ?_
    rintro e w1 ⟨rfl, hT1⟩
    go_wp2_with fail
    refine (HB.out w1).mono ?_
    rintro e w2 ⟨rfl, hT2⟩
    have BO := hT2.blk (hT1.blk B0 (by simp)) (by simp)
    have c0 := BO.cell 0
    have c1 := BO.cell 1
    have c2 := BO.cell 2
    have c3 := BO.cell 3
    have cl := BO.lt
    go_wp2_with fail
    refine (RR.out _).mono ?_
    rcases hcase with hd | ⟨hd, ht⟩ | ⟨hd, ht, ht2⟩
    all_goals
      rw [hd.out]
      rintro e w3 ⟨rfl, hT3⟩
      clear hd
      go_wp2_with fail
      refine (hknown_c _).mono ?_
      rintro e w4 ⟨rfl, hT4⟩
      go_wp2_with fail
      go_ret
      exact ⟨by simp, (((T0.trans hT1).trans hT2).trans hT3).trans hT4⟩
end Go.Proofs.Ytpdencmgjihnfaa
