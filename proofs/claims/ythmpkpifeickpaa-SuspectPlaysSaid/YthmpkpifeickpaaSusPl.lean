/- The walk of the law SuspectPlays. -/
import Derived.Test.YthmpkpifeickpaaSusP
import Derived.Test.YthmpkpifeickpaaSame8I
import Derived.Test.YthmpkpifeickpaaLawKit
import Derived.Test.YthmpkpifeickpaaSusOnce
namespace Go.Proofs.Ythmpkpifeickpaa
open Go.RowKit Go.ChangeMaps Go.MapKept

structure SPRel (w : World) (mb : Option Nat) (m : PM) (M : Option Addr) (n c : Nat) (wr : World) : Prop where
  ps : PIs wr w.heap.size mb m
  row : wr.ownsRow (w.heap.size + 1) 47 3 (.slice M n c) n (pcs m)
  apart : ∀ b, mb = some b → b ∉ blks M
  new : ∀ b, mb = some b → w.heap.size < b ∧ b < wr.heap.size
  turn : Turn [] w wr

theorem idsOf_snoc (f : Int × Bool → Bool) (l : PM) (x : Int × Int × Bool) : idsOf f (l ++ [x]) = idsOf f l ++ (if f x.2 then [x.1] else []) := by
  unfold idsOf
  rw [List.filter_append, List.map_append]
  congr 1
  cases h : f x.2 <;> simp [h]

set_option maxRecDepth 100000 in
set_option maxHeartbeats 40000000 in
theorem splays_walk (B : Option Addr) (len cap : Nat) (F : Nat → Nat → Int) (id : Int) (w : World) (hR : Rows w B len 3 F) (hlm : len ≤ maxLen) (hid : (Lit.int .i64 id).wf = true) :
    Calls Try.prog 4 #[.slice B len cap, .int .i64 id] w fun e w' => e = .returned (.bool true) ∧ Turn [] w w' := by
  unfold maxLen at hlm
  have HRR := Lib.hid hR
  have HID := Lib.hid hid
  clear hR hid
  go_enter Try.func4, Try.ntmps4
  go_wp2_with fail
  have T0 := (Turn.refl [] w).alloc (.cells #[.map none] 25)
  go_loopw [6, 7] (fun sl i wr => ∃ k : Nat, k ≤ len ∧ k ≤ 60 ∧ i = .int .i64 k ∧ ∃ mb m M n c, sl = .slice M n c ∧ SPRel w mb m M n c wr) (fun _ i _ => 61 - (intOf i).toNat)
  case atStart => exact ⟨0, by omega, by omega, rfl, none, [], none, 0, 0, rfl, ⟨PIs.fresh w, World.ownsRow_nil _ _ _ _, (by intro b hb; cases hb), (by intro b hb; cases hb), T0⟩⟩
  case round =>
    obtain ⟨k, hk, hk60, rfl, mb, m, M, n, c, rfl, R⟩ := hrel
    have i0 : (0 : Int) ≤ (k : Int) := Int.natCast_nonneg _
    by_cases hgo : k < len ∧ k < 60
    · obtain ⟨hlt, hlt60⟩ := hgo
      have i1 : (k : Int) < (len : Int) := by omega
      have i2 : (k : Int) < 60 := by omega
      obtain ⟨bl, off, rfl, hbl, hcc⟩ := HRR.out (by omega)
      have q0 := (R.turn.cell (p := ⟨bl, off + k * 3, none⟩) hbl (by simp)).trans (hcc k hlt 0 (by omega)).1
      have q1 := (R.turn.cell (p := ⟨bl, off + k * 3 + 1, none⟩) hbl (by simp)).trans (hcc k hlt 1 (by omega)).1
      have q2 := (R.turn.cell (p := ⟨bl, off + k * 3 + 2, none⟩) hbl (by simp)).trans (hcc k hlt 2 (by omega)).1
      have wf1 := (hcc k hlt 1 (by omega)).2
      have lbl := Nat.lt_of_lt_of_le hbl R.turn.size
      clear hcc
      generalize F k 0 = kd at *
      generalize F k 1 = aid at *
      generalize F k 2 = at_ at *
      obtain ⟨wc, rfl⟩ : ∃ wo : World, wo = wr := ⟨_, rfl⟩
      have BA := Blk.new wc 38 #[.int .i64 kd, .int .i64 aid, .int .i64 at_]
      have TA := (Turn.refl [] wc).alloc (.cells #[.int .i64 kd, .int .i64 aid, .int .i64 at_] 38)
      have TWA := R.turn.trans TA
      have PA := R.ps.turn TA (by simp) (by simp)
      have RA := own_turnA R.row TA (by simp)
      have zA : (wc.alloc (.cells #[.int .i64 kd, .int .i64 aid, .int .i64 at_] 38)).heap.size = wc.heap.size + 1 := by simp
      have hmlen := PA.len
      have hzp := R.ps.blk.lt
      have hnm0 : m.length = n := by have := R.row.1; rw [pcs_len] at this; omega
      have hn16 : n ≤ 16 := by omega
      have hMb := own_ltA R.row
      have hbase : w.heap.size + 1 ≤ wc.heap.size := by omega
      have hu : (IntKind.u64.wrap kd).tmod 3 = 0 ∨ (IntKind.u64.wrap kd).tmod 3 = 1 ∨ (IntKind.u64.wrap kd).tmod 3 = 2 := by
        have g0 : 0 ≤ IntKind.u64.wrap kd := by rw [IntKind.wrap_u64]; omega
        rw [Int.tmod_eq_emod_of_nonneg g0]
        omega
      rcases hu with hu | hu | hu
      · as_aux_lemma =>
          go_wp2_with fail
          generalize wc.alloc (.cells #[.int .i64 kd, .int .i64 aid, .int .i64 at_] 38) = wA at *
          have AC : ∀ {S : List Nat} (wz : World), Turn S wA wz → wc.heap.size ∉ S → wz.cell? ⟨wc.heap.size, 1, none⟩ = some (.int .i64 aid) ∧ wz.cell? ⟨wc.heap.size, 2, none⟩ = some (.int .i64 at_) ∧ wc.heap.size < wz.heap.size := fun wz hz hn => ⟨(hz.blk BA hn).cell 1, (hz.blk BA hn).cell 2, (hz.blk BA hn).lt⟩
          have RB := Lib.hid (rbegin_c (w.heap.size + 1) M n c m aid at_ wA RA (by omega) hn16)
          have PB := Lib.hid (fun (wy : World) (hy : Turn [] wA wy) => begin_c w.heap.size mb m aid at_ wy (PA.turn hy (by simp) (by simp)))
          generalize beginM m aid at_ = V at *
          refine RB.out.mono ?_
          rintro e w3 ⟨D, nd, cd, rfl, oD, hD, hT3⟩
          obtain ⟨A1, A2, A3⟩ := AC w3 hT3 (by simp)
          have z3 := hT3.size
          go_wp2_with fail
          refine (PB.out w3 hT3).mono ?_
          rintro e w4 ⟨mb', rfl, hP4, hmb', hT4⟩
          have nD : ∀ i ∈ blks D, i ∉ w.heap.size :: mb.toList := fun i hi hm => by
            have h1 := (own_ltA oD i hi).2
            simp only [List.mem_cons] at hm
            rcases hm with hm | hm
            · omega
            · rcases hD i hi with h2 | h2
              · exact R.apart i (by simpa using hm) h2
              · have := (R.new i (by simpa using hm)).2; omega
          have oD4 := own_turnA oD hT4 nD
          have z4 := hT4.size
          have ap4 : ∀ b, mb' = some b → b ∉ blks D := fun b hb hm => by
            rcases hmb' b hb with h1 | h1
            · rcases hD b hm with h2 | h2
              · exact R.apart b h1 h2
              · have := (R.new b h1).2; omega
            · have := (own_ltA oD b hm).1; omega
          have new4 : ∀ b, mb' = some b → w.heap.size < b ∧ b < w4.heap.size := fun b hb => by
            obtain ⟨_, es, clock, hh, _⟩ := hP4.map b hb
            refine ⟨?_, lt_of_some hh⟩
            rcases hmb' b hb with h1 | h1
            · exact (R.new b h1).1
            · omega
          have TW4 : Turn [] w w4 := (TWA.trans hT3).andThen hT4 (fun i hi => by
            right
            simp only [List.mem_cons] at hi
            rcases hi with rfl | hi
            · omega
            · have := (R.new i (by simpa using hi)).1; omega)
          have MLT : ∀ i ∈ blks D, i < w4.heap.size := fun i hi => by have := (own_ltA oD4 i hi).1; omega
          have hml := hP4.len
          have hnm : V.2.length = nd := by have := (oD4).1; rw [pcs_len] at this; omega
          have OPN := Lib.hid (fun (wy : World) (hy : Turn [] w4 wy) => openP_c w.heap.size mb' V.2 wy (hP4.turn hy (by simp) (by simp)))
          have DIR := Lib.hid (fun (wy : World) (hy : Turn [] w4 wy) => directP_c w.heap.size mb' V.2 wy (hP4.turn hy (by simp) (by simp)))
          have LEN := Lib.hid (fun (wy : World) (hy : Turn [] w4 wy) => plen_c w.heap.size mb' V.2 wy (hP4.turn hy (by simp) (by simp)))
          have SIN := Lib.hid (fun (wy : World) (hy : Turn [] w4 wy) => since_c w.heap.size mb' V.2 id wy (hP4.turn hy (by simp) (by simp)) HID.out)
          have sM := Sl.of_own (oD4)
          have HNM := Lib.hid hnm
          have RN := Lib.hid (show SPRel w mb' V.2 D nd cd w4 from ⟨hP4, oD4, ap4, new4, TW4⟩)
          have FND := Lib.hid (fun (wy : World) (hy : Turn [] w4 wy) => find_c D nd cd V.2 id wy (sM.turn0 hy) HNM.out (by omega))
          clear hnm
          go_wp2_with fail
          go_loopw [19, 20, 21] (fun op di i wz => ∃ x : Nat, x ≤ nd ∧ i = .int .i64 x ∧ ∃ O no co Q nq cq, op = .slice O no co ∧ di = .slice Q nq cq ∧ no ≤ x ∧ nq ≤ x ∧ wz.ownsRow w4.heap.size 3 1 (.slice O no co) no (i64s (idsOf (fun _ => true) (V.2.take x))) ∧ wz.ownsRow w4.heap.size 3 1 (.slice Q nq cq) nq (i64s (idsOf (fun y => !y.2) (V.2.take x))) ∧ (∀ i ∈ blks O, i ∉ blks Q) ∧ Turn [] w4 wz) (fun _ _ i _ => 17 - (intOf i).toNat)
          case atStart => exact ⟨0, by omega, rfl, none, 0, 0, none, 0, 0, rfl, rfl, by omega, by omega, World.ownsRow_nil _ _ _ _, World.ownsRow_nil _ _ _ _, by simp [blks], Turn.refl _ _⟩
          case round =>
            obtain ⟨x, hx, rfl, O, no, co, Q, nq, cq, rfl, rfl, hno, hnq, rO, rQ, apO, hTx⟩ := hrel
            obtain ⟨wx, rfl⟩ : ∃ wo : World, wo = wr := ⟨_, rfl⟩
            have x0 : (0 : Int) ≤ (x : Int) := Int.natCast_nonneg _
            have zx := hTx.size
            by_cases hxl : x < nd
            · have x1 : (x : Int) < (nd : Int) := by omega
              have xk : x < V.2.length := by rw [HNM.out]; exact hxl
              obtain ⟨bM, oMM, eMM, lM, v0, -, v2⟩ := pcs_at (sM.turn0 hTx) xk
              have s1 := idsOf_snoc (fun _ => true) (V.2.take x) V.2[x]
              have s2 := idsOf_snoc (fun y : Int × Bool => !y.2) (V.2.take x) V.2[x]
              rw [← List.take_succ_eq_append_getElem xk] at s1 s2
              generalize V.2[x] = y at *
              obtain ⟨y1, y2, y3⟩ := y
              simp only at v0 v2 s1 s2
              have S1 := Lib.hid s1
              have S2 := Lib.hid s2
              have hbO := own_ltA rO
              have hbQ := own_ltA rQ
              clear s1 s2
              subst eMM
              have hMl : bM < w4.heap.size := MLT bM (mem_blks.2 ⟨_, rfl, rfl⟩)
              cases y3 with
              | true =>
                go_wp2_with (at_builtin; go_must (refine wpList_append_sl elemI rfl _ _ rfl O no co _ rfl (rO.alloc _) (some ⟨wx.heap.size, 0, none⟩) 1 1 [.int .i64 y1] rfl (Sl.new _ #[.int .i64 y1] _) (by simp) (by simp [Value.oneCell']) (by omega) (by omega) (by simp; omega) ?_); intro O2 co2 w7 own7 hg7 hlie7; have k7 := app_keep (rQ.alloc (.cells #[.int .i64 y1] 3)) hg7 hlie7 (fun i hi hm => apO i hm hi); have q2 : w7.cell? ⟨bM, oMM + x * 3 + 2, none⟩ = some (.bool true) := ((grown_turn hg7).cell (p := ⟨bM, oMM + x * 3 + 2, none⟩) (show bM < _ by first | (simp; done) | (simp; omega)) (show bM ∉ blks O from fun hm => by have h9 := (hbO bM hm).2; omega)).trans (by rw [World.cell?_alloc_past _ _ _ lM]; exact v2); have lM7 : bM < w7.heap.size := (by have h9 := hg7.size; rw [World.size_alloc] at h9; omega))
                have hT7 : Turn [] w4 w7 := (hTx.alloc _).andThen (grown_turn hg7) (fun i hi => .inr (hbO i hi).2)
                go_roundw
                case rel => exact ⟨x + 1, by omega, by go_num, O2, no + 1, co2, Q, nq, cq, rfl, rfl, by omega, by omega, by rw [S1.out]; simpa [i64s] using own7, by rw [S2.out]; simpa using k7.1, fun i hi hm => k7.2 i hm hi, hT7⟩
                case measure => simp [intOf]; omega
              | false =>
                go_wp2_with (at_builtin; first
                  | (refine wpList_append_sl elemI rfl _ _ rfl O no co _ rfl (rO.alloc _) (some ⟨wx.heap.size, 0, none⟩) 1 1 [.int .i64 y1] rfl (Sl.new _ #[.int .i64 y1] _) (by simp) (by simp [Value.oneCell']) (by omega) (by omega) (by simp; omega) ?_; intro O2 co2 w7 own7 hg7 hlie7; have k7 := app_keep (rQ.alloc (.cells #[.int .i64 y1] 3)) hg7 hlie7 (fun i hi hm => apO i hm hi); have q2 : w7.cell? ⟨bM, oMM + x * 3 + 2, none⟩ = some (.bool false) := ((grown_turn hg7).cell (p := ⟨bM, oMM + x * 3 + 2, none⟩) (show bM < _ by first | (simp; done) | (simp; omega)) (show bM ∉ blks O from fun hm => by have h9 := (hbO bM hm).2; omega)).trans (by rw [World.cell?_alloc_past _ _ _ lM]; exact v2); have q0 : w7.cell? ⟨bM, oMM + x * 3, none⟩ = some (.int .i64 y1) := ((grown_turn hg7).cell (p := ⟨bM, oMM + x * 3, none⟩) (show bM < _ by first | (simp; done) | (simp; omega)) (show bM ∉ blks O from fun hm => by have h9 := (hbO bM hm).2; omega)).trans (by rw [World.cell?_alloc_past _ _ _ lM]; exact v0); have lM7 : bM < w7.heap.size := (by have h9 := hg7.size; rw [World.size_alloc] at h9; omega); have z7 : wx.heap.size + 1 ≤ w7.heap.size := (by have h9 := hg7.size; rw [World.size_alloc] at h9; omega))
                  | (go_must (refine wpList_append_sl elemI rfl _ _ rfl Q nq cq _ rfl (k7.1.alloc _) (some ⟨w7.heap.size, 0, none⟩) 1 1 [.int .i64 y1] rfl (Sl.new _ #[.int .i64 y1] _) (by simp) (by simp [Value.oneCell']) (by omega) (by omega) (by simp; omega) ?_); intro Q2 cq2 w8 own8 hg8 hlie8))
                have k8 := app_keep (own7.alloc (.cells #[.int .i64 y1] 3)) hg8 hlie8 (fun i hi hm => k7.2 i hm hi)
                have hT7 : Turn [] w4 w7 := (hTx.alloc _).andThen (grown_turn hg7) (fun i hi => .inr (hbO i hi).2)
                have hT8 : Turn [] w4 w8 := (hT7.alloc _).andThen (grown_turn hg8) (fun i hi => .inr (hbQ i hi).2)
                go_roundw
                case rel => exact ⟨x + 1, by omega, by go_num, O2, no + 1, co2, Q2, nq + 1, cq2, rfl, rfl, by omega, by omega, by rw [S1.out]; simpa [i64s] using k8.1, by rw [S2.out]; simpa [i64s] using own8, k8.2, hT8⟩
                case measure => simp [intOf]; omega
            · obtain rfl : x = nd := by omega
              have x1 : ¬ (x : Int) < (x : Int) := by omega
              rw [List.take_of_length_le (by rw [HNM.out]; exact Nat.le_refl _)] at rO rQ
              rcases findI_cases V.2 id with ⟨hg, hf⟩ | ⟨j, jk, av, hg, hf, hj⟩
              · have SINn := SIN.out wx hTx
                rw [hg] at SINn
                simp only [Option.getD_none, Option.isSome_none] at SINn
                go_wp2_with fail
                refine SINn.mono ?_
                rintro e w9 ⟨rfl, hT9⟩
                have Ta := hTx.trans hT9
                have FNDn := FND.out w9 Ta
                rw [hf] at FNDn
                go_wp2_with fail
                refine FNDn.mono ?_
                rintro e w9' ⟨rfl, rfl⟩
                have LNn := LEN.out w9 Ta
                rw [HNM.out] at LNn
                go_wp2_with fail
                refine LNn.mono ?_
                rintro e w9' ⟨rfl, rfl⟩
                go_wp2_with fail
                refine (OPN.out w9 Ta).mono ?_
                rintro e w10 ⟨O1, n1, c1, rfl, r1, hT10⟩
                have Tb := Ta.trans hT10
                have e1 : (idsOf (fun _ => true) V.2).length = n1 := by have := r1.1; rw [i64s_len] at this; omega
                have e2 : (idsOf (fun _ => true) V.2).length = no := by have := rO.1; rw [i64s_len] at this; omega
                have S8 := Lib.hid (same8_eq O1 O n1 no c1 co (idsOf (fun _ => true) V.2) w10 (Sl.of_own r1) ((Sl.of_own rO).turn0 (hT9.trans hT10)) e1 e2 (by have h9 := idsOf_len (fun _ => true) V.2; omega))
                clear e1 e2 r1
                go_wp2_with fail
                refine S8.out.mono ?_
                rintro e w11 ⟨rfl, hT11⟩
                have Tc := Tb.trans hT11
                go_wp2_with fail
                refine (DIR.out w11 Tc).mono ?_
                rintro e w12 ⟨Q1, n2, c2, rfl, r2, hT12⟩
                have Td := Tc.trans hT12
                have e1 : (idsOf (fun y : Int × Bool => !y.2) V.2).length = n2 := by have := r2.1; rw [i64s_len] at this; omega
                have e2 : (idsOf (fun y : Int × Bool => !y.2) V.2).length = nq := by have := rQ.1; rw [i64s_len] at this; omega
                have S9 := Lib.hid (same8_eq Q1 Q n2 nq c2 cq (idsOf (fun y : Int × Bool => !y.2) V.2) w12 (Sl.of_own r2) ((Sl.of_own rQ).turn0 (((hT9.trans hT10).trans hT11).trans hT12)) e1 e2 (by have h9 := idsOf_len (fun y : Int × Bool => !y.2) V.2; omega))
                clear e1 e2 r2
                go_wp2_with fail
                refine S9.out.mono ?_
                rintro e w13 ⟨rfl, hT13⟩
                have Te := Td.trans hT13
                go_wp2_with fail
                go_roundw
                case rel => exact ⟨k + 1, by omega, by omega, by go_num, mb', V.2, _, _, cd, rfl, ⟨RN.out.ps.turn Te (by simp) (by simp), own_turnA RN.out.row Te (by simp), RN.out.apart, fun b hb => ⟨(RN.out.new b hb).1, Nat.lt_of_lt_of_le (RN.out.new b hb).2 Te.size⟩, RN.out.turn.trans Te⟩⟩
                case measure => simp [intOf]; omega
              · have SINn := SIN.out wx hTx
                rw [hg] at SINn
                simp only [Option.getD_some, Option.isSome_some] at SINn
                have jn : j < x := by rw [← HNM.out]; exact jk
                have j0 : (0 : Int) ≤ (j : Int) := Int.natCast_nonneg _
                have j1 : (j : Int) < (x : Int) := by omega
                go_wp2_with fail
                refine SINn.mono ?_
                rintro e w9 ⟨rfl, hT9⟩
                have Ta := hTx.trans hT9
                have FNDn := FND.out w9 Ta
                rw [hf] at FNDn
                go_wp2_with fail
                refine FNDn.mono ?_
                rintro e w9' ⟨rfl, rfl⟩
                have LNn := LEN.out w9 Ta
                rw [HNM.out] at LNn
                go_wp2_with fail
                refine LNn.mono ?_
                rintro e w9' ⟨rfl, rfl⟩
                go_wp2_with fail
                refine (OPN.out w9 Ta).mono ?_
                rintro e w10 ⟨O1, n1, c1, rfl, r1, hT10⟩
                have Tb := Ta.trans hT10
                have e1 : (idsOf (fun _ => true) V.2).length = n1 := by have := r1.1; rw [i64s_len] at this; omega
                have e2 : (idsOf (fun _ => true) V.2).length = no := by have := rO.1; rw [i64s_len] at this; omega
                have S8 := Lib.hid (same8_eq O1 O n1 no c1 co (idsOf (fun _ => true) V.2) w10 (Sl.of_own r1) ((Sl.of_own rO).turn0 (hT9.trans hT10)) e1 e2 (by have h9 := idsOf_len (fun _ => true) V.2; omega))
                clear e1 e2 r1
                go_wp2_with fail
                refine S8.out.mono ?_
                rintro e w11 ⟨rfl, hT11⟩
                have Tc := Tb.trans hT11
                go_wp2_with fail
                refine (DIR.out w11 Tc).mono ?_
                rintro e w12 ⟨Q1, n2, c2, rfl, r2, hT12⟩
                have Td := Tc.trans hT12
                have e1 : (idsOf (fun y : Int × Bool => !y.2) V.2).length = n2 := by have := r2.1; rw [i64s_len] at this; omega
                have e2 : (idsOf (fun y : Int × Bool => !y.2) V.2).length = nq := by have := rQ.1; rw [i64s_len] at this; omega
                have S9 := Lib.hid (same8_eq Q1 Q n2 nq c2 cq (idsOf (fun y : Int × Bool => !y.2) V.2) w12 (Sl.of_own r2) ((Sl.of_own rQ).turn0 (((hT9.trans hT10).trans hT11).trans hT12)) e1 e2 (by have h9 := idsOf_len (fun y : Int × Bool => !y.2) V.2; omega))
                clear e1 e2 r2
                go_wp2_with fail
                refine S9.out.mono ?_
                rintro e w13 ⟨rfl, hT13⟩
                have Te := Td.trans hT13
                obtain ⟨bJ, oJ, eJ, lJ, -, v1, -⟩ := pcs_at (sM.turn0 Te) jk
                rw [hj] at v1
                subst eJ
                go_wp2_with fail
                go_roundw
                case rel => exact ⟨k + 1, by omega, by omega, by go_num, mb', V.2, _, _, cd, rfl, ⟨RN.out.ps.turn Te (by simp) (by simp), own_turnA RN.out.row Te (by simp), RN.out.apart, fun b hb => ⟨(RN.out.new b hb).1, Nat.lt_of_lt_of_le (RN.out.new b hb).2 Te.size⟩, RN.out.turn.trans Te⟩⟩
                case measure => simp [intOf]; omega
      · as_aux_lemma =>
          have FN := Lib.hid (fun (wy : World) (hy : Turn [] (wc.alloc (.cells #[.int .i64 kd, .int .i64 aid, .int .i64 at_] 38)) wy) => find_c M n c m aid wy ((Sl.of_own RA).turn0 hy) hnm0 (by omega))
          go_wp2_with fail
          generalize wc.alloc (.cells #[.int .i64 kd, .int .i64 aid, .int .i64 at_] 38) = wA at *
          have AC : ∀ {S : List Nat} (wz : World), Turn S wA wz → wc.heap.size ∉ S → wz.cell? ⟨wc.heap.size, 1, none⟩ = some (.int .i64 aid) ∧ wz.cell? ⟨wc.heap.size, 2, none⟩ = some (.int .i64 at_) ∧ wc.heap.size < wz.heap.size := fun wz hz hn => ⟨(hz.blk BA hn).cell 1, (hz.blk BA hn).cell 2, (hz.blk BA hn).lt⟩
          have FN0 := FN.out wA (Turn.refl _ _)
          have AN := Lib.hid (fun (wy : World) (hy : Turn [] wA wy) (hz : wc.heap.size + 1 < wy.heap.size) (hs : Sl wy (some ⟨wc.heap.size + 1, 0, none⟩) (i64s [aid, aid])) => answer_c w.heap.size mb m (some ⟨wc.heap.size + 1, 0, none⟩) 2 2 [aid, aid] wy (PA.turn hy (by simp) (by simp)) hs rfl (by omega) (by intro i hi; simp [blks] at hi; subst hi; exact ⟨by omega, fun hm => by have := (R.new _ hm).2; omega⟩) (by intro y hy; simp at hy; subst hy; exact wf1))
          have hkk : answerM m [aid, aid] = kdel m aid := by
            show kdel (kdel m aid) aid = kdel m aid
            exact kdel_absent kget_kdel_same
          rw [hkk] at AN
          have RAN := Lib.hid (fun (wy : World) (hs : Sl wy M (pcs m)) => ranswer_c M n c m aid wy hs hnm0 (by omega))
          clear hkk
          obtain ⟨A1, A2, A3⟩ := AC wA (Turn.refl [] wA) (by simp)
          rcases findI_cases m aid with ⟨hg, hf⟩ | ⟨j, jk, av, hg, hf, hj⟩
          · as_aux_lemma =>
              rw [hf] at FN0
              have hlen : (kdel m aid).length = m.length := by rw [kdel_absent hg]
              generalize kdel m aid = md at *
              refine FN0.mono ?_
              rintro e w3 ⟨rfl, rfl⟩
              go_wp2_with fail
              refine (AN.out _ ((Turn.refl [] wA).alloc _) (by simp; omega) (by have h9 := Sl.new wA #[.int .i64 aid, .int .i64 aid] 3; rw [zA] at h9; exact h9)).mono ?_
              rintro e w4 ⟨rfl, hP4, hT4⟩
              rw [hlen, Int.sub_self]
              have TA4 : Turn mb.toList wA w4 := ((Turn.refl mb.toList wA).alloc (.cells #[.int .i64 aid, .int .i64 aid] 3)).trans hT4
              have tbn : wc.heap.size ∉ mb.toList := fun hm => by have := (R.new _ (by simpa using hm)).2; omega
              have sM4 := (Sl.of_own RA).turn TA4 (off_blks (fun i hi hm => R.apart i (by simpa using hm) hi))
              have B4 := AC w4 TA4 tbn
              obtain ⟨B1, B2, B3⟩ := B4
              have RANn := RAN.out w4 sM4
              go_wp2_with fail
              refine RANn.mono ?_
              rintro e w5 ⟨D, nd, cd, rfl, oD, hT5⟩
              have z4 := TA4.size
              have oD5 := own_down oD (show w.heap.size + 1 ≤ w4.heap.size by omega)
              have hP5 := hP4.turn hT5 (by simp) (by simp)
              have ap5 : ∀ b, mb = some b → b ∉ blks D := fun b hb hm => by
                have h1 := (own_ltA oD b hm).2
                have := (R.new b hb).2
                omega
              have z5 := hT5.size
              have new5 : ∀ b, mb = some b → w.heap.size < b ∧ b < w5.heap.size := fun b hb => ⟨(R.new b hb).1, by have := (R.new b hb).2; omega⟩
              have TW5 : Turn [] w w5 := (TWA.andThen TA4 (fun i hi => .inr (by have := (R.new i (by simpa using hi)).1; omega))).trans hT5
              have MLT : ∀ i ∈ blks D, i < w5.heap.size := fun i hi => (own_ltA oD5 i hi).1
              have hml := hP5.len
              have hnm : md.length = nd := by have := (oD5).1; rw [pcs_len] at this; omega
              have OPN := Lib.hid (fun (wy : World) (hy : Turn [] w5 wy) => openP_c w.heap.size mb md wy (hP5.turn hy (by simp) (by simp)))
              have DIR := Lib.hid (fun (wy : World) (hy : Turn [] w5 wy) => directP_c w.heap.size mb md wy (hP5.turn hy (by simp) (by simp)))
              have LEN := Lib.hid (fun (wy : World) (hy : Turn [] w5 wy) => plen_c w.heap.size mb md wy (hP5.turn hy (by simp) (by simp)))
              have SIN := Lib.hid (fun (wy : World) (hy : Turn [] w5 wy) => since_c w.heap.size mb md id wy (hP5.turn hy (by simp) (by simp)) HID.out)
              have sM := Sl.of_own (oD5)
              have HNM := Lib.hid hnm
              have RN := Lib.hid (show SPRel w mb md D nd cd w5 from ⟨hP5, oD5, ap5, new5, TW5⟩)
              have FND := Lib.hid (fun (wy : World) (hy : Turn [] w5 wy) => find_c D nd cd md id wy (sM.turn0 hy) HNM.out (by omega))
              clear hnm
              go_wp2_with fail
              go_loopw [19, 20, 21] (fun op di i wz => ∃ x : Nat, x ≤ nd ∧ i = .int .i64 x ∧ ∃ O no co Q nq cq, op = .slice O no co ∧ di = .slice Q nq cq ∧ no ≤ x ∧ nq ≤ x ∧ wz.ownsRow w5.heap.size 3 1 (.slice O no co) no (i64s (idsOf (fun _ => true) (md.take x))) ∧ wz.ownsRow w5.heap.size 3 1 (.slice Q nq cq) nq (i64s (idsOf (fun y => !y.2) (md.take x))) ∧ (∀ i ∈ blks O, i ∉ blks Q) ∧ Turn [] w5 wz) (fun _ _ i _ => 17 - (intOf i).toNat)
              case atStart => exact ⟨0, by omega, rfl, none, 0, 0, none, 0, 0, rfl, rfl, by omega, by omega, World.ownsRow_nil _ _ _ _, World.ownsRow_nil _ _ _ _, by simp [blks], Turn.refl _ _⟩
              case round =>
                obtain ⟨x, hx, rfl, O, no, co, Q, nq, cq, rfl, rfl, hno, hnq, rO, rQ, apO, hTx⟩ := hrel
                obtain ⟨wx, rfl⟩ : ∃ wo : World, wo = wr := ⟨_, rfl⟩
                have x0 : (0 : Int) ≤ (x : Int) := Int.natCast_nonneg _
                have zx := hTx.size
                by_cases hxl : x < nd
                · have x1 : (x : Int) < (nd : Int) := by omega
                  have xk : x < md.length := by rw [HNM.out]; exact hxl
                  obtain ⟨bM, oMM, eMM, lM, v0, -, v2⟩ := pcs_at (sM.turn0 hTx) xk
                  have s1 := idsOf_snoc (fun _ => true) (md.take x) md[x]
                  have s2 := idsOf_snoc (fun y : Int × Bool => !y.2) (md.take x) md[x]
                  rw [← List.take_succ_eq_append_getElem xk] at s1 s2
                  generalize md[x] = y at *
                  obtain ⟨y1, y2, y3⟩ := y
                  simp only at v0 v2 s1 s2
                  have S1 := Lib.hid s1
                  have S2 := Lib.hid s2
                  have hbO := own_ltA rO
                  have hbQ := own_ltA rQ
                  clear s1 s2
                  subst eMM
                  have hMl : bM < w5.heap.size := MLT bM (mem_blks.2 ⟨_, rfl, rfl⟩)
                  cases y3 with
                  | true =>
                    go_wp2_with (at_builtin; go_must (refine wpList_append_sl elemI rfl _ _ rfl O no co _ rfl (rO.alloc _) (some ⟨wx.heap.size, 0, none⟩) 1 1 [.int .i64 y1] rfl (Sl.new _ #[.int .i64 y1] _) (by simp) (by simp [Value.oneCell']) (by omega) (by omega) (by simp; omega) ?_); intro O2 co2 w7 own7 hg7 hlie7; have k7 := app_keep (rQ.alloc (.cells #[.int .i64 y1] 3)) hg7 hlie7 (fun i hi hm => apO i hm hi); have q2 : w7.cell? ⟨bM, oMM + x * 3 + 2, none⟩ = some (.bool true) := ((grown_turn hg7).cell (p := ⟨bM, oMM + x * 3 + 2, none⟩) (show bM < _ by first | (simp; done) | (simp; omega)) (show bM ∉ blks O from fun hm => by have h9 := (hbO bM hm).2; omega)).trans (by rw [World.cell?_alloc_past _ _ _ lM]; exact v2); have lM7 : bM < w7.heap.size := (by have h9 := hg7.size; rw [World.size_alloc] at h9; omega))
                    have hT7 : Turn [] w5 w7 := (hTx.alloc _).andThen (grown_turn hg7) (fun i hi => .inr (hbO i hi).2)
                    go_roundw
                    case rel => exact ⟨x + 1, by omega, by go_num, O2, no + 1, co2, Q, nq, cq, rfl, rfl, by omega, by omega, by rw [S1.out]; simpa [i64s] using own7, by rw [S2.out]; simpa using k7.1, fun i hi hm => k7.2 i hm hi, hT7⟩
                    case measure => simp [intOf]; omega
                  | false =>
                    go_wp2_with (at_builtin; first
                      | (refine wpList_append_sl elemI rfl _ _ rfl O no co _ rfl (rO.alloc _) (some ⟨wx.heap.size, 0, none⟩) 1 1 [.int .i64 y1] rfl (Sl.new _ #[.int .i64 y1] _) (by simp) (by simp [Value.oneCell']) (by omega) (by omega) (by simp; omega) ?_; intro O2 co2 w7 own7 hg7 hlie7; have k7 := app_keep (rQ.alloc (.cells #[.int .i64 y1] 3)) hg7 hlie7 (fun i hi hm => apO i hm hi); have q2 : w7.cell? ⟨bM, oMM + x * 3 + 2, none⟩ = some (.bool false) := ((grown_turn hg7).cell (p := ⟨bM, oMM + x * 3 + 2, none⟩) (show bM < _ by first | (simp; done) | (simp; omega)) (show bM ∉ blks O from fun hm => by have h9 := (hbO bM hm).2; omega)).trans (by rw [World.cell?_alloc_past _ _ _ lM]; exact v2); have q0 : w7.cell? ⟨bM, oMM + x * 3, none⟩ = some (.int .i64 y1) := ((grown_turn hg7).cell (p := ⟨bM, oMM + x * 3, none⟩) (show bM < _ by first | (simp; done) | (simp; omega)) (show bM ∉ blks O from fun hm => by have h9 := (hbO bM hm).2; omega)).trans (by rw [World.cell?_alloc_past _ _ _ lM]; exact v0); have lM7 : bM < w7.heap.size := (by have h9 := hg7.size; rw [World.size_alloc] at h9; omega); have z7 : wx.heap.size + 1 ≤ w7.heap.size := (by have h9 := hg7.size; rw [World.size_alloc] at h9; omega))
                      | (go_must (refine wpList_append_sl elemI rfl _ _ rfl Q nq cq _ rfl (k7.1.alloc _) (some ⟨w7.heap.size, 0, none⟩) 1 1 [.int .i64 y1] rfl (Sl.new _ #[.int .i64 y1] _) (by simp) (by simp [Value.oneCell']) (by omega) (by omega) (by simp; omega) ?_); intro Q2 cq2 w8 own8 hg8 hlie8))
                    have k8 := app_keep (own7.alloc (.cells #[.int .i64 y1] 3)) hg8 hlie8 (fun i hi hm => k7.2 i hm hi)
                    have hT7 : Turn [] w5 w7 := (hTx.alloc _).andThen (grown_turn hg7) (fun i hi => .inr (hbO i hi).2)
                    have hT8 : Turn [] w5 w8 := (hT7.alloc _).andThen (grown_turn hg8) (fun i hi => .inr (hbQ i hi).2)
                    go_roundw
                    case rel => exact ⟨x + 1, by omega, by go_num, O2, no + 1, co2, Q2, nq + 1, cq2, rfl, rfl, by omega, by omega, by rw [S1.out]; simpa [i64s] using k8.1, by rw [S2.out]; simpa [i64s] using own8, k8.2, hT8⟩
                    case measure => simp [intOf]; omega
                · obtain rfl : x = nd := by omega
                  have x1 : ¬ (x : Int) < (x : Int) := by omega
                  rw [List.take_of_length_le (by rw [HNM.out]; exact Nat.le_refl _)] at rO rQ
                  rcases findI_cases md id with ⟨hg, hf⟩ | ⟨j, jk, av, hg, hf, hj⟩
                  · have SINn := SIN.out wx hTx
                    rw [hg] at SINn
                    simp only [Option.getD_none, Option.isSome_none] at SINn
                    go_wp2_with fail
                    refine SINn.mono ?_
                    rintro e w9 ⟨rfl, hT9⟩
                    have Ta := hTx.trans hT9
                    have FNDn := FND.out w9 Ta
                    rw [hf] at FNDn
                    go_wp2_with fail
                    refine FNDn.mono ?_
                    rintro e w9' ⟨rfl, rfl⟩
                    have LNn := LEN.out w9 Ta
                    rw [HNM.out] at LNn
                    go_wp2_with fail
                    refine LNn.mono ?_
                    rintro e w9' ⟨rfl, rfl⟩
                    go_wp2_with fail
                    refine (OPN.out w9 Ta).mono ?_
                    rintro e w10 ⟨O1, n1, c1, rfl, r1, hT10⟩
                    have Tb := Ta.trans hT10
                    have e1 : (idsOf (fun _ => true) md).length = n1 := by have := r1.1; rw [i64s_len] at this; omega
                    have e2 : (idsOf (fun _ => true) md).length = no := by have := rO.1; rw [i64s_len] at this; omega
                    have S8 := Lib.hid (same8_eq O1 O n1 no c1 co (idsOf (fun _ => true) md) w10 (Sl.of_own r1) ((Sl.of_own rO).turn0 (hT9.trans hT10)) e1 e2 (by have h9 := idsOf_len (fun _ => true) md; omega))
                    clear e1 e2 r1
                    go_wp2_with fail
                    refine S8.out.mono ?_
                    rintro e w11 ⟨rfl, hT11⟩
                    have Tc := Tb.trans hT11
                    go_wp2_with fail
                    refine (DIR.out w11 Tc).mono ?_
                    rintro e w12 ⟨Q1, n2, c2, rfl, r2, hT12⟩
                    have Td := Tc.trans hT12
                    have e1 : (idsOf (fun y : Int × Bool => !y.2) md).length = n2 := by have := r2.1; rw [i64s_len] at this; omega
                    have e2 : (idsOf (fun y : Int × Bool => !y.2) md).length = nq := by have := rQ.1; rw [i64s_len] at this; omega
                    have S9 := Lib.hid (same8_eq Q1 Q n2 nq c2 cq (idsOf (fun y : Int × Bool => !y.2) md) w12 (Sl.of_own r2) ((Sl.of_own rQ).turn0 (((hT9.trans hT10).trans hT11).trans hT12)) e1 e2 (by have h9 := idsOf_len (fun y : Int × Bool => !y.2) md; omega))
                    clear e1 e2 r2
                    go_wp2_with fail
                    refine S9.out.mono ?_
                    rintro e w13 ⟨rfl, hT13⟩
                    have Te := Td.trans hT13
                    go_wp2_with fail
                    go_roundw
                    case rel => exact ⟨k + 1, by omega, by omega, by go_num, mb, md, _, _, cd, rfl, ⟨RN.out.ps.turn Te (by simp) (by simp), own_turnA RN.out.row Te (by simp), RN.out.apart, fun b hb => ⟨(RN.out.new b hb).1, Nat.lt_of_lt_of_le (RN.out.new b hb).2 Te.size⟩, RN.out.turn.trans Te⟩⟩
                    case measure => simp [intOf]; omega
                  · have SINn := SIN.out wx hTx
                    rw [hg] at SINn
                    simp only [Option.getD_some, Option.isSome_some] at SINn
                    have jn : j < x := by rw [← HNM.out]; exact jk
                    have j0 : (0 : Int) ≤ (j : Int) := Int.natCast_nonneg _
                    have j1 : (j : Int) < (x : Int) := by omega
                    go_wp2_with fail
                    refine SINn.mono ?_
                    rintro e w9 ⟨rfl, hT9⟩
                    have Ta := hTx.trans hT9
                    have FNDn := FND.out w9 Ta
                    rw [hf] at FNDn
                    go_wp2_with fail
                    refine FNDn.mono ?_
                    rintro e w9' ⟨rfl, rfl⟩
                    have LNn := LEN.out w9 Ta
                    rw [HNM.out] at LNn
                    go_wp2_with fail
                    refine LNn.mono ?_
                    rintro e w9' ⟨rfl, rfl⟩
                    go_wp2_with fail
                    refine (OPN.out w9 Ta).mono ?_
                    rintro e w10 ⟨O1, n1, c1, rfl, r1, hT10⟩
                    have Tb := Ta.trans hT10
                    have e1 : (idsOf (fun _ => true) md).length = n1 := by have := r1.1; rw [i64s_len] at this; omega
                    have e2 : (idsOf (fun _ => true) md).length = no := by have := rO.1; rw [i64s_len] at this; omega
                    have S8 := Lib.hid (same8_eq O1 O n1 no c1 co (idsOf (fun _ => true) md) w10 (Sl.of_own r1) ((Sl.of_own rO).turn0 (hT9.trans hT10)) e1 e2 (by have h9 := idsOf_len (fun _ => true) md; omega))
                    clear e1 e2 r1
                    go_wp2_with fail
                    refine S8.out.mono ?_
                    rintro e w11 ⟨rfl, hT11⟩
                    have Tc := Tb.trans hT11
                    go_wp2_with fail
                    refine (DIR.out w11 Tc).mono ?_
                    rintro e w12 ⟨Q1, n2, c2, rfl, r2, hT12⟩
                    have Td := Tc.trans hT12
                    have e1 : (idsOf (fun y : Int × Bool => !y.2) md).length = n2 := by have := r2.1; rw [i64s_len] at this; omega
                    have e2 : (idsOf (fun y : Int × Bool => !y.2) md).length = nq := by have := rQ.1; rw [i64s_len] at this; omega
                    have S9 := Lib.hid (same8_eq Q1 Q n2 nq c2 cq (idsOf (fun y : Int × Bool => !y.2) md) w12 (Sl.of_own r2) ((Sl.of_own rQ).turn0 (((hT9.trans hT10).trans hT11).trans hT12)) e1 e2 (by have h9 := idsOf_len (fun y : Int × Bool => !y.2) md; omega))
                    clear e1 e2 r2
                    go_wp2_with fail
                    refine S9.out.mono ?_
                    rintro e w13 ⟨rfl, hT13⟩
                    have Te := Td.trans hT13
                    obtain ⟨bJ, oJ, eJ, lJ, -, v1, -⟩ := pcs_at (sM.turn0 Te) jk
                    rw [hj] at v1
                    subst eJ
                    go_wp2_with fail
                    go_roundw
                    case rel => exact ⟨k + 1, by omega, by omega, by go_num, mb, md, _, _, cd, rfl, ⟨RN.out.ps.turn Te (by simp) (by simp), own_turnA RN.out.row Te (by simp), RN.out.apart, fun b hb => ⟨(RN.out.new b hb).1, Nat.lt_of_lt_of_le (RN.out.new b hb).2 Te.size⟩, RN.out.turn.trans Te⟩⟩
                    case measure => simp [intOf]; omega
          · as_aux_lemma =>
              rw [hf] at FN0
              have hlen : ((m.length : Nat) : Int) - ((kdel m aid).length : Int) = 1 := by
                have := kdel_length PA.rises (show kget m aid ≠ none by rw [hg]; simp)
                omega
              have j0 : (0 : Int) ≤ (j : Int) := Int.natCast_nonneg _
              generalize kdel m aid = md at *
              refine FN0.mono ?_
              rintro e w3 ⟨rfl, rfl⟩
              go_wp2_with fail
              refine (AN.out _ ((Turn.refl [] wA).alloc _) (by simp; omega) (by have h9 := Sl.new wA #[.int .i64 aid, .int .i64 aid] 3; rw [zA] at h9; exact h9)).mono ?_
              rintro e w4 ⟨rfl, hP4, hT4⟩
              rw [hlen]
              have TA4 : Turn mb.toList wA w4 := ((Turn.refl mb.toList wA).alloc (.cells #[.int .i64 aid, .int .i64 aid] 3)).trans hT4
              have tbn : wc.heap.size ∉ mb.toList := fun hm => by have := (R.new _ (by simpa using hm)).2; omega
              have sM4 := (Sl.of_own RA).turn TA4 (off_blks (fun i hi hm => R.apart i (by simpa using hm) hi))
              have B4 := AC w4 TA4 tbn
              obtain ⟨B1, B2, B3⟩ := B4
              have RANn := RAN.out w4 sM4
              go_wp2_with fail
              refine RANn.mono ?_
              rintro e w5 ⟨D, nd, cd, rfl, oD, hT5⟩
              have z4 := TA4.size
              have oD5 := own_down oD (show w.heap.size + 1 ≤ w4.heap.size by omega)
              have hP5 := hP4.turn hT5 (by simp) (by simp)
              have ap5 : ∀ b, mb = some b → b ∉ blks D := fun b hb hm => by
                have h1 := (own_ltA oD b hm).2
                have := (R.new b hb).2
                omega
              have z5 := hT5.size
              have new5 : ∀ b, mb = some b → w.heap.size < b ∧ b < w5.heap.size := fun b hb => ⟨(R.new b hb).1, by have := (R.new b hb).2; omega⟩
              have TW5 : Turn [] w w5 := (TWA.andThen TA4 (fun i hi => .inr (by have := (R.new i (by simpa using hi)).1; omega))).trans hT5
              have MLT : ∀ i ∈ blks D, i < w5.heap.size := fun i hi => (own_ltA oD5 i hi).1
              have hml := hP5.len
              have hnm : md.length = nd := by have := (oD5).1; rw [pcs_len] at this; omega
              have OPN := Lib.hid (fun (wy : World) (hy : Turn [] w5 wy) => openP_c w.heap.size mb md wy (hP5.turn hy (by simp) (by simp)))
              have DIR := Lib.hid (fun (wy : World) (hy : Turn [] w5 wy) => directP_c w.heap.size mb md wy (hP5.turn hy (by simp) (by simp)))
              have LEN := Lib.hid (fun (wy : World) (hy : Turn [] w5 wy) => plen_c w.heap.size mb md wy (hP5.turn hy (by simp) (by simp)))
              have SIN := Lib.hid (fun (wy : World) (hy : Turn [] w5 wy) => since_c w.heap.size mb md id wy (hP5.turn hy (by simp) (by simp)) HID.out)
              have sM := Sl.of_own (oD5)
              have HNM := Lib.hid hnm
              have RN := Lib.hid (show SPRel w mb md D nd cd w5 from ⟨hP5, oD5, ap5, new5, TW5⟩)
              have FND := Lib.hid (fun (wy : World) (hy : Turn [] w5 wy) => find_c D nd cd md id wy (sM.turn0 hy) HNM.out (by omega))
              clear hnm
              go_wp2_with fail
              go_loopw [19, 20, 21] (fun op di i wz => ∃ x : Nat, x ≤ nd ∧ i = .int .i64 x ∧ ∃ O no co Q nq cq, op = .slice O no co ∧ di = .slice Q nq cq ∧ no ≤ x ∧ nq ≤ x ∧ wz.ownsRow w5.heap.size 3 1 (.slice O no co) no (i64s (idsOf (fun _ => true) (md.take x))) ∧ wz.ownsRow w5.heap.size 3 1 (.slice Q nq cq) nq (i64s (idsOf (fun y => !y.2) (md.take x))) ∧ (∀ i ∈ blks O, i ∉ blks Q) ∧ Turn [] w5 wz) (fun _ _ i _ => 17 - (intOf i).toNat)
              case atStart => exact ⟨0, by omega, rfl, none, 0, 0, none, 0, 0, rfl, rfl, by omega, by omega, World.ownsRow_nil _ _ _ _, World.ownsRow_nil _ _ _ _, by simp [blks], Turn.refl _ _⟩
              case round =>
                obtain ⟨x, hx, rfl, O, no, co, Q, nq, cq, rfl, rfl, hno, hnq, rO, rQ, apO, hTx⟩ := hrel
                obtain ⟨wx, rfl⟩ : ∃ wo : World, wo = wr := ⟨_, rfl⟩
                have x0 : (0 : Int) ≤ (x : Int) := Int.natCast_nonneg _
                have zx := hTx.size
                by_cases hxl : x < nd
                · have x1 : (x : Int) < (nd : Int) := by omega
                  have xk : x < md.length := by rw [HNM.out]; exact hxl
                  obtain ⟨bM, oMM, eMM, lM, v0, -, v2⟩ := pcs_at (sM.turn0 hTx) xk
                  have s1 := idsOf_snoc (fun _ => true) (md.take x) md[x]
                  have s2 := idsOf_snoc (fun y : Int × Bool => !y.2) (md.take x) md[x]
                  rw [← List.take_succ_eq_append_getElem xk] at s1 s2
                  generalize md[x] = y at *
                  obtain ⟨y1, y2, y3⟩ := y
                  simp only at v0 v2 s1 s2
                  have S1 := Lib.hid s1
                  have S2 := Lib.hid s2
                  have hbO := own_ltA rO
                  have hbQ := own_ltA rQ
                  clear s1 s2
                  subst eMM
                  have hMl : bM < w5.heap.size := MLT bM (mem_blks.2 ⟨_, rfl, rfl⟩)
                  cases y3 with
                  | true =>
                    go_wp2_with (at_builtin; go_must (refine wpList_append_sl elemI rfl _ _ rfl O no co _ rfl (rO.alloc _) (some ⟨wx.heap.size, 0, none⟩) 1 1 [.int .i64 y1] rfl (Sl.new _ #[.int .i64 y1] _) (by simp) (by simp [Value.oneCell']) (by omega) (by omega) (by simp; omega) ?_); intro O2 co2 w7 own7 hg7 hlie7; have k7 := app_keep (rQ.alloc (.cells #[.int .i64 y1] 3)) hg7 hlie7 (fun i hi hm => apO i hm hi); have q2 : w7.cell? ⟨bM, oMM + x * 3 + 2, none⟩ = some (.bool true) := ((grown_turn hg7).cell (p := ⟨bM, oMM + x * 3 + 2, none⟩) (show bM < _ by first | (simp; done) | (simp; omega)) (show bM ∉ blks O from fun hm => by have h9 := (hbO bM hm).2; omega)).trans (by rw [World.cell?_alloc_past _ _ _ lM]; exact v2); have lM7 : bM < w7.heap.size := (by have h9 := hg7.size; rw [World.size_alloc] at h9; omega))
                    have hT7 : Turn [] w5 w7 := (hTx.alloc _).andThen (grown_turn hg7) (fun i hi => .inr (hbO i hi).2)
                    go_roundw
                    case rel => exact ⟨x + 1, by omega, by go_num, O2, no + 1, co2, Q, nq, cq, rfl, rfl, by omega, by omega, by rw [S1.out]; simpa [i64s] using own7, by rw [S2.out]; simpa using k7.1, fun i hi hm => k7.2 i hm hi, hT7⟩
                    case measure => simp [intOf]; omega
                  | false =>
                    go_wp2_with (at_builtin; first
                      | (refine wpList_append_sl elemI rfl _ _ rfl O no co _ rfl (rO.alloc _) (some ⟨wx.heap.size, 0, none⟩) 1 1 [.int .i64 y1] rfl (Sl.new _ #[.int .i64 y1] _) (by simp) (by simp [Value.oneCell']) (by omega) (by omega) (by simp; omega) ?_; intro O2 co2 w7 own7 hg7 hlie7; have k7 := app_keep (rQ.alloc (.cells #[.int .i64 y1] 3)) hg7 hlie7 (fun i hi hm => apO i hm hi); have q2 : w7.cell? ⟨bM, oMM + x * 3 + 2, none⟩ = some (.bool false) := ((grown_turn hg7).cell (p := ⟨bM, oMM + x * 3 + 2, none⟩) (show bM < _ by first | (simp; done) | (simp; omega)) (show bM ∉ blks O from fun hm => by have h9 := (hbO bM hm).2; omega)).trans (by rw [World.cell?_alloc_past _ _ _ lM]; exact v2); have q0 : w7.cell? ⟨bM, oMM + x * 3, none⟩ = some (.int .i64 y1) := ((grown_turn hg7).cell (p := ⟨bM, oMM + x * 3, none⟩) (show bM < _ by first | (simp; done) | (simp; omega)) (show bM ∉ blks O from fun hm => by have h9 := (hbO bM hm).2; omega)).trans (by rw [World.cell?_alloc_past _ _ _ lM]; exact v0); have lM7 : bM < w7.heap.size := (by have h9 := hg7.size; rw [World.size_alloc] at h9; omega); have z7 : wx.heap.size + 1 ≤ w7.heap.size := (by have h9 := hg7.size; rw [World.size_alloc] at h9; omega))
                      | (go_must (refine wpList_append_sl elemI rfl _ _ rfl Q nq cq _ rfl (k7.1.alloc _) (some ⟨w7.heap.size, 0, none⟩) 1 1 [.int .i64 y1] rfl (Sl.new _ #[.int .i64 y1] _) (by simp) (by simp [Value.oneCell']) (by omega) (by omega) (by simp; omega) ?_); intro Q2 cq2 w8 own8 hg8 hlie8))
                    have k8 := app_keep (own7.alloc (.cells #[.int .i64 y1] 3)) hg8 hlie8 (fun i hi hm => k7.2 i hm hi)
                    have hT7 : Turn [] w5 w7 := (hTx.alloc _).andThen (grown_turn hg7) (fun i hi => .inr (hbO i hi).2)
                    have hT8 : Turn [] w5 w8 := (hT7.alloc _).andThen (grown_turn hg8) (fun i hi => .inr (hbQ i hi).2)
                    go_roundw
                    case rel => exact ⟨x + 1, by omega, by go_num, O2, no + 1, co2, Q2, nq + 1, cq2, rfl, rfl, by omega, by omega, by rw [S1.out]; simpa [i64s] using k8.1, by rw [S2.out]; simpa [i64s] using own8, k8.2, hT8⟩
                    case measure => simp [intOf]; omega
                · obtain rfl : x = nd := by omega
                  have x1 : ¬ (x : Int) < (x : Int) := by omega
                  rw [List.take_of_length_le (by rw [HNM.out]; exact Nat.le_refl _)] at rO rQ
                  rcases findI_cases md id with ⟨hg, hf⟩ | ⟨j, jk, av, hg, hf, hj⟩
                  · have SINn := SIN.out wx hTx
                    rw [hg] at SINn
                    simp only [Option.getD_none, Option.isSome_none] at SINn
                    go_wp2_with fail
                    refine SINn.mono ?_
                    rintro e w9 ⟨rfl, hT9⟩
                    have Ta := hTx.trans hT9
                    have FNDn := FND.out w9 Ta
                    rw [hf] at FNDn
                    go_wp2_with fail
                    refine FNDn.mono ?_
                    rintro e w9' ⟨rfl, rfl⟩
                    have LNn := LEN.out w9 Ta
                    rw [HNM.out] at LNn
                    go_wp2_with fail
                    refine LNn.mono ?_
                    rintro e w9' ⟨rfl, rfl⟩
                    go_wp2_with fail
                    refine (OPN.out w9 Ta).mono ?_
                    rintro e w10 ⟨O1, n1, c1, rfl, r1, hT10⟩
                    have Tb := Ta.trans hT10
                    have e1 : (idsOf (fun _ => true) md).length = n1 := by have := r1.1; rw [i64s_len] at this; omega
                    have e2 : (idsOf (fun _ => true) md).length = no := by have := rO.1; rw [i64s_len] at this; omega
                    have S8 := Lib.hid (same8_eq O1 O n1 no c1 co (idsOf (fun _ => true) md) w10 (Sl.of_own r1) ((Sl.of_own rO).turn0 (hT9.trans hT10)) e1 e2 (by have h9 := idsOf_len (fun _ => true) md; omega))
                    clear e1 e2 r1
                    go_wp2_with fail
                    refine S8.out.mono ?_
                    rintro e w11 ⟨rfl, hT11⟩
                    have Tc := Tb.trans hT11
                    go_wp2_with fail
                    refine (DIR.out w11 Tc).mono ?_
                    rintro e w12 ⟨Q1, n2, c2, rfl, r2, hT12⟩
                    have Td := Tc.trans hT12
                    have e1 : (idsOf (fun y : Int × Bool => !y.2) md).length = n2 := by have := r2.1; rw [i64s_len] at this; omega
                    have e2 : (idsOf (fun y : Int × Bool => !y.2) md).length = nq := by have := rQ.1; rw [i64s_len] at this; omega
                    have S9 := Lib.hid (same8_eq Q1 Q n2 nq c2 cq (idsOf (fun y : Int × Bool => !y.2) md) w12 (Sl.of_own r2) ((Sl.of_own rQ).turn0 (((hT9.trans hT10).trans hT11).trans hT12)) e1 e2 (by have h9 := idsOf_len (fun y : Int × Bool => !y.2) md; omega))
                    clear e1 e2 r2
                    go_wp2_with fail
                    refine S9.out.mono ?_
                    rintro e w13 ⟨rfl, hT13⟩
                    have Te := Td.trans hT13
                    go_wp2_with fail
                    go_roundw
                    case rel => exact ⟨k + 1, by omega, by omega, by go_num, mb, md, _, _, cd, rfl, ⟨RN.out.ps.turn Te (by simp) (by simp), own_turnA RN.out.row Te (by simp), RN.out.apart, fun b hb => ⟨(RN.out.new b hb).1, Nat.lt_of_lt_of_le (RN.out.new b hb).2 Te.size⟩, RN.out.turn.trans Te⟩⟩
                    case measure => simp [intOf]; omega
                  · have SINn := SIN.out wx hTx
                    rw [hg] at SINn
                    simp only [Option.getD_some, Option.isSome_some] at SINn
                    have jn : j < x := by rw [← HNM.out]; exact jk
                    have j0 : (0 : Int) ≤ (j : Int) := Int.natCast_nonneg _
                    have j1 : (j : Int) < (x : Int) := by omega
                    go_wp2_with fail
                    refine SINn.mono ?_
                    rintro e w9 ⟨rfl, hT9⟩
                    have Ta := hTx.trans hT9
                    have FNDn := FND.out w9 Ta
                    rw [hf] at FNDn
                    go_wp2_with fail
                    refine FNDn.mono ?_
                    rintro e w9' ⟨rfl, rfl⟩
                    have LNn := LEN.out w9 Ta
                    rw [HNM.out] at LNn
                    go_wp2_with fail
                    refine LNn.mono ?_
                    rintro e w9' ⟨rfl, rfl⟩
                    go_wp2_with fail
                    refine (OPN.out w9 Ta).mono ?_
                    rintro e w10 ⟨O1, n1, c1, rfl, r1, hT10⟩
                    have Tb := Ta.trans hT10
                    have e1 : (idsOf (fun _ => true) md).length = n1 := by have := r1.1; rw [i64s_len] at this; omega
                    have e2 : (idsOf (fun _ => true) md).length = no := by have := rO.1; rw [i64s_len] at this; omega
                    have S8 := Lib.hid (same8_eq O1 O n1 no c1 co (idsOf (fun _ => true) md) w10 (Sl.of_own r1) ((Sl.of_own rO).turn0 (hT9.trans hT10)) e1 e2 (by have h9 := idsOf_len (fun _ => true) md; omega))
                    clear e1 e2 r1
                    go_wp2_with fail
                    refine S8.out.mono ?_
                    rintro e w11 ⟨rfl, hT11⟩
                    have Tc := Tb.trans hT11
                    go_wp2_with fail
                    refine (DIR.out w11 Tc).mono ?_
                    rintro e w12 ⟨Q1, n2, c2, rfl, r2, hT12⟩
                    have Td := Tc.trans hT12
                    have e1 : (idsOf (fun y : Int × Bool => !y.2) md).length = n2 := by have := r2.1; rw [i64s_len] at this; omega
                    have e2 : (idsOf (fun y : Int × Bool => !y.2) md).length = nq := by have := rQ.1; rw [i64s_len] at this; omega
                    have S9 := Lib.hid (same8_eq Q1 Q n2 nq c2 cq (idsOf (fun y : Int × Bool => !y.2) md) w12 (Sl.of_own r2) ((Sl.of_own rQ).turn0 (((hT9.trans hT10).trans hT11).trans hT12)) e1 e2 (by have h9 := idsOf_len (fun y : Int × Bool => !y.2) md; omega))
                    clear e1 e2 r2
                    go_wp2_with fail
                    refine S9.out.mono ?_
                    rintro e w13 ⟨rfl, hT13⟩
                    have Te := Td.trans hT13
                    obtain ⟨bJ, oJ, eJ, lJ, -, v1, -⟩ := pcs_at (sM.turn0 Te) jk
                    rw [hj] at v1
                    subst eJ
                    go_wp2_with fail
                    go_roundw
                    case rel => exact ⟨k + 1, by omega, by omega, by go_num, mb, md, _, _, cd, rfl, ⟨RN.out.ps.turn Te (by simp) (by simp), own_turnA RN.out.row Te (by simp), RN.out.apart, fun b hb => ⟨(RN.out.new b hb).1, Nat.lt_of_lt_of_le (RN.out.new b hb).2 Te.size⟩, RN.out.turn.trans Te⟩⟩
                    case measure => simp [intOf]; omega
      · as_aux_lemma =>
          have ttr := umod_range at_ 1073741825 (by omega) (by omega)
          go_wp2_with fail
          generalize wrap64 ((IntKind.u64.wrap at_).tmod 1073741825) = tt at *
          obtain ⟨tt0, tt1⟩ := ttr
          generalize wc.alloc (.cells #[.int .i64 kd, .int .i64 aid, .int .i64 at_] 38) = wA at *
          have AC : ∀ {S : List Nat} (wz : World), Turn S wA wz → wc.heap.size ∉ S → wz.cell? ⟨wc.heap.size, 1, none⟩ = some (.int .i64 aid) ∧ wz.cell? ⟨wc.heap.size, 2, none⟩ = some (.int .i64 at_) ∧ wc.heap.size < wz.heap.size := fun wz hz hn => ⟨(hz.blk BA hn).cell 1, (hz.blk BA hn).cell 2, (hz.blk BA hn).lt⟩
          have hbm : ∀ y ∈ m, 0 ≤ y.2.1 ∧ y.2.1 ≤ 1073741824 := fun y hy => ⟨(PA.ok y hy).2.2.1, (PA.ok y hy).2.2.2⟩
          have RS := Lib.hid (rstep_c M n c m tt wA (Sl.of_own RA) hnm0 (by omega) tt0 (by omega) hbm)
          have PS := Lib.hid (fun (wy : World) (hy : Turn [] wA wy) => step_c w.heap.size mb m tt wy (PA.turn hy (by simp) (by simp)) tt0 (by omega) (fun b hb => by have := (R.new b hb).2; have := hy.size; omega))
          rw [stepM_ref PA.rises tt] at PS
          have hlt1 : m.take n = m := List.take_of_length_le (by omega)
          refine RS.out.mono ?_
          rintro e w3 ⟨D, nd, cd, E, ne, ce, G, ng, cg, rfl, R3⟩
          have o1 := R3.o1
          have o2 := R3.o2
          have o3 := R3.o3
          rw [hlt1] at o1 o2 o3
          have hT3 := R3.turn
          have n2 := R3.n2
          have n3 := R3.n3
          have z3 := hT3.size
          generalize rOut tt m = mo at *
          generalize rTold tt m = mt at *
          generalize idsOf (failB tt) m = mf at *
          clear R3 hlt1
          go_wp2_with fail
          refine (PS.out w3 hT3).mono ?_
          rintro e w4 ⟨X, nx, cx, Y, ny, cy, rfl, oX, oY, hP4, hT4⟩
          simp only at oX oY hP4
          have nmb : ∀ {i : Nat}, wA.heap.size ≤ i → i ∉ mb.toList := fun hi hm => by have := (R.new _ (by simpa using hm)).2; omega
          have o14 := own_turnA o1 hT4 (fun i hi => nmb (own_ltA o1 i hi).2)
          have o24 := own_turnA o2 hT4 (fun i hi => nmb (own_ltA o2 i hi).2)
          have o34 := own_turnA o3 hT4 (fun i hi => nmb (own_ltA o3 i hi).2)
          have l1 : mt.length = nx := by have := oX.1; rw [i64s_len] at this; omega
          have l2 : mt.length = ne := by have := o2.1; rw [i64s_len] at this; omega
          have l3 : mf.length = ny := by have := oY.1; rw [i64s_len] at this; omega
          have l4 : mf.length = ng := by have := o3.1; rw [i64s_len] at this; omega
          have S1 := Lib.hid (same8_eq X E nx ne cx ce mt w4 (Sl.of_own oX) (Sl.of_own o24) l1 l2 (by omega))
          have S2 := Lib.hid (fun (wy : World) (hy : Turn [] w4 wy) => same8_eq Y G ny ng cy cg mf wy ((Sl.of_own oY).turn0 hy) ((Sl.of_own o34).turn0 hy) l3 l4 (by omega))
          clear l1 l2 l3 l4
          go_wp2_with fail
          refine S1.out.mono ?_
          rintro e w5 ⟨rfl, hT5⟩
          go_wp2_with fail
          refine (S2.out w5 hT5).mono ?_
          rintro e w6 ⟨rfl, hT6⟩
          have T46 := hT5.trans hT6
          have oD6 := own_down (own_turnA o14 T46 (by simp)) (show w.heap.size + 1 ≤ wA.heap.size by omega)
          have hP6 := hP4.turn T46 (by simp) (by simp)
          have z4 := hT4.size
          have z6 := T46.size
          have ap6 : ∀ b, mb = some b → b ∉ blks D := fun b hb hm => by
            have h1 := (own_ltA o1 b hm).2
            have := (R.new b hb).2
            omega
          have new6 : ∀ b, mb = some b → w.heap.size < b ∧ b < w6.heap.size := fun b hb => ⟨(R.new b hb).1, by have := (R.new b hb).2; omega⟩
          have TW6 : Turn [] w w6 := ((TWA.trans hT3).andThen hT4 (fun i hi => .inr (by have := (R.new i (by simpa using hi)).1; omega))).trans T46
          have MLT : ∀ i ∈ blks D, i < w6.heap.size := fun i hi => (own_ltA oD6 i hi).1
          have hml := hP6.len
          have hnm : mo.length = nd := by have := (oD6).1; rw [pcs_len] at this; omega
          have OPN := Lib.hid (fun (wy : World) (hy : Turn [] w6 wy) => openP_c w.heap.size mb mo wy (hP6.turn hy (by simp) (by simp)))
          have DIR := Lib.hid (fun (wy : World) (hy : Turn [] w6 wy) => directP_c w.heap.size mb mo wy (hP6.turn hy (by simp) (by simp)))
          have LEN := Lib.hid (fun (wy : World) (hy : Turn [] w6 wy) => plen_c w.heap.size mb mo wy (hP6.turn hy (by simp) (by simp)))
          have SIN := Lib.hid (fun (wy : World) (hy : Turn [] w6 wy) => since_c w.heap.size mb mo id wy (hP6.turn hy (by simp) (by simp)) HID.out)
          have sM := Sl.of_own (oD6)
          have HNM := Lib.hid hnm
          have RN := Lib.hid (show SPRel w mb mo D nd cd w6 from ⟨hP6, oD6, ap6, new6, TW6⟩)
          have FND := Lib.hid (fun (wy : World) (hy : Turn [] w6 wy) => find_c D nd cd mo id wy (sM.turn0 hy) HNM.out (by omega))
          clear hnm
          go_wp2_with fail
          go_loopw [19, 20, 21] (fun op di i wz => ∃ x : Nat, x ≤ nd ∧ i = .int .i64 x ∧ ∃ O no co Q nq cq, op = .slice O no co ∧ di = .slice Q nq cq ∧ no ≤ x ∧ nq ≤ x ∧ wz.ownsRow w6.heap.size 3 1 (.slice O no co) no (i64s (idsOf (fun _ => true) (mo.take x))) ∧ wz.ownsRow w6.heap.size 3 1 (.slice Q nq cq) nq (i64s (idsOf (fun y => !y.2) (mo.take x))) ∧ (∀ i ∈ blks O, i ∉ blks Q) ∧ Turn [] w6 wz) (fun _ _ i _ => 17 - (intOf i).toNat)
          case atStart => exact ⟨0, by omega, rfl, none, 0, 0, none, 0, 0, rfl, rfl, by omega, by omega, World.ownsRow_nil _ _ _ _, World.ownsRow_nil _ _ _ _, by simp [blks], Turn.refl _ _⟩
          case round =>
            obtain ⟨x, hx, rfl, O, no, co, Q, nq, cq, rfl, rfl, hno, hnq, rO, rQ, apO, hTx⟩ := hrel
            obtain ⟨wx, rfl⟩ : ∃ wo : World, wo = wr := ⟨_, rfl⟩
            have x0 : (0 : Int) ≤ (x : Int) := Int.natCast_nonneg _
            have zx := hTx.size
            by_cases hxl : x < nd
            · have x1 : (x : Int) < (nd : Int) := by omega
              have xk : x < mo.length := by rw [HNM.out]; exact hxl
              obtain ⟨bM, oMM, eMM, lM, v0, -, v2⟩ := pcs_at (sM.turn0 hTx) xk
              have s1 := idsOf_snoc (fun _ => true) (mo.take x) mo[x]
              have s2 := idsOf_snoc (fun y : Int × Bool => !y.2) (mo.take x) mo[x]
              rw [← List.take_succ_eq_append_getElem xk] at s1 s2
              generalize mo[x] = y at *
              obtain ⟨y1, y2, y3⟩ := y
              simp only at v0 v2 s1 s2
              have S1 := Lib.hid s1
              have S2 := Lib.hid s2
              have hbO := own_ltA rO
              have hbQ := own_ltA rQ
              clear s1 s2
              subst eMM
              have hMl : bM < w6.heap.size := MLT bM (mem_blks.2 ⟨_, rfl, rfl⟩)
              cases y3 with
              | true =>
                go_wp2_with (at_builtin; go_must (refine wpList_append_sl elemI rfl _ _ rfl O no co _ rfl (rO.alloc _) (some ⟨wx.heap.size, 0, none⟩) 1 1 [.int .i64 y1] rfl (Sl.new _ #[.int .i64 y1] _) (by simp) (by simp [Value.oneCell']) (by omega) (by omega) (by simp; omega) ?_); intro O2 co2 w7 own7 hg7 hlie7; have k7 := app_keep (rQ.alloc (.cells #[.int .i64 y1] 3)) hg7 hlie7 (fun i hi hm => apO i hm hi); have q2 : w7.cell? ⟨bM, oMM + x * 3 + 2, none⟩ = some (.bool true) := ((grown_turn hg7).cell (p := ⟨bM, oMM + x * 3 + 2, none⟩) (show bM < _ by first | (simp; done) | (simp; omega)) (show bM ∉ blks O from fun hm => by have h9 := (hbO bM hm).2; omega)).trans (by rw [World.cell?_alloc_past _ _ _ lM]; exact v2); have lM7 : bM < w7.heap.size := (by have h9 := hg7.size; rw [World.size_alloc] at h9; omega))
                have hT7 : Turn [] w6 w7 := (hTx.alloc _).andThen (grown_turn hg7) (fun i hi => .inr (hbO i hi).2)
                go_roundw
                case rel => exact ⟨x + 1, by omega, by go_num, O2, no + 1, co2, Q, nq, cq, rfl, rfl, by omega, by omega, by rw [S1.out]; simpa [i64s] using own7, by rw [S2.out]; simpa using k7.1, fun i hi hm => k7.2 i hm hi, hT7⟩
                case measure => simp [intOf]; omega
              | false =>
                go_wp2_with (at_builtin; first
                  | (refine wpList_append_sl elemI rfl _ _ rfl O no co _ rfl (rO.alloc _) (some ⟨wx.heap.size, 0, none⟩) 1 1 [.int .i64 y1] rfl (Sl.new _ #[.int .i64 y1] _) (by simp) (by simp [Value.oneCell']) (by omega) (by omega) (by simp; omega) ?_; intro O2 co2 w7 own7 hg7 hlie7; have k7 := app_keep (rQ.alloc (.cells #[.int .i64 y1] 3)) hg7 hlie7 (fun i hi hm => apO i hm hi); have q2 : w7.cell? ⟨bM, oMM + x * 3 + 2, none⟩ = some (.bool false) := ((grown_turn hg7).cell (p := ⟨bM, oMM + x * 3 + 2, none⟩) (show bM < _ by first | (simp; done) | (simp; omega)) (show bM ∉ blks O from fun hm => by have h9 := (hbO bM hm).2; omega)).trans (by rw [World.cell?_alloc_past _ _ _ lM]; exact v2); have q0 : w7.cell? ⟨bM, oMM + x * 3, none⟩ = some (.int .i64 y1) := ((grown_turn hg7).cell (p := ⟨bM, oMM + x * 3, none⟩) (show bM < _ by first | (simp; done) | (simp; omega)) (show bM ∉ blks O from fun hm => by have h9 := (hbO bM hm).2; omega)).trans (by rw [World.cell?_alloc_past _ _ _ lM]; exact v0); have lM7 : bM < w7.heap.size := (by have h9 := hg7.size; rw [World.size_alloc] at h9; omega); have z7 : wx.heap.size + 1 ≤ w7.heap.size := (by have h9 := hg7.size; rw [World.size_alloc] at h9; omega))
                  | (go_must (refine wpList_append_sl elemI rfl _ _ rfl Q nq cq _ rfl (k7.1.alloc _) (some ⟨w7.heap.size, 0, none⟩) 1 1 [.int .i64 y1] rfl (Sl.new _ #[.int .i64 y1] _) (by simp) (by simp [Value.oneCell']) (by omega) (by omega) (by simp; omega) ?_); intro Q2 cq2 w8 own8 hg8 hlie8))
                have k8 := app_keep (own7.alloc (.cells #[.int .i64 y1] 3)) hg8 hlie8 (fun i hi hm => k7.2 i hm hi)
                have hT7 : Turn [] w6 w7 := (hTx.alloc _).andThen (grown_turn hg7) (fun i hi => .inr (hbO i hi).2)
                have hT8 : Turn [] w6 w8 := (hT7.alloc _).andThen (grown_turn hg8) (fun i hi => .inr (hbQ i hi).2)
                go_roundw
                case rel => exact ⟨x + 1, by omega, by go_num, O2, no + 1, co2, Q2, nq + 1, cq2, rfl, rfl, by omega, by omega, by rw [S1.out]; simpa [i64s] using k8.1, by rw [S2.out]; simpa [i64s] using own8, k8.2, hT8⟩
                case measure => simp [intOf]; omega
            · obtain rfl : x = nd := by omega
              have x1 : ¬ (x : Int) < (x : Int) := by omega
              rw [List.take_of_length_le (by rw [HNM.out]; exact Nat.le_refl _)] at rO rQ
              rcases findI_cases mo id with ⟨hg, hf⟩ | ⟨j, jk, av, hg, hf, hj⟩
              · have SINn := SIN.out wx hTx
                rw [hg] at SINn
                simp only [Option.getD_none, Option.isSome_none] at SINn
                go_wp2_with fail
                refine SINn.mono ?_
                rintro e w9 ⟨rfl, hT9⟩
                have Ta := hTx.trans hT9
                have FNDn := FND.out w9 Ta
                rw [hf] at FNDn
                go_wp2_with fail
                refine FNDn.mono ?_
                rintro e w9' ⟨rfl, rfl⟩
                have LNn := LEN.out w9 Ta
                rw [HNM.out] at LNn
                go_wp2_with fail
                refine LNn.mono ?_
                rintro e w9' ⟨rfl, rfl⟩
                go_wp2_with fail
                refine (OPN.out w9 Ta).mono ?_
                rintro e w10 ⟨O1, n1, c1, rfl, r1, hT10⟩
                have Tb := Ta.trans hT10
                have e1 : (idsOf (fun _ => true) mo).length = n1 := by have := r1.1; rw [i64s_len] at this; omega
                have e2 : (idsOf (fun _ => true) mo).length = no := by have := rO.1; rw [i64s_len] at this; omega
                have S8 := Lib.hid (same8_eq O1 O n1 no c1 co (idsOf (fun _ => true) mo) w10 (Sl.of_own r1) ((Sl.of_own rO).turn0 (hT9.trans hT10)) e1 e2 (by have h9 := idsOf_len (fun _ => true) mo; omega))
                clear e1 e2 r1
                go_wp2_with fail
                refine S8.out.mono ?_
                rintro e w11 ⟨rfl, hT11⟩
                have Tc := Tb.trans hT11
                go_wp2_with fail
                refine (DIR.out w11 Tc).mono ?_
                rintro e w12 ⟨Q1, n2, c2, rfl, r2, hT12⟩
                have Td := Tc.trans hT12
                have e1 : (idsOf (fun y : Int × Bool => !y.2) mo).length = n2 := by have := r2.1; rw [i64s_len] at this; omega
                have e2 : (idsOf (fun y : Int × Bool => !y.2) mo).length = nq := by have := rQ.1; rw [i64s_len] at this; omega
                have S9 := Lib.hid (same8_eq Q1 Q n2 nq c2 cq (idsOf (fun y : Int × Bool => !y.2) mo) w12 (Sl.of_own r2) ((Sl.of_own rQ).turn0 (((hT9.trans hT10).trans hT11).trans hT12)) e1 e2 (by have h9 := idsOf_len (fun y : Int × Bool => !y.2) mo; omega))
                clear e1 e2 r2
                go_wp2_with fail
                refine S9.out.mono ?_
                rintro e w13 ⟨rfl, hT13⟩
                have Te := Td.trans hT13
                go_wp2_with fail
                go_roundw
                case rel => exact ⟨k + 1, by omega, by omega, by go_num, mb, mo, _, _, cd, rfl, ⟨RN.out.ps.turn Te (by simp) (by simp), own_turnA RN.out.row Te (by simp), RN.out.apart, fun b hb => ⟨(RN.out.new b hb).1, Nat.lt_of_lt_of_le (RN.out.new b hb).2 Te.size⟩, RN.out.turn.trans Te⟩⟩
                case measure => simp [intOf]; omega
              · have SINn := SIN.out wx hTx
                rw [hg] at SINn
                simp only [Option.getD_some, Option.isSome_some] at SINn
                have jn : j < x := by rw [← HNM.out]; exact jk
                have j0 : (0 : Int) ≤ (j : Int) := Int.natCast_nonneg _
                have j1 : (j : Int) < (x : Int) := by omega
                go_wp2_with fail
                refine SINn.mono ?_
                rintro e w9 ⟨rfl, hT9⟩
                have Ta := hTx.trans hT9
                have FNDn := FND.out w9 Ta
                rw [hf] at FNDn
                go_wp2_with fail
                refine FNDn.mono ?_
                rintro e w9' ⟨rfl, rfl⟩
                have LNn := LEN.out w9 Ta
                rw [HNM.out] at LNn
                go_wp2_with fail
                refine LNn.mono ?_
                rintro e w9' ⟨rfl, rfl⟩
                go_wp2_with fail
                refine (OPN.out w9 Ta).mono ?_
                rintro e w10 ⟨O1, n1, c1, rfl, r1, hT10⟩
                have Tb := Ta.trans hT10
                have e1 : (idsOf (fun _ => true) mo).length = n1 := by have := r1.1; rw [i64s_len] at this; omega
                have e2 : (idsOf (fun _ => true) mo).length = no := by have := rO.1; rw [i64s_len] at this; omega
                have S8 := Lib.hid (same8_eq O1 O n1 no c1 co (idsOf (fun _ => true) mo) w10 (Sl.of_own r1) ((Sl.of_own rO).turn0 (hT9.trans hT10)) e1 e2 (by have h9 := idsOf_len (fun _ => true) mo; omega))
                clear e1 e2 r1
                go_wp2_with fail
                refine S8.out.mono ?_
                rintro e w11 ⟨rfl, hT11⟩
                have Tc := Tb.trans hT11
                go_wp2_with fail
                refine (DIR.out w11 Tc).mono ?_
                rintro e w12 ⟨Q1, n2, c2, rfl, r2, hT12⟩
                have Td := Tc.trans hT12
                have e1 : (idsOf (fun y : Int × Bool => !y.2) mo).length = n2 := by have := r2.1; rw [i64s_len] at this; omega
                have e2 : (idsOf (fun y : Int × Bool => !y.2) mo).length = nq := by have := rQ.1; rw [i64s_len] at this; omega
                have S9 := Lib.hid (same8_eq Q1 Q n2 nq c2 cq (idsOf (fun y : Int × Bool => !y.2) mo) w12 (Sl.of_own r2) ((Sl.of_own rQ).turn0 (((hT9.trans hT10).trans hT11).trans hT12)) e1 e2 (by have h9 := idsOf_len (fun y : Int × Bool => !y.2) mo; omega))
                clear e1 e2 r2
                go_wp2_with fail
                refine S9.out.mono ?_
                rintro e w13 ⟨rfl, hT13⟩
                have Te := Td.trans hT13
                obtain ⟨bJ, oJ, eJ, lJ, -, v1, -⟩ := pcs_at (sM.turn0 Te) jk
                rw [hj] at v1
                subst eJ
                go_wp2_with fail
                go_roundw
                case rel => exact ⟨k + 1, by omega, by omega, by go_num, mb, mo, _, _, cd, rfl, ⟨RN.out.ps.turn Te (by simp) (by simp), own_turnA RN.out.row Te (by simp), RN.out.apart, fun b hb => ⟨(RN.out.new b hb).1, Nat.lt_of_lt_of_le (RN.out.new b hb).2 Te.size⟩, RN.out.turn.trans Te⟩⟩
                case measure => simp [intOf]; omega
    · by_cases hkl : k < len
      · have i1 : (k : Int) < (len : Int) := by omega
        have i2 : ¬ (k : Int) < 60 := by omega
        go_wp2_with fail
        refine (known_c _).mono ?_
        rintro e w5 ⟨rfl, hT5⟩
        go_wp2_with fail
        go_ret
        exact ⟨by simp, R.turn.trans hT5⟩
      · have i1 : ¬ (k : Int) < (len : Int) := by omega
        go_wp2_with fail
        refine (known_c _).mono ?_
        rintro e w5 ⟨rfl, hT5⟩
        go_wp2_with fail
        go_ret
        exact ⟨by simp, R.turn.trans hT5⟩
end Go.Proofs.Ythmpkpifeickpaa
