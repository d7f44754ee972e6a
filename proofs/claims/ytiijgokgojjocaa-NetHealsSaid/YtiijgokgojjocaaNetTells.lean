/- The walk of NetTells. -/
import Derived.Test.YtiijgokgojjocaaNetBv
namespace Go.Proofs.Ytiijgokgojjocaa
open Go.RowKit Go.ChangeMaps Go.WideMaps Go.MapKept Go.WideShapes Srt

/-- Where NetTells stands behind i letters. -/
structure TRel (w : World) (g d cb kb base : Nat) (tk fr dst : Int) (L : Nat → Bs) (i : Nat) (B : Option Addr) (c : Nat) (s : Int) (A : Option Addr) (cap : Nat) (ms : List Ml) (wr : World) : Prop where
  row : wr.ownsRow w.heap.size 26 1 (.slice B i c) i (bsVals (cuts 60 L i))
  net : NetIs wr g d cb kb s ⟨0, 0, 0, 1⟩ [] [] base A i cap ms (i : Int) 0 0
  pure : ms.map Ml.pure = (cuts 60 L i).map (fun b => (tk + 1, fr, dst, b.xs))
  apart : ∀ j ∈ blks B, base ≤ j ∧ j ∉ blks A ∧ ∀ m ∈ ms, j ∉ blks m.A
  turn : Turn [] w wr
/-- One letter more. -/
theorem TRel.next {w : World} {g d cb kb base : Nat} {tk fr dst : Int} {L : Nat → Bs} {i : Nat} {B : Option Addr} {c : Nat} {s : Int} {A : Option Addr} {cap : Nat} {ms : List Ml} {w1 w2 w3 w4 : World}
    (R : TRel w g d cb kb base tk fr dst L i B c s A cap ms w1) (hg : w.heap.size ≤ g ∧ w.heap.size ≤ d ∧ w.heap.size ≤ base)
    {B' : Option Addr} {c' : Nat} (own2 : w2.ownsRow w.heap.size 26 1 (.slice B' (i + 1) c') (i + 1) (bsVals (cuts 60 L i) ++ [((L i).cut 60).val])) (hT12 : Turn (blks B) w1 w2) (hB' : ∀ j ∈ blks B', j ∈ blks B ∨ w1.heap.size ≤ j)
    (T23 : Turn [] w2 w3) {A' : Option Addr} {cap' : Nat} {s' : Int} {m : Ml} (N4 : NetIs w4 g d cb kb s' ⟨0, 0, 0, 1⟩ [] [] base A' (i + 1) cap' (ms ++ [m]) ((i + 1 : Nat) : Int) 0 0) (hm : m.pure = (tk + 1, fr, dst, ((L i).cut 60).xs))
    (T34 : Turn (g :: d :: blks A) w3 w4) (hA' : ∀ j ∈ blks A', j ∈ blks A ∨ w3.heap.size ≤ j) (hnew : ∀ j ∈ blks m.A, w3.heap.size ≤ j) :
    TRel w g d cb kb base tk fr dst L (i + 1) B' c' s' A' cap' (ms ++ [m]) w4 := by
  have hlow := R.net.low
  have hlo := R.net.lo
  have z12 := hT12.size
  have z23 := T23.size
  have hA := own_ltA R.net.row
  have hB2 := own_ltA own2
  have hBA : ∀ j ∈ blks B', j ∉ blks A := fun j hj hm => by
    rcases hB' j hj with h1 | h1
    · exact (R.apart j h1).2.1 hm
    · have := (hA j hm).1; omega
  have hBb : ∀ j ∈ blks B', base ≤ j := fun j hj => by
    rcases hB' j hj with h1 | h1
    · exact (R.apart j h1).1
    · omega
  refine ⟨?_, N4, by rw [List.map_append, R.pure, cuts_succ, List.map_append]; simp [hm], fun j hj => ⟨hBb j hj, ?_, fun x hx => ?_⟩, ?_⟩
  · rw [cuts_succ]
    have h3 := own_turnA (own_turnA own2 T23 (by simp)) T34 (fun j hj hm => by
      simp at hm
      have hb := hBb j hj
      rcases hm with hm | hm | hm
      · omega
      · omega
      · exact hBA j hj hm)
    simpa [bsVals] using h3
  · intro hm
    rcases hA' j hm with h1 | h1
    · exact hBA j hj h1
    · have := (hB2 j hj).1; omega
  · intro hjx
    rcases List.mem_append.1 hx with hx | hx
    · rcases hB' j hj with h1 | h1
      · exact (R.apart j h1).2.2 x hx hjx
      · have := (R.net.mok x hx).1.lt j hjx; omega
    · simp at hx
      subst hx
      have := hnew j hjx
      have := (hB2 j hj).1
      omega
  · refine ((R.turn.andThen hT12 (fun j hj => .inr (own_ltA R.row j hj).2)).trans T23).andThen T34 (fun j hj => ?_)
    simp at hj
    rcases hj with rfl | rfl | hj
    · exact .inr hg.1
    · exact .inr hg.2.1
    · exact .inr (by have h1 := (hA j hj).2; omega)

theorem tells_filters {ms : List Ml} {tt : Int} (h : ∀ m ∈ ms, m.due = tt + 1) : ms.filter (isDue tt) = [] ∧ ms.filter (fun m => !isDue tt m) = ms ∧ ms.filter (isDue (tt + 1)) = ms ∧ ms.filter (fun m => !isDue (tt + 1) m) = [] ∧ srt Ml.due ms = ms := by
  refine ⟨?_, ?_, ?_, ?_, ?_⟩
  · rw [List.filter_eq_nil_iff]
    intro m hm
    simp [isDue, h m hm] <;> omega
  · rw [List.filter_eq_self]
    intro m hm
    simp [isDue, h m hm] <;> omega
  · rw [List.filter_eq_self]
    intro m hm
    simp [isDue, h m hm]
  · rw [List.filter_eq_nil_iff]
    intro m hm
    simp [isDue, h m hm]
  · apply srt_of_asc
    unfold Asc
    rw [List.pairwise_iff_getElem]
    intro i j hi hj _
    rw [h _ (List.getElem_mem hi), h _ (List.getElem_mem hj)]
    exact Int.le_refl _

set_option maxRecDepth 100000 in
set_option maxHeartbeats 8000000 in
theorem ntells_walk (s0 fr dst tk : Int) (A0 : Option Addr) (len cap0 : Nat) (L : Nat → Bs) (w : World) (hl : Letters w A0 len L) (hlen : len ≤ maxLen) (hfr : wf64 fr) (hdst : wf64 dst) :
    Calls Try.prog 3 #[.int .u64 s0, .slice A0 len cap0, .int .i64 fr, .int .i64 dst, .int .i64 tk] w fun e w' => e = .returned (.bool true) ∧ Turn [] w w' := by
  have KC := Lib.hid (fun wz => known_c wz)
  have HL := Lib.hid hl
  unfold maxLen at hlen
  obtain ⟨iB, hiB, hzB⟩ := elemB.info
  have HD := fun (w : World) a n c k h h0 h1 => run_slice_head Try.underlying26 hiB w a n c k h h0 h1
  have htk := umod_range tk 1000000 (by omega) (by omega)
  have WF := Lib.hid (And.intro hfr hdst)
  clear hiB hzB hl hfr hdst
  go_enter Try.func3, Try.ntmps3
  go_wp2_with fail
  refine (newN_c s0 w).mono ?_
  rintro e w1 ⟨g, d, cb, kb, base, rfl, N1, hlo, hT1⟩
  have HN1 := Lib.hid N1
  have hlow := N1.low
  clear N1
  go_upto_block 0 with fail
  generalize wrap64 ((IntKind.u64.wrap tk).tmod 1000000) = tt at *
  go_cut [12] (fun x wc => ∃ k B c s A cap ms, x = .slice B k c ∧ k ≤ 20 ∧ k ≤ len ∧ TRel w g d cb kb base tt fr dst L k B c s A cap ms wc)
  case first =>
    go_wp2_with fail
    go_loopw [12, 13] (fun x ix wr => ∃ k B c s A cap ms, k ≤ 20 ∧ k ≤ len ∧ ix = .int .i64 ((k : Nat) : Int) ∧ x = .slice B k c ∧ TRel w g d cb kb base tt fr dst L k B c s A cap ms wr) (fun _ i _ => 20 - (intOf i).toNat)
    case atStart => exact ⟨0, none, 0, s0, none, 0, [], by omega, by omega, rfl, rfl, ⟨World.ownsRow_nil _ _ _ _, HN1.out, rfl, by simp [blks], hT1⟩⟩
    case round =>
      obtain ⟨k, B, c, s, A, cap, ms, hk20, hk, rfl, rfl, R⟩ := hrel
      obtain ⟨wx, rfl⟩ : ∃ wo : World, wo = wr := ⟨_, rfl⟩
      have i0 : (0 : Int) ≤ (k : Int) := Int.natCast_nonneg _
      by_cases hgo : k < len ∧ k < 20
      · obtain ⟨hlt, hlt20⟩ := hgo
        have i1 : (k : Int) < (len : Int) := by omega
        have i2 : (k : Int) < 20 := by omega
        obtain ⟨bl, off, rfl, hbl, hcell⟩ := HL.out (by omega)
        obtain ⟨cc, hs, hc1, hc2⟩ := hcell k hlt
        have dc := (R.turn.cell (p := ⟨bl, off + k, none⟩) hbl (by simp)).trans cc
        have hIs := hs.cut 60
        have HLT := Lib.hid hIs.lt
        have HIS := Lib.hid (hIs.turn0 R.turn)
        have RR := Lib.hid R
        have hbl1 := Nat.lt_of_lt_of_le hbl R.turn.size
        obtain ⟨b, hb⟩ : ∃ b, b = L k := ⟨_, rfl⟩
        rw [← hb] at dc HIS HLT hc1 hc2
        obtain ⟨bA, bn, bc, bxs⟩ := b
        have HCUT : Hid ((L k).cut 60 = ⟨bA, min bn 60, bc, bxs.take 60⟩) := by show _ = _; rw [← hb]; rfl
        have HSL : Hid (Sl wx bA (u8s (bxs.take 60))) := HIS.out.sl
        have HLN : Hid ((bxs.take 60).length = min bn 60) := HIS.out.len
        have HLT2 : Hid (bxs.take 60 ≠ [] → ∀ i ∈ blks bA, i < w.heap.size) := HLT.out
        simp only at dc hc1 hc2
        unfold maxLen at hc2
        have hif : (if (60 : Int) < (bn : Int) then (60 : Int) else (bn : Int)) = ((min bn 60 : Nat) : Int) := by split <;> omega
        have hm1 : min bn 60 ≤ bc := by omega
        have hm2 : min bn 60 ≤ 60 := by omega
        clear cc hcell hs R hIs hb HIS HLT
        generalize min bn 60 = m at *
        generalize bxs.take 60 = ys at *
        have j0 : (0 : Int) ≤ (m : Int) := Int.natCast_nonneg _
        have j1 : (m : Int) ≤ (bc : Int) := by omega
        have zx := RR.out.turn.size
        go_wp2_with fail
        go_region_held3 (fun w' => w'.cell? ⟨bl, off + k, none⟩ = some (.slice bA bn bc)) (go_keep) (fail)
        go_wp2_with (at_builtin; refine wpList_append_sl elemBs rfl _ _ rfl B k c _ rfl ((RR.out.row.alloc _).drew) (some ⟨wx.heap.size, 0, none⟩) 1 1 [.slice bA m bc] rfl (Sl.new _ #[.slice bA m bc] _) (by simp) (by simp [Value.oneCell']) (by omega) (by omega) (by simp; omega) ?_; intro B' c' w2 own2 hg2 hlie2)
        have T12 : Turn (blks B) wx w2 := ((((Turn.refl [] wx).alloc _).drew).mono (by simp)).trans (grown_turn hg2)
        have hB' : ∀ j ∈ blks B', j ∈ blks B ∨ wx.heap.size ≤ j := fun j hj => by
          rcases lies_blks hlie2 j hj with h1 | h1
          · exact .inl h1
          · exact .inr (by simp at h1; omega)
        have T23 := (Turn.refl [] w2).alloc (.cells #[.int .i64 dst, .slice bA m bc] 29)
        have z12 := T12.size
        have hA := own_ltA RR.out.net.row
        have hBl := own_ltA RR.out.row
        have N3 := Lib.hid ((RR.out.net.turnS T12 RR.out.apart).turn T23 (by simp))
        have SB : Sl (w2.alloc (.cells #[.int .i64 dst, .slice bA m bc] 29)) (some ⟨w2.heap.size, 0, none⟩) (lcs [⟨dst, bA, m, bc, ys⟩]) := by
          have := Sl.new w2 #[.int .i64 dst, .slice bA m bc] 29
          simpa [lcs, lcell] using this
        have hgd := hlo
        have LO : LtOk (w2.alloc (.cells #[.int .i64 dst, .slice bA m bc] 29)) g d A (some ⟨w2.heap.size, 0, none⟩) [⟨dst, bA, m, bc, ys⟩] :=
          ⟨SB, fun _ j hj => by
            have hlts := RR.out.net.lts
            simp [blks] at hj; subst hj; exact ⟨by omega, by omega, fun hm => by have := (hA _ hm).1; omega⟩, fun l hl => by
            simp at hl
            subst hl
            have hoff : ys ≠ [] → ∀ i ∈ blks bA, i < w.heap.size := HLT2.out
            refine ⟨(HSL.out.turnP T12 (fun hne i hi hm => ?_)).turn0 T23, HLN.out, by show m ≤ 1000000; omega, WF.out.2, fun hne i hi => ?_⟩
            · have h1 := hoff (fun e => hne (by rw [e]; rfl)) i hi
              have := (hBl i hm).2
              omega
            · have h1 := hoff hne i hi
              exact ⟨by omega, by omega, fun hm => by have := (hA i hm).2; omega⟩⟩
        have SN := Lib.hid (send_c N3.out tt fr _ 1 1 [⟨dst, bA, m, bc, ys⟩] (by omega) (by omega) WF.out.1 LO rfl (by omega) (by omega) (by omega) (by omega) (by omega))
        obtain ⟨s', hso⟩ : ∃ s', sendAll [] ⟨0, 0, 0, 1⟩ tt fr k s [⟨dst, bA, m, bc, ys⟩] = ([(tt + 1, fr, dst, ys)], s', 0) := ⟨_, send_one (by simp) (by omega)⟩
        have HSO := Lib.hid hso
        have NX := Lib.hid (fun w4 s' A' cap' mm => @TRel.next w g d cb kb base tt fr dst L k B c s A cap ms wx w2 (w2.alloc (.cells #[.int .i64 dst, .slice bA m bc] 29)) w4 RR.out ⟨hlo.1, hlo.2.1, hlo.2.2.2.2⟩ B' c' (by rw [HCUT.out]; exact own2) T12 hB' T23 A' cap' s' mm)
        rw [HCUT.out] at NX
        clear hso SB LO own2 hB' hg2 hlie2 hA hBl dc
        go_wp2_with fail
        refine SN.out.mono ?_
        rintro e w4 ⟨ms', rfl, A', cap', N4, hpu, hT4, hA4, hnw4⟩
        simp only [List.length_cons, List.length_nil, List.take_of_length_le (show ([⟨dst, bA, m, bc, ys⟩] : List Lt).length ≤ 0 + 1 by simp)] at N4 hpu
        rw [HSO.out] at N4 hpu
        simp only at N4 hpu
        obtain ⟨mm, rfl, hm⟩ := List.map_eq_singleton_iff.1 hpu
        have R4 := Lib.hid (NX.out _ _ _ _ _ (by simpa using N4) hm hT4 hA4 (fun j hj => hnw4 mm (by simp) j hj))
        clear N4 hpu hm hT4 hA4 hnw4
        go_wp2_with fail
        go_roundw
        case rel => exact ⟨k + 1, B', c', _, A', cap', ms ++ [mm], by omega, by omega, by go_num, rfl, R4.out⟩
        case measure => simp [intOf]; omega
      · by_cases hlt : k < len
        · have i1 : (k : Int) < (len : Int) := by omega
          have i2 : ¬ (k : Int) < 20 := by omega
          have RR := Lib.hid R
          clear R
          go_wp2_with fail
          go_meet
          case rel => exact ⟨k, B, c, s, A, cap, ms, rfl, hk20, hk, RR.out⟩
        · have i1 : ¬ (k : Int) < (len : Int) := by omega
          have RR := Lib.hid R
          clear R
          go_wp2_with fail
          go_meet
          case rel => exact ⟨k, B, c, s, A, cap, ms, rfl, hk20, hk, RR.out⟩
  case rest =>
    obtain ⟨k, B, c, s, A, cap, ms, rfl, hk20, hk, R⟩ := hcut
    generalize hwc : wc = wd at *
    clear hwc
    have hdue : ∀ m ∈ ms, m.due = tt + 1 := fun m hm => by
      have h1 : m.pure ∈ ms.map Ml.pure := List.mem_map.2 ⟨m, hm, rfl⟩
      rw [R.pure] at h1
      obtain ⟨b, -, h2⟩ := List.mem_map.1 h1
      unfold Ml.pure at h2
      injection h2 with h3 h4
      exact h3.symm
    have F := Lib.hid (tells_filters hdue)
    have hml := R.net.len
    have HML := Lib.hid hml
    have RR := Lib.hid R
    have DU := Lib.hid (dueN_c R.net tt (by simp) 0 CameOk.nil (by omega) (by omega) (by omega))
    have lo5 := hlo
    have HA := Lib.hid (own_ltA R.net.row)
    have z0 := R.turn.size
    clear R hdue hml
    go_wp2_with fail
    refine DU.out.mono ?_
    rintro e w5 ⟨O, co, n5, cap5, rfl, -, N5, -, hT5⟩
    rw [F.out.1, F.out.2.1] at N5
    rw [F.out.1]
    have hn5 := N5.len
    rw [HML.out] at hn5
    obtain rfl : n5 = k := hn5.symm
    have DU6 := Lib.hid (dueN_c N5 (tt + 1) (by simp [cameAll]) 0 CameOk.nil (by omega) (by simp) (by simp))
    clear N5
    go_wp2_with fail
    refine DU6.out.mono ?_
    rintro e w6 ⟨O6, co6, n6, cap6, rfl, row6, N6, hmok, hT6⟩
    rw [F.out.2.2.1, F.out.2.2.2.1, HML.out] at N6
    rw [F.out.2.2.1, F.out.2.2.2.2, HML.out] at row6
    rw [F.out.2.2.1] at hmok
    rw [F.out.2.2.1, HML.out]
    obtain rfl : n6 = 0 := by have := N6.len; simpa using this.symm
    have T56 := hT5.trans hT6
    have hlow6 := hlow
    have ROW := Lib.hid (own_turnA RR.out.row T56 (fun j hj hm => by
      have h1 := RR.out.apart j hj
      simp at hm
      rcases hm with hm | hm | hm
      · omega
      · omega
      · exact h1.2.1 hm))
    have TT6 : Turn [] w w6 := RR.out.turn.andThen T56 (fun j hj => by
      simp at hj
      rcases hj with rfl | rfl | hj
      · exact .inr hlo.1
      · exact .inr hlo.2.2.2.1
      · exact .inr (by have := (HA.out j hj).2; omega))
    have LN := Lib.hid (lenN_c N6)
    have ROW6 := Lib.hid row6
    have HMOK := Lib.hid hmok
    clear N6 row6 hmok hT5 hT6 T56
    go_wp2_with fail
    refine LN.out.mono ?_
    rintro e w7 ⟨rfl, rfl⟩
    go_wp2_with fail
    go_loopw [17] (fun ix wr => ∃ i : Nat, i ≤ n5 ∧ ix = .int .i64 i ∧ Turn [] w6 wr) (fun ix _ => n5 - (intOf ix).toNat)
    case atStart => exact ⟨0, by omega, rfl, Turn.refl _ _⟩
    case round =>
      obtain ⟨i, hi, rfl, hT⟩ := hrel
      obtain ⟨wx, rfl⟩ : ∃ wo : World, wo = wr := ⟨_, rfl⟩
      have i0 : (0 : Int) ≤ (i : Int) := Int.natCast_nonneg _
      by_cases hlt : i < n5
      · have i1 : (i : Int) < (n5 : Int) := by omega
        have hml : i < ms.length := by rw [HML.out]; exact hlt
        obtain ⟨b1, o1, rfl, l1, m0, m1, m2, m3⟩ := mcs_at ((Sl.of_own ROW6.out).turn0 hT) hml
        have hbl : i < (bsVals (cuts 60 L n5)).length := by simp [bsVals, cuts_len]; exact hlt
        obtain ⟨b2, o2, rfl, l2, d0⟩ := ((Sl.of_own ROW.out).turn0 hT).at_ hbl
        have ed : (bsVals (cuts 60 L n5))[i] = ((L i).cut 60).val := by simp [bsVals, cuts]
        rw [ed] at d0
        have hp := congrArg (·[i]?) RR.out.pure
        simp only [List.getElem?_map, List.getElem?_eq_getElem hml, Option.map_some, List.getElem?_eq_getElem (show i < (cuts 60 L n5).length by rw [cuts_len]; exact hlt), cuts_get] at hp
        have hp' : ms[i].pure = (tt + 1, fr, dst, ((L i).cut 60).xs) := by injection hp
        have hk1 := HMOK.out ms[i] (List.getElem_mem hml)
        have hk2 := ((HL.out.is (show i < len by omega)).cut 60).turn0 (TT6.trans hT)
        have hk3 := hk1.turn hT (by simp)
        clear ed hp
        generalize ms[i] = m at *
        generalize (L i).cut 60 = b at *
        obtain ⟨due, mf, md, mA, mn, mc, mxs⟩ := m
        obtain ⟨bA, bn, bc, bxs⟩ := b
        have hq : due = tt + 1 ∧ mf = fr ∧ md = dst ∧ mxs = bxs := by
          unfold Ml.pure at hp'
          simp only [Prod.mk.injEq] at hp'
          exact hp'
        obtain ⟨rfl, rfl, rfl, rfl⟩ := hq
        have hs1 : Sl wx mA (u8s mxs) := hk3.sl
        have hs2 : Sl wx bA (u8s mxs) := hk2.sl
        have SM := Lib.hid (fun wy (hy : Turn [] wx wy) => same_c mA bA mn bn mc bc mxs mxs wy (hs1.turn0 hy) (hs2.turn0 hy) hk3.len hk2.len (by have := hk3.le; simp only at this; omega))
        have d0' : wx.cell? ⟨b2, o2 + i, none⟩ = some (.slice bA bn bc) := d0
        simp only at m0 m1 m2 m3
        have AE : ∀ wy, Turn [] wx wy → (wy.cell? ⟨b1, o1 + i * 4, none⟩ = some (.int .i64 (tt + 1)) ∧ wy.cell? ⟨b1, o1 + i * 4 + 1, none⟩ = some (.int .i64 mf) ∧ wy.cell? ⟨b1, o1 + i * 4 + 2, none⟩ = some (.int .i64 md) ∧ wy.cell? ⟨b1, o1 + i * 4 + 3, none⟩ = some (.slice mA mn mc) ∧ wy.cell? ⟨b2, o2 + i, none⟩ = some (.slice bA bn bc) ∧ Turn [] wx wy) := fun wy hy =>
          ⟨(hy.cell l1 (by simp)).trans m0, (hy.cell l1 (by simp)).trans m1, (hy.cell l1 (by simp)).trans m2, (hy.cell l1 (by simp)).trans m3, (hy.cell l2 (by simp)).trans d0', hy⟩
        have AE' := Lib.hid AE
        have T0 := (Turn.refl [] wx).drew
        have sw : IntKind.i64.wrap (tt + 1) = tt + 1 := IntWalk.i64_in _ (by omega)
        clear AE m0 m1 m2 m3 d0 d0' hs1 hs2 hk1 hk2 hk3 hp'
        go_wp2_with fail
        go_region_held3 (fun wy => wy.cell? ⟨b1, o1 + i * 4, none⟩ = some (.int .i64 (tt + 1)) ∧ wy.cell? ⟨b1, o1 + i * 4 + 1, none⟩ = some (.int .i64 mf) ∧ wy.cell? ⟨b1, o1 + i * 4 + 2, none⟩ = some (.int .i64 md) ∧ wy.cell? ⟨b1, o1 + i * 4 + 3, none⟩ = some (.slice mA mn mc) ∧ wy.cell? ⟨b2, o2 + i, none⟩ = some (.slice bA bn bc) ∧ Turn [] wx wy)
          (first | exact AE'.out _ (by assumption))
          ((go_at_call 12; refine (SM.out _ (by assumption)).mono ?_; rintro e w8 ⟨rfl, hT8⟩; have T8 : Turn [] wx w8 := Turn.trans T0 hT8))
        go_wp2_with fail
        go_roundw
        case rel => exact ⟨i + 1, by omega, by go_num, hT.trans T8⟩
        case measure => simp [intOf]; omega
      · have i1 : ¬ (i : Int) < (n5 : Int) := by omega
        go_wp2_with fail
        refine (KC.out _).mono ?_
        rintro e w8 ⟨rfl, hT8⟩
        go_wp2_with fail
        go_ret
        exact ⟨by simp, (TT6.trans hT).trans hT8⟩
end Go.Proofs.Ytiijgokgojjocaa
