/- The reference's net: Send. -/
import Derived.Test.YtiijgokgojjocaaRSendD
import Derived.Test.YtiijgokgojjocaaRNetC
import Derived.Test.YtiijgokgojjocaaNetSend
import Derived.StillTailTactics
namespace Go.Proofs.Ytiijgokgojjocaa
open Go.RowKit Go.ChangeMaps Go.WideMaps Go.MapKept Go.WideShapes

section
variable {w w' : World} {m : Nat} {s : Int} {r : Rl} {C : Option Addr} {nc kc : Nat} {cl : List (Int × Int)} {A : Option Addr} {n cap : Nat} {ms : List Ml} {B : Option Addr} {nb kb : Nat} {cs : List Ml} {sent lost told : Int}
set_option maxRecDepth 100000 in
set_option maxHeartbeats 8000000 in
theorem rSend_c (h : RNetIs w m s r C nc kc cl A n cap ms B nb kb cs sent lost told) (hn : n ≤ 2048) (hnc : nc ≤ 1000000) (tick fr dst : Int) (D : Option Addr) (nd cd : Nat) (xs : List Int) (ht0 : 0 ≤ tick) (ht1 : tick ≤ 1073741824) (hfr : wf64 fr) (hdst : wf64 dst) (hx : Sl w D (u8s xs)) (hlen : xs.length = nd) (hnd : nd ≤ 1000000)
    (hD : xs ≠ [] → ∀ i ∈ blks D, i ∉ m :: blks A) (hs0 : 0 ≤ sent) (hs1 : sent ≤ 1000000000) (ho0 : 0 ≤ lost) (ho1 : lost ≤ 1000000000) :
    Calls Try.prog 19 #[.pointer (some ⟨m, 0, none⟩), .int .i64 tick, .int .i64 fr, .agg #[.int .i64 dst, .slice D nd cd]] w (RSended w m s r C nc kc cl A n ms B nb kb cs sent lost told tick fr dst xs) := by
  have T0 : Turn [] w (w.alloc (.cells #[.int .i64 dst, .slice D nd cd] 62)) := (Turn.refl [] w).alloc _
  have BL := Blk.new w 62 #[.int .i64 dst, .slice D nd cd]
  have H0 := h.turn0 T0
  have c8 := H0.blk.cell 8
  have f8 := H0.blk.frozen 8
  have ml := H0.blk.lt
  have S1 := Lib.hid (H0.setSent (sent + 1))
  have HH := Lib.hid h
  have b0 := BL.cell 0
  have b1 := BL.cell 1
  have bl := BL.lt
  clear h H0
  unfold RSended
  go_enter Try.func19, Try.ntmps19
  have hb1 := HH.out.blks_ok
  have IC := Lib.hid (rIsCut_c S1.out.1 hnc fr dst)
  have HS1 := Lib.hid S1.out.1
  have HT1 := Lib.hid ((T0.mono (by simp) : Turn [m] w _).trans S1.out.2)
  have mlw := HH.out.blk.lt
  have BL2 := Lib.hid (S1.out.2.blk BL (by simp; omega))
  clear mlw
  by_cases hc : pairOf fr dst ∈ cutP cl
  · have hf : fate (cutP cl) r s tick fr dst xs = ([], s) := by unfold fate; rw [if_pos hc]
    rw [hf]
    rw [decide_eq_true hc] at IC
    clear hc
    go_wp2_with fail
    refine IC.out.mono ?_
    rintro e w2 ⟨rfl, hT2⟩
    have R2 := HS1.out.turn0 hT2
    have c9 := R2.blk.cell 9
    have f9 := R2.blk.frozen 9
    have ml2 := R2.blk.lt
    have NL := Lib.hid (R2.setLost (lost + 1))
    clear R2
    go_wp2_with fail
    go_loopw [18, 19] (fun kx ix wr => kx = .int .i64 0 ∧ ix = .int .i64 0 ∧ wr = w2) (fun _ _ _ => 0)
    case atStart => exact ⟨rfl, rfl, rfl⟩
    case round =>
      obtain ⟨rfl, rfl, rfl⟩ := hrel
      go_wp2_with fail
      go_ret
      exact ⟨[], by simp, rfl, A, ⟨cap, by simpa using NL.out.1⟩, fun i hi => .inl hi, by simp, (((HT1.out.trans (hT2.mono (by simp))).trans NL.out.2).mono (by simp))⟩
  · rw [decide_eq_false hc] at IC
    have HC := Lib.hid hc
    clear hc
    go_wp2_with fail
    refine IC.out.mono ?_
    rintro e w2 ⟨rfl, hT2⟩
    have R2 := Lib.hid (HS1.out.turn0 hT2)
    have HT2 := Lib.hid (HT1.out.trans (hT2.mono (by simp)))
    have HB2 := Lib.hid (hT2.blk BL2.out (by simp))
    clear hT2
    go_wp2_with fail
    refine (rBelow_c R2.out 100 (by omega) (by omega)).mono ?_
    rintro e w3 ⟨rfl, R3, hT3⟩
    have HR3 := Lib.hid R3
    have HT3 := Lib.hid (HT2.out.trans hT3)
    have HB3 := Lib.hid (hT3.blk HB2.out (by have := HH.out.blk.lt; simp; omega))
    clear R3 hT3
    go_wp2_with fail
    refine (rBelow_c HR3.out 100 (by omega) (by omega)).mono ?_
    rintro e w4 ⟨rfl, R4, hT4⟩
    have HR4 := Lib.hid R4
    have HT4 := Lib.hid (HT3.out.trans hT4)
    have HB4 := Lib.hid (hT4.blk HB3.out (by have := HH.out.blk.lt; simp; omega))
    clear R4 hT4
    go_wp2_with fail
    refine (rBelow_c HR4.out 100 (by omega) (by omega)).mono ?_
    rintro e w5 ⟨rfl, R5, hT5⟩
    have HR5 := Lib.hid R5
    have HT5 := Lib.hid (HT4.out.trans hT5)
    have HB5 := Lib.hid (hT5.blk HB4.out (by have := HH.out.blk.lt; simp; omega))
    have c1 := R5.blk.cell 1
    have c2 := R5.blk.cell 2
    have ml5 := R5.blk.lt
    clear R5 hT5
    generalize hd1 : dbelow 100 s = d1 at *
    generalize hd2 : dbelow 100 (dstep s) = d2 at *
    generalize hd3 : dbelow 100 (dstep (dstep s)) = d3 at *
    by_cases hlo : d1 < r.lose
    · have hf : Hid (fate (cutP cl) r s tick fr dst xs = ([], dstep (dstep (dstep s)))) := by
        show _ = _
        unfold fate
        rw [if_neg HC.out, if_pos (by rw [hd1]; exact hlo)]
      have g1 : ¬ r.lose ≤ d1 := by omega
      clear hlo hd1 hd2 hd3
      have c9 := HR5.out.blk.cell 9
      have f9 := HR5.out.blk.frozen 9
      have NL := Lib.hid (HR5.out.setLost (lost + 1))
      go_wp2_with fail
      go_loopw [9, 14] (fun x ix wr => x = .slice none 0 0 ∧ ix = .int .i64 0 ∧ wr = w5) (fun _ _ _ => 0)
      case atStart => exact ⟨rfl, rfl, rfl⟩
      case round =>
        obtain ⟨rfl, rfl, rfl⟩ := hrel
        go_wp2_with fail
        go_loopw [18, 19] (fun kx ix wz => kx = .int .i64 0 ∧ ix = .int .i64 0 ∧ wz = wr) (fun _ _ _ => 0)
        case atStart => exact ⟨rfl, rfl, rfl⟩
        case round =>
          obtain ⟨rfl, rfl, rfl⟩ := hrel
          go_wp2_with fail
          go_ret
          exact ⟨[], A, cap, by simp, by rw [hf.out]; simp, by rw [hf.out]; simpa using NL.out.1, fun i hi => .inl hi, by simp, ((HT5.out.trans NL.out.2).mono (by simp))⟩
    · have g1 : r.lose ≤ d1 := by omega
      have tmv : Hid (tmOf r s = if d2 < r.twice then 2 else 1) := by
        show _ = _
        unfold tmOf
        rw [hd2]
      by_cases htw : d2 < r.twice
      · have HTM := Lib.hid (tmv.out.trans (if_pos htw))
        go_upto_block 0 with fail
        have FT : Hid (fate (cutP cl) r s tick fr dst xs = if d3 < r.bend then (bendLast (lates r.late tick fr dst xs 2 (dstep (dstep (dstep s)))).1 (bendL xs (lates r.late tick fr dst xs 2 (dstep (dstep (dstep s)))).2), bendS xs (lates r.late tick fr dst xs 2 (dstep (dstep (dstep s)))).2) else lates r.late tick fr dst xs 2 (dstep (dstep (dstep s)))) := by
          show _ = _
          have hn1 : ¬ d1 < r.lose := by omega
          unfold fate
          simp only [if_neg HC.out, hd1, hd3, HTM.out, if_neg hn1]
        clear hd1 hd2 hd3 hlo g1 tmv HTM htw c1 c2 ml5
        generalize dstep (dstep (dstep s)) = s5 at *
        go_wp2_with fail
        go_loopw [9, 14, 15] (fun x ix _ wr => ∃ j : Nat, j ≤ 2 ∧ ix = .int .i64 ((j : Nat) : Int) ∧ ∃ O co fs, x = .slice O j co ∧ fs.length = j ∧ RFrIs wr w5.heap.size O co fs ∧ fs.map Ml.pure = (lates r.late tick fr dst xs j s5).1 ∧ RNetIs wr m (lates r.late tick fr dst xs j s5).2 r C nc kc cl A n cap ms B nb kb cs (sent + 1) lost told ∧ Turn [m] w5 wr) (fun _ ix _ _ => 2 - (intOf ix).toNat)
        case atStart => exact ⟨0, by omega, rfl, none, 0, [], rfl, rfl, RFrIs.nil _ _, rfl, HR5.out, Turn.refl _ _⟩
        case round =>
          obtain ⟨j, hj, rfl, O, co, fs, rfl, hfl, F, hpu, RN, TR⟩ := hrel
          obtain ⟨wz, rfl⟩ : ∃ wo : World, wo = wr := ⟨_, rfl⟩
          have j0 : (0 : Int) ≤ (j : Int) := Int.natCast_nonneg _
          have HF := Lib.hid F
          have HN := Lib.hid RN
          have HP := Lib.hid hpu
          have HFL := Lib.hid hfl
          have HST : Hid (lates r.late tick fr dst xs (j + 1) s5 = ((lates r.late tick fr dst xs j s5).1 ++ [(tick + 1 + dbelow r.late (lates r.late tick fr dst xs j s5).2, fr, dst, xs)], dstep (lates r.late tick fr dst xs j s5).2)) := by show _ = _; rfl
          have HTR := Lib.hid TR
          have hz := TR.size
          have hz5 := HT5.out.size
          have hmw := HH.out.blk.lt
          have BLz := TR.blk HB5.out (by simp; omega)
          have hrok := RN.rok
          unfold RlOk at hrok
          by_cases hlt : j < 2
          · have i1 : (j : Int) < 2 := by omega
            have c4 := RN.blk.cell 4
            have mlz := RN.blk.lt
            generalize (lates r.late tick fr dst xs j s5).2 = sj at *
            generalize (lates r.late tick fr dst xs j s5).1 = pj at *
            have hrg := dbelow_range (n := r.late) (s := sj) (by omega)
            clear F RN hpu TR
            go_wp2_with fail
            refine (rBelow_c HN.out r.late (by omega) (by omega)).mono ?_
            rintro e x1 ⟨rfl, R1, hT1⟩
            have BL1 := hT1.blk BLz (by simp; omega)
            have HBL1 := Lib.hid BL1
            have HR1 := Lib.hid R1
            have z1 := hT1.size
            have T51 := Lib.hid (HT5.out.trans (HTR.out.trans hT1))
            have HSL : Hid (Sl x1 D (u8s xs)) := hx.turnP T51.out (fun hne k hk => by
              have := hD (fun e => hne (by rw [e]; rfl)) k hk
              simp at this ⊢
              exact this.1)
            have hmO : m ∉ blks O := fun hm => by have := (HF.out.lt.1 m hm).2; omega
            have HROW : Hid (x1.ownsRow w5.heap.size 63 4 (.slice O j co) j (mcs fs)) := by
              have := own_turnA HF.out.row hT1 (fun k hk hm => by simp at hm; subst hm; exact hmO hk)
              rw [hfl] at this
              exact this
            have E1 := Lib.hid ((World.ownsRow_lit (base := x1.heap.size) (e := 5) (size := 1) x1 #[] 0 (Nat.le_refl _) (by simp) rfl).drew)
            have T1 : Turn [] x1 (x1.alloc (.cells #[] 5)).drew := ((Turn.refl [] x1).alloc _).drew
            have T1m : Turn (blks O) x1 (x1.alloc (.cells #[] 5)).drew := T1.mono (by simp)
            have SD1 := Lib.hid (HSL.out.turn0 T1)
            have HXL : (u8s xs).length = nd * 1 := by rw [u8s_len, hlen, Nat.mul_one]
            have HONE := Lib.hid (u8s_one xs)
            have sw : IntKind.i64.wrap (tick + 1) = tick + 1 := IntWalk.i64_in _ (by omega)
            have sv : IntKind.i64.wrap (tick + 1 + dbelow r.late sj) = tick + 1 + dbelow r.late sj := IntWalk.i64_in _ (by omega)
            have hOl := HF.out.lt.1
            have hlbl := HB5.out.lt
            have hlO : w.heap.size ∉ blks O := fun hm => by have := (hOl _ hm).2; omega
            have AE : ∀ wy, Turn (blks O) x1 wy → (wy.cell? ⟨w.heap.size, 0, none⟩ = some (.int .i64 dst) ∧ wy.cell? ⟨w.heap.size, 1, none⟩ = some (.slice D nd cd) ∧ Turn (blks O) x1 wy) := fun wy hy => by
              have B := hy.blk HBL1.out hlO
              exact ⟨B.cell 0, B.cell 1, hy⟩
            have l0 := BL1.cell 0
            have l1 := BL1.cell 1
            have ll := BL1.lt
            clear R1 c4 mlz BL1
            go_wp2_with fail
            go_region_held3 (fun w' => w'.cell? ⟨w.heap.size, 0, none⟩ = some (.int .i64 dst) ∧ w'.cell? ⟨w.heap.size, 1, none⟩ = some (.slice D nd cd) ∧ Turn (blks O) x1 w') (first | with_reducible exact AE _ T1m | with_reducible exact AE _ T12m | with_reducible exact AE _ (Turn.alloc T12m _) | with_reducible exact AE _ T14 | with_reducible exact AE _ (Turn.drew (Turn.refl _ _)) | with_reducible exact AE _ (Turn.alloc (Turn.refl _ _) _) | (trace_state; fail))
              (first
              | ((refine step_append_sl elemB (by rfl) _ _ (by rfl) _ 0 _ [] (by rfl) E1.out D nd cd (u8s xs) (by rfl) SD1.out HXL HONE.out (by omega) (by omega) (by simp; try omega) ?_); intro B2 c2 x2 own2 hg2 hlie2; rw [Nat.zero_add, List.nil_append] at own2; have T12 : Turn [] x1 x2 := T1.andThen (Turn.of_grown (S := [x1.heap.size]) hg2 (by simp)) (by simp); have T12m : Turn (blks O) x1 x2 := T12.mono (by simp); have z2 := T12.size; have HROW2 := Lib.hid (own_turnA HROW.out T12 (by simp)))
              | ((refine step_append_sl elemRM (by rfl) _ _ (by rfl) O j co (mcs fs) (by rfl) (HROW2.out.alloc _) _ 1 1 [.int .i64 (tick + 1 + dbelow r.late sj), .int .i64 fr, .int .i64 dst, .slice B2 nd c2] (by rfl) (Sl.new _ #[.int .i64 (tick + 1 + dbelow r.late sj), .int .i64 fr, .int .i64 dst, .slice B2 nd c2] _) (by simp) (by simp [Value.oneCell']) (by omega) (by omega) (by simp; omega) ?_); intro O4 co4 w4 own4 hg4 hlie4; have T14 : Turn (blks O) x1 w4 := (T12m.alloc _).trans (grown_turn hg4))
              | ((refine step_append_sl elemRM (by rfl) _ _ (by rfl) O j co (mcs fs) (by rfl) (HROW2.out.alloc _) _ 1 1 [.int .i64 (tick + 1 + dbelow r.late sj), .int .i64 fr, .int .i64 dst, .slice B2 (0 + nd) c2] (by rfl) (Sl.new _ #[.int .i64 (tick + 1 + dbelow r.late sj), .int .i64 fr, .int .i64 dst, .slice B2 (0 + nd) c2] _) (by simp) (by simp [Value.oneCell']) (by omega) (by omega) (by simp; omega) ?_); intro O4 co4 w4 own4 hg4 hlie4; have T14 : Turn (blks O) x1 w4 := (T12m.alloc _).trans (grown_turn hg4); rw [Nat.zero_add] at own4))
            go_wp2_with fail
            obtain ⟨F4, T4⟩ := HF.out.push (m := ⟨tick + 1 + dbelow r.late sj, fr, dst, B2, nd, c2, xs⟩) hT1 (by simp; omega) (by omega) own2 ⟨hnd, ⟨by have := hrg.1; show 0 ≤ tick + 1 + dbelow r.late sj; omega, by have := hrg.2; show tick + 1 + dbelow r.late sj ≤ 2147483648; omega⟩, hfr, hdst⟩ T12 ((Turn.refl [] x2).alloc _) (by rw [HFL.out, mcs_append]; exact own4) hg4 hlie4
            have RN4 := HR1.out.turn T14 hmO (fun k hk hm => by have h1 := hb1 k hk; have h2 := (hOl k hm).2; omega) (fun y hy k hk hm => by have h1 := (HR5.out.bytes y hy).ok.lt k hk; have h2 := (hOl k hm).2; omega)
            have T54 : Turn [m] w5 w4 := HTR.out.andThen T4 (fun k hk => by
              simp at hk
              rcases hk with hk | hk
              · simp [hk]
              · exact .inr (hOl k hk).2)
            go_roundw
            case rel => exact ⟨j + 1, by omega, by go_num, O4, co4, fs ++ [⟨tick + 1 + dbelow r.late sj, fr, dst, B2, nd, c2, xs⟩], rfl, by simp [HFL.out], F4, by rw [HST.out, List.map_append, HP.out]; rfl, by rw [HST.out]; exact RN4, T54⟩
            case measure => simp [intOf]; omega
          · obtain rfl : j = 2 := by omega
            have i1 : ¬ ((2 : Nat) : Int) < 2 := by omega
            obtain ⟨l, mm, rfl, hll, hmx, hml, hmp, hlt2⟩ : ∃ l mm, fs = l ++ [mm] ∧ l.length = 1 ∧ mm.xs = xs ∧ l.map Ml.pure = (lates r.late tick fr dst xs 1 s5).1 ∧ mm.pure = (mm.due, fr, dst, xs) ∧ (lates r.late tick fr dst xs 2 s5).1 = (lates r.late tick fr dst xs 1 s5).1 ++ [mm.pure] := by
              have hpu' : fs.map Ml.pure = (lates r.late tick fr dst xs 1 s5).1 ++ [(tick + 1 + dbelow r.late (lates r.late tick fr dst xs 1 s5).2, fr, dst, xs)] := hpu
              obtain ⟨l, l2, rfl, h1, h2⟩ := List.map_eq_append_iff.1 hpu'
              obtain ⟨mm, rfl, h3⟩ := List.map_eq_singleton_iff.1 h2
              refine ⟨l, mm, rfl, by simpa using hfl, ?_, h1, ?_, ?_⟩
              · exact congrArg (fun p : PMl => p.2.2.2) h3
              · unfold Ml.pure at h3 ⊢
                injection h3 with e1 e2
                rw [e2]
              · rw [h3]; rfl
            subst hmx
            obtain ⟨go, rfl, hgo, hc3⟩ := HF.out.last rfl
            have HLT := Lib.hid hlt2
            have HMP := Lib.hid hmp
            have HML := Lib.hid hml
            have OM := Lib.hid ((HF.out.own mm (by simp)).1)
            have omn := (HF.out.own mm (by simp)).2.1
            have omx : mm.xs.length = mm.n := (HF.out.ok (m := mm) (by simp)).1.len
            obtain rfl : nd = mm.n := by omega
            rw [hll] at hc3
            generalize hsj : (lates r.late tick fr dst mm.xs 2 s5).2 = sj at *
            have HSJ := Lib.hid hsj
            clear hsj hlt2 hmp hpu hml HST F RN
            have b3 := HN.out.blk.cell 3
            have mlz := HN.out.blk.lt
            have l1 := BLz.cell 1
            have ll := BLz.lt
            go_upto_region 15 with fail
            go_cut [96] (fun x wc => ∃ b : Bool, x = .bool b ∧ (b = true ↔ d3 < r.bend ∧ 0 < mm.n) ∧ wc = wz)
            case first =>
              have n0 : (0 : Int) ≤ (mm.n : Int) := Int.natCast_nonneg _
              by_cases hb : d3 < r.bend
              · by_cases hn0 : 0 < mm.n
                · have n1 : (0 : Int) < (mm.n : Int) := by omega
                  go_wp2_with fail
                  go_meet
                  exact ⟨true, rfl, by simp; omega, rfl⟩
                · have n1 : ¬ (0 : Int) < (mm.n : Int) := by omega
                  go_wp2_with fail
                  go_meet
                  exact ⟨false, rfl, (by constructor <;> intro h <;> first | (cases h; done) | omega), rfl⟩
              · go_wp2_with fail
                go_meet
                exact ⟨false, rfl, (by constructor <;> intro h <;> first | (cases h; done) | omega), rfl⟩
            case rest =>
              obtain ⟨b, rfl, hbb, hwc⟩ := hcut
              obtain rfl : wz = wc := hwc.symm
              clear b3 l1 ll mlz
              go_upto_if 96 with fail
              go_cut [16, 17] (fun _ _ wc => ∃ ys, RFrIs wc w5.heap.size (some ⟨go, 0, none⟩) co (l ++ [Ml.mk mm.due mm.fr mm.dst mm.A mm.n mm.c ys]) ∧ (l ++ [Ml.mk mm.due mm.fr mm.dst mm.A mm.n mm.c ys]).map Ml.pure = (fate (cutP cl) r s tick fr dst mm.xs).1 ∧ RNetIs wc m (fate (cutP cl) r s tick fr dst mm.xs).2 r C nc kc cl A n cap ms B nb kb cs (sent + 1) lost told ∧ Turn [m] w5 wc)
              case first =>
                cases b with
                | false =>
                  have HBB := Lib.hid hbb
                  clear hbb
                  go_wp2_with fail
                  go_meet
                  have hh : fate (cutP cl) r s tick fr dst mm.xs = ((l ++ [mm]).map Ml.pure, sj) := by
                    rw [FT.out, HLT.out]
                    have e1 : (lates r.late tick fr dst mm.xs 2 s5) = ((lates r.late tick fr dst mm.xs 1 s5).1 ++ [mm.pure], sj) := by rw [← HLT.out, ← HSJ.out]
                    by_cases hb : d3 < r.bend
                    · have h0 : mm.xs = [] := List.eq_nil_of_length_eq_zero (by
                        have : ¬ 0 < mm.n := fun h => (by have h9 := HBB.out.2 ⟨hb, h⟩; cases h9)
                        omega)
                      rw [if_pos hb, bendLast_snoc, List.map_append, HML.out]
                      have e2 : bendL mm.xs sj = mm.xs := by unfold bendL; rw [if_pos h0, h0]
                      have e3 : bendS mm.xs sj = sj := by unfold bendS; rw [if_pos h0]
                      rw [e2, e3]
                      rfl
                    · rw [if_neg hb, e1, List.map_append, HML.out]
                      rfl
                  rw [hh]
                  exact ⟨mm.xs, HF.out, rfl, HN.out, HTR.out⟩
                | true =>
                  obtain ⟨hb1', hn0⟩ := hbb.1 rfl
                  clear hbb
                  have n0 : (0 : Int) ≤ (mm.n : Int) := Int.natCast_nonneg _
                  have hmA := HF.out.lt.2 mm (by simp)
                  have hr := dbelow_range (s := sj) (n := (mm.n : Int)) (by omega)
                  have hr2 := dbelow_range (s := dstep sj) (n := 255) (by omega)
                  obtain ⟨gb, hA⟩ : ∃ gb, mm.A = some ⟨gb, 0, none⟩ := by
                    rcases OM.out.2 with h1 | ⟨gb, cap', cur, hv, -⟩
                    · have := h1.2
                      omega
                    · injection hv with h1
                      exact ⟨gb, h1⟩
                  obtain ⟨k, hk⟩ : ∃ k : Nat, dbelow (mm.n : Int) sj = (k : Int) := Int.eq_ofNat_of_zero_le hr.1
                  have hkn : k < mm.n := by omega
                  have hko : k < mm.xs.length := by omega
                  have hne : mm.xs ≠ [] := fun e => by rw [e] at omx; simp at omx; omega
                  have HX := Lib.hid (show bendL mm.xs sj = mm.xs.set k (bentB mm.xs[k] (dbelow 255 (dstep sj))) by
                    unfold bendL
                    rw [if_neg hne, omx, hk]
                    simp [List.getElem?_eq_getElem hko])
                  have HS := Lib.hid (show bendS mm.xs sj = dstep (dstep sj) by unfold bendS; rw [if_neg hne])
                  have BE1 := Lib.hid (rBelow_c HN.out (mm.n : Int) (by omega) (by omega))
                  rw [hk] at BE1
                  have l1 := BLz.cell 1
                  have ll := BLz.lt
                  have mlz := HN.out.blk.lt
                  go_wp2_with fail
                  refine BE1.out.mono ?_
                  rintro e w6 ⟨rfl, R6, hT6⟩
                  have BE2 := Lib.hid (rBelow_c R6 255 (by omega) (by omega))
                  have HT6 := Lib.hid hT6
                  clear R6 hT6 l1 ll mlz
                  go_wp2_with fail
                  refine BE2.out.mono ?_
                  rintro e w7 ⟨rfl, R7, hT7⟩
                  have T7 := Lib.hid (HT6.out.trans hT7)
                  have HR7 := Lib.hid R7
                  have c3 := (T7.out.cell hgo (by simp; have := (HF.out.lt.1 go (by simp [blks])).2; omega)).trans hc3
                  have go7 := Nat.lt_of_lt_of_le hgo T7.out.size
                  have O7 := Lib.hid (own_turnA OM.out T7.out (fun j hj hm => by have := (hmA j hj).2; simp at hm; omega))
                  rw [hA] at c3 O7
                  have gb7 := (own_ltA O7.out gb (by simp [blks])).1
                  obtain ⟨b', off', hA', -, k7⟩ := u8s_at (Sl.of_own O7.out) hko
                  cases hA'
                  rw [Nat.zero_add] at k7
                  have f7 : w7.frozen? ⟨gb, k, none⟩ = false := by
                    obtain ⟨cur, hg', -⟩ := own_heap O7.out
                    exact (show Blk _ gb _ cur from hg').frozen k
                  have k0 : (0 : Int) ≤ (k : Int) := Int.natCast_nonneg _
                  have k2 : (k : Int) < (mm.n : Int) := by omega
                  unfold bentB at HX
                  have cw : IntKind.i64.wrap (dbelow 255 (dstep sj) + 1) = 1 + dbelow 255 (dstep sj) := by rw [Int.add_comm]; exact bent_i _ hr2.1 hr2.2
                  have cu := bent_u _ hr2.1 hr2.2
                  generalize dbelow 255 (dstep sj) = v at *
                  have c3' : w7.cell? ⟨go, 7, none⟩ = some (.slice (some ⟨gb, 0, none⟩) mm.n mm.c) := c3
                  have gogb : go ≠ gb := fun e => (HF.out.offO mm (by simp) gb (by rw [hA]; simp [blks])) (by rw [← e]; simp [blks])
                  have KP : ∀ wy, Turn [gb] w7 wy → (wy.cell? ⟨go, 7, none⟩ = some (.slice (some ⟨gb, 0, none⟩) mm.n mm.c) ∧ Turn [gb] w7 wy) := fun wy hy => ⟨(hy.cell go7 (by simpa using gogb)).trans c3', hy⟩
                  clear R7 hT7 hk hr c3
                  go_wp2_with fail
                  refine wp_region_still_tail 21 (by kernel_rfl) (by kernel_rfl) ?_
                  have TD : Turn [] w7 { w7 with drawn := w7.drawn + 1 } := (Turn.refl [] w7).drew
                  have c3d : World.cell? { w7 with drawn := w7.drawn + 1 } ⟨go, 7, none⟩ = some (.slice (some ⟨gb, 0, none⟩) mm.n mm.c) := c3'
                  have k7d : World.cell? { w7 with drawn := w7.drawn + 1 } ⟨gb, k, none⟩ = some (.int .u8 mm.xs[k]) := k7
                  have f7d : World.frozen? { w7 with drawn := w7.drawn + 1 } ⟨gb, k, none⟩ = false := f7
                  have go7d : go < ({ w7 with drawn := w7.drawn + 1 } : World).heap.size := go7
                  have gb7d : gb < ({ w7 with drawn := w7.drawn + 1 } : World).heap.size := gb7
                  have HTD := Lib.hid (And.intro TD (And.intro (own_turnA O7.out TD (by simp)) (HR7.out.turn0 TD)))
                  clear c3' k7 f7 TD
                  generalize ({ w7 with drawn := w7.drawn + 1 } : World) = w8 at *
                  simp only [List.take_succ_cons, List.take_zero, List.drop_succ_cons, List.drop_zero]
                  have sb1 : IntKind.i64.wrap (2 - 1) = 1 := by decide
                  have sb2 : IntKind.i64.wrap 1 = 1 := by decide
                  still_step
                  still_step
                  still_step
                  still_step
                  repeat still_step
                  refine wpStill_nil ?_
                  go_wp2_with fail
                  go_meet
                  obtain ⟨TD, O8, R8⟩ := HTD.out
                  have o9 := own_set O8 k (by omega) (.int .u8 (bits BinOp.xor IntKind.u8 mm.xs[k] (1 + v)))
                  have o9' : (w8.setCell ⟨gb, k, none⟩ (.int .u8 (bits BinOp.xor IntKind.u8 mm.xs[k] (1 + v)))).ownsRow w5.heap.size 5 1 (.slice mm.A mm.n mm.c) mm.n (u8s (bendL mm.xs sj)) := by
                    rw [HX.out, hA]
                    simpa [u8s, List.map_set] using o9
                  have T89 : Turn [gb] w8 (w8.setCell ⟨gb, k, none⟩ (.int .u8 (bits BinOp.xor IntKind.u8 mm.xs[k] (1 + v)))) := (Turn.refl [gb] w8).setCell (.inl (by simp)) _
                  have TZ9 : Turn (m :: blks mm.A) wz (w8.setCell ⟨gb, k, none⟩ (.int .u8 (bits BinOp.xor IntKind.u8 mm.xs[k] (1 + v)))) := ((T7.out.mono (by simp)).trans (TD.mono (by simp))).trans (T89.mono (by rw [hA]; simp [blks]))
                  have hgm := hmA gb (by rw [hA]; simp [blks])
                  have R9 := R8.turn T89 (by simp; omega) (fun j hj hm => by have h1 := hb1 j hj; simp at hm; omega) (fun y hy j hj hm => by have h1 := (HR5.out.bytes y hy).ok.lt j hj; simp at hm; omega)
                  have hh : fate (cutP cl) r s tick fr dst mm.xs = ((l ++ [Ml.mk mm.due mm.fr mm.dst mm.A mm.n mm.c (bendL mm.xs sj)]).map Ml.pure, dstep (dstep sj)) := by
                    rw [FT.out, HLT.out, if_pos hb1', bendLast_snoc, List.map_append, HML.out, HS.out]
                    rfl
                  rw [hh]
                  exact ⟨bendL mm.xs sj, HF.out.bent (by omega) TZ9 o9' (Nat.le_refl _), rfl, R9, HTR.out.andThen TZ9 (fun j hj => by
                    rw [List.mem_cons] at hj
                    rcases hj with hj | hj
                    · simp [hj]
                    · exact .inr (hmA j hj).2)⟩
              case rest =>
                obtain ⟨ys, F2, hpu2, RN2, TR2⟩ := hcut
                obtain ⟨wq, rfl⟩ : ∃ wq : World, wq = wc := ⟨_, rfl⟩
                have hfl2 : (l ++ [Ml.mk mm.due mm.fr mm.dst mm.A mm.n mm.c ys]).length = 2 := by simp [hll]
                generalize l ++ [Ml.mk mm.due mm.fr mm.dst mm.A mm.n mm.c ys] = gs at *
                generalize hsf : (fate (cutP cl) r s tick fr dst mm.xs).2 = sf at *
                generalize hpf : (fate (cutP cl) r s tick fr dst mm.xs).1 = pf at *
                have HSF := Lib.hid (And.intro hpf hsf)
                clear hsf hpf
                have HF2 := Lib.hid F2
                have HRN2 := Lib.hid RN2
                have HTR2 := Lib.hid TR2
                have HPU2 := Lib.hid hpu2
                have hq := TR2.size
                have hFl := F2.lt
                clear F2 RN2 TR2 hpu2 hbb hwc hc3 hgo hmw
                go_wp2_with fail
                go_loopw [18, 19] (fun kx ix wi => ∃ i : Nat, i ≤ 2 ∧ ix = .int .i64 ((i : Nat) : Int) ∧ kx = .int .i64 ((min i (2048 - n) : Nat) : Int) ∧ ∃ A' cap', RNetIs wi m sf r C nc kc cl A' (n + min i (2048 - n)) cap' (ms ++ gs.take (min i (2048 - n))) B nb kb cs (sent + 1) lost told ∧ (∀ j ∈ blks A', j ∈ blks A ∨ wq.heap.size ≤ j) ∧ Turn (m :: blks A) wq wi) (fun _ ix _ => 2 - (intOf ix).toNat)
                case atStart => exact ⟨0, by omega, rfl, by simp, A, cap, by simpa using HRN2.out, fun j hj => .inl hj, Turn.refl _ _⟩
                case round =>
                  obtain ⟨i, hi, rfl, rfl, A', cap', RI, hA', TI⟩ := hrel
                  obtain ⟨wy, rfl⟩ : ∃ wo : World, wo = wr := ⟨_, rfl⟩
                  have q0 : (0 : Int) ≤ (i : Int) := Int.natCast_nonneg _
                  have HRI := Lib.hid RI
                  have HTI := Lib.hid TI
                  have HA' := Lib.hid hA'
                  have c6 := RI.blk.cell 6
                  have mly := RI.blk.lt
                  have hzi := TI.size
                  by_cases hlt : i < 2
                  · have q1 : (i : Int) < 2 := by omega
                    have hig : i < gs.length := by omega
                    have FY := HF2.out.turn TI (fun j hj => by
                      rw [List.mem_cons] at hj
                      rcases hj with hj | hj
                      · have := HH.out.blk.lt; omega
                      · have := (hb1 j (by simp [hj])).1; omega)
                    obtain ⟨xb, xo, hO, xbl, y0, y1, y2, y3⟩ := mcs_at (Sl.of_own FY.row) hig
                    have hgo2 : go = xb ∧ 0 = xo := by
                      injection hO with h1
                      injection h1 with h2 h3
                      exact ⟨h2, h3⟩
                    obtain ⟨rfl, rfl⟩ := hgo2
                    have HFY := Lib.hid FY
                    have hmem := List.getElem_mem hig
                    have XOK := Lib.hid (FY.ok hmem)
                    have XLT := Lib.hid (hFl.2 _ hmem)
                    have HTK := Lib.hid (show gs.take (i + 1) = gs.take i ++ [gs[i]] from List.take_succ_eq_append_getElem hig)
                    obtain ⟨x, hxx⟩ : ∃ x, x = gs[i] := ⟨_, rfl⟩
                    rw [← hxx] at y0 y1 y2 y3 XOK XLT HTK
                    clear FY hmem hO hxx
                    by_cases hroom : i < 2048 - n
                    · have e0 : min i (2048 - n) = i := by omega
                      have e1 : min (i + 1) (2048 - n) = i + 1 := by omega
                      have HE1 := Lib.hid e1
                      rw [e0] at RI HRI c6
                      obtain ⟨p, hp⟩ : ∃ p, p = n + i := ⟨_, rfl⟩
                      have HP2 := Lib.hid hp
                      rw [← hp] at RI HRI c6
                      have r1 : (p : Int) < 2048 := by omega
                      have r0 : (0 : Int) ≤ (p : Int) := Int.natCast_nonneg _
                      obtain ⟨bA, gA, oA⟩ := RI.mails
                      have hmA2 : m ∉ blks A' := fun hm => (RI.blks_ok m (by simp [hm])).2 rfl
                      have HO := Lib.hid (own_down oA (show m + 1 ≤ bA by omega))
                      obtain ⟨dx, fx, tx, xA, xn, xc, xxs⟩ := x
                      simp only at y0 y1 y2 y3 XOK XLT HTK
                      clear oA RI hA' TI hp e1
                      go_upto_region 21 with fail
                      rw [e0]
                      clear e0
                      go_wp2_with fail
                      rw [Nat.zero_add] at y0 y1 y2 y3
                      have post : ∀ (w8 w2' : World), Turn [] wy w8 → Turn (blks A') w8 w2' → (Blk w2' m 54 #[.int .u64 sf, .int .i64 r.lose, .int .i64 r.twice, .int .i64 r.bend, .int .i64 r.late, .slice C nc kc, .slice A' p cap', .slice B nb kb, .int .i64 (sent + 1), .int .i64 lost, .int .i64 told] ∧ Turn (blks A') wy w2') := fun w8 w2' h8 h12 => by
                        have T := (h8.mono (by simp)).trans h12
                        exact ⟨T.blk HRI.out.blk hmA2, T⟩
                      have HPOST := Lib.hid post
                      clear post
                      have TA1 := Lib.hid (((Turn.refl [] wy).drew).alloc (.cells #[.int .i64 dx, .int .i64 fx, .int .i64 tx, .slice xA xn xc] 63))
                      have TA2 := Lib.hid (((Turn.refl [] wy).alloc (.cells #[.int .i64 dx, .int .i64 fx, .int .i64 tx, .slice xA xn xc] 63)).drew)
                      go_region_law (first
                        | (refine step_append_sl elemRM (by rfl) _ _ (by rfl) A' p cap' _ (by rfl) ((HO.out.drew).alloc _) _ 1 1 [.int .i64 dx, .int .i64 fx, .int .i64 tx, .slice xA xn xc] (by rfl) (Sl.new _ #[.int .i64 dx, .int .i64 fx, .int .i64 tx, .slice xA xn xc] _) (by simp) (by simp [Value.oneCell']) (by omega) (by omega) (by simp; omega) ?_; intro A2 cap2 w2' own2 hg2 hlie2; obtain ⟨B2, T12⟩ := HPOST.out _ w2' TA1.out (grown_turn hg2); have c62 := B2.cell 6; have f62 := B2.frozen 6; have ml2 := B2.lt)
                        | (refine step_append_sl elemRM (by rfl) _ _ (by rfl) A' p cap' _ (by rfl) ((HO.out.alloc _).drew) _ 1 1 [.int .i64 dx, .int .i64 fx, .int .i64 tx, .slice xA xn xc] (by rfl) ((Sl.new wy #[.int .i64 dx, .int .i64 fx, .int .i64 tx, .slice xA xn xc] _).turn0 ((Turn.refl [] _).drew)) (by simp) (by simp [Value.oneCell']) (by omega) (by omega) (by simp; omega) ?_; intro A2 cap2 w2' own2 hg2 hlie2; obtain ⟨B2, T12⟩ := HPOST.out _ w2' TA2.out (grown_turn hg2); have c62 := B2.cell 6; have f62 := B2.frozen 6; have ml2 := B2.lt))
                      all_goals
                        go_wp2_with fail
                        have hA2 : ∀ j ∈ blks A2, j ∈ blks A' ∨ wy.heap.size ≤ j := fun j hj => by
                          rcases lies_blks hlie2 j hj with h1 | h1
                          · exact .inl h1
                          · exact .inr (by simp at h1; omega)
                        have xoff : ∀ j ∈ blks xA, j ∉ blks A' := fun j hj hm => by
                          have h1 := (XLT.out j hj).1
                          have h2 := (XLT.out j hj).2
                          rcases HA'.out j hm with h3 | h3
                          · have := (hb1 j (by simp [h3])).1; omega
                          · omega
                        have e2 : mcs (ms ++ gs.take i) ++ [Value.int .i64 dx, Value.int .i64 fx, Value.int .i64 tx, Value.slice xA xn xc] = mcs ((ms ++ gs.take i) ++ [⟨dx, fx, tx, xA, xn, xc, xxs⟩]) := by rw [mcs_append (ms ++ gs.take i)]; rfl
                        rw [e2] at own2
                        have hml5 := HH.out.blk.lt
                        have NR := HRI.out.newA T12 own2 (by omega) hA2 (fun y hy => by
                          rcases List.mem_append.1 hy with hy | hy
                          · exact .inl hy
                          · rw [List.mem_singleton] at hy
                            subst hy
                            refine .inr (.inr (RMl.of (XOK.out.1.turn T12 xoff) (fun j hj hm => ?_)))
                            have h1 := (XLT.out j hj).1
                            have h2 := (XLT.out j hj).2
                            simp only [List.mem_cons, List.mem_append] at hm
                            rcases hm with hm | hm | hm | hm
                            · omega
                            · rcases hA2 j hm with h3 | h3
                              · exact xoff j hj h3
                              · omega
                            · have := (hb1 j (by simp [hm])).1; omega
                            · have := (hb1 j (by simp [hm])).1; omega)
                        refine ⟨⟨i + 1, by omega, by go_num, by rw [HE1.out]; go_num, A2, cap2, ?_, fun j hj => ?_, HTI.out.andThen NR.2 (fun j hj => ?_)⟩, by simp [intOf]; omega⟩
                        · rw [HE1.out, HTK.out, ← List.append_assoc, show n + (i + 1) = p + 1 by have := HP2.out; omega]
                          exact NR.1
                        · rcases hA2 j hj with h3 | h3
                          · exact HA'.out j h3
                          · exact .inr (by omega)
                        · rw [List.mem_cons] at hj
                          rcases hj with hj | hj
                          · exact .inl (by simp [hj])
                          · rcases HA'.out j hj with h3 | h3
                            · exact .inl (by simp [h3])
                            · exact .inr h3
                    · have e0 : n + min i (2048 - n) = 2048 := by omega
                      have e1 : min (i + 1) (2048 - n) = min i (2048 - n) := by omega
                      have HE1 := Lib.hid e1
                      rw [e0] at c6
                      have q9 : ((min i (2048 - n) : Nat) : Int) ≤ 2 := by omega
                      clear RI hA' TI e0 e1
                      generalize min i (2048 - n) = p at *
                      go_wp2_with fail
                      go_roundw
                      case rel => exact ⟨i + 1, by omega, by go_num, by rw [HE1.out], A', cap', by rw [HE1.out]; exact HRI.out, HA'.out, HTI.out⟩
                      case measure => simp [intOf]; omega
                  · obtain rfl : i = 2 := by omega
                    have q1 : ¬ ((2 : Nat) : Int) < 2 := by omega
                    have hgl : (gs.take (min 2 (2048 - n))).length = min 2 (2048 - n) := by rw [List.length_take]; omega
                    have hgp : (gs.take (min 2 (2048 - n))).map Ml.pure = pf.take (2048 - n) := by
                      rw [← HPU2.out, ← List.map_take]
                      congr 1
                      rw [List.take_eq_take_iff]
                      omega
                    have hgn : ∀ x ∈ gs.take (min 2 (2048 - n)), ∀ j ∈ blks x.A, w.heap.size ≤ j := fun x hx j hj => by
                      have := (hFl.2 x (List.mem_of_mem_take hx) j hj).2
                      omega
                    have TF : Turn (m :: blks A) w wy := ((HT5.out.trans HTR2.out).mono (by simp)).trans TI
                    have hbF : ∀ j ∈ blks A', j ∈ blks A ∨ w.heap.size ≤ j := fun j hj => by
                      rcases hA' j hj with h1 | h1
                      · exact .inl h1
                      · exact .inr (by omega)
                    have HG := Lib.hid (And.intro hgl (And.intro hgp (And.intro hgn (And.intro TF hbF))))
                    clear hgl hgp hgn TF hbF RI hA' TI hFl
                    by_cases hk0 : min 2 (2048 - n) = 0
                    · have RL := Lib.hid (HRI.out.setLost (lost + 1))
                      have c9 := HRI.out.blk.cell 9
                      have f9 := HRI.out.blk.frozen 9
                      have hg0 : gs.take (min 2 (2048 - n)) = [] := by rw [hk0]; rfl
                      rw [hg0] at HG RL
                      go_upto_region 26 with fail
                      rw [hk0] at RL HG ⊢
                      clear hk0
                      go_wp2_with fail
                      go_ret
                      obtain ⟨hgl, hgp, hgn, TF, hbF⟩ := HG.out
                      exact ⟨[], by simp, by rw [HSF.out.1]; exact hgp, A', ⟨cap', by rw [HSF.out.2]; simpa using RL.out.1⟩, hbF, by simp, TF.trans (RL.out.2.mono (by simp))⟩
                    · have hg0 : ¬ gs.take (min 2 (2048 - n)) = [] := fun e => by have := HG.out.1; rw [e] at this; simp at this; omega
                      have hk1 : (((min 2 (2048 - n) : Nat) : Int) == 0) = false := by simp; omega
                      have HK := Lib.hid hg0
                      obtain ⟨p, hp⟩ : ∃ p, p = min 2 (2048 - n) := ⟨_, rfl⟩
                      rw [← hp] at HG HK hk1 HRI
                      go_upto_region 26 with fail
                      rw [← hp]
                      clear hk0 hg0 hp
                      go_wp2_with fail
                      go_ret
                      obtain ⟨hgl, hgp, hgn, TF, hbF⟩ := HG.out
                      exact ⟨gs.take p, by rw [hgl]; simp, by rw [HSF.out.1]; exact hgp, A', ⟨cap', by rw [HSF.out.2, hgl, if_neg HK.out, Int.add_zero]; exact HRI.out⟩, hbF, hgn, TF⟩
      · have HTM := Lib.hid (tmv.out.trans (if_neg htw))
        go_upto_block 0 with fail
        have FT : Hid (fate (cutP cl) r s tick fr dst xs = if d3 < r.bend then (bendLast (lates r.late tick fr dst xs 1 (dstep (dstep (dstep s)))).1 (bendL xs (lates r.late tick fr dst xs 1 (dstep (dstep (dstep s)))).2), bendS xs (lates r.late tick fr dst xs 1 (dstep (dstep (dstep s)))).2) else lates r.late tick fr dst xs 1 (dstep (dstep (dstep s)))) := by
          show _ = _
          have hn1 : ¬ d1 < r.lose := by omega
          unfold fate
          simp only [if_neg HC.out, hd1, hd3, HTM.out, if_neg hn1]
        clear hd1 hd2 hd3 hlo g1 tmv HTM htw c1 c2 ml5
        generalize dstep (dstep (dstep s)) = s5 at *
        go_wp2_with fail
        go_loopw [9, 14, 15] (fun x ix _ wr => ∃ j : Nat, j ≤ 1 ∧ ix = .int .i64 ((j : Nat) : Int) ∧ ∃ O co fs, x = .slice O j co ∧ fs.length = j ∧ RFrIs wr w5.heap.size O co fs ∧ fs.map Ml.pure = (lates r.late tick fr dst xs j s5).1 ∧ RNetIs wr m (lates r.late tick fr dst xs j s5).2 r C nc kc cl A n cap ms B nb kb cs (sent + 1) lost told ∧ Turn [m] w5 wr) (fun _ ix _ _ => 1 - (intOf ix).toNat)
        case atStart => exact ⟨0, by omega, rfl, none, 0, [], rfl, rfl, RFrIs.nil _ _, rfl, HR5.out, Turn.refl _ _⟩
        case round =>
          obtain ⟨j, hj, rfl, O, co, fs, rfl, hfl, F, hpu, RN, TR⟩ := hrel
          obtain ⟨wz, rfl⟩ : ∃ wo : World, wo = wr := ⟨_, rfl⟩
          have j0 : (0 : Int) ≤ (j : Int) := Int.natCast_nonneg _
          have HF := Lib.hid F
          have HN := Lib.hid RN
          have HP := Lib.hid hpu
          have HFL := Lib.hid hfl
          have HST : Hid (lates r.late tick fr dst xs (j + 1) s5 = ((lates r.late tick fr dst xs j s5).1 ++ [(tick + 1 + dbelow r.late (lates r.late tick fr dst xs j s5).2, fr, dst, xs)], dstep (lates r.late tick fr dst xs j s5).2)) := by show _ = _; rfl
          have HTR := Lib.hid TR
          have hz := TR.size
          have hz5 := HT5.out.size
          have hmw := HH.out.blk.lt
          have BLz := TR.blk HB5.out (by simp; omega)
          have hrok := RN.rok
          unfold RlOk at hrok
          by_cases hlt : j < 1
          · have i1 : (j : Int) < 1 := by omega
            have c4 := RN.blk.cell 4
            have mlz := RN.blk.lt
            generalize (lates r.late tick fr dst xs j s5).2 = sj at *
            generalize (lates r.late tick fr dst xs j s5).1 = pj at *
            have hrg := dbelow_range (n := r.late) (s := sj) (by omega)
            clear F RN hpu TR
            go_wp2_with fail
            refine (rBelow_c HN.out r.late (by omega) (by omega)).mono ?_
            rintro e x1 ⟨rfl, R1, hT1⟩
            have BL1 := hT1.blk BLz (by simp; omega)
            have HBL1 := Lib.hid BL1
            have HR1 := Lib.hid R1
            have z1 := hT1.size
            have T51 := Lib.hid (HT5.out.trans (HTR.out.trans hT1))
            have HSL : Hid (Sl x1 D (u8s xs)) := hx.turnP T51.out (fun hne k hk => by
              have := hD (fun e => hne (by rw [e]; rfl)) k hk
              simp at this ⊢
              exact this.1)
            have hmO : m ∉ blks O := fun hm => by have := (HF.out.lt.1 m hm).2; omega
            have HROW : Hid (x1.ownsRow w5.heap.size 63 4 (.slice O j co) j (mcs fs)) := by
              have := own_turnA HF.out.row hT1 (fun k hk hm => by simp at hm; subst hm; exact hmO hk)
              rw [hfl] at this
              exact this
            have E1 := Lib.hid ((World.ownsRow_lit (base := x1.heap.size) (e := 5) (size := 1) x1 #[] 0 (Nat.le_refl _) (by simp) rfl).drew)
            have T1 : Turn [] x1 (x1.alloc (.cells #[] 5)).drew := ((Turn.refl [] x1).alloc _).drew
            have T1m : Turn (blks O) x1 (x1.alloc (.cells #[] 5)).drew := T1.mono (by simp)
            have SD1 := Lib.hid (HSL.out.turn0 T1)
            have HXL : (u8s xs).length = nd * 1 := by rw [u8s_len, hlen, Nat.mul_one]
            have HONE := Lib.hid (u8s_one xs)
            have sw : IntKind.i64.wrap (tick + 1) = tick + 1 := IntWalk.i64_in _ (by omega)
            have sv : IntKind.i64.wrap (tick + 1 + dbelow r.late sj) = tick + 1 + dbelow r.late sj := IntWalk.i64_in _ (by omega)
            have hOl := HF.out.lt.1
            have hlbl := HB5.out.lt
            have hlO : w.heap.size ∉ blks O := fun hm => by have := (hOl _ hm).2; omega
            have AE : ∀ wy, Turn (blks O) x1 wy → (wy.cell? ⟨w.heap.size, 0, none⟩ = some (.int .i64 dst) ∧ wy.cell? ⟨w.heap.size, 1, none⟩ = some (.slice D nd cd) ∧ Turn (blks O) x1 wy) := fun wy hy => by
              have B := hy.blk HBL1.out hlO
              exact ⟨B.cell 0, B.cell 1, hy⟩
            have l0 := BL1.cell 0
            have l1 := BL1.cell 1
            have ll := BL1.lt
            clear R1 c4 mlz BL1
            go_wp2_with fail
            go_region_held3 (fun w' => w'.cell? ⟨w.heap.size, 0, none⟩ = some (.int .i64 dst) ∧ w'.cell? ⟨w.heap.size, 1, none⟩ = some (.slice D nd cd) ∧ Turn (blks O) x1 w') (first | with_reducible exact AE _ T1m | with_reducible exact AE _ T12m | with_reducible exact AE _ (Turn.alloc T12m _) | with_reducible exact AE _ T14 | with_reducible exact AE _ (Turn.drew (Turn.refl _ _)) | with_reducible exact AE _ (Turn.alloc (Turn.refl _ _) _) | (trace_state; fail))
              (first
              | ((refine step_append_sl elemB (by rfl) _ _ (by rfl) _ 0 _ [] (by rfl) E1.out D nd cd (u8s xs) (by rfl) SD1.out HXL HONE.out (by omega) (by omega) (by simp; try omega) ?_); intro B2 c2 x2 own2 hg2 hlie2; rw [Nat.zero_add, List.nil_append] at own2; have T12 : Turn [] x1 x2 := T1.andThen (Turn.of_grown (S := [x1.heap.size]) hg2 (by simp)) (by simp); have T12m : Turn (blks O) x1 x2 := T12.mono (by simp); have z2 := T12.size; have HROW2 := Lib.hid (own_turnA HROW.out T12 (by simp)))
              | ((refine step_append_sl elemRM (by rfl) _ _ (by rfl) O j co (mcs fs) (by rfl) (HROW2.out.alloc _) _ 1 1 [.int .i64 (tick + 1 + dbelow r.late sj), .int .i64 fr, .int .i64 dst, .slice B2 nd c2] (by rfl) (Sl.new _ #[.int .i64 (tick + 1 + dbelow r.late sj), .int .i64 fr, .int .i64 dst, .slice B2 nd c2] _) (by simp) (by simp [Value.oneCell']) (by omega) (by omega) (by simp; omega) ?_); intro O4 co4 w4 own4 hg4 hlie4; have T14 : Turn (blks O) x1 w4 := (T12m.alloc _).trans (grown_turn hg4))
              | ((refine step_append_sl elemRM (by rfl) _ _ (by rfl) O j co (mcs fs) (by rfl) (HROW2.out.alloc _) _ 1 1 [.int .i64 (tick + 1 + dbelow r.late sj), .int .i64 fr, .int .i64 dst, .slice B2 (0 + nd) c2] (by rfl) (Sl.new _ #[.int .i64 (tick + 1 + dbelow r.late sj), .int .i64 fr, .int .i64 dst, .slice B2 (0 + nd) c2] _) (by simp) (by simp [Value.oneCell']) (by omega) (by omega) (by simp; omega) ?_); intro O4 co4 w4 own4 hg4 hlie4; have T14 : Turn (blks O) x1 w4 := (T12m.alloc _).trans (grown_turn hg4); rw [Nat.zero_add] at own4))
            go_wp2_with fail
            obtain ⟨F4, T4⟩ := HF.out.push (m := ⟨tick + 1 + dbelow r.late sj, fr, dst, B2, nd, c2, xs⟩) hT1 (by simp; omega) (by omega) own2 ⟨hnd, ⟨by have := hrg.1; show 0 ≤ tick + 1 + dbelow r.late sj; omega, by have := hrg.2; show tick + 1 + dbelow r.late sj ≤ 2147483648; omega⟩, hfr, hdst⟩ T12 ((Turn.refl [] x2).alloc _) (by rw [HFL.out, mcs_append]; exact own4) hg4 hlie4
            have RN4 := HR1.out.turn T14 hmO (fun k hk hm => by have h1 := hb1 k hk; have h2 := (hOl k hm).2; omega) (fun y hy k hk hm => by have h1 := (HR5.out.bytes y hy).ok.lt k hk; have h2 := (hOl k hm).2; omega)
            have T54 : Turn [m] w5 w4 := HTR.out.andThen T4 (fun k hk => by
              simp at hk
              rcases hk with hk | hk
              · simp [hk]
              · exact .inr (hOl k hk).2)
            go_roundw
            case rel => exact ⟨j + 1, by omega, by go_num, O4, co4, fs ++ [⟨tick + 1 + dbelow r.late sj, fr, dst, B2, nd, c2, xs⟩], rfl, by simp [HFL.out], F4, by rw [HST.out, List.map_append, HP.out]; rfl, by rw [HST.out]; exact RN4, T54⟩
            case measure => simp [intOf]; omega
          · obtain rfl : j = 1 := by omega
            have i1 : ¬ ((1 : Nat) : Int) < 1 := by omega
            obtain ⟨l, mm, rfl, hll, hmx, hml, hmp, hlt2⟩ : ∃ l mm, fs = l ++ [mm] ∧ l.length = 0 ∧ mm.xs = xs ∧ l.map Ml.pure = (lates r.late tick fr dst xs 0 s5).1 ∧ mm.pure = (mm.due, fr, dst, xs) ∧ (lates r.late tick fr dst xs 1 s5).1 = (lates r.late tick fr dst xs 0 s5).1 ++ [mm.pure] := by
              have hpu' : fs.map Ml.pure = (lates r.late tick fr dst xs 0 s5).1 ++ [(tick + 1 + dbelow r.late (lates r.late tick fr dst xs 0 s5).2, fr, dst, xs)] := hpu
              obtain ⟨l, l2, rfl, h1, h2⟩ := List.map_eq_append_iff.1 hpu'
              obtain ⟨mm, rfl, h3⟩ := List.map_eq_singleton_iff.1 h2
              refine ⟨l, mm, rfl, by simpa using hfl, ?_, h1, ?_, ?_⟩
              · exact congrArg (fun p : PMl => p.2.2.2) h3
              · unfold Ml.pure at h3 ⊢
                injection h3 with e1 e2
                rw [e2]
              · rw [h3]; rfl
            subst hmx
            obtain ⟨go, rfl, hgo, hc3⟩ := HF.out.last rfl
            have HLT := Lib.hid hlt2
            have HMP := Lib.hid hmp
            have HML := Lib.hid hml
            have OM := Lib.hid ((HF.out.own mm (by simp)).1)
            have omn := (HF.out.own mm (by simp)).2.1
            have omx : mm.xs.length = mm.n := (HF.out.ok (m := mm) (by simp)).1.len
            obtain rfl : nd = mm.n := by omega
            rw [hll] at hc3
            generalize hsj : (lates r.late tick fr dst mm.xs 1 s5).2 = sj at *
            have HSJ := Lib.hid hsj
            clear hsj hlt2 hmp hpu hml HST F RN
            have b3 := HN.out.blk.cell 3
            have mlz := HN.out.blk.lt
            have l1 := BLz.cell 1
            have ll := BLz.lt
            go_upto_region 15 with fail
            go_cut [96] (fun x wc => ∃ b : Bool, x = .bool b ∧ (b = true ↔ d3 < r.bend ∧ 0 < mm.n) ∧ wc = wz)
            case first =>
              have n0 : (0 : Int) ≤ (mm.n : Int) := Int.natCast_nonneg _
              by_cases hb : d3 < r.bend
              · by_cases hn0 : 0 < mm.n
                · have n1 : (0 : Int) < (mm.n : Int) := by omega
                  go_wp2_with fail
                  go_meet
                  exact ⟨true, rfl, by simp; omega, rfl⟩
                · have n1 : ¬ (0 : Int) < (mm.n : Int) := by omega
                  go_wp2_with fail
                  go_meet
                  exact ⟨false, rfl, (by constructor <;> intro h <;> first | (cases h; done) | omega), rfl⟩
              · go_wp2_with fail
                go_meet
                exact ⟨false, rfl, (by constructor <;> intro h <;> first | (cases h; done) | omega), rfl⟩
            case rest =>
              obtain ⟨b, rfl, hbb, hwc⟩ := hcut
              obtain rfl : wz = wc := hwc.symm
              clear b3 l1 ll mlz
              go_upto_if 96 with fail
              go_cut [16, 17] (fun _ _ wc => ∃ ys, RFrIs wc w5.heap.size (some ⟨go, 0, none⟩) co (l ++ [Ml.mk mm.due mm.fr mm.dst mm.A mm.n mm.c ys]) ∧ (l ++ [Ml.mk mm.due mm.fr mm.dst mm.A mm.n mm.c ys]).map Ml.pure = (fate (cutP cl) r s tick fr dst mm.xs).1 ∧ RNetIs wc m (fate (cutP cl) r s tick fr dst mm.xs).2 r C nc kc cl A n cap ms B nb kb cs (sent + 1) lost told ∧ Turn [m] w5 wc)
              case first =>
                cases b with
                | false =>
                  have HBB := Lib.hid hbb
                  clear hbb
                  go_wp2_with fail
                  go_meet
                  have hh : fate (cutP cl) r s tick fr dst mm.xs = ((l ++ [mm]).map Ml.pure, sj) := by
                    rw [FT.out, HLT.out]
                    have e1 : (lates r.late tick fr dst mm.xs 1 s5) = ((lates r.late tick fr dst mm.xs 0 s5).1 ++ [mm.pure], sj) := by rw [← HLT.out, ← HSJ.out]
                    by_cases hb : d3 < r.bend
                    · have h0 : mm.xs = [] := List.eq_nil_of_length_eq_zero (by
                        have : ¬ 0 < mm.n := fun h => (by have h9 := HBB.out.2 ⟨hb, h⟩; cases h9)
                        omega)
                      rw [if_pos hb, bendLast_snoc, List.map_append, HML.out]
                      have e2 : bendL mm.xs sj = mm.xs := by unfold bendL; rw [if_pos h0, h0]
                      have e3 : bendS mm.xs sj = sj := by unfold bendS; rw [if_pos h0]
                      rw [e2, e3]
                      rfl
                    · rw [if_neg hb, e1, List.map_append, HML.out]
                      rfl
                  rw [hh]
                  exact ⟨mm.xs, HF.out, rfl, HN.out, HTR.out⟩
                | true =>
                  obtain ⟨hb1', hn0⟩ := hbb.1 rfl
                  clear hbb
                  have n0 : (0 : Int) ≤ (mm.n : Int) := Int.natCast_nonneg _
                  have hmA := HF.out.lt.2 mm (by simp)
                  have hr := dbelow_range (s := sj) (n := (mm.n : Int)) (by omega)
                  have hr2 := dbelow_range (s := dstep sj) (n := 255) (by omega)
                  obtain ⟨gb, hA⟩ : ∃ gb, mm.A = some ⟨gb, 0, none⟩ := by
                    rcases OM.out.2 with h1 | ⟨gb, cap', cur, hv, -⟩
                    · have := h1.2
                      omega
                    · injection hv with h1
                      exact ⟨gb, h1⟩
                  obtain ⟨k, hk⟩ : ∃ k : Nat, dbelow (mm.n : Int) sj = (k : Int) := Int.eq_ofNat_of_zero_le hr.1
                  have hkn : k < mm.n := by omega
                  have hko : k < mm.xs.length := by omega
                  have hne : mm.xs ≠ [] := fun e => by rw [e] at omx; simp at omx; omega
                  have HX := Lib.hid (show bendL mm.xs sj = mm.xs.set k (bentB mm.xs[k] (dbelow 255 (dstep sj))) by
                    unfold bendL
                    rw [if_neg hne, omx, hk]
                    simp [List.getElem?_eq_getElem hko])
                  have HS := Lib.hid (show bendS mm.xs sj = dstep (dstep sj) by unfold bendS; rw [if_neg hne])
                  have BE1 := Lib.hid (rBelow_c HN.out (mm.n : Int) (by omega) (by omega))
                  rw [hk] at BE1
                  have l1 := BLz.cell 1
                  have ll := BLz.lt
                  have mlz := HN.out.blk.lt
                  go_wp2_with fail
                  refine BE1.out.mono ?_
                  rintro e w6 ⟨rfl, R6, hT6⟩
                  have BE2 := Lib.hid (rBelow_c R6 255 (by omega) (by omega))
                  have HT6 := Lib.hid hT6
                  clear R6 hT6 l1 ll mlz
                  go_wp2_with fail
                  refine BE2.out.mono ?_
                  rintro e w7 ⟨rfl, R7, hT7⟩
                  have T7 := Lib.hid (HT6.out.trans hT7)
                  have HR7 := Lib.hid R7
                  have c3 := (T7.out.cell hgo (by simp; have := (HF.out.lt.1 go (by simp [blks])).2; omega)).trans hc3
                  have go7 := Nat.lt_of_lt_of_le hgo T7.out.size
                  have O7 := Lib.hid (own_turnA OM.out T7.out (fun j hj hm => by have := (hmA j hj).2; simp at hm; omega))
                  rw [hA] at c3 O7
                  have gb7 := (own_ltA O7.out gb (by simp [blks])).1
                  obtain ⟨b', off', hA', -, k7⟩ := u8s_at (Sl.of_own O7.out) hko
                  cases hA'
                  rw [Nat.zero_add] at k7
                  have f7 : w7.frozen? ⟨gb, k, none⟩ = false := by
                    obtain ⟨cur, hg', -⟩ := own_heap O7.out
                    exact (show Blk _ gb _ cur from hg').frozen k
                  have k0 : (0 : Int) ≤ (k : Int) := Int.natCast_nonneg _
                  have k2 : (k : Int) < (mm.n : Int) := by omega
                  unfold bentB at HX
                  have cw : IntKind.i64.wrap (dbelow 255 (dstep sj) + 1) = 1 + dbelow 255 (dstep sj) := by rw [Int.add_comm]; exact bent_i _ hr2.1 hr2.2
                  have cu := bent_u _ hr2.1 hr2.2
                  generalize dbelow 255 (dstep sj) = v at *
                  have c3' : w7.cell? ⟨go, 3, none⟩ = some (.slice (some ⟨gb, 0, none⟩) mm.n mm.c) := c3
                  have gogb : go ≠ gb := fun e => (HF.out.offO mm (by simp) gb (by rw [hA]; simp [blks])) (by rw [← e]; simp [blks])
                  have KP : ∀ wy, Turn [gb] w7 wy → (wy.cell? ⟨go, 3, none⟩ = some (.slice (some ⟨gb, 0, none⟩) mm.n mm.c) ∧ Turn [gb] w7 wy) := fun wy hy => ⟨(hy.cell go7 (by simpa using gogb)).trans c3', hy⟩
                  clear R7 hT7 hk hr c3
                  go_wp2_with fail
                  refine wp_region_still_tail 21 (by kernel_rfl) (by kernel_rfl) ?_
                  have TD : Turn [] w7 { w7 with drawn := w7.drawn + 1 } := (Turn.refl [] w7).drew
                  have c3d : World.cell? { w7 with drawn := w7.drawn + 1 } ⟨go, 3, none⟩ = some (.slice (some ⟨gb, 0, none⟩) mm.n mm.c) := c3'
                  have k7d : World.cell? { w7 with drawn := w7.drawn + 1 } ⟨gb, k, none⟩ = some (.int .u8 mm.xs[k]) := k7
                  have f7d : World.frozen? { w7 with drawn := w7.drawn + 1 } ⟨gb, k, none⟩ = false := f7
                  have go7d : go < ({ w7 with drawn := w7.drawn + 1 } : World).heap.size := go7
                  have gb7d : gb < ({ w7 with drawn := w7.drawn + 1 } : World).heap.size := gb7
                  have HTD := Lib.hid (And.intro TD (And.intro (own_turnA O7.out TD (by simp)) (HR7.out.turn0 TD)))
                  clear c3' k7 f7 TD
                  generalize ({ w7 with drawn := w7.drawn + 1 } : World) = w8 at *
                  simp only [List.take_succ_cons, List.take_zero, List.drop_succ_cons, List.drop_zero]
                  have sb1 : IntKind.i64.wrap (1 - 1) = 0 := by decide
                  have sb2 : IntKind.i64.wrap 0 = 0 := by decide
                  still_step
                  still_step
                  still_step
                  still_step
                  repeat still_step
                  refine wpStill_nil ?_
                  go_wp2_with fail
                  go_meet
                  obtain ⟨TD, O8, R8⟩ := HTD.out
                  have o9 := own_set O8 k (by omega) (.int .u8 (bits BinOp.xor IntKind.u8 mm.xs[k] (1 + v)))
                  have o9' : (w8.setCell ⟨gb, k, none⟩ (.int .u8 (bits BinOp.xor IntKind.u8 mm.xs[k] (1 + v)))).ownsRow w5.heap.size 5 1 (.slice mm.A mm.n mm.c) mm.n (u8s (bendL mm.xs sj)) := by
                    rw [HX.out, hA]
                    simpa [u8s, List.map_set] using o9
                  have T89 : Turn [gb] w8 (w8.setCell ⟨gb, k, none⟩ (.int .u8 (bits BinOp.xor IntKind.u8 mm.xs[k] (1 + v)))) := (Turn.refl [gb] w8).setCell (.inl (by simp)) _
                  have TZ9 : Turn (m :: blks mm.A) wz (w8.setCell ⟨gb, k, none⟩ (.int .u8 (bits BinOp.xor IntKind.u8 mm.xs[k] (1 + v)))) := ((T7.out.mono (by simp)).trans (TD.mono (by simp))).trans (T89.mono (by rw [hA]; simp [blks]))
                  have hgm := hmA gb (by rw [hA]; simp [blks])
                  have R9 := R8.turn T89 (by simp; omega) (fun j hj hm => by have h1 := hb1 j hj; simp at hm; omega) (fun y hy j hj hm => by have h1 := (HR5.out.bytes y hy).ok.lt j hj; simp at hm; omega)
                  have hh : fate (cutP cl) r s tick fr dst mm.xs = ((l ++ [Ml.mk mm.due mm.fr mm.dst mm.A mm.n mm.c (bendL mm.xs sj)]).map Ml.pure, dstep (dstep sj)) := by
                    rw [FT.out, HLT.out, if_pos hb1', bendLast_snoc, List.map_append, HML.out, HS.out]
                    rfl
                  rw [hh]
                  exact ⟨bendL mm.xs sj, HF.out.bent (by omega) TZ9 o9' (Nat.le_refl _), rfl, R9, HTR.out.andThen TZ9 (fun j hj => by
                    rw [List.mem_cons] at hj
                    rcases hj with hj | hj
                    · simp [hj]
                    · exact .inr (hmA j hj).2)⟩
              case rest =>
                obtain ⟨ys, F2, hpu2, RN2, TR2⟩ := hcut
                obtain ⟨wq, rfl⟩ : ∃ wq : World, wq = wc := ⟨_, rfl⟩
                have hfl2 : (l ++ [Ml.mk mm.due mm.fr mm.dst mm.A mm.n mm.c ys]).length = 1 := by simp [hll]
                generalize l ++ [Ml.mk mm.due mm.fr mm.dst mm.A mm.n mm.c ys] = gs at *
                generalize hsf : (fate (cutP cl) r s tick fr dst mm.xs).2 = sf at *
                generalize hpf : (fate (cutP cl) r s tick fr dst mm.xs).1 = pf at *
                have HSF := Lib.hid (And.intro hpf hsf)
                clear hsf hpf
                have HF2 := Lib.hid F2
                have HRN2 := Lib.hid RN2
                have HTR2 := Lib.hid TR2
                have HPU2 := Lib.hid hpu2
                have hq := TR2.size
                have hFl := F2.lt
                clear F2 RN2 TR2 hpu2 hbb hwc hc3 hgo hmw
                go_wp2_with fail
                go_loopw [18, 19] (fun kx ix wi => ∃ i : Nat, i ≤ 1 ∧ ix = .int .i64 ((i : Nat) : Int) ∧ kx = .int .i64 ((min i (2048 - n) : Nat) : Int) ∧ ∃ A' cap', RNetIs wi m sf r C nc kc cl A' (n + min i (2048 - n)) cap' (ms ++ gs.take (min i (2048 - n))) B nb kb cs (sent + 1) lost told ∧ (∀ j ∈ blks A', j ∈ blks A ∨ wq.heap.size ≤ j) ∧ Turn (m :: blks A) wq wi) (fun _ ix _ => 1 - (intOf ix).toNat)
                case atStart => exact ⟨0, by omega, rfl, by simp, A, cap, by simpa using HRN2.out, fun j hj => .inl hj, Turn.refl _ _⟩
                case round =>
                  obtain ⟨i, hi, rfl, rfl, A', cap', RI, hA', TI⟩ := hrel
                  obtain ⟨wy, rfl⟩ : ∃ wo : World, wo = wr := ⟨_, rfl⟩
                  have q0 : (0 : Int) ≤ (i : Int) := Int.natCast_nonneg _
                  have HRI := Lib.hid RI
                  have HTI := Lib.hid TI
                  have HA' := Lib.hid hA'
                  have c6 := RI.blk.cell 6
                  have mly := RI.blk.lt
                  have hzi := TI.size
                  by_cases hlt : i < 1
                  · have q1 : (i : Int) < 1 := by omega
                    have hig : i < gs.length := by omega
                    have FY := HF2.out.turn TI (fun j hj => by
                      rw [List.mem_cons] at hj
                      rcases hj with hj | hj
                      · have := HH.out.blk.lt; omega
                      · have := (hb1 j (by simp [hj])).1; omega)
                    obtain ⟨xb, xo, hO, xbl, y0, y1, y2, y3⟩ := mcs_at (Sl.of_own FY.row) hig
                    have hgo2 : go = xb ∧ 0 = xo := by
                      injection hO with h1
                      injection h1 with h2 h3
                      exact ⟨h2, h3⟩
                    obtain ⟨rfl, rfl⟩ := hgo2
                    have HFY := Lib.hid FY
                    have hmem := List.getElem_mem hig
                    have XOK := Lib.hid (FY.ok hmem)
                    have XLT := Lib.hid (hFl.2 _ hmem)
                    have HTK := Lib.hid (show gs.take (i + 1) = gs.take i ++ [gs[i]] from List.take_succ_eq_append_getElem hig)
                    obtain ⟨x, hxx⟩ : ∃ x, x = gs[i] := ⟨_, rfl⟩
                    rw [← hxx] at y0 y1 y2 y3 XOK XLT HTK
                    clear FY hmem hO hxx
                    by_cases hroom : i < 2048 - n
                    · have e0 : min i (2048 - n) = i := by omega
                      have e1 : min (i + 1) (2048 - n) = i + 1 := by omega
                      have HE1 := Lib.hid e1
                      rw [e0] at RI HRI c6
                      obtain ⟨p, hp⟩ : ∃ p, p = n + i := ⟨_, rfl⟩
                      have HP2 := Lib.hid hp
                      rw [← hp] at RI HRI c6
                      have r1 : (p : Int) < 2048 := by omega
                      have r0 : (0 : Int) ≤ (p : Int) := Int.natCast_nonneg _
                      obtain ⟨bA, gA, oA⟩ := RI.mails
                      have hmA2 : m ∉ blks A' := fun hm => (RI.blks_ok m (by simp [hm])).2 rfl
                      have HO := Lib.hid (own_down oA (show m + 1 ≤ bA by omega))
                      obtain ⟨dx, fx, tx, xA, xn, xc, xxs⟩ := x
                      simp only at y0 y1 y2 y3 XOK XLT HTK
                      clear oA RI hA' TI hp e1
                      go_upto_region 21 with fail
                      rw [e0]
                      clear e0
                      go_wp2_with fail
                      rw [Nat.zero_add] at y0 y1 y2 y3
                      have post : ∀ (w8 w2' : World), Turn [] wy w8 → Turn (blks A') w8 w2' → (Blk w2' m 54 #[.int .u64 sf, .int .i64 r.lose, .int .i64 r.twice, .int .i64 r.bend, .int .i64 r.late, .slice C nc kc, .slice A' p cap', .slice B nb kb, .int .i64 (sent + 1), .int .i64 lost, .int .i64 told] ∧ Turn (blks A') wy w2') := fun w8 w2' h8 h12 => by
                        have T := (h8.mono (by simp)).trans h12
                        exact ⟨T.blk HRI.out.blk hmA2, T⟩
                      have HPOST := Lib.hid post
                      clear post
                      have TA1 := Lib.hid (((Turn.refl [] wy).drew).alloc (.cells #[.int .i64 dx, .int .i64 fx, .int .i64 tx, .slice xA xn xc] 63))
                      have TA2 := Lib.hid (((Turn.refl [] wy).alloc (.cells #[.int .i64 dx, .int .i64 fx, .int .i64 tx, .slice xA xn xc] 63)).drew)
                      go_region_law (first
                        | (refine step_append_sl elemRM (by rfl) _ _ (by rfl) A' p cap' _ (by rfl) ((HO.out.drew).alloc _) _ 1 1 [.int .i64 dx, .int .i64 fx, .int .i64 tx, .slice xA xn xc] (by rfl) (Sl.new _ #[.int .i64 dx, .int .i64 fx, .int .i64 tx, .slice xA xn xc] _) (by simp) (by simp [Value.oneCell']) (by omega) (by omega) (by simp; omega) ?_; intro A2 cap2 w2' own2 hg2 hlie2; obtain ⟨B2, T12⟩ := HPOST.out _ w2' TA1.out (grown_turn hg2); have c62 := B2.cell 6; have f62 := B2.frozen 6; have ml2 := B2.lt)
                        | (refine step_append_sl elemRM (by rfl) _ _ (by rfl) A' p cap' _ (by rfl) ((HO.out.alloc _).drew) _ 1 1 [.int .i64 dx, .int .i64 fx, .int .i64 tx, .slice xA xn xc] (by rfl) ((Sl.new wy #[.int .i64 dx, .int .i64 fx, .int .i64 tx, .slice xA xn xc] _).turn0 ((Turn.refl [] _).drew)) (by simp) (by simp [Value.oneCell']) (by omega) (by omega) (by simp; omega) ?_; intro A2 cap2 w2' own2 hg2 hlie2; obtain ⟨B2, T12⟩ := HPOST.out _ w2' TA2.out (grown_turn hg2); have c62 := B2.cell 6; have f62 := B2.frozen 6; have ml2 := B2.lt))
                      all_goals
                        go_wp2_with fail
                        have hA2 : ∀ j ∈ blks A2, j ∈ blks A' ∨ wy.heap.size ≤ j := fun j hj => by
                          rcases lies_blks hlie2 j hj with h1 | h1
                          · exact .inl h1
                          · exact .inr (by simp at h1; omega)
                        have xoff : ∀ j ∈ blks xA, j ∉ blks A' := fun j hj hm => by
                          have h1 := (XLT.out j hj).1
                          have h2 := (XLT.out j hj).2
                          rcases HA'.out j hm with h3 | h3
                          · have := (hb1 j (by simp [h3])).1; omega
                          · omega
                        have e2 : mcs (ms ++ gs.take i) ++ [Value.int .i64 dx, Value.int .i64 fx, Value.int .i64 tx, Value.slice xA xn xc] = mcs ((ms ++ gs.take i) ++ [⟨dx, fx, tx, xA, xn, xc, xxs⟩]) := by rw [mcs_append (ms ++ gs.take i)]; rfl
                        rw [e2] at own2
                        have hml5 := HH.out.blk.lt
                        have NR := HRI.out.newA T12 own2 (by omega) hA2 (fun y hy => by
                          rcases List.mem_append.1 hy with hy | hy
                          · exact .inl hy
                          · rw [List.mem_singleton] at hy
                            subst hy
                            refine .inr (.inr (RMl.of (XOK.out.1.turn T12 xoff) (fun j hj hm => ?_)))
                            have h1 := (XLT.out j hj).1
                            have h2 := (XLT.out j hj).2
                            simp only [List.mem_cons, List.mem_append] at hm
                            rcases hm with hm | hm | hm | hm
                            · omega
                            · rcases hA2 j hm with h3 | h3
                              · exact xoff j hj h3
                              · omega
                            · have := (hb1 j (by simp [hm])).1; omega
                            · have := (hb1 j (by simp [hm])).1; omega)
                        refine ⟨⟨i + 1, by omega, by go_num, by rw [HE1.out]; go_num, A2, cap2, ?_, fun j hj => ?_, HTI.out.andThen NR.2 (fun j hj => ?_)⟩, by simp [intOf]; omega⟩
                        · rw [HE1.out, HTK.out, ← List.append_assoc, show n + (i + 1) = p + 1 by have := HP2.out; omega]
                          exact NR.1
                        · rcases hA2 j hj with h3 | h3
                          · exact HA'.out j h3
                          · exact .inr (by omega)
                        · rw [List.mem_cons] at hj
                          rcases hj with hj | hj
                          · exact .inl (by simp [hj])
                          · rcases HA'.out j hj with h3 | h3
                            · exact .inl (by simp [h3])
                            · exact .inr h3
                    · have e0 : n + min i (2048 - n) = 2048 := by omega
                      have e1 : min (i + 1) (2048 - n) = min i (2048 - n) := by omega
                      have HE1 := Lib.hid e1
                      rw [e0] at c6
                      have q9 : ((min i (2048 - n) : Nat) : Int) ≤ 2 := by omega
                      clear RI hA' TI e0 e1
                      generalize min i (2048 - n) = p at *
                      go_wp2_with fail
                      go_roundw
                      case rel => exact ⟨i + 1, by omega, by go_num, by rw [HE1.out], A', cap', by rw [HE1.out]; exact HRI.out, HA'.out, HTI.out⟩
                      case measure => simp [intOf]; omega
                  · obtain rfl : i = 1 := by omega
                    have q1 : ¬ ((1 : Nat) : Int) < 1 := by omega
                    have hgl : (gs.take (min 1 (2048 - n))).length = min 1 (2048 - n) := by rw [List.length_take]; omega
                    have hgp : (gs.take (min 1 (2048 - n))).map Ml.pure = pf.take (2048 - n) := by
                      rw [← HPU2.out, ← List.map_take]
                      congr 1
                      rw [List.take_eq_take_iff]
                      omega
                    have hgn : ∀ x ∈ gs.take (min 1 (2048 - n)), ∀ j ∈ blks x.A, w.heap.size ≤ j := fun x hx j hj => by
                      have := (hFl.2 x (List.mem_of_mem_take hx) j hj).2
                      omega
                    have TF : Turn (m :: blks A) w wy := ((HT5.out.trans HTR2.out).mono (by simp)).trans TI
                    have hbF : ∀ j ∈ blks A', j ∈ blks A ∨ w.heap.size ≤ j := fun j hj => by
                      rcases hA' j hj with h1 | h1
                      · exact .inl h1
                      · exact .inr (by omega)
                    have HG := Lib.hid (And.intro hgl (And.intro hgp (And.intro hgn (And.intro TF hbF))))
                    clear hgl hgp hgn TF hbF RI hA' TI hFl
                    by_cases hk0 : min 1 (2048 - n) = 0
                    · have RL := Lib.hid (HRI.out.setLost (lost + 1))
                      have c9 := HRI.out.blk.cell 9
                      have f9 := HRI.out.blk.frozen 9
                      have hg0 : gs.take (min 1 (2048 - n)) = [] := by rw [hk0]; rfl
                      rw [hg0] at HG RL
                      go_upto_region 26 with fail
                      rw [hk0] at RL HG ⊢
                      clear hk0
                      go_wp2_with fail
                      go_ret
                      obtain ⟨hgl, hgp, hgn, TF, hbF⟩ := HG.out
                      exact ⟨[], by simp, by rw [HSF.out.1]; exact hgp, A', ⟨cap', by rw [HSF.out.2]; simpa using RL.out.1⟩, hbF, by simp, TF.trans (RL.out.2.mono (by simp))⟩
                    · have hg0 : ¬ gs.take (min 1 (2048 - n)) = [] := fun e => by have := HG.out.1; rw [e] at this; simp at this; omega
                      have hk1 : (((min 1 (2048 - n) : Nat) : Int) == 0) = false := by simp; omega
                      have HK := Lib.hid hg0
                      obtain ⟨p, hp⟩ : ∃ p, p = min 1 (2048 - n) := ⟨_, rfl⟩
                      rw [← hp] at HG HK hk1 HRI
                      go_upto_region 26 with fail
                      rw [← hp]
                      clear hk0 hg0 hp
                      go_wp2_with fail
                      go_ret
                      obtain ⟨hgl, hgp, hgn, TF, hbF⟩ := HG.out
                      exact ⟨gs.take p, by rw [hgl]; simp, by rw [HSF.out.1]; exact hgp, A', ⟨cap', by rw [HSF.out.2, hgl, if_neg HK.out, Int.add_zero]; exact HRI.out⟩, hbF, hgn, TF⟩
end
end Go.Proofs.Ytiijgokgojjocaa
