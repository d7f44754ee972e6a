/- A net's fates. -/
import Derived.Test.YtiijgokgojjocaaNetFate
namespace Go.Proofs.Ytiijgokgojjocaa
open Go.RowKit Go.ChangeMaps Go.WideMaps Go.MapKept Go.WideShapes

/-- What fates does. -/
def Fated (w : World) (g d cb kb : Nat) (s : Int) (r : Rl) (cut : List (Int × Int)) (came : List ((Int × Int) × Int)) (base : Nat) (A : Option Addr) (n cap : Nat) (ms : List Ml) (sent lost told tick fr dst : Int) (xs : List Int) (e : Ending) (w' : World) : Prop :=
  ∃ O co fs, e = .returned (.slice O fs.length co) ∧ FrIs w' w.heap.size O co fs ∧ fs.map Ml.pure = (fate cut r s tick fr dst xs).1 ∧ NetIs w' g d cb kb (fate cut r s tick fr dst xs).2 r cut came base A n cap ms sent lost told ∧ Turn [d] w w'

section
variable {w : World} {g d cb kb : Nat} {s : Int} {r : Rl} {cut : List (Int × Int)} {came : List ((Int × Int) × Int)} {base : Nat} {A : Option Addr} {n cap : Nat} {ms : List Ml} {sent lost told : Int}
set_option maxRecDepth 100000 in
set_option maxHeartbeats 8000000 in
theorem fates_c (h : NetIs w g d cb kb s r cut came base A n cap ms sent lost told) (tick fr dst : Int) (B : Option Addr) (nb c : Nat) (xs : List Int) (ht0 : 0 ≤ tick) (ht1 : tick ≤ 1073741824) (hfr : wf64 fr) (hdst : wf64 dst) (hx : Sl w B (u8s xs)) (hlen : xs.length = nb) (hBd : xs ≠ [] → ∀ i ∈ blks B, i ≠ d) (hnb : nb ≤ 1000000) :
    Calls Try.prog 29 #[.pointer (some ⟨g, 0, none⟩), .int .i64 tick, .int .i64 fr, .agg #[.int .i64 dst, .slice B nb c]] w (Fated w g d cb kb s r cut came base A n cap ms sent lost told tick fr dst xs) := by
  have wp := wfP_pair hfr hdst
  have PC := Lib.hid (pair_c fr dst)
  have T0 := (Turn.refl [] w).alloc (.cells #[.int .i64 dst, .slice B nb c] 29)
  have BL := Blk.new w 29 #[.int .i64 dst, .slice B nb c]
  have H0 := Lib.hid (h.turn T0 (by simp))
  have SL0 := Lib.hid (hx.alloc (.cells #[.int .i64 dst, .slice B nb c] 29))
  have HLN := Lib.hid hlen
  have gz := h.lts
  have hap := h.apart
  have hlow := h.low
  have hlo := h.lo
  have HBD := Lib.hid hBd
  have HBlt : Hid (xs ≠ [] → ∀ i ∈ blks B, i < w.heap.size) := fun hne i hi => by
    obtain ⟨b, off, hA, hlt, -⟩ := hx (by rw [u8s_len]; exact List.length_pos_iff.2 hne)
    rw [hA] at hi
    simp [blks] at hi
    omega
  clear h hx hlen hBd
  have hb0 : w.heap.size < (w.alloc (.cells #[.int .i64 dst, .slice B nb c] 29)).heap.size := by simp
  go_enter Try.func29, Try.ntmps29
  go_wp2_with fail
  generalize w.alloc (.cells #[.int .i64 dst, .slice B nb c] 29) = w0 at *
  have b0 : ∃ lb, lb = w.heap.size := ⟨_, rfl⟩
  obtain ⟨lb, hlb⟩ := b0
  rw [← hlb] at BL
  rw [← hlb]
  have HLB := Lib.hid hlb
  clear hlb
  obtain ⟨-, -, -, -, -, c5, -⟩ := H0.out.cells
  have LB0 := BL.cell 0
  have lbl := BL.lt
  have gl0 := H0.out.lts.1
  by_cases hc : pairOf fr dst ∈ cut
  · have hd : decide (pairOf fr dst ∈ cut) = true := by simpa using hc
    have AE : ∀ wy, Turn [] w0 wy → (wy.cell? ⟨g, 5, none⟩ = some (.map (some cb)) ∧ wy.cell? ⟨lb, 0, none⟩ = some (.int .i64 dst) ∧ (Instr.lookup 75 (.map (some cb)) (pk (pairOf fr dst)) false).run Try.prog wy = .ok (.bool true) wy ∧ Turn [] w0 wy) := fun wy hy =>
      ⟨(hy.cell gl0 (by simp)).trans c5, (hy.cell lbl (by simp)).trans LB0, by rw [(H0.out.turn hy (by simp)).lookCut wp, hd], hy⟩
    have AE' := Lib.hid AE
    have FT := Lib.hid (show fate cut r s tick fr dst xs = ([], s) by unfold fate; rw [if_pos hc])
    have T00 := (Turn.refl [] w0).drew
    clear AE hd hc wp c5 LB0
    go_region_held3 (fun wy => wy.cell? ⟨g, 5, none⟩ = some (.map (some cb)) ∧ wy.cell? ⟨lb, 0, none⟩ = some (.int .i64 dst) ∧ (Instr.lookup 75 (.map (some cb)) (pk (pairOf fr dst)) false).run Try.prog wy = .ok (.bool true) wy ∧ Turn [] w0 wy) (first | exact AE'.out _ (by assumption))
      ((go_at_call 36; refine (PC.out _).mono ?_; rintro e w1 ⟨rfl, hT1⟩; have T1 : Turn [] w0 w1 := Turn.trans T00 hT1))
    go_wp2_with fail
    go_ret
    have T1' := T0.trans T1
    refine ⟨none, 0, [], by simp, FrIs.nil _ _, by rw [FT.out]; rfl, ?_, T1'.mono (by simp)⟩
    rw [FT.out]
    exact H0.out.turn T1 (by simp)
  · have hd : decide (pairOf fr dst ∈ cut) = false := by simpa using hc
    have AE : ∀ wy, Turn [] w0 wy → (wy.cell? ⟨g, 5, none⟩ = some (.map (some cb)) ∧ wy.cell? ⟨lb, 0, none⟩ = some (.int .i64 dst) ∧ (Instr.lookup 75 (.map (some cb)) (pk (pairOf fr dst)) false).run Try.prog wy = .ok (.bool false) wy ∧ Turn [] w0 wy) := fun wy hy =>
      ⟨(hy.cell gl0 (by simp)).trans c5, (hy.cell lbl (by simp)).trans LB0, by rw [(H0.out.turn hy (by simp)).lookCut wp, hd], hy⟩
    have AE' := Lib.hid AE
    have FT := Lib.hid (show fate cut r s tick fr dst xs = if dbelow 100 s < r.lose then ([], dstep (dstep (dstep s))) else if dbelow 100 (dstep (dstep s)) < r.bend then (bendLast (lates r.late tick fr dst xs (tmOf r s) (dstep (dstep (dstep s)))).1 (bendL xs (lates r.late tick fr dst xs (tmOf r s) (dstep (dstep (dstep s)))).2), bendS xs (lates r.late tick fr dst xs (tmOf r s) (dstep (dstep (dstep s)))).2) else lates r.late tick fr dst xs (tmOf r s) (dstep (dstep (dstep s))) by unfold fate; rw [if_neg hc])
    have T00 := (Turn.refl [] w0).drew
    clear AE hd hc wp c5 LB0
    go_region_held3 (fun wy => wy.cell? ⟨g, 5, none⟩ = some (.map (some cb)) ∧ wy.cell? ⟨lb, 0, none⟩ = some (.int .i64 dst) ∧ (Instr.lookup 75 (.map (some cb)) (pk (pairOf fr dst)) false).run Try.prog wy = .ok (.bool false) wy ∧ Turn [] w0 wy) (first | exact AE'.out _ (by assumption))
      ((go_at_call 36; refine (PC.out _).mono ?_; rintro e w1 ⟨rfl, hT1⟩; have T1 : Turn [] w0 w1 := Turn.trans T00 hT1))
    have H1 := Lib.hid (H0.out.turn T1 (by simp))
    have SL1 := Lib.hid (SL0.out.turn0 T1)
    have BL1 := T1.blk BL (by simp)
    have TW1 := Lib.hid (T0.trans T1)
    have z1 := T1.size
    clear AE' T00 H0 SL0 T0 BL hT1 lbl gl0
    generalize pk (pairOf fr dst) = pkv at *
    go_wp2_with fail
    obtain ⟨c0, -⟩ := H1.out.cells
    have gl1 := H1.out.lts.1
    have BEL := Lib.hid (fun wz s' (h : Blk wz d 90 #[.int .u64 s']) => below_c d s' 100 wz h (by omega) (by omega))
    have AE : ∀ wy, Turn [d] w1 wy → (wy.cell? ⟨g, 0, none⟩ = some (.pointer (some ⟨d, 0, none⟩)) ∧ Turn [d] w1 wy) := fun wy hy =>
      ⟨(hy.cell gl1 (by simpa using hap.1)).trans c0, hy⟩
    have AE' := Lib.hid AE
    have T10 : Turn [d] w1 w1.drew := (Turn.refl _ w1).drew
    have D10 : Blk w1.drew d 90 #[.int .u64 s] := H1.out.drw
    clear AE c0
    go_region_held3 (fun wy => wy.cell? ⟨g, 0, none⟩ = some (.pointer (some ⟨d, 0, none⟩)) ∧ Turn [d] w1 wy) (first | exact AE'.out _ (by assumption))
      ((go_at_call 40; refine (BEL.out _ _ (by assumption)).mono ?_; rintro e w2 ⟨rfl, D2, hT2⟩; have T2 : Turn [d] w1 w2 := Turn.trans (by assumption) hT2))
    have H2 := Lib.hid (H1.out.draws T2 (by simp) D2)
    have TW2 := Lib.hid ((TW1.out.mono (by simp : ∀ i ∈ [], i ∈ [d])).trans T2)
    have dlb : lb ≠ d := by have h1 := HLB.out; have h2 := hlow.2.1; omega
    have BL2 := T2.blk BL1 (by simpa using dlb)
    have SL2 := Lib.hid (SL1.out.turnP T2 (fun hne i hi => by simp; exact HBD.out (fun e => hne (by rw [e]; rfl)) i hi))
    have z2 := T2.size
    have HTM : Hid (tmOf r s = if dbelow 100 (dstep s) < r.twice then 2 else 1) := by show _ = _; rfl
    clear T10 D10 AE' BEL T1 T2 hT2 D2 TW1 H1 SL1 BL1 gl1
    generalize tmOf r s = tm at *
    generalize dbelow 100 s = lose at *
    generalize dbelow 100 (dstep s) = twice at *
    generalize dbelow 100 (dstep (dstep s)) = bent at *
    generalize dstep (dstep (dstep s)) = s3 at *
    obtain ⟨-, e1, e2, e3, e4, -⟩ := H2.out.cells
    have gl2 := H2.out.lts.1
    have hrok := H2.out.rok
    unfold RlOk at hrok
    by_cases hl : lose < r.lose
    · have FT2 := Lib.hid (FT.out.trans (if_pos hl))
      go_wp2_with fail
      go_ret
      refine ⟨none, 0, [], by simp, FrIs.nil _ _, by rw [FT2.out]; rfl, ?_, TW2.out⟩
      rw [FT2.out]
      exact H2.out
    · have FT2 := Lib.hid (FT.out.trans (if_neg hl))
      go_upto_if 51 with fail
      go_cut [12] (fun x wx => x = .int .i64 (tm : Int) ∧ (tm = 1 ∨ tm = 2) ∧ wx = w2)
      case first =>
        by_cases htw : twice < r.twice
        · have HT2 := Lib.hid (HTM.out.trans (if_pos htw))
          go_wp2_with fail
          go_meet
          exact ⟨by rw [HT2.out]; rfl, .inr HT2.out, rfl⟩
        · have HT2 := Lib.hid (HTM.out.trans (if_neg htw))
          go_wp2_with fail
          go_meet
          exact ⟨by rw [HT2.out]; rfl, .inl HT2.out, rfl⟩
      case rest =>
        obtain ⟨rfl, htm, hwc⟩ := hcut
        obtain rfl : w2 = wc := hwc.symm
        go_wp2_with fail
        clear e1 e2 e3 e4 gl2
        go_loopw [13, 53] (fun x i wr => ∃ j : Nat, j ≤ tm ∧ i = .int .i64 j ∧ ∃ O co fs, x = .slice O j co ∧ fs.length = j ∧ FrIs wr w2.heap.size O co fs ∧ fs.map Ml.pure = (lates r.late tick fr dst xs j s3).1 ∧ NetIs wr g d cb kb (lates r.late tick fr dst xs j s3).2 r cut came base A n cap ms sent lost told ∧ Turn [d] w2 wr) (fun _ i _ => tm - (intOf i).toNat)
        case atStart => exact ⟨0, by omega, rfl, none, 0, [], rfl, rfl, FrIs.nil _ _, rfl, H2.out, Turn.refl _ _⟩
        case round =>
          obtain ⟨j, hj, rfl, O, co, fs, rfl, hfl, F, hpu, N, TR⟩ := hrel
          obtain ⟨wz, rfl⟩ : ∃ wo : World, wo = wr := ⟨_, rfl⟩
          have j0 : (0 : Int) ≤ (j : Int) := Int.natCast_nonneg _
          have HF := Lib.hid F
          have HN := Lib.hid N
          have HP := Lib.hid hpu
          have HFL := Lib.hid hfl
          have HST : Hid (lates r.late tick fr dst xs (j + 1) s3 = ((lates r.late tick fr dst xs j s3).1 ++ [(tick + 1 + dbelow r.late (lates r.late tick fr dst xs j s3).2, fr, dst, xs)], dstep (lates r.late tick fr dst xs j s3).2)) := by show _ = _; rfl
          have hww : w.heap.size < w2.heap.size ∧ w2.heap.size ≤ wz.heap.size := by have := TR.size; omega
          by_cases hlt : j < tm
          · have i1 : (j : Int) < (tm : Int) := by omega
            have BLz := TR.blk BL2 (by simpa using dlb)
            have SLz := Lib.hid (SL2.out.turnP TR (fun hne i hi => by simp; exact HBD.out (fun e => hne (by rw [e]; rfl)) i hi))
            obtain ⟨q0, -, -, -, q4, -⟩ := N.cells
            have gl := N.lts.1
            have l0 := BLz.cell 0
            have l1 := BLz.cell 1
            have ll := BLz.lt
            have ND := N.drw
            have hOl := F.lt.1
            have hgS : g ∉ d :: blks O := by simp; exact ⟨hap.1, fun hm => by have := (hOl g hm).2; omega⟩
            have hlS : lb ∉ d :: blks O := by simp; exact ⟨dlb, fun hm => by have h1 := (hOl lb hm).2; have h2 := HLB.out; omega⟩
            have hdO : d ∉ blks O := fun hm => by have := (hOl d hm).2; omega
            have CB := Lib.hid (fun wy (hy : Turn (d :: blks O) wz wy) => cloneB_c B nb c xs wy (SLz.out.turnP hy (fun hne i hi => by
              have hne' : xs ≠ [] := fun e => hne (by rw [e]; rfl)
              simp
              exact ⟨HBD.out hne' i hi, fun hm => by have := (hOl i hm).2; have := HBlt.out hne' i hi; omega⟩)) HLN.out (by omega))
            have BEL := Lib.hid (fun wy s' (h : Blk wy d 90 #[.int .u64 s']) => below_c d s' r.late wy h (by omega) (by omega))
            have AE : ∀ wy, Turn (d :: blks O) wz wy → (wy.cell? ⟨g, 0, none⟩ = some (.pointer (some ⟨d, 0, none⟩)) ∧ wy.cell? ⟨g, 4, none⟩ = some (.int .i64 r.late) ∧ wy.cell? ⟨lb, 0, none⟩ = some (.int .i64 dst) ∧ wy.cell? ⟨lb, 1, none⟩ = some (.slice B nb c) ∧ Turn (d :: blks O) wz wy) := fun wy hy =>
              ⟨(hy.cell gl hgS).trans q0, (hy.cell gl hgS).trans q4, (hy.cell ll hlS).trans l0, (hy.cell ll hlS).trans l1, hy⟩
            have AE' := Lib.hid AE
            have HROW := Lib.hid (show wz.ownsRow w2.heap.size 34 4 (.slice O j co) j (mcs fs) by have := F.row; rw [hfl] at this; exact this)
            have hOd : ∀ i ∈ blks O, i ∉ [d] := fun i hi => by simp; intro e; subst e; exact hdO hi
            have sg : ∀ v : Int, 0 ≤ v → v < r.late → IntKind.i64.wrap (tick + 1 + v) = tick + 1 + v := fun v h0 h1 => IntWalk.i64_in _ (by omega)
            have sw : IntKind.i64.wrap (tick + 1) = tick + 1 := IntWalk.i64_in _ (by omega)
            have hrg := dbelow_range (n := r.late) (s := (lates r.late tick fr dst xs j s3).2) (by omega)
            have sv := sg _ hrg.1 hrg.2
            have T10 : Turn (d :: blks O) wz wz.drew := (Turn.refl _ wz).drew
            have D10 : Blk wz.drew d 90 #[.int .u64 (lates r.late tick fr dst xs j s3).2] := ND
            clear AE q0 q4 l0 l1 sg hOl hpu N F
            generalize (lates r.late tick fr dst xs j s3).2 = sj at *
            generalize (lates r.late tick fr dst xs j s3).1 = pj at *
            go_wp2_with fail
            go_region_held3 (fun wy => wy.cell? ⟨g, 0, none⟩ = some (.pointer (some ⟨d, 0, none⟩)) ∧ wy.cell? ⟨g, 4, none⟩ = some (.int .i64 r.late) ∧ wy.cell? ⟨lb, 0, none⟩ = some (.int .i64 dst) ∧ wy.cell? ⟨lb, 1, none⟩ = some (.slice B nb c) ∧ Turn (d :: blks O) wz wy)
              (first | exact AE'.out _ (by assumption) | exact AE'.out _ (Turn.alloc (by assumption) _))
              (first
                | (go_at_call 40; refine (BEL.out _ _ (by assumption)).mono ?_; rintro e x1 ⟨rfl, D2, hT2⟩; have T2d : Turn [d] wz x1 := ((Turn.refl _ wz).drew).trans hT2; have T2 : Turn (d :: blks O) wz x1 := T2d.mono (by simp))
                | (go_at_call 35; refine (CB.out _ (by assumption)).mono ?_; rintro e x2 ⟨B2, c2, rfl, O2, hT3⟩; have T3d : Turn [d] wz x2 := T2d.trans (hT3.mono (by simp)); have T3 : Turn (d :: blks O) wz x2 := T3d.mono (by simp); have ROW := Lib.hid (own_turnA HROW.out T3d hOd); have zx := T3d.size)
                | (refine step_append_sl elemM (by rfl) _ _ (by rfl) O j co (mcs fs) (by rfl) (ROW.out.alloc _) _ 1 1 [.int .i64 (tick + 1 + dbelow r.late sj), .int .i64 fr, .int .i64 dst, .slice B2 nb c2] (by rfl) (Sl.new _ #[.int .i64 (tick + 1 + dbelow r.late sj), .int .i64 fr, .int .i64 dst, .slice B2 nb c2] _) (by simp) (by simp [Value.oneCell']) (by omega) (by omega) (by simp; omega) ?_; intro O4 co4 w4 hown4 hg4 hlie4; have T4g : Turn (d :: blks O) wz w4 := (T3.alloc _).trans ((grown_turn hg4).mono (by intro i hi; simp [hi]))))
            go_wp2_with fail
            have HB2 := own_ltA O2
            obtain ⟨F4, T4⟩ := HF.out.push (m := ⟨tick + 1 + dbelow r.late sj, fr, dst, B2, nb, c2, xs⟩) T2d (by simp; omega) (by omega) O2 ⟨hnb, ⟨by have := hrg.1; show 0 ≤ tick + 1 + dbelow r.late sj; omega, by have := hrg.2; show tick + 1 + dbelow r.late sj ≤ 2147483648; omega⟩, hfr, hdst⟩ hT3 ((Turn.refl [] x2).alloc _) (by rw [HFL.out, mcs_append]; exact hown4) hg4 hlie4
            have T4' : Turn [d] w2 w4 := TR.andThen T4 (fun i hi => by
              simp at hi
              rcases hi with hi | hi
              · simp [hi]
              · exact .inr (HF.out.lt.1 i hi).2)
            have D4 : Blk w4 d 90 #[.int .u64 (dstep sj)] := (grown_turn hg4).blk ((hT3.blk D2 (by simp)).alloc _) hdO
            go_roundw
            case rel => exact ⟨j + 1, by omega, by go_num, O4, co4, fs ++ [⟨tick + 1 + dbelow r.late sj, fr, dst, B2, nb, c2, xs⟩], rfl, by simp [HFL.out], F4, by rw [HST.out, List.map_append, HP.out]; rfl, by rw [HST.out]; exact H2.out.draws T4' (by simp) D4, T4'⟩
            case measure => simp [intOf]; omega
          · obtain rfl : j = tm := by omega
            have i1 : ¬ (j : Int) < (j : Int) := by omega
            clear hj
            obtain ⟨i, hi⟩ : ∃ i, j = i + 1 := ⟨j - 1, by omega⟩
            have hlast : ∃ l m, fs = l ++ [m] ∧ m.xs = xs ∧ l.map Ml.pure = (lates r.late tick fr dst xs i s3).1 ∧ m.pure = (m.due, fr, dst, xs) ∧ (lates r.late tick fr dst xs j s3).1 = (lates r.late tick fr dst xs i s3).1 ++ [m.pure] := by
              rw [hi] at hpu
              have hpu' : fs.map Ml.pure = (lates r.late tick fr dst xs i s3).1 ++ [(tick + 1 + dbelow r.late (lates r.late tick fr dst xs i s3).2, fr, dst, xs)] := hpu
              obtain ⟨l, l2, rfl, h1, h2⟩ := List.map_eq_append_iff.1 hpu'
              obtain ⟨m, rfl, h3⟩ := List.map_eq_singleton_iff.1 h2
              refine ⟨l, m, rfl, ?_, h1, ?_, ?_⟩
              · exact congrArg (fun p : PMl => p.2.2.2) h3
              · unfold Ml.pure at h3 ⊢
                injection h3 with e1 e2
                rw [e2]
              · rw [h3, hi]; rfl
            obtain ⟨l, m, rfl, hmx, hml, hmp, hlt⟩ := hlast
            subst hmx
            obtain ⟨go, rfl, hgo, hc3⟩ := HF.out.last rfl
            have HLT := Lib.hid hlt
            have HMP := Lib.hid hmp
            have hll : l.length + 1 = j := by rw [← hfl]; simp
            have OM := Lib.hid ((HF.out.own m (by simp)).1)
            have omn := (HF.out.own m (by simp)).2.1
            have HML := Lib.hid hml
            clear hlt hmp hpu hi hml
            generalize hsj : (lates r.late tick fr dst m.xs j s3).2 = sj at *
            have HSJ := Lib.hid hsj
            clear hsj
            obtain ⟨-, -, -, q3, -⟩ := N.cells
            have gl := N.lts.1
            by_cases hb : bent < r.bend
            · have FT3 := Lib.hid (FT2.out.trans (if_pos hb))
              have hLE := HF.out.lt.2 m (by simp)
              have BC := Lib.hid (bend_c g d _ _ sj w2.heap.size m.A m.n m.c m.xs wz HN.out.blk rfl HN.out.drw hap.1 OM.out (by omega) (by omega) omn)
              have ok : ∀ e wb, Bended wz d sj w2.heap.size m.A m.n m.c m.xs e wb → e = .returned (.tuple #[]) ∧ Fated w g d cb kb s r cut came base A n cap ms sent lost told tick fr dst m.xs (.returned (.slice (some ⟨go, 0, none⟩) (l ++ [m]).length co)) wb := by
                rintro e wb ⟨he, hown, hdw, hTb⟩
                refine ⟨he, _, co, l ++ [⟨m.due, m.fr, m.dst, m.A, m.n, m.c, bendL m.xs sj⟩], by simp, (HF.out.bent (by omega) hTb hown (Nat.le_refl _)).down (by omega), ?_, ?_, ?_⟩
                · rw [FT3.out, HLT.out, bendLast_snoc, List.map_append, HML.out, HMP.out]
                  have h1 := HMP.out
                  unfold Ml.pure at h1
                  injection h1 with h2 h3
                  injection h3 with h4 h5
                  injection h5 with h6 h7
                  simp [Ml.pure, h4, h6]
                · rw [FT3.out]
                  exact H2.out.draws (TR.andThen hTb (fun i hi => by
                    simp at hi
                    rcases hi with hi | hi
                    · simp [hi]
                    · exact .inr (hLE i hi).2)) (by simp) hdw
                · exact TW2.out.trans (TR.andThen hTb (fun i hi => by
                    simp at hi
                    rcases hi with hi | hi
                    · simp [hi]
                    · exact .inr (hLE i hi).2))
              have OK := Lib.hid ok
              clear ok
              have hfl' := HFL.out
              rcases htm with rfl | rfl
              · obtain rfl : l = [] := List.eq_nil_of_length_eq_zero (by omega)
                have hc4 : wz.cell? ⟨go, 3, none⟩ = some (.slice m.A m.n m.c) := by simpa using hc3
                clear hc3
                go_wp2_with fail
                refine BC.out.mono ?_
                intro e wb hB
                obtain ⟨rfl, hF⟩ := OK.out _ _ hB
                go_wp2_with fail
                go_ret
                exact hF
              · have hl1 : l.length = 1 := by omega
                rw [hl1] at hc3
                have hc4 : wz.cell? ⟨go, 7, none⟩ = some (.slice m.A m.n m.c) := by simpa using hc3
                have hs1 : (l ++ [m]).length = 2 := by simp [hl1]
                rw [hs1] at OK
                clear hc3 hl1 hs1
                go_wp2_with fail
                refine BC.out.mono ?_
                intro e wb hB
                obtain ⟨rfl, hF⟩ := OK.out _ _ hB
                go_wp2_with fail
                go_ret
                exact hF
            · have FT3 := Lib.hid (FT2.out.trans (if_neg hb))
              have hfl' := HFL.out
              go_wp2_with fail
              go_ret
              refine ⟨_, co, l ++ [m], by rw [hfl']; simp, HF.out.down (by omega), ?_, ?_, TW2.out.trans TR⟩
              · rw [FT3.out, HP.out]
              · rw [FT3.out, HSJ.out]; exact HN.out
end
end Go.Proofs.Ytiijgokgojjocaa
