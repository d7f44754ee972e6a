/- A view's Add. -/
import Derived.Test.YtelagneielahhaaVwDrop
import Derived.Test.YtelagneielahhaaVwDoubt
import Derived.Test.YtelagneielahhaaVwAll
import Derived.Deep.DeepCutAuto
import Derived.Deep.CutBlock
namespace Go.Proofs.Ytelagneielahhaa
open Go.RowKit Go.ChangeMaps Go.MapKept

/-- What Add answers, and who is a member behind it. -/
def addR (own : C4) (m : VM) (c : C4) (tick : Int) : Int × VM :=
  if ¬ Right c then (10, m) else if c.1 = own.1 then (1, m) else
    match kget m c.1 with
    | some e => if e.c = c then (8, m) else if c.2.2.2 ≤ e.c.2.2.2 then (9, m) else (0, kput m c.1 ⟨c, false, tick, 0, 0⟩)
    | none => if m.length = 16 then (6, m) else (0, kput m c.1 ⟨c, false, tick, 0, 0⟩)
def AddDone (w : World) (v mb : Nat) (own : C4) (m : VM) (c : C4) (tick : Int) (e : Ending) (w' : World) : Prop :=
  e = .returned (.int .i64 (addR own m c tick).1) ∧ VIs w' v mb own (addR own m c tick).2 ∧ Turn [mb] w w'
theorem VIs.look_ok {w : World} {v mb : Nat} {own : C4} {m : VM} (h : VIs w v mb own m) {id : Int} (hid : (Lit.int .i64 id).wf = true) : (Instr.lookup 76 (.map (some mb)) (.int .i64 id) true).run Try.prog w = .ok (.tuple #[ven ((kget m id).getD en0), .bool (kget m id).isSome]) w := by
  obtain ⟨es, clock, hm, hM⟩ := h.map
  have L := hM.look_ok Try.underlying3 Try.underlying76 zeroEn hid w mb hm
  rw [ven_get] at L
  have hs : (kget (kv ven m) id).isSome = (kget m id).isSome := by rw [kget_kv]; cases kget m id <;> rfl
  rw [hs] at L
  exact L
set_option maxRecDepth 100000 in
set_option maxHeartbeats 4000000 in
theorem addV_c {w : World} {v mb : Nat} {own : C4} {m : VM} (h : VIs w v mb own m) (a b c d tick : Int) :
    Calls Try.prog 9 #[.pointer (some ⟨v, 0, none⟩), .agg #[.int .i64 a, .int .i64 b, .int .i64 c, .int .i64 d], .int .i64 tick] w (AddDone w v mb own m (a, b, c, d) tick) := by
  have CC := Lib.hid (fun wz => check_c a b c d wz)
  have T0 := (Turn.refl [] w).alloc (.cells #[.int .i64 a, .int .i64 b, .int .i64 c, .int .i64 d] 29)
  have B0 := Blk.new w 29 #[.int .i64 a, .int .i64 b, .int .i64 c, .int .i64 d]
  have hlt := h.lts
  have hle := h.le
  have HV := Lib.hid h
  have hri := h.rises
  have HRI := Lib.hid hri
  clear h hri
  by_cases hr : Right (a, b, c, d)
  · have hv : checkE (a, b, c, d) = 0 := by unfold checkE; rw [if_pos hr]
    rw [hv] at CC
    have HR := Lib.hid hr
    have wf : (Lit.int .i64 a).wf = true := hr.wf
    clear hv hr
    go_enter Try.func9, Try.ntmps9
    go_wp2_with fail
    refine (CC.out _).mono ?_
    rintro e w1 ⟨rfl, hT1⟩
    have T1 := T0.trans hT1
    have B1 := hT1.blk B0 (by simp)
    have V1 := HV.out.turn T1 (by simp) (by simp)
    have c0 := B1.cell 0
    have cl := B1.lt
    obtain ⟨o0, -, -, -, o4⟩ := V1.cells
    have vl := V1.lts
    have LK := V1.look_ok wf
    generalize hev : (kget m a).getD en0 = ev at *
    generalize hib : (kget m a).isSome = ib at *
    obtain ⟨⟨e1, e2, e3, e4⟩, dn, hd, sn, ic⟩ := ev
    have HEV := Lib.hid hev
    have HIB := Lib.hid hib
    have LKA : ∀ wy, Turn [] w1 wy → (Instr.lookup 76 (.map (some mb)) (.int .i64 a) true).run Try.prog wy = .ok (.tuple #[ven ⟨(e1, e2, e3, e4), dn, hd, sn, ic⟩, .bool ib]) wy := fun wy hy => by
      have := (V1.turn hy (by simp) (by simp)).look_ok wf
      rw [HEV.out, HIB.out] at this
      exact this
    unfold ven at LKA
    simp only at LKA
    have AE : ∀ wy, Turn [] w1 wy → (wy.cell? ⟨w.heap.size, 0, none⟩ = some (.int .i64 a) ∧ wy.cell? ⟨v, 4, none⟩ = some (.map (some mb)) ∧ (Instr.lookup 76 (.map (some mb)) (.int .i64 a) true).run Try.prog wy = .ok (.tuple #[.agg #[.int .i64 e1, .int .i64 e2, .int .i64 e3, .int .i64 e4, .bool dn, .int .i64 hd, .int .i64 sn, .int .i64 ic], .bool ib]) wy ∧ Turn [] w1 wy) := fun wy hy =>
      ⟨(hy.cell cl (by simp)).trans c0, (hy.cell vl.1 (by simp)).trans o4, LKA wy hy, hy⟩
    have AE' := Lib.hid AE
    have T10 := (Turn.refl [] w1).drew
    have HB1 := Lib.hid B1
    have HV1 := Lib.hid V1
    have HT1 := Lib.hid T1
    clear AE LKA LK c0 hev hib B1 V1 T1 hT1 o0 o4 T0 B0
    go_upto_region 6 with fail
    go_cut [8, 9] (fun x y wc => ∃ z, x = .pointer (some ⟨z, 0, none⟩) ∧ y = .bool ib ∧ w1.heap.size ≤ z ∧ Blk wc z 37 #[.int .i64 e1, .int .i64 e2, .int .i64 e3, .int .i64 e4, .bool dn, .int .i64 hd, .int .i64 sn, .int .i64 ic] ∧ Turn [] w1 wc)
    case first =>
      go_region_held3 (fun wy => wy.cell? ⟨w.heap.size, 0, none⟩ = some (.int .i64 a) ∧ wy.cell? ⟨v, 4, none⟩ = some (.map (some mb)) ∧ (Instr.lookup 76 (.map (some mb)) (.int .i64 a) true).run Try.prog wy = .ok (.tuple #[.agg #[.int .i64 e1, .int .i64 e2, .int .i64 e3, .int .i64 e4, .bool dn, .int .i64 hd, .int .i64 sn, .int .i64 ic], .bool ib]) wy ∧ Turn [] w1 wy)
        (first | exact AE'.out _ (by assumption) | exact AE'.out _ (((Turn.refl [] w1).alloc _).drew)) (fail)
      all_goals
        go_wp2_with fail
        go_meet
        case rel => exact ⟨w1.heap.size, rfl, rfl, Nat.le_refl _, by first | exact Blk.new w1 _ _ | exact (Turn.refl [] _).drew.blk (Blk.new w1 37 _) (by simp), by first | exact (Turn.refl [] w1).alloc _ | exact ((Turn.refl [] w1).alloc _).drew⟩
    case rest =>
      obtain ⟨z, rfl, rfl, hz, BZ, hT2⟩ := hcut
      generalize hwc : wc = w2 at *
      clear hwc
      have B2 := hT2.blk HB1.out (by simp)
      have V2 := HV1.out.turn hT2 (by simp) (by simp)
      obtain ⟨o0, -, -, -, -⟩ := V2.cells
      have vl2 := V2.lts
      have c0 := B2.cell 0
      have cl2 := B2.lt
      have HT2 := Lib.hid hT2
      have HBZ := Lib.hid BZ
      generalize hoid : own.1 = oid at *
      have HOID := Lib.hid hoid
      clear AE' hoid BZ B2 V2 hT2 vl cl
      go_upto_region 7 with fail
      go_cut [27] (fun x wc => x = .bool (a == oid) ∧ Turn [] w2 wc)
      case first =>
        go_quiet (fail)
        go_wp2_with fail
        go_meet
        case rel => exact ⟨rfl, (Turn.refl [] w2).drewN _⟩
      case rest =>
        obtain ⟨rfl, hT3⟩ := hcut
        generalize hwc : wc = w3 at *
        clear hwc
        have TT3 := HT2.out.trans hT3
        have B3 := TT3.blk HB1.out (by simp)
        have BZ3 := hT3.blk HBZ.out (by simp)
        have V3 := HV1.out.turn TT3 (by simp) (by simp)
        have T3 := HT1.out.trans TT3
        obtain ⟨-, -, -, -, p4⟩ := V3.cells
        have vl3 := V3.lts
        have d0 := B3.cell 0
        have d1 := B3.cell 1
        have d2 := B3.cell 2
        have d3 := B3.cell 3
        have dl := B3.lt
        have z0 := BZ3.cell 0
        have z1 := BZ3.cell 1
        have z2 := BZ3.cell 2
        have z3 := BZ3.cell 3
        have zl := BZ3.lt
        have HV3 := Lib.hid V3
        have HT3 := Lib.hid T3
        obtain ⟨es, ck, hmm, hMM⟩ := V3.map
        have LN := fun ty => hMM.len Try.underlying76 ty w3 mb hmm
        rw [kv_length] at LN
        clear BZ3 B3 V3 T3 hT3 TT3 c0 cl2 o0 vl2 hmm hMM
        by_cases hown : a = oid
        · have RS := Lib.hid (show addR own m (a, b, c, d) tick = (1, m) by unfold addR; rw [if_neg (fun hh => hh HR.out), if_pos (hown.trans HOID.out.symm)])
          have h1 : (a == oid) = true := by simpa using hown
          clear hown
          go_wp2_with fail
          go_ret
          exact ⟨by rw [RS.out]; simp, by rw [RS.out]; exact HV3.out, HT3.out.mono (by simp)⟩
        · have HO : Hid (¬ (a, b, c, d).1 = own.1) := fun h => hown (h.trans HOID.out)
          have h1 : (a == oid) = false := by simpa using hown
          clear hown
          have STO : Hid (∀ e : En, (kput m a e).length ≤ 16 → ∃ w4, (Instr.mapUpdate 76 (.map (some mb)) (.int .i64 a) (ven e)).run Try.prog w3.drew = .ok () w4 ∧ VIs w4 v mb own (kput m a e) ∧ Turn [mb] w w4) := fun e hl => by
            obtain ⟨w4, h1, h2, h3⟩ := (HV3.out.turn ((Turn.refl [] w3).drew) (by simp) (by simp)).store wf e hl
            exact ⟨w4, h1, h2, ((HT3.out.drew).mono (by simp)).trans h3⟩
          cases hk : kget m a with
          | some x =>
            have hib := HIB.out
            have hev := HEV.out
            rw [hk] at hib hev
            simp only [Option.isSome_some, Option.getD_some] at hib hev
            subst hib
            subst hev
            have HKL := Lib.hid (kput_length_old (v := (⟨(a, b, c, d), false, tick, 0, 0⟩ : En)) HRI.out (k := a) (by rw [hk]; simp))
            have HK := Lib.hid hk
            clear hk HEV HIB
            by_cases heq : e1 = a ∧ e2 = b ∧ e3 = c ∧ e4 = d
            · obtain ⟨rfl, rfl, rfl, rfl⟩ := heq
              have RS := Lib.hid (show addR own m (e1, e2, e3, e4) tick = (8, m) by unfold addR; rw [if_neg (fun hh => hh HR.out), if_neg HO.out]; simp only [HK.out]; simp)
              go_wp2_with fail
              go_ret
              exact ⟨by rw [RS.out]; simp, by rw [RS.out]; exact HV3.out, HT3.out.mono (by simp)⟩
            · have HNE : Hid (¬ ((e1, e2, e3, e4) : C4) = (a, b, c, d)) := fun h => heq (by simpa using h)
              by_cases hs : d ≤ e4
              · have RS := Lib.hid (show addR own m (a, b, c, d) tick = (9, m) by unfold addR; rw [if_neg (fun hh => hh HR.out), if_neg HO.out]; simp only [HK.out]; rw [if_neg HNE.out, if_pos hs])
                go_wp2_with fail
                all_goals first
                  | exact absurd ⟨by assumption, by assumption, by assumption, by assumption⟩ heq
                  | (go_ret
                     exact ⟨by rw [RS.out]; simp, by rw [RS.out]; exact HV3.out, HT3.out.mono (by simp)⟩)
              · have RS := Lib.hid (show addR own m (a, b, c, d) tick = (0, kput m a ⟨(a, b, c, d), false, tick, 0, 0⟩) by unfold addR; rw [if_neg (fun hh => hh HR.out), if_neg HO.out]; simp only [HK.out]; rw [if_neg HNE.out, if_neg hs])
                obtain ⟨w4, MU, V4, T4⟩ := STO.out ⟨(a, b, c, d), false, tick, 0, 0⟩ (by rw [HKL.out]; exact hle)
                have hs' : e4 < d := by omega
                have HV4 := Lib.hid V4
                have HT4 := Lib.hid T4
                unfold ven at MU
                simp only at MU
                clear V4 T4 hs heq LN
                go_wp2_with fail
                all_goals
                  go_region_law (fail)
                  all_goals
                    go_wp2_with fail
                    go_ret
                    exact ⟨by rw [RS.out]; simp, by rw [RS.out]; exact HV4.out, HT4.out⟩
          | none =>
            have hib := HIB.out
            rw [hk] at hib
            simp only [Option.isSome_none] at hib
            subst hib
            have hkl : (kput m a (⟨(a, b, c, d), false, tick, 0, 0⟩ : En)).length = m.length + 1 := kput_length_new hk
            have HKL := Lib.hid hkl
            have HK := Lib.hid hk
            clear hk hkl HEV HIB
            by_cases h16 : m.length = 16
            · have RS := Lib.hid (show addR own m (a, b, c, d) tick = (6, m) by unfold addR; rw [if_neg (fun hh => hh HR.out), if_neg HO.out]; simp only [HK.out]; rw [if_pos h16])
              have h2 : ((m.length : Int) == 16) = true := by simp; omega
              clear h16
              go_wp2_with fail
              go_ret
              exact ⟨by rw [RS.out]; simp, by rw [RS.out]; exact HV3.out, HT3.out.mono (by simp)⟩
            · have RS := Lib.hid (show addR own m (a, b, c, d) tick = (0, kput m a ⟨(a, b, c, d), false, tick, 0, 0⟩) by unfold addR; rw [if_neg (fun hh => hh HR.out), if_neg HO.out]; simp only [HK.out]; rw [if_neg h16])
              have h2 : ((m.length : Int) == 16) = false := by simp; omega
              obtain ⟨w4, MU, V4, T4⟩ := STO.out ⟨(a, b, c, d), false, tick, 0, 0⟩ (by rw [HKL.out]; omega)
              have HV4 := Lib.hid V4
              have HT4 := Lib.hid T4
              unfold ven at MU
              simp only at MU
              clear V4 T4 h16
              go_wp2_with fail
              go_region_law (fail)
              all_goals
                go_wp2_with fail
                go_ret
                exact ⟨by rw [RS.out]; simp, by rw [RS.out]; exact HV4.out, HT4.out⟩
  · have hv : checkE (a, b, c, d) = 10 := by unfold checkE; rw [if_neg hr]
    have RS := Lib.hid (show addR own m (a, b, c, d) tick = (10, m) by unfold addR; rw [if_pos hr])
    rw [hv] at CC
    clear hv hr
    go_enter Try.func9, Try.ntmps9
    go_wp2_with fail
    refine (CC.out _).mono ?_
    rintro e w1 ⟨rfl, hT1⟩
    have T1 := T0.trans hT1
    go_wp2_with fail
    go_ret
    exact ⟨by rw [RS.out]; simp, by rw [RS.out]; exact HV.out.turn T1 (by simp) (by simp), T1.mono (by simp)⟩
end Go.Proofs.Ytelagneielahhaa
