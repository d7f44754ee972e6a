/- A view's Doubt, Note. -/
import Derived.Test.YtelagneielahhaaVwFind
namespace Go.Proofs.Ytelagneielahhaa
open Go.RowKit Go.ChangeMaps Go.MapKept

theorem VIs.store {w : World} {v mb : Nat} {own : C4} {m : VM} (h : VIs w v mb own m) {id : Int} (hid : (Lit.int .i64 id).wf = true) (e : En) (hl : (kput m id e).length ≤ 16) :
    ∃ w', (Instr.mapUpdate 76 (.map (some mb)) (.int .i64 id) (ven e)).run Try.prog w = .ok () w' ∧ VIs w' v mb own (kput m id e) ∧ Turn [mb] w w' := by
  obtain ⟨es, clock, hm, hM⟩ := h.map
  obtain ⟨es', clock', h1, h2⟩ := hM.store Try.underlying3 Try.underlying76 (by rw [kv_length]; have := h.le; unfold maxLen; omega) hid (ven e)
  rw [kput_kv] at h1
  have T : Turn [mb] w (setBlock w mb (.map es' clock')) := (Turn.refl [mb] w).setBlock (.inl (by simp)) _
  exact ⟨_, h2 w mb hm, ⟨T.blk h.blk (by simpa using h.ne), ⟨es', clock', get_set hm _, h1⟩, hl, h.ne⟩, T⟩
def doubtR (m : VM) (id tick : Int) : Int × VM := match kget m id with
  | none => (7, m)
  | some e => if e.down then (8, m) else (0, kput m id { e with down := true, since := tick })
set_option maxRecDepth 100000 in
set_option maxHeartbeats 4000000 in
theorem doubtV_c {w : World} {v mb : Nat} {own : C4} {m : VM} (h : VIs w v mb own m) (id tick : Int) (hid : (Lit.int .i64 id).wf = true) :
    Calls Try.prog 14 #[.pointer (some ⟨v, 0, none⟩), .int .i64 id, .int .i64 tick] w fun e w' => e = .returned (.int .i64 (doubtR m id tick).1) ∧ VIs w' v mb own (doubtR m id tick).2 ∧ Turn [mb] w w' := by
  have FV := findV_c h id hid
  have HV := Lib.hid h
  have hl := h.lts
  unfold doubtR
  have hr := fun (e : En) (he : kget m id = some e) => kput_length_old (v := ({ e with down := true, since := tick } : En)) (show Rises m from by
    obtain ⟨es, clock, hm, hM⟩ := h.map
    have := hM.rises Try.underlying3
    unfold kv Rises at this
    rw [List.pairwise_map] at this
    exact this) (k := id) (by rw [he]; simp)
  have HR := Lib.hid hr
  unfold findE at FV
  clear h hr
  cases hk : kget m id with
  | none =>
    rw [hk] at FV
    have FV' := Lib.hid FV
    clear FV hk
    go_enter Try.func14, Try.ntmps14
    go_wp2_with fail
    refine FV'.out.mono ?_
    simp only [Option.getD_none, Option.isSome_none, Bool.false_eq_true, if_false, ven, en0]
    rintro e w1 ⟨rfl, hT⟩
    go_wp2_with fail
    go_ret
    exact ⟨by simp, HV.out.turn (hT.alloc _) (by simp) (by simp), (hT.alloc _).mono (by simp)⟩
  | some e =>
    rw [hk] at FV
    have hle := HR.out e hk
    have FV' := Lib.hid FV
    have HLE := Lib.hid hle
    clear FV hk hle HR
    obtain ⟨⟨x1, x2, x3, x4⟩, dn, hd, sn, ic⟩ := e
    cases dn with
    | true =>
      go_enter Try.func14, Try.ntmps14
      go_wp2_with fail
      refine FV'.out.mono ?_
      simp only [Option.getD_some, Option.isSome_some, if_true, ven]
      rintro e w1 ⟨rfl, hT⟩
      go_wp2_with fail
      go_ret
      exact ⟨by simp, HV.out.turn (hT.alloc _) (by simp) (by simp), (hT.alloc _).mono (by simp)⟩
    | false =>
      go_enter Try.func14, Try.ntmps14
      go_wp2_with fail
      refine FV'.out.mono ?_
      simp only [Option.getD_some, Option.isSome_some, if_true, ven]
      rintro e w1 ⟨rfl, hT⟩
      go_wp2_with fail
      have TA : Turn [] w ((w1.alloc (.cells #[.int .i64 x1, .int .i64 x2, .int .i64 x3, .int .i64 x4, .bool true, .int .i64 hd, .int .i64 tick, .int .i64 ic] 37)).drew) := (hT.alloc _).drew
      have V1 := HV.out.turn TA (by simp) (by simp)
      obtain ⟨w2, MU, V2, T2⟩ := V1.store hid ⟨(x1, x2, x3, x4), true, hd, tick, ic⟩ (by rw [HLE.out]; exact HV.out.le)
      have HV2 := Lib.hid V2
      have HT2 := Lib.hid ((TA.mono (by simp : ∀ i ∈ [], i ∈ [mb])).trans T2)
      have BE := Blk.new w1 37 #[.int .i64 x1, .int .i64 x2, .int .i64 x3, .int .i64 x4, .bool true, .int .i64 hd, .int .i64 tick, .int .i64 ic]
      obtain ⟨-, -, -, -, c4⟩ := (HV.out.turn (hT.alloc (.cells #[.int .i64 x1, .int .i64 x2, .int .i64 x3, .int .i64 x4, .bool true, .int .i64 hd, .int .i64 tick, .int .i64 ic] 37)) (by simp) (by simp)).cells
      have hz := hT.size
      unfold ven at MU
      simp only at MU
      clear V1 V2 T2 TA
      go_region_law (fail)
      all_goals
        go_wp2_with fail
        go_ret
        exact ⟨by simp, HV2.out, HT2.out⟩
def noteR (m : VM) (id inc : Int) : Int × VM := match kget m id with
  | none => (7, m)
  | some e => if inc ≤ e.inc then (9, m) else (0, kput m id { e with inc := inc })
set_option maxRecDepth 100000 in
set_option maxHeartbeats 4000000 in
theorem noteV_c {w : World} {v mb : Nat} {own : C4} {m : VM} (h : VIs w v mb own m) (id inc : Int) (hid : (Lit.int .i64 id).wf = true) :
    Calls Try.prog 15 #[.pointer (some ⟨v, 0, none⟩), .int .i64 id, .int .i64 inc] w fun e w' => e = .returned (.int .i64 (noteR m id inc).1) ∧ VIs w' v mb own (noteR m id inc).2 ∧ Turn [mb] w w' := by
  have FV := findV_c h id hid
  have HV := Lib.hid h
  have hl := h.lts
  unfold noteR
  have hr := fun (e : En) (he : kget m id = some e) => kput_length_old (v := ({ e with inc := inc } : En)) (show Rises m from by
    obtain ⟨es, clock, hm, hM⟩ := h.map
    have := hM.rises Try.underlying3
    unfold kv Rises at this
    rw [List.pairwise_map] at this
    exact this) (k := id) (by rw [he]; simp)
  have HR := Lib.hid hr
  unfold findE at FV
  clear h hr
  cases hk : kget m id with
  | none =>
    rw [hk] at FV
    have FV' := Lib.hid FV
    clear FV hk
    go_enter Try.func15, Try.ntmps15
    go_wp2_with fail
    refine FV'.out.mono ?_
    simp only [Option.getD_none, Option.isSome_none, Bool.false_eq_true, if_false, ven, en0]
    rintro e w1 ⟨rfl, hT⟩
    go_wp2_with fail
    go_ret
    exact ⟨by simp, HV.out.turn (hT.alloc _) (by simp) (by simp), (hT.alloc _).mono (by simp)⟩
  | some e =>
    rw [hk] at FV
    have hle := HR.out e hk
    have FV' := Lib.hid FV
    have HLE := Lib.hid hle
    clear FV hk hle HR
    obtain ⟨⟨x1, x2, x3, x4⟩, dn, hd, sn, ic⟩ := e
    by_cases hi : inc ≤ ic
    · have HN := Lib.hid (show (if inc ≤ ic then ((9 : Int), m) else (0, kput m id ⟨(x1, x2, x3, x4), dn, hd, sn, inc⟩)) = (9, m) from if_pos hi)
      go_enter Try.func15, Try.ntmps15
      go_wp2_with fail
      refine FV'.out.mono ?_
      simp only [Option.getD_some, Option.isSome_some, if_true, ven]
      rintro e w1 ⟨rfl, hT⟩
      go_wp2_with fail
      go_ret
      exact ⟨by first | (rw [HN.out]; simp) | simp, by first | exact HV.out.turn (hT.alloc _) (by simp) (by simp) | (rw [HN.out]; exact HV.out.turn (hT.alloc _) (by simp) (by simp)), (hT.alloc _).mono (by simp)⟩
    · have HN := Lib.hid (show (if inc ≤ ic then ((9 : Int), m) else (0, kput m id ⟨(x1, x2, x3, x4), dn, hd, sn, inc⟩)) = (0, kput m id ⟨(x1, x2, x3, x4), dn, hd, sn, inc⟩) from if_neg hi)
      go_enter Try.func15, Try.ntmps15
      go_wp2_with fail
      refine FV'.out.mono ?_
      simp only [Option.getD_some, Option.isSome_some, if_true, ven]
      rintro e w1 ⟨rfl, hT⟩
      go_wp2_with fail
      have TA : Turn [] w ((w1.alloc (.cells #[.int .i64 x1, .int .i64 x2, .int .i64 x3, .int .i64 x4, .bool dn, .int .i64 hd, .int .i64 sn, .int .i64 inc] 37)).drew) := (hT.alloc _).drew
      have V1 := HV.out.turn TA (by simp) (by simp)
      obtain ⟨w2, MU, V2, T2⟩ := V1.store hid ⟨(x1, x2, x3, x4), dn, hd, sn, inc⟩ (by rw [HLE.out]; exact HV.out.le)
      have HV2 := Lib.hid V2
      have HT2 := Lib.hid ((TA.mono (by simp : ∀ i ∈ [], i ∈ [mb])).trans T2)
      have BE := Blk.new w1 37 #[.int .i64 x1, .int .i64 x2, .int .i64 x3, .int .i64 x4, .bool dn, .int .i64 hd, .int .i64 sn, .int .i64 inc]
      obtain ⟨-, -, -, -, c4⟩ := (HV.out.turn (hT.alloc (.cells #[.int .i64 x1, .int .i64 x2, .int .i64 x3, .int .i64 x4, .bool dn, .int .i64 hd, .int .i64 sn, .int .i64 inc] 37)) (by simp) (by simp)).cells
      have hz := hT.size
      unfold ven at MU
      simp only at MU
      clear V1 V2 T2 TA hi
      go_region_law (fail)
      all_goals
        go_wp2_with fail
        go_ret
        exact ⟨by first | (rw [HN.out]; simp) | simp, by first | exact HV2.out | (rw [HN.out]; exact HV2.out), HT2.out⟩
end Go.Proofs.Ytelagneielahhaa
