/- A view's Hear and Has. -/
import Derived.Test.YtelagneielahhaaVwDoubt
import Derived.Test.YtelagneielahhaaVwAll
namespace Go.Proofs.Ytelagneielahhaa
open Go.RowKit Go.ChangeMaps Go.MapKept

/-- What Hear answers. -/
def hearR (m : VM) (c : C4) (tick : Int) : Int × VM := match kget m c.1 with
  | none => (7, m)
  | some e => if e.c = c then (0, kput m c.1 { e with down := false, since := 0, heard := max e.heard tick }) else (7, m)
/-- What Has answers. -/
def hasB (m : VM) (c : C4) : Bool := match kget m c.1 with
  | none => false
  | some e => decide (e.c = c)
theorem c4_cases (e1 e2 e3 e4 a b c d : Int) : (e1 = a ∧ e2 = b ∧ e3 = c ∧ e4 = d) ∨ (¬ ((e1, e2, e3, e4) : C4) = (a, b, c, d) ∧ ((e1 == a) = false ∨ (e1 = a ∧ (e2 == b) = false) ∨ (e1 = a ∧ e2 = b ∧ (e3 == c) = false) ∨ (e1 = a ∧ e2 = b ∧ e3 = c ∧ (e4 == d) = false))) := by
  by_cases h1 : e1 = a
  · by_cases h2 : e2 = b
    · by_cases h3 : e3 = c
      · by_cases h4 : e4 = d
        · exact .inl ⟨h1, h2, h3, h4⟩
        · exact .inr ⟨by simp [h4], .inr (.inr (.inr ⟨h1, h2, h3, by simpa using h4⟩))⟩
      · exact .inr ⟨by simp [h3], .inr (.inr (.inl ⟨h1, h2, by simpa using h3⟩))⟩
    · exact .inr ⟨by simp [h2], .inr (.inl ⟨h1, by simpa using h2⟩)⟩
  · exact .inr ⟨by simp [h1], .inl (by simpa using h1)⟩
set_option maxRecDepth 100000 in
set_option maxHeartbeats 4000000 in
theorem hearV_c {w : World} {v mb : Nat} {own : C4} {m : VM} (h : VIs w v mb own m) (a b c d tick : Int) (wf : (Lit.int .i64 a).wf = true) :
    Calls Try.prog 13 #[.pointer (some ⟨v, 0, none⟩), .agg #[.int .i64 a, .int .i64 b, .int .i64 c, .int .i64 d], .int .i64 tick] w fun e w' => e = .returned (.int .i64 (hearR m (a, b, c, d) tick).1) ∧ VIs w' v mb own (hearR m (a, b, c, d) tick).2 ∧ Turn [mb] w w' := by
  have T0 := (Turn.refl [] w).alloc (.cells #[.int .i64 a, .int .i64 b, .int .i64 c, .int .i64 d] 29)
  have B0 := Blk.new w 29 #[.int .i64 a, .int .i64 b, .int .i64 c, .int .i64 d]
  have FV := findV_c (h.turn T0 (by simp) (by simp)) a wf
  have HV := Lib.hid h
  have hl := h.lts
  have HR := Lib.hid (fun (e e' : En) (he : kget m a = some e) => kput_length_old (v := e') h.rises (k := a) (by rw [he]; simp))
  unfold hearR
  simp only
  unfold findE at FV
  clear h
  cases hk : kget m a with
  | none =>
    rw [hk] at FV
    have FV' := Lib.hid FV
    clear FV hk
    go_enter Try.func13, Try.ntmps13
    go_wp2_with fail
    refine FV'.out.mono ?_
    simp only [Option.getD_none, Option.isSome_none, Bool.false_eq_true, if_false, ven, en0]
    rintro e w1 ⟨rfl, hT⟩
    have T1 := (T0.trans hT).alloc (.cells #[.int .i64 0, .int .i64 0, .int .i64 0, .int .i64 0, .bool false, .int .i64 0, .int .i64 0, .int .i64 0] 37)
    go_wp2_with fail
    go_ret
    exact ⟨by simp, HV.out.turn T1 (by simp) (by simp), T1.mono (by simp)⟩
  | some e =>
    rw [hk] at FV
    have FV' := Lib.hid FV
    have HLE := Lib.hid (HR.out e { e with down := false, since := 0, heard := max e.heard tick } hk)
    clear FV hk HR
    obtain ⟨⟨x1, x2, x3, x4⟩, dn, hd, sn, ic⟩ := e
    rcases c4_cases x1 x2 x3 x4 a b c d with ⟨rfl, rfl, rfl, rfl⟩ | ⟨hne, hc⟩
    · simp only [if_true]
      go_enter Try.func13, Try.ntmps13
      go_wp2_with fail
      refine FV'.out.mono ?_
      simp only [Option.getD_some, Option.isSome_some, if_true, ven]
      rintro e w1 ⟨rfl, hT⟩
      have B1 := hT.blk B0 (by simp)
      have c0 := B1.cell 0
      have c1 := B1.cell 1
      have c2 := B1.cell 2
      have c3 := B1.cell 3
      have cl := B1.lt
      have T1 := T0.trans hT
      have HT1 := Lib.hid T1
      have HB1 := Lib.hid B1
      clear B1 T1 hT B0 T0 FV'
      have TA : Turn [] w ((w1.alloc (.cells #[.int .i64 x1, .int .i64 x2, .int .i64 x3, .int .i64 x4, .bool false, .int .i64 (max hd tick), .int .i64 0, .int .i64 ic] 37)).drew) := (HT1.out.alloc _).drew
      have V1 := HV.out.turn TA (by simp) (by simp)
      obtain ⟨w2, MU, V2, T2⟩ := V1.store wf ⟨(x1, x2, x3, x4), false, max hd tick, 0, ic⟩ (by rw [HLE.out]; exact HV.out.le)
      have HV2 := Lib.hid V2
      have HT2 := Lib.hid ((TA.mono (by simp : ∀ i ∈ [], i ∈ [mb])).trans T2)
      obtain ⟨-, -, -, -, c4⟩ := (HV.out.turn (HT1.out.alloc (.cells #[.int .i64 x1, .int .i64 x2, .int .i64 x3, .int .i64 x4, .bool false, .int .i64 (max hd tick), .int .i64 0, .int .i64 ic] 37)) (by simp) (by simp)).cells
      have hz := HT1.out.size
      unfold ven at MU
      simp only at MU
      clear V1 V2 T2 TA
      go_wp2_with fail

      go_region_law (fail)
      all_goals
        go_wp2_with fail
        go_ret
        exact ⟨by simp, HV2.out, HT2.out⟩
    · simp only
      rw [if_neg hne]
      go_enter Try.func13, Try.ntmps13
      go_wp2_with fail
      refine FV'.out.mono ?_
      simp only [Option.getD_some, Option.isSome_some, if_true, ven]
      rintro e w1 ⟨rfl, hT⟩
      have B1 := hT.blk B0 (by simp)
      have c0 := B1.cell 0
      have c1 := B1.cell 1
      have c2 := B1.cell 2
      have c3 := B1.cell 3
      have cl := B1.lt
      have T1 := T0.trans hT
      have HT1 := Lib.hid T1
      have HB1 := Lib.hid B1
      clear B1 T1 hT B0 T0 FV'
      have T2 := Lib.hid (HT1.out.alloc (.cells #[.int .i64 x1, .int .i64 x2, .int .i64 x3, .int .i64 x4, .bool dn, .int .i64 hd, .int .i64 sn, .int .i64 ic] 37))
      clear hne HLE
      rcases hc with h1 | ⟨rfl, h1⟩ | ⟨rfl, rfl, h1⟩ | ⟨rfl, rfl, rfl, h1⟩
      all_goals
        go_wp2_with fail
        go_ret
        exact ⟨by simp, HV.out.turn T2.out (by simp) (by simp), T2.out.mono (by simp)⟩
set_option maxRecDepth 100000 in
set_option maxHeartbeats 4000000 in
theorem hasV_c {w : World} {v mb : Nat} {own : C4} {m : VM} (h : VIs w v mb own m) (a b c d : Int) (wf : (Lit.int .i64 a).wf = true) :
    Calls Try.prog 19 #[.pointer (some ⟨v, 0, none⟩), .agg #[.int .i64 a, .int .i64 b, .int .i64 c, .int .i64 d]] w fun e w' => e = .returned (.bool (hasB m (a, b, c, d))) ∧ Turn [] w w' := by
  have T0 := (Turn.refl [] w).alloc (.cells #[.int .i64 a, .int .i64 b, .int .i64 c, .int .i64 d] 29)
  have B0 := Blk.new w 29 #[.int .i64 a, .int .i64 b, .int .i64 c, .int .i64 d]
  have FV := findV_c (h.turn T0 (by simp) (by simp)) a wf
  unfold hasB
  simp only
  unfold findE at FV
  clear h
  cases hk : kget m a with
  | none =>
    rw [hk] at FV
    have FV' := Lib.hid FV
    clear FV hk
    go_enter Try.func19, Try.ntmps19
    go_wp2_with fail
    refine FV'.out.mono ?_
    simp only [Option.getD_none, Option.isSome_none, Bool.false_eq_true, if_false, ven, en0]
    rintro e w1 ⟨rfl, hT⟩
    have T1 := (T0.trans hT).alloc (.cells #[.int .i64 0, .int .i64 0, .int .i64 0, .int .i64 0, .bool false, .int .i64 0, .int .i64 0, .int .i64 0] 37)
    go_wp2_with fail
    go_ret
    exact ⟨by simp, T1⟩
  | some e =>
    rw [hk] at FV
    have FV' := Lib.hid FV
    clear FV hk
    obtain ⟨⟨x1, x2, x3, x4⟩, dn, hd, sn, ic⟩ := e
    rcases c4_cases x1 x2 x3 x4 a b c d with ⟨rfl, rfl, rfl, rfl⟩ | ⟨hne, hc⟩
    · simp only [decide_true]
      go_enter Try.func19, Try.ntmps19
      go_wp2_with fail
      refine FV'.out.mono ?_
      simp only [Option.getD_some, Option.isSome_some, if_true, ven]
      rintro e w1 ⟨rfl, hT⟩
      have B1 := hT.blk B0 (by simp)
      have c0 := B1.cell 0
      have c1 := B1.cell 1
      have c2 := B1.cell 2
      have c3 := B1.cell 3
      have cl := B1.lt
      have T2 := Lib.hid ((T0.trans hT).alloc (.cells #[.int .i64 x1, .int .i64 x2, .int .i64 x3, .int .i64 x4, .bool dn, .int .i64 hd, .int .i64 sn, .int .i64 ic] 37))
      clear B1 hT B0 T0 FV'
      go_wp2_with fail
      all_goals
        go_ret
        exact ⟨by simp, by first | exact T2.out | exact T2.out.drew | exact T2.out.drewN _⟩
    · simp only
      rw [decide_eq_false hne]
      go_enter Try.func19, Try.ntmps19
      go_wp2_with fail
      refine FV'.out.mono ?_
      simp only [Option.getD_some, Option.isSome_some, if_true, ven]
      rintro e w1 ⟨rfl, hT⟩
      have B1 := hT.blk B0 (by simp)
      have c0 := B1.cell 0
      have c1 := B1.cell 1
      have c2 := B1.cell 2
      have c3 := B1.cell 3
      have cl := B1.lt
      have T2 := Lib.hid ((T0.trans hT).alloc (.cells #[.int .i64 x1, .int .i64 x2, .int .i64 x3, .int .i64 x4, .bool dn, .int .i64 hd, .int .i64 sn, .int .i64 ic] 37))
      clear B1 hT B0 T0 FV'
      clear hne
      rcases hc with h1 | ⟨rfl, h1⟩ | ⟨rfl, rfl, h1⟩ | ⟨rfl, rfl, rfl, h1⟩
      all_goals
        go_wp2_with fail
        go_ret
        exact ⟨by simp, by first | exact T2.out | exact T2.out.drew | exact T2.out.drewN _⟩
end Go.Proofs.Ytelagneielahhaa
