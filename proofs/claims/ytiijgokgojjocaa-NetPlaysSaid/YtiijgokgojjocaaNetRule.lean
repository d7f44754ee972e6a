/- A net's Rule, Rules, Bytes. -/
import Derived.Test.YtiijgokgojjocaaNetDue
import Derived.Test.YtiijgokgojjocaaIdxI
namespace Go.Proofs.Ytiijgokgojjocaa
open Go.RowKit Go.ChangeMaps Go.WideMaps Go.MapKept Go.WideShapes

instance (r : Rl) : Decidable (RlOk r) := by unfold RlOk; exact inferInstance
theorem enterRight (args : Array Value) (w : World) : (callFunc 45 args).run Try.prog w = .ok (.enter 45 args) w := by kernel_rfl
theorem right1_c (x : Int) (w : World) : Calls Try.prog 45 #[.int .i64 x] w fun e w' => e = .returned (.bool (decide (x < 0) || decide (100 < x))) ∧ Turn [] w w' := by
  by_cases h0 : x < 0
  · go_enter Try.func45, Try.ntmps45
    go_wp2_with fail
    go_ret
    exact ⟨by simp [h0], Turn.refl _ _⟩
  · have hd : Hid (decide (x < 0) = false) := by show _ = _; simpa using h0
    go_enter Try.func45, Try.ntmps45
    go_wp2_with fail
    go_ret
    exact ⟨by rw [hd.out]; simp, Turn.refl _ _⟩
set_option maxRecDepth 100000 in
set_option maxHeartbeats 2000000 in
theorem right_c (r : Rl) (w : World) : Calls Try.prog 39 #[.agg #[.int .i64 r.lose, .int .i64 r.twice, .int .i64 r.bend, .int .i64 r.late]] w fun e w' => e = .returned (.bool (decide (RlOk r))) ∧ Turn [] w w' := by
  obtain ⟨a, b, c, d⟩ := r
  simp only
  have T0 : Turn [] w ((w.alloc (.cells #[.int .i64 a, .int .i64 b, .int .i64 c, .int .i64 d] 67)).alloc (.cells #[.int .i64 a, .int .i64 b, .int .i64 c] 3)) := ((Turn.refl [] w).alloc _).alloc _
  have B0 : Blk ((w.alloc (.cells #[.int .i64 a, .int .i64 b, .int .i64 c, .int .i64 d] 67)).alloc (.cells #[.int .i64 a, .int .i64 b, .int .i64 c] 3)) w.heap.size 67 #[.int .i64 a, .int .i64 b, .int .i64 c, .int .i64 d] := (Blk.new w 67 #[.int .i64 a, .int .i64 b, .int .i64 c, .int .i64 d]).alloc _
  have SL : Sl ((w.alloc (.cells #[.int .i64 a, .int .i64 b, .int .i64 c, .int .i64 d] 67)).alloc (.cells #[.int .i64 a, .int .i64 b, .int .i64 c] 3)) (some ⟨w.heap.size + 1, 0, none⟩) (i64s [a, b, c]) := by
    have := Sl.new (w.alloc (.cells #[.int .i64 a, .int .i64 b, .int .i64 c, .int .i64 d] 67)) #[.int .i64 a, .int .i64 b, .int .i64 c] 3
    simpa [i64s] using this
  have CF := Lib.hid (containsFI_c 45 (fun x => decide (x < 0) || decide (100 < x)) _ 3 3 [a, b, c] _ SL rfl (by omega) enterRight (fun wz _ x => right1_c x wz))
  have hany : Hid (decide (RlOk ⟨a, b, c, d⟩) = (!([a, b, c].any (fun x => decide (x < 0) || decide (100 < x))) && (decide (1 ≤ d) && decide (d ≤ 64)))) := by
    show _ = _
    rw [Bool.eq_iff_iff, decide_eq_true_eq]
    unfold RlOk
    simp only [List.any_cons, List.any_nil, Bool.or_false, decide_eq_true_eq, Bool.and_eq_true, Bool.not_eq_true', Bool.or_eq_false_iff, decide_eq_false_iff_not]
    omega
  clear SL
  generalize [a, b, c].any (fun x => decide (x < 0) || decide (100 < x)) = bad at *
  go_enter Try.func39, Try.ntmps39
  go_wp2_with fail
  refine CF.out.mono ?_
  rintro e w1 ⟨rfl, hT1⟩
  have B1 := hT1.blk B0 (by simp)
  have c3 := B1.cell 3
  have cl := B1.lt
  have T1 := T0.trans hT1
  clear B0 T0 hT1
  cases bad with
  | true =>
    go_wp2_with fail
    go_ret
    exact ⟨by rw [hany.out]; simp, T1⟩
  | false =>
    by_cases h1 : 1 ≤ d
    · have HD : Hid (decide (1 ≤ d) = true) := by show _ = _; simpa using h1
      go_wp2_with fail
      go_ret
      exact ⟨by rw [hany.out, HD.out]; simp, T1⟩
    · have HD : Hid (decide (1 ≤ d) = false) := by show _ = _; simpa using h1
      go_wp2_with fail
      go_ret
      exact ⟨by rw [hany.out, HD.out]; simp, T1⟩
section
variable {w w' wr : World} {g d cb kb : Nat} {s : Int} {r : Rl} {cut : List (Int × Int)} {came : List ((Int × Int) × Int)} {base : Nat} {A : Option Addr} {n cap : Nat} {ms : List Ml} {sent lost told : Int}
/-- What Rule does. -/
def Ruled (w : World) (g d cb kb : Nat) (s : Int) (r r' : Rl) (cut : List (Int × Int)) (came : List ((Int × Int) × Int)) (base : Nat) (A : Option Addr) (n cap : Nat) (ms : List Ml) (sent lost told : Int) (e : Ending) (w' : World) : Prop :=
  e = .returned (.int .i64 (if RlOk r' then 0 else 10)) ∧ NetIs w' g d cb kb s (if RlOk r' then r' else r) cut came base A n cap ms sent lost told ∧ Turn [g] w w'
theorem NetIs.setRules (h : NetIs w g d cb kb s r cut came base A n cap ms sent lost told) {r' : Rl} (hr : RlOk r') :
    NetIs ((((w.setCell ⟨g, 1, none⟩ (.int .i64 r'.lose)).setCell ⟨g, 2, none⟩ (.int .i64 r'.twice)).setCell ⟨g, 3, none⟩ (.int .i64 r'.bend)).setCell ⟨g, 4, none⟩ (.int .i64 r'.late)) g d cb kb s r' cut came base A n cap ms sent lost told ∧ Turn [g] w ((((w.setCell ⟨g, 1, none⟩ (.int .i64 r'.lose)).setCell ⟨g, 2, none⟩ (.int .i64 r'.twice)).setCell ⟨g, 3, none⟩ (.int .i64 r'.bend)).setCell ⟨g, 4, none⟩ (.int .i64 r'.late)) := by
  have hap := h.apart
  have hlow := h.low
  have hA := own_ltA h.row
  have T : Turn [g] w ((((w.setCell ⟨g, 1, none⟩ (.int .i64 r'.lose)).setCell ⟨g, 2, none⟩ (.int .i64 r'.twice)).setCell ⟨g, 3, none⟩ (.int .i64 r'.bend)).setCell ⟨g, 4, none⟩ (.int .i64 r'.late)) := (((((Turn.refl [g] w).setCell (.inl (by simp)) _).setCell (.inl (by simp)) _).setCell (.inl (by simp)) _).setCell (.inl (by simp)) _)
  obtain ⟨es, k, h1, h2⟩ := h.cutm
  obtain ⟨es', k', h3, h4⟩ := h.camem
  exact ⟨⟨by simpa using (((h.blk.set_ 1 (.int .i64 r'.lose)).set_ 2 (.int .i64 r'.twice)).set_ 3 (.int .i64 r'.bend)).set_ 4 (.int .i64 r'.late), T.blk h.drw (by simpa using Ne.symm hap.1), ⟨es, k, T.obj h1 (by simpa using Ne.symm hap.2.1), h2⟩, ⟨es', k', T.obj h3 (by simpa using Ne.symm hap.2.2.1), h4⟩,
    own_turnA h.row T (fun i hi hm => by simp at hm; subst hm; have := (hA _ hi).2; omega), h.len, h.le, fun m hm => ⟨(h.mok m hm).1.turn T (fun i hi hm' => by simp at hm'; subst hm'; have := ((h.mok m hm).2 _ hi).1; omega), (h.mok m hm).2⟩, h.apart, h.low, Nat.le_trans h.lo T.size, hr⟩, T⟩
set_option maxRecDepth 100000 in
set_option maxHeartbeats 2000000 in
theorem rule_c (h : NetIs w g d cb kb s r cut came base A n cap ms sent lost told) (r' : Rl) :
    Calls Try.prog 22 #[.pointer (some ⟨g, 0, none⟩), .agg #[.int .i64 r'.lose, .int .i64 r'.twice, .int .i64 r'.bend, .int .i64 r'.late]] w (Ruled w g d cb kb s r r' cut came base A n cap ms sent lost told) := by
  have RC := Lib.hid (fun wz => right_c r' wz)
  have T0 := (Turn.refl [] w).alloc (.cells #[.int .i64 r'.lose, .int .i64 r'.twice, .int .i64 r'.bend, .int .i64 r'.late] 67)
  have B0 := Blk.new w 67 #[.int .i64 r'.lose, .int .i64 r'.twice, .int .i64 r'.bend, .int .i64 r'.late]
  have H := Lib.hid h
  clear h
  by_cases hr : RlOk r'
  · have hd : decide (RlOk r') = true := by simpa using hr
    rw [hd] at RC
    have HR := Lib.hid hr
    clear hd hr
    go_enter Try.func22, Try.ntmps22
    go_wp2_with fail
    refine (RC.out _).mono ?_
    rintro e w1 ⟨rfl, hT1⟩
    have T1 := T0.trans hT1
    have B1 := hT1.blk B0 (by simp)
    have N1 := H.out.turn T1 (by simp)
    have c0 := B1.cell 0
    have c1 := B1.cell 1
    have c2 := B1.cell 2
    have c3 := B1.cell 3
    have cl := B1.lt
    have f1 := N1.blk.frozen 1
    have f2 := N1.blk.frozen 2
    have f3 := N1.blk.frozen 3
    have f4 := N1.blk.frozen 4
    have gl := N1.lts.1
    obtain ⟨-, g1, g2, g3, g4, -⟩ := N1.cells
    have SR := Lib.hid (N1.setRules HR.out)
    have HT1 := Lib.hid T1
    clear N1 B0 B1 T0 hT1 T1
    go_wp2_with fail
    go_ret
    exact ⟨by rw [if_pos HR.out]; simp, by rw [if_pos HR.out]; exact SR.out.1, (HT1.out.mono (by simp)).trans SR.out.2⟩
  · have hd : decide (RlOk r') = false := by simpa using hr
    rw [hd] at RC
    have HR := Lib.hid hr
    clear hd hr
    go_enter Try.func22, Try.ntmps22
    go_wp2_with fail
    refine (RC.out _).mono ?_
    rintro e w1 ⟨rfl, hT1⟩
    have T1 := T0.trans hT1
    go_wp2_with fail
    go_ret
    exact ⟨by rw [if_neg HR.out]; simp, by rw [if_neg HR.out]; exact H.out.turn T1 (by simp), T1.mono (by simp)⟩
theorem rules_c (h : NetIs w g d cb kb s r cut came base A n cap ms sent lost told) :
    Calls Try.prog 27 #[.pointer (some ⟨g, 0, none⟩)] w fun e w' => e = .returned (.agg #[.int .i64 r.lose, .int .i64 r.twice, .int .i64 r.bend, .int .i64 r.late]) ∧ Turn [] w w' := by
  obtain ⟨-, g1, g2, g3, g4, -⟩ := h.cells
  have gl := h.lts.1
  clear h
  go_enter Try.func27, Try.ntmps27
  go_wp2_with fail
  refine bodyPost_ret (v := .agg #[.int .i64 r.lose, .int .i64 r.twice, .int .i64 r.bend, .int .i64 r.late]) ?_ rfl ⟨rfl, by first | exact (Turn.refl _ _).alloc _ | exact ((Turn.refl _ _).alloc _).setCell (.inr (by simp)) _⟩
  simp [results, Try.results27, go_sem]
set_option maxHeartbeats 1000000 in
theorem bytes_c (h : NetIs w g d cb kb s r cut came base A n cap ms sent lost told) (fr dst : Int) (hfr : wf64 fr) (hdst : wf64 dst) :
    Calls Try.prog 25 #[.pointer (some ⟨g, 0, none⟩), .int .i64 fr, .int .i64 dst] w fun e w' => e = .returned (.int .i64 ((pget came (fr, dst)).getD 0)) ∧ w = w' := by
  obtain ⟨-, -, -, -, -, -, -, g7, -⟩ := h.cells
  obtain ⟨es, k, h1, h2⟩ := h.camem
  have LK := h2.look keyedP keyP Try.underlying76 zeroI (x := (fr, dst)) ⟨hfr, hdst⟩ w kb h1
  rw [camePM_get] at LK
  unfold pk at LK
  simp only at LK
  have gl := h.lts.1
  clear h h2
  generalize (pget came (fr, dst)).getD 0 = v at *
  go_enter Try.func25, Try.ntmps25
  go_wp2_with fail
  go_ret
  exact ⟨by simp, rfl⟩
end
end Go.Proofs.Ytiijgokgojjocaa
