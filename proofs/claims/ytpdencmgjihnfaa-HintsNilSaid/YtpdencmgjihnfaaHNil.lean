/- Nil hints; the walk of the law HintsNil. -/
import Derived.Test.YtpdencmgjihnfaaHints
import Derived.Deep.RegionHeld3
namespace Go.Proofs.Ytpdencmgjihnfaa
open Go.RowKit Go.ChangeMaps

theorem offer_nil (s t c1 c2 c3 c4 : Int) (w : World) :
    Calls Try.prog 28 #[.pointer none, .int .i64 s, .int .i64 t, .agg #[.int .i64 c1, .int .i64 c2, .int .i64 c3, .int .i64 c4]] w fun e w' => e = .returned (.int .i64 11) ∧ Turn [] w w' := by
  go_enter Try.func28, Try.ntmps28
  go_wp2_with fail
  go_ret
  exact ⟨by simp, (Turn.refl _ _).alloc _⟩
theorem next_nil (w : World) : Calls Try.prog 14 #[.pointer none] w fun e w' => e = .returned (.tuple #[.agg #[.int .i64 0, .int .i64 0, .int .i64 0, .int .i64 0], .bool false]) ∧ Turn [] w w' := by
  have LN : ∀ w, Calls Try.prog 22 #[.pointer none] w fun e w' => e = .returned (.int .i64 0) ∧ w = w' := fun w => by
    go_enter Try.func22, Try.ntmps22
    go_wp2_with fail
    go_ret
    exact ⟨by simp, rfl⟩
  go_enter Try.func14, Try.ntmps14
  go_wp2_with fail
  refine (LN _).mono ?_
  rintro e w1 ⟨rfl, rfl⟩
  go_wp2_with fail
  refine bodyPost_ret (v := .tuple #[.agg #[.int .i64 0, .int .i64 0, .int .i64 0, .int .i64 0], .bool false]) (by simp [results, Try.results14, go_sem]) rfl ⟨rfl, ?_⟩
  exact (Turn.refl _ _).alloc _
theorem hwaiting_nil (w : World) : Calls Try.prog 7 #[.pointer none] w fun e w' => e = .returned (.slice none 0 0) ∧ w = w' := by
  go_enter Try.func7, Try.ntmps7
  go_wp2_with fail
  go_ret
  exact ⟨by simp, rfl⟩
theorem hdrop_nil (A : Option Addr) (n c : Nat) (w : World) : Calls Try.prog 16 #[.pointer none, .slice A n c] w fun e w' => e = .returned (.int .i64 0) ∧ Turn [] w w' := by
  go_enter Try.func16, Try.ntmps16
  go_wp2_with fail
  go_ret
  exact ⟨by simp, by first | exact (Turn.refl _ _).alloc _ | exact Turn.refl _ _⟩
theorem hforget_nil (A : Option Addr) (n c : Nat) (w : World) : Calls Try.prog 19 #[.pointer none, .slice A n c] w fun e w' => e = .returned (.int .i64 0) ∧ w = w' := by
  go_enter Try.func19, Try.ntmps19
  go_wp2_with fail
  go_ret
  exact ⟨by simp, rfl⟩
theorem hleft_nil (s t : Int) (w : World) : Calls Try.prog 24 #[.pointer none, .int .i64 s, .int .i64 t] w fun e w' => e = .returned (.int .i64 0) ∧ w = w' := by
  go_enter Try.func24, Try.ntmps24
  go_wp2_with fail
  go_ret
  exact ⟨by simp, rfl⟩
theorem hlen_nil (w : World) : Calls Try.prog 22 #[.pointer none] w fun e w' => e = .returned (.int .i64 0) ∧ w = w' := by
  go_enter Try.func22, Try.ntmps22
  go_wp2_with fail
  go_ret
  exact ⟨by simp, rfl⟩

set_option maxRecDepth 100000 in
set_option maxHeartbeats 1000000 in
theorem offerAll_nil (s t : Int) (b o cb : Nat) (c1 c2 c3 c4 : Int) (w : World) (hB : Sl w (some ⟨b, o, none⟩) (ccs [(c1, c2, c3, c4)])) :
    Calls Try.prog 9 #[.pointer none, .int .i64 s, .int .i64 t, .slice (some ⟨b, o, none⟩) 1 cb] w fun e w' =>
      ∃ D cd, e = .returned (.slice D 1 cd) ∧ w'.ownsRow w.heap.size 25 1 (.slice D 1 cd) 1 (ents64 [11]) ∧ Turn [] w w' := by
  obtain ⟨b1, o1, hA, hbl, q0, q1, q2, q3⟩ := ccs_at hB (k := 0) (by simp)
  obtain ⟨rfl, rfl⟩ : b = b1 ∧ o = o1 := by simpa using hA
  simp only [List.getElem_cons_zero, Nat.zero_mul, Nat.add_zero] at q0 q1 q2 q3
  go_enter Try.func9, Try.ntmps9
  go_wp2_with fail
  go_step3
  go_wp2_with fail
  go_step3
  go_wp2_with fail
  go_loopw [9, 15] (fun out i wr => (i = .int .i64 0 ∧ out = .slice none 0 0 ∧ wr = w) ∨ (i = .int .i64 1 ∧ ∃ D cd, out = .slice D 1 cd ∧ wr.ownsRow w.heap.size 25 1 (.slice D 1 cd) 1 (ents64 [11]) ∧ Turn [] w wr)) (fun _ i _ => 1 - (intOf i).toNat)
  case atStart => exact .inl ⟨rfl, rfl, rfl⟩
  case round =>
    rcases hrel with ⟨rfl, rfl, rfl⟩ | ⟨rfl, D, cd, rfl, ho, hT⟩
    · go_wp2_with fail
      refine (offer_nil s t c1 c2 c3 c4 _).mono ?_
      rintro e w2 ⟨rfl, hT2⟩
      have hz2 := hT2.size
      simp only [World.size_alloc] at hz2
      go_wp2_with (at_builtin; go_must (refine wpList_append_sl elemE rfl _ _ rfl none 0 0 [] rfl (World.ownsRow_nil _ wr.heap.size _ _) (some ⟨w2.heap.size, 0, none⟩) 1 1 [.int .i64 11] rfl (Sl.new _ #[.int .i64 11] _) (by simp) (by simp [Value.oneCell']) (by omega) (by omega) (by simp; omega) ?_); intro D' cd' w3 hown3 hg3 hlie3)
      go_roundw
      case rel => exact .inr ⟨by go_num, D', cd', rfl, by simpa [ents64] using hown3, (((Turn.refl [] wr).alloc _).trans hT2 |>.alloc _).trans (by have := grown_turn hg3; simpa [blks] using this)⟩
      case measure => simp [intOf]
    · go_wp2_with fail
      try rw [Exit.noGoto_ret]
      go_ret
      exact ⟨D, cd, by simp, ho, hT⟩

set_option maxRecDepth 100000 in
set_option maxHeartbeats 4000000 in
theorem hnil_walk (c1 c2 c3 c4 n : Int) (w : World) :
    Calls Try.prog 5 #[.agg #[.int .i64 c1, .int .i64 c2, .int .i64 c3, .int .i64 c4], .int .i64 n] w fun e w' => e = .returned (.bool true) ∧ Turn [] w w' := by
  go_enter Try.func5, Try.ntmps5
  go_wp2_with fail
  refine (to_c c1 c2 c3 c4 _).mono ?_
  rintro e w1 ⟨rfl, hT1⟩
  go_wp2_with fail
  have T1 := ((Turn.refl [] w).alloc (.cells #[.int .i64 c1, .int .i64 c2, .int .i64 c3, .int .i64 c4] 37)).trans hT1
  have K0 := hT1.blk (Blk.new w 37 #[.int .i64 c1, .int .i64 c2, .int .i64 c3, .int .i64 c4]) (by simp)
  refine (offerAll_nil n n w1.heap.size 0 1 c1 c2 c3 c4 _ (Sl.new _ #[.int .i64 c1, .int .i64 c2, .int .i64 c3, .int .i64 c4] _)).mono ?_
  rintro e w2 ⟨D, cd, rfl, oD, hT2⟩
  have T2 := (T1.alloc (.cells #[.int .i64 c1, .int .i64 c2, .int .i64 c3, .int .i64 c4] 29)).trans hT2
  have K2 := hT2.blk (K0.alloc (.cells #[.int .i64 c1, .int .i64 c2, .int .i64 c3, .int .i64 c4] 29)) (by simp)
  obtain ⟨bd, od, rfl, lbd, dc⟩ := Sl.of_own oD (by simp [ents64])
  have d0 := dc 0 (.int .i64 11) rfl
  rw [Nat.add_zero] at d0
  clear dc oD K0
  go_wp2_with fail
  refine (next_nil _).mono ?_
  rintro e w3 ⟨rfl, hT3⟩
  have T3 := T2.trans hT3
  have K3 := hT3.blk K2 (by simp)
  have d3 := (hT3.cell (p := ⟨bd, od, none⟩) lbd (by simp)).trans d0
  have lbd3 := Nat.lt_of_lt_of_le lbd hT3.size
  clear d0 lbd K2
  go_wp2_with fail
  refine (hknown_c _).mono ?_
  rintro e w4 ⟨rfl, hT4⟩
  have T3a := (Turn.refl [] w3).alloc (.cells #[.int .i64 0, .int .i64 0, .int .i64 0, .int .i64 0] 29)
  have T34 := T3a.trans hT4
  have T4 := T3.trans T34
  have K4 := T34.blk K3 (by simp)
  have d4 := (T34.cell (p := ⟨bd, od, none⟩) lbd3 (by simp)).trans d3
  have m0 := K4.cell 0
  have m1 := K4.cell 1
  have m2 := K4.cell 2
  have m3 := K4.cell 3
  clear d3 lbd3
  go_wp2_with fail
  refine (hwaiting_nil _).mono ?_
  rintro e w5 ⟨rfl, rfl⟩
  go_wp2_with fail
  refine (to_c c1 c2 c3 c4 _).mono ?_
  rintro e w5 ⟨rfl, hT5⟩
  go_wp2_with fail
  refine (hdrop_nil _ _ _ _).mono ?_
  rintro e w6 ⟨rfl, hT6⟩
  have T6 := ((T4.trans hT5).alloc (.cells #[.int .i64 c1, .int .i64 c2, .int .i64 c3, .int .i64 c4] 29)).trans hT6
  go_wp2_with fail
  refine (hforget_nil _ _ _ _).mono ?_
  rintro e w7 ⟨rfl, rfl⟩
  go_wp2_with fail
  refine (hleft_nil _ _ _).mono ?_
  rintro e w7 ⟨rfl, rfl⟩
  go_wp2_with fail
  refine (hlen_nil _).mono ?_
  rintro e w7 ⟨rfl, rfl⟩
  go_wp2_with fail
  go_ret
  exact ⟨by simp, T6.alloc _⟩
end Go.Proofs.Ytpdencmgjihnfaa
