/- The chapter's example of layer 20; nil views; the walk of ViewNil. -/
import Derived.Test.YtelagneielahhaaVwSweep
import Derived.Test.YtelagneielahhaaVwAdd
namespace Go.Proofs.Ytelagneielahhaa
open Go.RowKit Go.ChangeMaps Go.MapKept

def kn1 : VM := [(6, ⟨(6, 0, 100, 2), false, 1, 0, 0⟩)]
def kn2 : VM := [(6, ⟨(6, 0, 100, 2), true, 1, 10, 0⟩)]
theorem kn_add : addR (5, 0, 0, 1) [] (6, 0, 100, 2) 1 = (0, kn1) := by
  unfold addR
  rw [if_neg (fun h => h (by unfold Right; simp)), if_neg (by simp)]
  simp [kget, kput, kins, kn1]
theorem kn_doubt : doubtR kn1 6 10 = (0, kn2) := by simp [doubtR, kn1, kn2, kget, kput, kins]
theorem kn_ok : VOk kn2 := ⟨by simp [kn2], by simp [kn2, Right]⟩
theorem kn_73 : suchL (goneB 73 []) (kn2.map (·.2)) = [] ∧ kn2.filter (fun q => !goneB 73 [] q.2) = kn2 := by
  constructor
  · simp [suchL, kn2, goneB]
  · simp [kn2, goneB]
theorem kn_74 : suchL (goneB 74 []) (kn2.map (·.2)) = [(6, 0, 100, 2)] := by simp [suchL, kn2, goneB]
theorem catL_nil : ∀ k, catL (fun _ => []) k = []
  | 0 => rfl
  | k + 1 => by rw [catL, catL_nil k]; rfl
set_option maxRecDepth 100000 in
set_option maxHeartbeats 4000000 in
theorem known_c (w : World) : Calls Try.prog 8 #[] w fun e w' => e = .returned (.bool true) ∧ Turn [] w w' := by
  go_enter Try.func8, Try.ntmps8
  go_wp2_with fail
  refine (newV_c 5 0 0 1 w (by unfold Right; simp)).mono ?_
  rintro e w1 ⟨v, mb, rfl, V1, hv, hmb, hT1⟩
  have TA := (Turn.refl [] w1).alloc (.cells #[.int .i64 6, .int .i64 0, .int .i64 100, .int .i64 2] 29)
  have AD := addV_c (V1.turn TA (by simp) (by simp)) 6 0 100 2 1
  unfold AddDone at AD
  rw [kn_add] at AD
  have HAD := Lib.hid AD
  clear AD V1
  go_wp2_with fail
  refine HAD.out.mono ?_
  rintro e w2 ⟨rfl, V2, hT2⟩
  have DB := doubtV_c V2 6 10 (by decide)
  rw [kn_doubt] at DB
  have HDB := Lib.hid DB
  clear DB V2
  go_wp2_with fail
  refine HDB.out.mono ?_
  rintro e w3 ⟨rfl, V3, hT3⟩
  have S1 := sweepV_c V3 kn_ok 73 none (fun _ => []) (nil_logs w3) (by omega) (by omega)
  unfold Swept at S1
  rw [catL_nil, kn_73.1, kn_73.2] at S1
  have HS1 := Lib.hid S1
  clear S1 V3
  go_wp2_with fail
  refine HS1.out.mono ?_
  rintro e w4 ⟨A4, n4, c4, rfl, o4, V4, hT4⟩
  obtain rfl : n4 = 0 := by have := o4.1; rw [ccs_len] at this; simp at this; omega
  have S2 := sweepV_c V4 kn_ok 74 none (fun _ => []) (nil_logs w4) (by omega) (by omega)
  unfold Swept at S2
  rw [catL_nil, kn_74] at S2
  have HS2 := Lib.hid S2
  clear S2 V4 o4
  go_wp2_with fail
  refine HS2.out.mono ?_
  rintro e w5 ⟨A5, n5, c5, rfl, o5, -, hT5⟩
  obtain rfl : n5 = 1 := by have := o5.1; rw [ccs_len] at this; simp at this; omega
  have TT : Turn [] w w5 := (hT1.trans TA).andThen (((hT2.trans hT3).trans hT4).trans hT5) (fun j hj => by simp at hj; subst hj; exact .inr hmb)
  clear o5
  go_wp2_with fail
  go_ret
  exact ⟨by simp, TT⟩

/-! ### nil views -/
theorem addNil (a b c d t : Int) (w : World) : Calls Try.prog 9 #[.pointer none, .agg #[.int .i64 a, .int .i64 b, .int .i64 c, .int .i64 d], .int .i64 t] w fun e w' => e = .returned (.int .i64 11) ∧ Turn [] w w' := by
  go_enter Try.func9, Try.ntmps9
  go_wp2_with fail
  go_ret
  exact ⟨by simp, (Turn.refl _ _).alloc _⟩
theorem findNil (id : Int) (w : World) : Calls Try.prog 12 #[.pointer none, .int .i64 id] w fun e w' => e = .returned (.tuple #[ven en0, .int .i64 11]) ∧ Turn [] w w' := by
  go_enter Try.func12, Try.ntmps12
  go_wp2_with fail
  refine bodyPost_ret (v := .tuple #[ven en0, .int .i64 11]) ?_ rfl ⟨by simp, ?_⟩
  · simp [results, Try.results12, go_sem, ven, en0]
  · first
      | exact ((Turn.refl _ _).alloc _).alloc _
      | exact (Turn.refl _ _).alloc _
      | exact ((Turn.refl _ _).alloc _).setCell (.inr (by simp)) _
theorem hearNil (a b c d t : Int) (w : World) : Calls Try.prog 13 #[.pointer none, .agg #[.int .i64 a, .int .i64 b, .int .i64 c, .int .i64 d], .int .i64 t] w fun e w' => e = .returned (.int .i64 11) ∧ Turn [] w w' := by
  have FN := Lib.hid (fun wz => findNil a wz)
  unfold ven en0 at FN
  simp only at FN
  have T0 := (Turn.refl [] w).alloc (.cells #[.int .i64 a, .int .i64 b, .int .i64 c, .int .i64 d] 29)
  go_enter Try.func13, Try.ntmps13
  go_wp2_with fail
  refine (FN.out _).mono ?_
  rintro e w1 ⟨rfl, hT⟩
  go_wp2_with fail
  go_ret
  exact ⟨by simp, (T0.trans hT).alloc _⟩
theorem hasNil (a b c d : Int) (w : World) : Calls Try.prog 19 #[.pointer none, .agg #[.int .i64 a, .int .i64 b, .int .i64 c, .int .i64 d]] w fun e w' => e = .returned (.bool false) ∧ Turn [] w w' := by
  have FN := Lib.hid (fun wz => findNil a wz)
  unfold ven en0 at FN
  simp only at FN
  have T0 := (Turn.refl [] w).alloc (.cells #[.int .i64 a, .int .i64 b, .int .i64 c, .int .i64 d] 29)
  go_enter Try.func19, Try.ntmps19
  go_wp2_with fail
  refine (FN.out _).mono ?_
  rintro e w1 ⟨rfl, hT⟩
  go_wp2_with fail
  go_ret
  exact ⟨by simp, (T0.trans hT).alloc _⟩
theorem doubtNil (a t : Int) (w : World) : Calls Try.prog 14 #[.pointer none, .int .i64 a, .int .i64 t] w fun e w' => e = .returned (.int .i64 11) ∧ Turn [] w w' := by
  have FN := Lib.hid (fun wz => findNil a wz)
  unfold ven en0 at FN
  simp only at FN
  go_enter Try.func14, Try.ntmps14
  go_wp2_with fail
  refine (FN.out _).mono ?_
  rintro e w1 ⟨rfl, hT⟩
  go_wp2_with fail
  go_ret
  exact ⟨by simp, hT.alloc _⟩
theorem noteNil (a t : Int) (w : World) : Calls Try.prog 15 #[.pointer none, .int .i64 a, .int .i64 t] w fun e w' => e = .returned (.int .i64 11) ∧ Turn [] w w' := by
  have FN := Lib.hid (fun wz => findNil a wz)
  unfold ven en0 at FN
  simp only at FN
  go_enter Try.func15, Try.ntmps15
  go_wp2_with fail
  refine (FN.out _).mono ?_
  rintro e w1 ⟨rfl, hT⟩
  go_wp2_with fail
  go_ret
  exact ⟨by simp, hT.alloc _⟩
theorem ownNil (w : World) : Calls Try.prog 20 #[.pointer none] w fun e w' => e = .returned (.agg #[.int .i64 0, .int .i64 0, .int .i64 0, .int .i64 0]) ∧ Turn [] w w' := by
  go_enter Try.func20, Try.ntmps20
  go_wp2_with fail
  refine bodyPost_ret (v := .agg #[.int .i64 0, .int .i64 0, .int .i64 0, .int .i64 0]) ?_ rfl ⟨by simp, ?_⟩
  · simp [results, Try.results20, go_sem]
  · first
      | exact (Turn.refl _ _).alloc _
      | exact ((Turn.refl _ _).alloc _).setCell (.inr (by simp)) _
theorem lenNilV (w : World) : Calls Try.prog 21 #[.pointer none] w fun e w' => e = .returned (.int .i64 0) ∧ w = w' := by
  go_enter Try.func21, Try.ntmps21
  go_wp2_with fail
  go_ret
  exact ⟨by simp, rfl⟩
set_option maxRecDepth 100000 in
set_option maxHeartbeats 2000000 in
theorem sweepNil (tick : Int) (w : World) :
    Calls Try.prog 16 #[.pointer none, .int .i64 tick, .pointer none] w fun e w' => ∃ A c, e = .returned (.slice A 0 c) ∧ Turn [] w w' := by
  have T0 : Turn [] w ((w.alloc (.cells #[.int .i64 tick] 3)).alloc (.cells #[.pointer none] 52)) := ((Turn.refl [] w).alloc _).alloc _
  have SC := Lib.hid (suchNil (w := (w.alloc (.cells #[.int .i64 tick] 3)).alloc (.cells #[.pointer none] 52)) 40 #[.pointer (some ⟨w.heap.size, 0, none⟩), .pointer (some ⟨w.heap.size + 1, 0, none⟩)] enterSw)
  go_enter Try.func16, Try.ntmps16
  go_wp2_with fail
  refine SC.out.mono ?_
  rintro e w1 ⟨A, c, rfl, -, hT1⟩
  go_wp2_with fail
  go_loopw [15] (fun i wr => i = .int .i64 0 ∧ w1 = wr) (fun _ _ => 0)
  case atStart => exact ⟨rfl, rfl⟩
  case round =>
    obtain ⟨rfl, rfl⟩ := hrel
    go_wp2_with fail
    go_ret
    exact ⟨A, c, by simp, T0.trans hT1⟩
theorem enterUp (args : Array Value) (w : World) : (callFunc 41 args).run Try.prog w = .ok (.enter 41 args) w := by kernel_rfl
/-- Who is up, but for some. -/
def upB (l : List Int) (x : En) : Bool := !x.down && !decide (x.c.1 ∈ l)
set_option maxRecDepth 100000 in
set_option maxHeartbeats 2000000 in
theorem up1_c (rb : Nat) (A : Option Addr) (n c : Nat) (l : List Int) (x : En) (w : World) (hl : Sl w A (i64s l)) (hn : l.length = n) (hb : n ≤ 1000000) (hr : w.cell? ⟨rb, 0, none⟩ = some (.slice A n c)) (hrl : rb < w.heap.size) :
    Calls Try.prog 41 #[ven x, .pointer (some ⟨rb, 0, none⟩)] w fun e w' => e = .returned (.bool (upB l x)) ∧ Turn [] w w' := by
  obtain ⟨⟨x1, x2, x3, x4⟩, dn, hd, sn, ic⟩ := x
  have T0 := (Turn.refl [] w).alloc (.cells #[.int .i64 x1, .int .i64 x2, .int .i64 x3, .int .i64 x4, .bool dn, .int .i64 hd, .int .i64 sn, .int .i64 ic] 37)
  have CC := Lib.hid (contains_c A n c l x1 _ (hl.turn0 T0) hn (by omega))
  clear hl hn
  unfold ven upB
  cases dn with
  | true =>
    go_enter Try.func41, Try.ntmps41
    go_wp2_with fail
    go_ret
    exact ⟨by simp, T0⟩
  | false =>
    go_enter Try.func41, Try.ntmps41
    go_wp2_with fail
    refine CC.out.mono ?_
    rintro e w2 ⟨rfl, rfl⟩
    simp only
    generalize hbb : decide (x1 ∈ l) = bb at *
    have HB := Lib.hid hbb
    clear hbb
    go_wp2_with fail
    go_ret
    exact ⟨by simp [HB.out], T0⟩
set_option maxRecDepth 100000 in
set_option maxHeartbeats 2000000 in
theorem upNil (w : World) : Calls Try.prog 18 #[.pointer none, .slice none 0 0] w fun e w' => e = .returned (.slice none 0 0) ∧ Turn [] w w' := by
  have T0 : Turn [] w (w.alloc (.cells #[.slice none 0 0] 45)) := (Turn.refl [] w).alloc _
  have SC := Lib.hid (suchNil (w := w.alloc (.cells #[.slice none 0 0] 45)) 41 #[.pointer (some ⟨w.heap.size, 0, none⟩)] enterUp)
  go_enter Try.func18, Try.ntmps18
  go_wp2_with fail
  refine SC.out.mono ?_
  rintro e w1 ⟨A, c, rfl, -, hT1⟩
  go_wp2_with fail
  go_loopw [5, 12] (fun x i wr => x = .slice none 0 0 ∧ i = .int .i64 0 ∧ w1 = wr) (fun _ _ _ => 0)
  case atStart => exact ⟨rfl, rfl, rfl⟩
  case round =>
    obtain ⟨rfl, rfl, rfl⟩ := hrel
    go_wp2_with fail
    go_ret
    exact ⟨by simp, T0.trans hT1⟩
end Go.Proofs.Ytelagneielahhaa
