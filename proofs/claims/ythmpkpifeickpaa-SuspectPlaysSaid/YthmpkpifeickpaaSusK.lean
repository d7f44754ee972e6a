/- The chapter's example of layer 22; nil probes; the walk of SuspectNil. -/
import Derived.Test.YthmpkpifeickpaaSusC
namespace Go.Proofs.Ythmpkpifeickpaa
open Go.RowKit Go.ChangeMaps Go.MapKept

theorem PIs.fresh (w : World) : PIs (w.alloc (.cells #[.map none] 25)) w.heap.size none [] :=
  ⟨Blk.new _ _ _, fun _ => rfl, fun b hb => (by cases hb), by simp, List.Pairwise.nil, by simp⟩
theorem kb1 : beginM [] 7 5 = (0, [(7, 5, false)]) := by decide +kernel
theorem ks1 : (stepM [(7, 5, false)] 8) = ([(7, 5, false)], [], []) := by decide +kernel
theorem ks2 : (stepM [(7, 5, false)] 9) = ([(7, 5, true)], [7], []) := by decide +kernel
theorem ks3 : (stepM [(7, 5, true)] 16) = ([(7, 5, true)], [], []) := by decide +kernel
theorem ks4 : (stepM [(7, 5, true)] 17) = ([], [], [7]) := by decide +kernel
set_option maxRecDepth 100000 in
set_option maxHeartbeats 1000000 in
theorem known_c (w : World) : Calls Try.prog 10 #[] w fun e w' => e = .returned (.bool true) ∧ Turn [] w w' := by
  go_enter Try.func10, Try.ntmps10
  go_wp2_with fail
  refine (begin_c w.heap.size none [] 7 5 _ (PIs.fresh w)).mono ?_
  rw [kb1]
  rintro e w1 ⟨mb, rfl, hP1, hmb, hT1⟩
  have T1 : Turn [] w w1 := ((Turn.refl [] w).alloc _).andThen hT1 (by simp)
  have hm1 : ∀ b, mb = some b → b < w1.heap.size ∧ w.heap.size < b := fun b hb => by
    obtain ⟨h1, es, clock, h2, _⟩ := hP1.map b hb
    rcases hmb b hb with h | h
    · cases h
    · simp at h
      exact ⟨lt_of_some h2, by omega⟩
  have fr : ∀ {wa wb wc : World}, Turn [] wa wb → Turn mb.toList wb wc → w.heap.size + 1 ≤ wc.heap.size → Turn mb.toList wa wc := fun h1 h2 _ => (h1.mono (by simp)).trans h2
  have nof : ∀ i ∈ mb.toList, w.heap.size ≤ i := fun i hi => by have := (hm1 i (by simpa using hi)).2; omega
  go_wp2_with fail
  refine (step_c w.heap.size mb _ 8 w1 hP1 (by decide) (by decide) (fun b hb => (hm1 b hb).1)).mono ?_
  rw [ks1]
  rintro e w2 ⟨D1, n1, c1, E1, k1, d1, rfl, oD1, oE1, hP2, hT2⟩
  have z2 := hT2.size
  have a1 : n1 = 0 := by have := oD1.1; simp [i64s] at this; omega
  have a2 : k1 = 0 := by have := oE1.1; simp [i64s] at this; omega
  subst a1 a2
  have T2 := T1.andThen hT2 (fun i hi => .inr (nof i hi))
  clear oD1 oE1 hP1
  go_wp2_with fail
  refine (step_c w.heap.size mb _ 9 w2 hP2 (by decide) (by decide) (fun b hb => by have := (hm1 b hb).1; omega)).mono ?_
  rw [ks2]
  rintro e w3 ⟨D2, n2, c2, E2, k2, d2, rfl, oD2, oE2, hP3, hT3⟩
  have z3 := hT3.size
  have a1 : n2 = 1 := by have := oD2.1; simp [i64s] at this; omega
  have a2 : k2 = 0 := by have := oE2.1; simp [i64s] at this; omega
  subst a1 a2
  have T3 := T2.andThen hT3 (fun i hi => .inr (nof i hi))
  clear oD2 oE2 hP2
  go_wp2_with fail
  refine (step_c w.heap.size mb _ 16 w3 hP3 (by decide) (by decide) (fun b hb => by have := (hm1 b hb).1; omega)).mono ?_
  rw [ks3]
  rintro e w4 ⟨D3, n3, c3, E3, k3, d3, rfl, oD3, oE3, hP4, hT4⟩
  have z4 := hT4.size
  have a1 : n3 = 0 := by have := oD3.1; simp [i64s] at this; omega
  have a2 : k3 = 0 := by have := oE3.1; simp [i64s] at this; omega
  subst a1 a2
  have T4 := T3.andThen hT4 (fun i hi => .inr (nof i hi))
  clear oD3 oE3 hP3
  go_wp2_with fail
  refine (step_c w.heap.size mb _ 17 w4 hP4 (by decide) (by decide) (fun b hb => by have := (hm1 b hb).1; omega)).mono ?_
  rw [ks4]
  rintro e w5 ⟨D4, n4, c4, E4, k4, d4, rfl, oD4, oE4, hP5, hT5⟩
  have a1 : n4 = 0 := by have := oD4.1; simp [i64s] at this; omega
  have a2 : k4 = 1 := by have := oE4.1; simp [i64s] at this; omega
  subst a1 a2
  have T5 := T4.andThen hT5 (fun i hi => .inr (nof i hi))
  clear oD4 oE4 hP4 hP5
  go_wp2_with fail
  go_ret
  exact ⟨by simp, T5⟩

theorem plen_nil (w : World) : Calls Try.prog 8 #[.pointer none] w fun e w' => e = .returned (.int .i64 0) ∧ w = w' := by
  go_enter Try.func8, Try.ntmps8
  go_wp2_with fail
  go_ret
  exact ⟨by simp, rfl⟩
theorem begin_nil (id t : Int) (w : World) : Calls Try.prog 6 #[.pointer none, .int .i64 id, .int .i64 t] w fun e w' => e = .returned (.int .i64 11) ∧ w = w' := by
  go_enter Try.func6, Try.ntmps6
  go_wp2_with fail
  go_ret
  exact ⟨by simp, rfl⟩
theorem such_nil (v : Value) (w : World) : Calls Try.prog 19 #[.pointer none, v] w fun e w' => e = .returned (.slice none 0 0) ∧ w = w' := by
  go_enter Try.func19, Try.ntmps19
  go_wp2_with fail
  go_ret
  exact ⟨by simp, rfl⟩
theorem since_nil (id : Int) (w : World) : Calls Try.prog 16 #[.pointer none, .int .i64 id] w fun e w' => e = .returned (.tuple #[.int .i64 0, .bool false]) ∧ w = w' := by
  go_enter Try.func16, Try.ntmps16
  go_wp2_with fail
  go_ret2
  exact ⟨by simp, rfl⟩
theorem open_nil (w : World) : Calls Try.prog 17 #[.pointer none] w fun e w' => e = .returned (.slice none 0 0) ∧ w = w' := by
  have hmf : ∀ (fn : Fn) (first cap : Array Value) (w : World), (Instr.makeFunc fn first cap).run Try.prog w = .ok (.func fn first cap) w := fun _ _ _ _ => rfl
  go_enter Try.func17, Try.ntmps17
  go_wp2_with fail
  refine (such_nil _ _).mono ?_
  rintro e w1 ⟨rfl, rfl⟩
  go_wp2_with fail
  go_ret
  exact ⟨by simp, rfl⟩
theorem direct_nil (w : World) : Calls Try.prog 18 #[.pointer none] w fun e w' => e = .returned (.slice none 0 0) ∧ w = w' := by
  have hmf : ∀ (fn : Fn) (first cap : Array Value) (w : World), (Instr.makeFunc fn first cap).run Try.prog w = .ok (.func fn first cap) w := fun _ _ _ _ => rfl
  go_enter Try.func18, Try.ntmps18
  go_wp2_with fail
  refine (such_nil _ _).mono ?_
  rintro e w1 ⟨rfl, rfl⟩
  go_wp2_with fail
  go_ret
  exact ⟨by simp, rfl⟩
set_option maxHeartbeats 1000000 in
theorem answer_nil (A : Option Addr) (n c : Nat) (l : List Int) (w : World) (hx : Sl w A (i64s l)) (hn : l.length = n) (hl : n ≤ 1000000) : Calls Try.prog 7 #[.pointer none, .slice A n c] w fun e w' => e = .returned (.int .i64 0) ∧ w = w' := by
  have HN := Lib.hid hn
  clear hn
  go_enter Try.func7, Try.ntmps7
  go_wp2_with fail
  refine (plen_nil _).mono ?_
  rintro e w1 ⟨rfl, rfl⟩
  go_wp2_with fail
  go_loopw [12] (fun i wr => ∃ k : Nat, k ≤ n ∧ i = .int .i64 k ∧ wr = w) (fun i _ => n - (intOf i).toNat)
  case atStart => exact ⟨0, Nat.zero_le _, rfl, rfl⟩
  case round =>
    obtain ⟨k, hk, rfl, hwr⟩ := hrel
    subst hwr
    have i0 : (0 : Int) ≤ (k : Int) := Int.natCast_nonneg _
    by_cases hlt : k < n
    · have i1 : (k : Int) < (n : Int) := by omega
      have kx : k < l.length := by rw [HN.out]; exact hlt
      obtain ⟨b1, o1, rfl, l1, q0⟩ := i64s_at hx kx
      generalize l[k] = x at *
      go_wp2_with fail
      go_roundw
      case rel => exact ⟨k + 1, by omega, by go_num, trivial⟩
      case measure => simp [intOf]; omega
    · obtain rfl : k = n := by omega
      have i1 : ¬ (k : Int) < (k : Int) := by omega
      go_wp2_with fail
      refine (plen_nil _).mono ?_
      rintro e w1 ⟨rfl, rfl⟩
      go_wp2_with fail
      go_ret
      exact ⟨by simp, rfl⟩
set_option maxHeartbeats 1000000 in
theorem step_nil (t : Int) (w : World) : Calls Try.prog 9 #[.pointer none, .int .i64 t] w fun e w' => e = .returned (.tuple #[.slice none 0 0, .slice none 0 0]) ∧ Turn [] w w' := by
  have hmf : ∀ (fn : Fn) (first cap : Array Value) (w : World), (Instr.makeFunc fn first cap).run Try.prog w = .ok (.func fn first cap) w := fun _ _ _ _ => rfl
  go_enter Try.func9, Try.ntmps9
  go_wp2_with fail
  refine (such_nil _ _).mono ?_
  rintro e w1 ⟨rfl, rfl⟩
  go_wp2_with fail
  refine (answer_nil none 0 0 [] _ (Sl.nil _ _) rfl (by omega)).mono ?_
  rintro e w1 ⟨rfl, rfl⟩
  go_wp2_with fail
  refine (such_nil _ _).mono ?_
  rintro e w1 ⟨rfl, rfl⟩
  go_wp2_with fail
  go_loopw [21] (fun i wr => i = .int .i64 0 ∧ wr = w.alloc (.cells #[.int .i64 t] 3)) (fun _ _ => 0)
  case atStart => exact ⟨rfl, rfl⟩
  case round =>
    obtain ⟨rfl, rfl⟩ := hrel
    go_wp2_with fail
    go_ret2
    exact ⟨by simp, (Turn.refl _ _).alloc _⟩

set_option maxRecDepth 100000 in
set_option maxHeartbeats 4000000 in
theorem snil_walk (id t : Int) (w : World) :
    Calls Try.prog 5 #[.int .i64 id, .int .i64 t] w fun e w' => e = .returned (.bool true) ∧ Turn [] w w' := by
  go_enter Try.func5, Try.ntmps5
  go_wp2_with fail
  refine (step_nil t _).mono ?_
  rintro e w1 ⟨rfl, hT1⟩
  go_wp2_with fail
  refine (since_nil id _).mono ?_
  rintro e w2 ⟨rfl, rfl⟩
  go_wp2_with fail
  refine (known_c _).mono ?_
  rintro e w2 ⟨rfl, hT2⟩
  go_wp2_with fail
  refine (begin_nil id t _).mono ?_
  rintro e w3 ⟨rfl, rfl⟩
  go_wp2_with fail
  refine (answer_nil (some ⟨w2.heap.size, 0, none⟩) 1 1 [id] _ (Sl.new _ #[.int .i64 id] _) rfl (by omega)).mono ?_
  rintro e w3 ⟨rfl, rfl⟩
  go_wp2_with fail
  refine (open_nil _).mono ?_
  rintro e w3 ⟨rfl, rfl⟩
  go_wp2_with fail
  refine (direct_nil _).mono ?_
  rintro e w3 ⟨rfl, rfl⟩
  go_wp2_with fail
  refine (plen_nil _).mono ?_
  rintro e w3 ⟨rfl, rfl⟩
  go_wp2_with fail
  go_ret
  exact ⟨by simp, (hT1.trans hT2).alloc _⟩
end Go.Proofs.Ythmpkpifeickpaa
