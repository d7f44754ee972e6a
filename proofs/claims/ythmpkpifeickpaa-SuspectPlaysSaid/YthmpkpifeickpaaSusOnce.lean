/- The walk of the law SuspectOnce. -/
import Derived.Test.YthmpkpifeickpaaSusK
namespace Go.Proofs.Ythmpkpifeickpaa
open Go.RowKit Go.ChangeMaps Go.MapKept

/-- One probe: open (and told or not), or none. -/
def one (id tk : Int) : Option Bool → PM
  | none => []
  | some b => [(id, tk, b)]
/-- A step's end for one probe: what is open; how many were told; how many failed. -/
def oneStep (tk t : Int) : Option Bool → Option Bool × Nat × Nat
  | none => (none, 0, 0)
  | some b => if tk ≤ t - 12 then (none, 0, 1) else if b = false ∧ tk ≤ t - 4 then (some true, 1, 0) else (some b, 0, 0)
theorem one_step (id tk t : Int) (o : Option Bool) : (stepM (one id tk o) t).1 = one id tk (oneStep tk t o).1 ∧ (stepM (one id tk o) t).2.1.length = (oneStep tk t o).2.1 ∧ (stepM (one id tk o) t).2.2.length = (oneStep tk t o).2.2 := by
  cases o with
  | none => exact ⟨rfl, rfl, rfl⟩
  | some b =>
    unfold oneStep
    by_cases h1 : tk ≤ t - 12
    · simp [h1, stepM, one, idsOf, failB, answerM, kdel, toldM]
    · by_cases h2 : tk ≤ t - 4
      · cases b <;> simp [h1, h2, stepM, one, idsOf, failB, toldB, answerM, kdel, toldM, stepSet, kput, kins, kget]
      · simp [h1, h2, stepM, one, idsOf, failB, toldB, answerM, kdel, toldM]

theorem umod_range (a k : Int) (h0 : 0 < k) (h1 : k ≤ 4611686018427387904) : 0 ≤ wrap64 ((IntKind.u64.wrap a).tmod k) ∧ wrap64 ((IntKind.u64.wrap a).tmod k) < k := by
  have g0 : 0 ≤ IntKind.u64.wrap a := by rw [IntKind.wrap_u64]; omega
  have g1 : (IntKind.u64.wrap a).tmod k = IntKind.u64.wrap a % k := Int.tmod_eq_emod_of_nonneg g0
  have g2 := Int.emod_nonneg (IntKind.u64.wrap a) (show k ≠ 0 by omega)
  have g3 := Int.emod_lt_of_pos (IntKind.u64.wrap a) h0
  have g4 : wrap64 (IntKind.u64.wrap a % k) = IntKind.u64.wrap a % k := IntWalk.wrap64_in _ (by omega)
  rw [g1, g4]
  exact ⟨g2, g3⟩
theorem oneStep_cases (tk t : Int) (o : Option Bool) : (o = none ∧ (oneStep tk t o).1 = none ∧ (oneStep tk t o).2.1 = 0 ∧ (oneStep tk t o).2.2 = 0) ∨ (∃ b, o = some b ∧ (oneStep tk t o).1 = none ∧ (oneStep tk t o).2.1 = 0 ∧ (oneStep tk t o).2.2 = 1) ∨
    (∃ b, o = some b ∧ (b = false ∧ (oneStep tk t o).1 = some true) ∧ (oneStep tk t o).2.1 = 1 ∧ (oneStep tk t o).2.2 = 0) ∨ (∃ b, o = some b ∧ (oneStep tk t o).1 = some b ∧ (oneStep tk t o).2.1 = 0 ∧ (oneStep tk t o).2.2 = 0) := by
  cases o with
  | none => exact .inl ⟨rfl, rfl, rfl, rfl⟩
  | some b =>
    unfold oneStep
    by_cases h1 : tk ≤ t - 12
    · simp [h1]
    · by_cases h2 : b = false ∧ tk ≤ t - 4
      · simp [h1, h2]
      · simp [h1, h2]
/-- What holds of a round. -/
structure OnceRel (k : Nat) (ans : Int) (o : Option Bool) (td fd : Nat) : Prop where
  some_ : ∀ b, o = some b → td = (if b = true then 1 else 0) ∧ fd = 0 ∧ (k : Int) ≤ ans
  none_ : o = none → td ≤ 1 ∧ fd ≤ 1
theorem OnceRel.next {k : Nat} {ans : Int} {o o2 : Option Bool} {td fd n n2 : Nat} (h : OnceRel k ans o td fd) (hk : (k : Int) < ans)
    (hc : (o = none ∧ o2 = none ∧ n = 0 ∧ n2 = 0) ∨ (∃ b, o = some b ∧ o2 = none ∧ n = 0 ∧ n2 = 1) ∨ (∃ b, o = some b ∧ (b = false ∧ o2 = some true) ∧ n = 1 ∧ n2 = 0) ∨ (∃ b, o = some b ∧ o2 = some b ∧ n = 0 ∧ n2 = 0)) :
    OnceRel (k + 1) ans o2 (td + n) (fd + n2) ∧ td + n ≤ 1 ∧ fd + n2 ≤ 1 := by
  rcases hc with ⟨rfl, rfl, rfl, rfl⟩ | ⟨b, rfl, rfl, rfl, rfl⟩ | ⟨b, rfl, ⟨rfl, rfl⟩, rfl, rfl⟩ | ⟨b, rfl, rfl, rfl, rfl⟩
  · have := h.none_ rfl
    exact ⟨⟨by simp, fun _ => by simpa using this⟩, by simpa using this.1, by simpa using this.2⟩
  · obtain ⟨h1, h2, h3⟩ := h.some_ b rfl
    have : td ≤ 1 := by rw [h1]; split <;> omega
    exact ⟨⟨by simp, fun _ => by omega⟩, by omega, by omega⟩
  · obtain ⟨h1, h2, h3⟩ := h.some_ false rfl
    simp at h1
    exact ⟨⟨fun b hb => by cases hb; simp; omega, by simp⟩, by omega, by omega⟩
  · obtain ⟨h1, h2, h3⟩ := h.some_ b rfl
    have : td ≤ 1 := by rw [h1]; split <;> omega
    exact ⟨⟨fun b' hb => by cases hb; exact ⟨by omega, by omega, by omega⟩, by simp⟩, by omega, by omega⟩

set_option maxRecDepth 100000 in
set_option maxHeartbeats 4000000 in
theorem sonce_walk (a0 a1 : Int) (A : Option Addr) (len cap : Nat) (xs : List Int) (a3 : Int) (w : World) (hx : Sl w A (i64s xs)) (hxn : xs.length = len) (hxm : cap ≤ maxLen) (hxc : len ≤ cap) :
    Calls Try.prog 3 #[.int .i64 a0, .int .i64 a1, .slice A len cap, .int .i64 a3] w fun e w' => e = .returned (.bool true) ∧ Turn [] w w' := by
  have HXN := Lib.hid hxn
  unfold maxLen at hxm
  clear hxn
  go_enter Try.func3, Try.ntmps3
  go_wp2_with fail
  have r0 := umod_range a0 65535 (by omega) (by omega)
  have r1 : 1 ≤ wrap64 (1 + wrap64 ((IntKind.u64.wrap a0).tmod 65535)) ∧ wrap64 (1 + wrap64 ((IntKind.u64.wrap a0).tmod 65535)) ≤ 65535 := by
    rw [show wrap64 (1 + wrap64 ((IntKind.u64.wrap a0).tmod 65535)) = 1 + wrap64 ((IntKind.u64.wrap a0).tmod 65535) from IntWalk.wrap64_in _ (by omega)]
    omega
  have r2 := umod_range a1 1000 (by omega) (by omega)
  generalize wrap64 (1 + wrap64 ((IntKind.u64.wrap a0).tmod 65535)) = id at *
  generalize wrap64 ((IntKind.u64.wrap a1).tmod 1000) = tk at *
  have hb1 : beginM [] id tk = (0, [(id, tk, false)]) := by
    unfold beginM
    rw [if_neg (by omega), if_neg (by simp [kget]), if_neg (by simp)]
    rfl
  refine (begin_c w.heap.size none [] id tk _ (PIs.fresh w)).mono ?_
  rw [hb1]
  rintro e w1 ⟨mb, rfl, hP1, hmb0, hT1⟩
  have T1 : Turn [] w w1 := ((Turn.refl [] w).alloc _).andThen hT1 (by simp)
  have hmb : ∀ b, mb = some b → b < w1.heap.size ∧ w.heap.size < b := fun b hb => by
    obtain ⟨h1, es, clock, h2, _⟩ := hP1.map b hb
    rcases hmb0 b hb with h | h
    · cases h
    · simp at h
      exact ⟨lt_of_some h2, by omega⟩
  have nof : ∀ i ∈ mb.toList, w.heap.size ≤ i := fun i hi => by have := (hmb i (by simpa using hi)).2; omega
  clear hb1 hmb0
  go_wp2_with fail
  have r3 := umod_range a3 50 (by omega) (by omega)
  generalize wrap64 ((IntKind.u64.wrap a3).tmod 50) = ans at *
  go_loopw [10, 11, 12] (fun td fd i wr => ∃ k : Nat, k ≤ len ∧ k ≤ 40 ∧ i = .int .i64 k ∧ ∃ (o : Option Bool) (td' fd' : Nat), td = .int .i64 td' ∧ fd = .int .i64 fd' ∧ PIs wr w.heap.size mb (one id tk o) ∧ Hid (OnceRel k ans o td' fd') ∧ td' ≤ 1 ∧ fd' ≤ 1 ∧ Turn mb.toList w1 wr) (fun _ _ i _ => 41 - (intOf i).toNat)
  case atStart => exact ⟨0, by omega, by omega, rfl, some false, 0, 0, rfl, rfl, hP1, Lib.hid ⟨fun b hb => by cases hb; exact ⟨rfl, rfl, by omega⟩, by simp⟩, by omega, by omega, Turn.refl _ _⟩
  case round =>
    obtain ⟨k, hk, hk40, rfl, o, td, fd, rfl, rfl, hP, HO, htd, hfd, hT⟩ := hrel
    have i0 : (0 : Int) ≤ (k : Int) := Int.natCast_nonneg _
    have hz1 := hT.size
    have hpl := hP.blk.lt
    have hzz := T1.size
    have Tw : Turn [] w wr := T1.andThen hT (fun i hi => .inr (nof i hi))
    by_cases hgo : k < len ∧ k < 40
    · obtain ⟨hlt, hlt40⟩ := hgo
      have i1 : (k : Int) < (len : Int) := by omega
      have i2 : (k : Int) < 40 := by omega
      have kx : k < xs.length := by rw [HXN.out]; exact hlt
      obtain ⟨bx, ox, rfl, lx, q0⟩ := i64s_at hx kx
      have HC := Lib.hid (fun (wz : World) (hz : Turn [] w wz) => And.intro ((hz.cell (p := ⟨bx, ox + k, none⟩) lx (by simp)).trans q0) (Nat.lt_of_lt_of_le lx hz.size))
      clear q0
      generalize xs[k] = xk at *
      have ttr := umod_range xk 1100 (by omega) (by omega)
      by_cases hka : (k : Int) = ans
      · have hka' : ((k : Int) == ans) = true := by simpa using hka
        have AN := Lib.hid (answer_c w.heap.size mb (one id tk o) (some ⟨wr.heap.size, 0, none⟩) 1 1 [id] _ (hP.turn ((Turn.refl [] wr).alloc (.cells #[.int .i64 id] 3)) (by simp) (by simp)) (Sl.new _ #[.int .i64 id] _) rfl (by omega) (by intro i hi; simp [blks] at hi; subst hi; exact ⟨by omega, fun hm => by have := (hmb _ hm).1; omega⟩) (by intro x hx; simp at hx; subst hx; simp [Lit.wf, IntKind.min, IntKind.max, IntKind.signed, IntKind.bits]; omega))
        have hge : ans ≤ (k : Int) := by omega
        clear hka
        cases o with
        | none =>
          have e1 : answerM (one id tk none) [id] = one id tk none := rfl
          rw [e1] at AN
          clear e1 hP
          go_wp2_with fail
          refine AN.out.mono ?_
          have hl0 : (one id tk none).length = 0 := rfl
          rw [hl0]
          rintro e w3 ⟨rfl, hP3, hT3⟩
          have T3 : Turn mb.toList w1 w3 := (hT.alloc _).trans hT3
          have TW3 : Turn [] w w3 := T1.andThen T3 (fun i hi => .inr (nof i hi))
          have z3 := T3.size
          obtain ⟨q3, lx3⟩ := HC.out w3 TW3
          have SP := Lib.hid (step_c w.heap.size mb (one id tk none) (wrap64 ((IntKind.u64.wrap xk).tmod 1100)) w3 hP3 (by omega) (by omega) (fun b hb => by have := (hmb b hb).1; omega))
          obtain ⟨f1, f2, f3⟩ := one_step id tk (wrap64 ((IntKind.u64.wrap xk).tmod 1100)) none
          have hcs := oneStep_cases tk (wrap64 ((IntKind.u64.wrap xk).tmod 1100)) none
          generalize oneStep tk (wrap64 ((IntKind.u64.wrap xk).tmod 1100)) none = V at *
          obtain ⟨o2, na, nb⟩ := V
          simp only at f1 f2 f3 hcs
          generalize stepM (one id tk none) (wrap64 ((IntKind.u64.wrap xk).tmod 1100)) = SM at *
          clear hP3
          go_wp2_with fail
          refine SP.out.mono ?_
          rintro e w5 ⟨D, n, c, E, n2, c2, rfl, oD, oE, hP5, hT5⟩
          have g1 : n = na := by have := oD.1; rw [i64s_len] at this; omega
          have g2 : n2 = nb := by have := oE.1; rw [i64s_len] at this; omega
          subst g1 g2
          rw [f1] at hP5
          have HP5 := Lib.hid hP5
          clear oD oE hP5 f1 f2 f3
          have HCS : o2 = none ∧ n = 0 ∧ n2 = 0 := by
            rcases hcs with ⟨_, h1, h2, h3⟩ | ⟨_, h0, _⟩ | ⟨_, h0, _⟩ | ⟨_, h0, _⟩
            · exact ⟨h1, h2, h3⟩
            · cases h0
            · cases h0
            · cases h0
          obtain ⟨ho2, hn0, hn20⟩ := HCS
          subst hn0 hn20 ho2
          clear hcs
          go_wp2_with fail
          go_roundw
          case rel => exact ⟨k + 1, by omega, by omega, by go_num, none, td, fd, by simp, by simp, HP5.out, Lib.hid ⟨by simp, fun _ => ⟨htd, hfd⟩⟩, htd, hfd, T3.trans hT5⟩
          case measure => simp [intOf]; omega
        | some b =>
          have e1 : answerM (one id tk (some b)) [id] = one id tk none := by simp [answerM, kdel, one]
          rw [e1] at AN
          clear e1 hP
          go_wp2_with fail
          refine AN.out.mono ?_
          have hl0 : (one id tk none).length = 0 := rfl
          have hl1 : (one id tk (some b)).length = 1 := rfl
          rw [hl0, hl1]
          rintro e w3 ⟨rfl, hP3, hT3⟩
          have T3 : Turn mb.toList w1 w3 := (hT.alloc _).trans hT3
          have TW3 : Turn [] w w3 := T1.andThen T3 (fun i hi => .inr (nof i hi))
          have z3 := T3.size
          have LN := Lib.hid (plen_c w.heap.size mb _ w3 hP3)
          rw [hl0] at LN
          go_wp2_with fail
          refine LN.out.mono ?_
          rintro e w4 ⟨rfl, rfl⟩
          obtain ⟨q3, lx3⟩ := HC.out w3 TW3
          have SP := Lib.hid (step_c w.heap.size mb (one id tk none) (wrap64 ((IntKind.u64.wrap xk).tmod 1100)) w3 hP3 (by omega) (by omega) (fun b hb => by have := (hmb b hb).1; omega))
          obtain ⟨f1, f2, f3⟩ := one_step id tk (wrap64 ((IntKind.u64.wrap xk).tmod 1100)) none
          have hcs := oneStep_cases tk (wrap64 ((IntKind.u64.wrap xk).tmod 1100)) none
          generalize oneStep tk (wrap64 ((IntKind.u64.wrap xk).tmod 1100)) none = V at *
          obtain ⟨o2, na, nb⟩ := V
          simp only at f1 f2 f3 hcs
          generalize stepM (one id tk none) (wrap64 ((IntKind.u64.wrap xk).tmod 1100)) = SM at *
          clear hP3
          go_wp2_with fail
          refine SP.out.mono ?_
          rintro e w5 ⟨D, n, c, E, n2, c2, rfl, oD, oE, hP5, hT5⟩
          have g1 : n = na := by have := oD.1; rw [i64s_len] at this; omega
          have g2 : n2 = nb := by have := oE.1; rw [i64s_len] at this; omega
          subst g1 g2
          rw [f1] at hP5
          have HP5 := Lib.hid hP5
          clear oD oE hP5 f1 f2 f3
          have HCS : o2 = none ∧ n = 0 ∧ n2 = 0 := by
            rcases hcs with ⟨_, h1, h2, h3⟩ | ⟨_, h0, _⟩ | ⟨_, h0, _⟩ | ⟨_, h0, _⟩
            · exact ⟨h1, h2, h3⟩
            · cases h0
            · cases h0
            · cases h0
          obtain ⟨ho2, hn0, hn20⟩ := HCS
          subst hn0 hn20 ho2
          clear hcs
          go_wp2_with fail
          go_roundw
          case rel => exact ⟨k + 1, by omega, by omega, by go_num, none, td, fd, by simp, by simp, HP5.out, Lib.hid ⟨by simp, fun _ => ⟨htd, hfd⟩⟩, htd, hfd, T3.trans hT5⟩
          case measure => simp [intOf]; omega
      · have hka' : ((k : Int) == ans) = false := by simpa using hka
        obtain ⟨q3, lx3⟩ := HC.out wr Tw
        have SP := Lib.hid (step_c w.heap.size mb (one id tk o) (wrap64 ((IntKind.u64.wrap xk).tmod 1100)) wr hP (by omega) (by omega) (fun b hb => by have := (hmb b hb).1; omega))
        obtain ⟨f1, f2, f3⟩ := one_step id tk (wrap64 ((IntKind.u64.wrap xk).tmod 1100)) o
        have hcs := oneStep_cases tk (wrap64 ((IntKind.u64.wrap xk).tmod 1100)) o
        generalize oneStep tk (wrap64 ((IntKind.u64.wrap xk).tmod 1100)) o = V at *
        obtain ⟨o2, na, nb⟩ := V
        simp only at f1 f2 f3 hcs
        generalize stepM (one id tk o) (wrap64 ((IntKind.u64.wrap xk).tmod 1100)) = SM at *
        clear hP
        go_wp2_with fail
        refine SP.out.mono ?_
        rintro e w5 ⟨D, n, c, E, n2, c2, rfl, oD, oE, hP5, hT5⟩
        have g1 : n = na := by have := oD.1; rw [i64s_len] at this; omega
        have g2 : n2 = nb := by have := oE.1; rw [i64s_len] at this; omega
        subst g1 g2
        rw [f1] at hP5
        have HP5 := Lib.hid hP5
        clear oD oE hP5 f1 f2 f3
        have HCS := Lib.hid hcs
        have na0 : (0 : Int) ≤ (n : Int) := Int.natCast_nonneg _
        have nb0 : (0 : Int) ≤ (n2 : Int) := Int.natCast_nonneg _
        have hnn : n ≤ 1 ∧ n2 ≤ 1 := by rcases hcs with ⟨_, _, h1, h2⟩ | ⟨_, _, _, h1, h2⟩ | ⟨_, _, _, h1, h2⟩ | ⟨_, _, _, h1, h2⟩ <;> omega
        obtain ⟨hn1, hn2⟩ := hnn
        clear hcs
        by_cases hge : ans ≤ (k : Int)
        · have hon : o = none := by
            cases ho : o with
            | none => rfl
            | some b => have := (HO.out.some_ b ho).2.2; omega
          have hz : o2 = none ∧ n = 0 ∧ n2 = 0 := by
            rcases HCS.out with ⟨_, h1, h2, h3⟩ | ⟨_, h0, _⟩ | ⟨_, h0, _⟩ | ⟨_, h0, _⟩
            · exact ⟨h1, h2, h3⟩
            · rw [hon] at h0; cases h0
            · rw [hon] at h0; cases h0
            · rw [hon] at h0; cases h0
          obtain ⟨ho2, hn0, hn20⟩ := hz
          subst hn0 hn20 ho2
          go_wp2_with fail
          go_roundw
          case rel => exact ⟨k + 1, by omega, by omega, by go_num, none, td, fd, by simp, by simp, HP5.out, Lib.hid ⟨by simp, fun _ => ⟨htd, hfd⟩⟩, htd, hfd, hT.trans hT5⟩
          case measure => simp [intOf]; omega
        · have hnx := HO.out.next (by omega) HCS.out
          have hnx' := Lib.hid hnx
          clear hnx
          go_wp2_with fail
          go_roundw
          case rel => exact ⟨k + 1, by omega, by omega, by go_num, o2, td + n, fd + n2, by go_num, by go_num, HP5.out, Lib.hid hnx'.out.1, hnx'.out.2.1, hnx'.out.2.2, hT.trans hT5⟩
          case measure => simp [intOf]; omega
    · have hlast : (fd = 0) ∨ (fd = 1 ∧ o = none) := by
        cases ho : o with
        | none =>
          by_cases hf : fd = 0
          · exact .inl hf
          · exact .inr ⟨by omega, rfl⟩
        | some b => exact .inl (HO.out.some_ b ho).2.1
      have t1 : (td : Int) ≤ 1 := by omega
      have t2 : (fd : Int) ≤ 1 := by omega
      rcases hlast with hf | ⟨hf, ho⟩
      · subst hf
        by_cases hkl : k < len
        · have i1 : (k : Int) < (len : Int) := by omega
          have i2 : ¬ (k : Int) < 40 := by omega
          go_wp2_with fail
          refine (known_c _).mono ?_
          rintro e w5 ⟨rfl, hT5⟩
          go_wp2_with fail
          go_ret
          exact ⟨by simp, Tw.trans hT5⟩
        · have i1 : ¬ (k : Int) < (len : Int) := by omega
          go_wp2_with fail
          refine (known_c _).mono ?_
          rintro e w5 ⟨rfl, hT5⟩
          go_wp2_with fail
          go_ret
          exact ⟨by simp, Tw.trans hT5⟩
      · subst hf ho
        have LN := Lib.hid (fun (wz : World) (hz : Turn [] wr wz) => plen_c w.heap.size mb _ wz (hP.turn hz (by simp) (by simp)))
        by_cases hkl : k < len
        · have i1 : (k : Int) < (len : Int) := by omega
          have i2 : ¬ (k : Int) < 40 := by omega
          go_wp2_with fail
          refine (known_c _).mono ?_
          rintro e w5 ⟨rfl, hT5⟩
          go_wp2_with fail
          refine (LN.out w5 hT5).mono ?_
          rintro e w6 ⟨rfl, rfl⟩
          have hl0 : (one id tk none).length = 0 := rfl
          rw [hl0]
          go_wp2_with fail
          go_ret
          exact ⟨by simp, Tw.trans hT5⟩
        · have i1 : ¬ (k : Int) < (len : Int) := by omega
          go_wp2_with fail
          refine (known_c _).mono ?_
          rintro e w5 ⟨rfl, hT5⟩
          go_wp2_with fail
          refine (LN.out w5 hT5).mono ?_
          rintro e w6 ⟨rfl, rfl⟩
          have hl0 : (one id tk none).length = 0 := rfl
          rw [hl0]
          go_wp2_with fail
          go_ret
          exact ⟨by simp, Tw.trans hT5⟩
end Go.Proofs.Ythmpkpifeickpaa
