/- symMerge where the left part is one mail. -/
import Derived.Test.YtiijgokgojjocaaMSymK
namespace Go.Proofs.Ytiijgokgojjocaa
open Go.RowKit Go.ChangeMaps Srt

set_option maxRecDepth 100000 in
set_option maxHeartbeats 2000000 in
theorem symA_c (g base N cap : Nat) (P : List Ml) (x : Ml) (R Q : List Ml) (w : World) (h : RowM w g base N cap (P ++ ([x] ++ (R ++ Q)))) (hR : Asc Ml.due R) (hD : ∀ m ∈ R, DueOk m) (hxD : DueOk x) (hN : N ≤ 1000000) (a m b : Nat) (ha : a = P.length) (hm : m = a + 1) (hb : b = a + 1 + R.length) :
    Calls Try.prog 49 #[.slice (some ⟨g, 0, none⟩) N cap, .int .i64 a, .int .i64 m, .int .i64 b, cmpV] w (Swapped w g base N cap (P ++ (mrg Ml.due [x] R ++ Q))) := by
  have hlen := h.len
  simp only [List.length_append, List.length_cons, List.length_nil] at hlen
  have HH := Lib.hid h
  have HR := Lib.hid hR
  have HD := Lib.hid hD
  have HA := Lib.hid ha
  have HB := Lib.hid hb
  have HM := Lib.hid hm
  have hbN : b ≤ N := by omega
  have haN : a < N := by omega
  have hmb : m ≤ b := by omega
  have s1 : ((m : Int) - (a : Int) == 1) = true := by simp; omega
  have s2 : IntKind.i64.wrap ((m : Int) - (a : Int)) = (m : Int) - (a : Int) := IntWalk.i64_in _ (by omega)
  have a1 : (a : Int) < (N : Int) := by omega
  have a0 : (0 : Int) ≤ (a : Int) := Int.natCast_nonneg _
  have ec := enterCmp
  have eX : (P ++ ([x] ++ (R ++ Q)))[a]? = some x := by
    rw [List.getElem?_append_right (by omega), show a - P.length = 0 by omega]
    rfl
  have eR : ∀ t, (ht : t < R.length) → (P ++ ([x] ++ (R ++ Q)))[m + t]? = some R[t] := fun t ht => by
    rw [List.getElem?_append_right (by omega), show m + t - P.length = t + 1 by omega, List.singleton_append, List.getElem?_cons_succ, List.getElem?_append_left ht, List.getElem?_eq_getElem ht]
  have EX := Lib.hid eX
  have ER := Lib.hid eR
  clear h hR hD ha hb hm hlen eX eR
  go_enter Try.func49, Try.ntmps49
  go_wp2_with fail
  go_loopw [10, 11] (fun ix jx wr => ∃ i j : Nat, m ≤ i ∧ i ≤ j ∧ j ≤ b ∧ ix = .int .i64 i ∧ jx = .int .i64 j ∧ Hid (∀ t, (ht : t < R.length) → m + t < i → R[t].due < x.due) ∧ Hid (∀ t, (ht : t < R.length) → j ≤ m + t → x.due ≤ R[t].due) ∧ Turn [] w wr) (fun ix jx _ => (intOf jx).toNat - (intOf ix).toNat)
  case atStart => exact ⟨m, b, by omega, by omega, by omega, rfl, rfl, Lib.hid (fun t ht h => absurd h (by omega)), Lib.hid (fun t ht h => absurd h (by have := HB.out; have := HM.out; omega)), Turn.refl _ _⟩
  case round =>
    obtain ⟨i, j, hmi, hij, hjb, rfl, rfl, hlo, hhi, hT⟩ := hrel
    obtain ⟨w1, rfl⟩ : ∃ wo : World, wo = wr := ⟨_, rfl⟩
    by_cases hlt : i < j
    · have i1 : (i : Int) < (j : Int) := by omega
      have u1 : IntKind.i64.wrap ((i : Int) + (j : Int)) = (i : Int) + (j : Int) := IntWalk.i64_in _ (by omega)
      have u2 := mid_u i j (by omega)
      have R1 := Lib.hid (HH.out.turn hT (by simp))
      obtain ⟨q, hq, hqe⟩ := mid_h i j
      have HQ := Lib.hid hqe
      have hqi : i ≤ q ∧ q < j := by omega
      have hqR : q - m < R.length := by have := HB.out; have := HM.out; omega
      have e1 := ER.out (q - m) hqR
      rw [show m + (q - m) = q by omega] at e1
      have AE' := Lib.hid (R1.out.two e1 EX.out)
      have hyD : DueOk R[q - m] := HD.out _ (List.getElem_mem hqR)
      have hlo1 : R[q - m].due < x.due → ∀ t, (ht : t < R.length) → m + t < q + 1 → R[t].due < x.due := fun hy t ht htq => by
        have := asc_get HR.out (s := t) (t := q - m) (by omega) hqR
        omega
      have hhi1 : ¬ R[q - m].due < x.due → ∀ t, (ht : t < R.length) → q ≤ m + t → x.due ≤ R[t].due := fun hy t ht htq => by
        have := asc_get HR.out (s := q - m) (t := t) (by omega) ht
        omega
      have HL1 := Lib.hid hlo1
      have HH1 := Lib.hid hhi1
      clear hqe hlo1 hhi1 e1
      generalize R[q - m] = y at *
      have CC := Lib.hid (fun wz => cmp_c y.due y.fr y.dst y.A y.n y.c x.due x.fr x.dst x.A x.n x.c wz hyD hxD)
      have q0 : (0 : Int) ≤ (q : Int) := Int.natCast_nonneg _
      have q1 : (q : Int) < (N : Int) := by omega
      have q2 : IntKind.i64.wrap ((q : Int) + 1) = (q : Int) + 1 := IntWalk.i64_in _ (by omega)
      have HQ2 := Lib.hid hq
      clear hq
      go_wp2_with fail
      rw [HQ2.out]
      clear u1 u2 i1
      have T10 : Turn [] w1 w1.drew := (Turn.refl _ w1).drew
      go_region_held3 (fun wy => wy.cell? ⟨g, q * 4, none⟩ = some (.int .i64 y.due) ∧ wy.cell? ⟨g, q * 4 + 1, none⟩ = some (.int .i64 y.fr) ∧ wy.cell? ⟨g, q * 4 + 2, none⟩ = some (.int .i64 y.dst) ∧ wy.cell? ⟨g, q * 4 + 3, none⟩ = some (.slice y.A y.n y.c) ∧
          wy.cell? ⟨g, a * 4, none⟩ = some (.int .i64 x.due) ∧ wy.cell? ⟨g, a * 4 + 1, none⟩ = some (.int .i64 x.fr) ∧ wy.cell? ⟨g, a * 4 + 2, none⟩ = some (.int .i64 x.dst) ∧ wy.cell? ⟨g, a * 4 + 3, none⟩ = some (.slice x.A x.n x.c) ∧ Turn [] w1 wy) (first | exact AE'.out _ (by assumption))
        ((go_at_call 34; refine (CC.out _).mono ?_; rintro e w3 ⟨rfl, hT3⟩; have T3 : Turn [] w1 w3 := T10.trans hT3))
      have hTT := hT.trans T3
      by_cases hyx : y.due < x.due
      · have hde : decide (y.due - x.due < 0) = true := by simp; omega
        go_wp2_with fail
        go_roundw
        case rel => exact ⟨q + 1, j, by omega, by omega, hjb, by go_num, rfl, Lib.hid (HL1.out (by omega)), hhi, hTT⟩
        case measure => simp [intOf]; omega
      · have hde : decide (y.due - x.due < 0) = false := by simp; omega
        go_wp2_with fail
        go_roundw
        case rel => exact ⟨i, q, hmi, by omega, by omega, rfl, rfl, hlo, Lib.hid (HH1.out (by omega)), hTT⟩
        case measure => simp [intOf]; omega
    · obtain rfl : i = j := by omega
      have i1 : ¬ (i : Int) < (i : Int) := by omega
      have hsp : ∃ R1 R2, R = R1 ++ R2 ∧ R1.length = i - m ∧ (∀ z ∈ R1, z.due < x.due) ∧ ∀ z ∈ R2, x.due ≤ z.due := by
        refine ⟨R.take (i - m), R.drop (i - m), (List.take_append_drop _ _).symm, by rw [List.length_take]; have := HB.out; have := HM.out; omega, fun z hz => ?_, fun z hz => ?_⟩
        · obtain ⟨t, ht, rfl⟩ := List.getElem_of_mem hz
          rw [List.length_take] at ht
          rw [List.getElem_take]
          exact hlo.out t (by omega) (by omega)
        · obtain ⟨t, ht, rfl⟩ := List.getElem_of_mem hz
          rw [List.length_drop] at ht
          rw [List.getElem_drop]
          exact hhi.out (i - m + t) (by omega) (by omega)
      obtain ⟨R1, R2, hRR, hR1, hlt1, hge2⟩ := hsp
      have hmrg : mrg Ml.due [x] R = R1 ++ x :: R2 := by
        have e1 := mrg_append (f := Ml.due) (L2 := [x]) (R2 := R2) [] R1 (by simp) (fun y hy z hz => by simp at hz; subst hz; exact hlt1 y hy)
        have e2 := mrg_append (f := Ml.due) (L2 := []) (R2 := R2) [x] [] (fun z hz y hy => by simp at hz; subst hz; exact hge2 y hy) (by simp)
        rw [hRR]
        simp only [List.nil_append, List.append_nil, mrg_nil_left, mrg_nil_right] at e1 e2
        rw [e1, e2]
        rfl
      have HMG := Lib.hid hmrg
      have HRR := Lib.hid hRR
      have HR1 := Lib.hid hR1
      have RW := Lib.hid (HH.out.turn hT (by simp))
      have k9 : IntKind.i64.wrap ((i : Int) - 1) = (i : Int) - 1 := IntWalk.i64_in _ (by omega)
      have him : m ≤ i := hmi
      clear hmrg hRR hR1 hlo hhi hlt1 hge2
      go_wp2_with fail
      go_loopw [13] (fun kx wr => ∃ t : Nat, t ≤ R1.length ∧ kx = .int .i64 ((a : Int) + (t : Int)) ∧ RowM wr g base N cap (P ++ ((R1.take t ++ x :: R1.drop t) ++ (R2 ++ Q))) ∧ Turn [g] w wr) (fun kx _ => a + R1.length - (intOf kx).toNat)
      case atStart => exact ⟨0, by omega, vi (by omega), by have := RW.out; rw [HRR.out] at this; simpa using this, hT.mono (by simp)⟩
      case round =>
        obtain ⟨t, ht, rfl, R3, hT3⟩ := hrel
        obtain ⟨w2, rfl⟩ : ∃ wo : World, wo = wr := ⟨_, rfl⟩
        by_cases hlt2 : t < R1.length
        · have z1 : (a : Int) + (t : Int) < (i : Int) - 1 := by have := HR1.out; have := HM.out; omega
          have hX : P ++ ((R1.take t ++ x :: R1.drop t) ++ (R2 ++ Q)) = (P ++ R1.take t) ++ x :: ([] ++ R1[t] :: (R1.drop (t + 1) ++ (R2 ++ Q))) := by
            rw [List.drop_eq_getElem_cons hlt2]
            simp only [List.append_assoc, List.cons_append, List.nil_append]
          have hX' : P ++ ((R1.take (t + 1) ++ x :: R1.drop (t + 1)) ++ (R2 ++ Q)) = (P ++ R1.take t) ++ R1[t] :: ([] ++ x :: (R1.drop (t + 1) ++ (R2 ++ Q))) := by
            rw [List.take_succ_eq_append_getElem hlt2]
            simp only [List.append_assoc, List.cons_append, List.nil_append]
          have hl1 : (P ++ R1.take t).length = a + t := by rw [List.length_append, List.length_take]; have := HA.out; omega
          have SW := swp_mid (P ++ R1.take t) [] (R1.drop (t + 1) ++ (R2 ++ Q)) x R1[t]
          rw [hl1, show a + t + 1 + ([] : List Ml).length = a + t + 1 by simp, ← hX'] at SW
          rw [hX] at R3
          have e1 : ((P ++ R1.take t) ++ x :: ([] ++ R1[t] :: (R1.drop (t + 1) ++ (R2 ++ Q))))[a + t]? = some x := by
            rw [List.getElem?_append_right (by omega), hl1, Nat.sub_self]
            rfl
          have e2 : ((P ++ R1.take t) ++ x :: ([] ++ R1[t] :: (R1.drop (t + 1) ++ (R2 ++ Q))))[a + t + 1]? = some R1[t] := by
            rw [List.getElem?_append_right (by omega), hl1, show a + t + 1 - (a + t) = 0 + 1 by omega]
            rfl
          unfold swp at SW
          have HSW := Lib.hid SW
          have hpl : a + t + 1 < N := by
            have := R3.len
            simp only [List.length_append, List.length_cons, List.length_nil] at this
            rw [List.length_append] at hl1
            omega
          clear SW hX hX' hl1
          generalize (P ++ R1.take t) ++ x :: ([] ++ R1[t] :: (R1.drop (t + 1) ++ (R2 ++ Q))) = X at *
          generalize R1[t] = y at *
          obtain ⟨p1, p2, p3, p4, r1, r2, r3, r4, -⟩ := R3.two e1 e2 w2 (Turn.refl _ _)
          obtain ⟨u1, u2, u3, u4, v1, v2, v3, v4, ⟨⟨-, f1⟩, ⟨d2, f2⟩, ⟨d3, f3⟩, ⟨d4, f4⟩⟩, ⟨⟨d5, f5⟩, ⟨d6, f6⟩, ⟨d7, f7⟩, ⟨d8, f8⟩⟩, R5, T5⟩ := R3.swap (p := a + t) (q := a + t + 1) (by omega) (by omega) y x
          have gl := R3.lt.1
          have R5' := Lib.hid R5
          have T5' := Lib.hid T5
          unfold st4 at d5 f5 d6 f6 d7 f7 d8 f8
          have t1 : IntKind.i64.wrap ((a : Int) + (t : Int) + 1) = (a : Int) + (t : Int) + 1 := IntWalk.i64_in _ (by omega)
          have t2 : ((a : Int) + (t : Int) + 1).toNat = a + t + 1 := by omega
          have t3 : ((a : Int) + (t : Int)).toNat = a + t := by omega
          have t4 : (a : Int) + (t : Int) + 1 < (N : Int) := by omega
          have t5 : (a : Int) + (t : Int) < (N : Int) := by omega
          have t6 : (0 : Int) ≤ (a : Int) + (t : Int) + 1 := by omega
          have t7 : (0 : Int) ≤ (a : Int) + (t : Int) := by omega
          clear R3 R5 T5 e1 e2
          go_wp2_with fail
          go_region_law (fail)
          all_goals
            go_wp2_with fail
            go_roundw
            case rel => exact ⟨t + 1, by omega, vi (by omega), by rw [← HSW.out]; exact R5'.out.turn ((Turn.refl [] _).drew) (by simp), (hT3.trans T5'.out).drew⟩
            case measure => simp [intOf]; omega
        · obtain rfl : t = R1.length := by omega
          have z1 : ¬ (a : Int) + (R1.length : Int) < (i : Int) - 1 := by have := HR1.out; have := HM.out; omega
          have R6 := Lib.hid (show RowM w2 g base N cap (P ++ (mrg Ml.due [x] R ++ Q)) by
            rw [HMG.out]
            simpa using R3)
          go_wp2_with fail
          go_end0
          exact ⟨rfl, R6.out, hT3⟩
end Go.Proofs.Ytiijgokgojjocaa
