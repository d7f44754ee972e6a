/- symMerge where the right part is one mail. -/
import Derived.Test.YtiijgokgojjocaaMSymA
namespace Go.Proofs.Ytiijgokgojjocaa
open Go.RowKit Go.ChangeMaps Srt

set_option maxRecDepth 100000 in
set_option maxHeartbeats 2000000 in
theorem symB_c (g base N cap : Nat) (P L : List Ml) (y : Ml) (Q : List Ml) (w : World) (h : RowM w g base N cap (P ++ (L ++ ([y] ++ Q)))) (hL : Asc Ml.due L) (hD : ∀ m ∈ L, DueOk m) (hyD : DueOk y) (hN : N ≤ 1000000) (a m b : Nat) (ha : a = P.length) (hm : m = a + L.length) (hb : b = m + 1) (hL2 : 2 ≤ L.length) :
    Calls Try.prog 49 #[.slice (some ⟨g, 0, none⟩) N cap, .int .i64 a, .int .i64 m, .int .i64 b, cmpV] w (Swapped w g base N cap (P ++ (mrg Ml.due L [y] ++ Q))) := by
  have hlen := h.len
  simp only [List.length_append, List.length_cons, List.length_nil] at hlen
  have HH := Lib.hid h
  have HL := Lib.hid hL
  have HD := Lib.hid hD
  have HA := Lib.hid ha
  have HB := Lib.hid hb
  have HM := Lib.hid hm
  have hmN : m < N := by omega
  have ham : a + 2 ≤ m := by omega
  have s1 : ((m : Int) - (a : Int) == 1) = false := by simp; omega
  have s2 : IntKind.i64.wrap ((m : Int) - (a : Int)) = (m : Int) - (a : Int) := IntWalk.i64_in _ (by omega)
  have s3 : ((b : Int) - (m : Int) == 1) = true := by simp; omega
  have s4 : IntKind.i64.wrap ((b : Int) - (m : Int)) = (b : Int) - (m : Int) := IntWalk.i64_in _ (by omega)
  have a1 : (m : Int) < (N : Int) := by omega
  have a0 : (0 : Int) ≤ (m : Int) := Int.natCast_nonneg _
  have ec := enterCmp
  have eX : (P ++ (L ++ ([y] ++ Q)))[m]? = some y := by
    rw [List.getElem?_append_right (by omega), List.getElem?_append_right (by omega), show m - P.length - L.length = 0 by omega]
    rfl
  have eL : ∀ t, (ht : t < L.length) → (P ++ (L ++ ([y] ++ Q)))[a + t]? = some L[t] := fun t ht => by
    rw [List.getElem?_append_right (by omega), show a + t - P.length = t by omega, List.getElem?_append_left ht, List.getElem?_eq_getElem ht]
  have EX := Lib.hid eX
  have EL := Lib.hid eL
  clear h hL hD ha hb hm hlen eX eL
  go_enter Try.func49, Try.ntmps49
  go_wp2_with fail
  go_loopw [14, 15] (fun ix jx wr => ∃ i j : Nat, a ≤ i ∧ i ≤ j ∧ j ≤ m ∧ ix = .int .i64 i ∧ jx = .int .i64 j ∧ Hid (∀ t, (ht : t < L.length) → a + t < i → L[t].due ≤ y.due) ∧ Hid (∀ t, (ht : t < L.length) → j ≤ a + t → y.due < L[t].due) ∧ Turn [] w wr) (fun ix jx _ => (intOf jx).toNat - (intOf ix).toNat)
  case atStart => exact ⟨a, m, by omega, by omega, by omega, rfl, rfl, Lib.hid (fun t ht h => absurd h (by omega)), Lib.hid (fun t ht h => absurd h (by have := HM.out; omega)), Turn.refl _ _⟩
  case round =>
    obtain ⟨i, j, hmi, hij, hjb, rfl, rfl, hlo, hhi, hT⟩ := hrel
    obtain ⟨w1, rfl⟩ : ∃ wo : World, wo = wr := ⟨_, rfl⟩
    by_cases hlt : i < j
    · have i1 : (i : Int) < (j : Int) := by omega
      have u1 : IntKind.i64.wrap ((i : Int) + (j : Int)) = (i : Int) + (j : Int) := IntWalk.i64_in _ (by omega)
      have u2 := mid_u i j (by omega)
      have R1 := Lib.hid (HH.out.turn hT (by simp))
      obtain ⟨q, hq, hqe⟩ := mid_h i j
      have hqi : i ≤ q ∧ q < j := by omega
      have hqL : q - a < L.length := by have := HM.out; omega
      have e1 := EL.out (q - a) hqL
      rw [show a + (q - a) = q by omega] at e1
      have AE' := Lib.hid (R1.out.two EX.out e1)
      have hxD : DueOk L[q - a] := HD.out _ (List.getElem_mem hqL)
      have hlo1 : L[q - a].due ≤ y.due → ∀ t, (ht : t < L.length) → a + t < q + 1 → L[t].due ≤ y.due := fun hy t ht htq => by
        have := asc_get HL.out (s := t) (t := q - a) (by omega) hqL
        omega
      have hhi1 : ¬ L[q - a].due ≤ y.due → ∀ t, (ht : t < L.length) → q ≤ a + t → y.due < L[t].due := fun hy t ht htq => by
        have := asc_get HL.out (s := q - a) (t := t) (by omega) ht
        omega
      have HL1 := Lib.hid hlo1
      have HH1 := Lib.hid hhi1
      clear hqe hlo1 hhi1 e1
      generalize L[q - a] = x at *
      have CC := Lib.hid (fun wz => cmp_c y.due y.fr y.dst y.A y.n y.c x.due x.fr x.dst x.A x.n x.c wz hyD hxD)
      have q0 : (0 : Int) ≤ (q : Int) := Int.natCast_nonneg _
      have q1 : (q : Int) < (N : Int) := by omega
      have q2 : IntKind.i64.wrap ((q : Int) + 1) = (q : Int) + 1 := IntWalk.i64_in _ (by omega)
      have HQ2 := Lib.hid hq
      clear hq
      go_wp2_with fail
      rw [HQ2.out]
      clear u1 u2 i1
      have T10 : Turn [] w1 w1.drew := (Turn.refl _ w1).drew
      go_region_held3 (fun wy => wy.cell? ⟨g, m * 4, none⟩ = some (.int .i64 y.due) ∧ wy.cell? ⟨g, m * 4 + 1, none⟩ = some (.int .i64 y.fr) ∧ wy.cell? ⟨g, m * 4 + 2, none⟩ = some (.int .i64 y.dst) ∧ wy.cell? ⟨g, m * 4 + 3, none⟩ = some (.slice y.A y.n y.c) ∧
          wy.cell? ⟨g, q * 4, none⟩ = some (.int .i64 x.due) ∧ wy.cell? ⟨g, q * 4 + 1, none⟩ = some (.int .i64 x.fr) ∧ wy.cell? ⟨g, q * 4 + 2, none⟩ = some (.int .i64 x.dst) ∧ wy.cell? ⟨g, q * 4 + 3, none⟩ = some (.slice x.A x.n x.c) ∧ Turn [] w1 wy) (first | exact AE'.out _ (by assumption))
        ((go_at_call 34; refine (CC.out _).mono ?_; rintro e w3 ⟨rfl, hT3⟩; have T3 : Turn [] w1 w3 := T10.trans hT3))
      have hTT := hT.trans T3
      by_cases hyx : y.due < x.due
      · have hde : decide (y.due - x.due < 0) = true := by simp; omega
        rw [hde, Bool.not_true]
        go_wp2_with fail
        go_roundw
        case rel => exact ⟨i, q, hmi, by omega, by omega, rfl, rfl, hlo, Lib.hid (HH1.out (by omega)), hTT⟩
        case measure => simp [intOf]; omega
      · have hde : decide (y.due - x.due < 0) = false := by simp; omega
        rw [hde, Bool.not_false]
        go_wp2_with fail
        go_roundw
        case rel => exact ⟨q + 1, j, by omega, by omega, hjb, by go_num, rfl, Lib.hid (HL1.out (by omega)), hhi, hTT⟩
        case measure => simp [intOf]; omega
    · obtain rfl : i = j := by omega
      have i1 : ¬ (i : Int) < (i : Int) := by omega
      have hsp : ∃ L1 L2, L = L1 ++ L2 ∧ L1.length = i - a ∧ (∀ z ∈ L1, z.due ≤ y.due) ∧ ∀ z ∈ L2, y.due < z.due := by
        refine ⟨L.take (i - a), L.drop (i - a), (List.take_append_drop _ _).symm, by rw [List.length_take]; have := HM.out; omega, fun z hz => ?_, fun z hz => ?_⟩
        · obtain ⟨t, ht, rfl⟩ := List.getElem_of_mem hz
          rw [List.length_take] at ht
          rw [List.getElem_take]
          exact hlo.out t (by omega) (by omega)
        · obtain ⟨t, ht, rfl⟩ := List.getElem_of_mem hz
          rw [List.length_drop] at ht
          rw [List.getElem_drop]
          exact hhi.out (i - a + t) (by omega) (by omega)
      obtain ⟨L1, L2, hLL, hL1, hle1, hgt2⟩ := hsp
      have hmrg : mrg Ml.due L [y] = L1 ++ y :: L2 := by
        have e1 := mrg_append (f := Ml.due) (L2 := L2) (R2 := [y]) L1 [] (fun z hz u hu => by simp at hu; subst hu; exact hle1 z hz) (by simp)
        have e2 := mrg_append (f := Ml.due) (L2 := L2) (R2 := []) [] [y] (by simp) (fun u hu z hz => by simp at hu; subst hu; exact hgt2 z hz)
        rw [hLL]
        simp only [List.nil_append, List.append_nil, mrg_nil_left, mrg_nil_right] at e1 e2
        rw [e1, e2]
        rfl
      have hl2 : L1.length + L2.length = L.length := by rw [hLL, List.length_append]
      have HMG := Lib.hid hmrg
      have HLL := Lib.hid hLL
      have HL1 := Lib.hid hL1
      have HL2 : Hid (i + L2.length = m) := by show _ = _; have := HM.out; omega
      have RW := Lib.hid (HH.out.turn hT (by simp))
      clear hmrg hLL hL1 hlo hhi hle1 hgt2 hl2
      go_wp2_with fail
      go_loopw [17] (fun kx wr => ∃ t : Nat, t ≤ L2.length ∧ kx = .int .i64 ((i : Int) + (t : Int)) ∧ RowM wr g base N cap (P ++ ((L1 ++ (L2.take t ++ y :: L2.drop t)) ++ Q)) ∧ Turn [g] w wr) (fun kx _ => (intOf kx).toNat - i)
      case atStart => exact ⟨L2.length, by omega, vi (by have := HL2.out; omega), by have := RW.out; rw [HLL.out] at this; simpa using this, hT.mono (by simp)⟩
      case round =>
        obtain ⟨t, ht, rfl, R3, hT3⟩ := hrel
        obtain ⟨w2, rfl⟩ : ∃ wo : World, wo = wr := ⟨_, rfl⟩
        rcases Nat.eq_zero_or_pos t with rfl | htp
        · have z1 : ¬ (i : Int) < (i : Int) + ((0 : Nat) : Int) := by omega
          have z2 : ¬ (i : Int) < (i : Int) + 0 := by omega
          have R6 := Lib.hid (show RowM w2 g base N cap (P ++ (mrg Ml.due L [y] ++ Q)) by
            rw [HMG.out]
            simpa using R3)
          go_wp2_with fail
          go_end0
          exact ⟨rfl, R6.out, hT3⟩
        · obtain ⟨r, rfl⟩ : ∃ r, t = r + 1 := ⟨t - 1, by omega⟩
          have hr : r < L2.length := by omega
          have hX : P ++ ((L1 ++ (L2.take (r + 1) ++ y :: L2.drop (r + 1))) ++ Q) = (P ++ (L1 ++ L2.take r)) ++ L2[r] :: ([] ++ y :: (L2.drop (r + 1) ++ Q)) := by
            rw [List.take_succ_eq_append_getElem hr]
            simp only [List.append_assoc, List.cons_append, List.nil_append]
          have hX' : P ++ ((L1 ++ (L2.take r ++ y :: L2.drop r)) ++ Q) = (P ++ (L1 ++ L2.take r)) ++ y :: ([] ++ L2[r] :: (L2.drop (r + 1) ++ Q)) := by
            rw [List.drop_eq_getElem_cons hr]
            simp only [List.append_assoc, List.cons_append, List.nil_append]
          have hl1 : (P ++ (L1 ++ L2.take r)).length = i + r := by rw [List.length_append, List.length_append, List.length_take]; have := HA.out; have := HL1.out; omega
          have SW := swp_mid' (P ++ (L1 ++ L2.take r)) [] (L2.drop (r + 1) ++ Q) L2[r] y
          rw [hl1, show i + r + 1 + ([] : List Ml).length = i + r + 1 by simp, ← hX'] at SW
          rw [hX] at R3
          have e1 : ((P ++ (L1 ++ L2.take r)) ++ L2[r] :: ([] ++ y :: (L2.drop (r + 1) ++ Q)))[i + r]? = some L2[r] := by
            rw [List.getElem?_append_right (by omega), hl1, Nat.sub_self]
            rfl
          have e2 : ((P ++ (L1 ++ L2.take r)) ++ L2[r] :: ([] ++ y :: (L2.drop (r + 1) ++ Q)))[i + r + 1]? = some y := by
            rw [List.getElem?_append_right (by omega), hl1, show i + r + 1 - (i + r) = 0 + 1 by omega]
            rfl
          unfold swp at SW
          have HSW := Lib.hid SW
          have hpl : i + r + 1 < N := by have := HL2.out; omega
          clear SW hX hX' hl1
          generalize (P ++ (L1 ++ L2.take r)) ++ L2[r] :: ([] ++ y :: (L2.drop (r + 1) ++ Q)) = X at *
          generalize L2[r] = x at *
          have t1 : IntKind.i64.wrap ((i : Int) + ((r : Int) + 1) - 1) = (i : Int) + (r : Int) := by rw [IntWalk.i64_in _ (by omega)]; omega
          have t2 : ((i : Int) + ((r : Int) + 1)).toNat = i + r + 1 := by omega
          have t3 : ((i : Int) + (r : Int)).toNat = i + r := by omega
          have t4 : (i : Int) + ((r : Int) + 1) < (N : Int) := by omega
          have t5 : (i : Int) + (r : Int) < (N : Int) := by omega
          have t6 : (0 : Int) ≤ (i : Int) + ((r : Int) + 1) := by omega
          have t7 : (0 : Int) ≤ (i : Int) + (r : Int) := by omega
          have t8 : (i : Int) < (i : Int) + ((r : Int) + 1) := by omega
          obtain ⟨p1, p2, p3, p4, r1, r2, r3, r4, -⟩ := R3.two e1 e2 w2 (Turn.refl _ _)
          obtain ⟨u1, u2, u3, u4, v1, v2, v3, v4, ⟨⟨-, f1⟩, ⟨d2, f2⟩, ⟨d3, f3⟩, ⟨d4, f4⟩⟩, ⟨⟨d5, f5⟩, ⟨d6, f6⟩, ⟨d7, f7⟩, ⟨d8, f8⟩⟩, R5, T5⟩ := R3.swap (p := i + r + 1) (q := i + r) (by omega) (by omega) x y
          have gl := R3.lt.1
          have R5' := Lib.hid R5
          have T5' := Lib.hid T5
          unfold st4 at d5 f5 d6 f6 d7 f7 d8 f8
          clear R3 R5 T5 e1 e2
          have ecast : ((r + 1 : Nat) : Int) = (r : Int) + 1 := by omega
          rw [ecast]
          go_wp2_with fail
          go_region_law (fail)
          all_goals
            go_wp2_with fail
            go_roundw
            case rel => exact ⟨r, by omega, vi (by omega), by rw [← HSW.out]; exact R5'.out.turn ((Turn.refl [] _).drew) (by simp), (hT3.trans T5'.out).drew⟩
            case measure => simp [intOf]; omega
end Go.Proofs.Ytiijgokgojjocaa
