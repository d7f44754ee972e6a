/- symMerge. -/
import Derived.Test.YtiijgokgojjocaaMSymB
import Derived.Deep.DeepCutAuto
import Derived.Deep.CutBlock
namespace Go.Proofs.Ytiijgokgojjocaa
open Go.RowKit Go.ChangeMaps Srt

def SymOk (g base N cap k : Nat) : Prop :=
  ∀ (P L R Q : List Ml) (w : World), RowM w g base N cap (P ++ (L ++ (R ++ Q))) → L ≠ [] → R ≠ [] → Asc Ml.due L → Asc Ml.due R → (∀ m ∈ L, DueOk m) → (∀ m ∈ R, DueOk m) → L.length + R.length ≤ k → ∀ a m b : Nat, a = P.length → m = a + L.length → b = m + R.length →
    Calls Try.prog 49 #[.slice (some ⟨g, 0, none⟩) N cap, .int .i64 a, .int .i64 m, .int .i64 b, cmpV] w (Swapped w g base N cap (P ++ (mrg Ml.due L R ++ Q)))

/-- Where the two parts are cut. -/
theorem sym_cut {L R : List Ml} (hL : Asc Ml.due L) (hR : Asc Ml.due R) {i j : Nat} (hi : i ≤ L.length) (hj : j ≤ R.length)
    (h1 : i = 0 ∨ j = R.length ∨ ∃ x y, L[i - 1]? = some x ∧ R[j]? = some y ∧ x.due ≤ y.due) (h2 : j = 0 ∨ i = L.length ∨ ∃ y x, R[j - 1]? = some y ∧ L[i]? = some x ∧ y.due < x.due) :
    mrg Ml.due L R = mrg Ml.due (L.take i) (R.take j) ++ mrg Ml.due (L.drop i) (R.drop j) := by
  have e := mrg_append (f := Ml.due) (L2 := L.drop i) (R2 := R.drop j) (L.take i) (R.take j) (fun x hx y hy => ?_) (fun y hy x hx => ?_)
  · rw [List.take_append_drop, List.take_append_drop] at e
    exact e
  · obtain ⟨s, hs, rfl⟩ := List.getElem_of_mem hx
    obtain ⟨t, ht, rfl⟩ := List.getElem_of_mem hy
    rw [List.length_take] at hs
    rw [List.length_drop] at ht
    rw [List.getElem_take, List.getElem_drop]
    rcases h1 with h1 | h1 | ⟨u, v, hu, hv, huv⟩
    · omega
    · omega
    · obtain ⟨k1, rfl⟩ := List.getElem?_eq_some_iff.1 hu
      obtain ⟨k2, rfl⟩ := List.getElem?_eq_some_iff.1 hv
      have a1 := asc_get hL (s := s) (t := i - 1) (by omega) k1
      have a2 := asc_get hR (s := j) (t := j + t) (by omega) (by omega)
      omega
  · obtain ⟨s, hs, rfl⟩ := List.getElem_of_mem hx
    obtain ⟨t, ht, rfl⟩ := List.getElem_of_mem hy
    rw [List.length_take] at ht
    rw [List.length_drop] at hs
    rw [List.getElem_take, List.getElem_drop]
    rcases h2 with h2 | h2 | ⟨u, v, hu, hv, huv⟩
    · omega
    · omega
    · obtain ⟨k1, rfl⟩ := List.getElem?_eq_some_iff.1 hu
      obtain ⟨k2, rfl⟩ := List.getElem?_eq_some_iff.1 hv
      have a1 := asc_get hR (s := t) (t := j - 1) (by omega) k1
      have a2 := asc_get hL (s := i) (t := i + s) (by omega) (by omega)
      omega

set_option maxRecDepth 100000 in
set_option maxHeartbeats 4000000 in
theorem symC_c (g base N cap k : Nat) (IH : SymOk g base N cap k) (P L R Q : List Ml) (w : World) (h : RowM w g base N cap (P ++ (L ++ (R ++ Q)))) (hL : Asc Ml.due L) (hR : Asc Ml.due R) (hDL : ∀ m ∈ L, DueOk m) (hDR : ∀ m ∈ R, DueOk m) (hN : N ≤ 1000000) (a m b : Nat) (ha : a = P.length) (hm : m = a + L.length) (hb : b = m + R.length) (hL2 : 2 ≤ L.length) (hR2 : 2 ≤ R.length) (hk : L.length + R.length ≤ k + 1) :
    Calls Try.prog 49 #[.slice (some ⟨g, 0, none⟩) N cap, .int .i64 a, .int .i64 m, .int .i64 b, cmpV] w (Swapped w g base N cap (P ++ (mrg Ml.due L R ++ Q))) := by
  have hlen := h.len
  simp only [List.length_append] at hlen
  have HH := Lib.hid h
  have HL := Lib.hid hL
  have HR := Lib.hid hR
  have HDL := Lib.hid hDL
  have HDR := Lib.hid hDR
  have HA := Lib.hid ha
  have HB := Lib.hid hb
  have HM := Lib.hid hm
  have HIH := Lib.hid IH
  have hbN : b ≤ N := by omega
  have ham : a + 2 ≤ m := by omega
  have hmb : m + 2 ≤ b := by omega
  have s1 : ((m : Int) - (a : Int) == 1) = false := by simp; omega
  have s2 : IntKind.i64.wrap ((m : Int) - (a : Int)) = (m : Int) - (a : Int) := IntWalk.i64_in _ (by omega)
  have s3 : ((b : Int) - (m : Int) == 1) = false := by simp; omega
  have s4 : IntKind.i64.wrap ((b : Int) - (m : Int)) = (b : Int) - (m : Int) := IntWalk.i64_in _ (by omega)
  have s5 : IntKind.i64.wrap ((a : Int) + (b : Int)) = (a : Int) + (b : Int) := IntWalk.i64_in _ (by omega)
  have s6 := mid_u a b (by omega)
  obtain ⟨mid, hmid, hmide⟩ := mid_h a b
  obtain ⟨nn, hnn⟩ : ∃ nn : Nat, nn = mid + m := ⟨_, rfl⟩
  have s7 : IntKind.i64.wrap ((mid : Int) + (m : Int)) = (nn : Int) := by rw [IntWalk.i64_in _ (by omega)]; omega
  have eL : ∀ t, (ht : t < L.length) → (P ++ (L ++ (R ++ Q)))[a + t]? = some L[t] := fun t ht => by
    rw [List.getElem?_append_right (by omega), show a + t - P.length = t by omega, List.getElem?_append_left ht, List.getElem?_eq_getElem ht]
  have eR : ∀ t, (ht : t < R.length) → (P ++ (L ++ (R ++ Q)))[m + t]? = some R[t] := fun t ht => by
    rw [List.getElem?_append_right (by omega), List.getElem?_append_right (by omega), show m + t - P.length - L.length = t by omega, List.getElem?_append_left ht, List.getElem?_eq_getElem ht]
  have EL := Lib.hid eL
  have ER := Lib.hid eR
  have HMID := Lib.hid hmid
  have HMIDE := Lib.hid hmide
  have HNN := Lib.hid hnn
  have ec := enterCmp
  have hmidr : a < mid ∧ mid < b ∧ 2 * mid ≤ a + b ∧ a + b ≤ 2 * mid + 1 := by omega
  clear h hL hR hDL hDR ha hb hm hlen eL eR IH hmid hmide hnn
  go_enter Try.func49, Try.ntmps49
  go_upto_if 140 with fail
  rw [HMID.out, show (mid : Int) + (m : Int) = (nn : Int) by have := HNN.out; omega]
  clear s5 s6 s1 s2 s3 s4
  go_cut [20, 21] (fun x y wx => ∃ s0 r0 : Nat, x = .int .i64 s0 ∧ y = .int .i64 r0 ∧ a ≤ s0 ∧ s0 ≤ r0 ∧ r0 ≤ m ∧ r0 ≤ mid ∧ (s0 = a ∨ nn - s0 = b) ∧ (r0 = mid ∨ r0 = m) ∧ nn - s0 ≤ b ∧ wx = w)
  case first =>
    as_aux_lemma =>
      by_cases hgt : mid < m
      · have d2 : decide ((mid : Int) < (m : Int)) = true := by simpa using hgt
        obtain ⟨s0, hs0⟩ : ∃ s0 : Nat, s0 = nn - b := ⟨_, rfl⟩
        have e1 : IntKind.i64.wrap ((nn : Int) - (b : Int)) = (s0 : Int) := by have := HNN.out; rw [IntWalk.i64_in _ (by omega)]; omega
        have HS0 := Lib.hid hs0
        clear hs0
        rw [d2]
        go_wp2_with fail
        go_meet
        exact ⟨s0, mid, rfl, rfl, by have := HS0.out; have := HNN.out; omega, by have := HS0.out; have := HNN.out; omega, by omega, Nat.le_refl _, .inr (by have := HS0.out; have := HNN.out; omega), .inl rfl, by have := HS0.out; have := HNN.out; omega, rfl⟩
      · have d2 : decide ((mid : Int) < (m : Int)) = false := by simpa using hgt
        rw [d2]
        go_wp2_with fail
        go_meet
        exact ⟨a, m, rfl, rfl, Nat.le_refl _, by omega, Nat.le_refl _, by omega, .inl rfl, .inr rfl, by have := HNN.out; omega, rfl⟩
  case rest =>
    obtain ⟨s0, r0, rfl, rfl, has0, hsr0, hr0m, hr0d, hcs, hcr, hen0, hwc⟩ := hcut
    obtain rfl : w = wc := hwc.symm
    obtain ⟨p, hp⟩ : ∃ p : Nat, p = nn - 1 := ⟨_, rfl⟩
    have e1 : IntKind.i64.wrap ((nn : Int) - 1) = (p : Int) := by have := HNN.out; rw [IntWalk.i64_in _ (by omega)]; omega
    have HP := Lib.hid hp
    have HCS := Lib.hid hcs
    have HCR := Lib.hid hcr
    clear hp hcs hcr
    go_wp2_with fail
    go_loopw [20, 21] (fun x y wr => ∃ s r : Nat, x = .int .i64 s ∧ y = .int .i64 r ∧ s0 ≤ s ∧ s ≤ r ∧ r ≤ r0 ∧ Hid (s = s0 ∨ ∃ x y, L[s - 1 - a]? = some x ∧ R[nn - s - m]? = some y ∧ x.due ≤ y.due) ∧ Hid (r = r0 ∨ ∃ y x, R[nn - r - 1 - m]? = some y ∧ L[r - a]? = some x ∧ y.due < x.due) ∧ Turn [] w wr) (fun x y _ => (intOf y).toNat - (intOf x).toNat)
    case atStart => exact ⟨s0, r0, rfl, rfl, Nat.le_refl _, hsr0, Nat.le_refl _, Lib.hid (.inl rfl), Lib.hid (.inl rfl), Turn.refl _ _⟩
    case round =>
      obtain ⟨s, r, rfl, rfl, hs0, hsr, hrr0, hlo, hhi, hT⟩ := hrel
      obtain ⟨w1, rfl⟩ : ∃ wo : World, wo = wr := ⟨_, rfl⟩
      by_cases hlt : s < r
      · as_aux_lemma =>
          have i1 : (s : Int) < (r : Int) := by omega
          have u1 : IntKind.i64.wrap ((s : Int) + (r : Int)) = (s : Int) + (r : Int) := IntWalk.i64_in _ (by omega)
          have u2 := mid_u s r (by omega)
          have R1 := Lib.hid (HH.out.turn hT (by simp))
          obtain ⟨c, hc, hce⟩ := mid_h s r
          have hcr : s ≤ c ∧ c < r := by omega
          obtain ⟨pc, hpc⟩ : ∃ pc : Nat, pc = p - c := ⟨_, rfl⟩
          have hpr : m ≤ pc ∧ pc < b ∧ pc = nn - 1 - c := by have := HP.out; have := HNN.out; omega
          have u3 : IntKind.i64.wrap ((p : Int) - (c : Int)) = (pc : Int) := by have := HP.out; have := HNN.out; rw [IntWalk.i64_in _ (by omega)]; omega
          have kR : pc - m < R.length := by have := HB.out; omega
          have kL : c - a < L.length := by have := HM.out; omega
          have f1 := ER.out (pc - m) kR
          have f2 := EL.out (c - a) kL
          rw [show m + (pc - m) = pc by omega] at f1
          rw [show a + (c - a) = c by omega] at f2
          have AE' := Lib.hid (R1.out.two f1 f2)
          have hyD : DueOk R[pc - m] := HDR.out _ (List.getElem_mem kR)
          have hxD : DueOk L[c - a] := HDL.out _ (List.getElem_mem kL)
          have g1 : c + 1 - 1 - a = c - a := by omega
          have g2 : nn - (c + 1) - m = pc - m := by omega
          have g3 : nn - c - 1 - m = pc - m := by omega
          have hlo1 : ¬ R[pc - m].due < L[c - a].due → (c + 1 = s0 ∨ ∃ x y, L[c + 1 - 1 - a]? = some x ∧ R[nn - (c + 1) - m]? = some y ∧ x.due ≤ y.due) := fun hy => by
            have hy' : L[c - a].due ≤ R[pc - m].due := Int.not_lt.1 hy
            exact .inr ⟨L[c - a], R[pc - m], by rw [g1, List.getElem?_eq_getElem kL], by rw [g2, List.getElem?_eq_getElem kR], hy'⟩
          have hhi1 : R[pc - m].due < L[c - a].due → (c = r0 ∨ ∃ y x, R[nn - c - 1 - m]? = some y ∧ L[c - a]? = some x ∧ y.due < x.due) := fun hy => by
            exact .inr ⟨R[pc - m], L[c - a], by rw [g3, List.getElem?_eq_getElem kR], by rw [List.getElem?_eq_getElem kL], hy⟩
          have HL1 := Lib.hid hlo1
          have HH1 := Lib.hid hhi1
          have hpr2 : pc < b := hpr.2.1
          clear hce hlo1 hhi1 f1 f2 hpc hpr g1 g2 g3
          generalize R[pc - m] = y at *
          generalize L[c - a] = x at *
          have CC := Lib.hid (fun wz => cmp_c y.due y.fr y.dst y.A y.n y.c x.due x.fr x.dst x.A x.n x.c wz hyD hxD)
          have q0 : (0 : Int) ≤ (c : Int) := Int.natCast_nonneg _
          have q1 : (c : Int) < (N : Int) := by omega
          have q3 : (0 : Int) ≤ (pc : Int) := Int.natCast_nonneg _
          have q4 : (pc : Int) < (N : Int) := by omega
          have q2 : IntKind.i64.wrap ((c : Int) + 1) = (c : Int) + 1 := IntWalk.i64_in _ (by omega)
          have HQ2 := Lib.hid hc
          clear hc
          go_wp2_with fail
          rw [HQ2.out]
          clear u1 u2 i1 e1
          have T10 : Turn [] w1 w1.drew := (Turn.refl _ w1).drew
          go_region_held3 (fun wy => wy.cell? ⟨g, pc * 4, none⟩ = some (.int .i64 y.due) ∧ wy.cell? ⟨g, pc * 4 + 1, none⟩ = some (.int .i64 y.fr) ∧ wy.cell? ⟨g, pc * 4 + 2, none⟩ = some (.int .i64 y.dst) ∧ wy.cell? ⟨g, pc * 4 + 3, none⟩ = some (.slice y.A y.n y.c) ∧
              wy.cell? ⟨g, c * 4, none⟩ = some (.int .i64 x.due) ∧ wy.cell? ⟨g, c * 4 + 1, none⟩ = some (.int .i64 x.fr) ∧ wy.cell? ⟨g, c * 4 + 2, none⟩ = some (.int .i64 x.dst) ∧ wy.cell? ⟨g, c * 4 + 3, none⟩ = some (.slice x.A x.n x.c) ∧ Turn [] w1 wy) (first | exact AE'.out _ (by assumption))
            ((go_at_call 34; refine (CC.out _).mono ?_; rintro e w3 ⟨rfl, hT3⟩; have T3 : Turn [] w1 w3 := T10.trans hT3))
          have hTT := hT.trans T3
          by_cases hyx : y.due < x.due
          · have hde : decide (y.due - x.due < 0) = true := by simp; omega
            rw [hde, Bool.not_true]
            go_wp2_with fail
            go_roundw
            case rel => exact ⟨s, c, rfl, rfl, hs0, by omega, by omega, hlo, Lib.hid (HH1.out (by omega)), hTT⟩
            case measure => simp [intOf]; omega
          · have hde : decide (y.due - x.due < 0) = false := by simp; omega
            rw [hde, Bool.not_false]
            go_wp2_with fail
            go_roundw
            case rel => exact ⟨c + 1, r, by go_num, rfl, by omega, by omega, hrr0, Lib.hid (HL1.out (by omega)), hhi, hTT⟩
            case measure => simp [intOf]; omega
      · obtain rfl : s = r := by omega
        have i1 : ¬ (s : Int) < (s : Int) := by omega
        obtain ⟨en, hen⟩ : ∃ en : Nat, en = nn - s := ⟨_, rfl⟩
        have e2 : IntKind.i64.wrap ((nn : Int) - (s : Int)) = (en : Int) := by have := HNN.out; rw [IntWalk.i64_in _ (by omega)]; omega
        have henr : m ≤ en ∧ en ≤ b ∧ en - m = mid - s ∧ s ≤ mid ∧ a ≤ s ∧ s ≤ m := by have := HNN.out; omega
        have CUT := sym_cut HL.out HR.out (i := s - a) (j := en - m) (by have := HM.out; omega) (by have := HB.out; omega) (by
          rcases hlo.out with h1 | ⟨x, y, h1, h2, h3⟩
          · rcases HCS.out with h4 | h4
            · exact .inl (by omega)
            · exact .inr (.inl (by have := HB.out; omega))
          · exact .inr (.inr ⟨x, y, by rw [show s - a - 1 = s - 1 - a by omega]; exact h1, by rw [show en - m = nn - s - m by omega]; exact h2, h3⟩)) (by
          rcases hhi.out with h1 | ⟨y, x, h1, h2, h3⟩
          · rcases HCR.out with h4 | h4
            · exact .inl (by omega)
            · exact .inr (.inl (by have := HM.out; omega))
          · exact .inr (.inr ⟨y, x, by rw [show en - m - 1 = nn - s - 1 - m by omega]; exact h1, h2, h3⟩))
        have hsplit : ∃ La Lb Ra Rb, L = La ++ Lb ∧ R = Ra ++ Rb ∧ La.length = s - a ∧ Lb.length = m - s ∧ Ra.length = en - m ∧ Rb.length = b - en ∧ mrg Ml.due L R = mrg Ml.due La Ra ++ mrg Ml.due Lb Rb :=
          ⟨L.take (s - a), L.drop (s - a), R.take (en - m), R.drop (en - m), (List.take_append_drop _ _).symm, (List.take_append_drop _ _).symm, by rw [List.length_take]; have := HM.out; omega, by rw [List.length_drop]; have := HM.out; omega, by rw [List.length_take]; have := HB.out; omega, by rw [List.length_drop]; have := HB.out; omega, CUT⟩
        obtain ⟨La, Lb, Ra, Rb, hLab, hRab, l1, l2, l3, l4, hM⟩ := hsplit
        have RW := HH.out.turn hT (by simp)
        rw [hLab, hRab] at RW
        have AL := HL.out
        have AR := HR.out
        have DL := HDL.out
        have DR := HDR.out
        rw [hLab] at AL DL
        rw [hRab] at AR DR
        have hLR : L.length = La.length + Lb.length ∧ R.length = Ra.length + Rb.length := ⟨by rw [hLab, List.length_append], by rw [hRab, List.length_append]⟩
        have HAL := Lib.hid (asc_append.1 AL)
        have HAR := Lib.hid (asc_append.1 AR)
        have HDl := Lib.hid DL
        have HDr := Lib.hid DR
        have HMM := Lib.hid hM
        have HRW := Lib.hid RW
        have LL := Lib.hid (And.intro l1 (And.intro l2 (And.intro l3 l4)))
        have HLR := Lib.hid hLR
        have HEN := Lib.hid hen
        have hT0 := hT.mono (S' := [g]) (by simp)
        have hkl : s - a + (en - m) ≤ k ∧ m - s + (b - en) ≤ k := by have := HM.out; have := HB.out; omega
        clear hLab hRab l1 l2 l3 l4 hM RW AL AR DL DR hLR hen CUT hlo hhi HL HR HDL HDR EL ER HH e1
        clear i1
        go_upto_region 39 with fail
        clear e2
        go_cut [185] (fun x wx => x = .bool (decide (s < m ∧ m < en)) ∧ wx = w1)
        case first =>
          as_aux_lemma =>
            by_cases c1 : s < m
            · have d1 : (s : Int) < (m : Int) := by omega
              have d1' : decide ((s : Int) < (m : Int)) = true := by simpa using c1
              have d1'' : decide (s < m) = true := by simpa using c1
              by_cases c2 : m < en
              · have d2 : (m : Int) < (en : Int) := by omega
                have hv : decide (s < m ∧ m < en) = true := by simp; omega
                go_wp2_with fail
                go_meet
                exact ⟨by rw [hv], rfl⟩
              · have d2 : ¬ (m : Int) < (en : Int) := by omega
                have hv : decide (s < m ∧ m < en) = false := by simp; omega
                go_wp2_with fail
                go_meet
                exact ⟨by rw [hv], rfl⟩
            · have d1 : ¬ (s : Int) < (m : Int) := by omega
              have d1'' : decide (s < m) = false := by simpa using c1
              have hv : decide (s < m ∧ m < en) = false := by simp; omega
              go_wp2_with fail
              go_meet
              exact ⟨by rw [hv], rfl⟩
        case rest =>
          obtain ⟨rfl, hwc⟩ := hcut
          obtain rfl : w1 = wc := hwc.symm
          go_upto_if 185 with fail
          go_cut [24] (fun x wx => x = .int .i64 en ∧ RowM wx g base N cap (P ++ (La ++ (Ra ++ (Lb ++ (Rb ++ Q))))) ∧ Turn [g] w wx)
          case first =>
            as_aux_lemma =>
              obtain ⟨l1, l2, l3, l4⟩ := LL.out
              have la := HA.out
              by_cases c : s < m ∧ m < en
              · have hv : decide (s < m ∧ m < en) = true := by simp; omega
                have ROT := Lib.hid (rotate_c g base N cap (P ++ La) Lb Ra (Rb ++ Q) cmpV w1 (by have := HRW.out; simpa using this) hN s m en (by rw [List.length_append]; omega) (by rw [List.length_append]; omega) (by rw [List.length_append]; omega) (List.length_pos_iff.1 (by omega)) (List.length_pos_iff.1 (by omega)))
                rw [hv]
                clear l1 l2 l3 l4 la hv
                go_wp2_with fail
                refine ROT.out.mono ?_
                rintro e w2 ⟨rfl, R2, hT2⟩
                go_wp2_with fail
                go_meet
                exact ⟨rfl, by simpa using R2, hT0.trans hT2⟩
              · have hv : decide (s < m ∧ m < en) = false := by simp; omega
                have hsame : Lb ++ Ra = Ra ++ Lb := by
                  rcases Nat.lt_or_ge s m with h1 | h1
                  · have : Ra = [] := List.eq_nil_of_length_eq_zero (by omega)
                    rw [this]; simp
                  · have : Lb = [] := List.eq_nil_of_length_eq_zero (by omega)
                    rw [this]; simp
                have R2 := HRW.out
                rw [show P ++ (La ++ Lb ++ (Ra ++ Rb ++ Q)) = P ++ (La ++ ((Lb ++ Ra) ++ (Rb ++ Q))) by simp, hsame] at R2
                have R2' := Lib.hid R2
                rw [hv]
                clear l1 l2 l3 l4 la hv hsame R2
                go_wp2_with fail
                go_meet
                exact ⟨rfl, by have := R2'.out; simpa using this, hT0⟩
          case rest =>
            obtain ⟨rfl, R2, hT2⟩ := hcut
            obtain ⟨w2, rfl⟩ : ∃ wo : World, wo = wc := ⟨_, rfl⟩
            have HR2 := Lib.hid R2
            clear R2 hT0 hT HRW
            go_upto_region 41 with fail
            go_cut [199] (fun x wx => x = .bool (decide (a < s ∧ s < mid)) ∧ wx = w2)
            case first =>
              as_aux_lemma =>
                by_cases c1 : a < s
                · have d1 : (a : Int) < (s : Int) := by omega
                  have d1' : decide ((a : Int) < (s : Int)) = true := by simpa using c1
                  have d1'' : decide (a < s) = true := by simpa using c1
                  by_cases c2 : s < mid
                  · have d2 : (s : Int) < (mid : Int) := by omega
                    have hv : decide (a < s ∧ s < mid) = true := by simp; omega
                    go_wp2_with fail
                    go_meet
                    exact ⟨by rw [hv], rfl⟩
                  · have d2 : ¬ (s : Int) < (mid : Int) := by omega
                    have hv : decide (a < s ∧ s < mid) = false := by simp; omega
                    go_wp2_with fail
                    go_meet
                    exact ⟨by rw [hv], rfl⟩
                · have d1 : ¬ (a : Int) < (s : Int) := by omega
                  have d1'' : decide (a < s) = false := by simpa using c1
                  have hv : decide (a < s ∧ s < mid) = false := by simp; omega
                  go_wp2_with fail
                  go_meet
                  exact ⟨by rw [hv], rfl⟩
            case rest =>
              obtain ⟨rfl, hwc⟩ := hcut
              obtain rfl : w2 = wc := hwc.symm
              go_upto_if 199 with fail
              go_cut [24] (fun x wx => x = .int .i64 en ∧ RowM wx g base N cap (P ++ (mrg Ml.due La Ra ++ (Lb ++ (Rb ++ Q)))) ∧ Turn [g] w wx)
              case first =>
                as_aux_lemma =>
                  obtain ⟨l1, l2, l3, l4⟩ := LL.out
                  have la := HA.out
                  by_cases c : a < s ∧ s < mid
                  · have hv : decide (a < s ∧ s < mid) = true := by simp; omega
                    have REC := Lib.hid (HIH.out P La Ra (Lb ++ (Rb ++ Q)) w2 HR2.out (List.length_pos_iff.1 (by omega)) (List.length_pos_iff.1 (by omega)) HAL.out.1 HAR.out.1 (fun x hx => HDl.out x (by simp [hx])) (fun x hx => HDr.out x (by simp [hx])) (by omega) a s mid la (by omega) (by omega))
                    rw [hv]
                    clear l1 l2 l3 l4 la hv
                    go_wp2_with fail
                    refine REC.out.mono ?_
                    rintro e w3 ⟨rfl, R3, hT3⟩
                    go_wp2_with fail
                    go_meet
                    exact ⟨rfl, R3, hT2.trans hT3⟩
                  · have hv : decide (a < s ∧ s < mid) = false := by simp; omega
                    have hsame : mrg Ml.due La Ra = La ++ Ra := by
                      rcases Nat.lt_or_ge a s with h1 | h1
                      · have : Ra = [] := List.eq_nil_of_length_eq_zero (by omega)
                        rw [this, mrg_nil_right]; simp
                      · have : La = [] := List.eq_nil_of_length_eq_zero (by omega)
                        rw [this, mrg_nil_left]; simp
                    have R3 := Lib.hid (show RowM w2 g base N cap (P ++ (mrg Ml.due La Ra ++ (Lb ++ (Rb ++ Q)))) by rw [hsame]; have := HR2.out; simpa using this)
                    rw [hv]
                    clear l1 l2 l3 l4 la hv hsame
                    go_wp2_with fail
                    go_meet
                    exact ⟨rfl, R3.out, hT2⟩
              case rest =>
                obtain ⟨rfl, R3, hT3⟩ := hcut
                obtain ⟨w3, rfl⟩ : ∃ wo : World, wo = wc := ⟨_, rfl⟩
                have HR3 := Lib.hid R3
                clear R3 hT2 HR2
                go_upto_region 43 with fail
                go_cut [213] (fun x wx => x = .bool (decide (mid < en ∧ en < b)) ∧ wx = w3)
                case first =>
                  as_aux_lemma =>
                    by_cases c1 : mid < en
                    · have d1 : (mid : Int) < (en : Int) := by omega
                      have d1' : decide ((mid : Int) < (en : Int)) = true := by simpa using c1
                      have d1'' : decide (mid < en) = true := by simpa using c1
                      by_cases c2 : en < b
                      · have d2 : (en : Int) < (b : Int) := by omega
                        have hv : decide (mid < en ∧ en < b) = true := by simp; omega
                        go_wp2_with fail
                        go_meet
                        exact ⟨by rw [hv], rfl⟩
                      · have d2 : ¬ (en : Int) < (b : Int) := by omega
                        have hv : decide (mid < en ∧ en < b) = false := by simp; omega
                        go_wp2_with fail
                        go_meet
                        exact ⟨by rw [hv], rfl⟩
                    · have d1 : ¬ (mid : Int) < (en : Int) := by omega
                      have d1'' : decide (mid < en) = false := by simpa using c1
                      have hv : decide (mid < en ∧ en < b) = false := by simp; omega
                      go_wp2_with fail
                      go_meet
                      exact ⟨by rw [hv], rfl⟩
                case rest =>
                  obtain ⟨rfl, hwc⟩ := hcut
                  obtain rfl : w3 = wc := hwc.symm
                  go_upto_if 213 with fail
                  obtain ⟨l1, l2, l3, l4⟩ := LL.out
                  have la := HA.out
                  by_cases c : mid < en ∧ en < b
                  · have hv : decide (mid < en ∧ en < b) = true := by simp; omega
                    have REC := Lib.hid (HIH.out (P ++ mrg Ml.due La Ra) Lb Rb Q w3 (by have := HR3.out; simpa using this) (List.length_pos_iff.1 (by omega)) (List.length_pos_iff.1 (by omega)) HAL.out.2.1 HAR.out.2.1 (fun x hx => HDl.out x (by simp [hx])) (fun x hx => HDr.out x (by simp [hx])) (by omega) mid en b (by rw [List.length_append, mrg_length]; omega) (by omega) (by omega))
                    rw [hv]
                    clear l1 l2 l3 l4 la hv
                    go_wp2_with fail
                    refine REC.out.mono ?_
                    rintro e w4 ⟨rfl, R4, hT4⟩
                    go_wp2_with fail
                    go_end0
                    exact ⟨rfl, by rw [HMM.out]; simpa using R4, hT3.trans hT4⟩
                  · have hv : decide (mid < en ∧ en < b) = false := by simp; omega
                    have hsame : mrg Ml.due Lb Rb = Lb ++ Rb := by
                      rcases Nat.lt_or_ge mid en with h1 | h1
                      · have : Rb = [] := List.eq_nil_of_length_eq_zero (by omega)
                        rw [this, mrg_nil_right]; simp
                      · have : Lb = [] := List.eq_nil_of_length_eq_zero (by omega)
                        rw [this, mrg_nil_left]; simp
                    have R4 := Lib.hid (show RowM w3 g base N cap (P ++ (mrg Ml.due L R ++ Q)) by rw [HMM.out, hsame]; have := HR3.out; simpa using this)
                    rw [hv]
                    clear l1 l2 l3 l4 la hv hsame
                    go_wp2_with fail
                    go_end0
                    exact ⟨rfl, R4.out, hT3⟩

theorem symM_c (g base N cap : Nat) (hN : N ≤ 1000000) : ∀ k : Nat, SymOk g base N cap k
  | 0 => fun P L R Q w h hL hR _ _ _ _ hk => by
    have := List.length_pos_iff.2 hL
    omega
  | k + 1 => fun P L R Q w h hL hR aL aR dL dR hk a m b ha hm hb => by
    have IH := symM_c g base N cap hN k
    have h1 := List.length_pos_iff.2 hL
    have h2 := List.length_pos_iff.2 hR
    rcases Nat.lt_or_ge 1 L.length with h3 | h3
    · rcases Nat.lt_or_ge 1 R.length with h4 | h4
      · exact symC_c g base N cap k IH P L R Q w h aL aR dL dR hN a m b ha hm hb h3 h4 hk
      · obtain ⟨y, rfl⟩ := List.length_eq_one_iff.1 (show R.length = 1 by omega)
        exact symB_c g base N cap P L y Q w h aL dL (dR y (by simp)) hN a m b ha hm (by simpa using hb) h3
    · obtain ⟨x, rfl⟩ := List.length_eq_one_iff.1 (show L.length = 1 by omega)
      exact symA_c g base N cap P x R Q w h aR dR (dL x (by simp)) hN a m b ha (by simpa using hm) (by rw [hb, hm]; simp)
end Go.Proofs.Ytiijgokgojjocaa
