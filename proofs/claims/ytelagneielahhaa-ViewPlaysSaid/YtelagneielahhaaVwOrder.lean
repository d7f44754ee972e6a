/- The walk of ViewOrder. -/
import Derived.Test.YtelagneielahhaaVwOrderP
import Derived.Test.YtelagneielahhaaVwKnown
import Derived.Test.YtelagneielahhaaLawKit
namespace Go.Proofs.Ytelagneielahhaa
open Go.RowKit Go.ChangeMaps Go.MapKept

theorem infoR : (Try.prog.info? 30).map (fun i => (i.zero, i.size, i.bytes)) = some (some zc, 4, 32) := by kernel_rfl
theorem elemR : ElemT Try.prog 22 30 zc 4 32 := ⟨Try.underlying22, info_parts infoR, rfl, by decide⟩
def rowC (F : Nat → Nat → Int) (i : Nat) : C4 := (F i 0, F i 1, F i 2, F i 3)
def rowsC (F : Nat → Nat → Int) (n : Nat) : List C4 := (List.range n).map (rowC F)
theorem rowsC_len (F : Nat → Nat → Int) (n : Nat) : (rowsC F n).length = n := by simp [rowsC]
theorem rowsC_get (F : Nat → Nat → Int) (n : Nat) {i : Nat} (hi : i < (rowsC F n).length) : (rowsC F n)[i] = rowC F i := by simp [rowsC]
/-- Two rows are alike in identity and serial. -/
def alike (F : Nat → Nat → Int) (p q : Nat) : Prop := F p 0 = F q 0 ∧ F p 3 = F q 3
theorem unlike_of {F : Nat → Nat → Int} {n : Nat} (h : ∀ p q, q < p → p < n → ¬ alike F p q) : Unlike (rowsC F n) := by
  intro i j hi hj h1 h2
  rw [rowsC_get, rowsC_get] at h1 h2
  rw [rowsC_len] at hi hj
  rcases Nat.lt_trichotomy i j with hlt | heq | hgt
  · exact absurd ⟨h1.symm, h2.symm⟩ (h j i hlt hj)
  · exact heq
  · exact absurd ⟨h1, h2⟩ (h i j hgt hi)
theorem take_rowsC (F : Nat → Nat → Int) (n : Nat) {i : Nat} (hi : i < n) : (rowsC F n).take (i + 1) = (rowsC F n).take i ++ [rowC F i] := by
  rw [List.take_succ_eq_append_getElem (by rw [rowsC_len]; exact hi), rowsC_get]
theorem take_rev (F : Nat → Nat → Int) (n : Nat) {i : Nat} (hi : i < n) : (rowsC F n).reverse.take (i + 1) = (rowsC F n).reverse.take i ++ [rowC F (n - 1 - i)] := by
  rw [List.take_succ_eq_append_getElem (by rw [List.length_reverse, rowsC_len]; exact hi), List.getElem_reverse, rowsC_get, rowsC_len]
theorem addAll_ok (own : C4) (tick : Int) (l : List C4) : ∀ i, i ≤ l.length → VOk (addAll own tick (l.take i))
  | 0, _ => by simpa [addAll] using VOk.nil
  | i + 1, hi => by
    rw [List.take_succ_eq_append_getElem (by omega), addAll_snoc]
    exact addR_ok (addAll_ok own tick l i (by omega)) _ _

theorem ecs_at {w : World} {A : Option Addr} {es : List En} (h : Sl w A (ecs es)) {k : Nat} (hk : k < es.length) : ∃ b off, A = some ⟨b, off, none⟩ ∧ b < w.heap.size ∧
    (w.cell? ⟨b, off + k * 8, none⟩ = some (.int .i64 es[k].c.1) ∧ w.cell? ⟨b, off + k * 8 + 1, none⟩ = some (.int .i64 es[k].c.2.1) ∧ w.cell? ⟨b, off + k * 8 + 2, none⟩ = some (.int .i64 es[k].c.2.2.1) ∧ w.cell? ⟨b, off + k * 8 + 3, none⟩ = some (.int .i64 es[k].c.2.2.2) ∧
     w.cell? ⟨b, off + k * 8 + 4, none⟩ = some (.bool es[k].down) ∧ w.cell? ⟨b, off + k * 8 + 5, none⟩ = some (.int .i64 es[k].heard) ∧ w.cell? ⟨b, off + k * 8 + 6, none⟩ = some (.int .i64 es[k].since) ∧ w.cell? ⟨b, off + k * 8 + 7, none⟩ = some (.int .i64 es[k].inc)) := by
  obtain ⟨b, off, hA, hlt, hc⟩ := h (by rw [ecs_len]; omega)
  have cc := fun i hi u hu => hc (k * 8 + i) u ((ecs_get es k hk i hi).trans hu)
  have e0 := cc 0 (by omega) _ rfl
  have e1 := cc 1 (by omega) _ rfl
  have e2 := cc 2 (by omega) _ rfl
  have e3 := cc 3 (by omega) _ rfl
  have e4 := cc 4 (by omega) _ rfl
  have e5 := cc 5 (by omega) _ rfl
  have e6 := cc 6 (by omega) _ rfl
  have e7 := cc 7 (by omega) _ rfl
  simp only [← Nat.add_assoc, Nat.add_zero] at e0 e1 e2 e3 e4 e5 e6 e7
  exact ⟨b, off, hA, hlt, e0, e1, e2, e3, e4, e5, e6, e7⟩

set_option maxRecDepth 100000 in
set_option maxHeartbeats 8000000 in
theorem vorder_walk (A0 : Option Addr) (len cap0 : Nat) (F : Nat → Nat → Int) (tk : Int) (w : World) (hR : Rows w A0 len 4 F) (hlen : len ≤ cap0) (hcap : cap0 ≤ maxLen) :
    Calls Try.prog 3 #[.slice A0 len cap0, .int .i64 tk] w fun e w' => e = .returned (.bool true) ∧ Turn [] w w' := by
  have KC := Lib.hid (fun wz => known_c wz)
  unfold maxLen at hcap
  obtain ⟨iR, hiR, hzR⟩ := elemR.info
  have HD := fun (w : World) a n c k h h0 h1 => run_slice_head Try.underlying22 hiR w a n c k h h0 h1
  have htk := umod_range tk 1073741825 (by omega) (by omega)
  clear hiR hzR
  have hif : (if (12 : Int) < (len : Int) then (12 : Int) else (len : Int)) = ((min len 12 : Nat) : Int) := by split <;> omega
  have hmn : min (len : Int) (12 : Int) = ((min len 12 : Nat) : Int) := by omega
  have hR' : Rows w A0 (min len 12) 4 F := fun hpos => by
    obtain ⟨b, off, hA, hb, hc⟩ := hR (by omega)
    exact ⟨b, off, hA, hb, fun i hi => hc i (by omega)⟩
  have HR := Lib.hid hR'
  have hn12 : min len 12 ≤ 12 := by omega
  have hnc : min len 12 ≤ cap0 := by omega
  clear hR hR'
  generalize min len 12 = n at *
  have n0 : (0 : Int) ≤ (n : Int) := Int.natCast_nonneg _
  have n1 : (n : Int) ≤ (cap0 : Int) := by omega
  go_enter Try.func3, Try.ntmps3
  go_wp2_with fail
  refine (newV_c 5 0 0 1 w (by unfold Right; simp)).mono ?_
  rintro e w1 ⟨v1, b1, rfl, V1, hv1, hb1, hT1⟩
  have HV1 := Lib.hid V1
  have hl1 := V1.lts
  clear V1
  go_wp2_with fail
  refine (newV_c 5 0 0 1 w1 (by unfold Right; simp)).mono ?_
  rintro e w2 ⟨v2, b2, rfl, V2, hv2, hb2, hT2⟩
  have HV1b := Lib.hid (HV1.out.turn hT2 (by simp) (by simp))
  have HV2 := Lib.hid V2
  have TT2 := hT1.trans hT2
  clear V2 HV1 hT1 hT2
  go_wp2_with fail
  generalize wrap64 ((IntKind.u64.wrap tk).tmod 1073741825) = tt at *
  go_loopw [9] (fun ix wr => ∃ i : Nat, i ≤ n ∧ ix = .int .i64 i ∧ Hid (∀ p q, q < p → p < i → ¬ alike F p q) ∧ Turn [] w2 wr) (fun ix _ => n - (intOf ix).toNat)
  case atStart => exact ⟨0, by omega, rfl, Lib.hid (fun p q _ hp => absurd hp (by omega)), Turn.refl _ _⟩
  case round =>
    obtain ⟨i, hi, rfl, HD1, hT⟩ := hrel
    obtain ⟨wx, rfl⟩ : ∃ wo : World, wo = wr := ⟨_, rfl⟩
    have i0 : (0 : Int) ≤ (i : Int) := Int.natCast_nonneg _
    by_cases hlt : i < n
    · have i1 : (i : Int) < (n : Int) := by omega
      go_wp2_with fail
      go_loopw [10] (fun kx wr => ∃ k : Nat, k ≤ i ∧ kx = .int .i64 k ∧ Hid (∀ q, q < k → ¬ alike F i q) ∧ Turn [] w2 wr) (fun kx _ => i - (intOf kx).toNat)
      case atStart => exact ⟨0, by omega, rfl, Lib.hid (fun q hq => absurd hq (by omega)), hT⟩
      case round =>
        obtain ⟨k, hk, rfl, HD2, hTk⟩ := hrel
        obtain ⟨wy, rfl⟩ : ∃ wo : World, wo = wr := ⟨_, rfl⟩
        have k0 : (0 : Int) ≤ (k : Int) := Int.natCast_nonneg _
        by_cases hki : k < i
        · have k1 : (k : Int) < (i : Int) := by omega
          have k2 : (k : Int) < (n : Int) := by omega
          obtain ⟨bl, off, rfl, hbl, hcell⟩ := HR.out (by omega)
          have TW := TT2.trans hTk
          have p0 := (TW.cell (p := ⟨bl, off + i * 4, none⟩) hbl (by simp)).trans (hcell i hlt 0 (by omega)).1
          have p3 := (TW.cell (p := ⟨bl, off + i * 4 + 3, none⟩) hbl (by simp)).trans (hcell i hlt 3 (by omega)).1
          have q0 := (TW.cell (p := ⟨bl, off + k * 4, none⟩) hbl (by simp)).trans (hcell k (by omega) 0 (by omega)).1
          have q3 := (TW.cell (p := ⟨bl, off + k * 4 + 3, none⟩) hbl (by simp)).trans (hcell k (by omega) 3 (by omega)).1
          have hbw := Nat.lt_of_lt_of_le hbl TW.size
          clear hcell
          by_cases he : F i 0 = F k 0
          · by_cases hs : F i 3 = F k 3
            · have h1 : (F i 0 == F k 0) = true := by simpa using he
              have h2 : (F i 3 == F k 3) = true := by simpa using hs
              clear he hs
              generalize F i 0 = f1 at *
              generalize F i 3 = f2 at *
              generalize F k 0 = f3 at *
              generalize F k 3 = f4 at *
              go_wp2_with fail
              go_quiet (fail)
              go_wp2_with fail
              refine (KC.out _).mono ?_
              rintro e w4 ⟨rfl, hT4⟩
              go_wp2_with fail
              go_ret
              exact ⟨by simp, (TW.drewN _).trans hT4⟩
            · have hal : Hid (∀ q, q < k + 1 → ¬ alike F i q) := fun q hq h => by
                by_cases hqk : q = k
                · subst hqk; exact hs h.2
                · exact HD2.out q (by omega) h
              have h1 : (F i 0 == F k 0) = true := by simpa using he
              have h2 : (F i 3 == F k 3) = false := by simpa using hs
              clear he hs
              generalize F i 0 = f1 at *
              generalize F i 3 = f2 at *
              generalize F k 0 = f3 at *
              generalize F k 3 = f4 at *
              go_wp2_with fail
              go_quiet (fail)
              go_wp2_with fail
              go_roundw
              case rel => exact ⟨k + 1, by omega, by go_num, hal, hTk.drewN _⟩
              case measure => simp [intOf]; omega
          · have hal : Hid (∀ q, q < k + 1 → ¬ alike F i q) := fun q hq h => by
              by_cases hqk : q = k
              · subst hqk; exact he h.1
              · exact HD2.out q (by omega) h
            have h1 : (F i 0 == F k 0) = false := by simpa using he
            clear he
            generalize F i 0 = f1 at *
            generalize F i 3 = f2 at *
            generalize F k 0 = f3 at *
            generalize F k 3 = f4 at *
            go_wp2_with fail
            go_quiet (fail)
            go_wp2_with fail
            go_roundw
            case rel => exact ⟨k + 1, by omega, by go_num, hal, hTk.drewN _⟩
            case measure => simp [intOf]; omega
        · obtain rfl : k = i := by omega
          have k1 : ¬ (k : Int) < (k : Int) := by omega
          have HD3 : Hid (∀ p q, q < p → p < k + 1 → ¬ alike F p q) := fun p q hqp hp => by
            by_cases hpk : p = k
            · subst hpk; exact HD2.out q hqp
            · exact HD1.out p q hqp (by omega)
          go_wp2_with fail
          go_roundw
          case rel => exact ⟨k + 1, by omega, by go_num, HD3, hTk⟩
          case measure => simp [intOf]; omega
    · obtain rfl : i = n := by omega
      have i1 : ¬ (i : Int) < (i : Int) := by omega
      have HU := Lib.hid (unlike_of HD1.out)
      have VA := HV1b.out.turn hT (by simp) (by simp)
      have VB := HV2.out.turn hT (by simp) (by simp)
      have hlA := VA.lts
      have hap : v1 ≠ b2 ∧ b1 ≠ v2 ∧ b1 ≠ b2 ∧ v1 ≠ v2 := by omega
      have HVA := Lib.hid VA
      have HVB := Lib.hid VB
      have TW := TT2.trans hT
      have hz := TW.size
      clear VA VB HD1
      go_wp2_with fail
      go_loopw [11] (fun ix wr => ∃ j : Nat, j ≤ i ∧ ix = .int .i64 j ∧ VIs wr v1 b1 (5, 0, 0, 1) (addAll (5, 0, 0, 1) tt ((rowsC F i).take j)) ∧ VIs wr v2 b2 (5, 0, 0, 1) (addAll (5, 0, 0, 1) tt ((rowsC F i).reverse.take j)) ∧ Turn [b1, b2] wx wr) (fun ix _ => i - (intOf ix).toNat)
      case atStart => exact ⟨0, by omega, rfl, by simpa [addAll] using HVA.out, by simpa [addAll] using HVB.out, Turn.refl _ _⟩
      case round =>
        obtain ⟨j, hj, rfl, WA, WB, hTj⟩ := hrel
        obtain ⟨wy, rfl⟩ : ∃ wo : World, wo = wr := ⟨_, rfl⟩
        have j0 : (0 : Int) ≤ (j : Int) := Int.natCast_nonneg _
        have TY : Turn [] w wy := TW.andThen hTj (fun x hx => by simp at hx; rcases hx with rfl | rfl <;> exact .inr (by omega))
        by_cases hji : j < i
        · have j1 : (j : Int) < (i : Int) := by omega
          have hsA := take_rowsC F i hji
          have hsB := take_rev F i hji
          have ho1 : i - 1 - j < i := by omega
          have hq : (i : Int) - 1 - (j : Int) = ((i - 1 - j : Nat) : Int) := by omega
          generalize i - 1 - j = q at *
          have q0' : (0 : Int) ≤ (q : Int) := Int.natCast_nonneg _
          have q1' : (q : Int) < (i : Int) := by omega
          obtain ⟨bl, off, rfl, hbl, hcell⟩ := HR.out (by omega)
          have p0 := (TY.cell (p := ⟨bl, off + j * 4, none⟩) hbl (by simp)).trans (hcell j hji 0 (by omega)).1
          have p1 := (TY.cell (p := ⟨bl, off + j * 4 + 1, none⟩) hbl (by simp)).trans (hcell j hji 1 (by omega)).1
          have p2 := (TY.cell (p := ⟨bl, off + j * 4 + 2, none⟩) hbl (by simp)).trans (hcell j hji 2 (by omega)).1
          have p3 := (TY.cell (p := ⟨bl, off + j * 4 + 3, none⟩) hbl (by simp)).trans (hcell j hji 3 (by omega)).1
          have hbw := Nat.lt_of_lt_of_le hbl TY.size
          have HCQ := Lib.hid (hcell q ho1)
          have SA : Hid (addAll (5, 0, 0, 1) tt ((rowsC F i).take (j + 1)) = (addR (5, 0, 0, 1) (addAll (5, 0, 0, 1) tt ((rowsC F i).take j)) (F j 0, F j 1, F j 2, F j 3) tt).2) := by show _ = _; rw [hsA, addAll_snoc]; rfl
          have SB : Hid (addAll (5, 0, 0, 1) tt ((rowsC F i).reverse.take (j + 1)) = (addR (5, 0, 0, 1) (addAll (5, 0, 0, 1) tt ((rowsC F i).reverse.take j)) (F q 0, F q 1, F q 2, F q 3) tt).2) := by show _ = _; rw [hsB, addAll_snoc]; rfl
          have HWA := Lib.hid WA
          have HWB := Lib.hid WB
          clear hcell hsA hsB WA WB ho1
          generalize F j 0 = f0 at *
          generalize F j 1 = f1 at *
          generalize F j 2 = f2 at *
          generalize F j 3 = f3 at *
          go_wp2_with fail
          refine (to_c f0 f1 f2 f3 _).mono ?_
          rintro e w4 ⟨rfl, hT4⟩
          have AA := Lib.hid (addV_c (HWA.out.turn hT4 (by simp) (by simp)) f0 f1 f2 f3 tt)
          go_wp2_with fail
          refine AA.out.mono ?_
          rintro e w5 ⟨rfl, WA5, hT5⟩
          have T5 : Turn [b1, b2] wy w5 := (hT4.mono (by simp)).trans (hT5.mono (by simp))
          have WB5 := Lib.hid ((HWB.out.turn hT4 (by simp) (by simp)).turn hT5 (by simpa using Ne.symm hap.2.1) (by simpa using Ne.symm hap.2.2.1))
          have HWA5 := Lib.hid WA5
          have TY5 : Turn [] w w5 := TY.andThen T5 (fun x hx => by simp at hx; rcases hx with rfl | rfl <;> exact .inr (by omega))
          have q0 := (TY5.cell (p := ⟨bl, off + q * 4, none⟩) hbl (by simp)).trans (HCQ.out 0 (by omega)).1
          have q1 := (TY5.cell (p := ⟨bl, off + q * 4 + 1, none⟩) hbl (by simp)).trans (HCQ.out 1 (by omega)).1
          have q2 := (TY5.cell (p := ⟨bl, off + q * 4 + 2, none⟩) hbl (by simp)).trans (HCQ.out 2 (by omega)).1
          have q3 := (TY5.cell (p := ⟨bl, off + q * 4 + 3, none⟩) hbl (by simp)).trans (HCQ.out 3 (by omega)).1
          have hbw5 := Nat.lt_of_lt_of_le hbl TY5.size
          clear WA5 p0 p1 p2 p3 hT5 hT4
          generalize (addR (5, 0, 0, 1) (addAll (5, 0, 0, 1) tt ((rowsC F i).take j)) (f0, f1, f2, f3) tt).1 = ra at *
          generalize F q 0 = g0 at *
          generalize F q 1 = g1 at *
          generalize F q 2 = g2 at *
          generalize F q 3 = g3 at *
          go_wp2_with fail
          refine (to_c g0 g1 g2 g3 _).mono ?_
          rintro e w6 ⟨rfl, hT6⟩
          have AB := Lib.hid (addV_c (WB5.out.turn hT6 (by simp) (by simp)) g0 g1 g2 g3 tt)
          go_wp2_with fail
          refine AB.out.mono ?_
          rintro e w7 ⟨rfl, WB7, hT7⟩
          have T7 : Turn [b1, b2] wx w7 := ((hTj.trans T5).trans (hT6.mono (by simp))).trans (hT7.mono (by simp))
          have WA7 := Lib.hid ((HWA5.out.turn hT6 (by simp) (by simp)).turn hT7 (by simpa using hap.1) (by simpa using hap.2.2.1))
          have HWB7 := Lib.hid WB7
          clear WB7 hT7 hT6 q0 q1 q2 q3
          generalize (addR (5, 0, 0, 1) (addAll (5, 0, 0, 1) tt ((rowsC F i).reverse.take j)) (g0, g1, g2, g3) tt).1 = rb at *
          go_wp2_with fail
          go_roundw
          case rel => exact ⟨j + 1, by omega, by go_num, by rw [SA.out]; exact WA7.out, by rw [SB.out]; exact HWB7.out, T7⟩
          case measure => simp [intOf]; omega
        · obtain rfl : j = i := by omega
          have j1 : ¬ (j : Int) < (j : Int) := by omega
          have hl16 : (rowsC F j).length ≤ 16 := by rw [rowsC_len]; omega
          have hEQ := order_eq (own := (5, 0, 0, 1)) (tick := tt) hl16 HU.out
          have hok := addAll_ok (5, 0, 0, 1) tt (rowsC F j) j (by rw [rowsC_len]; exact Nat.le_refl _)
          have ht1 : (rowsC F j).take j = rowsC F j := List.take_of_length_le (by rw [rowsC_len]; exact Nat.le_refl _)
          have ht2 : (rowsC F j).reverse.take j = (rowsC F j).reverse := List.take_of_length_le (by rw [List.length_reverse, rowsC_len]; exact Nat.le_refl _)
          rw [ht1] at WA hok
          rw [ht2, ← hEQ] at WB
          clear ht1 ht2 hEQ hl16 HU
          generalize addAll (5, 0, 0, 1) tt (rowsC F j) = m at *
          have AL1 := Lib.hid (allV_c WA hok.wf)
          have HWB := Lib.hid WB
          have HOK := Lib.hid hok
          have hm16 := WA.le
          clear WA WB hok
          go_wp2_with fail
          refine AL1.out.mono ?_
          rintro e w4 ⟨D1, c1, rfl, o1, hT4⟩
          have AL2 := Lib.hid (allV_c (HWB.out.turn hT4 (by simp) (by simp)) HOK.out.wf)
          have HO1 := Lib.hid o1
          clear o1
          go_wp2_with fail
          refine AL2.out.mono ?_
          rintro e w5 ⟨D2, c2, rfl, o2, hT5⟩
          have HO2 := Lib.hid o2
          have TY5 := (TY.trans hT4).trans hT5
          have HO1' := Lib.hid (own_turnA HO1.out hT5 (by simp))
          clear o2 hT4 hT5 HO1
          have hes : (m.map (·.2)).length = m.length := by simp
          have HES := Lib.hid hes
          clear hes
          generalize m.map (·.2) = es at *
          generalize hml : m.length = k at *
          clear hml
          have kk0 : (0 : Int) ≤ (k : Int) := Int.natCast_nonneg _
          go_wp2_with fail
          go_loopw [14] (fun ix wr => ∃ a : Nat, a ≤ k ∧ ix = .int .i64 a ∧ Turn [] w5 wr) (fun ix _ => k - (intOf ix).toNat)
          case atStart => exact ⟨0, by omega, rfl, Turn.refl _ _⟩
          case round =>
            obtain ⟨a, ha, rfl, hTa⟩ := hrel
            obtain ⟨wz, rfl⟩ : ∃ wo : World, wo = wr := ⟨_, rfl⟩
            have a0 : (0 : Int) ≤ (a : Int) := Int.natCast_nonneg _
            by_cases hak : a < k
            · have a1 : (a : Int) < (k : Int) := by omega
              have hal : a < es.length := by rw [HES.out]; exact hak
              obtain ⟨c1', o1', rfl, l1, X1⟩ := ecs_at ((Sl.of_own HO1'.out).turn0 hTa) hal
              obtain ⟨c2', o2', rfl, l2, X2⟩ := ecs_at ((Sl.of_own HO2.out).turn0 hTa) hal
              generalize es[a] = x at *
              obtain ⟨⟨x1, x2, x3, x4⟩, dn, hd, sn, ic⟩ := x
              obtain ⟨y0, y1, y2, y3, y4, y5, y6, y7⟩ := X1
              obtain ⟨z0, z1, z2, z3, z4, z5, z6, z7⟩ := X2
              simp only at y0 y1 y2 y3 y4 y5 y6 y7 z0 z1 z2 z3 z4 z5 z6 z7
              go_wp2_with fail
              go_quiet (fail)
              go_wp2_with fail
              go_roundw
              case rel => exact ⟨a + 1, by omega, by go_num, hTa.drewN _⟩
              case measure => simp [intOf]; omega
            · have a1 : ¬ (a : Int) < (k : Int) := by omega
              go_wp2_with fail
              refine (KC.out _).mono ?_
              rintro e w8 ⟨rfl, hT8⟩
              go_wp2_with fail
              go_ret
              exact ⟨by simp, (TY5.trans hTa).trans hT8⟩
end Go.Proofs.Ytelagneielahhaa
