/- Two neighbouring parts of a row of mails change places. -/
import Derived.Test.YtiijgokgojjocaaMSwap
namespace Go.Proofs.Ytiijgokgojjocaa
open Go.RowKit Go.ChangeMaps

theorem i64_sub (a b : Nat) (h : b ≤ a) (ha : a ≤ 1000000) : IntKind.i64.wrap ((a : Int) - (b : Int)) = ((a - b : Nat) : Int) := by
  rw [IntWalk.i64_in _ (by omega)]
  omega
theorem i64_add (a b : Nat) (ha : a + b ≤ 4000000) : IntKind.i64.wrap ((a : Int) + (b : Int)) = ((a + b : Nat) : Int) := by
  rw [IntWalk.i64_in _ (by omega)]
  omega

theorem vi {k : IntKind} {a b : Int} (h : a = b) : Value.int k a = Value.int k b := by rw [h]
set_option maxHeartbeats 4000000 in
theorem rotate_c (g base N cap : Nat) (P L R Q : List Ml) (v : Value) (w : World) (h : RowM w g base N cap (P ++ (L ++ (R ++ Q)))) (hN : N ≤ 1000000) (a m b : Nat) (ha : a = P.length) (hm : m = P.length + L.length) (hb : b = P.length + L.length + R.length) (hL : L ≠ []) (hR : R ≠ []) :
    Calls Try.prog 51 #[.slice (some ⟨g, 0, none⟩) N cap, .int .i64 a, .int .i64 m, .int .i64 b, v] w (Swapped w g base N cap (P ++ (R ++ (L ++ Q)))) := by
  have hlen := h.len
  simp only [List.length_append] at hlen
  have hLp := List.length_pos_iff.2 hL
  have hRp := List.length_pos_iff.2 hR
  have HH := Lib.hid h
  have HI : Hid (m - a = L.length) := by show _ = _; omega
  have HJ : Hid (b - m = R.length) := by show _ = _; omega
  have HM := Lib.hid hm
  have ham : a ≤ m := by omega
  have hmb : m ≤ b := by omega
  have s1 := i64_sub m a (by omega) (by omega)
  have s2 := i64_sub b m (by omega) (by omega)
  have hmN : m ≤ N := by omega
  have hbN : b ≤ N := by omega
  clear h ha hm hb hlen
  go_enter Try.func51, Try.ntmps51
  go_wp2_with fail
  clear s1 s2
  go_loopw [10, 11] (fun ix jx wr => ∃ P' L' R' Q' : List Ml, ix = .int .i64 (L'.length : Int) ∧ jx = .int .i64 (R'.length : Int) ∧ L' ≠ [] ∧ R' ≠ [] ∧ P'.length + L'.length = m ∧ m + R'.length ≤ N ∧ Hid (P' ++ (R' ++ (L' ++ Q')) = P ++ (R ++ (L ++ Q))) ∧ RowM wr g base N cap (P' ++ (L' ++ (R' ++ Q'))) ∧ Turn [g] w wr) (fun ix jx _ => (intOf ix).toNat + (intOf jx).toNat)
  case atStart => exact ⟨P, L, R, Q, vi (by have := HI.out; have := HM.out; omega), vi (by have := HJ.out; have := HM.out; omega), hL, hR, HM.out.symm, by have := HJ.out; omega, Lib.hid rfl, HH.out, Turn.refl _ _⟩
  case round =>
    obtain ⟨P', L', R', Q', rfl, rfl, hL', hR', hPL, hRN, hE, R1, hT⟩ := hrel
    obtain ⟨w1, rfl⟩ : ∃ wo : World, wo = wr := ⟨_, rfl⟩
    have hLq := List.length_pos_iff.2 hL'
    have hRq := List.length_pos_iff.2 hR'
    have HPL := Lib.hid hPL
    have e1 := i64_sub m L'.length (by omega) (by omega)
    rcases Nat.lt_trichotomy L'.length R'.length with hc | hc | hc
    · have c1 : ((L'.length : Int) != (R'.length : Int)) = true := by simp; omega
      have c2 : ¬ (R'.length : Int) < (L'.length : Int) := by omega
      obtain ⟨Ra, Rb, rfl, hRa, hRb⟩ : ∃ Ra Rb, R' = Ra ++ Rb ∧ Ra.length = R'.length - L'.length ∧ Rb.length = L'.length := ⟨R'.take (R'.length - L'.length), R'.drop (R'.length - L'.length), (List.take_append_drop _ _).symm, by rw [List.length_take]; omega, by rw [List.length_drop]; omega⟩
      have hrl : (Ra ++ Rb).length - L'.length = Ra.length := by omega
      have hrr : Ra.length + Rb.length = (Ra ++ Rb).length := by rw [List.length_append]
      have SR := Lib.hid (fun (a b n : Int) => swapR_i g base N cap P' L' Ra Rb Q' v w1 (by simpa using R1) hRb.symm hN a b n)
      have HRL := Lib.hid hrl
      have HRa := Lib.hid hRa
      have HRb := Lib.hid hRb
      clear hrl hRa hRb R1 hPL
      generalize hnr : (Ra ++ Rb).length = nr at *
      generalize hnl : L'.length = nl at *
      have HNR := Lib.hid hnr
      have HNL := Lib.hid hnl
      clear hnr hnl
      have pl : (P'.length : Int) + (nl : Int) = (m : Int) := by have := HPL.out; have := HNL.out; omega
      have r1 : (Ra.length : Int) + (Rb.length : Int) = (nr : Int) := by omega
      have r2 : (Rb.length : Int) = (nl : Int) := by have := HRb.out; omega
      have e5 : IntKind.i64.wrap ((m : Int) - (nl : Int)) = (m : Int) - (nl : Int) := IntWalk.i64_in _ (by omega)
      have e6 : IntKind.i64.wrap ((m : Int) + (nr : Int)) = (m : Int) + (nr : Int) := IntWalk.i64_in _ (by omega)
      have e7 : IntKind.i64.wrap ((m : Int) + (nr : Int) - (nl : Int)) = (m : Int) + (nr : Int) - (nl : Int) := IntWalk.i64_in _ (by omega)
      have e8 : IntKind.i64.wrap ((nr : Int) - (nl : Int)) = (nr : Int) - (nl : Int) := IntWalk.i64_in _ (by omega)
      go_wp2_with fail
      refine (SR.out _ _ _ (by have := HPL.out; omega) (by have := HNL.out; omega) (by have := HNL.out; omega)).mono ?_
      rintro e w2 ⟨rfl, R2, hT2⟩
      go_wp2_with fail
      go_roundw
      case rel => exact ⟨P', Rb, Ra, L' ++ Q', vi (by have := HRb.out; omega), vi (by have := HRL.out; omega), List.length_pos_iff.1 (by have := HRb.out; omega), List.length_pos_iff.1 (by have := HRL.out; omega), by have := HRb.out; have := HPL.out; omega, by have := HRL.out; omega, by show _ = _; rw [← hE.out]; simp, by simpa using R2, hT.trans hT2⟩
      case measure => simp [intOf]; omega
    · have c1 : ((L'.length : Int) != (R'.length : Int)) = false := by simp; omega
      have SR := Lib.hid (fun (a b n : Int) => swapR_i g base N cap P' L' [] R' Q' v w1 (by simpa using R1) hc hN a b n)
      have HE := Lib.hid hc
      clear R1 hPL hc
      generalize hnr : R'.length = nr at *
      generalize hnl : L'.length = nl at *
      have HNR := Lib.hid hnr
      have HNL := Lib.hid hnl
      clear hnr hnl
      have pl : (P'.length : Int) + (nl : Int) = (m : Int) := by have := HPL.out; omega
      have e5 : IntKind.i64.wrap ((m : Int) - (nl : Int)) = (m : Int) - (nl : Int) := IntWalk.i64_in _ (by omega)
      go_wp2_with fail
      refine (SR.out _ _ _ (by omega) (by have := HNL.out; omega) (by have := HNL.out; simp only [List.length_nil]; omega)).mono ?_
      rintro e w2 ⟨rfl, R2, hT2⟩
      go_wp2_with fail
      go_end0
      refine ⟨rfl, ?_, hT.trans hT2⟩
      rw [← hE.out]
      simpa using R2
    · have c1 : ((L'.length : Int) != (R'.length : Int)) = true := by simp; omega
      have c2 : (R'.length : Int) < (L'.length : Int) := by omega
      obtain ⟨La, Lb, rfl, hLa, hLb⟩ : ∃ La Lb, L' = La ++ Lb ∧ La.length = R'.length ∧ Lb.length = L'.length - R'.length := ⟨L'.take R'.length, L'.drop R'.length, (List.take_append_drop _ _).symm, by rw [List.length_take]; omega, by rw [List.length_drop]⟩
      have hrr : La.length + Lb.length = (La ++ Lb).length := by rw [List.length_append]
      have SR := Lib.hid (fun (a b n : Int) => swapR_i g base N cap P' La Lb R' Q' v w1 (by simpa using R1) hLa hN a b n)
      have HLa := Lib.hid hLa
      clear hLa hLb R1 hPL
      generalize hnr : R'.length = nr at *
      generalize hnl : (La ++ Lb).length = nl at *
      have HNR := Lib.hid hnr
      have HNL := Lib.hid hnl
      clear hnr hnl
      have pl : (P'.length : Int) + (nl : Int) = (m : Int) := by have := HPL.out; omega
      have r1 : (La.length : Int) + (Lb.length : Int) = (nl : Int) := by omega
      have r2 : (La.length : Int) = (nr : Int) := by have := HLa.out; omega
      have e5 : IntKind.i64.wrap ((m : Int) - (nl : Int)) = (m : Int) - (nl : Int) := IntWalk.i64_in _ (by omega)
      have e8 : IntKind.i64.wrap ((nl : Int) - (nr : Int)) = (nl : Int) - (nr : Int) := IntWalk.i64_in _ (by omega)
      go_wp2_with fail
      refine (SR.out _ _ _ (by omega) (by omega) (by omega)).mono ?_
      rintro e w2 ⟨rfl, R2, hT2⟩
      go_wp2_with fail
      go_roundw
      case rel => exact ⟨P' ++ R', Lb, La, Q', vi (by omega), vi (by omega), List.length_pos_iff.1 (by omega), List.length_pos_iff.1 (by omega), by rw [List.length_append]; have := HNR.out; omega, by omega, by show _ = _; rw [← hE.out]; simp, by simpa using R2, hT.trans hT2⟩
      case measure => simp [intOf]; omega
end Go.Proofs.Ytiijgokgojjocaa
