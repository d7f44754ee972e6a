/- The reference's net: Bytes. -/
import Derived.Test.YtiijgokgojjocaaRNet
import Derived.Test.YtiijgokgojjocaaRNetP
namespace Go.Proofs.Ytiijgokgojjocaa
open Go.RowKit Go.ChangeMaps Go.WideMaps Go.MapKept Go.WideShapes

theorem sumP_range (p : Int × Int) : ∀ l : List Ml, (∀ x ∈ l, x.xs.length ≤ 1000000) → 0 ≤ sumP (l.map Ml.pure) p ∧ sumP (l.map Ml.pure) p ≤ (l.length : Int) * 1000000
  | [], _ => by simp [sumP]
  | x :: l, h => by
    have ih := sumP_range p l (fun y hy => h y (by simp [hy]))
    have hx := h x (by simp)
    rw [sumP_ml, List.length_cons]
    by_cases h1 : (x.fr, x.dst) = p
    · rw [if_pos h1]; omega
    · rw [if_neg h1]; omega
theorem sumP_step (p : Int × Int) {l : List Ml} {i : Nat} (hi : i < l.length) : sumP ((l.take (i + 1)).map Ml.pure) p = sumP ((l.take i).map Ml.pure) p + (if (l[i].fr, l[i].dst) = p then (l[i].xs.length : Int) else 0) := by
  rw [List.take_succ_eq_append_getElem hi, List.map_append, sumP_append]
  simp [sumP, Ml.pure]
section
variable {w w' : World} {m : Nat} {s : Int} {r : Rl} {C : Option Addr} {nc kc : Nat} {cl : List (Int × Int)} {A : Option Addr} {n cap : Nat} {ms : List Ml} {B : Option Addr} {nb kb : Nat} {cs : List Ml} {sent lost told : Int}
set_option maxRecDepth 100000 in
set_option maxHeartbeats 2000000 in
theorem rBytes_c (h : RNetIs w m s r C nc kc cl A n cap ms B nb kb cs sent lost told) (hl : nb ≤ 100000) (fr dst : Int) :
    Calls Try.prog 26 #[.pointer (some ⟨m, 0, none⟩), .int .i64 fr, .int .i64 dst] w fun e w' => e = .returned (.int .i64 (sumP (cs.map Ml.pure) (fr, dst))) ∧ Turn [] w w' := by
  have H := Lib.hid h
  have HN := Lib.hid h.lens.2.2
  have HB : Hid (∀ x ∈ cs, x.xs.length = x.n ∧ x.n ≤ 1000000) := fun x hx => ⟨(h.bytes x (.inr hx)).ok.len, (h.bytes x (.inr hx)).ok.le⟩
  clear h
  obtain ⟨-, -, -, -, -, -, -, c7, -, -, -, ml⟩ := H.out.cells
  go_enter Try.func26, Try.ntmps26
  go_wp2_with fail
  go_loopw [7, 8] (fun kx ix wr => ∃ i : Nat, i ≤ nb ∧ ix = .int .i64 ((i : Nat) : Int) ∧ kx = .int .i64 (sumP ((cs.take i).map Ml.pure) (fr, dst)) ∧ Turn [] w wr) (fun _ ix _ => nb - (intOf ix).toNat)
  case atStart => exact ⟨0, by omega, rfl, by simp [sumP], Turn.refl _ _⟩
  case round =>
    obtain ⟨i, hi, rfl, rfl, hT⟩ := hrel
    obtain ⟨wx, rfl⟩ : ∃ wo : World, wo = wr := ⟨_, rfl⟩
    have i0 : (0 : Int) ≤ (i : Int) := Int.natCast_nonneg _
    have H2 := H.out.turn0 hT
    obtain ⟨-, -, -, -, -, -, -, c7, -, -, -, ml⟩ := H2.cells
    by_cases hlt : i < nb
    · have i1 : (i : Int) < (nb : Int) := by omega
      have kx : i < cs.length := by have := HN.out; omega
      obtain ⟨xb, xo, rfl, xbl, y0, y1, y2, y3⟩ := mcs_at H2.sls.2.2 kx
      have hok := HB.out _ (List.getElem_mem kx)
      have hxl := hok.1
      have hxe := hok.2
      have hst := sumP_step (fr, dst) kx
      have hrg := sumP_range (fr, dst) (cs.take i) (fun x hx => by have h1 := HB.out x (List.mem_of_mem_take hx); rw [h1.1]; exact h1.2)
      rw [List.length_take] at hrg
      have hST := Lib.hid hst
      have hq : 0 ≤ sumP ((cs.take i).map Ml.pure) (fr, dst) ∧ sumP ((cs.take i).map Ml.pure) (fr, dst) ≤ 100000000000 := by omega
      clear H2 hok hst hrg y0
      generalize cs[i] = x at *
      generalize hsq : sumP ((cs.take i).map Ml.pure) (fr, dst) = q at *
      by_cases h1 : x.fr = fr
      · by_cases h2 : x.dst = dst
        · have hs : Hid (sumP ((cs.take (i + 1)).map Ml.pure) (fr, dst) = q + (x.n : Int)) := by
            show _ = _
            rw [hST.out, if_pos (by rw [h1, h2]), hxl]
          have g1 : (x.fr == fr) = true := by simpa using h1
          have g2 : (x.dst == dst) = true := by simpa using h2
          clear h1 h2 hST hsq
          go_wp2_with fail
          go_roundw
          case rel => exact ⟨i + 1, by omega, by go_num, by rw [hs.out], hT⟩
          case measure => simp [intOf]; omega
        · have hs : Hid (sumP ((cs.take (i + 1)).map Ml.pure) (fr, dst) = q) := by
            show _ = _
            rw [hST.out, if_neg (by intro h; injection h with h3 h4; exact h2 h4), Int.add_zero]
          have g1 : (x.fr == fr) = true := by simpa using h1
          have g2 : (x.dst == dst) = false := by simpa using h2
          clear h1 h2 hST hsq
          go_wp2_with fail
          go_roundw
          case rel => exact ⟨i + 1, by omega, by go_num, by rw [hs.out], hT⟩
          case measure => simp [intOf]; omega
      · have hs : Hid (sumP ((cs.take (i + 1)).map Ml.pure) (fr, dst) = q) := by
          show _ = _
          rw [hST.out, if_neg (by intro h; injection h with h3 h4; exact h1 h3), Int.add_zero]
        have g1 : (x.fr == fr) = false := by simpa using h1
        clear h1 hST hsq
        go_wp2_with fail
        go_roundw
        case rel => exact ⟨i + 1, by omega, by go_num, by rw [hs.out], hT⟩
        case measure => simp [intOf]; omega
    · obtain rfl : i = nb := by omega
      have i1 : ¬ (i : Int) < (i : Int) := by omega
      have hfin : cs.take i = cs := List.take_of_length_le (by have := HN.out; omega)
      rw [hfin]
      clear H2
      go_wp2_with fail
      go_ret
      exact ⟨by simp, hT⟩
end
end Go.Proofs.Ytiijgokgojjocaa
