/- Contracts: vigilref01.Same, quota.Allows, slices.Clone at []byte, quota.Fit. -/
import Derived.Test.YtiijgokgojjocaaSlices
import Derived.Test.YtiijgokgojjocaaChecked
import Derived.Deep.QuietTactic
import Derived.BigQuiet
import Derived.LoopTactic
import Derived.Outline
import Derived.KernelRfl
namespace Go.Proofs.Ytiijgokgojjocaa
open Go.RowKit Go.ChangeMaps

def u8s (zs : List Int) : List Value := zs.map (.int .u8)
theorem u8s_len (zs : List Int) : (u8s zs).length = zs.length := by simp [u8s]
theorem u8s_at {w : World} {A : Option Addr} {zs : List Int} (h : Sl w A (u8s zs)) {k : Nat} (hk : k < zs.length) : ∃ b off, A = some ⟨b, off, none⟩ ∧ b < w.heap.size ∧ w.cell? ⟨b, off + k, none⟩ = some (.int .u8 zs[k]) := by
  obtain ⟨b, off, hA, hb, hc⟩ := h.at_ (k := k) (by rw [u8s_len]; exact hk)
  refine ⟨b, off, hA, hb, ?_⟩
  rw [hc]
  simp [u8s]

theorem take_eq_succ {α : Type} [DecidableEq α] {xs ys : List α} {k : Nat} (hx : k < xs.length) (hy : k < ys.length) (h : xs.take k = ys.take k) (he : xs[k] = ys[k]) : xs.take (k + 1) = ys.take (k + 1) := by
  rw [List.take_succ_eq_append_getElem hx, List.take_succ_eq_append_getElem hy, h, he]

set_option maxHeartbeats 1000000 in
theorem same_c (A B : Option Addr) (n m ca cb : Nat) (xs ys : List Int) (w : World) (hx : Sl w A (u8s xs)) (hy : Sl w B (u8s ys)) (hn : xs.length = n) (hm : ys.length = m) (hl : n ≤ 9223372036854775806) :
    Calls Try.prog 12 #[.slice A n ca, .slice B m cb] w fun e w' => e = .returned (.bool (decide (xs = ys))) ∧ Turn [] w w' := by
  by_cases hnm : n = m
  · subst hnm
    have HN := Lib.hid hn
    have HM := Lib.hid hm
    clear hn hm
    go_enter Try.func12, Try.ntmps12
    go_wp2_with fail
    go_loopw [5] (fun i wr => ∃ k : Nat, k ≤ n ∧ i = .int .i64 k ∧ xs.take k = ys.take k ∧ Turn [] w wr) (fun i _ => n - (intOf i).toNat)
    case atStart => exact ⟨0, Nat.zero_le _, rfl, by simp, Turn.refl _ _⟩
    case round =>
      obtain ⟨k, hk, rfl, ht, hT⟩ := hrel
      have HT := Lib.hid ht
      clear ht
      by_cases hlt : k < n
      · have kx : k < xs.length := by rw [HN.out]; exact hlt
        have ky : k < ys.length := by rw [HM.out]; exact hlt
        obtain ⟨b1, o1, rfl, l1, c1⟩ := u8s_at (hx.turn0 hT) kx
        obtain ⟨b2, o2, rfl, l2, c2⟩ := u8s_at (hy.turn0 hT) ky
        have i0 : (0 : Int) ≤ (k : Int) := Int.natCast_nonneg _
        have i1 : (k : Int) < (n : Int) := by omega
        by_cases he : xs[k] = ys[k]
        · have hne : (xs[k] != ys[k]) = false := by simp [he]
          have HE := Lib.hid he
          clear he
          generalize hu : xs[k] = u at *
          generalize hv : ys[k] = v at *
          have HU := Lib.hid hu
          have HV := Lib.hid hv
          clear hu hv
          go_wp2_with fail
          go_quiet (fail)
          go_wp2_with fail
          go_roundw
          case rel => exact ⟨k + 1, by omega, by go_num, take_eq_succ kx ky HT.out (by rw [HU.out, HV.out]; exact HE.out), hT.drewN _⟩
          case measure => simp [intOf]; omega
        · have hne : (xs[k] != ys[k]) = true := by simpa using he
          have hd : Hid (decide (xs = ys) = false) := by
            show decide (xs = ys) = false
            simp only [decide_eq_false_iff_not]
            rintro rfl
            exact he rfl
          clear he
          generalize xs[k] = u at *
          generalize ys[k] = v at *
          go_wp2_with fail
          go_quiet (fail)
          go_wp2_with fail
          go_ret
          exact ⟨by rw [hd.out]; simp, hT.drewN _⟩
      · have hd : Hid (decide (xs = ys) = true) := by
          show decide (xs = ys) = true
          have hk' : k = n := by omega
          have := HT.out
          rw [hk', List.take_of_length_le (by rw [HN.out]; omega), List.take_of_length_le (by rw [HM.out]; omega)] at this
          simpa using this
        go_wp2_with fail
        go_ret
        exact ⟨by rw [hd.out]; simp, hT⟩
  · have hd : Hid (decide (xs = ys) = false) := by
      show decide (xs = ys) = false
      simp only [decide_eq_false_iff_not]
      rintro rfl
      omega
    have hne : ((n : Int) != (m : Int)) = true := by simp; omega
    clear hn hm
    go_enter Try.func12, Try.ntmps12
    go_wp2_with fail
    go_ret
    exact ⟨by rw [hd.out]; simp, Turn.refl _ _⟩
end Go.Proofs.Ytiijgokgojjocaa
