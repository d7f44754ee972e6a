/- Contract: vigilref08.Same. -/
import Derived.Test.YthmpkpifeickpaaI64
import Derived.Deep.QuietTactic
import Derived.BigQuiet
import Derived.LoopTactic
import Derived.Outline
import Derived.KernelRfl
namespace Go.Proofs.Ythmpkpifeickpaa
open Go.RowKit Go.ChangeMaps

theorem take_eq_succ {α : Type} [DecidableEq α] {xs ys : List α} {k : Nat} (hx : k < xs.length) (hy : k < ys.length) (h : xs.take k = ys.take k) (he : xs[k] = ys[k]) : xs.take (k + 1) = ys.take (k + 1) := by
  rw [List.take_succ_eq_append_getElem hx, List.take_succ_eq_append_getElem hy, h, he]

set_option maxHeartbeats 1000000 in
theorem same8_c (A B : Option Addr) (n m ca cb : Nat) (xs ys : List Int) (w : World) (hx : Sl w A (i64s xs)) (hy : Sl w B (i64s ys)) (hn : xs.length = n) (hm : ys.length = m) (hl : n ≤ 9223372036854775806) :
    Calls Try.prog 15 #[.slice A n ca, .slice B m cb] w fun e w' => e = .returned (.bool (decide (xs = ys))) ∧ Turn [] w w' := by
  by_cases hnm : n = m
  · subst hnm
    have HN := Lib.hid hn
    have HM := Lib.hid hm
    clear hn hm
    go_enter Try.func15, Try.ntmps15
    go_wp2_with fail
    go_loopw [5] (fun i wr => ∃ k : Nat, k ≤ n ∧ i = .int .i64 k ∧ xs.take k = ys.take k ∧ Turn [] w wr) (fun i _ => n - (intOf i).toNat)
    case atStart => exact ⟨0, Nat.zero_le _, rfl, by simp, Turn.refl _ _⟩
    case round =>
      obtain ⟨k, hk, rfl, ht, hT⟩ := hrel
      have HT := Lib.hid ht
      clear ht
      by_cases hlt : k < n
      · have kx : k < xs.length := by rw [HN.out]; exact hlt
        have ky : k < ys.length := by rw [HM.out]; exact hlt
        obtain ⟨b1, o1, rfl, l1, c1⟩ := i64s_at (hx.turn0 hT) kx
        obtain ⟨b2, o2, rfl, l2, c2⟩ := i64s_at (hy.turn0 hT) ky
        have i0 : (0 : Int) ≤ (k : Int) := Int.natCast_nonneg _
        have i1 : (k : Int) < (n : Int) := by omega
        by_cases he : xs[k] = ys[k]
        · have hne : (xs[k] != ys[k]) = false := by simp [he]
          have HE := Lib.hid he
          clear he
          generalize hu : xs[k] = u at *
          generalize hv : ys[k] = v at *
          have HU := Lib.hid hu
          have HV := Lib.hid hv
          clear hu hv
          go_wp2_with fail
          go_quiet (fail)
          go_wp2_with fail
          go_roundw
          case rel => exact ⟨k + 1, by omega, by go_num, take_eq_succ kx ky HT.out (by rw [HU.out, HV.out]; exact HE.out), hT.drewN _⟩
          case measure => simp [intOf]; omega
        · have hne : (xs[k] != ys[k]) = true := by simpa using he
          have hd : Hid (decide (xs = ys) = false) := by
            show decide (xs = ys) = false
            simp only [decide_eq_false_iff_not]
            rintro rfl
            exact he rfl
          clear he
          generalize xs[k] = u at *
          generalize ys[k] = v at *
          go_wp2_with fail
          go_quiet (fail)
          go_wp2_with fail
          go_ret
          exact ⟨by rw [hd.out]; simp, hT.drewN _⟩
      · have hd : Hid (decide (xs = ys) = true) := by
          show decide (xs = ys) = true
          have hk' : k = n := by omega
          have := HT.out
          rw [hk', List.take_of_length_le (by rw [HN.out]; omega), List.take_of_length_le (by rw [HM.out]; omega)] at this
          simpa using this
        go_wp2_with fail
        go_ret
        exact ⟨by rw [hd.out]; simp, hT⟩
  · have hd : Hid (decide (xs = ys) = false) := by
      show decide (xs = ys) = false
      simp only [decide_eq_false_iff_not]
      rintro rfl
      omega
    have hne : ((n : Int) != (m : Int)) = true := by simp; omega
    clear hn hm
    go_enter Try.func15, Try.ntmps15
    go_wp2_with fail
    go_ret
    exact ⟨by rw [hd.out]; simp, Turn.refl _ _⟩
theorem same8_eq (A B : Option Addr) (n m ca cb : Nat) (xs : List Int) (w : World) (hx : Sl w A (i64s xs)) (hy : Sl w B (i64s xs)) (hn : xs.length = n) (hm : xs.length = m) (hl : n ≤ 9223372036854775806) :
    Calls Try.prog 15 #[.slice A n ca, .slice B m cb] w fun e w' => e = .returned (.bool true) ∧ Turn [] w w' := by
  have := same8_c A B n m ca cb xs xs w hx hy hn hm hl
  simpa using this

end Go.Proofs.Ythmpkpifeickpaa
