/- Slices of takes; the contract of vigilref11.Times. -/
import Derived.Test.YtpdencmgjihnfaaLeft
import Derived.Test.YtpdencmgjihnfaaOwn
namespace Go.Proofs.Ytpdencmgjihnfaa
open Go.RowKit Go.ChangeMaps

/-- Slices of takes. -/
def tcs : List (Int × Int) → List Value
  | [] => []
  | c :: r => .int .i64 c.1 :: .int .i64 c.2 :: tcs r
theorem tcs_len : ∀ l : List (Int × Int), (tcs l).length = l.length * 2
  | [] => rfl
  | c :: r => by simp [tcs, tcs_len r]; omega
theorem tcs_append : ∀ l m : List (Int × Int), tcs (l ++ m) = tcs l ++ tcs m
  | [], m => rfl
  | c :: r, m => by simp [tcs, tcs_append r m]
theorem tcs_get : ∀ (l : List (Int × Int)) (k : Nat) (hk : k < l.length), (tcs l)[k * 2]? = some (.int .i64 l[k].1) ∧ (tcs l)[k * 2 + 1]? = some (.int .i64 l[k].2)
  | [], k, hk => absurd hk (by simp)
  | c :: r, 0, hk => ⟨rfl, rfl⟩
  | c :: r, k + 1, hk => by
    have h := tcs_get r k (by simpa using hk)
    have e : (k + 1) * 2 = k * 2 + 2 := by omega
    have e1 : (k + 1) * 2 + 1 = (k * 2 + 1) + 2 := by omega
    rw [e1, e]
    exact h
theorem tcs_at {w : World} {A : Option Addr} {l : List (Int × Int)} (h : Sl w A (tcs l)) {k : Nat} (hk : k < l.length) : ∃ b off, A = some ⟨b, off, none⟩ ∧ b < w.heap.size ∧ w.cell? ⟨b, off + k * 2, none⟩ = some (.int .i64 l[k].1) ∧ w.cell? ⟨b, off + k * 2 + 1, none⟩ = some (.int .i64 l[k].2) := by
  obtain ⟨b, off, hA, hb, hc⟩ := h (by rw [tcs_len]; omega)
  obtain ⟨g0, g1⟩ := tcs_get l k hk
  exact ⟨b, off, hA, hb, hc _ _ g0, by rw [Nat.add_assoc]; exact hc _ _ g1⟩
def timesL (l : List (Int × Int)) (s p : Int) : Nat := l.countP (fun x => x.1 == s && x.2 == p)
theorem timesL_le (l : List (Int × Int)) (s p : Int) : timesL l s p ≤ l.length := List.countP_le_length
theorem timesL_step (l : List (Int × Int)) (k : Nat) (hk : k < l.length) (s p : Int) : timesL (l.take (k + 1)) s p = timesL (l.take k) s p + (if l[k].1 = s ∧ l[k].2 = p then 1 else 0) := by
  unfold timesL
  rw [List.take_succ_eq_append_getElem hk, List.countP_append]
  congr 1
  simp [List.countP_cons]
theorem infoT : (Try.prog.info? 41).map (fun i => (i.zero, i.size, i.bytes)) = some (some (.agg #[.int .i64 0, .int .i64 0]), 2, 16) := by kernel_rfl
theorem elemT : ElemT Try.prog 30 41 (.agg #[.int .i64 0, .int .i64 0]) 2 16 := ⟨Try.underlying30, info_parts infoT, rfl, by decide⟩
set_option maxRecDepth 100000 in
set_option maxHeartbeats 1000000 in
theorem times_c (A : Option Addr) (n c : Nat) (l : List (Int × Int)) (s p : Int) (w : World) (hx : Sl w A (tcs l)) (hn : l.length = n) (hl : n ≤ 1000000) :
    Calls Try.prog 10 #[.slice A n c, .int .i64 s, .int .i64 p] w fun e w' => e = .returned (.int .i64 (timesL l s p)) ∧ Turn [] w w' := by
  have HN := Lib.hid hn
  clear hn
  go_enter Try.func10, Try.ntmps10
  go_wp2_with fail
  go_loopw [7, 8] (fun x i wr => ∃ k : Nat, k ≤ n ∧ i = .int .i64 k ∧ x = .int .i64 (timesL (l.take k) s p) ∧ Turn [] w wr) (fun _ i _ => n - (intOf i).toNat)
  case atStart => exact ⟨0, Nat.zero_le _, rfl, rfl, Turn.refl _ _⟩
  case round =>
    obtain ⟨k, hk, rfl, rfl, hT⟩ := hrel
    have i0 : (0 : Int) ≤ (k : Int) := Int.natCast_nonneg _
    by_cases hlt : k < n
    · have kx : k < l.length := by rw [HN.out]; exact hlt
      obtain ⟨b1, o1, rfl, l1, c0, c1⟩ := tcs_at (hx.turn0 hT) kx
      have i1 : (k : Int) < (n : Int) := by omega
      have hst := timesL_step l k kx s p
      have hqk := timesL_le (l.take k) s p
      rw [List.length_take] at hqk
      have hqk' : timesL (l.take k) s p ≤ k := by omega
      generalize timesL (l.take k) s p = q at *
      have HST := Lib.hid hst
      clear hst hqk
      generalize l[k] = x at *
      obtain ⟨x1, x2⟩ := x
      simp only at c0 c1
      by_cases a1 : x1 = s
      · have a1' : (x1 == s) = true := by simpa using a1
        by_cases a2 : x2 = p
        · have a2' : (x2 == p) = true := by simpa using a2
          have hv : Hid (timesL (l.take (k + 1)) s p = q + 1) := by show _ = _; rw [HST.out]; simp [a1, a2]
          clear a1 a2
          go_wp2_with fail
          go_roundw
          case rel => exact ⟨k + 1, by omega, by go_num, by rw [hv.out]; go_num, hT⟩
          case measure => simp [intOf]; omega
        · have a2' : (x2 == p) = false := by simpa using a2
          have hv : Hid (timesL (l.take (k + 1)) s p = q) := by show _ = _; rw [HST.out]; simp [a1, a2]
          clear a1 a2
          go_wp2_with fail
          go_roundw
          case rel => exact ⟨k + 1, by omega, by go_num, by rw [hv.out], hT⟩
          case measure => simp [intOf]; omega
      · have a1' : (x1 == s) = false := by simpa using a1
        have hv : Hid (timesL (l.take (k + 1)) s p = q) := by show _ = _; rw [HST.out]; simp [a1]
        clear a1
        go_wp2_with fail
        go_roundw
        case rel => exact ⟨k + 1, by omega, by go_num, by rw [hv.out], hT⟩
        case measure => simp [intOf]; omega
    · have i1 : ¬ (k : Int) < (n : Int) := by omega
      have hv : Hid (timesL (l.take k) s p = timesL l s p) := by show _ = _; rw [List.take_of_length_le (by rw [HN.out]; omega)]
      generalize timesL (l.take k) s p = q at *
      go_wp2_with fail
      go_ret
      exact ⟨by rw [← hv.out]; simp, hT⟩
end Go.Proofs.Ytpdencmgjihnfaa
