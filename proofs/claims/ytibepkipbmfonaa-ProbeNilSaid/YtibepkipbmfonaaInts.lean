/- Contracts at []int: slices.Clone, slices.Index, slices.Contains. -/
import Derived.Test.YtibepkipbmfonaaDraws
namespace Go.Proofs.Ytibepkipbmfonaa
open Go.RowKit Go.ChangeMaps

def i64s (zs : List Int) : List Value := zs.map (.int .i64)
theorem i64s_len (zs : List Int) : (i64s zs).length = zs.length := by simp [i64s]
theorem i64s_one (zs : List Int) : ∀ u ∈ i64s zs, u.oneCell' = true := by
  intro u hu
  obtain ⟨x, _, rfl⟩ := List.mem_map.1 hu
  rfl
theorem i64s_at {w : World} {A : Option Addr} {zs : List Int} (h : Sl w A (i64s zs)) {k : Nat} (hk : k < zs.length) : ∃ b off, A = some ⟨b, off, none⟩ ∧ b < w.heap.size ∧ w.cell? ⟨b, off + k, none⟩ = some (.int .i64 zs[k]) := by
  obtain ⟨b, off, hA, hb, hc⟩ := h.at_ (k := k) (by rw [i64s_len]; exact hk)
  refine ⟨b, off, hA, hb, ?_⟩
  rw [hc]
  simp [i64s]
theorem infoI64 : (Try.prog.info? 3).map (fun i => (i.zero, i.size, i.bytes)) = some (some (.int .i64 0), 1, 8) := by kernel_rfl
theorem elemI : ElemT Try.prog 23 3 (.int .i64 0) 1 8 := ⟨Try.underlying23, info_parts infoI64, rfl, by decide⟩

/-- A new slice of ints. -/
def NewInts (w : World) (n : Nat) (xs : List Int) (e : Ending) (w' : World) : Prop :=
  ∃ A' c', e = .returned (.slice A' n c') ∧ w'.ownsRow w.heap.size 3 1 (.slice A' n c') n (i64s xs) ∧ Turn [] w w'

set_option maxHeartbeats 1000000 in
theorem cloneI_c (A : Option Addr) (n c : Nat) (xs : List Int) (w : World) (hx : Sl w A (i64s xs)) (hn : xs.length = n) (hl : n ≤ 17592186044416) :
    Calls Try.prog 27 #[.slice A n c] w (NewInts w n xs) := by
  have isnil := run_is_nil (P := Try.prog) Try.underlying23
  cases A with
  | none =>
    have h0 : xs = [] := by
      rcases Nat.eq_zero_or_pos xs.length with h | h
      · exact List.eq_nil_of_length_eq_zero h
      · obtain ⟨b, off, hA, _⟩ := hx (by rw [i64s_len]; exact h)
        cases hA
    subst h0
    subst hn
    go_enter Try.func27, Try.ntmps27
    go_wp2_with fail
    go_ret
    exact ⟨none, 0, by simp, World.ownsRow_nil _ _ _ _, Turn.refl _ _⟩
  | some a =>
    have HN := Lib.hid hn
    clear hn
    go_enter Try.func27, Try.ntmps27
    have hone := Lib.hid (i64s_one xs)
    have hxl : Hid ((i64s xs).length = n * 1) := by
      show (i64s xs).length = n * 1
      rw [i64s_len, HN.out, Nat.mul_one]
    have h0 := World.ownsRow_lit (base := w.heap.size) (e := 3) (size := 1) w #[] 0 (Nat.le_refl _) (by simp) rfl
    have H0 := Lib.hid h0
    clear h0
    go_wp2_with (at_builtin; refine wpList_append_sl elemI rfl _ _ rfl _ 0 _ [] rfl H0.out _ n c (i64s xs) rfl (hx.alloc _) hxl.out hone.out (by omega) (by omega) (by simp) ?_; intro A' c' w1 hown hg hlie)
    go_ret
    exact ⟨A', c', by simp, by simpa using hown, ((Turn.refl [] w).alloc _).andThen (Turn.of_grown (S := [w.heap.size]) hg (by simp)) (by simp)⟩

/-- Index's answer. -/
def IdxRes (xs : List Int) (x : Int) (w : World) (e : Ending) (w' : World) : Prop := ∃ r : Int, e = .returned (.int .i64 r) ∧ decide (0 ≤ r) = decide (x ∈ xs) ∧ w = w'
theorem idx_step {x : Int} {l : List Int} {k : Nat} (hk : k < l.length) (hne : x ≠ l[k]) (h : x ∉ l.take k) : x ∉ l.take (k + 1) := by
  rw [List.take_succ_eq_append_getElem hk, List.mem_append, List.mem_singleton]
  exact fun h' => h'.elim h hne

set_option maxHeartbeats 1000000 in
theorem index_c (A : Option Addr) (n c : Nat) (xs : List Int) (x : Int) (w : World) (hx : Sl w A (i64s xs)) (hn : xs.length = n) (hl : n ≤ 9223372036854775806) :
    Calls Try.prog 28 #[.slice A n c, .int .i64 x] w (IdxRes xs x w) := by
  have HN := Lib.hid hn
  clear hn
  go_enter Try.func28, Try.ntmps28
  go_wp2_with fail
  go_loop [8] (fun i => ∃ k : Nat, k ≤ n ∧ i = .int .i64 k ∧ Hid (x ∉ xs.take k)) (fun i => n - (intOf i).toNat)
  case atStart => exact ⟨0, Nat.zero_le _, rfl, Lib.hid (by simp)⟩
  case round =>
    obtain ⟨k, hk, rfl, ht⟩ := hrel
    by_cases hlt : k < n
    · have kx : k < xs.length := by rw [HN.out]; exact hlt
      obtain ⟨b1, o1, rfl, l1, c1⟩ := i64s_at hx kx
      have i0 : (0 : Int) ≤ (k : Int) := Int.natCast_nonneg _
      have i1 : (k : Int) < (n : Int) := by omega
      by_cases he : x = xs[k]
      · have hin : Hid (decide (x ∈ xs) = true) := by
          show decide (x ∈ xs) = true
          rw [he]
          simp
        have hq : (x == xs[k]) = true := by simp [he]
        clear he
        generalize xs[k] = u at *
        go_wp2_with fail
        go_ret
        exact ⟨k, by simp, by rw [hin.out]; simp, rfl⟩
      · have hq : (x == xs[k]) = false := by simp [he]
        have hnx := Lib.hid (idx_step kx he ht.out)
        clear he
        generalize xs[k] = u at *
        go_wp2_with fail
        go_round
        case rel => exact ⟨k + 1, by omega, by go_num, hnx⟩
        case measure => simp [intOf]; omega
    · have hin : Hid (decide (x ∈ xs) = false) := by
        show decide (x ∈ xs) = false
        have h1 := ht.out
        rw [List.take_of_length_le (by rw [HN.out]; omega)] at h1
        simpa using h1
      go_wp2_with fail
      go_ret
      exact ⟨-1, by simp, by rw [hin.out]; simp, rfl⟩

theorem contains_c (A : Option Addr) (n c : Nat) (xs : List Int) (x : Int) (w : World) (hx : Sl w A (i64s xs)) (hn : xs.length = n) (hl : n ≤ 9223372036854775806) :
    Calls Try.prog 24 #[.slice A n c, .int .i64 x] w fun e w' => e = .returned (.bool (decide (x ∈ xs))) ∧ w = w' := by
  have HI := Lib.hid (index_c A n c xs x w hx hn hl)
  clear hn
  go_enter Try.func24, Try.ntmps24
  go_wp2_with fail
  refine HI.out.mono ?_
  rintro e w1 ⟨r, rfl, hr, rfl⟩
  have HR := Lib.hid hr
  clear hr
  go_wp2_with fail
  go_ret
  exact ⟨by rw [← HR.out]; simp, rfl⟩
end Go.Proofs.Ytibepkipbmfonaa
