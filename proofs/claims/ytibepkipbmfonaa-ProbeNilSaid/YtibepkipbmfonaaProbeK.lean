/- Contracts: probe.Seeded, Round.Left, Round.Rounds; the law's few, vigilref21.In, the chapter's example. -/
import Derived.Test.YtibepkipbmfonaaRound2
namespace Go.Proofs.Ytibepkipbmfonaa
open Go.RowKit Go.ChangeMaps

theorem seeded_c (s : Int) (w : World) :
    Calls Try.prog 7 #[.int .u64 s] w fun e w' => e = .returned (.pointer (some ⟨w.heap.size, 0, none⟩)) ∧ w' = w.alloc (.cells #[.int .u64 s] 56) := by
  go_enter Try.func7, Try.ntmps7
  go_wp2_with fail
  go_ret
  exact ⟨by simp, rfl⟩
theorem rounds_c (r : Nat) (B : Nat → Prop) (ord : List Int) (cnt : Int) (w : World) (hr : RIs w B r ord cnt) :
    Calls Try.prog 15 #[.pointer (some ⟨r, 0, none⟩)] w fun e w' => e = .returned (.int .i64 cnt) ∧ w = w' := by
  obtain ⟨A, n, c, hb, _⟩ := hr
  have c1 := hb.cell 1
  go_enter Try.func15, Try.ntmps15
  go_wp2_with fail
  go_ret
  exact ⟨by simp, rfl⟩
theorem left_c (r : Nat) (B : Nat → Prop) (ord : List Int) (cnt : Int) (w : World) (hr : RIs w B r ord cnt) (hl : ord.length ≤ 17592186044416) :
    Calls Try.prog 14 #[.pointer (some ⟨r, 0, none⟩)] w (NewInts w ord.length ord) := by
  obtain ⟨A, n, c, hb, hs, hn, _⟩ := hr
  subst hn
  have c0 := hb.cell 0
  have HC := Lib.hid (cloneI_c A ord.length c ord w hs rfl hl)
  go_enter Try.func14, Try.ntmps14
  go_wp2_with fail
  refine HC.out.mono ?_
  rintro e w1 ⟨A', c', rfl, ho, hT⟩
  go_wp2_with fail
  go_ret
  exact ⟨A', c', by simp, ho, hT⟩

set_option maxHeartbeats 1000000 in
theorem few_c (A : Option Addr) (n c N : Nat) (xs : List Int) (w : World) (hx : Sl w A (i64s xs)) (hn : xs.length = n) (hc : n ≤ c) (hN : N ≤ 1000) (hm : c ≤ maxLen) :
    Calls Try.prog 8 #[.slice A n c, .int .i64 N] w (NewInts w (xs.take N).length (xs.take N)) := by
  have HN := Lib.hid hn
  unfold maxLen at hm
  obtain ⟨iI, hiI, -⟩ := elemI.info
  have HD := fun (w : World) a n c k h h0 h1 => run_slice_head (P := Try.prog) Try.underlying23 hiI w a n c k h h0 h1
  have hif : (if N < n then (N : Int) else (n : Int)) = (((xs.take N).length : Nat) : Int) := by rw [List.length_take, hn]; split <;> omega
  have hm1 : (xs.take N).length ≤ c := by rw [List.length_take]; omega
  have hm2 : (xs.take N).length ≤ 1000 := by rw [List.length_take]; omega
  have hs : Sl w A (i64s (xs.take N)) := by
    have := hx.take N
    simpa [i64s, List.map_take] using this
  have hone := Lib.hid (i64s_one (xs.take N))
  have hlen := Lib.hid (i64s_len (xs.take N))
  generalize xs.take N = ys at *
  generalize hml : ys.length = m at *
  have j0 : (0 : Int) ≤ (m : Int) := Int.natCast_nonneg _
  have j1 : (m : Int) ≤ (c : Int) := by omega
  have h0 := World.ownsRow_lit (base := w.heap.size) (e := 3) (size := 1) w #[] 0 (Nat.le_refl _) (by simp) rfl
  have H0 := Lib.hid h0
  have HM := Lib.hid hml
  clear h0 hiI hn hml
  go_enter Try.func8, Try.ntmps8
  go_wp2_with (at_builtin; go_must (refine wpList_append_sl elemI rfl _ _ rfl _ 0 _ [] rfl H0.out A m c (i64s ys) rfl (hs.alloc _) (by rw [hlen.out, Nat.mul_one]) hone.out (by omega) (by omega) (by simp) ?_); intro A' c' w1 hown hg hlie)
  go_ret
  exact ⟨A', c', by simp, by simpa using hown, ((Turn.refl [] w).alloc _).andThen (Turn.of_grown (S := [w.heap.size]) hg (by simp)) (by simp)⟩

set_option maxHeartbeats 1000000 in
theorem in_c (A : Option Addr) (n c : Nat) (xs : List Int) (x : Int) (w : World) (hx : Sl w A (i64s xs)) (hn : xs.length = n) (hl : n ≤ 9223372036854775806) :
    Calls Try.prog 10 #[.slice A n c, .int .i64 x] w fun e w' => e = .returned (.bool (decide (x ∈ xs))) ∧ w = w' := by
  have HN := Lib.hid hn
  clear hn
  go_enter Try.func10, Try.ntmps10
  go_wp2_with fail
  go_loop [5] (fun i => ∃ k : Nat, k ≤ n ∧ i = .int .i64 k ∧ Hid (x ∉ xs.take k)) (fun i => n - (intOf i).toNat)
  case atStart => exact ⟨0, Nat.zero_le _, rfl, Lib.hid (by simp)⟩
  case round =>
    obtain ⟨k, hk, rfl, ht⟩ := hrel
    by_cases hlt : k < n
    · have kx : k < xs.length := by rw [HN.out]; exact hlt
      obtain ⟨b1, o1, rfl, l1, c1⟩ := i64s_at hx kx
      have i0 : (0 : Int) ≤ (k : Int) := Int.natCast_nonneg _
      have i1 : (k : Int) < (n : Int) := by omega
      by_cases he : x = xs[k]
      · have hin : Hid (decide (x ∈ xs) = true) := by
          show decide (x ∈ xs) = true
          rw [he]
          simp
        have hq : (xs[k] == x) = true := by simp [he]
        clear he
        generalize xs[k] = u at *
        go_wp2_with fail
        go_ret
        exact ⟨by rw [hin.out]; simp, rfl⟩
      · have hq : (xs[k] == x) = false := by simp; exact fun h => he h.symm
        have hnx := Lib.hid (idx_step kx he ht.out)
        clear he
        generalize xs[k] = u at *
        go_wp2_with fail
        go_round
        case rel => exact ⟨k + 1, by omega, by go_num, hnx⟩
        case measure => simp [intOf]; omega
    · have hin : Hid (decide (x ∈ xs) = false) := by
        show decide (x ∈ xs) = false
        have h1 := ht.out
        rw [List.take_of_length_le (by rw [HN.out]; omega)] at h1
        simpa using h1
      go_wp2_with fail
      go_ret
      exact ⟨by rw [hin.out]; simp, rfl⟩

theorem RIs.lt {w : World} {B : Nat → Prop} {r : Nat} {ord : List Int} {cnt : Int} (h : RIs w B r ord cnt) : r < w.heap.size := by
  obtain ⟨A, n, c, hb, _⟩ := h
  exact hb.lt
theorem rk1 : rnext [7] 0 [] 0 = (some 7, 0, [], 1) := by decide +kernel
theorem rk2 : rnext [7] 0 [] 1 = (some 7, 0, [], 2) := by decide +kernel
theorem dk : dval (dstep 0) = 16294208416658607535 := by decide +kernel

set_option maxRecDepth 100000 in
set_option maxHeartbeats 1000000 in
theorem known_c (w : World) : Calls Try.prog 11 #[] w fun e w' => e = .returned (.bool true) ∧ Turn [] w w' := by
  go_enter Try.func11, Try.ntmps11
  go_wp2_with fail
  refine (seeded_c 0 _).mono ?_
  rintro e w1 ⟨rfl, rfl⟩
  go_wp2_with fail
  have d0 := ((Blk.new w 56 #[.int .u64 0]).alloc (.cells #[.slice none 0 0, .int .i64 0] 28))
  have r0 := (Blk.new (w.alloc (.cells #[.int .u64 0] 56)) 28 #[.slice none 0 0, .int .i64 0])
  have hz : (w.alloc (.cells #[.int .u64 0] 56)).heap.size = w.heap.size + 1 := by simp
  rw [hz] at r0
  have R0 : RIs (((w.alloc (.cells #[.int .u64 0] 56)).alloc (.cells #[.slice none 0 0, .int .i64 0] 28)).alloc (.cells #[.int .i64 7] 3)) (w.heap.size + 2 ≤ ·) (w.heap.size + 1) [] 0 :=
    ⟨none, 0, 0, r0.alloc _, Sl.nil _ _, rfl, Nat.le_refl _, by simp, by simp, by omega⟩
  have s7 : Sl (((w.alloc (.cells #[.int .u64 0] 56)).alloc (.cells #[.slice none 0 0, .int .i64 0] 28)).alloc (.cells #[.int .i64 7] 3)) (some ⟨w.heap.size + 1 + 1, 0, none⟩) (i64s [7]) := by
    have := Sl.new ((w.alloc (.cells #[.int .u64 0] 56)).alloc (.cells #[.slice none 0 0, .int .i64 0] 28)) #[.int .i64 7] 3
    simpa [i64s] using this
  have T3 := (((Turn.refl [] w).alloc (.cells #[.int .u64 0] 56)).alloc (.cells #[.slice none 0 0, .int .i64 0] 28)).alloc (.cells #[.int .i64 7] 3)
  refine (rnext_c w.heap.size (w.heap.size + 1) (w.heap.size + 2 ≤ ·) 0 0 [] [7] _ 1 1 _ (d0.alloc _) R0 (by omega) (by intro b; simp; omega) (by omega) s7 (fun a ha => by cases ha; simp; omega) rfl (by omega) (by omega) (by omega)).mono ?_
  rw [rk1]
  rintro e w2 ⟨rfl, d2, R2, hT2⟩
  have hT2' := T3.andThen hT2 (by simp)
  clear d0 r0 hz R0 s7 T3 hT2
  simp only at d2 R2
  go_wp2_with fail
  have s7 : Sl (w2.alloc (.cells #[.int .i64 7] 3)) (some ⟨w2.heap.size, 0, none⟩) (i64s [7]) := by
    have := Sl.new w2 #[.int .i64 7] 3
    simpa [i64s] using this
  have R2' : RIs (w2.alloc (.cells #[.int .i64 7] 3)) (w.heap.size + 2 ≤ ·) (w.heap.size + 1) [] 1 := R2.alloc _
  have z2 := R2.lt
  refine (rnext_c w.heap.size (w.heap.size + 1) (w.heap.size + 2 ≤ ·) 0 1 [] [7] _ 1 1 _ (d2.alloc _) R2' (by omega) (by intro b; simp; omega) (by omega) s7 (fun a ha => by cases ha; simp; omega) rfl (by omega) (by omega) (by omega)).mono ?_
  rw [rk2]
  rintro e w4 ⟨rfl, d4, R4, hT4⟩
  have hT4' := (hT2'.alloc (.cells #[.int .i64 7] 3)).andThen hT4 (by simp)
  clear d2 R2 R2' s7 hT2' hT4
  simp only at d4 R4
  go_wp2_with fail
  refine (rounds_c _ _ _ _ _ R4).mono ?_
  rintro e w5 ⟨rfl, rfl⟩
  go_wp2_with fail
  refine (seeded_c 0 _).mono ?_
  rintro e w6 ⟨rfl, rfl⟩
  go_wp2_with fail
  refine (dnext_c _ 0 _ (Blk.new _ _ _)).mono ?_
  rw [dk]
  rintro e w7 ⟨rfl, d7, hT7⟩
  go_wp2_with fail
  go_ret
  exact ⟨by simp, (hT4'.alloc _).andThen hT7 (by intro i hi; simp at hi; subst hi; exact .inr hT4'.size)⟩
end Go.Proofs.Ytibepkipbmfonaa
