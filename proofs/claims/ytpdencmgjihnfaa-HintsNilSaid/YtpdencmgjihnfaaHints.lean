/- Contracts of hints.New, Waiting, Len; vigilref11.Times; the chapter's example. -/
import Derived.Test.YtpdencmgjihnfaaOfferAll
namespace Go.Proofs.Ytpdencmgjihnfaa
open Go.RowKit Go.ChangeMaps

theorem newH_c (c1 c2 c3 c4 t : Int) (w : World) (hr : Right (c1, c2, c3, c4)) (h1 : 1 ≤ t) (h2 : t ≤ 255) :
    Calls Try.prog 6 #[.agg #[.int .i64 c1, .int .i64 c2, .int .i64 c3, .int .i64 c4], .int .i64 t] w fun e w' => ∃ h q bm base, e = .returned (.tuple #[.pointer (some ⟨h, 0, none⟩), .int .i64 0]) ∧ HIs w' h q bm (c1, c2, c3, c4) t [] base none 0 0 [] ∧ w.heap.size ≤ h ∧ w.heap.size ≤ q ∧ w.heap.size ≤ bm ∧ Turn [] w w' := by
  have hE : Hid (checkE (c1, c2, c3, c4) = 0) := by show checkE _ = _; unfold checkE; rw [if_pos hr]
  clear hr
  go_enter Try.func6, Try.ntmps6
  go_wp2_with fail
  refine (check_c c1 c2 c3 c4 _).mono ?_
  rw [hE.out]
  rintro e w1 ⟨rfl, hT1⟩
  have T1 := ((Turn.refl [] w).alloc (.cells #[.int .i64 c1, .int .i64 c2, .int .i64 c3, .int .i64 c4] 29)).trans hT1
  have K1 := claim_cells (hT1.blk (Blk.new w 29 #[.int .i64 c1, .int .i64 c2, .int .i64 c3, .int .i64 c4]) (by simp))
  obtain ⟨k0, k1, k2, k3, kl⟩ := K1
  go_wp2_with fail
  refine (new_e t _ h1 h2).mono ?_
  rintro e w2 ⟨q, bm, rfl, hq, l1, l2, hT2⟩
  have K2 := claim_cells (hT2.blk (hT1.blk (Blk.new w 29 #[.int .i64 c1, .int .i64 c2, .int .i64 c3, .int .i64 c4]) (by simp)) (by simp))
  clear k0 k1 k2 k3 kl
  obtain ⟨k0, k1, k2, k3, kl⟩ := K2
  go_wp2_with fail
  go_ret2
  have z1 := T1.size
  have z2 := hT2.size
  have T3 := ((Turn.refl [] w2).alloc (.cells #[.pointer (some ⟨q, 0, none⟩), .int .i64 c1, .int .i64 c2, .int .i64 c3, .int .i64 c4, .slice none 0 0] 68))
  have hql := hq.lt
  exact ⟨w2.heap.size, q, bm, w2.heap.size + 1, by simp, ⟨Blk.new _ _ _, hq.turn T3 (by simp) (by simp), World.ownsRow_nil _ _ _ _, rfl, by omega, by omega, by omega, by omega, by omega, by simp⟩, by omega, by omega, by omega, (T1.trans hT2).trans T3⟩
theorem waiting_c (h q bm : Nat) (own : C4) (times : Int) (m : QM) (base : Nat) (A : Option Addr) (n cap : Nat) (wl : List C4) (w : World) (H : HIs w h q bm own times m base A n cap wl) :
    Calls Try.prog 7 #[.pointer (some ⟨h, 0, none⟩)] w (NewCs w n wl) := by
  obtain ⟨o1, o2, o3, o4⟩ := own
  obtain ⟨-, -, -, -, -, b5, hl⟩ := H.cells
  have hle := H.le
  have CL := Lib.hid (cloneC_c A n cap wl w (Sl.of_own H.row) H.len (by omega))
  clear H
  go_enter Try.func7, Try.ntmps7
  go_wp2_with fail
  refine CL.out.mono ?_
  rintro e w1 ⟨A', c', rfl, ho, hT⟩
  go_wp2_with fail
  go_ret
  exact ⟨A', c', by simp, ho, hT⟩
theorem hlen_c (h q bm : Nat) (own : C4) (times : Int) (m : QM) (base : Nat) (A : Option Addr) (n cap : Nat) (wl : List C4) (w : World) (H : HIs w h q bm own times m base A n cap wl) :
    Calls Try.prog 22 #[.pointer (some ⟨h, 0, none⟩)] w fun e w' => e = .returned (.int .i64 n) ∧ w = w' := by
  obtain ⟨o1, o2, o3, o4⟩ := own
  obtain ⟨-, -, -, -, -, b5, hl⟩ := H.cells
  clear H
  go_enter Try.func22, Try.ntmps22
  go_wp2_with fail
  go_ret
  exact ⟨by simp, rfl⟩
theorem hk1 : offAll (5, 0, 0, 1) 1 7 3 [(8, 0, 9, 2), (9, 0, 9, 3)] [] [] = ([0, 15], [(8, 0, 9, 2)], [(7, 0, 1)]) := by decide +kernel
set_option maxHeartbeats 1000000 in
theorem hknown_c (w : World) : Calls Try.prog 11 #[] w fun e w' => e = .returned (.bool true) ∧ Turn [] w w' := by
  go_enter Try.func11, Try.ntmps11
  go_wp2_with fail
  refine (newH_c 5 0 0 1 1 _ (by decide) (by decide) (by decide)).mono ?_
  rintro e w1 ⟨h, q, bm, base, rfl, H1, l1, l2, l3, hT1⟩
  go_wp2_with fail
  have H1' := H1.turn ((Turn.refl [] w1).alloc (.cells #[.int .i64 8, .int .i64 0, .int .i64 9, .int .i64 2, .int .i64 9, .int .i64 0, .int .i64 9, .int .i64 3] 29)) (by simp) (by simp) (by simp) (by simp)
  have lo := H1.lo
  refine (offerAll_c h q bm _ 1 [] base none 0 0 [] 7 3 (some ⟨w1.heap.size, 0, none⟩) 2 2 [(8, 0, 9, 2), (9, 0, 9, 3)] _ H1' (by decide) (Sl.new _ #[.int .i64 8, .int .i64 0, .int .i64 9, .int .i64 2, .int .i64 9, .int .i64 0, .int .i64 9, .int .i64 3] _) rfl (by omega) (by intro i hi; simp [blks] at hi ⊢; omega)).mono ?_
  rw [hk1]
  rintro e w2 ⟨D, nd, cd, A', n', cap', rfl, ho, rfl, H2, -, -, hT2⟩
  simp only at ho H2
  have so := Sl.of_own ho
  obtain ⟨bd, od, rfl, lbd, dc⟩ := so (by simp [ents64])
  have d0 := dc 0 (.int .i64 0) rfl
  rw [Nat.add_zero] at d0
  have d1 := dc 1 (.int .i64 15) rfl
  have LN := Lib.hid (hlen_c h q bm _ 1 _ base A' n' cap' _ w2 H2)
  have hn1 : n' = 1 := H2.len.symm
  subst hn1
  have TT : Turn [] w w2 := (hT1.alloc _).andThen hT2 (by intro i hi; simp [blks] at hi; rcases hi with rfl | rfl <;> exact .inr (by omega))
  clear dc so ho H2 hT2 H1 H1'
  go_wp2_with fail
  refine LN.out.mono ?_
  rintro e w3 ⟨rfl, rfl⟩
  go_wp2_with fail
  go_ret
  exact ⟨by simp, TT⟩

/-- Slices of takes. -/
def tcs : List (Int × Int) → List Value
  | [] => []
  | c :: r => .int .i64 c.1 :: .int .i64 c.2 :: tcs r
theorem tcs_len : ∀ l : List (Int × Int), (tcs l).length = l.length * 2
  | [] => rfl
  | c :: r => by simp [tcs, tcs_len r]; omega
theorem tcs_append : ∀ l m : List (Int × Int), tcs (l ++ m) = tcs l ++ tcs m
  | [], m => rfl
  | c :: r, m => by simp [tcs, tcs_append r m]
theorem tcs_get : ∀ (l : List (Int × Int)) (k : Nat) (hk : k < l.length), (tcs l)[k * 2]? = some (.int .i64 l[k].1) ∧ (tcs l)[k * 2 + 1]? = some (.int .i64 l[k].2)
  | [], k, hk => absurd hk (by simp)
  | c :: r, 0, hk => ⟨rfl, rfl⟩
  | c :: r, k + 1, hk => by
    have h := tcs_get r k (by simpa using hk)
    have e : (k + 1) * 2 = k * 2 + 2 := by omega
    have e1 : (k + 1) * 2 + 1 = (k * 2 + 1) + 2 := by omega
    rw [e1, e]
    exact h
theorem tcs_at {w : World} {A : Option Addr} {l : List (Int × Int)} (h : Sl w A (tcs l)) {k : Nat} (hk : k < l.length) : ∃ b off, A = some ⟨b, off, none⟩ ∧ b < w.heap.size ∧ w.cell? ⟨b, off + k * 2, none⟩ = some (.int .i64 l[k].1) ∧ w.cell? ⟨b, off + k * 2 + 1, none⟩ = some (.int .i64 l[k].2) := by
  obtain ⟨b, off, hA, hb, hc⟩ := h (by rw [tcs_len]; omega)
  obtain ⟨g0, g1⟩ := tcs_get l k hk
  exact ⟨b, off, hA, hb, hc _ _ g0, by rw [Nat.add_assoc]; exact hc _ _ g1⟩
def timesL (l : List (Int × Int)) (s p : Int) : Nat := l.countP (fun x => x.1 == s && x.2 == p)
theorem timesL_le (l : List (Int × Int)) (s p : Int) : timesL l s p ≤ l.length := List.countP_le_length
theorem timesL_step (l : List (Int × Int)) (k : Nat) (hk : k < l.length) (s p : Int) : timesL (l.take (k + 1)) s p = timesL (l.take k) s p + (if l[k].1 = s ∧ l[k].2 = p then 1 else 0) := by
  unfold timesL
  rw [List.take_succ_eq_append_getElem hk, List.countP_append]
  congr 1
  simp [List.countP_cons]
theorem infoT : (Try.prog.info? 41).map (fun i => (i.zero, i.size, i.bytes)) = some (some (.agg #[.int .i64 0, .int .i64 0]), 2, 16) := by kernel_rfl
theorem elemT : ElemT Try.prog 30 41 (.agg #[.int .i64 0, .int .i64 0]) 2 16 := ⟨Try.underlying30, info_parts infoT, rfl, by decide⟩
set_option maxRecDepth 100000 in
set_option maxHeartbeats 1000000 in
theorem times_c (A : Option Addr) (n c : Nat) (l : List (Int × Int)) (s p : Int) (w : World) (hx : Sl w A (tcs l)) (hn : l.length = n) (hl : n ≤ 1000000) :
    Calls Try.prog 10 #[.slice A n c, .int .i64 s, .int .i64 p] w fun e w' => e = .returned (.int .i64 (timesL l s p)) ∧ Turn [] w w' := by
  have HN := Lib.hid hn
  clear hn
  go_enter Try.func10, Try.ntmps10
  go_wp2_with fail
  go_loopw [7, 8] (fun x i wr => ∃ k : Nat, k ≤ n ∧ i = .int .i64 k ∧ x = .int .i64 (timesL (l.take k) s p) ∧ Turn [] w wr) (fun _ i _ => n - (intOf i).toNat)
  case atStart => exact ⟨0, Nat.zero_le _, rfl, rfl, Turn.refl _ _⟩
  case round =>
    obtain ⟨k, hk, rfl, rfl, hT⟩ := hrel
    have i0 : (0 : Int) ≤ (k : Int) := Int.natCast_nonneg _
    by_cases hlt : k < n
    · have kx : k < l.length := by rw [HN.out]; exact hlt
      obtain ⟨b1, o1, rfl, l1, c0, c1⟩ := tcs_at (hx.turn0 hT) kx
      have i1 : (k : Int) < (n : Int) := by omega
      have hst := timesL_step l k kx s p
      have hqk := timesL_le (l.take k) s p
      rw [List.length_take] at hqk
      have hqk' : timesL (l.take k) s p ≤ k := by omega
      generalize timesL (l.take k) s p = q at *
      have HST := Lib.hid hst
      clear hst hqk
      generalize l[k] = x at *
      obtain ⟨x1, x2⟩ := x
      simp only at c0 c1
      by_cases a1 : x1 = s
      · have a1' : (x1 == s) = true := by simpa using a1
        by_cases a2 : x2 = p
        · have a2' : (x2 == p) = true := by simpa using a2
          have hv : Hid (timesL (l.take (k + 1)) s p = q + 1) := by show _ = _; rw [HST.out]; simp [a1, a2]
          clear a1 a2
          go_wp2_with fail
          go_roundw
          case rel => exact ⟨k + 1, by omega, by go_num, by rw [hv.out]; go_num, hT⟩
          case measure => simp [intOf]; omega
        · have a2' : (x2 == p) = false := by simpa using a2
          have hv : Hid (timesL (l.take (k + 1)) s p = q) := by show _ = _; rw [HST.out]; simp [a1, a2]
          clear a1 a2
          go_wp2_with fail
          go_roundw
          case rel => exact ⟨k + 1, by omega, by go_num, by rw [hv.out], hT⟩
          case measure => simp [intOf]; omega
      · have a1' : (x1 == s) = false := by simpa using a1
        have hv : Hid (timesL (l.take (k + 1)) s p = q) := by show _ = _; rw [HST.out]; simp [a1]
        clear a1
        go_wp2_with fail
        go_roundw
        case rel => exact ⟨k + 1, by omega, by go_num, by rw [hv.out], hT⟩
        case measure => simp [intOf]; omega
    · have i1 : ¬ (k : Int) < (n : Int) := by omega
      have hv : Hid (timesL (l.take k) s p = timesL l s p) := by show _ = _; rw [List.take_of_length_le (by rw [HN.out]; omega)]
      generalize timesL (l.take k) s p = q at *
      go_wp2_with fail
      go_ret
      exact ⟨by rw [← hv.out]; simp, hT⟩
end Go.Proofs.Ytpdencmgjihnfaa
