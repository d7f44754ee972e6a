/- Contracts of hints.New, Waiting, Len; the chapter's example. -/
import Derived.Test.YtpdencmgjihnfaaOfferAll
import Derived.Test.YtpdencmgjihnfaaTimes
namespace Go.Proofs.Ytpdencmgjihnfaa
open Go.RowKit Go.ChangeMaps

theorem newH_c (c1 c2 c3 c4 t : Int) (w : World) (hr : Right (c1, c2, c3, c4)) (h1 : 1 ≤ t) (h2 : t ≤ 255) :
    Calls Try.prog 6 #[.agg #[.int .i64 c1, .int .i64 c2, .int .i64 c3, .int .i64 c4], .int .i64 t] w fun e w' => ∃ h q bm base, e = .returned (.tuple #[.pointer (some ⟨h, 0, none⟩), .int .i64 0]) ∧ HIs w' h q bm (c1, c2, c3, c4) t [] base none 0 0 [] ∧ w.heap.size ≤ h ∧ w.heap.size ≤ q ∧ w.heap.size ≤ bm ∧ Turn [] w w' := by
  have hE : Hid (checkE (c1, c2, c3, c4) = 0) := by show checkE _ = _; unfold checkE; rw [if_pos hr]
  clear hr
  go_enter Try.func6, Try.ntmps6
  go_wp2_with fail
  refine (check_c c1 c2 c3 c4 _).mono ?_
  rw [hE.out]
  rintro e w1 ⟨rfl, hT1⟩
  have T1 := ((Turn.refl [] w).alloc (.cells #[.int .i64 c1, .int .i64 c2, .int .i64 c3, .int .i64 c4] 29)).trans hT1
  have K1 := claim_cells (hT1.blk (Blk.new w 29 #[.int .i64 c1, .int .i64 c2, .int .i64 c3, .int .i64 c4]) (by simp))
  obtain ⟨k0, k1, k2, k3, kl⟩ := K1
  go_wp2_with fail
  refine (new_e t _ h1 h2).mono ?_
  rintro e w2 ⟨q, bm, rfl, hq, l1, l2, hT2⟩
  have K2 := claim_cells (hT2.blk (hT1.blk (Blk.new w 29 #[.int .i64 c1, .int .i64 c2, .int .i64 c3, .int .i64 c4]) (by simp)) (by simp))
  clear k0 k1 k2 k3 kl
  obtain ⟨k0, k1, k2, k3, kl⟩ := K2
  go_wp2_with fail
  go_ret2
  have z1 := T1.size
  have z2 := hT2.size
  have T3 := ((Turn.refl [] w2).alloc (.cells #[.pointer (some ⟨q, 0, none⟩), .int .i64 c1, .int .i64 c2, .int .i64 c3, .int .i64 c4, .slice none 0 0] 68))
  have hql := hq.lt
  exact ⟨w2.heap.size, q, bm, w2.heap.size + 1, by simp, ⟨Blk.new _ _ _, hq.turn T3 (by simp) (by simp), World.ownsRow_nil _ _ _ _, rfl, by omega, by omega, by omega, by omega, by omega, by simp⟩, by omega, by omega, by omega, (T1.trans hT2).trans T3⟩
theorem waiting_c (h q bm : Nat) (own : C4) (times : Int) (m : QM) (base : Nat) (A : Option Addr) (n cap : Nat) (wl : List C4) (w : World) (H : HIs w h q bm own times m base A n cap wl) :
    Calls Try.prog 7 #[.pointer (some ⟨h, 0, none⟩)] w (NewCs w n wl) := by
  obtain ⟨o1, o2, o3, o4⟩ := own
  obtain ⟨-, -, -, -, -, b5, hl⟩ := H.cells
  have hle := H.le
  have CL := Lib.hid (cloneC_c A n cap wl w (Sl.of_own H.row) H.len (by omega))
  clear H
  go_enter Try.func7, Try.ntmps7
  go_wp2_with fail
  refine CL.out.mono ?_
  rintro e w1 ⟨A', c', rfl, ho, hT⟩
  go_wp2_with fail
  go_ret
  exact ⟨A', c', by simp, ho, hT⟩
theorem hlen_c (h q bm : Nat) (own : C4) (times : Int) (m : QM) (base : Nat) (A : Option Addr) (n cap : Nat) (wl : List C4) (w : World) (H : HIs w h q bm own times m base A n cap wl) :
    Calls Try.prog 22 #[.pointer (some ⟨h, 0, none⟩)] w fun e w' => e = .returned (.int .i64 n) ∧ w = w' := by
  obtain ⟨o1, o2, o3, o4⟩ := own
  obtain ⟨-, -, -, -, -, b5, hl⟩ := H.cells
  clear H
  go_enter Try.func22, Try.ntmps22
  go_wp2_with fail
  go_ret
  exact ⟨by simp, rfl⟩
theorem hk1 : offAll (5, 0, 0, 1) 1 7 3 [(8, 0, 9, 2), (9, 0, 9, 3)] [] [] = ([0, 15], [(8, 0, 9, 2)], [(7, 0, 1)]) := by decide +kernel
set_option maxHeartbeats 1000000 in
theorem hknown_c (w : World) : Calls Try.prog 11 #[] w fun e w' => e = .returned (.bool true) ∧ Turn [] w w' := by
  go_enter Try.func11, Try.ntmps11
  go_wp2_with fail
  refine (newH_c 5 0 0 1 1 _ (by decide) (by decide) (by decide)).mono ?_
  rintro e w1 ⟨h, q, bm, base, rfl, H1, l1, l2, l3, hT1⟩
  go_wp2_with fail
  have H1' := H1.turn ((Turn.refl [] w1).alloc (.cells #[.int .i64 8, .int .i64 0, .int .i64 9, .int .i64 2, .int .i64 9, .int .i64 0, .int .i64 9, .int .i64 3] 29)) (by simp) (by simp) (by simp) (by simp)
  have lo := H1.lo
  refine (offerAll_c h q bm _ 1 [] base none 0 0 [] 7 3 (some ⟨w1.heap.size, 0, none⟩) 2 2 [(8, 0, 9, 2), (9, 0, 9, 3)] _ H1' (by decide) (Sl.new _ #[.int .i64 8, .int .i64 0, .int .i64 9, .int .i64 2, .int .i64 9, .int .i64 0, .int .i64 9, .int .i64 3] _) rfl (by omega) (by intro i hi; simp [blks] at hi ⊢; omega)).mono ?_
  rw [hk1]
  rintro e w2 ⟨D, nd, cd, A', n', cap', rfl, ho, rfl, H2, -, -, hT2⟩
  simp only at ho H2
  have so := Sl.of_own ho
  obtain ⟨bd, od, rfl, lbd, dc⟩ := so (by simp [ents64])
  have d0 := dc 0 (.int .i64 0) rfl
  rw [Nat.add_zero] at d0
  have d1 := dc 1 (.int .i64 15) rfl
  have LN := Lib.hid (hlen_c h q bm _ 1 _ base A' n' cap' _ w2 H2)
  have hn1 : n' = 1 := H2.len.symm
  subst hn1
  have TT : Turn [] w w2 := (hT1.alloc _).andThen hT2 (by intro i hi; simp [blks] at hi; rcases hi with rfl | rfl <;> exact .inr (by omega))
  clear dc so ho H2 hT2 H1 H1'
  go_wp2_with fail
  refine LN.out.mono ?_
  rintro e w3 ⟨rfl, rfl⟩
  go_wp2_with fail
  go_ret
  exact ⟨by simp, TT⟩

end Go.Proofs.Ytpdencmgjihnfaa
