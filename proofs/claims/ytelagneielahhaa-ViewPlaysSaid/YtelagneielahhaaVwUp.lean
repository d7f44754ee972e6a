/- A view's Up. -/
import Derived.Test.YtelagneielahhaaVwKnown
import Derived.Test.YtelagneielahhaaI64
namespace Go.Proofs.Ytelagneielahhaa
open Go.RowKit Go.ChangeMaps Go.MapKept

/-- Who is. -/
def upL (l : List Int) (m : VM) : List Int := (suchL (upB l) (m.map (·.2))).map (·.1)
set_option maxRecDepth 100000 in
set_option maxHeartbeats 4000000 in
theorem upV_c {w : World} {v mb : Nat} {own : C4} {m : VM} (h : VIs w v mb own m) (hw : ∀ p ∈ m, (Lit.int .i64 p.1).wf = true) (A0 : Option Addr) (n0 c0 : Nat) (l : List Int) (hx : Sl w A0 (i64s l)) (hn : l.length = n0) (hb : n0 ≤ 1000000) :
    Calls Try.prog 18 #[.pointer (some ⟨v, 0, none⟩), .slice A0 n0 c0] w fun e w' => ∃ D c, e = .returned (.slice D (upL l m).length c) ∧ w'.ownsRow w.heap.size 3 1 (.slice D (upL l m).length c) (upL l m).length (i64s (upL l m)) ∧ Turn [] w w' := by
  have T0 : Turn [] w (w.alloc (.cells #[.slice A0 n0 c0] 45)) := (Turn.refl [] w).alloc _
  have BT := Blk.new w 45 #[.slice A0 n0 c0]
  have SC := Lib.hid (such_c (h.turn T0 (by simp) (by simp)) hw 41 #[.pointer (some ⟨w.heap.size, 0, none⟩)] (upB l) enterUp (fun x wz hT => by
    have BT2 := hT.blk BT (by simp)
    exact up1_c w.heap.size A0 n0 c0 l x wz (hx.turn0 (T0.trans hT)) hn hb (BT2.cell 0) BT2.lt))
  have hll : (suchL (upB l) (m.map (·.2))).length ≤ 16 := by
    have := suchL_len (upB l) (m.map (·.2))
    rw [List.length_map] at this
    have := h.le
    omega
  clear h hw hx BT
  unfold upL
  rw [List.length_map]
  generalize suchL (upB l) (m.map (·.2)) = cs at *
  go_enter Try.func18, Try.ntmps18
  go_wp2_with fail
  refine SC.out.mono ?_
  rintro e w1 ⟨A, c, rfl, oA, hT1⟩
  have HA := Lib.hid oA
  have T1 := T0.trans hT1
  have hz1 : w.heap.size + 1 ≤ w1.heap.size := by have := hT1.size; simpa using this
  have HT1 := Lib.hid T1
  clear oA hT1 T0 T1
  go_wp2_with fail
  go_loopw [5, 12] (fun x i wr => ∃ k : Nat, k ≤ cs.length ∧ i = .int .i64 k ∧ ∃ D cd, x = .slice D k cd ∧ wr.ownsRow w1.heap.size 3 1 (.slice D k cd) k (i64s ((cs.take k).map (·.1))) ∧ Turn [] w1 wr) (fun _ i _ => cs.length - (intOf i).toNat)
  case atStart => exact ⟨0, Nat.zero_le _, rfl, none, 0, rfl, World.ownsRow_nil _ _ _ _, Turn.refl _ _⟩
  case round =>
    obtain ⟨k, hk, rfl, D, cd, rfl, oD, hT⟩ := hrel
    obtain ⟨wx, rfl⟩ : ∃ wo : World, wo = wr := ⟨_, rfl⟩
    have i0 : (0 : Int) ≤ (k : Int) := Int.natCast_nonneg _
    have HD := Lib.hid oD
    have hz := hT.size
    clear oD
    by_cases hlt2 : k < cs.length
    · have i1 : (k : Int) < (cs.length : Int) := by omega
      obtain ⟨b1, o1, rfl, l1, q0, q1, q2, q3⟩ := ccs_at ((Sl.of_own HA.out).turn0 hT) hlt2
      have hstep : Hid ((cs.take (k + 1)).map (·.1) = (cs.take k).map (·.1) ++ [cs[k].1]) := by
        show _ = _
        rw [List.take_succ_eq_append_getElem hlt2, List.map_append]
        rfl
      generalize cs[k] = x at *
      obtain ⟨x1, x2, x3, x4⟩ := x
      simp only at q0 q1 q2 q3 hstep
      go_wp2_with (at_builtin; refine wpList_append_sl elemI rfl _ _ rfl D k cd _ rfl ((HD.out.alloc _).alloc _) (some ⟨wx.heap.size + 1, 0, none⟩) 1 1 [.int .i64 x1] rfl (by have := Sl.new (wx.alloc (.cells #[.int .i64 x1, .int .i64 x2, .int .i64 x3, .int .i64 x4] 29)) #[.int .i64 x1] 3; simpa using this) (by simp) (by simp [Value.oneCell']) (by omega) (by omega) (by simp; omega) ?_; intro D' cd2 w4 own4 hg4 hlie4)
      go_roundw
      case rel => exact ⟨k + 1, by omega, by go_num, D', cd2, rfl, by rw [hstep.out, i64s, List.map_append]; exact own4, ((hT.alloc _).alloc _).andThen (grown_turn hg4) (fun j hj => .inr (own_ltA HD.out j hj).2)⟩
      case measure => simp [intOf]; omega
    · obtain rfl : k = cs.length := by omega
      have i1 : ¬ (cs.length : Int) < (cs.length : Int) := by omega
      have htk : (cs.take cs.length).map (·.1) = cs.map (·.1) := by rw [List.take_length]
      have HTK := Lib.hid htk
      clear htk
      go_wp2_with fail
      go_ret
      exact ⟨D, cd, by simp, by have := own_down HD.out (show w.heap.size ≤ w1.heap.size by omega); rw [HTK.out] at this; exact this, HT1.out.trans hT⟩
end Go.Proofs.Ytelagneielahhaa
