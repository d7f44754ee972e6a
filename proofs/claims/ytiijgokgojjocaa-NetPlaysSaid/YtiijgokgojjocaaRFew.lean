/- vigillaw30's few. -/
import Derived.Test.YtiijgokgojjocaaRNet
import Derived.Test.YtiijgokgojjocaaNetBv
import Derived.Test.YtiijgokgojjocaaNetSend
namespace Go.Proofs.Ytiijgokgojjocaa
open Go.RowKit Go.ChangeMaps Go.WideMaps Go.MapKept Go.WideShapes

theorem infoNL : (Try.prog.info? 29).map (fun i => (i.zero, i.size, i.bytes)) = some (some (.agg #[.int .i64 0, .slice none 0 0]), 2, 32) := by kernel_rfl
theorem elemNL : ElemT Try.prog 57 29 (.agg #[.int .i64 0, .slice none 0 0]) 2 32 := ⟨Try.underlying57, info_parts infoNL, rfl, by decide⟩
theorem infoRL : (Try.prog.info? 62).map (fun i => (i.zero, i.size, i.bytes)) = some (some (.agg #[.int .i64 0, .slice none 0 0]), 2, 32) := by kernel_rfl
theorem elemRL : ElemT Try.prog 58 62 (.agg #[.int .i64 0, .slice none 0 0]) 2 32 := ⟨Try.underlying58, info_parts infoRL, rfl, by decide⟩
/-- The letters of few. -/
def fewL (dst0 : Int) (L : Nat → Bs) (k : Nat) : List Lt := (List.range k).map fun i => ⟨dst0, ((L i).cut 60).A, ((L i).cut 60).n, ((L i).cut 60).c, ((L i).cut 60).xs⟩
theorem fewL_succ (dst0 : Int) (L : Nat → Bs) (k : Nat) : fewL dst0 L (k + 1) = fewL dst0 L k ++ [⟨dst0, ((L k).cut 60).A, ((L k).cut 60).n, ((L k).cut 60).c, ((L k).cut 60).xs⟩] := by simp [fewL, List.range_succ]
theorem fewL_len (dst0 : Int) (L : Nat → Bs) (k : Nat) : (fewL dst0 L k).length = k := by simp [fewL]
def Fewed (w : World) (dst0 : Int) (L : Nat → Bs) (k : Nat) (e : Ending) (w' : World) : Prop :=
  ∃ X cx Y cy, e = .returned (.tuple #[.slice X k cx, .slice Y k cy]) ∧ w'.ownsRow w.heap.size 29 2 (.slice X k cx) k (lcs (fewL dst0 L k)) ∧ w'.ownsRow w.heap.size 62 2 (.slice Y k cy) k (lcs (fewL dst0 L k)) ∧ Turn [] w w'
set_option maxRecDepth 100000 in
set_option maxHeartbeats 4000000 in
theorem few_c (A0 : Option Addr) (len cap0 : Nat) (L : Nat → Bs) (dst0 : Int) (w : World) (hl : Letters w A0 len L) (hlen : len ≤ maxLen) :
    Calls Try.prog 18 #[.slice A0 len cap0, .int .i64 dst0] w (Fewed w dst0 L (min len 6)) := by
  have HL := Lib.hid hl
  unfold maxLen at hlen
  unfold Fewed
  obtain ⟨iB, hiB, hzB⟩ := elemB.info
  have HD := fun (w : World) a n c k h h0 h1 => run_slice_head Try.underlying26 hiB w a n c k h h0 h1
  clear hiB hzB hl
  go_enter Try.func18, Try.ntmps18
  go_wp2_with fail
  go_loopw [6, 7, 8] (fun x y ix wr => ∃ k X cx Y cy, k ≤ len ∧ k ≤ 6 ∧ ix = .int .i64 ((k : Nat) : Int) ∧ x = .slice X k cx ∧ y = .slice Y k cy ∧ wr.ownsRow w.heap.size 29 2 (.slice X k cx) k (lcs (fewL dst0 L k)) ∧ wr.ownsRow w.heap.size 62 2 (.slice Y k cy) k (lcs (fewL dst0 L k)) ∧ (∀ i ∈ blks X, i ∉ blks Y) ∧ Turn [] w wr) (fun _ _ i _ => 6 - (intOf i).toNat)
  case atStart => exact ⟨0, none, 0, none, 0, by omega, by omega, rfl, rfl, rfl, World.ownsRow_nil _ _ _ _, World.ownsRow_nil _ _ _ _, by simp [blks], Turn.refl _ _⟩
  case round =>
    obtain ⟨k, X, cx, Y, cy, hk, hk6, rfl, rfl, rfl, oX, oY, hap, hT⟩ := hrel
    obtain ⟨wx, rfl⟩ : ∃ wo : World, wo = wr := ⟨_, rfl⟩
    have i0 : (0 : Int) ≤ (k : Int) := Int.natCast_nonneg _
    by_cases hgo : k < len ∧ k < 6
    · obtain ⟨hlt, hlt6⟩ := hgo
      have i1 : (k : Int) < (len : Int) := by omega
      have i2 : (k : Int) < 6 := by omega
      obtain ⟨bl, off, rfl, hbl, hcell⟩ := HL.out (by omega)
      obtain ⟨cc, hs, hc1, hc2⟩ := hcell k hlt
      have dc := (hT.cell (p := ⟨bl, off + k, none⟩) hbl (by simp)).trans cc
      have hst := fewL_succ dst0 L k
      obtain ⟨b, hb⟩ : ∃ b, b = L k := ⟨_, rfl⟩
      rw [← hb] at dc hc1 hc2 hst
      obtain ⟨bA, bn, bc, bxs⟩ := b
      simp only [Bs.cut] at dc hc1 hc2 hst
      unfold maxLen at hc2
      have hif : (if (60 : Int) < (bn : Int) then (60 : Int) else (bn : Int)) = ((min bn 60 : Nat) : Int) := by split <;> omega
      have hm1 : min bn 60 ≤ bc := by omega
      have HST := Lib.hid hst
      have OX := Lib.hid oX
      have OY := Lib.hid oY
      have HAP := Lib.hid hap
      have HT := Lib.hid hT
      have hz := hT.size
      have hbl1 := Nat.lt_of_lt_of_le hbl hT.size
      clear cc hcell hs hb hst oX oY hap hT hbl
      generalize min bn 60 = m at *
      generalize bxs.take 60 = ys at *
      have j0 : (0 : Int) ≤ (m : Int) := Int.natCast_nonneg _
      have j1 : (m : Int) ≤ (bc : Int) := by omega
      go_wp2_with fail
      go_region_held3 (fun w' => w'.cell? ⟨bl, off + k, none⟩ = some (.slice bA bn bc)) (go_keep) (fail)
      go_wp2_with (at_builtin; first
        | (refine wpList_append_sl elemNL rfl _ _ rfl X k cx _ rfl ((OX.out.alloc _).drew) (some ⟨wx.heap.size, 0, none⟩) 1 1 [.int .i64 dst0, .slice bA m bc] rfl (Sl.new _ #[.int .i64 dst0, .slice bA m bc] _) (by simp) (by simp [Value.oneCell']) (by omega) (by omega) (by simp; omega) ?_; intro X2 cx2 w4 own4 hg4 hlie4; have T4 : Turn [] w w4 := ((HT.out.alloc (.cells #[.int .i64 dst0, .slice bA m bc] 29)).drew).andThen (grown_turn hg4) (fun x hx => .inr (own_ltA OX.out x hx).2); have OY4 := own_turnA ((OY.out.alloc (.cells #[.int .i64 dst0, .slice bA m bc] 29)).drew) (grown_turn hg4) (fun j hj hm => HAP.out j hm hj); have z4 := T4.size; have zz4 := (grown_turn hg4).size)
        | (refine wpList_append_sl elemRL rfl _ _ rfl Y k cy _ rfl (OY4.alloc _) (some ⟨w4.heap.size, 0, none⟩) 1 1 [.int .i64 dst0, .slice bA m bc] rfl (Sl.new _ #[.int .i64 dst0, .slice bA m bc] _) (by simp) (by simp [Value.oneCell']) (by omega) (by omega) (by simp; omega) ?_; intro Y2 cy2 w5 own5 hg5 hlie5))
      have hXY : ∀ j ∈ blks X2, j ∉ blks Y := fun j hj hm => by
        rcases lies_blks hlie4 j hj with h | h
        · exact HAP.out j h hm
        · have := (own_ltA OY.out j hm).1
          subst h
          simp at this
          omega
      have T5 := (T4.alloc (.cells #[.int .i64 dst0, .slice bA m bc] 62)).andThen (grown_turn hg5) (fun x hx => .inr (own_ltA OY4 x hx).2)
      have eL : lcs (fewL dst0 L k) ++ [Value.int .i64 dst0, Value.slice bA m bc] = lcs (fewL dst0 L (k + 1)) := by
        rw [HST.out, lcs_append]
        rfl
      rw [eL] at own4 own5
      go_roundw
      case rel => exact ⟨k + 1, X2, cx2, Y2, cy2, by omega, by omega, by go_num, rfl, rfl, own_turnA (own4.alloc _) (grown_turn hg5) (fun j hj hm => hXY j hj hm), own5, fun j hj hm => by
        rcases lies_blks hlie5 j hm with h | h
        · exact hXY j hj h
        · have := (own_ltA own4 j hj).1
          subst h
          simp at this
          omega, T5⟩
      case measure => simp [intOf]; omega
    · have hgo2 : ¬ ((k : Int) < (len : Int) ∧ (k : Int) < 6) := by omega
      have hkm : min len 6 = k := by omega
      by_cases h1 : k < len
      · have i1 : (k : Int) < (len : Int) := by omega
        have i2 : ¬ (k : Int) < 6 := by omega
        go_wp2_with fail
        go_ret2
        exact ⟨X, cx, Y, cy, by simp, oX, oY, hT⟩
      · have i1 : ¬ (k : Int) < (len : Int) := by omega
        go_wp2_with fail
        go_ret2
        exact ⟨X, cx, Y, cy, by simp, oX, oY, hT⟩
end Go.Proofs.Ytiijgokgojjocaa
