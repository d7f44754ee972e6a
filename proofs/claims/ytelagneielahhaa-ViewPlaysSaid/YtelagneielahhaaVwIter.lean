/- slices.Values at entries: an iterator's contract. -/
import Derived.Test.YtelagneielahhaaVwAll
import Derived.RangeFuncNested
import Derived.RangeFuncBound
import Derived.RangeFuncCalls
import Derived.RangeFuncLeaves
import Derived.Shelf.Abstract
import Derived.Shelf.RegionOpen
import Derived.OwnWalkIn
import Derived.TacticsInMore
import Derived.LoopNIn
import Derived.LoopIn
namespace Go.Proofs.Ytelagneielahhaa
open Go.RowKit Go.Shelf Go.ChangeMaps

attribute [local go_sem] Oper.semAt_some

theorem ecs_get : ∀ (l : List En) (k : Nat) (hk : k < l.length) (i : Nat), i < 8 → (ecs l)[k * 8 + i]? = ([.int .i64 l[k].c.1, .int .i64 l[k].c.2.1, .int .i64 l[k].c.2.2.1, .int .i64 l[k].c.2.2.2, .bool l[k].down, .int .i64 l[k].heard, .int .i64 l[k].since, .int .i64 l[k].inc] : List Value)[i]?
  | [], k, hk, i, hi => by simp at hk
  | m :: l, 0, hk, i, hi => by
    rw [ecs, List.getElem?_append_left (by simp; omega)]
    simp
  | m :: l, k + 1, hk, i, hi => by
    rw [ecs, List.getElem?_append_right (by simp; omega)]
    have e : (k + 1) * 8 + i - ([.int .i64 m.c.1, .int .i64 m.c.2.1, .int .i64 m.c.2.2.1, .int .i64 m.c.2.2.2, .bool m.down, .int .i64 m.heard, .int .i64 m.since, .int .i64 m.inc] : List Value).length = k * 8 + i := by simp; omega
    rw [e, ecs_get l k (by simpa using hk) i hi]
    simp
/-- Entries lie there. -/
def EnsAt (W : World) (A : Option Addr) (es : List En) : Prop :=
  (A = none ∧ es = []) ∨ ∃ b off, A = some ⟨b, off, none⟩ ∧ b < W.heap.size ∧ ∀ j u, (ecs es)[j]? = some u → W.cell? ⟨b, off + j, none⟩ = some u
/-- What a round keeps: the block of A. -/
def KeptB (A : Option Addr) (W W' : World) : Prop := W.heap.size ≤ W'.heap.size ∧ ∀ i ∈ blks A, W'.heap[i]? = W.heap[i]?
theorem KeptB.refl (A : Option Addr) (W : World) : KeptB A W W := ⟨Nat.le_refl _, fun _ _ => rfl⟩
theorem KeptB.trans {A : Option Addr} {X Y Z : World} (h : KeptB A X Y) (k : KeptB A Y Z) : KeptB A X Z := ⟨Nat.le_trans h.1 k.1, fun i hi => (k.2 i hi).trans (h.2 i hi)⟩
theorem EnsAt.kept {W W' : World} {A : Option Addr} {es : List En} (h : EnsAt W A es) (k : KeptB A W W') : EnsAt W' A es := by
  rcases h with h | ⟨b, off, rfl, hb, hc⟩
  · exact .inl h
  · refine .inr ⟨b, off, rfl, Nat.lt_of_lt_of_le hb k.1, fun j u hu => ?_⟩
    rw [World.cell?_of_block (a := ⟨b, off + j, none⟩) (k.2 b (by simp [blks]))]
    exact hc j u hu
theorem EnsAt.lt {W : World} {A : Option Addr} {es : List En} (h : EnsAt W A es) : ∀ i ∈ blks A, i < W.heap.size := fun i hi => by
  rcases h with ⟨rfl, -⟩ | ⟨b, off, rfl, hb, -⟩
  · simp [blks] at hi
  · simp [blks] at hi; omega
theorem KeptB.of_turn {A : Option Addr} {S : List Nat} {W W' : World} (hT : Turn S W W') (hl : ∀ i ∈ blks A, i < W.heap.size) (hS : ∀ i ∈ blks A, i ∉ S) : KeptB A W W' := ⟨hT.size, fun i hi => hT.block i (hl i hi) (hS i hi)⟩

set_option maxRecDepth 100000 in
set_option maxHeartbeats 4000000 in
theorem values1E_in (F : Fence) (n : Nat) (hf : F.fn 67) (hro : F.round = none) (hn : 1 ≤ n) (l Bs : Nat) (A : Option Addr) (cap : Nat) (es : List En) (hlen : es.length ≤ 1000000) (J Jx : List En → World → Prop)
    (W : World) (hJ : AbidesFrom W.heap.size J)
    (hY : ∀ pre x W, J pre W → pre.length < es.length → YieldAt F (n - 1) Try.prog l #[ven x] W fun e W' =>
      (e = .returned (.bool true) ∧ J (pre ++ [x]) W' ∧ KeptB A W W') ∨ (e = .returned (.bool false) ∧ Jx (pre ++ [x]) W'))
    (hBs : W.cell? ⟨Bs, 0, none⟩ = some (.slice A es.length cap)) (hE : EnsAt W A es) (h0 : J [] W) :
    CallsIn F n Try.prog 67 #[.func (.yield l) #[] #[], .pointer (some ⟨Bs, 0, none⟩)] W fun e W' => (∃ v, e = .returned v) ∧
      ((∃ ys, ys = es ∧ J ys W') ∨ (∃ pre, True ∧ Jx pre W')) := by
  have HE := Lib.hid hE
  have HLT := Lib.hid hE.lt
  clear hE
  refine callsIn_of_wp Try.func67 rfl hf ?_ hro
  simp only [Try.ntmps67, List.size_toArray, List.length_cons, List.length_nil, Nat.reduceAdd, Nat.reduceSub, Array.replicate_succ, Array.replicate_zero, List.push_toArray, List.append_toArray, List.nil_append, List.cons_append]
  gi_wp2
  gi_loopw [7] (fun i wr => ∃ k : Nat, k ≤ es.length ∧ i = .int .i64 k ∧ J (es.take k) wr ∧ Hid (KeptB A W wr))
    (fun i _ => es.length - (intOf i).toNat)
  case atStart => exact ⟨0, Nat.zero_le _, rfl, h0, Lib.hid (KeptB.refl _ _)⟩
  case round =>
    obtain ⟨k, hk, rfl, hJs, hnx⟩ := hrel
    have i0 : (0 : Int) ≤ (k : Int) := Int.natCast_nonneg _
    by_cases hlt : k < es.length
    · have i1 : (k : Int) < (es.length : Int) := by omega
      have hltA : ∀ i ∈ blks A, i < wr.heap.size := (HE.out.kept hnx.out).lt
      rcases HE.out.kept hnx.out with ⟨-, h1⟩ | ⟨b, off, rfl, hb, hc⟩
      · rw [h1] at hlt; simp at hlt
      have cc := fun i hi u hu => hc (k * 8 + i) u ((ecs_get es k hlt i hi).trans hu)
      have e0 := cc 0 (by omega) _ rfl
      have e1 := cc 1 (by omega) _ rfl
      have e2 := cc 2 (by omega) _ rfl
      have e3 := cc 3 (by omega) _ rfl
      have e4 := cc 4 (by omega) _ rfl
      have e5 := cc 5 (by omega) _ rfl
      have e6 := cc 6 (by omega) _ rfl
      have e7 := cc 7 (by omega) _ rfl
      simp only [← Nat.add_assoc, Nat.add_zero] at e0 e1 e2 e3 e4 e5 e6 e7
      have htk : es.take (k + 1) = es.take k ++ [es[k]] := List.take_succ_eq_append_getElem hlt
      have HTK := Lib.hid htk
      have hW0 : ∀ o : Obj, wr.grownBy (wr.alloc o) none := fun o => World.grownBy_alloc wr o none
      have hpl : (es.take k).length < es.length := by rw [List.length_take]; omega
      have HKA : Hid (∀ o : Obj, KeptB (some ⟨b, off, none⟩) wr (wr.alloc o)) := fun o => KeptB.of_turn ((Turn.refl [] wr).alloc o) hltA (by simp)
      clear cc hc htk hltA
      generalize es[k] = x at *
      obtain ⟨⟨x1, x2, x3, x4⟩, dn, hd, sn, ic⟩ := x
      simp only at e0 e1 e2 e3 e4 e5 e6 e7
      have hJ2 := hJ _ wr (wr.alloc (.cells #[.int .i64 x1, .int .i64 x2, .int .i64 x3, .int .i64 x4, .bool dn, .int .i64 hd, .int .i64 sn, .int .i64 ic] 37)) none hJs (hW0 _) (fun r e => by cases e)
      obtain ⟨fn, tmps, assign, body, hy, hR⟩ := hY _ ⟨(x1, x2, x3, x4), dn, hd, sn, ic⟩ _ hJ2 hpl
      dsimp only [ven] at hy
      clear hW0
      gi_wp2
      refine hR.mono ?_
      rintro e W3 (⟨rfl, hJ3, hk3⟩ | ⟨rfl, hJx3⟩)
      · have hK3 := Lib.hid hk3
        clear hk3
        gi_wp2
        go_roundw
        case rel => exact ⟨k + 1, by omega, by simp, by rw [HTK.out]; exact hJ3, Lib.hid ((hnx.out.trans (HKA.out _)).trans hK3.out)⟩
        case measure => simp [intOf]; omega
      · gi_wp2
        refine bodyPost_ret (results_none rfl _ _ _) rfl ?_
        exact ⟨⟨_, rfl⟩, .inr ⟨_, trivial, hJx3⟩⟩
    · obtain rfl : k = es.length := by omega
      have i1 : ¬ (es.length : Int) < (es.length : Int) := by omega
      rw [List.take_length] at hJs
      gi_wp2
      go_end0
      exact ⟨⟨_, rfl⟩, .inl hJs⟩

set_option maxHeartbeats 1000000 in
theorem valuesE_in (F : Fence) (n : Nat) (hf : F.fn 56) (hro : F.round = none) (A : Option Addr) (len cap : Nat) (w : World) :
    CallsIn F n Try.prog 56 #[.slice A len cap] w fun e w' => e = .returned (.func (.func 67) #[] #[.pointer (some ⟨w.heap.size, 0, none⟩)]) ∧ w' = w.alloc (.cells #[.slice A len cap] 34) := by
  refine callsIn_of_wp Try.func56 rfl hf ?_ hro
  simp only [Try.ntmps56, List.size_toArray, List.length_cons, List.length_nil, Nat.reduceAdd, Nat.reduceSub, Array.replicate_succ, Array.replicate_zero, List.push_toArray, List.append_toArray, List.nil_append, List.cons_append]
  gi_wp2
  go_ret
  exact ⟨rfl, rfl⟩

theorem valuesE_stops (F : Fence) (n : Nat) (hf : F.fn 67) (hro : F.round = none) (hn : 1 ≤ n) (Bs : Nat) (A : Option Addr) (cap : Nat) (es : List En) (hlen : es.length ≤ 1000000) (w : World) (hBs : Bs < w.heap.size)
    (hc : w.cell? ⟨Bs, 0, none⟩ = some (.slice A es.length cap)) (hE : EnsAt w A es) :
    SeqStopsK F n Try.prog 67 #[.pointer (some ⟨Bs, 0, none⟩)] (fun x : En => #[ven x]) (KeptB A) (fun ys => ys = es) (fun _ => True) es.length w := fun l J Jx W hW hJ _ hY h0 => by
  have hc' := (hW.cell (p := ⟨Bs, 0, none⟩) hBs).trans hc
  have hk : KeptB A w W := ⟨hW.size, fun i hi => hW.block i (hE.lt i hi)⟩
  exact values1E_in F n hf hro hn l Bs A cap es hlen J Jx W hJ hY hc' (hE.kept hk) h0
end Go.Proofs.Ytelagneielahhaa
