/- The contract of (*Hints).Offer. -/
import Derived.Test.YtpdencmgjihnfaaOffer
import Derived.Deep.RegionLaw
namespace Go.Proofs.Ytpdencmgjihnfaa
open Go.RowKit Go.ChangeMaps

theorem infoE : (Try.prog.info? 25).map (fun i => (i.zero, i.size, i.bytes)) = some (some (.int .i64 0), 1, 8) := by kernel_rfl
theorem elemE : ElemT Try.prog 38 25 (.int .i64 0) 1 8 := ⟨Try.underlying38, info_parts infoE, rfl, by decide⟩

/-- Offer's answers, who waits behind it, and what is let. -/
def offAll (own : C4) (times s t : Int) : List C4 → List C4 → QM → List Int × List C4 × QM
  | [], wl, m => ([], wl, m)
  | c :: r, wl, m =>
    ((offE own wl m times s t c).1 :: (offAll own times s t r (if (offE own wl m times s t c).1 = 0 then wl ++ [c] else wl) (offE own wl m times s t c).2).1,
      (offAll own times s t r (if (offE own wl m times s t c).1 = 0 then wl ++ [c] else wl) (offE own wl m times s t c).2).2)
theorem offE_room {own : C4} {wl : List C4} {m : QM} {times s t : Int} {c : C4} (h : (offE own wl m times s t c).1 = 0) : wl.length ≠ 16 := by
  unfold offE at h
  split at h
  · simp at h
  · split at h
    · simp at h
    · split at h
      · simp at h
      · split at h
        · simp at h
        · split at h
          · simp at h
          · assumption

def ents64 (l : List Int) : List Value := l.map (.int .i64)

structure OffRel (h q bm : Nat) (own : C4) (times : Int) (m : QM) (base : Nat) (A : Option Addr) (wl : List C4) (s t : Int) (cs : List C4) (w : World) (k : Nat) (D : Option Addr) (cd : Nat) (es : List Int) (wk : List C4) (mk : QM) (A' : Option Addr) (n' cap' : Nat) (wr : World) : Prop where
  eq : Hid (offAll own times s t cs wl m = (es ++ (offAll own times s t (cs.drop k) wk mk).1, (offAll own times s t (cs.drop k) wk mk).2))
  his : HIs wr h q bm own times mk base A' n' cap' wk
  out : wr.ownsRow w.heap.size 25 1 (.slice D k cd) k (ents64 es)
  new : ∀ i ∈ blks A', i ∈ blks A ∨ w.heap.size ≤ i
  apart : ∀ i ∈ blks A', i ∉ blks D
  turn : Turn ([h, bm] ++ blks A) w wr

/-- Behind the append of an answer. -/
theorem OffRel.more {h q bm : Nat} {own : C4} {times : Int} {m : QM} {base : Nat} {A : Option Addr} {wl : List C4} {s t : Int} {cs : List C4} {w : World} {k : Nat} {D : Option Addr} {cd : Nat} {es : List Int} {wk : List C4} {mk : QM} {A' : Option Addr} {n' cap' : Nat} {wr w2 w3 : World} {x : C4} {D' : Option Addr} {cd' : Nat} {e : Int} {o : Obj} {mk2 : QM}
    (R : OffRel h q bm own times m base A wl s t cs w k D cd es wk mk A' n' cap' wr) (hbase : base ≤ w.heap.size) (hd : cs.drop k = x :: cs.drop (k + 1)) (hV : offE own wk mk times s t x = (e, mk2)) (H2 : HIs w2 h q bm own times mk2 base A' n' cap' wk) (hT2 : Turn [bm] (wr.alloc o) w2)
    (o2 : Obj) (hown : w3.ownsRow w.heap.size 25 1 (.slice D' (k + 1) cd') (k + 1) (ents64 es ++ [.int .i64 e])) (hg : (w2.alloc o2).grownBy w3 (D.map (·.block))) (hlie : Lies (w2.alloc o2) D D') :
    (e ≠ 0 → OffRel h q bm own times m base A wl s t cs w (k + 1) D' cd' (es ++ [e]) wk mk2 A' n' cap' w3) ∧ HIs w3 h q bm own times mk2 base A' n' cap' wk ∧ (∀ i ∈ blks A', i ∉ blks D') ∧ Turn ([h, bm] ++ blks A) w w3 ∧ wr.heap.size ≤ w3.heap.size ∧ (∀ i ∈ blks A', i < w3.heap.size) := by
  have g1 := grown_turn hg
  have hDlo : ∀ i ∈ blks D, w.heap.size ≤ i := fun i hi => (own_ltA R.out i hi).2
  have hAlt : ∀ i ∈ blks A', i < wr.heap.size := fun i hi => (own_ltA R.his.row i hi).1
  have z1 : wr.heap.size ≤ w2.heap.size := by have := hT2.size; simp at this; omega
  have lo := R.his.lo
  have H3 : HIs w3 h q bm own times mk2 base A' n' cap' wk := (H2.turn ((Turn.refl [] w2).alloc o2) (by simp) (by simp) (by simp) (by simp)).turn g1 (fun hm => by have := hDlo _ hm; omega) (fun hm => by have := hDlo _ hm; omega) (fun hm => by have := hDlo _ hm; omega) (fun i hi => R.apart i hi)
  have ap : ∀ i ∈ blks A', i ∉ blks D' := fun i hi hm => by
    rcases lies_blks hlie i hm with h1 | h1
    · exact R.apart i hi h1
    · have := hAlt i hi
      simp at h1
      omega
  have T3 : Turn ([h, bm] ++ blks A) w w3 := (((R.turn.alloc o).trans (hT2.mono (by simp))).alloc o2).andThen g1 (fun i hi => .inr (hDlo i hi))
  have z3 : wr.heap.size ≤ w3.heap.size := by have := hg.size; simp at this; omega
  refine ⟨fun he => ⟨?_, H3, by simpa [ents64] using hown, R.new, ap, T3⟩, H3, ap, T3, z3, fun i hi => by have := hAlt i hi; omega⟩
  show _ = _
  rw [R.eq.out, hd, offAll, hV]
  simp [he]

/-- Behind the append to those who wait. -/
theorem OffRel.push {h q bm : Nat} {own : C4} {times : Int} {m : QM} {base : Nat} {A : Option Addr} {wl : List C4} {s t : Int} {cs : List C4} {w : World} {k : Nat} {D : Option Addr} {cd : Nat} {es : List Int} {wk : List C4} {mk : QM} {A' : Option Addr} {n' cap' : Nat} {wr w3 w4 : World} {x1 x2 x3 x4 : Int} {D' : Option Addr} {cd' : Nat} {o : Obj} {mk2 : QM} {A2 : Option Addr} {cap2 : Nat}
    (R : OffRel h q bm own times m base A wl s t cs w k D cd es wk mk A' n' cap' wr) (hd : cs.drop k = (x1, x2, x3, x4) :: cs.drop (k + 1)) (hV : offE own wk mk times s t (x1, x2, x3, x4) = (0, mk2)) (H3 : HIs w3 h q bm own times mk2 base A' n' cap' wk) (ap3 : ∀ i ∈ blks A', i ∉ blks D') (T3 : Turn ([h, bm] ++ blks A) w w3)
    (hown3 : w3.ownsRow w.heap.size 25 1 (.slice D' (k + 1) cd') (k + 1) (ents64 es ++ [.int .i64 0])) (hn16 : n' < 16) (hbase : base ≤ w.heap.size)
    (hown4 : w4.ownsRow base 29 4 (.slice A2 (n' + 1) cap2) (n' + 1) (ccs wk ++ [.int .i64 x1, .int .i64 x2, .int .i64 x3, .int .i64 x4])) (hg4 : ((w3.drew).alloc o).grownBy w4 (A'.map (·.block))) (hlie4 : Lies (w3.drew.alloc o) A' A2) :
    OffRel h q bm own times m base A wl s t cs w (k + 1) D' cd' (es ++ [0]) (wk ++ [(x1, x2, x3, x4)]) mk2 A2 (n' + 1) cap2 (w4.setCell ⟨h, 5, none⟩ (.slice A2 (n' + 1) cap2)) := by
  have g4 := grown_turn hg4
  have lo := H3.lo
  have hA' : ∀ i ∈ blks A', i < w3.heap.size ∧ base ≤ i := fun i hi => own_ltA H3.row i hi
  have hD' : ∀ i ∈ blks D', i < w3.heap.size ∧ w.heap.size ≤ i := fun i hi => own_ltA hown3 i hi
  have hhA : h ∉ blks A' := fun hm => by have := (hA' h hm).2; omega
  have Ta : Turn [] w3 (w3.drew.alloc o) := ((Turn.refl [] w3).drew).alloc o
  have T4 : Turn ([h] ++ blks A') w3 (w4.setCell ⟨h, 5, none⟩ (.slice A2 (n' + 1) cap2)) := ((Ta.mono (by simp)).trans (g4.mono (fun i hi => List.mem_append.2 (.inr hi)))).setCell (.inl (by simp)) _
  have hA2 : ∀ i ∈ blks A2, i ∈ blks A' ∨ w3.heap.size < i := fun i hi => by
    rcases lies_blks hlie4 i hi with h1 | h1
    · exact .inl h1
    · right
      have e : (w3.drew.alloc o).heap.size = w3.heap.size + 1 := by simp
      omega
  have hzw := T3.size
  have hb4 : Blk w4 h 68 #[.pointer (some ⟨q, 0, none⟩), .int .i64 own.1, .int .i64 own.2.1, .int .i64 own.2.2.1, .int .i64 own.2.2.2, .slice A' n' cap'] := g4.blk (Ta.blk H3.blk (by simp)) hhA
  refine ⟨?_, ⟨?_, ?_, ?_, ?_, by omega, H3.ne, lo.1, lo.2.1, lo.2.2.1, Nat.le_trans lo.2.2.2 T4.size⟩, ?_, ?_, ?_, ?_⟩
  · show _ = _
    rw [R.eq.out, hd, offAll, hV]
    simp
  · simpa using hb4.set_ 5 (.slice A2 (n' + 1) cap2)
  · exact H3.qs.turn T4 (by simp; exact ⟨fun h => H3.ne.1 h.symm, fun hm => by have := (hA' q hm).2; omega⟩) (by simp; exact ⟨fun h => H3.ne.2 h.symm, fun hm => by have := (hA' bm hm).2; omega⟩)
  · rw [ccs_append]
    exact own_turnA (S := [h]) hown4 ((Turn.refl [h] w4).setCell (.inl (by simp)) _) (fun i hi => by have := (own_ltA hown4 i hi).2; simp; omega)
  · simp [H3.len]
  · have := own_turnA hown3 T4 (fun i hi => by
      have := hD' i hi
      simp
      exact ⟨by omega, fun hm => ap3 i hm hi⟩)
    simpa [ents64] using this
  · intro i hi
    rcases hA2 i hi with h1 | h1
    · exact R.new i h1
    · exact .inr (by omega)
  · intro i hi hm
    rcases hA2 i hi with h1 | h1
    · exact ap3 i h1 hm
    · have := (hD' i hm).1
      omega
  · refine T3.andThen T4 ?_
    intro i hi
    simp only [List.mem_append, List.mem_singleton] at hi
    rcases hi with rfl | hi
    · exact .inl (by simp)
    · rcases R.new i hi with h1 | h1
      · exact .inl (by simp [h1])
      · exact .inr h1

set_option maxRecDepth 100000 in
set_option maxHeartbeats 2000000 in
theorem offerAll_c (h q bm : Nat) (own : C4) (times : Int) (m : QM) (base : Nat) (A : Option Addr) (n cap : Nat) (wl : List C4) (s t : Int) (B : Option Addr) (nb cb : Nat) (cs : List C4) (w : World) (H : HIs w h q bm own times m base A n cap wl) (ht : t ≤ 9223372036854775807)
    (hB : Sl w B (ccs cs)) (hn : cs.length = nb) (hl : nb ≤ 1000) (hoff : ∀ i ∈ blks B, i ≠ h ∧ i ≠ bm ∧ i ∉ blks A) :
    Calls Try.prog 9 #[.pointer (some ⟨h, 0, none⟩), .int .i64 s, .int .i64 t, .slice B nb cb] w fun e w' =>
      ∃ D nd cd A' n' cap', e = .returned (.slice D nd cd) ∧ w'.ownsRow w.heap.size 25 1 (.slice D nd cd) nd (ents64 (offAll own times s t cs wl m).1) ∧ nd = nb ∧ HIs w' h q bm own times (offAll own times s t cs wl m).2.2 base A' n' cap' (offAll own times s t cs wl m).2.1 ∧
        (∀ i ∈ blks A', i ∈ blks A ∨ w.heap.size ≤ i) ∧ (∀ i ∈ blks A', i ∉ blks D) ∧ Turn ([h, bm] ++ blks A) w w' := by
  have HN := Lib.hid hn
  have H0 := Lib.hid H
  clear hn
  go_enter Try.func9, Try.ntmps9
  go_wp2_with fail
  go_step3
  go_wp2_with fail
  go_step3
  go_wp2_with fail
  have hbase : base ≤ w.heap.size := H.lo.2.2.2
  have z0 := H.lo
  go_loopw [9, 15] (fun out i wr => ∃ k : Nat, k ≤ nb ∧ i = .int .i64 k ∧ ∃ es wk mk A' n' cap' D cd, out = .slice D k cd ∧ OffRel h q bm own times m base A wl s t cs w k D cd es wk mk A' n' cap' wr) (fun _ i _ => nb - (intOf i).toNat)
  case atStart => exact ⟨0, by omega, rfl, [], wl, m, A, n, cap, none, 0, rfl, ⟨by show _ = _; simp, H, World.ownsRow_nil _ _ _ _, fun i hi => .inl hi, by simp [blks], Turn.refl _ _⟩⟩
  case round =>
    obtain ⟨k, hk, rfl, es, wk, mk, A', n', cap', D, cd, rfl, R⟩ := hrel
    have i0 : (0 : Int) ≤ (k : Int) := Int.natCast_nonneg _
    by_cases hlt : k < nb
    · have i1 : (k : Int) < (nb : Int) := by omega
      have kx : k < cs.length := by rw [HN.out]; exact hlt
      have hBr : Sl wr B (ccs cs) := hB.turn R.turn (off_blks (fun i hi => by have := hoff i hi; simp; exact this))
      obtain ⟨b1, o1, rfl, l1, c0, c1, c2, c3⟩ := ccs_at hBr kx
      have hd := List.drop_eq_getElem_cons kx
      generalize cs[k] = x at *
      obtain ⟨x1, x2, x3, x4⟩ := x
      simp only at c0 c1 c2 c3
      have HR := Lib.hid R
      have HD := Lib.hid hd
      have OC := Lib.hid (offer_c h q bm own times mk base A' n' cap' wk s t x1 x2 x3 x4 _ (R.his.turn ((Turn.refl [] wr).alloc (.cells #[.int .i64 x1, .int .i64 x2, .int .i64 x3, .int .i64 x4] 29)) (by simp) (by simp) (by simp) (by simp)) ht)
      have hroom := @offE_room own wk mk times s t (x1, x2, x3, x4)
      have hV : Hid (offE own wk mk times s t (x1, x2, x3, x4) = ((offE own wk mk times s t (x1, x2, x3, x4)).1, (offE own wk mk times s t (x1, x2, x3, x4)).2)) := rfl
      generalize (offE own wk mk times s t (x1, x2, x3, x4)).1 = ev at *
      generalize (offE own wk mk times s t (x1, x2, x3, x4)).2 = mk2 at *
      have hout := R.out
      clear R hd hBr
      go_wp2_with fail
      refine OC.out.mono ?_
      rintro e w2 ⟨rfl, H2, hT2⟩
      have hz2 := hT2.size
      simp only [World.size_alloc] at hz2
      have hout2 : w2.ownsRow w.heap.size 25 1 (.slice D k cd) k (ents64 es) := own_turnA (hout.alloc _) hT2 (fun i hi => by have := (own_ltA hout i hi).2; simp; omega)
      have hzr := HR.out.turn.size
      have K2 := hT2.blk (Blk.new wr 29 #[.int .i64 x1, .int .i64 x2, .int .i64 x3, .int .i64 x4]) (by simp; omega)
      by_cases he : ev = 0
      · subst he
        go_wp2_with (at_builtin; refine wpList_append_sl elemE rfl _ _ rfl D k cd (ents64 es) rfl (hout2.alloc _) (some ⟨w2.heap.size, 0, none⟩) 1 1 [.int .i64 0] rfl (Sl.new _ #[.int .i64 0] _) (by simp) (by simp [Value.oneCell']) (by omega) (by omega) (by simp; omega) ?_; intro D' cd' w3 hown3 hg3 hlie3)
        obtain ⟨-, H3, ap3, T3, z3, lt3⟩ := HR.out.more hbase HD.out hV.out H2 hT2 (.cells #[.int .i64 0] 25) hown3 hg3 hlie3
        have K3 : Blk w3 wr.heap.size 29 #[.int .i64 x1, .int .i64 x2, .int .i64 x3, .int .i64 x4] := (grown_turn hg3).blk (K2.alloc _) (fun hm => by have := (own_ltA hout _ hm).1; omega)
        obtain ⟨k0, k1, k2, k3, kl⟩ := claim_cells K3
        obtain ⟨y1, y2, y3, y4⟩ := own
        obtain ⟨b0, -, -, -, -, b5, hhl⟩ := H3.cells
        have hn16 : n' < 16 := by have := hroom trivial; rw [H3.len] at this; have := H3.le; omega
        have hhA : h ∉ blks A' := fun hm => by have := (own_ltA H3.row h hm).2; omega
        have H3' := Lib.hid H3
        go_region_law (first | (refine step_append_sl elemC (by rfl) _ _ (by rfl) A' n' cap' (ccs wk) (by rfl) ((H3'.out.row.drew).alloc _) (some ⟨w3.heap.size, 0, none⟩) 1 1 [.int .i64 x1, .int .i64 x2, .int .i64 x3, .int .i64 x4] (by rfl) (Sl.new _ #[.int .i64 x1, .int .i64 x2, .int .i64 x3, .int .i64 x4] _) (by simp) (by simp [Value.oneCell']) (by omega) (by omega) (by simp; omega) ?_; intro A2 cap2 w4 hown4 hg4 hlie4; have hb4 := (grown_turn hg4).blk ((show Blk w3.drew h _ _ from H3'.out.blk).alloc _) hhA; have s5 := hb4.cell 5; have f5 := hb4.frozen 5))
        all_goals
          go_wp2_with fail
          go_roundw
          case rel => exact ⟨k + 1, by omega, by go_num, es ++ [0], wk ++ [(x1, x2, x3, x4)], mk2, A2, n' + 1, cap2, D', cd', rfl, HR.out.push HD.out hV.out H3'.out ap3 T3 hown3 hn16 hbase hown4 hg4 hlie4⟩
          case measure => simp [intOf]; omega
      · have he' : (ev != 0) = true := by simpa using he
        go_wp2_with (at_builtin; refine wpList_append_sl elemE rfl _ _ rfl D k cd (ents64 es) rfl (hout2.alloc _) (some ⟨w2.heap.size, 0, none⟩) 1 1 [.int .i64 ev] rfl (Sl.new _ #[.int .i64 ev] _) (by simp) (by simp [Value.oneCell']) (by omega) (by omega) (by simp; omega) ?_; intro D' cd' w3 hown3 hg3 hlie3)
        go_roundw
        case rel => exact ⟨k + 1, by omega, by go_num, es ++ [ev], wk, mk2, A', n', cap', D', cd', rfl, (HR.out.more hbase HD.out hV.out H2 hT2 _ hown3 hg3 hlie3).1 he⟩
        case measure => simp [intOf]; omega
    · obtain rfl : k = nb := by omega
      have i1 : ¬ (k : Int) < (k : Int) := by omega
      have heq := R.eq.out
      rw [List.drop_eq_nil_of_le (by rw [HN.out]; omega)] at heq
      simp only [offAll, List.append_nil] at heq
      have HEQ := Lib.hid heq
      clear heq
      go_wp2_with fail
      try rw [Exit.noGoto_ret]
      go_ret
      exact ⟨D, k, cd, A', n', cap', by simp, by rw [HEQ.out]; exact R.out, rfl, by rw [HEQ.out]; exact R.his, R.new, R.apart, R.turn⟩
end Go.Proofs.Ytpdencmgjihnfaa
