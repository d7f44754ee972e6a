/- A net's put, bend, fates. -/
import Derived.Test.YtiijgokgojjocaaNet
import Derived.Deep.RegionHeld3
import Derived.Deep.RegionLaw
namespace Go.Proofs.Ytiijgokgojjocaa
open Go.RowKit Go.ChangeMaps Go.WideMaps Go.MapKept Go.WideShapes

theorem infoM : (Try.prog.info? 34).map (fun i => (i.zero, i.size, i.bytes)) = some (some (.agg #[.int .i64 0, .int .i64 0, .int .i64 0, .slice none 0 0]), 4, 48) := by kernel_rfl
theorem elemM : ElemT Try.prog 30 34 (.agg #[.int .i64 0, .int .i64 0, .int .i64 0, .slice none 0 0]) 4 48 := ⟨Try.underlying30, info_parts infoM, rfl, by decide⟩

section
variable {w w' : World} {g d cb kb : Nat} {s : Int} {r : Rl} {cut : List (Int × Int)} {came : List ((Int × Int) × Int)} {base : Nat} {A : Option Addr} {n cap : Nat} {ms : List Ml} {sent lost told : Int}

/-- What put does. -/
def Putted (w : World) (g d cb kb : Nat) (s : Int) (r : Rl) (cut : List (Int × Int)) (came : List ((Int × Int) × Int)) (base : Nat) (A : Option Addr) (n : Nat) (ms : List Ml) (m : Ml) (sent lost told : Int) (e : Ending) (w' : World) : Prop :=
  (n = 2048 ∧ e = .returned (.bool false) ∧ Turn [] w w') ∨ (n < 2048 ∧ ∃ A' cap', e = .returned (.bool true) ∧ NetIs w' g d cb kb s r cut came base A' (n + 1) cap' (ms ++ [m]) sent lost told ∧ Turn (g :: blks A) w w' ∧ ∀ i ∈ blks A', i ∈ blks A ∨ w.heap.size ≤ i)

theorem NetIs.grow (h : NetIs w g d cb kb s r cut came base A n cap ms sent lost told) {m : Ml} (hm : MlOk w m) (hb : ∀ i ∈ blks m.A, base ≤ i ∧ i ∉ blks A) (hn : n < 2048) {w1 w2 : World} {A' : Option Addr} {cap' : Nat}
    (hT : Turn [] w w1) (hown : w2.ownsRow base 34 4 (.slice A' (n + 1) cap') (n + 1) (mcs (ms ++ [m]))) (hg : w1.grownBy w2 (A.map (·.block))) (hlie : Lies w1 A A') :
    NetIs (w2.setCell ⟨g, 6, none⟩ (.slice A' (n + 1) cap')) g d cb kb s r cut came base A' (n + 1) cap' (ms ++ [m]) sent lost told ∧ Turn (g :: blks A) w (w2.setCell ⟨g, 6, none⟩ (.slice A' (n + 1) cap')) ∧ ∀ i ∈ blks A', i ∈ blks A ∨ w.heap.size ≤ i := by
  have hl := h.lts
  have hlow := h.low
  have hap := h.apart
  have T2 : Turn (blks A) w w2 := (hT.mono (by simp)).trans (grown_turn hg)
  have hA : ∀ i ∈ blks A, i < w.heap.size ∧ base ≤ i := own_ltA h.row
  have hg' : g ∉ blks A := fun hm => by have := (hA g hm).2; omega
  have T3 : Turn (g :: blks A) w (w2.setCell ⟨g, 6, none⟩ (.slice A' (n + 1) cap')) := (T2.mono (by intro i hi; simp [hi])).setCell (.inl (by simp)) _
  have hA' : ∀ i ∈ blks A', i ∈ blks A ∨ w.heap.size ≤ i := fun i hi => by
    rcases lies_blks hlie i hi with h1 | h1
    · exact .inl h1
    · exact .inr (by have := hT.size; omega)
  have off : ∀ i, i < base → i ∉ blks A := fun i hi hm => by have := (hA i hm).2; omega
  obtain ⟨es, k, h1, h2⟩ := h.cutm
  obtain ⟨es', k', h3, h4⟩ := h.camem
  have o1 : ∀ i, i < base → i ≠ g → i ∉ g :: blks A := fun i hi hne => by simp; exact ⟨hne, off i hi⟩
  have hgA' : g ∉ blks A' := fun hm => by
    rcases hA' g hm with h5 | h5
    · exact hg' h5
    · omega
  have T4 : Turn [g] w2 (w2.setCell ⟨g, 6, none⟩ (.slice A' (n + 1) cap')) := (Turn.refl [g] w2).setCell (.inl (by simp)) _
  refine ⟨⟨by simpa using (T2.blk h.blk hg').set_ 6 (.slice A' (n + 1) cap'), T3.blk h.drw (o1 _ hlow.2.1 (Ne.symm hap.1)), ⟨es, k, T3.obj h1 (o1 _ hlow.2.2.1 (Ne.symm hap.2.1)), h2⟩, ⟨es', k', T3.obj h3 (o1 _ hlow.2.2.2 (Ne.symm hap.2.2.1)), h4⟩, own_turnA hown T4 (fun i hi hm => hgA' (by simp at hm; rw [← hm]; exact hi)), by simp [h.len], by omega, ?_, h.apart, h.low, Nat.le_trans h.lo T3.size, h.rok⟩, T3, hA'⟩
  intro x hx
  rw [List.mem_append] at hx
  have key : MlOk w x ∧ ∀ i ∈ blks x.A, base ≤ i ∧ i ∉ blks A := by
    rcases hx with hx | hx
    · exact h.mok x hx
    · simp at hx; subst hx; exact ⟨hm, hb⟩
  refine ⟨key.1.turn T3 (fun i hi => ?_), fun i hi => ⟨(key.2 i hi).1, fun hm => ?_⟩⟩
  · simp
    exact ⟨fun e => by have := (key.2 i hi).1; omega, (key.2 i hi).2⟩
  · rcases hA' i hm with h5 | h5
    · exact (key.2 i hi).2 h5
    · have := key.1.lt i hi; omega

set_option maxHeartbeats 2000000 in
theorem put_c (h : NetIs w g d cb kb s r cut came base A n cap ms sent lost told) (due fr dst : Int) (B : Option Addr) (nb c : Nat) (xs : List Int) (hm : MlOk w ⟨due, fr, dst, B, nb, c, xs⟩) (hb : ∀ i ∈ blks B, base ≤ i ∧ i ∉ blks A) :
    Calls Try.prog 30 #[.pointer (some ⟨g, 0, none⟩), .agg #[.int .i64 due, .int .i64 fr, .int .i64 dst, .slice B nb c]] w (Putted w g d cb kb s r cut came base A n ms ⟨due, fr, dst, B, nb, c, xs⟩ sent lost told) := by
  have H := Lib.hid h
  obtain ⟨-, -, -, -, -, -, c6, -⟩ := h.cells
  have hl := h.lts.1
  have hle := h.le
  by_cases hf : n = 2048
  · subst hf
    clear h
    go_enter Try.func30, Try.ntmps30
    go_wp2_with fail
    go_ret
    exact .inl ⟨rfl, by simp, (Turn.refl _ _).alloc _⟩
  · clear h
    have hlo := H.out.lo
    have T1 := (Turn.refl [] w).alloc (.cells #[.int .i64 due, .int .i64 fr, .int .i64 dst, .slice B nb c] 34)
    have B1 := Blk.new w 34 #[.int .i64 due, .int .i64 fr, .int .i64 dst, .slice B nb c]
    have z1 := T1.size
    have H1 := Lib.hid (H.out.turn T1 (by simp))
    have HM := Lib.hid hm
    have HB := Lib.hid hb
    have hfi : ((n : Int) == 2048) = false := by simp; omega
    clear hm hb
    go_enter Try.func30, Try.ntmps30
    go_wp2_with fail
    clear c6 hl
    generalize w.alloc (.cells #[.int .i64 due, .int .i64 fr, .int .i64 dst, .slice B nb c] 34) = w1 at *
    obtain ⟨-, -, -, -, -, -, c6, -⟩ := H1.out.cells
    have hl := H1.out.lts.1
    have b0 := B1.cell 0
    have b1 := B1.cell 1
    have b2 := B1.cell 2
    have b3 := B1.cell 3
    have bl := B1.lt
    have hgA : g ∉ blks A := fun hm => by have := (own_ltA H.out.row g hm).2; have := H.out.low.1; omega
    go_region_law (first | (refine step_append_sl elemM (by rfl) _ _ (by rfl) A n cap (mcs ms) (by rfl) ((H1.out.row.drew).alloc _) (some ⟨w1.heap.size, 0, none⟩) 1 1 [.int .i64 due, .int .i64 fr, .int .i64 dst, .slice B nb c] (by rfl) (Sl.new _ #[.int .i64 due, .int .i64 fr, .int .i64 dst, .slice B nb c] _) (by simp) (by simp [Value.oneCell']) (by omega) (by omega) (by simp; omega) ?_; intro A2 cap2 w4 hown4 hg4 hlie4; have hb4 := (grown_turn hg4).blk ((show Blk w1.drew g _ _ from H1.out.blk).alloc _) hgA; have s6 := hb4.cell 6; have f6 := hb4.frozen 6))
    all_goals
      go_wp2_with fail
      go_ret
      exact .inr ⟨by omega, A2, cap2, by simp, H.out.grow HM.out HB.out (by omega) ((T1.drew).alloc _) (by rw [mcs_append]; exact hown4) hg4 hlie4⟩
end
end Go.Proofs.Ytiijgokgojjocaa
