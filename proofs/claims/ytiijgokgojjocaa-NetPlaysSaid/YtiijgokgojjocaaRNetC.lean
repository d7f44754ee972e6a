/- The reference's net: a row of it is laid anew; Cut. -/
import Derived.Test.YtiijgokgojjocaaRNet
namespace Go.Proofs.Ytiijgokgojjocaa
open Go.RowKit Go.ChangeMaps Go.WideMaps Go.MapKept Go.WideShapes

section
variable {w w1 w' : World} {m : Nat} {s : Int} {r : Rl} {C : Option Addr} {nc kc : Nat} {cl : List (Int × Int)} {A : Option Addr} {n cap : Nat} {ms : List Ml} {B : Option Addr} {nb kb : Nat} {cs : List Ml} {sent lost told : Int}
/-- The row C is laid anew. -/
theorem RNetIs.newC (h : RNetIs w m s r C nc kc cl A n cap ms B nb kb cs sent lost told) (T : Turn (blks C) w w1) {C' : Option Addr} {n' k' : Nat} {l' : List (Int × Int)} {base : Nat} (own : w1.ownsRow base 81 2 (.slice C' n' k') n' (p2s l')) (hb : m < base) (hL : ∀ i ∈ blks C', i ∈ blks C ∨ w.heap.size ≤ i) :
    RNetIs (w1.setCell ⟨m, 5, none⟩ (.slice C' n' k')) m s r C' n' k' l' A n cap ms B nb kb cs sent lost told ∧ Turn (m :: blks C) w (w1.setCell ⟨m, 5, none⟩ (.slice C' n' k')) := by
  have hk := h.blks_ok
  have hap := h.apart
  have TS : Turn [m] w1 (w1.setCell ⟨m, 5, none⟩ (.slice C' n' k')) := (Turn.refl [m] w1).setCell (.inl (by simp)) _
  have T2 : Turn (m :: blks C) w (w1.setCell ⟨m, 5, none⟩ (.slice C' n' k')) := (T.mono (by intro i hi; simp [hi])).trans (TS.mono (by simp))
  have hmL : m ∉ blks C := fun hm => (hk m (by simp [hm])).2 rfl
  have hlo := own_ltA own
  have hz := T.size
  obtain ⟨b1, g1, h1⟩ := h.cuts
  obtain ⟨b2, g2, h2⟩ := h.mails
  obtain ⟨b3, g3, h3⟩ := h.came
  have own2 := own_turnA own TS (fun i hi hm => by have := (hlo i hi).2; simp at hm; omega)
  have kA := own_turnA h2 T2 (fun i hi hm => by
    rw [List.mem_cons] at hm
    rcases hm with hm | hm
    · exact (hk i (by simp [hi])).2 hm
    · exact (hap.1 i hm).1 hi)
  have kB := own_turnA h3 T2 (fun i hi hm => by
    rw [List.mem_cons] at hm
    rcases hm with hm | hm
    · exact (hk i (by simp [hi])).2 hm
    · exact (hap.1 i hm).2 hi)
  refine ⟨⟨by simpa using (T.blk h.blk hmL).set_ 5 (.slice C' n' k'), ⟨base, hb, own2⟩, ⟨b2, g2, kA⟩, ⟨b3, g3, kB⟩, ?_, ?_, h.rok⟩, T2⟩
  · refine ⟨fun i hi => ?_, hap.2⟩
    rcases hL i hi with h4 | h4
    · exact hap.1 i h4
    · exact ⟨fun hm => by have := (hk i (by simp [hm])).1; omega, fun hm => by have := (hk i (by simp [hm])).1; omega⟩
  · have old : ∀ x, x ∈ ms ∨ x ∈ cs → RMl (w1.setCell ⟨m, 5, none⟩ (.slice C' n' k')) (m :: (blks A ++ (blks B ++ blks C'))) x := fun x hx => by
      have h5 := h.bytes x hx
      refine ⟨h5.ok.turn T2 (fun i hi hm => h5.off i hi (by simp at hm ⊢; rcases hm with hm | hm <;> simp [hm])), fun i hi hm => ?_⟩
      have h6 := h5.off i hi
      simp only [List.mem_cons, List.mem_append, not_or] at h6 hm
      have h7 := h5.ok.lt i hi
      rcases hm with hm | hm | hm | hm
      · exact h6.1 hm
      · exact h6.2.1 hm
      · exact h6.2.2.1 hm
      · rcases hL i hm with h4 | h4
        · exact h6.2.2.2 h4
        · omega
    exact old
/-- The row A is laid anew. -/
theorem RNetIs.newA (h : RNetIs w m s r C nc kc cl A n cap ms B nb kb cs sent lost told) (T : Turn (blks A) w w1) {A' : Option Addr} {n' k' : Nat} {l' : List Ml} {base : Nat} (own : w1.ownsRow base 63 4 (.slice A' n' k') n' (mcs l')) (hb : m < base) (hL : ∀ i ∈ blks A', i ∈ blks A ∨ w.heap.size ≤ i) (hx : ∀ x ∈ l', x ∈ ms ∨ x ∈ cs ∨ RMl w1 (m :: (blks A' ++ (blks B ++ blks C))) x) :
    RNetIs (w1.setCell ⟨m, 6, none⟩ (.slice A' n' k')) m s r C nc kc cl A' n' k' l' B nb kb cs sent lost told ∧ Turn (m :: blks A) w (w1.setCell ⟨m, 6, none⟩ (.slice A' n' k')) := by
  have hk := h.blks_ok
  have hap := h.apart
  have TS : Turn [m] w1 (w1.setCell ⟨m, 6, none⟩ (.slice A' n' k')) := (Turn.refl [m] w1).setCell (.inl (by simp)) _
  have T2 : Turn (m :: blks A) w (w1.setCell ⟨m, 6, none⟩ (.slice A' n' k')) := (T.mono (by intro i hi; simp [hi])).trans (TS.mono (by simp))
  have hmL : m ∉ blks A := fun hm => (hk m (by simp [hm])).2 rfl
  have hlo := own_ltA own
  have hz := T.size
  obtain ⟨b1, g1, h1⟩ := h.cuts
  obtain ⟨b2, g2, h2⟩ := h.mails
  obtain ⟨b3, g3, h3⟩ := h.came
  have own2 := own_turnA own TS (fun i hi hm => by have := (hlo i hi).2; simp at hm; omega)
  have kC := own_turnA h1 T2 (fun i hi hm => by
    rw [List.mem_cons] at hm
    rcases hm with hm | hm
    · exact (hk i (by simp [hi])).2 hm
    · exact (hap.1 i hi).1 hm)
  have kB := own_turnA h3 T2 (fun i hi hm => by
    rw [List.mem_cons] at hm
    rcases hm with hm | hm
    · exact (hk i (by simp [hi])).2 hm
    · exact hap.2 i hm hi)
  refine ⟨⟨by simpa using (T.blk h.blk hmL).set_ 6 (.slice A' n' k'), ⟨b1, g1, kC⟩, ⟨base, hb, own2⟩, ⟨b3, g3, kB⟩, ?_, ?_, h.rok⟩, T2⟩
  · refine ⟨fun i hi => ⟨fun hm => ?_, (hap.1 i hi).2⟩, fun i hi hm => ?_⟩
    · rcases hL i hm with h4 | h4
      · exact (hap.1 i hi).1 h4
      · have := (hk i (by simp [hi])).1; omega
    · rcases hL i hi with h4 | h4
      · exact hap.2 i h4 hm
      · have := (hk i (by simp [hm])).1; omega
  · have old : ∀ x, x ∈ ms ∨ x ∈ cs → RMl (w1.setCell ⟨m, 6, none⟩ (.slice A' n' k')) (m :: (blks A' ++ (blks B ++ blks C))) x := fun x hx => by
      have h5 := h.bytes x hx
      refine ⟨h5.ok.turn T2 (fun i hi hm => h5.off i hi (by simp at hm ⊢; rcases hm with hm | hm <;> simp [hm])), fun i hi hm => ?_⟩
      have h6 := h5.off i hi
      simp only [List.mem_cons, List.mem_append, not_or] at h6 hm
      have h7 := h5.ok.lt i hi
      rcases hm with hm | hm | hm | hm
      · exact h6.1 hm
      · rcases hL i hm with h4 | h4
        · exact h6.2.1 h4
        · omega
      · exact h6.2.2.1 hm
      · exact h6.2.2.2 hm
    intro x hx2
    rcases hx2 with hx2 | hx2
    · skip
      rcases hx x hx2 with h5 | h5 | h5
      · exact old x (.inl h5)
      · exact old x (.inr h5)
      · exact ⟨h5.ok.turn TS (fun i hi hm => h5.off i hi (by simp at hm; simp [hm])), h5.off⟩
    · exact old x (.inr hx2)
/-- The row B is laid anew. -/
theorem RNetIs.newB (h : RNetIs w m s r C nc kc cl A n cap ms B nb kb cs sent lost told) (T : Turn (blks B) w w1) {B' : Option Addr} {n' k' : Nat} {l' : List Ml} {base : Nat} (own : w1.ownsRow base 63 4 (.slice B' n' k') n' (mcs l')) (hb : m < base) (hL : ∀ i ∈ blks B', i ∈ blks B ∨ w.heap.size ≤ i) (hx : ∀ x ∈ l', x ∈ ms ∨ x ∈ cs ∨ RMl w1 (m :: (blks A ++ (blks B' ++ blks C))) x) :
    RNetIs (w1.setCell ⟨m, 7, none⟩ (.slice B' n' k')) m s r C nc kc cl A n cap ms B' n' k' l' sent lost told ∧ Turn (m :: blks B) w (w1.setCell ⟨m, 7, none⟩ (.slice B' n' k')) := by
  have hk := h.blks_ok
  have hap := h.apart
  have TS : Turn [m] w1 (w1.setCell ⟨m, 7, none⟩ (.slice B' n' k')) := (Turn.refl [m] w1).setCell (.inl (by simp)) _
  have T2 : Turn (m :: blks B) w (w1.setCell ⟨m, 7, none⟩ (.slice B' n' k')) := (T.mono (by intro i hi; simp [hi])).trans (TS.mono (by simp))
  have hmL : m ∉ blks B := fun hm => (hk m (by simp [hm])).2 rfl
  have hlo := own_ltA own
  have hz := T.size
  obtain ⟨b1, g1, h1⟩ := h.cuts
  obtain ⟨b2, g2, h2⟩ := h.mails
  obtain ⟨b3, g3, h3⟩ := h.came
  have own2 := own_turnA own TS (fun i hi hm => by have := (hlo i hi).2; simp at hm; omega)
  have kC := own_turnA h1 T2 (fun i hi hm => by
    rw [List.mem_cons] at hm
    rcases hm with hm | hm
    · exact (hk i (by simp [hi])).2 hm
    · exact (hap.1 i hi).2 hm)
  have kA := own_turnA h2 T2 (fun i hi hm => by
    rw [List.mem_cons] at hm
    rcases hm with hm | hm
    · exact (hk i (by simp [hi])).2 hm
    · exact hap.2 i hi hm)
  refine ⟨⟨by simpa using (T.blk h.blk hmL).set_ 7 (.slice B' n' k'), ⟨b1, g1, kC⟩, ⟨b2, g2, kA⟩, ⟨base, hb, own2⟩, ?_, ?_, h.rok⟩, T2⟩
  · refine ⟨fun i hi => ⟨(hap.1 i hi).1, fun hm => ?_⟩, fun i hi hm => ?_⟩
    · rcases hL i hm with h4 | h4
      · exact (hap.1 i hi).2 h4
      · have := (hk i (by simp [hi])).1; omega
    · rcases hL i hm with h4 | h4
      · exact hap.2 i hi h4
      · have := (hk i (by simp [hi])).1; omega
  · have old : ∀ x, x ∈ ms ∨ x ∈ cs → RMl (w1.setCell ⟨m, 7, none⟩ (.slice B' n' k')) (m :: (blks A ++ (blks B' ++ blks C))) x := fun x hx => by
      have h5 := h.bytes x hx
      refine ⟨h5.ok.turn T2 (fun i hi hm => h5.off i hi (by simp at hm ⊢; rcases hm with hm | hm <;> simp [hm])), fun i hi hm => ?_⟩
      have h6 := h5.off i hi
      simp only [List.mem_cons, List.mem_append, not_or] at h6 hm
      have h7 := h5.ok.lt i hi
      rcases hm with hm | hm | hm | hm
      · exact h6.1 hm
      · exact h6.2.1 hm
      · rcases hL i hm with h4 | h4
        · exact h6.2.2.1 h4
        · omega
      · exact h6.2.2.2 hm
    intro x hx2
    rcases hx2 with hx2 | hx2
    · exact old x (.inl hx2)
    · skip
      rcases hx x hx2 with h5 | h5 | h5
      · exact old x (.inl h5)
      · exact old x (.inr h5)
      · exact ⟨h5.ok.turn TS (fun i hi hm => h5.off i hi (by simp at hm; simp [hm])), h5.off⟩
/-- What a cut of the reference's does. -/
def RCutted (w : World) (m : Nat) (s : Int) (r : Rl) (C : Option Addr) (cl : List (Int × Int)) (A : Option Addr) (n cap : Nat) (ms : List Ml) (B : Option Addr) (nb kb : Nat) (cs : List Ml) (sent lost told a b : Int) (e : Ending) (w' : World) : Prop :=
  ∃ C' nc' kc' cl', e = .returned (.int .i64 (cutRes (cutP cl) a b).1) ∧ RNetIs w' m s r C' nc' kc' cl' A n cap ms B nb kb cs sent lost told ∧ cutP cl' = (cutRes (cutP cl) a b).2 ∧ (∀ i ∈ blks C', i ∈ blks C ∨ w.heap.size ≤ i) ∧ Turn (m :: blks C) w w'
set_option maxRecDepth 100000 in
set_option maxHeartbeats 4000000 in
theorem rCut_c (h : RNetIs w m s r C nc kc cl A n cap ms B nb kb cs sent lost told) (hl : nc ≤ 64) (a b : Int) :
    Calls Try.prog 24 #[.pointer (some ⟨m, 0, none⟩), .int .i64 a, .int .i64 b] w (RCutted w m s r C cl A n cap ms B nb kb cs sent lost told a b) := by
  have H := Lib.hid h
  have IC := Lib.hid (rIsCut_c h (by omega) a b)
  have hlen : (cutP cl).length = nc := by unfold cutP; rw [List.length_map, h.lens.1]
  have ml := h.blk.lt
  clear h
  unfold RCutted
  by_cases hab : a = b
  · have RS := Lib.hid (show cutRes (cutP cl) a b = (1, cutP cl) by unfold cutRes; rw [if_pos hab])
    have g1 : (a == b) = true := by simpa using hab
    clear hab
    go_enter Try.func24, Try.ntmps24
    go_wp2_with fail
    go_ret
    exact ⟨C, nc, kc, cl, by rw [RS.out]; simp, H.out, by rw [RS.out], fun i hi => .inl hi, Turn.refl _ _⟩
  · have g1 : (a == b) = false := by simpa using hab
    by_cases hc : pairOf a b ∈ cutP cl
    · have RS := Lib.hid (show cutRes (cutP cl) a b = (8, cutP cl) by unfold cutRes; rw [if_neg hab, if_pos hc])
      rw [decide_eq_true hc] at IC
      clear hab hc
      go_enter Try.func24, Try.ntmps24
      go_wp2_with fail
      refine IC.out.mono ?_
      rintro e w1 ⟨rfl, hT1⟩
      go_wp2_with fail
      go_ret
      exact ⟨C, nc, kc, cl, by rw [RS.out]; simp, H.out.turn0 hT1, by rw [RS.out], fun i hi => .inl hi, hT1.mono (by simp)⟩
    · rw [decide_eq_false hc] at IC
      by_cases h64 : nc = 64
      · have RS := Lib.hid (show cutRes (cutP cl) a b = (6, cutP cl) by unfold cutRes; rw [if_neg hab, if_neg hc, if_pos (by omega)])
        have n1 : (64 : Int) ≤ (nc : Int) := by omega
        clear hab hc h64
        go_enter Try.func24, Try.ntmps24
        go_wp2_with fail
        refine IC.out.mono ?_
        rintro e w1 ⟨rfl, hT1⟩
        obtain ⟨-, -, -, -, -, c5, -, -, -, -, -, ml1⟩ := (H.out.turn0 hT1).cells
        go_wp2_with fail
        go_ret
        exact ⟨C, nc, kc, cl, by rw [RS.out]; simp, H.out.turn0 hT1, by rw [RS.out], fun i hi => .inl hi, hT1.mono (by simp)⟩
      · have RS := Lib.hid (show cutRes (cutP cl) a b = (0, cutP cl ++ [pairOf a b]) by unfold cutRes; rw [if_neg hab, if_neg hc, if_neg (by omega)])
        have n1 : ¬ (64 : Int) ≤ (nc : Int) := by omega
        have n2 : nc ≤ 63 := by omega
        clear hab hc h64
        go_enter Try.func24, Try.ntmps24
        go_wp2_with fail
        refine IC.out.mono ?_
        rintro e w1 ⟨rfl, hT1⟩
        have H1 := H.out.turn0 hT1
        obtain ⟨-, -, -, -, -, c5, -, -, -, -, -, ml1⟩ := H1.cells
        obtain ⟨bC, gC, oC⟩ := H1.cuts
        have hmC : m ∉ blks C := fun hm => (H1.blks_ok m (by simp [hm])).2 rfl
        have HO := Lib.hid (own_down oC (show m + 1 ≤ bC by omega))
        have HH1 := Lib.hid H1
        clear oC H1
        go_wp2_with (at_builtin; refine wpList_append_sl elemP2 rfl _ _ rfl C nc kc _ rfl (HO.out.alloc _) (some ⟨w1.heap.size, 0, none⟩) 1 1 [.int .i64 a, .int .i64 b] rfl (Sl.new _ #[.int .i64 a, .int .i64 b] _) (by simp) (by simp [Value.oneCell']) (by omega) (by omega) (by simp; omega) ?_; intro C' kc' w2 own2 hg2 hlie2; have T12 : Turn (blks C) w1 w2 := (((Turn.refl [] w1).alloc _).mono (by simp)).trans (grown_turn hg2); have B2 := T12.blk HH1.out.blk hmC; have c52 := B2.cell 5; have f52 := B2.frozen 5; have ml2 := B2.lt)
        have hC' : ∀ i ∈ blks C', i ∈ blks C ∨ w1.heap.size ≤ i := fun i hi => by
          rcases lies_blks hlie2 i hi with h1 | h1
          · exact .inl h1
          · exact .inr (by simp at h1; omega)
        have e2 : p2s cl ++ [Value.int .i64 a, Value.int .i64 b] = p2s (cl ++ [(a, b)]) := by rw [p2s_append]; rfl
        rw [e2] at own2
        have NR := HH1.out.newC T12 own2 (by omega) hC'
        have hz1 := hT1.size
        go_ret
        exact ⟨C', nc + 1, kc', cl ++ [(a, b)], by rw [RS.out]; simp, NR.1, by rw [RS.out]; simp [cutP], fun i hi => by
          rcases hC' i hi with h1 | h1
          · exact .inl h1
          · exact .inr (by omega), (hT1.mono (by simp)).trans NR.2⟩
end
end Go.Proofs.Ytiijgokgojjocaa
