/- The reference's mails of one letter, with bytes of their own. -/
import Derived.Test.YtiijgokgojjocaaRNet
namespace Go.Proofs.Ytiijgokgojjocaa
open Go.RowKit Go.ChangeMaps Go.WideMaps Go.MapKept Go.WideShapes

/-- Mails of a letter lie there, with bytes of their own. -/
structure RFrIs (w : World) (b0 : Nat) (O : Option Addr) (co : Nat) (fs : List Ml) : Prop where
  row : w.ownsRow b0 63 4 (.slice O fs.length co) fs.length (mcs fs)
  own : ∀ m ∈ fs, w.ownsRow b0 5 1 (.slice m.A m.n m.c) m.n (u8s m.xs) ∧ m.n ≤ 1000000 ∧ MlV m
  offO : ∀ m ∈ fs, ∀ i ∈ blks m.A, i ∉ blks O
  pw : fs.Pairwise (fun a b => ∀ i ∈ blks a.A, i ∉ blks b.A)
section
variable {w w' w1 w2 w3 : World} {b0 : Nat} {O : Option Addr} {co : Nat} {fs : List Ml}
theorem RFrIs.nil (w : World) (b0 : Nat) : RFrIs w b0 none 0 [] := ⟨World.ownsRow_nil _ _ _ _, by simp, by simp, by simp⟩
theorem RFrIs.lt (h : RFrIs w b0 O co fs) : (∀ i ∈ blks O, i < w.heap.size ∧ b0 ≤ i) ∧ ∀ m ∈ fs, ∀ i ∈ blks m.A, i < w.heap.size ∧ b0 ≤ i :=
  ⟨own_ltA h.row, fun m hm => own_ltA (h.own m hm).1⟩
theorem RFrIs.turn (h : RFrIs w b0 O co fs) {S : List Nat} (hT : Turn S w w') (hS : ∀ i ∈ S, i < b0) : RFrIs w' b0 O co fs := by
  have hl := h.lt
  exact ⟨own_turnA h.row hT (fun i hi hm => by have := (hl.1 i hi).2; have := hS i hm; omega), fun m hm => ⟨own_turnA (h.own m hm).1 hT (fun i hi hm' => by have := (hl.2 m hm i hi).2; have := hS i hm'; omega), (h.own m hm).2⟩, h.offO, h.pw⟩
theorem RFrIs.ok (h : RFrIs w b0 O co fs) {m : Ml} (hm : m ∈ fs) : MlOk w m ∧ ∀ i ∈ blks m.A, b0 ≤ i ∧ i ∉ blks O :=
  ⟨⟨Sl.of_own (h.own m hm).1, by have := (h.own m hm).1.1; rw [u8s_len, Nat.mul_one] at this; exact this, (h.own m hm).2.1, fun i hi => (h.lt.2 m hm i hi).1, (h.own m hm).2.2⟩, fun i hi => ⟨(h.lt.2 m hm i hi).2, h.offO m hm i hi⟩⟩
theorem RFrIs.down (h : RFrIs w b0 O co fs) {b1 : Nat} (hb : b1 ≤ b0) : RFrIs w b1 O co fs :=
  ⟨own_down h.row hb, fun m hm => ⟨own_down (h.own m hm).1 hb, (h.own m hm).2⟩, h.offO, h.pw⟩
theorem RFrIs.last (h : RFrIs w b0 O co fs) {l : List Ml} {m : Ml} (hf : fs = l ++ [m]) : ∃ go, O = some ⟨go, 0, none⟩ ∧ go < w.heap.size ∧ w.cell? ⟨go, l.length * 4 + 3, none⟩ = some (.slice m.A m.n m.c) := by
  have hl : l.length * 4 + 3 < (mcs fs).length := by rw [mcs_len, hf]; simp; omega
  rcases h.row.2 with ⟨-, h1⟩ | ⟨go, cap, cur, hv, -⟩
  · rw [hf] at h1; simp at h1
  · cases hv
    obtain ⟨b, off, hA, hlt, hc⟩ := (Sl.of_own h.row).at_ hl
    cases hA
    refine ⟨go, rfl, hlt, ?_⟩
    rw [Nat.zero_add] at hc
    rw [hc]
    congr 1
    subst hf
    simp only [mcs_append]
    rw [List.getElem_append_right (by rw [mcs_len]; omega)]
    have e : l.length * 4 + 3 - (mcs l).length = 3 := by rw [mcs_len]; omega
    simp only [e]
    rfl
/-- The last one is bent. -/
theorem RFrIs.bent {l : List Ml} {m : Ml} (h : RFrIs w b0 O co (l ++ [m])) {d : Nat} (hd : d < b0) (hT : Turn (d :: blks m.A) w w') {bb : Nat} {ys : List Int} (hown : w'.ownsRow bb 5 1 (.slice m.A m.n m.c) m.n (u8s ys)) (hb : b0 ≤ bb) :
    RFrIs w' b0 O co (l ++ [⟨m.due, m.fr, m.dst, m.A, m.n, m.c, ys⟩]) := by
  have hl := h.lt
  have hm := hl.2 m (by simp)
  have hpw := h.pw
  rw [List.pairwise_append] at hpw
  obtain ⟨p1, -, p3⟩ := hpw
  refine ⟨?_, ?_, ?_, ?_⟩
  · have := own_turnA h.row hT (fun i hi hm' => by
      simp at hm'
      rcases hm' with h1 | h1
      · have := (hl.1 i hi).2; omega
      · exact h.offO m (by simp) i h1 hi)
    simpa [mcs_append, mcs, mcell] using this
  · intro x hx
    rw [List.mem_append] at hx
    rcases hx with hx | hx
    · refine ⟨own_turnA (h.own x (by simp [hx])).1 hT (fun i hi hm' => ?_), (h.own x (by simp [hx])).2⟩
      simp at hm'
      rcases hm' with h1 | h1
      · have := (hl.2 x (by simp [hx]) i hi).2; omega
      · exact p3 x hx m (by simp) i hi h1
    · simp at hx
      subst hx
      exact ⟨own_down hown hb, (h.own m (by simp)).2⟩
  · intro x hx
    rw [List.mem_append] at hx
    rcases hx with hx | hx
    · exact h.offO x (by simp [hx])
    · simp at hx
      subst hx
      exact h.offO m (by simp)
  · rw [List.pairwise_append]
    refine ⟨p1, by simp, fun a ha b hb' i hi => ?_⟩
    simp at hb'
    subst hb'
    exact p3 a ha m (by simp) i hi
/-- One mail more. -/
theorem RFrIs.push (h : RFrIs w b0 O co fs) {S : List Nat} (hT1 : Turn S w w1) (hS : ∀ i ∈ S, i < b0) (hb : b0 ≤ w.heap.size) {m : Ml} (hown : w2.ownsRow w1.heap.size 5 1 (.slice m.A m.n m.c) m.n (u8s m.xs)) (hn : m.n ≤ 1000000 ∧ MlV m) (hT2 : Turn [] w1 w2)
    {w3' : World} (hT3 : Turn [] w2 w3') {O' : Option Addr} {co' : Nat} (hrow : w3.ownsRow b0 63 4 (.slice O' (fs.length + 1) co') (fs.length + 1) (mcs (fs ++ [m]))) (hg : w3'.grownBy w3 (O.map (·.block))) (hlie : Lies w3' O O') :
    RFrIs w3 b0 O' co' (fs ++ [m]) ∧ Turn (S ++ blks O) w w3 := by
  have hl := h.lt
  have hz1 := hT1.size
  have hz2 := hT2.size
  have hz3 := hT3.size
  have hm := own_ltA hown
  have T3 : Turn (blks O) w2 w3 := (hT3.mono (by simp)).trans (grown_turn hg)
  have hO' : ∀ i ∈ blks O', i ∈ blks O ∨ w3'.heap.size ≤ i := fun i hi => by
    rcases lies_blks hlie i hi with h1 | h1
    · exact .inl h1
    · exact .inr (by omega)
  have TT : Turn (S ++ blks O) w w3 := ((hT1.mono (by intro i hi; simp [hi])).trans (hT2.mono (by simp))).trans (T3.mono (by intro i hi; simp [hi]))
  refine ⟨⟨by simpa using hrow, ?_, ?_, ?_⟩, TT⟩
  · intro x hx
    rw [List.mem_append] at hx
    rcases hx with hx | hx
    · refine ⟨own_turnA (h.own x hx).1 TT (fun i hi hm' => ?_), (h.own x hx).2⟩
      rw [List.mem_append] at hm'
      rcases hm' with h1 | h1
      · have := hS i h1; have := (hl.2 x hx i hi).2; omega
      · exact h.offO x hx i hi h1
    · simp at hx
      subst hx
      exact ⟨own_down (own_turnA hown T3 (fun i hi hm' => by have := (hm i hi).2; have := (hl.1 i hm').1; omega)) (by omega), hn⟩
  · intro x hx i hi hm'
    rw [List.mem_append] at hx
    rcases hx with hx | hx
    · rcases hO' i hm' with h1 | h1
      · exact h.offO x hx i hi h1
      · have := (hl.2 x hx i hi).1; omega
    · simp at hx
      subst hx
      rcases hO' i hm' with h1 | h1
      · have := (hm i hi).2; have := (hl.1 i h1).1; omega
      · have := (hm i hi).1; omega
  · rw [List.pairwise_append]
    refine ⟨h.pw, by simp, fun a ha b hb' i hi hm' => ?_⟩
    simp at hb'
    subst hb'
    have := (hl.2 a ha i hi).1
    have := (hm i hm').2
    omega
end
end Go.Proofs.Ytiijgokgojjocaa
