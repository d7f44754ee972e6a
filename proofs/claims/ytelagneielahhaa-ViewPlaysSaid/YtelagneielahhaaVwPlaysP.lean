/- Plain: where ViewPlays stands. -/
import Derived.Test.YtelagneielahhaaVwTell
import Derived.Test.YtelagneielahhaaVwHoldsP
import Derived.Test.YtelagneielahhaaVwHear
import Derived.Test.YtelagneielahhaaVwRev
namespace Go.Proofs.Ytelagneielahhaa
open Go.RowKit Go.ChangeMaps Go.MapKept

/-- Where ViewPlays stands: the view, the reference, both sets. -/
structure PlRel (w : World) (v mb s r o : Nat) (own : C4) (A : Option Addr) (n cc : Nat) (G G' : Nat → Lg) (mv mr : VM) (wr : World) : Prop where
  view : VIs wr v mb own mv
  ref : RVIs wr r own A n cc mr
  set : SIs wr s G
  rset : RSIs wr o G'
  heads : (v ≠ mb ∧ v ≠ s ∧ v ≠ r ∧ v ≠ o) ∧ (mb ≠ s ∧ mb ≠ r ∧ mb ≠ o) ∧ (s ≠ r ∧ s ≠ o) ∧ r ≠ o
  low : w.heap.size ≤ v ∧ w.heap.size ≤ mb ∧ w.heap.size ≤ s ∧ w.heap.size ≤ r ∧ w.heap.size ≤ o
  offA : ∀ x ∈ blks A, w.heap.size ≤ x ∧ x ≠ v ∧ x ≠ mb ∧ x ≠ s ∧ x ≠ r ∧ x ≠ o
  offG : ∀ j, j < 4 → ∀ x ∈ blks (G j).A, (x ≠ v ∧ x ≠ mb ∧ x ≠ s ∧ x ≠ r ∧ x ≠ o) ∧ x ∉ blks A
  offG' : ∀ j, j < 4 → ∀ x ∈ blks (G' j).A, (x ≠ v ∧ x ≠ mb ∧ x ≠ s ∧ x ≠ r ∧ x ≠ o) ∧ x ∉ blks A
  turn : Turn [] w wr
section
variable {w wr wz : World} {v mb s r o : Nat} {own : C4} {A : Option Addr} {n cc : Nat} {G G' : Nat → Lg} {mv mr : VM}
theorem PlRel.lts (h : PlRel w v mb s r o own A n cc G G' mv mr wr) : v < wr.heap.size ∧ mb < wr.heap.size ∧ s < wr.heap.size ∧ r < wr.heap.size ∧ o < wr.heap.size :=
  ⟨h.view.lts.1, h.view.lts.2, h.set.blk.lt, h.ref.blk.lt, h.rset.blk.lt⟩
theorem PlRel.turn0 (h : PlRel w v mb s r o own A n cc G G' mv mr wr) (hT : Turn [] wr wz) : PlRel w v mb s r o own A n cc G G' mv mr wz :=
  ⟨h.view.turn hT (by simp) (by simp), h.ref.turn0 hT, h.set.turn0 hT, h.rset.turn0 hT, h.heads, h.low, h.offA, h.offG, h.offG', h.turn.trans hT⟩
theorem PlRel.view' (h : PlRel w v mb s r o own A n cc G G' mv mr wr) {mv' : VM} (hV : VIs wz v mb own mv') (hT : Turn [mb] wr wz) : PlRel w v mb s r o own A n cc G G' mv' mr wz := by
  have hd := h.heads
  have hl := h.low
  exact ⟨hV, h.ref.turn hT (by simp; omega) (fun i hi hm => by have := h.offA i hi; simp at hm; omega), h.set.turn hT (by simp; omega) (fun i hi j hj hm => by have := (h.offG i hi j hj).1; simp at hm; omega),
    h.rset.turn hT (by simp; omega) (fun i hi j hj hm => by have := (h.offG' i hi j hj).1; simp at hm; omega), h.heads, h.low, h.offA, h.offG, h.offG', h.turn.andThen hT (fun j hj => by simp at hj; omega)⟩
theorem PlRel.ref' (h : PlRel w v mb s r o own A n cc G G' mv mr wr) {A' : Option Addr} {n' c' : Nat} {mr' : VM} (hR : RVIs wz r own A' n' c' mr') (hb : ∀ x ∈ blks A', x ∈ blks A ∨ wr.heap.size ≤ x) (hT : Turn (r :: blks A) wr wz) : PlRel w v mb s r o own A' n' c' G G' mv mr' wz := by
  have hd := h.heads
  have hl := h.low
  have hlt := h.lts
  have hA := h.offA
  have hz := h.turn.size
  have nA : ∀ x, (x = v ∨ x = mb ∨ x = s ∨ x = o) → x ∉ r :: blks A := fun x hx hm => by
    rw [List.mem_cons] at hm
    rcases hm with hm | hm
    · omega
    · have := hA x hm; omega
  have nG : ∀ {L : Nat → Lg}, (∀ j, j < 4 → ∀ x ∈ blks (L j).A, (x ≠ v ∧ x ≠ mb ∧ x ≠ s ∧ x ≠ r ∧ x ≠ o) ∧ x ∉ blks A) → ∀ i, i < 4 → ∀ j ∈ blks (L i).A, j ∉ r :: blks A := fun hL i hi j hj hm => by
    have h1 := hL i hi j hj
    rw [List.mem_cons] at hm
    rcases hm with hm | hm
    · omega
    · exact h1.2 hm
  refine ⟨h.view.turn hT (nA v (by simp)) (nA mb (by simp)), hR, h.set.turn hT (nA s (by simp)) (nG h.offG), h.rset.turn hT (nA o (by simp)) (nG h.offG'), h.heads, h.low, fun x hx => ?_, fun j hj x hx => ⟨(h.offG j hj x hx).1, fun hm => ?_⟩, fun j hj x hx => ⟨(h.offG' j hj x hx).1, fun hm => ?_⟩, h.turn.andThen hT (fun j hj => ?_)⟩
  · rcases hb x hx with h1 | h1
    · exact hA x h1
    · omega
  · rcases hb x hm with h1 | h1
    · exact (h.offG j hj x hx).2 h1
    · have := ((h.set.ok j hj).2.2.2 x hx).1; omega
  · rcases hb x hm with h1 | h1
    · exact (h.offG' j hj x hx).2 h1
    · have := ((h.rset.ok j hj).2.2.2 x hx).1; omega
  · rw [List.mem_cons] at hj
    rcases hj with hj | hj
    · exact .inr (by omega)
    · exact .inr (hA j hj).1
theorem PlRel.set' (h : PlRel w v mb s r o own A n cc G G' mv mr wr) {G2 : Nat → Lg} (hS : SIs wz s G2) (hb : ∀ j, ∀ x ∈ blks (G2 j).A, x ∈ blks (G j).A ∨ wr.heap.size ≤ x) (hT : Turn [s] wr wz) : PlRel w v mb s r o own A n cc G2 G' mv mr wz := by
  have hd := h.heads
  have hl := h.low
  have hlt := h.lts
  refine ⟨h.view.turn hT (by simp; omega) (by simp; omega), h.ref.turn hT (by simp; omega) (fun i hi hm => by have := h.offA i hi; simp at hm; omega), hS,
    h.rset.turn hT (by simp; omega) (fun i hi j hj hm => by have := (h.offG' i hi j hj).1; simp at hm; omega), h.heads, h.low, h.offA, fun j hj x hx => ?_, h.offG', h.turn.andThen hT (fun j hj => by simp at hj; omega)⟩
  rcases hb j x hx with h1 | h1
  · exact h.offG j hj x h1
  · exact ⟨by omega, fun hm => by have := (h.ref.blks_ok x hm).1; omega⟩
theorem PlRel.rset' (h : PlRel w v mb s r o own A n cc G G' mv mr wr) {G2 : Nat → Lg} (hS : RSIs wz o G2) (hb : ∀ j, ∀ x ∈ blks (G2 j).A, x ∈ blks (G' j).A ∨ wr.heap.size ≤ x) (hT : Turn [o] wr wz) : PlRel w v mb s r o own A n cc G G2 mv mr wz := by
  have hd := h.heads
  have hl := h.low
  have hlt := h.lts
  refine ⟨h.view.turn hT (by simp; omega) (by simp; omega), h.ref.turn hT (by simp; omega) (fun i hi hm => by have := h.offA i hi; simp at hm; omega), h.set.turn hT (by simp; omega) (fun i hi j hj hm => by have := (h.offG i hi j hj).1; simp at hm; omega), hS,
    h.heads, h.low, h.offA, h.offG, fun j hj x hx => ?_, h.turn.andThen hT (fun j hj => by simp at hj; omega)⟩
  rcases hb j x hx with h1 | h1
  · exact h.offG' j hj x h1
  · exact ⟨by omega, fun hm => by have := (h.ref.blks_ok x hm).1; omega⟩
end

theorem SinceOk.sub {m m' : VM} (h : SinceOk m) (hs : ∀ p ∈ m', p ∈ m) : SinceOk m' := fun p hp => h p (hs p hp)
theorem kget_mem2 {m : VM} {k : Int} {e : En} (h : kget m k = some e) : (k, e) ∈ m := by
  rcases findI_cases m k with ⟨hg, -⟩ | ⟨i, hi, a, hg, -, hm⟩
  · rw [hg] at h; cases h
  · rw [hg] at h
    cases h
    rw [← hm]
    exact List.getElem_mem hi
/-- What holds of the entries. -/
def EnOk (m : VM) : Prop := VOk m ∧ SinceOk m
theorem EnOk.sub {m m' : VM} (h : EnOk m) (hs : ∀ p ∈ m', p ∈ m) : EnOk m' := ⟨h.1.sub hs, h.2.sub hs⟩
theorem EnOk.put {m : VM} (h : EnOk m) {k : Int} {e e' : En} (hg : kget m k = some e) (hc : e'.c = e.c) (hs : 0 ≤ e'.since ∧ e'.since ≤ 1073741824) : EnOk (kput m k e') := by
  have hm := kget_mem2 hg
  exact ⟨h.1.put (by rw [hc]; exact h.1.key _ hm) (by rw [hc]; exact h.1.right _ hm), h.2.put hs⟩
theorem addR_en {own : C4} {m : VM} (h : EnOk m) (hr : Rises m) (c : C4) (tick : Int) : EnOk (addR own m c tick).2 := ⟨addR_ok h.1 c tick, (addR_stays hr h.2 c tick).2⟩
theorem hearR_en {m : VM} (h : EnOk m) (c : C4) (tick : Int) : EnOk (hearR m c tick).2 := by
  unfold hearR
  cases hg : kget m c.1 with
  | none => exact h
  | some e =>
    simp only
    split
    · exact h.put hg rfl ⟨by simp, by simp⟩
    · exact h
theorem doubtR_en {m : VM} (h : EnOk m) (id tick : Int) (h0 : 0 ≤ tick) (h1 : tick ≤ 1073741824) : EnOk (doubtR m id tick).2 := by
  unfold doubtR
  cases hg : kget m id with
  | none => exact h
  | some e =>
    simp only
    split
    · exact h
    · exact h.put hg rfl ⟨h0, h1⟩
theorem noteR_en {m : VM} (h : EnOk m) (id inc : Int) : EnOk (noteR m id inc).2 := by
  unfold noteR
  cases hg : kget m id with
  | none => exact h
  | some e =>
    simp only
    split
    · exact h
    · exact h.put hg rfl (h.2 _ (kget_mem2 hg))
theorem kdel_en {m : VM} (h : EnOk m) (id : Int) : EnOk (kdel m id) := h.sub (fun p hp => (List.mem_filter.1 hp).1)
theorem filter_en {m : VM} (h : EnOk m) (p : Int × En → Bool) : EnOk (m.filter p) := h.sub (fun q hq => (List.mem_filter.1 hq).1)
def Small (x : Int) : Prop := 0 ≤ x ∧ x ≤ 100
theorem addR_sm (own : C4) (m : VM) (c : C4) (tick : Int) : Small (addR own m c tick).1 := by
  unfold addR Small
  split
  · simp
  · split
    · simp
    · split
      · split
        · simp
        · split <;> simp
      · split <;> simp
theorem hearR_sm (m : VM) (c : C4) (tick : Int) : Small (hearR m c tick).1 := by
  unfold hearR Small
  split
  · simp
  · split <;> simp
theorem doubtR_sm (m : VM) (id tick : Int) : Small (doubtR m id tick).1 := by
  unfold doubtR Small
  split
  · simp
  · split <;> simp
theorem noteR_sm (m : VM) (id inc : Int) : Small (noteR m id inc).1 := by
  unfold noteR Small
  split
  · simp
  · split <;> simp
theorem revR_sm (xs l : List Int) : Small (revR xs l).1 := by
  unfold revR Small
  repeat' split
  all_goals simp
theorem drop2 (m : VM) (id : Int) : dropM m [id, id] = kdel m id := by
  show kdel (kdel m id) id = kdel m id
  unfold kdel
  simp [List.filter_filter]
theorem drop_one {m : VM} (hr : Rises m) (id : Int) : (((m.length : Int) - ((kdel m id).length : Nat)) == 1) = (kget m id).isSome := by
  rcases findI_cases m id with ⟨hg, -⟩ | ⟨k, hk, a, hg, -, hm⟩
  · rw [kdel_absent hg, hg]
    simp
  · rw [kdel_at hr hk (id := id) (by rw [hm]), hg]
    simp
    omega
end Go.Proofs.Ytelagneielahhaa
