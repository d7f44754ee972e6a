/- Arguments that are slices of structs of ints with, last, a struct of ints. -/
import Derived.Test.YtelagneielahhaaOpen4
namespace Go.Proofs.Ytelagneielahhaa
open Go.ChangeShapes Go.WideShapes Go.ChangeAt Go.RowKit Go.Deep

section
variable {H : Type} {enc : TypeId × Value → H} {P : Program} {W : World}
theorem ints_of_struct {t : TypeId} {fs : Array Field} {fuel : Nat} {cs : List Value} {x : DataW H × List MemPlace} (ht : P.underlying t = some (.struct fs)) (hone : oneCellFields P fs = true) (hC : P.cellsOf t = fs.size) (hint : ∀ f ∈ fs.toList, P.underlying f.type = some (.int .i64))
    (h : DataW.trod enc P W 0 (fun _ => true) true fuel t cs = some x) : cs.length = fs.size ∧ ∀ j, j < fs.size → ∃ z : Int, cs[j]? = some (.int .i64 z) ∧ (Lit.int .i64 z).wf = true := by
  obtain ⟨ys, n', hn', hy, hlen, hyl, hfl⟩ := DataW.trod_struct ht h
  have hl : cs.length = fs.size := by rw [hlen, hC]
  refine ⟨hl, fun j hj => ?_⟩
  have hfj : fs[j]? = some (fs[j]'(by omega)) := by simp [hj]
  obtain ⟨ho, hk⟩ := hone_of hone j _ hfj
  have h1 := hfl j _ hfj
  rw [ho, hk] at h1
  have hdt : (cs.drop j).take 1 = [cs[j]'(by omega)] := by
    rw [List.drop_eq_getElem_cons (by omega)]
    rfl
  rw [hdt] at h1
  have hys : ys[j]? = some (ys[j]'(by omega)) := List.getElem?_eq_getElem (by omega)
  have h2 := h1.trans hys
  obtain ⟨z, hx1, hx2, hx3⟩ := DataW.trod_int (hint _ (by simp)) h2
  simp at hx1
  exact ⟨z, by rw [List.getElem?_eq_getElem (by omega), hx1], hx3⟩
theorem open_rows_nest {t e t2 : TypeId} {fs fs2 : Array Field} {v : Value} {d : DataW H} {p : List MemPlace} {base : Nat} {r : Reach} {k : Nat} (ht : P.underlying t = some (.slice e)) (he : P.underlying e = some (.struct fs)) (hk : fs.size = k + 1) (hC : P.cellsOf e = k + fs2.size)
    (hi1 : ∀ j f, j < k → fs[j]? = some f → f.offset = j ∧ P.cellsOf f.type = 1 ∧ P.underlying f.type = some (.int .i64)) (hlast : ∀ f, fs[k]? = some f → f.offset = k ∧ f.type = t2) (ht2 : P.underlying t2 = some (.struct fs2)) (hone2 : oneCellFields P fs2 = true) (hC2 : P.cellsOf t2 = fs2.size) (hn2 : 0 < fs2.size)
    (hint2 : ∀ f ∈ fs2.toList, P.underlying f.type = some (.int .i64)) (hv : Value.okWide P W r base t v) (h : DataW.Trod enc P W 0 (fun _ => true) true t v d p) :
    ∃ (A : Option Addr) (len cap : Nat) (F : Nat → Nat → Int), v = .slice A len cap ∧ len ≤ maxLen ∧ Rows W A len (k + fs2.size) F := by
  obtain ⟨A, len, cap, rfl⟩ := okWide_slice ht hv
  obtain ⟨fuel, hf⟩ := h
  rcases open_slice ht hf with ⟨hcs, hx⟩ | ⟨a, len', cap', m, n, D, Pl, hcs, hb, hlc, hcm, hm, hx, hi⟩
  · simp [Value.cells] at hcs
    obtain ⟨rfl, rfl, rfl⟩ := hcs
    exact ⟨none, 0, 0, fun _ _ => 0, rfl, by simp, fun h => absurd h (by omega)⟩
  · simp [Value.cells] at hcs
    obtain ⟨rfl, rfl, rfl⟩ := hcs
    have hml : len ≤ m := by rw [hm]; split <;> omega
    rw [hC] at hi
    have key : ∀ i, i < len → ∃ g : Nat → Int, ∀ j, j < k + fs2.size → W.cell? (a.add (i * (k + fs2.size) + j)) = some (.int .i64 (g j)) ∧ (Lit.int .i64 (g j)).wf = true := by
      intro i hil
      obtain ⟨cs', hc, ht'⟩ := hi i (by omega)
      obtain ⟨ys, n', hn', hy, hlen, hyl, hfl⟩ := DataW.trod_struct he ht'
      obtain ⟨_, hcl, hat⟩ := World.cells?_some hc
      have hcl' : cs'.length = k + fs2.size := by rw [hlen, hC]
      refine choose_lt (α := Int) (p := fun j g => W.cell? (a.add (i * (k + fs2.size) + j)) = some (.int .i64 g) ∧ (Lit.int .i64 g).wf = true) (fun j hj => ?_)
      suffices hs : ∃ z : Int, cs'[j]? = some (.int .i64 z) ∧ (Lit.int .i64 z).wf = true by
        obtain ⟨z, hz, hw⟩ := hs
        exact ⟨z, by rw [← Go.Deep.add_add, hat j hj, hz], hw⟩
      by_cases hjk : j < k
      · have hfj : fs[j]? = some (fs[j]'(by omega)) := by simp
        obtain ⟨ho, hc1, hu⟩ := hi1 j _ hjk hfj
        have h1 := hfl j _ hfj
        rw [ho, hc1] at h1
        have hdt : (cs'.drop j).take 1 = [cs'[j]'(by omega)] := by
          rw [List.drop_eq_getElem_cons (by omega)]
          rfl
        rw [hdt] at h1
        have hys : ys[j]? = some (ys[j]'(by omega)) := List.getElem?_eq_getElem (by omega)
        obtain ⟨z, hx1, hx2, hx3⟩ := DataW.trod_int hu (h1.trans hys)
        simp at hx1
        exact ⟨z, by rw [List.getElem?_eq_getElem (by omega), hx1], hx3⟩
      · have hfk : fs[k]? = some (fs[k]'(by omega)) := by simp
        obtain ⟨ho, htt⟩ := hlast _ hfk
        have h1 := hfl k _ hfk
        rw [ho, htt, hC2] at h1
        have hys : ys[k]? = some (ys[k]'(by omega)) := List.getElem?_eq_getElem (by omega)
        obtain ⟨hl2, hz⟩ := ints_of_struct ht2 hone2 hC2 hint2 (h1.trans hys)
        obtain ⟨z, hz1, hz2⟩ := hz (j - k) (by omega)
        refine ⟨z, ?_, hz2⟩
        rw [List.getElem?_take_of_lt (by omega), List.getElem?_drop] at hz1
        rw [← hz1]
        congr 1
        omega
    obtain ⟨F, hF⟩ := choose_lt (α := Nat → Int) (p := fun i g => ∀ j, j < k + fs2.size → W.cell? (a.add (i * (k + fs2.size) + j)) = some (.int .i64 (g j)) ∧ (Lit.int .i64 (g j)).wf = true) key
    refine ⟨some a, len, cap, F, rfl, by omega, fun hpos => ?_⟩
    have h0 := (hF 0 hpos 0 (by omega)).1
    simp only [Nat.zero_mul, Nat.add_zero, Addr.add, if_true] at h0
    obtain ⟨b, off, spot⟩ := a
    obtain rfl := spot_none h0
    refine ⟨b, off, rfl, World.block_lt_of_cell? W _ h0, fun i hil j hj => ?_⟩
    have := hF i hil j hj
    rw [add_plain] at this
    rw [Nat.add_assoc]
    exact this
end
end Go.Proofs.Ytelagneielahhaa
