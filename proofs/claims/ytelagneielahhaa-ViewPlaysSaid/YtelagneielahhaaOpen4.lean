/- Arguments that are slices of structs of ints. -/
import Derived.Test.YtelagneielahhaaLawKit
namespace Go.Proofs.Ytelagneielahhaa
open Go.ChangeShapes Go.WideShapes Go.ChangeAt Go.RowKit Go.Deep

section
variable {H : Type} {enc : TypeId × Value → H} {P : Program} {W : World}

theorem slice_cap {t e : TypeId} {A : Option Addr} {len cap : Nat} {d : DataW H} {p : List MemPlace} (ht : P.underlying t = some (.slice e)) (h : DataW.Trod enc P W 0 (fun _ => true) true t (.slice A len cap) d p) : len ≤ cap ∧ cap ≤ maxLen := by
  obtain ⟨fuel, hf⟩ := h
  rcases open_slice ht hf with ⟨hcs, hx⟩ | ⟨a, len', cap', m, n, D, Pl, hcs, hb, hlc, hcm, hm, hx, hi⟩
  · simp [Value.cells] at hcs
    obtain ⟨rfl, rfl, rfl⟩ := hcs
    exact ⟨Nat.le_refl _, by simp⟩
  · simp [Value.cells] at hcs
    obtain ⟨rfl, rfl, rfl⟩ := hcs
    exact ⟨hlc, hcm⟩
theorem spot_none {b off : Nat} {spot : Option _} {v : Value} (h0 : W.cell? ⟨b, off, spot⟩ = some v) : spot = none := by
  cases spot with
  | none => rfl
  | some s =>
    unfold World.cell? at h0
    simp at h0
    split at h0 <;> simp at h0

/-- A slice of structs of ints, in a cell. -/
theorem open_rows_cells {t e : TypeId} {fs : Array Field} {v : Value} {x : DataW H × List MemPlace} {fuel : Nat} (ht : P.underlying t = some (.slice e)) (he : P.underlying e = some (.struct fs))
    (hone : oneCellFields P fs = true) (hC : P.cellsOf e = fs.size) (hn : 0 < fs.size) (hint : ∀ f ∈ fs.toList, P.underlying f.type = some (.int .i64))
    (hf : DataW.trod enc P W 0 (fun _ => true) true fuel t [v] = some x) : ∃ (A : Option Addr) (len cap : Nat) (F : Nat → Nat → Int), v = .slice A len cap ∧ len ≤ cap ∧ cap ≤ maxLen ∧ Rows W A len fs.size F := by
  rcases open_slice ht hf with ⟨hcs, hx⟩ | ⟨a, len, cap, m, n, D, Pl, hcs, hb, hlc, hcm, hm, hx, hi⟩
  · simp at hcs
    subst hcs
    exact ⟨none, 0, 0, fun _ _ => 0, rfl, Nat.le_refl _, by simp, fun h => absurd h (by omega)⟩
  · simp at hcs
    subst hcs
    have hml : len ≤ m := by rw [hm]; split <;> omega
    rw [hC] at hi
    have key : ∀ i, i < len → ∃ g : Nat → Int, ∀ j, j < fs.size → W.cell? (a.add (i * fs.size + j)) = some (.int .i64 (g j)) ∧ (Lit.int .i64 (g j)).wf = true := by
      intro i hil
      obtain ⟨cs', hc, ht'⟩ := hi i (by omega)
      obtain ⟨ys, n', hn', hy, hlen, hyl, hfl⟩ := DataW.trod_struct he ht'
      obtain ⟨_, hcl, hat⟩ := World.cells?_some hc
      refine choose_lt (α := Int) (p := fun j g => W.cell? (a.add (i * fs.size + j)) = some (.int .i64 g) ∧ (Lit.int .i64 g).wf = true) (fun j hj => ?_)
      have hfj : fs[j]? = some fs[j] := by simp [hj]
      obtain ⟨ho, hk⟩ := hone_of hone j _ hfj
      have hv : cs'[j]? = some (cs'[j]'(by omega)) := List.getElem?_eq_getElem (by omega)
      have h1 := hfl j _ hfj
      rw [ho, hk] at h1
      have hdt : (cs'.drop j).take 1 = [cs'[j]'(by omega)] := by
        rw [List.drop_eq_getElem_cons (by omega)]
        rfl
      rw [hdt] at h1
      have hys : ys[j]? = some (ys[j]'(by omega)) := List.getElem?_eq_getElem (by omega)
      have h2 := h1.trans hys
      obtain ⟨x, hx1, hx2, hx3⟩ := DataW.trod_int (hint _ (by simp)) h2
      refine ⟨x, ?_, hx3⟩
      rw [← Go.Deep.add_add, hat j hj, hv]
      simp at hx1
      rw [hx1]
    obtain ⟨F, hF⟩ := choose_lt (α := Nat → Int) (p := fun i g => ∀ j, j < fs.size → W.cell? (a.add (i * fs.size + j)) = some (.int .i64 (g j)) ∧ (Lit.int .i64 (g j)).wf = true) key
    refine ⟨some a, len, cap, F, rfl, hlc, hcm, fun hpos => ?_⟩
    have h0 := (hF 0 hpos 0 hn).1
    simp only [Nat.zero_mul, Nat.add_zero, Addr.add, if_true] at h0
    obtain ⟨b, off, spot⟩ := a
    obtain rfl := spot_none h0
    refine ⟨b, off, rfl, World.block_lt_of_cell? W _ h0, fun i hil j hj => ?_⟩
    have := hF i hil j hj
    rw [add_plain] at this
    rw [Nat.add_assoc]
    exact this

/-- A struct of four ints, by value. -/
theorem open_ints4 {t : TypeId} {fs : Array Field} {v : Value} {d : DataW H} {p : List MemPlace} {base : Nat} {r : Reach} (ht : P.underlying t = some (.struct fs)) (hone : oneCellFields P fs = true) (hC : P.cellsOf t = fs.size) (h4 : fs.size = 4)
    (hint : ∀ f ∈ fs.toList, P.underlying f.type = some (.int .i64)) (hv : Value.okWide P W r base t v) (h : DataW.Trod enc P W 0 (fun _ => true) true t v d p) :
    ∃ a b c e : Int, v = .agg #[.int .i64 a, .int .i64 b, .int .i64 c, .int .i64 e] ∧ (Lit.int .i64 a).wf = true ∧ (Lit.int .i64 b).wf = true ∧ (Lit.int .i64 c).wf = true ∧ (Lit.int .i64 e).wf = true := by
  obtain ⟨cs, rfl, hsz⟩ := okWide_struct ht hv
  obtain ⟨fuel, hf⟩ := h
  obtain ⟨ys, n', hn', hy, hlen, hyl, hfl⟩ := DataW.trod_struct ht hf
  have hsz4 : cs.size = 4 := by rw [hsz, hC, h4]
  have fld : ∀ j (hj : j < 4), ∃ x : Int, cs[j]? = some (.int .i64 x) ∧ (Lit.int .i64 x).wf = true := by
    intro j hj
    have hfj : fs[j]? = some (fs[j]'(by omega)) := by simp [h4, hj]
    obtain ⟨ho, hk⟩ := hone_of hone j _ hfj
    have h1 := hfl j _ hfj
    rw [ho, hk] at h1
    have hcl : (Value.agg cs).cells = cs := rfl
    rw [hcl] at h1
    have hdt : (cs.toList.drop j).take 1 = [cs[j]'(by omega)] := by
      rw [List.drop_eq_getElem_cons (by simpa using (by omega : j < cs.size))]
      simp
    rw [hdt] at h1
    have hys : ys[j]? = some (ys[j]'(by omega)) := List.getElem?_eq_getElem (by omega)
    have h2 := h1.trans hys
    obtain ⟨x, hx1, hx2, hx3⟩ := DataW.trod_int (hint _ (by simp)) h2
    simp at hx1
    exact ⟨x, by rw [Array.getElem?_eq_getElem (by omega), hx1], hx3⟩
  obtain ⟨a, ha, wa⟩ := fld 0 (by omega)
  obtain ⟨b, hb, wb⟩ := fld 1 (by omega)
  obtain ⟨c, hc, wc⟩ := fld 2 (by omega)
  obtain ⟨e, he, we⟩ := fld 3 (by omega)
  refine ⟨a, b, c, e, ?_, wa, wb, wc, we⟩
  congr 1
  apply Array.ext_getElem?
  intro i
  have hi : i = 0 ∨ i = 1 ∨ i = 2 ∨ i = 3 ∨ 4 ≤ i := by omega
  rcases hi with rfl | rfl | rfl | rfl | hi
  · rw [ha]; rfl
  · rw [hb]; rfl
  · rw [hc]; rfl
  · rw [he]; rfl
  · rw [Array.getElem?_eq_none (by omega), Array.getElem?_eq_none (by simpa using hi)]

/-- A slice of structs of k ints and, last, a slice of structs of fs2.size ints. -/
def ActRows (W : World) (A : Option Addr) (len k : Nat) (F : Nat → Nat → Int) (As : Nat → Option Addr) (ns cs : Nat → Nat) (g : Nat) (G : Nat → Nat → Nat → Int) : Prop :=
  0 < len → ∃ b off, A = some ⟨b, off, none⟩ ∧ b < W.heap.size ∧ ∀ i, i < len → (∀ j, j < k → W.cell? ⟨b, off + i * (k + 1) + j, none⟩ = some (.int .i64 (F i j)) ∧ (Lit.int .i64 (F i j)).wf = true) ∧ W.cell? ⟨b, off + i * (k + 1) + k, none⟩ = some (.slice (As i) (ns i) (cs i)) ∧ ns i ≤ cs i ∧ cs i ≤ maxLen ∧ Rows W (As i) (ns i) g (G i)

theorem open_acts {t e t2 e2 : TypeId} {fs fs2 : Array Field} {v : Value} {d : DataW H} {p : List MemPlace} {base : Nat} {r : Reach} {k : Nat} (ht : P.underlying t = some (.slice e)) (he : P.underlying e = some (.struct fs)) (hone : oneCellFields P fs = true) (hC : P.cellsOf e = fs.size) (hk : fs.size = k + 1) (hk0 : 0 < k)
    (hint : ∀ j f, j < k → fs[j]? = some f → P.underlying f.type = some (.int .i64)) (hlast : ∀ f, fs[k]? = some f → f.type = t2) (ht2 : P.underlying t2 = some (.slice e2)) (he2 : P.underlying e2 = some (.struct fs2)) (hone2 : oneCellFields P fs2 = true) (hC2 : P.cellsOf e2 = fs2.size) (hn2 : 0 < fs2.size)
    (hint2 : ∀ f ∈ fs2.toList, P.underlying f.type = some (.int .i64)) (hv : Value.okWide P W r base t v) (h : DataW.Trod enc P W 0 (fun _ => true) true t v d p) :
    ∃ (A : Option Addr) (len cap : Nat) (F : Nat → Nat → Int) (As : Nat → Option Addr) (ns cs : Nat → Nat) (G : Nat → Nat → Nat → Int), v = .slice A len cap ∧ len ≤ maxLen ∧ ActRows W A len k F As ns cs fs2.size G := by
  obtain ⟨A, len, cap, rfl⟩ := okWide_slice ht hv
  obtain ⟨fuel, hf⟩ := h
  rcases open_slice ht hf with ⟨hcs, hx⟩ | ⟨a, len', cap', m, n, D, Pl, hcs, hb, hlc, hcm, hm, hx, hi⟩
  · simp [Value.cells] at hcs
    obtain ⟨rfl, rfl, rfl⟩ := hcs
    exact ⟨none, 0, 0, fun _ _ => 0, fun _ => none, fun _ => 0, fun _ => 0, fun _ _ _ => 0, rfl, by simp, fun h => absurd h (by omega)⟩
  · simp [Value.cells] at hcs
    obtain ⟨rfl, rfl, rfl⟩ := hcs
    have hml : len ≤ m := by rw [hm]; split <;> omega
    rw [hC] at hi
    have key : ∀ i, i < len → ∃ x : (Nat → Int) × Option Addr × Nat × Nat × (Nat → Nat → Int), (∀ j, j < k → W.cell? (a.add (i * (k + 1) + j)) = some (.int .i64 (x.1 j)) ∧ (Lit.int .i64 (x.1 j)).wf = true) ∧ W.cell? (a.add (i * (k + 1) + k)) = some (.slice x.2.1 x.2.2.1 x.2.2.2.1) ∧ x.2.2.1 ≤ x.2.2.2.1 ∧ x.2.2.2.1 ≤ maxLen ∧ Rows W x.2.1 x.2.2.1 fs2.size x.2.2.2.2 := by
      intro i hil
      obtain ⟨cs', hc, ht'⟩ := hi i (by omega)
      obtain ⟨ys, n', hn', hy, hlen, hyl, hfl⟩ := DataW.trod_struct he ht'
      obtain ⟨_, hcl, hat⟩ := World.cells?_some hc
      have fld : ∀ j (hj : j < fs.size), ∃ (u : Value) (y : DataW H × List MemPlace), W.cell? (a.add (i * fs.size + j)) = some u ∧ DataW.trod enc P W 0 (fun _ => true) true n' fs[j].type [u] = some y := by
        intro j hj
        have hfj : fs[j]? = some fs[j] := by simp [hj]
        obtain ⟨ho, hk⟩ := hone_of hone j _ hfj
        have hv : cs'[j]? = some (cs'[j]'(by omega)) := List.getElem?_eq_getElem (by omega)
        have h1 := hfl j _ hfj
        rw [ho, hk] at h1
        have hdt : (cs'.drop j).take 1 = [cs'[j]'(by omega)] := by
          rw [List.drop_eq_getElem_cons (by omega)]
          rfl
        rw [hdt] at h1
        have hys : ys[j]? = some (ys[j]'(by omega)) := List.getElem?_eq_getElem (by omega)
        refine ⟨cs'[j]'(by omega), _, ?_, h1.trans hys⟩
        rw [← Go.Deep.add_add, hat j hj, hv]
      have ints : ∃ g : Nat → Int, ∀ j, j < k → W.cell? (a.add (i * (k + 1) + j)) = some (.int .i64 (g j)) ∧ (Lit.int .i64 (g j)).wf = true := by
        refine choose_lt (α := Int) (p := fun j g => W.cell? (a.add (i * (k + 1) + j)) = some (.int .i64 g) ∧ (Lit.int .i64 g).wf = true) (fun j hj => ?_)
        obtain ⟨u, y, hu, hy⟩ := fld j (by omega)
        obtain ⟨x, hx1, hx2, hx3⟩ := DataW.trod_int (hint j fs[j] hj (by simp)) hy
        refine ⟨x, ?_, hx3⟩
        rw [← hk, hu]
        simp at hx1
        rw [hx1]
      obtain ⟨g, hg⟩ := ints
      obtain ⟨u, y, hu, hy⟩ := fld k (by omega)
      rw [hlast fs[k] (by simp)] at hy
      obtain ⟨A2, l2, c2, F2, rfl, hl2, hc2, hR⟩ := open_rows_cells ht2 he2 hone2 hC2 hn2 hint2 hy
      exact ⟨(g, A2, l2, c2, F2), hg, by rw [← hk]; exact hu, hl2, hc2, hR⟩
    obtain ⟨X, hX⟩ := choose_lt (α := (Nat → Int) × Option Addr × Nat × Nat × (Nat → Nat → Int)) (p := fun i x => (∀ j, j < k → W.cell? (a.add (i * (k + 1) + j)) = some (.int .i64 (x.1 j)) ∧ (Lit.int .i64 (x.1 j)).wf = true) ∧ W.cell? (a.add (i * (k + 1) + k)) = some (.slice x.2.1 x.2.2.1 x.2.2.2.1) ∧ x.2.2.1 ≤ x.2.2.2.1 ∧ x.2.2.2.1 ≤ maxLen ∧ Rows W x.2.1 x.2.2.1 fs2.size x.2.2.2.2) key
    refine ⟨some a, len, cap, fun i => (X i).1, fun i => (X i).2.1, fun i => (X i).2.2.1, fun i => (X i).2.2.2.1, fun i => (X i).2.2.2.2, rfl, by omega, fun hpos => ?_⟩
    have h0 := ((hX 0 hpos).1 0 hk0).1
    simp only [Nat.zero_mul, Nat.add_zero, Addr.add, if_true] at h0
    obtain ⟨b, off, spot⟩ := a
    obtain rfl := spot_none h0
    refine ⟨b, off, rfl, World.block_lt_of_cell? W _ h0, fun i hil => ?_⟩
    obtain ⟨g1, g2, g3, g4, g5⟩ := hX i hil
    refine ⟨fun j hj => ?_, ?_, g3, g4, g5⟩
    · have := g1 j hj
      rw [add_plain] at this
      rw [Nat.add_assoc]
      exact this
    · rw [add_plain] at g2
      rw [Nat.add_assoc]
      exact g2
end
end Go.Proofs.Ytelagneielahhaa
