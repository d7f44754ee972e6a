/- Arguments that are slices of structs of four ints, a slice of slices of ints and a struct of four ints. -/
import Derived.Test.YtiijgokgojjocaaLawKit
import Derived.Test.YtiijgokgojjocaaSlices
namespace Go.Proofs.Ytiijgokgojjocaa
open Go.ChangeShapes Go.WideShapes Go.ChangeAt Go.RowKit Go.Deep

section
variable {H : Type} {enc : TypeId × Value → H} {P : Program} {W : World}
theorem spot_noneA {b off : Nat} {spot : Option _} {v : Value} (h0 : W.cell? ⟨b, off, spot⟩ = some v) : spot = none := by
  cases spot with
  | none => rfl
  | some s =>
    unfold World.cell? at h0
    simp at h0
    split at h0 <;> simp at h0
theorem intsA_of_struct {t : TypeId} {fs : Array Field} {fuel : Nat} {cs : List Value} {x : DataW H × List MemPlace} (ht : P.underlying t = some (.struct fs)) (hone : oneCellFields P fs = true) (hC : P.cellsOf t = fs.size) (hint : ∀ f ∈ fs.toList, P.underlying f.type = some (.int .i64))
    (h : DataW.trod enc P W 0 (fun _ => true) true fuel t cs = some x) : cs.length = fs.size ∧ ∀ j, j < fs.size → ∃ z : Int, cs[j]? = some (.int .i64 z) ∧ (Lit.int .i64 z).wf = true := by
  obtain ⟨ys, n', hn', hy, hlen, hyl, hfl⟩ := DataW.trod_struct ht h
  have hl : cs.length = fs.size := by rw [hlen, hC]
  refine ⟨hl, fun j hj => ?_⟩
  have hfj : fs[j]? = some (fs[j]'(by omega)) := by simp [hj]
  obtain ⟨ho, hk⟩ := hone_of hone j _ hfj
  have h1 := hfl j _ hfj
  rw [ho, hk] at h1
  have hdt : (cs.drop j).take 1 = [cs[j]'(by omega)] := by
    rw [List.drop_eq_getElem_cons (by omega)]
    rfl
  rw [hdt] at h1
  have hys : ys[j]? = some (ys[j]'(by omega)) := List.getElem?_eq_getElem (by omega)
  have h2 := h1.trans hys
  obtain ⟨z, hx1, hx2, hx3⟩ := DataW.trod_int (hint _ (by simp)) h2
  simp at hx1
  exact ⟨z, by rw [List.getElem?_eq_getElem (by omega), hx1], hx3⟩
/-- A slice of slices of ints, in a cell. -/
theorem open_rows2_cells {t e u : TypeId} {q : IntKind} {v : Value} {x : DataW H × List MemPlace} {fuel : Nat} (ht : P.underlying t = some (.slice e)) (he : P.underlying e = some (.slice u)) (hu : P.underlying u = some (.int q))
    (hce : P.cellsOf e = 1) (hcu : P.cellsOf u = 1) (hf : DataW.trod enc P W 0 (fun _ => true) true fuel t [v] = some x) :
    ∃ (A : Option Addr) (len cap : Nat) (As : Nat → Option Addr) (ns cs : Nat → Nat) (Z : Nat → List Int), v = .slice A len cap ∧ len ≤ maxLen ∧ Rows2 W q A len As ns cs Z := by
  rcases open_slice1 ht hce hf with ⟨hcs, hx⟩ | ⟨a, len, cap, m, n, V, D, Pl, hcs, hb, hl, hm, hmm, hx, hi⟩
  · simp at hcs
    subst hcs
    exact ⟨none, 0, 0, fun _ => none, fun _ => 0, fun _ => 0, fun _ => [], rfl, by simp, fun h => absurd h (by omega)⟩
  · simp at hcs
    subst hcs
    have hml : len ≤ m := by rw [hmm]; split <;> omega
    have key : ∀ i, i < len → ∃ x : Option Addr × Nat × Nat × List Int, W.cell? (a.add i) = some (.slice x.1 x.2.1 x.2.2.1) ∧ Sl W x.1 (x.2.2.2.map (.int q)) ∧ x.2.2.2.length = x.2.1 ∧ x.2.1 ≤ x.2.2.1 ∧ x.2.2.1 ≤ maxLen ∧ ∀ z ∈ x.2.2.2, (Lit.int q z).wf = true := fun i hil => by
      obtain ⟨h1, h2⟩ := hi i (by omega)
      obtain ⟨A', l', c', zs, hv', g1, g2, g3, g4, g5⟩ := open_ints_cells he hu hcu h2
      exact ⟨(A', l', c', zs), by rw [h1, hv'], g4, g3, g1, g2, g5⟩
    obtain ⟨X, hX⟩ := choose_lt (α := Option Addr × Nat × Nat × List Int) (p := fun i x => W.cell? (a.add i) = some (.slice x.1 x.2.1 x.2.2.1) ∧ Sl W x.1 (x.2.2.2.map (.int q)) ∧ x.2.2.2.length = x.2.1 ∧ x.2.1 ≤ x.2.2.1 ∧ x.2.2.1 ≤ maxLen ∧ ∀ z ∈ x.2.2.2, (Lit.int q z).wf = true) key
    refine ⟨some a, len, cap, fun i => (X i).1, fun i => (X i).2.1, fun i => (X i).2.2.1, fun i => (X i).2.2.2, rfl, by omega, fun hpos => ?_⟩
    have h0 := (hX 0 hpos).1
    simp only [Addr.add, if_true] at h0
    obtain ⟨b, off, spot⟩ := a
    obtain rfl := spot_noneA h0
    refine ⟨b, off, rfl, World.block_lt_of_cell? W _ h0, fun i hil => ?_⟩
    have := hX i hil
    rw [add_plain] at this
    exact this
/-- Four ints, rows of bytes, four ints. -/
structure Act9 where
  F : Nat → Int
  A : Option Addr
  n : Nat
  c : Nat
  As : Nat → Option Addr
  ns : Nat → Nat
  cs : Nat → Nat
  Z : Nat → List Int
instance : Inhabited Act9 := ⟨⟨fun _ => 0, none, 0, 0, fun _ => none, fun _ => 0, fun _ => 0, fun _ => []⟩⟩
def Act9At (W : World) (a : Nat → Option Value) (x : Act9) : Prop :=
  (∀ j, j < 4 → a j = some (.int .i64 (x.F j)) ∧ (Lit.int .i64 (x.F j)).wf = true) ∧ a 4 = some (.slice x.A x.n x.c) ∧ (∀ j, j < 4 → a (5 + j) = some (.int .i64 (x.F (5 + j))) ∧ (Lit.int .i64 (x.F (5 + j))).wf = true) ∧ x.n ≤ maxLen ∧ Rows2 W .u8 x.A x.n x.As x.ns x.cs x.Z
def Acts9 (W : World) (A : Option Addr) (len : Nat) (X : Nat → Act9) : Prop :=
  0 < len → ∃ b off, A = some ⟨b, off, none⟩ ∧ b < W.heap.size ∧ ∀ i, i < len → Act9At W (fun j => W.cell? ⟨b, off + i * 9 + j, none⟩) (X i)
theorem open_acts9 {t e t2 u2 v2 t3 : TypeId} {fs fs3 : Array Field} {v : Value} {d : DataW H} {p : List MemPlace} {base : Nat} {r : Reach} (ht : P.underlying t = some (.slice e)) (he : P.underlying e = some (.struct fs)) (h6 : fs.size = 6) (hC : P.cellsOf e = 9)
    (hi1 : ∀ j f, j < 4 → fs[j]? = some f → f.offset = j ∧ P.cellsOf f.type = 1 ∧ P.underlying f.type = some (.int .i64)) (h4 : ∀ f, fs[4]? = some f → f.offset = 4 ∧ f.type = t2) (h5 : ∀ f, fs[5]? = some f → f.offset = 5 ∧ f.type = t3)
    (ht2 : P.underlying t2 = some (.slice u2)) (hu2 : P.underlying u2 = some (.slice v2)) (hv2 : P.underlying v2 = some (.int .u8)) (hc2 : P.cellsOf t2 = 1) (hcu : P.cellsOf u2 = 1) (hcv : P.cellsOf v2 = 1)
    (ht3 : P.underlying t3 = some (.struct fs3)) (hone3 : oneCellFields P fs3 = true) (hC3 : P.cellsOf t3 = fs3.size) (h34 : fs3.size = 4) (hint3 : ∀ f ∈ fs3.toList, P.underlying f.type = some (.int .i64))
    (hv : Value.okWide P W r base t v) (h : DataW.Trod enc P W 0 (fun _ => true) true t v d p) :
    ∃ (A : Option Addr) (len cap : Nat) (X : Nat → Act9), v = .slice A len cap ∧ len ≤ maxLen ∧ Acts9 W A len X := by
  obtain ⟨A, len, cap, rfl⟩ := okWide_slice ht hv
  obtain ⟨fuel, hf⟩ := h
  rcases open_slice ht hf with ⟨hcs, hx⟩ | ⟨a, len', cap', m, n, D, Pl, hcs, hb, hlc, hcm, hm, hx, hi⟩
  · simp [Value.cells] at hcs
    obtain ⟨rfl, rfl, rfl⟩ := hcs
    exact ⟨none, 0, 0, fun _ => ⟨fun _ => 0, none, 0, 0, fun _ => none, fun _ => 0, fun _ => 0, fun _ => []⟩, rfl, by simp, fun h => absurd h (by omega)⟩
  · simp [Value.cells] at hcs
    obtain ⟨rfl, rfl, rfl⟩ := hcs
    have hml : len ≤ m := by rw [hm]; split <;> omega
    rw [hC] at hi
    have key : ∀ i, i < len → ∃ x : Act9, Act9At W (fun j => W.cell? (a.add (i * 9 + j))) x := by
      intro i hil
      obtain ⟨cs', hc, ht'⟩ := hi i (by omega)
      obtain ⟨ys, n', hn', hy, hlen, hyl, hfl⟩ := DataW.trod_struct he ht'
      obtain ⟨_, hcl, hat⟩ := World.cells?_some hc
      have hcl' : cs'.length = 9 := by rw [hlen, hC]
      have hto : ∀ j (hj : j < 9), W.cell? (a.add (i * 9 + j)) = cs'[j]? := fun j hj => by rw [← Go.Deep.add_add, hat j (by omega)]
      have first : ∀ j, j < 4 → ∃ z : Int, cs'[j]? = some (.int .i64 z) ∧ (Lit.int .i64 z).wf = true := fun j hj => by
        have hfj : fs[j]? = some (fs[j]'(by omega)) := by simp
        obtain ⟨ho, hc1, hu⟩ := hi1 j _ hj hfj
        have h1 := hfl j _ hfj
        rw [ho, hc1] at h1
        have hdt : (cs'.drop j).take 1 = [cs'[j]'(by omega)] := by
          rw [List.drop_eq_getElem_cons (by omega)]
          rfl
        rw [hdt] at h1
        have hys : ys[j]? = some (ys[j]'(by omega)) := List.getElem?_eq_getElem (by omega)
        obtain ⟨z, hx1, hx2, hx3⟩ := DataW.trod_int hu (h1.trans hys)
        simp at hx1
        exact ⟨z, by rw [List.getElem?_eq_getElem (by omega), hx1], hx3⟩
      have last : ∀ j, j < 4 → ∃ z : Int, cs'[5 + j]? = some (.int .i64 z) ∧ (Lit.int .i64 z).wf = true := fun j hj => by
        have hfk : fs[5]? = some (fs[5]'(by omega)) := by simp
        obtain ⟨ho, htt⟩ := h5 _ hfk
        have h1 := hfl 5 _ hfk
        rw [ho, htt, hC3] at h1
        have hys : ys[5]? = some (ys[5]'(by omega)) := List.getElem?_eq_getElem (by omega)
        obtain ⟨hl2, hz⟩ := intsA_of_struct ht3 hone3 hC3 hint3 (h1.trans hys)
        obtain ⟨z, hz1, hz2⟩ := hz j (by omega)
        refine ⟨z, ?_, hz2⟩
        rw [List.getElem?_take_of_lt (by omega), List.getElem?_drop] at hz1
        exact hz1
      have hfk : fs[4]? = some (fs[4]'(by omega)) := by simp
      obtain ⟨ho, htt⟩ := h4 _ hfk
      have h1 := hfl 4 _ hfk
      rw [ho, htt, hc2] at h1
      have hdt : (cs'.drop 4).take 1 = [cs'[4]'(by omega)] := by
        rw [List.drop_eq_getElem_cons (by omega)]
        rfl
      rw [hdt] at h1
      have hys : ys[4]? = some (ys[4]'(by omega)) := List.getElem?_eq_getElem (by omega)
      obtain ⟨A2, l2, c2, As, ns, cs2, Z, hv4, hl2, hR⟩ := open_rows2_cells ht2 hu2 hv2 hcu hcv (h1.trans hys)
      obtain ⟨g, hg⟩ := choose_lt (α := Int) (n := 4) (p := fun j z => cs'[j]? = some (.int .i64 z) ∧ (Lit.int .i64 z).wf = true) first
      obtain ⟨g', hg'⟩ := choose_lt (α := Int) (n := 4) (p := fun j z => cs'[5 + j]? = some (.int .i64 z) ∧ (Lit.int .i64 z).wf = true) last
      refine ⟨⟨fun j => if j < 4 then g j else g' (j - 5), A2, l2, c2, As, ns, cs2, Z⟩, fun j hj => ?_, ?_, fun j hj => ?_, hl2, hR⟩
      · simp only [hj, if_true]
        rw [hto j (by omega)]
        exact hg j hj
      · show W.cell? (a.add (i * 9 + 4)) = _
        rw [hto 4 (by omega), List.getElem?_eq_getElem (by omega), hv4]
      · have e1 : ¬ 5 + j < 4 := by omega
        have e2 : 5 + j - 5 = j := by omega
        simp only [e1, if_false, e2]
        rw [hto (5 + j) (by omega)]
        exact hg' j hj
    obtain ⟨X, hX⟩ := choose_lt (α := Act9) (p := fun i x => Act9At W (fun j => W.cell? (a.add (i * 9 + j))) x) key
    refine ⟨some a, len, cap, X, rfl, by omega, fun hpos => ?_⟩
    have h0 := ((hX 0 hpos).1 0 (by omega)).1
    simp only [Nat.zero_mul, Nat.add_zero, Addr.add, if_true] at h0
    obtain ⟨b, off, spot⟩ := a
    obtain rfl := spot_noneA h0
    refine ⟨b, off, rfl, World.block_lt_of_cell? W _ h0, fun i hil => ?_⟩
    have := hX i hil
    simp only [add_plain, ← Nat.add_assoc] at this
    exact this
end
end Go.Proofs.Ytiijgokgojjocaa
