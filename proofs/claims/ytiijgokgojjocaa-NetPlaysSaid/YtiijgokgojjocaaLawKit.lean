/- The frame of a law's proof: arguments that lead to old memory read again behind a call that turns nothing old; slices of structs of ints opened to their cells. -/
import Derived.Test.YtiijgokgojjocaaKit
import Derived.ProofKit
import Derived.OpenShut
import Derived.Deep.Slices
import Derived.Deep.Fields
import Derived.ChangeSame
namespace Go.Proofs.Ytiijgokgojjocaa
open Go.ChangeShapes Go.WideShapes Go.ChangeAt Go.RowKit Go.Deep

section
variable {H : Type} {enc : TypeId × Value → H} {P : Program} {W W' : World}

/-- All arguments read as before. -/
theorem trodAll_below (hl : laidOutB P = true) (bel : Below W.heap.size W W') : ∀ {ts : List TypeId} {vs : List Value} {ds : List (DataW H)} {ps : List MemPlace},
    (∀ t ∈ ts, P.readableRec t = true ∧ t < P.types.size) → DataW.TrodAll enc P W 0 (fun _ => true) true ts vs ds ps → (∀ x ∈ ps, x.block < W.heap.size) →
    DataW.TrodAll enc P W' 0 (fun b => decide (b < W.heap.size)) true ts vs ds ps
  | [], vs, ds, ps, _, h, _ => by
    obtain ⟨rfl, rfl, rfl⟩ := trodAll_nil h
    exact rfl
  | t :: ts, vs, ds, ps, hr, h, hlt => by
    obtain ⟨v, vs', d, ds', p, q, rfl, rfl, rfl, hd, hrest⟩ := trodAll_cons h
    refine ⟨p, q, Below.trod hl (hr t (by simp)).1 (hr t (by simp)).2 hd bel (fun x hx => hlt x (by simp [hx])), ?_, rfl⟩
    exact trodAll_below hl bel (fun t ht => hr t (by simp [ht])) hrest (fun x hx => hlt x (by simp [hx]))

theorem trodAll_lt : ∀ {ts : List TypeId} {vs : List Value} {ds : List (DataW H)} {ps : List MemPlace}, DataW.TrodAll enc P W 0 (fun _ => true) true ts vs ds ps → ∀ x ∈ ps, x.block < W.heap.size
  | [], vs, ds, ps, h => by
    obtain ⟨rfl, rfl, rfl⟩ := trodAll_nil h
    simp
  | t :: ts, vs, ds, ps, h => by
    obtain ⟨v, vs', d, ds', p, q, rfl, rfl, rfl, ⟨m, hm⟩, hrest⟩ := trodAll_cons h
    intro x hx
    rcases List.mem_append.1 hx with hx | hx
    · exact DataW.trod_lt m _ _ _ hm x hx
    · exact trodAll_lt hrest x hx

/-- A slice of structs of n ints each, as cells. -/
def Rows (w : World) (A : Option Addr) (len n : Nat) (F : Nat → Nat → Int) : Prop :=
  0 < len → ∃ b off, A = some ⟨b, off, none⟩ ∧ b < w.heap.size ∧ ∀ i, i < len → ∀ j, j < n → w.cell? ⟨b, off + i * n + j, none⟩ = some (.int .i64 (F i j)) ∧ (Lit.int .i64 (F i j)).wf = true

/-- A slice of structs, all of whose fields are ints of one cell. -/
theorem open_rows {t e : TypeId} {fs : Array Field} {v : Value} {d : DataW H} {p : List MemPlace} {base : Nat} {r : Reach} (ht : P.underlying t = some (.slice e)) (he : P.underlying e = some (.struct fs))
    (hone : oneCellFields P fs = true) (hC : P.cellsOf e = fs.size) (hn : 0 < fs.size) (hint : ∀ f ∈ fs.toList, P.underlying f.type = some (.int .i64)) (hv : Value.okWide P W r base t v)
    (h : DataW.Trod enc P W 0 (fun _ => true) true t v d p) : ∃ (A : Option Addr) (len cap : Nat) (F : Nat → Nat → Int), v = .slice A len cap ∧ len ≤ maxLen ∧ Rows W A len fs.size F := by
  obtain ⟨A, len, cap, rfl⟩ := okWide_slice ht hv
  obtain ⟨fuel, hf⟩ := h
  rcases open_slice ht hf with ⟨hcs, hx⟩ | ⟨a, len', cap', m, n, D, Pl, hcs, hb, hlc, hcm, hm, hx, hi⟩
  · simp [Value.cells] at hcs
    obtain ⟨rfl, rfl, rfl⟩ := hcs
    exact ⟨none, 0, 0, fun _ _ => 0, rfl, by simp, fun h => absurd h (by omega)⟩
  · simp [Value.cells] at hcs
    obtain ⟨rfl, rfl, rfl⟩ := hcs
    have hml : len ≤ m := by rw [hm]; split <;> omega
    rw [hC] at hi
    have key : ∀ i, i < len → ∃ g : Nat → Int, ∀ j, j < fs.size → W.cell? (a.add (i * fs.size + j)) = some (.int .i64 (g j)) ∧ (Lit.int .i64 (g j)).wf = true := by
      intro i hil
      obtain ⟨cs', hc, ht'⟩ := hi i (by omega)
      obtain ⟨ys, n', hn', hy, hlen, hyl, hfl⟩ := DataW.trod_struct he ht'
      obtain ⟨_, hcl, hat⟩ := World.cells?_some hc
      refine choose_lt (α := Int) (p := fun j g => W.cell? (a.add (i * fs.size + j)) = some (.int .i64 g) ∧ (Lit.int .i64 g).wf = true) (fun j hj => ?_)
      have hfj : fs[j]? = some fs[j] := by simp [hj]
      obtain ⟨ho, hk⟩ := hone_of hone j _ hfj
      have hv : cs'[j]? = some (cs'[j]'(by omega)) := List.getElem?_eq_getElem (by omega)
      have h1 := hfl j _ hfj
      rw [ho, hk] at h1
      have hdt : (cs'.drop j).take 1 = [cs'[j]'(by omega)] := by
        rw [List.drop_eq_getElem_cons (by omega)]
        rfl
      rw [hdt] at h1
      have hys : ys[j]? = some (ys[j]'(by omega)) := List.getElem?_eq_getElem (by omega)
      have h2 := h1.trans hys
      obtain ⟨x, hx1, hx2, hx3⟩ := DataW.trod_int (hint _ (by simp)) h2
      refine ⟨x, ?_, hx3⟩
      rw [← Go.Deep.add_add, hat j hj, hv]
      simp at hx1
      rw [hx1]
    obtain ⟨F, hF⟩ := choose_lt (α := Nat → Int) (p := fun i g => ∀ j, j < fs.size → W.cell? (a.add (i * fs.size + j)) = some (.int .i64 (g j)) ∧ (Lit.int .i64 (g j)).wf = true) key
    refine ⟨some a, len, cap, F, rfl, by omega, fun hpos => ?_⟩
    have h0 := (hF 0 hpos 0 hn).1
    simp only [Nat.zero_mul, Nat.add_zero, Addr.add, if_true] at h0
    obtain ⟨b, off, spot⟩ := a
    have hs : spot = none := by
      cases spot with
      | none => rfl
      | some s =>
        unfold World.cell? at h0
        simp at h0
        split at h0 <;> simp at h0
    subst hs
    refine ⟨b, off, rfl, World.block_lt_of_cell? W _ h0, fun i hil j hj => ?_⟩
    have := hF i hil j hj
    rw [add_plain] at this
    rw [Nat.add_assoc]
    exact this
end
end Go.Proofs.Ytiijgokgojjocaa
