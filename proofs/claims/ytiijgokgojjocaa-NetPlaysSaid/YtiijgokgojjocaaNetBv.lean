/- Rows of []byte that came in, cut at a length. -/
import Derived.Test.YtiijgokgojjocaaNetKnown
import Derived.Deep.DeepCutAuto
import Derived.Deep.CutBlock
namespace Go.Proofs.Ytiijgokgojjocaa
open Go.RowKit Go.ChangeMaps

/-- A []byte as it lies. -/
structure Bs where
  A : Option Addr
  n : Nat
  c : Nat
  xs : List Int
def Bs.val (b : Bs) : Value := .slice b.A b.n b.c
def bsVals (l : List Bs) : List Value := l.map Bs.val
/-- Its first k bytes. -/
def Bs.cut (k : Nat) (b : Bs) : Bs := ⟨b.A, min b.n k, b.c, b.xs.take k⟩
structure Bs.Is (w : World) (b : Bs) : Prop where
  sl : Sl w b.A (u8s b.xs)
  len : b.xs.length = b.n
theorem Bs.Is.cut {w : World} {b : Bs} (h : b.Is w) (k : Nat) : (b.cut k).Is w := by
  refine ⟨?_, by simp [Bs.cut, h.len]; omega⟩
  have := h.sl.take k
  simpa [Bs.cut, u8s, List.map_take] using this
theorem Bs.Is.turn0 {w w' : World} {b : Bs} (h : b.Is w) (hT : Turn [] w w') : b.Is w' := ⟨h.sl.turn0 hT, h.len⟩
theorem Bs.Is.lt {w : World} {b : Bs} (h : b.Is w) (hne : b.xs ≠ []) : ∀ i ∈ blks b.A, i < w.heap.size := by
  intro i hi
  obtain ⟨bl, off, hA, hlt, -⟩ := h.sl (by rw [u8s_len]; exact List.length_pos_iff.2 hne)
  rw [hA] at hi
  simp [blks] at hi
  omega
/-- The rows that came in. -/
def Letters (w : World) (A : Option Addr) (len : Nat) (L : Nat → Bs) : Prop :=
  0 < len → ∃ b off, A = some ⟨b, off, none⟩ ∧ b < w.heap.size ∧ ∀ i, i < len → w.cell? ⟨b, off + i, none⟩ = some (.slice (L i).A (L i).n (L i).c) ∧ (L i).Is w ∧ (L i).n ≤ (L i).c ∧ (L i).c ≤ maxLen
theorem Letters.of_rows {w : World} {A : Option Addr} {len : Nat} {As : Nat → Option Addr} {ns cs : Nat → Nat} {Z : Nat → List Int} (h : Rows2 w .u8 A len As ns cs Z) : Letters w A len (fun i => ⟨As i, ns i, cs i, Z i⟩) := fun hpos => by
  obtain ⟨b, off, hA, hb, hc⟩ := h hpos
  exact ⟨b, off, hA, hb, fun i hi => by obtain ⟨h1, h2, h3, h4, h5, _⟩ := hc i hi; exact ⟨h1, ⟨h2, h3⟩, h4, h5⟩⟩
theorem Letters.is {w : World} {A : Option Addr} {len : Nat} {L : Nat → Bs} (h : Letters w A len L) {i : Nat} (hi : i < len) : (L i).Is w := by
  obtain ⟨b, off, -, -, hc⟩ := h (by omega)
  exact (hc i hi).2.1
/-- The first m of them, each cut at k. -/
def cuts (k : Nat) (L : Nat → Bs) (m : Nat) : List Bs := (List.range m).map fun i => (L i).cut k
theorem cuts_succ (k : Nat) (L : Nat → Bs) (m : Nat) : cuts k L (m + 1) = cuts k L m ++ [(L m).cut k] := by simp [cuts, List.range_succ]
theorem cuts_len (k : Nat) (L : Nat → Bs) (m : Nat) : (cuts k L m).length = m := by simp [cuts]
theorem cuts_get (k : Nat) (L : Nat → Bs) (m : Nat) {i : Nat} (hi : i < (cuts k L m).length) : (cuts k L m)[i] = (L i).cut k := by simp [cuts]
theorem infoBs : (Try.prog.info? 26).map (fun i => (i.zero, i.size, i.bytes)) = some (some (.slice none 0 0), 1, 24) := by kernel_rfl
theorem elemBs : ElemT Try.prog 23 26 (.slice none 0 0) 1 24 := ⟨Try.underlying23, info_parts infoBs, rfl, by decide⟩
/-- 'int(uint64(x) % m)'. -/
theorem umod_range (x m : Int) (h0 : 0 < m) (h1 : m ≤ 9223372036854775807) : 0 ≤ wrap64 ((IntKind.u64.wrap x).tmod m) ∧ wrap64 ((IntKind.u64.wrap x).tmod m) < m := by
  have h2 : 0 ≤ IntKind.u64.wrap x := by rw [IntKind.wrap_u64]; omega
  have h3 : (IntKind.u64.wrap x).tmod m = IntKind.u64.wrap x % m := Int.tmod_eq_emod_of_nonneg h2
  have h4 := Int.emod_nonneg (IntKind.u64.wrap x) (show m ≠ 0 by omega)
  have h5 := Int.emod_lt_of_pos (IntKind.u64.wrap x) h0
  rw [h3, IntWalk.wrap64_in _ (by omega)]
  omega
end Go.Proofs.Ytiijgokgojjocaa
