/- slices.Sort at a slice of ints of the call's own. -/
import Derived.Test.YtelagneielahhaaI64
import Derived.Test.YtelagneielahhaaShelf
namespace Go.Proofs.Ytelagneielahhaa
open Go.RowKit Go.ChangeMaps Go.Sort

theorem holdsI {w : World} {g : Nat} {cur : Array Value} {e : TypeId} {ss : List Int} (hb : w.heap[g]? = some (.cells cur e (0, 0))) (ht : cur.toList.take ss.length = i64s ss) : Holds (Value.int .i64) w g 0 ss.toArray := by
  intro j hj
  have hj' : j < ss.length := by simpa using hj
  refine ⟨?_, by simp [World.frozen?, hb]⟩
  have h1 : (cur.toList.take ss.length)[j]? = (i64s ss)[j]? := by rw [ht]
  rw [List.getElem?_take_of_lt hj'] at h1
  simp [World.cell?, hb, i64s, hj'] at h1 ⊢
  exact h1
theorem heap_sortedI {w : World} {g n : Nat} {os : Array Obj} {cur : Array Value} {e : TypeId} {fr : Nat × Nat} (d : Array Int) (hb : w.heap[g]? = some (.cells cur e fr)) :
    (grow (putRow (Value.int .i64) (Sort.ahead w n) g 0 d) os).heap[g]? = some (.cells (putCells (Value.int .i64) 0 d cur) e fr) := by
  have hg : g < w.heap.size := (Array.getElem?_eq_some_iff.1 hb).1
  rw [heap_grow_old _ _ (by simpa using hg)]
  simp [putRow, mapBlock, Sort.ahead, Array.getElem?_modify, hb, onCells]
theorem grownBy_sortedI {w : World} {g n : Nat} {os : Array Obj} (d : Array Int) : w.grownBy (grow (putRow (Value.int .i64) (Sort.ahead w n) g 0 d) os) (some g) := by
  refine ⟨rfl, rfl, rfl, by simp, fun k hk hne => ?_⟩
  rw [heap_grow_old _ _ (by simpa using hk)]
  have : g ≠ k := fun e => hne (by rw [e])
  simp [putRow, mapBlock, Sort.ahead, Array.getElem?_modify, this]
theorem take_putCellsI (cur : Array Value) (ts : List Int) (h : ts.length ≤ cur.size) : (putCells (Value.int .i64) 0 ts.toArray cur).toList.take ts.length = i64s ts := by
  apply List.ext_getElem?
  intro j
  by_cases hj : j < ts.length
  · rw [List.getElem?_take_of_lt hj, Array.getElem?_toList]
    simp [putCells, hj, show j < cur.size by omega, i64s]
  · rw [List.getElem?_eq_none (by simp; omega), List.getElem?_eq_none (by simp [i64s]; omega)]

def sortI (zs : List Int) : List Int := zs.mergeSort fun x y => decide (x ≤ y)
theorem sort_c (base : Nat) (A : Option Addr) (n cap : Nat) (zs : List Int) (w : World) (h : w.ownsRow base 3 1 (.slice A n cap) n (i64s zs)) (hl : n < 4611686018427387904) :
    Calls Try.prog 54 #[.slice A n cap] w fun e w' => e = .returned (.tuple #[]) ∧ w'.ownsRow base 3 1 (.slice A n cap) n (i64s (sortI zs)) ∧ Turn (blks A) w w' := by
  have hzl : zs.length = n := by have := h.1; rw [i64s_len] at this; omega
  rcases h.2 with ⟨hv, hn⟩ | ⟨g, cap', cur, hv, hb, hg, hnc, hcm, hsz, ht⟩
  · cases hv
    have hz : zs = [] := List.eq_nil_of_length_eq_zero hzl
    subst hz
    refine (Try.slices_Sort_int_none none 0 w).mono ?_
    rintro e w' ⟨rfl, rfl⟩
    exact ⟨rfl, by simpa [sortI] using h, Turn.refl _ _⟩
  · cases hv
    subst hzl
    rw [Nat.mul_one] at ht hsz
    refine (Try.slices_Sort_int g 0 cap zs w (holdsI hg ht) (lt_of_some hg) hl).mono ?_
    rintro e w' ⟨rfl, k, os, rfl⟩
    have hsl : (sortI zs).length = zs.length := by simp [sortI]
    refine ⟨rfl, ⟨by simp [i64s_len, hsl], .inr ⟨g, cap, _, rfl, hb, heap_sortedI _ hg, hnc, hcm, by simp [putCells, hsz], ?_⟩⟩, ?_⟩
    · rw [Nat.mul_one, ← hsl]
      exact take_putCellsI cur (sortI zs) (by omega)
    · exact grown_turn (A := some ⟨g, 0, none⟩) (grownBy_sortedI _)
/-- A list of the same numbers that rises already. -/
theorem sortI_eq {xs ys : List Int} (hp : xs.Perm ys) (hs : ys.Pairwise (· ≤ ·)) : sortI xs = ys := by
  unfold sortI
  have h1 : (xs.mergeSort fun x y => decide (x ≤ y)).Pairwise (fun x y => decide (x ≤ y) = true) := List.pairwise_mergeSort (by intro a b c; simp; omega) (by intro a b; simp; omega) xs
  refine List.Perm.eq_of_pairwise (le := fun x y : Int => x ≤ y) (by intros; omega) (by simpa using h1) hs ((List.mergeSort_perm xs _).trans hp)
end Go.Proofs.Ytelagneielahhaa
