/- Owned rows through frames; addresses' blocks. -/
import Derived.Test.YtiijgokgojjocaaSlices
namespace Go.Proofs.Ytiijgokgojjocaa
open Go.RowKit Go.ChangeMaps

def blks (A : Option Addr) : List Nat := A.toList.map (·.block)
theorem mem_blks {A : Option Addr} {i : Nat} : i ∈ blks A ↔ ∃ a, A = some a ∧ a.block = i := by
  unfold blks
  cases A with
  | none => simp
  | some a => simp [eq_comm]
theorem own_turnA {S : List Nat} {w w' : World} {base n cap size : Nat} {e : TypeId} {A : Option Addr} {xs : List Value} (h : w.ownsRow base e size (.slice A n cap) n xs) (hT : Turn S w w') (hS : ∀ i ∈ blks A, i ∉ S) : w'.ownsRow base e size (.slice A n cap) n xs := by
  obtain ⟨h1, h2⟩ := h
  refine ⟨h1, ?_⟩
  rcases h2 with h2 | ⟨g, cap, cur, hv, hb, hg, hr⟩
  · exact .inl h2
  · refine .inr ⟨g, cap, cur, hv, hb, ?_, hr⟩
    have hlt := lt_of_some hg
    cases hv
    rw [hT.block g hlt (hS g (mem_blks.2 ⟨_, rfl, rfl⟩))]
    exact hg
theorem own_ltA {w : World} {base n cap size : Nat} {e : TypeId} {A : Option Addr} {xs : List Value} (h : w.ownsRow base e size (.slice A n cap) n xs) : ∀ i ∈ blks A, i < w.heap.size ∧ base ≤ i := by
  intro i hi
  obtain ⟨a, rfl, rfl⟩ := mem_blks.1 hi
  refine ⟨?_, own_base h _ rfl⟩
  obtain ⟨-, h2⟩ := h
  rcases h2 with h2 | ⟨g, cap, cur, hv, hb, hg, hr⟩
  · simp at h2
  · cases hv
    exact lt_of_some hg
theorem own_down {w : World} {base base' n cap size : Nat} {e : TypeId} {A : Option Addr} {xs : List Value} (h : w.ownsRow base e size (.slice A n cap) n xs) (hb : base' ≤ base) : w.ownsRow base' e size (.slice A n cap) n xs := by
  obtain ⟨h1, h2⟩ := h
  refine ⟨h1, ?_⟩
  rcases h2 with h2 | ⟨g, cap, cur, hv, hb', hg, hr⟩
  · exact .inl h2
  · exact .inr ⟨g, cap, cur, hv, by omega, hg, hr⟩
theorem lies_blks {w : World} {A A' : Option Addr} (h : Lies w A A') : ∀ i ∈ blks A', i ∈ blks A ∨ i = w.heap.size := by
  intro i hi
  obtain ⟨a, rfl, rfl⟩ := mem_blks.1 hi
  rcases h a rfl with ⟨a0, rfl, h1⟩ | h1
  · exact .inl (mem_blks.2 ⟨a0, rfl, h1.symm⟩)
  · exact .inr h1
theorem grown_turn {w w' : World} {A : Option Addr} (h : w.grownBy w' (A.map (·.block))) : Turn (blks A) w w' := Turn.of_grown h (by
  intro k hk
  cases A with
  | none => cases hk
  | some a => simp at hk; simp [blks, hk])
theorem off_blks {A : Option Addr} {S : List Nat} (h : ∀ i ∈ blks A, i ∉ S) : Off A S := fun a ha => h _ (mem_blks.2 ⟨a, ha, rfl⟩)
end Go.Proofs.Ytiijgokgojjocaa
