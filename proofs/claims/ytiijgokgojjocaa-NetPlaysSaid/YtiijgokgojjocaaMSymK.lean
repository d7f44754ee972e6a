/- Words for symMerge. -/
import Derived.Test.YtiijgokgojjocaaMIns
namespace Go.Proofs.Ytiijgokgojjocaa
open Go.RowKit Go.ChangeMaps Srt

/-- The middle of two places, as it is reckoned. -/
theorem mid_u (i j : Nat) (h : i + j ≤ 4000000) : IntKind.u64.wrap ((i : Int) + (j : Int)) = (i : Int) + (j : Int) := by rw [IntKind.wrap_u64]; omega
theorem mid_h (i j : Nat) : ∃ h : Nat, ((i : Int) + (j : Int)) / 2 = (h : Int) ∧ h = (i + j) / 2 := ⟨(i + j) / 2, by omega, rfl⟩
theorem asc_get {l : List Ml} (h : Asc Ml.due l) {s t : Nat} (hst : s ≤ t) (ht : t < l.length) : (l[s]'(by omega)).due ≤ l[t].due := by
  rcases Nat.lt_or_ge s t with h1 | h1
  · exact List.pairwise_iff_getElem.1 h s t (by omega) ht h1
  · obtain rfl : s = t := by omega
    exact Int.le_refl _
/-- Two mails of a row. -/
theorem RowM.two {w : World} {g base n cap : Nat} {X : List Ml} (h : RowM w g base n cap X) {p q : Nat} {u v : Ml} (hp : X[p]? = some u) (hq : X[q]? = some v) : ∀ wy, Turn [] w wy → (wy.cell? ⟨g, p * 4, none⟩ = some (.int .i64 u.due) ∧ wy.cell? ⟨g, p * 4 + 1, none⟩ = some (.int .i64 u.fr) ∧ wy.cell? ⟨g, p * 4 + 2, none⟩ = some (.int .i64 u.dst) ∧ wy.cell? ⟨g, p * 4 + 3, none⟩ = some (.slice u.A u.n u.c) ∧
    wy.cell? ⟨g, q * 4, none⟩ = some (.int .i64 v.due) ∧ wy.cell? ⟨g, q * 4 + 1, none⟩ = some (.int .i64 v.fr) ∧ wy.cell? ⟨g, q * 4 + 2, none⟩ = some (.int .i64 v.dst) ∧ wy.cell? ⟨g, q * 4 + 3, none⟩ = some (.slice v.A v.n v.c) ∧ Turn [] w wy) := fun wy hy => by
  have gl := h.lt.1
  have k1 := (List.getElem?_eq_some_iff.1 hp).1
  have k2 := (List.getElem?_eq_some_iff.1 hq).1
  obtain ⟨p1, p2, p3, p4⟩ := h.cells k1
  obtain ⟨q1, q2, q3, q4⟩ := h.cells k2
  rw [(List.getElem?_eq_some_iff.1 hp).2] at p1 p2 p3 p4
  rw [(List.getElem?_eq_some_iff.1 hq).2] at q1 q2 q3 q4
  exact ⟨(hy.cell gl (by simp)).trans p1, (hy.cell gl (by simp)).trans p2, (hy.cell gl (by simp)).trans p3, (hy.cell gl (by simp)).trans p4, (hy.cell gl (by simp)).trans q1, (hy.cell gl (by simp)).trans q2, (hy.cell gl (by simp)).trans q3, (hy.cell gl (by simp)).trans q4, hy⟩
/-- All that an exchange of two mails wants and leaves: first u to p, then v to q. -/
theorem RowM.swap {w : World} {g base n cap : Nat} {X : List Ml} (h : RowM w g base n cap X) {p q : Nat} (hp : p < n) (hq : q < n) (u v : Ml) :
    ∃ u1 u2 u3 u4 z1 z2 z3 z4, Cells4 w g (p * 4) (.int .i64 u.due) (.int .i64 u.fr) (.int .i64 u.dst) u1 u2 u3 u4 ∧ Cells4 (Go.Proofs.Ytiijgokgojjocaa.st4 w g (p * 4) u) g (q * 4) (.int .i64 v.due) (.int .i64 v.fr) (.int .i64 v.dst) z1 z2 z3 z4 ∧
      RowM (Go.Proofs.Ytiijgokgojjocaa.st4 (Go.Proofs.Ytiijgokgojjocaa.st4 w g (p * 4) u) g (q * 4) v) g base n cap ((X.set p u).set q v) ∧ Turn [g] w (Go.Proofs.Ytiijgokgojjocaa.st4 (Go.Proofs.Ytiijgokgojjocaa.st4 w g (p * 4) u) g (q * 4) v) := by
  obtain ⟨u1, u2, u3, u4, h1⟩ := h.ready hp u
  have R2 := h.st4 hp u
  obtain ⟨z1, z2, z3, z4, h2⟩ := R2.ready hq v
  exact ⟨u1, u2, u3, u4, z1, z2, z3, z4, h1, h2, R2.st4 hq v, (turn_st4 w g (p * 4) u).trans (turn_st4 _ g (q * 4) v)⟩
end Go.Proofs.Ytiijgokgojjocaa
