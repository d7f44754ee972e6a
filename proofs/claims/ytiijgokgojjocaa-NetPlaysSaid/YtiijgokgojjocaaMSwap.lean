/- Two mails of a row are exchanged; swapRange, rotate. -/
import Derived.Test.YtiijgokgojjocaaMDel
import Derived.Test.YtiijgokgojjocaaSrt
import Derived.Deep.RegionLaw
namespace Go.Proofs.Ytiijgokgojjocaa
open Go.RowKit Go.ChangeMaps

/-- The mails of a row of the call's own. -/
def RowM (w : World) (g : Nat) (base n cap : Nat) (X : List Ml) : Prop := w.ownsRow base 34 4 (.slice (some ⟨g, 0, none⟩) n cap) n (mcs X)
theorem RowM.len {w : World} {g base n cap : Nat} {X : List Ml} (h : RowM w g base n cap X) : X.length = n := by have := h.1; rw [mcs_len] at this; omega
theorem RowM.cells {w : World} {g base n cap : Nat} {X : List Ml} (h : RowM w g base n cap X) {k : Nat} (hk : k < X.length) :
    w.cell? ⟨g, k * 4, none⟩ = some (.int .i64 X[k].due) ∧ w.cell? ⟨g, k * 4 + 1, none⟩ = some (.int .i64 X[k].fr) ∧ w.cell? ⟨g, k * 4 + 2, none⟩ = some (.int .i64 X[k].dst) ∧ w.cell? ⟨g, k * 4 + 3, none⟩ = some (.slice X[k].A X[k].n X[k].c) := by
  obtain ⟨b, off, hA, -, h0, h1, h2, h3⟩ := mcs_at (Sl.of_own h) hk
  cases hA
  simp only [Nat.zero_add] at h0 h1 h2 h3
  exact ⟨h0, h1, h2, h3⟩
theorem RowM.lt {w : World} {g base n cap : Nat} {X : List Ml} (h : RowM w g base n cap X) : g < w.heap.size ∧ base ≤ g := own_ltA h g (by simp [blks])
theorem RowM.turn {w w' : World} {g base n cap : Nat} {X : List Ml} (h : RowM w g base n cap X) {S : List Nat} (hT : Turn S w w') (hS : g ∉ S) : RowM w' g base n cap X := own_turnA h hT (by simpa [blks] using hS)
/-- A mail is stored. -/
def st4 (w : World) (g k : Nat) (m : Ml) : World := (((w.setCell ⟨g, k, none⟩ (.int .i64 m.due)).setCell ⟨g, k + 1, none⟩ (.int .i64 m.fr)).setCell ⟨g, k + 2, none⟩ (.int .i64 m.dst)).setCell ⟨g, k + 3, none⟩ (.slice m.A m.n m.c)
theorem RowM.st4 {w : World} {g base n cap : Nat} {X : List Ml} (h : RowM w g base n cap X) {k : Nat} (hk : k < n) (m : Ml) : RowM (st4 w g (k * 4) m) g base n cap (X.set k m) := own_setM h k hk m.due m.fr m.dst m.A m.n m.c m.xs
theorem RowM.ready {w : World} {g base n cap : Nat} {X : List Ml} (h : RowM w g base n cap X) {k : Nat} (hk : k < n) (m : Ml) : ∃ u1 u2 u3 u4, Cells4 w g (k * 4) (.int .i64 m.due) (.int .i64 m.fr) (.int .i64 m.dst) u1 u2 u3 u4 :=
  own_cells4 h (k * 4) (by omega) _ _ _
theorem turn_st4 (w : World) (g k : Nat) (m : Ml) : Turn [g] w (st4 w g k m) :=
  ((((Turn.refl [g] w).setCell (.inl (by simp)) _).setCell (.inl (by simp)) _).setCell (.inl (by simp)) _).setCell (.inl (by simp)) _
/-- The list with two places exchanged. -/
def swp (X : List Ml) (p q : Nat) (x y : Ml) : List Ml := (X.set p y).set q x
theorem swp_mid (A M Q : List Ml) (u v : Ml) : swp (A ++ u :: (M ++ v :: Q)) A.length (A.length + 1 + M.length) u v = A ++ v :: (M ++ u :: Q) := by
  unfold swp
  rw [List.set_append_right _ _ (Nat.le_refl _), Nat.sub_self, List.set_cons_zero, List.set_append_right _ _ (by omega)]
  congr 1
  rw [show A.length + 1 + M.length - A.length = M.length + 1 by omega, List.set_cons_succ, List.set_append_right _ _ (Nat.le_refl _), Nat.sub_self, List.set_cons_zero]
theorem swp_mid' (A M Q : List Ml) (u v : Ml) : swp (A ++ u :: (M ++ v :: Q)) (A.length + 1 + M.length) A.length v u = A ++ v :: (M ++ u :: Q) := by
  rw [← swp_mid A M Q u v]
  unfold swp
  rw [List.set_comm _ _ (by omega)]

def Swapped (w : World) (g base n cap : Nat) (X : List Ml) (e : Ending) (w' : World) : Prop := e = .returned (.tuple #[]) ∧ RowM w' g base n cap X ∧ Turn [g] w w'

set_option maxHeartbeats 4000000 in
theorem swapR_c (g base N cap : Nat) (P U M V Q : List Ml) (v : Value) (w : World) (h : RowM w g base N cap (P ++ (U ++ (M ++ (V ++ Q))))) (hUV : U.length = V.length) (hN : N ≤ 1000000) (a b n : Nat) (ha : a = P.length) (hn : n = U.length) (hb : b = P.length + U.length + M.length) :
    Calls Try.prog 52 #[.slice (some ⟨g, 0, none⟩) N cap, .int .i64 a, .int .i64 b, .int .i64 n, v] w (Swapped w g base N cap (P ++ (V ++ (M ++ (U ++ Q))))) := by
  have hlen := h.len
  simp only [List.length_append] at hlen
  have HH := Lib.hid h
  have HUV := Lib.hid hUV
  have HA := Lib.hid ha
  have HN := Lib.hid hn
  have HB := Lib.hid hb
  have hbn : b + n ≤ N := by omega
  have han : a + n ≤ b := by omega
  clear h hUV ha hn hb hlen
  go_enter Try.func52, Try.ntmps52
  go_wp2_with fail
  go_loopw [10] (fun ix wr => ∃ i : Nat, i ≤ n ∧ ix = .int .i64 i ∧ RowM wr g base N cap (P ++ ((V.take i ++ U.drop i) ++ (M ++ ((U.take i ++ V.drop i) ++ Q)))) ∧ Turn [g] w wr) (fun ix _ => n - (intOf ix).toNat)
  case atStart => exact ⟨0, by omega, rfl, by simpa using HH.out, Turn.refl _ _⟩
  case round =>
    obtain ⟨i, hi, rfl, R, hT⟩ := hrel
    obtain ⟨w1, rfl⟩ : ∃ wo : World, wo = wr := ⟨_, rfl⟩
    have i0 : (0 : Int) ≤ (i : Int) := Int.natCast_nonneg _
    by_cases hlt : i < n
    · have i1 : (i : Int) < (n : Int) := by omega
      have hiU : i < U.length := by have := HN.out; omega
      have hiV : i < V.length := by have := HUV.out; omega
      have hX : P ++ ((V.take i ++ U.drop i) ++ (M ++ ((U.take i ++ V.drop i) ++ Q))) = (P ++ V.take i) ++ U[i] :: ((U.drop (i + 1) ++ M ++ U.take i) ++ V[i] :: (V.drop (i + 1) ++ Q)) := by
        rw [List.drop_eq_getElem_cons hiU, List.drop_eq_getElem_cons hiV]
        simp only [List.append_assoc, List.cons_append]
      have hX' : P ++ ((V.take (i + 1) ++ U.drop (i + 1)) ++ (M ++ ((U.take (i + 1) ++ V.drop (i + 1)) ++ Q))) = (P ++ V.take i) ++ V[i] :: ((U.drop (i + 1) ++ M ++ U.take i) ++ U[i] :: (V.drop (i + 1) ++ Q)) := by
        rw [List.take_succ_eq_append_getElem hiU, List.take_succ_eq_append_getElem hiV]
        simp only [List.append_assoc, List.cons_append, List.nil_append]
      rw [hX] at R
      have hl1 : (P ++ V.take i).length = a + i := by rw [List.length_append, List.length_take]; have := HA.out; omega
      have hl2 : (U.drop (i + 1) ++ M ++ U.take i).length = b - a - 1 := by simp only [List.length_append, List.length_drop, List.length_take]; have := HA.out; have := HB.out; omega
      have SW := swp_mid (P ++ V.take i) (U.drop (i + 1) ++ M ++ U.take i) (V.drop (i + 1) ++ Q) U[i] V[i]
      rw [hl1, hl2, show a + i + 1 + (b - a - 1) = b + i by omega, ← hX'] at SW
      have e1 : ((P ++ V.take i) ++ U[i] :: ((U.drop (i + 1) ++ M ++ U.take i) ++ V[i] :: (V.drop (i + 1) ++ Q)))[a + i]? = some U[i] := by
        rw [List.getElem?_append_right (by omega), hl1, Nat.sub_self]
        rfl
      have e2 : ((P ++ V.take i) ++ U[i] :: ((U.drop (i + 1) ++ M ++ U.take i) ++ V[i] :: (V.drop (i + 1) ++ Q)))[b + i]? = some V[i] := by
        rw [List.getElem?_append_right (by omega), hl1, show b + i - (a + i) = (b - a - 1) + 1 by omega, List.getElem?_cons_succ, List.getElem?_append_right (by omega), hl2, Nat.sub_self]
        rfl
      unfold swp at SW
      have HSW := Lib.hid SW
      clear SW hX hX' hl1 hl2
      generalize (P ++ V.take i) ++ U[i] :: ((U.drop (i + 1) ++ M ++ U.take i) ++ V[i] :: (V.drop (i + 1) ++ Q)) = X at *
      have hXl := R.len
      have k1 : a + i < X.length := by omega
      have k2 : b + i < X.length := by omega
      have g1 := R.cells k1
      have g2 := R.cells k2
      rw [List.getElem?_eq_getElem k1] at e1
      rw [List.getElem?_eq_getElem k2] at e2
      injection e1 with e1
      injection e2 with e2
      rw [e1] at g1
      rw [e2] at g2
      clear e1 e2
      generalize U[i] = x at *
      generalize V[i] = y at *
      obtain ⟨x1, x2, x3, xA, xn, xc, xs⟩ := x
      obtain ⟨y1, y2, y3, yA, yn, yc, ys⟩ := y
      obtain ⟨u1, u2, u3, u4, ⟨d1, f1⟩, ⟨d2, f2⟩, ⟨d3, f3⟩, ⟨d4, f4⟩⟩ := R.ready (k := a + i) (by omega) ⟨y1, y2, y3, yA, yn, yc, ys⟩
      have R2 := Lib.hid (R.st4 (k := a + i) (by omega) ⟨y1, y2, y3, yA, yn, yc, ys⟩)
      obtain ⟨z1, z2, z3, z4, ⟨d5, f5⟩, ⟨d6, f6⟩, ⟨d7, f7⟩, ⟨d8, f8⟩⟩ := R2.out.ready (k := b + i) (by omega) ⟨x1, x2, x3, xA, xn, xc, xs⟩
      have R3 := Lib.hid (R2.out.st4 (k := b + i) (by omega) ⟨x1, x2, x3, xA, xn, xc, xs⟩)
      unfold st4 at d5 f5 d6 f6 d7 f7 d8 f8
      simp only at g1 g2 d1 f1 d2 f2 d3 f3 d4 f4 d5 f5 d6 f6 d7 f7 d8 f8
      obtain ⟨p1, p2, p3, p4⟩ := g1
      obtain ⟨q1, q2, q3, q4⟩ := g2
      have gl := R.lt.1
      have HRl := Lib.hid hXl
      clear hXl R d1
      have s1 : IntKind.i64.wrap ((a : Int) + (i : Int)) = (a : Int) + (i : Int) := IntWalk.i64_in _ (by omega)
      have s2 : IntKind.i64.wrap ((b : Int) + (i : Int)) = (b : Int) + (i : Int) := IntWalk.i64_in _ (by omega)
      have s3 : ((a : Int) + (i : Int)).toNat = a + i := by omega
      have s4 : ((b : Int) + (i : Int)).toNat = b + i := by omega
      have s5 : (a : Int) + (i : Int) < (N : Int) := by omega
      have s6 : (b : Int) + (i : Int) < (N : Int) := by omega
      have s7 : (0 : Int) ≤ (a : Int) + (i : Int) := by omega
      have s8 : (0 : Int) ≤ (b : Int) + (i : Int) := by omega
      go_wp2_with fail
      go_region_law (fail)
      all_goals
        go_wp2_with fail
        go_roundw
        case rel => exact ⟨i + 1, by omega, by go_num, by rw [← HSW.out]; exact R3.out.turn ((Turn.refl [] _).drew) (by simp), (hT.trans ((turn_st4 w1 g ((a + i) * 4) ⟨y1, y2, y3, yA, yn, yc, ys⟩).trans (turn_st4 _ g ((b + i) * 4) ⟨x1, x2, x3, xA, xn, xc, xs⟩))).drew⟩
        case measure => simp [intOf]; omega
    · obtain rfl : i = n := by omega
      have i1 : ¬ (i : Int) < (i : Int) := by omega
      have hV : V.take i = V ∧ V.drop i = [] := ⟨List.take_of_length_le (by have := HN.out; have := HUV.out; omega), List.drop_of_length_le (by have := HN.out; have := HUV.out; omega)⟩
      have hU : U.take i = U ∧ U.drop i = [] := ⟨List.take_of_length_le (by have := HN.out; omega), List.drop_of_length_le (by have := HN.out; omega)⟩
      rw [hV.1, hV.2, hU.1, hU.2, List.append_nil, List.append_nil] at R
      clear hV hU
      go_wp2_with fail
      go_end0
      exact ⟨rfl, R, hT⟩
theorem swapR_i (g base N cap : Nat) (P U M V Q : List Ml) (v : Value) (w : World) (h : RowM w g base N cap (P ++ (U ++ (M ++ (V ++ Q))))) (hUV : U.length = V.length) (hN : N ≤ 1000000) (a b n : Int) (ha : a = (P.length : Int)) (hn : n = (U.length : Int)) (hb : b = (P.length : Int) + (U.length : Int) + (M.length : Int)) :
    Calls Try.prog 52 #[.slice (some ⟨g, 0, none⟩) N cap, .int .i64 a, .int .i64 b, .int .i64 n, v] w (Swapped w g base N cap (P ++ (V ++ (M ++ (U ++ Q))))) := by
  subst ha
  subst hn
  obtain rfl : b = ((P.length + U.length + M.length : Nat) : Int) := by omega
  exact swapR_c g base N cap P U M V Q v w h hUV hN _ _ _ rfl rfl rfl
end Go.Proofs.Ytiijgokgojjocaa
