/- Slices of mails: IndexFunc, DeleteFunc. -/
import Derived.Test.YtiijgokgojjocaaNetP
import Derived.Test.YtiijgokgojjocaaRowOps
import Derived.Deep.RegionHeld3
import Derived.Deep.QuietTactic
import Derived.BigQuiet
namespace Go.Proofs.Ytiijgokgojjocaa
open Go.RowKit Go.ChangeMaps

def zm : Value := .agg #[.int .i64 0, .int .i64 0, .int .i64 0, .slice none 0 0]
theorem zeroM (w : World) : (zeroValue 34).run Try.prog w = .ok zm w := by kernel_rfl
theorem zm_one : ∀ u ∈ zm.cells.toList, u.oneCell' = true := by simp [zm, Value.cells, Value.oneCell']
theorem infoM2 : ∃ i, Try.prog.info? 34 = some i ∧ i.size = 4 := by
  obtain ⟨-, ⟨i, h1, -, h2, -⟩, -, -⟩ := elemM
  exact ⟨i, h1, h2⟩

/-- IndexFunc's answer. -/
def idxM (p : Ml → Bool) (l : List Ml) : Int := ((l.findIdx? p).map (fun i => (i : Int))).getD (-1)
theorem idxM_found {p : Ml → Bool} {l : List Ml} {k : Nat} (hk : k < l.length) (h0 : ∀ j, (hj : j < k) → p (l[j]'(by omega)) = false) (hp : p l[k] = true) : idxM p l = k := by
  have h : l.findIdx? p = some k := by
    rw [List.findIdx?_eq_some_iff_getElem]
    exact ⟨hk, hp, fun j hj => by simpa using h0 j hj⟩
  simp [idxM, h]
theorem idxM_none {p : Ml → Bool} {l : List Ml} (h0 : ∀ j, (hj : j < l.length) → p l[j] = false) : idxM p l = -1 := by
  have h : l.findIdx? p = none := by
    rw [List.findIdx?_eq_none_iff]
    intro x hx
    obtain ⟨j, hj, rfl⟩ := List.getElem_of_mem hx
    exact h0 j hj
  simp [idxM, h]

set_option maxRecDepth 100000 in
set_option maxHeartbeats 1000000 in
theorem indexM_c (F : FuncId) (v : Value) (p : Ml → Bool) (A : Option Addr) (n c : Nat) (l : List Ml) (w : World) (hx : Sl w A (mcs l)) (hn : l.length = n) (hl : n ≤ 9223372036854775806)
    (hF : ∀ args w, (callFunc F args).run Try.prog w = .ok (.enter F args) w) (H : ∀ wz, Turn [] w wz → ∀ m : Ml, Calls Try.prog F #[.agg #[.int .i64 m.due, .int .i64 m.fr, .int .i64 m.dst, .slice m.A m.n m.c], v] wz fun e w' => e = .returned (.bool (p m)) ∧ Turn [] wz w') :
    Calls Try.prog 42 #[.slice A n c, .func (.func F) #[] #[v]] w fun e w' => e = .returned (.int .i64 (idxM p l)) ∧ Turn [] w w' := by
  have HN := Lib.hid hn
  have HH := Lib.hid H
  clear hn H
  go_enter Try.func42, Try.ntmps42
  go_wp2_with fail
  go_loopw [8] (fun i wr => ∃ k : Nat, k ≤ n ∧ i = .int .i64 k ∧ Hid (∀ j, (hj : j < k) → (hl : j < l.length) → p (l[j]'hl) = false) ∧ Turn [] w wr) (fun i _ => n - (intOf i).toNat)
  case atStart => exact ⟨0, Nat.zero_le _, rfl, Lib.hid (fun j hj => absurd hj (by omega)), Turn.refl _ _⟩
  case round =>
    obtain ⟨k, hk, rfl, ht, hT⟩ := hrel
    have i0 : (0 : Int) ≤ (k : Int) := Int.natCast_nonneg _
    by_cases hlt : k < n
    · have kx : k < l.length := by rw [HN.out]; exact hlt
      obtain ⟨b1, o1, rfl, l1, c0, c1, c2, c3⟩ := mcs_at (hx.turn0 hT) kx
      have i1 : (k : Int) < (n : Int) := by omega
      have HC := Lib.hid (HH.out wr hT l[k])
      cases hp : p l[k] with
      | true =>
        have hv : Hid (idxM p l = k) := idxM_found kx (fun j hj => ht.out j hj (by omega)) hp
        have HP : Hid (p l[k] = true) := hp
        clear hp
        generalize l[k] = x at *
        obtain ⟨x1, x2, x3, xA, xn, xc, xs⟩ := x
        simp only at c0 c1 c2 c3 HC HP
        go_wp2_with fail
        refine HC.out.mono ?_
        rw [HP.out]
        rintro e w2 ⟨rfl, hT2⟩
        go_wp2_with fail
        go_ret
        exact ⟨by rw [hv.out]; simp, hT.trans hT2⟩
      | false =>
        have hnx : Hid (∀ j, (hj : j < k + 1) → (hl : j < l.length) → p (l[j]'hl) = false) := fun j hj hl => by
          by_cases h : j = k
          · subst h; exact hp
          · exact ht.out j (by omega) hl
        have HP : Hid (p l[k] = false) := hp
        clear hp
        generalize l[k] = x at *
        obtain ⟨x1, x2, x3, xA, xn, xc, xs⟩ := x
        simp only at c0 c1 c2 c3 HC HP
        go_wp2_with fail
        refine HC.out.mono ?_
        rw [HP.out]
        rintro e w2 ⟨rfl, hT2⟩
        go_wp2_with fail
        go_roundw
        case rel => exact ⟨k + 1, by omega, by go_num, hnx, hT.trans hT2⟩
        case measure => simp [intOf]; omega
    · have hv : Hid (idxM p l = -1) := idxM_none (fun j hj => ht.out j (by have := HN.out; omega) hj)
      have i1 : ¬ (k : Int) < (n : Int) := by omega
      go_wp2_with fail
      go_ret
      exact ⟨by rw [hv.out]; simp, hT⟩

theorem mcs_take : ∀ (l : List Ml) (k : Nat), (mcs l).take (k * 4) = mcs (l.take k)
  | l, 0 => by simp [mcs]
  | [], k + 1 => by simp [mcs]
  | c :: r, k + 1 => by
    rw [show (k + 1) * 4 = k * 4 + 1 + 1 + 1 + 1 by omega]
    simp [mcs, mcell, mcs_take r k]
theorem mcs_drop : ∀ (l : List Ml) (k : Nat), (mcs l).drop (k * 4) = mcs (l.drop k)
  | l, 0 => by simp
  | [], k + 1 => by simp [mcs]
  | c :: r, k + 1 => by
    rw [show (k + 1) * 4 = k * 4 + 1 + 1 + 1 + 1 by omega]
    simp [mcs, mcell, mcs_drop r k]
theorem mcs_set : ∀ (l : List Ml) (k : Nat) (_ : k < l.length) (x : Ml), ((((mcs l).set (k * 4) (.int .i64 x.due)).set (k * 4 + 1) (.int .i64 x.fr)).set (k * 4 + 2) (.int .i64 x.dst)).set (k * 4 + 3) (.slice x.A x.n x.c) = mcs (l.set k x)
  | [], k, h, x => absurd h (by simp)
  | c :: r, 0, _, x => by simp [mcs, mcell]
  | c :: r, k + 1, h, x => by
    have ih := mcs_set r k (by simpa using h) x
    rw [show (k + 1) * 4 = k * 4 + 1 + 1 + 1 + 1 by omega, show k * 4 + 1 + 1 + 1 + 1 + 1 = (k * 4 + 1) + 1 + 1 + 1 + 1 by omega, show k * 4 + 1 + 1 + 1 + 1 + 2 = (k * 4 + 2) + 1 + 1 + 1 + 1 by omega, show k * 4 + 1 + 1 + 1 + 1 + 3 = (k * 4 + 3) + 1 + 1 + 1 + 1 by omega]
    simp only [mcs, mcell, List.cons_append, List.nil_append, List.set_cons_succ, ih]

theorem own_setM {w : World} {base g n cap : Nat} {X : List Ml} (h : w.ownsRow base 34 4 (.slice (some ⟨g, 0, none⟩) n cap) n (mcs X)) (k : Nat) (hk : k < n) (x1 x2 x3 : Int) (xA : Option Addr) (xn xc : Nat) (xs : List Int) :
    ((((w.setCell ⟨g, k * 4, none⟩ (.int .i64 x1)).setCell ⟨g, k * 4 + 1, none⟩ (.int .i64 x2)).setCell ⟨g, k * 4 + 2, none⟩ (.int .i64 x3)).setCell ⟨g, k * 4 + 3, none⟩ (.slice xA xn xc)).ownsRow base 34 4 (.slice (some ⟨g, 0, none⟩) n cap) n (mcs (X.set k ⟨x1, x2, x3, xA, xn, xc, xs⟩)) := by
  have hX : X.length = n := by have := h.1; rw [mcs_len] at this; omega
  rw [← mcs_set X k (by omega) ⟨x1, x2, x3, xA, xn, xc, xs⟩]
  exact own_set (own_set (own_set (own_set h _ (by omega) _) _ (by omega) _) _ (by omega) _) _ (by omega) _

theorem own_at {w : World} {base size g n cap : Nat} {e : TypeId} {xs : List Value} (h : w.ownsRow base e size (.slice (some ⟨g, 0, none⟩) n cap) n xs) (j : Nat) (hj : j < n * size) : ∃ u, w.cell? ⟨g, j, none⟩ = some u ∧ w.frozen? ⟨g, j, none⟩ = false := by
  obtain ⟨cur, hg, -, -, -, -, -⟩ := own_heap h
  have hlen := h.1
  obtain ⟨b, off, hA, hb, hc⟩ := (Sl.of_own h) (by omega)
  cases hA
  have h1 := hc j _ (List.getElem?_eq_getElem (by omega))
  rw [Nat.zero_add] at h1
  refine ⟨_, h1, ?_⟩
  simp [World.frozen?, hg]
/-- Four cells are stored one behind the other. -/
def Cells4 (w : World) (g k : Nat) (v1 v2 v3 : Value) (u1 u2 u3 u4 : Value) : Prop :=
  (w.cell? ⟨g, k, none⟩ = some u1 ∧ w.frozen? ⟨g, k, none⟩ = false) ∧
  ((w.setCell ⟨g, k, none⟩ v1).cell? ⟨g, k + 1, none⟩ = some u2 ∧ (w.setCell ⟨g, k, none⟩ v1).frozen? ⟨g, k + 1, none⟩ = false) ∧
  (((w.setCell ⟨g, k, none⟩ v1).setCell ⟨g, k + 1, none⟩ v2).cell? ⟨g, k + 2, none⟩ = some u3 ∧ ((w.setCell ⟨g, k, none⟩ v1).setCell ⟨g, k + 1, none⟩ v2).frozen? ⟨g, k + 2, none⟩ = false) ∧
  ((((w.setCell ⟨g, k, none⟩ v1).setCell ⟨g, k + 1, none⟩ v2).setCell ⟨g, k + 2, none⟩ v3).cell? ⟨g, k + 3, none⟩ = some u4 ∧ (((w.setCell ⟨g, k, none⟩ v1).setCell ⟨g, k + 1, none⟩ v2).setCell ⟨g, k + 2, none⟩ v3).frozen? ⟨g, k + 3, none⟩ = false)
theorem own_cells4 {w : World} {base size g n cap : Nat} {e : TypeId} {xs : List Value} (h : w.ownsRow base e size (.slice (some ⟨g, 0, none⟩) n cap) n xs) (k : Nat) (hk : k + 3 < n * size) (v1 v2 v3 : Value) : ∃ u1 u2 u3 u4, Cells4 w g k v1 v2 v3 u1 u2 u3 u4 := by
  obtain ⟨u1, h1⟩ := own_at h k (by omega)
  have o1 := own_set h k (by omega) v1
  obtain ⟨u2, h2⟩ := own_at o1 (k + 1) (by omega)
  have o2 := own_set o1 (k + 1) (by omega) v2
  obtain ⟨u3, h3⟩ := own_at o2 (k + 2) (by omega)
  have o3 := own_set o2 (k + 2) (by omega) v3
  obtain ⟨u4, h4⟩ := own_at o3 (k + 3) (by omega)
  exact ⟨u1, u2, u3, u4, h1, h2, h3, h4⟩

set_option maxRecDepth 100000 in
set_option maxHeartbeats 2000000 in
theorem deleteM_c (F : FuncId) (v : Value) (p : Ml → Bool) (base g n cap : Nat) (l : List Ml) (w : World) (hown : w.ownsRow base 34 4 (.slice (some ⟨g, 0, none⟩) n cap) n (mcs l)) (hl : n ≤ 1000000)
    (hF : ∀ args w, (callFunc F args).run Try.prog w = .ok (.enter F args) w) (H : ∀ wz, Turn [g] w wz → ∀ m : Ml, Calls Try.prog F #[.agg #[.int .i64 m.due, .int .i64 m.fr, .int .i64 m.dst, .slice m.A m.n m.c], v] wz fun e w' => e = .returned (.bool (p m)) ∧ Turn [] wz w') :
    Calls Try.prog 32 #[.slice (some ⟨g, 0, none⟩) n cap, .func (.func F) #[] #[v]] w fun e w' => ∃ n', e = .returned (.slice (some ⟨g, 0, none⟩) n' cap) ∧ n' ≤ n ∧
      w'.ownsRow base 34 4 (.slice (some ⟨g, 0, none⟩) n' cap) n' (mcs (l.filter (fun x => !p x))) ∧ Turn [g] w w' := by
  have hcap := own_caps hown
  have hgl := (own_ltA hown g (by simp [blks]))
  have hlen : Hid (l.length = n) := by show _ = _; have := hown.1; rw [mcs_len] at this; omega
  have HI := Lib.hid (indexM_c F v p (some ⟨g, 0, none⟩) n cap l w (Sl.of_own hown) hlen.out (by omega) hF (fun wz hz => H wz (hz.mono (by simp))))
  have HO := Lib.hid hown
  have HH := Lib.hid H
  clear hown H
  obtain ⟨hc1, hc2⟩ := hcap
  unfold maxLen at hc2
  cases hi : l.findIdx? p with
  | none =>
    have hv : Hid (idxM p l = -1) := by show _ = _; simp [idxM, hi]
    have hfil : Hid (l.filter (fun x => !p x) = l) := by
      show _ = _
      rw [List.filter_eq_self]
      intro x hx
      have := List.findIdx?_eq_none_iff.1 hi x hx
      simp [this]
    clear hi
    go_enter Try.func32, Try.ntmps32
    go_wp2_with fail
    refine HI.out.mono ?_
    rw [hv.out]
    rintro e w1 ⟨rfl, hT⟩
    go_wp2_with fail
    go_ret
    exact ⟨n, by simp, Nat.le_refl _, by rw [hfil.out]; exact own_turnA HO.out hT (by simp), hT.mono (by simp)⟩
  | some i0 =>
    have hv : Hid (idxM p l = i0) := by show _ = _; simp [idxM, hi]
    obtain ⟨hil, hip, hib⟩ := List.findIdx?_eq_some_iff_getElem.1 hi
    have hil' : i0 < n := by have := hlen.out; omega
    have hst : Hid ((l.take (i0 + 1)).filter (fun x => !p x) = l.take i0) := by
      show _ = _
      rw [List.take_succ_eq_append_getElem hil, List.filter_append]
      have h1 : (l.take i0).filter (fun x => !p x) = l.take i0 := by
        rw [List.filter_eq_self]
        intro x hx
        obtain ⟨j, hj, rfl⟩ := List.getElem_of_mem hx
        rw [List.length_take] at hj
        rw [List.getElem_take]
        have := hib j (by omega)
        simpa using this
      rw [h1]
      simp [hip]
    clear hi hip hib
    go_enter Try.func32, Try.ntmps32
    go_wp2_with fail
    refine HI.out.mono ?_
    rw [hv.out]
    rintro e w1 ⟨rfl, hT1⟩
    have i0p : (0 : Int) ≤ (i0 : Int) := Int.natCast_nonneg _
    have hne : ((i0 : Int) == -1) = false := by simp
    go_wp2_with fail
    go_loopw [5, 6] (fun i j wr => ∃ a b : Nat, a < b ∧ b ≤ n ∧ i = .int .i64 a ∧ j = .int .i64 b ∧ ∃ X : List Ml, wr.ownsRow base 34 4 (.slice (some ⟨g, 0, none⟩) n cap) n (mcs X) ∧ Hid (X.take a = (l.take b).filter (fun x => !p x)) ∧ Hid (X.drop b = l.drop b) ∧ Turn [g] w wr) (fun _ j _ => n - (intOf j).toNat)
    case atStart => exact ⟨i0, i0 + 1, by omega, by omega, rfl, by go_num, l, own_turnA HO.out hT1 (by simp), by rw [hst.out]; exact Lib.hid rfl, Lib.hid rfl, hT1.mono (by simp)⟩
    case round =>
      obtain ⟨a, b, hab, hbn, rfl, rfl, X, oX, hXt, hXd, hT⟩ := hrel
      have a0 : (0 : Int) ≤ (a : Int) := Int.natCast_nonneg _
      have b0 : (0 : Int) ≤ (b : Int) := Int.natCast_nonneg _
      have hXl : Hid (X.length = n) := by show _ = _; have := oX.1; rw [mcs_len] at this; omega
      by_cases hbl : b < n
      · have b1 : (b : Int) < (n : Int) := by omega
        have a1 : (a : Int) < (n : Int) := by omega
        have kx : b < l.length := by rw [hlen.out]; exact hbl
        have kX : b < X.length := by rw [hXl.out]; exact hbl
        have hXb : X[b] = l[b] := by
          have := congrArg (fun z : List Ml => z[0]?) hXd.out
          simpa [kx, kX] using this
        have hnx : Hid (X.drop (b + 1) = l.drop (b + 1)) := by
          show _ = _
          have := congrArg (fun z : List Ml => z.drop 1) hXd.out
          simpa [Nat.add_comm] using this
        obtain ⟨bb, oo, hA, lb, c0, c1, c2, c3⟩ := mcs_at (Sl.of_own oX) kX
        cases hA
        rw [hXb, Nat.zero_add] at c0 c1 c2 c3
        have HC := Lib.hid (fun wz (hz : Turn [] wr wz) => HH.out wz (hT.trans (hz.mono (by simp))) l[b])
        have hfs : Hid ((l.take (b + 1)).filter (fun x => !p x) = (l.take b).filter (fun x => !p x) ++ if p l[b] then [] else [l[b]]) := by
          show _ = _
          rw [List.take_succ_eq_append_getElem kx, List.filter_append]
          congr 1
          by_cases h : p l[b] = true <;> simp [h]
        clear hXb
        have pe : p l[b] = p l[b] := rfl
        have PE := Lib.hid pe
        clear pe
        generalize l[b] = x at *
        obtain ⟨x1, x2, x3, xA, xn, xc, xs⟩ := x
        simp only at c0 c1 c2 c3 HC PE
        have T1 := (Turn.refl [] wr).alloc (.cells #[.int .i64 x1, .int .i64 x2, .int .i64 x3, .slice xA xn xc] 34)
        have HCA := Lib.hid (HC.out _ T1)
        have hwr := hT.size
        clear HC
        cases hp : p ⟨x1, x2, x3, xA, xn, xc, xs⟩ with
        | true =>
          have hv2 : Hid ((l.take (b + 1)).filter (fun x => !p x) = (l.take b).filter (fun x => !p x)) := by show _ = _; rw [hfs.out, if_pos hp, List.append_nil]
          rw [hp] at HCA
          clear hp
          go_wp2_with fail
          refine HCA.out.mono ?_
          rintro e w2 ⟨rfl, hT2⟩
          go_wp2_with fail
          go_roundw
          case rel => exact ⟨a, b + 1, by omega, by omega, rfl, by go_num, X, own_turnA (oX.alloc _) hT2 (by simp), by rw [hv2.out]; exact hXt, hnx, (hT.alloc _).trans (hT2.mono (by simp))⟩
          case measure => simp [intOf]; omega
        | false =>
          have hv2 : Hid ((l.take (b + 1)).filter (fun x => !p x) = (l.take b).filter (fun x => !p x) ++ [⟨x1, x2, x3, xA, xn, xc, xs⟩]) := by show _ = _; rw [hfs.out, if_neg (by rw [hp]; simp)]
          rw [hp] at HCA
          clear hp
          have BX := Blk.new wr 34 #[.int .i64 x1, .int .i64 x2, .int .i64 x3, .slice xA xn xc]
          go_wp2_with fail
          refine HCA.out.mono ?_
          rintro e w2 ⟨rfl, hT2⟩
          have B2 := hT2.blk BX (by simp)
          have z0 := B2.cell 0
          have z1 := B2.cell 1
          have z2 := B2.cell 2
          have z3 := B2.cell 3
          have zl := B2.lt
          have o2 := own_turnA (oX.alloc _) hT2 (by simp)
          have O2 := Lib.hid o2
          obtain ⟨u1, u2, u3, u4, ⟨d1, f1⟩, ⟨d2, f2⟩, ⟨d3, f3⟩, ⟨d4, f4⟩⟩ := own_cells4 O2.out (a * 4) (by omega) (.int .i64 x1) (.int .i64 x2) (.int .i64 x3)
          have lg : g < w2.heap.size := (own_ltA o2 g (by simp [blks])).1
          clear o2 BX c0 c1 c2 c3
          go_wp2_with fail
          go_roundw
          case rel =>
            refine ⟨a + 1, b + 1, by omega, by omega, by go_num, by go_num, X.set a ⟨x1, x2, x3, xA, xn, xc, xs⟩, own_setM O2.out a (by omega) x1 x2 x3 xA xn xc xs, ?_, ?_, ?_⟩
            · show _ = _
              rw [hv2.out, ← hXt.out, List.take_succ_eq_append_getElem (by rw [List.length_set, hXl.out]; omega), List.take_set_of_le (by omega)]
              simp
            · show _ = _
              rw [List.drop_set_of_lt (by omega)]
              exact hnx.out
            · exact ((((((hT.alloc _).trans (hT2.mono (by simp))).setCell (.inl (by simp)) _).setCell (.inl (by simp)) _).setCell (.inl (by simp)) _).setCell (.inl (by simp)) _)
          case measure => simp [intOf]; omega
      · obtain rfl : b = n := by omega
        have b1 : ¬ (b : Int) < (b : Int) := by omega
        have hfin : Hid (X.take a = l.filter (fun x => !p x)) := by show _ = _; rw [hXt.out, List.take_of_length_le (by rw [hlen.out]; exact Nat.le_refl _)]
        have osh := own_shrink oX (show a ≤ b by omega)
        rw [mcs_take, hfin.out] at osh
        obtain ⟨i, hi, hi4⟩ := infoM2
        have hsm : ∀ w1, (Instr.slice 30 (.slice (some ⟨g, 0, none⟩) b cap) (some (.int .i64 a)) none none).run Try.prog w1 = .ok (.slice (some ⟨g, a * 4, none⟩) (b - a) (cap - a)) w1 := by
          intro w1
          have := run_slice_from (P := Try.prog) Try.underlying30 hi w1 g b cap a (by omega) hc1
          rw [hi4, if_neg (by omega)] at this
          exact this
        have hsm1 := hsm wr
        have OSH := Lib.hid osh
        obtain ⟨w2, hr2, hown2, hT2⟩ := elemM.clear_tail zeroM zm_one 0 g a cap _ OSH.out (a * 4) (b - a) (cap - a) (fun _ => rfl) (by omega)
        have a2 : (a : Int) ≤ (cap : Int) := by omega
        clear osh hi hi4 hsm
        go_wp2_with fail
        go_ret
        exact ⟨a, by simp, by omega, hown2, hT.trans hT2⟩
theorem deleteMnil_c (F : FuncId) (v : Value) (p : Ml → Bool) (w : World)
    (hF : ∀ args w, (callFunc F args).run Try.prog w = .ok (.enter F args) w) (H : ∀ wz, Turn [] w wz → ∀ m : Ml, Calls Try.prog F #[.agg #[.int .i64 m.due, .int .i64 m.fr, .int .i64 m.dst, .slice m.A m.n m.c], v] wz fun e w' => e = .returned (.bool (p m)) ∧ Turn [] wz w') :
    Calls Try.prog 32 #[.slice none 0 0, .func (.func F) #[] #[v]] w fun e w' => e = .returned (.slice none 0 0) ∧ Turn [] w w' := by
  have HI := Lib.hid (indexM_c F v p none 0 0 [] w (Sl.nil _ _) rfl (by omega) hF H)
  have hv : Hid (idxM p [] = -1) := rfl
  clear H
  go_enter Try.func32, Try.ntmps32
  go_wp2_with fail
  refine HI.out.mono ?_
  rw [hv.out]
  rintro e w1 ⟨rfl, hT⟩
  go_wp2_with fail
  go_ret
  exact ⟨by simp, hT⟩
end Go.Proofs.Ytiijgokgojjocaa
