/- Slices of claims: Contains, DeleteFunc. -/
import Derived.Test.YtpdencmgjihnfaaDelC
namespace Go.Proofs.Ytpdencmgjihnfaa
open Go.RowKit Go.ChangeMaps

theorem idxP_contains (l : List C4) (x : C4) : decide (0 ≤ idxP (fun y => y == x) l) = l.contains x := by
  rw [idxP_ge, List.contains_eq_any_beq]
  congr 1
  funext y
  by_cases h : y = x
  · subst h; simp
  · rw [show (y == x) = false by simpa using h, show (x == y) = false by simpa using fun e => h e.symm]

theorem containsC_c (A : Option Addr) (n c : Nat) (l : List C4) (x1 x2 x3 x4 : Int) (w : World) (hx : Sl w A (ccs l)) (hn : l.length = n) (hl : n ≤ 1000000) :
    Calls Try.prog 34 #[.slice A n c, .agg #[.int .i64 x1, .int .i64 x2, .int .i64 x3, .int .i64 x4]] w fun e w' => e = .returned (.bool (l.contains (x1, x2, x3, x4))) ∧ Turn [] w w' := by
  have T1 := (Turn.refl [] w).alloc (.cells #[.int .i64 x1, .int .i64 x2, .int .i64 x3, .int .i64 x4] 29)
  have HI := Lib.hid (indexC_c A n c l x1 x2 x3 x4 _ (hx.turn0 T1) hn hl)
  have hge := Lib.hid (idxP_contains l (x1, x2, x3, x4))
  clear hn
  go_enter Try.func34, Try.ntmps34
  go_wp2_with fail
  refine HI.out.mono ?_
  generalize idxP (fun y => y == (x1, x2, x3, x4)) l = r at *
  rintro e w1 ⟨rfl, hT⟩
  go_wp2_with fail
  go_ret
  exact ⟨by rw [← hge.out]; simp, T1.trans hT⟩

/-- Drop's closure: is it among these? -/
theorem among_c (bx : Nat) (A : Option Addr) (n c : Nat) (l : List C4) (x1 x2 x3 x4 : Int) (w : World) (hb : w.cell? ⟨bx, 0, none⟩ = some (.slice A n c)) (hbl : bx < w.heap.size) (hx : Sl w A (ccs l)) (hn : l.length = n) (hl : n ≤ 1000000) :
    Calls Try.prog 33 #[.agg #[.int .i64 x1, .int .i64 x2, .int .i64 x3, .int .i64 x4], .pointer (some ⟨bx, 0, none⟩)] w fun e w' => e = .returned (.bool (l.contains (x1, x2, x3, x4))) ∧ Turn [] w w' := by
  have T1 := (Turn.refl [] w).alloc (.cells #[.int .i64 x1, .int .i64 x2, .int .i64 x3, .int .i64 x4] 29)
  have HI := Lib.hid (containsC_c A n c l x1 x2 x3 x4 _ (hx.turn0 T1) hn hl)
  clear hn
  go_enter Try.func33, Try.ntmps33
  go_wp2_with fail
  refine HI.out.mono ?_
  rintro e w1 ⟨rfl, hT⟩
  go_wp2_with fail
  go_ret
  exact ⟨by simp, T1.trans hT⟩

theorem own_set4 {w : World} {base g n cap : Nat} {X : List C4} (h : w.ownsRow base 29 4 (.slice (some ⟨g, 0, none⟩) n cap) n (ccs X)) (k : Nat) (hk : k < n) (x1 x2 x3 x4 : Int) :
    ((((w.setCell ⟨g, k * 4, none⟩ (.int .i64 x1)).setCell ⟨g, k * 4 + 1, none⟩ (.int .i64 x2)).setCell ⟨g, k * 4 + 2, none⟩ (.int .i64 x3)).setCell ⟨g, k * 4 + 3, none⟩ (.int .i64 x4)).ownsRow base 29 4 (.slice (some ⟨g, 0, none⟩) n cap) n (ccs (X.set k (x1, x2, x3, x4))) := by
  have hX : X.length = n := by have := h.1; rw [ccs_len] at this; omega
  rw [← ccs_set X k (by omega) (x1, x2, x3, x4)]
  exact own_set (own_set (own_set (own_set h _ (by omega) _) _ (by omega) _) _ (by omega) _) _ (by omega) _

theorem own_at {w : World} {base size g n cap : Nat} {e : TypeId} {xs : List Value} (h : w.ownsRow base e size (.slice (some ⟨g, 0, none⟩) n cap) n xs) (j : Nat) (hj : j < n * size) : ∃ u, w.cell? ⟨g, j, none⟩ = some u ∧ w.frozen? ⟨g, j, none⟩ = false := by
  obtain ⟨cur, hg, -, -, -, -, -⟩ := own_heap h
  have hlen := h.1
  obtain ⟨b, off, hA, hb, hc⟩ := (Sl.of_own h) (by omega)
  cases hA
  have h1 := hc j _ (List.getElem?_eq_getElem (by omega))
  rw [Nat.zero_add] at h1
  refine ⟨_, h1, ?_⟩
  simp [World.frozen?, hg]
/-- Four cells are stored one behind the other. -/
def Cells4 (w : World) (g k : Nat) (v1 v2 v3 : Value) (u1 u2 u3 u4 : Value) : Prop :=
  (w.cell? ⟨g, k, none⟩ = some u1 ∧ w.frozen? ⟨g, k, none⟩ = false) ∧
  ((w.setCell ⟨g, k, none⟩ v1).cell? ⟨g, k + 1, none⟩ = some u2 ∧ (w.setCell ⟨g, k, none⟩ v1).frozen? ⟨g, k + 1, none⟩ = false) ∧
  (((w.setCell ⟨g, k, none⟩ v1).setCell ⟨g, k + 1, none⟩ v2).cell? ⟨g, k + 2, none⟩ = some u3 ∧ ((w.setCell ⟨g, k, none⟩ v1).setCell ⟨g, k + 1, none⟩ v2).frozen? ⟨g, k + 2, none⟩ = false) ∧
  ((((w.setCell ⟨g, k, none⟩ v1).setCell ⟨g, k + 1, none⟩ v2).setCell ⟨g, k + 2, none⟩ v3).cell? ⟨g, k + 3, none⟩ = some u4 ∧ (((w.setCell ⟨g, k, none⟩ v1).setCell ⟨g, k + 1, none⟩ v2).setCell ⟨g, k + 2, none⟩ v3).frozen? ⟨g, k + 3, none⟩ = false)
theorem own_cells4 {w : World} {base size g n cap : Nat} {e : TypeId} {xs : List Value} (h : w.ownsRow base e size (.slice (some ⟨g, 0, none⟩) n cap) n xs) (k : Nat) (hk : k + 3 < n * size) (v1 v2 v3 : Value) : ∃ u1 u2 u3 u4, Cells4 w g k v1 v2 v3 u1 u2 u3 u4 := by
  obtain ⟨u1, h1⟩ := own_at h k (by omega)
  have o1 := own_set h k (by omega) v1
  obtain ⟨u2, h2⟩ := own_at o1 (k + 1) (by omega)
  have o2 := own_set o1 (k + 1) (by omega) v2
  obtain ⟨u3, h3⟩ := own_at o2 (k + 2) (by omega)
  have o3 := own_set o2 (k + 2) (by omega) v3
  obtain ⟨u4, h4⟩ := own_at o3 (k + 3) (by omega)
  exact ⟨u1, u2, u3, u4, h1, h2, h3, h4⟩

set_option maxRecDepth 100000 in
set_option maxHeartbeats 2000000 in
theorem deleteF_c (F : FuncId) (v : Value) (p : C4 → Bool) (base g n cap : Nat) (l : List C4) (w : World) (hown : w.ownsRow base 29 4 (.slice (some ⟨g, 0, none⟩) n cap) n (ccs l)) (hl : n ≤ 1000000)
    (hF : ∀ args w, (callFunc F args).run Try.prog w = .ok (.enter F args) w) (H : ∀ wz, Turn [g] w wz → ∀ x1 x2 x3 x4 : Int, Calls Try.prog F #[.agg #[.int .i64 x1, .int .i64 x2, .int .i64 x3, .int .i64 x4], v] wz fun e w' => e = .returned (.bool (p (x1, x2, x3, x4))) ∧ Turn [] wz w') :
    Calls Try.prog 32 #[.slice (some ⟨g, 0, none⟩) n cap, .func (.func F) #[] #[v]] w fun e w' => ∃ n', e = .returned (.slice (some ⟨g, 0, none⟩) n' cap) ∧ n' ≤ n ∧
      w'.ownsRow base 29 4 (.slice (some ⟨g, 0, none⟩) n' cap) n' (ccs (l.filter (fun x => !p x))) ∧ Turn [g] w w' := by
  have hcap := own_caps hown
  have hgl := (own_ltA hown g (by simp [blks]))
  have hlen : Hid (l.length = n) := by show _ = _; have := hown.1; rw [ccs_len] at this; omega
  have HI := Lib.hid (indexF_c F v p (some ⟨g, 0, none⟩) n cap l w (Sl.of_own hown) hlen.out (by omega) hF (fun wz hz => H wz (hz.mono (by simp))))
  have HO := Lib.hid hown
  have HH := Lib.hid H
  clear hown H
  obtain ⟨hc1, hc2⟩ := hcap
  unfold maxLen at hc2
  cases hi : l.findIdx? p with
  | none =>
    have hv : Hid (idxP p l = -1) := by show _ = _; simp [idxP, hi]
    have hfil : Hid (l.filter (fun x => !p x) = l) := by
      show _ = _
      rw [List.filter_eq_self]
      intro x hx
      have := List.findIdx?_eq_none_iff.1 hi x hx
      simp [this]
    clear hi
    go_enter Try.func32, Try.ntmps32
    go_wp2_with fail
    refine HI.out.mono ?_
    rw [hv.out]
    rintro e w1 ⟨rfl, hT⟩
    go_wp2_with fail
    go_ret
    exact ⟨n, by simp, Nat.le_refl _, by rw [hfil.out]; exact own_turnA HO.out hT (by simp), hT.mono (by simp)⟩
  | some i0 =>
    have hv : Hid (idxP p l = i0) := by show _ = _; simp [idxP, hi]
    obtain ⟨hil, hip, hib⟩ := List.findIdx?_eq_some_iff_getElem.1 hi
    have hil' : i0 < n := by have := hlen.out; omega
    have hst : Hid ((l.take (i0 + 1)).filter (fun x => !p x) = l.take i0) := by
      show _ = _
      rw [List.take_succ_eq_append_getElem hil, List.filter_append]
      have h1 : (l.take i0).filter (fun x => !p x) = l.take i0 := by
        rw [List.filter_eq_self]
        intro x hx
        obtain ⟨j, hj, rfl⟩ := List.getElem_of_mem hx
        rw [List.length_take] at hj
        rw [List.getElem_take]
        have := hib j (by omega)
        simpa using this
      rw [h1]
      simp [hip]
    clear hi hip hib
    go_enter Try.func32, Try.ntmps32
    go_wp2_with fail
    refine HI.out.mono ?_
    rw [hv.out]
    rintro e w1 ⟨rfl, hT1⟩
    have i0p : (0 : Int) ≤ (i0 : Int) := Int.natCast_nonneg _
    have hne : ((i0 : Int) == -1) = false := by simp
    go_wp2_with fail
    go_loopw [5, 6] (fun i j wr => ∃ a b : Nat, a < b ∧ b ≤ n ∧ i = .int .i64 a ∧ j = .int .i64 b ∧ ∃ X : List C4, wr.ownsRow base 29 4 (.slice (some ⟨g, 0, none⟩) n cap) n (ccs X) ∧ Hid (X.take a = (l.take b).filter (fun x => !p x)) ∧ Hid (X.drop b = l.drop b) ∧ Turn [g] w wr) (fun _ j _ => n - (intOf j).toNat)
    case atStart => exact ⟨i0, i0 + 1, by omega, by omega, rfl, by go_num, l, own_turnA HO.out hT1 (by simp), by rw [hst.out]; exact Lib.hid rfl, Lib.hid rfl, hT1.mono (by simp)⟩
    case round =>
      obtain ⟨a, b, hab, hbn, rfl, rfl, X, oX, hXt, hXd, hT⟩ := hrel
      have a0 : (0 : Int) ≤ (a : Int) := Int.natCast_nonneg _
      have b0 : (0 : Int) ≤ (b : Int) := Int.natCast_nonneg _
      have hXl : Hid (X.length = n) := by show _ = _; have := oX.1; rw [ccs_len] at this; omega
      by_cases hbl : b < n
      · have b1 : (b : Int) < (n : Int) := by omega
        have a1 : (a : Int) < (n : Int) := by omega
        have kx : b < l.length := by rw [hlen.out]; exact hbl
        have kX : b < X.length := by rw [hXl.out]; exact hbl
        have hXb : X[b] = l[b] := by
          have := congrArg (fun z : List C4 => z[0]?) hXd.out
          simpa [kx, kX] using this
        have hnx : Hid (X.drop (b + 1) = l.drop (b + 1)) := by
          show _ = _
          have := congrArg (fun z : List C4 => z.drop 1) hXd.out
          simpa [Nat.add_comm] using this
        obtain ⟨bb, oo, hA, lb, c0, c1, c2, c3⟩ := ccs_at (Sl.of_own oX) kX
        cases hA
        rw [hXb, Nat.zero_add] at c0 c1 c2 c3
        have HC := Lib.hid (fun wz (hz : Turn [] wr wz) => HH.out wz (hT.trans (hz.mono (by simp))) l[b].1 l[b].2.1 l[b].2.2.1 l[b].2.2.2)
        have hfs : Hid ((l.take (b + 1)).filter (fun x => !p x) = (l.take b).filter (fun x => !p x) ++ if p l[b] then [] else [l[b]]) := by
          show _ = _
          rw [List.take_succ_eq_append_getElem kx, List.filter_append]
          congr 1
          by_cases h : p l[b] = true <;> simp [h]
        clear hXb
        have pe : p (l[b].1, l[b].2.1, l[b].2.2.1, l[b].2.2.2) = p l[b] := rfl
        have PE := Lib.hid pe
        clear pe
        generalize l[b] = x at *
        obtain ⟨x1, x2, x3, x4⟩ := x
        simp only at c0 c1 c2 c3 HC PE
        have T1 := (Turn.refl [] wr).alloc (.cells #[.int .i64 x1, .int .i64 x2, .int .i64 x3, .int .i64 x4] 29)
        have HCA := Lib.hid (HC.out _ T1)
        have hwr := hT.size
        clear HC
        cases hp : p (x1, x2, x3, x4) with
        | true =>
          have hv2 : Hid ((l.take (b + 1)).filter (fun x => !p x) = (l.take b).filter (fun x => !p x)) := by show _ = _; rw [hfs.out, if_pos hp, List.append_nil]
          rw [hp] at HCA
          clear hp
          go_wp2_with fail
          refine HCA.out.mono ?_
          rintro e w2 ⟨rfl, hT2⟩
          go_wp2_with fail
          go_roundw
          case rel => exact ⟨a, b + 1, by omega, by omega, rfl, by go_num, X, own_turnA (oX.alloc _) hT2 (by simp), by rw [hv2.out]; exact hXt, hnx, (hT.alloc _).trans (hT2.mono (by simp))⟩
          case measure => simp [intOf]; omega
        | false =>
          have hv2 : Hid ((l.take (b + 1)).filter (fun x => !p x) = (l.take b).filter (fun x => !p x) ++ [(x1, x2, x3, x4)]) := by show _ = _; rw [hfs.out, if_neg (by rw [hp]; simp)]
          rw [hp] at HCA
          clear hp
          have BX := Blk.new wr 29 #[.int .i64 x1, .int .i64 x2, .int .i64 x3, .int .i64 x4]
          go_wp2_with fail
          refine HCA.out.mono ?_
          rintro e w2 ⟨rfl, hT2⟩
          have B2 := hT2.blk BX (by simp)
          have z0 := B2.cell 0
          have z1 := B2.cell 1
          have z2 := B2.cell 2
          have z3 := B2.cell 3
          have zl := B2.lt
          have o2 := own_turnA (oX.alloc _) hT2 (by simp)
          have O2 := Lib.hid o2
          obtain ⟨u1, u2, u3, u4, ⟨d1, f1⟩, ⟨d2, f2⟩, ⟨d3, f3⟩, ⟨d4, f4⟩⟩ := own_cells4 O2.out (a * 4) (by omega) (.int .i64 x1) (.int .i64 x2) (.int .i64 x3)
          have lg : g < w2.heap.size := (own_ltA o2 g (by simp [blks])).1
          clear o2 BX c0 c1 c2 c3
          go_wp2_with fail
          go_roundw
          case rel =>
            refine ⟨a + 1, b + 1, by omega, by omega, by go_num, by go_num, X.set a (x1, x2, x3, x4), own_set4 O2.out a (by omega) x1 x2 x3 x4, ?_, ?_, ?_⟩
            · show _ = _
              rw [hv2.out, ← hXt.out, List.take_succ_eq_append_getElem (by rw [List.length_set, hXl.out]; omega), List.take_set_of_le (by omega)]
              simp
            · show _ = _
              rw [List.drop_set_of_lt (by omega)]
              exact hnx.out
            · exact ((((((hT.alloc _).trans (hT2.mono (by simp))).setCell (.inl (by simp)) _).setCell (.inl (by simp)) _).setCell (.inl (by simp)) _).setCell (.inl (by simp)) _)
          case measure => simp [intOf]; omega
      · obtain rfl : b = n := by omega
        have b1 : ¬ (b : Int) < (b : Int) := by omega
        have hfin : Hid (X.take a = l.filter (fun x => !p x)) := by show _ = _; rw [hXt.out, List.take_of_length_le (by rw [hlen.out]; exact Nat.le_refl _)]
        have osh := own_shrink oX (show a ≤ b by omega)
        rw [ccs_take, hfin.out] at osh
        obtain ⟨i, hi, hi4⟩ := infoC2
        have hsm : ∀ w1, (Instr.slice 31 (.slice (some ⟨g, 0, none⟩) b cap) (some (.int .i64 a)) none none).run Try.prog w1 = .ok (.slice (some ⟨g, a * 4, none⟩) (b - a) (cap - a)) w1 := by
          intro w1
          have := run_slice_from (P := Try.prog) Try.underlying31 hi w1 g b cap a (by omega) hc1
          rw [hi4, if_neg (by omega)] at this
          exact this
        have hsm1 := hsm wr
        have OSH := Lib.hid osh
        obtain ⟨w2, hr2, hown2, hT2⟩ := elemC.clear_tail zeroC zc_one 0 g a cap _ OSH.out (a * 4) (b - a) (cap - a) (fun _ => rfl) (by omega)
        have a2 : (a : Int) ≤ (cap : Int) := by omega
        clear osh hi hi4 hsm
        go_wp2_with fail
        go_ret
        exact ⟨a, by simp, by omega, hown2, hT.trans hT2⟩
theorem deleteFnil_c (F : FuncId) (v : Value) (p : C4 → Bool) (w : World)
    (hF : ∀ args w, (callFunc F args).run Try.prog w = .ok (.enter F args) w) (H : ∀ wz, Turn [] w wz → ∀ x1 x2 x3 x4 : Int, Calls Try.prog F #[.agg #[.int .i64 x1, .int .i64 x2, .int .i64 x3, .int .i64 x4], v] wz fun e w' => e = .returned (.bool (p (x1, x2, x3, x4))) ∧ Turn [] wz w') :
    Calls Try.prog 32 #[.slice none 0 0, .func (.func F) #[] #[v]] w fun e w' => e = .returned (.slice none 0 0) ∧ Turn [] w w' := by
  have HI := Lib.hid (indexF_c F v p none 0 0 [] w (Sl.nil _ _) rfl (by omega) hF H)
  have hv : Hid (idxP p [] = -1) := rfl
  clear H
  go_enter Try.func32, Try.ntmps32
  go_wp2_with fail
  refine HI.out.mono ?_
  rw [hv.out]
  rintro e w1 ⟨rfl, hT⟩
  go_wp2_with fail
  go_ret
  exact ⟨by simp, hT⟩
end Go.Proofs.Ytpdencmgjihnfaa
