/- Slices of claims: Delete of the first, Index, Contains, DeleteFunc. -/
import Derived.Test.YtpdencmgjihnfaaCs
import Derived.Test.YtpdencmgjihnfaaRowOps
import Derived.Deep.RegionHeld3
import Derived.Deep.QuietTactic
import Derived.BigQuiet
namespace Go.Proofs.Ytpdencmgjihnfaa
open Go.RowKit Go.ChangeMaps

theorem zeroC (w : World) : (zeroValue 29).run Try.prog w = .ok zc w := by kernel_rfl
theorem zc_one : ∀ u ∈ zc.cells.toList, u.oneCell' = true := by simp [zc, Value.cells, Value.oneCell']
theorem infoC2 : ∃ i, Try.prog.info? 29 = some i ∧ i.size = 4 := by
  obtain ⟨-, ⟨i, h1, -, h2, -⟩, -, -⟩ := elemC
  exact ⟨i, h1, h2⟩

set_option maxRecDepth 100000 in
set_option maxHeartbeats 1000000 in
theorem delete1_c (base g n cap : Nat) (l : List C4) (w : World) (hown : w.ownsRow base 29 4 (.slice (some ⟨g, 0, none⟩) (n + 1) cap) (n + 1) (ccs l)) (hl : n ≤ 1000000) :
    Calls Try.prog 31 #[.slice (some ⟨g, 0, none⟩) (n + 1) cap, .int .i64 0, .int .i64 1] w fun e w' => e = .returned (.slice (some ⟨g, 0, none⟩) n cap) ∧
      w'.ownsRow base 29 4 (.slice (some ⟨g, 0, none⟩) n cap) n (ccs (l.drop 1)) ∧ Turn [g] w w' := by
  have hcap := (own_caps hown).1
  have hlen : l.length = n + 1 := by have := hown.1; rw [ccs_len] at this; omega
  have hc1 : 1 ≤ cap := by omega
  have hi1 : (1 : Int) ≤ (n : Int) + 1 := by omega
  have hs := (Sl.of_own hown)
  obtain ⟨off, hoff⟩ : ∃ off : Nat, off = if cap = 1 then 0 else 4 := ⟨_, rfl⟩
  have hnews : Sl w (some ⟨g, off, none⟩) (ccs (l.drop 1)) := by
    intro hp
    rw [ccs_len, List.length_drop] at hp
    rw [hoff, if_neg (by omega)]
    obtain ⟨b, off, hA, hb, hc⟩ := hs (by rw [ccs_len]; omega)
    cases hA
    refine ⟨g, 4, rfl, hb, fun j u hu => ?_⟩
    have := hc (4 + j) u (by
      cases l with
      | nil => simp [ccs] at hu
      | cons x r =>
        show (_ :: _ :: _ :: _ :: ccs r)[4 + j]? = _
        rw [show 4 + j = j + 1 + 1 + 1 + 1 by omega]
        simpa using hu)
    simpa using this
  obtain ⟨i, hi, hi4⟩ := infoC2
  have hif : (if cap = 1 then some (⟨g, 0, none⟩ : Addr) else some ⟨g, 4, none⟩) = some ⟨g, off, none⟩ := by rw [hoff]; split <;> rfl
  have hsm : ∀ w1, (Instr.slice 31 (.slice (some ⟨g, 0, none⟩) n cap) (some (.int .i64 n)) (some (.int .i64 ((n : Int) + 1))) none).run Try.prog w1 = .ok (.slice (some ⟨g, n * 4, none⟩) 1 (cap - n)) w1 := by
    intro w1
    have := run_slice_mid (P := Try.prog) Try.underlying31 hi w1 g n cap n (n + 1) (by omega) hcap
    rw [hi4, if_neg (by omega), show n + 1 - n = 1 by omega] at this
    exact this
  have HO4 := own_turnA hown ((Turn.refl [] w).drew) (by simp)
  have HN5 := Lib.hid (hnews.turn0 ((Turn.refl [] w).drew))
  have HO5 := Lib.hid HO4
  have HO := Lib.hid hown
  have hln : Hid ((ccs (l.drop 1)).length = n * 4) := by show _ = _; rw [ccs_len, List.length_drop, hlen]; rfl
  have T0g := (Turn.refl [g] w).drew
  have HOF := Lib.hid hoff
  clear hnews hs HO4 hi hi4 hown hoff
  go_enter Try.func31, Try.ntmps31
  go_wp2_with fail
  go_region_held3 (fun w' => Turn [g] w w') (first | assumption)
    (first | (refine step_append_room2 elemC (by rfl) _ _ (by rfl) g (n + 1) cap (ccs l) 0 (by rfl) HO5.out (Nat.zero_le _) ⟨g, off, none⟩ n (cap - 1) (ccs (l.drop 1)) (by rfl) HN5.out hln.out (ccs_one _) (by omega) ?_; rw [Nat.zero_add, Nat.zero_mul, List.take_zero, List.nil_append]; intro w1 hown1 hT1; have hT1' : Turn [g] w w1 := Turn.trans T0g hT1))
  all_goals
    have sm := hsm w1
    obtain ⟨w2, hr2, hown2, hT2⟩ := elemC.clear_tail zeroC zc_one 0 g n cap (ccs (l.drop 1)) hown1 (n * 4) 1 (cap - n) (fun _ => rfl) (by omega)
    go_wp2_with fail
    go_ret
    exact ⟨by simp, hown2, hT1'.trans hT2⟩

/-- What a body that deletes keeps. -/
theorem ccs_take : ∀ (l : List C4) (k : Nat), (ccs l).take (k * 4) = ccs (l.take k)
  | l, 0 => by simp [ccs]
  | [], k + 1 => by simp [ccs]
  | c :: r, k + 1 => by
    rw [show (k + 1) * 4 = k * 4 + 1 + 1 + 1 + 1 by omega]
    simp [ccs, ccs_take r k]
theorem ccs_drop : ∀ (l : List C4) (k : Nat), (ccs l).drop (k * 4) = ccs (l.drop k)
  | l, 0 => by simp
  | [], k + 1 => by simp [ccs]
  | c :: r, k + 1 => by
    rw [show (k + 1) * 4 = k * 4 + 1 + 1 + 1 + 1 by omega]
    simp [ccs, ccs_drop r k]
theorem ccs_set : ∀ (l : List C4) (k : Nat) (_ : k < l.length) (x : C4), ((((ccs l).set (k * 4) (.int .i64 x.1)).set (k * 4 + 1) (.int .i64 x.2.1)).set (k * 4 + 2) (.int .i64 x.2.2.1)).set (k * 4 + 3) (.int .i64 x.2.2.2) = ccs (l.set k x)
  | [], k, h, x => absurd h (by simp)
  | c :: r, 0, _, x => by simp [ccs]
  | c :: r, k + 1, h, x => by
    have ih := ccs_set r k (by simpa using h) x
    rw [show (k + 1) * 4 = k * 4 + 1 + 1 + 1 + 1 by omega, show k * 4 + 1 + 1 + 1 + 1 + 1 = (k * 4 + 1) + 1 + 1 + 1 + 1 by omega, show k * 4 + 1 + 1 + 1 + 1 + 2 = (k * 4 + 2) + 1 + 1 + 1 + 1 by omega, show k * 4 + 1 + 1 + 1 + 1 + 3 = (k * 4 + 3) + 1 + 1 + 1 + 1 by omega]
    simp only [ccs, List.set_cons_succ, ih]

set_option maxRecDepth 100000 in
set_option maxHeartbeats 1000000 in
theorem indexC_c (A : Option Addr) (n c : Nat) (l : List C4) (x1 x2 x3 x4 : Int) (w : World) (hx : Sl w A (ccs l)) (hn : l.length = n) (hl : n ≤ 1000000) :
    Calls Try.prog 43 #[.slice A n c, .agg #[.int .i64 x1, .int .i64 x2, .int .i64 x3, .int .i64 x4]] w fun e w' => e = .returned (.int .i64 (idxP (fun y => y == (x1, x2, x3, x4)) l)) ∧ Turn [] w w' := by
  have HN := Lib.hid hn
  clear hn
  go_enter Try.func43, Try.ntmps43
  go_wp2_with fail
  have T1 := (Turn.refl [] w).alloc (.cells #[.int .i64 x1, .int .i64 x2, .int .i64 x3, .int .i64 x4] 29)
  have BX := Blk.new w 29 #[.int .i64 x1, .int .i64 x2, .int .i64 x3, .int .i64 x4]
  generalize w.alloc (.cells #[.int .i64 x1, .int .i64 x2, .int .i64 x3, .int .i64 x4] 29) = wA at *
  go_loopw [8] (fun i wr => ∃ k : Nat, k ≤ n ∧ i = .int .i64 k ∧ Hid (∀ j, (hj : j < k) → (hl : j < l.length) → ((l[j]'hl) == (x1, x2, x3, x4)) = false) ∧ Turn [] wA wr) (fun i _ => n - (intOf i).toNat)
  case atStart => exact ⟨0, Nat.zero_le _, rfl, Lib.hid (fun j hj => absurd hj (by omega)), Turn.refl _ _⟩
  case round =>
    obtain ⟨k, hk, rfl, ht, hT⟩ := hrel
    have i0 : (0 : Int) ≤ (k : Int) := Int.natCast_nonneg _
    have B := hT.blk BX (by simp)
    have z0 := B.cell 0
    have z1 := B.cell 1
    have z2 := B.cell 2
    have z3 := B.cell 3
    have bl := B.lt
    by_cases hlt : k < n
    · have kx : k < l.length := by rw [HN.out]; exact hlt
      obtain ⟨b1, o1, rfl, l1, c0, c1, c2, c3⟩ := ccs_at (hx.turn0 (T1.trans hT)) kx
      have i1 : (k : Int) < (n : Int) := by omega
      cases hp : (l[k] == (x1, x2, x3, x4)) with
      | true =>
        have hv : Hid (idxP (fun y => y == (x1, x2, x3, x4)) l = k) := idxP_found kx (fun j hj => ht.out j hj (by omega)) hp
        have he : l[k] = (x1, x2, x3, x4) := by simpa using hp
        rw [he] at c0 c1 c2 c3
        clear hp he
        go_wp2_with fail
        go_quiet (fail)
        go_wp2_with fail
        go_ret
        exact ⟨by rw [hv.out]; simp, (T1.trans hT).drewN _⟩
      | false =>
        have hnx : Hid (∀ j, (hj : j < k + 1) → (hl : j < l.length) → ((l[j]'hl) == (x1, x2, x3, x4)) = false) := fun j hj hl => by
          by_cases h : j = k
          · subst h; exact hp
          · exact ht.out j (by omega) hl
        generalize l[k] = y at *
        obtain ⟨y1, y2, y3, y4⟩ := y
        simp only at c0 c1 c2 c3
        have hne : y1 ≠ x1 ∨ (y1 = x1 ∧ y2 ≠ x2) ∨ (y1 = x1 ∧ y2 = x2 ∧ y3 ≠ x3) ∨ (y1 = x1 ∧ y2 = x2 ∧ y3 = x3 ∧ y4 ≠ x4) := by
          have : ¬ (y1 = x1 ∧ y2 = x2 ∧ y3 = x3 ∧ y4 = x4) := by simpa using hp
          by_cases e1 : y1 = x1
          · by_cases e2 : y2 = x2
            · by_cases e3 : y3 = x3
              · exact .inr (.inr (.inr ⟨e1, e2, e3, fun e4 => this ⟨e1, e2, e3, e4⟩⟩))
              · exact .inr (.inr (.inl ⟨e1, e2, e3⟩))
            · exact .inr (.inl ⟨e1, e2⟩)
          · exact .inl e1
        clear hp
        rcases hne with h1 | ⟨rfl, h1⟩ | ⟨rfl, rfl, h1⟩ | ⟨rfl, rfl, rfl, h1⟩
        all_goals
          have h2 := Ne.symm h1
          go_wp2_with fail
          go_quiet (fail)
          go_wp2_with fail
          go_roundw
          case rel => exact ⟨k + 1, by omega, by go_num, hnx, hT.drewN _⟩
          case measure => simp [intOf]; omega
    · have hv : Hid (idxP (fun y => y == (x1, x2, x3, x4)) l = -1) := idxP_none (fun j hj => ht.out j (by have := HN.out; omega) hj)
      have i1 : ¬ (k : Int) < (n : Int) := by omega
      go_wp2_with fail
      go_ret
      exact ⟨by rw [hv.out]; simp, T1.trans hT⟩
end Go.Proofs.Ytpdencmgjihnfaa
