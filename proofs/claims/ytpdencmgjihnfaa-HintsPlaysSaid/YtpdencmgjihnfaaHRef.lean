/- Contracts of the document's hints: Right, senders, Drop, Same. -/
import Derived.Test.YtpdencmgjihnfaaDelF
import Derived.Test.YtpdencmgjihnfaaRefQ
namespace Go.Proofs.Ytpdencmgjihnfaa
open Go.RowKit Go.ChangeMaps

set_option maxRecDepth 100000 in
set_option maxHeartbeats 1000000 in
theorem rightR_c (a b c d : Int) (w : World) : Calls Try.prog 12 #[.agg #[.int .i64 a, .int .i64 b, .int .i64 c, .int .i64 d]] w fun e w' => e = .returned (.bool (decide (Right (a, b, c, d)))) ∧ Turn [] w w' := by
  have T1 := (Turn.refl [] w).alloc (.cells #[.int .i64 a, .int .i64 b, .int .i64 c, .int .i64 d] 37)
  have hv : ∀ b1 : Bool, (b1 = true ↔ Right (a, b, c, d)) → Ending.returned (.bool b1) = .returned (.bool (decide (Right (a, b, c, d)))) := fun b1 h => by
    cases b1 <;> simp_all
  have HV := Lib.hid hv
  clear hv
  go_enter Try.func12, Try.ntmps12
  go_wp2_with fail
  all_goals
    go_ret
    exact ⟨HV.out _ (by simp [Right]; omega), T1⟩

set_option maxRecDepth 100000 in
set_option maxHeartbeats 2000000 in
theorem senders_c (A : Option Addr) (n c : Nat) (l : TL) (w : World) (hx : Sl w A (tcs l)) (hn : l.length = n) (hl : n ≤ 1000000) :
    Calls Try.prog 30 #[.slice A n c] w fun e w' => e = .returned (.int .i64 (cntL l)) ∧ Turn [] w w' := by
  have HN := Lib.hid hn
  clear hn
  go_enter Try.func30, Try.ntmps30
  go_wp2_with fail
  go_loopw [3, 4] (fun x i wr => ∃ k : Nat, k ≤ n ∧ i = .int .i64 k ∧ x = .int .i64 (cntL (l.take k)) ∧ Turn [] w wr) (fun _ i _ => n - (intOf i).toNat)
  case atStart => exact ⟨0, Nat.zero_le _, rfl, rfl, Turn.refl _ _⟩
  case round =>
    obtain ⟨k, hk, rfl, rfl, hT⟩ := hrel
    obtain ⟨w0, rfl⟩ : ∃ wo : World, wo = wr := ⟨_, rfl⟩
    have i0 : (0 : Int) ≤ (k : Int) := Int.natCast_nonneg _
    by_cases hlt : k < n
    · have kx : k < l.length := by rw [HN.out]; exact hlt
      have i1 : (k : Int) < (n : Int) := by omega
      have s1 := cntL_snoc (l.take k) l[k]
      rw [← List.take_succ_eq_append_getElem kx] at s1
      have hq : cntL (l.take k) ≤ k := Nat.le_trans (cntL_le _) (by rw [List.length_take]; omega)
      generalize cntL (l.take k) = q at *
      have S1 := Lib.hid s1
      clear s1
      obtain ⟨y, hy⟩ : ∃ y, l[k] = y := ⟨_, rfl⟩
      have KY := Lib.hid hy
      clear hy
      go_wp2_with fail
      go_loopw [5, 6] (fun b j wz => ∃ m : Nat, m ≤ k ∧ j = .int .i64 m ∧ b = .bool ((l.take m).all (fun z => z.1 != l[k].1)) ∧ Turn [] w wz) (fun _ j _ => k - (intOf j).toNat)
      case atStart => exact ⟨0, Nat.zero_le _, rfl, rfl, hT⟩
      case round =>
        obtain ⟨m, hm, rfl, rfl, hTy⟩ := hrel
        have j0 : (0 : Int) ≤ (m : Int) := Int.natCast_nonneg _
        by_cases hml : m < k
        · have j1 : (m : Int) < (k : Int) := by omega
          have j2 : (m : Int) < (n : Int) := by omega
          have mx : m < l.length := by omega
          obtain ⟨b2, o2, e2, l2, d0, -⟩ := tcs_at (hx.turn0 hTy) kx
          obtain ⟨b1, o1, rfl, l1, c0, -⟩ := tcs_at (hx.turn0 hTy) mx
          cases e2
          have hst : Hid ((l.take (m + 1)).all (fun z => z.1 != l[k].1) = ((l.take m).all (fun z => z.1 != l[k].1) && (l[m].1 != l[k].1))) := by
            show _ = _
            rw [List.take_succ_eq_append_getElem mx, List.all_append]
            simp
          generalize l[k].1 = ys at *
          generalize l[m].1 = zs at *
          generalize (l.take m).all (fun z => z.1 != ys) = bb at *
          cases bb with
          | false =>
            go_wp2_with fail
            go_quiet (fail)
            go_wp2_with fail
            go_roundw
            case rel => exact ⟨m + 1, by omega, by go_num, by rw [hst.out]; rfl, hTy.drewN _⟩
            case measure => simp [intOf]; omega
          | true =>
            go_wp2_with fail
            go_quiet (fail)
            go_wp2_with fail
            go_roundw
            case rel => exact ⟨m + 1, by omega, by go_num, by rw [hst.out]; simp, hTy.drewN _⟩
            case measure => simp [intOf]; omega
        · obtain rfl : m = k := by omega
          have j1 : ¬ (m : Int) < (m : Int) := by omega
          cases hb : (l.take m).all (fun z => z.1 != l[m].1) with
          | false =>
            have hv : Hid (cntL (l.take (m + 1)) = q) := by show _ = _; rw [S1.out, hb]; rfl
            clear hb
            go_wp2_with fail
            go_roundw
            case rel => exact ⟨m + 1, by omega, by go_num, by rw [hv.out], hTy⟩
            case measure => simp [intOf]; omega
          | true =>
            have hv : Hid (cntL (l.take (m + 1)) = q + 1) := by show _ = _; rw [S1.out, hb]; rfl
            clear hb
            go_wp2_with fail
            go_roundw
            case rel => exact ⟨m + 1, by omega, by go_num, by rw [hv.out]; go_num, hTy⟩
            case measure => simp [intOf]; omega
    · obtain rfl : k = n := by omega
      have i1 : ¬ (k : Int) < (k : Int) := by omega
      have ht : l.take k = l := List.take_of_length_le (by rw [HN.out]; exact Nat.le_refl _)
      rw [ht]
      clear ht
      go_wp2_with fail
      go_ret
      exact ⟨by simp, hT⟩

set_option maxRecDepth 100000 in
set_option maxHeartbeats 1000000 in
theorem sameC_c (A B : Option Addr) (n c1 c2 : Nat) (l : List C4) (w : World) (hx : Sl w A (ccs l)) (hy : Sl w B (ccs l)) (hn : l.length = n) (hl : n ≤ 1000000) :
    Calls Try.prog 23 #[.slice A n c1, .slice B n c2] w fun e w' => e = .returned (.bool true) ∧ Turn [] w w' := by
  have HN := Lib.hid hn
  clear hn
  go_enter Try.func23, Try.ntmps23
  go_wp2_with fail
  go_loopw [5] (fun i wr => ∃ k : Nat, k ≤ n ∧ i = .int .i64 k ∧ Turn [] w wr) (fun i _ => n - (intOf i).toNat)
  case atStart => exact ⟨0, Nat.zero_le _, rfl, Turn.refl _ _⟩
  case round =>
    obtain ⟨k, hk, rfl, hT⟩ := hrel
    have i0 : (0 : Int) ≤ (k : Int) := Int.natCast_nonneg _
    by_cases hlt : k < n
    · have kx : k < l.length := by rw [HN.out]; exact hlt
      have i1 : (k : Int) < (n : Int) := by omega
      obtain ⟨b1, o1, rfl, l1, c0, c1, c2, c3⟩ := ccs_at (hx.turn0 hT) kx
      obtain ⟨b2, o2, rfl, l2, d0, d1, d2, d3⟩ := ccs_at (hy.turn0 hT) kx
      generalize l[k] = x at *
      obtain ⟨x1, x2, x3, x4⟩ := x
      simp only at c0 c1 c2 c3 d0 d1 d2 d3
      have T0 := (Turn.refl [] wr).drew
      have A1 : ∀ wz, Turn [] wr wz → (wz.cell? ⟨b1, o1 + k * 4, none⟩ = some (.int .i64 x1) ∧ wz.cell? ⟨b1, o1 + k * 4 + 1, none⟩ = some (.int .i64 x2) ∧ wz.cell? ⟨b1, o1 + k * 4 + 2, none⟩ = some (.int .i64 x3) ∧ wz.cell? ⟨b1, o1 + k * 4 + 3, none⟩ = some (.int .i64 x4) ∧
          wz.cell? ⟨b2, o2 + k * 4, none⟩ = some (.int .i64 x1) ∧ wz.cell? ⟨b2, o2 + k * 4 + 1, none⟩ = some (.int .i64 x2) ∧ wz.cell? ⟨b2, o2 + k * 4 + 2, none⟩ = some (.int .i64 x3) ∧ wz.cell? ⟨b2, o2 + k * 4 + 3, none⟩ = some (.int .i64 x4) ∧ Turn [] wr wz) := fun wz hz =>
        ⟨(hz.cell l1 (by simp)).trans c0, (hz.cell l1 (by simp)).trans c1, (hz.cell l1 (by simp)).trans c2, (hz.cell l1 (by simp)).trans c3, (hz.cell l2 (by simp)).trans d0, (hz.cell l2 (by simp)).trans d1, (hz.cell l2 (by simp)).trans d2, (hz.cell l2 (by simp)).trans d3, hz⟩
      go_wp2_with fail
      go_region_held3 (fun w' => w'.cell? ⟨b1, o1 + k * 4, none⟩ = some (.int .i64 x1) ∧ w'.cell? ⟨b1, o1 + k * 4 + 1, none⟩ = some (.int .i64 x2) ∧ w'.cell? ⟨b1, o1 + k * 4 + 2, none⟩ = some (.int .i64 x3) ∧ w'.cell? ⟨b1, o1 + k * 4 + 3, none⟩ = some (.int .i64 x4) ∧
          w'.cell? ⟨b2, o2 + k * 4, none⟩ = some (.int .i64 x1) ∧ w'.cell? ⟨b2, o2 + k * 4 + 1, none⟩ = some (.int .i64 x2) ∧ w'.cell? ⟨b2, o2 + k * 4 + 2, none⟩ = some (.int .i64 x3) ∧ w'.cell? ⟨b2, o2 + k * 4 + 3, none⟩ = some (.int .i64 x4) ∧ Turn [] wr w') (first | exact A1 _ (by assumption))
        ((refine (of_c x1 x2 x3 x4 _).mono ?_; rintro e w1 ⟨rfl, hT1⟩; have hT1' : Turn [] wr w1 := Turn.trans T0 hT1))
      all_goals
        go_wp2_with fail
        go_roundw
        case rel => exact ⟨k + 1, by omega, by go_num, hT.trans hT1'⟩
        case measure => simp [intOf]; omega
    · obtain rfl : k = n := by omega
      have i1 : ¬ (k : Int) < (k : Int) := by omega
      go_wp2_with fail
      go_ret
      exact ⟨by simp, hT⟩
end Go.Proofs.Ytpdencmgjihnfaa
