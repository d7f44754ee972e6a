/- Slices of claims: Clone, IndexFunc, ContainsFunc. -/
import Derived.Test.YtpdencmgjihnfaaClaims
namespace Go.Proofs.Ytpdencmgjihnfaa
open Go.RowKit Go.ChangeMaps

theorem ccs_len : ∀ l : List C4, (ccs l).length = l.length * 4
  | [] => rfl
  | c :: r => by simp [ccs, ccs_len r]; omega
theorem ccs_append : ∀ l m : List C4, ccs (l ++ m) = ccs l ++ ccs m
  | [], m => rfl
  | c :: r, m => by simp [ccs, ccs_append r m]
theorem ccs_one : ∀ l : List C4, ∀ u ∈ ccs l, u.oneCell' = true
  | [] => by simp [ccs]
  | c :: r => by
    intro u hu
    simp only [ccs, List.mem_cons] at hu
    rcases hu with rfl | rfl | rfl | rfl | hu
    · rfl
    · rfl
    · rfl
    · rfl
    · exact ccs_one r u hu
theorem ccs_get : ∀ (l : List C4) (k : Nat) (hk : k < l.length), (ccs l)[k * 4]? = some (.int .i64 l[k].1) ∧ (ccs l)[k * 4 + 1]? = some (.int .i64 l[k].2.1) ∧ (ccs l)[k * 4 + 2]? = some (.int .i64 l[k].2.2.1) ∧ (ccs l)[k * 4 + 3]? = some (.int .i64 l[k].2.2.2)
  | [], k, hk => absurd hk (by simp)
  | c :: r, 0, hk => ⟨rfl, rfl, rfl, rfl⟩
  | c :: r, k + 1, hk => by
    have h := ccs_get r k (by simpa using hk)
    have e : (k + 1) * 4 = k * 4 + 4 := by omega
    have e1 : (k + 1) * 4 + 1 = (k * 4 + 1) + 4 := by omega
    have e2 : (k + 1) * 4 + 2 = (k * 4 + 2) + 4 := by omega
    have e3 : (k + 1) * 4 + 3 = (k * 4 + 3) + 4 := by omega
    rw [e1, e2, e3, e]
    exact h
theorem ccs_at {w : World} {A : Option Addr} {l : List C4} (h : Sl w A (ccs l)) {k : Nat} (hk : k < l.length) : ∃ b off, A = some ⟨b, off, none⟩ ∧ b < w.heap.size ∧ w.cell? ⟨b, off + k * 4, none⟩ = some (.int .i64 l[k].1) ∧ w.cell? ⟨b, off + k * 4 + 1, none⟩ = some (.int .i64 l[k].2.1) ∧
    w.cell? ⟨b, off + k * 4 + 2, none⟩ = some (.int .i64 l[k].2.2.1) ∧ w.cell? ⟨b, off + k * 4 + 3, none⟩ = some (.int .i64 l[k].2.2.2) := by
  obtain ⟨b, off, hA, hb, hc⟩ := h (by rw [ccs_len]; omega)
  obtain ⟨g0, g1, g2, g3⟩ := ccs_get l k hk
  exact ⟨b, off, hA, hb, hc _ _ g0, by rw [Nat.add_assoc]; exact hc _ _ g1, by rw [Nat.add_assoc]; exact hc _ _ g2, by rw [Nat.add_assoc]; exact hc _ _ g3⟩

def zc : Value := .agg #[.int .i64 0, .int .i64 0, .int .i64 0, .int .i64 0]
theorem infoC : (Try.prog.info? 29).map (fun i => (i.zero, i.size, i.bytes)) = some (some zc, 4, 32) := by kernel_rfl
theorem elemC : ElemT Try.prog 31 29 zc 4 32 := ⟨Try.underlying31, info_parts infoC, rfl, by decide⟩

/-- A new slice of claims. -/
def NewCs (w : World) (n : Nat) (l : List C4) (e : Ending) (w' : World) : Prop :=
  ∃ A' c', e = .returned (.slice A' n c') ∧ w'.ownsRow w.heap.size 29 4 (.slice A' n c') n (ccs l) ∧ Turn [] w w'

set_option maxHeartbeats 1000000 in
theorem cloneC_c (A : Option Addr) (n c : Nat) (l : List C4) (w : World) (hx : Sl w A (ccs l)) (hn : l.length = n) (hl : n ≤ 1000000000000) :
    Calls Try.prog 27 #[.slice A n c] w (NewCs w n l) := by
  have isnil := run_is_nil (P := Try.prog) Try.underlying31
  cases A with
  | none =>
    have h0 : l = [] := by
      rcases Nat.eq_zero_or_pos l.length with h | h
      · exact List.eq_nil_of_length_eq_zero h
      · obtain ⟨b, off, hA, _⟩ := hx (by rw [ccs_len]; omega)
        cases hA
    subst h0
    subst hn
    go_enter Try.func27, Try.ntmps27
    go_wp2_with fail
    go_ret
    exact ⟨none, 0, by simp, World.ownsRow_nil _ _ _ _, Turn.refl _ _⟩
  | some a =>
    have HN := Lib.hid hn
    clear hn
    go_enter Try.func27, Try.ntmps27
    have hone := Lib.hid (ccs_one l)
    have hxl : Hid ((ccs l).length = n * 4) := by
      show (ccs l).length = n * 4
      rw [ccs_len, HN.out]
    have h0 := World.ownsRow_lit (base := w.heap.size) (e := 29) (size := 4) w #[] 0 (Nat.le_refl _) (by simp) rfl
    have H0 := Lib.hid h0
    clear h0
    go_wp2_with (at_builtin; refine wpList_append_sl elemC rfl _ _ rfl _ 0 _ [] rfl H0.out _ n c (ccs l) rfl (hx.alloc _) hxl.out hone.out (by omega) (by omega) (by simp) ?_; intro A' c' w1 hown hg hlie)
    go_ret
    exact ⟨A', c', by simp, by simpa using hown, ((Turn.refl [] w).alloc _).andThen (Turn.of_grown (S := [w.heap.size]) hg (by simp)) (by simp)⟩

/-- IndexFunc's answer. -/
def idxP (p : C4 → Bool) (l : List C4) : Int := ((l.findIdx? p).map (fun i => (i : Int))).getD (-1)
theorem idxP_ge (p : C4 → Bool) (l : List C4) : decide (0 ≤ idxP p l) = l.any p := by
  unfold idxP
  cases h : l.findIdx? p with
  | none =>
    have h2 : l.any p = false := by
      rw [List.any_eq_false]
      intro x hx
      simp [List.findIdx?_eq_none_iff.1 h x hx]
    rw [h2]
    rfl
  | some i =>
    obtain ⟨hi, hp, _⟩ := List.findIdx?_eq_some_iff_getElem.1 h
    have h2 : l.any p = true := List.any_eq_true.2 ⟨l[i], List.getElem_mem hi, hp⟩
    rw [h2]
    exact decide_eq_true (Int.natCast_nonneg _)
theorem idxP_found {p : C4 → Bool} {l : List C4} {k : Nat} (hk : k < l.length) (h0 : ∀ j, (hj : j < k) → p (l[j]'(by omega)) = false) (hp : p l[k] = true) : idxP p l = k := by
  have h : l.findIdx? p = some k := by
    rw [List.findIdx?_eq_some_iff_getElem]
    exact ⟨hk, hp, fun j hj => by simpa using h0 j hj⟩
  simp [idxP, h]
theorem idxP_none {p : C4 → Bool} {l : List C4} (h0 : ∀ j, (hj : j < l.length) → p l[j] = false) : idxP p l = -1 := by
  have h : l.findIdx? p = none := by
    rw [List.findIdx?_eq_none_iff]
    intro x hx
    obtain ⟨j, hj, rfl⟩ := List.getElem_of_mem hx
    exact h0 j hj
  simp [idxP, h]

set_option maxRecDepth 100000 in
set_option maxHeartbeats 1000000 in
theorem indexF_c (F : FuncId) (v : Value) (p : C4 → Bool) (A : Option Addr) (n c : Nat) (l : List C4) (w : World) (hx : Sl w A (ccs l)) (hn : l.length = n) (hl : n ≤ 9223372036854775806)
    (hF : ∀ args w, (callFunc F args).run Try.prog w = .ok (.enter F args) w) (H : ∀ wz, Turn [] w wz → ∀ x1 x2 x3 x4 : Int, Calls Try.prog F #[.agg #[.int .i64 x1, .int .i64 x2, .int .i64 x3, .int .i64 x4], v] wz fun e w' => e = .returned (.bool (p (x1, x2, x3, x4))) ∧ Turn [] wz w') :
    Calls Try.prog 42 #[.slice A n c, .func (.func F) #[] #[v]] w fun e w' => e = .returned (.int .i64 (idxP p l)) ∧ Turn [] w w' := by
  have HN := Lib.hid hn
  have HH := Lib.hid H
  clear hn H
  go_enter Try.func42, Try.ntmps42
  go_wp2_with fail
  go_loopw [8] (fun i wr => ∃ k : Nat, k ≤ n ∧ i = .int .i64 k ∧ Hid (∀ j, (hj : j < k) → (hl : j < l.length) → p (l[j]'hl) = false) ∧ Turn [] w wr) (fun i _ => n - (intOf i).toNat)
  case atStart => exact ⟨0, Nat.zero_le _, rfl, Lib.hid (fun j hj => absurd hj (by omega)), Turn.refl _ _⟩
  case round =>
    obtain ⟨k, hk, rfl, ht, hT⟩ := hrel
    have i0 : (0 : Int) ≤ (k : Int) := Int.natCast_nonneg _
    by_cases hlt : k < n
    · have kx : k < l.length := by rw [HN.out]; exact hlt
      obtain ⟨b1, o1, rfl, l1, c0, c1, c2, c3⟩ := ccs_at (hx.turn0 hT) kx
      have i1 : (k : Int) < (n : Int) := by omega
      have HC := Lib.hid (HH.out wr hT l[k].1 l[k].2.1 l[k].2.2.1 l[k].2.2.2)
      cases hp : p l[k] with
      | true =>
        have hv : Hid (idxP p l = k) := idxP_found kx (fun j hj => ht.out j hj (by omega)) hp
        have HP : Hid (p (l[k].1, l[k].2.1, l[k].2.2.1, l[k].2.2.2) = true) := hp
        clear hp
        generalize l[k] = x at *
        obtain ⟨x1, x2, x3, x4⟩ := x
        simp only at c0 c1 c2 c3 HC HP
        go_wp2_with fail
        refine HC.out.mono ?_
        rw [HP.out]
        rintro e w2 ⟨rfl, hT2⟩
        go_wp2_with fail
        go_ret
        exact ⟨by rw [hv.out]; simp, hT.trans hT2⟩
      | false =>
        have hnx : Hid (∀ j, (hj : j < k + 1) → (hl : j < l.length) → p (l[j]'hl) = false) := fun j hj hl => by
          by_cases h : j = k
          · subst h; exact hp
          · exact ht.out j (by omega) hl
        have HP : Hid (p (l[k].1, l[k].2.1, l[k].2.2.1, l[k].2.2.2) = false) := hp
        clear hp
        generalize l[k] = x at *
        obtain ⟨x1, x2, x3, x4⟩ := x
        simp only at c0 c1 c2 c3 HC HP
        go_wp2_with fail
        refine HC.out.mono ?_
        rw [HP.out]
        rintro e w2 ⟨rfl, hT2⟩
        go_wp2_with fail
        go_roundw
        case rel => exact ⟨k + 1, by omega, by go_num, hnx, hT.trans hT2⟩
        case measure => simp [intOf]; omega
    · have hv : Hid (idxP p l = -1) := idxP_none (fun j hj => ht.out j (by have := HN.out; omega) hj)
      have i1 : ¬ (k : Int) < (n : Int) := by omega
      go_wp2_with fail
      go_ret
      exact ⟨by rw [hv.out]; simp, hT⟩

theorem enter38 (args : Array Value) (w : World) : (callFunc 38 args).run Try.prog w = .ok (.enter 38 args) w := by kernel_rfl
theorem containsF_c (F : FuncId) (v : Value) (p : C4 → Bool) (A : Option Addr) (n c : Nat) (l : List C4) (w : World) (hx : Sl w A (ccs l)) (hn : l.length = n) (hl : n ≤ 9223372036854775806)
    (hF : ∀ args w, (callFunc F args).run Try.prog w = .ok (.enter F args) w) (H : ∀ wz, Turn [] w wz → ∀ x1 x2 x3 x4 : Int, Calls Try.prog F #[.agg #[.int .i64 x1, .int .i64 x2, .int .i64 x3, .int .i64 x4], v] wz fun e w' => e = .returned (.bool (p (x1, x2, x3, x4))) ∧ Turn [] wz w') :
    Calls Try.prog 40 #[.slice A n c, .func (.func F) #[] #[v]] w fun e w' => e = .returned (.bool (l.any p)) ∧ Turn [] w w' := by
  have HI := Lib.hid (indexF_c F v p A n c l w hx hn hl hF H)
  have hge := Lib.hid (idxP_ge p l)
  clear hn H
  go_enter Try.func40, Try.ntmps40
  go_wp2_with fail
  refine HI.out.mono ?_
  generalize idxP p l = r at *
  rintro e w1 ⟨rfl, hT⟩
  go_wp2_with fail
  go_ret
  exact ⟨by rw [← hge.out]; simp, hT⟩
end Go.Proofs.Ytpdencmgjihnfaa
