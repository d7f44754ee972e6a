/- slices.IndexFunc, ContainsFunc at []int. -/
import Derived.Test.YtiijgokgojjocaaI64
namespace Go.Proofs.Ytiijgokgojjocaa
open Go.RowKit Go.ChangeMaps

/-- IndexFunc's answer. -/
def idxI (p : Int → Bool) (l : List Int) : Int := ((l.findIdx? p).map (fun i => (i : Int))).getD (-1)
theorem idxI_ge (p : Int → Bool) (l : List Int) : decide (0 ≤ idxI p l) = l.any p := by
  unfold idxI
  cases h : l.findIdx? p with
  | none =>
    rw [List.findIdx?_eq_none_iff] at h
    have : l.any p = false := by
      rw [List.any_eq_false]
      intro x hx
      simp [h x hx]
    rw [this]
    rfl
  | some i =>
    obtain ⟨hi, hp, -⟩ := List.findIdx?_eq_some_iff_getElem.1 h
    have : l.any p = true := List.any_eq_true.2 ⟨_, List.getElem_mem hi, hp⟩
    rw [this]
    simp
theorem idxI_found {p : Int → Bool} {l : List Int} {k : Nat} (hk : k < l.length) (h0 : ∀ j, (hj : j < k) → p (l[j]'(by omega)) = false) (hp : p l[k] = true) : idxI p l = k := by
  have h : l.findIdx? p = some k := by
    rw [List.findIdx?_eq_some_iff_getElem]
    exact ⟨hk, hp, fun j hj => by simp [h0 j hj]⟩
  simp [idxI, h]
theorem idxI_none {p : Int → Bool} {l : List Int} (h0 : ∀ j, (hj : j < l.length) → p l[j] = false) : idxI p l = -1 := by
  have h : l.findIdx? p = none := by
    rw [List.findIdx?_eq_none_iff]
    intro x hx
    obtain ⟨j, hj, rfl⟩ := List.mem_iff_getElem.1 hx
    exact h0 j hj
  simp [idxI, h]
set_option maxRecDepth 100000 in
set_option maxHeartbeats 1000000 in
theorem indexI_c (F : FuncId) (p : Int → Bool) (A : Option Addr) (n c : Nat) (l : List Int) (w : World) (hx : Sl w A (i64s l)) (hn : l.length = n) (hl : n ≤ 9223372036854775806)
    (hF : ∀ args w, (callFunc F args).run Try.prog w = .ok (.enter F args) w) (H : ∀ wz, Turn [] w wz → ∀ x : Int, Calls Try.prog F #[.int .i64 x] wz fun e w' => e = .returned (.bool (p x)) ∧ Turn [] wz w') :
    Calls Try.prog 50 #[.slice A n c, .func (.func F) #[] #[]] w fun e w' => e = .returned (.int .i64 (idxI p l)) ∧ Turn [] w w' := by
  have HN := Lib.hid hn
  have HH := Lib.hid H
  clear hn H
  go_enter Try.func50, Try.ntmps50
  go_wp2_with fail
  go_loopw [8] (fun i wr => ∃ k : Nat, k ≤ n ∧ i = .int .i64 k ∧ Hid (∀ j, (hj : j < k) → (hl : j < l.length) → p (l[j]'hl) = false) ∧ Turn [] w wr) (fun i _ => n - (intOf i).toNat)
  case atStart => exact ⟨0, Nat.zero_le _, rfl, Lib.hid (fun j hj => absurd hj (by omega)), Turn.refl _ _⟩
  case round =>
    obtain ⟨k, hk, rfl, ht, hT⟩ := hrel
    have i0 : (0 : Int) ≤ (k : Int) := Int.natCast_nonneg _
    by_cases hlt : k < n
    · have kx : k < l.length := by rw [HN.out]; exact hlt
      obtain ⟨b1, o1, rfl, l1, c0⟩ := i64s_at (hx.turn0 hT) kx
      have i1 : (k : Int) < (n : Int) := by omega
      have HC := Lib.hid (HH.out wr hT l[k])
      cases hp : p l[k] with
      | true =>
        have hv : Hid (idxI p l = k) := idxI_found kx (fun j hj => ht.out j hj (by omega)) hp
        have HP : Hid (p l[k] = true) := hp
        clear hp
        generalize l[k] = x at *
        go_wp2_with fail
        refine HC.out.mono ?_
        rw [HP.out]
        rintro e w2 ⟨rfl, hT2⟩
        go_wp2_with fail
        go_ret
        exact ⟨by rw [hv.out]; simp, hT.trans hT2⟩
      | false =>
        have hnx : Hid (∀ j, (hj : j < k + 1) → (hl : j < l.length) → p (l[j]'hl) = false) := fun j hj hl => by
          by_cases h : j = k
          · subst h; exact hp
          · exact ht.out j (by omega) hl
        have HP : Hid (p l[k] = false) := hp
        clear hp
        generalize l[k] = x at *
        go_wp2_with fail
        refine HC.out.mono ?_
        rw [HP.out]
        rintro e w2 ⟨rfl, hT2⟩
        go_wp2_with fail
        go_roundw
        case rel => exact ⟨k + 1, by omega, by go_num, hnx, hT.trans hT2⟩
        case measure => simp [intOf]; omega
    · obtain rfl : k = n := by omega
      have hv : Hid (idxI p l = -1) := idxI_none (fun j hj => ht.out j (by rw [← HN.out]; exact hj) hj)
      go_wp2_with fail
      go_ret
      exact ⟨by rw [hv.out]; simp, hT⟩
theorem containsFI_c (F : FuncId) (p : Int → Bool) (A : Option Addr) (n c : Nat) (l : List Int) (w : World) (hx : Sl w A (i64s l)) (hn : l.length = n) (hl : n ≤ 9223372036854775806)
    (hF : ∀ args w, (callFunc F args).run Try.prog w = .ok (.enter F args) w) (H : ∀ wz, Turn [] w wz → ∀ x : Int, Calls Try.prog F #[.int .i64 x] wz fun e w' => e = .returned (.bool (p x)) ∧ Turn [] wz w') :
    Calls Try.prog 46 #[.slice A n c, .func (.func F) #[] #[]] w fun e w' => e = .returned (.bool (l.any p)) ∧ Turn [] w w' := by
  have HI := Lib.hid (indexI_c F p A n c l w hx hn hl hF H)
  have hge := Lib.hid (idxI_ge p l)
  clear hn H
  go_enter Try.func46, Try.ntmps46
  go_wp2_with fail
  refine HI.out.mono ?_
  generalize idxI p l = r at *
  rintro e w1 ⟨rfl, hT⟩
  go_wp2_with fail
  go_ret
  exact ⟨by rw [← hge.out]; simp, hT⟩
end Go.Proofs.Ytiijgokgojjocaa
