/- Contracts: quota.Allows, slices.Clone at []byte, quota.Fit. -/
import Derived.Test.YtjjhmedbekfkoaaSame
import Derived.WalkMore
import Derived.Deep.LoopGhost
namespace Go.Proofs.Ytjjhmedbekfkoaa
open Go.RowKit Go.ChangeMaps

def allowsB (i o : Int) : Bool := decide (0 ≤ i ∧ i ≤ 2147483647 ∧ 0 ≤ o ∧ o ≤ 2147483647 ∧ o ≤ 3 * i)

set_option maxHeartbeats 1000000 in
theorem allows_c (i o : Int) (w : World) : Calls Try.prog 12 #[.int .i64 i, .int .i64 o] w fun e w' => e = .returned (.bool (allowsB i o)) ∧ w = w' := by
  by_cases h1 : 0 ≤ i
  · by_cases h2 : i ≤ 2147483647
    · by_cases h3 : 0 ≤ o
      · by_cases h4 : o ≤ 2147483647
        · by_cases h5 : o ≤ 3 * i
          · have hv : Hid (allowsB i o = true) := by show allowsB i o = true; unfold allowsB; simp [h1, h2, h3, h4, h5]
            go_enter Try.func12, Try.ntmps12
            go_wp2_with fail
            go_ret
            exact ⟨by rw [hv.out]; simp, rfl⟩
          · have hv : Hid (allowsB i o = false) := by show allowsB i o = false; unfold allowsB; simp [h5]
            go_enter Try.func12, Try.ntmps12
            go_wp2_with fail
            go_ret
            exact ⟨by rw [hv.out]; simp, rfl⟩
        · have hv : Hid (allowsB i o = false) := by show allowsB i o = false; unfold allowsB; simp [h4]
          go_enter Try.func12, Try.ntmps12
          go_wp2_with fail
          go_ret
          exact ⟨by rw [hv.out]; simp, rfl⟩
      · have hv : Hid (allowsB i o = false) := by show allowsB i o = false; unfold allowsB; simp [h3]
        go_enter Try.func12, Try.ntmps12
        go_wp2_with fail
        go_ret
        exact ⟨by rw [hv.out]; simp, rfl⟩
    · have hv : Hid (allowsB i o = false) := by show allowsB i o = false; unfold allowsB; simp [h2]
      go_enter Try.func12, Try.ntmps12
      go_wp2_with fail
      go_ret
      exact ⟨by rw [hv.out]; simp, rfl⟩
  · have hv : Hid (allowsB i o = false) := by show allowsB i o = false; unfold allowsB; simp [h1]
    go_enter Try.func12, Try.ntmps12
    go_wp2_with fail
    go_ret
    exact ⟨by rw [hv.out]; simp, rfl⟩

theorem infoU8 : (Try.prog.info? 5).map (fun i => (i.zero, i.size, i.bytes)) = some (some (.int .u8 0), 1, 1) := by kernel_rfl

theorem elemB : ElemT Try.prog 35 5 (.int .u8 0) 1 1 := ⟨Try.underlying35, info_parts infoU8, rfl, by decide⟩

/-- Clone at []byte. -/
def Cloned (w : World) (n : Nat) (xs : List Int) (e : Ending) (w' : World) : Prop :=
  ∃ A' c', e = .returned (.slice A' n c') ∧ Sl w' A' (u8s xs) ∧ Turn [] w w' ∧ ∀ a, A' = some a → w.heap.size ≤ a.block

set_option maxHeartbeats 1000000 in
theorem cloneB_c (A : Option Addr) (n c : Nat) (xs : List Int) (w : World) (hx : Sl w A (u8s xs)) (hn : xs.length = n) (hl : n ≤ 140737488355328) :
    Calls Try.prog 26 #[.slice A n c] w (Cloned w n xs) := by
  obtain ⟨i0, hi, hz0, hz1, hz2⟩ := info_parts infoU8
  have isnil := run_is_nil (P := Try.prog) Try.underlying35
  cases A with
  | none =>
    have h0 : xs = [] := by
      rcases Nat.eq_zero_or_pos xs.length with h | h
      · exact List.eq_nil_of_length_eq_zero h
      · obtain ⟨b, off, hA, _⟩ := hx (by rw [u8s_len]; exact h)
        cases hA
    subst h0
    subst hn
    go_enter Try.func26, Try.ntmps26
    go_wp2_with fail
    go_ret
    exact ⟨none, 0, by simp, Sl.nil _ _, Turn.refl _ _, by simp⟩
  | some a =>
    have HN := Lib.hid hn
    clear hn
    go_enter Try.func26, Try.ntmps26
    have hone : ∀ u ∈ u8s xs, u.oneCell' = true := by
      intro u hu
      obtain ⟨x, _, rfl⟩ := List.mem_map.1 hu
      rfl
    have hxl : Hid ((u8s xs).length = n * 1) := by
      show (u8s xs).length = n * 1
      rw [u8s_len, HN.out, Nat.mul_one]
    have h0 := World.ownsRow_lit (base := w.heap.size) (e := 5) (size := 1) w #[] 0 (Nat.le_refl _) (by simp) rfl
    have H0 := Lib.hid h0
    clear h0 hi hz0 hz1 hz2
    go_wp2_with (at_builtin; refine wpList_append_sl elemB rfl _ _ rfl _ 0 _ [] rfl H0.out _ n c (u8s xs) rfl (hx.alloc _) hxl.out hone (by omega) (by omega) (by simp) ?_; intro A' c' w1 hown hg hlie)
    go_ret
    refine ⟨A', c', by simp, Sl.of_own (by simpa using hown), ((Turn.refl [] w).alloc _).andThen (Turn.of_grown (S := [w.heap.size]) hg (by simp)) (by simp), fun a ha => ?_⟩
    exact (hown.lt a.block (by simp [Value.ownBlock, ha])).1

/-- A []byte: its address, length, capacity and bytes. -/
structure Bs where
  A : Option Addr
  n : Nat
  c : Nat
  xs : List Int
def Bs.val (b : Bs) : Value := .slice b.A b.n b.c
def Bs.Is (w : World) (b : Bs) : Prop := Sl w b.A (u8s b.xs) ∧ b.xs.length = b.n ∧ b.n ≤ 140737488355328
def bsVals (l : List Bs) : List Value := l.map Bs.val

def fitB (i : Int) (l : List Bs) : Option Bs := l.find? (fun b => allowsB i b.n)
def Fitted (w : World) (e : Ending) (w' : World) : Option Bs → Prop
  | none => e = .returned (.tuple #[.slice none 0 0, .int .i64 15]) ∧ Turn [] w w'
  | some b => ∃ A' c', e = .returned (.tuple #[.slice A' b.n c', .int .i64 0]) ∧ Sl w' A' (u8s b.xs) ∧ Turn [] w w'

set_option maxHeartbeats 1000000 in
theorem fit_c (i : Int) (A : Option Addr) (n c : Nat) (l : List Bs) (w : World) (hl : Sl w A (bsVals l)) (hn : l.length = n) (hb : ∀ b ∈ l, b.Is w) (hsz : n ≤ 9223372036854775806) :
    Calls Try.prog 13 #[.int .i64 i, .slice A n c] w fun e w' => Fitted w e w' (fitB i l) := by
  have HN := Lib.hid hn
  clear hn
  go_enter Try.func13, Try.ntmps13
  go_wp2_with fail
  go_step3
  go_wp2_with fail
  go_step3
  go_wp2_with fail
  go_loopw [10] (fun x wr => ∃ k : Nat, k ≤ n ∧ x = .int .i64 k ∧ fitB i l = fitB i (l.drop k) ∧ Turn [] w wr) (fun x _ => n - (intOf x).toNat)
  case atStart => exact ⟨0, Nat.zero_le _, rfl, by simp, Turn.refl _ _⟩
  case round =>
    obtain ⟨k, hk, rfl, he, hT⟩ := hrel
    have HE := Lib.hid he
    clear he
    by_cases hlt : k < n
    · have hkl : k < l.length := by rw [HN.out]; exact hlt
      obtain ⟨b1, o1, rfl, l1, c1⟩ := (hl.turn0 hT).at_ (k := k) (by simpa [bsVals] using hkl)
      have hd : Hid (l.drop k = l[k] :: l.drop (k + 1)) := List.drop_eq_getElem_cons hkl
      have hIs := hb l[k] (List.getElem_mem hkl)
      have ev : (bsVals l)[k]'(by simpa [bsVals] using hkl) = .slice l[k].A l[k].n l[k].c := by simp [bsVals, Bs.val]
      rw [ev] at c1
      clear ev
      generalize l[k] = b at *
      obtain ⟨B, m, cm, xs⟩ := b
      obtain ⟨hs, hm, hm2⟩ := hIs
      simp only at *
      have i0 : (0 : Int) ≤ (k : Int) := Int.natCast_nonneg _
      have i1 : (k : Int) < (n : Int) := by omega
      have HM := Lib.hid hm
      clear hm
      cases ha : allowsB i m with
      | true =>
        have hfin : Hid (fitB i l = some ⟨B, m, cm, xs⟩) := by
          show fitB i l = _
          rw [HE.out, hd.out]
          simp [fitB, ha]
        have HA := Lib.hid ha
        clear ha
        go_wp2_with fail
        refine (allows_c i m wr).mono ?_
        rw [HA.out]
        rintro e w2 ⟨rfl, rfl⟩
        go_wp2_with fail
        refine (cloneB_c B m cm xs _ (hs.turn0 hT) HM.out hm2).mono ?_
        rintro e w2 ⟨A', c', rfl, hs', hT', -⟩
        go_wp2_with fail
        try rw [Exit.noGoto_ret]
        go_ret2
        rw [hfin.out]
        exact ⟨A', c', by simp, hs', hT.trans hT'⟩
      | false =>
        have hnx : Hid (fitB i l = fitB i (l.drop (k + 1))) := by
          show fitB i l = _
          rw [HE.out, hd.out]
          simp [fitB, ha]
        have HA := Lib.hid ha
        clear ha
        go_wp2_with fail
        refine (allows_c i m wr).mono ?_
        rw [HA.out]
        rintro e w2 ⟨rfl, rfl⟩
        go_wp2_with fail
        go_roundw
        case rel => exact ⟨k + 1, by omega, by go_num, hnx.out, hT⟩
        case measure => simp [intOf]; omega
    · have hfin : Hid (fitB i l = none) := by
        show fitB i l = none
        rw [HE.out, List.drop_eq_nil_of_le (by rw [HN.out]; omega)]
        rfl
      go_wp2_with fail
      try rw [Exit.noGoto_ret]
      go_ret2
      rw [hfin.out]
      exact ⟨by simp, hT⟩
end Go.Proofs.Ytjjhmedbekfkoaa
