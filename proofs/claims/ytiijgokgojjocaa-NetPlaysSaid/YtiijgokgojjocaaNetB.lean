/- Contracts of net: bytes.Clone, pair, Below 1; words of its maps and mails. -/
import Derived.Test.YtiijgokgojjocaaPairs
import Derived.Test.YtiijgokgojjocaaDraws
import Derived.Test.YtiijgokgojjocaaSame
import Derived.Test.YtiijgokgojjocaaOwn
namespace Go.Proofs.Ytiijgokgojjocaa
open Go.RowKit Go.ChangeMaps Go.WideMaps

theorem infoU8 : (Try.prog.info? 5).map (fun i => (i.zero, i.size, i.bytes)) = some (some (.int .u8 0), 1, 1) := by kernel_rfl
theorem elemB : ElemT Try.prog 26 5 (.int .u8 0) 1 1 := ⟨Try.underlying26, info_parts infoU8, rfl, by decide⟩
theorem u8s_one (xs : List Int) : ∀ u ∈ u8s xs, u.oneCell' = true := by
  intro u hu
  obtain ⟨x, _, rfl⟩ := List.mem_map.1 hu
  rfl

theorem wideP : (match Try.prog.underlying 81 with | some (.array _ _) | some (.struct _) => true | _ => false) = true := by kernel_rfl
theorem laidP : laidOutB Try.prog = true := by kernel_rfl
theorem rowP : (81 : TypeId) < Try.prog.types.size := of_decide_eq_true (by kernel_rfl)
theorem lawP : KeyLaw Try.prog 81 := deep_law_laid laidP (m := 2) (by omega) rowP (by kernel_rfl) wideP
theorem keyedP : Maps.Keyed Try.prog 81 := Maps.Keyed.of_law lawP
theorem cellsP : Try.prog.cellsOf 81 = 2 := by kernel_rfl
theorem cellsI : Try.prog.cellsOf 3 = 1 := by kernel_rfl
theorem keyTypeP : Try.prog.keyType 81 = true := by kernel_rfl
theorem keyP (x : Int × Int) (h : wfP x) : ∃ l, keyOf Try.prog 81 (pk x) = some l := by
  obtain ⟨a, b⟩ := x
  obtain ⟨ha, hb⟩ := h
  unfold wf64 at ha hb
  simp only at ha hb
  have hf : (Value.agg #[.int .i64 a, .int .i64 b]).formed Try.prog 81 = true := by simp [Value.formed, Try.underlying81, cellsP]
  obtain ⟨m, hm⟩ : ∃ m, Try.prog.types.size = m + 1 := Nat.exists_eq_succ_of_ne_zero (Nat.ne_of_gt (Nat.lt_of_le_of_lt (Nat.zero_le _) rowP))
  unfold keyOf
  rw [Try.underlying81]
  unfold pk
  simp [hf, keyTypeP, hm, Program.keyLits, Try.underlying81, Try.underlying3, cellsP, cellsI, Value.cells, List.range_succ, ha, hb]

/-- bytes.Clone. -/
def ClonedB (w : World) (n : Nat) (xs : List Int) (e : Ending) (w' : World) : Prop :=
  ∃ A' c', e = .returned (.slice A' n c') ∧ w'.ownsRow w.heap.size 5 1 (.slice A' n c') n (u8s xs) ∧ Turn [] w w'

set_option maxHeartbeats 1000000 in
theorem cloneB_c (A : Option Addr) (n c : Nat) (xs : List Int) (w : World) (hx : Sl w A (u8s xs)) (hn : xs.length = n) (hl : n ≤ 140737488355328) :
    Calls Try.prog 35 #[.slice A n c] w (ClonedB w n xs) := by
  obtain ⟨i0, hi, hz0, hz1, hz2⟩ := info_parts infoU8
  have isnil := run_is_nil (P := Try.prog) Try.underlying26
  cases A with
  | none =>
    have h0 : xs = [] := by
      rcases Nat.eq_zero_or_pos xs.length with h | h
      · exact List.eq_nil_of_length_eq_zero h
      · obtain ⟨b, off, hA, _⟩ := hx (by rw [u8s_len]; exact h)
        cases hA
    subst h0
    subst hn
    go_enter Try.func35, Try.ntmps35
    go_wp2_with fail
    go_ret
    exact ⟨none, 0, by simp, World.ownsRow_nil _ _ _ _, Turn.refl _ _⟩
  | some a =>
    have HN := Lib.hid hn
    clear hn
    go_enter Try.func35, Try.ntmps35
    have hone := u8s_one xs
    have hxl : Hid ((u8s xs).length = n * 1) := by
      show (u8s xs).length = n * 1
      rw [u8s_len, HN.out, Nat.mul_one]
    have h0 := World.ownsRow_lit (base := w.heap.size) (e := 5) (size := 1) w #[] 0 (Nat.le_refl _) (by simp) rfl
    have H0 := Lib.hid h0
    clear h0 hi hz0 hz1 hz2
    go_wp2_with (at_builtin; refine wpList_append_sl elemB rfl _ _ rfl _ 0 _ [] rfl H0.out _ n c (u8s xs) rfl (hx.alloc _) hxl.out hone (by omega) (by omega) (by simp) ?_; intro A' c' w1 hown hg hlie)
    go_ret
    exact ⟨A', c', by simp, by simpa using hown, ((Turn.refl [] w).alloc _).andThen (Turn.of_grown (S := [w.heap.size]) hg (by simp)) (by simp)⟩

/-- The smaller first. -/
def pairOf (a b : Int) : Int × Int := (min a b, max a b)
set_option maxHeartbeats 1000000 in
theorem pair_c (a b : Int) (w : World) :
    Calls Try.prog 36 #[.int .i64 a, .int .i64 b] w fun e w' => e = .returned (pk (pairOf a b)) ∧ Turn [] w w' := by
  go_enter Try.func36, Try.ntmps36
  go_wp2_with fail
  all_goals
    refine bodyPost_ret (v := pk (pairOf a b)) ?_ rfl ⟨rfl, (Turn.refl _ _).alloc _⟩
    simp [results, Try.results36, go_sem, pk, pairOf]
    omega
end Go.Proofs.Ytiijgokgojjocaa
