/- slices.Grow at nil, slices.Concat, at []int. -/
import Derived.Test.YtelagneielahhaaVwLog
import Derived.Lib.AppendZerosOnto
import Derived.Lib.SliceRun
namespace Go.Proofs.Ytelagneielahhaa
open Go.RowKit Go.ChangeMaps Go.Lib Go.MapKept

/-- A row with nothing in it. -/
def Empty (w : World) (e : Ending) (w' : World) : Prop :=
  ∃ A c, e = .returned (.slice A 0 c) ∧ w'.ownsRow w.heap.size 3 1 (.slice A 0 c) 0 [] ∧ Turn [] w w'
set_option maxRecDepth 100000 in
set_option maxHeartbeats 2000000 in
theorem growNil_c (n : Nat) (w : World) (hn : n ≤ 1000000) :
    Calls Try.prog 60 #[.slice none 0 0, .int .i64 ((n : Nat) : Int)] w (Empty w) := by
  obtain ⟨i0, hi, hz0, hs, hb⟩ := info_parts infoI64
  by_cases h0 : n = 0
  · subst h0
    go_enter Try.func60, Try.ntmps60
    go_wp2_with fail
    go_ret
    exact ⟨none, 0, by simp, World.ownsRow_nil _ _ _ _, Turn.refl _ _⟩
  · have hold : (Builtin.firstCells i0.size 0 (.slice none 0 0)).run Try.prog w.drew = .ok (#[] : Array Value) w.drew := run_firstCells_none w.drew i0.size 0 0 0
    have hrz : ∀ ty, (Builtin.append_ #[45, 3] ty #[.slice none 0 0, .int .i64 ((n : Nat) : Int)]).run Try.prog w =
        .ok (.slice (some ⟨w.heap.size, 0, none⟩) n (grownCap w n 0 3)) (w.drew.alloc (.cells (#[] ++ Builtin.zeroCells (Value.int .i64 0).cells n ++ Builtin.zeroCells (Value.int .i64 0).cells (grownCap w n 0 3 - n)) 3)) := fun ty => by
      have h := Lib.run_append_grow_zeros w 45 3 ty 3 i0 (.int .i64 0) .i64 .i64 Try.underlying45 Try.underlying3 hi hz0 none 0 0 [] hold n (by omega) (by rw [hs]; omega) (by omega) (by omega) (by rw [hb]; omega) (growslice_fits (by omega) (by rw [hb]; omega))
      simpa using h
    have hGn : n ≤ grownCap w n 0 3 := grownCap_ge w _ _ _
    have hGm : grownCap w n 0 3 ≤ maxLen := grownCap_le_maxLen w _ _ _ (by unfold maxLen; omega)
    have hzc : ∀ k, (Builtin.zeroCells (Value.int .i64 0).cells k).size = k := fun k => by rw [size_zeroCells]; exact Nat.mul_one k
    have hown : ∀ g : Nat, g = w.heap.size → (w.drew.alloc (.cells (#[] ++ Builtin.zeroCells (Value.int .i64 0).cells n ++ Builtin.zeroCells (Value.int .i64 0).cells (grownCap w n 0 3 - n)) 3)).ownsRow w.heap.size 3 1 (.slice (some ⟨g, 0, none⟩) 0 (grownCap w n 0 3)) 0 [] := fun g hg => by
      subst hg
      exact ⟨by simp, .inr ⟨w.heap.size, _, _, rfl, Nat.le_refl _, (heap_alloc w.drew _).1, Nat.zero_le _, hGm, by rw [Array.size_append, Array.size_append, hzc, hzc, show (#[] : Array Value).size = 0 from rfl]; omega, by simp⟩⟩
    have HOWN := Lib.hid (hown _ rfl)
    have hT : Turn [] w (w.drew.alloc (.cells (#[] ++ Builtin.zeroCells (Value.int .i64 0).cells n ++ Builtin.zeroCells (Value.int .i64 0).cells (grownCap w n 0 3 - n)) 3)) := ((Turn.refl [] w).drew).alloc _
    have HT := Lib.hid hT
    have n0 : (0 : Int) < (n : Int) := by omega
    unfold maxLen at hGm
    clear hold hown hT hzc hi hz0 hs hb
    generalize grownCap w n 0 3 = G at *
    generalize w.drew.alloc (.cells (#[] ++ Builtin.zeroCells (Value.int .i64 0).cells n ++ Builtin.zeroCells (Value.int .i64 0).cells (G - n)) 3) = w1 at *
    go_enter Try.func60, Try.ntmps60
    go_wp2_with (at_builtin; refine Lib.wpList_append_run _ rfl _ _ _ _ rfl _ _ rfl rfl _ _ (hrz _) ?_)
    all_goals
      go_ret
      exact ⟨_, G, by simp, HOWN.out, HT.out⟩
/-- All their elements. -/
def lgAll : List Lg → List Int
  | [] => []
  | g :: l => g.xs ++ lgAll l
def lgSum : List Lg → Nat
  | [] => 0
  | g :: l => g.n + lgSum l
theorem lgAll_append : ∀ a b : List Lg, lgAll (a ++ b) = lgAll a ++ lgAll b
  | [], b => rfl
  | g :: a, b => by rw [List.cons_append, lgAll, lgAll, lgAll_append a b, List.append_assoc]
theorem lgSum_append : ∀ a b : List Lg, lgSum (a ++ b) = lgSum a + lgSum b
  | [], b => by simp [lgSum]
  | g :: a, b => by rw [List.cons_append, lgSum, lgSum, lgSum_append a b]; omega
theorem lgSum_take (l : List Lg) : ∀ k, lgSum (l.take k) ≤ lgSum l := fun k => by
  have := lgSum_append (l.take k) (l.drop k)
  rw [List.take_append_drop] at this
  omega
theorem lg_at {w : World} {S : Option Addr} {gs : List Lg} (h : Sl w S (gs.map Lg.val)) {k : Nat} (hk : k < gs.length) : ∃ b off, S = some ⟨b, off, none⟩ ∧ b < w.heap.size ∧ w.cell? ⟨b, off + k, none⟩ = some (.slice gs[k].A gs[k].n gs[k].c) := by
  obtain ⟨b, off, hA, hb, hc⟩ := h.at_ (k := k) (by simpa using hk)
  refine ⟨b, off, hA, hb, ?_⟩
  rw [hc]
  simp [Lg.val]
set_option maxRecDepth 100000 in
set_option maxHeartbeats 2000000 in
theorem concat_c (S : Option Addr) (n c : Nat) (gs : List Lg) (w : World) (hS : Sl w S (gs.map Lg.val)) (hn : gs.length = n) (hn2 : n ≤ 1000) (hg : ∀ g ∈ gs, Sl w g.A (i64s g.xs) ∧ g.xs.length = g.n) (hsum : lgSum gs ≤ 1000000) :
    Calls Try.prog 44 #[.slice S n c] w (NewI w (lgAll gs)) := by
  have HN := Lib.hid hn
  have HG := Lib.hid hg
  have LT := Lib.hid (lgSum_take gs)
  clear hn hg
  go_enter Try.func44, Try.ntmps44
  go_wp2_with fail
  go_loopw [3, 11] (fun x ix wr => ∃ k : Nat, k ≤ n ∧ ix = .int .i64 k ∧ ∃ s : Nat, x = .int .i64 s ∧ Hid (s = lgSum (gs.take k)) ∧ Turn [] w wr) (fun _ ix _ => n - (intOf ix).toNat)
  case atStart => exact ⟨0, by omega, rfl, 0, rfl, Lib.hid rfl, Turn.refl _ _⟩
  case round =>
    obtain ⟨k, hk, rfl, s, rfl, HSm, hT⟩ := hrel
    have i0 : (0 : Int) ≤ (k : Int) := Int.natCast_nonneg _
    have s0 : (0 : Int) ≤ (s : Int) := Int.natCast_nonneg _
    by_cases hlt : k < n
    · have i1 : (k : Int) < (n : Int) := by omega
      have hkl : k < gs.length := by rw [HN.out]; exact hlt
      obtain ⟨b, off, rfl, lb, c0⟩ := lg_at (hS.turn0 hT) hkl
      have hs1 : lgSum (gs.take (k + 1)) = s + gs[k].n := by
        rw [List.take_succ_eq_append_getElem hkl, lgSum_append, HSm.out]
        simp [lgSum]
      have HS1 := Lib.hid hs1
      have hb1 := LT.out (k + 1)
      rw [hs1] at hb1
      have m0 : (0 : Int) ≤ (gs[k].n : Int) := Int.natCast_nonneg _
      clear hs1
      generalize gs[k].n = m at *
      generalize gs[k].A = A at *
      generalize gs[k].c = cc at *
      go_wp2_with fail
      go_roundw
      case rel => exact ⟨k + 1, by omega, by go_num, s + m, by go_num, by rw [HS1.out]; exact Lib.hid rfl, hT⟩
      case measure => simp [intOf]; omega
    · obtain rfl : k = n := by omega
      have i1 : ¬ (k : Int) < (k : Int) := by omega
      have hsb := LT.out k
      rw [← HSm.out] at hsb
      have GC := Lib.hid (growNil_c s wr (by omega))
      go_wp2_with fail
      refine GC.out.mono ?_
      rintro e w1 ⟨A, cA, rfl, oA, hT1⟩
      have HA := Lib.hid (own_down oA hT.size)
      have T1 := hT.trans hT1
      clear oA hT1
      go_wp2_with fail
      go_loopw [6, 27] (fun x ix wr => ∃ j : Nat, j ≤ k ∧ ix = .int .i64 j ∧ ∃ B cB m, x = .slice B m cB ∧ m ≤ 1000000 ∧ wr.ownsRow w.heap.size 3 1 (.slice B m cB) m (i64s (lgAll (gs.take j))) ∧ Turn [] w wr) (fun _ ix _ => k - (intOf ix).toNat)
      case atStart => exact ⟨0, by omega, rfl, A, cA, 0, rfl, by omega, by simpa [lgAll, i64s] using HA.out, T1⟩
      case round =>
        obtain ⟨j, hj, rfl, B, cB, m, rfl, hm, oB, hTj⟩ := hrel
        obtain ⟨wx, rfl⟩ : ∃ wo : World, wo = wr := ⟨_, rfl⟩
        have j0 : (0 : Int) ≤ (j : Int) := Int.natCast_nonneg _
        have HB := Lib.hid oB
        have hz := hTj.size
        have hlen := own_i64 oB
        clear oB
        by_cases hltj : j < k
        · have j1 : (j : Int) < (k : Int) := by omega
          have hjl : j < gs.length := by rw [HN.out]; exact hltj
          obtain ⟨b, off, rfl, lb, c0⟩ := lg_at (hS.turn0 hTj) hjl
          obtain ⟨hg1, hg2⟩ := HG.out gs[j] (List.getElem_mem hjl)
          have hall : lgAll (gs.take (j + 1)) = lgAll (gs.take j) ++ gs[j].xs := by
            rw [List.take_succ_eq_append_getElem hjl, lgAll_append]
            simp [lgAll]
          have HALL := Lib.hid hall
          have hms : m = lgSum (gs.take j) := by
            rw [← hlen]
            have key : ∀ l : List Lg, (∀ g ∈ l, g.xs.length = g.n) → (lgAll l).length = lgSum l := by
              intro l
              induction l with
              | nil => intro _; rfl
              | cons g l ih => intro h; rw [lgAll, lgSum, List.length_append, h g (by simp), ih (fun g' hg' => h g' (by simp [hg']))]
            exact key _ (fun g hg' => (HG.out g (List.mem_of_mem_take hg')).2)
          have hb2 := LT.out (j + 1)
          rw [List.take_succ_eq_append_getElem hjl, lgSum_append] at hb2
          simp only [lgSum, Nat.add_zero] at hb2
          have hmb : m + gs[j].n ≤ 1000000 := by omega
          have HX := Lib.hid (hg1.turn0 hTj)
          have HXL := Lib.hid hg2
          clear hall hms hb2 hg1 hg2 hlen
          generalize gs[j] = g at *
          obtain ⟨gA, gn, gc, gx⟩ := g
          simp only at c0 HX HXL hmb HALL
          go_wp2_with (at_builtin; refine wpList_append_sl elemI rfl _ _ rfl B m cB _ rfl HB.out gA gn gc (i64s gx) rfl HX.out (by rw [i64s_len, HXL.out, Nat.mul_one]) (i64s_one _) (by omega) (by omega) (by omega) ?_; intro A' c2 w2 own2 hg2 hlie2)
          go_roundw
          case rel => exact ⟨j + 1, by omega, by go_num, A', c2, m + gn, rfl, hmb, by rw [HALL.out]; simpa [i64s] using own2, hTj.andThen (grown_turn hg2) (fun x hx => .inr (own_ltA HB.out x hx).2)⟩
          case measure => simp [intOf]; omega
        · obtain rfl : j = k := by omega
          have j1 : ¬ (j : Int) < (j : Int) := by omega
          have htk : gs.take j = gs := List.take_of_length_le (by rw [HN.out]; exact Nat.le_refl _)
          have HTK := Lib.hid htk
          clear htk hlen
          go_wp2_with fail
          go_ret
          exact ⟨B, m, cB, by simp, by have := HB.out; rw [HTK.out] at this; exact this, hTj⟩
end Go.Proofs.Ytelagneielahhaa
