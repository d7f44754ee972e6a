/- revoke.Set: Log, All, Has; slices.Clone, Compact, Contains at []int. -/
import Derived.Test.YtelagneielahhaaVw
import Derived.Test.YtelagneielahhaaSort
namespace Go.Proofs.Ytelagneielahhaa
open Go.RowKit Go.ChangeMaps Go.Sort Go.Lib

/-! ### plain: compact -/
theorem mem_compactUpTo (d : Array Int) (x : Int) : ∀ m : Nat, x ∈ compactUpTo d m ↔ ∃ j, j < m ∧ d[j]! = x
  | 0 => by simp [compactUpTo]
  | m + 1 => by
    rw [compactUpTo_succ, List.mem_append, mem_compactUpTo d x m]
    constructor
    · rintro (⟨j, hj, h⟩ | h)
      · exact ⟨j, by omega, h⟩
      · split at h
        · simp at h; exact ⟨m, by omega, h.symm⟩
        · simp at h
    · rintro ⟨j, hj, h⟩
      by_cases hjm : j = m
      · subst hjm
        by_cases hk : keeps d j = true
        · right; simp [hk, h]
        · left
          have hk' : ¬ (j = 0 ∨ d[j]! ≠ d[j - 1]!) := by simpa [keeps] using hk
          refine ⟨j - 1, by omega, ?_⟩
          rw [← h]
          by_cases h1 : d[j]! = d[j - 1]!
          · exact h1.symm
          · exact absurd (.inr h1) hk'
      · exact .inl ⟨j, by omega, h⟩
theorem mem_compact (zs : List Int) (x : Int) : x ∈ compact zs ↔ x ∈ zs := by
  unfold compact
  rw [mem_compactUpTo, List.mem_iff_getElem]
  constructor
  · rintro ⟨j, hj, h⟩
    refine ⟨j, hj, ?_⟩
    rw [← h, getElem!_pos zs.toArray j (by simpa using hj)]
    simp
  · rintro ⟨j, hj, h⟩
    refine ⟨j, hj, ?_⟩
    rw [← h, getElem!_pos zs.toArray j (by simpa using hj)]
    simp
theorem compactUpTo_len (d : Array Int) : ∀ m : Nat, (compactUpTo d m).length ≤ m ∧ ((compactUpTo d m).length = m ↔ ∀ j, j < m → keeps d j = true)
  | 0 => by simp [compactUpTo]
  | m + 1 => by
    obtain ⟨h1, h2⟩ := compactUpTo_len d m
    rw [compactUpTo_succ, List.length_append]
    by_cases hk : keeps d m = true
    · simp only [hk, if_true, List.length_cons, List.length_nil]
      refine ⟨by omega, ?_⟩
      constructor
      · intro h j hj
        by_cases hjm : j = m
        · rw [hjm]; exact hk
        · exact h2.1 (by omega) j (by omega)
      · intro h
        have := h2.2 (fun j hj => h j (by omega))
        omega
    · simp only [hk, Bool.false_eq_true, if_false, List.length_nil]
      refine ⟨by omega, ?_⟩
      constructor
      · intro h; omega
      · intro h; exact absurd (h m (by omega)) hk
theorem compact_len (zs : List Int) : (compact zs).length ≤ zs.length := (compactUpTo_len zs.toArray zs.length).1
/-- A list that rises: nothing goes just where none stands twice. -/
theorem compact_nodup {zs : List Int} (hs : zs.Pairwise (· ≤ ·)) : (compact zs).length = zs.length ↔ zs.Nodup := by
  have h := (compactUpTo_len zs.toArray zs.length).2
  unfold compact
  rw [h]
  have hg : ∀ j (hj : j < zs.length), zs.toArray[j]! = zs[j] := fun j hj => by rw [getElem!_pos zs.toArray j (by simpa using hj)]; simp
  have hp := List.pairwise_iff_getElem.1 hs
  constructor
  · intro hk
    rw [List.Nodup, List.pairwise_iff_getElem]
    have step : ∀ j (hj : j + 1 < zs.length), zs[j]'(by omega) < zs[j + 1] := fun j hj => by
      have h1 : j + 1 = 0 ∨ zs.toArray[j + 1]! ≠ zs.toArray[j + 1 - 1]! := of_decide_eq_true (hk (j + 1) hj)
      rw [hg _ hj, Nat.add_sub_cancel, hg _ (by omega)] at h1
      have h2 := hp j (j + 1) (by omega) hj (by omega)
      rcases h1 with h1 | h1
      · omega
      · omega
    intro i j hi hj hij he
    have h1 := step i (by omega)
    have h2 : zs[i + 1]'(by omega) ≤ zs[j] := by
      by_cases h3 : i + 1 = j
      · subst h3; exact Int.le_refl _
      · exact hp (i + 1) j (by omega) hj (by omega)
    omega
  · intro hn j hj
    unfold keeps
    rw [decide_eq_true_eq]
    by_cases h0 : j = 0
    · exact .inl h0
    · right
      rw [hg j hj, hg (j - 1) (by omega)]
      intro he
      rw [List.Nodup, List.pairwise_iff_getElem] at hn
      exact hn (j - 1) j (by omega) hj (by omega) he.symm
theorem sortI_perm (zs : List Int) : (sortI zs).Perm zs := List.mergeSort_perm zs _
theorem sortI_mem (zs : List Int) (x : Int) : x ∈ sortI zs ↔ x ∈ zs := (sortI_perm zs).mem_iff
theorem sortI_rises (zs : List Int) : (sortI zs).Pairwise (· ≤ ·) := by
  have h1 : (zs.mergeSort fun x y => decide (x ≤ y)).Pairwise (fun x y => decide (x ≤ y) = true) := List.pairwise_mergeSort (by intro a b c; simp; omega) (by intro a b; simp; omega) zs
  unfold sortI
  simpa using h1
theorem sortI_len (zs : List Int) : (sortI zs).length = zs.length := (sortI_perm zs).length_eq

/-! ### contracts at []int -/
theorem own_i64 {w : World} {base n cap : Nat} {A : Option Addr} {zs : List Int} (h : w.ownsRow base 3 1 (.slice A n cap) n (i64s zs)) : zs.length = n := by
  have := h.1
  rw [i64s_len] at this
  omega
theorem compact_c (base : Nat) (A : Option Addr) (n cap : Nat) (zs : List Int) (w : World) (h : w.ownsRow base 3 1 (.slice A n cap) n (i64s zs)) (hl : n < 4611686018427387904) :
    Calls Try.prog 61 #[.slice A n cap] w fun e w' => e = .returned (.slice A (compact zs).length cap) ∧ w'.ownsRow base 3 1 (.slice A (compact zs).length cap) (compact zs).length (i64s (compact zs)) ∧ Turn (blks A) w w' := by
  have hzl := own_i64 h
  by_cases h0 : n = 0
  · subst h0
    obtain rfl : zs = [] := List.eq_nil_of_length_eq_zero hzl
    refine (Try.slices_Compact_int_empty A cap w).mono ?_
    rintro e w' ⟨rfl, rfl⟩
    exact ⟨rfl, h, Turn.refl _ _⟩
  · rcases h.2 with ⟨hv, hn⟩ | ⟨g, cap', cur, hv, hb, hg, hnc, hcm, hsz, ht⟩
    · exact absurd hn h0
    · cases hv
      subst hzl
      rw [Nat.mul_one] at ht hsz
      refine (Try.slices_Compact_int g 0 cap zs w (holdsI hg ht) (by omega) hnc).mono ?_
      rintro e w' ⟨rfl, q, rfl⟩
      have hk := compact_len zs
      have hh : (putRow (Value.int .i64) (Sort.ahead w q) g 0 (compact zs ++ List.replicate (zs.length - (compact zs).length) 0).toArray).heap[g]? = some (.cells (putCells (Value.int .i64) 0 (compact zs ++ List.replicate (zs.length - (compact zs).length) 0).toArray cur) 3 (0, 0)) := by
        simp [putRow, mapBlock, Sort.ahead, Array.getElem?_modify, hg, onCells]
      refine ⟨rfl, ⟨by simp [i64s_len], .inr ⟨g, cap, _, rfl, hb, hh, by omega, hcm, by simp [putCells, hsz], ?_⟩⟩, ?_⟩
      · have h1 := take_putCellsI cur (compact zs ++ List.replicate (zs.length - (compact zs).length) 0) (by simp; omega)
        have h2 := congrArg (List.take (compact zs).length) h1
        rw [List.take_take, Nat.min_eq_left (by simp)] at h2
        rw [Nat.mul_one, h2]
        unfold i64s
        rw [List.map_append, List.take_append_of_le_length (by simp), List.take_of_length_le (by simp)]
      · refine grown_turn (A := some ⟨g, 0, none⟩) ⟨rfl, rfl, rfl, by simp [putRow, mapBlock, Sort.ahead], fun k hk' hne => ?_⟩
        have : g ≠ k := fun e => hne (by simp [e])
        simp [putRow, mapBlock, Sort.ahead, Array.getElem?_modify, this]
theorem getD_i64s {w : World} {b off : Nat} {zs : List Int} (h : ∀ j u, (i64s zs)[j]? = some u → w.cell? ⟨b, off + j, none⟩ = some u) : ∀ j, j < zs.length → w.cell? ⟨b, off + j, none⟩ = some (.int .i64 (zs.getD j 0)) := fun j hj => h j _ (by simp [i64s, hj])
theorem contains_c (A : Option Addr) (n c : Nat) (zs : List Int) (x : Int) (w : World) (h : Sl w A (i64s zs)) (hn : zs.length = n) (hl : n ≤ 9223372036854775807) :
    Calls Try.prog 42 #[.slice A n c, .int .i64 x] w fun e w' => e = .returned (.bool (decide (x ∈ zs))) ∧ w = w' := by
  by_cases h0 : n = 0
  · subst h0
    obtain rfl : zs = [] := List.eq_nil_of_length_eq_zero hn
    refine (Try.slices_Contains_int_empty A c x w).mono ?_
    rintro e w' ⟨rfl, rfl⟩
    exact ⟨by simp, rfl⟩
  · obtain ⟨b, off, rfl, -, hc⟩ := h (by rw [i64s_len]; omega)
    refine (Try.slices_Contains_int b off n c zs x w (by omega) hl (getD_i64s hc)).mono ?_
    rintro e w' ⟨rfl, rfl⟩
    rw [List.take_of_length_le (by omega)]
    exact ⟨by rw [List.contains_eq_mem], rfl⟩
/-- A slice of ints of the call's own. -/
def NewI (w : World) (xs : List Int) (e : Ending) (w' : World) : Prop :=
  ∃ D n c, e = .returned (.slice D n c) ∧ w'.ownsRow w.heap.size 3 1 (.slice D n c) n (i64s xs) ∧ Turn [] w w'
theorem cloneI_c (A : Option Addr) (n c : Nat) (zs : List Int) (w : World) (h : Sl w A (i64s zs)) (hn : zs.length = n) (hl : n * 8 ≤ 140737488355328) :
    Calls Try.prog 70 #[.slice A n c] w (NewI w zs) := by
  cases A with
  | none =>
    have h0 : zs = [] := by
      rcases Nat.eq_zero_or_pos zs.length with h1 | h1
      · exact List.eq_nil_of_length_eq_zero h1
      · obtain ⟨b, off, hA, _⟩ := h (by rw [i64s_len]; exact h1)
        cases hA
    subst h0
    refine (Try.slices_Clone_int_nil n c w).mono ?_
    rintro e w' ⟨rfl, rfl⟩
    exact ⟨none, 0, 0, rfl, World.ownsRow_nil _ _ _ _, Turn.refl _ _⟩
  | some a =>
    by_cases h0 : n = 0
    · subst h0
      obtain rfl : zs = [] := List.eq_nil_of_length_eq_zero hn
      refine (Try.slices_Clone_int_zero a c w).mono ?_
      rintro e w' ⟨v', rfl, ho, -, hB⟩
      obtain ⟨D, cd, rfl, -⟩ := own_form ho
      exact ⟨D, 0, cd, rfl, ho, Turn.of_below hB []⟩
    · obtain ⟨b, off, hA, -, hc⟩ := h (by rw [i64s_len]; omega)
      cases hA
      refine (Try.slices_Clone_int b off n c zs w (by omega) hl (getD_i64s hc)).mono ?_
      rintro e w' ⟨v', rfl, ho, -, hB⟩
      obtain ⟨D, cd, rfl, -⟩ := own_form ho
      rw [List.take_of_length_le (by omega)] at ho
      exact ⟨D, n, cd, rfl, ho, Turn.of_below hB []⟩

/-! ### the set -/
structure Lg where
  A : Option Addr
  n : Nat
  c : Nat
  xs : List Int
def Lg.val (l : Lg) : Value := .slice l.A l.n l.c
/-- A set at its block. -/
structure SIs (w : World) (s : Nat) (G : Nat → Lg) : Prop where
  blk : Blk w s 88 #[(G 0).val, (G 1).val, (G 2).val, (G 3).val]
  ok : ∀ i, i < 4 → Sl w (G i).A (i64s (G i).xs) ∧ (G i).xs.length = (G i).n ∧ (G i).n ≤ 256 ∧ ∀ j ∈ blks (G i).A, j < w.heap.size ∧ j ≠ s
theorem SIs.turn {w w' : World} {s : Nat} {G : Nat → Lg} (h : SIs w s G) {S : List Nat} (hT : Turn S w w') (hS : s ∉ S) (hS2 : ∀ i, i < 4 → ∀ j ∈ blks (G i).A, j ∉ S) : SIs w' s G :=
  ⟨hT.blk h.blk hS, fun i hi => ⟨(h.ok i hi).1.turn hT (off_blks (hS2 i hi)), (h.ok i hi).2.1, (h.ok i hi).2.2.1, fun j hj => ⟨Nat.lt_of_lt_of_le ((h.ok i hi).2.2.2 j hj).1 hT.size, ((h.ok i hi).2.2.2 j hj).2⟩⟩⟩
theorem SIs.turn0 {w w' : World} {s : Nat} {G : Nat → Lg} (h : SIs w s G) (hT : Turn [] w w') : SIs w' s G := h.turn hT (by simp) (by simp)
theorem SIs.cell {w : World} {s : Nat} {G : Nat → Lg} (h : SIs w s G) {i : Nat} (hi : i < 4) : w.cell? ⟨s, i, none⟩ = some (.slice (G i).A (G i).n (G i).c) := by
  rw [h.blk.cell i]
  match i, hi with
  | 0, _ => rfl
  | 1, _ => rfl
  | 2, _ => rfl
  | 3, _ => rfl
theorem newS_c (w : World) : Calls Try.prog 22 #[] w fun e w' => ∃ s, e = .returned (.pointer (some ⟨s, 0, none⟩)) ∧ SIs w' s (fun _ => ⟨none, 0, 0, []⟩) ∧ w.heap.size ≤ s ∧ Turn [] w w' := by
  go_enter Try.func22, Try.ntmps22
  go_wp2_with fail
  go_ret
  exact ⟨w.heap.size, by simp, ⟨Blk.new _ _ _, fun i hi => ⟨Sl.nil _ _, rfl, by simp, by simp [blks]⟩⟩, Nat.le_refl _, (Turn.refl _ _).alloc _⟩
set_option maxHeartbeats 1000000 in
theorem logS_c {w : World} {s : Nat} {G : Nat → Lg} (h : SIs w s G) (i : Nat) (hi : i < 4) :
    Calls Try.prog 63 #[.pointer (some ⟨s, 0, none⟩), .int .i64 i] w (NewI w (G i).xs) := by
  have c0 := h.cell hi
  obtain ⟨h1, h2, h3, h4⟩ := h.ok i hi
  have i0 : (0 : Int) ≤ (i : Int) := Int.natCast_nonneg _
  have i1 : (i : Int) < 4 := by omega
  have hs := h.blk.lt
  have CL := Lib.hid (cloneI_c (G i).A (G i).n (G i).c (G i).xs w h1 h2 (by omega))
  clear h h1 h2 h4
  generalize G i = l at *
  obtain ⟨A, n, c, xs⟩ := l
  simp only at c0 CL h3
  go_enter Try.func63, Try.ntmps63
  go_wp2_with fail
  refine CL.out.mono ?_
  rintro e w1 ⟨D, n', c', rfl, ho, hT⟩
  have HO := Lib.hid ho
  clear ho
  go_wp2_with fail
  go_ret
  exact ⟨D, n', c', by simp, HO.out, hT⟩
theorem logN_c (w : World) (i : Int) :
    Calls Try.prog 63 #[.pointer none, .int .i64 i] w (NewI w []) := by
  go_enter Try.func63, Try.ntmps63
  go_wp2_with fail
  all_goals
    go_ret
    exact ⟨none, 0, 0, by simp, World.ownsRow_nil _ _ _ _, Turn.refl _ _⟩
def catL (ls : Nat → List Int) : Nat → List Int
  | 0 => []
  | k + 1 => catL ls k ++ ls k
/-- A pointer to a set (or nil) whose logs are ls. -/
def LogsAre (w : World) (sv : Value) (ls : Nat → List Int) : Prop :=
  ∀ i, i < 4 → (ls i).length ≤ 256 ∧ ∀ wz, Turn [] w wz → Calls Try.prog 63 #[sv, .int .i64 ((i : Nat) : Int)] wz (NewI wz (ls i))
theorem SIs.logs {w : World} {s : Nat} {G : Nat → Lg} (h : SIs w s G) : LogsAre w (.pointer (some ⟨s, 0, none⟩)) (fun i => (G i).xs) := fun i hi =>
  ⟨by have := (h.ok i hi).2.1; have := (h.ok i hi).2.2.1; show (G i).xs.length ≤ 256; omega, fun wz hT => logS_c (h.turn0 hT) i hi⟩
theorem nil_logs (w : World) : LogsAre w (.pointer none) (fun _ => []) := fun i _ => ⟨by simp, fun wz _ => logN_c wz i⟩
theorem LogsAre.turn {w w' : World} {sv : Value} {ls : Nat → List Int} (h : LogsAre w sv ls) (hT : Turn [] w w') : LogsAre w' sv ls := fun i hi => ⟨(h i hi).1, fun wz hz => (h i hi).2 wz (hT.trans hz)⟩
theorem catL_len {w : World} {sv : Value} {ls : Nat → List Int} (h : LogsAre w sv ls) : ∀ k, k ≤ 4 → (catL ls k).length ≤ 256 * k
  | 0, _ => by simp [catL]
  | k + 1, hk => by
    have := catL_len h k (by omega)
    have := (h k (by omega)).1
    rw [catL, List.length_append]
    omega
set_option maxRecDepth 100000 in
set_option maxHeartbeats 2000000 in
theorem allS_c {w : World} {sv : Value} {ls : Nat → List Int} (h : LogsAre w sv ls) :
    Calls Try.prog 46 #[sv] w (NewI w (compact (sortI (catL ls 4)))) := by
  have H := Lib.hid h
  clear h
  go_enter Try.func46, Try.ntmps46
  go_wp2_with fail
  go_loopw [3, 5] (fun x i wr => ∃ k : Nat, k ≤ 4 ∧ i = .int .i64 ((k : Nat) : Int) ∧ ∃ A n c, x = .slice A n c ∧ n ≤ 1024 ∧ wr.ownsRow w.heap.size 3 1 (.slice A n c) n (i64s (catL ls k)) ∧ Turn [] w wr) (fun _ i _ => 4 - (intOf i).toNat)
  case atStart => exact ⟨0, by omega, rfl, none, 0, 0, rfl, by omega, World.ownsRow_nil _ _ _ _, Turn.refl _ _⟩
  case round =>
    obtain ⟨k, hk, rfl, A, n, c, rfl, hn, ho, hT⟩ := hrel
    obtain ⟨wx, rfl⟩ : ∃ wo : World, wo = wr := ⟨_, rfl⟩
    have i0 : (0 : Int) ≤ (k : Int) := Int.natCast_nonneg _
    have HO := Lib.hid ho
    have hz := hT.size
    clear ho
    by_cases hlt : k < 4
    · have i1 : (k : Int) < 4 := by omega
      have LG := Lib.hid ((H.out k hlt).2 wx hT)
      have hln := (H.out k hlt).1
      have hcl := catL_len H.out k (by omega)
      have hnk : (catL ls k).length = n := own_i64 HO.out
      have HNK := Lib.hid hnk
      clear hnk
      go_wp2_with fail
      refine LG.out.mono ?_
      rintro e w1 ⟨D, m, c', rfl, hD, hT1⟩
      have hm : (ls k).length = m := own_i64 hD
      have HM := Lib.hid hm
      have HD := Lib.hid hD
      have hmb : m ≤ 256 := by omega
      have hnb : n ≤ 768 := by have := HNK.out; omega
      have hz1 := hT1.size
      clear hm hD
      go_wp2_with (at_builtin; refine wpList_append_sl elemI rfl _ _ rfl A n c _ rfl (own_turnA HO.out hT1 (by simp)) D m c' (i64s (ls k)) rfl (Sl.of_own HD.out) (by rw [i64s_len, HM.out, Nat.mul_one]) (i64s_one _) (by omega) (by omega) (by omega) ?_; intro A' c2 w2 own2 hg2 hlie2)
      go_roundw
      case rel => exact ⟨k + 1, by omega, by go_num, A', n + m, c2, rfl, by omega, by rw [catL]; simpa [i64s] using own2, (hT.trans hT1).andThen (grown_turn hg2) (fun j hj => .inr (own_ltA HO.out j hj).2)⟩
      case measure => simp [intOf]; omega
    · obtain rfl : k = 4 := by omega
      have SO := Lib.hid (sort_c w.heap.size A n c (catL ls 4) wx HO.out (by omega))
      have hA := own_ltA HO.out
      go_wp2_with fail
      refine SO.out.mono ?_
      rintro e w1 ⟨rfl, ho1, hT1⟩
      have CO := Lib.hid (compact_c w.heap.size A n c (sortI (catL ls 4)) w1 ho1 (by omega))
      have TT1 := hT.andThen hT1 (fun j hj => .inr (hA j hj).2)
      clear ho1
      go_wp2_with fail
      refine CO.out.mono ?_
      rintro e w2 ⟨rfl, ho2, hT2⟩
      have HO2 := Lib.hid ho2
      clear ho2
      have TT2 := TT1.andThen hT2 (fun j hj => .inr (hA j hj).2)
      generalize (compact (sortI (catL ls 4))).length = q at *
      go_wp2_with fail
      go_ret
      exact ⟨A, q, c, by simp, HO2.out, TT2⟩
theorem hasS_c {w : World} {sv : Value} {ls : Nat → List Int} (h : LogsAre w sv ls) (x : Int) :
    Calls Try.prog 25 #[sv, .int .i64 x] w fun e w' => e = .returned (.bool (decide (x ∈ catL ls 4))) ∧ Turn [] w w' := by
  have AC := Lib.hid (allS_c h)
  have hcl := catL_len h 4 (by omega)
  have hmem : decide (x ∈ compact (sortI (catL ls 4))) = decide (x ∈ catL ls 4) := by simp only [mem_compact, sortI_mem]
  have HM := Lib.hid hmem
  have hl : (compact (sortI (catL ls 4))).length ≤ 1024 := by
    have := compact_len (sortI (catL ls 4))
    rw [sortI_len] at this
    omega
  clear h hmem
  go_enter Try.func25, Try.ntmps25
  go_wp2_with fail
  refine AC.out.mono ?_
  rintro e w1 ⟨D, n, c, rfl, ho, hT⟩
  have hn := own_i64 ho
  have CC := Lib.hid (contains_c D n c _ x w1 (Sl.of_own ho) hn (by omega))
  rw [HM.out] at CC
  clear ho hn hl hcl
  go_wp2_with fail
  refine CC.out.mono ?_
  rintro e w2 ⟨rfl, rfl⟩
  go_wp2_with fail
  go_ret
  exact ⟨by simp, hT⟩
end Go.Proofs.Ytelagneielahhaa
