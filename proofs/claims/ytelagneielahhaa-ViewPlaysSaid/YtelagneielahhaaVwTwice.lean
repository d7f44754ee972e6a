/- slices.Values, AppendSeq, Collect, Sorted at []int; revoke.twice. -/
import Derived.Test.YtelagneielahhaaVwSuch
import Derived.Test.YtelagneielahhaaVwLog
namespace Go.Proofs.Ytelagneielahhaa
open Go.RowKit Go.Shelf Go.ChangeMaps Go.Lib

attribute [local go_sem] Oper.semAt_some

/-- Ints lie there. -/
def IntsAt (W : World) (A : Option Addr) (xs : List Int) : Prop := Sl W A (i64s xs) ∧ ∀ i ∈ blks A, i < W.heap.size ∨ xs = []
theorem IntsAt.kept {W W' : World} {A : Option Addr} {xs : List Int} (h : Sl W A (i64s xs)) (k : KeptB A W W') : Sl W' A (i64s xs) := fun hpos => by
  obtain ⟨b, off, rfl, hb, hc⟩ := h hpos
  refine ⟨b, off, rfl, Nat.lt_of_lt_of_le hb k.1, fun j u hu => ?_⟩
  rw [World.cell?_of_block (a := ⟨b, off + j, none⟩) (k.2 b (by simp [blks]))]
  exact hc j u hu

set_option maxRecDepth 100000 in
set_option maxHeartbeats 4000000 in
theorem values1I_in (F : Fence) (n : Nat) (hf : F.fn 69) (hro : F.round = none) (hn : 1 ≤ n) (l Bs : Nat) (A : Option Addr) (cap : Nat) (xs : List Int) (hlen : xs.length ≤ 1000000) (J Jx : List Int → World → Prop)
    (W : World)
    (hY : ∀ pre x W, J pre W → pre.length < xs.length → YieldAt F (n - 1) Try.prog l #[.int .i64 x] W fun e W' =>
      (e = .returned (.bool true) ∧ J (pre ++ [x]) W' ∧ KeptB A W W') ∨ (e = .returned (.bool false) ∧ Jx (pre ++ [x]) W'))
    (hBs : W.cell? ⟨Bs, 0, none⟩ = some (.slice A xs.length cap)) (hE : Sl W A (i64s xs)) (h0 : J [] W) :
    CallsIn F n Try.prog 69 #[.func (.yield l) #[] #[], .pointer (some ⟨Bs, 0, none⟩)] W fun e W' => (∃ v, e = .returned v) ∧
      ((∃ ys, ys = xs ∧ J ys W') ∨ (∃ pre, True ∧ Jx pre W')) := by
  have HE := Lib.hid hE
  clear hE
  refine callsIn_of_wp Try.func69 rfl hf ?_ hro
  simp only [Try.ntmps69, List.size_toArray, List.length_cons, List.length_nil, Nat.reduceAdd, Nat.reduceSub, Array.replicate_succ, Array.replicate_zero, List.push_toArray, List.append_toArray, List.nil_append, List.cons_append]
  gi_wp2
  gi_loopw [7] (fun i wr => ∃ k : Nat, k ≤ xs.length ∧ i = .int .i64 k ∧ J (xs.take k) wr ∧ Hid (KeptB A W wr))
    (fun i _ => xs.length - (intOf i).toNat)
  case atStart => exact ⟨0, Nat.zero_le _, rfl, h0, Lib.hid (KeptB.refl _ _)⟩
  case round =>
    obtain ⟨k, hk, rfl, hJs, hnx⟩ := hrel
    have i0 : (0 : Int) ≤ (k : Int) := Int.natCast_nonneg _
    by_cases hlt : k < xs.length
    · have i1 : (k : Int) < (xs.length : Int) := by omega
      obtain ⟨b, off, rfl, hb, e0⟩ := i64s_at (IntsAt.kept HE.out hnx.out) hlt
      have htk : xs.take (k + 1) = xs.take k ++ [xs[k]] := List.take_succ_eq_append_getElem hlt
      have HTK := Lib.hid htk
      have hpl : (xs.take k).length < xs.length := by rw [List.length_take]; omega
      clear htk
      generalize xs[k] = x at *
      obtain ⟨fn, tmps, assign, body, hy, hR⟩ := hY _ x wr hJs hpl
      gi_wp2
      refine hR.mono ?_
      rintro e W3 (⟨rfl, hJ3, hk3⟩ | ⟨rfl, hJx3⟩)
      · have hK3 := Lib.hid hk3
        clear hk3
        gi_wp2
        go_roundw
        case rel => exact ⟨k + 1, by omega, by simp, by rw [HTK.out]; exact hJ3, Lib.hid (hnx.out.trans hK3.out)⟩
        case measure => simp [intOf]; omega
      · gi_wp2
        refine bodyPost_ret (results_none rfl _ _ _) rfl ?_
        exact ⟨⟨_, rfl⟩, .inr ⟨_, trivial, hJx3⟩⟩
    · obtain rfl : k = xs.length := by omega
      have i1 : ¬ (xs.length : Int) < (xs.length : Int) := by omega
      rw [List.take_length] at hJs
      gi_wp2
      go_end0
      exact ⟨⟨_, rfl⟩, .inl hJs⟩
theorem valuesI_c (A : Option Addr) (len cap : Nat) (w : World) :
    Calls Try.prog 62 #[.slice A len cap] w fun e w' => e = .returned (.func (.func 69) #[] #[.pointer (some ⟨w.heap.size, 0, none⟩)]) ∧ w' = w.alloc (.cells #[.slice A len cap] 45) := by
  go_enter Try.func62, Try.ntmps62
  go_wp2_with fail
  go_ret
  exact ⟨by simp, rfl⟩
theorem valuesI_stops (F : Fence) (n : Nat) (hf : F.fn 69) (hro : F.round = none) (hn : 1 ≤ n) (Bs : Nat) (A : Option Addr) (cap : Nat) (xs : List Int) (hlen : xs.length ≤ 1000000) (w : World) (hBs : Bs < w.heap.size)
    (hc : w.cell? ⟨Bs, 0, none⟩ = some (.slice A xs.length cap)) (hE : Sl w A (i64s xs)) (hA : ∀ i ∈ blks A, i < w.heap.size) :
    SeqStopsK F n Try.prog 69 #[.pointer (some ⟨Bs, 0, none⟩)] (fun x : Int => #[.int .i64 x]) (KeptB A) (fun ys => ys = xs) (fun _ => True) xs.length w := fun l J Jx W hW hJ _ hY h0 => by
  have hc' := (hW.cell (p := ⟨Bs, 0, none⟩) hBs).trans hc
  have hk : KeptB A w W := ⟨hW.size, fun i hi => hW.block i (hA i hi)⟩
  exact values1I_in F n hf hro hn l Bs A cap xs hlen J Jx W hY hc' (IntsAt.kept hE hk) h0

/-- Where AppendSeq stands behind pre. -/
structure AppI (w : World) (base : Nat) (pre : List Int) (W : World) : Prop where
  out : ∃ v, Boxed W w.heap.size 45 v ∧ W.ownsRow base 3 1 v pre.length (i64s pre) ∧ ∃ A cap, v = .slice A pre.length cap
  below : Below w.heap.size w W
  size : base ≤ W.heap.size
theorem appI_own (w : World) (base B : Nat) (hB : w.heap.size ≤ B) : OwnFrom B (AppI w base) := fun s X Y row hs hg hr =>
  ⟨holdsRow_own base w.heap.size 45 3 1 (fun s => s.length) (fun s => i64s s) (fun s v => ∃ A cap, v = .slice A s.length cap) s X Y row hs.out hg (fun r e => (hr r e).2),
   ownFrom_below (Nat.le_refl _) hB s X Y row hs.below hg hr, Nat.le_trans hs.size hg.size⟩
theorem AppI.hit {w : World} {base : Nat} {pre : List Int} {x : Int} {A A' D : Option Addr} {n cap cap' : Nat} {W w4 : World} {o : Obj} (h : AppI w base pre W) (hn : n = pre.length) (hb : Boxed W w.heap.size 45 (.slice A n cap))
    (ho : W.ownsRow base 3 1 (.slice A n cap) n (i64s pre)) (hbase : w.heap.size < base) (hD : ∀ i ∈ blks D, i < base ∧ i ≠ w.heap.size)
    (own4 : w4.ownsRow base 3 1 (.slice A' (n + 1) cap') (n + 1) (i64s pre ++ [.int .i64 x])) (hg : (W.alloc o).grownBy w4 (A.map (·.block))) :
    KeepsFrom base W (w4.setCell ⟨w.heap.size, 0, none⟩ (.slice A' (n + 1) cap')) ∧ KeptB D W (w4.setCell ⟨w.heap.size, 0, none⟩ (.slice A' (n + 1) cap')) ∧ AppI w base (pre ++ [x]) (w4.setCell ⟨w.heap.size, 0, none⟩ (.slice A' (n + 1) cap')) ∧ Boxed w4 w.heap.size 45 (.slice A n cap) := by
  have hA := own_ltA ho
  have T4 : Turn (blks A) W w4 := (((Turn.refl [] W).alloc o).mono (by simp)).trans (grown_turn hg)
  have T5 : Turn [w.heap.size] w4 (w4.setCell ⟨w.heap.size, 0, none⟩ (.slice A' (n + 1) cap')) := (Turn.refl _ w4).setCell (.inl (by simp)) _
  have T : Turn (w.heap.size :: blks A) W (w4.setCell ⟨w.heap.size, 0, none⟩ (.slice A' (n + 1) cap')) := (T4.mono (by intro i hi; simp [hi])).trans (T5.mono (by simp))
  have hb4 : Boxed w4 w.heap.size 45 (.slice A n cap) := T4.obj hb (fun hm => by have := (hA _ hm).2; omega)
  have own4' := own_ltA own4
  refine ⟨keeps_of_turn T (fun i hi o' ho' => ?_), KeptB.of_turn T (fun i hi => ?_) (fun i hi hm => ?_), ⟨⟨_, hb4.set _, ?_, A', cap', ?_⟩, ?_, ?_⟩, hb4⟩
  · simp at hi
    rcases hi with rfl | hi
    · rw [show W.heap[w.heap.size]? = _ from hb] at ho'
      cases ho'
      rfl
    · exact own_cells ho i hi o' ho'
  · have := (hD i hi).1
    have := h.size
    omega
  · simp at hm
    rcases hm with hm | hm
    · exact (hD i hi).2 hm
    · have := (hA i hm).2
      have := (hD i hi).1
      omega
  · rw [List.length_append, ← hn]
    have h3 := own_turnA own4 T5 (fun i hi hm => by simp at hm; have := (own4' i hi).2; omega)
    simpa [i64s] using h3
  · rw [List.length_append, ← hn]
    rfl
  · exact h.below.trans (T.belowOf h.below.size (fun i hi => by
      simp at hi
      rcases hi with rfl | hi
      · omega
      · have := (hA i hi).2; omega))
  · exact Nat.le_trans h.size T.size
set_option maxRecDepth 100000 in
set_option maxHeartbeats 4000000 in
theorem appendSeq_c {w : World} (Bs : Nat) (D : Option Addr) (cd : Nat) (xs : List Int) (hlen : xs.length ≤ 1000000) (hBs : Bs < w.heap.size) (hc : w.cell? ⟨Bs, 0, none⟩ = some (.slice D xs.length cd)) (hE : Sl w D (i64s xs)) (hD : ∀ i ∈ blks D, i < w.heap.size) :
    Calls Try.prog 64 #[.slice none 0 0, .func (.func 69) #[] #[.pointer (some ⟨Bs, 0, none⟩)]] w (NewI w xs) := by
  have bO := Boxed.new w 45 (.slice none 0 0)
  have T0 := (Turn.refl [] w).alloc (.cells #[.slice none 0 0] 45)
  have hc0 := (T0.cell (p := ⟨Bs, 0, none⟩) hBs (by simp)).trans hc
  have hE0 := Lib.hid (hE.turn0 T0)
  have hsz : (w.alloc (.cells #[.slice none 0 0] 45)).heap.size = w.heap.size + 1 := by simp
  clear hc hE
  refine (callsIn_wide (n := 5)).1 ?_
  refine callsIn_of_wp_marks Try.func64 rfl trivial ?_ rfl
  simp only [Try.ntmps64, List.size_toArray, List.length_cons, List.length_nil, Nat.reduceAdd, Nat.reduceSub, Array.replicate_succ, Array.replicate_zero, List.push_toArray, List.append_toArray, List.nil_append, List.cons_append]
  gi_wp2_with fail
  obtain ⟨W0, hW0⟩ : ∃ W0, w.alloc (.cells #[.slice none 0 0] 45) = W0 := ⟨_, rfl⟩
  rw [hW0] at bO T0 hc0 hE0 hsz ⊢
  clear hW0
  have hODZ : ∀ i ∈ blks D, i < W0.heap.size ∧ i ≠ w.heap.size := fun i hi => by have := hD i hi; omega
  have HODZ := Lib.hid hODZ
  have HI0 : Hid (AppI w W0.heap.size [] W0) := ⟨⟨_, bO, World.ownsRow_nil _ _ _ _, none, 0, rfl⟩, T0.nil_below, Nat.le_refl _⟩
  clear hODZ
  refine wpIn_rangeFunc_ownH rfl (by omega) (gf := 69) (lb := #[.pointer (some ⟨Bs, 0, none⟩)]) rfl trivial (enters_of Try.func69 (by kernel_rfl) rfl)
    (valuesI_stops Fence.wide _ trivial rfl (by omega) Bs D cd xs hlen W0 (by omega) hc0 hE0.out (fun i hi => (HODZ.out i hi).1)) (fun h k => KeptB.trans h k) (fun W l o o' hl hL _ _ => ⟨by simp [World.putObj], fun i hi => World.putObj_heap_other (by have := (HODZ.out i hi).1; omega)⟩) (Below.refl _ _) (fun _ => rfl)
    (AppI w W0.heap.size) (fun _ _ _ => False) (appI_own w _ _ (by omega)) (fun _ _ _ _ _ hs _ _ => hs) HI0.out
    (fun x a' _ => a' = { tmps := #[.slice none 0 0, .func (.func 69) #[] #[.pointer (some ⟨Bs, 0, none⟩)], .pointer (some ⟨w.heap.size, 0, none⟩), undef, .slice none 0 0, .int .i64 x, .func (.func 69) #[] #[.pointer (some ⟨Bs, 0, none⟩)], .int .i64 x, undef, undef, undef, undef, undef], defers := [] })
    (fun _ _ _ _ _ _ hs _ _ => hs)
    ?assign ?body ?done ?stop
  case assign =>
    intro l pre x W K hi hK
    have hK' := Lib.hid hK
    clear hK
    gi_wp2
    exact hK'.out _ _ (KeepsFrom.refl _ _) (KeptB.refl _ _) hi rfl
  case body =>
    rintro l pre x a' W hl - hi rfl hlt
    obtain ⟨vv, hb, ho, A, cap, rfl⟩ := hi.out
    have hc1 := hb.cell
    have HI := Lib.hid hi
    have HB := Lib.hid hb
    have HO := Lib.hid ho
    have hpl : pre.length ≤ 1000000 := by omega
    have hWs := hi.size
    clear hi hb ho hlt
    generalize hn : pre.length = nn at *
    have HN := Lib.hid hn
    clear hn
    gi_wp2_with (gi_at_builtin; refine wpListIn_append_sl elemI rfl _ _ rfl A nn cap _ rfl (HO.out.alloc _) (some ⟨W.heap.size, 0, none⟩) 1 1 [.int .i64 x] rfl (Sl.new _ #[.int .i64 x] _) (by simp) (by simp [Value.oneCell']) (by omega) (by omega) (by simp; omega) ?_; intro A' c' w4 own4 hg4 hlie4; have FIN := Lib.hid (HI.out.hit (D := D) HN.out.symm HB.out HO.out (by omega) HODZ.out own4 hg4); have b4 := FIN.out.2.2.2.cell; have f4 := FIN.out.2.2.2.frozen)
    exact ⟨FIN.out.1, FIN.out.2.1, FIN.out.2.2.1⟩
  case done =>
    rintro D' ys W hD' rfl hi hK
    obtain ⟨vv, hb, ho, A, cap, rfl⟩ := hi.out
    have hc := hb.cell
    have HO := Lib.hid ho
    have HB := Lib.hid hi.below
    clear ho hi
    gi_wp2
    refine ⟨by simp, .inl ⟨_, _, rfl, run_takeDeferred hK, ?_⟩⟩
    refine ⟨_, results_tmp rfl _ _ _, A, _, cap, rfl, own_down (ownsRow_putObj HO.out _ hK rfl) (by omega), Turn.of_below (HB.out.trans (belowK_b (w := w) (Nat.le_refl _) W D' _ _ (by omega) hK rfl rfl)) []⟩
  case stop =>
    rintro D' c pre W _ _ h _
    exact h.elim
theorem collect_c {w : World} (Bs : Nat) (D : Option Addr) (cd : Nat) (xs : List Int) (hlen : xs.length ≤ 1000000) (hBs : Bs < w.heap.size) (hc : w.cell? ⟨Bs, 0, none⟩ = some (.slice D xs.length cd)) (hE : Sl w D (i64s xs)) (hD : ∀ i ∈ blks D, i < w.heap.size) :
    Calls Try.prog 53 #[.func (.func 69) #[] #[.pointer (some ⟨Bs, 0, none⟩)]] w (NewI w xs) := by
  have AC := Lib.hid (appendSeq_c Bs D cd xs hlen hBs hc hE hD)
  clear hc hE hD
  go_enter Try.func53, Try.ntmps53
  go_wp2_with fail
  refine AC.out.mono ?_
  rintro e w1 ⟨A, n, c, rfl, ho, hT⟩
  have HO := Lib.hid ho
  clear ho
  go_wp2_with fail
  go_ret
  exact ⟨A, n, c, by simp, HO.out, hT⟩
theorem sorted_c {w : World} (Bs : Nat) (D : Option Addr) (cd : Nat) (xs : List Int) (hlen : xs.length ≤ 1000000) (hBs : Bs < w.heap.size) (hc : w.cell? ⟨Bs, 0, none⟩ = some (.slice D xs.length cd)) (hE : Sl w D (i64s xs)) (hD : ∀ i ∈ blks D, i < w.heap.size) :
    Calls Try.prog 37 #[.func (.func 69) #[] #[.pointer (some ⟨Bs, 0, none⟩)]] w (NewI w (sortI xs)) := by
  have CC := Lib.hid (collect_c Bs D cd xs hlen hBs hc hE hD)
  clear hc hE hD
  go_enter Try.func37, Try.ntmps37
  go_wp2_with fail
  refine CC.out.mono ?_
  rintro e w1 ⟨A, n, c, rfl, ho, hT⟩
  have hn := own_i64 ho
  have SO := Lib.hid (sort_c w.heap.size A n c xs w1 ho (by omega))
  have hA := own_ltA ho
  clear ho hn
  go_wp2_with fail
  refine SO.out.mono ?_
  rintro e w2 ⟨rfl, ho2, hT2⟩
  have HO2 := Lib.hid ho2
  have TT := hT.andThen hT2 (fun j hj => .inr (hA j hj).2)
  clear ho2
  go_wp2_with fail
  go_ret
  exact ⟨A, n, c, by simp, HO2.out, TT⟩
/-- Does one stand twice? -/
theorem twice_c (A : Option Addr) (n c : Nat) (xs : List Int) (w : World) (hE : Sl w A (i64s xs)) (hn : xs.length = n) (hl : n ≤ 1000000) (hA : ∀ i ∈ blks A, i < w.heap.size) :
    Calls Try.prog 45 #[.slice A n c] w fun e w' => e = .returned (.bool (decide (¬ xs.Nodup))) ∧ Turn [] w w' := by
  subst hn
  have T0 := (Turn.refl [] w).alloc (.cells #[.slice A xs.length c] 45)
  have B0 := Blk.new w 45 #[.slice A xs.length c]
  have SC := Lib.hid (sorted_c w.heap.size A c xs hl (by simp) (B0.cell 0) (hE.turn0 T0) (fun i hi => Nat.lt_of_lt_of_le (hA i hi) T0.size))
  have hiff : ((((compact (sortI xs)).length : Nat) : Int) != ((xs.length : Nat) : Int)) = decide (¬ xs.Nodup) := by
    have h1 := compact_nodup (sortI_rises xs)
    rw [sortI_len, (sortI_perm xs).nodup_iff] at h1
    by_cases h : xs.Nodup
    · have := h1.2 h
      simp [this, h]
    · have : ¬ (compact (sortI xs)).length = xs.length := fun e => h (h1.1 e)
      simp [h]
      omega
  have HIFF := Lib.hid hiff
  clear hiff hE hA B0
  go_enter Try.func45, Try.ntmps45
  go_wp2_with fail
  refine (valuesI_c A xs.length c w).mono ?_
  rintro e w1 ⟨rfl, rfl⟩
  go_wp2_with fail
  refine SC.out.mono ?_
  rintro e w2 ⟨D, m, cd, rfl, ho, hT2⟩
  have hm := own_i64 ho
  rw [sortI_len] at hm
  have CO := Lib.hid (compact_c _ D m cd (sortI xs) w2 ho (by omega))
  have hD := own_ltA ho
  have T2 := T0.trans hT2
  clear ho hm
  go_wp2_with fail
  refine CO.out.mono ?_
  rintro e w3 ⟨rfl, -, hT3⟩
  have T3 := T2.andThen hT3 (fun j hj => .inr (by have := (hD j hj).2; simp at this; omega))
  generalize (compact (sortI xs)).length = q at *
  generalize xs.length = k at *
  go_wp2_with fail
  go_ret
  exact ⟨by rw [← HIFF.out]; simp, T3⟩
end Go.Proofs.Ytelagneielahhaa
