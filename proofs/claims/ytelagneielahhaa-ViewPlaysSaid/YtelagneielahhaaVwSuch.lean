/- A view's such: a range over an iterator with a body. -/
import Derived.Test.YtelagneielahhaaVwIter
namespace Go.Proofs.Ytelagneielahhaa
open Go.RowKit Go.Shelf Go.ChangeMaps

attribute [local go_sem] Oper.semAt_some

section
variable {P : Program} {w : World} {t e : TypeId} {z : Value} {size bytes base : Nat}
theorem wpListIn_append_sl (E : ElemT P t e z size bytes) {F : Fence} {nF : Nat} {ops : Array Oper} {rest : List Oper} {o : Oper} {a : Act} {Q : Exit → Act → World → Prop} (hgd : o.guard = none) (s x : Operand) (ho : o.op = .call { callee := .builtin .append, args := #[s, x], argTypes := #[t, t] })
    (A : Option Addr) (n cap : Nat) (xs : List Value) (hs : a.eval s = .slice A n cap) (hown : w.ownsRow base e size (.slice A n cap) n xs) (B : Option Addr) (m c : Nat) (news : List Value) (hx : a.eval x = .slice B m c) (hn : Sl w B news)
    (hl : news.length = m * size) (h1 : ∀ u ∈ news, u.oneCell' = true) (h63 : n + m ≤ 140737488355328) (hbytes : (n + m) * bytes ≤ 140737488355328) (hbase : base ≤ w.heap.size)
    (h : ∀ A' cap' w', w'.ownsRow base e size (.slice A' (n + m) cap') (n + m) (xs ++ news) → w.grownBy w' (A.map (·.block)) → Lies w A A' → wpListIn F nF P ops Q rest (a.put o.dst (.slice A' (n + m) cap')) w') : wpListIn F nF P ops Q (o :: rest) a w := by
  obtain ⟨A', cap', w', hr, h2, h3, h4⟩ := E.append o.type A n cap xs hown B m c news hn hl h1 h63 hbytes hbase
  refine wpListIn_plain hgd fun K hK' => ?_
  unfold Oper.wpIn
  refine ⟨?_, ?_⟩
  · simp [Oper.about, ho, resolve, Target.leads, Sem.run_pure]
  · rw [Oper.semAt_plain F _ _ (by rw [ho]; intro c hc'; cases hc')]
    simp [execOp, ho, resolve, invoke, builtin, hs, hx, hr, Result.andThen]
    exact hK' _ _ (h A' cap' w' h2 h3 h4)
end

theorem ccs_len : ∀ l : List C4, (ccs l).length = l.length * 4
  | [] => rfl
  | c :: r => by simp [ccs, ccs_len r]; omega
theorem ccs_append : ∀ l m : List C4, ccs (l ++ m) = ccs l ++ ccs m
  | [], m => rfl
  | c :: r, m => by simp [ccs, ccs_append r m]
theorem ccs_get : ∀ (l : List C4) (k : Nat) (hk : k < l.length), (ccs l)[k * 4]? = some (.int .i64 l[k].1) ∧ (ccs l)[k * 4 + 1]? = some (.int .i64 l[k].2.1) ∧ (ccs l)[k * 4 + 2]? = some (.int .i64 l[k].2.2.1) ∧ (ccs l)[k * 4 + 3]? = some (.int .i64 l[k].2.2.2)
  | [], k, hk => absurd hk (by simp)
  | c :: r, 0, hk => ⟨rfl, rfl, rfl, rfl⟩
  | c :: r, k + 1, hk => by
    have h := ccs_get r k (by simpa using hk)
    have e : (k + 1) * 4 = k * 4 + 4 := by omega
    rw [e]
    simpa [ccs] using h
theorem ccs_at {w : World} {A : Option Addr} {l : List C4} (h : Sl w A (ccs l)) {k : Nat} (hk : k < l.length) : ∃ b off, A = some ⟨b, off, none⟩ ∧ b < w.heap.size ∧ w.cell? ⟨b, off + k * 4, none⟩ = some (.int .i64 l[k].1) ∧ w.cell? ⟨b, off + k * 4 + 1, none⟩ = some (.int .i64 l[k].2.1) ∧ w.cell? ⟨b, off + k * 4 + 2, none⟩ = some (.int .i64 l[k].2.2.1) ∧ w.cell? ⟨b, off + k * 4 + 3, none⟩ = some (.int .i64 l[k].2.2.2) := by
  obtain ⟨b, off, hA, hb, hc⟩ := h (by rw [ccs_len]; omega)
  obtain ⟨g0, g1, g2, g3⟩ := ccs_get l k hk
  exact ⟨b, off, hA, hb, hc _ _ g0, by rw [Nat.add_assoc]; exact hc _ _ g1, by rw [Nat.add_assoc]; exact hc _ _ g2, by rw [Nat.add_assoc]; exact hc _ _ g3⟩
def zc : Value := .agg #[.int .i64 0, .int .i64 0, .int .i64 0, .int .i64 0]
theorem infoC : (Try.prog.info? 29).map (fun i => (i.zero, i.size, i.bytes)) = some (some zc, 4, 32) := by kernel_rfl
theorem elemC : ElemT Try.prog 42 29 zc 4 32 := ⟨Try.underlying42, info_parts infoC, rfl, by decide⟩
/-- A new slice of claims. -/
def NewCs (w : World) (n : Nat) (l : List C4) (e : Ending) (w' : World) : Prop :=
  ∃ A' c', e = .returned (.slice A' n c') ∧ w'.ownsRow w.heap.size 29 4 (.slice A' n c') n (ccs l) ∧ Turn [] w w'
/-- The claims of those that are such. -/
def suchL (p : En → Bool) (l : List En) : List C4 := (l.filter p).map (·.c)
theorem suchL_hit {p : En → Bool} {x : En} (h : p x = true) (l : List En) : suchL p (l ++ [x]) = suchL p l ++ [x.c] := by simp [suchL, List.filter_append, h]
theorem suchL_miss {p : En → Bool} {x : En} (h : p x = false) (l : List En) : suchL p (l ++ [x]) = suchL p l := by simp [suchL, List.filter_append, h]
theorem suchL_len (p : En → Bool) (l : List En) : (suchL p l).length ≤ l.length := by
  unfold suchL
  rw [List.length_map]
  exact List.length_filter_le _ _

/-- Where such stands behind the entries pre. -/
structure SuchI (w : World) (base : Nat) (p : En → Bool) (isv : Value) (pre : List En) (W : World) : Prop where
  is : Boxed W w.heap.size 85 isv
  out : ∃ v, Boxed W (w.heap.size + 1) 42 v ∧ W.ownsRow base 29 4 v (suchL p pre).length (ccs (suchL p pre)) ∧ ∃ A cap, v = .slice A (suchL p pre).length cap
  below : Below w.heap.size w W
  size : base ≤ W.heap.size
theorem suchI_own (w : World) (base : Nat) (p : En → Bool) (isv : Value) (B : Nat) (hB : w.heap.size ≤ B) : OwnFrom B (SuchI w base p isv) := fun s X Y row hs hg hr =>
  ⟨boxed_own w.heap.size 85 (fun _ : Unit => isv) () X Y row hs.is hg (fun r e => (hr r e).2),
   holdsRow_own base (w.heap.size + 1) 42 29 4 (fun s => (suchL p s).length) (fun s => ccs (suchL p s)) (fun s v => ∃ A cap, v = .slice A (suchL p s).length cap) s X Y row hs.out hg (fun r e => (hr r e).2),
   ownFrom_below (Nat.le_refl _) hB s X Y row hs.below hg hr, Nat.le_trans hs.size hg.size⟩
theorem SuchI.turn {w : World} {base : Nat} {p : En → Bool} {isv : Value} {pre : List En} {W W' : World} (h : SuchI w base p isv pre W) (hT : Turn [] W W') : SuchI w base p isv pre W' := by
  obtain ⟨v, hb, ho, A, cap, rfl⟩ := h.out
  exact ⟨hT.obj h.is (by simp), ⟨_, hT.obj hb (by simp), own_turnA ho hT (by simp), A, cap, rfl⟩, h.below.trans (hT.nil_below.mono h.below.size), Nat.le_trans h.size hT.size⟩
theorem keeps_of_turn {S : List Nat} {B : Nat} {W W' : World} (hT : Turn S W W') (hS : ∀ i ∈ S, ∀ o, W.heap[i]? = some o → o.isCells = true) : KeepsFrom B W W' :=
  ⟨hT.size, fun k o _ hk ho => (hT.block k (lt_of_some hk) (fun hm => by have := hS k hm o hk; rw [ho] at this; cases this)).trans hk⟩
theorem own_cells {w : World} {base n cap size : Nat} {e : TypeId} {A : Option Addr} {xs : List Value} (h : w.ownsRow base e size (.slice A n cap) n xs) : ∀ i ∈ blks A, ∀ o, w.heap[i]? = some o → o.isCells = true := by
  intro i hi o ho
  obtain ⟨a, rfl, rfl⟩ := mem_blks.1 hi
  obtain ⟨-, h2⟩ := h
  rcases h2 with h2 | ⟨g, cap, cur, hv, hb, hg, hr⟩
  · simp at h2
  · cases hv
    simp at ho
    rw [hg] at ho
    cases ho
    rfl
/-- One more is such. -/
theorem SuchI.hit {w : World} {base : Nat} {p : En → Bool} {isv : Value} {pre : List En} {x : En} {A A' D : Option Addr} {n cap cap' : Nat} {W w4 : World} {o : Obj} (h : SuchI w base p isv pre W) (hp : p x = true) (hn : n = (suchL p pre).length) (hb : Boxed W (w.heap.size + 1) 42 (.slice A n cap))
    (ho : W.ownsRow base 29 4 (.slice A n cap) n (ccs (suchL p pre))) (hbase : w.heap.size + 1 < base) (hD : ∀ i ∈ blks D, i < base ∧ i ≠ w.heap.size + 1)
    (own4 : w4.ownsRow base 29 4 (.slice A' (n + 1) cap') (n + 1) (ccs (suchL p pre) ++ [.int .i64 x.c.1, .int .i64 x.c.2.1, .int .i64 x.c.2.2.1, .int .i64 x.c.2.2.2])) (hg : (W.alloc o).grownBy w4 (A.map (·.block))) :
    KeepsFrom base W (w4.setCell ⟨w.heap.size + 1, 0, none⟩ (.slice A' (n + 1) cap')) ∧ KeptB D W (w4.setCell ⟨w.heap.size + 1, 0, none⟩ (.slice A' (n + 1) cap')) ∧ SuchI w base p isv (pre ++ [x]) (w4.setCell ⟨w.heap.size + 1, 0, none⟩ (.slice A' (n + 1) cap')) ∧ Boxed w4 (w.heap.size + 1) 42 (.slice A n cap) := by
  have hA := own_ltA ho
  have T4 : Turn (blks A) W w4 := (((Turn.refl [] W).alloc o).mono (by simp)).trans (grown_turn hg)
  have T5 : Turn [w.heap.size + 1] w4 (w4.setCell ⟨w.heap.size + 1, 0, none⟩ (.slice A' (n + 1) cap')) := (Turn.refl _ w4).setCell (.inl (by simp)) _
  have T : Turn ((w.heap.size + 1) :: blks A) W (w4.setCell ⟨w.heap.size + 1, 0, none⟩ (.slice A' (n + 1) cap')) := (T4.mono (by intro i hi; simp [hi])).trans (T5.mono (by simp))
  have hb4 : Boxed w4 (w.heap.size + 1) 42 (.slice A n cap) := T4.obj hb (fun hm => by have := (hA _ hm).2; omega)
  have own4' := own_ltA own4
  refine ⟨keeps_of_turn T (fun i hi o' ho' => ?_), KeptB.of_turn T (fun i hi => ?_) (fun i hi hm => ?_), ⟨?_, ⟨_, hb4.set _, ?_, A', cap', ?_⟩, ?_, ?_⟩, hb4⟩
  · simp at hi
    rcases hi with rfl | hi
    · rw [show W.heap[w.heap.size + 1]? = _ from hb] at ho'
      cases ho'
      rfl
    · exact own_cells ho i hi o' ho'
  · have := (hD i hi).1
    have := h.size
    omega
  · simp at hm
    rcases hm with hm | hm
    · exact (hD i hi).2 hm
    · have := (hA i hm).2
      have := (hD i hi).1
      omega
  · exact T.obj h.is (by simp; intro hm; have := (hA _ hm).2; omega)
  · rw [suchL_hit hp, ccs_append, List.length_append, ← hn]
    exact own_turnA own4 T5 (fun i hi hm => by simp at hm; have := (own4' i hi).2; omega)
  · rw [suchL_hit hp, List.length_append, ← hn]
    rfl
  · have := h.below.size
    exact h.below.trans (T.belowOf h.below.size (fun i hi => by
      simp at hi
      rcases hi with rfl | hi
      · omega
      · have := (hA i hi).2; omega))
  · exact Nat.le_trans h.size T.size

set_option maxRecDepth 100000 in
set_option maxHeartbeats 4000000 in
theorem such_g {w : World} (q : Option Addr) (es : List En) (hle : es.length ≤ 16) (gf : FuncId) (lb : Array Value) (p : En → Bool)
    (AL : ∀ wz, Turn [] w wz → Calls Try.prog 11 #[.pointer q] wz fun e w' => ∃ D cd, e = .returned (.slice D es.length cd) ∧ w'.ownsRow wz.heap.size 37 8 (.slice D es.length cd) es.length (ecs es) ∧ Turn [] wz w')
    (E : ∀ args w, (callFunc gf args).run Try.prog w = .ok (.enter gf args) w) (H : 0 < es.length → ∀ x wz, Turn [] w wz → Calls Try.prog gf (#[ven x] ++ lb) wz fun e w' => e = .returned (.bool (p x)) ∧ Turn [] wz w') :
    Calls Try.prog 39 #[.pointer q, .func (.func gf) #[] lb] w (NewCs w (suchL p es).length (suchL p es)) := by
  have T0 : Turn [] w ((w.alloc (.cells #[.func (.func gf) #[] lb] 85)).alloc (.cells #[.slice none 0 0] 42)) := ((Turn.refl [] w).alloc _).alloc _
  have AL0 := AL _ T0
  have AL' := Lib.hid AL0
  clear AL0
  have HH := Lib.hid H
  have bI := (Boxed.new w 85 (.func (.func gf) #[] lb)).alloc (.cells #[.slice none 0 0] 42)
  have bO := Boxed.new (w.alloc (.cells #[.func (.func gf) #[] lb] 85)) 42 (.slice none 0 0)
  rw [World.size_alloc] at bO
  have BI := Lib.hid bI
  have BO := Lib.hid bO
  clear H bI bO AL
  refine (callsIn_wide (n := 5)).1 ?_
  refine callsIn_of_wp_marks Try.func39 rfl trivial ?_ rfl
  simp only [Try.ntmps39, List.size_toArray, List.length_cons, List.length_nil, Nat.reduceAdd, Nat.reduceSub, Array.replicate_succ, Array.replicate_zero, List.push_toArray, List.append_toArray, List.nil_append, List.cons_append]
  gi_wp2_with fail
  refine ⟨trivial, (callsIn_wide.2 AL'.out).mono ?_⟩
  rintro e w2 ⟨D, cd, rfl, oD, hT2⟩
  have HOD := Lib.hid oD
  have hz2 : w.heap.size + 2 ≤ w2.heap.size := by have := hT2.size; simpa using this
  have TW2 := T0.trans hT2
  have HT2 := Lib.hid hT2
  clear oD
  gi_wp2_with fail
  refine ⟨trivial, (valuesE_in Fence.wide _ trivial rfl D es.length cd w2).mono ?_⟩
  rintro e w' ⟨rfl, rfl⟩
  gi_wp2_with fail
  have bV := Boxed.new w2 34 (.slice D es.length cd)
  have T23 : Turn [] w2 (w2.alloc (.cells #[.slice D es.length cd] 34)) := (Turn.refl [] w2).alloc _
  have hsz3 : (w2.alloc (.cells #[.slice D es.length cd] 34)).heap.size = w2.heap.size + 1 := by simp
  have hBI := (HT2.out.trans T23).obj BI.out (by simp)
  have hBO := (HT2.out.trans T23).obj BO.out (by simp)
  obtain ⟨W0, hW0⟩ : ∃ W0, w2.alloc (.cells #[.slice D es.length cd] 34) = W0 := ⟨_, rfl⟩
  rw [hW0] at bV T23 hsz3 hBI hBO ⊢
  clear hW0
  have hoD3 := own_turnA HOD.out T23 (by simp)
  have hoDl := own_ltA hoD3
  have hEs : EnsAt W0 D es := by
    rcases hoD3.2 with ⟨h2, -⟩ | ⟨g, cap', cur, hv, -, hg, -⟩
    · injection h2 with e1 e2 e3
      exact .inl ⟨e1, List.eq_nil_of_length_eq_zero e2⟩
    · injection hv with e1 e2 e3
      refine .inr ⟨g, 0, e1, lt_of_some hg, fun j u hu => ?_⟩
      obtain ⟨b, off, hA, _, hc⟩ := Sl.of_own hoD3 (by have := (List.getElem?_eq_some_iff.1 hu).1; omega)
      rw [e1] at hA
      cases hA
      exact hc j u hu
  have hoDz : ∀ i ∈ blks D, i < W0.heap.size ∧ i ≠ w.heap.size + 1 := fun i hi => by
    have h1 := hoDl i hi
    simp at h1
    omega
  have I0 : SuchI w W0.heap.size p (.func (.func gf) #[] lb) [] W0 := ⟨hBI, ⟨_, hBO, World.ownsRow_nil _ _ _ _, none, 0, rfl⟩, (TW2.trans T23).nil_below, Nat.le_refl _⟩
  have HES := Lib.hid hEs
  have HODZ := Lib.hid hoDz
  have HI0 := Lib.hid I0
  clear hoD3 hoDl hEs hBI hBO I0 hoDz
  refine wpIn_rangeFunc_ownH rfl (by omega) (gf := 67) (lb := #[.pointer (some ⟨w2.heap.size, 0, none⟩)]) rfl trivial (enters_of Try.func67 (by kernel_rfl) rfl)
    (valuesE_stops Fence.wide _ trivial rfl (by omega) w2.heap.size D cd es (by omega) W0 (by omega) bV.cell HES.out) (fun h k => KeptB.trans h k) (fun W l o o' hl hL _ _ => ⟨by simp [World.putObj], fun i hi => World.putObj_heap_other (by have := (HODZ.out i hi).1; omega)⟩) (Below.refl _ _) (fun _ => rfl)
    (SuchI w W0.heap.size p (.func (.func gf) #[] lb)) (fun _ _ _ => False) (suchI_own w _ p _ _ (by omega)) (fun _ _ _ _ _ hs _ _ => hs) HI0.out
    (fun x a' W => ∃ Bx, W0.heap.size ≤ Bx ∧ Blk W Bx 37 #[.int .i64 x.c.1, .int .i64 x.c.2.1, .int .i64 x.c.2.2.1, .int .i64 x.c.2.2.2, .bool x.down, .int .i64 x.heard, .int .i64 x.since, .int .i64 x.inc] ∧ a' = { tmps := #[.pointer q, .func (.func gf) #[] lb, undef, .pointer (some ⟨w.heap.size, 0, none⟩), .slice none 0 0, .pointer (some ⟨w.heap.size + 1, 0, none⟩), .pointer (some ⟨Bx, 0, none⟩), .pointer q, .slice D es.length cd, .func (.func 67) #[] #[.pointer (some ⟨w2.heap.size, 0, none⟩)], ven x, undef, undef, undef, undef, undef, undef, undef, undef, undef], defers := [] })
    (fun x a' _ X Y row hs hg hr => by
      obtain ⟨Bx, h1, h2, h3⟩ := hs
      refine ⟨Bx, h1, ?_, h3⟩
      exact (hg.block Bx h2.lt (fun e => by obtain ⟨-, o, ho, hc⟩ := hr Bx e.symm; rw [show X.heap[Bx]? = _ from h2] at ho; cases ho; cases hc)).trans h2)
    ?assign ?body ?done ?stop
  case assign =>
    rintro l pre x W K hi hK
    obtain ⟨⟨x1, x2, x3, x4⟩, dn, hd, sn, ic⟩ := x
    have hK' := Lib.hid hK
    have hI' := Lib.hid hi
    have hbl : ∀ i ∈ blks D, i < W.heap.size := fun i hi' => Nat.lt_of_lt_of_le (HODZ.out i hi').1 hi.size
    clear hK hi
    unfold ven
    dsimp only
    gi_wp2
    refine hK'.out _ _ ((KeepsOthers.alloc _ _).from _) (KeptB.of_turn ((Turn.refl [] W).alloc _) hbl (by simp)) (hI'.out.turn ((Turn.refl [] W).alloc _)) ⟨W.heap.size, hI'.out.size, Blk.new W _ _, ?_⟩
    rfl
  case body =>
    rintro l pre x a' W hl - hi ⟨Bx, hBx, bX, rfl⟩ hlt
    obtain ⟨vv, hb, ho, A, cap, rfl⟩ := hi.out
    have hc1 := hb.cell
    have hci := hi.is.cell
    have x0 := bX.cell 0
    have x1' := bX.cell 1
    have x2' := bX.cell 2
    have x3' := bX.cell 3
    have x4' := bX.cell 4
    have x5' := bX.cell 5
    have x6' := bX.cell 6
    have x7' := bX.cell 7
    have hX := bX.lt
    have HC := Lib.hid (HH.out (by omega) x W (Turn.of_below hi.below []))
    have HI := Lib.hid hi
    have HB := Lib.hid hb
    have HO := Lib.hid ho
    have hbl : ∀ i ∈ blks D, i < W.heap.size := fun i hi' => Nat.lt_of_lt_of_le (HODZ.out i hi').1 hi.size
    have HBL := Lib.hid hbl
    have hlen : (suchL p pre).length ≤ 16 := by have := suchL_len p pre; omega
    have hWs := hi.size
    clear hi hb ho hbl hlt
    cases hp : p x with
    | false =>
      have HP : Hid (∀ pre, suchL p (pre ++ [x]) = suchL p pre) := fun pre => suchL_miss hp pre
      rw [hp] at HC
      clear hp
      obtain ⟨⟨x1, x2, x3, x4⟩, dn, hd, sn, ic⟩ := x
      unfold ven at HC
      simp only at HC x0 x1' x2' x3' x4' x5' x6' x7'
      unfold ven
      dsimp only
      gi_wp2_with fail
      refine ⟨trivial, (CallsIn.inRound l (callsIn_wide.2 HC.out)).mono ?_⟩
      rintro e w3 ⟨rfl, hT3⟩
      have HT3 := Lib.hid hT3
      clear hT3
      gi_wp2_with fail
      have I3 := HI.out.turn HT3.out
      obtain ⟨v3, b3, o3, hv3⟩ := I3.out
      exact ⟨keeps_of_turn HT3.out (by simp), KeptB.of_turn HT3.out HBL.out (by simp), ⟨I3.is, ⟨v3, b3, by rw [HP.out]; exact o3, by rw [HP.out]; exact hv3⟩, I3.below, I3.size⟩⟩
    | true =>
      have HP := Lib.hid hp
      rw [hp] at HC
      clear hp
      obtain ⟨⟨x1, x2, x3, x4⟩, dn, hd, sn, ic⟩ := x
      unfold ven at HC
      simp only at HC x0 x1' x2' x3' x4' x5' x6' x7'
      unfold ven
      dsimp only
      gi_wp2_with fail
      refine ⟨trivial, (CallsIn.inRound l (callsIn_wide.2 HC.out)).mono ?_⟩
      rintro e w3 ⟨rfl, hT3⟩
      have HT3 := Lib.hid hT3
      have I3 := Lib.hid (HI.out.turn hT3)
      have b3 : Boxed w3 (w.heap.size + 1) 42 (.slice A (suchL p pre).length cap) := hT3.obj HB.out (by simp)
      have B3 := Lib.hid b3
      clear b3
      have O3 := Lib.hid (own_turnA HO.out hT3 (by simp))
      have bX3 := hT3.blk bX (by simp)
      have y0 := bX3.cell 0
      have y1 := bX3.cell 1
      have y2 := bX3.cell 2
      have y3 := bX3.cell 3
      have yX := bX3.lt
      have hb3 := B3.out.cell
      clear hT3 x0 x1' x2' x3' x4' x5' x6' x7' hX hc1 hci bX
      have hz3 := HT3.out.size
      generalize hn : (suchL p pre).length = nn at *
      have HN := Lib.hid hn
      clear hn
      gi_wp2_with (gi_at_builtin; refine wpListIn_append_sl elemC rfl _ _ rfl A nn cap _ rfl (O3.out.alloc _) (some ⟨w3.heap.size, 0, none⟩) 1 1 [.int .i64 x1, .int .i64 x2, .int .i64 x3, .int .i64 x4] rfl (Sl.new _ #[.int .i64 x1, .int .i64 x2, .int .i64 x3, .int .i64 x4] _) (by simp) (by simp [Value.oneCell']) (by omega) (by omega) (by simp; omega) ?_; intro A' c' w4 own4 hg4 hlie4; have FIN := Lib.hid (I3.out.hit (D := D) HP.out HN.out.symm B3.out O3.out (by omega) HODZ.out own4 hg4); have b4 := FIN.out.2.2.2.cell; have f4 := FIN.out.2.2.2.frozen)
      exact ⟨(keeps_of_turn HT3.out (by simp)).trans FIN.out.1, (KeptB.of_turn HT3.out HBL.out (by simp)).trans FIN.out.2.1, FIN.out.2.2.1⟩
  case done =>
    rintro D' ys W hD rfl hi hK
    obtain ⟨vv, hb, ho, A, cap, rfl⟩ := hi.out
    have hc := hb.cell
    have HO := Lib.hid ho
    have HB := Lib.hid hi.below
    clear ho hi
    gi_wp2
    refine ⟨by simp, .inl ⟨_, _, rfl, run_takeDeferred hK, ?_⟩⟩
    refine ⟨_, results_tmp rfl _ _ _, A, cap, rfl, own_down (ownsRow_putObj HO.out _ hK rfl) (by omega), Turn.of_below (HB.out.trans (belowK_b (w := w) (Nat.le_refl _) W D' _ _ (by omega) hK rfl rfl)) []⟩
  case stop =>
    rintro D' c pre W _ _ h _
    exact h.elim
theorem such_c {w : World} {v mb : Nat} {own : C4} {m : VM} (h : VIs w v mb own m) (hw : ∀ p ∈ m, (Lit.int .i64 p.1).wf = true) (gf : FuncId) (lb : Array Value) (p : En → Bool)
    (E : ∀ args w, (callFunc gf args).run Try.prog w = .ok (.enter gf args) w) (H : ∀ x wz, Turn [] w wz → Calls Try.prog gf (#[ven x] ++ lb) wz fun e w' => e = .returned (.bool (p x)) ∧ Turn [] wz w') :
    Calls Try.prog 39 #[.pointer (some ⟨v, 0, none⟩), .func (.func gf) #[] lb] w (NewCs w (suchL p (m.map (·.2))).length (suchL p (m.map (·.2)))) := by
  refine such_g _ _ (by rw [List.length_map]; exact h.le) gf lb p (fun wz hT => ?_) E (fun _ => H)
  have AL := allV_c (h.turn hT (by simp) (by simp)) hw
  have hml : m.length = (m.map (·.2)).length := by simp
  rw [hml] at AL
  exact AL
theorem allNil (w : World) : Calls Try.prog 11 #[.pointer none] w fun e w' => e = .returned (.slice none 0 0) ∧ w = w' := by
  go_enter Try.func11, Try.ntmps11
  go_wp2_with fail
  go_ret
  exact ⟨by simp, rfl⟩
theorem suchNil {w : World} (gf : FuncId) (lb : Array Value) (E : ∀ args w, (callFunc gf args).run Try.prog w = .ok (.enter gf args) w) :
    Calls Try.prog 39 #[.pointer none, .func (.func gf) #[] lb] w (NewCs w 0 []) :=
  such_g none [] (by simp) gf lb (fun _ => false) (fun wz _ => (allNil wz).mono fun e w' ⟨h1, h2⟩ => ⟨none, 0, h1, World.ownsRow_nil _ _ _ _, h2 ▸ Turn.refl _ _⟩) E (fun h => absurd h (by simp))
end Go.Proofs.Ytelagneielahhaa
