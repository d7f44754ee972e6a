/- General lemmas, over any program: slices read as lists of cells, whoever owns them. -/
import Derived.Test.YtiijgokgojjocaaLawKit
import Derived.WalkSpells
import Derived.Deep.AppendLies
namespace Go.Proofs.Ytiijgokgojjocaa
open Go.ChangeShapes Go.WideShapes Go.ChangeAt Go.RowKit Go.Deep

/-- From address A on, the cells xs stand one behind the other. -/
def Sl (w : World) (A : Option Addr) (xs : List Value) : Prop :=
  0 < xs.length → ∃ b off, A = some ⟨b, off, none⟩ ∧ b < w.heap.size ∧ ∀ j u, xs[j]? = some u → w.cell? ⟨b, off + j, none⟩ = some u

/-- The address lies in no block of S. -/
def Off (A : Option Addr) (S : List Nat) : Prop := ∀ a, A = some a → a.block ∉ S

section
variable {w w' : World} {A : Option Addr} {xs : List Value} {S : List Nat}
theorem Sl.nil (w : World) (A : Option Addr) : Sl w A [] := fun h => absurd h (by simp)
theorem Sl.turn (h : Sl w A xs) (hT : Turn S w w') (hA : Off A S) : Sl w' A xs := fun hpos => by
  obtain ⟨b, off, rfl, hb, hc⟩ := h hpos
  exact ⟨b, off, rfl, Nat.lt_of_lt_of_le hb hT.size, fun j u hu => (hT.cell (p := ⟨b, off + j, none⟩) hb (hA ⟨b, off, none⟩ rfl)).trans (hc j u hu)⟩
theorem Sl.turn0 (h : Sl w A xs) (hT : Turn [] w w') : Sl w' A xs := h.turn hT (fun _ _ => by simp)
theorem Sl.take (h : Sl w A xs) (n : Nat) : Sl w A (xs.take n) := fun hpos => by
  obtain ⟨b, off, hA, hb, hc⟩ := h (by simp at hpos; omega)
  refine ⟨b, off, hA, hb, fun j u hu => hc j u ?_⟩
  rw [List.getElem?_take] at hu
  split at hu
  · exact hu
  · cases hu
theorem Sl.at_ (h : Sl w A xs) {k : Nat} (hk : k < xs.length) : ∃ b off, A = some ⟨b, off, none⟩ ∧ b < w.heap.size ∧ w.cell? ⟨b, off + k, none⟩ = some xs[k] := by
  obtain ⟨b, off, hA, hb, hc⟩ := h (by omega)
  exact ⟨b, off, hA, hb, hc k _ (List.getElem?_eq_getElem hk)⟩
theorem Sl.of_own {base n cap size : Nat} {e : TypeId} (h : w.ownsRow base e size (.slice A n cap) n xs) : Sl w A xs := fun hpos => by
  have hn : 0 < n := by
    rcases Nat.eq_zero_or_pos n with h0 | h0
    · have := h.1
      subst h0
      simp at this
      subst this
      simp at hpos
    · exact h0
  obtain ⟨g, cap', hv, _, hlt⟩ := h.form hn
  have hA : A = some ⟨g, 0, none⟩ := by injection hv
  subst hA
  refine ⟨g, 0, rfl, hlt, fun j u hu => ?_⟩
  have := h.cells (g := g) rfl j u hu
  rwa [add_plain] at this
theorem Off.of_own {base n cap size : Nat} {e : TypeId} (h : w.ownsRow base e size (.slice A n cap) n xs) (hS : ∀ k ∈ S, k < base) : Off A S := fun a ha hm => by
  have := (h.lt a.block (by simp [Value.ownBlock, ha])).1
  have := hS _ hm
  omega
end

/-- The slice that owns something is written out. -/
theorem own_form {w : World} {base n size : Nat} {e : TypeId} {v : Value} {xs : List Value} (h : w.ownsRow base e size v n xs) : ∃ A cap, v = .slice A n cap ∧ n ≤ cap ∧ cap ≤ maxLen := by
  rcases h.2 with ⟨rfl, rfl⟩ | ⟨g, cap, cur, rfl, _, _, hc, hm, _⟩
  · exact ⟨none, 0, rfl, Nat.le_refl _, by simp⟩
  · exact ⟨_, cap, rfl, hc, hm⟩

theorem own_caps {w : World} {base n cap size : Nat} {e : TypeId} {A : Option Addr} {xs : List Value} (h : w.ownsRow base e size (.slice A n cap) n xs) : n ≤ cap ∧ cap ≤ maxLen := by
  obtain ⟨A', cap', hv, h1, h2⟩ := own_form h
  cases hv
  exact ⟨h1, h2⟩
theorem own_base {w : World} {base n cap size : Nat} {e : TypeId} {A : Option Addr} {xs : List Value} (h : w.ownsRow base e size (.slice A n cap) n xs) : ∀ a, A = some a → base ≤ a.block := fun a ha =>
  (h.lt a.block (by simp [Value.ownBlock, ha])).1

/-- The block of an old cell is none of those that are owned from base on. -/
theorem own_far {w : World} {base n cap size : Nat} {e : TypeId} {A : Option Addr} {xs : List Value} (h : w.ownsRow base e size (.slice A n cap) n xs) {b : Nat} (hb : b < base) : some b ≠ A.map (·.block) := by
  intro he
  cases A with
  | none => cases he
  | some a =>
    have := (h.lt a.block rfl).1
    simp at he
    omega

theorem own_lo {w : World} {base n cap size : Nat} {e : TypeId} {A : Option Addr} {xs : List Value} (h : w.ownsRow base e size (.slice A n cap) n xs) {i : Nat} (hi : i ∈ A.toList.map (·.block)) : base ≤ i := by
  cases A with
  | none => simp at hi
  | some a =>
    have := (h.lt a.block rfl).1
    simp at hi
    omega

/-- A slice type t, its element type e, and what an element is like. -/
structure ElemT (P : Program) (t e : TypeId) (z : Value) (size bytes : Nat) : Prop where
  ht : P.underlying t = some (.slice e)
  info : ∃ i, P.info? e = some i ∧ i.zero = some z ∧ i.size = size ∧ i.bytes = bytes
  zs : z.cells.size = size
  pos : 0 < size

/-- Where a slice that was appended to lies: in its old block, or in a new one. -/
def Lies (w : World) (A A' : Option Addr) : Prop := ∀ a, A' = some a → (∃ a0, A = some a0 ∧ a.block = a0.block) ∨ a.block = w.heap.size

section
variable {P : Program} {w : World} {t e : TypeId} {z : Value} {size bytes base : Nat}
theorem ElemT.append (E : ElemT P t e z size bytes) (ty : TypeId) (A : Option Addr) (n cap : Nat) (xs : List Value) (hown : w.ownsRow base e size (.slice A n cap) n xs) (B : Option Addr) (m c : Nat) (news : List Value) (hn : Sl w B news)
    (hl : news.length = m * size) (h1 : ∀ u ∈ news, u.oneCell' = true) (h63 : n + m ≤ 140737488355328) (hbytes : (n + m) * bytes ≤ 140737488355328) (hbase : base ≤ w.heap.size) :
    ∃ A' cap' w', (Builtin.append_ #[t, t] ty #[.slice A n cap, .slice B m c]).run P w = .ok (.slice A' (n + m) cap') w' ∧ w'.ownsRow base e size (.slice A' (n + m) cap') (n + m) (xs ++ news) ∧ w.grownBy w' (A.map (·.block)) ∧ Lies w A A' := by
  obtain ⟨ht, ⟨i, hi, hz, hs, hb⟩, hzs, hpos⟩ := E
  have hbl : (Value.slice A n cap).ownBlock = A.map (·.block) := by cases A <;> rfl
  have hm : n + m ≤ maxLen := by unfold maxLen; omega
  cases B with
  | none =>
    have h0 : news = [] := by
      rcases Nat.eq_zero_or_pos news.length with h | h
      · exact List.eq_nil_of_length_eq_zero h
      · obtain ⟨b, off, hA, _⟩ := hn h
        cases hA
    subst h0
    have hm0 : m = 0 := by
      rcases Nat.eq_zero_or_pos m with h | h
      · exact h
      · have := Nat.mul_pos h hpos
        simp at hl
        omega
    subst hm0
    refine ⟨A, cap, w, ?_, by simpa using hown, World.grownBy.refl w _, fun a ha => .inl ⟨a, ha, rfl⟩⟩
    rcases hown.2 with ⟨h0, hn0⟩ | ⟨g, cap', cur, h0, _, _, hnc, _⟩
    · cases h0
      simp [Builtin.append_, run_underlying ht, sizeOf, typeInfo, hi, Builtin.lenOf, Builtin.firstCells]
    · cases h0
      simp [Builtin.append_, run_underlying ht, sizeOf, typeInfo, hi, Builtin.lenOf, Builtin.firstCells, hnc, storeCells]
  | some ad =>
    have hc : ∀ j u, news[j]? = some u → w.cell? (ad.add j) = some u := by
      intro j u hu
      have hp : 0 < news.length := by
        have := (List.getElem?_eq_some_iff.1 hu).1
        omega
      obtain ⟨b, off, hA, _, h⟩ := hn hp
      cases hA
      rw [add_plain]
      exact h j u hu
    obtain ⟨v', w', hrun, h2, h3, _, h5⟩ := run_append_own_at (P := P) w base t ty e i z size bytes ht hi hz hs hb hzs hpos _ n xs hown ad m c news hl hc h1 hm hbytes hbase
    obtain ⟨A', cap', rfl, _⟩ := own_form h2
    refine ⟨A', cap', w', hrun, h2, by rw [← hbl]; exact h3, fun a ha => ?_⟩
    subst ha
    rcases h5 with h5 | h5
    · rw [hbl] at h5
      simp only [Value.ownBlock] at h5
      cases A with
      | none => simp at h5
      | some a0 => exact .inl ⟨a0, rfl, by simpa using h5⟩
    · right
      simpa [Value.ownBlock] using h5

theorem wp_append_sl (E : ElemT P t e z size bytes) {o : Oper} {a : Act} {K : Act → World → Prop} {Q : Exit → Act → World → Prop} (s x : Operand) (ho : o.op = .call { callee := .builtin .append, args := #[s, x], argTypes := #[t, t] })
    (A : Option Addr) (n cap : Nat) (xs : List Value) (hs : a.eval s = .slice A n cap) (hown : w.ownsRow base e size (.slice A n cap) n xs) (B : Option Addr) (m c : Nat) (news : List Value) (hx : a.eval x = .slice B m c) (hn : Sl w B news)
    (hl : news.length = m * size) (h1 : ∀ u ∈ news, u.oneCell' = true) (h63 : n + m ≤ 140737488355328) (hbytes : (n + m) * bytes ≤ 140737488355328) (hbase : base ≤ w.heap.size)
    (h : ∀ A' cap' w', w'.ownsRow base e size (.slice A' (n + m) cap') (n + m) (xs ++ news) → w.grownBy w' (A.map (·.block)) → Lies w A A' → K (a.put o.dst (.slice A' (n + m) cap')) w') : o.wp P a w K Q := by
  obtain ⟨A', cap', w', hr, h2, h3, h4⟩ := E.append o.type A n cap xs hown B m c news hn hl h1 h63 hbytes hbase
  unfold Oper.wp execOp
  simp only [ho, resolve, invoke, builtin, Sem.run_bind, Sem.run_pure, Result.andThen_ok, List.map_toArray, List.map_cons, List.map_nil, hs, hx, hr]
  exact h A' cap' w' h2 h3 h4

theorem wpList_append_sl (E : ElemT P t e z size bytes) {ops : Array Oper} {rest : List Oper} {o : Oper} {a : Act} {Q : Exit → Act → World → Prop} (hgd : o.guard = none) (s x : Operand) (ho : o.op = .call { callee := .builtin .append, args := #[s, x], argTypes := #[t, t] })
    (A : Option Addr) (n cap : Nat) (xs : List Value) (hs : a.eval s = .slice A n cap) (hown : w.ownsRow base e size (.slice A n cap) n xs) (B : Option Addr) (m c : Nat) (news : List Value) (hx : a.eval x = .slice B m c) (hn : Sl w B news)
    (hl : news.length = m * size) (h1 : ∀ u ∈ news, u.oneCell' = true) (h63 : n + m ≤ 140737488355328) (hbytes : (n + m) * bytes ≤ 140737488355328) (hbase : base ≤ w.heap.size)
    (h : ∀ A' cap' w', w'.ownsRow base e size (.slice A' (n + m) cap') (n + m) (xs ++ news) → w.grownBy w' (A.map (·.block)) → Lies w A A' → wpList P ops Q rest (a.put o.dst (.slice A' (n + m) cap')) w') : wpList P ops Q (o :: rest) a w :=
  wpList_plain hgd fun _ hK => wp_append_sl E s x ho A n cap xs hs hown B m c news hx hn hl h1 h63 hbytes hbase fun A' cap' w' h2 h3 h4 => hK _ _ (h A' cap' w' h2 h3 h4)

theorem step_append_sl (E : ElemT P t e z size bytes) {ops : Array Oper} {o : Oper} {a : Act} {K : Act → World → Prop} {Q : Exit → Act → World → Prop} {X : Prop} (hgd : o.guard = none) (s x : Operand) (ho : o.op = .call { callee := .builtin .append, args := #[s, x], argTypes := #[t, t] })
    (A : Option Addr) (n cap : Nat) (xs : List Value) (hs : a.eval s = .slice A n cap) (hown : w.ownsRow base e size (.slice A n cap) n xs) (B : Option Addr) (m c : Nat) (news : List Value) (hx : a.eval x = .slice B m c) (hn : Sl w B news)
    (hl : news.length = m * size) (h1 : ∀ u ∈ news, u.oneCell' = true) (h63 : n + m ≤ 140737488355328) (hbytes : (n + m) * bytes ≤ 140737488355328) (hbase : base ≤ w.heap.size)
    (h : ∀ A' cap' w', w'.ownsRow base e size (.slice A' (n + m) cap') (n + m) (xs ++ news) → w.grownBy w' (A.map (·.block)) → Lies w A A' → K (a.put o.dst (.slice A' (n + m) cap')) w') :
    if Region.wanted o (yielded ops a.tmps) = true then Oper.wp P o a w K Q else X := by
  have hw : Region.wanted o (yielded ops a.tmps) = true := by simp [Region.wanted, hgd]
  rw [if_pos hw]
  exact wp_append_sl E s x ho A n cap xs hs hown B m c news hx hn hl h1 h63 hbytes hbase h
end

/-- A new block's cells. -/
theorem Sl.new (w : World) (cs : Array Value) (e : TypeId) : Sl (w.alloc (.cells cs e)) (some ⟨w.heap.size, 0, none⟩) cs.toList := fun _ => by
  refine ⟨w.heap.size, 0, rfl, by simp, fun j u hu => ?_⟩
  have := (Blk.new w e cs).cell (0 + j)
  rw [this, Nat.zero_add]
  simpa using hu
theorem Sl.alloc {w : World} {A : Option Addr} {xs : List Value} (h : Sl w A xs) (o : Obj) : Sl (w.alloc o) A xs := h.turn0 ((Turn.refl _ _).alloc o)

/-- 's[:h]'. -/
theorem run_slice_head {P : Program} {t e : TypeId} {i : TypeInfo} (ht : P.underlying t = some (.slice e)) (hi : P.info? e = some i) (w : World) (a : Option Addr) (n c : Nat) (k : IntKind) (h : Int) (h0 : 0 ≤ h) (h1 : h ≤ (c : Int)) :
    (Instr.slice t (.slice a n c) none (some (.int k h)) none).run P w = .ok (.slice a h.toNat c) w := by
  have ha : (if c = 0 then a else a.map (·.add 0)) = a := by
    split
    · rfl
    · cases a <;> simp [Addr.add]
  simp [Instr.slice, run_underlying ht, Instr.sliceBounds, Instr.sliceBound, asIntOf, h0, h1, sizeOf, typeInfo, hi, ha]

/-- 's == nil', 's != nil'. -/
theorem run_is_nil {P : Program} {t e : TypeId} (ht : P.underlying t = some (.slice e)) (w : World) (a : Option Addr) (n c : Nat) : (binOp .eql t (.slice a n c) (.slice none 0 0)).run P w = .ok (.bool a.isNone) w :=
  Lib.run_eql_slice_nil w t e a n c 0 0 ht

section
variable {H : Type} {enc : TypeId × Value → H} {P : Program} {W : World}
/-- A slice of ints (of whatever kind q) as cells. -/
theorem open_ints_cells {t e : TypeId} {q : IntKind} {base fuel : Nat} {sp : Nat → Bool} {held : Bool} {v : Value} {x : DataW H × List MemPlace} (ht : P.underlying t = some (.slice e)) (he : P.underlying e = some (.int q)) (hc : P.cellsOf e = 1)
    (h : DataW.trod enc P W base sp held fuel t [v] = some x) : ∃ (A : Option Addr) (len cap : Nat) (zs : List Int), v = .slice A len cap ∧ len ≤ cap ∧ cap ≤ maxLen ∧ zs.length = len ∧ Sl W A (zs.map (.int q)) ∧ ∀ z ∈ zs, (Lit.int q z).wf = true := by
  rcases open_slice1 ht hc h with ⟨hcs, hx⟩ | ⟨a, len, cap, m, n, V, D, Pl, hcs, hb, hl, hm, hmm, hx, hi⟩
  · simp at hcs
    exact ⟨none, 0, 0, [], hcs, Nat.le_refl _, by simp, rfl, Sl.nil _ _, by simp⟩
  · simp at hcs
    have hml : len ≤ m := by rw [hmm]; split <;> omega
    have key : ∀ i, i < len → ∃ z : Int, W.cell? (a.add i) = some (.int q z) ∧ (Lit.int q z).wf = true := fun i hi' => by
      obtain ⟨h1, h2⟩ := hi i (by omega)
      obtain ⟨z, hz, _, hwf⟩ := DataW.trod_int he h2
      simp at hz
      exact ⟨z, by rw [h1, hz], hwf⟩
    obtain ⟨Z, hZ⟩ := choose_lt (α := Int) (p := fun i z => W.cell? (a.add i) = some (.int q z) ∧ (Lit.int q z).wf = true) key
    refine ⟨some a, len, cap, (List.range len).map Z, hcs, hl, hm, by simp, fun hpos => ?_, ?_⟩
    · have hlen : 0 < len := by simpa using hpos
      have h0 := (hZ 0 hlen).1
      simp only [Addr.add, if_true] at h0
      obtain ⟨b, off, spot⟩ := a
      have hs : spot = none := by
        cases spot with
        | none => rfl
        | some s =>
          unfold World.cell? at h0
          simp at h0
          split at h0 <;> simp at h0
      subst hs
      refine ⟨b, off, rfl, World.block_lt_of_cell? W _ h0, fun j u hu => ?_⟩
      rw [List.getElem?_map, Option.map_eq_some_iff] at hu
      obtain ⟨z, hz, rfl⟩ := hu
      rw [List.getElem?_map, Option.map_eq_some_iff] at hz
      obtain ⟨i, hi1, rfl⟩ := hz
      obtain ⟨hl1, hl2⟩ := List.getElem?_eq_some_iff.1 hi1
      simp at hl1 hl2
      subst hl2
      have := (hZ j hl1).1
      rwa [add_plain] at this
    · intro z hz
      obtain ⟨i, hi', rfl⟩ := List.mem_map.1 hz
      exact (hZ i (List.mem_range.1 hi')).2
end

/-- An argument that is a slice of ints. -/
theorem open_ints_arg {H : Type} {enc : TypeId × Value → H} {P : Program} {W : World} {t e : TypeId} {q : IntKind} {v : Value} {d : DataW H} {p : List MemPlace} {base : Nat} {r : Reach} (ht : P.underlying t = some (.slice e)) (he : P.underlying e = some (.int q))
    (hc : P.cellsOf e = 1) (hv : Value.okWide P W r base t v) (h : DataW.Trod enc P W 0 (fun _ => true) true t v d p) :
    ∃ (A : Option Addr) (len cap : Nat) (zs : List Int), v = .slice A len cap ∧ len ≤ cap ∧ cap ≤ maxLen ∧ zs.length = len ∧ Sl W A (zs.map (.int q)) ∧ ∀ z ∈ zs, (Lit.int q z).wf = true := by
  obtain ⟨A, len, cap, rfl⟩ := okWide_slice ht hv
  obtain ⟨fuel, hf⟩ := h
  exact open_ints_cells ht he hc hf

/-- A slice of slices of ints. -/
def Rows2 (W : World) (q : IntKind) (A : Option Addr) (len : Nat) (As : Nat → Option Addr) (ns cs : Nat → Nat) (Z : Nat → List Int) : Prop :=
  0 < len → ∃ b off, A = some ⟨b, off, none⟩ ∧ b < W.heap.size ∧ ∀ i, i < len → W.cell? ⟨b, off + i, none⟩ = some (.slice (As i) (ns i) (cs i)) ∧ Sl W (As i) ((Z i).map (.int q)) ∧ (Z i).length = ns i ∧ ns i ≤ cs i ∧ cs i ≤ maxLen ∧ ∀ z ∈ Z i, (Lit.int q z).wf = true
section
variable {H : Type} {enc : TypeId × Value → H} {P : Program} {W : World}
theorem open_int_slices {t e u : TypeId} {q : IntKind} {v : Value} {d : DataW H} {p : List MemPlace} {base : Nat} {r : Reach} (ht : P.underlying t = some (.slice e)) (he : P.underlying e = some (.slice u)) (hu : P.underlying u = some (.int q))
    (hce : P.cellsOf e = 1) (hcu : P.cellsOf u = 1) (hv : Value.okWide P W r base t v) (h : DataW.Trod enc P W 0 (fun _ => true) true t v d p) :
    ∃ (A : Option Addr) (len cap : Nat) (As : Nat → Option Addr) (ns cs : Nat → Nat) (Z : Nat → List Int), v = .slice A len cap ∧ len ≤ maxLen ∧ Rows2 W q A len As ns cs Z := by
  obtain ⟨A, len, cap, rfl⟩ := okWide_slice ht hv
  obtain ⟨fuel, hf⟩ := h
  rcases open_slice1 ht hce hf with ⟨hcs, hx⟩ | ⟨a, len', cap', m, n, V, D, Pl, hcs, hb, hl, hm, hmm, hx, hi⟩
  · simp [Value.cells] at hcs
    obtain ⟨rfl, rfl, rfl⟩ := hcs
    exact ⟨none, 0, 0, fun _ => none, fun _ => 0, fun _ => 0, fun _ => [], rfl, by simp, fun h => absurd h (by omega)⟩
  · simp [Value.cells] at hcs
    obtain ⟨rfl, rfl, rfl⟩ := hcs
    have hml : len ≤ m := by rw [hmm]; split <;> omega
    have key : ∀ i, i < len → ∃ x : Option Addr × Nat × Nat × List Int, W.cell? (a.add i) = some (.slice x.1 x.2.1 x.2.2.1) ∧ Sl W x.1 (x.2.2.2.map (.int q)) ∧ x.2.2.2.length = x.2.1 ∧ x.2.1 ≤ x.2.2.1 ∧ x.2.2.1 ≤ maxLen ∧ ∀ z ∈ x.2.2.2, (Lit.int q z).wf = true := fun i hil => by
      obtain ⟨h1, h2⟩ := hi i (by omega)
      obtain ⟨A', l', c', zs, hv', g1, g2, g3, g4, g5⟩ := open_ints_cells he hu hcu h2
      exact ⟨(A', l', c', zs), by rw [h1, hv'], g4, g3, g1, g2, g5⟩
    obtain ⟨X, hX⟩ := choose_lt (α := Option Addr × Nat × Nat × List Int) (p := fun i x => W.cell? (a.add i) = some (.slice x.1 x.2.1 x.2.2.1) ∧ Sl W x.1 (x.2.2.2.map (.int q)) ∧ x.2.2.2.length = x.2.1 ∧ x.2.1 ≤ x.2.2.1 ∧ x.2.2.1 ≤ maxLen ∧ ∀ z ∈ x.2.2.2, (Lit.int q z).wf = true) key
    refine ⟨some a, len, cap, fun i => (X i).1, fun i => (X i).2.1, fun i => (X i).2.2.1, fun i => (X i).2.2.2, rfl, by omega, fun hpos => ?_⟩
    have h0 := (hX 0 hpos).1
    simp only [Addr.add, if_true] at h0
    obtain ⟨b, off, spot⟩ := a
    have hs : spot = none := by
      cases spot with
      | none => rfl
      | some s =>
        unfold World.cell? at h0
        simp at h0
        split at h0 <;> simp at h0
    subst hs
    refine ⟨b, off, rfl, World.block_lt_of_cell? W _ h0, fun i hil => ?_⟩
    have := hX i hil
    rw [add_plain] at this
    exact this
end
end Go.Proofs.Ytiijgokgojjocaa
