/- General lemmas, over any program: frames between worlds, blocks known whole, and maps keyed by int whose elements are held as values. -/
import Derived.WalkKit
import Derived.Maps.Own
import Derived.Maps.OwnSet
import Derived.Maps.RangeWalk
import Derived.Deep.Draws
import Derived.Lib.Hide
namespace Go.Proofs.Ytiijgokgojjocaa
open Go.RowKit Go.ChangeMaps Go.MapKept Go.WideShapes
open Go.WideElems (Fit rd rg pl rd_key rd_val rg_of)
open Go.Maps (Keyed int_keyed keyOf_int_mk)

/-! ### blocks known whole -/

/-- Block g is just the cells cs of element type t, none frozen. -/
def Blk (w : World) (g : Nat) (t : TypeId) (cs : Array Value) : Prop := w.heap[g]? = some (.cells cs t (0, 0))

section
variable {w w' : World} {g : Nat} {t : TypeId} {cs : Array Value}
theorem lt_of_some {o : Obj} (h : w.heap[g]? = some o) : g < w.heap.size := (Array.getElem?_eq_some_iff.1 h).1
theorem Blk.lt (h : Blk w g t cs) : g < w.heap.size := lt_of_some h
theorem Blk.cell (h : Blk w g t cs) (i : Nat) : w.cell? ⟨g, i, none⟩ = cs[i]? := cell_of_row w g i cs t (0, 0) h
theorem Blk.frozen (h : Blk w g t cs) (i : Nat) : w.frozen? ⟨g, i, none⟩ = false := by
  unfold Blk at h
  simp [World.frozen?, h]
theorem Blk.new (w : World) (t : TypeId) (cs : Array Value) : Blk (w.alloc (.cells cs t)) w.heap.size t cs := (heap_alloc w _).1
theorem Blk.alloc (h : Blk w g t cs) (o : Obj) : Blk (w.alloc o) g t cs := (Below.heap_alloc w o g h.lt).trans h
theorem Blk.set_ (h : Blk w g t cs) (i : Nat) (u : Value) : Blk (w.setCell ⟨g, i, none⟩ u) g t (cs.setIfInBounds i u) := by
  unfold Blk at h ⊢
  simp [World.setCell, Array.getElem?_modify, h]
theorem Blk.far (h : Blk w g t cs) {p : Addr} (hp : g ≠ p.block) (u : Value) : Blk (w.setCell p u) g t cs := (Below.heap_setCell w p u g hp).trans h
end

/-- A struct of two cells, both stored anew. -/
theorem Blk.cells2 {w : World} {g : Nat} {t : TypeId} {a b : Value} (h : Blk w g t #[a, b]) (x y : Value) :
    ((w.setCell ⟨g, 0, none⟩ x).setCell ⟨g, 1, none⟩ y).cell? ⟨g, 0, none⟩ = some x ∧ ((w.setCell ⟨g, 0, none⟩ x).setCell ⟨g, 1, none⟩ y).cell? ⟨g, 1, none⟩ = some y :=
  ⟨((h.set_ 0 x).set_ 1 y).cell 0, ((h.set_ 0 x).set_ 1 y).cell 1⟩

/-! ### one block's object, through a step elsewhere -/
section
variable {w : World} {b : Nat} {x : Obj}
theorem get_alloc (h : w.heap[b]? = some x) (o : Obj) : (w.alloc o).heap[b]? = some x := (Below.heap_alloc w o b (Array.getElem?_eq_some_iff.1 h).1).trans h
theorem get_drew (h : w.heap[b]? = some x) : w.drew.heap[b]? = some x := h
theorem get_drewN (h : w.heap[b]? = some x) (n : Nat) : (w.drewN n).heap[b]? = some x := h
theorem get_setCell (h : w.heap[b]? = some x) {a : Addr} (hne : b ≠ a.block) (v : Value) : (w.setCell a v).heap[b]? = some x := (Below.heap_setCell w a v b hne).trans h
theorem get_setBlock (h : w.heap[b]? = some x) {c : Nat} (hne : b ≠ c) (o : Obj) : (setBlock w c o).heap[b]? = some x := by
  refine Eq.trans ?_ h
  simp [setBlock, Ne.symm hne]
theorem cell_setBlock {c i : Nat} (hne : c ≠ b) (o : Obj) : (setBlock w b o).cell? ⟨c, i, none⟩ = w.cell? ⟨c, i, none⟩ :=
  World.cell?_of_block (a := ⟨c, i, none⟩) (by simp [setBlock, Ne.symm hne])
theorem frozen_setBlock {c i : Nat} (hne : c ≠ b) (o : Obj) : (setBlock w b o).frozen? ⟨c, i, none⟩ = w.frozen? ⟨c, i, none⟩ :=
  World.frozen?_of_block (a := ⟨c, i, none⟩) (by simp [setBlock, Ne.symm hne])
theorem get_set (h : w.heap[b]? = some x) (o : Obj) : (setBlock w b o).heap[b]? = some o := by
  simp [setBlock, (Array.getElem?_eq_some_iff.1 h).1]
end

/-! ### frames: only the blocks of S, and what is new, may have turned -/
structure Turn (S : List Nat) (w w' : World) : Prop where
  os : w'.os = w.os
  tape : w'.tape = w.tape
  output : w'.output = w.output
  size : w.heap.size ≤ w'.heap.size
  block : ∀ k, k < w.heap.size → k ∉ S → w'.heap[k]? = w.heap[k]?

section
variable {S S' : List Nat} {a w w' : World}
theorem Turn.refl (S : List Nat) (w : World) : Turn S w w := ⟨rfl, rfl, rfl, Nat.le_refl _, fun _ _ _ => rfl⟩
theorem Turn.trans (h : Turn S a w) (k : Turn S w w') : Turn S a w' :=
  ⟨k.os.trans h.os, k.tape.trans h.tape, k.output.trans h.output, Nat.le_trans h.size k.size, fun i hi hn => (k.block i (Nat.lt_of_lt_of_le hi h.size) hn).trans (h.block i hi hn)⟩
/-- The second step may turn blocks of S and such as are new since the first. -/
theorem Turn.andThen (h : Turn S a w) (k : Turn S' w w') (hs : ∀ i ∈ S', i ∈ S ∨ a.heap.size ≤ i) : Turn S a w' :=
  ⟨k.os.trans h.os, k.tape.trans h.tape, k.output.trans h.output, Nat.le_trans h.size k.size, fun i hi hn =>
    (k.block i (Nat.lt_of_lt_of_le hi h.size) (fun hm => by rcases hs i hm with h1 | h1 <;> first | exact hn h1 | omega)).trans (h.block i hi hn)⟩
theorem Turn.mono (h : Turn S a w) (hs : ∀ i ∈ S, i ∈ S') : Turn S' a w := ⟨h.os, h.tape, h.output, h.size, fun i hi hn => h.block i hi (fun hm => hn (hs i hm))⟩
theorem Turn.drew (h : Turn S a w) : Turn S a w.drew := ⟨h.os, h.tape, h.output, h.size, h.block⟩
theorem Turn.drewN (h : Turn S a w) (n : Nat) : Turn S a (w.drewN n) := ⟨h.os, h.tape, h.output, h.size, h.block⟩
theorem Turn.alloc (h : Turn S a w) (o : Obj) : Turn S a (w.alloc o) :=
  ⟨h.os, h.tape, h.output, Nat.le_trans h.size (by simp), fun i hi hn => (Below.heap_alloc w o i (Nat.lt_of_lt_of_le hi h.size)).trans (h.block i hi hn)⟩
theorem Turn.setCell (h : Turn S a w) {p : Addr} (hp : p.block ∈ S ∨ a.heap.size ≤ p.block) (u : Value) : Turn S a (w.setCell p u) :=
  ⟨h.os, h.tape, h.output, by simpa [World.setCell] using h.size, fun i hi hn => (Below.heap_setCell w p u i (by
    rintro rfl
    rcases hp with hp | hp <;> first | exact hn hp | omega)).trans (h.block i hi hn)⟩
theorem Turn.setBlock (h : Turn S a w) {b : Nat} (hp : b ∈ S ∨ a.heap.size ≤ b) (o : Obj) : Turn S a (setBlock w b o) := by
  refine ⟨h.os, h.tape, h.output, by simpa [ChangeMaps.setBlock] using h.size, fun i hi hn => ?_⟩
  have hne : i ≠ b := by
    rintro rfl
    rcases hp with hp | hp <;> first | exact hn hp | omega
  refine Eq.trans ?_ (h.block i hi hn)
  simp [ChangeMaps.setBlock, Ne.symm hne]
theorem Turn.of_below (h : Below a.heap.size a w) (S : List Nat) : Turn S a w := ⟨h.os, h.tape, h.output, h.size, fun i hi _ => h.block i hi⟩
theorem Turn.below (h : Turn S a w) (hs : ∀ i ∈ S, a.heap.size ≤ i) : Below a.heap.size a w := ⟨h.os, h.tape, h.output, h.size, fun i hi => h.block i hi (fun hm => by have := hs i hm; omega)⟩
theorem Turn.nil_below (h : Turn [] a w) : Below a.heap.size a w := h.below (by simp)
/-- Below B nothing turns where each of S lies from B on. -/
theorem Turn.belowOf {B : Nat} (h : Turn S a w) (hB : B ≤ a.heap.size) (hs : ∀ i ∈ S, B ≤ i) : Below B a w := ⟨h.os, h.tape, h.output, h.size, fun i hi => h.block i (by omega) (fun hm => by have := hs i hm; omega)⟩
theorem Turn.obj (h : Turn S a w) {g : Nat} {o : Obj} (hg : a.heap[g]? = some o) (hn : g ∉ S) : w.heap[g]? = some o := (h.block g (lt_of_some hg) hn).trans hg
theorem Turn.blk (h : Turn S a w) {g : Nat} {t : TypeId} {cs : Array Value} (hg : Blk a g t cs) (hn : g ∉ S) : Blk w g t cs := h.obj hg hn
theorem Turn.of_grown {row : Option Nat} (h : a.grownBy w row) (hr : ∀ k, row = some k → k ∈ S) : Turn S a w := ⟨h.os, h.tape, h.output, h.size, fun i hi hn => h.block i hi (fun e => hn (hr i e.symm))⟩
/-- Behind a call that turns nothing old: cells and marks read as before. -/
theorem Turn.cells (h : Turn [] a w) : (∀ b o, b < a.heap.size → w.cell? ⟨b, o, none⟩ = a.cell? ⟨b, o, none⟩) ∧ (∀ b o, b < a.heap.size → w.frozen? ⟨b, o, none⟩ = a.frozen? ⟨b, o, none⟩) :=
  ⟨fun b o hb => World.cell?_of_block (a := ⟨b, o, none⟩) (h.block b hb (by simp)), fun b o hb => World.frozen?_of_block (a := ⟨b, o, none⟩) (h.block b hb (by simp))⟩
theorem Turn.cell (h : Turn S a w) {p : Addr} (hp : p.block < a.heap.size) (hn : p.block ∉ S) : w.cell? p = a.cell? p := World.cell?_of_block (h.block p.block hp hn)
end

/-! ### maps keyed by int, the elements held as they are -/
abbrev KV := List (Int × Value)
def heldElem : Value → Option (DataW Value × List MemPlace) := fun v => some (.held v, [])
def dm (m : KV) : List (Lit × DataW Value) := m.map fun p => (.int .i64 p.1, .held p.2)
def kget {α : Type} (m : List (Int × α)) (k : Int) : Option α := (m.find? (fun p => p.1 == k)).map (·.2)
def kins {α : Type} (x : Int × α) : List (Int × α) → List (Int × α)
  | [] => [x]
  | y :: r => if x.1 < y.1 then x :: y :: r else y :: kins x r
def kput {α : Type} (m : List (Int × α)) (k : Int) (v : α) : List (Int × α) := kins (k, v) (m.filter (fun p => p.1 != k))
def kdel {α : Type} (m : List (Int × α)) (k : Int) : List (Int × α) := m.filter (fun p => p.1 != k)
/-- A typed list of entries, as values. -/
def kv {α : Type} (f : α → Value) (m : List (Int × α)) : KV := m.map fun p => (p.1, f p.2)
theorem kget_kv {α : Type} (f : α → Value) (m : List (Int × α)) (k : Int) : kget (kv f m) k = (kget m k).map f := by
  unfold kget kv
  rw [List.find?_map, Option.map_map, Option.map_map]
  rfl
theorem kins_kv {α : Type} (f : α → Value) (x : Int × α) : ∀ m : List (Int × α), kins (x.1, f x.2) (kv f m) = kv f (kins x m)
  | [] => rfl
  | y :: r => by
    have ih := kins_kv f x r
    unfold kv at ih ⊢
    unfold kins
    simp only [List.map_cons]
    split
    · rfl
    · rw [List.map_cons, ih]
theorem kdel_kv {α : Type} (f : α → Value) (m : List (Int × α)) (k : Int) : kdel (kv f m) k = kv f (kdel m k) := by
  unfold kdel kv
  rw [List.filter_map]
  rfl
theorem kput_kv {α : Type} (f : α → Value) (m : List (Int × α)) (k : Int) (v : α) : kput (kv f m) k (f v) = kv f (kput m k v) := by
  have h := kdel_kv f m k
  unfold kdel at h
  unfold kput
  rw [h]
  exact kins_kv f (k, v) _
theorem kv_length {α : Type} (f : α → Value) (m : List (Int × α)) : (kv f m).length = m.length := by simp [kv]

/-- The entries es under this clock are a well stamped map that reads as the list m. -/
def MapIs (P : Program) (k : TypeId) (es : Array MapEntry) (clock : Nat) (m : KV) : Prop :=
  Fit P k heldElem es clock ∧ (es.toList.map (rg P k heldElem)).foldr DataW.insert [] = dm m

theorem dm_insert (x : Int × Value) : ∀ m : KV, DataW.insert (Lit.int .i64 x.1, DataW.held x.2) (dm m) = dm (kins x m)
  | [] => rfl
  | y :: r => by
    unfold dm kins DataW.insert
    simp only [List.map_cons, Lit.before, decide_eq_true_eq]
    split
    · rfl
    · have := dm_insert x r
      unfold dm at this
      simp [this]
theorem sameInt (a b : Int) : (Lit.int .i64 a).sameKey (.int .i64 b) = (a == b) := by
  by_cases h : a = b <;> simp [Lit.sameKey, h]
theorem dm_filter (k : Int) (m : KV) : (dm m).filter (fun p => !p.1.sameKey (.int .i64 k)) = dm (m.filter (fun p => p.1 != k)) := by
  unfold dm
  rw [List.filter_map]
  congr 1
  apply List.filter_congr
  intro p _
  simp [sameInt, bne]
theorem dm_put (m : KV) (k : Int) (v : Value) : putKey (.int .i64 k) (.held v) (dm m) = dm (kput m k v) := by
  unfold putKey kput
  rw [← dm_insert, ← dm_filter]
  rfl
theorem dm_del (m : KV) (k : Int) : delKey (.int .i64 k) (dm m) = dm (kdel m k) := dm_filter k m
theorem dm_atKey (m : KV) (k : Int) (z : Value) : (DataW.map (dm m)).atKey (.int .i64 k) (.held z) = .held ((kget m k).getD z) := by
  unfold DataW.atKey kget dm
  induction m with
  | nil => rfl
  | cons p r ih =>
    simp only [List.map_cons, List.find?_cons, sameInt]
    cases h : p.1 == k
    · exact ih
    · rfl
theorem dm_has (m : KV) (k : Int) : Maps.has (DataW.map (dm m)) (.int .i64 k) = (kget m k).isSome := by
  unfold Maps.has kget dm
  induction m with
  | nil => rfl
  | cons p r ih =>
    simp only [List.map_cons, List.find?_cons, List.any_cons, sameInt]
    cases h : p.1 == k
    · exact ih
    · rfl
theorem dm_len (m : KV) : (dm m).length = m.length := by simp [dm]

/-- The keys rise. -/
def Rises {α : Type} (m : List (Int × α)) : Prop := m.Pairwise (fun p q => p.1 < q.1)

section
variable {P : Program} {k t e : TypeId} {es : Array MapEntry} {clock b : Nat} {m : KV} {w : World}

theorem MapIs.empty (P : Program) (k : TypeId) : MapIs P k #[] 0 [] := ⟨⟨by simp, stamped_empty 0, by simp⟩, rfl⟩
theorem MapIs.size (h : MapIs P k es clock m) : es.size = m.length := by
  rw [← dm_len, ← h.2, length_sorted]
  simp
theorem MapIs.rises (hk : P.underlying k = some (.int .i64)) (h : MapIs P k es clock m) : Rises m := by
  have h1 := Maps.sorted_sorted (int_keyed hk).one _ (Maps.fit_keys h.1) (Maps.fit_apart (int_keyed hk) h.1)
  rw [h.2] at h1
  unfold dm at h1
  rw [List.pairwise_map] at h1
  simpa [Rises, Lit.before] using h1
theorem MapIs.owns (h : MapIs P k es clock m) (hb : w.heap[b]? = some (.map es clock)) : w.ownsMap P k heldElem b m.length (.map (dm m)) :=
  ⟨es, clock, hb, h.1, Nat.le_of_eq h.size, by rw [h.2]⟩

theorem MapIs.look (h : MapIs P k es clock m) (hk : P.underlying k = some (.int .i64)) (ht : P.underlying t = some (.map k e)) {z : Value} (hz : ∀ w, (zeroValue e).run P w = .ok z w)
    {key : Int} (hw : (Lit.int .i64 key).wf = true) (w : World) (b : Nat) (hb : w.heap[b]? = some (.map es clock)) : (Instr.lookup t (.map (some b)) (.int .i64 key) false).run P w = .ok ((kget m key).getD z) w := by
  obtain ⟨v, ps, hrun, hv⟩ := (h.owns hb).lookup (int_keyed hk) ht (hz w) (zd := .held z) (zp := []) rfl (keyOf_int_mk hk hw)
  rw [dm_atKey] at hv
  simp only [heldElem, Option.some.injEq, Prod.mk.injEq, DataW.held.injEq] at hv
  rw [hrun, hv.1]
theorem MapIs.look_ok (h : MapIs P k es clock m) (hk : P.underlying k = some (.int .i64)) (ht : P.underlying t = some (.map k e)) {z : Value} (hz : ∀ w, (zeroValue e).run P w = .ok z w)
    {key : Int} (hw : (Lit.int .i64 key).wf = true) (w : World) (b : Nat) (hb : w.heap[b]? = some (.map es clock)) :
    (Instr.lookup t (.map (some b)) (.int .i64 key) true).run P w = .ok (.tuple #[(kget m key).getD z, .bool (kget m key).isSome]) w := by
  obtain ⟨v, ps, hrun, hv⟩ := (h.owns hb).look_ok (int_keyed hk) ht (hz w) (zd := .held z) (zp := []) rfl (keyOf_int_mk hk hw)
  rw [dm_atKey] at hv
  simp only [heldElem, Option.some.injEq, Prod.mk.injEq, DataW.held.injEq] at hv
  rw [hrun, hv.1, dm_has]
theorem MapIs.len (h : MapIs P k es clock m) (ht : P.underlying t = some (.map k e)) (ty : TypeId) (w : World) (b : Nat) (hb : w.heap[b]? = some (.map es clock)) :
    (Builtin.len_ #[t] ty #[.map (some b)]).run P w = .ok (.int .i64 m.length) w := by
  rw [(h.owns hb).len ht ty]
  simp [Maps.size, dm_len]

/-- What is found does not hang on the world. -/
theorem find_u (hk : P.underlying k = some (.int .i64)) {x : Value} {lx : Lit} (hx : keyOf P k x = some lx) (es : List MapEntry) (hes : ∀ e ∈ es, ∃ l, keyOf P k e.key = some l) :
    ((∀ w, (Instr.findKey k x es).run P w = .ok none w) ∧ ∀ e ∈ es, e.key ≠ x) ∨ ∃ j e, (∀ w, (Instr.findKey k x es).run P w = .ok (some (j, e.val)) w) ∧ es[j]? = some e ∧ e.key = x := by
  have isK : ∀ {v : Value} {l : Lit}, keyOf P k v = some l → IsKey (.int .i64) v := fun {v l} h => by
    have h' : mapKey P k v = some l := by simpa [keyOf, hk] using h
    obtain ⟨d', hd', h1, _⟩ := mapKey_isKey h'
    rw [hk] at hd'
    cases hd'
    exact h1
  have hks : ∀ y ∈ es, IsKey (.int .i64) y.key := fun y hy => by
    obtain ⟨l, hl⟩ := hes y hy
    exact isK hl
  rcases findNow_spec (isK hx) es 0 hks with ⟨h1, h2⟩ | ⟨j, e0, h1, h2, h3⟩
  · exact Or.inl ⟨fun w => run_findKey hk h1, h2⟩
  · exact Or.inr ⟨j, e0, fun w => by simpa using run_findKey (w := w) hk h1, h2, h3⟩

theorem setBlock_inj {o o' : Obj} (h : setBlock ⟨#[o'], w.tape, 0, w.os, #[]⟩ 0 o = setBlock ⟨#[o'], w.tape, 0, w.os, #[]⟩ 0 o') : o = o' := by
  have := congrArg (fun w : World => w.heap[0]?) h
  simpa [setBlock] using this

theorem MapIs.store (h : MapIs P k es clock m) (hk : P.underlying k = some (.int .i64)) (ht : P.underlying t = some (.map k e)) (hroom : m.length < maxLen) {key : Int} (hw : (Lit.int .i64 key).wf = true) (v : Value) :
    ∃ es' clock', MapIs P k es' clock' (kput m key v) ∧ ∀ (w : World) (b : Nat), w.heap[b]? = some (.map es clock) → (Instr.mapUpdate t (.map (some b)) (.int .i64 key) v).run P w = .ok () (setBlock w b (.map es' clock')) := by
  have K := int_keyed hk
  have hkey := keyOf_int_mk hk hw
  have hu : ∃ es' clock', ∀ (w : World) (b : Nat), w.heap[b]? = some (.map es clock) → (Instr.mapUpdate t (.map (some b)) (.int .i64 key) v).run P w = .ok () (setBlock w b (.map es' clock')) := by
    rcases find_u hk hkey es.toList h.1.keys with ⟨h1, _⟩ | ⟨j, e0, h1, h2, h3⟩
    · exact ⟨es.push ⟨.int .i64 key, v, clock⟩, clock + 1, fun w b hb => by
        simp [Instr.mapUpdate, run_underlying ht, MapKept.run_getObj_map hb, K.check w false hkey, h1, MapKept.run_setObj_map _ hb, Result.andThen, setBlock]⟩
    · have hj : es[j]? = some e0 := by simpa using h2
      exact ⟨es.modify j (fun e' => { e' with key := .int .i64 key, val := v }), clock, fun w b hb => by
        simp [Instr.mapUpdate, run_underlying ht, MapKept.run_getObj_map hb, K.check w false hkey, h1, hj, h3, K.stays w hkey, MapKept.run_setObj_map _ hb, Result.andThen, setBlock]⟩
  obtain ⟨es', clock', hrun⟩ := hu
  refine ⟨es', clock', ?_, hrun⟩
  let w0 : World := { (default : World) with heap := #[.map es clock] }
  have hb0 : w0.heap[0]? = some (.map es clock) := rfl
  obtain ⟨es2, clock2, hrun2, F2, hput, _⟩ := Maps.fit_store (R' := heldElem) K ht hb0 h.1 (by rw [h.size]; exact hroom) (fun _ _ _ _ hz => hz) hkey (val := v) (yv := (.held v, [])) rfl
  have he := (hrun w0 0 hb0).symm.trans hrun2
  injection he with _ he
  have he' := congrArg (fun w : World => w.heap[0]?) he
  simp [setBlock, w0] at he'
  obtain ⟨rfl, rfl⟩ := he'
  exact ⟨F2, by rw [hput, h.2, dm_put]⟩

theorem MapIs.drop (h : MapIs P k es clock m) (hk : P.underlying k = some (.int .i64)) (ht : P.underlying t = some (.map k e)) {key : Int} (hw : (Lit.int .i64 key).wf = true) (ty : TypeId) :
    ∃ es', MapIs P k es' clock (kdel m key) ∧ ∀ (w : World) (b : Nat), w.heap[b]? = some (.map es clock) → (Builtin.delete_ #[t, k] ty #[.map (some b), .int .i64 key]).run P w = .ok (.tuple #[]) (setBlock w b (.map es' clock)) := by
  have K := int_keyed hk
  have hkey := keyOf_int_mk hk hw
  have hu : ∃ es', ∀ (w : World) (b : Nat), w.heap[b]? = some (.map es clock) → (Builtin.delete_ #[t, k] ty #[.map (some b), .int .i64 key]).run P w = .ok (.tuple #[]) (setBlock w b (.map es' clock)) := by
    rcases find_u hk hkey es.toList h.1.keys with ⟨h1, _⟩ | ⟨j, e0, h1, h2, h3⟩
    · exact ⟨es, fun w b hb => by
        simp [Builtin.delete_, run_underlying ht, MapKept.run_getObj_map hb, K.check w _ hkey, h1, MapKept.run_setObj_map _ hb, Result.andThen, setBlock]⟩
    · exact ⟨es.eraseIdxIfInBounds j, fun w b hb => by
        simp [Builtin.delete_, run_underlying ht, MapKept.run_getObj_map hb, K.check w _ hkey, h1, MapKept.run_setObj_map _ hb, Result.andThen, setBlock]⟩
  obtain ⟨es', hrun⟩ := hu
  refine ⟨es', ?_, hrun⟩
  let w0 : World := { (default : World) with heap := #[.map es clock] }
  have hb0 : w0.heap[0]? = some (.map es clock) := rfl
  obtain ⟨es2, hrun2, F2, _, hdel, _⟩ := Maps.fit_drop (ty := ty) K ht hb0 h.1 hkey
  have he := (hrun w0 0 hb0).symm.trans hrun2
  injection he with _ he
  have he' := congrArg (fun w : World => w.heap[0]?) he
  simp [setBlock, w0] at he'
  obtain rfl := he'
  exact ⟨F2, by rw [hdel, h.2, dm_del]⟩
end

#print axioms MapIs.store
#print axioms MapIs.drop
end Go.Proofs.Ytiijgokgojjocaa
