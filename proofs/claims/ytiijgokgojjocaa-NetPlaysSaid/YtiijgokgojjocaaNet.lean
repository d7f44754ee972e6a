/- A net: what lies where; New, Len, Counts, Rules. -/
import Derived.Test.YtiijgokgojjocaaNetB
namespace Go.Proofs.Ytiijgokgojjocaa
open Go.RowKit Go.ChangeMaps Go.WideMaps Go.MapKept Go.WideShapes

/-- A mail. -/
structure Ml where
  due : Int
  fr : Int
  dst : Int
  A : Option Addr
  n : Nat
  c : Nat
  xs : List Int
def mcell (m : Ml) : List Value := [.int .i64 m.due, .int .i64 m.fr, .int .i64 m.dst, .slice m.A m.n m.c]
def mcs : List Ml → List Value
  | [] => []
  | m :: l => mcell m ++ mcs l
theorem mcs_len : ∀ l : List Ml, (mcs l).length = l.length * 4
  | [] => rfl
  | m :: l => by rw [mcs, List.length_append, mcs_len l]; simp [mcell]; omega
theorem mcs_append : ∀ a b : List Ml, mcs (a ++ b) = mcs a ++ mcs b
  | [], b => rfl
  | m :: a, b => by rw [List.cons_append, mcs, mcs, mcs_append a b, List.append_assoc]
theorem mcs_one (l : List Ml) : ∀ u ∈ mcs l, u.oneCell' = true := by
  induction l with
  | nil => simp [mcs]
  | cons m l ih =>
    intro u hu
    rw [mcs, List.mem_append] at hu
    rcases hu with hu | hu
    · simp [mcell] at hu
      rcases hu with rfl | rfl | rfl | rfl <;> rfl
    · exact ih u hu
theorem mcs_get : ∀ (ls : List Ml) (k : Nat) (hk : k < ls.length) (i : Nat), i < 4 → (mcs ls)[k * 4 + i]? = (mcell ls[k])[i]?
  | [], k, hk, i, hi => by simp at hk
  | m :: l, 0, hk, i, hi => by
    rw [mcs, List.getElem?_append_left (by simp [mcell]; omega)]
    simp
  | m :: l, k + 1, hk, i, hi => by
    rw [mcs, List.getElem?_append_right (by simp [mcell]; omega)]
    have e : (k + 1) * 4 + i - (mcell m).length = k * 4 + i := by simp [mcell]; omega
    rw [e, mcs_get l k (by simpa using hk) i hi]
    simp
theorem mcs_at {w : World} {L : Option Addr} {ls : List Ml} (h : Sl w L (mcs ls)) {k : Nat} (hk : k < ls.length) :
    ∃ b off, L = some ⟨b, off, none⟩ ∧ b < w.heap.size ∧ w.cell? ⟨b, off + k * 4, none⟩ = some (.int .i64 ls[k].due) ∧ w.cell? ⟨b, off + k * 4 + 1, none⟩ = some (.int .i64 ls[k].fr) ∧ w.cell? ⟨b, off + k * 4 + 2, none⟩ = some (.int .i64 ls[k].dst) ∧ w.cell? ⟨b, off + k * 4 + 3, none⟩ = some (.slice ls[k].A ls[k].n ls[k].c) := by
  obtain ⟨b, off, hA, hlt, hc⟩ := h (by rw [mcs_len]; omega)
  refine ⟨b, off, hA, hlt, ?_, ?_, ?_, ?_⟩
  · have := hc (k * 4 + 0) _ (mcs_get ls k hk 0 (by omega))
    simpa using this
  · have := hc (k * 4 + 1) _ (mcs_get ls k hk 1 (by omega))
    rw [← Nat.add_assoc] at this
    exact this
  · have := hc (k * 4 + 2) _ (mcs_get ls k hk 2 (by omega))
    rw [← Nat.add_assoc] at this
    exact this
  · have := hc (k * 4 + 3) _ (mcs_get ls k hk 3 (by omega))
    rw [← Nat.add_assoc] at this
    exact this

/-- A mail's numbers are as they may be. -/
def MlV (m : Ml) : Prop := (0 ≤ m.due ∧ m.due ≤ 2147483648) ∧ wf64 m.fr ∧ wf64 m.dst
/-- A mail's bytes lie there. -/
structure MlOk (w : World) (m : Ml) : Prop where
  sl : Sl w m.A (u8s m.xs)
  len : m.xs.length = m.n
  le : m.n ≤ 1000000
  lt : ∀ i ∈ blks m.A, i < w.heap.size
  v : MlV m
theorem MlOk.turn {w w' : World} {m : Ml} {S : List Nat} (h : MlOk w m) (hT : Turn S w w') (hS : ∀ i ∈ blks m.A, i ∉ S) : MlOk w' m :=
  ⟨h.sl.turn hT (off_blks hS), h.len, h.le, fun i hi => Nat.lt_of_lt_of_le (h.lt i hi) hT.size, h.v⟩

structure Rl where
  lose : Int
  twice : Int
  bend : Int
  late : Int
/-- Rules are as they may be. -/
def RlOk (r : Rl) : Prop := (0 ≤ r.lose ∧ r.lose ≤ 100) ∧ (0 ≤ r.twice ∧ r.twice ≤ 100) ∧ (0 ≤ r.bend ∧ r.bend ≤ 100) ∧ 1 ≤ r.late ∧ r.late ≤ 64
/-- A net at its block. -/
structure NetIs (w : World) (g d cb kb : Nat) (s : Int) (r : Rl) (cut : List (Int × Int)) (came : List ((Int × Int) × Int)) (base : Nat) (A : Option Addr) (n cap : Nat) (ms : List Ml) (sent lost told : Int) : Prop where
  blk : Blk w g 78 #[.pointer (some ⟨d, 0, none⟩), .int .i64 r.lose, .int .i64 r.twice, .int .i64 r.bend, .int .i64 r.late, .map (some cb), .slice A n cap, .map (some kb), .int .i64 sent, .int .i64 lost, .int .i64 told]
  drw : Blk w d 90 #[.int .u64 s]
  cutm : ∃ es k, w.heap[cb]? = some (.map es k) ∧ PairsIs es k (cutPM cut)
  camem : ∃ es k, w.heap[kb]? = some (.map es k) ∧ PairsIs es k (camePM came)
  row : w.ownsRow base 34 4 (.slice A n cap) n (mcs ms)
  len : ms.length = n
  le : n ≤ 2048
  mok : ∀ m ∈ ms, MlOk w m ∧ ∀ i ∈ blks m.A, base ≤ i ∧ i ∉ blks A
  apart : g ≠ d ∧ g ≠ cb ∧ g ≠ kb ∧ d ≠ cb ∧ d ≠ kb ∧ cb ≠ kb
  low : g < base ∧ d < base ∧ cb < base ∧ kb < base
  lo : base ≤ w.heap.size
  rok : RlOk r
section
variable {w w' : World} {g d cb kb : Nat} {s : Int} {r : Rl} {cut : List (Int × Int)} {came : List ((Int × Int) × Int)} {base : Nat} {A : Option Addr} {n cap : Nat} {ms : List Ml} {sent lost told : Int}
theorem NetIs.lts (h : NetIs w g d cb kb s r cut came base A n cap ms sent lost told) : g < w.heap.size ∧ d < w.heap.size ∧ cb < w.heap.size ∧ kb < w.heap.size := by
  have := h.low
  have := h.lo
  omega
theorem NetIs.turn (h : NetIs w g d cb kb s r cut came base A n cap ms sent lost told) {S : List Nat} (hT : Turn S w w') (hS : ∀ i ∈ S, w.heap.size ≤ i) : NetIs w' g d cb kb s r cut came base A n cap ms sent lost told := by
  have hl := h.lts
  have off : ∀ i, i < w.heap.size → i ∉ S := fun i hi hm => by have := hS i hm; omega
  obtain ⟨es, k, h1, h2⟩ := h.cutm
  obtain ⟨es', k', h3, h4⟩ := h.camem
  exact ⟨hT.blk h.blk (off _ hl.1), hT.blk h.drw (off _ hl.2.1), ⟨es, k, hT.obj h1 (off _ hl.2.2.1), h2⟩, ⟨es', k', hT.obj h3 (off _ hl.2.2.2), h4⟩, own_turnA h.row hT (fun i hi => off _ (own_ltA h.row i hi).1), h.len, h.le,
    fun m hm => ⟨(h.mok m hm).1.turn hT (fun i hi => off _ ((h.mok m hm).1.lt i hi)), (h.mok m hm).2⟩, h.apart, h.low, Nat.le_trans h.lo hT.size, h.rok⟩
theorem NetIs.cells (h : NetIs w g d cb kb s r cut came base A n cap ms sent lost told) :
    w.cell? ⟨g, 0, none⟩ = some (.pointer (some ⟨d, 0, none⟩)) ∧ w.cell? ⟨g, 1, none⟩ = some (.int .i64 r.lose) ∧ w.cell? ⟨g, 2, none⟩ = some (.int .i64 r.twice) ∧ w.cell? ⟨g, 3, none⟩ = some (.int .i64 r.bend) ∧ w.cell? ⟨g, 4, none⟩ = some (.int .i64 r.late) ∧
    w.cell? ⟨g, 5, none⟩ = some (.map (some cb)) ∧ w.cell? ⟨g, 6, none⟩ = some (.slice A n cap) ∧ w.cell? ⟨g, 7, none⟩ = some (.map (some kb)) ∧ w.cell? ⟨g, 8, none⟩ = some (.int .i64 sent) ∧ w.cell? ⟨g, 9, none⟩ = some (.int .i64 lost) ∧ w.cell? ⟨g, 10, none⟩ = some (.int .i64 told) :=
  ⟨h.blk.cell 0, h.blk.cell 1, h.blk.cell 2, h.blk.cell 3, h.blk.cell 4, h.blk.cell 5, h.blk.cell 6, h.blk.cell 7, h.blk.cell 8, h.blk.cell 9, h.blk.cell 10⟩
end

theorem seeded_c (s : Int) (w : World) : Calls Try.prog 28 #[.int .u64 s] w fun e w' => ∃ d, e = .returned (.pointer (some ⟨d, 0, none⟩)) ∧ Blk w' d 90 #[.int .u64 s] ∧ w.heap.size ≤ d ∧ Turn [] w w' := by
  go_enter Try.func28, Try.ntmps28
  go_wp2_with fail
  go_ret
  exact ⟨w.heap.size, by simp, Blk.new _ _ _, Nat.le_refl _, (Turn.refl _ _).alloc _⟩
set_option maxHeartbeats 1000000 in
theorem newN_c (s : Int) (w : World) :
    Calls Try.prog 8 #[.int .u64 s] w fun e w' => ∃ g d cb kb base, e = .returned (.pointer (some ⟨g, 0, none⟩)) ∧ NetIs w' g d cb kb s ⟨0, 0, 0, 1⟩ [] [] base none 0 0 [] 0 0 0 ∧ (w.heap.size ≤ g ∧ w.heap.size ≤ d ∧ w.heap.size ≤ cb ∧ w.heap.size ≤ kb ∧ w.heap.size ≤ base) ∧ Turn [] w w' := by
  have hmm := @run_makeMap Try.prog
  go_enter Try.func8, Try.ntmps8
  go_wp2_with fail
  refine (seeded_c s _).mono ?_
  rintro e w1 ⟨d, rfl, hd, hl, hT⟩
  go_wp2_with fail
  go_ret
  have ld := hd.lt
  refine ⟨_, d, _, _, w1.heap.size + 3, rfl, ⟨by simpa using Blk.new ((w1.alloc (.map #[] 0)).alloc (.map #[] 0)) 78 #[.pointer (some ⟨d, 0, none⟩), .int .i64 0, .int .i64 0, .int .i64 0, .int .i64 1, .map (some w1.heap.size), .slice none 0 0, .map (some (w1.heap.size + 1)), .int .i64 0, .int .i64 0, .int .i64 0],
    ((hd.alloc _).alloc _).alloc _, ⟨#[], 0, get_alloc (get_alloc (heap_alloc w1 _).1 _) _, .empty⟩, ⟨#[], 0, get_alloc (by simpa using (heap_alloc (w1.alloc (.map #[] 0)) (.map #[] 0)).1) _, .empty⟩, World.ownsRow_nil _ _ _ _, rfl, by omega, by simp, ?_, ?_, ?_, by unfold RlOk; simp⟩, ?_, ((hT.alloc _).alloc _).alloc _⟩
  · omega
  · omega
  · simp
  · have := hT.size; omega
theorem lenN_c {g d cb kb : Nat} {s : Int} {r : Rl} {cut : List (Int × Int)} {came : List ((Int × Int) × Int)} {base : Nat} {A : Option Addr} {n cap : Nat} {ms : List Ml} {sent lost told : Int} {w : World} (h : NetIs w g d cb kb s r cut came base A n cap ms sent lost told) :
    Calls Try.prog 11 #[.pointer (some ⟨g, 0, none⟩)] w fun e w' => e = .returned (.int .i64 n) ∧ w = w' := by
  obtain ⟨-, -, -, -, -, -, c6, -⟩ := h.cells
  have hl := h.lts.1
  clear h
  go_enter Try.func11, Try.ntmps11
  go_wp2_with fail
  go_ret
  exact ⟨by simp, rfl⟩
theorem counts_c {g d cb kb : Nat} {s : Int} {r : Rl} {cut : List (Int × Int)} {came : List ((Int × Int) × Int)} {base : Nat} {A : Option Addr} {n cap : Nat} {ms : List Ml} {sent lost told : Int} {w : World} (h : NetIs w g d cb kb s r cut came base A n cap ms sent lost told) :
    Calls Try.prog 14 #[.pointer (some ⟨g, 0, none⟩)] w fun e w' => e = .returned (.tuple #[.int .i64 sent, .int .i64 lost, .int .i64 told]) ∧ Turn [] w w' := by
  obtain ⟨-, -, -, -, -, -, -, -, c8, c9, c10⟩ := h.cells
  have hl := h.lts.1
  clear h
  go_enter Try.func14, Try.ntmps14
  go_wp2_with fail
  go_quiet (fail)
  go_wp2_with fail
  refine bodyPost_ret (v := .tuple #[.int .i64 sent, .int .i64 lost, .int .i64 told]) ?_ rfl ⟨rfl, (Turn.refl _ _).drewN _⟩
  simp [results, Try.results14, go_sem]
end Go.Proofs.Ytiijgokgojjocaa
