/- A view in memory: New, Len, Find. -/
import Derived.Test.YtelagneielahhaaClaims
import Derived.Test.YtelagneielahhaaOwn
import Derived.Test.YtelagneielahhaaKeys
import Derived.Deep.RegionHeld3
import Derived.Deep.RegionLaw
import Derived.Deep.QuietTactic
import Derived.BigQuiet
namespace Go.Proofs.Ytelagneielahhaa
open Go.RowKit Go.ChangeMaps Go.MapKept

/-- Somebody. -/
structure En where
  c : C4
  down : Bool
  heard : Int
  since : Int
  inc : Int
deriving DecidableEq
def ven (e : En) : Value := .agg #[.int .i64 e.c.1, .int .i64 e.c.2.1, .int .i64 e.c.2.2.1, .int .i64 e.c.2.2.2, .bool e.down, .int .i64 e.heard, .int .i64 e.since, .int .i64 e.inc]
def en0 : En := ⟨(0, 0, 0, 0), false, 0, 0, 0⟩
abbrev VM := List (Int × En)
theorem zeroEn (w : World) : (zeroValue 37).run Try.prog w = .ok (ven en0) w := by kernel_rfl
/-- A view at its block. -/
structure VIs (w : World) (v mb : Nat) (own : C4) (m : VM) : Prop where
  blk : Blk w v 78 #[.int .i64 own.1, .int .i64 own.2.1, .int .i64 own.2.2.1, .int .i64 own.2.2.2, .map (some mb)]
  map : ∃ es clock, w.heap[mb]? = some (.map es clock) ∧ MapIs Try.prog 3 es clock (kv ven m)
  le : m.length ≤ 16
  ne : v ≠ mb
theorem VIs.turn {w w' : World} {v mb : Nat} {own : C4} {m : VM} (h : VIs w v mb own m) {S : List Nat} (hT : Turn S w w') (h1 : v ∉ S) (h2 : mb ∉ S) : VIs w' v mb own m := by
  obtain ⟨es, clock, h3, h4⟩ := h.map
  exact ⟨hT.blk h.blk h1, ⟨es, clock, hT.obj h3 h2, h4⟩, h.le, h.ne⟩
theorem VIs.lts {w : World} {v mb : Nat} {own : C4} {m : VM} (h : VIs w v mb own m) : v < w.heap.size ∧ mb < w.heap.size := by
  obtain ⟨es, clock, h3, -⟩ := h.map
  exact ⟨h.blk.lt, lt_of_some h3⟩
theorem VIs.cells {w : World} {v mb : Nat} {own : C4} {m : VM} (h : VIs w v mb own m) : w.cell? ⟨v, 0, none⟩ = some (.int .i64 own.1) ∧ w.cell? ⟨v, 1, none⟩ = some (.int .i64 own.2.1) ∧ w.cell? ⟨v, 2, none⟩ = some (.int .i64 own.2.2.1) ∧ w.cell? ⟨v, 3, none⟩ = some (.int .i64 own.2.2.2) ∧ w.cell? ⟨v, 4, none⟩ = some (.map (some mb)) :=
  ⟨h.blk.cell 0, h.blk.cell 1, h.blk.cell 2, h.blk.cell 3, h.blk.cell 4⟩

set_option maxHeartbeats 1000000 in
theorem newV_c (a b c d : Int) (w : World) (hr : Right (a, b, c, d)) :
    Calls Try.prog 7 #[.agg #[.int .i64 a, .int .i64 b, .int .i64 c, .int .i64 d]] w fun e w' => ∃ v mb, e = .returned (.tuple #[.pointer (some ⟨v, 0, none⟩), .int .i64 0]) ∧ VIs w' v mb (a, b, c, d) [] ∧ w.heap.size ≤ v ∧ w.heap.size ≤ mb ∧ Turn [] w w' := by
  have hmm := @run_makeMap Try.prog
  have CC := Lib.hid (fun wz => check_c a b c d wz)
  have hv : checkE (a, b, c, d) = 0 := by unfold checkE; rw [if_pos hr]
  rw [hv] at CC
  clear hv
  have B0 := Blk.new w 29 #[.int .i64 a, .int .i64 b, .int .i64 c, .int .i64 d]
  go_enter Try.func7, Try.ntmps7
  go_wp2_with fail
  refine (CC.out _).mono ?_
  rintro e w1 ⟨rfl, hT⟩
  have B1 := hT.blk B0 (by simp)
  have c0 := B1.cell 0
  have c1 := B1.cell 1
  have c2 := B1.cell 2
  have c3 := B1.cell 3
  have cl := B1.lt
  have hz := hT.size
  go_wp2_with fail
  go_ret2
  refine ⟨w1.heap.size + 1, w1.heap.size, by simp, ⟨?_, ⟨#[], 0, ?_, ?_⟩, by simp, by omega⟩, by simp at hz; omega, by simp at hz; omega, (((Turn.refl [] w).alloc _).trans hT).alloc _ |>.alloc _⟩
  · have := Blk.new (w1.alloc (.map #[] 0)) 78 #[.int .i64 a, .int .i64 b, .int .i64 c, .int .i64 d, .map (some w1.heap.size)]
    simpa using this
  · exact get_alloc (heap_alloc w1 _).1 _
  · exact MapIs.empty _ _
theorem newV_no (a b c d : Int) (w : World) (hr : ¬ Right (a, b, c, d)) :
    Calls Try.prog 7 #[.agg #[.int .i64 a, .int .i64 b, .int .i64 c, .int .i64 d]] w fun e w' => e = .returned (.tuple #[.pointer none, .int .i64 10]) ∧ Turn [] w w' := by
  have CC := Lib.hid (fun wz => check_c a b c d wz)
  have hv : checkE (a, b, c, d) = 10 := by unfold checkE; rw [if_neg hr]
  rw [hv] at CC
  clear hv
  go_enter Try.func7, Try.ntmps7
  go_wp2_with fail
  refine (CC.out _).mono ?_
  rintro e w1 ⟨rfl, hT⟩
  go_wp2_with fail
  go_ret2
  exact ⟨by simp, ((Turn.refl [] w).alloc _).trans hT⟩
theorem lenV_c {w : World} {v mb : Nat} {own : C4} {m : VM} (h : VIs w v mb own m) :
    Calls Try.prog 21 #[.pointer (some ⟨v, 0, none⟩)] w fun e w' => e = .returned (.int .i64 m.length) ∧ w = w' := by
  obtain ⟨es, clock, h3, h4⟩ := h.map
  obtain ⟨-, -, -, -, c4⟩ := h.cells
  have hl := h.lts
  have L := fun ty => h4.len Try.underlying76 ty w mb h3
  rw [kv_length] at L
  clear h h4
  go_enter Try.func21, Try.ntmps21
  go_wp2_with fail
  go_ret
  exact ⟨by simp, rfl⟩
end Go.Proofs.Ytelagneielahhaa
