/- What is due: plain words. -/
import Derived.Test.YtiijgokgojjocaaNetOps
import Derived.Test.YtiijgokgojjocaaMStab
namespace Go.Proofs.Ytiijgokgojjocaa
open Go.RowKit Go.ChangeMaps Go.WideMaps Go.MapKept Go.WideShapes Srt

/-- Bytes that came, by pairs. -/
def cameAdd (came : List ((Int × Int) × Int)) (m : Ml) : List ((Int × Int) × Int) := pput came (m.fr, m.dst) ((pget came (m.fr, m.dst)).getD 0 + (m.n : Int))
def cameAll (came : List ((Int × Int) × Int)) (l : List Ml) : List ((Int × Int) × Int) := l.foldl cameAdd came
theorem cameAll_snoc (came : List ((Int × Int) × Int)) (l : List Ml) (m : Ml) : cameAll came (l ++ [m]) = cameAdd (cameAll came l) m := by simp [cameAll, List.foldl_append]
def CameOk (came : List ((Int × Int) × Int)) (c : Int) : Prop := ∀ k, 0 ≤ (pget came k).getD 0 ∧ (pget came k).getD 0 ≤ c
theorem CameOk.nil : CameOk [] 0 := fun k => by simp [pget]
theorem CameOk.add {came : List ((Int × Int) × Int)} {c : Int} (h : CameOk came c) {m : Ml} (hm : m.n ≤ 1000000) : CameOk (cameAdd came m) (c + 1000000) := fun k => by
  unfold cameAdd
  rw [pget_pput]
  have h1 := h (m.fr, m.dst)
  have h2 := h k
  split
  · simp only [Option.getD_some]
    omega
  · omega
theorem cameAdd_len (came : List ((Int × Int) × Int)) (m : Ml) : (cameAdd came m).length ≤ came.length + 1 := pput_length
/-- Is a mail due? -/
def isDue (tick : Int) (m : Ml) : Bool := decide (m.due ≤ tick)
theorem enterDue (args : Array Value) (w : World) : (callFunc 31 args).run Try.prog w = .ok (.enter 31 args) w := by kernel_rfl
theorem due_c (tb : Nat) (tick : Int) (m : Ml) (w : World) (ht : w.cell? ⟨tb, 0, none⟩ = some (.int .i64 tick)) (htl : tb < w.heap.size) :
    Calls Try.prog 31 #[.agg #[.int .i64 m.due, .int .i64 m.fr, .int .i64 m.dst, .slice m.A m.n m.c], .pointer (some ⟨tb, 0, none⟩)] w fun e w' => e = .returned (.bool (isDue tick m)) ∧ Turn [] w w' := by
  unfold isDue
  go_enter Try.func31, Try.ntmps31
  go_wp2_with fail
  go_ret
  exact ⟨by simp, (Turn.refl _ _).alloc _⟩
theorem sortNil_c (w : World) : Calls Try.prog 33 #[.slice none 0 0, cmpV] w fun e w' => e = .returned (.tuple #[]) ∧ Turn [] w w' := by
  have hi : ∀ wz, Calls Try.prog 48 #[.slice none 0 0, .int .i64 0, .int .i64 0, cmpV] wz fun e w' => e = .returned (.tuple #[]) ∧ wz = w' := fun wz => by
    go_enter Try.func48, Try.ntmps48
    go_wp2_with fail
    refine wp_loop_rounds 1 ?_
    rw [rounds_succ]
    go_wp2_with fail
    go_end0
    exact ⟨rfl, rfl⟩
  have hs : ∀ wz, Calls Try.prog 43 #[.slice none 0 0, .int .i64 0, cmpV] wz fun e w' => e = .returned (.tuple #[]) ∧ wz = w' := fun wz => by
    go_enter Try.func43, Try.ntmps43
    go_wp2_with fail
    refine wp_loop_rounds 1 ?_
    rw [rounds_succ]
    go_wp2_with fail
    refine (hi _).mono ?_
    rintro e w1 ⟨rfl, rfl⟩
    go_wp2_with fail
    refine wp_loop_rounds 1 ?_
    rw [rounds_succ]
    go_wp2_with fail
    go_end0
    exact ⟨rfl, rfl⟩
  go_enter Try.func33, Try.ntmps33
  go_wp2_with fail
  refine (hs _).mono ?_
  rintro e w1 ⟨rfl, rfl⟩
  go_wp2_with fail
  go_end0
  exact ⟨rfl, Turn.refl _ _⟩
end Go.Proofs.Ytiijgokgojjocaa
