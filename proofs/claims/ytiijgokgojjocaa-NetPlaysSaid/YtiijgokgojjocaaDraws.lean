/- Contracts of probe.Draws: Next, Below. -/
import Derived.Test.YtiijgokgojjocaaSlices
import Derived.Test.YtiijgokgojjocaaKeys
import Derived.Test.YtiijgokgojjocaaChecked
import Derived.Deep.QuietTactic
import Derived.BigQuiet
import Derived.LoopTactic
import Derived.Outline
import Derived.KernelRfl
namespace Go.Proofs.Ytiijgokgojjocaa
open Go.RowKit Go.ChangeMaps

/-- The state, one step on; the number of a state. -/
def dstep (s : Int) : Int := IntKind.u64.wrap (s + 11400714819323198485)
def dmul (x b m : Int) : Int := IntKind.u64.wrap (bits BinOp.xor IntKind.u64 x (x / b) * m)
def dval (x : Int) : Int :=
  bits BinOp.xor IntKind.u64 (dmul (dmul x 1073741824 13787848793156543929) 134217728 10723151780598845931) (dmul (dmul x 1073741824 13787848793156543929) 134217728 10723151780598845931 / 2147483648)
theorem u64_range (x : Int) : 0 ≤ IntKind.u64.wrap x ∧ IntKind.u64.wrap x ≤ 18446744073709551615 := by rw [IntKind.wrap_u64]; omega
theorem dval_range (x : Int) : 0 ≤ dval x ∧ dval x ≤ 18446744073709551615 := u64_range _

set_option maxHeartbeats 1000000 in
theorem dnext_c (d : Nat) (s : Int) (w : World) (hd : Blk w d 90 #[.int .u64 s]) :
    Calls Try.prog 47 #[.pointer (some ⟨d, 0, none⟩)] w fun e w' => e = .returned (.int .u64 (dval (dstep s))) ∧ Blk w' d 90 #[.int .u64 (dstep s)] ∧ Turn [d] w w' := by
  have c0 := hd.cell 0
  have f0 := hd.frozen 0
  go_enter Try.func47, Try.ntmps47
  go_wp2_with fail
  go_ret
  exact ⟨rfl, hd.set_ 0 _, (Turn.refl _ _).setCell (.inl (by simp)) _⟩

/-- A number below n, and the state behind it. -/
def dbelow (n s : Int) : Int := dval (dstep s) % n
theorem dbelow_range {n s : Int} (h : 1 ≤ n) : 0 ≤ dbelow n s ∧ dbelow n s < n := ⟨Int.emod_nonneg _ (by omega), Int.emod_lt_of_pos _ (by omega)⟩

set_option maxHeartbeats 1000000 in
theorem below_c (d : Nat) (s n : Int) (w : World) (hd : Blk w d 90 #[.int .u64 s]) (h1 : 1 ≤ n) (h2 : n ≤ 9223372036854775807) :
    Calls Try.prog 40 #[.pointer (some ⟨d, 0, none⟩), .int .i64 n] w fun e w' => e = .returned (.int .i64 (dbelow n s)) ∧ Blk w' d 90 #[.int .u64 (dstep s)] ∧ Turn [d] w w' := by
  have hr := dval_range (dstep s)
  have hb := dbelow_range (s := s) h1
  have hw : IntKind.u64.wrap n = n := by rw [IntKind.wrap_u64]; omega
  have hn : Hid (wrap64 (dval (dstep s) % n) = dbelow n s) := IntWalk.wrap64_in _ ⟨by unfold dbelow at hb; omega, by unfold dbelow at hb; omega⟩
  have N := Lib.hid (dnext_c d s w hd)
  have HW := Lib.hid hw
  clear hw hd hb
  go_enter Try.func40, Try.ntmps40
  go_wp2_with fail
  refine N.out.mono ?_
  rintro e w1 ⟨rfl, hd1, hT⟩
  generalize dval (dstep s) = v at *
  have hw := HW.out
  go_wp2_with fail
  go_ret
  exact ⟨by show Ending.returned (Value.int IntKind.i64 (wrap64 (v % n))) = _; rw [hn.out], hd1, hT⟩
theorem below_no (v : Value) (n : Int) (w : World) (h1 : n < 1) :
    Calls Try.prog 40 #[v, .int .i64 n] w fun e w' => e = .returned (.int .i64 0) ∧ w = w' := by
  go_enter Try.func40, Try.ntmps40
  go_wp2_with fail
  go_ret
  exact ⟨by simp, rfl⟩
end Go.Proofs.Ytiijgokgojjocaa
