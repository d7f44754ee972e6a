/-
  No cell of these rows narrows 'for every input' (looked for: loops, veiled, ifaces, maps, wideKeys, modest, calm, conditions, laid).
  DERIVED. THE GIVEN ROWS OF THIS SEAT. 4 by the template 'for every input the law returns true; each argument reads behind the call as it read before'; 0 by the template 'total and deterministic' (their statements: YtelagneielahhaaTotals.lean).
  GIVEN WITH THE SEED: the statements are not yours to turn. If you find one false, say at which input.
  Laid BY PROGRAM, IN A SANDBOX (cutbox-rows.mjs): the forced cells as the released guide's own fill.sh prints them over the translation c328eb72a2ae23ec… (all of the seat's roots in one cut). By AI agents, Wed Nov 11 2026. No macro, syntax, notation, axiom, sorry.
-/
import Derived.Test.YtelagneielahhaaChecked
import GoSem.Claim
import GoSem.ClaimJoined
import GoSem.ClaimMapViews
import Derived.JoinedTies
import Derived.KernelRfl
namespace Go.Proofs.Ytelagneielahhaa
/- THE CELL 'sum', in the pinned program and in every row, IS THE sha256 OF THE DUMP (.gsa) THAT YtelagneielahhaaProg.lean LOADS. Nothing in Lean hashes anything: it is a label: what it is worth is what the hold of that sum in a sandbox is worth. -/
noncomputable def Try.pinned : Pinned := { name := "ytelagneielahhaa", sum := "c328eb72a2ae23ecdd063c10208fe48e80c9673abb5f9459811f7216cff64980", checked := Try.checked }
namespace Rows
def none {H : Type} : Left H := { results := [], args := [] }

/-- 'vigillaw20.ViewOrder': WHATEVER THE INPUT: true; the input reads as it did. -/
def viewOrderSpec : ChangeSpec := { name := "viewOrder", fn := fun _ => fun
  | [d1, d2] => { results := [.lit (.bool true)], args := [d1, d2] }
  | _ => none }
def viewOrderRow : OpenClaim := { program := "ytelagneielahhaa", sum := "c328eb72a2ae23ecdd063c10208fe48e80c9673abb5f9459811f7216cff64980", func := "vigil/vigillaw20.ViewOrder", spec := "viewOrder", unfollowed := true, recurses := true, apart := false }
def ViewOrderSaid : Prop := viewOrderRow.holds Try.pinned (OpenSpec.ofChange viewOrderSpec)

/-- ITS FALSE NEIGHBOUR: 'it returns false'. Refute it at one input. -/
def viewOrderWrong : ChangeSpec := { name := "viewOrder", fn := fun _ => fun
  | [d1, d2] => { results := [.lit (.bool false)], args := [d1, d2] }
  | _ => none }
def ViewOrderWrongFalsely : Prop := viewOrderRow.holds Try.pinned (OpenSpec.ofChange viewOrderWrong)

/-- 'vigillaw20.ViewNil': WHATEVER THE INPUT: true; the input reads as it did. -/
def viewNilSpec : ChangeSpec := { name := "viewNil", fn := fun _ => fun
  | [d1, d2] => { results := [.lit (.bool true)], args := [d1, d2] }
  | _ => none }
def viewNilRow : OpenClaim := { program := "ytelagneielahhaa", sum := "c328eb72a2ae23ecdd063c10208fe48e80c9673abb5f9459811f7216cff64980", func := "vigil/vigillaw20.ViewNil", spec := "viewNil", unfollowed := true, recurses := true, apart := false }
def ViewNilSaid : Prop := viewNilRow.holds Try.pinned (OpenSpec.ofChange viewNilSpec)

/-- ITS FALSE NEIGHBOUR: 'it returns false'. Refute it at one input. -/
def viewNilWrong : ChangeSpec := { name := "viewNil", fn := fun _ => fun
  | [d1, d2] => { results := [.lit (.bool false)], args := [d1, d2] }
  | _ => none }
def ViewNilWrongFalsely : Prop := viewNilRow.holds Try.pinned (OpenSpec.ofChange viewNilWrong)

/-- 'vigillaw20.ViewHolds': WHATEVER THE INPUT: true; the input reads as it did. -/
def viewHoldsSpec : ChangeSpec := { name := "viewHolds", fn := fun _ => fun
  | [d1, d2] => { results := [.lit (.bool true)], args := [d1, d2] }
  | _ => none }
def viewHoldsRow : OpenClaim := { program := "ytelagneielahhaa", sum := "c328eb72a2ae23ecdd063c10208fe48e80c9673abb5f9459811f7216cff64980", func := "vigil/vigillaw20.ViewHolds", spec := "viewHolds", unfollowed := true, recurses := true, apart := false }
def ViewHoldsSaid : Prop := viewHoldsRow.holds Try.pinned (OpenSpec.ofChange viewHoldsSpec)

/-- ITS FALSE NEIGHBOUR: 'it returns false'. Refute it at one input. -/
def viewHoldsWrong : ChangeSpec := { name := "viewHolds", fn := fun _ => fun
  | [d1, d2] => { results := [.lit (.bool false)], args := [d1, d2] }
  | _ => none }
def ViewHoldsWrongFalsely : Prop := viewHoldsRow.holds Try.pinned (OpenSpec.ofChange viewHoldsWrong)

/-- 'vigillaw20.ViewPlays': WHATEVER THE INPUT: true; the input reads as it did. -/
def viewPlaysSpec : ChangeSpec := { name := "viewPlays", fn := fun _ => fun
  | [d1, d2, d3] => { results := [.lit (.bool true)], args := [d1, d2, d3] }
  | _ => none }
def viewPlaysRow : OpenClaim := { program := "ytelagneielahhaa", sum := "c328eb72a2ae23ecdd063c10208fe48e80c9673abb5f9459811f7216cff64980", func := "vigil/vigillaw20.ViewPlays", spec := "viewPlays", unfollowed := true, recurses := true, apart := false }
def ViewPlaysSaid : Prop := viewPlaysRow.holds Try.pinned (OpenSpec.ofChange viewPlaysSpec)

/-- ITS FALSE NEIGHBOUR: 'it returns false'. Refute it at one input. -/
def viewPlaysWrong : ChangeSpec := { name := "viewPlays", fn := fun _ => fun
  | [d1, d2, d3] => { results := [.lit (.bool false)], args := [d1, d2, d3] }
  | _ => none }
def ViewPlaysWrongFalsely : Prop := viewPlaysRow.holds Try.pinned (OpenSpec.ofChange viewPlaysWrong)

/- THE SECOND FORM. 'bulk': how many values and letters a reading holds, each counted each time it is reached (what is shared counts as often as it is met; a slice's spare places count too). A statement '..UptoSaid' is the law's where the arguments, and the package variables that the reading takes, are together of bulk at most 1048576: NARROWER than '..Said'. Prove '..Said' where nothing that the law and all that it calls make is longer than what came in: it says more and counts as full. Else prove '..UptoSaid'. A law counts once. -/
mutual
def uptoBulk {H : Type} : DataW H → Nat
  | .lit (.string bytes) => bytes.length + 1
  | .lit _ => 1
  | .nil => 1
  | .ptr d => uptoBulk d + 1
  | .slice elems spare => uptoBulkAll elems + uptoBulkAll spare + 1
  | .agg parts => uptoBulkAll parts + 1
  | .iface _ d => uptoBulk d + 1
  | .map entries => uptoBulkEntries entries + 1
  | .held _ => 1
def uptoBulkAll {H : Type} : List (DataW H) → Nat
  | [] => 0
  | d :: r => uptoBulk d + uptoBulkAll r
def uptoBulkEntries {H : Type} : List (Lit × DataW H) → Nat
  | [] => 0
  | x :: r => uptoBulkEntry x + uptoBulkEntries r
def uptoBulkEntry {H : Type} : Lit × DataW H → Nat
  | (.string bytes, d) => bytes.length + uptoBulk d + 1
  | (_, d) => uptoBulk d + 1
 end
def uptoSmall : (H : Type) → List (DataW H) → Bool := fun _ ds => decide (uptoBulkAll ds ≤ 1048576)
def OpenSpec.upto (s : _root_.Go.ChangeSpec) : _root_.Go.OpenSpec := { _root_.Go.OpenSpec.ofChange s with cond := some uptoSmall }

/-- 'vigillaw20.ViewOrder', WHERE WHAT IT READS IS OF BULK AT MOST 1048576: true; the input reads as it did. -/
def viewOrderUptoRow : OpenClaim := { program := "ytelagneielahhaa", sum := "c328eb72a2ae23ecdd063c10208fe48e80c9673abb5f9459811f7216cff64980", func := "vigil/vigillaw20.ViewOrder", spec := "viewOrder", unfollowed := true, recurses := true, apart := false, narrowed := true }
def ViewOrderUptoSaid : Prop := viewOrderUptoRow.holds Try.pinned (OpenSpec.upto viewOrderSpec)

/-- 'vigillaw20.ViewNil', WHERE WHAT IT READS IS OF BULK AT MOST 1048576: true; the input reads as it did. -/
def viewNilUptoRow : OpenClaim := { program := "ytelagneielahhaa", sum := "c328eb72a2ae23ecdd063c10208fe48e80c9673abb5f9459811f7216cff64980", func := "vigil/vigillaw20.ViewNil", spec := "viewNil", unfollowed := true, recurses := true, apart := false, narrowed := true }
def ViewNilUptoSaid : Prop := viewNilUptoRow.holds Try.pinned (OpenSpec.upto viewNilSpec)

/-- 'vigillaw20.ViewHolds', WHERE WHAT IT READS IS OF BULK AT MOST 1048576: true; the input reads as it did. -/
def viewHoldsUptoRow : OpenClaim := { program := "ytelagneielahhaa", sum := "c328eb72a2ae23ecdd063c10208fe48e80c9673abb5f9459811f7216cff64980", func := "vigil/vigillaw20.ViewHolds", spec := "viewHolds", unfollowed := true, recurses := true, apart := false, narrowed := true }
def ViewHoldsUptoSaid : Prop := viewHoldsUptoRow.holds Try.pinned (OpenSpec.upto viewHoldsSpec)

/-- 'vigillaw20.ViewPlays', WHERE WHAT IT READS IS OF BULK AT MOST 1048576: true; the input reads as it did. -/
def viewPlaysUptoRow : OpenClaim := { program := "ytelagneielahhaa", sum := "c328eb72a2ae23ecdd063c10208fe48e80c9673abb5f9459811f7216cff64980", func := "vigil/vigillaw20.ViewPlays", spec := "viewPlays", unfollowed := true, recurses := true, apart := false, narrowed := true }
def ViewPlaysUptoSaid : Prop := viewPlaysUptoRow.holds Try.pinned (OpenSpec.upto viewPlaysSpec)

end Rows
end Go.Proofs.Ytelagneielahhaa
