/-
  No cell of these rows narrows 'for every input' (looked for: loops, veiled, ifaces, maps, wideKeys, modest, calm, conditions, laid).
  DERIVED. THE GIVEN ROWS OF THIS SEAT. 3 by the template 'for every input the law returns true; each argument reads behind the call as it read before'; 0 by the template 'total and deterministic' (their statements: YtpdencmgjihnfaaTotals.lean).
  GIVEN WITH THE SEED: the statements are not yours to turn. If you find one false, say at which input.
  Laid BY PROGRAM, IN A SANDBOX (cutbox-rows.mjs): the forced cells as the released guide's own fill.sh prints them over the translation 7f542ed4efc37d5a… (all of the seat's roots in one cut). By AI agents, Wed Nov 11 2026. No macro, syntax, notation, axiom, sorry.
-/
import Derived.Test.YtpdencmgjihnfaaChecked
import GoSem.Claim
import GoSem.ClaimJoined
import GoSem.ClaimMapViews
import Derived.JoinedTies
import Derived.KernelRfl
namespace Go.Proofs.Ytpdencmgjihnfaa
/- THE CELL 'sum', in the pinned program and in every row, IS THE sha256 OF THE DUMP (.gsa) THAT YtpdencmgjihnfaaProg.lean LOADS. Nothing in Lean hashes anything: it is a label: what it is worth is what the hold of that sum in a sandbox is worth. -/
noncomputable def Try.pinned : Pinned := { name := "ytpdencmgjihnfaa", sum := "7f542ed4efc37d5a725eca5118facaa8924ba21ad21f61d61f82f2a7fccd73bc", checked := Try.checked }
namespace Rows
def none {H : Type} : Left H := { results := [], args := [] }

/-- 'vigillaw24.HintsBounds': WHATEVER THE INPUT: true; the input reads as it did. -/
def hintsBoundsSpec : ChangeSpec := { name := "hintsBounds", fn := fun _ => fun
  | [d1, d2] => { results := [.lit (.bool true)], args := [d1, d2] }
  | _ => none }
def hintsBoundsRow : OpenClaim := { program := "ytpdencmgjihnfaa", sum := "7f542ed4efc37d5a725eca5118facaa8924ba21ad21f61d61f82f2a7fccd73bc", func := "vigil/vigillaw24.HintsBounds", spec := "hintsBounds", unfollowed := true, recurses := true, apart := false }
def HintsBoundsSaid : Prop := hintsBoundsRow.holds Try.pinned (OpenSpec.ofChange hintsBoundsSpec)

/-- ITS FALSE NEIGHBOUR: 'it returns false'. Refute it at one input. -/
def hintsBoundsWrong : ChangeSpec := { name := "hintsBounds", fn := fun _ => fun
  | [d1, d2] => { results := [.lit (.bool false)], args := [d1, d2] }
  | _ => none }
def HintsBoundsWrongFalsely : Prop := hintsBoundsRow.holds Try.pinned (OpenSpec.ofChange hintsBoundsWrong)

/-- 'vigillaw24.HintsPlays': WHATEVER THE INPUT: true; the input reads as it did. -/
def hintsPlaysSpec : ChangeSpec := { name := "hintsPlays", fn := fun _ => fun
  | [d1, d2, d3, d4, d5] => { results := [.lit (.bool true)], args := [d1, d2, d3, d4, d5] }
  | _ => none }
def hintsPlaysRow : OpenClaim := { program := "ytpdencmgjihnfaa", sum := "7f542ed4efc37d5a725eca5118facaa8924ba21ad21f61d61f82f2a7fccd73bc", func := "vigil/vigillaw24.HintsPlays", spec := "hintsPlays", unfollowed := true, recurses := true, apart := false }
def HintsPlaysSaid : Prop := hintsPlaysRow.holds Try.pinned (OpenSpec.ofChange hintsPlaysSpec)

/-- ITS FALSE NEIGHBOUR: 'it returns false'. Refute it at one input. -/
def hintsPlaysWrong : ChangeSpec := { name := "hintsPlays", fn := fun _ => fun
  | [d1, d2, d3, d4, d5] => { results := [.lit (.bool false)], args := [d1, d2, d3, d4, d5] }
  | _ => none }
def HintsPlaysWrongFalsely : Prop := hintsPlaysRow.holds Try.pinned (OpenSpec.ofChange hintsPlaysWrong)

/-- 'vigillaw24.HintsNil': WHATEVER THE INPUT: true; the input reads as it did. -/
def hintsNilSpec : ChangeSpec := { name := "hintsNil", fn := fun _ => fun
  | [d1, d2] => { results := [.lit (.bool true)], args := [d1, d2] }
  | _ => none }
def hintsNilRow : OpenClaim := { program := "ytpdencmgjihnfaa", sum := "7f542ed4efc37d5a725eca5118facaa8924ba21ad21f61d61f82f2a7fccd73bc", func := "vigil/vigillaw24.HintsNil", spec := "hintsNil", unfollowed := true, recurses := true, apart := false }
def HintsNilSaid : Prop := hintsNilRow.holds Try.pinned (OpenSpec.ofChange hintsNilSpec)

/-- ITS FALSE NEIGHBOUR: 'it returns false'. Refute it at one input. -/
def hintsNilWrong : ChangeSpec := { name := "hintsNil", fn := fun _ => fun
  | [d1, d2] => { results := [.lit (.bool false)], args := [d1, d2] }
  | _ => none }
def HintsNilWrongFalsely : Prop := hintsNilRow.holds Try.pinned (OpenSpec.ofChange hintsNilWrong)

/- THE SECOND FORM. 'bulk': how many values and letters a reading holds, each counted each time it is reached (what is shared counts as often as it is met; a slice's spare places count too). A statement '..UptoSaid' is the law's where the arguments, and the package variables that the reading takes, are together of bulk at most 1048576: NARROWER than '..Said'. Prove '..Said' where nothing that the law and all that it calls make is longer than what came in: it says more and counts as full. Else prove '..UptoSaid'. A law counts once. -/
mutual
def uptoBulk {H : Type} : DataW H → Nat
  | .lit (.string bytes) => bytes.length + 1
  | .lit _ => 1
  | .nil => 1
  | .ptr d => uptoBulk d + 1
  | .slice elems spare => uptoBulkAll elems + uptoBulkAll spare + 1
  | .agg parts => uptoBulkAll parts + 1
  | .iface _ d => uptoBulk d + 1
  | .map entries => uptoBulkEntries entries + 1
  | .held _ => 1
def uptoBulkAll {H : Type} : List (DataW H) → Nat
  | [] => 0
  | d :: r => uptoBulk d + uptoBulkAll r
def uptoBulkEntries {H : Type} : List (Lit × DataW H) → Nat
  | [] => 0
  | x :: r => uptoBulkEntry x + uptoBulkEntries r
def uptoBulkEntry {H : Type} : Lit × DataW H → Nat
  | (.string bytes, d) => bytes.length + uptoBulk d + 1
  | (_, d) => uptoBulk d + 1
 end
def uptoSmall : (H : Type) → List (DataW H) → Bool := fun _ ds => decide (uptoBulkAll ds ≤ 1048576)
def OpenSpec.upto (s : _root_.Go.ChangeSpec) : _root_.Go.OpenSpec := { _root_.Go.OpenSpec.ofChange s with cond := some uptoSmall }

/-- 'vigillaw24.HintsBounds', WHERE WHAT IT READS IS OF BULK AT MOST 1048576: true; the input reads as it did. -/
def hintsBoundsUptoRow : OpenClaim := { program := "ytpdencmgjihnfaa", sum := "7f542ed4efc37d5a725eca5118facaa8924ba21ad21f61d61f82f2a7fccd73bc", func := "vigil/vigillaw24.HintsBounds", spec := "hintsBounds", unfollowed := true, recurses := true, apart := false, narrowed := true }
def HintsBoundsUptoSaid : Prop := hintsBoundsUptoRow.holds Try.pinned (OpenSpec.upto hintsBoundsSpec)

/-- 'vigillaw24.HintsPlays', WHERE WHAT IT READS IS OF BULK AT MOST 1048576: true; the input reads as it did. -/
def hintsPlaysUptoRow : OpenClaim := { program := "ytpdencmgjihnfaa", sum := "7f542ed4efc37d5a725eca5118facaa8924ba21ad21f61d61f82f2a7fccd73bc", func := "vigil/vigillaw24.HintsPlays", spec := "hintsPlays", unfollowed := true, recurses := true, apart := false, narrowed := true }
def HintsPlaysUptoSaid : Prop := hintsPlaysUptoRow.holds Try.pinned (OpenSpec.upto hintsPlaysSpec)

/-- 'vigillaw24.HintsNil', WHERE WHAT IT READS IS OF BULK AT MOST 1048576: true; the input reads as it did. -/
def hintsNilUptoRow : OpenClaim := { program := "ytpdencmgjihnfaa", sum := "7f542ed4efc37d5a725eca5118facaa8924ba21ad21f61d61f82f2a7fccd73bc", func := "vigil/vigillaw24.HintsNil", spec := "hintsNil", unfollowed := true, recurses := true, apart := false, narrowed := true }
def HintsNilUptoSaid : Prop := hintsNilUptoRow.holds Try.pinned (OpenSpec.upto hintsNilSpec)

end Rows
end Go.Proofs.Ytpdencmgjihnfaa
