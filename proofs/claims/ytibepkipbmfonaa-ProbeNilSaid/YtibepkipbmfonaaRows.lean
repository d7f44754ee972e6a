/-
  No cell of these rows narrows 'for every input' (looked for: loops, veiled, ifaces, maps, wideKeys, modest, calm, conditions, laid).
  DERIVED. THE GIVEN ROWS OF THIS SEAT. 4 by the template 'for every input the law returns true; each argument reads behind the call as it read before'; 0 by the template 'total and deterministic' (their statements: YtibepkipbmfonaaTotals.lean).
  GIVEN WITH THE SEED: the statements are not yours to turn. If you find one false, say at which input.
  Laid BY PROGRAM, IN A SANDBOX (cutbox-rows.mjs): the forced cells as the released guide's own fill.sh prints them over the translation 171a525a21627803… (all of the seat's roots in one cut). By AI agents, Wed Nov 11 2026. No macro, syntax, notation, axiom, sorry.
-/
import Derived.Test.YtibepkipbmfonaaChecked
import GoSem.Claim
import GoSem.ClaimJoined
import GoSem.ClaimMapViews
import Derived.JoinedTies
import Derived.KernelRfl
namespace Go.Proofs.Ytibepkipbmfonaa
/- THE CELL 'sum', in the pinned program and in every row, IS THE sha256 OF THE DUMP (.gsa) THAT YtibepkipbmfonaaProg.lean LOADS. Nothing in Lean hashes anything: it is a label: what it is worth is what the hold of that sum in a sandbox is worth. -/
noncomputable def Try.pinned : Pinned := { name := "ytibepkipbmfonaa", sum := "171a525a21627803d4495f9d0c40ec869646dae465226ff590249449a83fc546", checked := Try.checked }
namespace Rows
def none {H : Type} : Left H := { results := [], args := [] }

/-- 'vigillaw21.ProbeEach': WHATEVER THE INPUT: true; the input reads as it did. -/
def probeEachSpec : ChangeSpec := { name := "probeEach", fn := fun _ => fun
  | [d1, d2, d3] => { results := [.lit (.bool true)], args := [d1, d2, d3] }
  | _ => none }
def probeEachRow : OpenClaim := { program := "ytibepkipbmfonaa", sum := "171a525a21627803d4495f9d0c40ec869646dae465226ff590249449a83fc546", func := "vigil/vigillaw21.ProbeEach", spec := "probeEach", unfollowed := true, recurses := true, apart := false }
def ProbeEachSaid : Prop := probeEachRow.holds Try.pinned (OpenSpec.ofChange probeEachSpec)

/-- ITS FALSE NEIGHBOUR: 'it returns false'. Refute it at one input. -/
def probeEachWrong : ChangeSpec := { name := "probeEach", fn := fun _ => fun
  | [d1, d2, d3] => { results := [.lit (.bool false)], args := [d1, d2, d3] }
  | _ => none }
def ProbeEachWrongFalsely : Prop := probeEachRow.holds Try.pinned (OpenSpec.ofChange probeEachWrong)

/-- 'vigillaw21.ProbeRounds': WHATEVER THE INPUT: true; the input reads as it did. -/
def probeRoundsSpec : ChangeSpec := { name := "probeRounds", fn := fun _ => fun
  | [d1, d2] => { results := [.lit (.bool true)], args := [d1, d2] }
  | _ => none }
def probeRoundsRow : OpenClaim := { program := "ytibepkipbmfonaa", sum := "171a525a21627803d4495f9d0c40ec869646dae465226ff590249449a83fc546", func := "vigil/vigillaw21.ProbeRounds", spec := "probeRounds", unfollowed := true, recurses := true, apart := false }
def ProbeRoundsSaid : Prop := probeRoundsRow.holds Try.pinned (OpenSpec.ofChange probeRoundsSpec)

/-- ITS FALSE NEIGHBOUR: 'it returns false'. Refute it at one input. -/
def probeRoundsWrong : ChangeSpec := { name := "probeRounds", fn := fun _ => fun
  | [d1, d2] => { results := [.lit (.bool false)], args := [d1, d2] }
  | _ => none }
def ProbeRoundsWrongFalsely : Prop := probeRoundsRow.holds Try.pinned (OpenSpec.ofChange probeRoundsWrong)

/-- 'vigillaw21.ProbeDraws': WHATEVER THE INPUT: true; the input reads as it did. -/
def probeDrawsSpec : ChangeSpec := { name := "probeDraws", fn := fun _ => fun
  | [d1, d2, d3] => { results := [.lit (.bool true)], args := [d1, d2, d3] }
  | _ => none }
def probeDrawsRow : OpenClaim := { program := "ytibepkipbmfonaa", sum := "171a525a21627803d4495f9d0c40ec869646dae465226ff590249449a83fc546", func := "vigil/vigillaw21.ProbeDraws", spec := "probeDraws", unfollowed := true, recurses := true, apart := false }
def ProbeDrawsSaid : Prop := probeDrawsRow.holds Try.pinned (OpenSpec.ofChange probeDrawsSpec)

/-- ITS FALSE NEIGHBOUR: 'it returns false'. Refute it at one input. -/
def probeDrawsWrong : ChangeSpec := { name := "probeDraws", fn := fun _ => fun
  | [d1, d2, d3] => { results := [.lit (.bool false)], args := [d1, d2, d3] }
  | _ => none }
def ProbeDrawsWrongFalsely : Prop := probeDrawsRow.holds Try.pinned (OpenSpec.ofChange probeDrawsWrong)

/-- 'vigillaw21.ProbeNil': WHATEVER THE INPUT: true; the input reads as it did. -/
def probeNilSpec : ChangeSpec := { name := "probeNil", fn := fun _ => fun
  | [d1, d2] => { results := [.lit (.bool true)], args := [d1, d2] }
  | _ => none }
def probeNilRow : OpenClaim := { program := "ytibepkipbmfonaa", sum := "171a525a21627803d4495f9d0c40ec869646dae465226ff590249449a83fc546", func := "vigil/vigillaw21.ProbeNil", spec := "probeNil", unfollowed := true, recurses := true, apart := false }
def ProbeNilSaid : Prop := probeNilRow.holds Try.pinned (OpenSpec.ofChange probeNilSpec)

/-- ITS FALSE NEIGHBOUR: 'it returns false'. Refute it at one input. -/
def probeNilWrong : ChangeSpec := { name := "probeNil", fn := fun _ => fun
  | [d1, d2] => { results := [.lit (.bool false)], args := [d1, d2] }
  | _ => none }
def ProbeNilWrongFalsely : Prop := probeNilRow.holds Try.pinned (OpenSpec.ofChange probeNilWrong)

/- THE SECOND FORM. 'bulk': how many values and letters a reading holds, each counted each time it is reached (what is shared counts as often as it is met; a slice's spare places count too). A statement '..UptoSaid' is the law's where the arguments, and the package variables that the reading takes, are together of bulk at most 1048576: NARROWER than '..Said'. Prove '..Said' where nothing that the law and all that it calls make is longer than what came in: it says more and counts as full. Else prove '..UptoSaid'. A law counts once. -/
mutual
def uptoBulk {H : Type} : DataW H → Nat
  | .lit (.string bytes) => bytes.length + 1
  | .lit _ => 1
  | .nil => 1
  | .ptr d => uptoBulk d + 1
  | .slice elems spare => uptoBulkAll elems + uptoBulkAll spare + 1
  | .agg parts => uptoBulkAll parts + 1
  | .iface _ d => uptoBulk d + 1
  | .map entries => uptoBulkEntries entries + 1
  | .held _ => 1
def uptoBulkAll {H : Type} : List (DataW H) → Nat
  | [] => 0
  | d :: r => uptoBulk d + uptoBulkAll r
def uptoBulkEntries {H : Type} : List (Lit × DataW H) → Nat
  | [] => 0
  | x :: r => uptoBulkEntry x + uptoBulkEntries r
def uptoBulkEntry {H : Type} : Lit × DataW H → Nat
  | (.string bytes, d) => bytes.length + uptoBulk d + 1
  | (_, d) => uptoBulk d + 1
 end
def uptoSmall : (H : Type) → List (DataW H) → Bool := fun _ ds => decide (uptoBulkAll ds ≤ 1048576)
def OpenSpec.upto (s : _root_.Go.ChangeSpec) : _root_.Go.OpenSpec := { _root_.Go.OpenSpec.ofChange s with cond := some uptoSmall }

/-- 'vigillaw21.ProbeEach', WHERE WHAT IT READS IS OF BULK AT MOST 1048576: true; the input reads as it did. -/
def probeEachUptoRow : OpenClaim := { program := "ytibepkipbmfonaa", sum := "171a525a21627803d4495f9d0c40ec869646dae465226ff590249449a83fc546", func := "vigil/vigillaw21.ProbeEach", spec := "probeEach", unfollowed := true, recurses := true, apart := false, narrowed := true }
def ProbeEachUptoSaid : Prop := probeEachUptoRow.holds Try.pinned (OpenSpec.upto probeEachSpec)

/-- 'vigillaw21.ProbeRounds', WHERE WHAT IT READS IS OF BULK AT MOST 1048576: true; the input reads as it did. -/
def probeRoundsUptoRow : OpenClaim := { program := "ytibepkipbmfonaa", sum := "171a525a21627803d4495f9d0c40ec869646dae465226ff590249449a83fc546", func := "vigil/vigillaw21.ProbeRounds", spec := "probeRounds", unfollowed := true, recurses := true, apart := false, narrowed := true }
def ProbeRoundsUptoSaid : Prop := probeRoundsUptoRow.holds Try.pinned (OpenSpec.upto probeRoundsSpec)

/-- 'vigillaw21.ProbeDraws', WHERE WHAT IT READS IS OF BULK AT MOST 1048576: true; the input reads as it did. -/
def probeDrawsUptoRow : OpenClaim := { program := "ytibepkipbmfonaa", sum := "171a525a21627803d4495f9d0c40ec869646dae465226ff590249449a83fc546", func := "vigil/vigillaw21.ProbeDraws", spec := "probeDraws", unfollowed := true, recurses := true, apart := false, narrowed := true }
def ProbeDrawsUptoSaid : Prop := probeDrawsUptoRow.holds Try.pinned (OpenSpec.upto probeDrawsSpec)

/-- 'vigillaw21.ProbeNil', WHERE WHAT IT READS IS OF BULK AT MOST 1048576: true; the input reads as it did. -/
def probeNilUptoRow : OpenClaim := { program := "ytibepkipbmfonaa", sum := "171a525a21627803d4495f9d0c40ec869646dae465226ff590249449a83fc546", func := "vigil/vigillaw21.ProbeNil", spec := "probeNil", unfollowed := true, recurses := true, apart := false, narrowed := true }
def ProbeNilUptoSaid : Prop := probeNilUptoRow.holds Try.pinned (OpenSpec.upto probeNilSpec)

end Rows
end Go.Proofs.Ytibepkipbmfonaa
