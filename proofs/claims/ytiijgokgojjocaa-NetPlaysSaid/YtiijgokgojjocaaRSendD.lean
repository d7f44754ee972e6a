/- The reference's net: what Send does. -/
import Derived.Test.YtiijgokgojjocaaRNetF
import Derived.Test.YtiijgokgojjocaaRNetC
import Derived.Test.YtiijgokgojjocaaNetSend
import Derived.StillTailTactics
namespace Go.Proofs.Ytiijgokgojjocaa
open Go.RowKit Go.ChangeMaps Go.WideMaps Go.MapKept Go.WideShapes

section
variable {w w' : World} {m : Nat} {s : Int} {r : Rl} {C : Option Addr} {nc kc : Nat} {cl : List (Int × Int)} {A : Option Addr} {n cap : Nat} {ms : List Ml} {B : Option Addr} {nb kb : Nat} {cs : List Ml} {sent lost told : Int}
/-- What Send does: the mails that it puts, and what is left. -/
def RSended (w : World) (m : Nat) (s : Int) (r : Rl) (C : Option Addr) (nc kc : Nat) (cl : List (Int × Int)) (A : Option Addr) (n : Nat) (ms : List Ml) (B : Option Addr) (nb kb : Nat) (cs : List Ml) (sent lost told tick fr dst : Int) (xs : List Int) (e : Ending) (w' : World) : Prop :=
  ∃ acc A' cap', e = .returned (.int .i64 ((acc.length : Nat) : Int)) ∧ acc.map Ml.pure = (fate (cutP cl) r s tick fr dst xs).1.take (2048 - n) ∧
    RNetIs w' m (fate (cutP cl) r s tick fr dst xs).2 r C nc kc cl A' (n + acc.length) cap' (ms ++ acc) B nb kb cs (sent + 1) (lost + if acc = [] then 1 else 0) told ∧
    (∀ i ∈ blks A', i ∈ blks A ∨ w.heap.size ≤ i) ∧ (∀ x ∈ acc, ∀ i ∈ blks x.A, w.heap.size ≤ i) ∧ Turn (m :: blks A) w w'
end
end Go.Proofs.Ytiijgokgojjocaa
