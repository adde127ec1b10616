/-
  No cell of these rows narrows 'for every input' (looked for: loops, veiled, ifaces, maps, wideKeys, modest, calm, conditions, laid).
  DERIVED. THE GIVEN ROWS OF THIS SEAT. 6 by the template 'for every input the law returns true; each argument reads behind the call as it read before'; 0 by the template 'total and deterministic' (their statements: YtigcmpmpjmbfkaaTotals.lean).
  GIVEN WITH THE SEED: the statements are not yours to turn. If you find one false, say at which input.
  Laid BY PROGRAM, IN A SANDBOX (cutbox-rows.mjs): the forced cells as the released guide's own fill.sh prints them over the translation 5e02b49457467260… (all of the seat's roots in one cut). By AI agents, Wed Nov 11 2026. No macro, syntax, notation, axiom, sorry.
-/
import Derived.Test.YtigcmpmpjmbfkaaChecked
import GoSem.Claim
import GoSem.ClaimJoined
import GoSem.ClaimMapViews
import Derived.JoinedTies
import Derived.KernelRfl
namespace Go.Proofs.Ytigcmpmpjmbfkaa
/- THE CELL 'sum', in the pinned program and in every row, IS THE sha256 OF THE DUMP (.gsa) THAT YtigcmpmpjmbfkaaProg.lean LOADS. Nothing in Lean hashes anything: it is a label: what it is worth is what the hold of that sum in a sandbox is worth. -/
noncomputable def Try.pinned : Pinned := { name := "ytigcmpmpjmbfkaa", sum := "5e02b49457467260981bda92c884d51d5cda1f34ca2a90429cdf85f9a4884267", checked := Try.checked }
namespace Rows
def none {H : Type} : Left H := { results := [], args := [] }

/-- 'foliotlaw14.ClusterShifted': WHATEVER THE INPUT: true; the input reads as it did. -/
def clusterShiftedSpec : ChangeSpec := { name := "clusterShifted", fn := fun _ => fun
  | [d1, d2] => { results := [.lit (.bool true)], args := [d1, d2] }
  | _ => none }
def clusterShiftedRow : OpenClaim := { program := "ytigcmpmpjmbfkaa", sum := "5e02b49457467260981bda92c884d51d5cda1f34ca2a90429cdf85f9a4884267", func := "foliot/foliotlaw14.ClusterShifted", spec := "clusterShifted", inPlace := ["math/bits.Add64"], named := ["math/bits.divideError", "math/bits.overflowError"], apart := false }
def ClusterShiftedSaid : Prop := clusterShiftedRow.holds Try.pinned (OpenSpec.ofChange clusterShiftedSpec)

/-- ITS FALSE NEIGHBOUR: 'it returns false'. Refute it at one input. -/
def clusterShiftedWrong : ChangeSpec := { name := "clusterShifted", fn := fun _ => fun
  | [d1, d2] => { results := [.lit (.bool false)], args := [d1, d2] }
  | _ => none }
def ClusterShiftedWrongFalsely : Prop := clusterShiftedRow.holds Try.pinned (OpenSpec.ofChange clusterShiftedWrong)

/-- 'foliotlaw14.ClusterKeeps': WHATEVER THE INPUT: true; the input reads as it did. -/
def clusterKeepsSpec : ChangeSpec := { name := "clusterKeeps", fn := fun _ => fun
  | [d] => { results := [.lit (.bool true)], args := [d] }
  | _ => none }
def clusterKeepsRow : OpenClaim := { program := "ytigcmpmpjmbfkaa", sum := "5e02b49457467260981bda92c884d51d5cda1f34ca2a90429cdf85f9a4884267", func := "foliot/foliotlaw14.ClusterKeeps", spec := "clusterKeeps", inPlace := ["math/bits.Add64"], unfollowed := true, recurses := true, named := ["math/bits.divideError", "math/bits.overflowError"], apart := false }
def ClusterKeepsSaid : Prop := clusterKeepsRow.holds Try.pinned (OpenSpec.ofChange clusterKeepsSpec)

/-- ITS FALSE NEIGHBOUR: 'it returns false'. Refute it at one input. -/
def clusterKeepsWrong : ChangeSpec := { name := "clusterKeeps", fn := fun _ => fun
  | [d] => { results := [.lit (.bool false)], args := [d] }
  | _ => none }
def ClusterKeepsWrongFalsely : Prop := clusterKeepsRow.holds Try.pinned (OpenSpec.ofChange clusterKeepsWrong)

/-- 'foliotlaw14.ClusterTurned': WHATEVER THE INPUT: true; the input reads as it did. -/
def clusterTurnedSpec : ChangeSpec := { name := "clusterTurned", fn := fun _ => fun
  | [d1, d2, d3] => { results := [.lit (.bool true)], args := [d1, d2, d3] }
  | _ => none }
def clusterTurnedRow : OpenClaim := { program := "ytigcmpmpjmbfkaa", sum := "5e02b49457467260981bda92c884d51d5cda1f34ca2a90429cdf85f9a4884267", func := "foliot/foliotlaw14.ClusterTurned", spec := "clusterTurned", inPlace := ["math/bits.Add64"], unfollowed := true, recurses := true, named := ["math/bits.divideError", "math/bits.overflowError"], apart := false }
def ClusterTurnedSaid : Prop := clusterTurnedRow.holds Try.pinned (OpenSpec.ofChange clusterTurnedSpec)

/-- ITS FALSE NEIGHBOUR: 'it returns false'. Refute it at one input. -/
def clusterTurnedWrong : ChangeSpec := { name := "clusterTurned", fn := fun _ => fun
  | [d1, d2, d3] => { results := [.lit (.bool false)], args := [d1, d2, d3] }
  | _ => none }
def ClusterTurnedWrongFalsely : Prop := clusterTurnedRow.holds Try.pinned (OpenSpec.ofChange clusterTurnedWrong)

/-- 'foliotlaw14.ClusterBetween': WHATEVER THE INPUT: true; the input reads as it did. -/
def clusterBetweenSpec : ChangeSpec := { name := "clusterBetween", fn := fun _ => fun
  | [d] => { results := [.lit (.bool true)], args := [d] }
  | _ => none }
def clusterBetweenRow : OpenClaim := { program := "ytigcmpmpjmbfkaa", sum := "5e02b49457467260981bda92c884d51d5cda1f34ca2a90429cdf85f9a4884267", func := "foliot/foliotlaw14.ClusterBetween", spec := "clusterBetween", inPlace := ["math/bits.Add64"], unfollowed := true, recurses := true, named := ["math/bits.divideError", "math/bits.overflowError"], apart := false }
def ClusterBetweenSaid : Prop := clusterBetweenRow.holds Try.pinned (OpenSpec.ofChange clusterBetweenSpec)

/-- ITS FALSE NEIGHBOUR: 'it returns false'. Refute it at one input. -/
def clusterBetweenWrong : ChangeSpec := { name := "clusterBetween", fn := fun _ => fun
  | [d] => { results := [.lit (.bool false)], args := [d] }
  | _ => none }
def ClusterBetweenWrongFalsely : Prop := clusterBetweenRow.holds Try.pinned (OpenSpec.ofChange clusterBetweenWrong)

/-- 'foliotlaw14.ClusterPeers': WHATEVER THE INPUT: true; the input reads as it did. -/
def clusterPeersSpec : ChangeSpec := { name := "clusterPeers", fn := fun _ => fun
  | [d1, d2] => { results := [.lit (.bool true)], args := [d1, d2] }
  | _ => none }
def clusterPeersRow : OpenClaim := { program := "ytigcmpmpjmbfkaa", sum := "5e02b49457467260981bda92c884d51d5cda1f34ca2a90429cdf85f9a4884267", func := "foliot/foliotlaw14.ClusterPeers", spec := "clusterPeers", inPlace := ["math/bits.Add64"], unfollowed := true, recurses := true, named := ["math/bits.divideError", "math/bits.overflowError"], apart := false }
def ClusterPeersSaid : Prop := clusterPeersRow.holds Try.pinned (OpenSpec.ofChange clusterPeersSpec)

/-- ITS FALSE NEIGHBOUR: 'it returns false'. Refute it at one input. -/
def clusterPeersWrong : ChangeSpec := { name := "clusterPeers", fn := fun _ => fun
  | [d1, d2] => { results := [.lit (.bool false)], args := [d1, d2] }
  | _ => none }
def ClusterPeersWrongFalsely : Prop := clusterPeersRow.holds Try.pinned (OpenSpec.ofChange clusterPeersWrong)

/-- 'foliotlaw14.ClusterChecks': WHATEVER THE INPUT: true; the input reads as it did. -/
def clusterChecksSpec : ChangeSpec := { name := "clusterChecks", fn := fun _ => fun
  | [d1, d2] => { results := [.lit (.bool true)], args := [d1, d2] }
  | _ => none }
def clusterChecksRow : OpenClaim := { program := "ytigcmpmpjmbfkaa", sum := "5e02b49457467260981bda92c884d51d5cda1f34ca2a90429cdf85f9a4884267", func := "foliot/foliotlaw14.ClusterChecks", spec := "clusterChecks", inPlace := ["math/bits.Add64"], unfollowed := true, recurses := true, named := ["math/bits.divideError", "math/bits.overflowError"], apart := false }
def ClusterChecksSaid : Prop := clusterChecksRow.holds Try.pinned (OpenSpec.ofChange clusterChecksSpec)

/-- ITS FALSE NEIGHBOUR: 'it returns false'. Refute it at one input. -/
def clusterChecksWrong : ChangeSpec := { name := "clusterChecks", fn := fun _ => fun
  | [d1, d2] => { results := [.lit (.bool false)], args := [d1, d2] }
  | _ => none }
def ClusterChecksWrongFalsely : Prop := clusterChecksRow.holds Try.pinned (OpenSpec.ofChange clusterChecksWrong)

/- THE SECOND FORM. 'bulk': how many values and letters a reading holds, each counted each time it is reached (what is shared counts as often as it is met; a slice's spare places count too). A statement '..UptoSaid' is the law's where the arguments, and the package variables that the reading takes, are together of bulk at most 1048576: NARROWER than '..Said'. Prove '..Said' where nothing that the law and all that it calls make is longer than what came in: it says more and counts as full. Else prove '..UptoSaid'. A law counts once. -/
mutual
def uptoBulk {H : Type} : DataW H → Nat
  | .lit (.string bytes) => bytes.length + 1
  | .lit _ => 1
  | .nil => 1
  | .ptr d => uptoBulk d + 1
  | .slice elems spare => uptoBulkAll elems + uptoBulkAll spare + 1
  | .agg parts => uptoBulkAll parts + 1
  | .iface _ d => uptoBulk d + 1
  | .map entries => uptoBulkEntries entries + 1
  | .held _ => 1
def uptoBulkAll {H : Type} : List (DataW H) → Nat
  | [] => 0
  | d :: r => uptoBulk d + uptoBulkAll r
def uptoBulkEntries {H : Type} : List (Lit × DataW H) → Nat
  | [] => 0
  | x :: r => uptoBulkEntry x + uptoBulkEntries r
def uptoBulkEntry {H : Type} : Lit × DataW H → Nat
  | (.string bytes, d) => bytes.length + uptoBulk d + 1
  | (_, d) => uptoBulk d + 1
 end
def uptoSmall : (H : Type) → List (DataW H) → Bool := fun _ ds => decide (uptoBulkAll ds ≤ 1048576)
def OpenSpec.upto (s : _root_.Go.ChangeSpec) : _root_.Go.OpenSpec := { _root_.Go.OpenSpec.ofChange s with cond := some uptoSmall }

/-- 'foliotlaw14.ClusterShifted', WHERE WHAT IT READS IS OF BULK AT MOST 1048576: true; the input reads as it did. -/
def clusterShiftedUptoRow : OpenClaim := { program := "ytigcmpmpjmbfkaa", sum := "5e02b49457467260981bda92c884d51d5cda1f34ca2a90429cdf85f9a4884267", func := "foliot/foliotlaw14.ClusterShifted", spec := "clusterShifted", inPlace := ["math/bits.Add64"], named := ["math/bits.divideError", "math/bits.overflowError"], apart := false, narrowed := true }
def ClusterShiftedUptoSaid : Prop := clusterShiftedUptoRow.holds Try.pinned (OpenSpec.upto clusterShiftedSpec)

/-- 'foliotlaw14.ClusterKeeps', WHERE WHAT IT READS IS OF BULK AT MOST 1048576: true; the input reads as it did. -/
def clusterKeepsUptoRow : OpenClaim := { program := "ytigcmpmpjmbfkaa", sum := "5e02b49457467260981bda92c884d51d5cda1f34ca2a90429cdf85f9a4884267", func := "foliot/foliotlaw14.ClusterKeeps", spec := "clusterKeeps", inPlace := ["math/bits.Add64"], unfollowed := true, recurses := true, named := ["math/bits.divideError", "math/bits.overflowError"], apart := false, narrowed := true }
def ClusterKeepsUptoSaid : Prop := clusterKeepsUptoRow.holds Try.pinned (OpenSpec.upto clusterKeepsSpec)

/-- 'foliotlaw14.ClusterTurned', WHERE WHAT IT READS IS OF BULK AT MOST 1048576: true; the input reads as it did. -/
def clusterTurnedUptoRow : OpenClaim := { program := "ytigcmpmpjmbfkaa", sum := "5e02b49457467260981bda92c884d51d5cda1f34ca2a90429cdf85f9a4884267", func := "foliot/foliotlaw14.ClusterTurned", spec := "clusterTurned", inPlace := ["math/bits.Add64"], unfollowed := true, recurses := true, named := ["math/bits.divideError", "math/bits.overflowError"], apart := false, narrowed := true }
def ClusterTurnedUptoSaid : Prop := clusterTurnedUptoRow.holds Try.pinned (OpenSpec.upto clusterTurnedSpec)

/-- 'foliotlaw14.ClusterBetween', WHERE WHAT IT READS IS OF BULK AT MOST 1048576: true; the input reads as it did. -/
def clusterBetweenUptoRow : OpenClaim := { program := "ytigcmpmpjmbfkaa", sum := "5e02b49457467260981bda92c884d51d5cda1f34ca2a90429cdf85f9a4884267", func := "foliot/foliotlaw14.ClusterBetween", spec := "clusterBetween", inPlace := ["math/bits.Add64"], unfollowed := true, recurses := true, named := ["math/bits.divideError", "math/bits.overflowError"], apart := false, narrowed := true }
def ClusterBetweenUptoSaid : Prop := clusterBetweenUptoRow.holds Try.pinned (OpenSpec.upto clusterBetweenSpec)

/-- 'foliotlaw14.ClusterPeers', WHERE WHAT IT READS IS OF BULK AT MOST 1048576: true; the input reads as it did. -/
def clusterPeersUptoRow : OpenClaim := { program := "ytigcmpmpjmbfkaa", sum := "5e02b49457467260981bda92c884d51d5cda1f34ca2a90429cdf85f9a4884267", func := "foliot/foliotlaw14.ClusterPeers", spec := "clusterPeers", inPlace := ["math/bits.Add64"], unfollowed := true, recurses := true, named := ["math/bits.divideError", "math/bits.overflowError"], apart := false, narrowed := true }
def ClusterPeersUptoSaid : Prop := clusterPeersUptoRow.holds Try.pinned (OpenSpec.upto clusterPeersSpec)

/-- 'foliotlaw14.ClusterChecks', WHERE WHAT IT READS IS OF BULK AT MOST 1048576: true; the input reads as it did. -/
def clusterChecksUptoRow : OpenClaim := { program := "ytigcmpmpjmbfkaa", sum := "5e02b49457467260981bda92c884d51d5cda1f34ca2a90429cdf85f9a4884267", func := "foliot/foliotlaw14.ClusterChecks", spec := "clusterChecks", inPlace := ["math/bits.Add64"], unfollowed := true, recurses := true, named := ["math/bits.divideError", "math/bits.overflowError"], apart := false, narrowed := true }
def ClusterChecksUptoSaid : Prop := clusterChecksUptoRow.holds Try.pinned (OpenSpec.upto clusterChecksSpec)

end Rows
end Go.Proofs.Ytigcmpmpjmbfkaa
