/-
  No cell of these rows narrows 'for every input' (looked for: loops, veiled, ifaces, maps, wideKeys, modest, calm, conditions, laid).
  DERIVED. THE GIVEN ROWS OF THIS SEAT. 5 by the template 'for every input the law returns true; each argument reads behind the call as it read before'; 0 by the template 'total and deterministic' (their statements: YtbcdoncnhhjjeaaTotals.lean).
  GIVEN WITH THE SEED: the statements are not yours to turn. If you find one false, say at which input.
  Laid BY PROGRAM, IN A SANDBOX (cutbox-rows.mjs): the forced cells as the released guide's own fill.sh prints them over the translation 34da23bbbb7ea4b0… (all of the seat's roots in one cut). By AI agents, Wed Nov 11 2026. No macro, syntax, notation, axiom, sorry.
-/
import Derived.Test.YtbcdoncnhhjjeaaChecked
import GoSem.Claim
import GoSem.ClaimJoined
import GoSem.ClaimMapViews
import Derived.JoinedTies
import Derived.KernelRfl
namespace Go.Proofs.Ytbcdoncnhhjjeaa
/- THE CELL 'sum', in the pinned program and in every row, IS THE sha256 OF THE DUMP (.gsa) THAT YtbcdoncnhhjjeaaProg.lean LOADS. Nothing in Lean hashes anything: it is a label: what it is worth is what the hold of that sum in a sandbox is worth. -/
noncomputable def Try.pinned : Pinned := { name := "ytbcdoncnhhjjeaa", sum := "34da23bbbb7ea4b0a94c84b1cc9f5b8962503037e2a785c7b1887e4a0e088256", checked := Try.checked }
namespace Rows
def none {H : Type} : Left H := { results := [], args := [] }

/-- 'foliotlaw17.SystemFollows': WHATEVER THE INPUT: true; the input reads as it did. -/
def systemFollowsSpec : ChangeSpec := { name := "systemFollows", fn := fun _ => fun
  | [d1, d2, d3, d4, d5, d6] => { results := [.lit (.bool true)], args := [d1, d2, d3, d4, d5, d6] }
  | _ => none }
def systemFollowsRow : OpenClaim := { program := "ytbcdoncnhhjjeaa", sum := "34da23bbbb7ea4b0a94c84b1cc9f5b8962503037e2a785c7b1887e4a0e088256", func := "foliot/foliotlaw17.SystemFollows", spec := "systemFollows", inPlace := ["math/bits.Add64"], apart := false }
def SystemFollowsSaid : Prop := systemFollowsRow.holds Try.pinned (OpenSpec.ofChange systemFollowsSpec)

/-- ITS FALSE NEIGHBOUR: 'it returns false'. Refute it at one input. -/
def systemFollowsWrong : ChangeSpec := { name := "systemFollows", fn := fun _ => fun
  | [d1, d2, d3, d4, d5, d6] => { results := [.lit (.bool false)], args := [d1, d2, d3, d4, d5, d6] }
  | _ => none }
def SystemFollowsWrongFalsely : Prop := systemFollowsRow.holds Try.pinned (OpenSpec.ofChange systemFollowsWrong)

/-- 'foliotlaw17.SystemAges': WHATEVER THE INPUT: true; the input reads as it did. -/
def systemAgesSpec : ChangeSpec := { name := "systemAges", fn := fun _ => fun
  | [d1, d2, d3] => { results := [.lit (.bool true)], args := [d1, d2, d3] }
  | _ => none }
def systemAgesRow : OpenClaim := { program := "ytbcdoncnhhjjeaa", sum := "34da23bbbb7ea4b0a94c84b1cc9f5b8962503037e2a785c7b1887e4a0e088256", func := "foliot/foliotlaw17.SystemAges", spec := "systemAges", inPlace := ["math/bits.Add64"], named := ["math/bits.divideError", "math/bits.overflowError"], apart := false }
def SystemAgesSaid : Prop := systemAgesRow.holds Try.pinned (OpenSpec.ofChange systemAgesSpec)

/-- ITS FALSE NEIGHBOUR: 'it returns false'. Refute it at one input. -/
def systemAgesWrong : ChangeSpec := { name := "systemAges", fn := fun _ => fun
  | [d1, d2, d3] => { results := [.lit (.bool false)], args := [d1, d2, d3] }
  | _ => none }
def SystemAgesWrongFalsely : Prop := systemAgesRow.holds Try.pinned (OpenSpec.ofChange systemAgesWrong)

/-- 'foliotlaw17.SystemDistance': WHATEVER THE INPUT: true; the input reads as it did. -/
def systemDistanceSpec : ChangeSpec := { name := "systemDistance", fn := fun _ => fun
  | [d1, d2, d3, d4] => { results := [.lit (.bool true)], args := [d1, d2, d3, d4] }
  | _ => none }
def systemDistanceRow : OpenClaim := { program := "ytbcdoncnhhjjeaa", sum := "34da23bbbb7ea4b0a94c84b1cc9f5b8962503037e2a785c7b1887e4a0e088256", func := "foliot/foliotlaw17.SystemDistance", spec := "systemDistance", inPlace := ["math/bits.Add64"], named := ["math/bits.divideError", "math/bits.overflowError"], apart := false }
def SystemDistanceSaid : Prop := systemDistanceRow.holds Try.pinned (OpenSpec.ofChange systemDistanceSpec)

/-- ITS FALSE NEIGHBOUR: 'it returns false'. Refute it at one input. -/
def systemDistanceWrong : ChangeSpec := { name := "systemDistance", fn := fun _ => fun
  | [d1, d2, d3, d4] => { results := [.lit (.bool false)], args := [d1, d2, d3, d4] }
  | _ => none }
def SystemDistanceWrongFalsely : Prop := systemDistanceRow.holds Try.pinned (OpenSpec.ofChange systemDistanceWrong)

/-- 'foliotlaw17.SystemLost': WHATEVER THE INPUT: true; the input reads as it did. -/
def systemLostSpec : ChangeSpec := { name := "systemLost", fn := fun _ => fun
  | [d1, d2, d3, d4] => { results := [.lit (.bool true)], args := [d1, d2, d3, d4] }
  | _ => none }
def systemLostRow : OpenClaim := { program := "ytbcdoncnhhjjeaa", sum := "34da23bbbb7ea4b0a94c84b1cc9f5b8962503037e2a785c7b1887e4a0e088256", func := "foliot/foliotlaw17.SystemLost", spec := "systemLost", inPlace := ["math/bits.Add64"], named := ["math/bits.divideError", "math/bits.overflowError"], apart := false }
def SystemLostSaid : Prop := systemLostRow.holds Try.pinned (OpenSpec.ofChange systemLostSpec)

/-- ITS FALSE NEIGHBOUR: 'it returns false'. Refute it at one input. -/
def systemLostWrong : ChangeSpec := { name := "systemLost", fn := fun _ => fun
  | [d1, d2, d3, d4] => { results := [.lit (.bool false)], args := [d1, d2, d3, d4] }
  | _ => none }
def SystemLostWrongFalsely : Prop := systemLostRow.holds Try.pinned (OpenSpec.ofChange systemLostWrong)

/-- 'foliotlaw17.SystemReplies': WHATEVER THE INPUT: true; the input reads as it did. -/
def systemRepliesSpec : ChangeSpec := { name := "systemReplies", fn := fun _ => fun
  | [d1, d2, d3, d4] => { results := [.lit (.bool true)], args := [d1, d2, d3, d4] }
  | _ => none }
def systemRepliesRow : OpenClaim := { program := "ytbcdoncnhhjjeaa", sum := "34da23bbbb7ea4b0a94c84b1cc9f5b8962503037e2a785c7b1887e4a0e088256", func := "foliot/foliotlaw17.SystemReplies", spec := "systemReplies", inPlace := ["math/bits.Add64"], named := ["math/bits.divideError", "math/bits.overflowError"], apart := false }
def SystemRepliesSaid : Prop := systemRepliesRow.holds Try.pinned (OpenSpec.ofChange systemRepliesSpec)

/-- ITS FALSE NEIGHBOUR: 'it returns false'. Refute it at one input. -/
def systemRepliesWrong : ChangeSpec := { name := "systemReplies", fn := fun _ => fun
  | [d1, d2, d3, d4] => { results := [.lit (.bool false)], args := [d1, d2, d3, d4] }
  | _ => none }
def SystemRepliesWrongFalsely : Prop := systemRepliesRow.holds Try.pinned (OpenSpec.ofChange systemRepliesWrong)

/- THE SECOND FORM. 'bulk': how many values and letters a reading holds, each counted each time it is reached (what is shared counts as often as it is met; a slice's spare places count too). A statement '..UptoSaid' is the law's where the arguments, and the package variables that the reading takes, are together of bulk at most 1048576: NARROWER than '..Said'. Prove '..Said' where nothing that the law and all that it calls make is longer than what came in: it says more and counts as full. Else prove '..UptoSaid'. A law counts once. -/
mutual
def uptoBulk {H : Type} : DataW H → Nat
  | .lit (.string bytes) => bytes.length + 1
  | .lit _ => 1
  | .nil => 1
  | .ptr d => uptoBulk d + 1
  | .slice elems spare => uptoBulkAll elems + uptoBulkAll spare + 1
  | .agg parts => uptoBulkAll parts + 1
  | .iface _ d => uptoBulk d + 1
  | .map entries => uptoBulkEntries entries + 1
  | .held _ => 1
def uptoBulkAll {H : Type} : List (DataW H) → Nat
  | [] => 0
  | d :: r => uptoBulk d + uptoBulkAll r
def uptoBulkEntries {H : Type} : List (Lit × DataW H) → Nat
  | [] => 0
  | x :: r => uptoBulkEntry x + uptoBulkEntries r
def uptoBulkEntry {H : Type} : Lit × DataW H → Nat
  | (.string bytes, d) => bytes.length + uptoBulk d + 1
  | (_, d) => uptoBulk d + 1
 end
def uptoSmall : (H : Type) → List (DataW H) → Bool := fun _ ds => decide (uptoBulkAll ds ≤ 1048576)
def OpenSpec.upto (s : _root_.Go.ChangeSpec) : _root_.Go.OpenSpec := { _root_.Go.OpenSpec.ofChange s with cond := some uptoSmall }

/-- 'foliotlaw17.SystemFollows', WHERE WHAT IT READS IS OF BULK AT MOST 1048576: true; the input reads as it did. -/
def systemFollowsUptoRow : OpenClaim := { program := "ytbcdoncnhhjjeaa", sum := "34da23bbbb7ea4b0a94c84b1cc9f5b8962503037e2a785c7b1887e4a0e088256", func := "foliot/foliotlaw17.SystemFollows", spec := "systemFollows", inPlace := ["math/bits.Add64"], apart := false, narrowed := true }
def SystemFollowsUptoSaid : Prop := systemFollowsUptoRow.holds Try.pinned (OpenSpec.upto systemFollowsSpec)

/-- 'foliotlaw17.SystemAges', WHERE WHAT IT READS IS OF BULK AT MOST 1048576: true; the input reads as it did. -/
def systemAgesUptoRow : OpenClaim := { program := "ytbcdoncnhhjjeaa", sum := "34da23bbbb7ea4b0a94c84b1cc9f5b8962503037e2a785c7b1887e4a0e088256", func := "foliot/foliotlaw17.SystemAges", spec := "systemAges", inPlace := ["math/bits.Add64"], named := ["math/bits.divideError", "math/bits.overflowError"], apart := false, narrowed := true }
def SystemAgesUptoSaid : Prop := systemAgesUptoRow.holds Try.pinned (OpenSpec.upto systemAgesSpec)

/-- 'foliotlaw17.SystemDistance', WHERE WHAT IT READS IS OF BULK AT MOST 1048576: true; the input reads as it did. -/
def systemDistanceUptoRow : OpenClaim := { program := "ytbcdoncnhhjjeaa", sum := "34da23bbbb7ea4b0a94c84b1cc9f5b8962503037e2a785c7b1887e4a0e088256", func := "foliot/foliotlaw17.SystemDistance", spec := "systemDistance", inPlace := ["math/bits.Add64"], named := ["math/bits.divideError", "math/bits.overflowError"], apart := false, narrowed := true }
def SystemDistanceUptoSaid : Prop := systemDistanceUptoRow.holds Try.pinned (OpenSpec.upto systemDistanceSpec)

/-- 'foliotlaw17.SystemLost', WHERE WHAT IT READS IS OF BULK AT MOST 1048576: true; the input reads as it did. -/
def systemLostUptoRow : OpenClaim := { program := "ytbcdoncnhhjjeaa", sum := "34da23bbbb7ea4b0a94c84b1cc9f5b8962503037e2a785c7b1887e4a0e088256", func := "foliot/foliotlaw17.SystemLost", spec := "systemLost", inPlace := ["math/bits.Add64"], named := ["math/bits.divideError", "math/bits.overflowError"], apart := false, narrowed := true }
def SystemLostUptoSaid : Prop := systemLostUptoRow.holds Try.pinned (OpenSpec.upto systemLostSpec)

/-- 'foliotlaw17.SystemReplies', WHERE WHAT IT READS IS OF BULK AT MOST 1048576: true; the input reads as it did. -/
def systemRepliesUptoRow : OpenClaim := { program := "ytbcdoncnhhjjeaa", sum := "34da23bbbb7ea4b0a94c84b1cc9f5b8962503037e2a785c7b1887e4a0e088256", func := "foliot/foliotlaw17.SystemReplies", spec := "systemReplies", inPlace := ["math/bits.Add64"], named := ["math/bits.divideError", "math/bits.overflowError"], apart := false, narrowed := true }
def SystemRepliesUptoSaid : Prop := systemRepliesUptoRow.holds Try.pinned (OpenSpec.upto systemRepliesSpec)

end Rows
end Go.Proofs.Ytbcdoncnhhjjeaa
