/-
  No cell of these rows narrows 'for every input' (looked for: loops, veiled, ifaces, maps, wideKeys, modest, calm, conditions, laid).
  DERIVED. THE GIVEN ROWS OF THIS SEAT. 6 by the template 'for every input the law returns true; each argument reads behind the call as it read before'; 0 by the template 'total and deterministic' (their statements: YtgbffggaifnalaaTotals.lean).
  GIVEN WITH THE SEED: the statements are not yours to turn. If you find one false, say at which input.
  Laid BY PROGRAM, IN A SANDBOX (cutbox-rows.mjs): the forced cells as the released guide's own fill.sh prints them over the translation 594d0e6d20f82b6b… (all of the seat's roots in one cut). By AI agents, Wed Nov 11 2026. No macro, syntax, notation, axiom, sorry.
-/
import Derived.Test.YtgbffggaifnalaaChecked
import GoSem.Claim
import GoSem.ClaimJoined
import GoSem.ClaimMapViews
import Derived.JoinedTies
import Derived.KernelRfl
namespace Go.Proofs.Ytgbffggaifnalaa
/- THE CELL 'sum', in the pinned program and in every row, IS THE sha256 OF THE DUMP (.gsa) THAT YtgbffggaifnalaaProg.lean LOADS. Nothing in Lean hashes anything: it is a label: what it is worth is what the hold of that sum in a sandbox is worth. -/
noncomputable def Try.pinned : Pinned := { name := "ytgbffggaifnalaa", sum := "594d0e6d20f82b6b6c54d6ad083a8e3a7ad4cf7caac018305bd2c3f79fcd8375", checked := Try.checked }
namespace Rows
def none {H : Type} : Left H := { results := [], args := [] }

/-- 'foliotlaw10.PeerShifted': WHATEVER THE INPUT: true; the input reads as it did. -/
def peerShiftedSpec : ChangeSpec := { name := "peerShifted", fn := fun _ => fun
  | [d1, d2] => { results := [.lit (.bool true)], args := [d1, d2] }
  | _ => none }
def peerShiftedRow : OpenClaim := { program := "ytgbffggaifnalaa", sum := "594d0e6d20f82b6b6c54d6ad083a8e3a7ad4cf7caac018305bd2c3f79fcd8375", func := "foliot/foliotlaw10.PeerShifted", spec := "peerShifted", inPlace := ["math/bits.Add64"], named := ["math/bits.divideError", "math/bits.overflowError"], apart := false }
def PeerShiftedSaid : Prop := peerShiftedRow.holds Try.pinned (OpenSpec.ofChange peerShiftedSpec)

/-- ITS FALSE NEIGHBOUR: 'it returns false'. Refute it at one input. -/
def peerShiftedWrong : ChangeSpec := { name := "peerShifted", fn := fun _ => fun
  | [d1, d2] => { results := [.lit (.bool false)], args := [d1, d2] }
  | _ => none }
def PeerShiftedWrongFalsely : Prop := peerShiftedRow.holds Try.pinned (OpenSpec.ofChange peerShiftedWrong)

/-- 'foliotlaw10.PeerTruth': WHATEVER THE INPUT: true; the input reads as it did. -/
def peerTruthSpec : ChangeSpec := { name := "peerTruth", fn := fun _ => fun
  | [d1, d2, d3, d4, d5] => { results := [.lit (.bool true)], args := [d1, d2, d3, d4, d5] }
  | _ => none }
def peerTruthRow : OpenClaim := { program := "ytgbffggaifnalaa", sum := "594d0e6d20f82b6b6c54d6ad083a8e3a7ad4cf7caac018305bd2c3f79fcd8375", func := "foliot/foliotlaw10.PeerTruth", spec := "peerTruth", inPlace := ["math/bits.Add64"], named := ["math/bits.divideError", "math/bits.overflowError"], apart := false }
def PeerTruthSaid : Prop := peerTruthRow.holds Try.pinned (OpenSpec.ofChange peerTruthSpec)

/-- ITS FALSE NEIGHBOUR: 'it returns false'. Refute it at one input. -/
def peerTruthWrong : ChangeSpec := { name := "peerTruth", fn := fun _ => fun
  | [d1, d2, d3, d4, d5] => { results := [.lit (.bool false)], args := [d1, d2, d3, d4, d5] }
  | _ => none }
def PeerTruthWrongFalsely : Prop := peerTruthRow.holds Try.pinned (OpenSpec.ofChange peerTruthWrong)

/-- 'foliotlaw10.PeerScript': WHATEVER THE INPUT: true; the input reads as it did. -/
def peerScriptSpec : ChangeSpec := { name := "peerScript", fn := fun _ => fun
  | [d1, d2, d3] => { results := [.lit (.bool true)], args := [d1, d2, d3] }
  | _ => none }
def peerScriptRow : OpenClaim := { program := "ytgbffggaifnalaa", sum := "594d0e6d20f82b6b6c54d6ad083a8e3a7ad4cf7caac018305bd2c3f79fcd8375", func := "foliot/foliotlaw10.PeerScript", spec := "peerScript", inPlace := ["math/bits.Add64"], named := ["math/bits.divideError", "math/bits.overflowError"], apart := false }
def PeerScriptSaid : Prop := peerScriptRow.holds Try.pinned (OpenSpec.ofChange peerScriptSpec)

/-- ITS FALSE NEIGHBOUR: 'it returns false'. Refute it at one input. -/
def peerScriptWrong : ChangeSpec := { name := "peerScript", fn := fun _ => fun
  | [d1, d2, d3] => { results := [.lit (.bool false)], args := [d1, d2, d3] }
  | _ => none }
def PeerScriptWrongFalsely : Prop := peerScriptRow.holds Try.pinned (OpenSpec.ofChange peerScriptWrong)

/-- 'foliotlaw10.PeerForged': WHATEVER THE INPUT: true; the input reads as it did. -/
def peerForgedSpec : ChangeSpec := { name := "peerForged", fn := fun _ => fun
  | [d1, d2, d3, d4] => { results := [.lit (.bool true)], args := [d1, d2, d3, d4] }
  | _ => none }
def peerForgedRow : OpenClaim := { program := "ytgbffggaifnalaa", sum := "594d0e6d20f82b6b6c54d6ad083a8e3a7ad4cf7caac018305bd2c3f79fcd8375", func := "foliot/foliotlaw10.PeerForged", spec := "peerForged", inPlace := ["math/bits.Add64"], named := ["math/bits.divideError", "math/bits.overflowError"], apart := false }
def PeerForgedSaid : Prop := peerForgedRow.holds Try.pinned (OpenSpec.ofChange peerForgedSpec)

/-- ITS FALSE NEIGHBOUR: 'it returns false'. Refute it at one input. -/
def peerForgedWrong : ChangeSpec := { name := "peerForged", fn := fun _ => fun
  | [d1, d2, d3, d4] => { results := [.lit (.bool false)], args := [d1, d2, d3, d4] }
  | _ => none }
def PeerForgedWrongFalsely : Prop := peerForgedRow.holds Try.pinned (OpenSpec.ofChange peerForgedWrong)

/-- 'foliotlaw10.PeerReplayed': WHATEVER THE INPUT: true; the input reads as it did. -/
def peerReplayedSpec : ChangeSpec := { name := "peerReplayed", fn := fun _ => fun
  | [d1, d2, d3, d4] => { results := [.lit (.bool true)], args := [d1, d2, d3, d4] }
  | _ => none }
def peerReplayedRow : OpenClaim := { program := "ytgbffggaifnalaa", sum := "594d0e6d20f82b6b6c54d6ad083a8e3a7ad4cf7caac018305bd2c3f79fcd8375", func := "foliot/foliotlaw10.PeerReplayed", spec := "peerReplayed", inPlace := ["math/bits.Add64"], named := ["math/bits.divideError", "math/bits.overflowError"], apart := false }
def PeerReplayedSaid : Prop := peerReplayedRow.holds Try.pinned (OpenSpec.ofChange peerReplayedSpec)

/-- ITS FALSE NEIGHBOUR: 'it returns false'. Refute it at one input. -/
def peerReplayedWrong : ChangeSpec := { name := "peerReplayed", fn := fun _ => fun
  | [d1, d2, d3, d4] => { results := [.lit (.bool false)], args := [d1, d2, d3, d4] }
  | _ => none }
def PeerReplayedWrongFalsely : Prop := peerReplayedRow.holds Try.pinned (OpenSpec.ofChange peerReplayedWrong)

/-- 'foliotlaw10.PeerReckons': WHATEVER THE INPUT: true; the input reads as it did. -/
def peerReckonsSpec : ChangeSpec := { name := "peerReckons", fn := fun _ => fun
  | [d1, d2, d3, d4, d5, d6, d7] => { results := [.lit (.bool true)], args := [d1, d2, d3, d4, d5, d6, d7] }
  | _ => none }
def peerReckonsRow : OpenClaim := { program := "ytgbffggaifnalaa", sum := "594d0e6d20f82b6b6c54d6ad083a8e3a7ad4cf7caac018305bd2c3f79fcd8375", func := "foliot/foliotlaw10.PeerReckons", spec := "peerReckons", inPlace := ["math/bits.Add64"], named := ["math/bits.divideError", "math/bits.overflowError"], apart := false }
def PeerReckonsSaid : Prop := peerReckonsRow.holds Try.pinned (OpenSpec.ofChange peerReckonsSpec)

/-- ITS FALSE NEIGHBOUR: 'it returns false'. Refute it at one input. -/
def peerReckonsWrong : ChangeSpec := { name := "peerReckons", fn := fun _ => fun
  | [d1, d2, d3, d4, d5, d6, d7] => { results := [.lit (.bool false)], args := [d1, d2, d3, d4, d5, d6, d7] }
  | _ => none }
def PeerReckonsWrongFalsely : Prop := peerReckonsRow.holds Try.pinned (OpenSpec.ofChange peerReckonsWrong)

/- THE SECOND FORM. 'bulk': how many values and letters a reading holds, each counted each time it is reached (what is shared counts as often as it is met; a slice's spare places count too). A statement '..UptoSaid' is the law's where the arguments, and the package variables that the reading takes, are together of bulk at most 1048576: NARROWER than '..Said'. Prove '..Said' where nothing that the law and all that it calls make is longer than what came in: it says more and counts as full. Else prove '..UptoSaid'. A law counts once. -/
mutual
def uptoBulk {H : Type} : DataW H → Nat
  | .lit (.string bytes) => bytes.length + 1
  | .lit _ => 1
  | .nil => 1
  | .ptr d => uptoBulk d + 1
  | .slice elems spare => uptoBulkAll elems + uptoBulkAll spare + 1
  | .agg parts => uptoBulkAll parts + 1
  | .iface _ d => uptoBulk d + 1
  | .map entries => uptoBulkEntries entries + 1
  | .held _ => 1
def uptoBulkAll {H : Type} : List (DataW H) → Nat
  | [] => 0
  | d :: r => uptoBulk d + uptoBulkAll r
def uptoBulkEntries {H : Type} : List (Lit × DataW H) → Nat
  | [] => 0
  | x :: r => uptoBulkEntry x + uptoBulkEntries r
def uptoBulkEntry {H : Type} : Lit × DataW H → Nat
  | (.string bytes, d) => bytes.length + uptoBulk d + 1
  | (_, d) => uptoBulk d + 1
 end
def uptoSmall : (H : Type) → List (DataW H) → Bool := fun _ ds => decide (uptoBulkAll ds ≤ 1048576)
def OpenSpec.upto (s : _root_.Go.ChangeSpec) : _root_.Go.OpenSpec := { _root_.Go.OpenSpec.ofChange s with cond := some uptoSmall }

/-- 'foliotlaw10.PeerShifted', WHERE WHAT IT READS IS OF BULK AT MOST 1048576: true; the input reads as it did. -/
def peerShiftedUptoRow : OpenClaim := { program := "ytgbffggaifnalaa", sum := "594d0e6d20f82b6b6c54d6ad083a8e3a7ad4cf7caac018305bd2c3f79fcd8375", func := "foliot/foliotlaw10.PeerShifted", spec := "peerShifted", inPlace := ["math/bits.Add64"], named := ["math/bits.divideError", "math/bits.overflowError"], apart := false, narrowed := true }
def PeerShiftedUptoSaid : Prop := peerShiftedUptoRow.holds Try.pinned (OpenSpec.upto peerShiftedSpec)

/-- 'foliotlaw10.PeerTruth', WHERE WHAT IT READS IS OF BULK AT MOST 1048576: true; the input reads as it did. -/
def peerTruthUptoRow : OpenClaim := { program := "ytgbffggaifnalaa", sum := "594d0e6d20f82b6b6c54d6ad083a8e3a7ad4cf7caac018305bd2c3f79fcd8375", func := "foliot/foliotlaw10.PeerTruth", spec := "peerTruth", inPlace := ["math/bits.Add64"], named := ["math/bits.divideError", "math/bits.overflowError"], apart := false, narrowed := true }
def PeerTruthUptoSaid : Prop := peerTruthUptoRow.holds Try.pinned (OpenSpec.upto peerTruthSpec)

/-- 'foliotlaw10.PeerScript', WHERE WHAT IT READS IS OF BULK AT MOST 1048576: true; the input reads as it did. -/
def peerScriptUptoRow : OpenClaim := { program := "ytgbffggaifnalaa", sum := "594d0e6d20f82b6b6c54d6ad083a8e3a7ad4cf7caac018305bd2c3f79fcd8375", func := "foliot/foliotlaw10.PeerScript", spec := "peerScript", inPlace := ["math/bits.Add64"], named := ["math/bits.divideError", "math/bits.overflowError"], apart := false, narrowed := true }
def PeerScriptUptoSaid : Prop := peerScriptUptoRow.holds Try.pinned (OpenSpec.upto peerScriptSpec)

/-- 'foliotlaw10.PeerForged', WHERE WHAT IT READS IS OF BULK AT MOST 1048576: true; the input reads as it did. -/
def peerForgedUptoRow : OpenClaim := { program := "ytgbffggaifnalaa", sum := "594d0e6d20f82b6b6c54d6ad083a8e3a7ad4cf7caac018305bd2c3f79fcd8375", func := "foliot/foliotlaw10.PeerForged", spec := "peerForged", inPlace := ["math/bits.Add64"], named := ["math/bits.divideError", "math/bits.overflowError"], apart := false, narrowed := true }
def PeerForgedUptoSaid : Prop := peerForgedUptoRow.holds Try.pinned (OpenSpec.upto peerForgedSpec)

/-- 'foliotlaw10.PeerReplayed', WHERE WHAT IT READS IS OF BULK AT MOST 1048576: true; the input reads as it did. -/
def peerReplayedUptoRow : OpenClaim := { program := "ytgbffggaifnalaa", sum := "594d0e6d20f82b6b6c54d6ad083a8e3a7ad4cf7caac018305bd2c3f79fcd8375", func := "foliot/foliotlaw10.PeerReplayed", spec := "peerReplayed", inPlace := ["math/bits.Add64"], named := ["math/bits.divideError", "math/bits.overflowError"], apart := false, narrowed := true }
def PeerReplayedUptoSaid : Prop := peerReplayedUptoRow.holds Try.pinned (OpenSpec.upto peerReplayedSpec)

/-- 'foliotlaw10.PeerReckons', WHERE WHAT IT READS IS OF BULK AT MOST 1048576: true; the input reads as it did. -/
def peerReckonsUptoRow : OpenClaim := { program := "ytgbffggaifnalaa", sum := "594d0e6d20f82b6b6c54d6ad083a8e3a7ad4cf7caac018305bd2c3f79fcd8375", func := "foliot/foliotlaw10.PeerReckons", spec := "peerReckons", inPlace := ["math/bits.Add64"], named := ["math/bits.divideError", "math/bits.overflowError"], apart := false, narrowed := true }
def PeerReckonsUptoSaid : Prop := peerReckonsUptoRow.holds Try.pinned (OpenSpec.upto peerReckonsSpec)

end Rows
end Go.Proofs.Ytgbffggaifnalaa
