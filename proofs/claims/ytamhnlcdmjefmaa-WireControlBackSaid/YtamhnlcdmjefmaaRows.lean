/-
  No cell of these rows narrows 'for every input' (looked for: loops, veiled, ifaces, maps, wideKeys, modest, calm, conditions, laid).
  DERIVED. THE GIVEN ROWS OF THIS SEAT. 7 by the template 'for every input the law returns true; each argument reads behind the call as it read before'; 0 by the template 'total and deterministic' (their statements: YtamhnlcdmjefmaaTotals.lean).
  GIVEN WITH THE SEED: the statements are not yours to turn. If you find one false, say at which input.
  Laid BY PROGRAM, IN A SANDBOX (cutbox-rows.mjs): the forced cells as the released guide's own fill.sh prints them over the translation 2a1029efc5fbcab4… (all of the seat's roots in one cut). By AI agents, Wed Nov 11 2026. No macro, syntax, notation, axiom, sorry.
-/
import Derived.Test.YtamhnlcdmjefmaaChecked
import GoSem.Claim
import GoSem.ClaimJoined
import GoSem.ClaimMapViews
import Derived.JoinedTies
import Derived.KernelRfl
namespace Go.Proofs.Ytamhnlcdmjefmaa
/- THE CELL 'sum', in the pinned program and in every row, IS THE sha256 OF THE DUMP (.gsa) THAT YtamhnlcdmjefmaaProg.lean LOADS. Nothing in Lean hashes anything: it is a label: what it is worth is what the hold of that sum in a sandbox is worth. -/
noncomputable def Try.pinned : Pinned := { name := "ytamhnlcdmjefmaa", sum := "2a1029efc5fbcab44b082bad3835ebf9fb6511761e15a2aa5e81fe418a60168d", checked := Try.checked }
namespace Rows
def none {H : Type} : Left H := { results := [], args := [] }

/-- 'foliotlaw03.WireEncodes': WHATEVER THE INPUT: true; the input reads as it did. -/
def wireEncodesSpec : ChangeSpec := { name := "wireEncodes", fn := fun _ => fun
  | [d] => { results := [.lit (.bool true)], args := [d] }
  | _ => none }
def wireEncodesRow : OpenClaim := { program := "ytamhnlcdmjefmaa", sum := "2a1029efc5fbcab44b082bad3835ebf9fb6511761e15a2aa5e81fe418a60168d", func := "foliot/foliotlaw03.WireEncodes", spec := "wireEncodes", apart := false }
def WireEncodesSaid : Prop := wireEncodesRow.holds Try.pinned (OpenSpec.ofChange wireEncodesSpec)

/-- ITS FALSE NEIGHBOUR: 'it returns false'. Refute it at one input. -/
def wireEncodesWrong : ChangeSpec := { name := "wireEncodes", fn := fun _ => fun
  | [d] => { results := [.lit (.bool false)], args := [d] }
  | _ => none }
def WireEncodesWrongFalsely : Prop := wireEncodesRow.holds Try.pinned (OpenSpec.ofChange wireEncodesWrong)

/-- 'foliotlaw03.WireDecodes': WHATEVER THE INPUT: true; the input reads as it did. -/
def wireDecodesSpec : ChangeSpec := { name := "wireDecodes", fn := fun _ => fun
  | [d] => { results := [.lit (.bool true)], args := [d] }
  | _ => none }
def wireDecodesRow : OpenClaim := { program := "ytamhnlcdmjefmaa", sum := "2a1029efc5fbcab44b082bad3835ebf9fb6511761e15a2aa5e81fe418a60168d", func := "foliot/foliotlaw03.WireDecodes", spec := "wireDecodes", apart := false }
def WireDecodesSaid : Prop := wireDecodesRow.holds Try.pinned (OpenSpec.ofChange wireDecodesSpec)

/-- ITS FALSE NEIGHBOUR: 'it returns false'. Refute it at one input. -/
def wireDecodesWrong : ChangeSpec := { name := "wireDecodes", fn := fun _ => fun
  | [d] => { results := [.lit (.bool false)], args := [d] }
  | _ => none }
def WireDecodesWrongFalsely : Prop := wireDecodesRow.holds Try.pinned (OpenSpec.ofChange wireDecodesWrong)

/-- 'foliotlaw03.WireParts': WHATEVER THE INPUT: true; the input reads as it did. -/
def wirePartsSpec : ChangeSpec := { name := "wireParts", fn := fun _ => fun
  | [d] => { results := [.lit (.bool true)], args := [d] }
  | _ => none }
def wirePartsRow : OpenClaim := { program := "ytamhnlcdmjefmaa", sum := "2a1029efc5fbcab44b082bad3835ebf9fb6511761e15a2aa5e81fe418a60168d", func := "foliot/foliotlaw03.WireParts", spec := "wireParts", apart := false }
def WirePartsSaid : Prop := wirePartsRow.holds Try.pinned (OpenSpec.ofChange wirePartsSpec)

/-- ITS FALSE NEIGHBOUR: 'it returns false'. Refute it at one input. -/
def wirePartsWrong : ChangeSpec := { name := "wireParts", fn := fun _ => fun
  | [d] => { results := [.lit (.bool false)], args := [d] }
  | _ => none }
def WirePartsWrongFalsely : Prop := wirePartsRow.holds Try.pinned (OpenSpec.ofChange wirePartsWrong)

/-- 'foliotlaw03.WireControls': WHATEVER THE INPUT: true; the input reads as it did. -/
def wireControlsSpec : ChangeSpec := { name := "wireControls", fn := fun _ => fun
  | [d1, d2] => { results := [.lit (.bool true)], args := [d1, d2] }
  | _ => none }
def wireControlsRow : OpenClaim := { program := "ytamhnlcdmjefmaa", sum := "2a1029efc5fbcab44b082bad3835ebf9fb6511761e15a2aa5e81fe418a60168d", func := "foliot/foliotlaw03.WireControls", spec := "wireControls", apart := false }
def WireControlsSaid : Prop := wireControlsRow.holds Try.pinned (OpenSpec.ofChange wireControlsSpec)

/-- ITS FALSE NEIGHBOUR: 'it returns false'. Refute it at one input. -/
def wireControlsWrong : ChangeSpec := { name := "wireControls", fn := fun _ => fun
  | [d1, d2] => { results := [.lit (.bool false)], args := [d1, d2] }
  | _ => none }
def WireControlsWrongFalsely : Prop := wireControlsRow.holds Try.pinned (OpenSpec.ofChange wireControlsWrong)

/-- 'foliotlaw03.WireControlBack': WHATEVER THE INPUT: true; the input reads as it did. -/
def wireControlBackSpec : ChangeSpec := { name := "wireControlBack", fn := fun _ => fun
  | [d1, d2] => { results := [.lit (.bool true)], args := [d1, d2] }
  | _ => none }
def wireControlBackRow : OpenClaim := { program := "ytamhnlcdmjefmaa", sum := "2a1029efc5fbcab44b082bad3835ebf9fb6511761e15a2aa5e81fe418a60168d", func := "foliot/foliotlaw03.WireControlBack", spec := "wireControlBack", apart := false }
def WireControlBackSaid : Prop := wireControlBackRow.holds Try.pinned (OpenSpec.ofChange wireControlBackSpec)

/-- ITS FALSE NEIGHBOUR: 'it returns false'. Refute it at one input. -/
def wireControlBackWrong : ChangeSpec := { name := "wireControlBack", fn := fun _ => fun
  | [d1, d2] => { results := [.lit (.bool false)], args := [d1, d2] }
  | _ => none }
def WireControlBackWrongFalsely : Prop := wireControlBackRow.holds Try.pinned (OpenSpec.ofChange wireControlBackWrong)

/-- 'foliotlaw03.WireBack': WHATEVER THE INPUT: true; the input reads as it did. -/
def wireBackSpec : ChangeSpec := { name := "wireBack", fn := fun _ => fun
  | [d1, d2] => { results := [.lit (.bool true)], args := [d1, d2] }
  | _ => none }
def wireBackRow : OpenClaim := { program := "ytamhnlcdmjefmaa", sum := "2a1029efc5fbcab44b082bad3835ebf9fb6511761e15a2aa5e81fe418a60168d", func := "foliot/foliotlaw03.WireBack", spec := "wireBack", apart := false }
def WireBackSaid : Prop := wireBackRow.holds Try.pinned (OpenSpec.ofChange wireBackSpec)

/-- ITS FALSE NEIGHBOUR: 'it returns false'. Refute it at one input. -/
def wireBackWrong : ChangeSpec := { name := "wireBack", fn := fun _ => fun
  | [d1, d2] => { results := [.lit (.bool false)], args := [d1, d2] }
  | _ => none }
def WireBackWrongFalsely : Prop := wireBackRow.holds Try.pinned (OpenSpec.ofChange wireBackWrong)

/-- 'foliotlaw03.WireOne': WHATEVER THE INPUT: true; the input reads as it did. -/
def wireOneSpec : ChangeSpec := { name := "wireOne", fn := fun _ => fun
  | [d] => { results := [.lit (.bool true)], args := [d] }
  | _ => none }
def wireOneRow : OpenClaim := { program := "ytamhnlcdmjefmaa", sum := "2a1029efc5fbcab44b082bad3835ebf9fb6511761e15a2aa5e81fe418a60168d", func := "foliot/foliotlaw03.WireOne", spec := "wireOne", apart := false }
def WireOneSaid : Prop := wireOneRow.holds Try.pinned (OpenSpec.ofChange wireOneSpec)

/-- ITS FALSE NEIGHBOUR: 'it returns false'. Refute it at one input. -/
def wireOneWrong : ChangeSpec := { name := "wireOne", fn := fun _ => fun
  | [d] => { results := [.lit (.bool false)], args := [d] }
  | _ => none }
def WireOneWrongFalsely : Prop := wireOneRow.holds Try.pinned (OpenSpec.ofChange wireOneWrong)

/- THE SECOND FORM. 'bulk': how many values and letters a reading holds, each counted each time it is reached (what is shared counts as often as it is met; a slice's spare places count too). A statement '..UptoSaid' is the law's where the arguments, and the package variables that the reading takes, are together of bulk at most 1048576: NARROWER than '..Said'. Prove '..Said' where nothing that the law and all that it calls make is longer than what came in: it says more and counts as full. Else prove '..UptoSaid'. A law counts once. -/
mutual
def uptoBulk {H : Type} : DataW H → Nat
  | .lit (.string bytes) => bytes.length + 1
  | .lit _ => 1
  | .nil => 1
  | .ptr d => uptoBulk d + 1
  | .slice elems spare => uptoBulkAll elems + uptoBulkAll spare + 1
  | .agg parts => uptoBulkAll parts + 1
  | .iface _ d => uptoBulk d + 1
  | .map entries => uptoBulkEntries entries + 1
  | .held _ => 1
def uptoBulkAll {H : Type} : List (DataW H) → Nat
  | [] => 0
  | d :: r => uptoBulk d + uptoBulkAll r
def uptoBulkEntries {H : Type} : List (Lit × DataW H) → Nat
  | [] => 0
  | x :: r => uptoBulkEntry x + uptoBulkEntries r
def uptoBulkEntry {H : Type} : Lit × DataW H → Nat
  | (.string bytes, d) => bytes.length + uptoBulk d + 1
  | (_, d) => uptoBulk d + 1
 end
def uptoSmall : (H : Type) → List (DataW H) → Bool := fun _ ds => decide (uptoBulkAll ds ≤ 1048576)
def OpenSpec.upto (s : _root_.Go.ChangeSpec) : _root_.Go.OpenSpec := { _root_.Go.OpenSpec.ofChange s with cond := some uptoSmall }

/-- 'foliotlaw03.WireEncodes', WHERE WHAT IT READS IS OF BULK AT MOST 1048576: true; the input reads as it did. -/
def wireEncodesUptoRow : OpenClaim := { program := "ytamhnlcdmjefmaa", sum := "2a1029efc5fbcab44b082bad3835ebf9fb6511761e15a2aa5e81fe418a60168d", func := "foliot/foliotlaw03.WireEncodes", spec := "wireEncodes", apart := false, narrowed := true }
def WireEncodesUptoSaid : Prop := wireEncodesUptoRow.holds Try.pinned (OpenSpec.upto wireEncodesSpec)

/-- 'foliotlaw03.WireDecodes', WHERE WHAT IT READS IS OF BULK AT MOST 1048576: true; the input reads as it did. -/
def wireDecodesUptoRow : OpenClaim := { program := "ytamhnlcdmjefmaa", sum := "2a1029efc5fbcab44b082bad3835ebf9fb6511761e15a2aa5e81fe418a60168d", func := "foliot/foliotlaw03.WireDecodes", spec := "wireDecodes", apart := false, narrowed := true }
def WireDecodesUptoSaid : Prop := wireDecodesUptoRow.holds Try.pinned (OpenSpec.upto wireDecodesSpec)

/-- 'foliotlaw03.WireParts', WHERE WHAT IT READS IS OF BULK AT MOST 1048576: true; the input reads as it did. -/
def wirePartsUptoRow : OpenClaim := { program := "ytamhnlcdmjefmaa", sum := "2a1029efc5fbcab44b082bad3835ebf9fb6511761e15a2aa5e81fe418a60168d", func := "foliot/foliotlaw03.WireParts", spec := "wireParts", apart := false, narrowed := true }
def WirePartsUptoSaid : Prop := wirePartsUptoRow.holds Try.pinned (OpenSpec.upto wirePartsSpec)

/-- 'foliotlaw03.WireControls', WHERE WHAT IT READS IS OF BULK AT MOST 1048576: true; the input reads as it did. -/
def wireControlsUptoRow : OpenClaim := { program := "ytamhnlcdmjefmaa", sum := "2a1029efc5fbcab44b082bad3835ebf9fb6511761e15a2aa5e81fe418a60168d", func := "foliot/foliotlaw03.WireControls", spec := "wireControls", apart := false, narrowed := true }
def WireControlsUptoSaid : Prop := wireControlsUptoRow.holds Try.pinned (OpenSpec.upto wireControlsSpec)

/-- 'foliotlaw03.WireControlBack', WHERE WHAT IT READS IS OF BULK AT MOST 1048576: true; the input reads as it did. -/
def wireControlBackUptoRow : OpenClaim := { program := "ytamhnlcdmjefmaa", sum := "2a1029efc5fbcab44b082bad3835ebf9fb6511761e15a2aa5e81fe418a60168d", func := "foliot/foliotlaw03.WireControlBack", spec := "wireControlBack", apart := false, narrowed := true }
def WireControlBackUptoSaid : Prop := wireControlBackUptoRow.holds Try.pinned (OpenSpec.upto wireControlBackSpec)

/-- 'foliotlaw03.WireBack', WHERE WHAT IT READS IS OF BULK AT MOST 1048576: true; the input reads as it did. -/
def wireBackUptoRow : OpenClaim := { program := "ytamhnlcdmjefmaa", sum := "2a1029efc5fbcab44b082bad3835ebf9fb6511761e15a2aa5e81fe418a60168d", func := "foliot/foliotlaw03.WireBack", spec := "wireBack", apart := false, narrowed := true }
def WireBackUptoSaid : Prop := wireBackUptoRow.holds Try.pinned (OpenSpec.upto wireBackSpec)

/-- 'foliotlaw03.WireOne', WHERE WHAT IT READS IS OF BULK AT MOST 1048576: true; the input reads as it did. -/
def wireOneUptoRow : OpenClaim := { program := "ytamhnlcdmjefmaa", sum := "2a1029efc5fbcab44b082bad3835ebf9fb6511761e15a2aa5e81fe418a60168d", func := "foliot/foliotlaw03.WireOne", spec := "wireOne", apart := false, narrowed := true }
def WireOneUptoSaid : Prop := wireOneUptoRow.holds Try.pinned (OpenSpec.upto wireOneSpec)

end Rows
end Go.Proofs.Ytamhnlcdmjefmaa
