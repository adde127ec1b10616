/-
  No cell of these rows narrows 'for every input' (looked for: loops, veiled, ifaces, maps, wideKeys, modest, calm, conditions, laid).
  DERIVED. THE GIVEN ROWS OF THIS SEAT. 6 by the template 'for every input the law returns true; each argument reads behind the call as it read before'; 0 by the template 'total and deterministic' (their statements: YtmbhbkconpfncaaTotals.lean).
  GIVEN WITH THE SEED: the statements are not yours to turn. If you find one false, say at which input.
  Laid BY PROGRAM, IN A SANDBOX (cutbox-rows.mjs): the forced cells as the released guide's own fill.sh prints them over the translation 06ad77a098169914… (all of the seat's roots in one cut). By AI agents, Wed Nov 11 2026. No macro, syntax, notation, axiom, sorry.
-/
import Derived.Test.YtmbhbkconpfncaaChecked
import GoSem.Claim
import GoSem.ClaimJoined
import GoSem.ClaimMapViews
import Derived.JoinedTies
import Derived.KernelRfl
namespace Go.Proofs.Ytmbhbkconpfncaa
/- THE CELL 'sum', in the pinned program and in every row, IS THE sha256 OF THE DUMP (.gsa) THAT YtmbhbkconpfncaaProg.lean LOADS. Nothing in Lean hashes anything: it is a label: what it is worth is what the hold of that sum in a sandbox is worth. -/
noncomputable def Try.pinned : Pinned := { name := "ytmbhbkconpfncaa", sum := "06ad77a098169914afad1ab24ecd793f4a7afd07206d96d55b7f0078f036273b", checked := Try.checked }
namespace Rows
def none {H : Type} : Left H := { results := [], args := [] }

/-- 'foliotlaw15.LoopStepout': WHATEVER THE INPUT: true; the input reads as it did. -/
def loopStepoutSpec : ChangeSpec := { name := "loopStepout", fn := fun _ => fun
  | [d1, d2, d3, d4] => { results := [.lit (.bool true)], args := [d1, d2, d3, d4] }
  | _ => none }
def loopStepoutRow : OpenClaim := { program := "ytmbhbkconpfncaa", sum := "06ad77a098169914afad1ab24ecd793f4a7afd07206d96d55b7f0078f036273b", func := "foliot/foliotlaw15.LoopStepout", spec := "loopStepout", inPlace := ["math/bits.Add64"], named := ["math/bits.divideError", "math/bits.overflowError"], apart := false }
def LoopStepoutSaid : Prop := loopStepoutRow.holds Try.pinned (OpenSpec.ofChange loopStepoutSpec)

/-- ITS FALSE NEIGHBOUR: 'it returns false'. Refute it at one input. -/
def loopStepoutWrong : ChangeSpec := { name := "loopStepout", fn := fun _ => fun
  | [d1, d2, d3, d4] => { results := [.lit (.bool false)], args := [d1, d2, d3, d4] }
  | _ => none }
def LoopStepoutWrongFalsely : Prop := loopStepoutRow.holds Try.pinned (OpenSpec.ofChange loopStepoutWrong)

/-- 'foliotlaw15.LoopInside': WHATEVER THE INPUT: true; the input reads as it did. -/
def loopInsideSpec : ChangeSpec := { name := "loopInside", fn := fun _ => fun
  | [d1, d2, d3, d4] => { results := [.lit (.bool true)], args := [d1, d2, d3, d4] }
  | _ => none }
def loopInsideRow : OpenClaim := { program := "ytmbhbkconpfncaa", sum := "06ad77a098169914afad1ab24ecd793f4a7afd07206d96d55b7f0078f036273b", func := "foliot/foliotlaw15.LoopInside", spec := "loopInside", inPlace := ["math/bits.Add64"], named := ["math/bits.divideError", "math/bits.overflowError"], apart := false }
def LoopInsideSaid : Prop := loopInsideRow.holds Try.pinned (OpenSpec.ofChange loopInsideSpec)

/-- ITS FALSE NEIGHBOUR: 'it returns false'. Refute it at one input. -/
def loopInsideWrong : ChangeSpec := { name := "loopInside", fn := fun _ => fun
  | [d1, d2, d3, d4] => { results := [.lit (.bool false)], args := [d1, d2, d3, d4] }
  | _ => none }
def LoopInsideWrongFalsely : Prop := loopInsideRow.holds Try.pinned (OpenSpec.ofChange loopInsideWrong)

/-- 'foliotlaw15.LoopSlews': WHATEVER THE INPUT: true; the input reads as it did. -/
def loopSlewsSpec : ChangeSpec := { name := "loopSlews", fn := fun _ => fun
  | [d1, d2, d3] => { results := [.lit (.bool true)], args := [d1, d2, d3] }
  | _ => none }
def loopSlewsRow : OpenClaim := { program := "ytmbhbkconpfncaa", sum := "06ad77a098169914afad1ab24ecd793f4a7afd07206d96d55b7f0078f036273b", func := "foliot/foliotlaw15.LoopSlews", spec := "loopSlews", inPlace := ["math/bits.Add64"], named := ["math/bits.divideError", "math/bits.overflowError"], apart := false }
def LoopSlewsSaid : Prop := loopSlewsRow.holds Try.pinned (OpenSpec.ofChange loopSlewsSpec)

/-- ITS FALSE NEIGHBOUR: 'it returns false'. Refute it at one input. -/
def loopSlewsWrong : ChangeSpec := { name := "loopSlews", fn := fun _ => fun
  | [d1, d2, d3] => { results := [.lit (.bool false)], args := [d1, d2, d3] }
  | _ => none }
def LoopSlewsWrongFalsely : Prop := loopSlewsRow.holds Try.pinned (OpenSpec.ofChange loopSlewsWrong)

/-- 'foliotlaw15.LoopRests': WHATEVER THE INPUT: true; the input reads as it did. -/
def loopRestsSpec : ChangeSpec := { name := "loopRests", fn := fun _ => fun
  | [d1, d2, d3, d4] => { results := [.lit (.bool true)], args := [d1, d2, d3, d4] }
  | _ => none }
def loopRestsRow : OpenClaim := { program := "ytmbhbkconpfncaa", sum := "06ad77a098169914afad1ab24ecd793f4a7afd07206d96d55b7f0078f036273b", func := "foliot/foliotlaw15.LoopRests", spec := "loopRests", inPlace := ["math/bits.Add64"], named := ["math/bits.divideError", "math/bits.overflowError"], apart := false }
def LoopRestsSaid : Prop := loopRestsRow.holds Try.pinned (OpenSpec.ofChange loopRestsSpec)

/-- ITS FALSE NEIGHBOUR: 'it returns false'. Refute it at one input. -/
def loopRestsWrong : ChangeSpec := { name := "loopRests", fn := fun _ => fun
  | [d1, d2, d3, d4] => { results := [.lit (.bool false)], args := [d1, d2, d3, d4] }
  | _ => none }
def LoopRestsWrongFalsely : Prop := loopRestsRow.holds Try.pinned (OpenSpec.ofChange loopRestsWrong)

/-- 'foliotlaw15.LoopScript': WHATEVER THE INPUT: true; the input reads as it did. -/
def loopScriptSpec : ChangeSpec := { name := "loopScript", fn := fun _ => fun
  | [d1, d2, d3, d4] => { results := [.lit (.bool true)], args := [d1, d2, d3, d4] }
  | _ => none }
def loopScriptRow : OpenClaim := { program := "ytmbhbkconpfncaa", sum := "06ad77a098169914afad1ab24ecd793f4a7afd07206d96d55b7f0078f036273b", func := "foliot/foliotlaw15.LoopScript", spec := "loopScript", inPlace := ["math/bits.Add64"], named := ["math/bits.divideError", "math/bits.overflowError"], apart := false }
def LoopScriptSaid : Prop := loopScriptRow.holds Try.pinned (OpenSpec.ofChange loopScriptSpec)

/-- ITS FALSE NEIGHBOUR: 'it returns false'. Refute it at one input. -/
def loopScriptWrong : ChangeSpec := { name := "loopScript", fn := fun _ => fun
  | [d1, d2, d3, d4] => { results := [.lit (.bool false)], args := [d1, d2, d3, d4] }
  | _ => none }
def LoopScriptWrongFalsely : Prop := loopScriptRow.holds Try.pinned (OpenSpec.ofChange loopScriptWrong)

/-- 'foliotlaw15.LoopQuiet': WHATEVER THE INPUT: true; the input reads as it did. -/
def loopQuietSpec : ChangeSpec := { name := "loopQuiet", fn := fun _ => fun
  | [d1, d2, d3, d4, d5, d6] => { results := [.lit (.bool true)], args := [d1, d2, d3, d4, d5, d6] }
  | _ => none }
def loopQuietRow : OpenClaim := { program := "ytmbhbkconpfncaa", sum := "06ad77a098169914afad1ab24ecd793f4a7afd07206d96d55b7f0078f036273b", func := "foliot/foliotlaw15.LoopQuiet", spec := "loopQuiet", inPlace := ["math/bits.Add64"], named := ["math/bits.divideError", "math/bits.overflowError"], apart := false }
def LoopQuietSaid : Prop := loopQuietRow.holds Try.pinned (OpenSpec.ofChange loopQuietSpec)

/-- ITS FALSE NEIGHBOUR: 'it returns false'. Refute it at one input. -/
def loopQuietWrong : ChangeSpec := { name := "loopQuiet", fn := fun _ => fun
  | [d1, d2, d3, d4, d5, d6] => { results := [.lit (.bool false)], args := [d1, d2, d3, d4, d5, d6] }
  | _ => none }
def LoopQuietWrongFalsely : Prop := loopQuietRow.holds Try.pinned (OpenSpec.ofChange loopQuietWrong)

/- THE SECOND FORM. 'bulk': how many values and letters a reading holds, each counted each time it is reached (what is shared counts as often as it is met; a slice's spare places count too). A statement '..UptoSaid' is the law's where the arguments, and the package variables that the reading takes, are together of bulk at most 1048576: NARROWER than '..Said'. Prove '..Said' where nothing that the law and all that it calls make is longer than what came in: it says more and counts as full. Else prove '..UptoSaid'. A law counts once. -/
mutual
def uptoBulk {H : Type} : DataW H → Nat
  | .lit (.string bytes) => bytes.length + 1
  | .lit _ => 1
  | .nil => 1
  | .ptr d => uptoBulk d + 1
  | .slice elems spare => uptoBulkAll elems + uptoBulkAll spare + 1
  | .agg parts => uptoBulkAll parts + 1
  | .iface _ d => uptoBulk d + 1
  | .map entries => uptoBulkEntries entries + 1
  | .held _ => 1
def uptoBulkAll {H : Type} : List (DataW H) → Nat
  | [] => 0
  | d :: r => uptoBulk d + uptoBulkAll r
def uptoBulkEntries {H : Type} : List (Lit × DataW H) → Nat
  | [] => 0
  | x :: r => uptoBulkEntry x + uptoBulkEntries r
def uptoBulkEntry {H : Type} : Lit × DataW H → Nat
  | (.string bytes, d) => bytes.length + uptoBulk d + 1
  | (_, d) => uptoBulk d + 1
 end
def uptoSmall : (H : Type) → List (DataW H) → Bool := fun _ ds => decide (uptoBulkAll ds ≤ 1048576)
def OpenSpec.upto (s : _root_.Go.ChangeSpec) : _root_.Go.OpenSpec := { _root_.Go.OpenSpec.ofChange s with cond := some uptoSmall }

/-- 'foliotlaw15.LoopStepout', WHERE WHAT IT READS IS OF BULK AT MOST 1048576: true; the input reads as it did. -/
def loopStepoutUptoRow : OpenClaim := { program := "ytmbhbkconpfncaa", sum := "06ad77a098169914afad1ab24ecd793f4a7afd07206d96d55b7f0078f036273b", func := "foliot/foliotlaw15.LoopStepout", spec := "loopStepout", inPlace := ["math/bits.Add64"], named := ["math/bits.divideError", "math/bits.overflowError"], apart := false, narrowed := true }
def LoopStepoutUptoSaid : Prop := loopStepoutUptoRow.holds Try.pinned (OpenSpec.upto loopStepoutSpec)

/-- 'foliotlaw15.LoopInside', WHERE WHAT IT READS IS OF BULK AT MOST 1048576: true; the input reads as it did. -/
def loopInsideUptoRow : OpenClaim := { program := "ytmbhbkconpfncaa", sum := "06ad77a098169914afad1ab24ecd793f4a7afd07206d96d55b7f0078f036273b", func := "foliot/foliotlaw15.LoopInside", spec := "loopInside", inPlace := ["math/bits.Add64"], named := ["math/bits.divideError", "math/bits.overflowError"], apart := false, narrowed := true }
def LoopInsideUptoSaid : Prop := loopInsideUptoRow.holds Try.pinned (OpenSpec.upto loopInsideSpec)

/-- 'foliotlaw15.LoopSlews', WHERE WHAT IT READS IS OF BULK AT MOST 1048576: true; the input reads as it did. -/
def loopSlewsUptoRow : OpenClaim := { program := "ytmbhbkconpfncaa", sum := "06ad77a098169914afad1ab24ecd793f4a7afd07206d96d55b7f0078f036273b", func := "foliot/foliotlaw15.LoopSlews", spec := "loopSlews", inPlace := ["math/bits.Add64"], named := ["math/bits.divideError", "math/bits.overflowError"], apart := false, narrowed := true }
def LoopSlewsUptoSaid : Prop := loopSlewsUptoRow.holds Try.pinned (OpenSpec.upto loopSlewsSpec)

/-- 'foliotlaw15.LoopRests', WHERE WHAT IT READS IS OF BULK AT MOST 1048576: true; the input reads as it did. -/
def loopRestsUptoRow : OpenClaim := { program := "ytmbhbkconpfncaa", sum := "06ad77a098169914afad1ab24ecd793f4a7afd07206d96d55b7f0078f036273b", func := "foliot/foliotlaw15.LoopRests", spec := "loopRests", inPlace := ["math/bits.Add64"], named := ["math/bits.divideError", "math/bits.overflowError"], apart := false, narrowed := true }
def LoopRestsUptoSaid : Prop := loopRestsUptoRow.holds Try.pinned (OpenSpec.upto loopRestsSpec)

/-- 'foliotlaw15.LoopScript', WHERE WHAT IT READS IS OF BULK AT MOST 1048576: true; the input reads as it did. -/
def loopScriptUptoRow : OpenClaim := { program := "ytmbhbkconpfncaa", sum := "06ad77a098169914afad1ab24ecd793f4a7afd07206d96d55b7f0078f036273b", func := "foliot/foliotlaw15.LoopScript", spec := "loopScript", inPlace := ["math/bits.Add64"], named := ["math/bits.divideError", "math/bits.overflowError"], apart := false, narrowed := true }
def LoopScriptUptoSaid : Prop := loopScriptUptoRow.holds Try.pinned (OpenSpec.upto loopScriptSpec)

/-- 'foliotlaw15.LoopQuiet', WHERE WHAT IT READS IS OF BULK AT MOST 1048576: true; the input reads as it did. -/
def loopQuietUptoRow : OpenClaim := { program := "ytmbhbkconpfncaa", sum := "06ad77a098169914afad1ab24ecd793f4a7afd07206d96d55b7f0078f036273b", func := "foliot/foliotlaw15.LoopQuiet", spec := "loopQuiet", inPlace := ["math/bits.Add64"], named := ["math/bits.divideError", "math/bits.overflowError"], apart := false, narrowed := true }
def LoopQuietUptoSaid : Prop := loopQuietUptoRow.holds Try.pinned (OpenSpec.upto loopQuietSpec)

end Rows
end Go.Proofs.Ytmbhbkconpfncaa
