/-
  No cell of these rows narrows 'for every input' (looked for: loops, veiled, ifaces, maps, wideKeys, modest, calm, conditions, laid).
  DERIVED. THE GIVEN ROWS OF THIS SEAT. 5 by the template 'for every input the law returns true; each argument reads behind the call as it read before'; 0 by the template 'total and deterministic' (their statements: YtblmlfocmgpggaaTotals.lean).
  GIVEN WITH THE SEED: the statements are not yours to turn. If you find one false, say at which input.
  Laid BY PROGRAM, IN A SANDBOX (cutbox-rows.mjs): the forced cells as the released guide's own fill.sh prints them over the translation 1cc7fd47920c1c23… (all of the seat's roots in one cut). By AI agents, Wed Nov 11 2026. No macro, syntax, notation, axiom, sorry.
-/
import Derived.Test.YtblmlfocmgpggaaChecked
import GoSem.Claim
import GoSem.ClaimJoined
import GoSem.ClaimMapViews
import Derived.JoinedTies
import Derived.KernelRfl
namespace Go.Proofs.Ytblmlfocmgpggaa
/- THE CELL 'sum', in the pinned program and in every row, IS THE sha256 OF THE DUMP (.gsa) THAT YtblmlfocmgpggaaProg.lean LOADS. Nothing in Lean hashes anything: it is a label: what it is worth is what the hold of that sum in a sandbox is worth. -/
noncomputable def Try.pinned : Pinned := { name := "ytblmlfocmgpggaa", sum := "1cc7fd47920c1c2315d0248648d98793fab9b70f7e31648f73d97aa490ccb09b", checked := Try.checked }
namespace Rows
def none {H : Type} : Left H := { results := [], args := [] }

/-- 'foliotlaw09.FilterSteady': WHATEVER THE INPUT: true; the input reads as it did. -/
def filterSteadySpec : ChangeSpec := { name := "filterSteady", fn := fun _ => fun
  | [d1, d2, d3] => { results := [.lit (.bool true)], args := [d1, d2, d3] }
  | _ => none }
def filterSteadyRow : OpenClaim := { program := "ytblmlfocmgpggaa", sum := "1cc7fd47920c1c2315d0248648d98793fab9b70f7e31648f73d97aa490ccb09b", func := "foliot/foliotlaw09.FilterSteady", spec := "filterSteady", inPlace := ["math/bits.Add64"], named := ["math/bits.divideError", "math/bits.overflowError"], apart := false }
def FilterSteadySaid : Prop := filterSteadyRow.holds Try.pinned (OpenSpec.ofChange filterSteadySpec)

/-- ITS FALSE NEIGHBOUR: 'it returns false'. Refute it at one input. -/
def filterSteadyWrong : ChangeSpec := { name := "filterSteady", fn := fun _ => fun
  | [d1, d2, d3] => { results := [.lit (.bool false)], args := [d1, d2, d3] }
  | _ => none }
def FilterSteadyWrongFalsely : Prop := filterSteadyRow.holds Try.pinned (OpenSpec.ofChange filterSteadyWrong)

/-- 'foliotlaw09.FilterLeast': WHATEVER THE INPUT: true; the input reads as it did. -/
def filterLeastSpec : ChangeSpec := { name := "filterLeast", fn := fun _ => fun
  | [d1, d2] => { results := [.lit (.bool true)], args := [d1, d2] }
  | _ => none }
def filterLeastRow : OpenClaim := { program := "ytblmlfocmgpggaa", sum := "1cc7fd47920c1c2315d0248648d98793fab9b70f7e31648f73d97aa490ccb09b", func := "foliot/foliotlaw09.FilterLeast", spec := "filterLeast", inPlace := ["math/bits.Add64"], named := ["math/bits.divideError", "math/bits.overflowError"], apart := false }
def FilterLeastSaid : Prop := filterLeastRow.holds Try.pinned (OpenSpec.ofChange filterLeastSpec)

/-- ITS FALSE NEIGHBOUR: 'it returns false'. Refute it at one input. -/
def filterLeastWrong : ChangeSpec := { name := "filterLeast", fn := fun _ => fun
  | [d1, d2] => { results := [.lit (.bool false)], args := [d1, d2] }
  | _ => none }
def FilterLeastWrongFalsely : Prop := filterLeastRow.holds Try.pinned (OpenSpec.ofChange filterLeastWrong)

/-- 'foliotlaw09.FilterGrows': WHATEVER THE INPUT: true; the input reads as it did. -/
def filterGrowsSpec : ChangeSpec := { name := "filterGrows", fn := fun _ => fun
  | [d1, d2, d3] => { results := [.lit (.bool true)], args := [d1, d2, d3] }
  | _ => none }
def filterGrowsRow : OpenClaim := { program := "ytblmlfocmgpggaa", sum := "1cc7fd47920c1c2315d0248648d98793fab9b70f7e31648f73d97aa490ccb09b", func := "foliot/foliotlaw09.FilterGrows", spec := "filterGrows", inPlace := ["math/bits.Add64"], named := ["math/bits.divideError", "math/bits.overflowError"], apart := false }
def FilterGrowsSaid : Prop := filterGrowsRow.holds Try.pinned (OpenSpec.ofChange filterGrowsSpec)

/-- ITS FALSE NEIGHBOUR: 'it returns false'. Refute it at one input. -/
def filterGrowsWrong : ChangeSpec := { name := "filterGrows", fn := fun _ => fun
  | [d1, d2, d3] => { results := [.lit (.bool false)], args := [d1, d2, d3] }
  | _ => none }
def FilterGrowsWrongFalsely : Prop := filterGrowsRow.holds Try.pinned (OpenSpec.ofChange filterGrowsWrong)

/-- 'foliotlaw09.FilterScript': WHATEVER THE INPUT: true; the input reads as it did. -/
def filterScriptSpec : ChangeSpec := { name := "filterScript", fn := fun _ => fun
  | [d] => { results := [.lit (.bool true)], args := [d] }
  | _ => none }
def filterScriptRow : OpenClaim := { program := "ytblmlfocmgpggaa", sum := "1cc7fd47920c1c2315d0248648d98793fab9b70f7e31648f73d97aa490ccb09b", func := "foliot/foliotlaw09.FilterScript", spec := "filterScript", inPlace := ["math/bits.Add64"], named := ["math/bits.divideError", "math/bits.overflowError"], apart := false }
def FilterScriptSaid : Prop := filterScriptRow.holds Try.pinned (OpenSpec.ofChange filterScriptSpec)

/-- ITS FALSE NEIGHBOUR: 'it returns false'. Refute it at one input. -/
def filterScriptWrong : ChangeSpec := { name := "filterScript", fn := fun _ => fun
  | [d] => { results := [.lit (.bool false)], args := [d] }
  | _ => none }
def FilterScriptWrongFalsely : Prop := filterScriptRow.holds Try.pinned (OpenSpec.ofChange filterScriptWrong)

/-- 'foliotlaw09.FilterForgets': WHATEVER THE INPUT: true; the input reads as it did. -/
def filterForgetsSpec : ChangeSpec := { name := "filterForgets", fn := fun _ => fun
  | [d1, d2, d3] => { results := [.lit (.bool true)], args := [d1, d2, d3] }
  | _ => none }
def filterForgetsRow : OpenClaim := { program := "ytblmlfocmgpggaa", sum := "1cc7fd47920c1c2315d0248648d98793fab9b70f7e31648f73d97aa490ccb09b", func := "foliot/foliotlaw09.FilterForgets", spec := "filterForgets", inPlace := ["math/bits.Add64"], named := ["math/bits.divideError", "math/bits.overflowError"], apart := false }
def FilterForgetsSaid : Prop := filterForgetsRow.holds Try.pinned (OpenSpec.ofChange filterForgetsSpec)

/-- ITS FALSE NEIGHBOUR: 'it returns false'. Refute it at one input. -/
def filterForgetsWrong : ChangeSpec := { name := "filterForgets", fn := fun _ => fun
  | [d1, d2, d3] => { results := [.lit (.bool false)], args := [d1, d2, d3] }
  | _ => none }
def FilterForgetsWrongFalsely : Prop := filterForgetsRow.holds Try.pinned (OpenSpec.ofChange filterForgetsWrong)

/- THE SECOND FORM. 'bulk': how many values and letters a reading holds, each counted each time it is reached (what is shared counts as often as it is met; a slice's spare places count too). A statement '..UptoSaid' is the law's where the arguments, and the package variables that the reading takes, are together of bulk at most 1048576: NARROWER than '..Said'. Prove '..Said' where nothing that the law and all that it calls make is longer than what came in: it says more and counts as full. Else prove '..UptoSaid'. A law counts once. -/
mutual
def uptoBulk {H : Type} : DataW H → Nat
  | .lit (.string bytes) => bytes.length + 1
  | .lit _ => 1
  | .nil => 1
  | .ptr d => uptoBulk d + 1
  | .slice elems spare => uptoBulkAll elems + uptoBulkAll spare + 1
  | .agg parts => uptoBulkAll parts + 1
  | .iface _ d => uptoBulk d + 1
  | .map entries => uptoBulkEntries entries + 1
  | .held _ => 1
def uptoBulkAll {H : Type} : List (DataW H) → Nat
  | [] => 0
  | d :: r => uptoBulk d + uptoBulkAll r
def uptoBulkEntries {H : Type} : List (Lit × DataW H) → Nat
  | [] => 0
  | x :: r => uptoBulkEntry x + uptoBulkEntries r
def uptoBulkEntry {H : Type} : Lit × DataW H → Nat
  | (.string bytes, d) => bytes.length + uptoBulk d + 1
  | (_, d) => uptoBulk d + 1
 end
def uptoSmall : (H : Type) → List (DataW H) → Bool := fun _ ds => decide (uptoBulkAll ds ≤ 1048576)
def OpenSpec.upto (s : _root_.Go.ChangeSpec) : _root_.Go.OpenSpec := { _root_.Go.OpenSpec.ofChange s with cond := some uptoSmall }

/-- 'foliotlaw09.FilterSteady', WHERE WHAT IT READS IS OF BULK AT MOST 1048576: true; the input reads as it did. -/
def filterSteadyUptoRow : OpenClaim := { program := "ytblmlfocmgpggaa", sum := "1cc7fd47920c1c2315d0248648d98793fab9b70f7e31648f73d97aa490ccb09b", func := "foliot/foliotlaw09.FilterSteady", spec := "filterSteady", inPlace := ["math/bits.Add64"], named := ["math/bits.divideError", "math/bits.overflowError"], apart := false, narrowed := true }
def FilterSteadyUptoSaid : Prop := filterSteadyUptoRow.holds Try.pinned (OpenSpec.upto filterSteadySpec)

/-- 'foliotlaw09.FilterLeast', WHERE WHAT IT READS IS OF BULK AT MOST 1048576: true; the input reads as it did. -/
def filterLeastUptoRow : OpenClaim := { program := "ytblmlfocmgpggaa", sum := "1cc7fd47920c1c2315d0248648d98793fab9b70f7e31648f73d97aa490ccb09b", func := "foliot/foliotlaw09.FilterLeast", spec := "filterLeast", inPlace := ["math/bits.Add64"], named := ["math/bits.divideError", "math/bits.overflowError"], apart := false, narrowed := true }
def FilterLeastUptoSaid : Prop := filterLeastUptoRow.holds Try.pinned (OpenSpec.upto filterLeastSpec)

/-- 'foliotlaw09.FilterGrows', WHERE WHAT IT READS IS OF BULK AT MOST 1048576: true; the input reads as it did. -/
def filterGrowsUptoRow : OpenClaim := { program := "ytblmlfocmgpggaa", sum := "1cc7fd47920c1c2315d0248648d98793fab9b70f7e31648f73d97aa490ccb09b", func := "foliot/foliotlaw09.FilterGrows", spec := "filterGrows", inPlace := ["math/bits.Add64"], named := ["math/bits.divideError", "math/bits.overflowError"], apart := false, narrowed := true }
def FilterGrowsUptoSaid : Prop := filterGrowsUptoRow.holds Try.pinned (OpenSpec.upto filterGrowsSpec)

/-- 'foliotlaw09.FilterScript', WHERE WHAT IT READS IS OF BULK AT MOST 1048576: true; the input reads as it did. -/
def filterScriptUptoRow : OpenClaim := { program := "ytblmlfocmgpggaa", sum := "1cc7fd47920c1c2315d0248648d98793fab9b70f7e31648f73d97aa490ccb09b", func := "foliot/foliotlaw09.FilterScript", spec := "filterScript", inPlace := ["math/bits.Add64"], named := ["math/bits.divideError", "math/bits.overflowError"], apart := false, narrowed := true }
def FilterScriptUptoSaid : Prop := filterScriptUptoRow.holds Try.pinned (OpenSpec.upto filterScriptSpec)

/-- 'foliotlaw09.FilterForgets', WHERE WHAT IT READS IS OF BULK AT MOST 1048576: true; the input reads as it did. -/
def filterForgetsUptoRow : OpenClaim := { program := "ytblmlfocmgpggaa", sum := "1cc7fd47920c1c2315d0248648d98793fab9b70f7e31648f73d97aa490ccb09b", func := "foliot/foliotlaw09.FilterForgets", spec := "filterForgets", inPlace := ["math/bits.Add64"], named := ["math/bits.divideError", "math/bits.overflowError"], apart := false, narrowed := true }
def FilterForgetsUptoSaid : Prop := filterForgetsUptoRow.holds Try.pinned (OpenSpec.upto filterForgetsSpec)

end Rows
end Go.Proofs.Ytblmlfocmgpggaa
