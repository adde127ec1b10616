/-
  No cell of these rows narrows 'for every input' (looked for: loops, veiled, ifaces, maps, wideKeys, modest, calm, conditions, laid).
  DERIVED. THE GIVEN ROWS OF THIS SEAT. 8 by the template 'for every input the law returns true; each argument reads behind the call as it read before'; 0 by the template 'total and deterministic' (their statements: YtkcnibpjnhdfdaaTotals.lean).
  GIVEN WITH THE SEED: the statements are not yours to turn. If you find one false, say at which input.
  Laid BY PROGRAM, IN A SANDBOX (cutbox-rows.mjs): the forced cells as the released guide's own fill.sh prints them over the translation 59541aed49b7599e… (all of the seat's roots in one cut). By AI agents, Wed Nov 11 2026. No macro, syntax, notation, axiom, sorry.
-/
import Derived.Test.YtkcnibpjnhdfdaaChecked
import GoSem.Claim
import GoSem.ClaimJoined
import GoSem.ClaimMapViews
import Derived.JoinedTies
import Derived.KernelRfl
namespace Go.Proofs.Ytkcnibpjnhdfdaa
/- THE CELL 'sum', in the pinned program and in every row, IS THE sha256 OF THE DUMP (.gsa) THAT YtkcnibpjnhdfdaaProg.lean LOADS. Nothing in Lean hashes anything: it is a label: what it is worth is what the hold of that sum in a sandbox is worth. -/
noncomputable def Try.pinned : Pinned := { name := "ytkcnibpjnhdfdaa", sum := "59541aed49b7599ef423dec730bc2ab80a796cc16557ce0d747bad76ccd1cd59", checked := Try.checked }
namespace Rows
def none {H : Type} : Left H := { results := [], args := [] }

/-- 'foliotlaw01.FixedLogs': WHATEVER THE INPUT: true; the input reads as it did. -/
def fixedLogsSpec : ChangeSpec := { name := "fixedLogs", fn := fun _ => fun
  | [d] => { results := [.lit (.bool true)], args := [d] }
  | _ => none }
def fixedLogsRow : OpenClaim := { program := "ytkcnibpjnhdfdaa", sum := "59541aed49b7599ef423dec730bc2ab80a796cc16557ce0d747bad76ccd1cd59", func := "foliot/foliotlaw01.FixedLogs", spec := "fixedLogs", inPlace := ["math/bits.Add64"], apart := false }
def FixedLogsSaid : Prop := fixedLogsRow.holds Try.pinned (OpenSpec.ofChange fixedLogsSpec)

/-- ITS FALSE NEIGHBOUR: 'it returns false'. Refute it at one input. -/
def fixedLogsWrong : ChangeSpec := { name := "fixedLogs", fn := fun _ => fun
  | [d] => { results := [.lit (.bool false)], args := [d] }
  | _ => none }
def FixedLogsWrongFalsely : Prop := fixedLogsRow.holds Try.pinned (OpenSpec.ofChange fixedLogsWrong)

/-- 'foliotlaw01.FixedSums': WHATEVER THE INPUT: true; the input reads as it did. -/
def fixedSumsSpec : ChangeSpec := { name := "fixedSums", fn := fun _ => fun
  | [d1, d2] => { results := [.lit (.bool true)], args := [d1, d2] }
  | _ => none }
def fixedSumsRow : OpenClaim := { program := "ytkcnibpjnhdfdaa", sum := "59541aed49b7599ef423dec730bc2ab80a796cc16557ce0d747bad76ccd1cd59", func := "foliot/foliotlaw01.FixedSums", spec := "fixedSums", inPlace := ["math/bits.Add64"], named := ["math/bits.divideError", "math/bits.overflowError"], apart := false }
def FixedSumsSaid : Prop := fixedSumsRow.holds Try.pinned (OpenSpec.ofChange fixedSumsSpec)

/-- ITS FALSE NEIGHBOUR: 'it returns false'. Refute it at one input. -/
def fixedSumsWrong : ChangeSpec := { name := "fixedSums", fn := fun _ => fun
  | [d1, d2] => { results := [.lit (.bool false)], args := [d1, d2] }
  | _ => none }
def FixedSumsWrongFalsely : Prop := fixedSumsRow.holds Try.pinned (OpenSpec.ofChange fixedSumsWrong)

/-- 'foliotlaw01.FixedBack': WHATEVER THE INPUT: true; the input reads as it did. -/
def fixedBackSpec : ChangeSpec := { name := "fixedBack", fn := fun _ => fun
  | [d1, d2] => { results := [.lit (.bool true)], args := [d1, d2] }
  | _ => none }
def fixedBackRow : OpenClaim := { program := "ytkcnibpjnhdfdaa", sum := "59541aed49b7599ef423dec730bc2ab80a796cc16557ce0d747bad76ccd1cd59", func := "foliot/foliotlaw01.FixedBack", spec := "fixedBack", inPlace := ["math/bits.Add64"], named := ["math/bits.divideError", "math/bits.overflowError"], apart := false }
def FixedBackSaid : Prop := fixedBackRow.holds Try.pinned (OpenSpec.ofChange fixedBackSpec)

/-- ITS FALSE NEIGHBOUR: 'it returns false'. Refute it at one input. -/
def fixedBackWrong : ChangeSpec := { name := "fixedBack", fn := fun _ => fun
  | [d1, d2] => { results := [.lit (.bool false)], args := [d1, d2] }
  | _ => none }
def FixedBackWrongFalsely : Prop := fixedBackRow.holds Try.pinned (OpenSpec.ofChange fixedBackWrong)

/-- 'foliotlaw01.FixedProducts': WHATEVER THE INPUT: true; the input reads as it did. -/
def fixedProductsSpec : ChangeSpec := { name := "fixedProducts", fn := fun _ => fun
  | [d1, d2, d3, d4] => { results := [.lit (.bool true)], args := [d1, d2, d3, d4] }
  | _ => none }
def fixedProductsRow : OpenClaim := { program := "ytkcnibpjnhdfdaa", sum := "59541aed49b7599ef423dec730bc2ab80a796cc16557ce0d747bad76ccd1cd59", func := "foliot/foliotlaw01.FixedProducts", spec := "fixedProducts", inPlace := ["math/bits.Add64"], named := ["math/bits.divideError", "math/bits.overflowError"], apart := false }
def FixedProductsSaid : Prop := fixedProductsRow.holds Try.pinned (OpenSpec.ofChange fixedProductsSpec)

/-- ITS FALSE NEIGHBOUR: 'it returns false'. Refute it at one input. -/
def fixedProductsWrong : ChangeSpec := { name := "fixedProducts", fn := fun _ => fun
  | [d1, d2, d3, d4] => { results := [.lit (.bool false)], args := [d1, d2, d3, d4] }
  | _ => none }
def FixedProductsWrongFalsely : Prop := fixedProductsRow.holds Try.pinned (OpenSpec.ofChange fixedProductsWrong)

/-- 'foliotlaw01.FixedRoots': WHATEVER THE INPUT: true; the input reads as it did. -/
def fixedRootsSpec : ChangeSpec := { name := "fixedRoots", fn := fun _ => fun
  | [d1, d2] => { results := [.lit (.bool true)], args := [d1, d2] }
  | _ => none }
def fixedRootsRow : OpenClaim := { program := "ytkcnibpjnhdfdaa", sum := "59541aed49b7599ef423dec730bc2ab80a796cc16557ce0d747bad76ccd1cd59", func := "foliot/foliotlaw01.FixedRoots", spec := "fixedRoots", inPlace := ["math/bits.Add64"], named := ["math/bits.divideError", "math/bits.overflowError"], apart := false }
def FixedRootsSaid : Prop := fixedRootsRow.holds Try.pinned (OpenSpec.ofChange fixedRootsSpec)

/-- ITS FALSE NEIGHBOUR: 'it returns false'. Refute it at one input. -/
def fixedRootsWrong : ChangeSpec := { name := "fixedRoots", fn := fun _ => fun
  | [d1, d2] => { results := [.lit (.bool false)], args := [d1, d2] }
  | _ => none }
def FixedRootsWrongFalsely : Prop := fixedRootsRow.holds Try.pinned (OpenSpec.ofChange fixedRootsWrong)

/-- 'foliotlaw01.FixedShifts': WHATEVER THE INPUT: true; the input reads as it did. -/
def fixedShiftsSpec : ChangeSpec := { name := "fixedShifts", fn := fun _ => fun
  | [d1, d2] => { results := [.lit (.bool true)], args := [d1, d2] }
  | _ => none }
def fixedShiftsRow : OpenClaim := { program := "ytkcnibpjnhdfdaa", sum := "59541aed49b7599ef423dec730bc2ab80a796cc16557ce0d747bad76ccd1cd59", func := "foliot/foliotlaw01.FixedShifts", spec := "fixedShifts", inPlace := ["math/bits.Add64"], named := ["math/bits.divideError", "math/bits.overflowError"], apart := false }
def FixedShiftsSaid : Prop := fixedShiftsRow.holds Try.pinned (OpenSpec.ofChange fixedShiftsSpec)

/-- ITS FALSE NEIGHBOUR: 'it returns false'. Refute it at one input. -/
def fixedShiftsWrong : ChangeSpec := { name := "fixedShifts", fn := fun _ => fun
  | [d1, d2] => { results := [.lit (.bool false)], args := [d1, d2] }
  | _ => none }
def FixedShiftsWrongFalsely : Prop := fixedShiftsRow.holds Try.pinned (OpenSpec.ofChange fixedShiftsWrong)

/-- 'foliotlaw01.FixedPowers': WHATEVER THE INPUT: true; the input reads as it did. -/
def fixedPowersSpec : ChangeSpec := { name := "fixedPowers", fn := fun _ => fun
  | [d1, d2, d3, d4] => { results := [.lit (.bool true)], args := [d1, d2, d3, d4] }
  | _ => none }
def fixedPowersRow : OpenClaim := { program := "ytkcnibpjnhdfdaa", sum := "59541aed49b7599ef423dec730bc2ab80a796cc16557ce0d747bad76ccd1cd59", func := "foliot/foliotlaw01.FixedPowers", spec := "fixedPowers", inPlace := ["math/bits.Add64"], named := ["math/bits.divideError", "math/bits.overflowError"], apart := false }
def FixedPowersSaid : Prop := fixedPowersRow.holds Try.pinned (OpenSpec.ofChange fixedPowersSpec)

/-- ITS FALSE NEIGHBOUR: 'it returns false'. Refute it at one input. -/
def fixedPowersWrong : ChangeSpec := { name := "fixedPowers", fn := fun _ => fun
  | [d1, d2, d3, d4] => { results := [.lit (.bool false)], args := [d1, d2, d3, d4] }
  | _ => none }
def FixedPowersWrongFalsely : Prop := fixedPowersRow.holds Try.pinned (OpenSpec.ofChange fixedPowersWrong)

/-- 'foliotlaw01.FixedInside': WHATEVER THE INPUT: true; the input reads as it did. -/
def fixedInsideSpec : ChangeSpec := { name := "fixedInside", fn := fun _ => fun
  | [d1, d2, d3, d4] => { results := [.lit (.bool true)], args := [d1, d2, d3, d4] }
  | _ => none }
def fixedInsideRow : OpenClaim := { program := "ytkcnibpjnhdfdaa", sum := "59541aed49b7599ef423dec730bc2ab80a796cc16557ce0d747bad76ccd1cd59", func := "foliot/foliotlaw01.FixedInside", spec := "fixedInside", inPlace := ["math/bits.Add64"], named := ["math/bits.divideError", "math/bits.overflowError"], apart := false }
def FixedInsideSaid : Prop := fixedInsideRow.holds Try.pinned (OpenSpec.ofChange fixedInsideSpec)

/-- ITS FALSE NEIGHBOUR: 'it returns false'. Refute it at one input. -/
def fixedInsideWrong : ChangeSpec := { name := "fixedInside", fn := fun _ => fun
  | [d1, d2, d3, d4] => { results := [.lit (.bool false)], args := [d1, d2, d3, d4] }
  | _ => none }
def FixedInsideWrongFalsely : Prop := fixedInsideRow.holds Try.pinned (OpenSpec.ofChange fixedInsideWrong)

/- THE SECOND FORM. 'bulk': how many values and letters a reading holds, each counted each time it is reached (what is shared counts as often as it is met; a slice's spare places count too). A statement '..UptoSaid' is the law's where the arguments, and the package variables that the reading takes, are together of bulk at most 1048576: NARROWER than '..Said'. Prove '..Said' where nothing that the law and all that it calls make is longer than what came in: it says more and counts as full. Else prove '..UptoSaid'. A law counts once. -/
mutual
def uptoBulk {H : Type} : DataW H → Nat
  | .lit (.string bytes) => bytes.length + 1
  | .lit _ => 1
  | .nil => 1
  | .ptr d => uptoBulk d + 1
  | .slice elems spare => uptoBulkAll elems + uptoBulkAll spare + 1
  | .agg parts => uptoBulkAll parts + 1
  | .iface _ d => uptoBulk d + 1
  | .map entries => uptoBulkEntries entries + 1
  | .held _ => 1
def uptoBulkAll {H : Type} : List (DataW H) → Nat
  | [] => 0
  | d :: r => uptoBulk d + uptoBulkAll r
def uptoBulkEntries {H : Type} : List (Lit × DataW H) → Nat
  | [] => 0
  | x :: r => uptoBulkEntry x + uptoBulkEntries r
def uptoBulkEntry {H : Type} : Lit × DataW H → Nat
  | (.string bytes, d) => bytes.length + uptoBulk d + 1
  | (_, d) => uptoBulk d + 1
 end
def uptoSmall : (H : Type) → List (DataW H) → Bool := fun _ ds => decide (uptoBulkAll ds ≤ 1048576)
def OpenSpec.upto (s : _root_.Go.ChangeSpec) : _root_.Go.OpenSpec := { _root_.Go.OpenSpec.ofChange s with cond := some uptoSmall }

/-- 'foliotlaw01.FixedLogs', WHERE WHAT IT READS IS OF BULK AT MOST 1048576: true; the input reads as it did. -/
def fixedLogsUptoRow : OpenClaim := { program := "ytkcnibpjnhdfdaa", sum := "59541aed49b7599ef423dec730bc2ab80a796cc16557ce0d747bad76ccd1cd59", func := "foliot/foliotlaw01.FixedLogs", spec := "fixedLogs", inPlace := ["math/bits.Add64"], apart := false, narrowed := true }
def FixedLogsUptoSaid : Prop := fixedLogsUptoRow.holds Try.pinned (OpenSpec.upto fixedLogsSpec)

/-- 'foliotlaw01.FixedSums', WHERE WHAT IT READS IS OF BULK AT MOST 1048576: true; the input reads as it did. -/
def fixedSumsUptoRow : OpenClaim := { program := "ytkcnibpjnhdfdaa", sum := "59541aed49b7599ef423dec730bc2ab80a796cc16557ce0d747bad76ccd1cd59", func := "foliot/foliotlaw01.FixedSums", spec := "fixedSums", inPlace := ["math/bits.Add64"], named := ["math/bits.divideError", "math/bits.overflowError"], apart := false, narrowed := true }
def FixedSumsUptoSaid : Prop := fixedSumsUptoRow.holds Try.pinned (OpenSpec.upto fixedSumsSpec)

/-- 'foliotlaw01.FixedBack', WHERE WHAT IT READS IS OF BULK AT MOST 1048576: true; the input reads as it did. -/
def fixedBackUptoRow : OpenClaim := { program := "ytkcnibpjnhdfdaa", sum := "59541aed49b7599ef423dec730bc2ab80a796cc16557ce0d747bad76ccd1cd59", func := "foliot/foliotlaw01.FixedBack", spec := "fixedBack", inPlace := ["math/bits.Add64"], named := ["math/bits.divideError", "math/bits.overflowError"], apart := false, narrowed := true }
def FixedBackUptoSaid : Prop := fixedBackUptoRow.holds Try.pinned (OpenSpec.upto fixedBackSpec)

/-- 'foliotlaw01.FixedProducts', WHERE WHAT IT READS IS OF BULK AT MOST 1048576: true; the input reads as it did. -/
def fixedProductsUptoRow : OpenClaim := { program := "ytkcnibpjnhdfdaa", sum := "59541aed49b7599ef423dec730bc2ab80a796cc16557ce0d747bad76ccd1cd59", func := "foliot/foliotlaw01.FixedProducts", spec := "fixedProducts", inPlace := ["math/bits.Add64"], named := ["math/bits.divideError", "math/bits.overflowError"], apart := false, narrowed := true }
def FixedProductsUptoSaid : Prop := fixedProductsUptoRow.holds Try.pinned (OpenSpec.upto fixedProductsSpec)

/-- 'foliotlaw01.FixedRoots', WHERE WHAT IT READS IS OF BULK AT MOST 1048576: true; the input reads as it did. -/
def fixedRootsUptoRow : OpenClaim := { program := "ytkcnibpjnhdfdaa", sum := "59541aed49b7599ef423dec730bc2ab80a796cc16557ce0d747bad76ccd1cd59", func := "foliot/foliotlaw01.FixedRoots", spec := "fixedRoots", inPlace := ["math/bits.Add64"], named := ["math/bits.divideError", "math/bits.overflowError"], apart := false, narrowed := true }
def FixedRootsUptoSaid : Prop := fixedRootsUptoRow.holds Try.pinned (OpenSpec.upto fixedRootsSpec)

/-- 'foliotlaw01.FixedShifts', WHERE WHAT IT READS IS OF BULK AT MOST 1048576: true; the input reads as it did. -/
def fixedShiftsUptoRow : OpenClaim := { program := "ytkcnibpjnhdfdaa", sum := "59541aed49b7599ef423dec730bc2ab80a796cc16557ce0d747bad76ccd1cd59", func := "foliot/foliotlaw01.FixedShifts", spec := "fixedShifts", inPlace := ["math/bits.Add64"], named := ["math/bits.divideError", "math/bits.overflowError"], apart := false, narrowed := true }
def FixedShiftsUptoSaid : Prop := fixedShiftsUptoRow.holds Try.pinned (OpenSpec.upto fixedShiftsSpec)

/-- 'foliotlaw01.FixedPowers', WHERE WHAT IT READS IS OF BULK AT MOST 1048576: true; the input reads as it did. -/
def fixedPowersUptoRow : OpenClaim := { program := "ytkcnibpjnhdfdaa", sum := "59541aed49b7599ef423dec730bc2ab80a796cc16557ce0d747bad76ccd1cd59", func := "foliot/foliotlaw01.FixedPowers", spec := "fixedPowers", inPlace := ["math/bits.Add64"], named := ["math/bits.divideError", "math/bits.overflowError"], apart := false, narrowed := true }
def FixedPowersUptoSaid : Prop := fixedPowersUptoRow.holds Try.pinned (OpenSpec.upto fixedPowersSpec)

/-- 'foliotlaw01.FixedInside', WHERE WHAT IT READS IS OF BULK AT MOST 1048576: true; the input reads as it did. -/
def fixedInsideUptoRow : OpenClaim := { program := "ytkcnibpjnhdfdaa", sum := "59541aed49b7599ef423dec730bc2ab80a796cc16557ce0d747bad76ccd1cd59", func := "foliot/foliotlaw01.FixedInside", spec := "fixedInside", inPlace := ["math/bits.Add64"], named := ["math/bits.divideError", "math/bits.overflowError"], apart := false, narrowed := true }
def FixedInsideUptoSaid : Prop := fixedInsideUptoRow.holds Try.pinned (OpenSpec.upto fixedInsideSpec)

end Rows
end Go.Proofs.Ytkcnibpjnhdfdaa
