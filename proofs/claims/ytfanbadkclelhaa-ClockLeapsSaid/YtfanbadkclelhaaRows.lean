/-
  No cell of these rows narrows 'for every input' (looked for: loops, veiled, ifaces, maps, wideKeys, modest, calm, conditions, laid).
  DERIVED. THE GIVEN ROWS OF THIS SEAT. 4 by the template 'for every input the law returns true; each argument reads behind the call as it read before'; 0 by the template 'total and deterministic' (their statements: YtfanbadkclelhaaTotals.lean).
  GIVEN WITH THE SEED: the statements are not yours to turn. If you find one false, say at which input.
  Laid BY PROGRAM, IN A SANDBOX (cutbox-rows.mjs): the forced cells as the released guide's own fill.sh prints them over the translation b695d79e578f7a61… (all of the seat's roots in one cut). By AI agents, Wed Nov 11 2026. No macro, syntax, notation, axiom, sorry.
-/
import Derived.Test.YtfanbadkclelhaaChecked
import GoSem.Claim
import GoSem.ClaimJoined
import GoSem.ClaimMapViews
import Derived.JoinedTies
import Derived.KernelRfl
namespace Go.Proofs.Ytfanbadkclelhaa
/- THE CELL 'sum', in the pinned program and in every row, IS THE sha256 OF THE DUMP (.gsa) THAT YtfanbadkclelhaaProg.lean LOADS. Nothing in Lean hashes anything: it is a label: what it is worth is what the hold of that sum in a sandbox is worth. -/
noncomputable def Try.pinned : Pinned := { name := "ytfanbadkclelhaa", sum := "b695d79e578f7a612c689f1514cacd15cc7b659ae58080e575e70fb252107341", checked := Try.checked }
namespace Rows
def none {H : Type} : Left H := { results := [], args := [] }

/-- 'foliotlaw16.ClockAdds': WHATEVER THE INPUT: true; the input reads as it did. -/
def clockAddsSpec : ChangeSpec := { name := "clockAdds", fn := fun _ => fun
  | [d1, d2, d3] => { results := [.lit (.bool true)], args := [d1, d2, d3] }
  | _ => none }
def clockAddsRow : OpenClaim := { program := "ytfanbadkclelhaa", sum := "b695d79e578f7a612c689f1514cacd15cc7b659ae58080e575e70fb252107341", func := "foliot/foliotlaw16.ClockAdds", spec := "clockAdds", inPlace := ["math/bits.Add64"], unfollowed := true, recurses := true, apart := false }
def ClockAddsSaid : Prop := clockAddsRow.holds Try.pinned (OpenSpec.ofChange clockAddsSpec)

/-- ITS FALSE NEIGHBOUR: 'it returns false'. Refute it at one input. -/
def clockAddsWrong : ChangeSpec := { name := "clockAdds", fn := fun _ => fun
  | [d1, d2, d3] => { results := [.lit (.bool false)], args := [d1, d2, d3] }
  | _ => none }
def ClockAddsWrongFalsely : Prop := clockAddsRow.holds Try.pinned (OpenSpec.ofChange clockAddsWrong)

/-- 'foliotlaw16.ClockLeaps': WHATEVER THE INPUT: true; the input reads as it did. -/
def clockLeapsSpec : ChangeSpec := { name := "clockLeaps", fn := fun _ => fun
  | [d1, d2, d3] => { results := [.lit (.bool true)], args := [d1, d2, d3] }
  | _ => none }
def clockLeapsRow : OpenClaim := { program := "ytfanbadkclelhaa", sum := "b695d79e578f7a612c689f1514cacd15cc7b659ae58080e575e70fb252107341", func := "foliot/foliotlaw16.ClockLeaps", spec := "clockLeaps", inPlace := ["math/bits.Add64"], unfollowed := true, recurses := true, apart := false }
def ClockLeapsSaid : Prop := clockLeapsRow.holds Try.pinned (OpenSpec.ofChange clockLeapsSpec)

/-- ITS FALSE NEIGHBOUR: 'it returns false'. Refute it at one input. -/
def clockLeapsWrong : ChangeSpec := { name := "clockLeaps", fn := fun _ => fun
  | [d1, d2, d3] => { results := [.lit (.bool false)], args := [d1, d2, d3] }
  | _ => none }
def ClockLeapsWrongFalsely : Prop := clockLeapsRow.holds Try.pinned (OpenSpec.ofChange clockLeapsWrong)

/-- 'foliotlaw16.ClockSteady': WHATEVER THE INPUT: true; the input reads as it did. -/
def clockSteadySpec : ChangeSpec := { name := "clockSteady", fn := fun _ => fun
  | [d1, d2, d3, d4] => { results := [.lit (.bool true)], args := [d1, d2, d3, d4] }
  | _ => none }
def clockSteadyRow : OpenClaim := { program := "ytfanbadkclelhaa", sum := "b695d79e578f7a612c689f1514cacd15cc7b659ae58080e575e70fb252107341", func := "foliot/foliotlaw16.ClockSteady", spec := "clockSteady", inPlace := ["math/bits.Add64"], unfollowed := true, recurses := true, apart := false }
def ClockSteadySaid : Prop := clockSteadyRow.holds Try.pinned (OpenSpec.ofChange clockSteadySpec)

/-- ITS FALSE NEIGHBOUR: 'it returns false'. Refute it at one input. -/
def clockSteadyWrong : ChangeSpec := { name := "clockSteady", fn := fun _ => fun
  | [d1, d2, d3, d4] => { results := [.lit (.bool false)], args := [d1, d2, d3, d4] }
  | _ => none }
def ClockSteadyWrongFalsely : Prop := clockSteadyRow.holds Try.pinned (OpenSpec.ofChange clockSteadyWrong)

/-- 'foliotlaw16.ClockScript': WHATEVER THE INPUT: true; the input reads as it did. -/
def clockScriptSpec : ChangeSpec := { name := "clockScript", fn := fun _ => fun
  | [d1, d2, d3, d4] => { results := [.lit (.bool true)], args := [d1, d2, d3, d4] }
  | _ => none }
def clockScriptRow : OpenClaim := { program := "ytfanbadkclelhaa", sum := "b695d79e578f7a612c689f1514cacd15cc7b659ae58080e575e70fb252107341", func := "foliot/foliotlaw16.ClockScript", spec := "clockScript", inPlace := ["math/bits.Add64"], unfollowed := true, recurses := true, named := ["math/bits.divideError", "math/bits.overflowError"], apart := false }
def ClockScriptSaid : Prop := clockScriptRow.holds Try.pinned (OpenSpec.ofChange clockScriptSpec)

/-- ITS FALSE NEIGHBOUR: 'it returns false'. Refute it at one input. -/
def clockScriptWrong : ChangeSpec := { name := "clockScript", fn := fun _ => fun
  | [d1, d2, d3, d4] => { results := [.lit (.bool false)], args := [d1, d2, d3, d4] }
  | _ => none }
def ClockScriptWrongFalsely : Prop := clockScriptRow.holds Try.pinned (OpenSpec.ofChange clockScriptWrong)

/- THE SECOND FORM. 'bulk': how many values and letters a reading holds, each counted each time it is reached (what is shared counts as often as it is met; a slice's spare places count too). A statement '..UptoSaid' is the law's where the arguments, and the package variables that the reading takes, are together of bulk at most 1048576: NARROWER than '..Said'. Prove '..Said' where nothing that the law and all that it calls make is longer than what came in: it says more and counts as full. Else prove '..UptoSaid'. A law counts once. -/
mutual
def uptoBulk {H : Type} : DataW H → Nat
  | .lit (.string bytes) => bytes.length + 1
  | .lit _ => 1
  | .nil => 1
  | .ptr d => uptoBulk d + 1
  | .slice elems spare => uptoBulkAll elems + uptoBulkAll spare + 1
  | .agg parts => uptoBulkAll parts + 1
  | .iface _ d => uptoBulk d + 1
  | .map entries => uptoBulkEntries entries + 1
  | .held _ => 1
def uptoBulkAll {H : Type} : List (DataW H) → Nat
  | [] => 0
  | d :: r => uptoBulk d + uptoBulkAll r
def uptoBulkEntries {H : Type} : List (Lit × DataW H) → Nat
  | [] => 0
  | x :: r => uptoBulkEntry x + uptoBulkEntries r
def uptoBulkEntry {H : Type} : Lit × DataW H → Nat
  | (.string bytes, d) => bytes.length + uptoBulk d + 1
  | (_, d) => uptoBulk d + 1
 end
def uptoSmall : (H : Type) → List (DataW H) → Bool := fun _ ds => decide (uptoBulkAll ds ≤ 1048576)
def OpenSpec.upto (s : _root_.Go.ChangeSpec) : _root_.Go.OpenSpec := { _root_.Go.OpenSpec.ofChange s with cond := some uptoSmall }

/-- 'foliotlaw16.ClockAdds', WHERE WHAT IT READS IS OF BULK AT MOST 1048576: true; the input reads as it did. -/
def clockAddsUptoRow : OpenClaim := { program := "ytfanbadkclelhaa", sum := "b695d79e578f7a612c689f1514cacd15cc7b659ae58080e575e70fb252107341", func := "foliot/foliotlaw16.ClockAdds", spec := "clockAdds", inPlace := ["math/bits.Add64"], unfollowed := true, recurses := true, apart := false, narrowed := true }
def ClockAddsUptoSaid : Prop := clockAddsUptoRow.holds Try.pinned (OpenSpec.upto clockAddsSpec)

/-- 'foliotlaw16.ClockLeaps', WHERE WHAT IT READS IS OF BULK AT MOST 1048576: true; the input reads as it did. -/
def clockLeapsUptoRow : OpenClaim := { program := "ytfanbadkclelhaa", sum := "b695d79e578f7a612c689f1514cacd15cc7b659ae58080e575e70fb252107341", func := "foliot/foliotlaw16.ClockLeaps", spec := "clockLeaps", inPlace := ["math/bits.Add64"], unfollowed := true, recurses := true, apart := false, narrowed := true }
def ClockLeapsUptoSaid : Prop := clockLeapsUptoRow.holds Try.pinned (OpenSpec.upto clockLeapsSpec)

/-- 'foliotlaw16.ClockSteady', WHERE WHAT IT READS IS OF BULK AT MOST 1048576: true; the input reads as it did. -/
def clockSteadyUptoRow : OpenClaim := { program := "ytfanbadkclelhaa", sum := "b695d79e578f7a612c689f1514cacd15cc7b659ae58080e575e70fb252107341", func := "foliot/foliotlaw16.ClockSteady", spec := "clockSteady", inPlace := ["math/bits.Add64"], unfollowed := true, recurses := true, apart := false, narrowed := true }
def ClockSteadyUptoSaid : Prop := clockSteadyUptoRow.holds Try.pinned (OpenSpec.upto clockSteadySpec)

/-- 'foliotlaw16.ClockScript', WHERE WHAT IT READS IS OF BULK AT MOST 1048576: true; the input reads as it did. -/
def clockScriptUptoRow : OpenClaim := { program := "ytfanbadkclelhaa", sum := "b695d79e578f7a612c689f1514cacd15cc7b659ae58080e575e70fb252107341", func := "foliot/foliotlaw16.ClockScript", spec := "clockScript", inPlace := ["math/bits.Add64"], unfollowed := true, recurses := true, named := ["math/bits.divideError", "math/bits.overflowError"], apart := false, narrowed := true }
def ClockScriptUptoSaid : Prop := clockScriptUptoRow.holds Try.pinned (OpenSpec.upto clockScriptSpec)

end Rows
end Go.Proofs.Ytfanbadkclelhaa
