/-
  No cell of these rows narrows 'for every input' (looked for: loops, veiled, ifaces, maps, wideKeys, modest, calm, conditions, laid).
  DERIVED. THE GIVEN ROWS OF THIS SEAT. 7 by the template 'for every input the law returns true; each argument reads behind the call as it read before'; 0 by the template 'total and deterministic' (their statements: YtjfcfljdojkcdaaTotals.lean).
  GIVEN WITH THE SEED: the statements are not yours to turn. If you find one false, say at which input.
  Laid BY PROGRAM, IN A SANDBOX (cutbox-rows.mjs): the forced cells as the released guide's own fill.sh prints them over the translation 4b6062b78547897f… (all of the seat's roots in one cut). By AI agents, Wed Nov 11 2026. No macro, syntax, notation, axiom, sorry.
-/
import Derived.Test.YtjfcfljdojkcdaaChecked
import GoSem.Claim
import GoSem.ClaimJoined
import GoSem.ClaimMapViews
import Derived.JoinedTies
import Derived.KernelRfl
namespace Go.Proofs.Ytjfcfljdojkcdaa
/- THE CELL 'sum', in the pinned program and in every row, IS THE sha256 OF THE DUMP (.gsa) THAT YtjfcfljdojkcdaaProg.lean LOADS. Nothing in Lean hashes anything: it is a label: what it is worth is what the hold of that sum in a sandbox is worth. -/
noncomputable def Try.pinned : Pinned := { name := "ytjfcfljdojkcdaa", sum := "4b6062b78547897f39ffc6b5af4d963c4ee7565d08debf869ab2e255c6dd3148", checked := Try.checked }
namespace Rows
def none {H : Type} : Left H := { results := [], args := [] }

/-- 'foliotlaw06.RestrictTurned': WHATEVER THE INPUT: true; the input reads as it did. -/
def restrictTurnedSpec : ChangeSpec := { name := "restrictTurned", fn := fun _ => fun
  | [d1, d2, d3] => { results := [.lit (.bool true)], args := [d1, d2, d3] }
  | _ => none }
def restrictTurnedRow : OpenClaim := { program := "ytjfcfljdojkcdaa", sum := "4b6062b78547897f39ffc6b5af4d963c4ee7565d08debf869ab2e255c6dd3148", func := "foliot/foliotlaw06.RestrictTurned", spec := "restrictTurned", apart := false }
def RestrictTurnedSaid : Prop := restrictTurnedRow.holds Try.pinned (OpenSpec.ofChange restrictTurnedSpec)

/-- ITS FALSE NEIGHBOUR: 'it returns false'. Refute it at one input. -/
def restrictTurnedWrong : ChangeSpec := { name := "restrictTurned", fn := fun _ => fun
  | [d1, d2, d3] => { results := [.lit (.bool false)], args := [d1, d2, d3] }
  | _ => none }
def RestrictTurnedWrongFalsely : Prop := restrictTurnedRow.holds Try.pinned (OpenSpec.ofChange restrictTurnedWrong)

/-- 'foliotlaw06.RestrictRates': WHATEVER THE INPUT: true; the input reads as it did. -/
def restrictRatesSpec : ChangeSpec := { name := "restrictRates", fn := fun _ => fun
  | [d1, d2, d3] => { results := [.lit (.bool true)], args := [d1, d2, d3] }
  | _ => none }
def restrictRatesRow : OpenClaim := { program := "ytjfcfljdojkcdaa", sum := "4b6062b78547897f39ffc6b5af4d963c4ee7565d08debf869ab2e255c6dd3148", func := "foliot/foliotlaw06.RestrictRates", spec := "restrictRates", unfollowed := true, recurses := true, apart := false }
def RestrictRatesSaid : Prop := restrictRatesRow.holds Try.pinned (OpenSpec.ofChange restrictRatesSpec)

/-- ITS FALSE NEIGHBOUR: 'it returns false'. Refute it at one input. -/
def restrictRatesWrong : ChangeSpec := { name := "restrictRates", fn := fun _ => fun
  | [d1, d2, d3] => { results := [.lit (.bool false)], args := [d1, d2, d3] }
  | _ => none }
def RestrictRatesWrongFalsely : Prop := restrictRatesRow.holds Try.pinned (OpenSpec.ofChange restrictRatesWrong)

/-- 'foliotlaw06.RestrictKisses': WHATEVER THE INPUT: true; the input reads as it did. -/
def restrictKissesSpec : ChangeSpec := { name := "restrictKisses", fn := fun _ => fun
  | [d1, d2, d3, d4] => { results := [.lit (.bool true)], args := [d1, d2, d3, d4] }
  | _ => none }
def restrictKissesRow : OpenClaim := { program := "ytjfcfljdojkcdaa", sum := "4b6062b78547897f39ffc6b5af4d963c4ee7565d08debf869ab2e255c6dd3148", func := "foliot/foliotlaw06.RestrictKisses", spec := "restrictKisses", unfollowed := true, recurses := true, apart := false }
def RestrictKissesSaid : Prop := restrictKissesRow.holds Try.pinned (OpenSpec.ofChange restrictKissesSpec)

/-- ITS FALSE NEIGHBOUR: 'it returns false'. Refute it at one input. -/
def restrictKissesWrong : ChangeSpec := { name := "restrictKisses", fn := fun _ => fun
  | [d1, d2, d3, d4] => { results := [.lit (.bool false)], args := [d1, d2, d3, d4] }
  | _ => none }
def RestrictKissesWrongFalsely : Prop := restrictKissesRow.holds Try.pinned (OpenSpec.ofChange restrictKissesWrong)

/-- 'foliotlaw06.RestrictRules': WHATEVER THE INPUT: true; the input reads as it did. -/
def restrictRulesSpec : ChangeSpec := { name := "restrictRules", fn := fun _ => fun
  | [d1, d2] => { results := [.lit (.bool true)], args := [d1, d2] }
  | _ => none }
def restrictRulesRow : OpenClaim := { program := "ytjfcfljdojkcdaa", sum := "4b6062b78547897f39ffc6b5af4d963c4ee7565d08debf869ab2e255c6dd3148", func := "foliot/foliotlaw06.RestrictRules", spec := "restrictRules", unfollowed := true, recurses := true, apart := false }
def RestrictRulesSaid : Prop := restrictRulesRow.holds Try.pinned (OpenSpec.ofChange restrictRulesSpec)

/-- ITS FALSE NEIGHBOUR: 'it returns false'. Refute it at one input. -/
def restrictRulesWrong : ChangeSpec := { name := "restrictRules", fn := fun _ => fun
  | [d1, d2] => { results := [.lit (.bool false)], args := [d1, d2] }
  | _ => none }
def RestrictRulesWrongFalsely : Prop := restrictRulesRow.holds Try.pinned (OpenSpec.ofChange restrictRulesWrong)

/-- 'foliotlaw06.RestrictSorted': WHATEVER THE INPUT: true; the input reads as it did. -/
def restrictSortedSpec : ChangeSpec := { name := "restrictSorted", fn := fun _ => fun
  | [d1, d2] => { results := [.lit (.bool true)], args := [d1, d2] }
  | _ => none }
def restrictSortedRow : OpenClaim := { program := "ytjfcfljdojkcdaa", sum := "4b6062b78547897f39ffc6b5af4d963c4ee7565d08debf869ab2e255c6dd3148", func := "foliot/foliotlaw06.RestrictSorted", spec := "restrictSorted", unfollowed := true, recurses := true, apart := false }
def RestrictSortedSaid : Prop := restrictSortedRow.holds Try.pinned (OpenSpec.ofChange restrictSortedSpec)

/-- ITS FALSE NEIGHBOUR: 'it returns false'. Refute it at one input. -/
def restrictSortedWrong : ChangeSpec := { name := "restrictSorted", fn := fun _ => fun
  | [d1, d2] => { results := [.lit (.bool false)], args := [d1, d2] }
  | _ => none }
def RestrictSortedWrongFalsely : Prop := restrictSortedRow.holds Try.pinned (OpenSpec.ofChange restrictSortedWrong)

/-- 'foliotlaw06.RestrictMemory': WHATEVER THE INPUT: true; the input reads as it did. -/
def restrictMemorySpec : ChangeSpec := { name := "restrictMemory", fn := fun _ => fun
  | [d1, d2, d3] => { results := [.lit (.bool true)], args := [d1, d2, d3] }
  | _ => none }
def restrictMemoryRow : OpenClaim := { program := "ytjfcfljdojkcdaa", sum := "4b6062b78547897f39ffc6b5af4d963c4ee7565d08debf869ab2e255c6dd3148", func := "foliot/foliotlaw06.RestrictMemory", spec := "restrictMemory", unfollowed := true, recurses := true, apart := false }
def RestrictMemorySaid : Prop := restrictMemoryRow.holds Try.pinned (OpenSpec.ofChange restrictMemorySpec)

/-- ITS FALSE NEIGHBOUR: 'it returns false'. Refute it at one input. -/
def restrictMemoryWrong : ChangeSpec := { name := "restrictMemory", fn := fun _ => fun
  | [d1, d2, d3] => { results := [.lit (.bool false)], args := [d1, d2, d3] }
  | _ => none }
def RestrictMemoryWrongFalsely : Prop := restrictMemoryRow.holds Try.pinned (OpenSpec.ofChange restrictMemoryWrong)

/-- 'foliotlaw06.RestrictRecent': WHATEVER THE INPUT: true; the input reads as it did. -/
def restrictRecentSpec : ChangeSpec := { name := "restrictRecent", fn := fun _ => fun
  | [d] => { results := [.lit (.bool true)], args := [d] }
  | _ => none }
def restrictRecentRow : OpenClaim := { program := "ytjfcfljdojkcdaa", sum := "4b6062b78547897f39ffc6b5af4d963c4ee7565d08debf869ab2e255c6dd3148", func := "foliot/foliotlaw06.RestrictRecent", spec := "restrictRecent", unfollowed := true, recurses := true, apart := false }
def RestrictRecentSaid : Prop := restrictRecentRow.holds Try.pinned (OpenSpec.ofChange restrictRecentSpec)

/-- ITS FALSE NEIGHBOUR: 'it returns false'. Refute it at one input. -/
def restrictRecentWrong : ChangeSpec := { name := "restrictRecent", fn := fun _ => fun
  | [d] => { results := [.lit (.bool false)], args := [d] }
  | _ => none }
def RestrictRecentWrongFalsely : Prop := restrictRecentRow.holds Try.pinned (OpenSpec.ofChange restrictRecentWrong)

/- THE SECOND FORM. 'bulk': how many values and letters a reading holds, each counted each time it is reached (what is shared counts as often as it is met; a slice's spare places count too). A statement '..UptoSaid' is the law's where the arguments, and the package variables that the reading takes, are together of bulk at most 1048576: NARROWER than '..Said'. Prove '..Said' where nothing that the law and all that it calls make is longer than what came in: it says more and counts as full. Else prove '..UptoSaid'. A law counts once. -/
mutual
def uptoBulk {H : Type} : DataW H → Nat
  | .lit (.string bytes) => bytes.length + 1
  | .lit _ => 1
  | .nil => 1
  | .ptr d => uptoBulk d + 1
  | .slice elems spare => uptoBulkAll elems + uptoBulkAll spare + 1
  | .agg parts => uptoBulkAll parts + 1
  | .iface _ d => uptoBulk d + 1
  | .map entries => uptoBulkEntries entries + 1
  | .held _ => 1
def uptoBulkAll {H : Type} : List (DataW H) → Nat
  | [] => 0
  | d :: r => uptoBulk d + uptoBulkAll r
def uptoBulkEntries {H : Type} : List (Lit × DataW H) → Nat
  | [] => 0
  | x :: r => uptoBulkEntry x + uptoBulkEntries r
def uptoBulkEntry {H : Type} : Lit × DataW H → Nat
  | (.string bytes, d) => bytes.length + uptoBulk d + 1
  | (_, d) => uptoBulk d + 1
 end
def uptoSmall : (H : Type) → List (DataW H) → Bool := fun _ ds => decide (uptoBulkAll ds ≤ 1048576)
def OpenSpec.upto (s : _root_.Go.ChangeSpec) : _root_.Go.OpenSpec := { _root_.Go.OpenSpec.ofChange s with cond := some uptoSmall }

/-- 'foliotlaw06.RestrictTurned', WHERE WHAT IT READS IS OF BULK AT MOST 1048576: true; the input reads as it did. -/
def restrictTurnedUptoRow : OpenClaim := { program := "ytjfcfljdojkcdaa", sum := "4b6062b78547897f39ffc6b5af4d963c4ee7565d08debf869ab2e255c6dd3148", func := "foliot/foliotlaw06.RestrictTurned", spec := "restrictTurned", apart := false, narrowed := true }
def RestrictTurnedUptoSaid : Prop := restrictTurnedUptoRow.holds Try.pinned (OpenSpec.upto restrictTurnedSpec)

/-- 'foliotlaw06.RestrictRates', WHERE WHAT IT READS IS OF BULK AT MOST 1048576: true; the input reads as it did. -/
def restrictRatesUptoRow : OpenClaim := { program := "ytjfcfljdojkcdaa", sum := "4b6062b78547897f39ffc6b5af4d963c4ee7565d08debf869ab2e255c6dd3148", func := "foliot/foliotlaw06.RestrictRates", spec := "restrictRates", unfollowed := true, recurses := true, apart := false, narrowed := true }
def RestrictRatesUptoSaid : Prop := restrictRatesUptoRow.holds Try.pinned (OpenSpec.upto restrictRatesSpec)

/-- 'foliotlaw06.RestrictKisses', WHERE WHAT IT READS IS OF BULK AT MOST 1048576: true; the input reads as it did. -/
def restrictKissesUptoRow : OpenClaim := { program := "ytjfcfljdojkcdaa", sum := "4b6062b78547897f39ffc6b5af4d963c4ee7565d08debf869ab2e255c6dd3148", func := "foliot/foliotlaw06.RestrictKisses", spec := "restrictKisses", unfollowed := true, recurses := true, apart := false, narrowed := true }
def RestrictKissesUptoSaid : Prop := restrictKissesUptoRow.holds Try.pinned (OpenSpec.upto restrictKissesSpec)

/-- 'foliotlaw06.RestrictRules', WHERE WHAT IT READS IS OF BULK AT MOST 1048576: true; the input reads as it did. -/
def restrictRulesUptoRow : OpenClaim := { program := "ytjfcfljdojkcdaa", sum := "4b6062b78547897f39ffc6b5af4d963c4ee7565d08debf869ab2e255c6dd3148", func := "foliot/foliotlaw06.RestrictRules", spec := "restrictRules", unfollowed := true, recurses := true, apart := false, narrowed := true }
def RestrictRulesUptoSaid : Prop := restrictRulesUptoRow.holds Try.pinned (OpenSpec.upto restrictRulesSpec)

/-- 'foliotlaw06.RestrictSorted', WHERE WHAT IT READS IS OF BULK AT MOST 1048576: true; the input reads as it did. -/
def restrictSortedUptoRow : OpenClaim := { program := "ytjfcfljdojkcdaa", sum := "4b6062b78547897f39ffc6b5af4d963c4ee7565d08debf869ab2e255c6dd3148", func := "foliot/foliotlaw06.RestrictSorted", spec := "restrictSorted", unfollowed := true, recurses := true, apart := false, narrowed := true }
def RestrictSortedUptoSaid : Prop := restrictSortedUptoRow.holds Try.pinned (OpenSpec.upto restrictSortedSpec)

/-- 'foliotlaw06.RestrictMemory', WHERE WHAT IT READS IS OF BULK AT MOST 1048576: true; the input reads as it did. -/
def restrictMemoryUptoRow : OpenClaim := { program := "ytjfcfljdojkcdaa", sum := "4b6062b78547897f39ffc6b5af4d963c4ee7565d08debf869ab2e255c6dd3148", func := "foliot/foliotlaw06.RestrictMemory", spec := "restrictMemory", unfollowed := true, recurses := true, apart := false, narrowed := true }
def RestrictMemoryUptoSaid : Prop := restrictMemoryUptoRow.holds Try.pinned (OpenSpec.upto restrictMemorySpec)

/-- 'foliotlaw06.RestrictRecent', WHERE WHAT IT READS IS OF BULK AT MOST 1048576: true; the input reads as it did. -/
def restrictRecentUptoRow : OpenClaim := { program := "ytjfcfljdojkcdaa", sum := "4b6062b78547897f39ffc6b5af4d963c4ee7565d08debf869ab2e255c6dd3148", func := "foliot/foliotlaw06.RestrictRecent", spec := "restrictRecent", unfollowed := true, recurses := true, apart := false, narrowed := true }
def RestrictRecentUptoSaid : Prop := restrictRecentUptoRow.holds Try.pinned (OpenSpec.upto restrictRecentSpec)

end Rows
end Go.Proofs.Ytjfcfljdojkcdaa
