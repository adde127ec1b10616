-- Pruned by a program (prune.py) for one law.
/- Arrays of whole numbers in memory: a cut from an index on, and what it reads. -/
import Derived.Test.YtbcdoncnhhjjeaaVSystemLostWWords
namespace Go.Proofs.YtbcdoncnhhjjeaaW.PrintWords
open Go Go.RowKit
set_option linter.unusedVariables false
set_option linter.unusedSimpArgs false
theorem arr_at {P : Program} {t e n z bytes : Nat} {zero : Option Value} {g o : Nat} {ik : IntKind} (ht : P.underlying t = some (.array n e)) (hi : (P.info? e).map (fun i => (i.zero, i.size, i.bytes)) = some (zero, z, bytes)) (j : Int) (h0 : 0 ≤ j) (h1 : j < n) (m : Nat) (hm : o + j.toNat * z = m) :
    ∀ W : World, (Instr.indexAt t (.pointer (some ⟨g, o, none⟩)) (.int ik j)).run P W = .ok (.pointer (some ⟨g, m, none⟩)) W := by
  intro W
  cases hq : P.info? e with
  | none => rw [hq] at hi; cases hi
  | some i =>
    rw [hq] at hi
    have hs : i.size = z := by
      simp only [Option.map_some, Option.some.injEq, Prod.mk.injEq] at hi
      exact hi.2.1
    have hel : P.elem t = e := by simp [Program.elem, ht]
    have hln : P.arrayLen t = n := by simp [Program.arrayLen, ht]
    rw [run_indexAt_array W t ⟨g, o, none⟩ ik j (by rw [hel, hln]; exact ht), hln, if_pos ⟨h0, h1⟩, hel]
    subst hm
    simp [sizeOf, typeInfo, hq, hs, Result.andThen, Addr.add]
end Go.Proofs.YtbcdoncnhhjjeaaW.PrintWords

