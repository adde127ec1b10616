-- Pruned by a program (prune.py) for one law.
/- Short ways to tell again what is held, at the world behind an event. -/
import Derived.Test.YtbcdoncnhhjjeaaVSystemLostWWords
namespace Go.Proofs.YtbcdoncnhhjjeaaW.PrintWords
open Go Go.RowKit
set_option linter.unusedVariables false
set_option linter.unusedSimpArgs false
theorem bBel {w0 w w1 : World} {g : Nat} {o : Obj} (H : Aside0 (w0.heap[g]? = some o)) (hb : Below w.heap.size w w1) (e : w.heap = w0.heap := by rfl) : w1.heap[g]? = some o := by
  have h : w.heap[g]? = some o := by rw [e]; exact H.out
  exact blk_below h hb
theorem nbL {w0 w : World} {g b : Nat} {o : Obj} (H : Aside0 (w0.heap[g]? = some o)) (hg : b = w.heap.size) (e : w.heap = w0.heap := by rfl) : g ≠ b := by
  have h : w.heap[g]? = some o := by rw [e]; exact H.out
  rw [hg]
  exact Nat.ne_of_lt (blk_lt h)
end Go.Proofs.YtbcdoncnhhjjeaaW.PrintWords

