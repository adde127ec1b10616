/- Plain lemmas on the printed functions: whole numbers, no program in sight. -/
import Derived.Test.YtblmlfocmgpggaaPQ3
import Derived.Laws.BitsLemmas
namespace Go.Proofs.Ytblmlfocmgpggaa.Q
open Go Go.RowKit Go.Proofs.Ytblmlfocmgpggaa.Ev
set_option linter.unusedVariables false
set_option linter.unusedSimpArgs false
set_option maxRecDepth 100000
/-! ### what the laws of the filter need -/
theorem FS.Ok.tell {s : FS} {h : List S27} (ok : s.Ok h) (a : Int) (nw : Bool) : (s.tell a nw).Ok h := ok
theorem shift_neg (t : Int) (i : Nat) (h0 : 0 ≤ t) (h1 : t ≤ 68719476736) : shiftVal t (-(i : Int) - 1) = t / 2 ^ (i + 1) ∧ 0 ≤ t / 2 ^ (i + 1) ∧ t / 2 ^ (i + 1) ≤ t := by
  have hp : (0 : Int) < 2 ^ (i + 1) := Int.pow_pos (by decide)
  have a := Int.ediv_nonneg h0 (Int.le_of_lt hp)
  have b := Int.ediv_le_self (2 ^ (i + 1)) h0
  refine ⟨?_, a, b⟩
  unfold shiftVal
  rw [if_pos (by omega), show (-(-(i : Int) - 1)).toNat = i + 1 from by omega, sat_of (by omega) (by omega)]
def sumGo (now : Int) (l : List S27) : Nat → Nat → Int
  | 0, _ => 0
  | d + 1, i => termVal now l i / 2 ^ (i + 1) + sumGo now l d (i + 1)
theorem disp_sum (now : Int) (l : List S27) : ∀ (d i : Nat) (a : Int), d ≤ 8 → 0 ≤ a → a ≤ (8 - d) * 68719476736 → dispGo now l d i a = a + sumGo now l d i := by
  intro d
  induction d with
  | zero => intro i a _ _ _; simp [dispGo, sumGo]
  | succ d ih =>
    intro i a hd h0 h1
    obtain ⟨t0, t1⟩ := term_bd now l i
    obtain ⟨e, b0, b1⟩ := shift_neg (termVal now l i) i t0 t1
    unfold dispGo sumGo
    rw [e, sat_of (by omega) (by omega), ih (i + 1) _ (by omega) (by omega) (by omega)]
    omega
theorem disp_bd (now : Int) (l : List S27) : 0 ≤ dispGo now l 8 0 0 ∧ dispGo now l 8 0 0 ≤ 68719476736 := by
  rw [disp_sum now l 8 0 0 (by omega) (by omega) (by omega)]
  have t0 := term_bd now l 0
  have t1 := term_bd now l (0 + 1)
  have t2 := term_bd now l (0 + 1 + 1)
  have t3 := term_bd now l (0 + 1 + 1 + 1)
  have t4 := term_bd now l (0 + 1 + 1 + 1 + 1)
  have t5 := term_bd now l (0 + 1 + 1 + 1 + 1 + 1)
  have t6 := term_bd now l (0 + 1 + 1 + 1 + 1 + 1 + 1)
  have t7 := term_bd now l (0 + 1 + 1 + 1 + 1 + 1 + 1 + 1)
  simp only [sumGo]
  generalize termVal now l 0 = x0 at *
  generalize termVal now l (0 + 1) = x1 at *
  generalize termVal now l (0 + 1 + 1) = x2 at *
  generalize termVal now l (0 + 1 + 1 + 1) = x3 at *
  generalize termVal now l (0 + 1 + 1 + 1 + 1) = x4 at *
  generalize termVal now l (0 + 1 + 1 + 1 + 1 + 1) = x5 at *
  generalize termVal now l (0 + 1 + 1 + 1 + 1 + 1 + 1) = x6 at *
  generalize termVal now l (0 + 1 + 1 + 1 + 1 + 1 + 1 + 1) = x7 at *
  simp only [Nat.reduceAdd, Int.reducePow]
  omega
theorem sat_mono {a b : Int} (h : a ≤ b) : sat a ≤ sat b := by
  unfold sat clampTo; (repeat' split) <;> omega
theorem drift_mono {a b : Int} (h : mx a 0 ≤ mx b 0) : driftVal a ≤ driftVal b := by
  unfold driftVal
  exact sat_mono (Int.ediv_le_ediv (by omega) (by omega))
theorem grown_mono (x : S27) {n m : Int} (h : mx (sinceVal n x.f3) 0 ≤ mx (sinceVal m x.f3) 0) : grownVal x n ≤ grownVal x m := by
  have := sat_mono (show x.f2 + driftVal (sinceVal n x.f3) ≤ x.f2 + driftVal (sinceVal m x.f3) by have := drift_mono h; omega)
  unfold grownVal mx mn
  (repeat' split) <;> omega
theorem term_mono {n m : Int} (l : List S27) (hl : ∀ x ∈ l, mx (sinceVal n x.f3) 0 ≤ mx (sinceVal m x.f3) 0) (i : Nat) : termVal n l i ≤ termVal m l i := by
  unfold termVal
  split
  · rename_i hi
    rw [List.getD_eq_getElem?_getD, List.getElem?_eq_getElem hi]
    exact grown_mono _ (hl _ (List.getElem_mem _))
  · omega
theorem sum_mono {n m : Int} (l : List S27) (hl : ∀ x ∈ l, mx (sinceVal n x.f3) 0 ≤ mx (sinceVal m x.f3) 0) : ∀ (d i : Nat), sumGo n l d i ≤ sumGo m l d i
  | 0, _ => by simp [sumGo]
  | d + 1, i => by
    have a := sum_mono l hl d (i + 1)
    have b := Int.ediv_le_ediv (show (0 : Int) < 2 ^ (i + 1) from Int.pow_pos (by decide)) (term_mono l hl i)
    simp only [sumGo]
    omega
theorem disp_mono {n m : Int} (l : List S27) (hl : ∀ x ∈ l, mx (sinceVal n x.f3) 0 ≤ mx (sinceVal m x.f3) 0) : dispGo n l 8 0 0 ≤ dispGo m l 8 0 0 := by
  rw [disp_sum n l 8 0 0 (by omega) (by omega) (by omega), disp_sum m l 8 0 0 (by omega) (by omega) (by omega)]
  have := sum_mono l hl 8 0
  omega
theorem getD_ok {l : List S27} (h : ∀ x ∈ l, XOk x) (i : Nat) (hi : i < l.length) : XOk (l.getD i z_S27) := by
  rw [List.getD_eq_getElem?_getD, List.getElem?_eq_getElem hi]; exact h _ (List.getElem_mem _)
theorem hist_ok {P : S27 → Prop} {h : List S27} (hh : ∀ x ∈ h, P x) {x : S27} (hx : P x) : ∀ y ∈ (x :: h).take 8, P y := fun y hy => by
  rcases List.mem_cons.1 (List.mem_of_mem_take hy) with rfl | h1
  · exact hx
  · exact hh y h1
theorem since_self (a : Int) : sinceVal a a = 0 := by
  unfold sinceVal
  rw [Int.sub_self, u64_in (n := 0) (by omega) (by omega), w64_in (by omega) (by omega), sat_of (by omega) (by omega)]
end Go.Proofs.Ytblmlfocmgpggaa.Q
