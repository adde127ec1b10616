/- Plain lemmas on the printed functions: whole numbers and lists, no program in sight. -/
import Derived.Test.YtjfcfljdojkcdaaYd
import Derived.Laws.BitsLemmas
import Derived.Laws.Bits64
import Derived.Laws.Bits64b
import Derived.Sort.AssemblyPlain
import Derived.Sort.LotD5
import Derived.Sort.LotD4
namespace Go.Proofs.Ytjfcfljdojkcdaa.C9
open Go Go.RowKit Go.Proofs.Ytjfcfljdojkcdaa.Ev
set_option linter.unusedVariables false
set_option linter.unusedSimpArgs false
set_option maxRecDepth 100000
/-! ### the partial insertion sort -/
theorem q_x0 (a b i s : Nat) (d : Array S78) (k : Nat) : slices_partialInsertionSortCmpFunc_restrict_known.l0 (k + 1) (a : Int) (b : Int) (i : Int) (s : Int) d.toList = if s < 5 then slices_partialInsertionSortCmpFunc_restrict_known.l1 k (a : Int) (b : Int) (i : Int) (s : Int) d.toList else some (false, d.toList) := by
  have c0 : ((s : Int) < 5) = (s < 5) := by apply propext; omega
  rw [slices_partialInsertionSortCmpFunc_restrict_known.l0]
  simp only [c0]
theorem q_x1 (a b i s : Nat) (d : Array S78) (ha : a < i) (hib : i ≤ b) (hb : b ≤ d.size) (hB : BIG d.size) (hs : s < 5) (k : Nat) : slices_partialInsertionSortCmpFunc_restrict_known.l1 (k + 1) (a : Int) (b : Int) (i : Int) (s : Int) d.toList =
    if i < b ∧ ltR d[i]! d[i - 1]! = false then slices_partialInsertionSortCmpFunc_restrict_known.l1 k (a : Int) (b : Int) ((i + 1 : Nat) : Int) (s : Int) d.toList else if i = b then some (true, d.toList) else if b - a < 50 then some (false, d.toList)
      else (if i - a ≥ 2 then slices_partialInsertionSortCmpFunc_restrict_known.l2 k (a : Int) (b : Int) (i : Int) (s : Int) ((i - 1 : Nat) : Int) (Go.Sort.swp d i (i - 1)).toList else if b - i ≥ 2 then slices_partialInsertionSortCmpFunc_restrict_known.l3 k (a : Int) (b : Int) (i : Int) (s : Int) ((i + 1 : Nat) : Int) (Go.Sort.swp d i (i - 1)).toList else slices_partialInsertionSortCmpFunc_restrict_known.l0 k (a : Int) (b : Int) (i : Int) ((s + 1 : Nat) : Int) (Go.Sort.swp d i (i - 1)).toList) := by
  have c0 : ((i : Int) < (b : Int)) = (i < b) := by apply propext; omega
  have c3 : ((i : Int) = (b : Int)) = (i = b) := by apply propext; omega
  have c4 : (((b - a : Nat) : Int) < 50) = (b - a < 50) := by apply propext; omega
  have c5 : (((i - a : Nat) : Int) ≥ 2) = (i - a ≥ 2) := by apply propext; omega
  have c6 : (((b - i : Nat) : Int) ≥ 2) = (b - i ≥ 2) := by apply propext; omega
  have m1 : 1 ≤ i := by omega
  have m2 : i ≤ 900000000000000 := by omega
  have m3 : s ≤ 900000000000000 := by omega
  have m4 : b = a + (b - a) := by omega
  have m5 : b ≤ 900000000000000 := by omega
  have m6 : i = a + (i - a) := by omega
  have m7 : b = i + (b - i) := by omega
  by_cases h : i < b
  · have c1 : ((i : Int) < ((d.size : Nat) : Int)) = True := by simp only [eq_iff_iff, iff_true]; omega
    have c2 : (((i - 1 : Nat) : Int) < ((d.size : Nat) : Int)) = True := by simp only [eq_iff_iff, iff_true]; omega
    have h2 : ¬ i = b := by omega
    rw [slices_partialInsertionSortCmpFunc_restrict_known.l1]
    simp only [c0, c3, qsub b a (b - a) m4 m5, qsub i a (i - a) m6 m2, qsub b i (b - i) m7 m5, c4, c5, c6, if_pos h, h, true_and, qm1 i m1 m2, qsuc i m2, qsuc s m3, c1, c2, lll, lls, nn, if_true, rdA, less_val, bsome, less_iff, ite_not, bif_b, bif_nb, etaR, ltq, tnc, swpL, if_neg h2]
    cases ltR d[i]! d[i - 1]! <;> simp
  · have h2 : i = b := by omega
    rw [slices_partialInsertionSortCmpFunc_restrict_known.l1]
    simp only [c0, c3, if_neg h, h, false_and, if_false, if_pos h2]
theorem q_x2 (a b i s j : Nat) (d : Array S78) (hib : i ≤ b) (hb : b ≤ d.size) (hj : j < d.size) (hB : BIG d.size) (hs : s < 5) (k : Nat) : slices_partialInsertionSortCmpFunc_restrict_known.l2 (k + 1) (a : Int) (b : Int) (i : Int) (s : Int) (j : Int) d.toList =
    if 1 ≤ j ∧ ltR d[j]! d[j - 1]! = true then slices_partialInsertionSortCmpFunc_restrict_known.l2 k (a : Int) (b : Int) (i : Int) (s : Int) ((j - 1 : Nat) : Int) (Go.Sort.swp d j (j - 1)).toList else if b - i ≥ 2 then slices_partialInsertionSortCmpFunc_restrict_known.l3 k (a : Int) (b : Int) (i : Int) (s : Int) ((i + 1 : Nat) : Int) d.toList else slices_partialInsertionSortCmpFunc_restrict_known.l0 k (a : Int) (b : Int) (i : Int) ((s + 1 : Nat) : Int) d.toList := by
  have c0 : ((j : Int) ≥ 1) = (1 ≤ j) := by apply propext; omega
  have c6 : (((b - i : Nat) : Int) ≥ 2) = (b - i ≥ 2) := by apply propext; omega
  have m2 : i ≤ 900000000000000 := by omega
  have m3 : s ≤ 900000000000000 := by omega
  have m5 : b ≤ 900000000000000 := by omega
  have m7 : b = i + (b - i) := by omega
  have m8 : j ≤ 900000000000000 := by omega
  by_cases h : 1 ≤ j
  · have c1 : ((j : Int) < ((d.size : Nat) : Int)) = True := by simp only [eq_iff_iff, iff_true]; omega
    have c2 : (((j - 1 : Nat) : Int) < ((d.size : Nat) : Int)) = True := by simp only [eq_iff_iff, iff_true]; omega
    rw [slices_partialInsertionSortCmpFunc_restrict_known.l2]
    simp only [c0, qsub b i (b - i) m7 m5, c6, if_pos h, h, true_and, qm1 j h m8, qsuc i m2, qsuc s m3, c1, c2, lll, lls, nn, if_true, rdA, less_val, bsome, less_iff, ite_not, bif_b, bif_nb, etaR, ltq, tnc, swpL]
  · rw [slices_partialInsertionSortCmpFunc_restrict_known.l2]
    simp only [c0, qsub b i (b - i) m7 m5, c6, if_neg h, h, false_and, if_false, qsuc i m2, qsuc s m3]
theorem q_x3 (a b i s j : Nat) (d : Array S78) (hi : i ≤ b) (hj1 : 1 ≤ j) (hb : b ≤ d.size) (hj : j ≤ b) (hB : BIG d.size) (hs : s < 5) (k : Nat) : slices_partialInsertionSortCmpFunc_restrict_known.l3 (k + 1) (a : Int) (b : Int) (i : Int) (s : Int) (j : Int) d.toList =
    if j < b ∧ ltR d[j]! d[j - 1]! = true then slices_partialInsertionSortCmpFunc_restrict_known.l3 k (a : Int) (b : Int) (i : Int) (s : Int) ((j + 1 : Nat) : Int) (Go.Sort.swp d j (j - 1)).toList else slices_partialInsertionSortCmpFunc_restrict_known.l0 k (a : Int) (b : Int) (i : Int) ((s + 1 : Nat) : Int) d.toList := by
  have c0 : ((j : Int) < (b : Int)) = (j < b) := by apply propext; omega
  have m3 : s ≤ 900000000000000 := by omega
  have m8 : j ≤ 900000000000000 := by omega
  by_cases h : j < b
  · have c1 : ((j : Int) < ((d.size : Nat) : Int)) = True := by simp only [eq_iff_iff, iff_true]; omega
    have c2 : (((j - 1 : Nat) : Int) < ((d.size : Nat) : Int)) = True := by simp only [eq_iff_iff, iff_true]; omega
    rw [slices_partialInsertionSortCmpFunc_restrict_known.l3]
    simp only [c0, if_pos h, h, true_and, qm1 j hj1 m8, qsuc j m8, qsuc s m3, c1, c2, lll, lls, nn, if_true, rdA, less_val, bsome, less_iff, ite_not, bif_b, bif_nb, etaR, ltq, tnc, swpL]
  · rw [slices_partialInsertionSortCmpFunc_restrict_known.l3]
    simp only [c0, if_neg h, h, false_and, if_false, qsuc s m3]
theorem shiftDown_size : ∀ (j : Nat) (d : Array S78), (Go.Sort.shiftDown ltR j d).size = d.size
  | 0, d => rfl
  | j + 1, d => by
    rw [Go.Sort.shiftDown]
    split
    · rfl
    · rw [shiftDown_size j, sSwp]
theorem shiftUp_size (b : Nat) : ∀ (n j : Nat) (d : Array S78), b - j ≤ n → (Go.Sort.shiftUp ltR b j d).size = d.size
  | 0, j, d, hn => by rw [Go.Sort.shiftUp, if_neg (by omega)]
  | n + 1, j, d, hn => by
    rw [Go.Sort.shiftUp]
    split
    · split
      · rfl
      · rw [shiftUp_size b n _ _ (by omega), sSwp]
    · rfl
theorem q_xu (a b i s : Nat) (hi : i ≤ b) (hs : s < 5) (v : Bool × List S78) : ∀ (n j : Nat) (d : Array S78), b - j ≤ n → 1 ≤ j → j ≤ b → b ≤ d.size → BIG d.size → Ev (fun k => slices_partialInsertionSortCmpFunc_restrict_known.l0 k (a : Int) (b : Int) (i : Int) ((s + 1 : Nat) : Int) (Go.Sort.shiftUp ltR b j d).toList) v → Ev (fun k => slices_partialInsertionSortCmpFunc_restrict_known.l3 k (a : Int) (b : Int) (i : Int) (s : Int) (j : Int) d.toList) v := by
  intro n
  induction n with
  | zero =>
    intro j d hn hj1 hj hb hB e
    refine Ev.step (fun k => q_x3 a b i s j d hi hj1 hb hj hB hs k) ?_
    rw [Go.Sort.shiftUp, if_neg (by omega)] at e
    simp only [if_neg (show ¬ (j < b ∧ ltR d[j]! d[j - 1]! = true) by omega)]
    exact e
  | succ n ih =>
    intro j d hn hj1 hj hb hB e
    refine Ev.step (fun k => q_x3 a b i s j d hi hj1 hb hj hB hs k) ?_
    rw [Go.Sort.shiftUp] at e
    by_cases h : j < b
    · rw [if_pos h] at e
      cases hl : ltR d[j]! d[j - 1]! with
      | false =>
        rw [if_pos (by simp [hl])] at e
        simp only [Bool.false_eq_true, and_false, if_false]
        exact e
      | true =>
        rw [if_neg (by simp [hl])] at e
        simp only [and_true, if_pos h]
        exact ih (j + 1) _ (by omega) (by omega) (by omega) (by rw [sSwp]; exact hb) (by rw [sSwp]; exact hB) e
    · rw [if_neg h] at e
      simp only [h, false_and, if_false]
      exact e
theorem q_xd (a b i s : Nat) (hi : i ≤ b) (hs : s < 5) (v : Bool × List S78) : ∀ (j : Nat) (d : Array S78), j < d.size → b ≤ d.size → BIG d.size → Ev (fun k => if b - i ≥ 2 then slices_partialInsertionSortCmpFunc_restrict_known.l3 k (a : Int) (b : Int) (i : Int) (s : Int) ((i + 1 : Nat) : Int) (Go.Sort.shiftDown ltR j d).toList else slices_partialInsertionSortCmpFunc_restrict_known.l0 k (a : Int) (b : Int) (i : Int) ((s + 1 : Nat) : Int) (Go.Sort.shiftDown ltR j d).toList) v → Ev (fun k => slices_partialInsertionSortCmpFunc_restrict_known.l2 k (a : Int) (b : Int) (i : Int) (s : Int) (j : Int) d.toList) v
  | 0, d, hj, hb, hB, e => by
    refine Ev.step (fun k => q_x2 a b i s 0 d hi hb hj hB hs k) ?_
    simp only [if_neg (show ¬ (1 ≤ 0 ∧ ltR d[0]! d[0 - 1]! = true) by omega)]
    exact e
  | j + 1, d, hj, hb, hB, e => by
    refine Ev.step (fun k => q_x2 a b i s (j + 1) d hi hb hj hB hs k) ?_
    rw [Go.Sort.shiftDown] at e
    have h1 : 1 ≤ j + 1 := by omega
    rw [show j + 1 - 1 = j from rfl]
    cases hl : ltR d[j + 1]! d[j]! with
    | false =>
      rw [if_pos (by simp [hl])] at e
      simp only [Bool.false_eq_true, and_false, if_false]
      exact e
    | true =>
      rw [if_neg (by simp [hl])] at e
      simp only [and_true, if_pos h1]
      exact q_xd a b i s hi hs v j _ (by rw [sSwp]; omega) (by rw [sSwp]; exact hb) (by rw [sSwp]; exact hB) e
theorem scanSorted_rng (d : Array S78) (b : Nat) : ∀ (n i : Nat), b - i ≤ n → i ≤ b → i ≤ Go.Sort.scanSorted ltR d b i ∧ Go.Sort.scanSorted ltR d b i ≤ b := by
  intro n
  induction n with
  | zero =>
    intro i hn hi
    rw [Go.Sort.scanSorted, if_neg (by simp; omega)]
    exact ⟨Nat.le_refl _, hi⟩
  | succ n ih =>
    intro i hn hi
    rw [Go.Sort.scanSorted]
    split
    · rename_i h
      simp only [Bool.and_eq_true, decide_eq_true_eq] at h
      have := ih (i + 1) (by omega) (by omega)
      exact ⟨by omega, this.2⟩
    · exact ⟨Nat.le_refl _, hi⟩
def restX (a b i s : Nat) (d : Array S78) (k : Nat) : Option (Bool × List S78) := if i = b then some (true, d.toList) else if b - a < 50 then some (false, d.toList)
      else (if i - a ≥ 2 then slices_partialInsertionSortCmpFunc_restrict_known.l2 k (a : Int) (b : Int) (i : Int) (s : Int) ((i - 1 : Nat) : Int) (Go.Sort.swp d i (i - 1)).toList else if b - i ≥ 2 then slices_partialInsertionSortCmpFunc_restrict_known.l3 k (a : Int) (b : Int) (i : Int) (s : Int) ((i + 1 : Nat) : Int) (Go.Sort.swp d i (i - 1)).toList else slices_partialInsertionSortCmpFunc_restrict_known.l0 k (a : Int) (b : Int) (i : Int) ((s + 1 : Nat) : Int) (Go.Sort.swp d i (i - 1)).toList)
theorem q_xs (a b s : Nat) (d : Array S78) (hb : b ≤ d.size) (hB : BIG d.size) (hs : s < 5) (v : Bool × List S78) : ∀ (n i : Nat), b - i ≤ n → a < i → i ≤ b → Ev (fun k => restX a b (Go.Sort.scanSorted ltR d b i) s d k) v → Ev (fun k => slices_partialInsertionSortCmpFunc_restrict_known.l1 k (a : Int) (b : Int) (i : Int) (s : Int) d.toList) v := by
  intro n
  induction n with
  | zero =>
    intro i hn ha hi e
    refine Ev.step (fun k => q_x1 a b i s d ha hi hb hB hs k) ?_
    rw [Go.Sort.scanSorted, if_neg (by simp; omega)] at e
    simp only [if_neg (show ¬ (i < b ∧ ltR d[i]! d[i - 1]! = false) by omega)]
    exact e
  | succ n ih =>
    intro i hn ha hi e
    refine Ev.step (fun k => q_x1 a b i s d ha hi hb hB hs k) ?_
    rw [Go.Sort.scanSorted] at e
    by_cases h : i < b ∧ ltR d[i]! d[i - 1]! = false
    · rw [if_pos (by simp [h.1, h.2])] at e
      simp only [if_pos h]
      exact ih (i + 1) (by omega) (by omega) (by omega) e
    · rw [if_neg (by simpa using h)] at e
      simp only [if_neg h]
      exact e
theorem partialIns_size (a b : Nat) : ∀ (n i : Nat) (d : Array S78), (Go.Sort.partialIns ltR a b n i d).1.size = d.size
  | 0, i, d => rfl
  | n + 1, i, d => by
    rw [Go.Sort.partialIns_succ]
    split
    · rfl
    · split
      · rfl
      · rw [partialIns_size a b n]
        unfold Go.Sort.fixUp Go.Sort.fixDown
        split
        · rw [shiftUp_size _ _ _ _ (Nat.le_refl _)]
          split
          · rw [shiftDown_size, sSwp]
          · rw [sSwp]
        · split
          · rw [shiftDown_size, sSwp]
          · rw [sSwp]
theorem q_xl (a b : Nat) : ∀ (n s i : Nat) (d : Array S78), s + n = 5 → a < i → i ≤ b → b ≤ d.size → BIG d.size → Ev (fun k => slices_partialInsertionSortCmpFunc_restrict_known.l0 k (a : Int) (b : Int) (i : Int) (s : Int) d.toList) ((Go.Sort.partialIns ltR a b n i d).2, (Go.Sort.partialIns ltR a b n i d).1.toList) := by
  intro n
  induction n with
  | zero =>
    intro s i d hs ha hi hb hB
    refine Ev.step (fun k => q_x0 a b i s d k) ?_
    simp only [if_neg (show ¬ s < 5 by omega)]
    exact Ev.now _
  | succ n ih =>
    intro s i d hs ha hi hb hB
    refine Ev.step (fun k => q_x0 a b i s d k) ?_
    simp only [if_pos (show s < 5 by omega)]
    refine q_xs a b s d hb hB (by omega) _ _ i (Nat.le_refl _) ha hi ?_
    have hr := scanSorted_rng d b _ i (Nat.le_refl _) hi
    rw [Go.Sort.partialIns_succ]
    generalize Go.Sort.scanSorted ltR d b i = q at *
    unfold restX
    by_cases h : q = b
    · simp only [if_pos h]
      exact Ev.now _
    · simp only [if_neg h]
      by_cases h5 : b - a < 50
      · simp only [if_pos h5]
        exact Ev.now _
      · simp only [if_neg h5]
        have hD : (Go.Sort.swp d q (q - 1)).size = d.size := sSwp _ _ _
        generalize Go.Sort.swp d q (q - 1) = D at *
        have up : ∀ E : Array S78, E.size = d.size → Ev (fun k => if b - q ≥ 2 then slices_partialInsertionSortCmpFunc_restrict_known.l3 k (a : Int) (b : Int) (q : Int) (s : Int) ((q + 1 : Nat) : Int) E.toList else slices_partialInsertionSortCmpFunc_restrict_known.l0 k (a : Int) (b : Int) (q : Int) ((s + 1 : Nat) : Int) E.toList)
            ((Go.Sort.partialIns ltR a b n q (Go.Sort.fixUp ltR b q E)).2, (Go.Sort.partialIns ltR a b n q (Go.Sort.fixUp ltR b q E)).1.toList) := by
          intro E hE
          unfold Go.Sort.fixUp
          by_cases h2 : b - q ≥ 2
          · simp only [if_pos h2]
            refine q_xu a b q s (by omega) (by omega) _ _ (q + 1) E (Nat.le_refl _) (by omega) (by omega) (by omega) (by rw [hE]; exact hB) ?_
            exact ih (s + 1) q _ (by omega) (by omega) (by omega) (by rw [shiftUp_size _ _ _ _ (Nat.le_refl _)]; omega) (by rw [shiftUp_size _ _ _ _ (Nat.le_refl _), hE]; exact hB)
          · simp only [if_neg h2]
            exact ih (s + 1) q _ (by omega) (by omega) (by omega) (by omega) (by rw [hE]; exact hB)
        by_cases h3 : q - a ≥ 2
        · unfold Go.Sort.fixDown
          simp only [if_pos h3]
          exact q_xd a b q s (by omega) (by omega) _ (q - 1) D (by omega) (by omega) (by rw [hD]; exact hB) (up _ (by rw [shiftDown_size, hD]))
        · unfold Go.Sort.fixDown
          simp only [if_neg h3]
          exact up D hD
theorem q_pis (a b : Nat) (d : Array S78) (hab : a < b) (hb : b ≤ d.size) (hB : BIG d.size) : Ev (fun k => slices_partialInsertionSortCmpFunc_restrict_known.f k (a : Int) (b : Int) d.toList) ((Go.Sort.partialInsertionSort ltR d a b).2, (Go.Sort.partialInsertionSort ltR d a b).1.toList) := by
  unfold slices_partialInsertionSortCmpFunc_restrict_known.f Go.Sort.partialInsertionSort
  rw [qsuc a (by omega)]
  exact q_xl a b 5 0 (a + 1) d (by omega) (by omega) (by omega) hb hB
end Go.Proofs.Ytjfcfljdojkcdaa.C9
