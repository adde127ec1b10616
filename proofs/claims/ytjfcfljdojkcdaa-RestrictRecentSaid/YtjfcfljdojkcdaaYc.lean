/- Plain lemmas on the printed functions: whole numbers and lists, no program in sight. -/
import Derived.Test.YtjfcfljdojkcdaaYb
import Derived.Laws.BitsLemmas
import Derived.Laws.Bits64
import Derived.Laws.Bits64b
import Derived.Sort.AssemblyPlain
import Derived.Sort.LotD5
import Derived.Sort.LotD4
namespace Go.Proofs.Ytjfcfljdojkcdaa.C9
open Go Go.RowKit Go.Proofs.Ytjfcfljdojkcdaa.Ev
set_option linter.unusedVariables false
set_option linter.unusedSimpArgs false
set_option maxRecDepth 100000
/-! ### partitions -/
theorem scan_facts (p q : S78 → Bool) (hq : ∀ x, q x = !p x) (d : Array S78) (i j : Nat) (hi : 1 ≤ i) (hij : i ≤ j + 1) (i2 j2 : Nat) (e1 : Go.Sort.scanUp p d j i = i2) (e2 : Go.Sort.scanDown q d i2 j = j2) : i ≤ i2 ∧ i2 ≤ j + 1 ∧ j2 ≤ j ∧ i2 ≤ j2 + 1 ∧ (¬ i2 > j2 → i2 < j2) := by
  obtain ⟨g1, g2, g3, g4⟩ := Go.Sort.scanUp_spec p d j _ i rfl
  rw [e1] at g1 g2 g4
  obtain ⟨k1, k2, k3, k4⟩ := Go.Sort.scanDown_spec q d i2 j
  rw [e2] at k1 k2 k4
  have h1 := g2 hij
  refine ⟨g1, h1, k1, k2 h1, fun h => ?_⟩
  rcases Nat.lt_or_ge i2 j2 with h2 | h2
  · exact h2
  · have e : i2 = j2 := by omega
    subst e
    have h3 := g4 k1
    have h4 := k4 (Nat.le_refl _) (by omega)
    rw [hq, h3] at h4
    cases h4
/-- What the first search of partitionEqual comes to. -/
theorem q_e0 (a i j : Nat) (d : Array S78) (ha : a < d.size) (hj : j < d.size) (hB : BIG d.size) (k : Nat) : slices_partitionEqualCmpFunc_restrict_known.l0 (k + 1) (a : Int) (i : Int) (j : Int) d.toList =
    if i ≤ j then (if ltR d[a]! d[i]! = true then slices_partitionEqualCmpFunc_restrict_known.l1 k (a : Int) (i : Int) (j : Int) d.toList else slices_partitionEqualCmpFunc_restrict_known.l0 k (a : Int) ((i + 1 : Nat) : Int) (j : Int) d.toList) else slices_partitionEqualCmpFunc_restrict_known.l1 k (a : Int) (i : Int) (j : Int) d.toList := by
  have c0 : ((i : Int) ≤ (j : Int)) = (i ≤ j) := by apply propext; omega
  have c1 : ((a : Int) < ((d.size : Nat) : Int)) = True := by simp only [eq_iff_iff, iff_true]; omega
  rw [slices_partitionEqualCmpFunc_restrict_known.l0]
  simp only [c0]
  by_cases h : i ≤ j
  · have c2 : ((i : Int) < ((d.size : Nat) : Int)) = True := by simp only [eq_iff_iff, iff_true]; omega
    simp only [if_pos h, c1, c2, lll, nn, if_true, rdA, less_val, bsome, less_iff, ite_not, bif_b, bif_nb, qsuc i (by omega)]
  · simp only [if_neg h]
theorem q_e1 (a i j : Nat) (d : Array S78) (ha : a < d.size) (hj : j < d.size) (hi : 1 ≤ i) (hB : BIG d.size) (k : Nat) : slices_partitionEqualCmpFunc_restrict_known.l1 (k + 1) (a : Int) (i : Int) (j : Int) d.toList =
    if i ≤ j ∧ ltR d[a]! d[j]! = true then slices_partitionEqualCmpFunc_restrict_known.l1 k (a : Int) (i : Int) ((j - 1 : Nat) : Int) d.toList else if i > j then some ((i : Int), d.toList) else slices_partitionEqualCmpFunc_restrict_known.l0 k (a : Int) ((i + 1 : Nat) : Int) ((j - 1 : Nat) : Int) (Go.Sort.swp d i j).toList := by
  have c0 : ((i : Int) ≤ (j : Int)) = (i ≤ j) := by apply propext; omega
  have c3 : ((i : Int) > (j : Int)) = (i > j) := by apply propext; omega
  have c1 : ((a : Int) < ((d.size : Nat) : Int)) = True := by simp only [eq_iff_iff, iff_true]; omega
  have c4 : ((j : Int) < ((d.size : Nat) : Int)) = True := by simp only [eq_iff_iff, iff_true]; omega
  rw [slices_partitionEqualCmpFunc_restrict_known.l1]
  simp only [c0, c3]
  by_cases h : i ≤ j
  · have c2 : ((i : Int) < ((d.size : Nat) : Int)) = True := by simp only [eq_iff_iff, iff_true]; omega
    simp only [if_pos h, if_neg (show ¬ i > j by omega), c1, c2, c4, lll, lls, nn, if_true, rdA, less_val, bsome, less_iff, ite_not, bif_b, bif_nb, etaR, ltq, tnc, swpL, qsuc i (by omega), qm1 j (by omega) (by omega), h, true_and]
  · simp only [if_neg h, if_pos (show i > j by omega), h, false_and, if_false]
theorem q_eu (a j : Nat) (d : Array S78) (ha : a < d.size) (hj : j < d.size) (hB : BIG d.size) (v : Int × List S78) : ∀ (n i : Nat), j + 1 - i = n → Ev (fun k => slices_partitionEqualCmpFunc_restrict_known.l1 k (a : Int) ((Go.Sort.scanUp (fun x => !ltR d[a]! x) d j i : Nat) : Int) (j : Int) d.toList) v → Ev (fun k => slices_partitionEqualCmpFunc_restrict_known.l0 k (a : Int) (i : Int) (j : Int) d.toList) v := by
  intro n
  induction n with
  | zero =>
    intro i hn e
    refine Ev.step (fun k => q_e0 a i j d ha hj hB k) ?_
    rw [Go.Sort.scanUp, if_neg (by simp; omega)] at e
    simp only [if_neg (show ¬ i ≤ j by omega)]
    exact e
  | succ n ih =>
    intro i hn e
    refine Ev.step (fun k => q_e0 a i j d ha hj hB k) ?_
    rw [Go.Sort.scanUp] at e
    have h : i ≤ j := by omega
    simp only [if_pos h]
    cases hl : ltR d[a]! d[i]! with
    | true =>
      rw [if_neg (by simp [hl])] at e
      simp only [if_true]
      exact e
    | false =>
      rw [if_pos (by simp [hl, h])] at e
      simp only [Bool.false_eq_true, if_false]
      exact ih (i + 1) (by omega) e
theorem q_ed (a i : Nat) (d : Array S78) (ha : a < d.size) (hi : 1 ≤ i) (hB : BIG d.size) (v : Int × List S78) : ∀ (j : Nat), j < d.size → (∀ j2, j2 = Go.Sort.scanDown (fun x => ltR d[a]! x) d i j → if i > j2 then v = ((i : Int), d.toList) else Ev (fun k => slices_partitionEqualCmpFunc_restrict_known.l0 k (a : Int) ((i + 1 : Nat) : Int) ((j2 - 1 : Nat) : Int) (Go.Sort.swp d i j2).toList) v) → Ev (fun k => slices_partitionEqualCmpFunc_restrict_known.l1 k (a : Int) (i : Int) (j : Int) d.toList) v
  | 0, hj, e => by
    have e := e 0 rfl
    rw [if_pos (by omega)] at e
    refine Ev.step (fun k => q_e1 a i 0 d ha hj hi hB k) ?_
    simp only [if_neg (show ¬ (i ≤ 0 ∧ ltR d[a]! d[0]! = true) by omega), if_pos (show i > 0 by omega)]
    rw [e]; exact Ev.now _
  | j + 1, hj, e => by
    refine Ev.step (fun k => q_e1 a i (j + 1) d ha hj hi hB k) ?_
    rw [Go.Sort.scanDown] at e
    by_cases h : i ≤ j + 1 ∧ ltR d[a]! d[j + 1]! = true
    · rw [if_pos (by simp [h.1, h.2])] at e
      simp only [if_pos h]
      exact q_ed a i d ha hi hB v j (by omega) e
    · rw [if_neg (by simpa using h)] at e
      have e := e _ rfl
      simp only [if_neg h]
      by_cases h2 : i > j + 1
      · rw [if_pos h2] at e
        simp only [if_pos h2]
        rw [e]; exact Ev.now _
      · rw [if_neg h2] at e
        simp only [if_neg h2]
        exact e
theorem q_eloop (a : Nat) : ∀ (n i j : Nat) (d : Array S78), j + 1 - i ≤ n → a < i → i ≤ j + 1 → j < d.size → BIG d.size → Ev (fun k => slices_partitionEqualCmpFunc_restrict_known.l0 k (a : Int) (i : Int) (j : Int) d.toList) (((Go.Sort.partEqLoop ltR a i j d).1 : Int), (Go.Sort.partEqLoop ltR a i j d).2.toList) := by
  intro n
  induction n with
  | zero =>
    intro i j d hn ha hij hj hB
    refine q_eu a j d (by omega) hj hB _ _ i rfl ?_
    rw [Go.Sort.partEqLoop_eq]
    have f := scan_facts (fun x => !ltR d[a]! x) (fun x => ltR d[a]! x) (fun x => by simp) d i j (by omega) hij _ _ rfl rfl
    generalize Go.Sort.scanUp (fun x => !ltR d[a]! x) d j i = i2 at *
    refine q_ed a i2 d (by omega) (by omega) hB _ j hj fun j2 hj2 => ?_
    rw [← hj2] at f ⊢
    rw [if_pos (by omega), if_pos (by omega)]
  | succ n ih =>
    intro i j d hn ha hij hj hB
    refine q_eu a j d (by omega) hj hB _ _ i rfl ?_
    rw [Go.Sort.partEqLoop_eq]
    have f := scan_facts (fun x => !ltR d[a]! x) (fun x => ltR d[a]! x) (fun x => by simp) d i j (by omega) hij _ _ rfl rfl
    generalize Go.Sort.scanUp (fun x => !ltR d[a]! x) d j i = i2 at *
    refine q_ed a i2 d (by omega) (by omega) hB _ j hj fun j2 hj2 => ?_
    rw [← hj2] at f ⊢
    by_cases h : i2 > j2
    · rw [if_pos h, if_pos h]
    · rw [if_neg h, if_neg h]
      have hlt := f.2.2.2.2 h
      exact ih (i2 + 1) (j2 - 1) (Go.Sort.swp d i2 j2) (by omega) (by omega) (by omega) (by rw [sSwp]; omega) (by rw [sSwp]; exact hB)
theorem q_peq (a b p : Nat) (d : Array S78) (hap : a ≤ p) (hpb : p < b) (hb : b ≤ d.size) (hB : BIG d.size) : Ev (fun k => slices_partitionEqualCmpFunc_restrict_known.f k (a : Int) (b : Int) (p : Int) d.toList) (((Go.Sort.partitionEqual ltR d a b p).1 : Int), (Go.Sort.partitionEqual ltR d a b p).2.toList) := by
  have c1 : ((a : Int) < ((d.size : Nat) : Int)) = True := by simp only [eq_iff_iff, iff_true]; omega
  have c2 : ((p : Int) < ((d.size : Nat) : Int)) = True := by simp only [eq_iff_iff, iff_true]; omega
  have w1 := qsuc a (by omega)
  have w2 := qm1 b (by omega) (by omega)
  unfold slices_partitionEqualCmpFunc_restrict_known.f Go.Sort.partitionEqual
  simp only [c1, c2, lll, lls, nn, if_true, rdA, etaR, ltq, tnc, swpL, w1, w2]
  clear w1 w2
  exact q_eloop a _ (a + 1) (b - 1) _ (Nat.le_refl _) (by omega) (by omega) (by rw [sSwp]; omega) (by rw [sSwp]; exact hB)
theorem partEq_rng (a b p : Nat) (d : Array S78) (hap : a ≤ p) (hpb : p < b) (hb : b ≤ d.size) : a < (Go.Sort.partitionEqual ltR d a b p).1 ∧ (Go.Sort.partitionEqual ltR d a b p).1 ≤ b ∧ (Go.Sort.partitionEqual ltR d a b p).2.size = d.size := by
  unfold Go.Sort.partitionEqual
  obtain ⟨r1, r2, r3, _⟩ := Go.Sort.partEqLoop_spec ltR a b _ (a + 1) (b - 1) (Go.Sort.swp d a p) (Nat.le_refl _) (Nat.lt_succ_self a) (by omega) (by omega) (by rw [sSwp]; exact hb) (fun t h1 h2 => by omega) (fun t h1 h2 => by omega)
  exact ⟨r1, r2, by rw [r3.1, sSwp]⟩
/-! ### the partition by the pivot -/
theorem q_t2 (a i j : Nat) (d : Array S78) (ha : a < d.size) (hj : j < d.size) (hB : BIG d.size) (k : Nat) : slices_partitionCmpFunc_restrict_known.l2 (k + 1) (a : Int) (i : Int) (j : Int) d.toList =
    if i ≤ j then (if ltR d[i]! d[a]! = true then slices_partitionCmpFunc_restrict_known.l2 k (a : Int) ((i + 1 : Nat) : Int) (j : Int) d.toList else slices_partitionCmpFunc_restrict_known.l3 k (a : Int) (i : Int) (j : Int) d.toList) else slices_partitionCmpFunc_restrict_known.l3 k (a : Int) (i : Int) (j : Int) d.toList := by
  have c0 : ((i : Int) ≤ (j : Int)) = (i ≤ j) := by apply propext; omega
  have c1 : ((a : Int) < ((d.size : Nat) : Int)) = True := by simp only [eq_iff_iff, iff_true]; omega
  rw [slices_partitionCmpFunc_restrict_known.l2]
  simp only [c0]
  by_cases h : i ≤ j
  · have c2 : ((i : Int) < ((d.size : Nat) : Int)) = True := by simp only [eq_iff_iff, iff_true]; omega
    simp only [if_pos h, c1, c2, lll, nn, if_true, rdA, less_val, bsome, less_iff, ite_not, bif_b, bif_nb, qsuc i (by omega)]
  · simp only [if_neg h]
theorem q_t3 (a i j : Nat) (d : Array S78) (ha : a < d.size) (hj : j < d.size) (hi : 1 ≤ i) (hB : BIG d.size) (k : Nat) : slices_partitionCmpFunc_restrict_known.l3 (k + 1) (a : Int) (i : Int) (j : Int) d.toList =
    if i ≤ j ∧ ltR d[j]! d[a]! = false then slices_partitionCmpFunc_restrict_known.l3 k (a : Int) (i : Int) ((j - 1 : Nat) : Int) d.toList else if i > j then some ((j : Int), false, (Go.Sort.swp d j a).toList) else slices_partitionCmpFunc_restrict_known.l2 k (a : Int) ((i + 1 : Nat) : Int) ((j - 1 : Nat) : Int) (Go.Sort.swp d i j).toList := by
  have c0 : ((i : Int) ≤ (j : Int)) = (i ≤ j) := by apply propext; omega
  have c3 : ((i : Int) > (j : Int)) = (i > j) := by apply propext; omega
  have c1 : ((a : Int) < ((d.size : Nat) : Int)) = True := by simp only [eq_iff_iff, iff_true]; omega
  have c4 : ((j : Int) < ((d.size : Nat) : Int)) = True := by simp only [eq_iff_iff, iff_true]; omega
  rw [slices_partitionCmpFunc_restrict_known.l3]
  simp only [c0, c3]
  by_cases h : i ≤ j
  · have c2 : ((i : Int) < ((d.size : Nat) : Int)) = True := by simp only [eq_iff_iff, iff_true]; omega
    simp only [if_pos h, if_neg (show ¬ i > j by omega), c1, c2, c4, lll, lls, nn, if_true, rdA, less_val, bsome, less_iff, ite_not, bif_b, bif_nb, etaR, ltq, tnc, swpL, qsuc i (by omega), qm1 j (by omega) (by omega), h, true_and]
    cases ltR d[j]! d[a]! <;> rfl
  · simp only [if_neg h, if_pos (show i > j by omega), c1, c4, lll, lls, nn, if_true, rdA, etaR, ltq, tnc, swpL, h, false_and, if_false]
theorem q_tu (a j : Nat) (d : Array S78) (ha : a < d.size) (hj : j < d.size) (hB : BIG d.size) (v : Int × Bool × List S78) : ∀ (n i : Nat), j + 1 - i = n → Ev (fun k => slices_partitionCmpFunc_restrict_known.l3 k (a : Int) ((Go.Sort.scanUp (fun x => ltR x d[a]!) d j i : Nat) : Int) (j : Int) d.toList) v → Ev (fun k => slices_partitionCmpFunc_restrict_known.l2 k (a : Int) (i : Int) (j : Int) d.toList) v := by
  intro n
  induction n with
  | zero =>
    intro i hn e
    refine Ev.step (fun k => q_t2 a i j d ha hj hB k) ?_
    rw [Go.Sort.scanUp, if_neg (by simp; omega)] at e
    simp only [if_neg (show ¬ i ≤ j by omega)]
    exact e
  | succ n ih =>
    intro i hn e
    refine Ev.step (fun k => q_t2 a i j d ha hj hB k) ?_
    rw [Go.Sort.scanUp] at e
    have h : i ≤ j := by omega
    simp only [if_pos h]
    cases hl : ltR d[i]! d[a]! with
    | false =>
      rw [if_neg (by simp [hl])] at e
      simp only [Bool.false_eq_true, if_false]
      exact e
    | true =>
      rw [if_pos (by simp [hl, h])] at e
      simp only [if_true]
      exact ih (i + 1) (by omega) e
theorem q_td (a i : Nat) (d : Array S78) (ha : a < d.size) (hi : 1 ≤ i) (hB : BIG d.size) (v : Int × Bool × List S78) : ∀ (j : Nat), j < d.size → (∀ j2, j2 = Go.Sort.scanDown (fun x => !ltR x d[a]!) d i j → if i > j2 then v = ((j2 : Int), false, (Go.Sort.swp d j2 a).toList) else Ev (fun k => slices_partitionCmpFunc_restrict_known.l2 k (a : Int) ((i + 1 : Nat) : Int) ((j2 - 1 : Nat) : Int) (Go.Sort.swp d i j2).toList) v) → Ev (fun k => slices_partitionCmpFunc_restrict_known.l3 k (a : Int) (i : Int) (j : Int) d.toList) v
  | 0, hj, e => by
    have e := e 0 rfl
    rw [if_pos (by omega)] at e
    refine Ev.step (fun k => q_t3 a i 0 d ha hj hi hB k) ?_
    simp only [if_neg (show ¬ (i ≤ 0 ∧ ltR d[0]! d[a]! = false) by omega), if_pos (show i > 0 by omega)]
    rw [e]; exact Ev.now _
  | j + 1, hj, e => by
    refine Ev.step (fun k => q_t3 a i (j + 1) d ha hj hi hB k) ?_
    rw [Go.Sort.scanDown] at e
    by_cases h : i ≤ j + 1 ∧ ltR d[j + 1]! d[a]! = false
    · rw [if_pos (by simp [h.1, h.2])] at e
      simp only [if_pos h]
      exact q_td a i d ha hi hB v j (by omega) e
    · rw [if_neg (by simpa using h)] at e
      have e := e _ rfl
      simp only [if_neg h]
      by_cases h2 : i > j + 1
      · rw [if_pos h2] at e
        simp only [if_pos h2]
        rw [e]; exact Ev.now _
      · rw [if_neg h2] at e
        simp only [if_neg h2]
        exact e
theorem q_tloop (a : Nat) : ∀ (n i j : Nat) (d : Array S78), j + 1 - i ≤ n → a < i → i ≤ j + 1 → j < d.size → BIG d.size → Ev (fun k => slices_partitionCmpFunc_restrict_known.l2 k (a : Int) (i : Int) (j : Int) d.toList) (((Go.Sort.partLoop ltR a i j d).1 : Int), false, (Go.Sort.swp (Go.Sort.partLoop ltR a i j d).2 (Go.Sort.partLoop ltR a i j d).1 a).toList) := by
  intro n
  induction n with
  | zero =>
    intro i j d hn ha hij hj hB
    refine q_tu a j d (by omega) hj hB _ _ i rfl ?_
    rw [Go.Sort.partLoop_eq]
    have f := scan_facts (fun x => ltR x d[a]!) (fun x => !ltR x d[a]!) (fun x => by simp) d i j (by omega) hij _ _ rfl rfl
    generalize Go.Sort.scanUp (fun x => ltR x d[a]!) d j i = i2 at *
    refine q_td a i2 d (by omega) (by omega) hB _ j hj fun j2 hj2 => ?_
    rw [← hj2] at f ⊢
    rw [if_pos (by omega), if_pos (by omega)]
  | succ n ih =>
    intro i j d hn ha hij hj hB
    refine q_tu a j d (by omega) hj hB _ _ i rfl ?_
    rw [Go.Sort.partLoop_eq]
    have f := scan_facts (fun x => ltR x d[a]!) (fun x => !ltR x d[a]!) (fun x => by simp) d i j (by omega) hij _ _ rfl rfl
    generalize Go.Sort.scanUp (fun x => ltR x d[a]!) d j i = i2 at *
    refine q_td a i2 d (by omega) (by omega) hB _ j hj fun j2 hj2 => ?_
    rw [← hj2] at f ⊢
    by_cases h : i2 > j2
    · rw [if_pos h, if_pos h]
    · rw [if_neg h, if_neg h]
      have hlt := f.2.2.2.2 h
      exact ih (i2 + 1) (j2 - 1) (Go.Sort.swp d i2 j2) (by omega) (by omega) (by omega) (by rw [sSwp]; omega) (by rw [sSwp]; exact hB)
theorem q_t0 (a i j : Nat) (d : Array S78) (ha : a < d.size) (hj : j < d.size) (hB : BIG d.size) (k : Nat) : slices_partitionCmpFunc_restrict_known.l0 (k + 1) (a : Int) (i : Int) (j : Int) d.toList =
    if i ≤ j then (if ltR d[i]! d[a]! = true then slices_partitionCmpFunc_restrict_known.l0 k (a : Int) ((i + 1 : Nat) : Int) (j : Int) d.toList else slices_partitionCmpFunc_restrict_known.l1 k (a : Int) (i : Int) (j : Int) d.toList) else slices_partitionCmpFunc_restrict_known.l1 k (a : Int) (i : Int) (j : Int) d.toList := by
  have c0 : ((i : Int) ≤ (j : Int)) = (i ≤ j) := by apply propext; omega
  have c1 : ((a : Int) < ((d.size : Nat) : Int)) = True := by simp only [eq_iff_iff, iff_true]; omega
  rw [slices_partitionCmpFunc_restrict_known.l0]
  simp only [c0]
  by_cases h : i ≤ j
  · have c2 : ((i : Int) < ((d.size : Nat) : Int)) = True := by simp only [eq_iff_iff, iff_true]; omega
    simp only [if_pos h, c1, c2, lll, nn, if_true, rdA, less_val, bsome, less_iff, ite_not, bif_b, bif_nb, qsuc i (by omega)]
  · simp only [if_neg h]
theorem q_t1 (a i j : Nat) (d : Array S78) (ha : a < d.size) (hj : j < d.size) (hi : 1 ≤ i) (hB : BIG d.size) (k : Nat) : slices_partitionCmpFunc_restrict_known.l1 (k + 1) (a : Int) (i : Int) (j : Int) d.toList =
    if i ≤ j ∧ ltR d[j]! d[a]! = false then slices_partitionCmpFunc_restrict_known.l1 k (a : Int) (i : Int) ((j - 1 : Nat) : Int) d.toList else if i > j then some ((j : Int), true, (Go.Sort.swp d j a).toList) else slices_partitionCmpFunc_restrict_known.l2 k (a : Int) ((i + 1 : Nat) : Int) ((j - 1 : Nat) : Int) (Go.Sort.swp d i j).toList := by
  have c0 : ((i : Int) ≤ (j : Int)) = (i ≤ j) := by apply propext; omega
  have c3 : ((i : Int) > (j : Int)) = (i > j) := by apply propext; omega
  have c1 : ((a : Int) < ((d.size : Nat) : Int)) = True := by simp only [eq_iff_iff, iff_true]; omega
  have c4 : ((j : Int) < ((d.size : Nat) : Int)) = True := by simp only [eq_iff_iff, iff_true]; omega
  rw [slices_partitionCmpFunc_restrict_known.l1]
  simp only [c0, c3]
  by_cases h : i ≤ j
  · have c2 : ((i : Int) < ((d.size : Nat) : Int)) = True := by simp only [eq_iff_iff, iff_true]; omega
    simp only [if_pos h, if_neg (show ¬ i > j by omega), c1, c2, c4, lll, lls, nn, if_true, rdA, less_val, bsome, less_iff, ite_not, bif_b, bif_nb, etaR, ltq, tnc, swpL, qsuc i (by omega), qm1 j (by omega) (by omega), h, true_and]
    cases ltR d[j]! d[a]! <;> rfl
  · simp only [if_neg h, if_pos (show i > j by omega), c1, c4, lll, lls, nn, if_true, rdA, etaR, ltq, tnc, swpL, h, false_and, if_false]
theorem q_tu0 (a j : Nat) (d : Array S78) (ha : a < d.size) (hj : j < d.size) (hB : BIG d.size) (v : Int × Bool × List S78) : ∀ (n i : Nat), j + 1 - i = n → Ev (fun k => slices_partitionCmpFunc_restrict_known.l1 k (a : Int) ((Go.Sort.scanUp (fun x => ltR x d[a]!) d j i : Nat) : Int) (j : Int) d.toList) v → Ev (fun k => slices_partitionCmpFunc_restrict_known.l0 k (a : Int) (i : Int) (j : Int) d.toList) v := by
  intro n
  induction n with
  | zero =>
    intro i hn e
    refine Ev.step (fun k => q_t0 a i j d ha hj hB k) ?_
    rw [Go.Sort.scanUp, if_neg (by simp; omega)] at e
    simp only [if_neg (show ¬ i ≤ j by omega)]
    exact e
  | succ n ih =>
    intro i hn e
    refine Ev.step (fun k => q_t0 a i j d ha hj hB k) ?_
    rw [Go.Sort.scanUp] at e
    have h : i ≤ j := by omega
    simp only [if_pos h]
    cases hl : ltR d[i]! d[a]! with
    | false =>
      rw [if_neg (by simp [hl])] at e
      simp only [Bool.false_eq_true, if_false]
      exact e
    | true =>
      rw [if_pos (by simp [hl, h])] at e
      simp only [if_true]
      exact ih (i + 1) (by omega) e
theorem q_td0 (a i : Nat) (d : Array S78) (ha : a < d.size) (hi : 1 ≤ i) (hB : BIG d.size) (v : Int × Bool × List S78) : ∀ (j : Nat), j < d.size → (∀ j2, j2 = Go.Sort.scanDown (fun x => !ltR x d[a]!) d i j → if i > j2 then v = ((j2 : Int), true, (Go.Sort.swp d j2 a).toList) else Ev (fun k => slices_partitionCmpFunc_restrict_known.l2 k (a : Int) ((i + 1 : Nat) : Int) ((j2 - 1 : Nat) : Int) (Go.Sort.swp d i j2).toList) v) → Ev (fun k => slices_partitionCmpFunc_restrict_known.l1 k (a : Int) (i : Int) (j : Int) d.toList) v
  | 0, hj, e => by
    have e := e 0 rfl
    rw [if_pos (by omega)] at e
    refine Ev.step (fun k => q_t1 a i 0 d ha hj hi hB k) ?_
    simp only [if_neg (show ¬ (i ≤ 0 ∧ ltR d[0]! d[a]! = false) by omega), if_pos (show i > 0 by omega)]
    rw [e]; exact Ev.now _
  | j + 1, hj, e => by
    refine Ev.step (fun k => q_t1 a i (j + 1) d ha hj hi hB k) ?_
    rw [Go.Sort.scanDown] at e
    by_cases h : i ≤ j + 1 ∧ ltR d[j + 1]! d[a]! = false
    · rw [if_pos (by simp [h.1, h.2])] at e
      simp only [if_pos h]
      exact q_td0 a i d ha hi hB v j (by omega) e
    · rw [if_neg (by simpa using h)] at e
      have e := e _ rfl
      simp only [if_neg h]
      by_cases h2 : i > j + 1
      · rw [if_pos h2] at e
        simp only [if_pos h2]
        rw [e]; exact Ev.now _
      · rw [if_neg h2] at e
        simp only [if_neg h2]
        exact e
theorem q_part (a b p : Nat) (d : Array S78) (hap : a ≤ p) (hpb : p < b) (hb : b ≤ d.size) (hB : BIG d.size) : Ev (fun k => slices_partitionCmpFunc_restrict_known.f k (a : Int) (b : Int) (p : Int) d.toList) (((Go.Sort.partition ltR d a b p).1 : Int), (Go.Sort.partition ltR d a b p).2.1, (Go.Sort.partition ltR d a b p).2.2.toList) := by
  have c1 : ((a : Int) < ((d.size : Nat) : Int)) = True := by simp only [eq_iff_iff, iff_true]; omega
  have c2 : ((p : Int) < ((d.size : Nat) : Int)) = True := by simp only [eq_iff_iff, iff_true]; omega
  have w1 := qsuc a (by omega)
  have w2 := qm1 b (by omega) (by omega)
  unfold slices_partitionCmpFunc_restrict_known.f Go.Sort.partition
  simp only [c1, c2, lll, lls, nn, if_true, rdA, etaR, ltq, tnc, swpL, w1, w2]
  clear w1 w2
  have hs : (Go.Sort.swp d a p).size = d.size := sSwp d a p
  generalize Go.Sort.swp d a p = D at *
  rw [← hs] at hb hB
  clear hs c1 c2
  refine q_tu0 a (b - 1) D (by omega) (by omega) hB _ _ (a + 1) rfl ?_
  have f := scan_facts (fun x => ltR x D[a]!) (fun x => !ltR x D[a]!) (fun x => by simp) D (a + 1) (b - 1) (by omega) (by omega) _ _ rfl rfl
  generalize Go.Sort.scanUp (fun x => ltR x D[a]!) D (b - 1) (a + 1) = i2 at *
  refine q_td0 a i2 D (by omega) (by omega) hB _ (b - 1) (by omega) fun j2 hj2 => ?_
  rw [← hj2] at f ⊢
  by_cases h : i2 > j2
  · rw [if_pos h, if_pos h]
  · rw [if_neg h, if_neg h]
    have hlt := f.2.2.2.2 h
    exact q_tloop a _ (i2 + 1) (j2 - 1) (Go.Sort.swp D i2 j2) (Nat.le_refl _) (by omega) (by omega) (by rw [sSwp]; omega) (by rw [sSwp]; exact hB)
theorem part_rng (a b p : Nat) (d : Array S78) (hap : a ≤ p) (hpb : p < b) (hb : b ≤ d.size) : a ≤ (Go.Sort.partition ltR d a b p).1 ∧ (Go.Sort.partition ltR d a b p).1 < b ∧ (Go.Sort.partition ltR d a b p).2.2.size = d.size := by
  have h := Go.Sort.partition_holds ltR swoR d a b p hap hpb hb
  exact ⟨h.1, h.2.1, h.2.2.1.1⟩
end Go.Proofs.Ytjfcfljdojkcdaa.C9
