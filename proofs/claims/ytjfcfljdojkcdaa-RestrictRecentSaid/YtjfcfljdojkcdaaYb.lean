/- Plain lemmas on the printed functions: whole numbers and lists, no program in sight. -/
import Derived.Test.YtjfcfljdojkcdaaYa
import Derived.Laws.BitsLemmas
import Derived.Laws.Bits64
import Derived.Laws.Bits64b
import Derived.Sort.AssemblyPlain
import Derived.Sort.LotD5
import Derived.Sort.LotD4
namespace Go.Proofs.Ytjfcfljdojkcdaa.C9
open Go Go.RowKit Go.Proofs.Ytjfcfljdojkcdaa.Ev
set_option linter.unusedVariables false
set_option linter.unusedSimpArgs false
set_option maxRecDepth 100000
/-! ### the pivot -/
theorem qm1 (x : Nat) (h : 1 ≤ x) (hx : x ≤ 900000000000000) : wrap64 ((x : Int) - 1) = ((x - 1 : Nat) : Int) := by rw [w64_in (by omega) (by omega)]; omega
theorem q_ord2 (d : Array S78) (a b s : Nat) (ha : a < d.size) (hb : b < d.size) (hB : BIG d.size) (hs : s ≤ 1000) : slices_order2CmpFunc_restrict_known.f d.toList (a : Int) (b : Int) (s : Int) = some (((Go.Sort.order2 ltR d a b s).1 : Int), ((Go.Sort.order2 ltR d a b s).2.1 : Int), ((Go.Sort.order2 ltR d a b s).2.2 : Int)) := by
  have c1 : ((a : Int) < ((d.size : Nat) : Int)) = True := by simp only [eq_iff_iff, iff_true]; omega
  have c2 : ((b : Int) < ((d.size : Nat) : Int)) = True := by simp only [eq_iff_iff, iff_true]; omega
  unfold slices_order2CmpFunc_restrict_known.f Go.Sort.order2
  simp only [lll, c1, c2, nn, if_true, rdA, less_val, bsome, less_iff, qsuc s (by omega)]
  split <;> rfl
theorem ord2_rng (d : Array S78) (a b s n : Nat) (ha : a < n) (hb : b < n) : (Go.Sort.order2 ltR d a b s).1 < n ∧ (Go.Sort.order2 ltR d a b s).2.1 < n ∧ (Go.Sort.order2 ltR d a b s).2.2 ≤ s + 1 := by
  unfold Go.Sort.order2
  split
  · exact ⟨hb, ha, Nat.le_refl _⟩
  · exact ⟨ha, hb, Nat.le_succ _⟩
theorem q_med (d : Array S78) (a b c s : Nat) (ha : a < d.size) (hb : b < d.size) (hc : c < d.size) (hB : BIG d.size) (hs : s ≤ 100) : slices_medianCmpFunc_restrict_known.f d.toList (a : Int) (b : Int) (c : Int) (s : Int) = some (((Go.Sort.median ltR d a b c s).1 : Int), ((Go.Sort.median ltR d a b c s).2 : Int)) := by
  unfold slices_medianCmpFunc_restrict_known.f Go.Sort.median
  have r1 := ord2_rng d a b s d.size ha hb
  rw [q_ord2 d a b s ha hb hB (by omega), bsome]
  dsimp only
  generalize Go.Sort.order2 ltR d a b s = o1 at r1
  have r2 := ord2_rng d o1.2.1 c o1.2.2 d.size r1.2.1 hc
  rw [q_ord2 d o1.2.1 c o1.2.2 r1.2.1 hc hB (by omega), bsome]
  dsimp only
  generalize Go.Sort.order2 ltR d o1.2.1 c o1.2.2 = o2 at r2
  rw [q_ord2 d o1.1 o2.1 o2.2.2 r1.1 r2.1 hB (by omega), bsome]
theorem q_adj (d : Array S78) (a s : Nat) (h0 : 1 ≤ a) (ha : a + 1 < d.size) (hB : BIG d.size) (hs : s ≤ 100) : slices_medianAdjacentCmpFunc_restrict_known.f d.toList (a : Int) (s : Int) = some (((Go.Sort.medianAdjacent ltR d a s).1 : Int), ((Go.Sort.medianAdjacent ltR d a s).2 : Int)) := by
  unfold slices_medianAdjacentCmpFunc_restrict_known.f Go.Sort.medianAdjacent
  rw [qm1 a h0 (by omega), qsuc a (by omega), q_med d (a - 1) a (a + 1) s (by omega) (by omega) ha hB hs, bsome]
def hintZ : Go.Sort.Hint → Int
  | .unknown => 0
  | .increasing => 1
  | .decreasing => 2
theorem q_pj (d : Array S78) (i j l s : Nat) (hi : i < d.size) (hj : j < d.size) (hl : l < d.size) (hB : BIG d.size) (hs : s ≤ 100) : Ev (fun k => slices_choosePivotCmpFunc_restrict_known.j0 k d.toList (i : Int) (j : Int) (l : Int) (s : Int)) (((Go.Sort.median ltR d i j l s).1 : Int), hintZ (if (Go.Sort.median ltR d i j l s).2 = 0 then .increasing else if (Go.Sort.median ltR d i j l s).2 = 12 then .decreasing else .unknown)) := by
  refine Ev.succ fun k => ?_
  rw [slices_choosePivotCmpFunc_restrict_known.j0, q_med d i j l s hi hj hl hB hs, bsome]
  generalize Go.Sort.median ltR d i j l s = m
  obtain ⟨m1, m2⟩ := m
  dsimp only
  by_cases h0 : m2 = 0
  · rw [if_pos (by omega), if_pos h0]; rfl
  · rw [if_neg (by omega), if_neg h0]
    by_cases h1 : m2 = 12
    · rw [if_pos (by omega), if_pos h1]; rfl
    · rw [if_neg (by omega), if_neg h1]; rfl
theorem piv_nums (a L : Nat) (hL : a + L ≤ 70368744177664) : wrap64 (Int.tdiv ((L : Nat) : Int) 4) = ((L / 4 : Nat) : Int) ∧ wrap64 (((L / 4 : Nat) : Int) * 1) = ((L / 4 * 1 : Nat) : Int) ∧ wrap64 (((L / 4 : Nat) : Int) * 2) = ((L / 4 * 2 : Nat) : Int) ∧ wrap64 (((L / 4 : Nat) : Int) * 3) = ((L / 4 * 3 : Nat) : Int) := by
  refine ⟨?_, ?_, ?_, ?_⟩
  · rw [Int.tdiv_eq_ediv_of_nonneg (by omega), w64_in (by omega) (by omega)]; omega
  · rw [w64_in (by omega) (by omega)]; omega
  · rw [w64_in (by omega) (by omega)]; omega
  · rw [w64_in (by omega) (by omega)]; omega
theorem q_piv3 (d : Array S78) (i j l : Nat) (hi : i < d.size) (hj : j < d.size) (hl : l < d.size) (hB : BIG d.size) (h0 : 1 ≤ i ∧ 1 ≤ j ∧ 1 ≤ l) (h1 : i + 1 < d.size ∧ j + 1 < d.size ∧ l + 1 < d.size) :
    Ev (fun k => (slices_medianAdjacentCmpFunc_restrict_known.f d.toList (i : Int) 0).bind fun t0 => ((slices_medianAdjacentCmpFunc_restrict_known.f d.toList (j : Int) t0.2).bind fun t1 => ((slices_medianAdjacentCmpFunc_restrict_known.f d.toList (l : Int) t1.2).bind fun t2 => slices_choosePivotCmpFunc_restrict_known.j0 k d.toList t0.1 t1.1 t2.1 t2.2)))
      (((Go.Sort.median ltR d (Go.Sort.medianAdjacent ltR d i 0).1 (Go.Sort.medianAdjacent ltR d j (Go.Sort.medianAdjacent ltR d i 0).2).1 (Go.Sort.medianAdjacent ltR d l (Go.Sort.medianAdjacent ltR d j (Go.Sort.medianAdjacent ltR d i 0).2).2).1 (Go.Sort.medianAdjacent ltR d l (Go.Sort.medianAdjacent ltR d j (Go.Sort.medianAdjacent ltR d i 0).2).2).2).1 : Int),
        hintZ (if (Go.Sort.median ltR d (Go.Sort.medianAdjacent ltR d i 0).1 (Go.Sort.medianAdjacent ltR d j (Go.Sort.medianAdjacent ltR d i 0).2).1 (Go.Sort.medianAdjacent ltR d l (Go.Sort.medianAdjacent ltR d j (Go.Sort.medianAdjacent ltR d i 0).2).2).1 (Go.Sort.medianAdjacent ltR d l (Go.Sort.medianAdjacent ltR d j (Go.Sort.medianAdjacent ltR d i 0).2).2).2).2 = 0 then .increasing else if (Go.Sort.median ltR d (Go.Sort.medianAdjacent ltR d i 0).1 (Go.Sort.medianAdjacent ltR d j (Go.Sort.medianAdjacent ltR d i 0).2).1 (Go.Sort.medianAdjacent ltR d l (Go.Sort.medianAdjacent ltR d j (Go.Sort.medianAdjacent ltR d i 0).2).2).1 (Go.Sort.medianAdjacent ltR d l (Go.Sort.medianAdjacent ltR d j (Go.Sort.medianAdjacent ltR d i 0).2).2).2).2 = 12 then .decreasing else .unknown)) := by
  have g1 := Go.Sort.medianAdjacent_count ltR d i 0
  have f1 := Go.Sort.medianAdjacent_mem ltR d i 0
  have k1 : (Go.Sort.medianAdjacent ltR d i 0).1 < d.size := by omega
  have E1 : slices_medianAdjacentCmpFunc_restrict_known.f d.toList (i : Int) 0 = _ := q_adj d i 0 h0.1 h1.1 hB (by omega)
  refine Ev.congr (fun k => by rw [E1, bsome]) ?_
  dsimp only
  generalize Go.Sort.medianAdjacent ltR d i 0 = ri at *
  have g2 := Go.Sort.medianAdjacent_count ltR d j ri.2
  have f2 := Go.Sort.medianAdjacent_mem ltR d j ri.2
  have k2 : (Go.Sort.medianAdjacent ltR d j ri.2).1 < d.size := by omega
  have E2 := q_adj d j ri.2 h0.2.1 h1.2.1 hB (by omega)
  refine Ev.congr (fun k => by rw [E2, bsome]) ?_
  dsimp only
  generalize Go.Sort.medianAdjacent ltR d j ri.2 = rj at *
  have g3 := Go.Sort.medianAdjacent_count ltR d l rj.2
  have f3 := Go.Sort.medianAdjacent_mem ltR d l rj.2
  have k3 : (Go.Sort.medianAdjacent ltR d l rj.2).1 < d.size := by omega
  have E3 := q_adj d l rj.2 h0.2.2 h1.2.2 hB (by omega)
  refine Ev.congr (fun k => by rw [E3, bsome]) ?_
  dsimp only
  generalize Go.Sort.medianAdjacent ltR d l rj.2 = rk at *
  exact q_pj d ri.1 rj.1 rk.1 rk.2 k1 k2 k3 hB (by omega)
theorem q_piv (d : Array S78) (a b : Nat) (hab : a + 1 < b) (hb : b ≤ d.size) (hB : BIG d.size) : Ev (fun k => slices_choosePivotCmpFunc_restrict_known.f k d.toList (a : Int) (b : Int)) (((Go.Sort.choosePivot ltR d a b).1 : Int), hintZ (Go.Sort.choosePivot ltR d a b).2) := by
  have hr : b - a ≥ 8 → 1 ≤ a + (b - a) / 4 * 1 ∧ 1 ≤ a + (b - a) / 4 * 2 ∧ 1 ≤ a + (b - a) / 4 * 3 := by omega
  have hr2 : b - a ≥ 8 → a + (b - a) / 4 * 1 + 1 < d.size ∧ a + (b - a) / 4 * 2 + 1 < d.size ∧ a + (b - a) / 4 * 3 + 1 < d.size := by omega
  have b0 : b = a + (b - a) := by omega
  have b1 : b ≤ 900000000000000 := by omega
  have b2 : a + (b - a) ≤ 70368744177664 := by omega
  have b3 : a + (b - a) / 4 * 1 ≤ 900000000000000 := by omega
  have b4 : a + (b - a) / 4 * 2 ≤ 900000000000000 := by omega
  have b5 : a + (b - a) / 4 * 3 ≤ 900000000000000 := by omega
  have e1 := qsub b a (b - a) b0 b1
  obtain ⟨n0, n1, n2, n3⟩ := piv_nums a (b - a) b2
  have p1 := qadd a ((b - a) / 4 * 1) b3
  have p2 := qadd a ((b - a) / 4 * 2) b4
  have p3 := qadd a ((b - a) / 4 * 3) b5
  unfold slices_choosePivotCmpFunc_restrict_known.f Go.Sort.choosePivot
  simp only [e1, n0, n1, n2, n3, p1, p2, p3]
  clear e1 n0 n1 n2 n3 p1 p2 p3
  generalize a + (b - a) / 4 * 1 = i at *
  generalize a + (b - a) / 4 * 2 = j at *
  generalize a + (b - a) / 4 * 3 = l at *
  by_cases h8 : b - a ≥ 8
  · have h8' : ((b - a : Nat) : Int) ≥ 8 := by omega
    have hr := hr h8
    have hr2 := hr2 h8
    simp only [if_pos h8, if_pos h8']
    by_cases h50 : b - a ≥ 50
    · have h50' : ((b - a : Nat) : Int) ≥ 50 := by omega
      simp only [if_pos h50, if_pos h50']
      exact q_piv3 d i j l (by omega) (by omega) (by omega) hB hr hr2
    · have h50' : ¬ ((b - a : Nat) : Int) ≥ 50 := by omega
      simp only [if_neg h50, if_neg h50']
      exact q_pj d i j l 0 (by omega) (by omega) (by omega) hB (by omega)
  · have h8' : ¬ ((b - a : Nat) : Int) ≥ 8 := by omega
    simp only [if_neg h8, if_neg h8']
    exact Ev.now _
/-! ### the other way round -/
theorem reverseLoop_size : ∀ (n i j : Nat) (d : Array S78), j - i ≤ n → (Go.Sort.reverseLoop i j d).size = d.size
  | 0, i, j, d, hn => by rw [Go.Sort.reverseLoop, if_neg (by omega)]
  | n + 1, i, j, d, hn => by
    rw [Go.Sort.reverseLoop]
    split
    · rw [reverseLoop_size n _ _ _ (by omega), sSwp]
    · rfl
theorem q_rl : ∀ (n i j : Nat) (d : Array S78), j - i ≤ n → j < d.size → BIG d.size → Ev (fun k => slices_reverseRangeCmpFunc_restrict_known.l0 k (i : Int) (j : Int) d.toList) (Go.Sort.reverseLoop i j d).toList := by
  intro n
  induction n with
  | zero =>
    intro i j d hn hj hB
    rw [Go.Sort.reverseLoop, if_neg (by omega)]
    exact Ev.succ fun k => by rw [slices_reverseRangeCmpFunc_restrict_known.l0, if_neg (by omega)]
  | succ n ih =>
    intro i j d hn hj hB
    rw [Go.Sort.reverseLoop]
    by_cases h : i < j
    · rw [if_pos h]
      have c0 : ((i : Int) < (j : Int)) = True := by simp only [eq_iff_iff, iff_true]; omega
      have c1 : ((i : Int) < ((d.size : Nat) : Int)) = True := by simp only [eq_iff_iff, iff_true]; omega
      have c2 : ((j : Int) < ((d.size : Nat) : Int)) = True := by simp only [eq_iff_iff, iff_true]; omega
      refine Ev.step (f := fun k => slices_reverseRangeCmpFunc_restrict_known.l0 k ((i + 1 : Nat) : Int) ((j - 1 : Nat) : Int) (Go.Sort.swp d i j).toList) (fun k => ?_) (ih (i + 1) (j - 1) _ (by omega) (by rw [sSwp]; omega) (by rw [sSwp]; exact hB))
      rw [slices_reverseRangeCmpFunc_restrict_known.l0]
      simp only [c0, c1, c2, lll, lls, nn, if_true, rdA, etaR, ltq, tnc, swpL, qsuc i (by omega), qm1 j (by omega) (by omega)]
    · rw [if_neg h]
      exact Ev.succ fun k => by rw [slices_reverseRangeCmpFunc_restrict_known.l0, if_neg (by omega)]
theorem q_rev (a b : Nat) (d : Array S78) (hab : a < b) (hb : b ≤ d.size) (hB : BIG d.size) : Ev (fun k => slices_reverseRangeCmpFunc_restrict_known.f k (a : Int) (b : Int) d.toList) (Go.Sort.reverseRange d a b).toList := by
  unfold slices_reverseRangeCmpFunc_restrict_known.f Go.Sort.reverseRange
  rw [qm1 b (by omega) (by omega)]
  exact q_rl _ a (b - 1) d (Nat.le_refl _) (by omega) hB
theorem reverseRange_size (a b : Nat) (d : Array S78) : (Go.Sort.reverseRange d a b).size = d.size := reverseLoop_size _ _ _ _ (Nat.le_refl _)
end Go.Proofs.Ytjfcfljdojkcdaa.C9
