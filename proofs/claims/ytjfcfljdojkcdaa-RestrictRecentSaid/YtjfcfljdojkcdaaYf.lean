/- Plain lemmas on the printed functions: whole numbers and lists, no program in sight. -/
import Derived.Test.YtjfcfljdojkcdaaYe
import Derived.Laws.BitsLemmas
import Derived.Laws.Bits64
import Derived.Laws.Bits64b
import Derived.Sort.AssemblyPlain
import Derived.Sort.LotD5
import Derived.Sort.LotD4
namespace Go.Proofs.Ytjfcfljdojkcdaa.C9
open Go Go.RowKit Go.Proofs.Ytjfcfljdojkcdaa.Ev
set_option linter.unusedVariables false
set_option linter.unusedSimpArgs false
set_option maxRecDepth 100000
/-! ### the sort itself -/
theorem q_ins' (a b : Nat) (d : Array S78) (hab : a ≤ b) (hb : b ≤ d.size) (hB : BIG d.size) : Ev (fun k => slices_insertionSortCmpFunc_restrict_known.f k (a : Int) (b : Int) d.toList) (Go.Sort.insertionSort ltR d a b).toList := by
  rcases Nat.lt_or_ge a b with h | h
  · exact q_ins a b d h hb hB
  · unfold slices_insertionSortCmpFunc_restrict_known.f Go.Sort.insertionSort
    rw [qsuc a (by omega), Go.Sort.insOuter, if_neg (by omega)]
    exact Ev.succ fun k => by rw [slices_insertionSortCmpFunc_restrict_known.l0, if_neg (by omega)]
/-- What follows the pivot's choice and the partial sort. -/
def part2 (d3 : Array S78) (a b pivot limit : Nat) (wb wp : Bool) : Array S78 :=
  if a > 0 && !ltR d3[a - 1]! d3[pivot]! then
    match Go.Sort.partitionEqual ltR d3 a b pivot with
    | (mid, d4) => if _h : a < mid ∧ mid ≤ b then Go.Sort.pdq ltR d4 mid b limit wb wp else d4
  else
    match Go.Sort.partition ltR d3 a b pivot with
    | (mid, alreadyPartitioned, d4) =>
      if _h : a ≤ mid ∧ mid < b then
        if mid - a < b - mid then
          Go.Sort.pdq ltR (Go.Sort.pdq ltR d4 a mid limit true true) (mid + 1) b limit (decide (mid - a ≥ (b - a) / 8)) alreadyPartitioned
        else
          Go.Sort.pdq ltR (Go.Sort.pdq ltR d4 (mid + 1) b limit true true) a mid limit (decide (b - mid ≥ (b - a) / 8)) alreadyPartitioned
      else d4
def part1 (d1 : Array S78) (a b limit : Nat) (wb wp : Bool) : Array S78 :=
  let c := Go.Sort.choosePivot ltR d1 a b
  let d2 := if c.2 = .decreasing then Go.Sort.reverseRange d1 a b else d1
  let pivot := if c.2 = .decreasing then (b - 1) - (c.1 - a) else c.1
  let hint := if c.2 = .decreasing then Go.Sort.Hint.increasing else c.2
  let pi := if wb && wp && hint = .increasing then Go.Sort.partialInsertionSort ltR d2 a b else (d2, false)
  if pi.2 then pi.1 else part2 pi.1 a b pivot limit wb wp
theorem pdq_stage (d : Array S78) (a b limit : Nat) (wb wp : Bool) : Go.Sort.pdq ltR d a b limit wb wp = if b - a ≤ 12 then Go.Sort.insertionSort ltR d a b else if limit = 0 then Go.Sort.heapSort ltR d a b else part1 (if !wb then Go.Sort.breakPatterns d a b else d) a b (if !wb then limit - 1 else limit) wb wp := by
  rw [Go.Sort.pdq]
  rfl
abbrev Goal (a b limit : Nat) (wb wp : Bool) (d : Array S78) : Prop := Ev (fun k => slices_pdqsortCmpFunc_restrict_known.l0 k (a : Int) (b : Int) (limit : Int) wb wp d.toList) (Go.Sort.pdq ltR d a b limit wb wp).toList ∧ (Go.Sort.pdq ltR d a b limit wb wp).size = d.size
abbrev Smaller (n : Nat) : Prop := ∀ (a b limit : Nat) (wb wp : Bool) (d : Array S78), b - a < n → a ≤ b → b ≤ d.size → BIG d.size → limit ≤ 1000 → Goal a b limit wb wp d
theorem q_f (a b limit : Nat) (d : Array S78) (v : List S78) (h : Ev (fun k => slices_pdqsortCmpFunc_restrict_known.l0 k (a : Int) (b : Int) (limit : Int) true true d.toList) v) : Ev (fun k => slices_pdqsortCmpFunc_restrict_known.f k (a : Int) (b : Int) (limit : Int) d.toList) v :=
  Ev.step (fun k => by rw [slices_pdqsortCmpFunc_restrict_known.f]) h
theorem q_tail (n a b p limit : Nat) (d : Array S78) (ih : Smaller n) (hn : b - a = n) (h12 : 12 < b - a) (hap : a ≤ p) (hpb : p < b) (hb : b ≤ d.size) (hB : BIG d.size) (hl : limit ≤ 1000) :
    Ev (fun k => (slices_partitionCmpFunc_restrict_known.f k (a : Int) (b : Int) (p : Int) d.toList).bind fun t8 => (if (wrap64 (t8.1 - (a : Int))) < (wrap64 ((b : Int) - t8.1)) then ((slices_pdqsortCmpFunc_restrict_known.f k (a : Int) t8.1 (limit : Int) t8.2.2).bind fun t9 => (slices_pdqsortCmpFunc_restrict_known.l0 k (wrap64 (t8.1 + 1)) (b : Int) (limit : Int) (decide ((wrap64 (t8.1 - (a : Int))) ≥ (wrap64 (Int.tdiv ((b - a : Nat) : Int) 8)))) t8.2.1 t9)) else ((slices_pdqsortCmpFunc_restrict_known.f k (wrap64 (t8.1 + 1)) (b : Int) (limit : Int) t8.2.2).bind fun t10 => (slices_pdqsortCmpFunc_restrict_known.l0 k (a : Int) t8.1 (limit : Int) (decide ((wrap64 ((b : Int) - t8.1)) ≥ (wrap64 (Int.tdiv ((b - a : Nat) : Int) 8)))) t8.2.1 t10))))
      (match Go.Sort.partition ltR d a b p with
    | (mid, alreadyPartitioned, d4) =>
      if _h : a ≤ mid ∧ mid < b then
        if mid - a < b - mid then
          Go.Sort.pdq ltR (Go.Sort.pdq ltR d4 a mid limit true true) (mid + 1) b limit (decide (mid - a ≥ (b - a) / 8)) alreadyPartitioned
        else
          Go.Sort.pdq ltR (Go.Sort.pdq ltR d4 (mid + 1) b limit true true) a mid limit (decide (b - mid ≥ (b - a) / 8)) alreadyPartitioned
      else d4).toList ∧ (match Go.Sort.partition ltR d a b p with
    | (mid, alreadyPartitioned, d4) =>
      if _h : a ≤ mid ∧ mid < b then
        if mid - a < b - mid then
          Go.Sort.pdq ltR (Go.Sort.pdq ltR d4 a mid limit true true) (mid + 1) b limit (decide (mid - a ≥ (b - a) / 8)) alreadyPartitioned
        else
          Go.Sort.pdq ltR (Go.Sort.pdq ltR d4 (mid + 1) b limit true true) a mid limit (decide (b - mid ≥ (b - a) / 8)) alreadyPartitioned
      else d4).size = d.size := by
  have hP := q_part a b p d hap hpb hb hB
  have hR := part_rng a b p d hap hpb hb
  generalize Go.Sort.partition ltR d a b p = r at *
  obtain ⟨mid, ap, d4⟩ := r
  dsimp only at hP hR ⊢
  obtain ⟨r1, r2, r3⟩ := hR
  have hh : a ≤ mid ∧ mid < b := ⟨r1, r2⟩
  rw [dif_pos hh]
  rw [← r3] at hb hB ⊢
  have m1 : mid = a + (mid - a) := by omega
  have m2 : mid ≤ 900000000000000 := by omega
  have m3 : b = mid + (b - mid) := by omega
  have m4 : b ≤ 900000000000000 := by omega
  have m5 : wrap64 (Int.tdiv ((b - a : Nat) : Int) 8) = (((b - a) / 8 : Nat) : Int) := by
    rw [Int.tdiv_eq_ediv_of_nonneg (by omega), w64_in (by omega) (by omega)]; omega
  have c1 : (((mid - a : Nat) : Int) < ((b - mid : Nat) : Int)) = (mid - a < b - mid) := by apply propext; omega
  have c2 : (((mid - a : Nat) : Int) ≥ (((b - a) / 8 : Nat) : Int)) = (mid - a ≥ (b - a) / 8) := by apply propext; omega
  have c3 : (((b - mid : Nat) : Int) ≥ (((b - a) / 8 : Nat) : Int)) = (b - mid ≥ (b - a) / 8) := by apply propext; omega
  have n1 : mid - a < n := by omega
  have n2 : b - (mid + 1) < n := by omega
  have n3 : mid ≤ d4.size := by omega
  have n4 : mid + 1 ≤ b := by omega
  by_cases h : mid - a < b - mid
  · rw [if_pos h]
    obtain ⟨g1, g2⟩ := ih a mid limit true true d4 n1 r1 n3 hB hl
    obtain ⟨k1, k2⟩ := ih (mid + 1) b limit (decide (mid - a ≥ (b - a) / 8)) ap _ n2 n4 (by rw [g2]; exact hb) (by rw [g2]; exact hB) hl
    refine ⟨?_, k2.trans g2⟩
    refine Ev.bind (f := fun k t => _) hP ?_
    dsimp only
    simp only [qsub mid a (mid - a) m1 m2, qsub b mid (b - mid) m3 m4, m5, c1, c2, c3, if_pos h, qsuc mid m2]
    exact Ev.bind (f := fun k t => _) (q_f a mid limit d4 _ g1) k1
  · rw [if_neg h]
    obtain ⟨g1, g2⟩ := ih (mid + 1) b limit true true d4 n2 n4 hb hB hl
    obtain ⟨k1, k2⟩ := ih a mid limit (decide (b - mid ≥ (b - a) / 8)) ap _ n1 r1 (by rw [g2]; exact n3) (by rw [g2]; exact hB) hl
    refine ⟨?_, k2.trans g2⟩
    refine Ev.bind (f := fun k t => _) hP ?_
    dsimp only
    simp only [qsub mid a (mid - a) m1 m2, qsub b mid (b - mid) m3 m4, m5, c1, c2, c3, if_neg h, qsuc mid m2]
    exact Ev.bind (f := fun k t => _) (q_f (mid + 1) b limit d4 _ g1) k1
theorem q_j2 (n a b p limit : Nat) (wb wp : Bool) (d : Array S78) (ih : Smaller n) (hn : b - a = n) (h12 : 12 < b - a) (hap : a ≤ p) (hpb : p < b) (hb : b ≤ d.size) (hB : BIG d.size) (hl : limit ≤ 1000) :
    Ev (fun k => slices_pdqsortCmpFunc_restrict_known.j2 k (a : Int) (b : Int) (limit : Int) wb wp ((b - a : Nat) : Int) (p : Int) d.toList) (part2 d a b p limit wb wp).toList ∧ (part2 d a b p limit wb wp).size = d.size := by
  have T := q_tail n a b p limit d ih hn h12 hap hpb hb hB hl
  have E := q_peq a b p d hap hpb hb hB
  have R := partEq_rng a b p d hap hpb hb
  unfold part2
  by_cases ha : a > 0
  · have c0 : ((a : Int) > 0) = True := by simp only [eq_iff_iff, iff_true]; omega
    have c1 : (((a - 1 : Nat) : Int) < ((d.size : Nat) : Int)) = True := by simp only [eq_iff_iff, iff_true]; omega
    have c2 : ((p : Int) < ((d.size : Nat) : Int)) = True := by simp only [eq_iff_iff, iff_true]; omega
    have m1 : 1 ≤ a := ha
    have m2 : a ≤ 900000000000000 := by omega
    cases hc : ltR d[a - 1]! d[p]! with
    | true =>
      rw [if_neg (by simp)]
      refine ⟨?_, T.2⟩
      refine Ev.step (fun k => ?_) T.1
      rw [slices_pdqsortCmpFunc_restrict_known.j2]
      simp only [c0, qm1 a m1 m2, c1, c2, lll, nn, if_true, rdA, less_val, bsome, less_iff, ite_not, bif_b, bif_nb, hc]
    | false =>
      rw [if_pos (by simp [ha])]
      generalize Go.Sort.partitionEqual ltR d a b p = r at *
      obtain ⟨mid, d4⟩ := r
      dsimp only at E R ⊢
      obtain ⟨r1, r2, r3⟩ := R
      rw [dif_pos ⟨r1, r2⟩]
      obtain ⟨g1, g2⟩ := ih mid b limit wb wp d4 (by omega) r2 (by omega) (by rw [r3]; exact hB) hl
      refine ⟨?_, g2.trans r3⟩
      refine Ev.step (f := fun k => (slices_partitionEqualCmpFunc_restrict_known.f k (a : Int) (b : Int) (p : Int) d.toList).bind fun t7 => (slices_pdqsortCmpFunc_restrict_known.l0 k t7.1 (b : Int) (limit : Int) wb wp t7.2)) (fun k => ?_) (Ev.bind (f := fun k t => _) E g1)
      rw [slices_pdqsortCmpFunc_restrict_known.j2]
      simp only [c0, qm1 a m1 m2, c1, c2, lll, nn, if_true, rdA, less_val, bsome, less_iff, ite_not, bif_b, bif_nb, hc, Bool.false_eq_true, if_false]
  · have c0 : ((a : Int) > 0) = False := by simp only [eq_iff_iff, iff_false]; omega
    rw [if_neg (by simp; omega)]
    refine ⟨?_, T.2⟩
    refine Ev.step (fun k => ?_) T.1
    rw [slices_pdqsortCmpFunc_restrict_known.j2]
    simp only [c0, if_false]
theorem q_j1 (n a b p limit : Nat) (wb wp : Bool) (hint : Go.Sort.Hint) (d : Array S78) (ih : Smaller n) (hn : b - a = n) (h12 : 12 < b - a) (hap : a ≤ p) (hpb : p < b) (hb : b ≤ d.size) (hB : BIG d.size) (hl : limit ≤ 1000) :
    Ev (fun k => slices_pdqsortCmpFunc_restrict_known.j1 k (a : Int) (b : Int) (limit : Int) wb wp ((b - a : Nat) : Int) (p : Int) (hintZ hint) d.toList)
      (if (if wb && wp && hint = .increasing then Go.Sort.partialInsertionSort ltR d a b else (d, false)).2 then (if wb && wp && hint = .increasing then Go.Sort.partialInsertionSort ltR d a b else (d, false)).1 else part2 (if wb && wp && hint = .increasing then Go.Sort.partialInsertionSort ltR d a b else (d, false)).1 a b p limit wb wp).toList
    ∧ (if (if wb && wp && hint = .increasing then Go.Sort.partialInsertionSort ltR d a b else (d, false)).2 then (if wb && wp && hint = .increasing then Go.Sort.partialInsertionSort ltR d a b else (d, false)).1 else part2 (if wb && wp && hint = .increasing then Go.Sort.partialInsertionSort ltR d a b else (d, false)).1 a b p limit wb wp).size = d.size := by
  have P := q_pis a b d (by omega) hb hB
  have PS : (Go.Sort.partialInsertionSort ltR d a b).1.size = d.size := partialIns_size a b _ _ d
  have J := fun (D : Array S78) (hD : D.size = d.size) => q_j2 n a b p limit wb wp D ih hn h12 hap hpb (show b ≤ D.size by rw [hD]; exact hb) (show BIG D.size by rw [hD]; exact hB) hl
  by_cases hw : (wb && wp && hint = .increasing) = true
  · have hw' := hw
    simp only [Bool.and_eq_true, decide_eq_true_eq] at hw'
    obtain ⟨⟨rfl, rfl⟩, rfl⟩ := hw'
    simp only [if_pos hw]
    have c0 : (hintZ .increasing = 1) = True := by simp [hintZ]
    generalize Go.Sort.partialInsertionSort ltR d a b = r at *
    obtain ⟨D, ok⟩ := r
    dsimp only at P PS ⊢
    have S : ∀ v, Ev (fun k => bif ok then some D.toList else slices_pdqsortCmpFunc_restrict_known.j2 k (a : Int) (b : Int) (limit : Int) true true ((b - a : Nat) : Int) (p : Int) D.toList) v → Ev (fun k => slices_pdqsortCmpFunc_restrict_known.j1 k (a : Int) (b : Int) (limit : Int) true true ((b - a : Nat) : Int) (p : Int) (hintZ .increasing) d.toList) v := by
      intro v hv
      refine Ev.step (f := fun k => (slices_partialInsertionSortCmpFunc_restrict_known.f k (a : Int) (b : Int) d.toList).bind fun t5 => (bif t5.1 then (some t5.2) else (slices_pdqsortCmpFunc_restrict_known.j2 k (a : Int) (b : Int) (limit : Int) true true ((b - a : Nat) : Int) (p : Int) t5.2))) (fun k => ?_) (Ev.bind (f := fun k t => _) P hv)
      rw [slices_pdqsortCmpFunc_restrict_known.j1]
      simp only [c0, cond_true, if_true]
    cases ok with
    | true =>
      show Ev _ D.toList ∧ D.size = d.size
      exact ⟨S _ (Ev.now _), PS⟩
    | false =>
      show Ev _ (part2 D a b p limit true true).toList ∧ (part2 D a b p limit true true).size = d.size
      obtain ⟨g1, g2⟩ := J D PS
      exact ⟨S _ g1, g2.trans PS⟩
  · simp only [if_neg hw, Bool.false_eq_true, if_false]
    obtain ⟨g1, g2⟩ := J d rfl
    refine ⟨Ev.step (fun k => ?_) g1, g2⟩
    rw [slices_pdqsortCmpFunc_restrict_known.j1]
    cases wb with
    | false => rfl
    | true =>
      cases wp with
      | false => rfl
      | true =>
        have hh : ¬ hint = .increasing := by simpa using hw
        rw [cond_true, cond_true, if_neg (by intro h; apply hh; cases hint <;> simp_all [hintZ])]
theorem q_j0 (n a b limit : Nat) (wb wp : Bool) (d : Array S78) (ih : Smaller n) (hn : b - a = n) (h12 : 12 < b - a) (hb : b ≤ d.size) (hB : BIG d.size) (hl : limit ≤ 1000) :
    Ev (fun k => slices_pdqsortCmpFunc_restrict_known.j0 k (a : Int) (b : Int) (limit : Int) wb wp ((b - a : Nat) : Int) d.toList) (part1 d a b limit wb wp).toList ∧ (part1 d a b limit wb wp).size = d.size := by
  have hC := q_piv d a b (by omega) hb hB
  have hR := Go.Sort.choosePivot_holds ltR d a b (by omega)
  unfold part1
  dsimp only
  generalize Go.Sort.choosePivot ltR d a b = c at *
  obtain ⟨p, hint⟩ := c
  dsimp only at hC hR ⊢
  by_cases hd : hint = .decreasing
  · subst hd
    have m1 : 1 ≤ b := by omega
    have m2 : b ≤ 900000000000000 := by omega
    have m3 : p = a + (p - a) := by omega
    have m4 : p ≤ 900000000000000 := by omega
    have m5 : b - 1 = (p - a) + (b - 1 - (p - a)) := by omega
    have m6 : b - 1 ≤ 900000000000000 := by omega
    have m7 : a ≤ b - 1 - (p - a) := by omega
    have m8 : b - 1 - (p - a) < b := by omega
    have hs := reverseRange_size a b d
    have hV := q_rev a b d (by omega) hb hB
    simp only [if_true]
    have g := q_j1 n a b (b - 1 - (p - a)) limit wb wp .increasing (Go.Sort.reverseRange d a b) ih hn h12 m7 m8 (by rw [hs]; exact hb) (by rw [hs]; exact hB) hl
    refine ⟨?_, g.2.trans hs⟩
    refine Ev.step (f := fun k => (slices_choosePivotCmpFunc_restrict_known.f k d.toList (a : Int) (b : Int)).bind fun t3 => (if t3.2 = 2 then ((slices_reverseRangeCmpFunc_restrict_known.f k (a : Int) (b : Int) d.toList).bind fun t4 => (slices_pdqsortCmpFunc_restrict_known.j1 k (a : Int) (b : Int) (limit : Int) wb wp ((b - a : Nat) : Int) (wrap64 ((wrap64 ((b : Int) - 1)) - (wrap64 (t3.1 - (a : Int))))) 1 t4)) else (slices_pdqsortCmpFunc_restrict_known.j1 k (a : Int) (b : Int) (limit : Int) wb wp ((b - a : Nat) : Int) t3.1 t3.2 d.toList))) (fun k => by rw [slices_pdqsortCmpFunc_restrict_known.j0]) ?_
    refine Ev.bind (f := fun k t => _) hC ?_
    dsimp only
    have hz : hintZ .decreasing = 2 := rfl
    simp only [hz, if_true, qm1 b m1 m2, qsub p a (p - a) m3 m4, qsub (b - 1) (p - a) _ m5 m6]
    exact Ev.bind (f := fun k t => _) hV g.1
  · simp only [if_neg hd]
    have g := q_j1 n a b p limit wb wp hint d ih hn h12 hR.1 hR.2 hb hB hl
    refine ⟨?_, g.2⟩
    refine Ev.step (f := fun k => (slices_choosePivotCmpFunc_restrict_known.f k d.toList (a : Int) (b : Int)).bind fun t3 => (if t3.2 = 2 then ((slices_reverseRangeCmpFunc_restrict_known.f k (a : Int) (b : Int) d.toList).bind fun t4 => (slices_pdqsortCmpFunc_restrict_known.j1 k (a : Int) (b : Int) (limit : Int) wb wp ((b - a : Nat) : Int) (wrap64 ((wrap64 ((b : Int) - 1)) - (wrap64 (t3.1 - (a : Int))))) 1 t4)) else (slices_pdqsortCmpFunc_restrict_known.j1 k (a : Int) (b : Int) (limit : Int) wb wp ((b - a : Nat) : Int) t3.1 t3.2 d.toList))) (fun k => by rw [slices_pdqsortCmpFunc_restrict_known.j0]) ?_
    refine Ev.bind (f := fun k t => _) hC ?_
    dsimp only
    have hz : ¬ hintZ hint = 2 := by intro h; apply hd; cases hint <;> simp_all [hintZ]
    simp only [if_neg hz]
    exact g.1
theorem q_l0 (n a b limit : Nat) (wb wp : Bool) (d : Array S78) (ih : Smaller n) (hn : b - a = n) (hab : a ≤ b) (hb : b ≤ d.size) (hB : BIG d.size) (hl : limit ≤ 1000) : Goal a b limit wb wp d := by
  unfold Goal
  rw [pdq_stage]
  have m1 : b = a + (b - a) := by omega
  have m2 : b ≤ 900000000000000 := by omega
  have c0 : (((b - a : Nat) : Int) ≤ 12) = (b - a ≤ 12) := by apply propext; omega
  have c1 : ((limit : Int) = 0) = (limit = 0) := by apply propext; omega
  have st : ∀ k, slices_pdqsortCmpFunc_restrict_known.l0 (k + 1) (a : Int) (b : Int) (limit : Int) wb wp d.toList = if b - a ≤ 12 then ((slices_insertionSortCmpFunc_restrict_known.f k (a : Int) (b : Int) d.toList).bind fun t0 => (some t0)) else (if limit = 0 then ((slices_heapSortCmpFunc_restrict_known.f k (a : Int) (b : Int) d.toList).bind fun t1 => (some t1)) else (bif (!wb) then ((slices_breakPatternsCmpFunc_restrict_known.f k (a : Int) (b : Int) d.toList).bind fun t2 => (slices_pdqsortCmpFunc_restrict_known.j0 k (a : Int) (b : Int) (wrap64 ((limit : Int) - 1)) wb wp ((b - a : Nat) : Int) t2)) else (slices_pdqsortCmpFunc_restrict_known.j0 k (a : Int) (b : Int) (limit : Int) wb wp ((b - a : Nat) : Int) d.toList))) := by
    intro k
    rw [slices_pdqsortCmpFunc_restrict_known.l0]
    simp only [qsub b a (b - a) m1 m2, c0, c1]
  by_cases h12 : b - a ≤ 12
  · simp only [if_pos h12]
    refine ⟨Ev.step st ?_, insOuter_size a b _ _ d (Nat.le_refl _)⟩
    simp only [if_pos h12]
    exact Ev.bind (f := fun k t => _) (q_ins' a b d hab hb hB) (Ev.now _)
  · simp only [if_neg h12]
    have h12' : 12 < b - a := by omega
    by_cases h0 : limit = 0
    · simp only [if_pos h0]
      refine ⟨Ev.step st ?_, by unfold Go.Sort.heapSort; rw [heapPop_size, heapBuild_size]⟩
      simp only [if_neg h12, if_pos h0]
      exact Ev.bind (f := fun k t => _) (q_heap a b d (by omega) hb hB) (Ev.now _)
    · simp only [if_neg h0]
      cases wb with
      | true =>
        simp only [Bool.not_true, Bool.false_eq_true, if_false]
        obtain ⟨g1, g2⟩ := q_j0 n a b limit true wp d ih hn h12' hb hB hl
        refine ⟨Ev.step st ?_, g2⟩
        simp only [if_neg h12, if_neg h0, Bool.not_true, cond_false]
        exact g1
      | false =>
        simp only [Bool.not_false, if_true]
        have hs := breakPatterns_size a b d
        obtain ⟨g1, g2⟩ := q_j0 n a b (limit - 1) false wp (Go.Sort.breakPatterns d a b) ih hn h12' (by rw [hs]; exact hb) (by rw [hs]; exact hB) (by omega)
        refine ⟨Ev.step st ?_, g2.trans hs⟩
        have m3 : 1 ≤ limit := by omega
        have m4 : limit ≤ 900000000000000 := by omega
        simp only [if_neg h12, if_neg h0, Bool.not_false, cond_true, qm1 limit m3 m4]
        exact Ev.bind (f := fun k t => _) (q_break a b d (by omega) hb hB) g1
theorem q_pdq : ∀ (n : Nat), Smaller n := by
  intro n
  induction n using Nat.strongRecOn with
  | _ n ihn =>
    intro a b limit wb wp d hlt hab hb hB hl
    exact q_l0 (b - a) a b limit wb wp d (ihn (b - a) hlt) rfl hab hb hB hl
/-- The whole sort: what the kit's plain sort makes. -/
theorem q_all (d : Array S78) (hB : BIG d.size) (limit : Nat) (hl : limit ≤ 1000) : Ev (fun k => slices_pdqsortCmpFunc_restrict_known.f k 0 (d.size : Int) (limit : Int) d.toList) (Go.Sort.pdq ltR d 0 d.size limit true true).toList :=
  q_f 0 d.size limit d _ (q_pdq (d.size + 1) 0 d.size limit true true d (by omega) (by omega) (Nat.le_refl _) hB hl).1
theorem q_sorts (d : Array S78) (limit : Nat) : Go.Sort.PermIn 0 d.size d (Go.Sort.pdq ltR d 0 d.size limit true true) ∧ Go.Sort.SortedIn ltR 0 d.size (Go.Sort.pdq ltR d 0 d.size limit true true) :=
  Go.Sort.pdq_sorts ltR swoR d 0 d.size limit true true (Nat.zero_le _) (Nat.le_refl _) (Or.inl rfl)
/-- A list, sorted: the same ones, and none is less than one ahead of it. -/
theorem q_list (l : List S78) (hB : BIG l.length) (limit : Nat) (hl : limit ≤ 1000) : ∃ s, Ev (fun k => slices_pdqsortCmpFunc_restrict_known.f k 0 (l.length : Int) (limit : Int) l) s ∧ s.Perm l ∧ s.Pairwise (fun x y => ltR y x = false) := by
  have h := q_all l.toArray (by simpa using hB) limit hl
  obtain ⟨⟨p1, p2, p3⟩, p4⟩ := q_sorts l.toArray limit
  generalize Go.Sort.pdq ltR l.toArray 0 l.toArray.size limit true true = r at *
  refine ⟨r.toList, by simpa using h, ?_, ?_⟩
  · have e1 : r.extract 0 l.toArray.size = r := by rw [← p1]; simp
    have e2 : l.toArray.extract 0 l.toArray.size = l.toArray := by simp
    rw [e1, e2] at p3
    simpa using p3
  · rw [List.pairwise_iff_getElem]
    intro i j hi hj hij
    have hi' : i < r.size := by simpa using hi
    have hj' : j < r.size := by simpa using hj
    have := p4 i j (Nat.zero_le _) hij (by rw [← p1]; exact hj')
    simpa [hi', hj'] using this
end Go.Proofs.Ytjfcfljdojkcdaa.C9
