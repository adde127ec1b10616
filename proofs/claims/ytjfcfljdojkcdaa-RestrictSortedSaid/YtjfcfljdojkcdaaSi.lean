/- Plain lemmas on the printed functions: whole numbers and lists, no program in sight. -/
import Derived.Test.YtjfcfljdojkcdaaSh
import Derived.Laws.BitsLemmas
namespace Go.Proofs.Ytjfcfljdojkcdaa.Q
open Go Go.RowKit Go.Proofs.Ytjfcfljdojkcdaa.Ev
set_option linter.unusedVariables false
set_option linter.unusedSimpArgs false
set_option maxRecDepth 100000
/-! ### the reference sorts alike; lists told the same -/
theorem insR_len : ∀ (o : List S26) (r : S26), (insR o r).length ≤ o.length + 1
  | [], r => by simp [insR]
  | x :: o, r => by
    have := insR_len o r
    simp only [insR]
    (repeat' split) <;> simp only [List.length_cons] <;> omega
open Classical in
theorem rf_l0 (l : List S26) (hl : ∀ r ∈ l, okR r) (hn : l.length ≤ 900) : ∀ (d i : Nat) (o : List S26), i + d = l.length → o.length ≤ i →
    Ev (fun k => foliotref06_Sort.l0 k l (l.length : Int) (i : Int) o) (if ∃ x ∈ l.drop i, ¬ V x then (60, []) else (0, (l.drop i).foldl insR o))
  | 0, i, o, hd, ho => by
    rw [List.drop_eq_nil_of_le (by omega), if_neg (by simp)]
    exact Ev.succ fun k => by rw [foliotref06_Sort.l0, if_neg (by omega)]; rfl
  | d + 1, i, o, hd, ho => by
    have hi : i < l.length := by omega
    have hr := hl _ (List.getElem_mem hi)
    have e1 := rdl l i hi
    have c1 : (i : Int) < (l.length : Int) := by omega
    have c0 : (0 : Int) ≤ (i : Int) := by omega
    rw [List.drop_eq_getElem_cons hi, List.foldl_cons]
    refine Ev.step (fun k => by rw [foliotref06_Sort.l0, if_pos c1, if_pos c0, if_pos c1, e1]) ?_
    generalize l[i] = r at *
    have hc := ref_check r hr
    by_cases c : V r
    · rw [if_pos c] at hc
      refine Ev.bind (f := fun k t => _) hc ?_
      refine Ev.congr (fun k => if_neg (fun h => h rfl)) ?_
      have g := rf_l0 l hl hn d (i + 1) (insR o r) (by omega) (by have := insR_len o r; omega)
      have e : (∃ x ∈ r :: l.drop (i + 1), ¬ V x) ↔ (∃ x ∈ l.drop (i + 1), ¬ V x) := by
        constructor
        · rintro ⟨x, hx, hv⟩
          rcases List.mem_cons.1 hx with rfl | hx
          · exact absurd c hv
          · exact ⟨x, hx, hv⟩
        · rintro ⟨x, hx, hv⟩; exact ⟨x, List.mem_cons_of_mem _ hx, hv⟩
      simp only [e]
      have g2 := ref_l1 l (l.length : Int) (i : Int) r _ o [] (by simp; omega) (by
        rw [wrap_succ i (by omega)]
        exact g)
      exact g2
    · rw [if_neg c] at hc
      refine Ev.bind (f := fun k t => _) hc ?_
      rw [if_pos ⟨r, List.mem_cons_self, c⟩]
      exact Ev.congr (fun k => if_pos (by decide)) (Ev.now _)
theorem ref_sort (l : List S26) (hl : ∀ r ∈ l, okR r) : Ev (fun k => foliotref06_Sort.f k l) (sortV l) := by
  unfold foliotref06_Sort.f sortV
  by_cases c : l.length > 32
  · rw [if_pos c]; exact Ev.congr (fun k => if_pos (by omega)) (Ev.now _)
  · rw [if_neg c]
    refine Ev.congr (fun k => if_neg (by omega)) ?_
    have g := rf_l0 l hl (by omega) l.length 0 [] (by omega) (by simp)
    rw [List.drop_zero] at g
    exact g
theorem rules_l0 (a : List S26) (hn : a.length ≤ 6000000000000) : ∀ (d i : Nat), i + d = a.length → Ev (fun k => foliotlaw06_rules.l0 k a a (a.length : Int) (i : Int)) true
  | 0, i, hd => Ev.succ fun k => by rw [foliotlaw06_rules.l0, if_neg (by omega)]
  | d + 1, i, hd => by
    have c1 : (i : Int) < (a.length : Int) := by omega
    have c0 : (0 : Int) ≤ (i : Int) := by omega
    refine Ev.step (fun k => ?_) (rules_l0 a hn d (i + 1) (by omega))
    rw [foliotlaw06_rules.l0, if_pos c1, if_pos c0, if_pos c1, if_pos c0, if_pos c1, if_neg (fun h => h ⟨rfl, rfl, rfl⟩), wrap_succ i (by omega)]
theorem ev_rules (a : List S26) (hn : a.length ≤ 6000000000000) : Ev (fun k => foliotlaw06_rules.f k a a) true := by
  unfold foliotlaw06_rules.f
  exact Ev.congr (fun k => if_neg (fun h => h rfl)) (rules_l0 a hn a.length 0 (by omega))
end Go.Proofs.Ytjfcfljdojkcdaa.Q
