/- Plain lemmas on the printed functions: whole numbers and lists, no program in sight. -/
import Derived.Test.YtjfcfljdojkcdaaSi
import Derived.Laws.BitsLemmas
namespace Go.Proofs.Ytjfcfljdojkcdaa.Q
open Go Go.RowKit Go.Proofs.Ytjfcfljdojkcdaa.Ev
set_option linter.unusedVariables false
set_option linter.unusedSimpArgs false
set_option maxRecDepth 100000
/-! ### the law's loops -/
theorem insR_fold_len : ∀ (l o : List S26), (l.foldl insR o).length ≤ o.length + l.length
  | [], o => by simp
  | r :: l, o => by
    have h1 := insR_fold_len l (insR o r)
    have h2 := insR_len o r
    simp only [List.foldl_cons, List.length_cons]; omega
theorem sortV_len (l : List S26) : (sortV l).2.length ≤ 32 := by
  unfold sortV
  by_cases c : l.length > 32
  · rw [if_pos c]; simp
  · rw [if_neg c]
    split
    · simp
    · have := insR_fold_len l []
      simp only [List.length_nil] at this
      show (l.foldl insR []).length ≤ 32
      omega
theorem rr_l1 (l : List S26) (hn : l.length ≤ 6000000000000) (m : Nat) (hm : m ≤ 32) : ∀ (d i : Nat) (e : List S26), e.length = m → i + d = m → Ev (fun k => foliotlaw06_RestrictRules.l1 k l (m : Int) (i : Int) l e) true
  | 0, i, e, he, hd => by
    refine Ev.step (fun k => by rw [foliotlaw06_RestrictRules.l1, if_neg (by omega)]) ?_
    exact Ev.bind (f := fun k t => _) (ev_rules l hn) (Ev.now _)
  | d + 1, i, e, he, hd => by
    refine Ev.step (fun k => by rw [foliotlaw06_RestrictRules.l1, if_pos (by omega), if_pos (by omega), if_pos (by omega), wrap_succ i (by omega)]) ?_
    exact rr_l1 l hn m hm d (i + 1) _ (by rw [List.length_set, he]) (by omega)
theorem rr_l0 (l : List S26) (hl : ∀ r ∈ l, okR r) (hn : l.length ≤ 6000000000000) : ∀ (d i : Nat), i + d = l.length → Ev (fun k => foliotlaw06_RestrictRules.l0 k l l (l.length : Int) (i : Int) l) true
  | 0, i, hd => by
    refine Ev.step (fun k => by rw [foliotlaw06_RestrictRules.l0, if_neg (by omega)]) ?_
    refine Ev.bind (f := fun k t => _) (ev_sort l hl) ?_
    refine Ev.bind (f := fun k t => _) (ref_sort l hl) ?_
    have hs := sortV_len l
    generalize sortV l = s at hs
    refine Ev.congr (fun k => if_neg (fun h => h rfl)) ?_
    refine Ev.bind (f := fun k t => _) (ev_rules s.2 (by omega)) ?_
    refine Ev.bind (f := fun k t => _) (ev_rules l hn) ?_
    exact rr_l1 l hn s.2.length hs s.2.length 0 s.2 rfl (by omega)
  | d + 1, i, hd => by
    have hi : i < l.length := by omega
    have hr := hl _ (List.getElem_mem hi)
    have c1 : (i : Int) < (l.length : Int) := by omega
    have c0 : (0 : Int) ≤ (i : Int) := by omega
    have e1 := rdl l i hi
    refine Ev.step (fun k => by rw [foliotlaw06_RestrictRules.l0, if_pos c1, if_pos c0, if_pos c1, e1, check_eq _ hr, bsome]) ?_
    refine Ev.bind (f := fun k t => _) (ref_check _ hr) ?_
    refine Ev.congr (fun k => if_neg (fun h => h rfl)) ?_
    rw [wrap_succ i (by omega)]
    exact rr_l0 l hl hn d (i + 1) (by omega)
end Go.Proofs.Ytjfcfljdojkcdaa.Q
