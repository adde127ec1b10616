/- Plain lemmas on the printed functions: whole numbers and lists, no program in sight. -/
import Derived.Test.YtjfcfljdojkcdaaSe
import Derived.Laws.BitsLemmas
namespace Go.Proofs.Ytjfcfljdojkcdaa.Q
open Go Go.RowKit Go.Proofs.Ytjfcfljdojkcdaa.Ev
set_option linter.unusedVariables false
set_option linter.unusedSimpArgs false
set_option maxRecDepth 100000
/-! ### the stable sort, of less than 40 -/
def stableV (D : List S26) : List S26 := List.merge (isort leR (D.take 20)) (isort leR (D.drop 20)) leR
theorem stable_sorted (D : List S26) : Srt (stableV D) := mg_sorted ordR (isort_sorted ordR _) (isort_sorted ordR _)
theorem stable_perm (D : List S26) : (stableV D).Perm D := by
  have h := (mg_perm (le := leR) (isort leR (D.take 20)) (isort leR (D.drop 20))).trans ((isort_perm ordR (D.take 20)).append (isort_perm ordR (D.drop 20)))
  rw [List.take_append_drop] at h
  exact h
theorem ev_stable (D : List S26) (h : D.length < 40) : Ev (fun k => slices_stableCmpFunc_api_Rule.f k (D.length : Int) D) (stableV D) := by
  unfold slices_stableCmpFunc_api_Rule.f stableV
  have w20 : wrap64 (20 + 20) = 40 := by kernel_rfl
  have w0 : wrap64 (0 + 20) = 20 := by kernel_rfl
  have w2 : wrap64 (2 * 20) = 40 := by kernel_rfl
  have w3 : wrap64 (20 * 2) = 40 := by kernel_rfl
  have n40 : ¬ ((40 : Int) ≤ (D.length : Int)) := by omega
  have n40' : ¬ ((40 : Int) < (D.length : Int)) := by omega
  have rm : ∀ n, n < 40 → room n := fun n hn => by unfold room; omega
  by_cases c : D.length < 20
  · have n20 : ¬ ((20 : Int) ≤ (D.length : Int)) := by omega
    have n20' : ¬ ((20 : Int) < (D.length : Int)) := by omega
    rw [List.take_of_length_le (by omega), List.drop_of_length_le (by omega)]
    have e : isort leR ([] : List S26) = [] := rfl
    rw [e, mg_nil_right]
    refine Ev.step (fun k => by rw [slices_stableCmpFunc_api_Rule.l0, if_neg n20]) ?_
    have g := ev_isort [] D [] (rm _ (by simpa using h)) 0 (D.length : Int) rfl (by simp)
    simp only [List.nil_append, List.append_nil] at g
    refine Ev.bind (f := fun k t => _) g ?_
    exact Ev.succ fun k => by rw [slices_stableCmpFunc_api_Rule.l1, if_neg n20']
  · obtain ⟨A, B, rfl, hA⟩ : ∃ A B, D = A ++ B ∧ A.length = 20 := ⟨D.take 20, D.drop 20, (List.take_append_drop _ _).symm, by rw [List.length_take]; omega⟩
    have t1 : (A ++ B).take 20 = A := by rw [← hA, List.take_left]
    have t2 : (A ++ B).drop 20 = B := by rw [← hA, List.drop_left]
    rw [t1, t2]
    have hl : (A ++ B).length = 20 + B.length := by rw [List.length_append, hA]
    have p20 : ((20 : Int) ≤ ((A ++ B).length : Int)) := by omega
    have il : (isort leR A).length = 20 := by rw [(isort_perm ordR A).length_eq, hA]
    have ib : (isort leR B).length = B.length := (isort_perm ordR B).length_eq
    refine Ev.step (fun k => by rw [slices_stableCmpFunc_api_Rule.l0, if_pos p20, w20]) ?_
    have g1 := ev_isort [] A B (rm _ (by simpa using h)) 0 20 rfl (by simp [hA])
    simp only [List.nil_append] at g1
    refine Ev.bind (f := fun k t => _) g1 ?_
    refine Ev.step (fun k => by rw [slices_stableCmpFunc_api_Rule.l0, if_neg n40]) ?_
    have g2 := ev_isort (isort leR A) B [] (rm _ (by simp only [List.length_append, il, List.length_nil]; omega)) 20 ((A ++ B).length : Int) (by rw [il]; rfl) (by rw [il, hl])
    simp only [List.append_nil] at g2
    refine Ev.bind (f := fun k t => _) g2 ?_
    by_cases cb : B.length = 0
    · obtain rfl : B = [] := List.length_eq_zero_iff.1 cb
      have n20' : ¬ ((20 : Int) < ((A ++ ([] : List S26)).length : Int)) := by rw [hl]; simp
      have e : isort leR ([] : List S26) = [] := rfl
      rw [e, mg_nil_right, List.append_nil (isort leR A)]
      exact Ev.succ fun k => by rw [slices_stableCmpFunc_api_Rule.l1, if_neg n20']
    · have p20' : ((20 : Int) < ((A ++ B).length : Int)) := by omega
      refine Ev.step (fun k => by rw [slices_stableCmpFunc_api_Rule.l1, if_pos p20', w2]) ?_
      refine Ev.step (fun k => by rw [slices_stableCmpFunc_api_Rule.l2, if_neg n40, w0, if_pos p20', w3]) ?_
      have g := ev_symMerge _ [] (isort leR A) (isort leR B) [] rfl (by omega) (by omega) (isort_sorted ordR _) (isort_sorted ordR _) (rm _ (by simp only [List.length_append, il, ib, List.length_nil]; omega))
      simp only [List.nil_append, List.append_nil, List.length_nil, Nat.zero_add, il, ib] at g
      rw [← hl] at g
      refine Ev.bind (f := fun k t => _) g ?_
      exact Ev.succ fun k => by rw [slices_stableCmpFunc_api_Rule.l1, if_neg n40']
theorem ev_sortStable (D : List S26) (h : D.length < 40) : Ev (fun k => slices_SortStableFunc_api_Rule_api_Rule.f k D) (stableV D) := by
  unfold slices_SortStableFunc_api_Rule_api_Rule.f
  exact Ev.bind (f := fun k t => _) (ev_stable D h) (Ev.now _)
end Go.Proofs.Ytjfcfljdojkcdaa.Q
