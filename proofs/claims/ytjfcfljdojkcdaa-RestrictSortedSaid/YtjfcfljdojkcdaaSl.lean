/- Plain lemmas on the printed functions: whole numbers and lists, no program in sight. -/
import Derived.Test.YtjfcfljdojkcdaaSk
import Derived.Laws.BitsLemmas
namespace Go.Proofs.Ytjfcfljdojkcdaa.Q
open Go Go.RowKit Go.Proofs.Ytjfcfljdojkcdaa.Ev
set_option linter.unusedVariables false
set_option linter.unusedSimpArgs false
set_option maxRecDepth 100000
/-! ### what is sorted stays -/
theorem fold_strict : ∀ (T o : List S26), Srt T → Strict o → (∀ x ∈ o, ∀ y ∈ T, leR x y = true) → Strict (T.foldl insR o)
  | [], o, _, hs, _ => hs
  | r :: T, o, hT, hs, ho => by
    have h := putR_eq o r hs (fun x hx => ho x hx r (by simp))
    have hT' := List.pairwise_cons.1 hT
    exact fold_strict T (insR o r) hT'.2 h.2.1 (fun x hx y hy => ordR.tr _ _ _ (h.2.2 x hx) (hT'.1 y hy))
theorem sort_strict (l : List S26) : Strict (l.foldl insR []) := by
  rw [← insR_perm (stable_perm l) []]
  exact fold_strict (stableV l) [] (stable_sorted l) List.Pairwise.nil (by simp)
theorem strict_fold : ∀ (T o : List S26), Strict (o ++ T) → T.foldl insR o = o ++ T
  | [], o, _ => by simp
  | r :: T, o, h => by
    have hp := List.pairwise_append.1 h
    have e := insR_behind r o [] (fun x hx => hp.2.2 x hx r (by simp))
    rw [List.append_nil] at e
    have e2 : insR o r = o ++ [r] := e
    rw [List.foldl_cons, e2, strict_fold T (o ++ [r]) (by simpa using h)]
    simp
theorem sort_again (l : List S26) : (l.foldl insR []).foldl insR [] = l.foldl insR [] := by
  have h := strict_fold (l.foldl insR []) [] (by simpa using sort_strict l)
  simpa using h
theorem insR_fold_V : ∀ (l o : List S26), (∀ x ∈ l, V x) → (∀ x ∈ o, V x) → ∀ x ∈ l.foldl insR o, V x
  | [], o, _, ho => ho
  | r :: l, o, hl, ho => insR_fold_V l (insR o r) (fun x hx => hl x (List.mem_cons_of_mem _ hx)) (said_insR 0 r (hl r List.mem_cons_self) o (0, 0) ho).2
theorem sortV_ok (l : List S26) (h : ¬ l.length > 32) (hv : ∀ x ∈ l, V x) : sortV l = (0, l.foldl insR []) := by
  unfold sortV
  rw [if_neg h, if_neg (fun ⟨x, hx, hn⟩ => hn (hv x hx))]
theorem sortV_again (l : List S26) (h : ¬ l.length > 32) (hv : ∀ x ∈ l, V x) : sortV (l.foldl insR []) = (0, l.foldl insR []) := by
  have hl := insR_fold_len l []
  simp only [List.length_nil] at hl
  rw [sortV_ok _ (by omega) (insR_fold_V l [] hv (by simp)), sort_again]
theorem sortV_bad (l : List S26) (h : ¬ (sortV l).1 = 0) : (sortV l).2 = [] := by
  unfold sortV at *
  by_cases c : l.length > 32
  · rw [if_pos c]
  · rw [if_neg c] at *
    split
    · rfl
    · rename_i hn
      rw [if_neg hn] at h
      exact absurd rfl h
end Go.Proofs.Ytjfcfljdojkcdaa.Q
