/- Plain lemmas on the printed functions: whole numbers and lists, no program in sight. -/
import Derived.Test.YtjfcfljdojkcdaaSg
import Derived.Test.YtjfcfljdojkcdaaMa
import Derived.Laws.BitsLemmas
namespace Go.Proofs.Ytjfcfljdojkcdaa.Q
open Go Go.RowKit Go.Proofs.Ytjfcfljdojkcdaa.Ev
set_option linter.unusedVariables false
set_option linter.unusedSimpArgs false
set_option maxRecDepth 100000
/-! ### both sorts are the rules put together -/
theorem clone_val (l : List S26) (h : l.length ≤ 1000) : slices_Clone_api_Rule_api_Rule.f l = some l := by
  unfold slices_Clone_api_Rule_api_Rule.f
  rw [if_pos (by simp only [List.length_nil]; omega)]
  cases l with
  | nil => unfold nilc fork; simp
  | cons a l => rfl
theorem rdl (l : List S26) (i : Nat) (h : i < l.length) : rdOf z_S26 l (i : Int) = l[i] := by simp [rdOf, h]
theorem sort1_val (r : S26) (h : okR r) : restrict_Sort_1.f r.f0 r.f1 r.f2 = some (decide (¬ V r)) := by
  unfold restrict_Sort_1.f
  rw [check_eq r h, bsome]
  by_cases c : V r
  · rw [if_pos c, decide_eq_false (fun h => h rfl), decide_eq_false (fun h => h c)]
  · rw [if_neg c, decide_eq_true (by decide), decide_eq_true c]
theorem index_l0 (l : List S26) (hl : ∀ r ∈ l, okR r) (hn : l.length ≤ 1000) : ∀ (d i : Nat), i + d = l.length →
    ∃ j : Int, Ev (fun k => slices_IndexFunc_api_Rule_api_Rule.l0 k l (l.length : Int) (i : Int)) j ∧ (j ≥ 0 ↔ ∃ x ∈ l.drop i, ¬ V x)
  | 0, i, hd => by
    refine ⟨-1, Ev.succ fun k => by rw [slices_IndexFunc_api_Rule_api_Rule.l0, if_neg (by omega)], ?_⟩
    rw [List.drop_eq_nil_of_le (by omega)]
    simp
  | d + 1, i, hd => by
    have hi : i < l.length := by omega
    have hr := hl _ (List.getElem_mem hi)
    have e1 := rdl l i hi
    have c1 : (i : Int) < (l.length : Int) := by omega
    have c0 : (0 : Int) ≤ (i : Int) := by omega
    rw [List.drop_eq_getElem_cons hi]
    by_cases c : V l[i]
    · obtain ⟨j, hj, hx⟩ := index_l0 l hl hn d (i + 1) (by omega)
      refine ⟨j, Ev.step (fun k => ?_) hj, hx.trans ?_⟩
      · rw [slices_IndexFunc_api_Rule_api_Rule.l0, if_pos c1, if_pos c0, if_pos c1, e1, sort1_val _ hr, bsome, decide_eq_false (fun h => h c), cond_false, wrap_succ i (by omega)]
      · constructor
        · rintro ⟨x, hx, hv⟩; exact ⟨x, List.mem_cons_of_mem _ hx, hv⟩
        · rintro ⟨x, hx, hv⟩
          rcases List.mem_cons.1 hx with rfl | hx
          · exact absurd c hv
          · exact ⟨x, hx, hv⟩
    · refine ⟨i, Ev.succ fun k => ?_, ?_⟩
      · rw [slices_IndexFunc_api_Rule_api_Rule.l0, if_pos c1, if_pos c0, if_pos c1, e1, sort1_val _ hr, bsome, decide_eq_true c, cond_true]
      · exact ⟨fun _ => ⟨l[i], List.mem_cons_self, c⟩, fun _ => c0⟩
theorem ev_contains (l : List S26) (hl : ∀ r ∈ l, okR r) (hn : l.length ≤ 1000) : ∃ b, Ev (fun k => slices_ContainsFunc_api_Rule_api_Rule.f k l) b ∧ (b = true ↔ ∃ x ∈ l, ¬ V x) := by
  obtain ⟨j, hj, hx⟩ := index_l0 l hl hn l.length 0 (by omega)
  refine ⟨decide (j ≥ 0), ?_, ?_⟩
  · unfold slices_ContainsFunc_api_Rule_api_Rule.f slices_IndexFunc_api_Rule_api_Rule.f
    exact Ev.bind (f := fun k t => _) hj (Ev.now _)
  · rw [decide_eq_true_eq, hx, List.drop_zero]
theorem rs_l0 (T : List S26) (hT : T.length ≤ 1000) : ∀ (d i : Nat) (o : List S26), i + d = T.length → o.length ≤ i → Ev (fun k => restrict_Sort.l0 k (T.length : Int) (i : Int) o T) (0, (T.drop i).foldl putR o)
  | 0, i, o, hd, ho => by
    refine Ev.succ fun k => ?_
    rw [restrict_Sort.l0, if_neg (by omega), List.drop_eq_nil_of_le (by omega)]
    rfl
  | d + 1, i, o, hd, ho => by
    have hi : i < T.length := by omega
    have e1 := rdl T i hi
    have c1 : (i : Int) < (T.length : Int) := by omega
    have c0 : (0 : Int) ≤ (i : Int) := by omega
    rw [List.drop_eq_getElem_cons hi, List.foldl_cons]
    have cap : (2 * (o.length + ([T[i]] : List S26).length) + 200) * 24 ≤ 281474976710656 := by simp only [List.length_cons, List.length_nil]; omega
    have next : ∀ o' : List S26, o'.length ≤ i + 1 → Ev (fun k => restrict_Sort.j0 k (T.length : Int) (i : Int) o' T) (0, (T.drop (i + 1)).foldl putR o') := fun o' h' => by
      refine Ev.step (fun k => ?_) (rs_l0 T hT d (i + 1) o' (by omega) h')
      rw [restrict_Sort.j0, wrap_succ i (by omega)]
    generalize T[i] = r at *
    rcases List.eq_nil_or_concat o with rfl | ⟨Q, z, h⟩
    · refine Ev.step (fun k => ?_) (next [r] (by simp))
      rw [restrict_Sort.l0, if_pos c1, if_pos c0, if_pos c1, if_neg (by simp), e1, if_pos cap]
      rfl
    · rw [List.concat_eq_append] at h
      subst h
      have hl : (Q ++ [z]).length = Q.length + 1 := by simp
      have hw : wrap64 (((Q ++ [z]).length : Int) - 1) = (Q.length : Int) := by rw [hl, w64_in (by omega) (by omega)]; omega
      have r0 : rdOf z_S26 (Q ++ [z]) (Q.length : Int) = z := rdx Q [] z _ rfl
      have g1 : ((Q ++ [z]).length : Int) > 0 := by omega
      have z0 : (0 : Int) ≤ (Q.length : Int) := Int.natCast_nonneg _
      have l0 : (Q.length : Int) < ((Q ++ [z]).length : Int) := by omega
      have sq : (Q ++ [z]).set Q.length (orR z r) = Q ++ [orR z r] := setx Q [] z (orR z r) Q.length rfl
      have e2 : (Q ++ [z]).getLast? = some z := by simp
      have e3 : (Q ++ [z]).dropLast = Q := by simp
      have ep : putR (Q ++ [z]) r = if z.f0 = r.f0 ∧ z.f1 = r.f1 then Q ++ [orR z r] else (Q ++ [z]) ++ [r] := by
        unfold putR
        rw [e2, e3]
      by_cases k0 : z.f0 = r.f0
      · by_cases k1 : z.f1 = r.f1
        · rw [ep, if_pos ⟨k0, k1⟩]
          refine Ev.step (fun k => ?_) (next (Q ++ [orR z r]) (by simp; omega))
          rw [restrict_Sort.l0, if_pos c1, if_pos c0, if_pos c1, if_pos g1, hw, if_pos z0, if_pos l0, r0, e1, if_pos k0, if_pos z0, if_pos l0, if_pos k1, if_pos z0, if_pos l0, if_pos z0, if_pos l0, Int.toNat_natCast, ← sq]
          rfl
        · rw [ep, if_neg (fun h => k1 h.2)]
          refine Ev.step (fun k => ?_) (next (Q ++ [z] ++ [r]) (by simp at ho ⊢; omega))
          rw [restrict_Sort.l0, if_pos c1, if_pos c0, if_pos c1, if_pos g1, hw, if_pos z0, if_pos l0, r0, e1, if_pos k0, if_pos z0, if_pos l0, if_neg k1, if_pos cap]
      · rw [ep, if_neg (fun h => k0 h.1)]
        refine Ev.step (fun k => ?_) (next (Q ++ [z] ++ [r]) (by simp at ho ⊢; omega))
        rw [restrict_Sort.l0, if_pos c1, if_pos c0, if_pos c1, if_pos g1, hw, if_pos z0, if_pos l0, r0, e1, if_neg k0, if_pos cap]
/-- What sorting answers. -/
noncomputable def sortV (l : List S26) : Int × List S26 := open Classical in
  if l.length > 32 then (54, []) else if ∃ x ∈ l, ¬ V x then (60, []) else (0, l.foldl insR [])
theorem ev_sort (l : List S26) (hl : ∀ r ∈ l, okR r) : Ev (fun k => restrict_Sort.f k l) (sortV l) := by
  unfold restrict_Sort.f sortV
  by_cases c : l.length > 32
  · rw [if_pos c]; exact Ev.congr (fun k => if_pos (by omega)) (Ev.now _)
  · rw [if_neg c]
    refine Ev.congr (fun k => if_neg (by omega)) ?_
    obtain ⟨b, hb, hx⟩ := ev_contains l hl (by omega)
    refine Ev.bind (f := fun k t => _) hb ?_
    cases b with
    | true =>
      rw [if_pos (hx.1 rfl)]
      exact Ev.now _
    | false =>
      rw [if_neg (fun h => by cases hx.2 h)]
      rw [clone_val l (by omega)]
      refine Ev.bs (f := fun k t => _) ?_
      refine Ev.bind (f := fun k t => _) (ev_sortStable l (by omega)) ?_
      have hp := stable_perm l
      have g := rs_l0 (stableV l) (by rw [hp.length_eq]; omega) (stableV l).length 0 [] (by omega) (by simp)
      rw [List.drop_zero, put_fold _ [] (stable_sorted l) List.Pairwise.nil (by simp), insR_perm hp] at g
      exact g
theorem less_val (a b : S26) : foliotref06_less.f a.f0 a.f1 a.f2 b.f0 b.f1 b.f2 = some (decide (ls a b)) := by
  unfold foliotref06_less.f
  by_cases c : a.f0 < b.f0
  · rw [if_pos c, decide_eq_true (show ls a b from Or.inl c)]
  · rw [if_neg c]
    by_cases d : a.f0 = b.f0
    · rw [if_pos d]; congr 1; rw [decide_eq_decide]; unfold ls; omega
    · rw [if_neg d, decide_eq_false (show ¬ ls a b by unfold ls; omega)]
theorem ref_l1 (l : List S26) (len i : Int) (r : S26) (res : Int × List S26) : ∀ (S P : List S26), (P ++ S).length ≤ 1000 → Ev (fun k => foliotref06_Sort.l0 k l len (wrap64 (i + 1)) (P ++ insR S r)) res →
    Ev (fun k => foliotref06_Sort.l1 k (P.length : Int) l len i (P ++ S) r.f0 r.f1 r.f2) res := by
  intro S
  induction S with
  | nil =>
    intro P hP h
    refine Ev.step (fun k => ?_) h
    have n1 : ¬ ((P.length : Int) < ((P ++ ([] : List S26)).length : Int)) := by simp
    have z0 : (0 : Int) ≤ (P.length : Int) := Int.natCast_nonneg _
    have z1 : (P.length : Int) ≤ ((P ++ ([] : List S26)).length : Int) := by simp
    have t1 : (((P ++ ([] : List S26)).drop 0).take (((P.length : Int) - 0).toNat)) = P := by simp
    have t2 : (((P ++ ([] : List S26)).drop ((P.length : Int).toNat)).take ((((P ++ ([] : List S26)).length : Int) - (P.length : Int)).toNat)) = [] := by simp
    rw [foliotref06_Sort.l1, if_neg n1, if_neg n1, if_pos z0, if_pos z1, t1, t2]
    simp only [List.append_nil] at hP ⊢
    rw [if_pos (by simp only [List.length_nil]; omega), if_pos (by simp only [List.length_cons, List.length_nil]; omega), if_pos z0, if_pos (Int.le_refl _), if_pos (Int.le_refl _), if_pos (by simp only [List.length_append, List.length_cons, List.length_nil]; omega)]
    rfl
  | cons z S ih =>
    intro P hP h
    have c1 : (P.length : Int) < ((P ++ z :: S).length : Int) := by simp only [List.length_append, List.length_cons]; omega
    have z0 : (0 : Int) ≤ (P.length : Int) := Int.natCast_nonneg _
    have z1 : (P.length : Int) ≤ ((P ++ z :: S).length : Int) := by omega
    have r0 : rdOf z_S26 (P ++ z :: S) (P.length : Int) = z := rdx P S z _ rfl
    have hlen : (P ++ z :: S).length = P.length + (S.length + 1) := by simp only [List.length_append, List.length_cons]
    by_cases a1 : ls z r
    · simp only [insR, if_pos a1] at h
      have g := ih (P ++ [z]) (by simpa using hP) (by simpa using h)
      have e : ((P ++ [z]).length : Int) = ((P.length + 1 : Nat) : Int) := by simp
      rw [e] at g
      have g : Ev (fun k => foliotref06_Sort.l1 k ((P.length + 1 : Nat) : Int) l len i (P ++ z :: S) r.f0 r.f1 r.f2) res := by simpa using g
      refine Ev.step (fun k => ?_) g
      rw [foliotref06_Sort.l1, if_pos c1, if_pos z0, if_pos c1, r0, less_val, bsome, decide_eq_true a1, cond_true, wrap_succ P.length (by omega)]
    · by_cases a2 : ls r z
      · simp only [insR, if_neg a1, if_pos a2] at h
        refine Ev.step (fun k => ?_) h
        have t1 : (((P ++ z :: S).drop 0).take (((P.length : Int) - 0).toNat)) = P := by simp
        have t2 : (((P ++ z :: S).drop ((P.length : Int).toNat)).take ((((P ++ z :: S).length : Int) - (P.length : Int)).toNat)) = z :: S := by
          rw [Int.toNat_natCast, List.drop_left]
          apply List.take_of_length_le
          simp only [List.length_append, List.length_cons]; omega
        rw [foliotref06_Sort.l1, if_pos c1, if_pos z0, if_pos c1, r0, less_val, bsome, decide_eq_false a1, cond_false, if_pos c1, if_pos z0, if_pos c1, less_val, bsome, decide_eq_true a2, Bool.not_true, cond_false, if_pos z0, if_pos z1, t1, t2]
        rw [if_pos (by simp only [List.length_nil]; omega), if_pos (by simp only [List.length_cons, List.length_nil]; omega), if_pos z0, if_pos z1, if_pos (Int.le_refl _), if_pos (by simp only [List.length_append, List.length_cons, List.length_nil]; omega)]
        simp
      · simp only [insR, if_neg a1, if_neg a2] at h
        refine Ev.step (fun k => ?_) h
        have sq : (P ++ z :: S).set P.length (orR z r) = P ++ orR z r :: S := setx P S z (orR z r) P.length rfl
        rw [foliotref06_Sort.l1, if_pos c1, if_pos z0, if_pos c1, r0, less_val, bsome, decide_eq_false a1, cond_false, if_pos c1, if_pos z0, if_pos c1, less_val, bsome, decide_eq_false a2, Bool.not_false, cond_true, if_pos z0, if_pos c1, if_pos z0, if_pos c1, Int.toNat_natCast, ← sq]
        rfl
end Go.Proofs.Ytjfcfljdojkcdaa.Q
