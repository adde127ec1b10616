/- Plain lemmas on the printed functions: whole numbers and lists, no program in sight. -/
import Derived.Test.YtigcmpmpjmbfkaaSd
import Derived.Laws.BitsLemmas
namespace Go.Proofs.Ytigcmpmpjmbfkaa.Q
open Go Go.RowKit Go.Proofs.Ytigcmpmpjmbfkaa.Ev
set_option linter.unusedVariables false
set_option linter.unusedSimpArgs false
set_option maxRecDepth 100000
/-! ### the stable sort of lists of any length -/
theorem srt_split {B : List S53} (hs : Srt B) (x : S53) : ∃ B1 B2, B = B1 ++ B2 ∧ (∀ y ∈ B1, leR y x = true) ∧ (∀ y ∈ B2, leR y x = false) := by
  induction B with
  | nil => exact ⟨[], [], rfl, by simp, by simp⟩
  | cons b B ih =>
    have hs' := List.pairwise_cons.1 hs
    by_cases c : leR b x = true
    · obtain ⟨B1, B2, rfl, h1, h2⟩ := ih hs'.2
      exact ⟨b :: B1, B2, rfl, fun y hy => by
        rcases List.mem_cons.1 hy with rfl | hy
        · exact c
        · exact h1 y hy, h2⟩
    · have c : leR b x = false := by simpa using c
      refine ⟨[], b :: B, rfl, by simp, fun y hy => ?_⟩
      rcases List.mem_cons.1 hy with rfl | hy
      · exact c
      · cases e : leR y x with
        | false => rfl
        | true => rw [ordR.tr _ _ _ (hs'.1 y hy) e] at c; cases c
theorem mg_assoc {A B : List S53} (hA : Srt A) (hB : Srt B) (x : S53) : List.merge (List.merge A B leR) [x] leR = List.merge A (List.merge B [x] leR) leR := by
  obtain ⟨A1, A2, rfl, a1, a2⟩ := srt_split hA x
  obtain ⟨B1, B2, rfl, b1, b2⟩ := srt_split hB x
  have h21 : ∀ p ∈ A2, ∀ q ∈ B1, leR p q = false := fun p hp q hq => by
    cases e : leR p q with
    | false => rfl
    | true => have := ordR.tr _ _ _ e (b1 q hq); rw [a2 p hp] at this; cases this
  have h12 : ∀ p ∈ A1, ∀ q ∈ B2, leR p q = true := fun p hp q hq => ordR.tr _ _ _ (a1 p hp) (ordR.conv (b2 q hq))
  rw [mg_split leR _ A1 A2 B1 B2 rfl h21 h12, mg_right leR x _ _ (fun p hp => by
    rcases List.mem_append.1 ((mg_perm (le := leR) A1 B1).mem_iff.1 hp) with h | h
    · exact a1 p h
    · exact b1 p h) (fun p hp => by
    rcases List.mem_append.1 ((mg_perm (le := leR) A2 B2).mem_iff.1 hp) with h | h
    · exact a2 p h
    · exact b2 p h), mg_right leR x B1 B2 b1 b2]
  rw [mg_split leR _ A1 A2 B1 (x :: B2) rfl h21 (fun p hp q hq => by
    rcases List.mem_cons.1 hq with rfl | hq
    · exact a1 p hp
    · exact h12 p hp q hq)]
  congr 1
  have := mg_split leR _ [] A2 [x] B2 rfl (fun p hp q hq => by rw [List.mem_singleton.1 hq]; exact a2 p hp) (by simp)
  rw [mg_nil_left] at this
  simpa using this.symm
theorem isort_snoc (A : List S53) (x : S53) : isort leR (A ++ [x]) = List.merge (isort leR A) [x] leR := by
  unfold isort; rw [List.foldl_append]; rfl
theorem isort_app (A : List S53) : ∀ (n : Nat) (B : List S53), B.length = n → isort leR (A ++ B) = List.merge (isort leR A) (isort leR B) leR
  | 0, B, h => by
    obtain rfl : B = [] := List.length_eq_zero_iff.1 h
    have e : isort leR ([] : List S53) = [] := rfl
    rw [e, mg_nil_right, List.append_nil]
  | n + 1, B, h => by
    obtain ⟨Q, z, rfl⟩ : ∃ Q z, B = Q ++ [z] := by
      rcases List.eq_nil_or_concat B with e | ⟨Q, z, e⟩
      · rw [e] at h; simp at h
      · exact ⟨Q, z, by rw [e, List.concat_eq_append]⟩
    rw [← List.append_assoc, isort_snoc, isort_app A n Q (by simpa using h), isort_snoc, mg_assoc (isort_sorted ordR _) (isort_sorted ordR _)]
theorem isort_len (A : List S53) : (isort leR A).length = A.length := (isort_perm ordR A).length_eq
/-- Blocks of bs, each in order. -/
def ck (bs : Nat) (D : List S53) : List S53 :=
  if h : 0 < bs ∧ bs ≤ D.length then isort leR (D.take bs) ++ ck bs (D.drop bs) else isort leR D
termination_by D.length
decreasing_by simp; omega
theorem ck_le {bs : Nat} (h0 : 0 < bs) {D : List S53} (h : bs ≤ D.length) : ck bs D = isort leR (D.take bs) ++ ck bs (D.drop bs) := by
  rw [ck, dif_pos ⟨h0, h⟩]
theorem ck_gt {bs : Nat} {D : List S53} (h : D.length < bs) : ck bs D = isort leR D := by
  rw [ck, dif_neg (by omega)]
theorem ck_all {bs : Nat} (h0 : 0 < bs) {D : List S53} (h : D.length ≤ bs) : ck bs D = isort leR D := by
  by_cases e : D.length < bs
  · exact ck_gt e
  · have e : D.length = bs := by omega
    rw [ck_le h0 (by omega), List.take_of_length_le (by omega), List.drop_eq_nil_of_le (by omega), ck_gt (by simpa using h0)]
    exact List.append_nil _
theorem ck_len {bs : Nat} (h0 : 0 < bs) : ∀ (n : Nat) (D : List S53), D.length = n → (ck bs D).length = D.length := by
  intro n
  induction n using Nat.strongRecOn with
  | ind n ih =>
    intro D hD
    by_cases h : bs ≤ D.length
    · rw [ck_le h0 h, List.length_append, isort_len, ih (D.drop bs).length (by simp; omega) _ rfl]
      simp; omega
    · rw [ck_gt (by omega), isort_len]
theorem st_l0 : ∀ (n : Nat) (X R : List S53) (r : List S53), R.length = n → room (X ++ R).length →
    Ev (fun k => slices_stableCmpFunc_cluster_rated.l1 k ((X.length + R.length : Nat) : Int) 20 (X ++ ck 20 R)) r →
    Ev (fun k => slices_stableCmpFunc_cluster_rated.l0 k ((X.length + R.length : Nat) : Int) 20 (X.length : Int) ((X.length + 20 : Nat) : Int) (X ++ R)) r := by
  intro n
  induction n using Nat.strongRecOn with
  | ind n ih =>
    intro X R r hR hr h
    have hrr : X.length + R.length ≤ 1000000000000 := by unfold room at hr; simpa using hr
    by_cases c : 20 ≤ R.length
    · have c1 : ((X.length + 20 : Nat) : Int) ≤ ((X.length + R.length : Nat) : Int) := by omega
      have hw : wrap64 (((X.length + 20 : Nat) : Int) + 20) = ((X.length + 20 + 20 : Nat) : Int) := wadd (X.length + 20) 20 (by omega)
      refine Ev.step (fun k => by rw [slices_stableCmpFunc_cluster_rated.l0, if_pos c1, hw]) ?_
      have e1 : X ++ R = X ++ R.take 20 ++ R.drop 20 := by rw [List.append_assoc, List.take_append_drop]
      have g := ev_isort X (R.take 20) (R.drop 20) (by rw [← e1]; exact hr) (X.length : Int) ((X.length + 20 : Nat) : Int) rfl (by rw [List.length_take, Nat.min_eq_left c])
      rw [← e1] at g
      refine Ev.bind (f := fun k t => _) g ?_
      have el : (X ++ isort leR (R.take 20)).length = X.length + 20 := by rw [List.length_append, isort_len, List.length_take, Nat.min_eq_left c]
      have ed : (R.drop 20).length = R.length - 20 := by simp
      have := ih (R.drop 20).length (by omega) (X ++ isort leR (R.take 20)) (R.drop 20) r rfl (room_of hr (by rw [List.length_append, el, ed, List.length_append]; omega)) (by
        rw [el, ed, show X.length + 20 + (R.length - 20) = X.length + R.length by omega, List.append_assoc, ← ck_le (by omega) c]
        exact h)
      rw [el, ed, show X.length + 20 + (R.length - 20) = X.length + R.length by omega] at this
      exact this
    · have c1 : ¬ ((X.length + 20 : Nat) : Int) ≤ ((X.length + R.length : Nat) : Int) := by omega
      refine Ev.step (fun k => by rw [slices_stableCmpFunc_cluster_rated.l0, if_neg c1]) ?_
      have g := ev_isort X R [] (by rw [List.append_nil]; exact hr) (X.length : Int) ((X.length + R.length : Nat) : Int) rfl rfl
      rw [List.append_nil, List.append_nil] at g
      refine Ev.bind (f := fun k t => _) g ?_
      rw [ck_gt (by omega)] at h
      exact h
theorem st_l2 (bs : Nat) (hb0 : 0 < bs) (hb1 : bs ≤ 1000000000000) : ∀ (n : Nat) (X R : List S53) (r : List S53), R.length = n → room (X ++ R).length →
    Ev (fun k => slices_stableCmpFunc_cluster_rated.l1 k ((X.length + R.length : Nat) : Int) ((bs * 2 : Nat) : Int) (X ++ ck (bs * 2) R)) r →
    Ev (fun k => slices_stableCmpFunc_cluster_rated.l2 k ((X.length + R.length : Nat) : Int) (bs : Int) (X.length : Int) ((X.length + bs * 2 : Nat) : Int) (X ++ ck bs R)) r := by
  intro n
  induction n using Nat.strongRecOn with
  | ind n ih =>
    intro X R r hR hr h
    have hrr : X.length + R.length ≤ 1000000000000 := by unfold room at hr; simpa using hr
    have hw0 : wrap64 ((X.length : Int) + (bs : Int)) = ((X.length + bs : Nat) : Int) := wadd X.length bs (by omega)
    have hw2 : wrap64 (2 * (bs : Int)) = ((bs * 2 : Nat) : Int) := by rw [w64_in (by omega) (by omega)]; omega
    have hw3 : wrap64 ((bs : Int) * 2) = ((bs * 2 : Nat) : Int) := by rw [w64_in (by omega) (by omega)]; omega
    by_cases c : bs * 2 ≤ R.length
    · have c1 : ((X.length + bs * 2 : Nat) : Int) ≤ ((X.length + R.length : Nat) : Int) := by omega
      have hw : wrap64 (((X.length + bs * 2 : Nat) : Int) + ((bs * 2 : Nat) : Int)) = ((X.length + bs * 2 + bs * 2 : Nat) : Int) := wadd (X.length + bs * 2) (bs * 2) (by omega)
      refine Ev.step (fun k => by rw [slices_stableCmpFunc_cluster_rated.l2, if_pos c1, hw0, hw2, hw]) ?_
      have tl : (R.take bs).length = bs := by rw [List.length_take]; omega
      have tl2 : ((R.drop bs).take bs).length = bs := by rw [List.length_take, List.length_drop]; omega
      have dl : (R.drop (bs * 2)).length = R.length - bs * 2 := by simp
      have e1 : ck bs R = isort leR (R.take bs) ++ isort leR ((R.drop bs).take bs) ++ ck bs (R.drop (bs * 2)) := by
        rw [ck_le hb0 (by omega), ck_le hb0 (D := R.drop bs) (by rw [List.length_drop]; omega), List.drop_drop, List.append_assoc, show bs + bs = bs * 2 by omega]
      have e2 : List.merge (isort leR (R.take bs)) (isort leR ((R.drop bs).take bs)) leR = isort leR (R.take (bs * 2)) := by
        rw [← isort_app _ _ _ rfl, show bs * 2 = bs + bs by omega, List.take_add]
      have g := ev_symMerge _ X (isort leR (R.take bs)) (isort leR ((R.drop bs).take bs)) (ck bs (R.drop (bs * 2))) rfl (by rw [isort_len]; omega) (by rw [isort_len]; omega) (isort_sorted ordR _) (isort_sorted ordR _) (room_of hr (by
        simp only [List.length_append, isort_len, tl, tl2, ck_len hb0 _ _ rfl, dl]; omega))
      rw [e2, isort_len, isort_len, tl, tl2, List.append_assoc X, List.append_assoc X, ← e1, show X.length + bs + bs = X.length + bs * 2 by omega] at g
      refine Ev.bind (f := fun k t => _) g ?_
      have el : (X ++ isort leR (R.take (bs * 2))).length = X.length + bs * 2 := by rw [List.length_append, isort_len, List.length_take, Nat.min_eq_left c]
      have := ih (R.drop (bs * 2)).length (by omega) (X ++ isort leR (R.take (bs * 2))) (R.drop (bs * 2)) r rfl (room_of hr (by rw [List.length_append, el, dl, List.length_append]; omega)) (by
        rw [el, dl, show X.length + bs * 2 + (R.length - bs * 2) = X.length + R.length by omega, List.append_assoc, ← ck_le (by omega) c]
        exact h)
      rw [el, dl, show X.length + bs * 2 + (R.length - bs * 2) = X.length + R.length by omega] at this
      exact this
    · have c1 : ¬ ((X.length + bs * 2 : Nat) : Int) ≤ ((X.length + R.length : Nat) : Int) := by omega
      have e0 : ck (bs * 2) R = isort leR R := ck_gt (by omega)
      by_cases d : bs < R.length
      · have d1 : ((X.length + bs : Nat) : Int) < ((X.length + R.length : Nat) : Int) := by omega
        refine Ev.step (fun k => by rw [slices_stableCmpFunc_cluster_rated.l2, if_neg c1, hw0, if_pos d1, hw3]) ?_
        have tl : (R.take bs).length = bs := by rw [List.length_take]; omega
        have dl : (R.drop bs).length = R.length - bs := by simp
        have e1 : ck bs R = isort leR (R.take bs) ++ isort leR (R.drop bs) := by
          rw [ck_le hb0 (by omega), ck_gt (D := R.drop bs) (by rw [List.length_drop]; omega)]
        have e2 : List.merge (isort leR (R.take bs)) (isort leR (R.drop bs)) leR = isort leR R := by
          rw [← isort_app _ _ _ rfl, List.take_append_drop]
        have g := ev_symMerge _ X (isort leR (R.take bs)) (isort leR (R.drop bs)) [] rfl (by rw [isort_len]; omega) (by rw [isort_len]; omega) (isort_sorted ordR _) (isort_sorted ordR _) (room_of hr (by
          simp only [List.length_append, isort_len, tl, dl, List.length_nil]; omega))
        rw [e2, isort_len, isort_len, tl, dl, List.append_nil, List.append_nil, List.append_assoc X, ← e1, show X.length + bs + (R.length - bs) = X.length + R.length by omega] at g
        refine Ev.bind (f := fun k t => _) g ?_
        rw [e0] at h
        exact h
      · have d1 : ¬ ((X.length + bs : Nat) : Int) < ((X.length + R.length : Nat) : Int) := by omega
        refine Ev.step (fun k => by rw [slices_stableCmpFunc_cluster_rated.l2, if_neg c1, hw0, if_neg d1, hw3]) ?_
        rw [e0] at h
        rw [ck_all hb0 (by omega)]
        exact h
theorem st_l1 (D : List S53) (hr : room D.length) : ∀ (d bs : Nat), D.length - bs = d → 0 < bs → bs ≤ 1000000000000 → Ev (fun k => slices_stableCmpFunc_cluster_rated.l1 k (D.length : Int) (bs : Int) (ck bs D)) (isort leR D) := by
  intro d
  induction d using Nat.strongRecOn with
  | ind d ih =>
    intro bs hd h0 h1
    by_cases c : bs < D.length
    · have c1 : (bs : Int) < (D.length : Int) := by omega
      have hrr : D.length ≤ 1000000000000 := hr
      have hw2 : wrap64 (2 * (bs : Int)) = ((bs * 2 : Nat) : Int) := by rw [w64_in (by omega) (by omega)]; omega
      refine Ev.step (fun k => by rw [slices_stableCmpFunc_cluster_rated.l1, if_pos c1, hw2]) ?_
      have key : Ev (fun k => slices_stableCmpFunc_cluster_rated.l1 k (D.length : Int) ((bs * 2 : Nat) : Int) (ck (bs * 2) D)) (isort leR D) := by
        by_cases e : bs * 2 ≤ 1000000000000
        · exact ih (D.length - bs * 2) (by omega) (bs * 2) rfl (by omega) e
        · rw [ck_all (by omega) (by omega)]
          exact Ev.succ fun k => by rw [slices_stableCmpFunc_cluster_rated.l1, if_neg (by omega)]
      have g := st_l2 bs h0 h1 D.length [] D (isort leR D) rfl (by simpa using hr) (by simpa using key)
      simpa using g
    · have c1 : ¬ (bs : Int) < (D.length : Int) := by omega
      rw [ck_all h0 (by omega)]
      exact Ev.succ fun k => by rw [slices_stableCmpFunc_cluster_rated.l1, if_neg c1]
theorem ev_sortStable (D : List S53) (hr : room D.length) : Ev (fun k => slices_SortStableFunc_cluster_rated_cluster_rated.f k D) (isort leR D) := by
  unfold slices_SortStableFunc_cluster_rated_cluster_rated.f
  refine Ev.bind (f := fun k t => _) (a := isort leR D) ?_ (Ev.now _)
  unfold slices_stableCmpFunc_cluster_rated.f
  have g := st_l0 D.length [] D (isort leR D) rfl (by simpa using hr) (by simpa using st_l1 D hr _ 20 rfl (by omega) (by omega))
  simpa using g
end Go.Proofs.Ytigcmpmpjmbfkaa.Q
