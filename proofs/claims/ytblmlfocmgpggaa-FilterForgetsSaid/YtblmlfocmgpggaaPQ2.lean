/- Plain lemmas on the printed functions: whole numbers, no program in sight. -/
import Derived.Test.YtblmlfocmgpggaaPQ1
import Derived.Laws.BitsLemmas
namespace Go.Proofs.Ytblmlfocmgpggaa.Q
open Go Go.RowKit Go.Proofs.Ytblmlfocmgpggaa.Ev
set_option linter.unusedVariables false
set_option linter.unusedSimpArgs false
set_option maxRecDepth 100000
/-! ### sorting by delay -/
def ins (x : S27) : List S27 → List S27
  | [] => [x]
  | y :: l => if y.f1 ≤ x.f1 then y :: ins x l else x :: y :: l
def isort (l : List S27) : List S27 := l.foldl (fun a x => ins x a) []
def Up (l : List S27) : Prop := l.Pairwise (fun a b => a.f1 ≤ b.f1)
theorem ins_perm (x : S27) : ∀ l : List S27, (ins x l).Perm (x :: l)
  | [] => List.Perm.refl _
  | y :: l => by
    unfold ins
    split
    · exact ((ins_perm x l).cons y).trans (List.Perm.swap x y l)
    · exact List.Perm.refl _
theorem ins_up (x : S27) : ∀ {l : List S27}, Up l → Up (ins x l)
  | [], _ => by simp [ins, Up]
  | y :: l, h => by
    unfold Up at h
    rw [List.pairwise_cons] at h
    unfold ins Up
    split
    · rename_i hy
      rw [List.pairwise_cons]
      refine ⟨fun z hz => ?_, ins_up x h.2⟩
      rcases List.mem_cons.1 ((ins_perm x l).mem_iff.1 hz) with rfl | hz
      · exact hy
      · exact h.1 z hz
    · rename_i hy
      rw [List.pairwise_cons, List.pairwise_cons]
      refine ⟨fun z hz => ?_, h⟩
      rcases List.mem_cons.1 hz with rfl | hz
      · omega
      · have := h.1 z hz; omega
theorem fold_perm : ∀ (l a : List S27), (l.foldl (fun a x => ins x a) a).Perm (a ++ l)
  | [], a => by simp
  | x :: l, a => by
    rw [List.foldl_cons]
    refine (fold_perm l (ins x a)).trans ?_
    refine ((ins_perm x a).append_right l).trans ?_
    exact List.perm_middle.symm
theorem fold_up : ∀ (l a : List S27), Up a → Up (l.foldl (fun a x => ins x a) a)
  | [], a, h => h
  | x :: l, a, h => fold_up l _ (ins_up x h)
theorem isort_perm (l : List S27) : (isort l).Perm l := fold_perm l []
theorem isort_up (l : List S27) : Up (isort l) := fold_up l [] List.Pairwise.nil
theorem isort_len (l : List S27) : (isort l).length = l.length := (isort_perm l).length_eq
theorem ins_small (x : S27) : ∀ (A B : List S27), (∀ a ∈ A, a.f1 ≤ x.f1) → (∀ b ∈ B, x.f1 < b.f1) → ins x (A ++ B) = A ++ x :: B
  | [], [], _, _ => rfl
  | [], b :: B, _, hb => by
    have := hb b (by simp)
    show ins x (b :: B) = x :: b :: B
    unfold ins
    rw [if_neg (by omega)]
  | a :: A, B, ha, hb => by
    have := ha a (by simp)
    show ins x (a :: (A ++ B)) = a :: (A ++ x :: B)
    unfold ins
    rw [if_pos this, ins_small x A B (fun a h => ha a (by simp [h])) hb]
theorem rdOf_mid (A : List S27) (x : S27) (B : List S27) : rdOf z_S27 (A ++ x :: B) (A.length : Int) = x := by
  unfold rdOf; rw [Int.toNat_natCast, List.getD_eq_getElem?_getD, List.getElem?_append_right (Nat.le_refl _), Nat.sub_self]; rfl
theorem by_l1 (rest : List S27) (i : Nat) (hi : i ≤ 4611686018427387904) (x : S27) (R : List S27) : ∀ (n : Nat) (A B : List S27), A.length = n → A.length + B.length ≤ 4611686018427387904 → Up A → (∀ b ∈ B, x.f1 < b.f1) →
    Ev (fun k => filter_byDelay.l0 k ((i + 1 : Nat) : Int) (ins x (A ++ B) ++ rest)) R → Ev (fun k => filter_byDelay.l1 k (i : Int) (A.length : Int) (A ++ x :: (B ++ rest))) R := by
  have hw : wrap64 ((i : Int) + 1) = ((i + 1 : Nat) : Int) := by rw [w64_in (by omega) (by omega)]; rfl
  intro n
  induction n with
  | zero =>
    intro A B hA hl hu hb h
    obtain rfl := List.length_eq_zero_iff.1 hA
    refine Ev.step (fun k => ?_) h
    rw [filter_byDelay.l1, if_neg (by simp), hw, ins_small x [] B (by simp) hb]
    rfl
  | succ n ih =>
    intro A B hA hl hu hb h
    obtain ⟨A, a, rfl⟩ : ∃ A' a, A = A' ++ [a] := ⟨A.dropLast, A.getLast (by intro e; simp [e] at hA), (List.dropLast_concat_getLast _).symm⟩
    have hA' : A.length = n := by simpa using hA
    have hu' : Up A ∧ ∀ b ∈ A, b.f1 ≤ a.f1 := by
      unfold Up at hu ⊢
      rw [List.pairwise_append] at hu
      exact ⟨hu.1, fun b hb => hu.2.2 b hb a (by simp)⟩
    have e1 : (((A ++ [a]).length : Nat) : Int) = (A.length : Int) + 1 := by simp
    have e2 : wrap64 ((A.length : Int) + 1 - 1) = (A.length : Int) := by rw [w64_in (by simp at hl; omega) (by simp at hl; omega)]; omega
    have eL : A ++ [a] ++ x :: (B ++ rest) = A ++ a :: (x :: (B ++ rest)) := by simp
    have len : ((A ++ a :: (x :: (B ++ rest))).length : Int) = (A.length : Int) + 2 + B.length + rest.length := by simp; omega
    have r1 : rdOf z_S27 (A ++ a :: (x :: (B ++ rest))) (A.length : Int) = a := rdOf_mid A a _
    have r2 : rdOf z_S27 (A ++ a :: (x :: (B ++ rest))) ((A.length : Int) + 1) = x := by
      have := rdOf_mid (A ++ [a]) x (B ++ rest)
      rw [e1, eL] at this
      exact this
    by_cases hc : a.f1 ≤ x.f1
    · refine Ev.step (fun k => ?_) h
      rw [filter_byDelay.l1, e1, eL, if_pos (by omega), e2, if_pos (by omega), if_pos (by omega), if_pos (by omega), if_pos (by omega), r1, r2, if_pos hc, hw]
      rw [ins_small x (A ++ [a]) B (fun b hb' => by
        rcases List.mem_append.1 hb' with h1 | h1
        · have := hu'.2 b h1; omega
        · rw [List.mem_singleton] at h1; subst h1; exact hc) hb]
      simp
    · have es : ((A ++ a :: (x :: (B ++ rest))).set (A.length : Int).toNat x).set ((A.length : Int) + 1).toNat a = A ++ x :: ((a :: B) ++ rest) := by
        rw [Int.toNat_natCast, show ((A.length : Int) + 1).toNat = A.length + 1 from by omega, List.set_append_right _ _ (Nat.le_refl _), Nat.sub_self, List.set_cons_zero, List.set_append_right _ _ (by omega), show A.length + 1 - A.length = 1 from by omega, List.set_cons_succ, List.set_cons_zero]
        rfl
      have h' := ih A (a :: B) hA' (by simp at hl ⊢; omega) hu'.1 (fun b hb' => by
        rcases List.mem_cons.1 hb' with rfl | h1
        · omega
        · exact hb b h1) (by simpa using h)
      refine Ev.step (fun k => ?_) h'
      rw [filter_byDelay.l1, e1, eL, if_pos (by omega), e2, if_pos (by omega), if_pos (by omega), if_pos (by omega), if_pos (by omega), r1, r2, if_neg hc, if_pos (by omega), if_pos (by omega), if_pos (by omega), if_pos (by omega), if_pos (by omega), if_pos (by omega), if_pos (by omega), if_pos (by rw [List.length_set]; omega)]
      show filter_byDelay.l1 k (i : Int) (A.length : Int) (((A ++ a :: (x :: (B ++ rest))).set (A.length : Int).toNat x).set ((A.length : Int) + 1).toNat a) = _
      rw [es]
theorem by_l0 : ∀ (rest pre : List S27), pre.length + rest.length ≤ 4611686018427387904 → Up pre → Ev (fun k => filter_byDelay.l0 k (pre.length : Int) (pre ++ rest)) (rest.foldl (fun a x => ins x a) pre) := by
  intro rest
  induction rest with
  | nil =>
    intro pre _ _
    refine Ev.succ fun k => ?_
    rw [filter_byDelay.l0, if_neg (by simp)]
    simp
  | cons x rest ih =>
    intro pre hl hu
    have hp := (ins_perm x pre).length_eq
    have h := ih (ins x pre) (by rw [hp]; simp at hl ⊢; omega) (ins_up x hu)
    rw [hp] at h
    have := by_l1 rest pre.length (by omega) x _ pre.length pre [] rfl (by simp; omega) hu (by simp) (by simpa using h)
    refine Ev.step (fun k => ?_) this
    rw [filter_byDelay.l0, if_pos (by simp; omega)]
    rfl
theorem ev_byDelay (l : List S27) (hl : l.length ≤ 4611686018427387904) : Ev (fun k => filter_byDelay.f k l) (isort l) := by
  unfold filter_byDelay.f isort
  cases l with
  | nil =>
    refine Ev.succ fun k => ?_
    rw [filter_byDelay.l0, if_neg (by simp)]
    rfl
  | cons x l => exact by_l0 l [x] (by simpa [Nat.add_comm] using hl) (by simp [Up])
end Go.Proofs.Ytblmlfocmgpggaa.Q
