/- Plain lemmas on the printed functions: whole numbers and lists, no program in sight. -/
import Derived.Test.YtjfcfljdojkcdaaRa
import Derived.Laws.BitsLemmas
namespace Go.Proofs.Ytjfcfljdojkcdaa.Q
open Go Go.RowKit Go.Proofs.Ytjfcfljdojkcdaa.Ev
set_option linter.unusedVariables false
set_option linter.unusedSimpArgs false
set_option maxRecDepth 100000
/-! ### merging, in plain lists -/
section
variable {α : Type} (le : α → α → Bool)
theorem mg_nil_left (B : List α) : List.merge [] B le = B := by cases B <;> simp [List.merge]
theorem mg_nil_right (A : List α) : List.merge A [] le = A := by cases A <;> simp [List.merge]
theorem mg_split : ∀ (n : Nat) (A1 A2 B1 B2 : List α), A1.length + B1.length = n → (∀ x ∈ A2, ∀ y ∈ B1, le x y = false) → (∀ x ∈ A1, ∀ y ∈ B2, le x y = true) →
    List.merge (A1 ++ A2) (B1 ++ B2) le = List.merge A1 B1 le ++ List.merge A2 B2 le
  | 0, [], A2, [], B2, _, _, _ => by simp [mg_nil_left]
  | 0, x :: A1, A2, B1, B2, hn, _, _ => by simp at hn
  | 0, [], A2, y :: B1, B2, hn, _, _ => by simp at hn
  | n + 1, [], [], y :: B1, B2, _, _, _ => by simp [mg_nil_left]
  | n + 1, [], x :: A2, y :: B1, B2, hn, h1, h2 => by
    have e := h1 x (by simp) y (by simp)
    have ih := mg_split n [] (x :: A2) B1 B2 (by simp at hn ⊢; omega) (fun x hx y hy => h1 x hx y (by simp [hy])) (by simp)
    rw [mg_nil_left] at ih ⊢
    simp only [List.nil_append, List.cons_append] at ih ⊢
    rw [List.merge, e]
    simp only [Bool.false_eq_true, if_false]
    rw [ih]
  | n + 1, x :: A1, A2, [], [], hn, h1, h2 => by simp [mg_nil_right]
  | n + 1, x :: A1, A2, [], y :: B2, hn, h1, h2 => by
    have e := h2 x (by simp) y (by simp)
    have ih := mg_split n A1 A2 [] (y :: B2) (by simp at hn ⊢; omega) (by simp) (fun x hx y hy => h2 x (by simp [hx]) y hy)
    rw [mg_nil_right] at ih ⊢
    simp only [List.nil_append, List.cons_append] at ih ⊢
    rw [List.merge, e]
    simp only [if_true]
    rw [ih]
  | n + 1, x :: A1, A2, y :: B1, B2, hn, h1, h2 => by
    simp only [List.cons_append]
    rw [List.merge, List.merge]
    by_cases e : le x y = true
    · rw [if_pos e, if_pos e]
      have ih := mg_split n A1 A2 (y :: B1) B2 (by simp at hn ⊢; omega) h1 (fun x hx y hy => h2 x (by simp [hx]) y hy)
      simp only [List.cons_append] at ih ⊢
      rw [ih]
    · rw [if_neg e, if_neg e]
      have ih := mg_split n (x :: A1) A2 B1 B2 (by simp at hn ⊢; omega) (fun x hx y hy => h1 x hx y (by simp [hy])) h2
      simp only [List.cons_append] at ih ⊢
      rw [ih]
theorem mg_left (x : α) (B1 B2 : List α) (h1 : ∀ y ∈ B1, le x y = false) (h2 : ∀ y ∈ B2, le x y = true) : List.merge [x] (B1 ++ B2) le = B1 ++ x :: B2 := by
  have a := mg_split le _ [] [x] B1 B2 rfl (fun z hz y hy => by rw [List.mem_singleton.1 hz]; exact h1 y hy) (by simp)
  have b := mg_split le _ [x] [] [] B2 rfl (by simp) (fun z hz y hy => by rw [List.mem_singleton.1 hz]; exact h2 y hy)
  rw [mg_nil_left] at a
  simp only [List.nil_append, List.append_nil] at a b
  rw [a, b, mg_nil_right, mg_nil_left]
  rfl
theorem mg_right (y : α) (A1 A2 : List α) (h1 : ∀ x ∈ A1, le x y = true) (h2 : ∀ x ∈ A2, le x y = false) : List.merge (A1 ++ A2) [y] le = A1 ++ y :: A2 := by
  have a := mg_split le _ A1 A2 [] [y] rfl (by simp) (fun z hz w hw => by rw [List.mem_singleton.1 hw]; exact h1 z hz)
  have b := mg_split le _ [] A2 [y] [] rfl (fun z hz w hw => by rw [List.mem_singleton.1 hw]; exact h2 z hz) (by simp)
  rw [mg_nil_right] at a
  simp only [List.nil_append, List.append_nil] at a b
  rw [a, b, mg_nil_left, mg_nil_right]
  rfl
/-- The stable sort of a block: each is put behind those that are not above it. -/
def isort (l : List α) : List α := l.foldl (fun P x => List.merge P [x] le) []
structure Ord : Prop where
  tr : ∀ a b c, le a b = true → le b c = true → le a c = true
  tot : ∀ a b, (le a b || le b a) = true
variable {le}
theorem Ord.refl (o : Ord le) (a : α) : le a a = true := by have := o.tot a a; simpa using this
theorem Ord.conv (o : Ord le) {a b : α} (h : le a b = false) : le b a = true := by have := o.tot a b; rw [h] at this; simpa using this
theorem mg_sorted (o : Ord le) {A B : List α} (hA : A.Pairwise (fun a b => le a b = true)) (hB : B.Pairwise (fun a b => le a b = true)) : (List.merge A B le).Pairwise (fun a b => le a b = true) :=
  List.pairwise_merge o.tr o.tot A B hA hB
theorem mg_perm (A B : List α) : (List.merge A B le).Perm (A ++ B) := List.merge_perm_append le
theorem isort_aux (o : Ord le) : ∀ (l P : List α), P.Pairwise (fun a b => le a b = true) → (l.foldl (fun P x => List.merge P [x] le) P).Pairwise (fun a b => le a b = true) ∧ (l.foldl (fun P x => List.merge P [x] le) P).Perm (P ++ l)
  | [], P, h => ⟨h, by simp⟩
  | x :: l, P, h => by
    have ih := isort_aux o l (List.merge P [x] le) (mg_sorted o h (by simp))
    refine ⟨ih.1, ih.2.trans ?_⟩
    have := (mg_perm (le := le) P [x]).append_right l
    simpa using this
theorem isort_sorted (o : Ord le) (l : List α) : (isort le l).Pairwise (fun a b => le a b = true) := (isort_aux o l [] List.Pairwise.nil).1
theorem isort_perm (o : Ord le) (l : List α) : (isort le l).Perm l := (isort_aux o l [] List.Pairwise.nil).2
end
end Go.Proofs.Ytjfcfljdojkcdaa.Q
