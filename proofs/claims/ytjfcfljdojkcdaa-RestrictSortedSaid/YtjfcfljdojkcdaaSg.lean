/- Plain lemmas on the printed functions: whole numbers and lists, no program in sight. -/
import Derived.Test.YtjfcfljdojkcdaaSf
import Derived.Laws.BitsLemmas
namespace Go.Proofs.Ytjfcfljdojkcdaa.Q
open Go Go.RowKit Go.Proofs.Ytjfcfljdojkcdaa.Ev
set_option linter.unusedVariables false
set_option linter.unusedSimpArgs false
set_option maxRecDepth 100000
/-! ### rules put together: the order of the rules does not count -/
theorem ofInt_wrap (v : BitVec 64) : BitVec.ofInt 64 (IntKind.i64.wrap (v.toNat : Int)) = v := by
  apply BitVec.eq_of_toNat_eq
  rw [BitVec.toNat_ofInt, IntKind.wrap_i64]
  have := v.isLt
  omega
theorem or_def (a b : Int) : Go.bits .or .i64 a b = IntKind.i64.wrap (((BitVec.ofInt 64 a ||| BitVec.ofInt 64 b).toNat : Nat) : Int) := rfl
theorem or_comm' (a b : Int) : Go.bits .or .i64 a b = Go.bits .or .i64 b a := by
  rw [or_def, or_def, BitVec.or_comm]
theorem or_rc (x a b : Int) : Go.bits .or .i64 (Go.bits .or .i64 x a) b = Go.bits .or .i64 (Go.bits .or .i64 x b) a := by
  rw [or_def (Go.bits .or .i64 x a), or_def x a, ofInt_wrap, or_def (Go.bits .or .i64 x b), or_def x b, ofInt_wrap, BitVec.or_assoc, BitVec.or_assoc, BitVec.or_comm (BitVec.ofInt 64 a)]
def ls (a b : S26) : Prop := a.f0 < b.f0 ∨ (a.f0 = b.f0 ∧ a.f1 < b.f1)
instance (a b : S26) : Decidable (ls a b) := by unfold ls; infer_instance
def orR (x r : S26) : S26 := ⟨x.f0, x.f1, Go.bits .or .i64 x.f2 r.f2⟩
def insR : List S26 → S26 → List S26
  | [], r => [r]
  | x :: xs, r => if ls x r then x :: insR xs r else if ls r x then r :: x :: xs else orR x r :: xs
theorem le_ls (a b : S26) : leR a b = true ↔ ¬ ls b a := by
  simp only [leR, ls, decide_eq_true_eq]; omega
theorem insR_comm : ∀ (xs : List S26) (a b : S26), insR (insR xs a) b = insR (insR xs b) a
  | [], a, b => by
    simp only [insR]
    by_cases h1 : ls a b
    · have h2 : ¬ ls b a := by unfold ls at *; omega
      rw [if_pos h1, if_neg h2, if_pos h1]
    · by_cases h2 : ls b a
      · rw [if_neg h1, if_pos h2, if_pos h2]
      · rw [if_neg h1, if_neg h2, if_neg h2, if_neg h1]
        have e0 : a.f0 = b.f0 ∧ a.f1 = b.f1 := by unfold ls at *; omega
        simp only [orR, e0.1, e0.2, or_comm' a.f2 b.f2]
  | x :: xs, a, b => by
    have ih := insR_comm xs a b
    by_cases a1 : ls x a
    · by_cases b1 : ls x b
      · simp only [insR, if_pos a1, if_pos b1]; rw [ih]
      · by_cases b2 : ls b x
        · have c1 : ls b a := by unfold ls at *; omega
          simp only [insR, if_pos a1, if_neg b1, if_pos b2, if_pos c1]
        · have c1 : ls (orR x b) a := a1
          simp only [insR, if_pos a1, if_neg b1, if_neg b2, if_pos c1]
    · by_cases a2 : ls a x
      · by_cases b1 : ls x b
        · have c1 : ls a b := by unfold ls at *; omega
          simp only [insR, if_neg a1, if_pos a2, if_pos b1, if_pos c1]
        · by_cases b2 : ls b x
          · simp only [insR, if_neg a1, if_pos a2, if_neg b1, if_pos b2]
            by_cases h1 : ls a b
            · have h2 : ¬ ls b a := by unfold ls at *; omega
              rw [if_pos h1, if_neg h2, if_pos h1]
            · by_cases h2 : ls b a
              · rw [if_neg h1, if_pos h2, if_pos h2]
              · rw [if_neg h1, if_neg h2, if_neg h2, if_neg h1]
                have e0 : a.f0 = b.f0 ∧ a.f1 = b.f1 := by unfold ls at *; omega
                simp only [orR, e0.1, e0.2, or_comm' a.f2 b.f2]
          · have c1 : ls a b := by unfold ls at *; omega
            have c2 : ¬ ls (orR x b) a := a1
            have c3 : ls a (orR x b) := a2
            simp only [insR, if_neg a1, if_pos a2, if_neg b1, if_neg b2, if_pos c1, if_neg c2, if_pos c3]
      · by_cases b1 : ls x b
        · have c1 : ls (orR x a) b := b1
          simp only [insR, if_neg a1, if_neg a2, if_pos b1, if_pos c1]
        · by_cases b2 : ls b x
          · have c1 : ls b a := by unfold ls at *; omega
            have c2 : ¬ ls (orR x a) b := b1
            have c3 : ls b (orR x a) := b2
            simp only [insR, if_neg a1, if_neg a2, if_neg b1, if_pos b2, if_pos c1, if_neg c2, if_pos c3]
          · have c1 : ¬ ls (orR x a) b := b1
            have c2 : ¬ ls b (orR x a) := b2
            have c3 : ¬ ls (orR x b) a := a1
            have c4 : ¬ ls a (orR x b) := a2
            simp only [insR, if_neg a1, if_neg a2, if_neg b1, if_neg b2, if_neg c1, if_neg c2, if_neg c3, if_neg c4]
            have e : orR (orR x a) b = orR (orR x b) a := by
              unfold orR
              dsimp only
              rw [or_rc]
            rw [e]
theorem insR_perm {l m : List S26} (h : l.Perm m) (o : List S26) : l.foldl insR o = m.foldl insR o := by
  exact h.foldl_eq' (fun x _ y _ z => insR_comm z x y) o
/-- How the program puts the next one, behind the last. -/
def putR (o : List S26) (r : S26) : List S26 :=
  match o.getLast? with
  | none => [r]
  | some z => if z.f0 = r.f0 ∧ z.f1 = r.f1 then o.dropLast ++ [orR z r] else o ++ [r]
theorem insR_behind (r : S26) : ∀ (Q T : List S26), (∀ x ∈ Q, ls x r) → insR (Q ++ T) r = Q ++ insR T r
  | [], T, _ => rfl
  | x :: Q, T, h => by
    simp only [List.cons_append, insR, if_pos (h x (by simp))]
    rw [insR_behind r Q T (fun y hy => h y (by simp [hy]))]
def Strict (o : List S26) : Prop := o.Pairwise ls
theorem putR_eq (o : List S26) (r : S26) (hs : Strict o) (hr : ∀ x ∈ o, leR x r = true) : putR o r = insR o r ∧ Strict (insR o r) ∧ (∀ x ∈ insR o r, leR x r = true) := by
  rcases List.eq_nil_or_concat o with rfl | ⟨Q, z, h⟩
  · exact ⟨rfl, List.pairwise_singleton _ _, fun x hx => by
      have h1 : x = r := by simpa [insR] using hx
      rw [h1]; exact ordR.refl r⟩
  · rw [List.concat_eq_append] at h
    subst h
    have hp := List.pairwise_append.1 hs
    have hz := hr z (by simp)
    have hQ : ∀ x ∈ Q, ls x r := fun x hx => by
      have h1 := hp.2.2 x hx z (by simp)
      rw [le_ls] at hz
      unfold ls at *; omega
    have e1 : (Q ++ [z]).getLast? = some z := by simp
    have e2 : (Q ++ [z]).dropLast = Q := by simp
    rw [insR_behind r Q [z] hQ]
    unfold putR
    rw [e1, e2]
    rw [le_ls] at hz
    by_cases c : z.f0 = r.f0 ∧ z.f1 = r.f1
    · have n1 : ¬ ls z r := by unfold ls; omega
      have n2 : ¬ ls r z := by unfold ls; omega
      simp only [insR, if_neg n1, if_neg n2, if_pos c]
      refine ⟨trivial, List.pairwise_append.2 ⟨hp.1, List.pairwise_singleton _ _, fun x hx y hy => ?_⟩, fun x hx => ?_⟩
      · rw [List.mem_singleton.1 hy]; exact hp.2.2 x hx z (by simp)
      · rcases List.mem_append.1 hx with hx | hx
        · exact hr x (by simp [hx])
        · rw [List.mem_singleton.1 hx, le_ls]; exact n2
    · have p1 : ls z r := by unfold ls at *; omega
      simp only [insR, if_pos p1, if_neg c]
      refine ⟨by simp, List.pairwise_append.2 ⟨hp.1, List.pairwise_cons.2 ⟨fun y hy => by rw [List.mem_singleton.1 hy]; exact p1, List.pairwise_singleton _ _⟩, fun x hx y hy => ?_⟩, fun x hx => ?_⟩
      · rcases List.mem_cons.1 hy with rfl | hy
        · exact hp.2.2 x hx y (by simp)
        · rw [List.mem_singleton.1 hy]; exact hQ x hx
      · rcases List.mem_append.1 hx with hx | hx
        · exact hr x (by simp [hx])
        · rcases List.mem_cons.1 hx with rfl | hx
          · exact hr x (by simp)
          · rw [List.mem_singleton.1 hx]; exact ordR.refl r
theorem put_fold : ∀ (T o : List S26), Srt T → Strict o → (∀ x ∈ o, ∀ y ∈ T, leR x y = true) → T.foldl putR o = T.foldl insR o
  | [], o, _, _, _ => rfl
  | r :: T, o, hT, hs, ho => by
    have h := putR_eq o r hs (fun x hx => ho x hx r (by simp))
    have hT' := List.pairwise_cons.1 hT
    rw [List.foldl_cons, List.foldl_cons, h.1]
    exact put_fold T (insR o r) hT'.2 h.2.1 (fun x hx y hy => ordR.tr _ _ _ (h.2.2 x hx) (hT'.1 y hy))
end Go.Proofs.Ytjfcfljdojkcdaa.Q
