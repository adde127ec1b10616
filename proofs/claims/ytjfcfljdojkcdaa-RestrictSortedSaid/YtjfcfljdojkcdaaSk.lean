/- Plain lemmas on the printed functions: whole numbers and lists, no program in sight. -/
import Derived.Test.YtjfcfljdojkcdaaSj
import Derived.Laws.BitsLemmas
namespace Go.Proofs.Ytjfcfljdojkcdaa.Q
open Go Go.RowKit Go.Proofs.Ytjfcfljdojkcdaa.Ev
set_option linter.unusedVariables false
set_option linter.unusedSimpArgs false
set_option maxRecDepth 100000
/-! ### sorted rules say the same -/
theorem st_or (D : Nat) (x r : S26) (z : Int × Nat) (hx : V x) (hr : V r) (hk : x.f0 = r.f0 ∧ x.f1 = r.f1) (ho : V (orR x r) ∧ (orR x r).f2.toNat = x.f2.toNat ||| r.f2.toNat) : st D (st D z x) r = st D z (orR x r) := by
  obtain ⟨z0, z1⟩ := z
  have e0 : (orR x r).f0 = x.f0 := rfl
  have e1 : (orR x r).f1 = x.f1 := rfl
  have s1 : spk D (orR x r) ↔ spk D x := by unfold spk; rw [e0, e1]; exact ⟨fun h => ⟨hx, h.2⟩, fun h => ⟨ho.1, h.2⟩⟩
  have s2 : spk D r ↔ spk D x := by unfold spk; rw [hk.1, hk.2]; exact ⟨fun h => ⟨hx, h.2⟩, fun h => ⟨hr, h.2⟩⟩
  unfold st
  rw [e1, ho.2, ← hk.2]
  by_cases c : spk D x
  · rw [if_pos c, if_pos (s2.2 c), if_pos (s1.2 c)]
    by_cases d1 : x.f1 > z0
    · simp [d1]
    · by_cases d2 : x.f1 = z0
      · simp [d2, Nat.or_assoc]
      · simp [d1, d2]
  · rw [if_neg c, if_neg (fun h => c (s2.1 h)), if_neg (fun h => c (s1.1 h))]
theorem or_V (x r : S26) (hx : V x) (hr : V r) : V (orR x r) ∧ (orR x r).f2.toNat = x.f2.toNat ||| r.f2.toNat := by
  have hx' := hx; have hr' := hr
  unfold V at hx' hr'
  have e := or_i64 x.f2.toNat r.f2.toNat (by omega) (by omega)
  rw [show ((x.f2.toNat : Nat) : Int) = x.f2 by omega, show ((r.f2.toNat : Nat) : Int) = r.f2 by omega] at e
  have hlt : x.f2.toNat ||| r.f2.toNat < 2 ^ 8 := Nat.or_lt_two_pow (by omega) (by omega)
  have e2 : (orR x r).f2 = ((x.f2.toNat ||| r.f2.toNat : Nat) : Int) := e
  refine ⟨?_, by rw [e2]; rfl⟩
  unfold V
  rw [e2]
  exact ⟨hx'.1, hx'.2.1, by omega, by omega, hx'.2.2.2.2⟩
theorem said_insR (D : Nat) (r : S26) (hr : V r) : ∀ (o : List S26) (z : Int × Nat), (∀ x ∈ o, V x) → (insR o r).foldl (st D) z = st D (o.foldl (st D) z) r ∧ (∀ x ∈ insR o r, V x)
  | [], z, _ => ⟨rfl, fun x hx => by
    have : x = r := by simpa [insR] using hx
    rw [this]; exact hr⟩
  | x :: o, z, h => by
    have hx := h x List.mem_cons_self
    have ho : ∀ y ∈ o, V y := fun y hy => h y (List.mem_cons_of_mem _ hy)
    have late : ∀ (o : List S26) (z : Int × Nat) (r : S26), o.foldl (st D) (st D z r) = st D (o.foldl (st D) z) r := by
      intro o
      induction o with
      | nil => intro z r; rfl
      | cons y o ih => intro z r; rw [List.foldl_cons, List.foldl_cons, ← ih, st_comm D r y z]
    by_cases c1 : ls x r
    · have g := said_insR D r hr o (st D z x) ho
      simp only [insR, if_pos c1, List.foldl_cons]
      exact ⟨g.1, fun y hy => by
        rcases List.mem_cons.1 hy with rfl | hy
        · exact hx
        · exact g.2 y hy⟩
    · by_cases c2 : ls r x
      · simp only [insR, if_neg c1, if_pos c2, List.foldl_cons]
        refine ⟨?_, fun y hy => ?_⟩
        · rw [st_comm D r x z, late]
        · rcases List.mem_cons.1 hy with rfl | hy
          · exact hr
          · exact h y hy
      · simp only [insR, if_neg c1, if_neg c2, List.foldl_cons]
        have hk : x.f0 = r.f0 ∧ x.f1 = r.f1 := by unfold ls at *; omega
        have hv := or_V x r hx hr
        refine ⟨?_, fun y hy => ?_⟩
        · rw [← st_or D x r z hx hr hk hv, late]
        · rcases List.mem_cons.1 hy with rfl | hy
          · exact hv.1
          · exact ho y hy
theorem said_sorted (D : Nat) : ∀ (l o : List S26) (z : Int × Nat), (∀ x ∈ l, V x) → (∀ x ∈ o, V x) → (l.foldl insR o).foldl (st D) z = l.foldl (st D) (o.foldl (st D) z)
  | [], o, z, _, _ => rfl
  | r :: l, o, z, hl, ho => by
    have g := said_insR D r (hl r List.mem_cons_self) o z ho
    rw [List.foldl_cons, List.foldl_cons, said_sorted D l (insR o r) z (fun x hx => hl x (List.mem_cons_of_mem _ hx)) g.2, g.1]
theorem said_sort (D : Nat) (l : List S26) (hl : ∀ x ∈ l, V x) : said D (l.foldl insR []) = said D l := by
  unfold said
  rw [said_sorted D l [] (-1, 0) hl (by simp)]
  rfl
end Go.Proofs.Ytjfcfljdojkcdaa.Q
