/- What is to be proved of RestrictRules. -/
import Derived.Test.YtjfcfljdojkcdaaDQ
import Derived.Test.YtjfcfljdojkcdaaSj
namespace Go.Proofs.Ytjfcfljdojkcdaa.Q
open Go Go.RowKit Go.Proofs.Ytjfcfljdojkcdaa.Ev
set_option linter.unusedVariables false
set_option linter.unusedSimpArgs false
set_option maxRecDepth 100000
def okS26 (x : S26) : Prop := (Lit.int .u32 x.f0).wf = true ∧ (Lit.int .i64 x.f1).wf = true ∧ (Lit.int .i64 x.f2).wf = true
namespace Pure
theorem RestrictRules (a0 : List S26) (a1 : Int) (h0 : (a0.length ≤ 9223372036854775807 ∧ a0.length * 24 ≤ 140737488351232 ∧ ∀ x ∈ a0, okS26 x)) (h1 : (Lit.int .u32 a1).wf = true) : ∃ k, foliotlaw06_RestrictRules.f k a0 a1 = some true := by
  have hl : ∀ r ∈ a0, okR r := h0.2.2
  have hn : a0.length ≤ 6000000000000 := by have := h0.2.1; omega
  have h1 := wf32 h1
  obtain ⟨D, hD⟩ : ∃ D : Nat, a1 = (D : Int) := ⟨a1.toNat, by omega⟩
  subst hD
  refine Ev.rounds (r := true) ?_
  unfold foliotlaw06_RestrictRules.f
  refine Ev.bind (f := fun k t => _) ev_shown ?_
  refine Ev.congr (fun k => if_pos (by simp only [List.length_nil]; have := h0.2.1; omega)) ?_
  refine Ev.bind (f := fun k t => _) (ev_match D (by omega) a0 hl hn) ?_
  refine Ev.bind (f := fun k t => _) (ev_ref_match D (by omega) a0 hl hn) ?_
  refine Ev.congr (fun k => if_neg (fun h => h rfl)) ?_
  exact rr_l0 a0 hl hn a0.length 0 (by omega)
end Pure
end Go.Proofs.Ytjfcfljdojkcdaa.Q
