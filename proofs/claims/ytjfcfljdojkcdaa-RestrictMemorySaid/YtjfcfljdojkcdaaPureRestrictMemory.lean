/- What is to be proved of RestrictMemory. -/
import Derived.Test.YtjfcfljdojkcdaaDC8
import Derived.Test.YtjfcfljdojkcdaaYi
namespace Go.Proofs.Ytjfcfljdojkcdaa.C8
open Go Go.RowKit Go.Proofs.Ytjfcfljdojkcdaa.Ev
set_option linter.unusedVariables false
set_option linter.unusedSimpArgs false
set_option maxRecDepth 100000
def okS37 (x : S37) : Prop := (Lit.int .u32 x.f0).wf = true ∧ (Lit.int .i64 x.f1).wf = true ∧ (Lit.int .i64 x.f2).wf = true
theorem rm_l0 (s : List S37) (hs : s.length ≤ 6000000000000) (av mi : Int) (h0 : 0 ≤ av) (h1 : av ≤ 10) (hm : 0 ≤ mi) (hm2 : mi ≤ 1024) : ∀ (d i : Nat) (now rnow : Int) (any : Bool) (K T : List S78), i + d = s.length → Inv (shl .i64 1 av) (i : Int) K T → ((i : Int) = 0 → any = false) → ((i : Int) ≠ 0 → any = true ∧ rnow = now) →
    Ev (fun k => foliotlaw06_RestrictMemory.l0 k s (s.length : Int) (i : Int) (shl .i64 1 av) mi now (i : Int) av mi rnow any K (T.map tE)) true
  | 0, i, now, rnow, any, K, T, hd, I, hz, hnz => by
    refine Ev.step (fun k => by rw [foliotlaw06_RestrictMemory.l0, if_neg (by omega)]) ?_
    exact Ev.bind (f := fun k t => _) (told_ev (shl .i64 1 av) mi av now rnow (i : Int) 0 any K T I) (Ev.now _)
  | d + 1, i, now, rnow, any, K, T, hd, I, hz, hnz => by
    have hi : i < s.length := by omega
    have c1 : (i : Int) < (s.length : Int) := by omega
    have c0 : (0 : Int) ≤ (i : Int) := by omega
    obtain ⟨v, now', K', T', e1, e2, I'⟩ := step_ev mi av now rnow (i : Int) (rdOf z_S37 s (i : Int)).f0 (rdOf z_S37 s (i : Int)).f2 (rdOf z_S37 s (i : Int)).f1 any K T I h0 h1 hm hm2 c0 (by omega) hz hnz
    have hw := wrap_succ i (by omega)
    refine Ev.step (fun k => by rw [foliotlaw06_RestrictMemory.l0, if_pos c1, if_pos c0, if_pos c1]) ?_
    refine Ev.bind (f := fun k t => _) e1 ?_
    refine Ev.bind (f := fun k t => _) e2 ?_
    refine Ev.congr (fun k => if_neg (fun h => h rfl)) ?_
    refine Ev.bind (f := fun k t => _) (told_ev (shl .i64 1 av) mi av now' now' ((i : Int) + 1) _ true K' T' I') ?_
    refine Ev.congr (fun k => rfl) ?_
    rw [hw]
    exact rm_l0 s hs av mi h0 h1 hm hm2 d (i + 1) now' now' true K' T' (by omega) I' (fun h => by omega) (fun _ => ⟨rfl, rfl⟩)
namespace Pure
theorem RestrictMemory (a0 : Int) (a1 : Int) (a2 : List S37) (h0 : (Lit.int .i64 a0).wf = true) (h1 : (Lit.int .i64 a1).wf = true) (h2 : (a2.length ≤ 9223372036854775807 ∧ a2.length * 24 ≤ 140737488351232 ∧ ∀ x ∈ a2, okS37 x)) : ∃ k, foliotlaw06_RestrictMemory.f k a0 a1 a2 = some true := by
  have hn : a2.length ≤ 6000000000000 := by have := h2.2.1; omega
  refine Ev.rounds (r := true) ?_
  unfold foliotlaw06_RestrictMemory.f
  refine Ev.bind (f := fun k t => _) ev_shown ?_
  refine Ev.congr (fun k => rfl) ?_
  have bad : restrict_New.f a0 a1 = some (Sum.inl 1) → foliotref06_New.f a0 a1 = some (Sum.inl 1) → Ev (fun k => ((restrict_New.f a0 a1).bind fun t1 => Sum.elim (fun t2 => ((foliotref06_New.f a0 a1).bind fun t3 => Sum.elim (fun t4 => (if ¬ t2 = t4 then (some false) else (some true))) (fun t5 => (if ¬ t2 = t5.1 then (some false) else (some false))) t3)) (fun t6 => ((foliotref06_New.f a0 a1).bind fun t7 => Sum.elim (fun t8 => (if ¬ t6.1 = t8 then (some false) else (some false))) (fun t9 => (if ¬ t6.1 = t9.1 then (some false) else (foliotlaw06_RestrictMemory.l0 k a2 (a2.length : Int) 0 t6.2.1 t6.2.2.1 t6.2.2.2.1 t6.2.2.2.2.1 t9.2.1 t9.2.2.1 t9.2.2.2.1 t9.2.2.2.2.1 t6.2.2.2.2.2 t9.2.2.2.2.2))) t7)) t1)) true := by
    intro e1 e2
    rw [e1, e2]
    exact Ev.now _
  by_cases c0 : a0 < 0
  · exact bad (by unfold restrict_New.f; rw [if_pos c0]) (by unfold foliotref06_New.f; rw [if_pos c0])
  by_cases c1 : a0 > 10
  · exact bad (by unfold restrict_New.f; rw [if_neg c0, if_pos c1]) (by unfold foliotref06_New.f; rw [if_neg c0, if_pos c1])
  by_cases c2 : a1 < 0
  · exact bad (by unfold restrict_New.f; rw [if_neg c0, if_neg c1, if_pos c2]) (by unfold foliotref06_New.f; rw [if_neg c0, if_neg c1, if_pos c2])
  by_cases c3 : a1 > 1024
  · exact bad (by unfold restrict_New.f; rw [if_neg c0, if_neg c1, if_neg c2, if_pos c3]) (by unfold foliotref06_New.f; rw [if_neg c0, if_neg c1, if_neg c2, if_pos c3])
  have e1 : restrict_New.f a0 a1 = some (Sum.inr (0, (shl .i64 1 a0), a1, 0, 0, ([] : List S78))) := by
    unfold restrict_New.f; rw [if_neg c0, if_neg c1, if_neg c2, if_neg c3, if_pos (by omega)]
  have e2 : foliotref06_New.f a0 a1 = some (Sum.inr (0, a0, a1, 0, false, ([] : List S95))) := by
    unfold foliotref06_New.f; rw [if_neg c0, if_neg c1, if_neg c2, if_neg c3]
  rw [e1, e2]
  exact rm_l0 a2 hn a0 a1 (by omega) (by omega) (by omega) (by omega) a2.length 0 0 0 false [] [] (by omega) (inv_nil _) (fun _ => rfl) (fun h => absurd rfl h)
end Pure
end Go.Proofs.Ytjfcfljdojkcdaa.C8
