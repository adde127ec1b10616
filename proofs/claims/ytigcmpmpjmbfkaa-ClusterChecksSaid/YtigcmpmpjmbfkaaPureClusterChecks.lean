/- What is to be proved of ClusterChecks. -/
import Derived.Test.YtigcmpmpjmbfkaaDQ
import Derived.Test.YtigcmpmpjmbfkaaCf
namespace Go.Proofs.Ytigcmpmpjmbfkaa.Q
open Go Go.RowKit Go.Proofs.Ytigcmpmpjmbfkaa.Ev
set_option linter.unusedVariables false
set_option linter.unusedSimpArgs false
set_option maxRecDepth 100000
def okS25 (x : S25) : Prop := (Lit.int .i64 x.f0).wf = true ∧ (Lit.int .i64 x.f1).wf = true ∧ (Lit.int .i64 x.f2).wf = true ∧ (Lit.int .i64 x.f3).wf = true ∧ (Lit.int .i64 x.f4).wf = true
namespace Pure
theorem ClusterChecks (a0 : List S25) (a1 : Int) (h0 : (a0.length ≤ 9223372036854775807 ∧ a0.length * 48 ≤ 140737488351232 ∧ ∀ x ∈ a0, okS25 x)) (h1 : (Lit.int .i64 a1).wf = true) : ∃ k, foliotlaw14_ClusterChecks.f k a0 a1 = some true := by
  have hl : Ok (a0.take 300) := ok_take (ok_of a0 h0.2.2) 300
  have hn : (a0.take 300).length ≤ 300 := by rw [List.length_take]; omega
  refine Ev.rounds (r := true) ?_
  unfold foliotlaw14_ClusterChecks.f
  refine Ev.bind (f := fun k t => _) ev_shown ?_
  refine Ev.congr (fun k => by rw [Bool.not_true, cond_false]) ?_
  refine Ev.bind (f := fun k t => _) (Ev.const (ev_few a0)) ?_
  generalize a0.take 300 = l at *
  have hz : (⟨-77, 0, 0, 0, 0, false, false⟩ : S25).f0 = -77 := rfl
  generalize (⟨-77, 0, 0, 0, 0, false, false⟩ : S25) = z at hz ⊢
  have hlen : (l ++ [z]).length = l.length + 1 := by simp
  have t1 : ((l.length : Int) - 0).toNat = l.length := by omega
  have e1 : ((l ++ [z]).drop 0).take l.length = l := by rw [List.drop_zero, List.take_left' rfl]
  have r1 : (2 * (([] : List S25).length + l.length) + 200) * 48 ≤ 281474976710656 := by rw [List.length_nil]; omega
  have r2 : (2 * (l.length + [z].length) + 200) * 48 ≤ 281474976710656 := by simp only [List.length_cons, List.length_nil]; omega
  have p0 : (0 : Int) ≤ (l.length : Int) := by omega
  have p1 : (l.length : Int) ≤ ((l ++ [z]).length : Int) := by omega
  have hc := Cl_len l
  rw [t1, e1]
  refine Ev.congr (fun k => by rw [if_pos r1, if_pos r2, if_pos p0, if_pos p1]) ?_
  refine Ev.bind (f := fun k t => _) (ev_Cluster l hl (by omega)) ?_
  refine Ev.congr (fun k => by rw [if_pos p0, if_pos p1]) ?_
  refine Ev.bind (f := fun k t => _) (ev_Combine l hl) ?_
  refine Ev.bind (f := fun k t => _) (ref_Combine l hl) ?_
  refine Ev.congr (fun k => by rw [if_pos p0, if_pos p1]) ?_
  refine Ev.bind (f := fun k t => _) (ev_Best l (by omega) a1) ?_
  refine Ev.bind (f := fun k t => _) (ref_Best l (by omega) a1) ?_
  obtain ⟨⟨⟨o, n⟩, E⟩, g1, g2, g3, g4⟩ := ref_Cluster l hl (by omega)
  dsimp only at g2 g3 g4
  subst g2
  refine Ev.bind (f := fun k t => _) g1 ?_
  dsimp only
  rw [List.drop_zero, g4]
  refine Ev.bind (f := fun k t => _) (ev_same (Cl l) (by omega)) ?_
  refine Ev.congr (fun k => by rw [Bool.not_true, cond_false, if_neg (fun h => h rfl), if_neg (fun h => h rfl), if_neg (fun h => h ⟨rfl, rfl, rfl, rfl, rfl, rfl, rfl⟩), bne_self_eq_false, cond_false, if_pos p0, if_pos p1]) ?_
  refine Ev.bind (f := fun k t => _) (ev_Select l hl (by omega) a1) ?_
  refine Ev.bind (f := fun k t => _) (ref_Select l hl (by omega) a1) ?_
  refine Ev.congr (fun k => by rw [if_neg (fun h => h rfl), if_pos p0, if_pos p1]) ?_
  refine Ev.bind (f := fun k t => _) (ev_Mitigate l hl (by omega) a1) ?_
  refine Ev.bind (f := fun k t => _) (ref_Mitigate l hl (by omega) a1) ?_
  refine Ev.congr (fun k => if_neg (fun h => h ⟨rfl, rfl, rfl, rfl, rfl⟩)) ?_
  exact ck_l0 l hn z hz (Cl l).length hc (Cl l).length 0 (Cl l) rfl (by omega)
end Pure
end Go.Proofs.Ytigcmpmpjmbfkaa.Q
