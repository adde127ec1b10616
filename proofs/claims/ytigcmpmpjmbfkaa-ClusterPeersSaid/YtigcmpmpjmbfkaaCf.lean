/- Plain lemmas on the printed functions: whole numbers and lists, no program in sight. -/
import Derived.Test.YtigcmpmpjmbfkaaCe
import Derived.Laws.BitsLemmas
namespace Go.Proofs.Ytigcmpmpjmbfkaa.Q
open Go Go.RowKit Go.Proofs.Ytigcmpmpjmbfkaa.Ev
set_option linter.unusedVariables false
set_option linter.unusedSimpArgs false
set_option maxRecDepth 100000
/-! ### the laws' own -/
theorem shown_at (m : Nat) : foliotlaw14_shown.f (m + 120) = some true := by kernel_rfl
theorem ev_shown : Ev (fun k => foliotlaw14_shown.f k) true := ⟨120, fun k hk => by
  obtain ⟨m, rfl⟩ : ∃ m, k = m + 120 := ⟨k - 120, by omega⟩
  exact shown_at m⟩
theorem ev_few (a : List S25) : foliotlaw14_few.f a = some (a.take 300) := by
  unfold foliotlaw14_few.f
  have e : mn (a.length : Int) 300 = ((min a.length 300 : Nat) : Int) := mn16 a 300
  rw [e]
  have t1 : (((min a.length 300 : Nat) : Int) - 0).toNat = min a.length 300 := by omega
  rw [t1, List.drop_zero, if_pos (by omega), if_pos (by omega)]
  congr 1
  rw [Nat.min_comm, ← List.take_take, List.take_of_length_le (l := a) (Nat.le_refl _)]
theorem sa_l0 (a : List S25) (hn : a.length ≤ 1000) : ∀ (d j : Nat), j + d = a.length → Ev (fun k => foliotlaw14_same.l0 k a a (a.length : Int) (j : Int)) true
  | 0, j, hd => by
    have c1 : ¬ (j : Int) < (a.length : Int) := by omega
    exact Ev.succ fun k => by rw [foliotlaw14_same.l0, if_neg c1]
  | d + 1, j, hd => by
    have c1 : (j : Int) < (a.length : Int) := by omega
    have c0 : (0 : Int) ≤ (j : Int) := by omega
    refine Ev.step (fun k => by rw [foliotlaw14_same.l0, if_pos c1, if_pos c0, if_pos c1, if_pos c0, if_pos c1, if_neg (fun h => h ⟨rfl, rfl, rfl, rfl, rfl, rfl, rfl⟩), wrap_succ j (by omega)]) ?_
    exact sa_l0 a hn d (j + 1) (by omega)
theorem ev_same (a : List S25) (hn : a.length ≤ 1000) : Ev (fun k => foliotlaw14_same.f k a a) true := by
  unfold foliotlaw14_same.f
  exact Ev.congr (fun k => if_neg (fun h => h rfl)) (sa_l0 a hn a.length 0 (by omega))
theorem ok_of (a : List S25) (h : ∀ x ∈ a, (Lit.int .i64 x.f0).wf = true ∧ (Lit.int .i64 x.f1).wf = true ∧ (Lit.int .i64 x.f2).wf = true ∧ (Lit.int .i64 x.f3).wf = true ∧ (Lit.int .i64 x.f4).wf = true) : Ok a := fun c hc => by
  obtain ⟨h0, h1, h2, h3, h4⟩ := h c hc
  exact ⟨wf64 h0, wf64 h1, wf64 h2, wf64 h3, wf64 h4⟩
theorem ck_l0 (l : List S25) (hn : l.length ≤ 300) (z : S25) (hz : z.f0 = -77) (m : Nat) (hm : m ≤ 10) : ∀ (d j : Nat) (e : List S25), e.length = m → j + d = m → Ev (fun k => foliotlaw14_ClusterChecks.l0 k l (m : Int) (j : Int) (l ++ [z]) e) true
  | 0, j, e, he, hd => by
    have c1 : ¬ (j : Int) < (m : Int) := by omega
    have hl : (l ++ [z]).length = l.length + 1 := by simp
    have t1 : ((l.length : Int) - 0).toNat = l.length := by omega
    have e1 : ((l ++ [z]).drop 0).take l.length = l := by rw [List.drop_zero, List.take_left' rfl]
    have e2 : rdOf z_S25 (l ++ [z]) (l.length : Int) = z := by rw [rdl _ l.length (by omega)]; simp
    refine Ev.step (fun k => by rw [foliotlaw14_ClusterChecks.l0, if_neg c1, if_pos (by omega), if_pos (by omega), t1, e1]) ?_
    refine Ev.bind (f := fun k t => _) (ev_same l (by omega)) ?_
    rw [e2, hz]
    refine Ev.congr (fun k => by rw [cond_true, if_pos (by omega), if_pos (by omega)]) ?_
    exact Ev.now _
  | d + 1, j, e, he, hd => by
    have c1 : (j : Int) < (m : Int) := by omega
    have c0 : (0 : Int) ≤ (j : Int) := by omega
    refine Ev.step (fun k => by rw [foliotlaw14_ClusterChecks.l0, if_pos c1, if_pos c0, if_pos (by rw [he]; exact c1), wrap_succ j (by omega)]) ?_
    exact ck_l0 l hn z hz m hm d (j + 1) _ (by rw [List.length_set, he]) (by omega)
end Go.Proofs.Ytigcmpmpjmbfkaa.Q
