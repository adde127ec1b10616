/- What is to be proved of ClusterKeeps. -/
import Derived.Test.YtigcmpmpjmbfkaaDQ
import Derived.Test.YtigcmpmpjmbfkaaCf
namespace Go.Proofs.Ytigcmpmpjmbfkaa.Q
open Go Go.RowKit Go.Proofs.Ytigcmpmpjmbfkaa.Ev
set_option linter.unusedVariables false
set_option linter.unusedSimpArgs false
set_option maxRecDepth 100000
def okS25 (x : S25) : Prop := (Lit.int .i64 x.f0).wf = true ∧ (Lit.int .i64 x.f1).wf = true ∧ (Lit.int .i64 x.f2).wf = true ∧ (Lit.int .i64 x.f3).wf = true ∧ (Lit.int .i64 x.f4).wf = true
/-! ### what is left -/
theorem clS_sub : ∀ (n : Nat) (l : List S25), (clS n l).Sublist l
  | 0, l => List.Sublist.refl l
  | n + 1, l => by
    unfold clS
    (repeat' split)
    · exact List.Sublist.refl l
    · exact List.Sublist.refl l
    · exact List.Sublist.refl l
    · exact (clS_sub n _).trans (List.eraseIdx_sublist _ _)
theorem clS_three : ∀ (n : Nat) (l : List S25), min l.length 3 ≤ (clS n l).length
  | 0, l => Nat.min_le_left _ _
  | n + 1, l => by
    unfold clS
    split
    · exact Nat.min_le_left _ _
    · split
      · exact Nat.min_le_left _ _
      · split
        · exact Nat.min_le_left _ _
        · rename_i h3 hw _
          obtain ⟨i, hi, h4, _⟩ := wst_ix l hw
          have := clS_three n (l.eraseIdx (wst l).1.toNat)
          rw [h4, Int.toNat_natCast, List.length_eraseIdx_of_lt hi] at this
          rw [h4, Int.toNat_natCast]
          omega
theorem clS_prefer : ∀ (n : Nat) (l : List S25) (c : S25), c ∈ l → c.f5 = true → c ∈ clS n l
  | 0, l, c, h, _ => h
  | n + 1, l, c, h, hp => by
    unfold clS
    split
    · exact h
    · split
      · exact h
      · split
        · exact h
        · rename_i h3 hw _
          obtain ⟨i, hi, h4, h5⟩ := wst_ix l hw
          rw [h4, Int.toNat_natCast]
          refine clS_prefer n _ c ?_ hp
          obtain ⟨q, hq, e⟩ := List.getElem_of_mem h
          have hqi : q ≠ i := fun e2 => by
            subst e2
            rw [getDl l q hi, e, hp] at h5
            cases h5
          rw [List.mem_eraseIdx_iff_getElem?]
          exact ⟨q, hqi, by rw [List.getElem?_eq_getElem hq, e]⟩
def stopped (l : List S25) : Prop := l.length ≤ 3 ∨ (wst l).1 < 0 ∨ (wst l).2 < qJ l
theorem clS_stop : ∀ (n : Nat) (l : List S25), l.length ≤ n + 3 → stopped (clS n l)
  | 0, l, h => .inl (by simpa [clS] using h)
  | n + 1, l, h => by
    unfold clS
    split
    · exact .inl (by assumption)
    · split
      · exact .inr (.inl (by assumption))
      · split
        · exact .inr (.inr (by assumption))
        · rename_i h3 hw _
          obtain ⟨i, hi, h4, _⟩ := wst_ix l hw
          rw [h4, Int.toNat_natCast]
          exact clS_stop n _ (by rw [List.length_eraseIdx_of_lt hi]; omega)
theorem clS_of_stopped (n : Nat) {l : List S25} (h : stopped l) : clS n l = l := by
  cases n with
  | zero => rfl
  | succ n =>
    unfold clS
    split
    · rfl
    · rename_i h3
      split
      · rfl
      · rename_i hw
        split
        · rfl
        · rename_i hq
          rcases h with h | h | h
          · exact absurd h h3
          · exact absurd h hw
          · exact absurd h hq
theorem isort_id_aux : ∀ (l P : List S25), (P ++ l).Pairwise (fun a b => leM a b = true) → l.foldl (fun P x => List.merge P [x] leM) P = P ++ l
  | [], P, _ => by simp
  | c :: l, P, h => by
    have e : List.merge P [c] leM = P ++ [c] := by
      have := mg_right leM c P [] (fun x hx => (List.pairwise_append.1 h).2.2 x hx c (by simp)) (by simp)
      simpa using this
    rw [List.foldl_cons, e, isort_id_aux l (P ++ [c]) (by simpa using h)]
    simp
theorem isort_id {l : List S25} (h : l.Pairwise (fun a b => leM a b = true)) : isort leM l = l := by
  have := isort_id_aux l [] (by simpa using h)
  simpa [isort] using this
theorem Cl_sorted (l : List S25) : (Cl l).Pairwise (fun a b => leM a b = true) := by
  unfold Cl
  exact List.Pairwise.sublist ((clS_sub 10 _).trans (List.take_sublist _ _)) (isort_sorted ordM l)
theorem Cl_Cl (l : List S25) : Cl (Cl l) = Cl l := by
  have h10 := Cl_len l
  have hst : stopped (Cl l) := clS_stop 10 _ (by rw [List.length_take]; omega)
  show clS 10 ((isort leM (Cl l)).take 10) = Cl l
  rw [isort_id (Cl_sorted l), List.take_of_length_le h10]
  exact clS_of_stopped 10 hst
theorem ha_l0 (l : List S25) (hn : l.length ≤ 1000) (c : S25) (i : Nat) (hi : i < l.length) (hc : l[i] = c) : ∀ (d j : Nat), j + d = i → Ev (fun k => foliotlaw14_has.l0 k l (l.length : Int) (j : Int) c.f0 c.f1 c.f2 c.f3 c.f4 c.f5 c.f6) true
  | 0, j, hd => by
    have e : j = i := by omega
    subst e
    have c1 : (j : Int) < (l.length : Int) := by omega
    have c0 : (0 : Int) ≤ (j : Int) := by omega
    refine Ev.succ fun k => ?_
    rw [foliotlaw14_has.l0, if_pos c1, if_pos c0, if_pos c1, rdl l j hi, hc, if_pos ⟨rfl, rfl, rfl, rfl, rfl, rfl, rfl⟩]
  | d + 1, j, hd => by
    have hj : j < l.length := by omega
    have c1 : (j : Int) < (l.length : Int) := by omega
    have c0 : (0 : Int) ≤ (j : Int) := by omega
    refine Ev.step (fun k => by rw [foliotlaw14_has.l0, if_pos c1, if_pos c0, if_pos c1, rdl l j hj, wrap_succ j (by omega)]) ?_
    by_cases e : l[j].f0 = c.f0 ∧ l[j].f1 = c.f1 ∧ l[j].f2 = c.f2 ∧ l[j].f3 = c.f3 ∧ l[j].f4 = c.f4 ∧ l[j].f5 = c.f5 ∧ l[j].f6 = c.f6
    · exact Ev.congr (fun k => by rw [if_pos e]) (Ev.now _)
    · exact Ev.congr (fun k => by rw [if_neg e]) (ha_l0 l hn c i hi hc d (j + 1) (by omega))
theorem ev_has (l : List S25) (hn : l.length ≤ 1000) (c : S25) (h : c ∈ l) : Ev (fun k => foliotlaw14_has.f k l c.f0 c.f1 c.f2 c.f3 c.f4 c.f5 c.f6) true := by
  obtain ⟨i, hi, e⟩ := List.getElem_of_mem h
  unfold foliotlaw14_has.f
  exact ha_l0 l hn c i hi e i 0 (by omega)
theorem ke_l1 (l : List S25) (hl : Ok l) (hn : l.length ≤ 300) : ∀ (d j : Nat), j + d = l.length → Ev (fun k => foliotlaw14_ClusterKeeps.l1 k l l (l.length : Int) (j : Int) (Cl l)) true
  | 0, j, hd => by
    have c1 : ¬ (j : Int) < (l.length : Int) := by omega
    have hc := Cl_len l
    refine Ev.step (fun k => by rw [foliotlaw14_ClusterKeeps.l1, if_neg c1]) ?_
    refine Ev.bind (f := fun k t => _) (ev_Cluster (Cl l) (ok_Cl hl) (by omega)) ?_
    rw [Cl_Cl]
    exact Ev.bind (f := fun k t => _) (ev_same (Cl l) (by omega)) (Ev.now _)
  | d + 1, j, hd => by
    have hj : j < l.length := by omega
    have c1 : (j : Int) < (l.length : Int) := by omega
    have c0 : (0 : Int) ≤ (j : Int) := by omega
    have hc := Cl_len l
    have ih := ke_l1 l hl hn d (j + 1) (by omega)
    refine Ev.step (fun k => by rw [foliotlaw14_ClusterKeeps.l1, if_pos c1, if_pos c0, if_pos c1, rdl l j hj, wrap_succ j (by omega), bif_b]) ?_
    by_cases c : l[j].f5 = true
    · refine Ev.congr (fun k => if_pos c) ?_
      by_cases d10 : (l.length : Int) ≤ 10
      · refine Ev.congr (fun k => if_pos d10) ?_
        have hm : l[j] ∈ Cl l := by
          unfold Cl
          rw [List.take_of_length_le (by rw [isortM_len]; omega)]
          exact clS_prefer 10 _ _ ((isortM_mem l _).2 (List.getElem_mem hj)) c
        refine Ev.bind (f := fun k t => _) (ev_has (Cl l) (by omega) _ hm) ?_
        exact Ev.congr (fun k => by rw [Bool.not_true, cond_false]) ih
      · exact Ev.congr (fun k => if_neg d10) ih
    · exact Ev.congr (fun k => if_neg c) ih
theorem ke_l0 (l : List S25) (hl : Ok l) (hn : l.length ≤ 300) : ∀ (d j : Nat), j + d = (Cl l).length → Ev (fun k => foliotlaw14_ClusterKeeps.l0 k l ((Cl l).length : Int) (j : Int) (Cl l)) true
  | 0, j, hd => by
    have c1 : ¬ (j : Int) < ((Cl l).length : Int) := by omega
    refine Ev.step (fun k => by rw [foliotlaw14_ClusterKeeps.l0, if_neg c1]) ?_
    exact ke_l1 l hl hn l.length 0 (by omega)
  | d + 1, j, hd => by
    have hj : j < (Cl l).length := by omega
    have c1 : (j : Int) < ((Cl l).length : Int) := by omega
    have c0 : (0 : Int) ≤ (j : Int) := by omega
    have ho := ok_Cl hl
    have ih := ke_l0 l hl hn d (j + 1) (by omega)
    have hc := Cl_len l
    refine Ev.step (fun k => by rw [foliotlaw14_ClusterKeeps.l0, if_pos c1, if_pos c0, if_pos c1, rdl _ j hj, wrap_succ j (by omega)]) ?_
    refine Ev.bind (f := fun k t => _) (ev_has l (by omega) _ (Cl_mem l _ (List.getElem_mem hj))) ?_
    refine Ev.congr (fun k => by rw [Bool.not_true, cond_false]) ?_
    by_cases hp : (j : Int) > 0
    · have hj1 : j - 1 < (Cl l).length := by omega
      have hw : wrap64 ((j : Int) - 1) = ((j - 1 : Nat) : Int) := by rw [w64_in (by omega) (by omega)]; omega
      have d1 : (0 : Int) ≤ ((j - 1 : Nat) : Int) := by omega
      have d2 : ((j - 1 : Nat) : Int) < ((Cl l).length : Int) := by omega
      have hle : mer (Cl l)[j - 1] ≤ mer (Cl l)[j] := by
        have := List.pairwise_iff_getElem.1 (Cl_sorted l) (j - 1) j hj1 hj (by omega)
        have := (leM_iff _ _).1 this
        omega
      rw [hw, rdl _ (j - 1) hj1]
      refine Ev.congr (fun k => by rw [if_pos hp, if_pos d1, if_pos d2]) ?_
      refine Ev.bind (f := fun k t => _) (ref_merit _ (ho.at _ hj1)) ?_
      refine Ev.bind (f := fun k t => _) (ref_merit _ (ho.at _ hj)) ?_
      exact Ev.congr (fun k => if_neg (by omega)) ih
    · exact Ev.congr (fun k => if_neg hp) ih
namespace Pure
theorem ClusterKeeps (a0 : List S25) (h0 : (a0.length ≤ 9223372036854775807 ∧ a0.length * 48 ≤ 140737488351232 ∧ ∀ x ∈ a0, okS25 x)) : ∃ k, foliotlaw14_ClusterKeeps.f k a0 = some true := by
  have hl : Ok (a0.take 300) := ok_take (ok_of a0 h0.2.2) 300
  have hn : (a0.take 300).length ≤ 300 := by rw [List.length_take]; omega
  refine Ev.rounds (r := true) ?_
  unfold foliotlaw14_ClusterKeeps.f
  refine Ev.bind (f := fun k t => _) ev_shown ?_
  refine Ev.congr (fun k => by rw [Bool.not_true, cond_false]) ?_
  refine Ev.bind (f := fun k t => _) (Ev.const (ev_few a0)) ?_
  generalize a0.take 300 = l at *
  refine Ev.bind (f := fun k t => _) (ev_Cluster l hl (by omega)) ?_
  have hc := Cl_len l
  have h3 : min l.length 3 ≤ (Cl l).length := by
    unfold Cl
    have := clS_three 10 ((isort leM l).take 10)
    rw [List.length_take, isortM_len] at this
    omega
  have e3 : mn (l.length : Int) 3 = ((min l.length 3 : Nat) : Int) := mn16 l 3
  rw [e3]
  refine Ev.congr (fun k => by rw [if_neg (by omega), if_neg (by omega)]) ?_
  exact ke_l0 l hl hn (Cl l).length 0 (by omega)
end Pure
end Go.Proofs.Ytigcmpmpjmbfkaa.Q
