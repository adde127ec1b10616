/- What is to be proved of ClusterTurned. -/
import Derived.Test.YtigcmpmpjmbfkaaDQ
import Derived.Test.YtigcmpmpjmbfkaaCf
namespace Go.Proofs.Ytigcmpmpjmbfkaa.Q
open Go Go.RowKit Go.Proofs.Ytigcmpmpjmbfkaa.Ev
set_option linter.unusedVariables false
set_option linter.unusedSimpArgs false
set_option maxRecDepth 100000
def okS25 (x : S25) : Prop := (Lit.int .i64 x.f0).wf = true ∧ (Lit.int .i64 x.f1).wf = true ∧ (Lit.int .i64 x.f2).wf = true ∧ (Lit.int .i64 x.f3).wf = true ∧ (Lit.int .i64 x.f4).wf = true
/-! ### in whatever order -/
def idd (l : List S25) : Prop := ∀ i j (hi : i < l.length) (hj : j < l.length), l[i].f0 = l[j].f0 → i = j
theorem Cl_turn {l m : List S25} (h : m.Perm l) (hd : idd l) : Cl m = Cl l := by
  have e : isort leM m = isort leM l := by
    refine List.Perm.eq_of_pairwise (le := fun a b => leM a b = true) (fun a b ha hb h1 h2 => ?_) (isort_sorted ordM m) (isort_sorted ordM l) ?_
    · have h1 := (leM_iff _ _).1 h1
      have h2 := (leM_iff _ _).1 h2
      have ha : a ∈ l := h.mem_iff.1 ((isortM_mem m a).1 ha)
      have hb : b ∈ l := (isortM_mem l b).1 hb
      obtain ⟨i, hi, rfl⟩ := List.getElem_of_mem ha
      obtain ⟨j, hj, rfl⟩ := List.getElem_of_mem hb
      have := hd i j hi hj (by omega)
      subst this
      rfl
    · exact (isort_perm ordM m).trans (h.trans (isort_perm ordM l).symm)
  unfold Cl
  rw [e]
theorem tu_end (l m : List S25) (hl : Ok l) (hn : l.length ≤ 300) (h : m.Perm l) (hd : idd l) (q : List Int) (was : Int) (x31 x32 : Int) (hx : ¬ x32 < x31) : Ev (fun k => foliotlaw14_ClusterTurned.l1 k q was x31 x32 l m) true := by
  have hm : Ok m := hl.sub fun c hc => h.mem_iff.1 hc
  have hln := h.length_eq
  have hc := Cl_len l
  refine Ev.step (fun k => by rw [foliotlaw14_ClusterTurned.l1, if_neg hx]) ?_
  refine Ev.bind (f := fun k t => _) (ev_Cluster l hl (by omega)) ?_
  refine Ev.bind (f := fun k t => _) (ev_Cluster m hm (by omega)) ?_
  rw [Cl_turn h hd]
  refine Ev.bind (f := fun k t => _) (ev_same (Cl l) (by omega)) ?_
  refine Ev.congr (fun k => by rw [cond_true]) ?_
  refine Ev.bind (f := fun k t => _) (ev_Mitigate l hl (by omega) was) ?_
  refine Ev.bind (f := fun k t => _) (ev_Mitigate m hm (by omega) was) ?_
  rw [Cl_turn h hd, decide_eq_true ⟨rfl, rfl, rfl, rfl, rfl⟩]
  exact Ev.now _
theorem pick_at (n : Nat) (hn : 0 < n) (hb : n ≤ 300) (p : Int) : ∃ k : Nat, k < n ∧ Int.tmod (wrap64 (Int.tmod p (n : Int) + (n : Int))) (n : Int) = (k : Int) := by
  have h1 := Int.tmod_lt_of_pos p (show (0 : Int) < (n : Int) by omega)
  have h2 : -(n : Int) < Int.tmod p (n : Int) := by
    have := Int.tmod_lt_of_pos (-p) (show (0 : Int) < (n : Int) by omega)
    rw [Int.neg_tmod] at this
    omega
  have hw : wrap64 (Int.tmod p (n : Int) + (n : Int)) = Int.tmod p (n : Int) + (n : Int) := w64_in (by omega) (by omega)
  rw [hw]
  have h3 := Int.tmod_nonneg (n : Int) (show 0 ≤ Int.tmod p (n : Int) + (n : Int) by omega)
  have h4 := Int.tmod_lt_of_pos (Int.tmod p (n : Int) + (n : Int)) (show (0 : Int) < (n : Int) by omega)
  exact ⟨(Int.tmod (Int.tmod p (n : Int) + (n : Int)) (n : Int)).toNat, by omega, by omega⟩
theorem tu_l1 (l : List S25) (hl : Ok l) (hn : l.length ≤ 300) (hd : idd l) (q : List Int) (was : Int) : ∀ (d j : Nat) (m : List S25), j + d = l.length → m.Perm l → Ev (fun k => foliotlaw14_ClusterTurned.l1 k q was (l.length : Int) (j : Int) l m) true
  | 0, j, m, hdj, h => tu_end l m hl hn h hd q was _ _ (by omega)
  | d + 1, j, m, hdj, h => by
    have hln := h.length_eq
    have c1 : (j : Int) < (l.length : Int) := by omega
    have c0 : (0 : Int) ≤ (j : Int) := by omega
    have bj : (j : Int) < 9223372036854775807 := by omega
    have jn : ∀ m' : List S25, m'.Perm l → Ev (fun k => foliotlaw14_ClusterTurned.j0 k q was (l.length : Int) (j : Int) l m') true := fun m' h' =>
      Ev.step (fun k => by rw [foliotlaw14_ClusterTurned.j0, wrap_succ j bj]) (tu_l1 l hl hn hd q was d (j + 1) m' (by omega) h')
    by_cases cq : (j : Int) < (q.length : Int)
    · have hj : j < m.length := by omega
      obtain ⟨p, hp, ep⟩ := pick_at m.length (by omega) (by omega) (rd q (j : Int))
      have m0 : ¬ (m.length : Int) = 0 := by omega
      have p0 : (0 : Int) ≤ (p : Int) := by omega
      have p1 : (p : Int) < (m.length : Int) := by omega
      have j1 : (j : Int) < (m.length : Int) := by omega
      have hset : ((m.set j m[p]).set p m[j]).Perm m := List.set_set_perm hj hp
      refine Ev.step (fun k => ?_) (jn _ (hset.trans h))
      rw [foliotlaw14_ClusterTurned.l1, if_pos c1, if_pos cq, if_pos c0, if_pos cq, if_neg m0, if_neg m0, ep, if_pos p0, if_pos p1, if_pos c0, if_pos j1, if_pos c0, if_pos j1, lt_eq, if_pos p0, if_pos (by rw [List.length_set]; exact p1), rdl m j hj, rdl m p hp]
      rfl
    · refine Ev.step (fun k => ?_) (jn m h)
      rw [foliotlaw14_ClusterTurned.l1, if_pos c1, if_neg cq]
theorem tu_l0 (n : Nat) (hn : n ≤ 300) (q : List Int) (was : Int) : ∀ (d j : Nat) (l : List S25), j + d = n → l.length = n → Ok l → (∀ i (hi : i < l.length), i < j → l[i].f0 = ((i + 1 : Nat) : Int)) → Ev (fun k => foliotlaw14_ClusterTurned.l0 k q was (n : Int) (j : Int) l) true
  | 0, j, l, hd, hln, hl, hi => by
    have c1 : ¬ (j : Int) < (n : Int) := by omega
    have hid : idd l := fun i j' hi1 hj1 he => by
      rw [hi i hi1 (by omega), hi j' hj1 (by omega)] at he
      omega
    refine Ev.step (fun k => by rw [foliotlaw14_ClusterTurned.l0, if_neg c1, if_pos (by rw [List.length_nil]; omega)]) ?_
    exact tu_l1 l hl (by omega) hid q was l.length 0 l (by omega) (List.Perm.refl l)
  | d + 1, j, l, hd, hln, hl, hi => by
    have hj : j < l.length := by omega
    have c1 : (j : Int) < (n : Int) := by omega
    have c0 : (0 : Int) ≤ (j : Int) := by omega
    have c2 : (j : Int) < (l.length : Int) := by omega
    have bj : (j : Int) < 9223372036854775807 := by omega
    have oj := hl.at j hj
    refine Ev.step (fun k => by rw [foliotlaw14_ClusterTurned.l0, if_pos c1, if_pos c0, if_pos c2, rdl l j hj, wrap_succ j bj, Int.toNat_natCast]) ?_
    have bj1 : -9223372036854775808 ≤ ((j + 1 : Nat) : Int) ∧ ((j + 1 : Nat) : Int) ≤ 9223372036854775807 := ⟨by omega, by omega⟩
    refine tu_l0 n hn q was d (j + 1) _ (by omega) (by rw [List.length_set]; exact hln) (fun c hc => ?_) fun i hi' hij => ?_
    · rcases List.mem_or_eq_of_mem_set hc with h | h
      · exact hl c h
      · rw [h]
        exact ⟨bj1, oj.i1, oj.i2, oj.i3, oj.i4⟩
    · rw [List.getElem_set]
      split
      · rename_i e
        subst e
        rfl
      · rename_i e
        exact hi i (by rw [List.length_set] at hi'; exact hi') (by omega)
namespace Pure
theorem ClusterTurned (a0 : List S25) (a1 : List Int) (a2 : Int) (h0 : (a0.length ≤ 9223372036854775807 ∧ a0.length * 48 ≤ 140737488351232 ∧ ∀ x ∈ a0, okS25 x)) (h1 : (a1.length ≤ 9223372036854775807 ∧ a1.length * 8 ≤ 140737488351232 ∧ ∀ x ∈ a1, (Lit.int .i64 x).wf = true)) (h2 : (Lit.int .i64 a2).wf = true) : ∃ k, foliotlaw14_ClusterTurned.f k a0 a1 a2 = some true := by
  have hl : Ok (a0.take 300) := ok_take (ok_of a0 h0.2.2) 300
  have hn : (a0.take 300).length ≤ 300 := by rw [List.length_take]; omega
  refine Ev.rounds (r := true) ?_
  unfold foliotlaw14_ClusterTurned.f
  refine Ev.bind (f := fun k t => _) ev_shown ?_
  refine Ev.congr (fun k => by rw [Bool.not_true, cond_false]) ?_
  refine Ev.bind (f := fun k t => _) (Ev.const (ev_few a0)) ?_
  generalize a0.take 300 = l at *
  refine Ev.congr (fun k => if_pos (by rw [List.length_nil]; omega)) ?_
  exact tu_l0 l.length hn a1 a2 l.length 0 l (by omega) rfl hl (fun i _ h => absurd h (Nat.not_lt_zero i))
end Pure
end Go.Proofs.Ytigcmpmpjmbfkaa.Q
