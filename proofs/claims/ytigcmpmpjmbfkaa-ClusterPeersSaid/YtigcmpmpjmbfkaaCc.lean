/- Plain lemmas on the printed functions: whole numbers and lists, no program in sight. -/
import Derived.Test.YtigcmpmpjmbfkaaCb
import Derived.Laws.BitsLemmas
namespace Go.Proofs.Ytigcmpmpjmbfkaa.Q
open Go Go.RowKit Go.Proofs.Ytigcmpmpjmbfkaa.Ev
set_option linter.unusedVariables false
set_option linter.unusedSimpArgs false
set_option maxRecDepth 100000
/-! ### what candidates are combined to -/
def wgt (c : S25) : Int := 1099511627776 / mx (sat (c.f2 / 256)) 1
theorem wgt_bd (c : S25) : 0 ≤ wgt c ∧ wgt c ≤ 1099511627776 := by
  unfold wgt
  have h1 : 1 ≤ mx (sat (c.f2 / 256)) 1 := by unfold mx; split <;> omega
  generalize mx (sat (c.f2 / 256)) 1 = m at *
  constructor
  · exact Int.ediv_nonneg (by decide) (by omega)
  · exact Int.ediv_le_self _ (by decide)
theorem wgt_td (c : S25) : wrap64 (Int.tdiv 1099511627776 (mx (sat (c.f2 / 256)) 1)) = wgt c := by
  have hb := wgt_bd c
  unfold wgt at *
  rw [Int.tdiv_eq_ediv_of_nonneg (by decide), w64_in (by omega) (by omega)]
theorem ev_weight (c : S25) (o : okC c) : Ev (fun k => cluster_weight.f c.f0 c.f1 c.f2 c.f3 c.f4 c.f5 c.f6) (wgt c) := by
  unfold cluster_weight.f
  have g := ev_shift c.f2 (-8) o.i2.1 o.i2.2 (by omega) (by omega)
  have e : shiftVal c.f2 (-8) = sat (c.f2 / 256) := by unfold shiftVal; rw [if_pos (by decide)]; rfl
  rw [e] at g
  refine Ev.bind (f := fun k t => _) g ?_
  have h1 : ¬ mx (sat (c.f2 / 256)) 1 = 0 := by unfold mx; split <;> omega
  refine Ev.congr (fun k => if_neg h1) ?_
  rw [wgt_td]
  exact Ev.now _
theorem mx_comm1 (t : Int) : mx 1 t = mx t 1 := by unfold mx; (repeat' split) <;> omega
theorem ref_weight (c : S25) (o : okC c) : Ev (fun k => foliotref14_weight.f k c.f0 c.f1 c.f2 c.f3 c.f4 c.f5 c.f6) (wgt c) := by
  unfold foliotref14_weight.f
  have g := ref_shift c.f2 (-8) o.i2.1 o.i2.2 (by omega) (by omega)
  rw [if_pos (by decide)] at g
  refine Ev.bind (f := fun k t => _) g ?_
  have e : sat (c.f2 / 2 ^ (-(-8) : Int).toNat) = sat (c.f2 / 256) := rfl
  rw [e, mx_comm1]
  have h1 : ¬ mx (sat (c.f2 / 256)) 1 = 0 := by unfold mx; split <;> omega
  refine Ev.congr (fun k => if_neg h1) ?_
  rw [wgt_td]
  exact Ev.now _
def sumW (l : List S25) : Int := l.foldl (fun s c => s + wgt c) 0
theorem sumW_snoc (l : List S25) (c : S25) : sumW (l ++ [c]) = sumW l + wgt c := by unfold sumW; rw [List.foldl_append]; rfl
theorem sumW_bd : ∀ (n : Nat) (l : List S25), l.length = n → 0 ≤ sumW l ∧ sumW l ≤ n * 1099511627776
  | 0, l, h => by
    obtain rfl : l = [] := List.length_eq_zero_iff.1 h
    exact ⟨by decide, by decide⟩
  | n + 1, l, h => by
    obtain ⟨Q, z, rfl⟩ : ∃ Q z, l = Q ++ [z] := by
      rcases List.eq_nil_or_concat l with e | ⟨Q, z, e⟩
      · rw [e] at h; simp at h
      · exact ⟨Q, z, by rw [e, List.concat_eq_append]⟩
    have := sumW_bd n Q (by simpa using h)
    have := wgt_bd z
    rw [sumW_snoc]
    omega
def comb (a : S25) (S o : Int) (c : S25) : Int := sat (o + (if S ≤ 0 then 0 else sat (sat (c.f1 - a.f1) * wgt c / S)))
noncomputable def coV (l : List S25) : Int × Int := match l.take 16 with
  | [] => (0, 0)
  | a :: r => (r.foldl (comb a (sumW (a :: r))) a.f1, mx a.f3 (apV (a :: r) 0))
theorem comb_rng (a : S25) (S : Int) (r : List S25) (o : Int) (ho : -9223372036854775808 ≤ o ∧ o ≤ 9223372036854775807) : -9223372036854775808 ≤ r.foldl (comb a S) o ∧ r.foldl (comb a S) o ≤ 9223372036854775807 := by
  induction r generalizing o with
  | nil => exact ho
  | cons c r ih =>
    rw [List.foldl_cons]
    refine ih _ ?_
    unfold comb
    have := sat_in (o + (if S ≤ 0 then 0 else sat (sat (c.f1 - a.f1) * wgt c / S)))
    omega
theorem co_l1 (a : S25) (r : List S25) (hl : Ok (a :: r)) (hn : (a :: r).length ≤ 16) (S : Int) (hS : 0 ≤ S ∧ S ≤ 9223372036854775807) : ∀ (d j : Nat), j + d = r.length →
    Ev (fun k => cluster_Combine.l1 k (a :: r) S ((r.take j).foldl (comb a S) a.f1) r (r.length : Int) (j : Int) a.f0 a.f1 a.f2 a.f3 a.f4 a.f5 a.f6) (r.foldl (comb a S) a.f1, mx a.f3 (apV (a :: r) 0))
  | 0, j, hd => by
    have c1 : ¬ (j : Int) < (r.length : Int) := by omega
    refine Ev.step (fun k => by rw [cluster_Combine.l1, if_neg c1]) ?_
    rw [List.take_of_length_le (by omega)]
    exact Ev.bind (f := fun k t => _) (ev_apart (a :: r) hl (by omega) 0 (by simp)) (Ev.now _)
  | d + 1, j, hd => by
    have hj : j < r.length := by omega
    have c1 : (j : Int) < (r.length : Int) := by omega
    have c0 : (0 : Int) ≤ (j : Int) := by omega
    have oa : okC a := hl a (by simp)
    have oc : okC r[j] := hl _ (by simp)
    have ih := co_l1 a r hl hn S hS d (j + 1) (by omega)
    have e : (r.take (j + 1)).foldl (comb a S) a.f1 = comb a S ((r.take j).foldl (comb a S) a.f1) r[j] := by rw [← List.take_append_getElem hj, List.foldl_append]; rfl
    rw [e] at ih
    have hr := comb_rng a S (r.take j) a.f1 oa.i1
    generalize (r.take j).foldl (comb a S) a.f1 = o at *
    refine Ev.step (fun k => by rw [cluster_Combine.l1, if_pos c1, if_pos c0, if_pos c1, rdl r j hj]) ?_
    refine Ev.bind (f := fun k t => _) (ev_sub _ _ oc.i1.1 oc.i1.2 oa.i1.1 oa.i1.2) ?_
    refine Ev.bind (f := fun k t => _) (ev_weight _ oc) ?_
    have h1 := sat_in (r[j].f1 - a.f1)
    have h2 := wgt_bd r[j]
    refine Ev.bind (f := fun k t => _) (ev_scale _ _ S (by omega) (by omega) (by omega) (by omega) hS.2) ?_
    have h3 : -9223372036854775808 ≤ (if S ≤ 0 then 0 else sat (sat (r[j].f1 - a.f1) * wgt r[j] / S)) ∧ (if S ≤ 0 then 0 else sat (sat (r[j].f1 - a.f1) * wgt r[j] / S)) ≤ 9223372036854775807 := by
      have := sat_in (sat (r[j].f1 - a.f1) * wgt r[j] / S)
      split <;> omega
    refine Ev.bind (f := fun k t => _) (ev_add _ _ hr.1 hr.2 h3.1 h3.2) ?_
    have bj : (j : Int) < 9223372036854775807 := by clear h1 h2 h3 hr ih; simp only [List.length_cons] at hn; omega
    rw [wrap_succ j bj]
    exact ih
theorem co_l0 (a : S25) (r : List S25) (hl : Ok (a :: r)) (hn : (a :: r).length ≤ 16) (t : Int × Int) (h : Ev (fun k => cluster_Combine.l1 k (a :: r) (sumW (a :: r)) a.f1 r (r.length : Int) 0 a.f0 a.f1 a.f2 a.f3 a.f4 a.f5 a.f6) t) : ∀ (d j : Nat), j + d = (a :: r).length →
    Ev (fun k => cluster_Combine.l0 k (a :: r) (sumW ((a :: r).take j)) (a :: r) ((a :: r).length : Int) (j : Int)) t
  | 0, j, hd => by
    have c1 : ¬ (j : Int) < ((a :: r).length : Int) := by omega
    have e0 : rdOf z_S25 (a :: r) 0 = a := rfl
    have t1 : (((a :: r).length : Int) - 1).toNat = r.length := by simp
    have e1 : ((a :: r).drop 1).take r.length = r := by simp
    refine Ev.step (fun k => by rw [cluster_Combine.l0, if_neg c1, if_pos (by simp only [List.length_cons]; omega), if_pos (by simp only [List.length_cons]; omega), if_pos (Int.le_refl _), e0, t1, e1]) ?_
    rw [List.take_of_length_le (by omega)]
    exact h
  | d + 1, j, hd => by
    have hj : j < (a :: r).length := by omega
    have c1 : (j : Int) < ((a :: r).length : Int) := by omega
    have c0 : (0 : Int) ≤ (j : Int) := by omega
    have ih := co_l0 a r hl hn t h d (j + 1) (by omega)
    rw [← List.take_append_getElem hj, sumW_snoc] at ih
    have hs := sumW_bd j ((a :: r).take j) (by rw [List.length_take]; omega)
    have hw := wgt_bd (a :: r)[j]
    have hj16 : (j : Int) ≤ 16 := by omega
    have hsum : wrap64 (sumW ((a :: r).take j) + wgt (a :: r)[j]) = sumW ((a :: r).take j) + wgt (a :: r)[j] := w64_in (by omega) (by omega)
    have bj : (j : Int) < 9223372036854775807 := by clear hsum hs hw ih; omega
    refine Ev.step (fun k => by rw [cluster_Combine.l0, if_pos c1, if_pos c0, if_pos c1, rdl _ j hj]) ?_
    refine Ev.bind (f := fun k t => _) (ev_weight _ (hl.at j hj)) ?_
    rw [hsum, wrap_succ j bj]
    exact ih
theorem mn16 (l : List S25) (n : Nat) : mn (l.length : Int) (n : Int) = ((min l.length n : Nat) : Int) := by unfold mn; split <;> omega
theorem ev_Combine (l : List S25) (hl : Ok l) : Ev (fun k => cluster_Combine.f k l) (coV l) := by
  unfold cluster_Combine.f
  by_cases c : l = []
  · subst c
    exact Ev.congr (fun k => if_pos rfl) (Ev.now _)
  · have hp : 0 < l.length := List.length_pos_iff.2 c
    have c0 : ¬ (l.length : Int) = 0 := by omega
    refine Ev.congr (fun k => if_neg c0) ?_
    have e := mn16 l 16
    have e : mn (l.length : Int) 16 = ((min l.length 16 : Nat) : Int) := e
    rw [e]
    have t1 : (((min l.length 16 : Nat) : Int) - 0).toNat = min l.length 16 := by omega
    rw [t1, List.drop_zero]
    have e2 : l.take (min l.length 16) = l.take 16 := by
      rw [Nat.min_comm, ← List.take_take, List.take_of_length_le (l := l) (Nat.le_refl _)]
    rw [e2]
    have hk := ok_take hl 16
    have hlen : (l.take 16).length ≤ 16 := by simp; omega
    refine Ev.congr (fun k => by rw [if_pos (by omega), if_pos (by omega)]) ?_
    unfold coV
    cases hq : l.take 16 with
    | nil => have : (l.take 16).length = 0 := by rw [hq]; rfl
             rw [List.length_take] at this; omega
    | cons a r =>
      rw [hq] at hk hlen
      have hs := sumW_bd (a :: r).length (a :: r) rfl
      have g1 := co_l1 a r hk hlen (sumW (a :: r)) ⟨hs.1, by omega⟩ r.length 0 (by omega)
      rw [List.take_zero] at g1
      have g := co_l0 a r hk hlen _ g1 (a :: r).length 0 (by omega)
      exact g
theorem rco_l1 (a : S25) (r : List S25) (hl : Ok (a :: r)) (hn : (a :: r).length ≤ 16) (S : Int) (hS : 0 ≤ S ∧ S ≤ 9223372036854775807) : ∀ (d j : Nat), j + d = r.length →
    Ev (fun k => foliotref14_Combine.l1 k (a :: r) S ((r.take j).foldl (comb a S) a.f1) r (r.length : Int) (j : Int)) (r.foldl (comb a S) a.f1, mx a.f3 (apV (a :: r) 0))
  | 0, j, hd => by
    have c1 : ¬ (j : Int) < (r.length : Int) := by omega
    have p0 : 0 < ((a :: r).length : Int) := by simp only [List.length_cons]; omega
    refine Ev.step (fun k => by rw [foliotref14_Combine.l1, if_neg c1, if_pos p0]) ?_
    rw [List.take_of_length_le (by omega)]
    exact Ev.bind (f := fun k t => _) (ref_jitter (a :: r) hl (by omega) 0 (by simp)) (Ev.now _)
  | d + 1, j, hd => by
    have hj : j < r.length := by omega
    have c1 : (j : Int) < (r.length : Int) := by omega
    have c0 : (0 : Int) ≤ (j : Int) := by omega
    have p0 : 0 < ((a :: r).length : Int) := by simp only [List.length_cons]; omega
    have oa : okC a := hl a (by simp)
    have oc : okC r[j] := hl _ (by simp)
    have e0 : rdOf z_S25 (a :: r) 0 = a := rfl
    have ih := rco_l1 a r hl hn S hS d (j + 1) (by omega)
    have e : (r.take (j + 1)).foldl (comb a S) a.f1 = comb a S ((r.take j).foldl (comb a S) a.f1) r[j] := by rw [← List.take_append_getElem hj, List.foldl_append]; rfl
    rw [e] at ih
    have hr := comb_rng a S (r.take j) a.f1 oa.i1
    generalize (r.take j).foldl (comb a S) a.f1 = o at *
    refine Ev.step (fun k => by rw [foliotref14_Combine.l1, if_pos c1, if_pos c0, if_pos c1, if_pos p0, rdl r j hj, e0]) ?_
    refine Ev.bind (f := fun k t => _) (ref_sub _ _ oc.i1.1 oc.i1.2 oa.i1.1 oa.i1.2) ?_
    refine Ev.bind (f := fun k t => _) (ref_weight _ oc) ?_
    have h1 := sat_in (r[j].f1 - a.f1)
    have h2 := wgt_bd r[j]
    refine Ev.bind (f := fun k t => _) (ref_scale _ _ S (by omega) (by omega) (by omega) (by omega) (by omega) hS.2) ?_
    have h3 : -9223372036854775808 ≤ (if S ≤ 0 then 0 else sat (sat (r[j].f1 - a.f1) * wgt r[j] / S)) ∧ (if S ≤ 0 then 0 else sat (sat (r[j].f1 - a.f1) * wgt r[j] / S)) ≤ 9223372036854775807 := by
      have := sat_in (sat (r[j].f1 - a.f1) * wgt r[j] / S)
      split <;> omega
    refine Ev.bind (f := fun k t => _) (ref_add _ _ hr.1 hr.2 h3.1 h3.2) ?_
    have bj : (j : Int) < 9223372036854775807 := by clear h1 h2 h3 hr ih; simp only [List.length_cons] at hn; omega
    rw [wrap_succ j bj]
    exact ih
theorem rco_l0 (a : S25) (r : List S25) (hl : Ok (a :: r)) (hn : (a :: r).length ≤ 16) (t : Int × Int) (h : Ev (fun k => foliotref14_Combine.l1 k (a :: r) (sumW (a :: r)) a.f1 r (r.length : Int) 0) t) : ∀ (d j : Nat), j + d = (a :: r).length →
    Ev (fun k => foliotref14_Combine.l0 k (a :: r) (sumW ((a :: r).take j)) (a :: r) ((a :: r).length : Int) (j : Int)) t
  | 0, j, hd => by
    have c1 : ¬ (j : Int) < ((a :: r).length : Int) := by omega
    have e0 : rdOf z_S25 (a :: r) 0 = a := rfl
    have t1 : (((a :: r).length : Int) - 1).toNat = r.length := by simp
    have e1 : ((a :: r).drop 1).take r.length = r := by simp
    refine Ev.step (fun k => by rw [foliotref14_Combine.l0, if_neg c1, if_pos (by simp only [List.length_cons]; omega), if_pos (by simp only [List.length_cons]; omega), if_pos (Int.le_refl _), e0, t1, e1]) ?_
    rw [List.take_of_length_le (by omega)]
    exact h
  | d + 1, j, hd => by
    have hj : j < (a :: r).length := by omega
    have c1 : (j : Int) < ((a :: r).length : Int) := by omega
    have c0 : (0 : Int) ≤ (j : Int) := by omega
    have ih := rco_l0 a r hl hn t h d (j + 1) (by omega)
    rw [← List.take_append_getElem hj, sumW_snoc] at ih
    have hs := sumW_bd j ((a :: r).take j) (by rw [List.length_take]; omega)
    have hw := wgt_bd (a :: r)[j]
    have hj16 : (j : Int) ≤ 16 := by omega
    have hsum : wrap64 (sumW ((a :: r).take j) + wgt (a :: r)[j]) = sumW ((a :: r).take j) + wgt (a :: r)[j] := w64_in (by omega) (by omega)
    have bj : (j : Int) < 9223372036854775807 := by clear hsum hs hw ih; omega
    refine Ev.step (fun k => by rw [foliotref14_Combine.l0, if_pos c1, if_pos c0, if_pos c1, rdl _ j hj]) ?_
    refine Ev.bind (f := fun k t => _) (ref_weight _ (hl.at j hj)) ?_
    rw [hsum, wrap_succ j bj]
    exact ih
theorem ref_Combine (l : List S25) (hl : Ok l) : Ev (fun k => foliotref14_Combine.f k l) (coV l) := by
  unfold foliotref14_Combine.f
  by_cases c : l = []
  · subst c
    exact Ev.congr (fun k => if_pos rfl) (Ev.now _)
  · have hp : 0 < l.length := List.length_pos_iff.2 c
    have c0 : ¬ (l.length : Int) = 0 := by omega
    refine Ev.congr (fun k => if_neg c0) ?_
    have e : mn (l.length : Int) 16 = ((min l.length 16 : Nat) : Int) := mn16 l 16
    rw [e]
    have t1 : (((min l.length 16 : Nat) : Int) - 0).toNat = min l.length 16 := by omega
    rw [t1, List.drop_zero]
    have e2 : l.take (min l.length 16) = l.take 16 := by
      rw [Nat.min_comm, ← List.take_take, List.take_of_length_le (l := l) (Nat.le_refl _)]
    rw [e2]
    have hk := ok_take hl 16
    have hlen : (l.take 16).length ≤ 16 := by simp; omega
    refine Ev.congr (fun k => by rw [if_pos (by omega), if_pos (by omega)]) ?_
    unfold coV
    cases hq : l.take 16 with
    | nil => have : (l.take 16).length = 0 := by rw [hq]; rfl
             rw [List.length_take] at this; omega
    | cons a r =>
      rw [hq] at hk hlen
      have hs := sumW_bd (a :: r).length (a :: r) rfl
      have g1 := rco_l1 a r hk hlen (sumW (a :: r)) ⟨hs.1, by omega⟩ r.length 0 (by omega)
      rw [List.take_zero] at g1
      have g := rco_l0 a r hk hlen _ g1 (a :: r).length 0 (by omega)
      exact g
end Go.Proofs.Ytigcmpmpjmbfkaa.Q
