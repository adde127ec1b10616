/- What is to be proved of ClusterBetween. -/
import Derived.Test.YtigcmpmpjmbfkaaDQ
import Derived.Test.YtigcmpmpjmbfkaaCf
namespace Go.Proofs.Ytigcmpmpjmbfkaa.Q
open Go Go.RowKit Go.Proofs.Ytigcmpmpjmbfkaa.Ev
set_option linter.unusedVariables false
set_option linter.unusedSimpArgs false
set_option maxRecDepth 100000
def okS25 (x : S25) : Prop := (Lit.int .i64 x.f0).wf = true ∧ (Lit.int .i64 x.f1).wf = true ∧ (Lit.int .i64 x.f2).wf = true ∧ (Lit.int .i64 x.f3).wf = true ∧ (Lit.int .i64 x.f4).wf = true
/-! ### between the least and the greatest -/
def wsum (r : List S25) : Int := (r.map wgt).sum
theorem sumW_add : ∀ (r : List S25) (s : Int), r.foldl (fun s c => s + wgt c) s = s + wsum r
  | [], s => by simp [wsum]
  | c :: r, s => by
    rw [List.foldl_cons, sumW_add r]
    unfold wsum
    rw [List.map_cons, List.sum_cons]
    omega
theorem sumW_cons (a : S25) (r : List S25) : sumW (a :: r) = wgt a + wsum r := by
  unfold sumW
  rw [List.foldl_cons, sumW_add]
  omega
theorem wsum_nn : ∀ (r : List S25), 0 ≤ wsum r
  | [] => by simp [wsum]
  | c :: r => by
    have := wsum_nn r
    have := wgt_bd c
    unfold wsum at *
    rw [List.map_cons, List.sum_cons]
    omega
theorem step_bd {S w D q H Lo : Int} (hS : 0 < S) (hw0 : 0 ≤ w) (hwS : w ≤ S) (hq : q = D * w / S) (h1 : Lo ≤ D) (h2 : D ≤ H) (h0 : 0 ≤ H) (h0' : Lo ≤ 0) : S * q ≤ H * w ∧ Lo * w - S ≤ S * q ∧ q ≤ H ∧ Lo - 1 ≤ q := by
  have hdm := Int.mul_ediv_add_emod (D * w) S
  have hm0 := Int.emod_nonneg (D * w) (show S ≠ 0 by omega)
  have hm1 := Int.emod_lt_of_pos (D * w) hS
  rw [← hq] at hdm
  have a1 : D * w ≤ H * w := Int.mul_le_mul_of_nonneg_right h2 hw0
  have a2 : Lo * w ≤ D * w := Int.mul_le_mul_of_nonneg_right h1 hw0
  have a3 : H * w ≤ H * S := Int.mul_le_mul_of_nonneg_left hwS h0
  have a4 : Lo * S ≤ Lo * w := Int.mul_le_mul_of_nonpos_left h0' hwS
  refine ⟨by omega, by omega, ?_, ?_⟩
  · have : S * q ≤ S * H := by rw [Int.mul_comm S H]; omega
    exact Int.le_of_mul_le_mul_left this hS
  · have e : S * (Lo - 1) = Lo * S - S := by rw [Int.mul_sub, Int.mul_one, Int.mul_comm]
    have : S * (Lo - 1) ≤ S * q := by rw [e]; omega
    exact Int.le_of_mul_le_mul_left this hS
theorem part_bd {S W P H Lo n : Int} (hS : 0 < S) (hW0 : 0 ≤ W) (hWS : W ≤ S) (h0 : 0 ≤ H) (h0' : Lo ≤ 0) (h1 : S * P ≤ H * W) (h2 : Lo * W - S * n ≤ S * P) : P ≤ H ∧ Lo - n ≤ P := by
  have a3 : H * W ≤ H * S := Int.mul_le_mul_of_nonneg_left hWS h0
  have a4 : Lo * S ≤ Lo * W := Int.mul_le_mul_of_nonpos_left h0' hWS
  constructor
  · have : S * P ≤ S * H := by rw [Int.mul_comm S H]; omega
    exact Int.le_of_mul_le_mul_left this hS
  · have e : S * (Lo - n) = Lo * S - S * n := by rw [Int.mul_sub, Int.mul_comm S Lo]
    have : S * (Lo - n) ≤ S * P := by rw [e]; omega
    exact Int.le_of_mul_le_mul_left this hS
theorem comb_fold (a : S25) (S H Lo : Int) (hS : 0 < S) (hH : 0 ≤ H ∧ H ≤ 2305843009213693952) (hLo : -2305843009213693952 ≤ Lo ∧ Lo ≤ 0) (ha : -1152921504606846976 ≤ a.f1 ∧ a.f1 ≤ 1152921504606846976) : ∀ (r : List S25) (P W : Int) (n : Nat), (∀ c ∈ r, Lo ≤ c.f1 - a.f1 ∧ c.f1 - a.f1 ≤ H) → 0 ≤ W → W + wsum r ≤ S → S * P ≤ H * W → Lo * W - S * n ≤ S * P → n + r.length ≤ 20 →
    ∃ Q, r.foldl (comb a S) (a.f1 + P) = a.f1 + Q ∧ Q ≤ H ∧ Lo - ((n + r.length : Nat) : Int) ≤ Q
  | [], P, W, n, _, hW, hWS, h1, h2, _ => by
    have := part_bd hS hW (by have := wsum_nn []; omega) hH.1 hLo.2 h1 h2
    exact ⟨P, rfl, this.1, by simpa using this.2⟩
  | c :: r, P, W, n, hr, hW, hWS, h1, h2, hn => by
    have hc := hr c (by simp)
    have hwc := wgt_bd c
    have hws := wsum_nn r
    have ew : wsum (c :: r) = wgt c + wsum r := by unfold wsum; rw [List.map_cons, List.sum_cons]
    rw [ew] at hWS
    have hp := part_bd hS hW (by omega) hH.1 hLo.2 h1 h2
    obtain ⟨q1, q2, q3, q4⟩ := step_bd (q := (c.f1 - a.f1) * wgt c / S) hS hwc.1 (by omega) rfl hc.1 hc.2 hH.1 hLo.2
    have hn20 : (n : Int) ≤ 20 := by omega
    have e1 : sat (c.f1 - a.f1) = c.f1 - a.f1 := sat_of (by omega) (by omega)
    generalize hq : (c.f1 - a.f1) * wgt c / S = q at *
    have i1 : S * (P + q) ≤ H * (W + wgt c) := by rw [Int.mul_add, Int.mul_add]; omega
    have i2 : Lo * (W + wgt c) - S * ((n + 1 : Nat) : Int) ≤ S * (P + q) := by
      have e : S * ((n + 1 : Nat) : Int) = S * n + S := by rw [show ((n + 1 : Nat) : Int) = (n : Int) + 1 by omega, Int.mul_add, Int.mul_one]
      rw [e, Int.mul_add, Int.mul_add]
      omega
    have hp2 := part_bd hS (show 0 ≤ W + wgt c by omega) (by omega) hH.1 hLo.2 i1 i2
    have e2 : comb a S (a.f1 + P) c = a.f1 + (P + q) := by
      unfold comb
      rw [if_neg (by omega), e1, hq, show sat q = q from sat_of (by omega) (by omega), sat_of (by omega) (by omega)]
      omega
    rw [List.foldl_cons, e2]
    obtain ⟨Q, g1, g2, g3⟩ := comb_fold a S H Lo hS hH hLo ha r (P + q) (W + wgt c) (n + 1) (fun x hx => hr x (by simp [hx])) (by omega) (by omega) i1 i2 (by simp only [List.length_cons] at hn; omega)
    refine ⟨Q, g1, g2, ?_⟩
    simp only [List.length_cons]
    omega
theorem comb_zero (a : S25) (S : Int) (hS : S ≤ 0) (ha : -4611686018427387904 ≤ a.f1 ∧ a.f1 ≤ 4611686018427387904) : ∀ r : List S25, r.foldl (comb a S) a.f1 = a.f1
  | [] => rfl
  | c :: r => by
    have e : comb a S a.f1 c = a.f1 := by
      unfold comb
      rw [if_pos hS, Int.add_zero, sat_of (by omega) (by omega)]
    rw [List.foldl_cons, e, comb_zero a S hS ha r]
theorem co_between (a : S25) (r : List S25) (lo hi : Int) (hl : ∀ c ∈ a :: r, lo ≤ c.f1 ∧ c.f1 ≤ hi) (hlo : -1152921504606846976 ≤ lo) (hhi : hi ≤ 1152921504606846976) (hn : (a :: r).length ≤ 16) :
    lo - ((a :: r).length : Int) ≤ (coV (a :: r)).1 ∧ (coV (a :: r)).1 ≤ hi ∧ a.f3 ≤ (coV (a :: r)).2 ∧ (lo = hi → (coV (a :: r)).1 = lo) := by
  have ht : (a :: r).take 16 = a :: r := List.take_of_length_le hn
  have ha := hl a (by simp)
  have hco : coV (a :: r) = (r.foldl (comb a (sumW (a :: r))) a.f1, mx a.f3 (apV (a :: r) 0)) := by unfold coV; rw [ht]
  rw [hco]
  dsimp only
  have hj : a.f3 ≤ mx a.f3 (apV (a :: r) 0) := by unfold mx; split <;> omega
  by_cases hS : 0 < sumW (a :: r)
  · have hsc := sumW_cons a r
    have hwa := wgt_bd a
    obtain ⟨Q, g1, g2, g3⟩ := comb_fold a (sumW (a :: r)) (hi - a.f1) (lo - a.f1) hS ⟨by omega, by omega⟩ ⟨by omega, by omega⟩ ⟨by omega, by omega⟩ r 0 0 0 (fun c hc => by
      have := hl c (by simp [hc])
      omega) (Int.le_refl _) (by omega) (by simp) (by simp) (by simp only [List.length_cons] at hn; omega)
    rw [Int.add_zero] at g1
    rw [g1]
    refine ⟨by simp only [List.length_cons]; omega, by omega, hj, fun e => ?_⟩
    -- alike ones: nothing is added
    subst e
    have hall : ∀ r' : List S25, (∀ c ∈ r', c.f1 = a.f1) → r'.foldl (comb a (sumW (a :: r))) a.f1 = a.f1 := by
      intro r'
      induction r' with
      | nil => intro _; rfl
      | cons c r' ih =>
        intro h
        have e : comb a (sumW (a :: r)) a.f1 c = a.f1 := by
          unfold comb
          rw [if_neg (by omega), h c (by simp), Int.sub_self]
          have z : sat 0 = 0 := by kernel_rfl
          rw [z, Int.zero_mul, Int.zero_ediv, z, Int.add_zero, sat_of (by omega) (by omega)]
        rw [List.foldl_cons, e]
        exact ih fun x hx => h x (by simp [hx])
    have := hall r fun c hc => by have := hl c (by simp [hc]); omega
    rw [this] at g1
    omega
  · have hz := comb_zero a (sumW (a :: r)) (by omega) ⟨by omega, by omega⟩ r
    rw [hz]
    exact ⟨by simp only [List.length_cons]; omega, by omega, hj, fun e => by omega⟩
theorem bt_l0 (a : S25) (r : List S25) (hl : Ok (a :: r)) (hn : (a :: r).length ≤ 16) : ∀ (d j : Nat) (lo hi : Int), j + d = (a :: r).length → lo ≤ a.f1 → a.f1 ≤ hi → (∃ c ∈ a :: r, c.f1 = lo) → (∃ c ∈ a :: r, c.f1 = hi) → (∀ i (h : i < (a :: r).length), i < j → lo ≤ (a :: r)[i].f1 ∧ (a :: r)[i].f1 ≤ hi ∧ -1152921504606846976 ≤ (a :: r)[i].f1 ∧ (a :: r)[i].f1 ≤ 1152921504606846976) →
    Ev (fun k => foliotlaw14_ClusterBetween.l0 k (a :: r) lo hi a.f3 (a :: r) ((a :: r).length : Int) (j : Int)) true
  | 0, j, lo, hi, hd, h1, h2, ⟨cl, hcl, elo⟩, ⟨ch, hch, ehi⟩, hb => by
    have c1 : ¬ (j : Int) < ((a :: r).length : Int) := by omega
    have hall : ∀ c ∈ a :: r, lo ≤ c.f1 ∧ c.f1 ≤ hi ∧ -1152921504606846976 ≤ c.f1 ∧ c.f1 ≤ 1152921504606846976 := fun c hc => by
      obtain ⟨i, hi', e⟩ := List.getElem_of_mem hc
      rw [← e]
      exact hb i hi' (by omega)
    have hlo := (hall cl hcl).2.2.1
    have hhi := (hall ch hch).2.2.2
    rw [elo] at hlo
    rw [ehi] at hhi
    obtain ⟨g1, g2, g3, g4⟩ := co_between a r lo hi (fun c hc => ⟨(hall c hc).1, (hall c hc).2.1⟩) hlo hhi hn
    refine Ev.step (fun k => by rw [foliotlaw14_ClusterBetween.l0, if_neg c1]) ?_
    refine Ev.bind (f := fun k t => _) (ev_Combine _ hl) ?_
    have hw : wrap64 (lo - ((a :: r).length : Int)) = lo - ((a :: r).length : Int) := w64_in (by omega) (by omega)
    rw [hw]
    refine Ev.congr (fun k => by rw [if_pos g1, if_pos g2, if_pos g3]) ?_
    by_cases e : lo = hi
    · refine Ev.congr (fun k => by rw [if_neg (fun h => h e), g4 e]) ?_
      rw [decide_eq_true rfl]
      exact Ev.now _
    · exact Ev.congr (fun k => by rw [if_pos e]) (Ev.now _)
  | d + 1, j, lo, hi, hd, h1, h2, hcl, hch, hb => by
    have hj : j < (a :: r).length := by omega
    have c1 : (j : Int) < ((a :: r).length : Int) := by omega
    have c0 : (0 : Int) ≤ (j : Int) := by omega
    have bj : (j : Int) < 9223372036854775807 := by omega
    refine Ev.step (fun k => by rw [foliotlaw14_ClusterBetween.l0, if_pos c1, if_pos c0, if_pos c1, rdl _ j hj]) ?_
    by_cases d1 : (a :: r)[j].f1 > 1152921504606846976
    · exact Ev.congr (fun k => by rw [if_pos d1]) (Ev.now _)
    · refine Ev.congr (fun k => by rw [if_neg d1]) ?_
      by_cases d2 : (a :: r)[j].f1 < -1152921504606846976
      · exact Ev.congr (fun k => by rw [if_pos d2]) (Ev.now _)
      · refine Ev.congr (fun k => by rw [if_neg d2, wrap_succ j bj]) ?_
        have hmn : mn lo (a :: r)[j].f1 ≤ lo ∧ mn lo (a :: r)[j].f1 ≤ (a :: r)[j].f1 ∧ (mn lo (a :: r)[j].f1 = lo ∨ mn lo (a :: r)[j].f1 = (a :: r)[j].f1) := by unfold mn; split <;> omega
        have hmx : hi ≤ mx hi (a :: r)[j].f1 ∧ (a :: r)[j].f1 ≤ mx hi (a :: r)[j].f1 ∧ (mx hi (a :: r)[j].f1 = hi ∨ mx hi (a :: r)[j].f1 = (a :: r)[j].f1) := by unfold mx; split <;> omega
        refine bt_l0 a r hl hn d (j + 1) _ _ (by omega) (by omega) (by omega) ?_ ?_ fun i h hij => ?_
        · rcases hmn.2.2 with e | e
          · rw [e]; exact hcl
          · exact ⟨_, List.getElem_mem hj, e.symm⟩
        · rcases hmx.2.2 with e | e
          · rw [e]; exact hch
          · exact ⟨_, List.getElem_mem hj, e.symm⟩
        · rcases Nat.lt_or_ge i j with h3 | h3
          · have := hb i h h3
            omega
          · have e : i = j := by omega
            subst e
            omega
namespace Pure
theorem ClusterBetween (a0 : List S25) (h0 : (a0.length ≤ 9223372036854775807 ∧ a0.length * 48 ≤ 140737488351232 ∧ ∀ x ∈ a0, okS25 x)) : ∃ k, foliotlaw14_ClusterBetween.f k a0 = some true := by
  have hl : Ok (a0.take 16) := ok_take (ok_of a0 h0.2.2) 16
  have hn : (a0.take 16).length ≤ 16 := by rw [List.length_take]; omega
  refine Ev.rounds (r := true) ?_
  unfold foliotlaw14_ClusterBetween.f
  refine Ev.bind (f := fun k t => _) ev_shown ?_
  refine Ev.congr (fun k => by rw [Bool.not_true, cond_false]) ?_
  have e : mn (a0.length : Int) 16 = ((min a0.length 16 : Nat) : Int) := mn16 a0 16
  have t1 : (((min a0.length 16 : Nat) : Int) - 0).toNat = min a0.length 16 := by omega
  have e2 : a0.take (min a0.length 16) = a0.take 16 := by
    rw [Nat.min_comm, ← List.take_take, List.take_of_length_le (l := a0) (Nat.le_refl _)]
  have p0 : (0 : Int) ≤ ((min a0.length 16 : Nat) : Int) := by omega
  have p1 : ((min a0.length 16 : Nat) : Int) ≤ (a0.length : Int) := by omega
  rw [e, t1, List.drop_zero, e2]
  refine Ev.congr (fun k => by rw [if_pos p0, if_pos p1]) ?_
  generalize a0.take 16 = l at *
  cases l with
  | nil =>
    refine Ev.congr (fun k => if_pos rfl) ?_
    refine Ev.bind (f := fun k t => _) (ev_Combine [] hl) ?_
    exact Ev.congr (fun k => if_pos rfl) (Ev.now _)
  | cons a r =>
    have q0 : ¬ ((a :: r).length : Int) = 0 := by simp only [List.length_cons]; omega
    have q1 : 0 < ((a :: r).length : Int) := by simp only [List.length_cons]; omega
    have e0 : rdOf z_S25 (a :: r) 0 = a := rfl
    rw [e0]
    refine Ev.congr (fun k => by rw [if_neg q0, if_pos q1, if_pos q1, if_pos q1]) ?_
    exact bt_l0 a r hl hn (a :: r).length 0 a.f1 a.f1 (by omega) (Int.le_refl _) (Int.le_refl _) ⟨a, by simp, rfl⟩ ⟨a, by simp, rfl⟩ (fun i _ h => absurd h (Nat.not_lt_zero i))
end Pure
end Go.Proofs.Ytigcmpmpjmbfkaa.Q
