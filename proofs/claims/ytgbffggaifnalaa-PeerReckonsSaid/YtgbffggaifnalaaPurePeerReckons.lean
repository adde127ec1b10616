/- What is to be proved of PeerReckons. -/
import Derived.Test.YtgbffggaifnalaaDK8
import Derived.Test.YtgbffggaifnalaaPreK8x
namespace Go.Proofs.Ytgbffggaifnalaa.K8
open Go Go.RowKit Go.Proofs.Ytgbffggaifnalaa.Ev
set_option linter.unusedVariables false
set_option linter.unusedSimpArgs false
set_option maxRecDepth 100000
def okS148 (x : S148) : Prop := (Lit.int .i64 x.f0).wf = true ∧ (x.f1.length ≤ 9223372036854775807 ∧ x.f1.length * 1 ≤ 140737488351232 ∧ ∀ y ∈ x.f1, (Lit.int .u8 y).wf = true)
theorem shown_at (m : Nat) : foliotlaw10_shown.f (m + 100) = some true := by kernel_rfl
theorem ev_shown : Ev (fun k => foliotlaw10_shown.f k) true := ⟨100, fun k hk => by
  obtain ⟨m, rfl⟩ : ∃ m, k = m + 100 := ⟨k - 100, by omega⟩
  exact shown_at m⟩
theorem ev_head (q0 q1 q2 q3 q4 q5 q6 q7 q8 q9 q10 q11 q12 : Int) (q13 : List S148) (q14 : Int) (q15 : Bool) (q16 : List Int) (own : Int) (h60 : -9223372036854775808 ≤ q6) (h61 : q6 ≤ 9223372036854775807) (h70 : -9223372036854775808 ≤ q7) (h71 : q7 ≤ 9223372036854775807) :
    Ev (fun k => peer_Header_s1.f q0 q1 q2 q3 q4 q5 q6 q7 q8 q9 q10 q11 q12 q13 q14 q15 q16 own) (headV q0 q3 q6 q7 q8 q9 q12 own) := by
  unfold peer_Header_s1.f headV
  by_cases c1 : q0 = 3
  · simp only [c1, if_true]; exact Ev.now _
  by_cases c2 : q3 < 1
  · simp only [c1, c2, if_true, if_false]; exact Ev.now _
  by_cases c3 : q3 ≥ 16
  · simp only [c1, c2, c3, if_true, if_false]; exact Ev.now _
  by_cases c4 : q6 < 0
  · simp only [c1, c2, c3, c4, if_true, if_false]; exact Ev.now _
  by_cases c5 : q7 < 0
  · simp only [c1, c2, c3, c4, c5, if_true, if_false]; exact Ev.now _
  simp only [c1, c2, c3, c4, c5, if_false]
  refine Ev.bind (f := fun k t => _) (ev_since q12 q9) ?_
  by_cases c6 : sinceVal q12 q9 < 0
  · simp only [c6, if_true]; exact Ev.now _
  simp only [c6, if_false]
  have hs := shiftV_bd q6 (-1)
  refine Ev.bind (f := fun k t => _) (ev_shift q6 (-1) h60 h61 (by omega) (by omega)) ?_
  refine Ev.bind (f := fun k t => _) (ev_add _ q7 (by omega) (by omega) h70 h71) ?_
  (repeat' split) <;> exact Ev.now _
theorem ref_head (q0 q1 q2 q3 q4 q5 q6 q7 q8 q9 q10 q11 q12 : Int) (q13 : List S148) (q14 : Int) (q15 : Bool) (q16 : List Int) (own : Int) (h60 : -9223372036854775808 ≤ q6) (h61 : q6 ≤ 9223372036854775807) (h70 : -9223372036854775808 ≤ q7) (h71 : q7 ≤ 9223372036854775807) :
    Ev (fun k => foliotref10_Header.f k q0 q1 q2 q3 q4 q5 q6 q7 q8 q9 q10 q11 q12 q13 q14 q15 q16 own) (headV q0 q3 q6 q7 q8 q9 q12 own) := by
  unfold foliotref10_Header.f headV
  by_cases c1 : q0 = 3
  · simp only [c1, if_true]; exact Ev.now _
  by_cases c2 : q3 < 1
  · simp only [c1, c2, if_true, if_false]; exact Ev.now _
  by_cases c3 : q3 ≥ 16
  · simp only [c1, c2, c3, show q3 > 15 by omega, if_true, if_false]; exact Ev.now _
  by_cases c4 : q6 < 0
  · simp only [c1, c2, c3, show ¬ q3 > 15 by omega, c4, if_true, if_false]; exact Ev.now _
  by_cases c5 : q7 < 0
  · simp only [c1, c2, c3, show ¬ q3 > 15 by omega, c4, c5, if_true, if_false]; exact Ev.now _
  simp only [c1, c2, c3, show ¬ q3 > 15 by omega, c4, c5, if_false]
  refine Ev.bind (f := fun k t => _) (Ev.const (ref_since q12 q9)) ?_
  by_cases c6 : sinceVal q12 q9 < 0
  · simp only [c6, if_true]; exact Ev.now _
  simp only [c6, if_false]
  have hs := shiftV_bd q6 (-1)
  refine Ev.bind (f := fun k t => _) (ref_half q6 h60 h61) ?_
  refine Ev.bind (f := fun k t => _) (ref_add _ q7 (by omega) (by omega) h70 h71) ?_
  (repeat' split) <;> exact Ev.now _
def distV (t4 t5 b1 b2 b3 b4 now : Int) : Int := sat (sat (sat (sat (shiftVal (mx (sat (t4 + b1)) 16777216) (-1) + t5) + b2) + b3) + wearV b4 now)
theorem ev_distance (t0 t1 t2 t3 t4 t5 t6 t7 b0 b1 b2 b3 b4 : Int) (b5 : Bool) (now : Int) (h4 : -9223372036854775808 ≤ t4 ∧ t4 ≤ 9223372036854775807) (h5 : -9223372036854775808 ≤ t5 ∧ t5 ≤ 9223372036854775807) (g1 : -9223372036854775808 ≤ b1 ∧ b1 ≤ 9223372036854775807) (g2 : -9223372036854775808 ≤ b2 ∧ b2 ≤ 9223372036854775807) (g3 : -9223372036854775808 ≤ b3 ∧ b3 ≤ 9223372036854775807) :
    Ev (fun k => peer_Distance.f k t0 t1 t2 t3 t4 t5 t6 t7 b0 b1 b2 b3 b4 b5 now) (distV t4 t5 b1 b2 b3 b4 now) := by
  unfold peer_Distance.f distV
  have s1 := sat_in (t4 + b1)
  have hm : -4611686018427387904 ≤ mx (sat (t4 + b1)) 16777216 ∧ mx (sat (t4 + b1)) 16777216 ≤ 4611686018427387904 := by unfold mx; split <;> omega
  have s2 := shiftV_bd (mx (sat (t4 + b1)) 16777216) (-1)
  have hw := sat_in (4222124650 * mx (sinceVal now b4) 0 / 281474976710656)
  refine Ev.bind (f := fun k t => _) (ev_add t4 b1 h4.1 h4.2 g1.1 g1.2) ?_
  refine Ev.bind (f := fun k t => _) (ev_shift _ (-1) (by omega) (by omega) (by omega) (by omega)) ?_
  refine Ev.bind (f := fun k t => _) (ev_wears b4 now) ?_
  unfold wearV
  generalize sat (4222124650 * mx (sinceVal now b4) 0 / 281474976710656) = w at *
  generalize shiftVal (mx (sat (t4 + b1)) 16777216) (-1) = x at *
  have a1 := sat_in (x + t5)
  have a2 := sat_in (sat (x + t5) + b2)
  have a3 := sat_in (sat (sat (x + t5) + b2) + b3)
  have e1 : wrap64 (0 + 1) = 1 := w64_in (by omega) (by omega)
  have e2 : wrap64 (1 + 1) = 2 := w64_in (by omega) (by omega)
  have e3 : wrap64 (2 + 1) = 3 := w64_in (by omega) (by omega)
  have e4 : wrap64 (3 + 1) = 4 := w64_in (by omega) (by omega)
  have r0 : rd [t5, b2, b3, w] 0 = t5 := rfl
  have r1 : rd [t5, b2, b3, w] 1 = b2 := rfl
  have r2 : rd [t5, b2, b3, w] 2 = b3 := rfl
  have r3 : rd [t5, b2, b3, w] 3 = w := rfl
  have hl : (([t5, b2, b3, w] : List Int).length : Int) = 4 := rfl
  rw [hl]
  refine Ev.step (fun k => by rw [peer_Distance.l0, hl, if_pos (by omega), if_pos (by omega), if_pos (by omega), r0, e1]) ?_
  refine Ev.bind (f := fun k t => _) (ev_add x t5 (by omega) (by omega) h5.1 h5.2) ?_
  refine Ev.step (fun k => by rw [peer_Distance.l0, hl, if_pos (by omega), if_pos (by omega), if_pos (by omega), r1, e2]) ?_
  refine Ev.bind (f := fun k t => _) (ev_add _ b2 (by omega) (by omega) g2.1 g2.2) ?_
  refine Ev.step (fun k => by rw [peer_Distance.l0, hl, if_pos (by omega), if_pos (by omega), if_pos (by omega), r2, e3]) ?_
  refine Ev.bind (f := fun k t => _) (ev_add _ b3 (by omega) (by omega) g3.1 g3.2) ?_
  refine Ev.step (fun k => by rw [peer_Distance.l0, hl, if_pos (by omega), if_pos (by omega), if_pos (by omega), r3, e4]) ?_
  refine Ev.bind (f := fun k t => _) (ev_add _ w (by omega) (by omega) (by omega) (by omega)) ?_
  refine Ev.succ fun k => ?_
  rw [peer_Distance.l0, if_neg (by omega)]
theorem ref_distance (t0 t1 t2 t3 t4 t5 t6 t7 b0 b1 b2 b3 b4 : Int) (b5 : Bool) (now : Int) (h4 : -9223372036854775808 ≤ t4 ∧ t4 ≤ 9223372036854775807) (h5 : -9223372036854775808 ≤ t5 ∧ t5 ≤ 9223372036854775807) (g1 : -9223372036854775808 ≤ b1 ∧ b1 ≤ 9223372036854775807) (g2 : -9223372036854775808 ≤ b2 ∧ b2 ≤ 9223372036854775807) (g3 : -9223372036854775808 ≤ b3 ∧ b3 ≤ 9223372036854775807) :
    Ev (fun k => foliotref10_Distance.f k t0 t1 t2 t3 t4 t5 t6 t7 b0 b1 b2 b3 b4 b5 now) (distV t4 t5 b1 b2 b3 b4 now) := by
  unfold foliotref10_Distance.f distV
  have s1 := sat_in (t4 + b1)
  have hm : -4611686018427387904 ≤ mx (sat (t4 + b1)) 16777216 ∧ mx (sat (t4 + b1)) 16777216 ≤ 4611686018427387904 := by unfold mx; split <;> omega
  have s2 := shiftV_bd (mx (sat (t4 + b1)) 16777216) (-1)
  have hw := sat_in (4222124650 * mx (sinceVal now b4) 0 / 281474976710656)
  have wr := ref_wears b4 now
  unfold wearV at wr ⊢
  refine Ev.bind (f := fun k t => _) (ref_add t4 b1 h4.1 h4.2 g1.1 g1.2) ?_
  refine Ev.bind (f := fun k t => _) (ref_half _ (by omega) (by omega)) ?_
  generalize sat (4222124650 * mx (sinceVal now b4) 0 / 281474976710656) = w at *
  generalize shiftVal (mx (sat (t4 + b1)) 16777216) (-1) = x at *
  have a1 := sat_in (x + t5)
  have a2 := sat_in (sat (x + t5) + b2)
  have a3 := sat_in (sat (sat (x + t5) + b2) + b3)
  refine Ev.bind (f := fun k t => _) (ref_add x t5 (by omega) (by omega) h5.1 h5.2) ?_
  refine Ev.bind (f := fun k t => _) (ref_add _ b2 (by omega) (by omega) g2.1 g2.2) ?_
  refine Ev.bind (f := fun k t => _) (ref_add _ b3 (by omega) (by omega) g3.1 g3.2) ?_
  refine Ev.congr (f := fun k => ((foliotref10_after.f b4 now).bind fun t5 => (foliotref01_Drift.f k 4222124650 t5)).bind fun t6 => (foliotref01_Add.f k (sat (sat (sat (x + t5) + b2) + b3)) t6).bind fun t7 => some t7) (fun k => by rw [Option.bind_assoc]) ?_
  refine Ev.bind (f := fun k t => _) wr ?_
  exact Ev.bind (f := fun k t => _) (ref_add _ w (by omega) (by omega) (by omega) (by omega)) (Ev.now _)
namespace Pure
theorem PeerReckons (a0_0 : Int) (a0_1 : Int) (a0_2 : Int) (a0_3 : Int) (a1_0 : Int) (a1_1 : Int) (a1_2 : Int) (a1_3 : Int) (a1_4 : Int) (a1_5 : Int) (a1_6 : Int) (a1_7 : Int) (a1_8 : Int) (a1_9 : Int) (a1_10 : Int) (a1_11 : Int) (a1_12 : Int) (a1_13 : List S148) (a1_14 : Int) (a1_15 : Bool) (a1_16 : List Int) (a2 : Int) (a3_0 : Int) (a3_1 : Int) (a3_2 : Int) (a3_3 : Int) (a3_4 : Int) (a3_5 : Int) (a3_6 : Int) (a3_7 : Int) (a4_0 : Int) (a4_1 : Int) (a4_2 : Int) (a4_3 : Int) (a4_4 : Int) (a4_5 : Bool) (a5_0 : Int) (a5_1 : Int) (a5_2 : Int) (a5_3 : Int) (a5_4 : Int) (a5_5 : Bool) (a5_6 : Bool) (a5_7 : Bool) (a5_8 : Int) (a5_9 : Bool) (a5_10 : Int) (a5_11 : Int) (a6 : Int) (h0 : (Lit.int .u64 a0_0).wf = true) (h1 : (Lit.int .u64 a0_1).wf = true) (h2 : (Lit.int .u64 a0_2).wf = true) (h3 : (Lit.int .u64 a0_3).wf = true) (h4 : (Lit.int .i64 a1_0).wf = true) (h5 : (Lit.int .i64 a1_1).wf = true) (h6 : (Lit.int .i64 a1_2).wf = true) (h7 : (Lit.int .i64 a1_3).wf = true) (h8 : (Lit.int .i64 a1_4).wf = true) (h9 : (Lit.int .i64 a1_5).wf = true) (h10 : (Lit.int .i64 a1_6).wf = true) (h11 : (Lit.int .i64 a1_7).wf = true) (h12 : (Lit.int .u32 a1_8).wf = true) (h13 : (Lit.int .u64 a1_9).wf = true) (h14 : (Lit.int .u64 a1_10).wf = true) (h15 : (Lit.int .u64 a1_11).wf = true) (h16 : (Lit.int .u64 a1_12).wf = true) (h17 : (a1_13.length ≤ 9223372036854775807 ∧ a1_13.length * 32 ≤ 140737488351232 ∧ ∀ x ∈ a1_13, okS148 x)) (h18 : (Lit.int .i64 a1_14).wf = true) (h19 : (a1_16.length ≤ 9223372036854775807 ∧ a1_16.length * 1 ≤ 140737488351232 ∧ ∀ x ∈ a1_16, (Lit.int .u8 x).wf = true)) (h20 : (Lit.int .u32 a2).wf = true) (h21 : (Lit.int .i64 a3_0).wf = true) (h22 : (Lit.int .i64 a3_1).wf = true) (h23 : (Lit.int .i64 a3_2).wf = true) (h24 : (Lit.int .i64 a3_3).wf = true) (h25 : (Lit.int .i64 a3_4).wf = true) (h26 : (Lit.int .i64 a3_5).wf = true) (h27 : (Lit.int .u32 a3_6).wf = true) (h28 : (Lit.int .u64 a3_7).wf = true) (h29 : (Lit.int .i64 a4_0).wf = true) (h30 : (Lit.int .i64 a4_1).wf = true) (h31 : (Lit.int .i64 a4_2).wf = true) (h32 : (Lit.int .i64 a4_3).wf = true) (h33 : (Lit.int .u64 a4_4).wf = true) (h34 : (Lit.int .i64 a5_0).wf = true) (h35 : (Lit.int .u32 a5_1).wf = true) (h36 : (Lit.int .i64 a5_2).wf = true) (h37 : (Lit.int .i64 a5_3).wf = true) (h38 : (Lit.int .i64 a5_4).wf = true) (h39 : (Lit.int .i64 a5_8).wf = true) (h40 : (Lit.int .i64 a5_10).wf = true) (h41 : (Lit.int .i64 a5_11).wf = true) (h42 : (Lit.int .i64 a6).wf = true) : ∃ k, foliotlaw10_PeerReckons.f k a0_0 a0_1 a0_2 a0_3 a1_0 a1_1 a1_2 a1_3 a1_4 a1_5 a1_6 a1_7 a1_8 a1_9 a1_10 a1_11 a1_12 a1_13 a1_14 a1_15 a1_16 a2 a3_0 a3_1 a3_2 a3_3 a3_4 a3_5 a3_6 a3_7 a4_0 a4_1 a4_2 a4_3 a4_4 a4_5 a5_0 a5_1 a5_2 a5_3 a5_4 a5_5 a5_6 a5_7 a5_8 a5_9 a5_10 a5_11 a6 = some true := by
  refine Ev.rounds (r := true) ?_
  unfold foliotlaw10_PeerReckons.f
  refine Ev.bind (f := fun k t => _) ev_shown ?_
  simp only [Bool.not_true, cond_false]
  refine Ev.bind (f := fun k t => _) (ev_exchange _ _ _ _) ?_
  refine Ev.bind (f := fun k t => _) (ref_exchange _ _ _ _) ?_
  simp only [if_true]
  have b6 := wf64 h10
  have b7 := wf64 h11
  refine Ev.bind (f := fun k t => _) (ev_head _ _ _ _ _ _ _ _ _ _ _ _ _ _ _ _ _ _ b6.1 b6.2 b7.1 b7.2) ?_
  refine Ev.bind (f := fun k t => _) (ref_head _ _ _ _ _ _ _ _ _ _ _ _ _ _ _ _ _ _ b6.1 b6.2 b7.1 b7.2) ?_
  simp only [if_true]
  have d := ev_distance a3_0 a3_1 a3_2 a3_3 a3_4 a3_5 a3_6 a3_7 a4_0 a4_1 a4_2 a4_3 a4_4 a4_5 a0_0 (wf64 h25) (wf64 h26) (wf64 h30) (wf64 h31) (wf64 h32)
  have r := ref_distance a3_0 a3_1 a3_2 a3_3 a3_4 a3_5 a3_6 a3_7 a4_0 a4_1 a4_2 a4_3 a4_4 a4_5 a0_0 (wf64 h25) (wf64 h26) (wf64 h30) (wf64 h31) (wf64 h32)
  generalize distV a3_4 a3_5 a4_1 a4_2 a4_3 a4_4 a0_0 = D at *
  refine Ev.bind (f := fun k t => _) d ?_
  unfold foliotlaw10_told.f
  simp only [bsome]
  refine Ev.bind (f := fun k t => _) r ?_
  simp only [if_true]
  unfold peer_Candidate.f foliotref10_Candidate.f
  by_cases c : a5_0 = 6
  · simp only [c, if_true]
    refine Ev.bind (f := fun k t => _) (Ev.bind (f := fun k t => _) d (Ev.now _)) ?_
    refine Ev.bind (f := fun k t => _) (Ev.bind (f := fun k t => _) r (Ev.now _)) ?_
    exact Ev.const (congrArg some (decide_eq_true ⟨rfl, rfl, rfl, rfl, rfl, rfl, rfl⟩))
  · simp only [c, if_false]
    refine Ev.bind (f := fun k t => _) (Ev.bind (f := fun k t => _) d (Ev.now _)) ?_
    refine Ev.bind (f := fun k t => _) (Ev.bind (f := fun k t => _) r (Ev.now _)) ?_
    exact Ev.const (congrArg some (decide_eq_true ⟨rfl, rfl, rfl, rfl, rfl, rfl, rfl⟩))
end Pure
end Go.Proofs.Ytgbffggaifnalaa.K8
