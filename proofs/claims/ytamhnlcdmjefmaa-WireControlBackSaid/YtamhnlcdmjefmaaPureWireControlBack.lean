/- What is to be proved of WireControlBack. -/
import Derived.Test.YtamhnlcdmjefmaaDQ
import Derived.Test.YtamhnlcdmjefmaaWi
namespace Go.Proofs.Ytamhnlcdmjefmaa.Q
open Go Go.RowKit Go.Proofs.Ytamhnlcdmjefmaa.Ev
set_option linter.unusedVariables false
set_option linter.unusedSimpArgs false
set_option maxRecDepth 100000

theorem cback_j0 (b : List Int) (hb : By b) : Ev (fun k => foliotlaw03_WireControlBack.j0 k b) true := by
  refine Ev.step (fun k => by rw [foliotlaw03_WireControlBack.j0]) ?_
  refine Ev.bind (ev_cdec b hb) (Ev.bind (ev_rcdec b hb) ?_)
  by_cases he : (decC b).e = 0
  · obtain ⟨hg, henc⟩ := cdec_good b hb he
    have hm : ((decC b).mac.length : Int) ≤ 140737488351232 := by
      rcases trail_mac hg.trail with ⟨_, h⟩ | ⟨_, _, h⟩
      · rw [h]; decide
      · omega
    have hev := ev_cenc _ (decC b).p1 (decC b).p2 (decC b).p3 _ _ _ _ _ _ _ _ hm hg
    rw [henc] at hev
    refine Ev.congr (fun k => by rw [if_neg (fun h => h rfl), if_neg (fun h => h he)]) ?_
    refine Ev.bind hev ?_
    exact Ev.congr (fun k => by rw [if_pos rfl, bytes_refl, bsome]) (Ev.now _)
  · have hbad := cdec_bad b he
    generalize (decC b).e = e at he hbad
    rw [hbad]
    exact Ev.congr (fun k => by rw [if_neg (fun h => h rfl), if_pos he, if_pos rfl, sameC_zero, bsome]) (Ev.now _)
namespace Pure
theorem WireControlBack (a0_0 : Int) (a0_1 : Bool) (a0_2 : Bool) (a0_3 : Bool) (a0_4 : Int) (a0_5 : Int) (a0_6 : Int) (a0_7 : Int) (a0_8 : Int) (a0_9 : List Int) (a0_10 : Int) (a0_11 : List Int) (a1 : List Int) (h0 : (Lit.int .i64 a0_0).wf = true) (h1 : (Lit.int .i64 a0_4).wf = true) (h2 : (Lit.int .i64 a0_5).wf = true) (h3 : (Lit.int .i64 a0_6).wf = true) (h4 : (Lit.int .i64 a0_7).wf = true) (h5 : (Lit.int .i64 a0_8).wf = true) (h6 : (a0_9.length ≤ 9223372036854775807 ∧ a0_9.length * 1 ≤ 140737488351232 ∧ ∀ x ∈ a0_9, (Lit.int .u8 x).wf = true)) (h7 : (Lit.int .i64 a0_10).wf = true) (h8 : (a0_11.length ≤ 9223372036854775807 ∧ a0_11.length * 1 ≤ 140737488351232 ∧ ∀ x ∈ a0_11, (Lit.int .u8 x).wf = true)) (h9 : (a1.length ≤ 9223372036854775807 ∧ a1.length * 1 ≤ 140737488351232 ∧ ∀ x ∈ a1, (Lit.int .u8 x).wf = true)) : ∃ k, foliotlaw03_WireControlBack.f k a0_0 a0_1 a0_2 a0_3 a0_4 a0_5 a0_6 a0_7 a0_8 a0_9 a0_10 a0_11 a1 = some true := by
  have hm := limb h8.2.1
  have h4' := wf64 h1
  have hb := By.of_wf h9.2.2
  refine Ev.rounds (r := true) ?_
  unfold foliotlaw03_WireControlBack.f
  by_cases q1 : (a0_9.length : Int) > 1048576
  · exact Ev.congr (fun k => by rw [if_pos q1]) (Ev.now _)
  by_cases q2 : (a0_11.length : Int) > 1048576
  · exact Ev.congr (fun k => by rw [if_neg q1, if_pos q2]) (Ev.now _)
  by_cases q3 : (a1.length : Int) > 1048576
  · exact Ev.congr (fun k => by rw [if_neg q1, if_neg q2, if_pos q3]) (Ev.now _)
  refine Ev.congr (fun k => by rw [if_neg q1, if_neg q2, if_neg q3]) ?_
  by_cases h : ctlV a0_0 a0_4 a0_5 a0_6 a0_7 a0_8 a0_9 a0_10 a0_11 = 0
  · have hg := ctl_ok h
    refine Ev.bind (ev_cenc a0_0 a0_1 a0_2 a0_3 a0_4 a0_5 a0_6 a0_7 a0_8 a0_9 a0_10 a0_11 hm hg) ?_
    have hby := encC_by a0_0 a0_4 a0_5 a0_6 a0_7 a0_8 a0_1 a0_2 a0_3 a0_9 a0_10 a0_11 hg (By.of_wf h6.2.2) (By.of_wf h8.2.2)
    have hde := cdec_enc a0_0 a0_4 a0_5 a0_6 a0_7 a0_8 a0_1 a0_2 a0_3 a0_9 a0_10 a0_11 hg
    generalize encC a0_0 a0_4 a0_5 a0_6 a0_7 a0_8 a0_1 a0_2 a0_3 a0_9 a0_10 a0_11 = b at hby hde ⊢
    have hdec := ev_cdec_s1 b hby
    rw [hde] at hdec
    rw [rcctl_val, h]
    refine Ev.bs ?_
    refine Ev.congr (fun k => by rw [if_neg (fun h => h rfl), if_pos rfl]) ?_
    refine Ev.bind hdec ?_
    have hsm := sameC_refl ⟨a0_0, a0_1, a0_2, a0_3, a0_4, a0_5, a0_6, a0_7, a0_8, a0_9, a0_10, a0_11, 0⟩
    dsimp only at hsm ⊢
    exact Ev.congr (fun k => by rw [if_neg (fun h => h rfl), hsm, bsome, Bool.not_true, cond_false]) (cback_j0 a1 hb)
  · refine Ev.bind (ev_cenc_bad a0_0 a0_1 a0_2 a0_3 a0_4 a0_5 a0_6 a0_7 a0_8 a0_9 a0_10 a0_11 hm h4' h) ?_
    rw [rcctl_val]
    refine Ev.bs ?_
    exact Ev.congr (fun k => by rw [if_neg (fun h => h rfl), if_neg h]) (cback_j0 a1 hb)
end Pure
end Go.Proofs.Ytamhnlcdmjefmaa.Q
