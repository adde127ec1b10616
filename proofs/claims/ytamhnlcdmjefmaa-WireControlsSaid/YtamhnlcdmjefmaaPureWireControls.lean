/- What is to be proved of WireControls. -/
import Derived.Test.YtamhnlcdmjefmaaDQ
import Derived.Test.YtamhnlcdmjefmaaWi
namespace Go.Proofs.Ytamhnlcdmjefmaa.Q
open Go Go.RowKit Go.Proofs.Ytamhnlcdmjefmaa.Ev
set_option linter.unusedVariables false
set_option linter.unusedSimpArgs false
set_option maxRecDepth 100000

namespace Pure
theorem WireControls (a0_0 : Int) (a0_1 : Bool) (a0_2 : Bool) (a0_3 : Bool) (a0_4 : Int) (a0_5 : Int) (a0_6 : Int) (a0_7 : Int) (a0_8 : Int) (a0_9 : List Int) (a0_10 : Int) (a0_11 : List Int) (a1 : List Int) (h0 : (Lit.int .i64 a0_0).wf = true) (h1 : (Lit.int .i64 a0_4).wf = true) (h2 : (Lit.int .i64 a0_5).wf = true) (h3 : (Lit.int .i64 a0_6).wf = true) (h4 : (Lit.int .i64 a0_7).wf = true) (h5 : (Lit.int .i64 a0_8).wf = true) (h6 : (a0_9.length ≤ 9223372036854775807 ∧ a0_9.length * 1 ≤ 140737488351232 ∧ ∀ x ∈ a0_9, (Lit.int .u8 x).wf = true)) (h7 : (Lit.int .i64 a0_10).wf = true) (h8 : (a0_11.length ≤ 9223372036854775807 ∧ a0_11.length * 1 ≤ 140737488351232 ∧ ∀ x ∈ a0_11, (Lit.int .u8 x).wf = true)) (h9 : (a1.length ≤ 9223372036854775807 ∧ a1.length * 1 ≤ 140737488351232 ∧ ∀ x ∈ a1, (Lit.int .u8 x).wf = true)) : ∃ k, foliotlaw03_WireControls.f k a0_0 a0_1 a0_2 a0_3 a0_4 a0_5 a0_6 a0_7 a0_8 a0_9 a0_10 a0_11 a1 = some true := by
  have hm := limb h8.2.1
  have h4' := wf64 h1
  have hb := By.of_wf h9.2.2
  refine Ev.rounds (r := true) ?_
  unfold foliotlaw03_WireControls.f
  by_cases q1 : (a0_9.length : Int) > 1048576
  · exact Ev.congr (fun k => by rw [if_pos q1]) (Ev.now _)
  by_cases q2 : (a0_11.length : Int) > 1048576
  · exact Ev.congr (fun k => by rw [if_neg q1, if_pos q2]) (Ev.now _)
  by_cases q3 : (a1.length : Int) > 1048576
  · exact Ev.congr (fun k => by rw [if_neg q1, if_neg q2, if_pos q3]) (Ev.now _)
  refine Ev.congr (fun k => by rw [if_neg q1, if_neg q2, if_neg q3]) ?_
  have key : ∃ (e : Int) (x m : List Int), Ev (fun k => wire_EncodeControl.f k a0_0 a0_1 a0_2 a0_3 a0_4 a0_5 a0_6 a0_7 a0_8 a0_9 a0_10 a0_11) (e, x) ∧ Ev (fun k => foliotref03_EncodeControl.f k a0_0 a0_1 a0_2 a0_3 a0_4 a0_5 a0_6 a0_7 a0_8 a0_9 a0_10 a0_11) (e, x) ∧ Ev (fun k => wire_ControlMessage.f k a0_0 a0_1 a0_2 a0_3 a0_4 a0_5 a0_6 a0_7 a0_8 a0_9 a0_10 a0_11) (e, m) ∧ Ev (fun k => foliotref03_ControlMessage.f k a0_0 a0_1 a0_2 a0_3 a0_4 a0_5 a0_6 a0_7 a0_8 a0_9 a0_10 a0_11) (e, m) ∧ Ev (fun k => wire_CheckControl.f k a0_0 a0_1 a0_2 a0_3 a0_4 a0_5 a0_6 a0_7 a0_8 a0_9 a0_10 a0_11) e := by
    have hck := ev_cctl a0_0 a0_1 a0_2 a0_3 a0_4 a0_5 a0_6 a0_7 a0_8 a0_9 a0_10 a0_11 hm h4'
    by_cases h : ctlV a0_0 a0_4 a0_5 a0_6 a0_7 a0_8 a0_9 a0_10 a0_11 = 0
    · have hg := ctl_ok h
      rw [h] at hck
      exact ⟨0, _, _, ev_cenc _ _ _ _ _ _ _ _ _ _ _ _ hm hg, ev_rcenc _ _ _ _ _ _ _ _ _ _ _ _ hg, ev_cmsg _ _ _ _ _ _ _ _ _ _ _ _ hm hg, ev_rcmsg _ _ _ _ _ _ _ _ _ _ _ _ hg, hck⟩
    · exact ⟨_, [], [], ev_cenc_bad _ _ _ _ _ _ _ _ _ _ _ _ hm h4' h, ev_rcenc_bad _ _ _ _ _ _ _ _ _ _ _ _ h, ev_cmsg_bad _ _ _ _ _ _ _ _ _ _ _ _ hm h4' h, ev_rcmsg_bad _ _ _ _ _ _ _ _ _ _ _ _ h, hck⟩
  obtain ⟨e, x, m, k1, k2, k3, k4, k5⟩ := key
  refine Ev.bind k1 (Ev.bind k2 (Ev.bind k3 (Ev.bind k4 ?_)))
  refine Ev.congr (fun k => by rw [if_neg (fun h => h rfl), if_neg (fun h => h rfl), bytes_refl, bsome, Bool.not_true, cond_false, bytes_refl, bsome, Bool.not_true, cond_false]) ?_
  refine Ev.bind k5 ?_
  refine Ev.congr (fun k => by rw [if_neg (fun h => h rfl)]) ?_
  refine Ev.bind (ev_cdec a1 hb) (Ev.bind (ev_rcdec a1 hb) ?_)
  exact Ev.congr (fun k => by rw [if_pos rfl, sameC_refl, bsome]) (Ev.now _)
end Pure
end Go.Proofs.Ytamhnlcdmjefmaa.Q
