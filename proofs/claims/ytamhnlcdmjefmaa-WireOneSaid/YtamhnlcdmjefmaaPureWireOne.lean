/- What is to be proved of WireOne. -/
import Derived.Test.YtamhnlcdmjefmaaDQ
import Derived.Test.YtamhnlcdmjefmaaWf
namespace Go.Proofs.Ytamhnlcdmjefmaa.Q
open Go Go.RowKit Go.Proofs.Ytamhnlcdmjefmaa.Ev
set_option linter.unusedVariables false
set_option linter.unusedSimpArgs false
set_option maxRecDepth 100000

theorem same1 (e : Int) : Ev (fun k => foliotlaw03_same_s1.f k 0 0 0 0 0 0 0 0 0 0 0 0 0 [] 0 false [] 0 0 0 0 0 0 0 0 0 0 0 0 0 0 false) true := by
  unfold foliotlaw03_same_s1.f
  refine Ev.congr (f := fun k => foliotlaw03_same_s1.l0 k 0 0 0 0 0 0 0 0 0 0 0 0 0 0 [] 0 false [] 0 0 0 0 0 0 0 0 0 0 0 0 0 0 false []) (fun k => ?_) (Ev.succ fun k => by rw [foliotlaw03_same_s1.l0, if_neg (by decide)])
  have e : foliotlaw03_bytes_s1.f [] = some true := by unfold foliotlaw03_bytes_s1.f; rw [decide_eq_true rfl]
  simp only [not_true_eq_false, if_false, e, bsome, bne_self_eq_false, cond_false, Bool.not_true]
theorem limb {l : List Int} (h : l.length * 1 ≤ 140737488351232) : (l.length : Int) ≤ 140737488351232 := by omega
namespace Pure
theorem WireOne (a0 : List Int) (h0 : (a0.length ≤ 9223372036854775807 ∧ a0.length * 1 ≤ 140737488351232 ∧ ∀ x ∈ a0, (Lit.int .u8 x).wf = true)) : ∃ k, foliotlaw03_WireOne.f k a0 = some true := by
  have hb := By.of_wf h0.2.2
  refine Ev.rounds (r := true) ?_
  unfold foliotlaw03_WireOne.f
  by_cases c : (a0.length : Int) > 1048576
  · exact Ev.congr (fun k => by rw [if_pos c]) (Ev.now _)
  refine Ev.congr (fun k => by rw [if_neg c]) ?_
  refine Ev.bind (ev_decode a0 hb) (Ev.bind (ev_rdecode a0 hb) ?_)
  by_cases he : (decD a0).e = 0
  · obtain ⟨hg, henc, h8, hl, h5⟩ := dec_good a0 hb he
    have hmac : ((decD a0).mac.length : Int) ≤ 140737488351232 := by
      rcases trail_mac hg.trail with ⟨_, h⟩ | ⟨_, _, h⟩
      · rw [h]; decide
      · omega
    have hev := ev_encode _ _ _ _ _ _ _ _ (decD a0).p8 (decD a0).p9 (decD a0).p10 (decD a0).p11 (decD a0).p12 _ _ _ _ hmac h8 hg
    rw [henc] at hev
    have hck := ev_check (decD a0).p0 (decD a0).p1 (decD a0).p2 (decD a0).p3 (decD a0).p4 (decD a0).p5 (decD a0).p6 (decD a0).p7 (decD a0).p8 (decD a0).p9 (decD a0).p10 (decD a0).p11 (decD a0).p12 (decD a0).l (decD a0).id (decD a0).nak (decD a0).mac hmac
    rw [chk_of hg] at hck
    refine Ev.congr (fun k => by rw [if_neg (fun h => h rfl), if_neg (fun h => h he)]) ?_
    refine Ev.bind hev ?_
    have b0 := rd0_by hb 0 (by omega) 0 rfl
    have b1 := rd0_by hb 1 (by omega) 1 rfl
    have hdc : ∃ t, wire_DecodeControl.f 0 a0 = some t ∧ t.2.2.2.2.2.2.2.2.2.2.2.2 = 32 ∧ ∀ k, wire_DecodeControl.f k a0 = some t := by
      have q : ∀ k, wire_DecodeControl.f k a0 = some (0, false, false, false, 0, 0, 0, 0, 0, [], 0, [], 32) := fun k => by
        unfold wire_DecodeControl.f
        have s0 : wire_sized.f (a0.length : Int) 12 = some 0 := by rw [sized_val, if_neg (by omega), if_neg (by omega)]
        rw [s0, bsome, if_neg (fun h => h rfl), if_pos (by omega), if_pos (by omega), if_pos (by omega), if_pos (by omega), if_pos (by omega), fits_val, bsome, bif_not]
        split
        · rw [mode_rd a0 hb (by omega), bsome, if_pos (by omega)]
        · rfl
      exact ⟨_, q 0, rfl, q⟩
    obtain ⟨t, _, ht, hq⟩ := hdc
    refine Ev.congr (fun k => by rw [hq k, bsome, if_pos rfl, bytes_refl, bsome, cond_true, ht, if_pos (by decide), if_pos (by omega)]) ?_
    refine Ev.bind hck ?_
    exact Ev.congr (fun k => by rw [decide_eq_true rfl]) (Ev.now _)
  · have hbad := dec_bad a0 he
    generalize (decD a0).e = e at he hbad
    rw [hbad]
    refine Ev.congr (fun k => by rw [if_neg (fun h => h rfl), if_pos he]) ?_
    exact Ev.bind (same1 e) (Ev.now _)
end Pure
end Go.Proofs.Ytamhnlcdmjefmaa.Q
