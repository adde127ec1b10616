/- What is to be proved of WireBack. -/
import Derived.Test.YtamhnlcdmjefmaaDQ
import Derived.Test.YtamhnlcdmjefmaaWf
namespace Go.Proofs.Ytamhnlcdmjefmaa.Q
open Go Go.RowKit Go.Proofs.Ytamhnlcdmjefmaa.Ev
set_option linter.unusedVariables false
set_option linter.unusedSimpArgs false
set_option maxRecDepth 100000
def okS45 (x : S45) : Prop := (Lit.int .i64 x.f0).wf = true ∧ (x.f1.length ≤ 9223372036854775807 ∧ x.f1.length * 1 ≤ 140737488351232 ∧ ∀ y ∈ x.f1, (Lit.int .u8 y).wf = true)
theorem lim {l : List S45} (h : l.length * 32 ≤ 140737488351232) : (l.length : Int) ≤ 140737488351232 := by omega
theorem limb {l : List Int} (h : l.length * 1 ≤ 140737488351232) : (l.length : Int) ≤ 140737488351232 := by omega
/-- Bytes of another length than a multiple of 4 are no packet. -/
theorem dec_odd (b : List Int) (hb : By b) (h : ¬ b.length % 4 = 0) : ¬ (decD b).e = 0 := fun he => by
  obtain ⟨hg, henc, _⟩ := dec_good b hb he
  have := (encB_len _ _ _ _ _ _ _ _ (decD b).p8 (decD b).p9 (decD b).p10 (decD b).p11 (decD b).p12 _ _ _ _ hg).1
  rw [henc] at this
  exact h this
namespace Pure
theorem WireBack (a0_0 : Int) (a0_1 : Int) (a0_2 : Int) (a0_3 : Int) (a0_4 : Int) (a0_5 : Int) (a0_6 : Int) (a0_7 : Int) (a0_8 : Int) (a0_9 : Int) (a0_10 : Int) (a0_11 : Int) (a0_12 : Int) (a0_13 : List S45) (a0_14 : Int) (a0_15 : Bool) (a0_16 : List Int) (a1 : Int) (h0 : (Lit.int .i64 a0_0).wf = true) (h1 : (Lit.int .i64 a0_1).wf = true) (h2 : (Lit.int .i64 a0_2).wf = true) (h3 : (Lit.int .i64 a0_3).wf = true) (h4 : (Lit.int .i64 a0_4).wf = true) (h5 : (Lit.int .i64 a0_5).wf = true) (h6 : (Lit.int .i64 a0_6).wf = true) (h7 : (Lit.int .i64 a0_7).wf = true) (h8 : (Lit.int .u32 a0_8).wf = true) (h9 : (Lit.int .u64 a0_9).wf = true) (h10 : (Lit.int .u64 a0_10).wf = true) (h11 : (Lit.int .u64 a0_11).wf = true) (h12 : (Lit.int .u64 a0_12).wf = true) (h13 : (a0_13.length ≤ 9223372036854775807 ∧ a0_13.length * 32 ≤ 140737488351232 ∧ ∀ x ∈ a0_13, okS45 x)) (h14 : (Lit.int .i64 a0_14).wf = true) (h15 : (a0_16.length ≤ 9223372036854775807 ∧ a0_16.length * 1 ≤ 140737488351232 ∧ ∀ x ∈ a0_16, (Lit.int .u8 x).wf = true)) (h16 : (Lit.int .u8 a1).wf = true) : ∃ k, foliotlaw03_WireBack.f k a0_0 a0_1 a0_2 a0_3 a0_4 a0_5 a0_6 a0_7 a0_8 a0_9 a0_10 a0_11 a0_12 a0_13 a0_14 a0_15 a0_16 a1 = some true := by
  have hlen := lim h13.2.1
  have hm := limb h15.2.1
  have h8 := wfu32 h8
  have h9 := wfu64 h9
  have h10 := wfu64 h10
  have h11 := wfu64 h11
  have h12 := wfu64 h12
  have hx := wfu8 h16
  refine Ev.rounds (r := true) ?_
  unfold foliotlaw03_WireBack.f
  obtain ⟨hv, hh⟩ := ev_heavy a0_0 a0_1 a0_2 a0_3 a0_4 a0_5 a0_6 a0_7 a0_8 a0_9 a0_10 a0_11 a0_12 a0_13 a0_14 a0_15 a0_16 hlen hm
  refine Ev.bind hh ?_
  cases hv with
  | true => exact Ev.now _
  | false =>
    refine Ev.congr (fun k => by rw [cond_false]) ?_
    by_cases h : chkV a0_0 a0_1 a0_2 a0_3 a0_4 a0_5 a0_6 a0_7 a0_13 a0_14 a0_15 a0_16 = 0
    · have hg := chk_ok h
      refine Ev.bind (ev_encode a0_0 a0_1 a0_2 a0_3 a0_4 a0_5 a0_6 a0_7 a0_8 a0_9 a0_10 a0_11 a0_12 a0_13 a0_14 a0_15 a0_16 hm (by omega) hg) (Ev.bind (ref_check a0_0 a0_1 a0_2 a0_3 a0_4 a0_5 a0_6 a0_7 a0_8 a0_9 a0_10 a0_11 a0_12 a0_13 a0_14 a0_15 a0_16) ?_)
      rw [h]
      refine Ev.congr (fun k => by rw [if_neg (fun h => h rfl), if_neg (fun h => h rfl)]) ?_
      have hby := encB_by a0_0 a0_1 a0_2 a0_3 a0_4 a0_5 a0_6 a0_7 a0_8 a0_9 a0_10 a0_11 a0_12 a0_13 a0_14 a0_15 a0_16 hg (fun x hx => By.of_wf (h13.2.2 x hx).2.2.2) (By.of_wf h15.2.2)
      have hde := dec_enc a0_0 a0_1 a0_2 a0_3 a0_4 a0_5 a0_6 a0_7 a0_8 a0_9 a0_10 a0_11 a0_12 a0_13 a0_14 a0_15 a0_16 (by omega) (by omega) (by omega) (by omega) (by omega) hg
      have hel := encB_len a0_0 a0_1 a0_2 a0_3 a0_4 a0_5 a0_6 a0_7 a0_8 a0_9 a0_10 a0_11 a0_12 a0_13 a0_14 a0_15 a0_16 hg
      have hback := dec_good _ hby (by rw [hde])
      rw [hde] at hback
      obtain ⟨hg2, he2, _, _, _⟩ := hback
      dsimp only at hg2 he2
      have henc2 := ev_encode _ _ _ _ _ _ _ _ a0_8 a0_9 a0_10 a0_11 a0_12 _ _ _ _ hm (show 0 ≤ a0_8 ∧ a0_8 < 4294967296 by omega) hg2
      rw [he2] at henc2
      generalize encB a0_0 a0_1 a0_2 a0_3 a0_4 a0_5 a0_6 a0_7 a0_8 a0_9 a0_10 a0_11 a0_12 a0_13 a0_14 a0_15 a0_16 = b at hby hde hel henc2 ⊢
      have hdec := ev_decode_s2 b hby
      rw [hde] at hdec
      refine Ev.bind hdec (Ev.bind henc2 ?_)
      dsimp only [tup19]
      have hw : wrap64 ((b.length : Int) - 1) = (b.length : Int) - 1 := w64_in (by omega) (by omega)
      refine Ev.congr (fun k => by rw [if_neg (fun h => h rfl), if_neg (fun h => h rfl), bytes_refl, bsome, Bool.not_true, cond_false, if_neg (fun h => h rfl), if_neg (fun h => h rfl), if_neg (fun h => h rfl), if_neg (fun h => h rfl), hw, if_pos (by omega), if_pos (by omega), show ((b.length : Int) - 1 - 0).toNat = b.length - 1 by omega]) ?_
      have hs1 : (sub b 0 (b.length - 1)).length = b.length - 1 := sub_len _ _ _ (by omega)
      refine Ev.bind (ev_decode_s1 b (sub b 0 (b.length - 1)) 0 (b.length - 1) rfl (by omega) (hby.sub _ _)) ?_
      have e1 := dec_odd (sub b 0 (b.length - 1)) (hby.sub _ _) (by omega)
      have hb2 : By (b ++ [a1]) := hby.append (By.cons (by omega) By.nil)
      have e2 := dec_odd (b ++ [a1]) hb2 (by rw [List.length_append]; simp only [List.length_cons, List.length_nil]; omega)
      refine Ev.congr (fun k => by rw [if_pos (by simp only [List.length_cons, List.length_nil]; omega)]) ?_
      refine Ev.bind (ev_decode_s2 (b ++ [a1]) hb2) ?_
      exact Ev.congr (fun k => by rw [if_pos e1, decide_eq_true e2]) (Ev.now _)
    · refine Ev.bind (ev_encode_bad a0_0 a0_1 a0_2 a0_3 a0_4 a0_5 a0_6 a0_7 a0_8 a0_9 a0_10 a0_11 a0_12 a0_13 a0_14 a0_15 a0_16 hm h) (Ev.bind (ref_check a0_0 a0_1 a0_2 a0_3 a0_4 a0_5 a0_6 a0_7 a0_8 a0_9 a0_10 a0_11 a0_12 a0_13 a0_14 a0_15 a0_16) ?_)
      exact Ev.congr (fun k => by rw [if_neg (fun h => h rfl), if_pos h]; rfl) (Ev.now _)
end Pure
end Go.Proofs.Ytamhnlcdmjefmaa.Q
