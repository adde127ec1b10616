/- What is to be proved of WireDecodes. -/
import Derived.Test.YtamhnlcdmjefmaaDQ
import Derived.Test.YtamhnlcdmjefmaaWf
namespace Go.Proofs.Ytamhnlcdmjefmaa.Q
open Go Go.RowKit Go.Proofs.Ytamhnlcdmjefmaa.Ev
set_option linter.unusedVariables false
set_option linter.unusedSimpArgs false
set_option maxRecDepth 100000

theorem rmode_val (b : List Int) (hb : By b) : foliotref03_Mode.f b = wire_Mode.f b := by
  match b, hb with
  | [], _ => rfl
  | c :: l, hb =>
    have hc := hb c (by simp)
    rw [mode_val c l hc]
    unfold foliotref03_Mode.f
    rw [if_neg (by simp only [List.length_cons]; omega), if_pos (by simp only [List.length_cons]; omega)]
    have e : rd (c :: l) 0 = c := rfl
    rw [e, tmod_e _ _ hc.1, w64_in (by omega) (by omega)]
theorem spoil_loop (d : Dc) (hd : d.l.length ≤ 5) : ∀ (m i : Nat) (x : List Int), i + m = x.length → x.length ≤ 2000000 → Ev (fun k => foliotlaw03_WireDecodes.l0 k (i : Int) x d.p0 d.p1 d.p2 d.p3 d.p4 d.p5 d.p6 d.p7 d.p8 d.p9 d.p10 d.p11 d.p12 d.l d.id d.nak d.mac d.p0 d.p1 d.p2 d.p3 d.p4 d.p5 d.p6 d.p7 d.p8 d.p9 d.p10 d.p11 d.p12 d.l d.id d.nak d.mac) true
  | 0, i, x, h, hx => by
    refine Ev.step (fun k => by rw [foliotlaw03_WireDecodes.l0, if_neg (by omega)]) ?_
    exact Ev.bind (ev_same' d hd) (Ev.now _)
  | m + 1, i, x, h, hx => by
    refine Ev.step (fun k => by rw [foliotlaw03_WireDecodes.l0, if_pos (by omega), if_pos (by omega), if_pos (by omega), wrap_succ i (by omega)]) ?_
    exact spoil_loop d hd m (i + 1) _ (by rw [List.length_set]; omega) (by rw [List.length_set]; omega)
namespace Pure
theorem WireDecodes (a0 : List Int) (h0 : (a0.length ≤ 9223372036854775807 ∧ a0.length * 1 ≤ 140737488351232 ∧ ∀ x ∈ a0, (Lit.int .u8 x).wf = true)) : ∃ k, foliotlaw03_WireDecodes.f k a0 = some true := by
  have hb := By.of_wf h0.2.2
  refine Ev.rounds (r := true) ?_
  unfold foliotlaw03_WireDecodes.f
  by_cases c : (a0.length : Int) > 1048576
  · exact Ev.congr (fun k => by rw [if_pos c]) (Ev.now _)
  have hl : foliotlaw03_lent.f a0 = some (a0 ++ [115, 116]) := by
    unfold foliotlaw03_lent.f
    rw [if_pos (by simp only [List.length_nil]; omega), if_pos (by simp only [List.length_cons, List.length_nil]; omega)]
  have hln : (a0 ++ [115, 116]).length = a0.length + 2 := List.length_append
  have hsub : a0 = sub (a0 ++ [115, 116]) 0 a0.length := by
    unfold sub; rw [List.drop_zero, List.take_left]
  refine Ev.congr (fun k => by rw [if_neg c, hl, bsome, if_pos (by omega), if_pos (by omega), show ((a0.length : Int) - 0).toNat = a0.length by omega]) ?_
  refine Ev.bind (ev_decode_s1 (a0 ++ [115, 116]) a0 0 a0.length hsub (by omega) hb) (Ev.bind (ev_rdecode a0 hb) ?_)
  have hf := decD_few a0
  generalize decD a0 = d at hf ⊢
  dsimp only
  refine Ev.congr (fun k => by rw [if_neg (fun h => h rfl)]) ?_
  refine Ev.bind (ev_same' d hf) ?_
  refine Ev.congr (fun k => by rw [Bool.not_true, cond_false]) ?_
  have g1 : rd (a0 ++ [115, 116]) (a0.length : Int) = 115 := by rw [rd_nat _ a0.length (by omega)]; simp
  have g2 : rd (a0 ++ [115, 116]) ((a0.length : Int) + 1) = 116 := by
    rw [show (a0.length : Int) + 1 = ((a0.length + 1 : Nat) : Int) by omega, rd_nat _ (a0.length + 1) (by omega)]; simp [List.getElem_append_right]
  have hw : wrap64 ((a0.length : Int) + 1) = (a0.length : Int) + 1 := w64_in (by omega) (by omega)
  have hmode : ∃ v, wire_Mode.f a0 = some v ∧ foliotref03_Mode.f a0 = some v := by
    rw [rmode_val a0 hb]
    match a0, hb with
    | [], _ => exact ⟨_, rfl, rfl⟩
    | x :: l, hb => exact ⟨_, mode_val x l (hb x (by simp)), mode_val x l (hb x (by simp))⟩
  obtain ⟨v, hv1, hv2⟩ := hmode
  have ht : ((a0 ++ [115, 116]).drop 0).take a0.length = a0 := by rw [List.drop_zero, List.take_left]
  refine Ev.congr (fun k => by rw [hv1, bsome, hv2, bsome, if_neg (fun h => h rfl), if_pos (by omega), if_pos (by omega), g1, if_neg (fun h => h rfl), hw, if_pos (by omega), if_pos (by omega), g2, if_neg (fun h => h rfl), if_pos (by omega), if_pos (by omega), ht, bytes_refl, bsome, Bool.not_true, cond_false]) ?_
  exact spoil_loop d hf (a0 ++ [115, 116]).length 0 (a0 ++ [115, 116]) (Nat.zero_add _) (by omega)
end Pure
end Go.Proofs.Ytamhnlcdmjefmaa.Q
