/- What is to be proved of WireParts. -/
import Derived.Test.YtamhnlcdmjefmaaDQ
import Derived.Test.YtamhnlcdmjefmaaWb
namespace Go.Proofs.Ytamhnlcdmjefmaa.Q
open Go Go.RowKit Go.Proofs.Ytamhnlcdmjefmaa.Ev
set_option linter.unusedVariables false
set_option linter.unusedSimpArgs false
set_option maxRecDepth 100000
def okS45 (x : S45) : Prop := (Lit.int .i64 x.f0).wf = true ∧ (x.f1.length ≤ 9223372036854775807 ∧ x.f1.length * 1 ≤ 140737488351232 ∧ ∀ y ∈ x.f1, (Lit.int .u8 y).wf = true)
/-- How long the law says that the message is. -/
theorem parts_loop (b m : List Int) (p0 p1 p2 p3 p4 p5 p6 p7 p8 p9 p10 p11 p12 : Int) (l : List S45) (id : Int) (nak : Bool) (mac : List Int) (hl : l.length ≤ 4) (hx : ∀ x ∈ l, (x.f1.length : Int) ≤ 508 ∧ extOk x = true) (r) :
    ∀ (q i : Nat) (s : Int), i + q = l.length → 0 ≤ s → s ≤ 48 + 512 * (i : Int) → Ev (fun k => foliotlaw03_WireParts.l0 k (s + extsN (l.drop i)) (l.length : Int) p0 p1 p2 p3 p4 p5 p6 p7 p8 p9 p10 p11 p12 l id nak mac b m) r → Ev (fun k => foliotlaw03_WireParts.l0 k s (i : Int) p0 p1 p2 p3 p4 p5 p6 p7 p8 p9 p10 p11 p12 l id nak mac b m) r
  | 0, i, s, hi, h0, hs, h => by
    rw [List.drop_of_length_le (by omega), extsN, Int.add_zero] at h
    rw [show (i : Int) = (l.length : Int) by omega]
    exact h
  | q + 1, i, s, hi, h0, hs, h => by
    have hlt : i < l.length := by omega
    have e : l.drop i = l[i] :: l.drop (i + 1) := List.drop_eq_getElem_cons hlt
    have hxi := (hx l[i] (List.getElem_mem hlt)).1
    have ha := ext_at l i hlt
    have hwl : wrap64 (s + wrap64 (4 + ((l[i]).f1.length : Int))) = s + (4 + ((l[i]).f1.length : Int)) := by
      rw [w64_in (n := 4 + ((l[i]).f1.length : Int)) (by omega) (by omega), w64_in (by omega) (by omega)]
    refine Ev.step (fun k => by rw [foliotlaw03_WireParts.l0, if_pos (by omega), if_pos (by omega), if_pos (by omega), ha, hwl, wrap_succ i (by omega)]) ?_
    refine parts_loop b m p0 p1 p2 p3 p4 p5 p6 p7 p8 p9 p10 p11 p12 l id nak mac hl hx r q (i + 1) _ (by omega) (by omega) (by omega) ?_
    rw [e, extsN, ← Int.add_assoc] at h
    exact h
theorem lim {l : List S45} (h : l.length * 32 ≤ 140737488351232) : (l.length : Int) ≤ 140737488351232 := by omega
theorem limb {l : List Int} (h : l.length * 1 ≤ 140737488351232) : (l.length : Int) ≤ 140737488351232 := by omega
namespace Pure
theorem WireParts (a0_0 : Int) (a0_1 : Int) (a0_2 : Int) (a0_3 : Int) (a0_4 : Int) (a0_5 : Int) (a0_6 : Int) (a0_7 : Int) (a0_8 : Int) (a0_9 : Int) (a0_10 : Int) (a0_11 : Int) (a0_12 : Int) (a0_13 : List S45) (a0_14 : Int) (a0_15 : Bool) (a0_16 : List Int) (h0 : (Lit.int .i64 a0_0).wf = true) (h1 : (Lit.int .i64 a0_1).wf = true) (h2 : (Lit.int .i64 a0_2).wf = true) (h3 : (Lit.int .i64 a0_3).wf = true) (h4 : (Lit.int .i64 a0_4).wf = true) (h5 : (Lit.int .i64 a0_5).wf = true) (h6 : (Lit.int .i64 a0_6).wf = true) (h7 : (Lit.int .i64 a0_7).wf = true) (h8 : (Lit.int .u32 a0_8).wf = true) (h9 : (Lit.int .u64 a0_9).wf = true) (h10 : (Lit.int .u64 a0_10).wf = true) (h11 : (Lit.int .u64 a0_11).wf = true) (h12 : (Lit.int .u64 a0_12).wf = true) (h13 : (a0_13.length ≤ 9223372036854775807 ∧ a0_13.length * 32 ≤ 140737488351232 ∧ ∀ x ∈ a0_13, okS45 x)) (h14 : (Lit.int .i64 a0_14).wf = true) (h15 : (a0_16.length ≤ 9223372036854775807 ∧ a0_16.length * 1 ≤ 140737488351232 ∧ ∀ x ∈ a0_16, (Lit.int .u8 x).wf = true)) : ∃ k, foliotlaw03_WireParts.f k a0_0 a0_1 a0_2 a0_3 a0_4 a0_5 a0_6 a0_7 a0_8 a0_9 a0_10 a0_11 a0_12 a0_13 a0_14 a0_15 a0_16 = some true := by
  have hlen := lim h13.2.1
  have hm := limb h15.2.1
  have h8 := wfu32 h8
  refine Ev.rounds (r := true) ?_
  unfold foliotlaw03_WireParts.f
  obtain ⟨hv, hh⟩ := ev_heavy a0_0 a0_1 a0_2 a0_3 a0_4 a0_5 a0_6 a0_7 a0_8 a0_9 a0_10 a0_11 a0_12 a0_13 a0_14 a0_15 a0_16 hlen hm
  refine Ev.bind hh ?_
  cases hv with
  | true => exact Ev.now _
  | false =>
    simp only [cond_false]
    by_cases h : chkV a0_0 a0_1 a0_2 a0_3 a0_4 a0_5 a0_6 a0_7 a0_13 a0_14 a0_15 a0_16 = 0
    · have hg := chk_ok h
      refine Ev.bind (ev_encode a0_0 a0_1 a0_2 a0_3 a0_4 a0_5 a0_6 a0_7 a0_8 a0_9 a0_10 a0_11 a0_12 a0_13 a0_14 a0_15 a0_16 hm (by omega) hg) (Ev.bind (ev_message a0_0 a0_1 a0_2 a0_3 a0_4 a0_5 a0_6 a0_7 a0_8 a0_9 a0_10 a0_11 a0_12 a0_13 a0_14 a0_15 a0_16 hm (by omega) hg) ?_)
      simp only [not_true_eq_false, if_false]
      refine Ev.bind (ref_check a0_0 a0_1 a0_2 a0_3 a0_4 a0_5 a0_6 a0_7 a0_8 a0_9 a0_10 a0_11 a0_12 a0_13 a0_14 a0_15 a0_16) ?_
      rw [h]
      simp only [not_true_eq_false, if_false]
      obtain ⟨r0, r1, r2, r3, r4, r5, r6, r7⟩ := small_rng hg.small
      refine parts_loop _ _ a0_0 a0_1 a0_2 a0_3 a0_4 a0_5 a0_6 a0_7 a0_8 a0_9 a0_10 a0_11 a0_12 a0_13 a0_14 a0_15 a0_16 hg.few hg.exts _ a0_13.length 0 48 (by omega) (by omega) (by omega) ?_
      rw [List.drop_zero]
      have hl := msgB_len a0_0 a0_1 a0_2 a0_3 a0_4 a0_5 a0_6 a0_7 a0_8 a0_9 a0_10 a0_11 a0_12 a0_13
      have hs := hg.size
      have hn0 := extsN_0 a0_13
      have htr := trail_rng hg.trail
      have hmc := trail_mac hg.trail
      obtain ⟨ft, hft⟩ := fixB_cons a0_0 a0_1 a0_2 a0_3 a0_4 a0_5 a0_6 a0_7 a0_8 a0_9 a0_10 a0_11 a0_12
      have hmode : wire_Mode.f (encB a0_0 a0_1 a0_2 a0_3 a0_4 a0_5 a0_6 a0_7 a0_8 a0_9 a0_10 a0_11 a0_12 a0_13 a0_14 a0_15 a0_16) = some a0_2 := by
        unfold encB msgB
        rw [hft, List.cons_append, List.cons_append, mode_val _ _ (by omega)]
        congr 1; omega
      unfold encB at hmode ⊢
      generalize msgB a0_0 a0_1 a0_2 a0_3 a0_4 a0_5 a0_6 a0_7 a0_8 a0_9 a0_10 a0_11 a0_12 a0_13 = b at hl hmode ⊢
      have hu : 48 + extsN a0_13 ≤ 512 := by
        have : 0 ≤ (if a0_15 = true then (4 : Int) else trailLen a0_14 a0_16) := by split <;> omega
        omega
      have hbl : b.length = (48 + extsN a0_13).toNat := by omega
      have e4 : wrap64 (48 + extsN a0_13 + 4) = 48 + extsN a0_13 + 4 := w64_in (by omega) (by omega)
      have htk : ((b ++ tailB a0_14 a0_15 a0_16).drop 0).take (48 + extsN a0_13 - 0).toNat = b := by
        rw [List.drop_zero, Int.sub_zero, ← hbl, List.take_left]
      refine Ev.succ fun k => ?_
      rw [foliotlaw03_WireParts.l0, if_neg (by omega), if_neg (by omega), if_pos (by omega), if_pos (by rw [List.length_append]; omega), htk, if_neg (fun h => h rfl), hmode, bsome, if_neg (fun h => h rfl), e4]
      have whole : ¬ (a0_14 = 0 ∧ a0_15 = false) → (if ((b ++ tailB a0_14 a0_15 a0_16).length : Int) = (wrap64 (48 + extsN a0_13 + 4 + (a0_16.length : Int))) then (if 0 ≤ 48 + extsN a0_13 + 4 then (if 48 + extsN a0_13 + 4 ≤ ((b ++ tailB a0_14 a0_15 a0_16).length : Int) then (if ((b ++ tailB a0_14 a0_15 a0_16).length : Int) ≤ ((b ++ tailB a0_14 a0_15 a0_16).length : Int) then (some (decide ((strOfNums (((b ++ tailB a0_14 a0_15 a0_16).drop (48 + extsN a0_13 + 4).toNat).take (((b ++ tailB a0_14 a0_15 a0_16).length : Int) - (48 + extsN a0_13 + 4)).toNat)) = (strOfNums a0_16)))) else none) else none) else none) else (some false)) = some true := by
        intro hne
        have ee : tailB a0_14 a0_15 a0_16 = B4 a0_14 ++ a0_16 := if_neg hne
        rw [ee]
        have hll : ((b ++ (B4 a0_14 ++ a0_16)).length : Int) = 48 + extsN a0_13 + 4 + (a0_16.length : Int) := by
          rw [List.length_append, List.length_append, len4]; omega
        have hml : (a0_16.length : Int) ≤ 20 := by
          rcases hmc with ⟨_, rfl⟩ | ⟨_, _, h⟩
          · simp
          · omega
        have hdr : (b ++ (B4 a0_14 ++ a0_16)).drop (48 + extsN a0_13 + 4).toNat = a0_16 := by
          rw [← List.append_assoc, show (48 + extsN a0_13 + 4).toNat = (b ++ B4 a0_14).length by rw [List.length_append, len4]; omega, List.drop_left]
        rw [hll, w64_in (by omega) (by omega), if_pos rfl, if_pos (by omega), if_pos (by omega), if_pos (by omega), hdr, List.take_of_length_le (by omega), decide_eq_true rfl]
      by_cases c : a0_14 = 0
      · rw [if_pos c]
        cases hk : a0_15 with
        | true =>
          rw [Bool.not_true, cond_false]
          rw [hk] at whole
          exact whole (by simp)
        | false =>
          rw [Bool.not_false, cond_true]
          have ee : tailB a0_14 false a0_16 = [] := if_pos ⟨c, rfl⟩
          rw [ee, List.append_nil, decide_eq_true (by omega)]
      · rw [if_neg c]
        exact whole (fun hc => c hc.1)
    · refine Ev.bind (ev_encode_bad a0_0 a0_1 a0_2 a0_3 a0_4 a0_5 a0_6 a0_7 a0_8 a0_9 a0_10 a0_11 a0_12 a0_13 a0_14 a0_15 a0_16 hm h) (Ev.bind (ev_message_bad a0_0 a0_1 a0_2 a0_3 a0_4 a0_5 a0_6 a0_7 a0_8 a0_9 a0_10 a0_11 a0_12 a0_13 a0_14 a0_15 a0_16 hm h) ?_)
      simp only [not_true_eq_false, if_false]
      refine Ev.bind (ref_check a0_0 a0_1 a0_2 a0_3 a0_4 a0_5 a0_6 a0_7 a0_8 a0_9 a0_10 a0_11 a0_12 a0_13 a0_14 a0_15 a0_16) ?_
      simp only [not_true_eq_false, if_false, h, if_true, not_false_eq_true]
      exact Ev.now _
end Pure
end Go.Proofs.Ytamhnlcdmjefmaa.Q
