/- Plain lemmas on the printed functions: whole numbers and lists, no program in sight. -/
import Derived.Test.YtamhnlcdmjefmaaWd
import Derived.Laws.BitsLemmas
namespace Go.Proofs.Ytamhnlcdmjefmaa.Q
open Go Go.RowKit Go.Proofs.Ytamhnlcdmjefmaa.Ev
set_option linter.unusedVariables false
set_option linter.unusedSimpArgs false
set_option maxRecDepth 100000
/-! ### the reference's -/
theorem signed_val (x : Int) (h : 0 ≤ x ∧ x < 256) : foliotref03_signed.f x = some (sg x) := by
  unfold foliotref03_signed.f sg
  rw [w64_in (n := x) (by omega) (by omega), w64_in (n := x - 256) (by omega) (by omega)]
  split <;> rfl
theorem rdec_end (b0 : List Int) {y0 y1 y2 y3 y4 y5 y6 y7 y8 y9 y10 y11 y12 : Int} (hh : ∀ l id nak mac, hdD b0 l id nak mac = ⟨y0, y1, y2, y3, y4, y5, y6, y7, y8, y9, y10, y11, y12, l, id, nak, mac, 0⟩) (r : List Int) (l : List S45) (hr : By r) (c : ¬ (r.length : Int) > 24) :
    Ev (fun k => foliotref03_Decode.l0 k r 0 0 0 0 0 0 0 0 0 0 0 0 0 0 false 0 0 0 0 0 0 0 0 0 0 0 0 0 0 false y0 y1 y2 y3 y4 y5 y6 y7 y8 y9 y10 y11 y12 0 false [] [] l) (tup18 (finD b0 (r, 0, l))) := by
  unfold finD
  rw [if_neg (fun h => h rfl)]
  dsimp only
  refine Ev.step (fun k => by rw [foliotref03_Decode.l0, if_neg c]) ?_
  by_cases c4 : (r.length : Int) = 4
  · refine Ev.congr (fun k => by rw [if_pos c4]) ?_
    refine Ev.bind (ev_get r hr (by omega)) ?_
    by_cases cz : num r = 0
    · rw [if_pos (show (r.length : Int) = 4 ∧ num r = 0 from ⟨c4, cz⟩), hh]
      exact Ev.congr (fun k => by rw [if_neg (fun h => h cz)]) (Ev.now _)
    · rw [if_neg (show ¬ ((r.length : Int) = 4 ∧ num r = 0) from fun h => cz h.2)]
      have e0 : endD r = none := by
        unfold endD
        rw [if_neg (by omega), if_neg (by omega)]
      rw [e0]
      exact Ev.congr (fun k => by rw [if_pos cz]) (Ev.now _)
  · rw [if_neg (show ¬ ((r.length : Int) = 4 ∧ num r = 0) from fun h => c4 h.1)]
    refine Ev.congr (fun k => by rw [if_neg c4]) ?_
    obtain ⟨⟨t1, t2, t3⟩, ht, hd⟩ := ev_tail r hr
    rw [hd]
    refine Ev.bind ht ?_
    dsimp only
    cases t2 with
    | false => exact Ev.now _
    | true => show Ev _ (tup18 (hdD b0 l t1 false t3)); rw [hh]; exact Ev.now _
theorem rexts_ev (b0 : List Int) {y0 y1 y2 y3 y4 y5 y6 y7 y8 y9 y10 y11 y12 : Int} (hh : ∀ l id nak mac, hdD b0 l id nak mac = ⟨y0, y1, y2, y3, y4, y5, y6, y7, y8, y9, y10, y11, y12, l, id, nak, mac, 0⟩) : ∀ (m : Nat) (acc : List S45) (b : List Int), By b → b.length ≤ 1000 → acc.length + (m + 1) = 5 →
    Ev (fun k => foliotref03_Decode.l0 k b 0 0 0 0 0 0 0 0 0 0 0 0 0 0 false 0 0 0 0 0 0 0 0 0 0 0 0 0 0 false y0 y1 y2 y3 y4 y5 y6 y7 y8 y9 y10 y11 y12 0 false [] [] acc) (tup18 (finD b0 (extsD (m + 1) acc b)))
  | m, acc, b, hb, hl, ha => by
    have bad : ∀ e : Int, ¬ e = 0 → finD b0 ([], e, []) = badD e := fun e h => by unfold finD; rw [if_pos h]
    by_cases c : (b.length : Int) > 24
    case neg =>
      rw [extsD, if_neg c]
      exact rdec_end b0 hh b acc hb c
    rw [extsD, if_pos c]
    by_cases c4 : (acc.length : Int) = 4
    · rw [if_pos c4, bad 54 (by decide)]
      exact Ev.succ fun k => by rw [foliotref03_Decode.l0, if_pos c, if_pos c4]
    rw [if_neg c4]
    have n2 := num_sub2 hb 2 (by omega)
    refine Ev.step (fun k => by rw [foliotref03_Decode.l0, if_pos c, if_neg c4, if_pos (by omega)]) ?_
    refine Ev.bind (a := num (sub b 2 2)) (ev_get _ (hb.sub 2 2) (by rw [sub_len _ _ _ (by omega)]; decide)) ?_
    have w : wrap64 (num (sub b 2 2)) = num (sub b 2 2) := w64_in (by omega) (by omega)
    refine Ev.congr (fun k => by rw [w]) ?_
    by_cases c5 : num (sub b 2 2) < 28
    · rw [if_pos c5, bad 32 (by decide)]
      exact Ev.congr (fun k => by rw [if_pos c5]) (Ev.now _)
    rw [if_neg c5]
    refine Ev.congr (fun k => by rw [if_neg c5, tmodi _ n2.1]) ?_
    by_cases c6 : ¬ num (sub b 2 2) % 4 = 0
    · rw [if_pos c6, bad 32 (by decide)]
      exact Ev.congr (fun k => by rw [if_pos c6]) (Ev.now _)
    rw [if_neg c6]
    refine Ev.congr (fun k => by rw [if_neg c6]) ?_
    by_cases c7 : num (sub b 2 2) > (b.length : Int)
    · rw [if_pos c7, bad 32 (by decide)]
      exact Ev.congr (fun k => by rw [if_pos c7]) (Ev.now _)
    rw [if_neg c7]
    refine Ev.congr (fun k => by rw [if_neg c7, if_pos (by omega)]) ?_
    have n0 := num_sub2 hb 0 (by omega)
    refine Ev.bind (a := num (sub b 0 2)) (ev_get _ (hb.sub 0 2) (by rw [sub_len _ _ _ (by omega)]; decide)) ?_
    have w0 : wrap64 (num (sub b 0 2)) = num (sub b 0 2) := w64_in (by omega) (by omega)
    have hcl : (sub b 4 (num (sub b 2 2) - 4).toNat).length ≤ 1000 := by rw [sub_len _ _ _ (by omega)]; omega
    refine Ev.congr (fun k => by rw [w0, if_pos (by omega), if_pos (by omega), rclone_val _ (by exact Nat.le_trans hcl (by decide)), bsome, if_pos (by simp only [List.length_cons, List.length_nil]; omega), if_pos (by omega), if_pos (by omega), if_pos (by omega), drop_all _ _ _ (by omega)]) ?_
    match m, ha with
    | m + 1, ha =>
      exact rexts_ev b0 hh m _ _ (hb.drop _) (by rw [List.length_drop]; omega) (by simp only [List.length_append, List.length_cons, List.length_nil]; omega)
    | 0, ha => exact absurd (show (acc.length : Int) = 4 by omega) c4
theorem tdiv_e (x m : Int) (h : 0 ≤ x) : Int.tdiv x m = x / m := Int.tdiv_eq_ediv_of_nonneg h
theorem tmod_e (x m : Int) (h : 0 ≤ x) : Int.tmod x m = x % m := Int.tmod_eq_emod_of_nonneg h
theorem ev_rdecode (b : List Int) (hb : By b) : Ev (fun k => foliotref03_Decode.f k b) (tup18 (decD b)) := by
  unfold foliotref03_Decode.f decD
  by_cases c1 : (b.length : Int) > 512
  · rw [if_pos c1]
    exact Ev.congr (fun k => by rw [if_pos c1]) (Ev.now _)
  rw [if_neg c1]
  by_cases c2 : (b.length : Int) < 48
  · rw [if_pos c2]
    exact Ev.congr (fun k => by rw [if_neg c1, if_pos c2]) (Ev.now _)
  rw [if_neg c2]
  have b0 := rd0_by hb 0 (by omega) 0 rfl
  have b1 := rd0_by hb 1 (by omega) 1 rfl
  have b2 := rd0_by hb 2 (by omega) 2 rfl
  have b3 := rd0_by hb 3 (by omega) 3 rfl
  have q0 : wrap64 ((Int.tdiv (rd b 0) 64) % 256) = rd b 0 / 64 := by rw [tdiv_e _ _ b0.1, w64_in (by omega) (by omega)]; omega
  have q1 : wrap64 (Int.tmod ((Int.tdiv (rd b 0) 8) % 256) 8) = rd b 0 / 8 % 8 := by rw [tdiv_e _ _ b0.1, tmod_e _ _ (by omega), w64_in (by omega) (by omega)]; omega
  have q2 : wrap64 (Int.tmod (rd b 0) 8) = rd b 0 % 8 := by rw [tmod_e _ _ b0.1, w64_in (by omega) (by omega)]
  have q3 : wrap64 (rd b 1) = rd b 1 := w64_in (by omega) (by omega)
  refine Ev.congr (fun k => by rw [if_neg c1, if_neg c2, if_pos (by omega), if_pos (by omega), if_pos (by omega), if_pos (by omega), if_pos (by omega), signed_val _ b2, bsome, if_pos (by omega), signed_val _ b3, bsome, q0, q1, q2, q3, within_val, bsome, bif_not]) ?_
  by_cases v : 1 ≤ rd b 0 / 8 % 8 ∧ rd b 0 / 8 % 8 ≤ 4
  case neg =>
    rw [if_neg v]
    exact Ev.congr (fun k => by rw [if_neg v]) (Ev.now _)
  rw [if_pos v]
  refine Ev.congr (fun k => by rw [if_pos v, within_val, bsome, bif_not]) ?_
  by_cases m : 1 ≤ rd b 0 % 8 ∧ rd b 0 % 8 ≤ 5
  case neg =>
    rw [if_neg m]
    exact Ev.congr (fun k => by rw [if_neg m]) (Ev.now _)
  rw [if_pos m]
  have n4 := num_sub4 hb 4 (by omega)
  have n8 := num_sub4 hb 8 (by omega)
  have n12 := num_sub4 hb 12 (by omega)
  refine Ev.congr (fun k => by rw [if_pos m, if_pos (by omega)]) ?_
  refine Ev.bind (a := num (sub b 4 4)) (ev_get _ (hb.sub 4 4) (by rw [sub_len _ _ _ (by omega)]; decide)) ?_
  refine Ev.congr (fun k => by rw [Int.emod_eq_of_lt n4.1 n4.2, rfromShort_val _ n4.1 n4.2, bsome, if_pos (by omega)]) ?_
  refine Ev.bind (a := num (sub b 8 4)) (ev_get _ (hb.sub 8 4) (by rw [sub_len _ _ _ (by omega)]; decide)) ?_
  refine Ev.congr (fun k => by rw [Int.emod_eq_of_lt n8.1 n8.2, rfromShort_val _ n8.1 n8.2, bsome, if_pos (by omega)]) ?_
  refine Ev.bind (a := num (sub b 12 4)) (ev_get _ (hb.sub 12 4) (by rw [sub_len _ _ _ (by omega)]; decide)) ?_
  refine Ev.congr (fun k => by rw [Int.emod_eq_of_lt n12.1 n12.2, if_pos (by omega)]) ?_
  refine Ev.bind (a := num (sub b 16 8)) (ev_get _ (hb.sub 16 8) (by rw [sub_len _ _ _ (by omega)]; decide)) ?_
  refine Ev.congr (fun k => by rw [if_pos (by omega)]) ?_
  refine Ev.bind (a := num (sub b 24 8)) (ev_get _ (hb.sub 24 8) (by rw [sub_len _ _ _ (by omega)]; decide)) ?_
  refine Ev.congr (fun k => by rw [if_pos (by omega)]) ?_
  refine Ev.bind (a := num (sub b 32 8)) (ev_get _ (hb.sub 32 8) (by rw [sub_len _ _ _ (by omega)]; decide)) ?_
  refine Ev.congr (fun k => by rw [if_pos (by omega)]) ?_
  refine Ev.bind (a := num (sub b 40 8)) (ev_get _ (hb.sub 40 8) (by rw [sub_len _ _ _ (by omega)]; decide)) ?_
  refine Ev.congr (fun k => by rw [if_pos (by omega), if_pos (by omega), drop_all _ _ _ (by omega)]) ?_
  exact rexts_ev b (fun l id nak mac => rfl) 4 [] _ (hb.drop _) (by rw [List.length_drop]; omega) rfl
/-! ### sameness -/
theorem bytes_val (a b : List Int) : foliotlaw03_bytes.f a b = some (decide (strOfNums a = strOfNums b)) := rfl
theorem bytes_refl (a : List Int) : foliotlaw03_bytes.f a a = some true := by rw [bytes_val, decide_eq_true rfl]
theorem same_loop (p0 p1 p2 p3 p4 p5 p6 p7 p8 p9 p10 p11 p12 : Int) (l : List S45) (id : Int) (nak : Bool) (mac : List Int) (hl : l.length ≤ 1000) : ∀ (m i : Nat), i + m = l.length → Ev (fun k => foliotlaw03_same.l0 k (i : Int) p0 p1 p2 p3 p4 p5 p6 p7 p8 p9 p10 p11 p12 l id nak mac p0 p1 p2 p3 p4 p5 p6 p7 p8 p9 p10 p11 p12 l id nak mac) true
  | 0, i, h => Ev.succ fun k => by rw [foliotlaw03_same.l0, if_neg (by omega)]
  | m + 1, i, h => by
    refine Ev.step (fun k => by rw [foliotlaw03_same.l0, if_pos (by omega), if_pos (by omega), if_pos (by omega), if_pos (by omega), if_pos (by omega), if_neg (fun h => h rfl), if_pos (by omega), if_pos (by omega), if_pos (by omega), if_pos (by omega), bytes_refl, bsome, wrap_succ i (by omega)]) ?_
    exact same_loop p0 p1 p2 p3 p4 p5 p6 p7 p8 p9 p10 p11 p12 l id nak mac hl m (i + 1) (by omega)
theorem ev_same (p0 p1 p2 p3 p4 p5 p6 p7 p8 p9 p10 p11 p12 : Int) (l : List S45) (id : Int) (nak : Bool) (mac : List Int) (hl : l.length ≤ 1000) : Ev (fun k => foliotlaw03_same.f k p0 p1 p2 p3 p4 p5 p6 p7 p8 p9 p10 p11 p12 l id nak mac p0 p1 p2 p3 p4 p5 p6 p7 p8 p9 p10 p11 p12 l id nak mac) true := by
  unfold foliotlaw03_same.f
  refine Ev.congr (fun k => ?_) (same_loop p0 p1 p2 p3 p4 p5 p6 p7 p8 p9 p10 p11 p12 l id nak mac hl l.length 0 (by omega))
  simp only [not_true_eq_false, if_false, bytes_refl, bsome, bne_self_eq_false, cond_false, Bool.not_true]
  rfl
theorem extsD_few : ∀ (n : Nat) (acc : List S45) (b : List Int), acc.length + n ≤ 5 → (extsD n acc b).2.2.length ≤ 5
  | 0, acc, b, h => h
  | n + 1, acc, b, h => by
    rw [extsD]
    split
    · split
      · exact Nat.zero_le _
      · split
        · exact Nat.zero_le _
        · split
          · exact Nat.zero_le _
          · split
            · exact Nat.zero_le _
            · exact extsD_few n _ _ (by simp only [List.length_append, List.length_cons, List.length_nil]; omega)
    · show acc.length ≤ 5; omega
theorem finD_few (b : List Int) (x : List Int × Int × List S45) (h : x.2.2.length ≤ 5) : (finD b x).l.length ≤ 5 := by
  unfold finD
  split
  · exact Nat.zero_le _
  · split
    · exact h
    · split
      · exact Nat.zero_le _
      · exact h
theorem decD_few (b : List Int) : (decD b).l.length ≤ 5 := by
  unfold decD
  (repeat' split) <;> first | exact Nat.zero_le _ | exact finD_few _ _ (extsD_few 5 [] _ (by decide))
theorem ev_same' (d : Dc) (h : d.l.length ≤ 5) : Ev (fun k => foliotlaw03_same.f k d.p0 d.p1 d.p2 d.p3 d.p4 d.p5 d.p6 d.p7 d.p8 d.p9 d.p10 d.p11 d.p12 d.l d.id d.nak d.mac d.p0 d.p1 d.p2 d.p3 d.p4 d.p5 d.p6 d.p7 d.p8 d.p9 d.p10 d.p11 d.p12 d.l d.id d.nak d.mac) true := ev_same _ _ _ _ _ _ _ _ _ _ _ _ _ _ _ _ _ (by omega)
end Go.Proofs.Ytamhnlcdmjefmaa.Q
