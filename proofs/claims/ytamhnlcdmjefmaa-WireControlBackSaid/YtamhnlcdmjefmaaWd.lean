/- Plain lemmas on the printed functions: whole numbers and lists, no program in sight. -/
import Derived.Test.YtamhnlcdmjefmaaWc
import Derived.Laws.BitsLemmas
namespace Go.Proofs.Ytamhnlcdmjefmaa.Q
open Go Go.RowKit Go.Proofs.Ytamhnlcdmjefmaa.Ev
set_option linter.unusedVariables false
set_option linter.unusedSimpArgs false
set_option maxRecDepth 100000
/-! ### a packet out of its bytes -/
structure Dc where
  p0 : Int
  p1 : Int
  p2 : Int
  p3 : Int
  p4 : Int
  p5 : Int
  p6 : Int
  p7 : Int
  p8 : Int
  p9 : Int
  p10 : Int
  p11 : Int
  p12 : Int
  l : List S45
  id : Int
  nak : Bool
  mac : List Int
  e : Int
abbrev tup18 (d : Dc) : Int × Int × Int × Int × Int × Int × Int × Int × Int × Int × Int × Int × Int × (List S45) × Int × Bool × (List Int) × Int := (d.p0, d.p1, d.p2, d.p3, d.p4, d.p5, d.p6, d.p7, d.p8, d.p9, d.p10, d.p11, d.p12, d.l, d.id, d.nak, d.mac, d.e)
abbrev tup19 (d : Dc) (x : List Int) : Int × Int × Int × Int × Int × Int × Int × Int × Int × Int × Int × Int × Int × (List S45) × Int × Bool × (List Int) × Int × (List Int) := (d.p0, d.p1, d.p2, d.p3, d.p4, d.p5, d.p6, d.p7, d.p8, d.p9, d.p10, d.p11, d.p12, d.l, d.id, d.nak, d.mac, d.e, x)
abbrev badD (e : Int) : Dc := ⟨0, 0, 0, 0, 0, 0, 0, 0, 0, 0, 0, 0, 0, [], 0, false, [], e⟩
def sg (x : Int) : Int := if x > 127 then x - 256 else x
abbrev hdD (b : List Int) (l : List S45) (id : Int) (nak : Bool) (mac : List Int) : Dc := ⟨rd b 0 / 64, rd b 0 / 8 % 8, rd b 0 % 8, rd b 1, sg (rd b 2), sg (rd b 3), num (sub b 4 4) * 65536, num (sub b 8 4) * 65536, num (sub b 12 4), num (sub b 16 8), num (sub b 24 8), num (sub b 32 8), num (sub b 40 8), l, id, nak, mac, 0⟩
def finD (b : List Int) (x : List Int × Int × List S45) : Dc :=
  if ¬ x.2.1 = 0 then badD x.2.1 else if (x.1.length : Int) = 4 ∧ num x.1 = 0 then hdD b x.2.2 0 true [] else match endD x.1 with
    | none => badD 32
    | some t => hdD b x.2.2 t.1 false t.2
def decD (b : List Int) : Dc :=
  if (b.length : Int) > 512 then badD 31 else if (b.length : Int) < 48 then badD 30 else
  if 1 ≤ rd b 0 / 8 % 8 ∧ rd b 0 / 8 % 8 ≤ 4 then (if 1 ≤ rd b 0 % 8 ∧ rd b 0 % 8 ≤ 5 then finD b (extsD 5 [] (b.drop 48)) else badD 32) else badD 32
theorem sized_val (a m : Int) : wire_sized.f a m = some (if a > 512 then 31 else if a < m then 30 else 0) := by
  unfold wire_sized.f
  (repeat' split) <;> rfl
theorem i8_all : ∀ a : Fin 256, wrap64 (IntKind.i8.wrap (a.val : Int)) = sg (a.val : Int) := by decide +kernel
theorem i8_val (x : Int) (h : 0 ≤ x ∧ x < 256) : wrap64 (IntKind.i8.wrap x) = sg x := by
  have := i8_all ⟨x.toNat, by omega⟩
  simpa only [show ((x.toNat : Nat) : Int) = x by omega] using this
theorem mode_rd (b : List Int) (hb : By b) (h : 0 < b.length) : wire_Mode.f b = some (rd b 0 % 8) := by
  match b, h with
  | c :: l, _ => exact mode_val c l (hb c (by simp))
theorem rd0_by {b : List Int} (h : By b) (i : Nat) (hi : i < b.length) (j : Int) (hj : j = (i : Int)) : 0 ≤ rd b j ∧ rd b j < 256 := by
  rw [hj]; exact rd_by h i hi
theorem w01 : wrap64 (0 + 1) = 1 := by kernel_rfl
theorem w12 : wrap64 (1 + 1) = 2 := by kernel_rfl
theorem w23 : wrap64 (2 + 1) = 3 := by kernel_rfl
theorem w34 : wrap64 (3 + 1) = 4 := by kernel_rfl
theorem k16_0 : wrap64 (16 + (wrap64 (8 * 0))) = 16 := by kernel_rfl
theorem k24_0 : wrap64 (24 + (wrap64 (8 * 0))) = 24 := by kernel_rfl
theorem kd_0 : ((24 : Int) - 16).toNat = 8 := rfl
theorem kt_0 : (16 : Int).toNat = 16 := rfl
theorem k16_1 : wrap64 (16 + (wrap64 (8 * 1))) = 24 := by kernel_rfl
theorem k24_1 : wrap64 (24 + (wrap64 (8 * 1))) = 32 := by kernel_rfl
theorem kd_1 : ((32 : Int) - 24).toNat = 8 := rfl
theorem kt_1 : (24 : Int).toNat = 24 := rfl
theorem k16_2 : wrap64 (16 + (wrap64 (8 * 2))) = 32 := by kernel_rfl
theorem k24_2 : wrap64 (24 + (wrap64 (8 * 2))) = 40 := by kernel_rfl
theorem kd_2 : ((40 : Int) - 32).toNat = 8 := rfl
theorem kt_2 : (32 : Int).toNat = 32 := rfl
theorem k16_3 : wrap64 (16 + (wrap64 (8 * 3))) = 40 := by kernel_rfl
theorem k24_3 : wrap64 (24 + (wrap64 (8 * 3))) = 48 := by kernel_rfl
theorem kd_3 : ((48 : Int) - 40).toNat = 8 := rfl
theorem kt_3 : (40 : Int).toNat = 40 := rfl
theorem dec_end (b : List Int) {y0 y1 y2 y3 y4 y5 y6 y7 y8 : Int} (hb : By b) (hl : 48 ≤ b.length) (hu : b.length ≤ 512) (hh : ∀ l id nak mac, hdD b l id nak mac = ⟨y0, y1, y2, y3, y4, y5, y6, y7, y8, num (sub b 16 8), num (sub b 24 8), num (sub b 32 8), num (sub b 40 8), l, id, nak, mac, 0⟩) : Ev (fun k => wire_Decode.l0 k b 4 0 0 0 0 0 0 0 0 0 0 0 0 0 0 false y0 y1 y2 y3 y4 y5 y6 y7 y8 (num (sub b 16 8)) (num (sub b 24 8)) (num (sub b 32 8)) (num (sub b 40 8)) 0 false [] []) (tup18 (finD b (extsD 5 [] (b.drop 48)))) := by
  refine Ev.step (fun k => by rw [wire_Decode.l0, if_neg (by decide), if_pos (by omega), if_pos (by omega), drop_all _ _ _ (by omega)]) ?_
  refine Ev.bind (ev_exts (b.drop 48) (hb.drop _) (by rw [List.length_drop]; omega)) ?_
  have hxb := extsD_by 5 [] _ (hb.drop 48)
  generalize extsD 5 [] (b.drop 48) = x at hxb ⊢
  obtain ⟨r, e, l⟩ := x
  dsimp only at hxb ⊢
  unfold finD
  dsimp only
  by_cases c : ¬ e = 0
  · exact Ev.congr (fun k => by rw [if_pos c, if_pos c]) (Ev.now _)
  rw [if_neg c]
  refine Ev.congr (fun k => by rw [if_neg c]) ?_
  have tl : Ev (fun k => (wire_ended.f k r).bind fun t => (bif (!t.2.1) then (some (tup18 (badD 32))) else (some (tup18 (⟨y0, y1, y2, y3, y4, y5, y6, y7, y8, num (sub b 16 8), num (sub b 24 8), num (sub b 32 8), num (sub b 40 8), l, t.1, false, t.2.2, 0⟩ : Dc))))) (match endD r with
    | none => (tup18 (badD 32))
    | some t => (tup18 (hdD b l t.1 false t.2))) := by
    obtain ⟨⟨t1, t2, t3⟩, ht, hd⟩ := ev_ended r hxb
    rw [hd]
    refine Ev.bind ht ?_
    dsimp only
    cases t2 with
    | false => exact Ev.now _
    | true => show Ev _ (tup18 (hdD b l t1 false t3)); rw [hh]; exact Ev.now _
  have hm : (tup18 (match endD r with | none => badD 32 | some t => hdD b l t.1 false t.2)) = (match endD r with
    | none => (tup18 (badD 32))
    | some t => (tup18 (hdD b l t.1 false t.2))) := by cases endD r <;> rfl
  by_cases c4 : (r.length : Int) = 4
  · refine Ev.congr (fun k => by rw [if_pos c4]) ?_
    refine Ev.bind (ev_number r hxb (by omega)) ?_
    by_cases cz : num r = 0
    · rw [if_pos ⟨c4, cz⟩, hh]
      exact Ev.congr (fun k => by rw [if_pos cz]) (Ev.now _)
    · rw [if_neg (fun h => cz h.2), hm]
      exact Ev.congr (fun k => by rw [if_neg cz]) tl
  · rw [if_neg (fun h => c4 h.1), hm]
    exact Ev.congr (fun k => by rw [if_neg c4]) tl
theorem dec_loop (b : List Int) {y0 y1 y2 y3 y4 y5 y6 y7 y8 : Int} (hb : By b) (hl : 48 ≤ b.length) (hu : b.length ≤ 512) (hh : ∀ l id nak mac, hdD b l id nak mac = ⟨y0, y1, y2, y3, y4, y5, y6, y7, y8, num (sub b 16 8), num (sub b 24 8), num (sub b 32 8), num (sub b 40 8), l, id, nak, mac, 0⟩) : Ev (fun k => wire_Decode.l0 k b 0 0 0 0 0 0 0 0 0 0 0 0 0 0 0 false y0 y1 y2 y3 y4 y5 y6 y7 y8 0 0 0 0 0 false [] []) (tup18 (finD b (extsD 5 [] (b.drop 48)))) := by
  skip
  refine Ev.step (fun k => by rw [wire_Decode.l0, if_pos (by decide), if_pos rfl, k16_0, k24_0, if_pos (by decide), if_pos (by decide), if_pos (by omega), kd_0, kt_0, w01]) ?_
  refine Ev.bind (a := num (sub b 16 8)) (ev_number _ (hb.sub 16 8) (by rw [sub_len _ _ _ (by omega)]; decide)) ?_
  refine Ev.step (fun k => by rw [wire_Decode.l0, if_pos (by decide), if_neg (by decide), if_pos rfl, k16_1, k24_1, if_pos (by decide), if_pos (by decide), if_pos (by omega), kd_1, kt_1, w12]) ?_
  refine Ev.bind (a := num (sub b 24 8)) (ev_number _ (hb.sub 24 8) (by rw [sub_len _ _ _ (by omega)]; decide)) ?_
  refine Ev.step (fun k => by rw [wire_Decode.l0, if_pos (by decide), if_neg (by decide), if_neg (by decide), if_pos rfl, k16_2, k24_2, if_pos (by decide), if_pos (by decide), if_pos (by omega), kd_2, kt_2, w23]) ?_
  refine Ev.bind (a := num (sub b 32 8)) (ev_number _ (hb.sub 32 8) (by rw [sub_len _ _ _ (by omega)]; decide)) ?_
  refine Ev.step (fun k => by rw [wire_Decode.l0, if_pos (by decide), if_neg (by decide), if_neg (by decide), if_neg (by decide), if_pos rfl, k16_3, k24_3, if_pos (by decide), if_pos (by decide), if_pos (by omega), kd_3, kt_3, w34]) ?_
  refine Ev.bind (a := num (sub b 40 8)) (ev_number _ (hb.sub 40 8) (by rw [sub_len _ _ _ (by omega)]; decide)) ?_
  exact dec_end b hb hl hu hh
theorem ev_decode (b : List Int) (hb : By b) : Ev (fun k => wire_Decode.f k b) (tup18 (decD b)) := by
  unfold wire_Decode.f decD
  by_cases c1 : (b.length : Int) > 512
  · rw [if_pos c1]
    exact Ev.congr (fun k => by rw [sized_val, bsome, if_pos c1, if_pos (by decide)]) (Ev.now _)
  rw [if_neg c1]
  by_cases c2 : (b.length : Int) < 48
  · rw [if_pos c2]
    exact Ev.congr (fun k => by rw [sized_val, bsome, if_neg c1, if_pos c2, if_pos (by decide)]) (Ev.now _)
  rw [if_neg c2]
  have b0 := rd0_by hb 0 (by omega) 0 rfl
  have b1 := rd0_by hb 1 (by omega) 1 rfl
  have b2 := rd0_by hb 2 (by omega) 2 rfl
  have b3 := rd0_by hb 3 (by omega) 3 rfl
  have q0 : wrap64 (rd b 0 / 64) = rd b 0 / 64 := w64_in (by omega) (by omega)
  have q1 : wrap64 (Go.bits .and .u8 (rd b 0 / 8) 7) = rd b 0 / 8 % 8 := by rw [and7 _ (by omega), w64_in (by omega) (by omega)]
  have q3 : wrap64 (rd b 1) = rd b 1 := w64_in (by omega) (by omega)
  have q4 := i8_val (rd b 2) b2
  have q5 := i8_val (rd b 3) b3
  refine Ev.congr (fun k => by rw [sized_val, bsome, if_neg c1, if_neg c2, if_neg (fun h => h rfl), if_pos (by omega), if_pos (by omega), mode_rd b hb (by omega), bsome, if_pos (by omega), if_pos (by omega), if_pos (by omega), q0, q1, q3, q4, q5, fits_val, bsome, bif_not]) ?_
  by_cases v : 1 ≤ rd b 0 / 8 % 8 ∧ rd b 0 / 8 % 8 ≤ 4
  case neg =>
    rw [if_neg v]
    exact Ev.congr (fun k => by rw [if_neg v]) (Ev.now _)
  rw [if_pos v]
  refine Ev.congr (fun k => by rw [if_pos v, fits_val, bsome, bif_not]) ?_
  by_cases m : 1 ≤ rd b 0 % 8 ∧ rd b 0 % 8 ≤ 5
  case neg =>
    rw [if_neg m]
    exact Ev.congr (fun k => by rw [if_neg m]) (Ev.now _)
  rw [if_pos m]
  have n4 := num_sub4 hb 4 (by omega)
  have n8 := num_sub4 hb 8 (by omega)
  have n12 := num_sub4 hb 12 (by omega)
  refine Ev.congr (fun k => by rw [if_pos m, if_pos (by omega)]) ?_
  refine Ev.bind (a := num (sub b 4 4)) (ev_number _ (hb.sub 4 4) (by rw [sub_len _ _ _ (by omega)]; decide)) ?_
  refine Ev.congr (fun k => by rw [Int.emod_eq_of_lt n4.1 n4.2, fromShort_val _ n4.1 n4.2, bsome, if_pos (by omega)]) ?_
  refine Ev.bind (a := num (sub b 8 4)) (ev_number _ (hb.sub 8 4) (by rw [sub_len _ _ _ (by omega)]; decide)) ?_
  refine Ev.congr (fun k => by rw [Int.emod_eq_of_lt n8.1 n8.2, fromShort_val _ n8.1 n8.2, bsome, if_pos (by omega)]) ?_
  refine Ev.bind (a := num (sub b 12 4)) (ev_number _ (hb.sub 12 4) (by rw [sub_len _ _ _ (by omega)]; decide)) ?_
  refine Ev.congr (fun k => by rw [Int.emod_eq_of_lt n12.1 n12.2]) ?_
  exact dec_loop b hb (by omega) (by omega) (fun l id nak mac => rfl)
theorem dec_end_s1 (e0 b : List Int) (o n : Nat) (hbd : b = sub e0 o n) (he : o + n ≤ e0.length) {y0 y1 y2 y3 y4 y5 y6 y7 y8 : Int} (hb : By b) (hl : 48 ≤ b.length) (hu : b.length ≤ 512) (hh : ∀ l id nak mac, hdD b l id nak mac = ⟨y0, y1, y2, y3, y4, y5, y6, y7, y8, num (sub b 16 8), num (sub b 24 8), num (sub b 32 8), num (sub b 40 8), l, id, nak, mac, 0⟩) : Ev (fun k => wire_Decode_s1.l0 k (o, n) 4 e0 0 0 0 0 0 0 0 0 0 0 0 0 0 0 false y0 y1 y2 y3 y4 y5 y6 y7 y8 (num (sub b 16 8)) (num (sub b 24 8)) (num (sub b 32 8)) (num (sub b 40 8)) 0 false [] []) (tup19 (finD b (extsD 5 [] (b.drop 48))) e0) := by
  have hbl : b.length = n := by rw [hbd, sub_len _ _ _ he]
  have hs : ∀ a c, a + c ≤ n → (e0.drop (o + a)).take c = sub b a c := fun a c h => by rw [hbd]; exact (sub_sub e0 o n a c h).symm
  refine Ev.step (fun k => by rw [wire_Decode_s1.l0, if_neg (by decide), if_pos (by omega), if_pos (by omega)]) ?_
  have hsub : sub e0 (o + 48) ((n : Int) - 48).toNat = b.drop 48 := by
    rw [hbd]; unfold sub; rw [List.drop_take, List.drop_drop]; congr 1; omega
  obtain ⟨⟨qa, qb⟩, hq, hq2⟩ := ev_exts1 e0 (o + 48) ((n : Int) - 48).toNat (by rw [hsub]; exact hb.drop _) (by omega) (by omega)
  rw [hsub] at hq hq2
  refine Ev.bind hq ?_
  have hxb := extsD_by 5 [] _ (hb.drop 48)
  generalize extsD 5 [] (b.drop 48) = x at hxb hq2 ⊢
  obtain ⟨r, e, l⟩ := x
  dsimp only at hxb hq2 ⊢
  unfold finD
  dsimp only
  by_cases c : ¬ e = 0
  · exact Ev.congr (fun k => by rw [if_pos c, if_pos c]) (Ev.now _)
  rw [if_neg c]
  refine Ev.congr (fun k => by rw [if_neg c]) ?_
  obtain ⟨hq3, hq4⟩ := hq2 (by omega)
  have hq3 : (e0.drop qa).take qb = r := hq3
  refine Ev.congr (fun k => by rw [hq3, hq4]) ?_
  have tl : Ev (fun k => (wire_ended.f k r).bind fun t => (bif (!t.2.1) then (some (tup19 (badD 32) e0)) else (some (tup19 (⟨y0, y1, y2, y3, y4, y5, y6, y7, y8, num (sub b 16 8), num (sub b 24 8), num (sub b 32 8), num (sub b 40 8), l, t.1, false, t.2.2, 0⟩ : Dc) e0)))) (match endD r with
    | none => (tup19 (badD 32) e0)
    | some t => (tup19 (hdD b l t.1 false t.2) e0)) := by
    obtain ⟨⟨t1, t2, t3⟩, ht, hd⟩ := ev_ended r hxb
    rw [hd]
    refine Ev.bind ht ?_
    dsimp only
    cases t2 with
    | false => exact Ev.now _
    | true => show Ev _ (tup19 (hdD b l t1 false t3) e0); rw [hh]; exact Ev.now _
  have hm : (tup19 (match endD r with | none => badD 32 | some t => hdD b l t.1 false t.2) e0) = (match endD r with
    | none => (tup19 (badD 32) e0)
    | some t => (tup19 (hdD b l t.1 false t.2) e0)) := by cases endD r <;> rfl
  by_cases c4 : (r.length : Int) = 4
  · refine Ev.congr (fun k => by rw [if_pos c4]) ?_
    refine Ev.bind (ev_number r hxb (by omega)) ?_
    by_cases cz : num r = 0
    · rw [if_pos ⟨c4, cz⟩, hh]
      exact Ev.congr (fun k => by rw [if_pos cz]) (Ev.now _)
    · rw [if_neg (fun h => cz h.2), hm]
      exact Ev.congr (fun k => by rw [if_neg cz]) tl
  · rw [if_neg (fun h => c4 h.1), hm]
    exact Ev.congr (fun k => by rw [if_neg c4]) tl
theorem dec_loop_s1 (e0 b : List Int) (o n : Nat) (hbd : b = sub e0 o n) (he : o + n ≤ e0.length) {y0 y1 y2 y3 y4 y5 y6 y7 y8 : Int} (hb : By b) (hl : 48 ≤ b.length) (hu : b.length ≤ 512) (hh : ∀ l id nak mac, hdD b l id nak mac = ⟨y0, y1, y2, y3, y4, y5, y6, y7, y8, num (sub b 16 8), num (sub b 24 8), num (sub b 32 8), num (sub b 40 8), l, id, nak, mac, 0⟩) : Ev (fun k => wire_Decode_s1.l0 k (o, n) 0 e0 0 0 0 0 0 0 0 0 0 0 0 0 0 0 false y0 y1 y2 y3 y4 y5 y6 y7 y8 0 0 0 0 0 false [] []) (tup19 (finD b (extsD 5 [] (b.drop 48))) e0) := by
  have hbl : b.length = n := by rw [hbd, sub_len _ _ _ he]
  have hs : ∀ a c, a + c ≤ n → (e0.drop (o + a)).take c = sub b a c := fun a c h => by rw [hbd]; exact (sub_sub e0 o n a c h).symm
  refine Ev.step (fun k => by rw [wire_Decode_s1.l0, if_pos (by decide), if_pos rfl, k16_0, k24_0, if_pos (by decide), if_pos (by decide), if_pos (by omega), kd_0, kt_0, hs 16 8 (by omega), w01]) ?_
  refine Ev.bind (a := num (sub b 16 8)) (ev_number _ (hb.sub 16 8) (by rw [sub_len _ _ _ (by omega)]; decide)) ?_
  refine Ev.step (fun k => by rw [wire_Decode_s1.l0, if_pos (by decide), if_neg (by decide), if_pos rfl, k16_1, k24_1, if_pos (by decide), if_pos (by decide), if_pos (by omega), kd_1, kt_1, hs 24 8 (by omega), w12]) ?_
  refine Ev.bind (a := num (sub b 24 8)) (ev_number _ (hb.sub 24 8) (by rw [sub_len _ _ _ (by omega)]; decide)) ?_
  refine Ev.step (fun k => by rw [wire_Decode_s1.l0, if_pos (by decide), if_neg (by decide), if_neg (by decide), if_pos rfl, k16_2, k24_2, if_pos (by decide), if_pos (by decide), if_pos (by omega), kd_2, kt_2, hs 32 8 (by omega), w23]) ?_
  refine Ev.bind (a := num (sub b 32 8)) (ev_number _ (hb.sub 32 8) (by rw [sub_len _ _ _ (by omega)]; decide)) ?_
  refine Ev.step (fun k => by rw [wire_Decode_s1.l0, if_pos (by decide), if_neg (by decide), if_neg (by decide), if_neg (by decide), if_pos rfl, k16_3, k24_3, if_pos (by decide), if_pos (by decide), if_pos (by omega), kd_3, kt_3, hs 40 8 (by omega), w34]) ?_
  refine Ev.bind (a := num (sub b 40 8)) (ev_number _ (hb.sub 40 8) (by rw [sub_len _ _ _ (by omega)]; decide)) ?_
  exact dec_end_s1 e0 b o n hbd he hb hl hu hh
theorem ev_decode_s1 (e0 b : List Int) (o n : Nat) (hbd : b = sub e0 o n) (he : o + n ≤ e0.length) (hb : By b) : Ev (fun k => wire_Decode_s1.f k (o, n) e0) (tup19 (decD b) e0) := by
  have hbl : b.length = n := by rw [hbd, sub_len _ _ _ he]
  have hs : ∀ a c, a + c ≤ n → (e0.drop (o + a)).take c = sub b a c := fun a c h => by rw [hbd]; exact (sub_sub e0 o n a c h).symm
  unfold wire_Decode_s1.f decD
  rw [show ((b.length : Nat) : Int) = (n : Int) by omega]
  by_cases c1 : (n : Int) > 512
  · rw [if_pos c1]
    exact Ev.congr (fun k => by rw [sized_val, bsome, if_pos c1, if_pos (by decide)]) (Ev.now _)
  rw [if_neg c1]
  by_cases c2 : (n : Int) < 48
  · rw [if_pos c2]
    exact Ev.congr (fun k => by rw [sized_val, bsome, if_neg c1, if_pos c2, if_pos (by decide)]) (Ev.now _)
  rw [if_neg c2]
  have b0 := rd0_by hb 0 (by omega) 0 rfl
  have b1 := rd0_by hb 1 (by omega) 1 rfl
  have b2 := rd0_by hb 2 (by omega) 2 rfl
  have b3 := rd0_by hb 3 (by omega) 3 rfl
  have r0 : rd e0 (0 + (o : Int)) = rd b 0 := by rw [hbd]; exact rd_sub e0 o n 0 (by omega) he
  have r1 : rd e0 (1 + (o : Int)) = rd b 1 := by rw [hbd]; exact rd_sub e0 o n 1 (by omega) he
  have r2 : rd e0 (2 + (o : Int)) = rd b 2 := by rw [hbd]; exact rd_sub e0 o n 2 (by omega) he
  have r3 : rd e0 (3 + (o : Int)) = rd b 3 := by rw [hbd]; exact rd_sub e0 o n 3 (by omega) he
  have hwh : (e0.drop o).take n = b := hbd.symm
  have q0 : wrap64 (rd b 0 / 64) = rd b 0 / 64 := w64_in (by omega) (by omega)
  have q1 : wrap64 (Go.bits .and .u8 (rd b 0 / 8) 7) = rd b 0 / 8 % 8 := by rw [and7 _ (by omega), w64_in (by omega) (by omega)]
  have q3 : wrap64 (rd b 1) = rd b 1 := w64_in (by omega) (by omega)
  have q4 := i8_val (rd b 2) b2
  have q5 := i8_val (rd b 3) b3
  refine Ev.congr (fun k => by rw [sized_val, bsome, if_neg c1, if_neg c2, if_neg (fun h => h rfl), if_pos (by omega), if_pos (by omega), hwh, mode_rd b hb (by omega), bsome, if_pos (by omega), if_pos (by omega), if_pos (by omega), r0, r1, r2, r3, q0, q1, q3, q4, q5, fits_val, bsome, bif_not]) ?_
  by_cases v : 1 ≤ rd b 0 / 8 % 8 ∧ rd b 0 / 8 % 8 ≤ 4
  case neg =>
    rw [if_neg v]
    exact Ev.congr (fun k => by rw [if_neg v]) (Ev.now _)
  rw [if_pos v]
  refine Ev.congr (fun k => by rw [if_pos v, fits_val, bsome, bif_not]) ?_
  by_cases m : 1 ≤ rd b 0 % 8 ∧ rd b 0 % 8 ≤ 5
  case neg =>
    rw [if_neg m]
    exact Ev.congr (fun k => by rw [if_neg m]) (Ev.now _)
  rw [if_pos m]
  have n4 := num_sub4 hb 4 (by omega)
  have n8 := num_sub4 hb 8 (by omega)
  have n12 := num_sub4 hb 12 (by omega)
  refine Ev.congr (fun k => by rw [if_pos m, if_pos (by omega), hs 4 4 (by omega)]) ?_
  refine Ev.bind (a := num (sub b 4 4)) (ev_number _ (hb.sub 4 4) (by rw [sub_len _ _ _ (by omega)]; decide)) ?_
  refine Ev.congr (fun k => by rw [Int.emod_eq_of_lt n4.1 n4.2, fromShort_val _ n4.1 n4.2, bsome, if_pos (by omega), hs 8 4 (by omega)]) ?_
  refine Ev.bind (a := num (sub b 8 4)) (ev_number _ (hb.sub 8 4) (by rw [sub_len _ _ _ (by omega)]; decide)) ?_
  refine Ev.congr (fun k => by rw [Int.emod_eq_of_lt n8.1 n8.2, fromShort_val _ n8.1 n8.2, bsome, if_pos (by omega), hs 12 4 (by omega)]) ?_
  refine Ev.bind (a := num (sub b 12 4)) (ev_number _ (hb.sub 12 4) (by rw [sub_len _ _ _ (by omega)]; decide)) ?_
  refine Ev.congr (fun k => by rw [Int.emod_eq_of_lt n12.1 n12.2]) ?_
  exact dec_loop_s1 e0 b o n hbd he hb (by omega) (by omega) (fun l id nak mac => rfl)
theorem dec_end_s2 (b : List Int) {y0 y1 y2 y3 y4 y5 y6 y7 y8 : Int} (hb : By b) (hl : 48 ≤ b.length) (hu : b.length ≤ 512) (hh : ∀ l id nak mac, hdD b l id nak mac = ⟨y0, y1, y2, y3, y4, y5, y6, y7, y8, num (sub b 16 8), num (sub b 24 8), num (sub b 32 8), num (sub b 40 8), l, id, nak, mac, 0⟩) : Ev (fun k => wire_Decode_s2.l0 k 4 b 0 0 0 0 0 0 0 0 0 0 0 0 0 0 false y0 y1 y2 y3 y4 y5 y6 y7 y8 (num (sub b 16 8)) (num (sub b 24 8)) (num (sub b 32 8)) (num (sub b 40 8)) 0 false [] []) (tup19 (finD b (extsD 5 [] (b.drop 48))) b) := by
  refine Ev.step (fun k => by rw [wire_Decode_s2.l0, if_neg (by decide), if_pos (by omega), if_pos (by omega)]) ?_
  have hsub : sub b 48 ((b.length : Int) - 48).toNat = b.drop 48 := by
    exact drop_all _ _ _ (by omega)
  obtain ⟨⟨qa, qb⟩, hq, hq2⟩ := ev_exts1 b 48 ((b.length : Int) - 48).toNat (by rw [hsub]; exact hb.drop _) (by omega) (by omega)
  rw [hsub] at hq hq2
  refine Ev.bind hq ?_
  have hxb := extsD_by 5 [] _ (hb.drop 48)
  generalize extsD 5 [] (b.drop 48) = x at hxb hq2 ⊢
  obtain ⟨r, e, l⟩ := x
  dsimp only at hxb hq2 ⊢
  unfold finD
  dsimp only
  by_cases c : ¬ e = 0
  · exact Ev.congr (fun k => by rw [if_pos c, if_pos c]) (Ev.now _)
  rw [if_neg c]
  refine Ev.congr (fun k => by rw [if_neg c]) ?_
  obtain ⟨hq3, hq4⟩ := hq2 (by omega)
  have hq3 : (b.drop qa).take qb = r := hq3
  refine Ev.congr (fun k => by rw [hq3, hq4]) ?_
  have tl : Ev (fun k => (wire_ended.f k r).bind fun t => (bif (!t.2.1) then (some (tup19 (badD 32) b)) else (some (tup19 (⟨y0, y1, y2, y3, y4, y5, y6, y7, y8, num (sub b 16 8), num (sub b 24 8), num (sub b 32 8), num (sub b 40 8), l, t.1, false, t.2.2, 0⟩ : Dc) b)))) (match endD r with
    | none => (tup19 (badD 32) b)
    | some t => (tup19 (hdD b l t.1 false t.2) b)) := by
    obtain ⟨⟨t1, t2, t3⟩, ht, hd⟩ := ev_ended r hxb
    rw [hd]
    refine Ev.bind ht ?_
    dsimp only
    cases t2 with
    | false => exact Ev.now _
    | true => show Ev _ (tup19 (hdD b l t1 false t3) b); rw [hh]; exact Ev.now _
  have hm : (tup19 (match endD r with | none => badD 32 | some t => hdD b l t.1 false t.2) b) = (match endD r with
    | none => (tup19 (badD 32) b)
    | some t => (tup19 (hdD b l t.1 false t.2) b)) := by cases endD r <;> rfl
  by_cases c4 : (r.length : Int) = 4
  · refine Ev.congr (fun k => by rw [if_pos c4]) ?_
    refine Ev.bind (ev_number r hxb (by omega)) ?_
    by_cases cz : num r = 0
    · rw [if_pos ⟨c4, cz⟩, hh]
      exact Ev.congr (fun k => by rw [if_pos cz]) (Ev.now _)
    · rw [if_neg (fun h => cz h.2), hm]
      exact Ev.congr (fun k => by rw [if_neg cz]) tl
  · rw [if_neg (fun h => c4 h.1), hm]
    exact Ev.congr (fun k => by rw [if_neg c4]) tl
theorem dec_loop_s2 (b : List Int) {y0 y1 y2 y3 y4 y5 y6 y7 y8 : Int} (hb : By b) (hl : 48 ≤ b.length) (hu : b.length ≤ 512) (hh : ∀ l id nak mac, hdD b l id nak mac = ⟨y0, y1, y2, y3, y4, y5, y6, y7, y8, num (sub b 16 8), num (sub b 24 8), num (sub b 32 8), num (sub b 40 8), l, id, nak, mac, 0⟩) : Ev (fun k => wire_Decode_s2.l0 k 0 b 0 0 0 0 0 0 0 0 0 0 0 0 0 0 false y0 y1 y2 y3 y4 y5 y6 y7 y8 0 0 0 0 0 false [] []) (tup19 (finD b (extsD 5 [] (b.drop 48))) b) := by
  skip
  refine Ev.step (fun k => by rw [wire_Decode_s2.l0, if_pos (by decide), if_pos rfl, k16_0, k24_0, if_pos (by decide), if_pos (by decide), if_pos (by omega), kd_0, kt_0, w01]) ?_
  refine Ev.bind (a := num (sub b 16 8)) (ev_number _ (hb.sub 16 8) (by rw [sub_len _ _ _ (by omega)]; decide)) ?_
  refine Ev.step (fun k => by rw [wire_Decode_s2.l0, if_pos (by decide), if_neg (by decide), if_pos rfl, k16_1, k24_1, if_pos (by decide), if_pos (by decide), if_pos (by omega), kd_1, kt_1, w12]) ?_
  refine Ev.bind (a := num (sub b 24 8)) (ev_number _ (hb.sub 24 8) (by rw [sub_len _ _ _ (by omega)]; decide)) ?_
  refine Ev.step (fun k => by rw [wire_Decode_s2.l0, if_pos (by decide), if_neg (by decide), if_neg (by decide), if_pos rfl, k16_2, k24_2, if_pos (by decide), if_pos (by decide), if_pos (by omega), kd_2, kt_2, w23]) ?_
  refine Ev.bind (a := num (sub b 32 8)) (ev_number _ (hb.sub 32 8) (by rw [sub_len _ _ _ (by omega)]; decide)) ?_
  refine Ev.step (fun k => by rw [wire_Decode_s2.l0, if_pos (by decide), if_neg (by decide), if_neg (by decide), if_neg (by decide), if_pos rfl, k16_3, k24_3, if_pos (by decide), if_pos (by decide), if_pos (by omega), kd_3, kt_3, w34]) ?_
  refine Ev.bind (a := num (sub b 40 8)) (ev_number _ (hb.sub 40 8) (by rw [sub_len _ _ _ (by omega)]; decide)) ?_
  exact dec_end_s2 b hb hl hu hh
theorem ev_decode_s2 (b : List Int) (hb : By b) : Ev (fun k => wire_Decode_s2.f k b) (tup19 (decD b) b) := by
  unfold wire_Decode_s2.f decD
  by_cases c1 : (b.length : Int) > 512
  · rw [if_pos c1]
    exact Ev.congr (fun k => by rw [sized_val, bsome, if_pos c1, if_pos (by decide)]) (Ev.now _)
  rw [if_neg c1]
  by_cases c2 : (b.length : Int) < 48
  · rw [if_pos c2]
    exact Ev.congr (fun k => by rw [sized_val, bsome, if_neg c1, if_pos c2, if_pos (by decide)]) (Ev.now _)
  rw [if_neg c2]
  have b0 := rd0_by hb 0 (by omega) 0 rfl
  have b1 := rd0_by hb 1 (by omega) 1 rfl
  have b2 := rd0_by hb 2 (by omega) 2 rfl
  have b3 := rd0_by hb 3 (by omega) 3 rfl
  have q0 : wrap64 (rd b 0 / 64) = rd b 0 / 64 := w64_in (by omega) (by omega)
  have q1 : wrap64 (Go.bits .and .u8 (rd b 0 / 8) 7) = rd b 0 / 8 % 8 := by rw [and7 _ (by omega), w64_in (by omega) (by omega)]
  have q3 : wrap64 (rd b 1) = rd b 1 := w64_in (by omega) (by omega)
  have q4 := i8_val (rd b 2) b2
  have q5 := i8_val (rd b 3) b3
  refine Ev.congr (fun k => by rw [sized_val, bsome, if_neg c1, if_neg c2, if_neg (fun h => h rfl), if_pos (by omega), if_pos (by omega), mode_rd b hb (by omega), bsome, if_pos (by omega), if_pos (by omega), if_pos (by omega), q0, q1, q3, q4, q5, fits_val, bsome, bif_not]) ?_
  by_cases v : 1 ≤ rd b 0 / 8 % 8 ∧ rd b 0 / 8 % 8 ≤ 4
  case neg =>
    rw [if_neg v]
    exact Ev.congr (fun k => by rw [if_neg v]) (Ev.now _)
  rw [if_pos v]
  refine Ev.congr (fun k => by rw [if_pos v, fits_val, bsome, bif_not]) ?_
  by_cases m : 1 ≤ rd b 0 % 8 ∧ rd b 0 % 8 ≤ 5
  case neg =>
    rw [if_neg m]
    exact Ev.congr (fun k => by rw [if_neg m]) (Ev.now _)
  rw [if_pos m]
  have n4 := num_sub4 hb 4 (by omega)
  have n8 := num_sub4 hb 8 (by omega)
  have n12 := num_sub4 hb 12 (by omega)
  refine Ev.congr (fun k => by rw [if_pos m, if_pos (by omega)]) ?_
  refine Ev.bind (a := num (sub b 4 4)) (ev_number _ (hb.sub 4 4) (by rw [sub_len _ _ _ (by omega)]; decide)) ?_
  refine Ev.congr (fun k => by rw [Int.emod_eq_of_lt n4.1 n4.2, fromShort_val _ n4.1 n4.2, bsome, if_pos (by omega)]) ?_
  refine Ev.bind (a := num (sub b 8 4)) (ev_number _ (hb.sub 8 4) (by rw [sub_len _ _ _ (by omega)]; decide)) ?_
  refine Ev.congr (fun k => by rw [Int.emod_eq_of_lt n8.1 n8.2, fromShort_val _ n8.1 n8.2, bsome, if_pos (by omega)]) ?_
  refine Ev.bind (a := num (sub b 12 4)) (ev_number _ (hb.sub 12 4) (by rw [sub_len _ _ _ (by omega)]; decide)) ?_
  refine Ev.congr (fun k => by rw [Int.emod_eq_of_lt n12.1 n12.2]) ?_
  exact dec_loop_s2 b hb (by omega) (by omega) (fun l id nak mac => rfl)
end Go.Proofs.Ytamhnlcdmjefmaa.Q
