/- Plain lemmas on the printed functions: whole numbers and lists, no program in sight. -/
import Derived.Test.YtamhnlcdmjefmaaWh
import Derived.Test.YtamhnlcdmjefmaaWf
import Derived.Laws.BitsLemmas
namespace Go.Proofs.Ytamhnlcdmjefmaa.Q
open Go Go.RowKit Go.Proofs.Ytamhnlcdmjefmaa.Ev
set_option linter.unusedVariables false
set_option linter.unusedSimpArgs false
set_option maxRecDepth 100000
/-! ### control packets back and forth -/
theorem cut12 (b : List Int) (h : 2 ≤ b.length) : b.take 12 = [rd b 0, rd b 1] ++ sub b 2 2 ++ sub b 4 2 ++ sub b 6 2 ++ sub b 8 2 ++ sub b 10 2 := by
  have e : sub b 0 2 = [rd b 0, rd b 1] := by
    match b, h with
    | a :: c :: t, _ => rfl
  rw [← e, show 12 = 2 + (2 + (2 + (2 + (2 + 2)))) from rfl]
  simp only [List.take_add, List.drop_drop, List.append_assoc]
  rfl
theorem zeros_of (l : List Int) (h : By l) (hz : num l = 0) : l = List.replicate l.length 0 := by
  rw [num_zero l h] at hz
  exact List.eq_replicate_iff.2 ⟨rfl, hz⟩
theorem flag_back (x : Int) (h : 0 ≤ x ∧ x < 256) : flagV (x % 32) (decide (x ≥ 128)) (decide (x / 64 % 2 = 1)) (decide (x / 32 % 2 = 1)) = x := by
  unfold flagV
  simp only [decide_eq_true_eq]
  (repeat' split) <;> omega
theorem endD_back (r : List Int) (hr : By r) (id : Int) (mac : List Int) (h : endD r = some (id, mac)) : trailOk id mac = true ∧ trailLen id mac = (r.length : Int) ∧ tailB id false mac = r := by
  unfold endD at h
  by_cases z : (r.length : Int) = 0
  · rw [if_pos z] at h
    have h := Prod.mk.inj (Option.some.inj h)
    obtain ⟨rfl, rfl⟩ := h
    exact ⟨rfl, by rw [z]; rfl, (List.length_eq_zero_iff.1 (by omega)).symm⟩
  rw [if_neg z] at h
  by_cases f : (r.length = 20 ∨ r.length = 24) ∧ 1 ≤ num (sub r 0 4) ∧ num (sub r 0 4) ≤ 65535
  · rw [if_pos f] at h
    have h := Prod.mk.inj (Option.some.inj h)
    obtain ⟨rfl, rfl⟩ := h
    have hid : ¬ num (sub r 0 4) = 0 := by omega
    have hdl : (r.drop 4).length = r.length - 4 := List.length_drop
    refine ⟨?_, ?_, ?_⟩
    · unfold trailOk; rw [if_neg hid]; exact decide_eq_true (by omega)
    · unfold trailLen; rw [if_neg hid]; omega
    · unfold tailB
      rw [if_neg (fun h => hid h.1), B4_num _ (hr.sub 0 4) (sub_len _ _ _ (by omega))]
      exact List.take_append_drop 4 r
  · rw [if_neg f] at h; cases h
theorem endD_of (id : Int) (mac : List Int) (h : trailOk id mac = true) : endD (tailB id false mac) = some (id, mac) := by
  rcases trail_mac h with ⟨rfl, rfl⟩ | ⟨a, b, c⟩
  · rfl
  · have e1 : tailB id false mac = B4 id ++ mac := if_neg (fun h => by omega)
    have i5 : sub (B4 id ++ mac) 0 4 = B4 id := rfl
    have i6 : (B4 id ++ mac).drop 4 = mac := rfl
    have hlm : (B4 id ++ mac).length = 4 + mac.length := by rw [List.length_append, len4]
    unfold endD
    rw [e1, i5, num4 id (by omega) (by omega), if_neg (by omega), if_pos (by omega), i6]
theorem cdec_good (b : List Int) (hb : By b) (h : (decC b).e = 0) : GoodC (decC b).p0 (decC b).p4 (decC b).p5 (decC b).p6 (decC b).p7 (decC b).p8 (decC b).data (decC b).id (decC b).mac ∧ encC (decC b).p0 (decC b).p4 (decC b).p5 (decC b).p6 (decC b).p7 (decC b).p8 (decC b).p1 (decC b).p2 (decC b).p3 (decC b).data (decC b).id (decC b).mac = b := by
  unfold decC at h ⊢
  by_cases c1 : (b.length : Int) > 512
  · rw [if_pos c1] at h; exact absurd h (by decide)
  rw [if_neg c1] at h ⊢
  by_cases c2 : (b.length : Int) < 12
  · rw [if_pos c2] at h; exact absurd h (by decide)
  rw [if_neg c2] at h ⊢
  by_cases v : 1 ≤ rd b 0 / 8 ∧ rd b 0 / 8 ≤ 4
  case neg => rw [if_neg v] at h; exact absurd h (by decide)
  rw [if_pos v] at h ⊢
  by_cases m : ¬ rd b 0 % 8 = 6
  · rw [if_pos m] at h; exact absurd h (by decide)
  rw [if_neg m] at h ⊢
  have b0 := rd0_by hb 0 (by omega) 0 rfl
  have b1 := rd0_by hb 1 (by omega) 1 rfl
  have n2 := num_sub2 hb 2 (by omega)
  have n4 := num_sub2 hb 4 (by omega)
  have n6 := num_sub2 hb 6 (by omega)
  have n8 := num_sub2 hb 8 (by omega)
  have n10 := num_sub2 hb 10 (by omega)
  have hpr := pad_rng (num (sub b 10 2))
  have hpf := pad_fill (num (sub b 10 2))
  have hdl : (b.drop 12).length = b.length - 12 := List.length_drop
  have hdb := hb.drop 12
  unfold finC at h ⊢
  by_cases c : padN (num (sub b 10 2)) > ((b.drop 12).length : Int)
  · rw [if_pos c] at h; exact absurd h (by decide)
  rw [if_neg c] at h ⊢
  by_cases z : ¬ num (sub (b.drop 12) (num (sub b 10 2)).toNat (padN (num (sub b 10 2)) - num (sub b 10 2)).toNat) = 0
  · rw [if_pos z] at h; exact absurd h (by decide)
  rw [if_neg z] at h ⊢
  cases he : endD ((b.drop 12).drop (padN (num (sub b 10 2))).toNat) with
  | none => rw [he] at h; exact absurd (show (32 : Int) = 0 from h) (by decide)
  | some x =>
    obtain ⟨id, mac⟩ := x
    rw [he] at h
    obtain ⟨e1, e2, e3⟩ := endD_back _ (hdb.drop _) id mac he
    have hzs := zeros_of _ (hdb.sub _ _) (by omega : num (sub (b.drop 12) (num (sub b 10 2)).toNat (padN (num (sub b 10 2)) - num (sub b 10 2)).toNat) = 0)
    rw [sub_len _ _ _ (by omega)] at hzs
    have htl : (((b.drop 12).take (num (sub b 10 2)).toNat).length : Int) = num (sub b 10 2) := by rw [List.length_take]; omega
    refine ⟨⟨by dsimp only; omega, by dsimp only; omega, by dsimp only; omega, by dsimp only; omega, by dsimp only; omega, by dsimp only; omega, e1, ?_⟩, ?_⟩
    · dsimp only
      rw [htl, e2, List.length_drop]; omega
    · unfold encC ctlB
      dsimp only
      rw [htl, e3, flag_back _ b1, B2_num _ (hb.sub 2 2) (sub_len _ _ _ (by omega)), B2_num _ (hb.sub 4 2) (sub_len _ _ _ (by omega)), B2_num _ (hb.sub 6 2) (sub_len _ _ _ (by omega)), B2_num _ (hb.sub 8 2) (sub_len _ _ _ (by omega)), B2_num _ (hb.sub 10 2) (sub_len _ _ _ (by omega)), show rd b 0 / 8 * 8 + 6 = rd b 0 by omega, ← cut12 b (by omega)]
      rw [show ((-(num (sub b 10 2))) % 4).toNat = (padN (num (sub b 10 2)) - num (sub b 10 2)).toNat by omega, ← hzs]
      generalize num (sub b 10 2) = n at n10 hpr
      have t1 : (b.drop 12).take n.toNat ++ sub (b.drop 12) n.toNat (padN n - n).toNat = (b.drop 12).take (padN n).toNat := by
        have e : (padN n).toNat = n.toNat + (padN n - n).toNat := by omega
        rw [e, List.take_add]
      rw [List.append_assoc (b.take 12), t1, List.append_assoc, List.take_append_drop, List.take_append_drop]
theorem cdec_bad (b : List Int) (h : ¬ (decC b).e = 0) : decC b = badC (decC b).e := by
  unfold decC at h ⊢
  by_cases c1 : (b.length : Int) > 512
  · rw [if_pos c1]
  rw [if_neg c1] at h ⊢
  by_cases c2 : (b.length : Int) < 12
  · rw [if_pos c2]
  rw [if_neg c2] at h ⊢
  by_cases v : 1 ≤ rd b 0 / 8 ∧ rd b 0 / 8 ≤ 4
  case neg => rw [if_neg v]
  rw [if_pos v] at h ⊢
  by_cases m : ¬ rd b 0 % 8 = 6
  · rw [if_pos m]
  rw [if_neg m] at h ⊢
  unfold finC at h ⊢
  by_cases c : padN (num (sub b 10 2)) > ((b.drop 12).length : Int)
  · rw [if_pos c]
  rw [if_neg c] at h ⊢
  by_cases z : ¬ num (sub (b.drop 12) (num (sub b 10 2)).toNat (padN (num (sub b 10 2)) - num (sub b 10 2)).toNat) = 0
  · rw [if_pos z]
  rw [if_neg z] at h ⊢
  cases he : endD ((b.drop 12).drop (padN (num (sub b 10 2))).toNat) with
  | none => rfl
  | some x => rw [he] at h; exact absurd rfl h
theorem flag_fwd (op : Int) (h : 0 ≤ op ∧ op ≤ 31) (r e m : Bool) : decide (flagV op r e m ≥ 128) = r ∧ decide (flagV op r e m / 64 % 2 = 1) = e ∧ decide (flagV op r e m / 32 % 2 = 1) = m ∧ flagV op r e m % 32 = op := by
  unfold flagV
  cases r <;> cases e <;> cases m <;> simp <;> omega
theorem cdec_enc (v op s t a o : Int) (r e m : Bool) (data : List Int) (id : Int) (mac : List Int) (h : GoodC v op s t a o data id mac) : decC (encC v op s t a o r e m data id mac) = ⟨v, r, e, m, op, s, t, a, o, data, id, mac, 0⟩ := by
  have hv := h.v; have hop := h.op; have hs := h.s; have ht := h.t; have ha := h.a; have ho := h.o; have hsz := h.size
  have htr := trail_rng h.trail
  have hpr := pad_rng (data.length : Int)
  have hpf := pad_fill (data.length : Int)
  have htl : ((tailB id false mac).length : Int) = trailLen id mac := by
    unfold tailB trailLen
    rcases trail_mac h.trail with ⟨rfl, rfl⟩ | ⟨q1, q2, q3⟩
    · rfl
    · rw [if_neg (fun h => by omega), if_neg (show ¬ id = 0 by omega), List.length_append, len4]; omega
  have hen := endD_of id mac h.trail
  have hff := flag_fwd op hop r e m
  have he : encC v op s t a o r e m data id mac = ([v * 8 + 6, flagV op r e m] ++ B2 s ++ B2 t ++ B2 a ++ B2 o ++ B2 (data.length : Int)) ++ (data ++ (List.replicate ((-(data.length : Int)) % 4).toNat 0 ++ tailB id false mac)) := by
    unfold encC ctlB; simp only [List.append_assoc]
  rw [he]
  have hzl : (List.replicate ((-(data.length : Int)) % 4).toNat (0 : Int)).length = ((-(data.length : Int)) % 4).toNat := List.length_replicate
  have hzb : By (List.replicate ((-(data.length : Int)) % 4).toNat (0 : Int)) := fun x hx => by rw [List.eq_of_mem_replicate hx]; decide
  have hzn : num (List.replicate ((-(data.length : Int)) % 4).toNat (0 : Int)) = 0 := (num_zero _ hzb).2 fun x hx => List.eq_of_mem_replicate hx
  generalize List.replicate ((-(data.length : Int)) % 4).toNat (0 : Int) = Z at hzl hzn ⊢
  generalize tailB id false mac = tl at htl hen ⊢
  have hbl : ((([v * 8 + 6, flagV op r e m] ++ B2 s ++ B2 t ++ B2 a ++ B2 o ++ B2 (data.length : Int)) ++ (data ++ (Z ++ tl))).length : Int) = 12 + padN (data.length : Int) + trailLen id mac := by
    simp only [List.length_append, len2, List.length_cons, List.length_nil]; omega
  have hdr : (([v * 8 + 6, flagV op r e m] ++ B2 s ++ B2 t ++ B2 a ++ B2 o ++ B2 (data.length : Int)) ++ (data ++ (Z ++ tl))).drop 12 = data ++ (Z ++ tl) := rfl
  have i0 : rd (([v * 8 + 6, flagV op r e m] ++ B2 s ++ B2 t ++ B2 a ++ B2 o ++ B2 (data.length : Int)) ++ (data ++ (Z ++ tl))) 0 = v * 8 + 6 := rfl
  have i1 : rd (([v * 8 + 6, flagV op r e m] ++ B2 s ++ B2 t ++ B2 a ++ B2 o ++ B2 (data.length : Int)) ++ (data ++ (Z ++ tl))) 1 = flagV op r e m := rfl
  have i2 : sub (([v * 8 + 6, flagV op r e m] ++ B2 s ++ B2 t ++ B2 a ++ B2 o ++ B2 (data.length : Int)) ++ (data ++ (Z ++ tl))) 2 2 = B2 s := rfl
  have i4 : sub (([v * 8 + 6, flagV op r e m] ++ B2 s ++ B2 t ++ B2 a ++ B2 o ++ B2 (data.length : Int)) ++ (data ++ (Z ++ tl))) 4 2 = B2 t := rfl
  have i6 : sub (([v * 8 + 6, flagV op r e m] ++ B2 s ++ B2 t ++ B2 a ++ B2 o ++ B2 (data.length : Int)) ++ (data ++ (Z ++ tl))) 6 2 = B2 a := rfl
  have i8 : sub (([v * 8 + 6, flagV op r e m] ++ B2 s ++ B2 t ++ B2 a ++ B2 o ++ B2 (data.length : Int)) ++ (data ++ (Z ++ tl))) 8 2 = B2 o := rfl
  have i10 : sub (([v * 8 + 6, flagV op r e m] ++ B2 s ++ B2 t ++ B2 a ++ B2 o ++ B2 (data.length : Int)) ++ (data ++ (Z ++ tl))) 10 2 = B2 (data.length : Int) := rfl
  have hhd : ∀ data' id' mac', hdC (([v * 8 + 6, flagV op r e m] ++ B2 s ++ B2 t ++ B2 a ++ B2 o ++ B2 (data.length : Int)) ++ (data ++ (Z ++ tl))) data' id' mac' = ⟨v, r, e, m, op, s, t, a, o, data', id', mac', 0⟩ := by
    intro data' id' mac'
    unfold hdC
    rw [i0, i1, i2, i4, i6, i8, num2 _ (by omega) (by omega), num2 _ (by omega) (by omega), num2 _ (by omega) (by omega), num2 _ (by omega) (by omega), hff.1, hff.2.1, hff.2.2.1, hff.2.2.2]
    congr 1; omega
  unfold decC
  rw [i0, i10, num2 _ (by omega) (by omega), hdr]
  generalize ([v * 8 + 6, flagV op r e m] ++ B2 s ++ B2 t ++ B2 a ++ B2 o ++ B2 (data.length : Int)) ++ (data ++ (Z ++ tl)) = b at hbl hhd ⊢
  rw [if_neg (by omega), if_neg (by omega), if_pos (by omega), if_neg (by omega)]
  unfold finC
  have hsz2 : sub (data ++ (Z ++ tl)) (data.length : Int).toNat (padN (data.length : Int) - (data.length : Int)).toNat = Z := by
    have := sub_app data Z tl (data.length : Int).toNat (padN (data.length : Int) - (data.length : Int)).toNat (by omega) (by omega)
    rwa [List.append_assoc] at this
  have hdt : (data ++ (Z ++ tl)).drop (padN (data.length : Int)).toNat = tl := by
    rw [← List.append_assoc, show (padN (data.length : Int)).toNat = (data ++ Z).length by rw [List.length_append]; omega, List.drop_left]
  have htk : (data ++ (Z ++ tl)).take (data.length : Int).toNat = data := by
    rw [show (data.length : Int).toNat = data.length by omega, List.take_left]
  rw [if_neg (by simp only [List.length_append]; omega), hsz2, if_neg (fun h => h hzn), hdt, hen, htk]
  exact hhd data id mac
theorem encC_by (v op s t a o : Int) (r e m : Bool) (data : List Int) (id : Int) (mac : List Int) (h : GoodC v op s t a o data id mac) (hd : By data) (hm : By mac) : By (encC v op s t a o r e m data id mac) := by
  have hv := h.v; have hop := h.op
  have hf : 0 ≤ flagV op r e m ∧ flagV op r e m < 256 := by
    unfold flagV
    (repeat' split) <;> omega
  unfold encC ctlB tailB
  refine By.append (By.append (By.append ((((((By.cons (by omega) (By.cons hf By.nil)).append (by2 _)).append (by2 _)).append (by2 _)).append (by2 _)).append (by2 _)) hd) (fun x hx => by rw [List.eq_of_mem_replicate hx]; decide)) ?_
  split
  · exact By.nil
  · exact (by4 _).append hm
theorem sameC_refl (d : Cc) : foliotlaw03_sameControl.f d.p0 d.p1 d.p2 d.p3 d.p4 d.p5 d.p6 d.p7 d.p8 d.data d.id d.mac d.p0 d.p1 d.p2 d.p3 d.p4 d.p5 d.p6 d.p7 d.p8 d.data d.id d.mac = some true := by
  unfold foliotlaw03_sameControl.f
  simp only [if_true, beq_self_eq_true, cond_true, bytes_refl, bsome]
theorem sameC_zero : foliotlaw03_sameControl_s1.f 0 false false false 0 0 0 0 0 [] 0 [] 0 false false false 0 0 0 0 0 0 = some true := by
  have e : foliotlaw03_bytes_s1.f [] = some true := by unfold foliotlaw03_bytes_s1.f; rw [decide_eq_true rfl]
  unfold foliotlaw03_sameControl_s1.f
  simp only [if_true, beq_self_eq_true, cond_true, e, bsome]
theorem limb {l : List Int} (h : l.length * 1 ≤ 140737488351232) : (l.length : Int) ≤ 140737488351232 := by omega
end Go.Proofs.Ytamhnlcdmjefmaa.Q
