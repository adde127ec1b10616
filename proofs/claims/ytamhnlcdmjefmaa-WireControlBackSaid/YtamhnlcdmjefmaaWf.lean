/- Plain lemmas on the printed functions: whole numbers and lists, no program in sight. -/
import Derived.Test.YtamhnlcdmjefmaaWe
import Derived.Laws.BitsLemmas
namespace Go.Proofs.Ytamhnlcdmjefmaa.Q
open Go Go.RowKit Go.Proofs.Ytamhnlcdmjefmaa.Ev
set_option linter.unusedVariables false
set_option linter.unusedSimpArgs false
set_option maxRecDepth 100000
/-! ### back and forth -/
theorem sub_app (a b c : List Int) (n m : Nat) (hn : n = a.length) (hm : m = b.length) : sub (a ++ b ++ c) n m = b := by
  subst hn; subst hm
  unfold sub
  rw [List.append_assoc, List.drop_left, List.take_left]
theorem ext_split (x : S45) (t : List Int) (hx : extOk x = true) (hl : (x.f1.length : Int) ≤ 508) : sub (extB x ++ t) 0 2 = B2 x.f0 ∧ sub (extB x ++ t) 2 2 = B2 ((x.f1.length : Int) + 4) ∧ sub (extB x ++ t) 4 x.f1.length = x.f1 ∧ (extB x ++ t).drop (4 + x.f1.length) = t := by
  unfold extB
  refine ⟨rfl, rfl, ?_, ?_⟩
  · have := sub_app (B2 x.f0 ++ B2 ((x.f1.length : Int) + 4)) x.f1 t 4 x.f1.length rfl rfl
    simpa only [List.append_assoc] using this
  · have : (B2 x.f0 ++ (B2 ((x.f1.length : Int) + 4) ++ x.f1)).length = 4 + x.f1.length := by simp only [List.length_append, len2]; omega
    rw [← this, List.drop_left]
theorem extB_by (x : S45) (h : By x.f1) : By (extB x) := (by2 _).append ((by2 _).append h)
theorem extsD_of : ∀ (l : List S45) (acc : List S45) (r : List Int) (n : Nat), (∀ x ∈ l, (x.f1.length : Int) ≤ 508 ∧ extOk x = true) → r.length ≤ 24 → l.length + acc.length ≤ 4 → l.length < n → extsD n acc (extsB l ++ r) = (r, 0, acc ++ l)
  | [], acc, r, n, hx, hr, hf, hn => by
    obtain ⟨n, rfl⟩ : ∃ m, n = m + 1 := ⟨n - 1, by omega⟩
    rw [extsD, extsB, List.nil_append, List.append_nil, if_neg (by omega)]
  | x :: l, acc, r, n, hx, hr, hf, hn => by
    obtain ⟨n, rfl⟩ : ∃ m, n = m + 1 := ⟨n - 1, by omega⟩
    obtain ⟨h1, h2⟩ := hx x (by simp)
    have h3 := (ext_dec x).1 h2
    obtain ⟨s0, s2, s4, sd⟩ := ext_split x (extsB l ++ r) h2 h1
    have hlen := extB_len x
    rw [extsD, extsB, List.append_assoc, s0, s2, num2 _ (by omega) (by omega), num2 _ (by omega) (by omega)]
    simp only [List.length_cons] at hf hn
    rw [if_pos (by rw [List.length_append]; omega), if_neg (by omega), if_neg (by omega), if_neg (by omega), if_neg (by rw [List.length_append]; omega)]
    rw [show ((x.f1.length : Int) + 4 - 4).toNat = x.f1.length by omega, s4, show ((x.f1.length : Int) + 4).toNat = 4 + x.f1.length by omega, sd]
    rw [extsD_of l _ r n (fun y hy => hx y (List.mem_cons_of_mem _ hy)) hr (by simp only [List.length_append, List.length_cons, List.length_nil]; omega) (by omega)]
    simp
theorem of_extsD : ∀ (n : Nat) (acc : List S45) (b r : List Int) (l : List S45), By b → b.length ≤ 512 → acc.length + n = 5 → extsD n acc b = (r, 0, l) → 0 < n → ∃ l', l = acc ++ l' ∧ b = extsB l' ++ r ∧ (∀ x ∈ l', (x.f1.length : Int) ≤ 508 ∧ extOk x = true) ∧ l.length ≤ 4 ∧ r.length ≤ 24
  | 0, acc, b, r, l, hb, hl, hn, h, h0 => by omega
  | n + 1, acc, b, r, l, hb, hl, hn, h, _ => by
    rw [extsD] at h
    by_cases c : (b.length : Int) > 24
    case neg =>
      rw [if_neg c] at h
      injection h with h1 h2
      injection h2 with h2 h3
      subst h1; subst h3
      exact ⟨[], by simp, rfl, fun x hx => by simp at hx, by omega, by omega⟩
    rw [if_pos c] at h
    have n2 := num_sub2 hb 2 (by omega)
    have n0 := num_sub2 hb 0 (by omega)
    by_cases c4 : (acc.length : Int) = 4
    · rw [if_pos c4] at h
      injection h with h1 h2
      injection h2 with h2 h3
      exact absurd h2 (by decide)
    rw [if_neg c4] at h
    by_cases c5 : num (sub b 2 2) < 28
    · rw [if_pos c5] at h
      injection h with h1 h2
      injection h2 with h2 h3
      exact absurd h2 (by decide)
    rw [if_neg c5] at h
    by_cases c6 : ¬ num (sub b 2 2) % 4 = 0
    · rw [if_pos c6] at h
      injection h with h1 h2
      injection h2 with h2 h3
      exact absurd h2 (by decide)
    rw [if_neg c6] at h
    by_cases c7 : num (sub b 2 2) > (b.length : Int)
    · rw [if_pos c7] at h
      injection h with h1 h2
      injection h2 with h2 h3
      exact absurd h2 (by decide)
    rw [if_neg c7] at h
    obtain ⟨l', hl', hbd, hx, hf, hr⟩ := of_extsD n _ _ r l (hb.drop _) (by rw [List.length_drop]; omega) (by simp only [List.length_append, List.length_cons, List.length_nil]; omega) h (by omega)
    have e2 := B2_num (sub b 2 2) (hb.sub 2 2) (sub_len _ _ _ (by omega))
    have e0 := B2_num (sub b 0 2) (hb.sub 0 2) (sub_len _ _ _ (by omega))
    have l4 := sub_len b 4 (num (sub b 2 2) - 4).toNat (by omega)
    have hcut : b = sub b 0 2 ++ (sub b 2 2 ++ sub b 4 (num (sub b 2 2) - 4).toNat) ++ b.drop (num (sub b 2 2)).toNat := by
      generalize num (sub b 2 2) = z at c5 c7
      have t1 : sub b 0 2 ++ (sub b 2 2 ++ sub b 4 (z - 4).toNat) = b.take z.toNat := by
        have e : z.toNat = 2 + (2 + (z - 4).toNat) := by omega
        rw [e]
        rw [List.take_add, List.take_add, List.drop_drop]
        rfl
      rw [t1, List.take_append_drop]
    refine ⟨⟨num (sub b 0 2), sub b 4 (num (sub b 2 2) - 4).toNat⟩ :: l', by rw [hl', List.append_assoc]; rfl, ?_, ?_, hf, hr⟩
    · rw [extsB, extB]
      dsimp only
      rw [l4, show (((num (sub b 2 2) - 4).toNat : Nat) : Int) + 4 = num (sub b 2 2) by omega, e0, e2, List.append_assoc, ← hbd]
      exact hcut
    · intro x hxm
      rcases List.mem_cons.1 hxm with rfl | hxm
      · refine ⟨?_, (ext_dec _).2 ?_⟩
        · dsimp only; rw [l4]; omega
        · dsimp only; rw [l4]; omega
      · exact hx x hxm
theorem extsB_mod : ∀ (l : List S45), (∀ x ∈ l, (x.f1.length : Int) ≤ 508 ∧ extOk x = true) → extsN l % 4 = 0
  | [], _ => rfl
  | x :: l, h => by
    have h1 := extsB_mod l (fun y hy => h y (List.mem_cons_of_mem _ hy))
    have h2 := (ext_dec x).1 (h x (by simp)).2
    rw [extsN]; omega
theorem sg_byte (x : Int) (h : 0 ≤ x ∧ x < 256) : sg x % 256 = x ∧ -128 ≤ sg x ∧ sg x ≤ 127 := by
  unfold sg; split <;> omega
theorem byte_sg (x : Int) (h : -128 ≤ x ∧ x ≤ 127) : sg (x % 256) = x := by
  unfold sg; split <;> omega
theorem take48 (b : List Int) : b.take 48 = sub b 0 4 ++ sub b 4 4 ++ sub b 8 4 ++ sub b 12 4 ++ sub b 16 8 ++ sub b 24 8 ++ sub b 32 8 ++ sub b 40 8 := by
  rw [show 48 = 4 + (4 + (4 + (4 + (8 + (8 + (8 + 8)))))) from rfl]
  simp only [List.take_add, List.drop_drop, List.append_assoc]
  rfl
theorem four (b : List Int) (h : 4 ≤ b.length) : sub b 0 4 = [rd b 0, rd b 1, rd b 2, rd b 3] := by
  match b, h with
  | a :: c :: d :: e :: t, _ => rfl
/-- What a packet's bytes tell is a packet that may be, and is written just so. -/
theorem dec_good (b : List Int) (hb : By b) (h : (decD b).e = 0) : Good (decD b).p0 (decD b).p1 (decD b).p2 (decD b).p3 (decD b).p4 (decD b).p5 (decD b).p6 (decD b).p7 (decD b).l (decD b).id (decD b).nak (decD b).mac ∧ encB (decD b).p0 (decD b).p1 (decD b).p2 (decD b).p3 (decD b).p4 (decD b).p5 (decD b).p6 (decD b).p7 (decD b).p8 (decD b).p9 (decD b).p10 (decD b).p11 (decD b).p12 (decD b).l (decD b).id (decD b).nak (decD b).mac = b ∧ (0 ≤ (decD b).p8 ∧ (decD b).p8 < 4294967296) ∧ (48 ≤ b.length ∧ b.length ≤ 512) ∧ rd b 0 % 8 ≤ 5 := by
  unfold decD at h ⊢
  by_cases c1 : (b.length : Int) > 512
  · rw [if_pos c1] at h; exact absurd h (by decide)
  rw [if_neg c1] at h ⊢
  by_cases c2 : (b.length : Int) < 48
  · rw [if_pos c2] at h; exact absurd h (by decide)
  rw [if_neg c2] at h ⊢
  by_cases v : 1 ≤ rd b 0 / 8 % 8 ∧ rd b 0 / 8 % 8 ≤ 4
  case neg => rw [if_neg v] at h; exact absurd h (by decide)
  rw [if_pos v] at h ⊢
  by_cases m : 1 ≤ rd b 0 % 8 ∧ rd b 0 % 8 ≤ 5
  case neg => rw [if_neg m] at h; exact absurd h (by decide)
  rw [if_pos m] at h ⊢
  have b0 := rd0_by hb 0 (by omega) 0 rfl
  have b1 := rd0_by hb 1 (by omega) 1 rfl
  have b2 := rd0_by hb 2 (by omega) 2 rfl
  have b3 := rd0_by hb 3 (by omega) 3 rfl
  have g2 := sg_byte _ b2
  have g3 := sg_byte _ b3
  have n4 := num_sub4 hb 4 (by omega)
  have n8 := num_sub4 hb 8 (by omega)
  have n12 := num_sub4 hb 12 (by omega)
  have hfix : fixB (rd b 0 / 64) (rd b 0 / 8 % 8) (rd b 0 % 8) (rd b 1) (sg (rd b 2)) (sg (rd b 3)) (num (sub b 4 4) * 65536) (num (sub b 8 4) * 65536) (num (sub b 12 4)) (num (sub b 16 8)) (num (sub b 24 8)) (num (sub b 32 8)) (num (sub b 40 8)) = b.take 48 := by
    unfold fixB
    rw [take48, short_back _ n4.1 n4.2, short_back _ n8.1 n8.2, B4_num _ (hb.sub 4 4) (sub_len _ _ _ (by omega)), B4_num _ (hb.sub 8 4) (sub_len _ _ _ (by omega)), B4_num _ (hb.sub 12 4) (sub_len _ _ _ (by omega)), B8_num _ (hb.sub 16 8) (sub_len _ _ _ (by omega)), B8_num _ (hb.sub 24 8) (sub_len _ _ _ (by omega)), B8_num _ (hb.sub 32 8) (sub_len _ _ _ (by omega)), B8_num _ (hb.sub 40 8) (sub_len _ _ _ (by omega)), four b (by omega), g2.1, g3.1, show rd b 0 / 64 * 64 + rd b 0 / 8 % 8 * 8 + rd b 0 % 8 = rd b 0 by omega, show rd b 1 % 256 = rd b 1 by omega]
  have hsm : smallOk (rd b 0 / 64) (rd b 0 / 8 % 8) (rd b 0 % 8) (rd b 1) (sg (rd b 2)) (sg (rd b 3)) (num (sub b 4 4) * 65536) (num (sub b 8 4) * 65536) = true := decide_eq_true (by omega)
  have hds := of_extsD 5 [] (b.drop 48)
  have hxb := extsD_by 5 [] _ (hb.drop 48)
  generalize extsD 5 [] (b.drop 48) = x at h hds hxb ⊢
  obtain ⟨r, e, l⟩ := x
  unfold finD at h ⊢
  dsimp only at h hds hxb ⊢
  by_cases ce : ¬ e = 0
  · rw [if_pos ce] at h; exact absurd h ce
  rw [if_neg ce] at h ⊢
  have ce : e = 0 := by omega
  subst ce
  obtain ⟨l', hl', hcut, hx, hf, hr⟩ := hds r l (hb.drop _) (by rw [List.length_drop]; omega) rfl rfl (by decide)
  rw [List.nil_append] at hl'
  subst hl'
  have hlen : (b.length : Int) = 48 + extsN l + (r.length : Int) := by
    have := congrArg List.length hcut
    rw [List.length_drop, List.length_append] at this
    have h2 := extsB_len l
    omega
  have whole : ∀ t : List Int, t = r → fixB (rd b 0 / 64) (rd b 0 / 8 % 8) (rd b 0 % 8) (rd b 1) (sg (rd b 2)) (sg (rd b 3)) (num (sub b 4 4) * 65536) (num (sub b 8 4) * 65536) (num (sub b 12 4)) (num (sub b 16 8)) (num (sub b 24 8)) (num (sub b 32 8)) (num (sub b 40 8)) ++ extsB l ++ t = b := by
    intro t ht
    rw [ht, hfix, List.append_assoc, ← hcut, List.take_append_drop]
  by_cases c4 : (r.length : Int) = 4 ∧ num r = 0
  · rw [if_pos c4] at h ⊢
    refine ⟨⟨hsm, hf, hx, rfl, fun _ => rfl, ?_⟩, ?_, n12, by omega, m.2⟩
    · show 48 + extsN l + 4 ≤ 512; omega
    · refine whole _ ?_
      have := B4_num r hxb (by omega)
      rw [c4.2] at this
      exact (List.append_nil _).trans this
  rw [if_neg c4] at h ⊢
  unfold endD at h ⊢
  by_cases z : (r.length : Int) = 0
  · simp only [z, if_true] at h ⊢
    refine ⟨⟨hsm, hf, hx, rfl, fun h => absurd h (by decide), ?_⟩, ?_, n12, by omega, m.2⟩
    · show 48 + extsN l + 0 ≤ 512; omega
    · exact whole _ (List.length_eq_zero_iff.1 (by omega)).symm
  · by_cases f : (r.length = 20 ∨ r.length = 24) ∧ 1 ≤ num (sub r 0 4) ∧ num (sub r 0 4) ≤ 65535
    · simp only [z, f, and_self, if_true, if_false] at h ⊢
      have hid : ¬ num (sub r 0 4) = 0 := by omega
      have hdl : (r.drop 4).length = r.length - 4 := List.length_drop
      have htr : trailOk (num (sub r 0 4)) (r.drop 4) = true := by
        unfold trailOk; rw [if_neg hid]; exact decide_eq_true (by omega)
      have htl : trailLen (num (sub r 0 4)) (r.drop 4) = (r.length : Int) := by
        unfold trailLen; rw [if_neg hid]; omega
      refine ⟨⟨hsm, hf, hx, htr, fun h => absurd h (by decide), ?_⟩, ?_, n12, by omega, m.2⟩
      · rw [if_neg (by decide), htl]; omega
      · refine whole _ ?_
        unfold tailB
        rw [if_neg (fun h => hid h.1), B4_num _ (hxb.sub 0 4) (sub_len _ _ _ (by omega))]
        exact List.take_append_drop 4 r
    · simp only [z, f, if_false] at h
      exact absurd h (by decide)
theorem fin_bad (b : List Int) (x : List Int × Int × List S45) (h : ¬ (finD b x).e = 0) : finD b x = badD (finD b x).e := by
  unfold finD at h ⊢
  by_cases c : ¬ x.2.1 = 0
  · rw [if_pos c] at h ⊢
  rw [if_neg c] at h ⊢
  by_cases d : (x.1.length : Int) = 4 ∧ num x.1 = 0
  · rw [if_pos d] at h; exact absurd rfl h
  rw [if_neg d] at h ⊢
  cases he : endD x.1 with
  | none => rfl
  | some t => rw [he] at h; exact absurd rfl h
theorem dec_bad (b : List Int) (h : ¬ (decD b).e = 0) : decD b = badD (decD b).e := by
  unfold decD at h ⊢
  by_cases c1 : (b.length : Int) > 512
  · rw [if_pos c1]
  rw [if_neg c1] at h ⊢
  by_cases c2 : (b.length : Int) < 48
  · rw [if_pos c2]
  rw [if_neg c2] at h ⊢
  by_cases v : 1 ≤ rd b 0 / 8 % 8 ∧ rd b 0 / 8 % 8 ≤ 4
  case neg => rw [if_neg v]
  rw [if_pos v] at h ⊢
  by_cases m : 1 ≤ rd b 0 % 8 ∧ rd b 0 % 8 ≤ 5
  case neg => rw [if_neg m]
  rw [if_pos m] at h ⊢
  exact fin_bad b _ h
/-- A packet that may be, out of its bytes. -/
theorem dec_enc (p0 p1 p2 p3 p4 p5 p6 p7 p8 p9 p10 p11 p12 : Int) (l : List S45) (id : Int) (nak : Bool) (mac : List Int) (h8 : 0 ≤ p8 ∧ p8 < 4294967296) (h9 : 0 ≤ p9 ∧ p9 < 18446744073709551616) (h10 : 0 ≤ p10 ∧ p10 < 18446744073709551616) (h11 : 0 ≤ p11 ∧ p11 < 18446744073709551616) (h12 : 0 ≤ p12 ∧ p12 < 18446744073709551616) (h : Good p0 p1 p2 p3 p4 p5 p6 p7 l id nak mac) :
    decD (encB p0 p1 p2 p3 p4 p5 p6 p7 p8 p9 p10 p11 p12 l id nak mac) = ⟨p0, p1, p2, p3, p4, p5, shortV p6 * 65536, shortV p7 * 65536, p8, p9, p10, p11, p12, l, id, nak, mac, 0⟩ := by
  obtain ⟨r0, r1, r2, r3, r4, r5, r6, r7⟩ := small_rng h.small
  have s6 := shortV_rng p6
  have s7 := shortV_rng p7
  have hs := h.size
  have hn0 := extsN_0 l
  have hmc := trail_mac h.trail
  have hfl := fixB_len p0 p1 p2 p3 p4 p5 p6 p7 p8 p9 p10 p11 p12
  have hb : encB p0 p1 p2 p3 p4 p5 p6 p7 p8 p9 p10 p11 p12 l id nak mac = fixB p0 p1 p2 p3 p4 p5 p6 p7 p8 p9 p10 p11 p12 ++ (extsB l ++ tailB id nak mac) := by
    unfold encB msgB; rw [List.append_assoc]
  have ht : ((tailB id nak mac).length : Int) = (if nak = true then 4 else trailLen id mac) := by
    unfold tailB trailLen
    rcases hmc with ⟨rfl, rfl⟩ | ⟨a, b, c⟩
    · cases nak <;> rfl
    · rw [if_neg (fun h => by omega), if_neg (show ¬ id = 0 by omega), if_neg (fun hn => by have := h.zid hn; omega), List.length_append, len4]; omega
  have htl : (tailB id nak mac).length ≤ 24 := by
    have : (if nak = true then (4 : Int) else trailLen id mac) ≤ 24 := by
      have := trail_rng h.trail
      split <;> omega
    omega
  have hel := extsB_len l
  have hd48 : (fixB p0 p1 p2 p3 p4 p5 p6 p7 p8 p9 p10 p11 p12 ++ (extsB l ++ tailB id nak mac)).drop 48 = extsB l ++ tailB id nak mac := by rw [← hfl, List.drop_left]
  have hlen : ((fixB p0 p1 p2 p3 p4 p5 p6 p7 p8 p9 p10 p11 p12 ++ (extsB l ++ tailB id nak mac)).length : Int) = 48 + extsN l + (if nak = true then (4 : Int) else trailLen id mac) := by
    rw [List.length_append, List.length_append, hfl]; omega
  have i0 : rd (fixB p0 p1 p2 p3 p4 p5 p6 p7 p8 p9 p10 p11 p12 ++ (extsB l ++ tailB id nak mac)) 0 = p0 * 64 + p1 * 8 + p2 := rfl
  have i1 : rd (fixB p0 p1 p2 p3 p4 p5 p6 p7 p8 p9 p10 p11 p12 ++ (extsB l ++ tailB id nak mac)) 1 = p3 % 256 := rfl
  have i2 : rd (fixB p0 p1 p2 p3 p4 p5 p6 p7 p8 p9 p10 p11 p12 ++ (extsB l ++ tailB id nak mac)) 2 = p4 % 256 := rfl
  have i3 : rd (fixB p0 p1 p2 p3 p4 p5 p6 p7 p8 p9 p10 p11 p12 ++ (extsB l ++ tailB id nak mac)) 3 = p5 % 256 := rfl
  have i4 : sub (fixB p0 p1 p2 p3 p4 p5 p6 p7 p8 p9 p10 p11 p12 ++ (extsB l ++ tailB id nak mac)) 4 4 = B4 (shortV p6) := rfl
  have i8 : sub (fixB p0 p1 p2 p3 p4 p5 p6 p7 p8 p9 p10 p11 p12 ++ (extsB l ++ tailB id nak mac)) 8 4 = B4 (shortV p7) := rfl
  have i12 : sub (fixB p0 p1 p2 p3 p4 p5 p6 p7 p8 p9 p10 p11 p12 ++ (extsB l ++ tailB id nak mac)) 12 4 = B4 p8 := rfl
  have i16 : sub (fixB p0 p1 p2 p3 p4 p5 p6 p7 p8 p9 p10 p11 p12 ++ (extsB l ++ tailB id nak mac)) 16 8 = B8 p9 := rfl
  have i24 : sub (fixB p0 p1 p2 p3 p4 p5 p6 p7 p8 p9 p10 p11 p12 ++ (extsB l ++ tailB id nak mac)) 24 8 = B8 p10 := rfl
  have i32 : sub (fixB p0 p1 p2 p3 p4 p5 p6 p7 p8 p9 p10 p11 p12 ++ (extsB l ++ tailB id nak mac)) 32 8 = B8 p11 := rfl
  have i40 : sub (fixB p0 p1 p2 p3 p4 p5 p6 p7 p8 p9 p10 p11 p12 ++ (extsB l ++ tailB id nak mac)) 40 8 = B8 p12 := rfl
  rw [hb]
  unfold decD
  have hhd : ∀ l' id' nak' mac', hdD (fixB p0 p1 p2 p3 p4 p5 p6 p7 p8 p9 p10 p11 p12 ++ (extsB l ++ tailB id nak mac)) l' id' nak' mac' = ⟨p0, p1, p2, p3, p4, p5, shortV p6 * 65536, shortV p7 * 65536, p8, p9, p10, p11, p12, l', id', nak', mac', 0⟩ := by
    intro l' id' nak' mac'
    unfold hdD
    rw [i0, i1, i2, i3, i4, i8, i12, i16, i24, i32, i40, byte_sg _ r4, byte_sg _ r5, num4 _ s6.1 s6.2, num4 _ s7.1 s7.2, num4 _ h8.1 h8.2, num8 _ h9.1 h9.2, num8 _ h10.1 h10.2, num8 _ h11.1 h11.2, num8 _ h12.1 h12.2]
    congr 1 <;> omega
  have htr := trail_rng h.trail
  rw [i0, if_neg (by omega), if_neg (by split at hlen <;> omega), if_pos (by omega), if_pos (by omega), hd48, extsD_of l [] (tailB id nak mac) 5 h.exts htl (by have := h.few; simp only [List.length_nil]; omega) (by have := h.few; omega)]
  unfold finD
  rw [if_neg (fun h => h rfl)]
  dsimp only
  rcases hmc with ⟨rfl, rfl⟩ | ⟨a, b, c⟩
  · cases nak with
    | true =>
      have e1 : tailB 0 true [] = B4 0 := rfl
      rw [e1] at hhd ⊢
      rw [if_pos (show ((B4 0).length : Int) = 4 ∧ num (B4 0) = 0 from ⟨rfl, rfl⟩), hhd]
      rfl
    | false =>
      have e1 : tailB 0 false [] = [] := rfl
      rw [e1] at hhd ⊢
      rw [if_neg (by decide)]
      exact hhd l 0 false []
  · have hnk : nak = false := by
      cases nak with
      | true => have := h.zid rfl; omega
      | false => rfl
    subst hnk
    have e1 : tailB id false mac = B4 id ++ mac := if_neg (fun h => by omega)
    have i5 : sub (B4 id ++ mac) 0 4 = B4 id := rfl
    have i6 : (B4 id ++ mac).drop 4 = mac := rfl
    rw [e1] at hhd ⊢
    have hlm : (B4 id ++ mac).length = 4 + mac.length := by rw [List.length_append, len4]
    rw [if_neg (fun h => by omega)]
    have e2 : endD (B4 id ++ mac) = some (id, mac) := by
      unfold endD
      rw [i5, num4 id (by omega) (by omega), if_neg (by omega), if_pos (by omega), i6]
    rw [e2]
    exact hhd l id false mac
theorem encB_len (p0 p1 p2 p3 p4 p5 p6 p7 p8 p9 p10 p11 p12 : Int) (l : List S45) (id : Int) (nak : Bool) (mac : List Int) (h : Good p0 p1 p2 p3 p4 p5 p6 p7 l id nak mac) : (encB p0 p1 p2 p3 p4 p5 p6 p7 p8 p9 p10 p11 p12 l id nak mac).length % 4 = 0 ∧ 48 ≤ (encB p0 p1 p2 p3 p4 p5 p6 p7 p8 p9 p10 p11 p12 l id nak mac).length ∧ (encB p0 p1 p2 p3 p4 p5 p6 p7 p8 p9 p10 p11 p12 l id nak mac).length ≤ 512 := by
  have h1 := msgB_len p0 p1 p2 p3 p4 p5 p6 p7 p8 p9 p10 p11 p12 l
  have h2 := extsB_mod l h.exts
  have h0 := extsN_0 l
  have hs := h.size
  have hmc := trail_mac h.trail
  have ht : ((tailB id nak mac).length : Int) = (if nak = true then 4 else trailLen id mac) ∧ (tailB id nak mac).length % 4 = 0 := by
    unfold tailB trailLen
    rcases hmc with ⟨rfl, rfl⟩ | ⟨a, b, c⟩
    · cases nak <;> exact ⟨rfl, rfl⟩
    · rw [if_neg (fun h => by omega), if_neg (show ¬ id = 0 by omega), if_neg (fun hn => by have := h.zid hn; omega), List.length_append, len4]; omega
  unfold encB
  rw [List.length_append]
  omega
theorem By.cons {x : Int} {l : List Int} (hx : 0 ≤ x ∧ x < 256) (h : By l) : By (x :: l) := fun y hy => (List.mem_cons.1 hy).elim (fun e => by rw [e]; exact hx) (h y)
theorem extsB_by : ∀ l : List S45, (∀ x ∈ l, By x.f1) → By (extsB l)
  | [], _ => By.nil
  | x :: l, h => (extB_by x (h x (by simp))).append (extsB_by l fun y hy => h y (List.mem_cons_of_mem _ hy))
theorem encB_by (p0 p1 p2 p3 p4 p5 p6 p7 p8 p9 p10 p11 p12 : Int) (l : List S45) (id : Int) (nak : Bool) (mac : List Int) (h : Good p0 p1 p2 p3 p4 p5 p6 p7 l id nak mac) (hl : ∀ x ∈ l, By x.f1) (hm : By mac) : By (encB p0 p1 p2 p3 p4 p5 p6 p7 p8 p9 p10 p11 p12 l id nak mac) := by
  obtain ⟨r0, r1, r2, r3, r4, r5, r6, r7⟩ := small_rng h.small
  unfold encB msgB fixB tailB
  refine By.append (By.append ?_ (extsB_by l hl)) ?_
  · exact (((((((By.cons (by omega) (By.cons (by omega) (By.cons (by omega) (By.cons (by omega) By.nil)))).append (by4 _)).append (by4 _)).append (by4 _)).append (by8 _)).append (by8 _)).append (by8 _)).append (by8 _)
  · split
    · exact By.nil
    · exact (by4 _).append hm
end Go.Proofs.Ytamhnlcdmjefmaa.Q
