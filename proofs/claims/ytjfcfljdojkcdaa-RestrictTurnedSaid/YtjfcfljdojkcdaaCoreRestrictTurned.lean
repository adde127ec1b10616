/- Plain lemmas on the functions that the law RestrictTurned reaches: whole numbers, no program in sight. -/
import Derived.Test.YtjfcfljdojkcdaaPRestrictTurnedx
namespace Go.Proofs.Ytjfcfljdojkcdaa.CRestrictTurned
open Go.RowKit Go.Proofs.Ytjfcfljdojkcdaa.PRestrictTurned Go.Proofs.YtjfcfljdojkcdaaW.PrintWords Go.Proofs.YtjfcfljdojkcdaaW.PrintLast Go.Proofs.YtjfcfljdojkcdaaW.PrintMore
set_option linter.unusedVariables false
set_option linter.unusedSimpArgs false
/-! ### bits of numbers of 32 bits -/
theorem Ev.succ {α : Type} {g : Nat → Option α} {r : α} (h : ∀ k, g (k + 1) = some r) : Ev g r := Ev.step h (Ev.now r)
theorem Ev.const {α : Type} {g : Option α} {r : α} (h : g = some r) : Ev (fun _ => g) r := by rw [h]; exact Ev.now r
theorem w64_in {n : Int} (h0 : -9223372036854775808 ≤ n) (h1 : n ≤ 9223372036854775807) : wrap64 n = n := by
  unfold wrap64; omega
theorem wf64 {n : Int} (h : (Lit.int .i64 n).wf = true) : -9223372036854775808 ≤ n ∧ n ≤ 9223372036854775807 := by
  simpa [Lit.wf, IntKind.min, IntKind.max, IntKind.signed, IntKind.bits] using h
theorem wf32 {n : Int} (h : (Lit.int .u32 n).wf = true) : 0 ≤ n ∧ n ≤ 4294967295 := by
  simpa [Lit.wf, IntKind.min, IntKind.max, IntKind.signed, IntKind.bits] using h
theorem u32_in (n : Int) (h₀ : 0 ≤ n) (h₁ : n < 2 ^ 32) : IntKind.u32.wrap n = n := by rw [IntKind.wrap_u32]; omega
theorem i64_in (n : Int) (h₀ : 0 ≤ n) (h₁ : n < 2 ^ 63) : IntKind.i64.wrap n = n := by rw [IntKind.wrap_i64]; omega
theorem or_i64 (a b : Nat) (ha : a < 256) (hb : b < 256) : Go.bits .or .i64 a b = ((a ||| b : Nat) : Int) :=
  (bits_nat .i64 8 (by decide) (fun n h0 h1 => i64_in n h0 (by omega)) a b ha hb).2
theorem and_u32 (a b : Nat) (ha : a < 4294967296) (hb : b < 4294967296) : Go.bits .and .u32 a b = ((a &&& b : Nat) : Int) :=
  (bits_nat .u32 32 (by decide) u32_in a b ha hb).1
def msk (s : Nat) : Nat := (2 ^ (32 - s) - 1) <<< s
theorem msk_bit (s i : Nat) : (msk s).testBit i = (decide (s ≤ i) && decide (i - s < 32 - s)) := by
  simp [msk, Nat.testBit_shiftLeft, Nat.testBit_two_pow_sub_one]
theorem msk_lt (s : Nat) : msk s < 4294967296 := by
  apply Nat.lt_pow_two_of_testBit (n := 32)
  intro i hi
  rw [msk_bit]
  by_cases h : s ≤ i
  · simp [h]; omega
  · simp [h]
theorem mask_all : ∀ b : Fin 33, IntKind.u32.wrap (4294967295 * 2 ^ min ((32 : Int) - b.val).toNat 32) = ((msk (32 - b.val) : Nat) : Int) := by decide
theorem mask_eq (b : Nat) (h : b ≤ 32) : restrict_mask.f (b : Int) = some ((msk (32 - b) : Nat) : Int) := by
  unfold restrict_mask.f
  rw [w64_in (by omega) (by omega), if_pos (by omega)]
  congr 1
  exact mask_all ⟨b, by omega⟩
theorem and_msk (a s : Nat) (ha : a < 4294967296) (hs : s ≤ 32) : a &&& msk s = a / 2 ^ s * 2 ^ s := by
  apply Nat.eq_of_testBit_eq
  intro i
  rw [Nat.testBit_and, msk_bit, Nat.testBit_mul_two_pow, Nat.testBit_div_two_pow]
  by_cases h : s ≤ i
  · by_cases h2 : i < 32
    · have h3 : i - s < 32 - s := by omega
      simp [h, h3]
    · have h3 : a.testBit i = false := Nat.testBit_lt_two_pow (Nat.lt_of_lt_of_le (show a < 2 ^ 32 by omega) (Nat.pow_le_pow_right (by decide) (by omega)))
      rw [show i - s + s = i by omega, h3]
      simp
  · simp [h]
theorem andnot_msk (a s : Nat) (ha : a < 4294967296) (hs : s ≤ 32) : Go.bits .andNot .u32 (a : Int) ((msk s : Nat) : Int) = ((a % 2 ^ s : Nat) : Int) := by
  have hb : (BitVec.ofNat 32 a &&& ~~~ BitVec.ofNat 32 (msk s)).toNat = a % 2 ^ s := by
    apply Nat.eq_of_testBit_eq
    intro i
    rw [BitVec.testBit_toNat, BitVec.getLsbD_and, BitVec.getLsbD_not, BitVec.getLsbD_ofNat, BitVec.getLsbD_ofNat, msk_bit, Nat.testBit_mod_two_pow]
    by_cases h2 : i < 32
    · by_cases h : s ≤ i
      · have h3 : i - s < 32 - s := by omega
        have h4 : ¬ i < s := by omega
        simp [h, h2, h3, h4]
      · have h4 : i < s := by omega
        simp [h, h2, h4]
    · have h3 : a.testBit i = false := Nat.testBit_lt_two_pow (Nat.lt_of_lt_of_le (show a < 2 ^ 32 by omega) (Nat.pow_le_pow_right (by decide) (by omega)))
      simp [h2, h3]
  have h : Go.bits .andNot .u32 (a : Int) ((msk s : Nat) : Int) = IntKind.u32.wrap ((BitVec.ofNat 32 a &&& ~~~ BitVec.ofNat 32 (msk s)).toNat : Int) := by
    unfold Go.bits
    rw [BitVec.ofInt_natCast, BitVec.ofInt_natCast]
    rfl
  rw [h, hb]
  have : a % 2 ^ s ≤ a := Nat.mod_le _ _
  exact u32_in _ (by omega) (by omega)
theorem bit_u32 (a j : Nat) (ha : a < 4294967296) (hj : j ≤ 32) : Go.bits .and .u32 (shr .u32 (a : Int) (j : Int)) 1 = ((a / 2 ^ j % 2 : Nat) : Int) := by
  have h1 : shr .u32 (a : Int) (j : Int) = ((a / 2 ^ j : Nat) : Int) := by
    unfold shr
    rw [show min (j : Int).toNat IntKind.u32.bits = j by simp [IntKind.bits]; omega]
    simp
  have h2 : a / 2 ^ j ≤ a := Nat.div_le_self _ _
  rw [h1, show (1 : Int) = ((1 : Nat) : Int) from rfl, and_u32 _ _ (by omega) (by omega)]
  rw [show (1 : Nat) = 2 ^ 1 - 1 from rfl, Nat.and_two_pow_sub_one_eq_mod]
/-! ### the rules -/
/-- A rule may be. -/
def V (r : S26) : Prop := 0 ≤ r.f1 ∧ r.f1 ≤ 32 ∧ 0 ≤ r.f2 ∧ r.f2 ≤ 255 ∧ r.f0.toNat % 2 ^ (32 - r.f1.toNat) = 0
instance (r : S26) : Decidable (V r) := by unfold V; infer_instance
def spk (D : Nat) (r : S26) : Prop := V r ∧ r.f0.toNat / 2 ^ (32 - r.f1.toNat) = D / 2 ^ (32 - r.f1.toNat)
instance (D : Nat) (r : S26) : Decidable (spk D r) := by unfold spk; infer_instance
def st (D : Nat) (s : Int × Nat) (r : S26) : Int × Nat := if spk D r then (if r.f1 > s.1 then (r.f1, r.f2.toNat) else if r.f1 = s.1 then (s.1, s.2 ||| r.f2.toNat) else s) else s
theorem st_comm (D : Nat) (a b : S26) (z : Int × Nat) : st D (st D z a) b = st D (st D z b) a := by
  obtain ⟨z0, z1⟩ := z
  unfold st
  by_cases ha : spk D a
  · by_cases hb : spk D b
    · simp only [ha, hb, if_true]
      rcases Int.lt_trichotomy a.f1 z0 with h1 | h1 | h1 <;> rcases Int.lt_trichotomy b.f1 z0 with h2 | h2 | h2 <;> rcases Int.lt_trichotomy a.f1 b.f1 with h3 | h3 | h3 <;>
        (first | (exfalso; omega) | skip) <;>
        simp only [show (a.f1 > z0) = (z0 < a.f1) from rfl, show (b.f1 > z0) = (z0 < b.f1) from rfl] <;>
        grind
    · simp only [ha, hb, if_true, if_false]
  · by_cases hb : spk D b
    · simp only [ha, hb, if_true, if_false]
    · simp only [ha, hb, if_false]
theorem check_eq (r : S26) (h : okS26 r) : restrict_Check.f r.f0 r.f1 r.f2 = some (if V r then 0 else 60) := by
  obtain ⟨h0, h1, h2⟩ := h
  obtain ⟨h0, h0'⟩ := wf32 h0
  unfold restrict_Check.f
  by_cases c1 : r.f1 < 0
  · rw [if_pos c1, if_neg (by unfold V; omega)]
  rw [if_neg c1]
  by_cases c2 : r.f1 > 32
  · rw [if_pos c2, if_neg (by unfold V; omega)]
  rw [if_neg c2]
  by_cases c3 : r.f2 < 0
  · rw [if_pos c3, if_neg (by unfold V; omega)]
  rw [if_neg c3]
  by_cases c4 : r.f2 > 255
  · rw [if_pos c4, if_neg (by unfold V; omega)]
  rw [if_neg c4]
  have e1 : r.f1 = ((r.f1.toNat : Nat) : Int) := by omega
  have e0 : r.f0 = ((r.f0.toNat : Nat) : Int) := by omega
  have hm := mask_eq r.f1.toNat (by omega)
  rw [← e1] at hm
  rw [hm, Option.bind_some]
  have ha := andnot_msk r.f0.toNat (32 - r.f1.toNat) (by omega) (by omega)
  rw [← e0] at ha
  rw [ha]
  by_cases c5 : r.f0.toNat % 2 ^ (32 - r.f1.toNat) = 0
  · rw [c5, if_pos (by rfl), if_pos (by unfold V; omega)]
  · rw [if_neg (by omega), if_neg (by unfold V; omega)]
theorem ref_check_l0 (F s : Nat) (hF : F < 4294967296) (hs : s ≤ 32) (f2 : Int) : ∀ (d j : Nat), j + d = s → F % 2 ^ j = 0 → Ev (fun k => foliotref06_Check.l0 k (j : Int) (F : Int) (32 - (s : Int)) f2) (if F % 2 ^ s = 0 then 0 else 60)
  | 0, j, hd, hj => by
    have : j = s := by omega
    subst this
    refine Ev.succ fun k => ?_
    simp only [foliotref06_Check.l0]
    rw [w64_in (by omega) (by omega), if_neg (by omega), if_pos hj]
  | d + 1, j, hd, hj => by
    by_cases c : F / 2 ^ j % 2 = 1
    · refine Ev.succ fun k => ?_
      simp only [foliotref06_Check.l0]
      rw [w64_in (by omega) (by omega), if_pos (by omega), if_pos (by omega), bit_u32 F j hF (by omega), c, if_pos (by rfl), if_neg]
      intro h
      have h1 : F % 2 ^ s % 2 ^ (j + 1) = F % 2 ^ (j + 1) := Nat.mod_mod_of_dvd _ (Nat.pow_dvd_pow 2 (by omega))
      rw [h, Nat.zero_mod, Nat.mod_pow_succ, hj, c] at h1
      have := Nat.two_pow_pos j
      omega
    · have h1 : F % 2 ^ (j + 1) = 0 := by
        rw [Nat.mod_pow_succ, hj, show F / 2 ^ j % 2 = 0 by omega]
        simp
      refine Ev.step (f := fun k => foliotref06_Check.l0 k ((j + 1 : Nat) : Int) (F : Int) (32 - (s : Int)) f2) (fun k => ?_) (ref_check_l0 F s hF hs f2 d (j + 1) (by omega) h1)
      simp only [foliotref06_Check.l0]
      rw [w64_in (n := 32 - (32 - (s : Int))) (by omega) (by omega), if_pos (by omega), if_pos (by omega), bit_u32 F j hF (by omega), if_neg (by omega), w64_in (by omega) (by omega)]
      rfl
theorem ref_check (r : S26) (h : okS26 r) : Ev (fun k => foliotref06_Check.f k r.f0 r.f1 r.f2) (if V r then 0 else 60) := by
  obtain ⟨h0, h1, h2⟩ := h
  obtain ⟨h0, h0'⟩ := wf32 h0
  unfold foliotref06_Check.f
  have bad : ∀ a b c, Ev (fun k => foliotref06_Check.j0 k true a b c) 60 := fun a b c => Ev.succ fun k => by simp only [foliotref06_Check.j0, if_true]
  by_cases c1 : r.f1 < 0
  · simp only [if_pos c1]; rw [if_neg (by unfold V; omega)]; exact bad _ _ _
  simp only [if_neg c1]
  by_cases c2 : r.f1 > 32
  · simp only [if_pos c2]; rw [if_neg (by unfold V; omega)]; exact bad _ _ _
  simp only [if_neg c2]
  by_cases c3 : r.f2 < 0
  · simp only [if_pos c3]; rw [if_neg (by unfold V; omega)]; exact bad _ _ _
  simp only [if_neg c3]
  by_cases c4 : r.f2 > 255
  · rw [if_neg (by unfold V; omega)]; simp only [decide_eq_true c4]; exact bad _ _ _
  have e0 : r.f0 = ((r.f0.toNat : Nat) : Int) := by omega
  have e1 : (32 - ((32 - r.f1.toNat : Nat) : Int)) = r.f1 := by omega
  have := ref_check_l0 r.f0.toNat (32 - r.f1.toNat) (by omega) (by omega) r.f2 (32 - r.f1.toNat) 0 (by omega) (by simp [Nat.mod_one])
  rw [← e0, e1] at this
  rw [show (if V r then (0 : Int) else 60) = if r.f0.toNat % 2 ^ (32 - r.f1.toNat) = 0 then 0 else 60 from by
    by_cases c5 : r.f0.toNat % 2 ^ (32 - r.f1.toNat) = 0
    · rw [if_pos c5, if_pos (by unfold V; omega)]
    · rw [if_neg c5, if_neg (by unfold V; omega)]]
  refine Ev.step (fun k => ?_) this
  simp only [decide_eq_false c4, foliotref06_Check.j0]
  rfl
theorem half (x t : Nat) : x / 2 ^ t = 2 * (x / 2 ^ (t + 1)) + x / 2 ^ t % 2 := by
  have : x / 2 ^ (t + 1) = x / 2 ^ t / 2 := by rw [Nat.pow_succ, Nat.div_div_eq_div_mul]
  omega
theorem ref_speaks_l0 (F D s : Nat) (hF : F < 4294967296) (hD : D < 4294967296) (hs : s ≤ 32) (f2 : Int) : ∀ (d t : Nat), t = s + d → t ≤ 32 → F / 2 ^ t = D / 2 ^ t → Ev (fun k => foliotref06_speaks.l0 k (D : Int) (32 - (t : Int)) (F : Int) (32 - (s : Int)) f2) (decide (F / 2 ^ s = D / 2 ^ s))
  | 0, t, hd, ht, h => by
    have : t = s := by omega
    subst this
    refine Ev.succ fun k => ?_
    simp only [foliotref06_speaks.l0]
    rw [if_neg (by omega), decide_eq_true h]
  | d + 1, t, hd, ht, h => by
    obtain ⟨u, rfl⟩ : ∃ u, t = u + 1 := ⟨t - 1, by omega⟩
    have e : wrap64 (31 - (32 - ((u + 1 : Nat) : Int))) = (u : Int) := by rw [w64_in (by omega) (by omega)]; omega
    by_cases c : F / 2 ^ u % 2 = D / 2 ^ u % 2
    · have h1 : F / 2 ^ u = D / 2 ^ u := by
        rw [half F u, half D u, h, c]
      refine Ev.step (f := fun k => foliotref06_speaks.l0 k (D : Int) (32 - (u : Int)) (F : Int) (32 - (s : Int)) f2) (fun k => ?_) (ref_speaks_l0 F D s hF hD hs f2 d u (by omega) (by omega) h1)
      simp only [foliotref06_speaks.l0]
      rw [e, if_pos (by omega), if_pos (by omega), bit_u32 F u hF (by omega), bit_u32 D u hD (by omega), c, if_pos rfl, w64_in (by omega) (by omega), show 32 - ((u + 1 : Nat) : Int) + 1 = 32 - (u : Int) by omega]
    · refine Ev.succ fun k => ?_
      simp only [foliotref06_speaks.l0]
      rw [e, if_pos (by omega), if_pos (by omega), bit_u32 F u hF (by omega), bit_u32 D u hD (by omega), if_neg (by omega)]
      congr 1
      symm
      apply decide_eq_false
      intro h2
      apply c
      have h3 : ∀ x : Nat, x / 2 ^ u = x / 2 ^ s / 2 ^ (u - s) := by
        intro x
        rw [Nat.div_div_eq_div_mul, ← Nat.pow_add, show s + (u - s) = u by omega]
      rw [h3 F, h3 D, h2]
theorem ref_speaks (r : S26) (h : okS26 r) (D : Nat) (hD : D < 4294967296) (hv : V r) : Ev (fun k => foliotref06_speaks.f k r.f0 r.f1 r.f2 (D : Int)) (decide (spk D r)) := by
  obtain ⟨h0, h1, h2⟩ := h
  obtain ⟨h0, h0'⟩ := wf32 h0
  have e0 : r.f0 = ((r.f0.toNat : Nat) : Int) := by omega
  have hv' := hv
  unfold V at hv'
  have e1 : (32 - ((32 - r.f1.toNat : Nat) : Int)) = r.f1 := by omega
  have h3 : ∀ x : Nat, x < 4294967296 → x / 2 ^ 32 = 0 := fun x hx => Nat.div_eq_of_lt hx
  have := ref_speaks_l0 r.f0.toNat D (32 - r.f1.toNat) (by omega) hD (by omega) r.f2 (32 - (32 - r.f1.toNat)) 32 (by omega) (by omega) (by rw [h3 _ (by omega), h3 _ hD])
  rw [← e0, e1] at this
  unfold foliotref06_speaks.f
  have e2 : decide (spk D r) = decide (r.f0.toNat / 2 ^ (32 - r.f1.toNat) = D / 2 ^ (32 - r.f1.toNat)) := by
    unfold spk
    simp [hv]
  rw [e2]
  exact this
theorem match_l0 (D : Nat) (hD : D < 4294967296) (l : List S26) (hl : ∀ r ∈ l, okS26 r) (hn : l.length ≤ 1024) : ∀ (d i : Nat) (b : Int) (n : Nat), i + d = l.length → n < 256 →
    Ev (fun k => restrict_Match.l0 k (D : Int) b (n : Int) l (l.length : Int) (i : Int)) (((l.drop i).foldl (st D) (b, n)).2 : Int)
  | 0, i, b, n, hd, hb => by
    refine Ev.succ fun k => ?_
    simp only [restrict_Match.l0]
    rw [if_neg (by omega), List.drop_eq_nil_of_le (by omega)]
    rfl
  | d + 1, i, b, n, hd, hb => by
    have hi : i < l.length := by omega
    have hr := hl _ (List.getElem_mem hi)
    rw [List.drop_eq_getElem_cons hi, List.foldl_cons]
    have e1 : rd_T26 l (i : Int) = l[i] := by
      unfold rd_T26
      rw [List.getD_eq_getElem?_getD, Int.toNat_natCast, List.getElem?_eq_getElem hi]
      rfl
    generalize hrr : l[i] = r at *
    have next : ∀ b' (n' : Nat), n' < 256 → Ev (fun k => restrict_Match.l0 k (D : Int) b' (n' : Int) l (l.length : Int) (wrap64 ((i : Int) + 1))) (((l.drop (i + 1)).foldl (st D) (b', n')).2 : Int) := by
      intro b' n' h'
      rw [w64_in (by omega) (by omega)]
      exact match_l0 D hD l hl hn d (i + 1) b' n' (by omega) h'
    have skip : ∀ f0 f1 f2, ¬ spk D r → Ev (fun k => restrict_Match.j1 k (D : Int) b (n : Int) l (l.length : Int) (i : Int) true f0 f1 f2) (((l.drop (i + 1)).foldl (st D) (st D (b, n) r)).2 : Int) := by
      intro f0 f1 f2 hs
      rw [show st D (b, n) r = (b, n) by unfold st; rw [if_neg hs]]
      refine Ev.step (fun k => ?_) (next b n hb)
      simp only [restrict_Match.j1, if_true]
    by_cases hv : V r
    · have hv' := hv
      unfold V at hv'
      obtain ⟨h0, h0'⟩ := wf32 hr.1
      have e2 : r.f1 = ((r.f1.toNat : Nat) : Int) := by omega
      have e3 : r.f0 = ((r.f0.toNat : Nat) : Int) := by omega
      have hm := mask_eq r.f1.toNat (by omega)
      rw [← e2] at hm
      have ha : Go.bits .and .u32 (D : Int) ((msk (32 - r.f1.toNat) : Nat) : Int) = ((D / 2 ^ (32 - r.f1.toNat) * 2 ^ (32 - r.f1.toNat) : Nat) : Int) := by
        rw [and_u32 _ _ hD (msk_lt _), and_msk _ _ hD (by omega)]
      have main : Ev (fun k => restrict_Match.j1 k (D : Int) b (n : Int) l (l.length : Int) (i : Int) ((Go.bits .and .u32 (D : Int) ((msk (32 - r.f1.toNat) : Nat) : Int)) != r.f0) r.f0 r.f1 r.f2) (((l.drop (i + 1)).foldl (st D) (st D (b, n) r)).2 : Int) := by
        rw [ha]
        have hz := Nat.div_add_mod r.f0.toNat (2 ^ (32 - r.f1.toNat))
        rw [hv'.2.2.2.2, Nat.mul_comm] at hz
        by_cases hs : spk D r
        · have e4 : ((((D / 2 ^ (32 - r.f1.toNat) * 2 ^ (32 - r.f1.toNat) : Nat) : Int)) != r.f0) = false := by
            rw [← hs.2, show r.f0.toNat / 2 ^ (32 - r.f1.toNat) * 2 ^ (32 - r.f1.toNat) = r.f0.toNat by omega, ← e3]
            simp
          rw [e4]
          have e5 : r.f2 = ((r.f2.toNat : Nat) : Int) := by omega
          by_cases c1 : r.f1 > b
          · rw [show st D (b, n) r = (r.f1, r.f2.toNat) by unfold st; rw [if_pos hs, if_pos c1]]
            refine Ev.step (fun k => ?_) (next r.f1 r.f2.toNat (by omega))
            simp only [restrict_Match.j1]
            rw [if_neg (by decide), if_pos c1, ← e5]
          · by_cases c2 : r.f1 = b
            · rw [show st D (b, n) r = (b, n ||| r.f2.toNat) by unfold st; rw [if_pos hs, if_neg c1, if_pos c2]]
              refine Ev.step (fun k => ?_) (next b (n ||| r.f2.toNat) (Nat.or_lt_two_pow (n := 8) hb (by omega)))
              simp only [restrict_Match.j1]
              rw [if_neg (by decide), if_neg c1, if_pos c2, ← or_i64 _ _ hb (by omega), ← e5]
            · rw [show st D (b, n) r = (b, n) by unfold st; rw [if_pos hs, if_neg c1, if_neg c2]]
              refine Ev.step (fun k => ?_) (next b n hb)
              simp only [restrict_Match.j1]
              rw [if_neg (by decide), if_neg c1, if_neg c2]
        · have e4 : ((((D / 2 ^ (32 - r.f1.toNat) * 2 ^ (32 - r.f1.toNat) : Nat) : Int)) != r.f0) = true := by
            have h1 : ¬ r.f0.toNat / 2 ^ (32 - r.f1.toNat) = D / 2 ^ (32 - r.f1.toNat) := fun h => hs ⟨hv, h⟩
            have h2 : D / 2 ^ (32 - r.f1.toNat) * 2 ^ (32 - r.f1.toNat) ≠ r.f0.toNat := by
              intro h
              apply h1
              rw [show r.f0.toNat = D / 2 ^ (32 - r.f1.toNat) * 2 ^ (32 - r.f1.toNat) from h.symm, Nat.mul_div_cancel _ (Nat.two_pow_pos _)]
            generalize D / 2 ^ (32 - r.f1.toNat) * 2 ^ (32 - r.f1.toNat) = q at h2
            simp only [bne_iff_ne, ne_eq]
            omega
          rw [e4]
          exact skip _ _ _ hs
      refine Ev.step (fun k => ?_) main
      simp only [restrict_Match.l0]
      rw [if_pos (by omega), if_pos (by omega), if_pos (by omega), e1, check_eq r hr, if_pos hv, Option.bind_some, if_pos rfl, hm, Option.bind_some]
    · refine Ev.step (fun k => ?_) (skip r.f0 r.f1 r.f2 (fun h => hv h.1))
      simp only [restrict_Match.l0]
      rw [if_pos (by omega), if_pos (by omega), if_pos (by omega), e1, check_eq r hr, if_neg hv, Option.bind_some, if_neg (by decide)]
theorem ref_match_l0 (D : Nat) (hD : D < 4294967296) (l : List S26) (hl : ∀ r ∈ l, okS26 r) (hn : l.length ≤ 1024) : ∀ (d i : Nat) (b : Int) (n : Nat), i + d = l.length → n < 256 →
    Ev (fun k => foliotref06_Match.l0 k (D : Int) b (n : Int) l (l.length : Int) (i : Int)) (((l.drop i).foldl (st D) (b, n)).2 : Int)
  | 0, i, b, n, hd, hb => by
    refine Ev.succ fun k => ?_
    simp only [foliotref06_Match.l0]
    rw [if_neg (by omega), List.drop_eq_nil_of_le (by omega)]
    rfl
  | d + 1, i, b, n, hd, hb => by
    have hi : i < l.length := by omega
    have hr := hl _ (List.getElem_mem hi)
    rw [List.drop_eq_getElem_cons hi, List.foldl_cons]
    have e1 : rd_T26 l (i : Int) = l[i] := by
      unfold rd_T26
      rw [List.getD_eq_getElem?_getD, Int.toNat_natCast, List.getElem?_eq_getElem hi]
      rfl
    generalize hrr : l[i] = r at *
    have next : ∀ b' (n' : Nat), n' < 256 → Ev (fun k => foliotref06_Match.l0 k (D : Int) b' (n' : Int) l (l.length : Int) (wrap64 ((i : Int) + 1))) (((l.drop (i + 1)).foldl (st D) (b', n')).2 : Int) := by
      intro b' n' h'
      rw [w64_in (by omega) (by omega)]
      exact ref_match_l0 D hD l hl hn d (i + 1) b' n' (by omega) h'
    have skip : ∀ f0 f1 f2, st D (b, n) r = (b, n) → Ev (fun k => foliotref06_Match.j1 k (D : Int) b (n : Int) l (l.length : Int) (i : Int) true f0 f1 f2) (((l.drop (i + 1)).foldl (st D) (st D (b, n) r)).2 : Int) := by
      intro f0 f1 f2 hs
      rw [hs]
      refine Ev.step (fun k => ?_) (next b n hb)
      simp only [foliotref06_Match.j1, if_true]
    have hno : ¬ spk D r → st D (b, n) r = (b, n) := fun hs => by unfold st; rw [if_neg hs]
    by_cases hv : V r
    · have hv' := hv
      unfold V at hv'
      obtain ⟨h0, h0'⟩ := wf32 hr.1
      have main : Ev (fun k => if decide (spk D r) = true then foliotref06_Match.j1 k (D : Int) b (n : Int) l (l.length : Int) (i : Int) (decide (r.f1 < b)) r.f0 r.f1 r.f2 else foliotref06_Match.j1 k (D : Int) b (n : Int) l (l.length : Int) (i : Int) true r.f0 r.f1 r.f2) (((l.drop (i + 1)).foldl (st D) (st D (b, n) r)).2 : Int) := by
        by_cases hs : spk D r
        · simp only [decide_eq_true hs, if_true]
          have e5 : r.f2 = ((r.f2.toNat : Nat) : Int) := by omega
          by_cases c0 : r.f1 < b
          · rw [decide_eq_true c0]
            exact skip _ _ _ (by unfold st; rw [if_pos hs]; simp only [show ¬ r.f1 > b by omega, show ¬ r.f1 = b by omega, if_false])
          rw [decide_eq_false c0]
          by_cases c1 : r.f1 > b
          · rw [show st D (b, n) r = (r.f1, r.f2.toNat) by unfold st; rw [if_pos hs, if_pos c1]]
            refine Ev.step (fun k => ?_) (next r.f1 r.f2.toNat (by omega))
            simp only [foliotref06_Match.j1]
            have e6 := or_i64 0 r.f2.toNat (by decide) (by omega)
            rw [Nat.zero_or, ← e5] at e6
            rw [if_neg (by decide), if_pos c1, ← e5]
            exact congrArg (fun z => foliotref06_Match.l0 k (D : Int) r.f1 z l (l.length : Int) (wrap64 ((i : Int) + 1))) e6
          · have c2 : r.f1 = b := by omega
            rw [show st D (b, n) r = (b, n ||| r.f2.toNat) by unfold st; rw [if_pos hs, if_neg c1, if_pos c2]]
            refine Ev.step (fun k => ?_) (next b (n ||| r.f2.toNat) (Nat.or_lt_two_pow (n := 8) hb (by omega)))
            simp only [foliotref06_Match.j1]
            rw [if_neg (by decide), if_neg c1, ← or_i64 _ _ hb (by omega), ← e5]
        · simp only [decide_eq_false hs]
          exact skip _ _ _ (hno hs)
      have hc := ref_check r hr
      rw [if_pos hv] at hc
      refine Ev.step (f := fun k => (foliotref06_Check.f k r.f0 r.f1 r.f2).bind fun t111 => if t111 = 0 then ((foliotref06_speaks.f k r.f0 r.f1 r.f2 (D : Int)).bind fun t112 => if t112 = true then foliotref06_Match.j1 k (D : Int) b (n : Int) l (l.length : Int) (i : Int) (decide (r.f1 < b)) r.f0 r.f1 r.f2 else foliotref06_Match.j1 k (D : Int) b (n : Int) l (l.length : Int) (i : Int) true r.f0 r.f1 r.f2) else foliotref06_Match.j1 k (D : Int) b (n : Int) l (l.length : Int) (i : Int) true r.f0 r.f1 r.f2) (fun k => ?_) (Ev.bind hc ?_)
      · simp only [foliotref06_Match.l0]
        rw [if_pos (by omega), if_pos (by omega), if_pos (by omega), e1]
      · simp only [if_true]
        exact Ev.bind (ref_speaks r hr D hD hv) main
    · have hc := ref_check r hr
      rw [if_neg hv] at hc
      refine Ev.step (f := fun k => (foliotref06_Check.f k r.f0 r.f1 r.f2).bind fun t111 => if t111 = 0 then ((foliotref06_speaks.f k r.f0 r.f1 r.f2 (D : Int)).bind fun t112 => if t112 = true then foliotref06_Match.j1 k (D : Int) b (n : Int) l (l.length : Int) (i : Int) (decide (r.f1 < b)) r.f0 r.f1 r.f2 else foliotref06_Match.j1 k (D : Int) b (n : Int) l (l.length : Int) (i : Int) true r.f0 r.f1 r.f2) else foliotref06_Match.j1 k (D : Int) b (n : Int) l (l.length : Int) (i : Int) true r.f0 r.f1 r.f2) (fun k => ?_) (Ev.bind hc ?_)
      · simp only [foliotref06_Match.l0]
        rw [if_pos (by omega), if_pos (by omega), if_pos (by omega), e1]
      · simp only [show ¬ (60 : Int) = 0 by decide, if_false]
        exact skip _ _ _ (hno (fun h => hv h.1))
/-- What rules say of an address. -/
def said (D : Nat) (l : List S26) : Int := ((l.foldl (st D) (-1, 0)).2 : Int)
theorem ev_match (D : Nat) (hD : D < 4294967296) (l : List S26) (hl : ∀ r ∈ l, okS26 r) (hn : l.length ≤ 1024) : Ev (fun k => restrict_Match.f k l (D : Int)) (said D l) := by
  have := match_l0 D hD l hl hn l.length 0 (-1) 0 (by omega) (by decide)
  exact this
theorem ev_ref_match (D : Nat) (hD : D < 4294967296) (l : List S26) (hl : ∀ r ∈ l, okS26 r) (hn : l.length ≤ 1024) : Ev (fun k => foliotref06_Match.f k l (D : Int)) (said D l) := by
  have := ref_match_l0 D hD l hl hn l.length 0 (-1) 0 (by omega) (by decide)
  exact this
theorem said_perm (D : Nat) {l m : List S26} (h : l.Perm m) : said D l = said D m := by
  unfold said
  rw [List.Perm.foldl_eq' h (fun x _ y _ z => st_comm D x y z) (-1, 0)]
theorem law_j1 (D : Nat) (hD : D < 4294967296) (l m : List S26) (hl : ∀ r ∈ l, okS26 r) (hn : l.length ≤ 1024) (hp : m.Perm l) : Ev (fun k => foliotlaw06_RestrictTurned.j1 k l (D : Int) m) true := by
  have hm : ∀ r ∈ m, okS26 r := fun r hr => hl r (hp.mem_iff.1 hr)
  have hmn : m.length ≤ 1024 := by rw [hp.length_eq]; exact hn
  have a1 := ev_match D hD l hl hn
  have a2 := ev_match D hD m hm hmn
  have a3 := ev_ref_match D hD l hl hn
  rw [said_perm D hp] at a2
  refine Ev.step (fun k => ?_) (Ev.bind (f := fun k t125 => (restrict_Match.f k m (D : Int)).bind fun t126 => if t125 = t126 then (restrict_Match.f k m (D : Int)).bind fun t127 => (foliotref06_Match.f k l (D : Int)).bind fun t128 => some (t127 == t128) else some false) a1 (Ev.bind (f := fun k t126 => if said D l = t126 then (restrict_Match.f k m (D : Int)).bind fun t127 => (foliotref06_Match.f k l (D : Int)).bind fun t128 => some (t127 == t128) else some false) a2 ?_))
  · simp only [foliotlaw06_RestrictTurned.j1]
  · simp only [if_true]
    refine Ev.bind a2 (Ev.bind a3 ?_)
    simp only [BEq.rfl]
    exact Ev.now _
theorem tmod_in (p : Int) (n : Nat) (h0 : 0 < n) (h1 : n ≤ 1024) : ∃ j : Nat, j < n ∧ Int.tmod (wrap64 ((Int.tmod p (n : Int)) + (n : Int))) (n : Int) = (j : Int) := by
  have h2 : -(n : Int) < Int.tmod p n ∧ Int.tmod p n < n := by
    have a := Int.tmod_lt_of_pos p (b := (n : Int)) (by omega)
    have b := Int.lt_tmod_of_pos p (b := (n : Int)) (by omega)
    exact ⟨b, a⟩
  rw [w64_in (by omega) (by omega), Int.tmod_eq_emod_of_nonneg (by omega)]
  have a := Int.emod_nonneg (Int.tmod p n + n) (b := (n : Int)) (by omega)
  have b := Int.emod_lt_of_pos (Int.tmod p n + n) (b := (n : Int)) (by omega)
  exact ⟨((Int.tmod p n + n) % (n : Int)).toNat, by omega, by omega⟩
theorem rd_at (l : List S26) (i : Nat) (h : i < l.length) : rd_T26 l (i : Int) = l[i] := by
  unfold rd_T26
  rw [List.getD_eq_getElem?_getD, Int.toNat_natCast, List.getElem?_eq_getElem h]
  rfl
theorem law_l0 (D : Nat) (hD : D < 4294967296) (l : List S26) (q : List Int) (hl : ∀ r ∈ l, okS26 r) (hn : l.length ≤ 1024) : ∀ (d i : Nat) (m : List S26), i + d = m.length → m.Perm l →
    Ev (fun k => foliotlaw06_RestrictTurned.l0 k l q (D : Int) m (i : Int)) true
  | 0, i, m, hd, hp => by
    refine Ev.step (fun k => ?_) (law_j1 D hD l m hl hn hp)
    simp only [foliotlaw06_RestrictTurned.l0]
    rw [if_neg (by omega)]
  | d + 1, i, m, hd, hp => by
    have hm := hp.length_eq
    by_cases c : (i : Int) < (q.length : Int)
    · obtain ⟨j, hj, e⟩ := tmod_in (rd q (i : Int)) m.length (by omega) (by omega)
      have hi : i < m.length := by omega
      have e2 : ((m.set i m[j]).set j m[i]).length = m.length := by simp
      have p2 := (List.set_set_perm hi hj : ((m.set i m[j]).set j m[i]).Perm m)
      refine Ev.step (f := fun k => foliotlaw06_RestrictTurned.l0 k l q (D : Int) ((m.set i m[j]).set j m[i]) ((i + 1 : Nat) : Int)) (fun k => ?_) (law_l0 D hD l q hl hn d (i + 1) _ (by omega) (p2.trans hp))
      simp only [foliotlaw06_RestrictTurned.l0]
      rw [e, if_pos (by omega), if_pos c, if_pos (by omega), if_neg (by omega), if_pos (by omega), if_pos (by omega), rd_at m j hj, rd_at m i hi, w64_in (by omega) (by omega), Int.toNat_natCast, Int.toNat_natCast]
      rfl
    · refine Ev.step (fun k => ?_) (law_j1 D hD l m hl hn hp)
      simp only [foliotlaw06_RestrictTurned.l0]
      rw [if_pos (by omega), if_neg c]
theorem RestrictTurned : foliotlaw06_RestrictTurned.Pure := by
  intro l q a h1 h2 hl h4 h5 h6 ha
  obtain ⟨ha0, ha1⟩ := wf32 ha
  unfold foliotlaw06_RestrictTurned.f
  by_cases c : (l.length : Int) > 1024
  · exact ⟨0, by rw [if_pos c]⟩
  · have := law_l0 a.toNat (by omega) l q hl (by omega) l.length 0 l (by omega) (List.Perm.refl _)
    rw [Int.toNat_of_nonneg ha0] at this
    obtain ⟨k, hk⟩ := this.rounds
    refine ⟨k, ?_⟩
    rw [if_neg c, Option.bind_some, if_pos (by simp only [List.length_nil]; omega), List.nil_append]
    exact hk

end Go.Proofs.Ytjfcfljdojkcdaa.CRestrictTurned
