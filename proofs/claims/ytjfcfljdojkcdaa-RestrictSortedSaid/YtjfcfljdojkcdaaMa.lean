/- Plain lemmas on the printed functions: whole numbers and lists, no program in sight. -/
import Derived.Test.YtjfcfljdojkcdaaRa
import Derived.Laws.BitsLemmas
namespace Go.Proofs.Ytjfcfljdojkcdaa.Q
open Go Go.RowKit Go.Proofs.Ytjfcfljdojkcdaa.Ev
set_option linter.unusedVariables false
set_option linter.unusedSimpArgs false
set_option maxRecDepth 100000
def okR (x : S26) : Prop := (Lit.int .u32 x.f0).wf = true ∧ (Lit.int .i64 x.f1).wf = true ∧ (Lit.int .i64 x.f2).wf = true
/-! ### bits of numbers of 32 bits -/
theorem wf32 {n : Int} (h : (Lit.int .u32 n).wf = true) : 0 ≤ n ∧ n ≤ 4294967295 := by
  simpa [Lit.wf, IntKind.min, IntKind.max, IntKind.signed, IntKind.bits] using h
theorem u32_in (n : Int) (h₀ : 0 ≤ n) (h₁ : n < 2 ^ 32) : IntKind.u32.wrap n = n := by rw [IntKind.wrap_u32]; omega
theorem i64_in (n : Int) (h₀ : 0 ≤ n) (h₁ : n < 2 ^ 63) : IntKind.i64.wrap n = n := by rw [IntKind.wrap_i64]; omega
theorem or_i64 (a b : Nat) (ha : a < 256) (hb : b < 256) : Go.bits .or .i64 a b = ((a ||| b : Nat) : Int) :=
  (bits_nat .i64 8 (by decide) (fun n h0 h1 => i64_in n h0 (by omega)) a b ha hb).2
theorem and_u32 (a b : Nat) (ha : a < 4294967296) (hb : b < 4294967296) : Go.bits .and .u32 a b = ((a &&& b : Nat) : Int) :=
  (bits_nat .u32 32 (by decide) u32_in a b ha hb).1
def msk (s : Nat) : Nat := (2 ^ (32 - s) - 1) <<< s
theorem msk_bit (s i : Nat) : (msk s).testBit i = (decide (s ≤ i) && decide (i - s < 32 - s)) := by
  simp [msk, Nat.testBit_shiftLeft, Nat.testBit_two_pow_sub_one]
theorem msk_lt (s : Nat) : msk s < 4294967296 := by
  apply Nat.lt_pow_two_of_testBit (n := 32)
  intro i hi
  rw [msk_bit]
  by_cases h : s ≤ i
  · simp [h]; omega
  · simp [h]
theorem mask_all : ∀ b : Fin 33, IntKind.u32.wrap (4294967295 * 2 ^ min ((32 : Int) - b.val).toNat 32) = ((msk (32 - b.val) : Nat) : Int) := by decide
theorem mask_eq (b : Nat) (h : b ≤ 32) : restrict_mask.f (b : Int) = some ((msk (32 - b) : Nat) : Int) := by
  unfold restrict_mask.f
  rw [w64_in (by omega) (by omega), if_pos (by omega)]
  congr 1
  exact mask_all ⟨b, by omega⟩
theorem and_msk (a s : Nat) (ha : a < 4294967296) (hs : s ≤ 32) : a &&& msk s = a / 2 ^ s * 2 ^ s := by
  apply Nat.eq_of_testBit_eq
  intro i
  rw [Nat.testBit_and, msk_bit, Nat.testBit_mul_two_pow, Nat.testBit_div_two_pow]
  by_cases h : s ≤ i
  · by_cases h2 : i < 32
    · have h3 : i - s < 32 - s := by omega
      simp [h, h3]
    · have h3 : a.testBit i = false := Nat.testBit_lt_two_pow (Nat.lt_of_lt_of_le (show a < 2 ^ 32 by omega) (Nat.pow_le_pow_right (by decide) (by omega)))
      rw [show i - s + s = i by omega, h3]
      simp
  · simp [h]
theorem andnot_msk (a s : Nat) (ha : a < 4294967296) (hs : s ≤ 32) : Go.bits .andNot .u32 (a : Int) ((msk s : Nat) : Int) = ((a % 2 ^ s : Nat) : Int) := by
  have hb : (BitVec.ofNat 32 a &&& ~~~ BitVec.ofNat 32 (msk s)).toNat = a % 2 ^ s := by
    apply Nat.eq_of_testBit_eq
    intro i
    rw [BitVec.testBit_toNat, BitVec.getLsbD_and, BitVec.getLsbD_not, BitVec.getLsbD_ofNat, BitVec.getLsbD_ofNat, msk_bit, Nat.testBit_mod_two_pow]
    by_cases h2 : i < 32
    · by_cases h : s ≤ i
      · have h3 : i - s < 32 - s := by omega
        have h4 : ¬ i < s := by omega
        simp [h, h2, h3, h4]
      · have h4 : i < s := by omega
        simp [h, h2, h4]
    · have h3 : a.testBit i = false := Nat.testBit_lt_two_pow (Nat.lt_of_lt_of_le (show a < 2 ^ 32 by omega) (Nat.pow_le_pow_right (by decide) (by omega)))
      simp [h2, h3]
  have h : Go.bits .andNot .u32 (a : Int) ((msk s : Nat) : Int) = IntKind.u32.wrap ((BitVec.ofNat 32 a &&& ~~~ BitVec.ofNat 32 (msk s)).toNat : Int) := by
    unfold Go.bits
    rw [BitVec.ofInt_natCast, BitVec.ofInt_natCast]
    rfl
  rw [h, hb]
  have : a % 2 ^ s ≤ a := Nat.mod_le _ _
  exact u32_in _ (by omega) (by omega)
theorem bit_u32 (a j : Nat) (ha : a < 4294967296) (hj : j ≤ 32) : Go.bits .and .u32 (shr .u32 (a : Int) (j : Int)) 1 = ((a / 2 ^ j % 2 : Nat) : Int) := by
  have h1 : shr .u32 (a : Int) (j : Int) = ((a / 2 ^ j : Nat) : Int) := by
    unfold shr
    rw [show min (j : Int).toNat IntKind.u32.bits = j by simp [IntKind.bits]; omega]
    simp
  have h2 : a / 2 ^ j ≤ a := Nat.div_le_self _ _
  rw [h1, show (1 : Int) = ((1 : Nat) : Int) from rfl, and_u32 _ _ (by omega) (by omega)]
  rw [show (1 : Nat) = 2 ^ 1 - 1 from rfl, Nat.and_two_pow_sub_one_eq_mod]
/-! ### the rules -/
/-- A rule may be. -/
def V (r : S26) : Prop := 0 ≤ r.f1 ∧ r.f1 ≤ 32 ∧ 0 ≤ r.f2 ∧ r.f2 ≤ 255 ∧ r.f0.toNat % 2 ^ (32 - r.f1.toNat) = 0
instance (r : S26) : Decidable (V r) := by unfold V; infer_instance
def spk (D : Nat) (r : S26) : Prop := V r ∧ r.f0.toNat / 2 ^ (32 - r.f1.toNat) = D / 2 ^ (32 - r.f1.toNat)
instance (D : Nat) (r : S26) : Decidable (spk D r) := by unfold spk; infer_instance
def st (D : Nat) (s : Int × Nat) (r : S26) : Int × Nat := if spk D r then (if r.f1 > s.1 then (r.f1, r.f2.toNat) else if r.f1 = s.1 then (s.1, s.2 ||| r.f2.toNat) else s) else s
theorem st_comm (D : Nat) (a b : S26) (z : Int × Nat) : st D (st D z a) b = st D (st D z b) a := by
  obtain ⟨z0, z1⟩ := z
  unfold st
  by_cases ha : spk D a
  · by_cases hb : spk D b
    · simp only [ha, hb, if_true]
      rcases Int.lt_trichotomy a.f1 z0 with h1 | h1 | h1 <;> rcases Int.lt_trichotomy b.f1 z0 with h2 | h2 | h2 <;> rcases Int.lt_trichotomy a.f1 b.f1 with h3 | h3 | h3 <;>
        (first | (exfalso; omega) | skip) <;>
        simp only [show (a.f1 > z0) = (z0 < a.f1) from rfl, show (b.f1 > z0) = (z0 < b.f1) from rfl] <;>
        grind
    · simp only [ha, hb, if_true, if_false]
  · by_cases hb : spk D b
    · simp only [ha, hb, if_true, if_false]
    · simp only [ha, hb, if_false]
theorem check_eq (r : S26) (h : okR r) : restrict_Check.f r.f0 r.f1 r.f2 = some (if V r then 0 else 60) := by
  obtain ⟨h0, h1, h2⟩ := h
  obtain ⟨h0, h0'⟩ := wf32 h0
  unfold restrict_Check.f
  by_cases c1 : r.f1 < 0
  · rw [if_pos c1, if_neg (by unfold V; omega)]
  rw [if_neg c1]
  by_cases c2 : r.f1 > 32
  · rw [if_pos c2, if_neg (by unfold V; omega)]
  rw [if_neg c2]
  by_cases c3 : r.f2 < 0
  · rw [if_pos c3, if_neg (by unfold V; omega)]
  rw [if_neg c3]
  by_cases c4 : r.f2 > 255
  · rw [if_pos c4, if_neg (by unfold V; omega)]
  rw [if_neg c4]
  have e1 : r.f1 = ((r.f1.toNat : Nat) : Int) := by omega
  have e0 : r.f0 = ((r.f0.toNat : Nat) : Int) := by omega
  have hm := mask_eq r.f1.toNat (by omega)
  rw [← e1] at hm
  rw [hm, bsome]
  have ha := andnot_msk r.f0.toNat (32 - r.f1.toNat) (by omega) (by omega)
  rw [← e0] at ha
  rw [ha]
  by_cases c5 : r.f0.toNat % 2 ^ (32 - r.f1.toNat) = 0
  · rw [c5, if_neg (by simp), if_pos (by unfold V; omega)]
  · rw [if_pos (show ¬ ((r.f0.toNat % 2 ^ (32 - r.f1.toNat) : Nat) : Int) = 0 from fun h => c5 (Int.ofNat.inj h)), if_neg (fun h => c5 h.2.2.2.2)]
theorem ref_check_l0 (F s : Nat) (hF : F < 4294967296) (hs : s ≤ 32) (f2 : Int) : ∀ (d j : Nat), j + d = s → F % 2 ^ j = 0 → Ev (fun k => foliotref06_Check.l0 k (j : Int) (F : Int) (32 - (s : Int)) f2) (if F % 2 ^ s = 0 then 0 else 60)
  | 0, j, hd, hj => by
    have : j = s := by omega
    subst this
    refine Ev.succ fun k => ?_
    simp only [foliotref06_Check.l0]
    rw [w64_in (by omega) (by omega), if_neg (by omega), if_pos hj]
  | d + 1, j, hd, hj => by
    by_cases c : F / 2 ^ j % 2 = 1
    · refine Ev.succ fun k => ?_
      simp only [foliotref06_Check.l0]
      rw [w64_in (by omega) (by omega), if_pos (by omega), if_pos (by omega), bit_u32 F j hF (by omega), c, if_pos (by rfl), if_neg]
      intro h
      have h1 : F % 2 ^ s % 2 ^ (j + 1) = F % 2 ^ (j + 1) := Nat.mod_mod_of_dvd _ (Nat.pow_dvd_pow 2 (by omega))
      rw [h, Nat.zero_mod, Nat.mod_pow_succ, hj, c] at h1
      have := Nat.two_pow_pos j
      omega
    · have h1 : F % 2 ^ (j + 1) = 0 := by
        rw [Nat.mod_pow_succ, hj, show F / 2 ^ j % 2 = 0 by omega]
        simp
      refine Ev.step (f := fun k => foliotref06_Check.l0 k ((j + 1 : Nat) : Int) (F : Int) (32 - (s : Int)) f2) (fun k => ?_) (ref_check_l0 F s hF hs f2 d (j + 1) (by omega) h1)
      simp only [foliotref06_Check.l0]
      rw [w64_in (n := 32 - (32 - (s : Int))) (by omega) (by omega), if_pos (by omega), if_pos (by omega), bit_u32 F j hF (by omega), if_neg (by omega), w64_in (by omega) (by omega)]
      rfl
theorem ref_check (r : S26) (h : okR r) : Ev (fun k => foliotref06_Check.f k r.f0 r.f1 r.f2) (if V r then 0 else 60) := by
  obtain ⟨h0, h1, h2⟩ := h
  obtain ⟨h0, h0'⟩ := wf32 h0
  unfold foliotref06_Check.f
  by_cases c1 : r.f1 < 0
  · rw [if_neg (by unfold V; omega)]; exact Ev.congr (fun k => if_pos c1) (Ev.now _)
  by_cases c2 : r.f1 > 32
  · rw [if_neg (by unfold V; omega)]; exact Ev.congr (fun k => (if_neg c1).trans (if_pos c2)) (Ev.now _)
  by_cases c3 : r.f2 < 0
  · rw [if_neg (by unfold V; omega)]; exact Ev.congr (fun k => (if_neg c1).trans ((if_neg c2).trans (if_pos c3))) (Ev.now _)
  by_cases c4 : r.f2 > 255
  · rw [if_neg (by unfold V; omega)]; exact Ev.congr (fun k => (if_neg c1).trans ((if_neg c2).trans ((if_neg c3).trans (if_pos c4)))) (Ev.now _)
  have e0 : r.f0 = ((r.f0.toNat : Nat) : Int) := by omega
  have e1 : (32 - ((32 - r.f1.toNat : Nat) : Int)) = r.f1 := by omega
  have := ref_check_l0 r.f0.toNat (32 - r.f1.toNat) (by omega) (by omega) r.f2 (32 - r.f1.toNat) 0 (by omega) (by simp [Nat.mod_one])
  rw [← e0, e1] at this
  rw [show (if V r then (0 : Int) else 60) = if r.f0.toNat % 2 ^ (32 - r.f1.toNat) = 0 then 0 else 60 from by
    by_cases c5 : r.f0.toNat % 2 ^ (32 - r.f1.toNat) = 0
    · rw [if_pos c5, if_pos (by unfold V; omega)]
    · rw [if_neg c5, if_neg (fun h => c5 h.2.2.2.2)]]
  exact Ev.congr (fun k => (if_neg c1).trans ((if_neg c2).trans ((if_neg c3).trans (if_neg c4)))) this
theorem half (x t : Nat) : x / 2 ^ t = 2 * (x / 2 ^ (t + 1)) + x / 2 ^ t % 2 := by
  have : x / 2 ^ (t + 1) = x / 2 ^ t / 2 := by rw [Nat.pow_succ, Nat.div_div_eq_div_mul]
  omega
theorem ref_speaks_l0 (F D s : Nat) (hF : F < 4294967296) (hD : D < 4294967296) (hs : s ≤ 32) (f2 : Int) : ∀ (d t : Nat), t = s + d → t ≤ 32 → F / 2 ^ t = D / 2 ^ t → Ev (fun k => foliotref06_speaks.l0 k (D : Int) (32 - (t : Int)) (F : Int) (32 - (s : Int)) f2) (decide (F / 2 ^ s = D / 2 ^ s))
  | 0, t, hd, ht, h => by
    have : t = s := by omega
    subst this
    refine Ev.succ fun k => ?_
    simp only [foliotref06_speaks.l0]
    rw [if_neg (by omega), decide_eq_true h]
  | d + 1, t, hd, ht, h => by
    obtain ⟨u, rfl⟩ : ∃ u, t = u + 1 := ⟨t - 1, by omega⟩
    have e : wrap64 (31 - (32 - ((u + 1 : Nat) : Int))) = (u : Int) := by rw [w64_in (by omega) (by omega)]; omega
    by_cases c : F / 2 ^ u % 2 = D / 2 ^ u % 2
    · have h1 : F / 2 ^ u = D / 2 ^ u := by
        rw [half F u, half D u, h, c]
      refine Ev.step (f := fun k => foliotref06_speaks.l0 k (D : Int) (32 - (u : Int)) (F : Int) (32 - (s : Int)) f2) (fun k => ?_) (ref_speaks_l0 F D s hF hD hs f2 d u (by omega) (by omega) h1)
      simp only [foliotref06_speaks.l0]
      rw [e, if_pos (by omega), if_pos (by omega), if_pos (by omega), bit_u32 F u hF (by omega), bit_u32 D u hD (by omega), c, if_neg (fun h => h rfl), w64_in (by omega) (by omega), show 32 - ((u + 1 : Nat) : Int) + 1 = 32 - (u : Int) by omega]
    · refine Ev.succ fun k => ?_
      simp only [foliotref06_speaks.l0]
      rw [e, if_pos (by omega), if_pos (by omega), if_pos (by omega), bit_u32 F u hF (by omega), bit_u32 D u hD (by omega), if_pos (by omega)]
      congr 1
      symm
      apply decide_eq_false
      intro h2
      apply c
      have h3 : ∀ x : Nat, x / 2 ^ u = x / 2 ^ s / 2 ^ (u - s) := by
        intro x
        rw [Nat.div_div_eq_div_mul, ← Nat.pow_add, show s + (u - s) = u by omega]
      rw [h3 F, h3 D, h2]
theorem ref_speaks (r : S26) (h : okR r) (D : Nat) (hD : D < 4294967296) (hv : V r) : Ev (fun k => foliotref06_speaks.f k r.f0 r.f1 r.f2 (D : Int)) (decide (spk D r)) := by
  obtain ⟨h0, h1, h2⟩ := h
  obtain ⟨h0, h0'⟩ := wf32 h0
  have e0 : r.f0 = ((r.f0.toNat : Nat) : Int) := by omega
  have hv' := hv
  unfold V at hv'
  have e1 : (32 - ((32 - r.f1.toNat : Nat) : Int)) = r.f1 := by omega
  have h3 : ∀ x : Nat, x < 4294967296 → x / 2 ^ 32 = 0 := fun x hx => Nat.div_eq_of_lt hx
  have := ref_speaks_l0 r.f0.toNat D (32 - r.f1.toNat) (by omega) hD (by omega) r.f2 (32 - (32 - r.f1.toNat)) 32 (by omega) (by omega) (by rw [h3 _ (by omega), h3 _ hD])
  rw [← e0, e1] at this
  unfold foliotref06_speaks.f
  have e2 : decide (spk D r) = decide (r.f0.toNat / 2 ^ (32 - r.f1.toNat) = D / 2 ^ (32 - r.f1.toNat)) := by
    unfold spk
    simp [hv]
  rw [e2]
  exact this
theorem match_l0 (D : Nat) (hD : D < 4294967296) (l : List S26) (hl : ∀ r ∈ l, okR r) (hn : l.length ≤ 6000000000000) : ∀ (d i : Nat) (b : Int) (n : Nat), i + d = l.length → n < 256 →
    Ev (fun k => restrict_Match.l0 k (D : Int) b (n : Int) l (l.length : Int) (i : Int)) (((l.drop i).foldl (st D) (b, n)).2 : Int)
  | 0, i, b, n, hd, hb => by
    refine Ev.succ fun k => ?_
    rw [restrict_Match.l0, if_neg (by omega), List.drop_eq_nil_of_le (by omega)]
    rfl
  | d + 1, i, b, n, hd, hb => by
    have hi : i < l.length := by omega
    have hr := hl _ (List.getElem_mem hi)
    rw [List.drop_eq_getElem_cons hi, List.foldl_cons]
    have e1 : rdOf z_S26 l (i : Int) = l[i] := by simp [rdOf, hi]
    generalize hrr : l[i] = r at *
    have next : ∀ b' (n' : Nat), n' < 256 → Ev (fun k => restrict_Match.l0 k (D : Int) b' (n' : Int) l (l.length : Int) (wrap64 ((i : Int) + 1))) (((l.drop (i + 1)).foldl (st D) (b', n')).2 : Int) := by
      intro b' n' h'
      rw [wrap_succ i (by omega)]
      exact match_l0 D hD l hl hn d (i + 1) b' n' (by omega) h'
    have c1 : (i : Int) < (l.length : Int) := by omega
    have c0 : (0 : Int) ≤ (i : Int) := by omega
    by_cases hv : V r
    · have hv' := hv
      unfold V at hv'
      obtain ⟨h0, h0'⟩ := wf32 hr.1
      have e2 : r.f1 = ((r.f1.toNat : Nat) : Int) := by omega
      have e3 : r.f0 = ((r.f0.toNat : Nat) : Int) := by omega
      have e5 : r.f2 = ((r.f2.toNat : Nat) : Int) := by omega
      have e6 := or_i64 n r.f2.toNat hb (by omega)
      rw [← e5] at e6
      have hm := mask_eq r.f1.toNat (by omega)
      rw [← e2] at hm
      have ha : Go.bits .and .u32 (D : Int) ((msk (32 - r.f1.toNat) : Nat) : Int) = ((D / 2 ^ (32 - r.f1.toNat) * 2 ^ (32 - r.f1.toNat) : Nat) : Int) := by
        rw [and_u32 _ _ hD (msk_lt _), and_msk _ _ hD (by omega)]
      have hz := Nat.div_add_mod r.f0.toNat (2 ^ (32 - r.f1.toNat))
      rw [hv'.2.2.2.2, Nat.mul_comm] at hz
      refine Ev.step (fun k => by rw [restrict_Match.l0, if_pos c1, if_pos c0, if_pos c1, e1, check_eq r hr, if_pos hv, bsome, if_neg (fun h => h rfl), hm, bsome, ha]) ?_
      by_cases hs : spk D r
      · have e4 : ((D / 2 ^ (32 - r.f1.toNat) * 2 ^ (32 - r.f1.toNat) : Nat) : Int) = r.f0 := by
          rw [← hs.2, show r.f0.toNat / 2 ^ (32 - r.f1.toNat) * 2 ^ (32 - r.f1.toNat) = r.f0.toNat by omega, ← e3]
        refine Ev.congr (fun k => if_neg (fun h => h e4)) ?_
        by_cases d1 : r.f1 > b
        · rw [show st D (b, n) r = (r.f1, r.f2.toNat) by unfold st; rw [if_pos hs, if_pos d1]]
          have g := next r.f1 r.f2.toNat (by omega)
          rw [← e5] at g
          exact Ev.congr (fun k => if_pos d1) g
        · by_cases d2 : r.f1 = b
          · rw [show st D (b, n) r = (b, n ||| r.f2.toNat) by unfold st; rw [if_pos hs, if_neg d1, if_pos d2]]
            have g := next b (n ||| r.f2.toNat) (Nat.or_lt_two_pow (n := 8) hb (by omega))
            rw [← e6] at g
            exact Ev.congr (fun k => (if_neg d1).trans (if_pos d2)) g
          · rw [show st D (b, n) r = (b, n) by unfold st; rw [if_pos hs, if_neg d1, if_neg d2]]
            exact Ev.congr (fun k => (if_neg d1).trans (if_neg d2)) (next b n hb)
      · have e4 : ¬ ((D / 2 ^ (32 - r.f1.toNat) * 2 ^ (32 - r.f1.toNat) : Nat) : Int) = r.f0 := by
          have h1 : ¬ r.f0.toNat / 2 ^ (32 - r.f1.toNat) = D / 2 ^ (32 - r.f1.toNat) := fun h => hs ⟨hv, h⟩
          have h2 : D / 2 ^ (32 - r.f1.toNat) * 2 ^ (32 - r.f1.toNat) ≠ r.f0.toNat := by
            intro h
            apply h1
            rw [show r.f0.toNat = D / 2 ^ (32 - r.f1.toNat) * 2 ^ (32 - r.f1.toNat) from h.symm, Nat.mul_div_cancel _ (Nat.two_pow_pos _)]
          generalize D / 2 ^ (32 - r.f1.toNat) * 2 ^ (32 - r.f1.toNat) = q at h2
          omega
        rw [show st D (b, n) r = (b, n) by unfold st; rw [if_neg hs]]
        exact Ev.congr (fun k => if_pos e4) (next b n hb)
    · rw [show st D (b, n) r = (b, n) by unfold st; rw [if_neg (fun h => hv h.1)]]
      refine Ev.step (fun k => ?_) (next b n hb)
      rw [restrict_Match.l0, if_pos c1, if_pos c0, if_pos c1, e1, check_eq r hr, if_neg hv, bsome, if_pos (by decide)]
theorem ref_match_l0 (D : Nat) (hD : D < 4294967296) (l : List S26) (hl : ∀ r ∈ l, okR r) (hn : l.length ≤ 6000000000000) : ∀ (d i : Nat) (b : Int) (n : Nat), i + d = l.length → n < 256 →
    Ev (fun k => foliotref06_Match.l0 k (D : Int) b (n : Int) l (l.length : Int) (i : Int)) (((l.drop i).foldl (st D) (b, n)).2 : Int)
  | 0, i, b, n, hd, hb => by
    refine Ev.succ fun k => ?_
    rw [foliotref06_Match.l0, if_neg (by omega), List.drop_eq_nil_of_le (by omega)]
    rfl
  | d + 1, i, b, n, hd, hb => by
    have hi : i < l.length := by omega
    have hr := hl _ (List.getElem_mem hi)
    rw [List.drop_eq_getElem_cons hi, List.foldl_cons]
    have e1 : rdOf z_S26 l (i : Int) = l[i] := by simp [rdOf, hi]
    generalize hrr : l[i] = r at *
    have next : ∀ b' (n' : Nat), n' < 256 → Ev (fun k => foliotref06_Match.l0 k (D : Int) b' (n' : Int) l (l.length : Int) (wrap64 ((i : Int) + 1))) (((l.drop (i + 1)).foldl (st D) (b', n')).2 : Int) := by
      intro b' n' h'
      rw [wrap_succ i (by omega)]
      exact ref_match_l0 D hD l hl hn d (i + 1) b' n' (by omega) h'
    have c1 : (i : Int) < (l.length : Int) := by omega
    have c0 : (0 : Int) ≤ (i : Int) := by omega
    by_cases hv : V r
    · have hv' := hv
      unfold V at hv'
      obtain ⟨h0, h0'⟩ := wf32 hr.1
      have e2 : r.f1 = ((r.f1.toNat : Nat) : Int) := by omega
      have e3 : r.f0 = ((r.f0.toNat : Nat) : Int) := by omega
      have e5 : r.f2 = ((r.f2.toNat : Nat) : Int) := by omega
      have e6 := or_i64 n r.f2.toNat hb (by omega)
      rw [← e5] at e6
      have e7 := or_i64 0 r.f2.toNat (by decide) (by omega)
      rw [← e5, Nat.zero_or] at e7
      refine Ev.step (fun k => by rw [foliotref06_Match.l0, if_pos c1, if_pos c0, if_pos c1, e1]) ?_
      have hc := ref_check r hr
      rw [if_pos hv] at hc
      refine Ev.bind (f := fun k t => _) hc ?_
      refine Ev.congr (fun k => if_neg (fun h => h rfl)) ?_
      refine Ev.bind (f := fun k t => _) (ref_speaks r hr D hD hv) ?_
      by_cases hs : spk D r
      · rw [decide_eq_true hs]
        by_cases d1 : r.f1 > b
        · rw [show st D (b, n) r = (r.f1, r.f2.toNat) by unfold st; rw [if_pos hs, if_pos d1]]
          have g := next r.f1 r.f2.toNat (by omega)
          rw [← e7] at g
          exact Ev.congr (fun k => (if_neg (show ¬ r.f1 < b by omega)).trans (if_pos d1)) g
        · by_cases d2 : r.f1 = b
          · rw [show st D (b, n) r = (b, n ||| r.f2.toNat) by unfold st; rw [if_pos hs, if_neg d1, if_pos d2]]
            have g := next b (n ||| r.f2.toNat) (Nat.or_lt_two_pow (n := 8) hb (by omega))
            rw [← e6] at g
            exact Ev.congr (fun k => (if_neg (show ¬ r.f1 < b by omega)).trans (if_neg d1)) g
          · rw [show st D (b, n) r = (b, n) by unfold st; rw [if_pos hs, if_neg d1, if_neg d2]]
            exact Ev.congr (fun k => if_pos (show r.f1 < b by omega)) (next b n hb)
      · rw [decide_eq_false hs, show st D (b, n) r = (b, n) by unfold st; rw [if_neg hs]]
        exact next b n hb
    · rw [show st D (b, n) r = (b, n) by unfold st; rw [if_neg (fun h => hv h.1)]]
      refine Ev.step (fun k => by rw [foliotref06_Match.l0, if_pos c1, if_pos c0, if_pos c1, e1]) ?_
      have hc := ref_check r hr
      rw [if_neg hv] at hc
      refine Ev.bind (f := fun k t => _) hc ?_
      exact Ev.congr (fun k => if_pos (by decide)) (next b n hb)
def said (D : Nat) (l : List S26) : Int := ((l.foldl (st D) (-1, 0)).2 : Int)
theorem ev_match (D : Nat) (hD : D < 4294967296) (l : List S26) (hl : ∀ r ∈ l, okR r) (hn : l.length ≤ 6000000000000) : Ev (fun k => restrict_Match.f k l (D : Int)) (said D l) := by
  have := match_l0 D hD l hl hn l.length 0 (-1) 0 (by omega) (by decide)
  exact this
theorem ev_ref_match (D : Nat) (hD : D < 4294967296) (l : List S26) (hl : ∀ r ∈ l, okR r) (hn : l.length ≤ 6000000000000) : Ev (fun k => foliotref06_Match.f k l (D : Int)) (said D l) := by
  have := ref_match_l0 D hD l hl hn l.length 0 (-1) 0 (by omega) (by decide)
  exact this
theorem said_perm (D : Nat) {l m : List S26} (h : l.Perm m) : said D l = said D m := by
  unfold said
  rw [List.Perm.foldl_eq' h (fun x _ y _ z => st_comm D x y z) (-1, 0)]
end Go.Proofs.Ytjfcfljdojkcdaa.Q
