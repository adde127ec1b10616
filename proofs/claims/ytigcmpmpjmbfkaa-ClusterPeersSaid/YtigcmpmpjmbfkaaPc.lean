/- Plain lemmas on the printed functions: whole numbers, no program in sight. -/
import Derived.Test.YtigcmpmpjmbfkaaPb
import Derived.Laws.BitsLemmas
namespace Go.Proofs.Ytigcmpmpjmbfkaa.Q
open Go Go.RowKit Go.Proofs.Ytigcmpmpjmbfkaa.Ev
set_option linter.unusedVariables false
set_option linter.unusedSimpArgs false
set_option maxRecDepth 100000
theorem ev_spanB {n : Nat} {l : List Int} {m : Bool} {x : Int} (h : Big n l m x) (hn : n ≤ 1000) : Ev (fun k => foliotref01_span.f k l m) (sat x) := by
  unfold foliotref01_span.f
  exact Ev.bind (ev_cutB h hn _ (by omega) (by omega)) (Ev.now _)
theorem ev_s (a : Int) (ha0 : -9223372036854775808 ≤ a) (ha : a ≤ 9223372036854775807) : ∃ l, Ev (fun k => foliotref01_s.f k a) (decide (a < 0), l) ∧ Big 4 l (decide (a < 0)) a := by
  obtain ⟨l, h, hb⟩ := ev_of a ha0 ha
  exact ⟨l, Ev.bind h (Ev.now _), hb⟩
theorem ev_sumB {n n' : Nat} {a b : List Int} {m m' : Bool} {x y : Int} (h : Big n a m x) (h' : Big n' b m' y) (hn : n ≤ 200) (hn' : n' ≤ 200) : ∃ r q, Ev (fun k => foliotref01_sum.f k a m b m') (q, r) ∧ Big (max n n' + 1) r q (x + y) := by
  obtain ⟨ha, hla, hx⟩ := h; obtain ⟨hb, hlb, hy⟩ := h'
  unfold foliotref01_sum.f
  by_cases hm : m = m'
  · subst hm
    obtain ⟨r, hr, rn, rv, rl⟩ := ev_plus a b ha.1 hb.1 (by omega) (by omega)
    refine ⟨r, m, ?_, rn, by omega, ?_⟩
    · simp only [beq_self_eq_true, cond_true]
      exact Ev.bind hr (Ev.now _)
    · rw [rv, hx, hy]; cases m <;> simp <;> omega
  · have hne : (m == m') = false := by simpa using hm
    have hc := ev_cmp a b ha hb (by omega)
    have hxy : x + y = if m = true then V b - V a else V a - V b := by
      rw [hx, hy]; cases m <;> cases m' <;> simp at hm ⊢ <;> omega
    simp only [hne, cond_false]
    by_cases hge : V b ≤ V a
    · obtain ⟨r, hr, rn, rv, rl⟩ := ev_minus a b ha.1 hb (by omega) hge
      have e : sgn (V a - V b) ≥ 0 := by unfold sgn; rw [if_neg (by omega)]; split <;> omega
      refine ⟨r, m, Ev.bind hc ?_, rn, by omega, ?_⟩
      · simp only [e, if_true]
        exact Ev.bind hr (Ev.now _)
      · rw [hxy, rv]; cases m <;> simp; omega
    · obtain ⟨r, hr, rn, rv, rl⟩ := ev_minus b a hb.1 ha (by omega) (by omega)
      have e : ¬ sgn (V a - V b) ≥ 0 := by unfold sgn; rw [if_pos (by omega)]; omega
      refine ⟨r, m', Ev.bind hc ?_, rn, by omega, ?_⟩
      · simp only [e, if_false]
        exact Ev.bind hr (Ev.now _)
      · rw [hxy, rv]; cases m <;> cases m' <;> simp at hm ⊢; omega
theorem ref_add (a b : Int) (ha0 : -9223372036854775808 ≤ a) (ha : a ≤ 9223372036854775807) (hb0 : -9223372036854775808 ≤ b) (hb : b ≤ 9223372036854775807) : Ev (fun k => foliotref01_Add.f k a b) (sat (a + b)) := by
  obtain ⟨x, ex, bx⟩ := ev_s a ha0 ha
  obtain ⟨y, ey, by_⟩ := ev_s b hb0 hb
  obtain ⟨r, q, er, br⟩ := ev_sumB bx by_ (by omega) (by omega)
  unfold foliotref01_Add.f
  exact Ev.bind ex (Ev.bind ey (Ev.bind er (Ev.bind (ev_spanB br (by omega)) (Ev.now _))))
theorem big_neg {n : Nat} {l : List Int} {m : Bool} {x : Int} (h : Big n l m x) : Big n l (!m) (-x) := by
  refine ⟨h.1, h.2.1, ?_⟩
  rw [h.2.2]; cases m <;> simp
theorem ref_sub (a b : Int) (ha0 : -9223372036854775808 ≤ a) (ha : a ≤ 9223372036854775807) (hb0 : -9223372036854775808 ≤ b) (hb : b ≤ 9223372036854775807) : Ev (fun k => foliotref01_Sub.f k a b) (sat (a - b)) := by
  obtain ⟨x, ex, bx⟩ := ev_s a ha0 ha
  obtain ⟨y, ey, by_⟩ := ev_s b hb0 hb
  obtain ⟨r, q, er, br⟩ := ev_sumB bx (big_neg by_) (by omega) (by omega)
  unfold foliotref01_Sub.f foliotref01_negative_s1.f
  rw [Int.sub_eq_add_neg]
  exact Ev.bind ex (Ev.bind ey (Ev.bind (Ev.now _) (Ev.bind er (Ev.bind (ev_spanB br (by omega)) (Ev.now _)))))
theorem big_abs {n : Nat} {l : List Int} {x : Int} (h : Big n l (decide (x < 0)) x) : Big n l false (if x < 0 then -x else x) := by
  refine ⟨h.1, h.2.1, ?_⟩
  have e := h.2.2
  by_cases hx : x < 0
  · simp only [hx, decide_true, if_true] at e
    simp only [hx, if_true, Bool.false_eq_true, if_false]; omega
  · simp only [hx, decide_false, Bool.false_eq_true, if_false] at e
    simp only [hx, Bool.false_eq_true, if_false]; exact e
theorem zs_set (m : Nat) (v : Int) : (List.replicate (m + 1) (0 : Int)).set m v = List.replicate m 0 ++ [v] := by
  rw [List.replicate_succ', List.set_append_right _ _ (by simp)]; simp
theorem zs_set2 (m : Nat) (v w : Int) : (List.replicate m (0 : Int) ++ [v]).set m w = List.replicate m 0 ++ [w] := by
  rw [List.set_append_right _ _ (by simp)]; simp
theorem zs_rd (m : Nat) (v : Int) : rd (List.replicate m (0 : Int) ++ [v]) (m : Int) = v := by
  rw [rd_nat, List.getD_eq_getElem?_getD, List.getElem?_append_right (by simp)]; simp
theorem two_l0 (n : Nat) (hn : n ≤ 10000) : ∀ (d j : Nat), j + d = n % 16 → Ev (fun k => foliotref01_two.l0 k (n : Int) (j : Int) false false [] (List.replicate (n / 16) 0 ++ [2 ^ j])) (false, List.replicate (n / 16) 0 ++ [2 ^ (n % 16)]) := by
  have et : Int.tmod (n : Int) 16 = ((n % 16 : Nat) : Int) := by rw [Int.tmod_eq_emod_of_nonneg (Int.natCast_nonneg _)]; omega
  have ed : wrap64 (Int.tdiv (n : Int) 16) = ((n / 16 : Nat) : Int) := by
    rw [Int.tdiv_eq_ediv_of_nonneg (Int.natCast_nonneg _), w64_in (by omega) (by omega)]; omega
  intro d
  induction d with
  | zero =>
    intro j hj
    refine Ev.succ fun k => ?_
    simp only [foliotref01_two.l0]
    rw [et, if_neg (by omega), show j = n % 16 by omega]
  | succ d ih =>
    intro j hj
    refine Ev.step (fun k => ?_) (ih (j + 1) (by omega))
    have hp := pow_le (show j ≤ 15 by omega)
    have e15 : (2 : Int) ^ 15 = 32768 := rfl
    have hp0 : (0 : Int) < 2 ^ j := Int.pow_pos (by decide)
    have c1 : (j : Int) < ((n % 16 : Nat) : Int) := by clear ed et; omega
    have c2 : (0 : Int) ≤ ((n / 16 : Nat) : Int) := Int.natCast_nonneg _
    have c3 : ((n / 16 : Nat) : Int) < ((List.replicate (n / 16) (0 : Int) ++ [2 ^ j]).length : Int) := by simp; clear ed et; omega
    have e1 : wrap64 ((2 : Int) ^ j * 2) = 2 ^ (j + 1) := by rw [w64_in (by clear ed et; omega) (by clear ed et; omega), Int.pow_succ]
    have e2 : wrap64 ((j : Int) + 1) = ((j + 1 : Nat) : Int) := by rw [w64_in (by clear ed et e1; omega) (by clear ed et e1; omega)]; rfl
    simp only [foliotref01_two.l0]
    rw [et, ed, if_pos c1, if_pos c2, if_pos c3, if_pos c2, if_pos c3, e2, zs_rd, e1, Int.toNat_natCast, zs_set2]
theorem ev_two (n : Nat) (hn : n ≤ 10000) : ∃ l, Ev (fun k => foliotref01_two.f k (n : Int)) (false, l) ∧ Nm l ∧ V l = 2 ^ n ∧ l.length = n / 16 + 1 := by
  have hp := pow_le (show n % 16 ≤ 15 by omega)
  have e15 : (2 : Int) ^ 15 = 32768 := rfl
  have hp0 : (0 : Int) < 2 ^ (n % 16) := Int.pow_pos (by decide)
  refine ⟨List.replicate (n / 16) 0 ++ [2 ^ (n % 16)], ?_, ⟨(Dg.zeros _).append (Dg.one (by omega) (by omega)), fun hne => ?_⟩, ?_, by simp⟩
  · have ed : wrap64 (Int.tdiv (n : Int) 16) = ((n / 16 : Nat) : Int) := by
      rw [Int.tdiv_eq_ediv_of_nonneg (Int.natCast_nonneg _), w64_in (by omega) (by omega)]; omega
    have e2 : wrap64 (((n / 16 : Nat) : Int) + 1) = ((n / 16 + 1 : Nat) : Int) := by rw [w64_in (by clear ed; omega) (by clear ed; omega)]; rfl
    have c1 : (0 : Int) ≤ ((n / 16 + 1 : Nat) : Int) := Int.natCast_nonneg _
    have c2 : ((n / 16 + 1 : Nat) : Int) * 9 ≤ 140737488355328 := by clear ed e2; omega
    have c2' : ((n / 16 + 1 : Nat) : Int) ≤ ((n / 16 + 1 : Nat) : Int) := Int.le_refl _
    have c3 : (0 : Int) ≤ ((n / 16 : Nat) : Int) := Int.natCast_nonneg _
    have c4 : ((n / 16 : Nat) : Int) < ((List.replicate (n / 16 + 1) (0 : Int)).length : Int) := by simp; clear ed e2; omega
    unfold foliotref01_two.f
    rw [ed, e2]
    simp only [c1, if_true, Int.toNat_natCast, c2, c2', Int.le_refl, c3, c4, zs_set]
    exact two_l0 n hn (n % 16) 0 (by omega)
  · simp; omega
  · rw [V_append, V_zeros]
    simp only [V, List.length_replicate, Int.mul_zero, Int.add_zero, Int.zero_add]
    have : (65536 : Int) ^ (n / 16) = 2 ^ (16 * (n / 16)) := by rw [Int.pow_mul]; rfl
    rw [this, ← Int.pow_add, Nat.div_add_mod]
theorem digit_step {x c p : Int} (hx0 : 0 ≤ x) (hx1 : x < 65536) (hc0 : 0 ≤ c) (hc1 : c < 65536) (hp0 : 0 ≤ p) (hp1 : p ≤ 4294836225) : ∃ s s1 s2 : Int, x + c + p = s ∧ 0 ≤ s ∧ s < 4294967296 ∧ s % 65536 = s1 ∧ s / 65536 = s2 ∧ 0 ≤ s1 ∧ s1 < 65536 ∧ 0 ≤ s2 ∧ s2 < 65536 ∧ s1 + 65536 * s2 = s :=
  ⟨_, _, _, rfl, by omega, by omega, rfl, rfl, by omega, by omega, by omega, by omega, by omega⟩
theorem times_alg {P Pn x c p A B S V0 s1 s2 s y : Int} (hs : x + c + p = s) (e : s1 + 65536 * s2 = s) (hp : p = A * B) (hv : V0 + P * Pn * c = S + P * A * y) : V0 + P * Pn * (s1 - x) + P * Pn * 65536 * s2 = S + P * A * (y + Pn * B) := by
  subst hp; subst hs
  have : s1 = x + c + A * B - 65536 * s2 := by omega
  subst this
  grind
theorem times_j0 (a b x : List Int) (i n : Nat) (s : Int) (hin : i + n < x.length) (hl : x.length ≤ 100000) (h0 : 0 ≤ s) (h1 : s < 4294967296) {R : List Int} (h : Ev (fun k => foliotref01_times.l1 k a b (i : Int) (s / 65536) ((n + 1 : Nat) : Int) (x.set (i + n) (s % 65536))) R) : Ev (fun k => foliotref01_times.j0 k a b (i : Int) (n : Int) s x) R := by
  refine Ev.step (fun k => ?_) h
  have en : wrap64 ((i : Int) + n) = ((i + n : Nat) : Int) := by rw [w64_in (by omega) (by omega)]; omega
  have e1 : wrap64 ((n : Int) + 1) = ((n + 1 : Nat) : Int) := by rw [w64_in (by omega) (by omega)]; omega
  have c1 : (0 : Int) ≤ ((i + n : Nat) : Int) := Int.natCast_nonneg _
  have c2 : ((i + n : Nat) : Int) < (x.length : Int) := Int.ofNat_lt.2 hin
  simp only [foliotref01_times.j0]
  rw [en, if_pos c1, if_pos c2, e1, Int.tmod_eq_emod_of_nonneg h0, Int.tdiv_eq_ediv_of_nonneg h0, w64_in (n := s / 65536) (by omega) (by omega), Int.toNat_natCast]
theorem times_go (a b x : List Int) (i n : Nat) (c s : Int) (hi : i < a.length) (hin : i + n < x.length) (hl : x.length ≤ 100000) (hx0 : 0 ≤ rd x ((i + n : Nat) : Int) + c) (hx1 : rd x ((i + n : Nat) : Int) + c ≤ 200000) (hp0 : 0 ≤ rd a (i : Int) * rd b (n : Int)) (hp1 : rd a (i : Int) * rd b (n : Int) ≤ 4294836225)
    (hs : rd x ((i + n : Nat) : Int) + c + rd a (i : Int) * rd b (n : Int) = s) (h0 : 0 ≤ s) (h1 : s < 4294967296) (hgo : n < b.length ∨ c > 0) {R : List Int} (h : Ev (fun k => foliotref01_times.j0 k a b (i : Int) (n : Int) s x) R) :
    Ev (fun k => foliotref01_times.l1 k a b (i : Int) c (n : Int) x) R := by
  refine Ev.step (fun k => ?_) h
  have en : wrap64 ((i : Int) + n) = ((i + n : Nat) : Int) := by rw [w64_in (by clear hs hx0 hx1 hp0 hp1; omega) (by clear hs hx0 hx1 hp0 hp1; omega)]; clear hs hx0 hx1 hp0 hp1; omega
  have c1 : (0 : Int) ≤ ((i + n : Nat) : Int) := Int.natCast_nonneg _
  have c2 : ((i + n : Nat) : Int) < (x.length : Int) := Int.ofNat_lt.2 hin
  have c3 : (0 : Int) ≤ (i : Int) := Int.natCast_nonneg _
  have c4 : (i : Int) < (a.length : Int) := Int.ofNat_lt.2 hi
  have c5 : (0 : Int) ≤ (n : Int) := Int.natCast_nonneg _
  have b3 : wrap64 (rd x ((i + n : Nat) : Int) + c) = rd x ((i + n : Nat) : Int) + c := w64_in (by clear hs hp0 hp1; omega) (by clear hs hp0 hp1; omega)
  have b5 : wrap64 (rd a (i : Int) * rd b (n : Int)) = rd a (i : Int) * rd b (n : Int) := w64_in (Int.le_trans (by decide) hp0) (Int.le_trans hp1 (by decide))
  have b7 : wrap64 s = s := w64_in (Int.le_trans (by decide) h0) (Int.le_trans (Int.le_of_lt h1) (by decide))
  simp only [foliotref01_times.l1]
  by_cases hn : (n : Int) < (b.length : Int)
  · simp only [hn, c3, c4, c5, en, c1, c2, if_true, b3, b5, hs, b7]
  · have hc : c > 0 := hgo.resolve_left (fun h => hn (Int.ofNat_lt.2 h))
    rw [rd_out (l := b) (i := n) (by have := Int.not_lt.1 hn; exact Int.ofNat_le.1 this), Int.mul_zero, Int.add_zero] at hs
    simp only [hn, hc, en, c1, c2, if_true, if_false, b3, hs, b7]
/-- One digit's product with a row: from place n on, with the carry c. -/
theorem times_l1 (a b : List Int) (ha : Dg a) (hb : Dg b) (hla : a.length ≤ 1000) (hlb : b.length ≤ 1000) (i : Nat) (hi : i < a.length) (S : Int) :
    ∀ (d : Nat) (n : Nat) (c : Int) (x : List Int), n + d = b.length + 1 → x.length = a.length + b.length + 1 → Dg x → (∀ j : Nat, i + b.length ≤ j → (n ≤ b.length → rd x (j : Int) = 0) ∧ (i + b.length < j → rd x (j : Int) = 0)) → 0 ≤ c → c < 65536 → (d = 0 → c = 0) →
      V x + 65536 ^ (i + n) * c = S + 65536 ^ i * rd a (i : Int) * V (b.take n) →
    ∀ {res : List Int}, (∀ y : List Int, y.length = a.length + b.length + 1 → Dg y → (∀ j : Nat, i + 1 + b.length ≤ j → rd y (j : Int) = 0) → V y = S + 65536 ^ i * rd a (i : Int) * V b → Ev (fun k => foliotref01_times.l0 k a b ((i + 1 : Nat) : Int) y) res) →
    Ev (fun k => foliotref01_times.l1 k a b (i : Int) c (n : Int) x) res := by
  have hend : ∀ (n : Nat) (x : List Int), b.length ≤ n → x.length = a.length + b.length + 1 → Dg x → (∀ j : Nat, i + 1 + b.length ≤ j → rd x (j : Int) = 0) → V x = S + 65536 ^ i * rd a (i : Int) * V (b.take n) → ∀ {res : List Int}, (∀ y : List Int, y.length = a.length + b.length + 1 → Dg y → (∀ j : Nat, i + 1 + b.length ≤ j → rd y (j : Int) = 0) → V y = S + 65536 ^ i * rd a (i : Int) * V b → Ev (fun k => foliotref01_times.l0 k a b ((i + 1 : Nat) : Int) y) res) → Ev (fun k => foliotref01_times.l1 k a b (i : Int) 0 (n : Int) x) res := by
    intro n x hn hx dx hz hv res hk
    refine Ev.step (fun k => ?_) (hk x hx dx hz (by rw [hv, V_take_all b hn]))
    have e1 : wrap64 ((i : Int) + 1) = ((i + 1 : Nat) : Int) := by rw [w64_in (by omega) (by omega)]; omega
    simp only [foliotref01_times.l1]
    rw [if_neg (by omega), if_neg (by omega), e1]
  have da := rd_dg ha i
  intro d
  induction d with
  | zero =>
    intro n c x hn hx dx hz hc0 hc1 hcz hv res hk
    obtain rfl := hcz rfl
    exact hend n x (by omega) hx dx (fun j hj => (hz j (by omega)).2 (by omega)) (by simpa using hv) hk
  | succ d ih =>
    intro n c x hn hx dx hz hc0 hc1 _ hv res hk
    by_cases hgo : n < b.length ∨ c > 0
    · have db := rd_dg hb n
      have dx' := rd_dg dx (i + n)
      have hab : 0 ≤ rd a (i : Int) * rd b (n : Int) ∧ rd a (i : Int) * rd b (n : Int) ≤ 4294836225 := ⟨Int.mul_nonneg da.1 db.1, Int.mul_le_mul (show rd a (i : Int) ≤ 65535 by omega) (show rd b (n : Int) ≤ 65535 by omega) db.1 (by omega)⟩
      obtain ⟨s, s1, s2, hs, hs0, hs1, es1, es2, h10, h11, h20, h21, hss⟩ := digit_step dx'.1 dx'.2 hc0 hc1 hab.1 hab.2
      have hin : i + n < x.length := by omega
      have hother : ∀ j : Nat, i + n ≠ j → rd (x.set (i + n) s1) (j : Int) = rd x (j : Int) := by
        intro j h; rw [rd_nat, rd_nat, List.getD_eq_getElem?_getD, List.getD_eq_getElem?_getD, List.getElem?_set_ne h]
      have halg : V (x.set (i + n) s1) + 65536 ^ (i + (n + 1)) * s2 = S + 65536 ^ i * rd a (i : Int) * V (b.take (n + 1)) := by
        rw [V_set x (i + n) _ hin, V_take_succ, show i + (n + 1) = i + n + 1 from rfl, Int.pow_succ, Int.pow_add]
        rw [Int.pow_add] at hv
        exact times_alg hs hss rfl hv
      clear hv
      have key : Ev (fun k => foliotref01_times.l1 k a b (i : Int) s2 ((n + 1 : Nat) : Int) (x.set (i + n) s1)) res := by
        refine ih (n + 1) s2 (x.set (i + n) s1) (by omega) (by rw [List.length_set]; exact hx) (dx.set _ h10 h11) ?_ h20 h21 ?_ halg hk
        · intro j hj
          refine ⟨fun h1 => ?_, fun h1 => ?_⟩
          · rw [hother j (by omega)]; exact (hz j hj).1 (by omega)
          · rw [hother j (by omega)]; exact (hz j hj).2 h1
        · intro hd
          have hnb : n = b.length := by omega
          have hx0 := (hz (i + n) (by omega)).1 (by omega)
          have hb0 := rd_out (l := b) (i := n) (by omega)
          rw [hb0, Int.mul_zero, hx0] at hs
          clear hz ih hother halg hab
          omega
      subst es1; subst es2
      exact times_go a b x i n c s hi hin (by rw [hx]; clear hs hss halg; omega) (by clear hs hss halg hab; omega) (by clear hs hss halg hab; omega) hab.1 hab.2 hs hs0 hs1 hgo (times_j0 a b x i n s hin (by rw [hx]; clear hs hss halg; omega) hs0 hs1 key)
    · obtain rfl : c = 0 := by omega
      exact hend n x (by omega) hx dx (fun j hj => (hz j (by omega)).2 (by omega)) (by simpa using hv) hk
theorem times_l0 (a b : List Int) (ha : Dg a) (hb : Dg b) (hla : a.length ≤ 1000) (hlb : b.length ≤ 1000) {r : List Int} (hn : Nm r) (hr : V r = V a * V b) : ∀ (d : Nat) (i : Nat) (x : List Int), i + d = a.length → x.length = a.length + b.length + 1 → Dg x → (∀ j : Nat, i + b.length ≤ j → rd x (j : Int) = 0) → V x = V (a.take i) * V b → Ev (fun k => foliotref01_times.l0 k a b (i : Int) x) r := by
  intro d
  induction d with
  | zero =>
    intro i x hi hx dx hz hv
    obtain ⟨r', hr', hn', he, hl⟩ := ev_trims x dx (by omega)
    obtain rfl := Nm.uniq hn' hn (by rw [he, hv, V_take_all a (by omega), hr])
    refine Ev.step (f := fun k => (foliotref01_trim_s1.f k x).bind fun t => some t) (fun k => ?_) (Ev.bind hr' (Ev.now _))
    simp only [foliotref01_times.l0]
    rw [if_neg (by omega)]
  | succ d ih =>
    intro i x hi hx dx hz hv
    refine Ev.step (f := fun k => foliotref01_times.l1 k a b (i : Int) 0 ((0 : Nat) : Int) x) (fun k => ?_) ?_
    · simp only [foliotref01_times.l0]
      rw [if_pos (by omega)]; rfl
    · refine times_l1 a b ha hb hla hlb i (by omega) (V (a.take i) * V b) (b.length + 1) 0 0 x (by omega) hx dx (fun j hj => ⟨fun _ => hz j hj, fun h => hz j hj⟩) (by omega) (by omega) (by omega) (by rw [hv]; simp [V]) ?_
      intro y hy dy zy vy
      refine ih (i + 1) y (by omega) hy dy zy ?_
      rw [vy, V_take_succ, Int.add_mul]
theorem ev_times (a b : List Int) (ha : Dg a) (hb : Dg b) (hla : a.length ≤ 1000) (hlb : b.length ≤ 1000) : ∃ r, Ev (fun k => foliotref01_times.f k a b) r ∧ Nm r ∧ V r = V a * V b ∧ r.length ≤ a.length + b.length := by
  have va := V_bd ha; have vb := V_bd hb
  have hlt : V a * V b < 65536 ^ (a.length + b.length) := by
    rw [Int.pow_add]
    have h1 := Int.mul_le_mul (show V a ≤ 65536 ^ a.length - 1 by omega) (show V b ≤ 65536 ^ b.length by omega) vb.1 (by have := pw_pos a.length; omega)
    rw [Int.sub_mul, Int.one_mul] at h1
    have := pw_pos b.length
    omega
  obtain ⟨r, hn, hr, hl⟩ := Nm.ex (a.length + b.length) (V a * V b) (Int.mul_nonneg va.1 vb.1) hlt
  refine ⟨r, ?_, hn, hr, hl⟩
  unfold foliotref01_times.f
  rw [w64_in (n := (a.length : Int) + b.length) (by omega) (by omega), w64_in (n := (a.length : Int) + b.length + 1) (by omega) (by omega)]
  have e1 : ((a.length : Int) + b.length + 1).toNat = a.length + b.length + 1 := by omega
  simp only [show (0 : Int) ≤ (a.length : Int) + b.length + 1 from by omega, if_true, e1, Int.le_refl, show ((a.length : Int) + b.length + 1) * 9 ≤ 140737488355328 from by omega]
  refine times_l0 a b ha hb hla hlb hn hr a.length 0 _ (by omega) (by simp) (Dg.zeros _) (fun j _ => ?_) (by rw [V_zeros]; simp [V])
  rw [rd_nat, List.getD_eq_getElem?_getD, List.getElem?_replicate]; split <;> rfl
theorem Big.mono {n n' : Nat} {l : List Int} {m : Bool} {x : Int} (h : Big n l m x) (hn : n ≤ n') : Big n' l m x := ⟨h.1, Nat.le_trans h.2.1 hn, h.2.2⟩
theorem ev_productB {n n' : Nat} {a b : List Int} {m m' : Bool} {x y : Int} (h : Big n a m x) (h' : Big n' b m' y) (hn : n ≤ 200) (hn' : n' ≤ 200) : ∃ r, Ev (fun k => foliotref01_product.f k a m b m') ((m != m'), r) ∧ Big (n + n') r (m != m') (x * y) := by
  obtain ⟨ha, hla, hx⟩ := h; obtain ⟨hb, hlb, hy⟩ := h'
  obtain ⟨r, hr, rn, rv, rl⟩ := ev_times a b ha.1 hb.1 (by omega) (by omega)
  refine ⟨r, ?_, rn, by omega, ?_⟩
  · unfold foliotref01_product.f
    exact Ev.bind hr (Ev.now _)
  · rw [rv, hx, hy]; cases m <;> cases m' <;> simp [Int.neg_mul, Int.mul_neg]
theorem half_eq (lo hi : Int) (h0 : 0 ≤ lo) (h1 : lo < hi) (h2 : hi ≤ 65535) : ∃ m, wrap64 (Int.tdiv (wrap64 ((wrap64 (lo + hi)) + 1)) 2) = m ∧ lo < m ∧ m ≤ hi ∧ wrap64 (m - 1) = m - 1 := by
  have e1 : wrap64 (lo + hi) = lo + hi := w64_in (by omega) (by omega)
  rw [e1]
  clear e1
  have e2 : wrap64 (lo + hi + 1) = lo + hi + 1 := w64_in (by omega) (by omega)
  rw [e2]
  clear e2
  rw [Int.tdiv_eq_ediv_of_nonneg (by omega)]
  have b1 : lo < (lo + hi + 1) / 2 := by omega
  have b2 : (lo + hi + 1) / 2 ≤ hi := by omega
  generalize (lo + hi + 1) / 2 = m at *
  have c1 : -9223372036854775808 ≤ m ∧ m ≤ 9223372036854775807 ∧ -9223372036854775808 ≤ m - 1 ∧ m - 1 ≤ 9223372036854775807 := by omega
  exact ⟨m, w64_in c1.1 c1.2.1, b1, b2, w64_in c1.2.2.1 c1.2.2.2⟩
theorem divide_l1 (a b q t r : List Int) (c : Nat) (L : Int) (hb : Nm b) (hlb : b.length ≤ 500) (ht : Nm t) (hlt : t.length ≤ 900) (hcq : c < q.length) (hlq : q.length ≤ 1000) (hr : Nm r) (hrv : V r = V t - V b * L) (h1 : V b * L ≤ V t) (h2 : V t < V b * (L + 1)) {res : List Int × List Int}
    (hk : Ev (fun k => foliotref01_divide.l0 k a b ((c : Int) - 1) (q.set c L) r) res) : ∀ (d : Nat) (lo hi : Int), hi - lo ≤ d → 0 ≤ lo → lo ≤ L → L ≤ hi → hi ≤ 65535 → Ev (fun k => foliotref01_divide.l1 k a b (c : Int) lo hi q t) res := by
  have hvb := (V_bd hb.1).1
  have hend : 0 ≤ L → L ≤ 65535 → Ev (fun k => foliotref01_divide.l1 k a b (c : Int) L L q t) res := by
    intro hL0 hL1
    obtain ⟨u, hu, un, uv, ul⟩ := ev_times b [L] hb.1 (Dg.one hL0 (by omega)) (by omega) (by simp)
    rw [V_one] at uv
    obtain ⟨s, hs, sn, sv, sl⟩ := ev_minus t u ht.1 un (by omega) (by omega)
    obtain rfl := Nm.uniq sn hr (by omega)
    have e : wrap64 ((c : Int) - 1) = (c : Int) - 1 := w64_in (by omega) (by omega)
    have g1 : (0 : Int) ≤ (c : Int) := Int.natCast_nonneg _
    have g2 : (c : Int) < (q.length : Int) := Int.ofNat_lt.2 hcq
    refine Ev.step (f := fun k => (foliotref01_times.f k b ([L] : List Int)).bind fun t282 => ((foliotref01_minus.f k t t282).bind fun t285 => (foliotref01_divide.l0 k a b (wrap64 ((c : Int) - 1)) (q.set (c : Int).toNat L) t285))) (fun k => ?_) (Ev.bind hu (Ev.bind hs ?_))
    · simp only [foliotref01_divide.l1]
      rw [if_neg (Int.lt_irrefl _), if_pos g1, if_pos g2]
    · rw [e, Int.toNat_natCast]; exact hk
  intro d
  induction d with
  | zero =>
    intro lo hi hd h0 hlo hhi h3
    obtain rfl : lo = L := by omega
    obtain rfl : hi = lo := by omega
    exact hend h0 h3
  | succ d ih =>
    intro lo hi hd h0 hlo hhi h3
    by_cases hlt2 : lo < hi
    · obtain ⟨m, em, m1, m2, em1⟩ := half_eq lo hi h0 hlt2 h3
      obtain ⟨u, hu, un, uv, ul⟩ := ev_times b [m] hb.1 (Dg.one (by omega) (by omega)) (by omega) (by simp)
      rw [V_one] at uv
      have hc := ev_cmp u t un ht (by simp at ul; omega)
      have key : Ev (fun k => if sgn (V u - V t) ≤ 0 then (foliotref01_divide.l1 k a b (c : Int) m hi q t) else (foliotref01_divide.l1 k a b (c : Int) lo (m - 1) q t)) res := by
        by_cases hm : m ≤ L
        · have := Int.mul_le_mul_of_nonneg_left hm hvb
          have e : sgn (V u - V t) ≤ 0 := by
            rw [uv]; unfold sgn; split
            · omega
            · rw [if_neg (by omega)]; omega
          simp only [e, if_true]
          exact ih m hi (by omega) (by omega) hm hhi h3
        · have := Int.mul_le_mul_of_nonneg_left (show L + 1 ≤ m by omega) hvb
          have e : ¬ sgn (V u - V t) ≤ 0 := by
            rw [uv]; unfold sgn; rw [if_neg (by omega), if_pos (by omega)]; omega
          simp only [e, if_false]
          exact ih lo (m - 1) (by omega) h0 hlo (by omega) (by omega)
      refine Ev.step (f := fun k => (foliotref01_times.f k b ([m] : List Int)).bind fun t291 => ((foliotref01_compare.f k t291 t).bind fun t294 => (if t294 ≤ 0 then (foliotref01_divide.l1 k a b (c : Int) m hi q t) else (foliotref01_divide.l1 k a b (c : Int) lo (m - 1) q t)))) (fun k => ?_) (Ev.bind hu (Ev.bind hc key))
      simp only [foliotref01_divide.l1]
      rw [if_pos hlt2, em, em1]
    · obtain rfl : lo = L := by omega
      obtain rfl : hi = lo := by omega
      exact hend h0 h3
theorem divide_l0 (a b Q R : List Int) (ha : Dg a) (hla : a.length ≤ 500) (hb : Nm b) (hlb : b.length ≤ 500) (hb0 : 0 < V b) (hQ : Nm Q) (hR : Nm R) (hQv : V Q = V a / V b) (hRv : V R = V a % V b) : ∀ (c : Nat) (q r : List Int), c ≤ a.length → q.length = a.length → Dg q → Nm r → V r < V b → V (a.drop c) = V (q.drop c) * V b + V r → Ev (fun k => foliotref01_divide.l0 k a b ((c : Int) - 1) q r) (Q, R) := by
  intro c
  induction c with
  | zero =>
    intro q r _ hq dq hr hrb hv
    simp only [List.drop_zero] at hv
    have hr0 := (V_bd hr.1).1
    have e1 : V a / V b = V q := by
      rw [hv, Int.add_comm, Int.add_mul_ediv_right _ _ (by omega), Int.ediv_eq_zero_of_lt hr0 hrb]; omega
    have e2 : V a % V b = V r := by
      rw [hv, Int.add_comm, Int.add_mul_emod_self_right, Int.emod_eq_of_lt hr0 hrb]
    obtain ⟨q', hq', qn, qv, _⟩ := ev_trims q dq (by omega)
    obtain rfl := Nm.uniq qn hQ (by rw [qv, hQv, e1])
    obtain rfl := Nm.uniq hr hR (by rw [hRv, e2])
    refine Ev.step (f := fun k => (foliotref01_trim_s1.f k q).bind fun t => some (t, r)) (fun k => ?_) (Ev.bind hq' (Ev.now _))
    simp only [foliotref01_divide.l0]
    rw [if_neg (by omega)]
  | succ c ih =>
    intro q r hc hq dq hr hrb hv
    have da := rd_dg ha c
    have hr0 := (V_bd hr.1).1
    have hrl : r.length ≤ 500 := by
      have := hr.len (n := b.length) (by have := (V_bd hb.1).2; omega)
      omega
    obtain ⟨t, ht, tn, tv, tl⟩ := ev_trims ([rd a (c : Int)] ++ r) ((Dg.one da.1 da.2).append hr.1) (by simp; omega)
    have tv' : V t = rd a (c : Int) + 65536 * V r := by rw [tv]; rfl
    obtain ⟨L, hL⟩ : ∃ L, V t / V b = L := ⟨_, rfl⟩
    have ht0 := (V_bd tn.1).1
    have hd := Int.mul_ediv_add_emod (V t) (V b)
    have hm0 := Int.emod_nonneg (V t) (show V b ≠ 0 by omega)
    have hm1 := Int.emod_lt_of_pos (V t) hb0
    rw [hL] at hd
    have hL0 : 0 ≤ L := by rw [← hL]; exact Int.ediv_nonneg ht0 (by omega)
    have hL1 : L ≤ 65535 := by
      rcases Int.lt_or_le 65535 L with h | h
      · have := Int.mul_le_mul_of_nonneg_left (show 65536 ≤ L by omega) (Int.le_of_lt hb0); omega
      · exact h
    obtain ⟨r', hr', hrv', hrl'⟩ := Nm.ex b.length (V t % V b) hm0 (by have := (V_bd hb.1).2; omega)
    have hnext := ih (q.set c L) r' (by omega) (by rw [List.length_set]; exact hq) (dq.set _ hL0 (by omega)) hr' (by omega) (by
      rw [V_drop a c (by omega), hv, V_drop (q.set c L) c (by rw [List.length_set]; omega)]
      have e1 : rd (q.set c L) (c : Int) = L := by
        rw [rd_nat, List.getD_eq_getElem?_getD, List.getElem?_set_self (by omega)]; rfl
      have e2 : (q.set c L).drop (c + 1) = q.drop (c + 1) := List.drop_set_of_lt (by omega)
      rw [e1, e2, hrv']
      have e3 : V t % V b = V t - V b * L := by omega
      rw [e3, tv']
      grind)
    refine Ev.step (f := fun k => (foliotref01_trim_s1.f k ([rd a (c : Int)] ++ r)).bind fun t275 => (foliotref01_divide.l1 k a b (c : Int) 0 65535 q t275)) (fun k => ?_) (Ev.bind ht (divide_l1 a b q t r' c L hb hlb tn (by simp at tl; omega) (by omega) (by omega) hr' (by omega) (by omega) (by rw [Int.mul_add, Int.mul_one]; omega) hnext 65535 0 65535 (by omega) (by omega) hL0 hL1 (by omega)))
    have e : ((c + 1 : Nat) : Int) - 1 = c := by omega
    have g1 : (c : Int) ≥ 0 := Int.natCast_nonneg _
    have g2 : (c : Int) < (a.length : Int) := by omega
    have g3 : (2 * (([rd a (c : Int)] : List Int).length + r.length) + 200) * 8 ≤ 281474976710656 := by simp only [List.length_cons, List.length_nil]; omega
    have g1' : (0 : Int) ≤ c := Int.natCast_nonneg _
    simp only [foliotref01_divide.l0]
    simp only [e, g1, g1', g2, g3, if_true]
theorem ev_divide (a b : List Int) (ha : Dg a) (hla : a.length ≤ 500) (hb : Nm b) (hlb : b.length ≤ 500) (hb0 : 0 < V b) : ∃ q r, Ev (fun k => foliotref01_divide.f k a b) (q, r) ∧ Nm q ∧ Nm r ∧ V q = V a / V b ∧ V r = V a % V b ∧ q.length ≤ a.length ∧ r.length ≤ b.length := by
  have va := V_bd ha; have vb := V_bd hb.1
  obtain ⟨q, qn, qv, ql⟩ := Nm.ex a.length (V a / V b) (Int.ediv_nonneg va.1 (by omega)) (Int.lt_of_le_of_lt (Int.ediv_le_self _ va.1) va.2)
  obtain ⟨r, rn, rv, rl⟩ := Nm.ex b.length (V a % V b) (Int.emod_nonneg _ (by omega)) (Int.lt_trans (Int.emod_lt_of_pos _ hb0) vb.2)
  refine ⟨q, r, ?_, qn, rn, qv, rv, ql, rl⟩
  unfold foliotref01_divide.f
  have e1 : ((a.length : Int)).toNat = a.length := Int.toNat_natCast _
  have e2 : wrap64 ((a.length : Int) - 1) = (a.length : Int) - 1 := w64_in (by omega) (by omega)
  rw [e2]
  clear e2
  simp only [e1, show (0 : Int) ≤ (a.length : Int) from Int.natCast_nonneg _, if_true, Int.le_refl, show (a.length : Int) * 9 ≤ 140737488355328 from by omega]
  exact divide_l0 a b q r ha hla hb hlb hb0 qn rn qv rv a.length _ [] (Nat.le_refl _) (by simp) (Dg.zeros _) Nm.nil (by simp [V]; omega) (by simp [V])
theorem ev_downB {n n' : Nat} {a b : List Int} {m : Bool} {x y : Int} (h : Big n a m x) (m' : Bool) (h' : Big n' b false y) (hy : 0 < y) (hn : n ≤ 200) (hn' : n' ≤ 200) : ∃ r, Ev (fun k => foliotref01_down.f k a m b m') (m, r) ∧ Big (n + 2) r m (x / y) := by
  obtain ⟨ha, hla, hx⟩ := h; obtain ⟨hb, hlb, hyv⟩ := h'
  simp only [Bool.false_eq_true, if_false] at hyv
  rw [hyv] at hy ⊢
  obtain ⟨q, r, hd, qn, rn, qv, rv, ql, rl⟩ := ev_divide a b ha.1 (by omega) hb (by omega) hy
  have hda := Int.mul_ediv_add_emod (V a) (V b)
  have hm0 := Int.emod_nonneg (V a) (show V b ≠ 0 by omega)
  have hm1 := Int.emod_lt_of_pos (V a) hy
  unfold foliotref01_down.f
  cases m with
  | false =>
    simp only [Bool.false_eq_true, if_false] at hx
    refine ⟨q, Ev.bind hd ?_, qn, by omega, ?_⟩
    · simp only [cond_false]; exact Ev.now _
    · simp only [Bool.false_eq_true, if_false]; rw [qv, hx]
  | true =>
    simp only [if_true] at hx
    by_cases hr : r = []
    · subst hr
      refine ⟨q, Ev.bind hd ?_, qn, by omega, ?_⟩
      · simp only [cond_true, List.length_nil, show ¬ (((0 : Nat) : Int) > 0) from by decide, if_false]; exact Ev.now _
      · simp only [if_true]
        have e0 : V a % V b = 0 := by rw [← rv]; rfl
        rw [hx, show -V a = (-V q) * V b by rw [qv, Int.neg_mul, Int.mul_comm]; omega, Int.mul_ediv_cancel _ (by omega)]
    · have hr0 : V r ≠ 0 := fun e => hr (rn.zero e)
      have hrp : (r.length : Int) > 0 := by have := List.length_pos_iff.2 hr; omega
      obtain ⟨p, hp, pn, pv, pl⟩ := ev_plus q [1] qn.1 (Dg.one (by omega) (by omega)) (by omega) (by simp)
      refine ⟨p, Ev.bind hd ?_, pn, by simp at pl; omega, ?_⟩
      · simp only [cond_true, if_true, hrp]; exact Ev.bind hp (Ev.now _)
      · simp only [if_true]
        rw [pv, V_one, hx]
        have e : -V a = (V b - V a % V b) + (-(V q + 1)) * V b := by
          rw [qv, Int.neg_mul, Int.add_mul, Int.one_mul, Int.mul_comm (V a / V b)]; omega
        rw [e, Int.add_mul_ediv_right _ _ (by omega), Int.ediv_eq_zero_of_lt (by omega) (by omega)]
        omega
theorem two_big (n : Nat) (hn : n ≤ 1000) : ∃ l, Ev (fun k => foliotref01_two.f k (n : Int)) (false, l) ∧ Big 63 l false (2 ^ n) := by
  obtain ⟨l, h, ln, lv, ll⟩ := ev_two n (by omega)
  exact ⟨l, h, ln, by omega, by rw [lv]; simp⟩
theorem ref_scale (a b c : Int) (ha0 : -9223372036854775808 ≤ a) (ha : a ≤ 9223372036854775807) (hb0 : -9223372036854775808 ≤ b) (hb : b ≤ 9223372036854775807) (hc0 : -9223372036854775808 ≤ c) (hc : c ≤ 9223372036854775807) : Ev (fun k => foliotref01_Scale.f k a b c) (if c ≤ 0 then 0 else sat (a * b / c)) := by
  unfold foliotref01_Scale.f
  by_cases h : c ≤ 0
  · simp only [h, if_true]; exact Ev.now _
  · simp only [h, if_false]
    obtain ⟨x, ex, bx⟩ := ev_s a ha0 ha
    obtain ⟨y, ey, by_⟩ := ev_of b hb0 hb
    obtain ⟨r, er, br⟩ := ev_productB bx by_ (by omega) (by omega)
    obtain ⟨t, et, bt⟩ := ev_of c hc0 hc
    have e : decide (c < 0) = false := decide_eq_false (by omega)
    rw [e] at et bt
    obtain ⟨d, ed, bd⟩ := ev_downB br false bt (by omega) (by omega) (by omega)
    exact Ev.bind ex (Ev.bind ey (Ev.bind er (Ev.bind et (Ev.bind ed (Ev.bind (ev_spanB bd (by omega)) (Ev.now _))))))
theorem div_bigR {a : Int} {m : Nat} (h0 : -9223372036854775808 ≤ a) (h1 : a ≤ 9223372036854775807) (hm : 63 ≤ m) : a / 2 ^ m = if a < 0 then -1 else 0 := by
  have hp := pow_le hm
  have e63 : (2 : Int) ^ 63 = 9223372036854775808 := rfl
  rw [e63] at hp
  by_cases h : a < 0
  · rw [if_pos h, show a = (a + 2 ^ m) + (-1) * 2 ^ m by omega, Int.add_mul_ediv_right _ _ (by omega), Int.ediv_eq_zero_of_lt (by omega) (by omega)]; rfl
  · rw [if_neg h]; exact Int.ediv_eq_zero_of_lt (by omega) (by omega)
theorem sat_pow_bigR {a : Int} {n : Nat} (hn : 62 ≤ n) : sat (a * 2 ^ n) = if a < 0 then -4611686018427387904 else if a = 0 then 0 else 4611686018427387904 := by
  have hp := pow_le hn
  have e62 : (2 : Int) ^ 62 = 4611686018427387904 := rfl
  rw [e62] at hp
  generalize (2 : Int) ^ n = P at *
  unfold sat clampTo
  by_cases h : a < 0
  · have := Int.mul_le_mul_of_nonneg_right (show a ≤ -1 by omega) (show 0 ≤ P by omega)
    rw [if_pos h]; (repeat' split) <;> omega
  · rw [if_neg h]
    by_cases h2 : a = 0
    · rw [if_pos h2, h2]; simp
    · have := Int.mul_le_mul_of_nonneg_right (show 1 ≤ a by omega) (show 0 ≤ P by omega)
      rw [if_neg h2]; (repeat' split) <;> omega
theorem ref_shift_dn (a : Int) (m : Nat) (hm : m ≤ 200) (ha0 : -9223372036854775808 ≤ a) (ha : a ≤ 9223372036854775807) : Ev (fun k => (foliotref01_s.f k a).bind fun t8 => ((foliotref01_two.f k (m : Int)).bind fun t9 => ((foliotref01_down.f k t8.2 t8.1 t9.2 t9.1).bind fun t10 => ((foliotref01_span.f k t10.2 t10.1).bind fun t11 => (some t11))))) (sat (a / 2 ^ m)) := by
  obtain ⟨x, ex, bx⟩ := ev_s a ha0 ha
  obtain ⟨t, et, bt⟩ := two_big m (by omega)
  obtain ⟨d, ed, bd⟩ := ev_downB bx false bt (Int.pow_pos (by decide)) (by omega) (by omega)
  exact Ev.bind ex (Ev.bind et (Ev.bind ed (Ev.bind (ev_spanB bd (by omega)) (Ev.now _))))
theorem ref_shift (a n : Int) (ha0 : -9223372036854775808 ≤ a) (ha : a ≤ 9223372036854775807) (hn0 : -9223372036854775808 ≤ n) (hn : n ≤ 9223372036854775807) : Ev (fun k => foliotref01_Shift.f k a n) (if n < 0 then sat (a / 2 ^ (-n).toNat) else sat (a * 2 ^ n.toNat)) := by
  unfold foliotref01_Shift.f
  by_cases h : n ≥ 0
  · simp only [h, if_true, show ¬ n < 0 from by omega, if_false]
    obtain ⟨x, ex, bx⟩ := ev_s a ha0 ha
    obtain ⟨m, hm, hm2, hm3⟩ : ∃ m : Nat, mn n 200 = m ∧ m ≤ 200 ∧ (m = n.toNat ∨ (62 ≤ m ∧ 62 ≤ n.toNat)) := by
      refine ⟨(mn n 200).toNat, ?_, ?_, ?_⟩ <;> unfold mn <;> split <;> omega
    obtain ⟨t, et, bt⟩ := two_big m (by omega)
    obtain ⟨r, er, br⟩ := ev_productB bx bt (by omega) (by omega)
    have e : sat (a * 2 ^ n.toNat) = sat (a * 2 ^ m) := by
      rcases hm3 with h3 | ⟨h3, h4⟩
      · rw [h3]
      · rw [sat_pow_bigR h3, sat_pow_bigR h4]
    rw [e, hm]
    exact Ev.bind ex (Ev.bind et (Ev.bind er (Ev.bind (ev_spanB br (by omega)) (Ev.now _))))
  · simp only [h, if_false, show n < 0 from by omega, if_true]
    by_cases h2 : n < -200
    · simp only [h2, if_true]
      have := ref_shift_dn a 200 (by omega) ha0 ha
      rw [div_bigR (m := 200) ha0 ha (by decide)] at this
      rw [div_bigR ha0 ha (by omega)]
      exact this
    · simp only [h2, if_false]
      obtain ⟨m, hm⟩ : ∃ m : Nat, -n = m := ⟨(-n).toNat, by omega⟩
      rw [hm, w64_in (n := (m : Int)) (by omega) (by omega), Int.toNat_natCast]
      exact ref_shift_dn a m (by omega) ha0 ha
theorem IsRoot.ex : ∀ n : Nat, ∃ q : Int, IsRoot (n : Int) q
  | 0 => ⟨0, by decide, by decide, by decide⟩
  | n + 1 => by
    obtain ⟨q, h0, h1, h2⟩ := IsRoot.ex n
    by_cases h : ((n + 1 : Nat) : Int) < (q + 1) * (q + 1)
    · exact ⟨q, h0, by omega, h⟩
    · refine ⟨q + 1, by omega, by omega, ?_⟩
      have : (q + 1 + 1) * (q + 1 + 1) = (q + 1) * (q + 1) + 2 * q + 3 := by grind
      omega
theorem rootB_l0 (a R : List Int) (ha : Nm a) (hla : a.length ≤ 100) (hR : Nm R) (hr : IsRoot (V a) (V R)) : ∀ (c : Nat) (x : List Int), c ≤ 16 * a.length + 1 → Nm x → V x * V x ≤ V a → V a < (V x + 2 ^ c) * (V x + 2 ^ c) → Ev (fun k => foliotref01_root.l0 k a ((c : Int) - 1) false x []) (false, R) := by
  have va := V_bd ha.1
  intro c
  induction c with
  | zero =>
    intro x _ hx h1 h2
    have hx0 := (V_bd hx.1).1
    obtain rfl := Nm.uniq hx hR (IsRoot.uniq ⟨hx0, h1, by simpa using h2⟩ hr)
    refine Ev.succ fun k => ?_
    simp only [foliotref01_root.l0]
    rw [if_neg (by omega)]
  | succ c ih =>
    intro x hc hx h1 h2
    have hx0 := (V_bd hx.1).1
    have hxl : x.length ≤ a.length := by
      refine hx.len ?_
      have := pw_pos a.length
      rcases Int.lt_or_le (V x) (65536 ^ a.length) with h | h
      · exact h
      · have h3 := Int.mul_le_mul_of_nonneg_left (show (1 : Int) ≤ V x by omega) hx0
        omega
    have hp : (0 : Int) < 2 ^ c := Int.pow_pos (by decide)
    have es : (2 : Int) ^ (c + 1) = 2 ^ c + 2 ^ c := by rw [Int.pow_succ]; omega
    obtain ⟨t, ht, tn, tv, tl⟩ := ev_two c (by omega)
    obtain ⟨u, hu, un, uv, ul⟩ := ev_plus x t hx.1 tn.1 (by omega) (by omega)
    obtain ⟨w, hw, wn, wv, wl⟩ := ev_times u u un.1 un.1 (by omega) (by omega)
    have hcm := ev_cmp w a wn ha (by omega)
    rw [tv] at uv
    rw [uv] at wv
    have e0 : ((c + 1 : Nat) : Int) - 1 = c := by omega
    have e1 : wrap64 ((c : Int) - 1) = (c : Int) - 1 := w64_in (by omega) (by omega)
    have c1 : (c : Int) ≥ 0 := Int.natCast_nonneg _
    refine Ev.step (f := fun k => (foliotref01_two.f k (c : Int)).bind fun bt188 => ((foliotref01_plus.f k x bt188.2).bind fun t192 => ((foliotref01_times.f k t192 t192).bind fun t195 => ((foliotref01_compare.f k t195 a).bind fun t198 => (if t198 ≤ 0 then (foliotref01_root.l0 k a ((c : Int) - 1) false t192 []) else (foliotref01_root.l0 k a ((c : Int) - 1) false x [])))))) (fun k => ?_) (Ev.bind ht (Ev.bind hu (Ev.bind hw (Ev.bind hcm ?_))))
    · simp only [foliotref01_root.l0]
      rw [e0, if_pos c1, e1]
    · clear e1
      by_cases hle : (V x + 2 ^ c) * (V x + 2 ^ c) ≤ V a
      · have e : sgn (V w - V a) ≤ 0 := by rw [wv]; unfold sgn; (repeat' split) <;> omega
        simp only [e, if_true]
        refine ih u (by omega) un (by rw [uv]; exact hle) ?_
        rw [uv, Int.add_assoc, ← es]; exact h2
      · have e : ¬ sgn (V w - V a) ≤ 0 := by rw [wv]; unfold sgn; rw [if_neg (by omega), if_pos (by omega)]; omega
        simp only [e, if_false]
        exact ih x (by omega) hx h1 (by omega)
theorem ev_rootB (a : List Int) (ha : Nm a) (hla : a.length ≤ 100) : ∃ r, Ev (fun k => foliotref01_root.f k a) (false, r) ∧ Nm r ∧ IsRoot (V a) (V r) ∧ r.length ≤ a.length := by
  have va := V_bd ha.1
  obtain ⟨q, hq⟩ := IsRoot.ex (V a).toNat
  rw [Int.toNat_of_nonneg va.1] at hq
  have hq1 : q < 65536 ^ a.length := by
    obtain ⟨h0, h1, h2⟩ := hq
    have := pw_pos a.length
    rcases Int.lt_or_le q (65536 ^ a.length) with h | h
    · exact h
    · have h3 := Int.mul_le_mul_of_nonneg_left (show (1 : Int) ≤ q by omega) h0
      omega
  obtain ⟨R, hR, hv, hl⟩ := Nm.ex a.length q hq.1 hq1
  rw [← hv] at hq
  refine ⟨R, ?_, hR, hq, hl⟩
  unfold foliotref01_root.f
  have e1 : wrap64 (16 * (a.length : Int)) = ((16 * a.length + 1 : Nat) : Int) - 1 := by rw [w64_in (by omega) (by omega)]; omega
  rw [e1]
  clear e1
  refine rootB_l0 a R ha hla hR hq (16 * a.length + 1) [] (Nat.le_refl _) Nm.nil (by simp only [V]; omega) ?_
  simp only [V, Int.zero_add]
  have e2 : (65536 : Int) ^ a.length = 2 ^ (16 * a.length) := by rw [Int.pow_mul]; rfl
  have e3 : (2 : Int) ^ (16 * a.length + 1) = 2 * 2 ^ (16 * a.length) := by rw [Int.pow_succ]; omega
  have hp : (0 : Int) < 2 ^ (16 * a.length) := Int.pow_pos (by decide)
  rw [e3]
  rw [e2] at va
  have := Int.mul_le_mul_of_nonneg_left (show (1 : Int) ≤ 2 * 2 ^ (16 * a.length) by omega) (show 0 ≤ 2 * 2 ^ (16 * a.length) by omega)
  omega
theorem ev_sumB_same {n n' : Nat} {a b : List Int} {m : Bool} {x y : Int} (h : Big n a m x) (h' : Big n' b m y) (hn : n ≤ 200) (hn' : n' ≤ 200) : ∃ r, Ev (fun k => foliotref01_sum.f k a m b m) (m, r) ∧ Big (max n n' + 1) r m (x + y) := by
  obtain ⟨ha, hla, hx⟩ := h; obtain ⟨hb, hlb, hy⟩ := h'
  unfold foliotref01_sum.f
  obtain ⟨r, hr, rn, rv, rl⟩ := ev_plus a b ha.1 hb.1 (by omega) (by omega)
  refine ⟨r, ?_, rn, by omega, ?_⟩
  · simp only [beq_self_eq_true, cond_true]
    exact Ev.bind hr (Ev.now _)
  · rw [rv, hx, hy]; cases m <;> simp <;> omega
theorem rmsB_l0 (l : List Int) (hl : ∀ x ∈ l, -9223372036854775808 ≤ x ∧ x ≤ 9223372036854775807) (n : Nat) (hn : n ≤ 64) (hnl : n ≤ l.length) (hn0 : 0 < n) : ∀ (d i : Nat) (x : List Int), i + d = n → Big (8 + i) x false (sq (l.take i)) →
    ∃ q, Ev (fun k => foliotref01_RMS.l0 k l (n : Int) (i : Int) false x) (sat q) ∧ IsRoot (sq (l.take n) / (n : Int)) q := by
  intro d
  induction d with
  | zero =>
    intro i x hi hx
    obtain rfl : i = n := by omega
    obtain ⟨t, et, bt⟩ := ev_of (i : Int) (by omega) (by omega)
    have hneg : decide ((i : Int) < 0) = false := decide_eq_false (by omega)
    rw [hneg] at et bt
    obtain ⟨r, er, br⟩ := ev_downB hx false bt (by omega) (by omega) (by omega)
    have hv : sq (l.take i) / (i : Int) = V r := by have := br.2.2; simpa using this
    obtain ⟨q, eq, qn, qr, ql⟩ := ev_rootB r br.1 (by have := br.2.1; omega)
    have bq : Big 100 q false (V q) := ⟨qn, by have := br.2.1; omega, by simp⟩
    rw [← hv] at qr
    have g1 : ¬ ((i : Int) < (i : Int)) := Int.lt_irrefl _
    have g2 : ¬ ((i : Int) = 0) := by omega
    refine ⟨V q, Ev.step (f := fun k => (foliotref01_of.f k (i : Int)).bind fun bt348 => ((foliotref01_down.f k x false bt348.2 bt348.1).bind fun bt352 => ((foliotref01_root.f k bt352.2).bind fun bt356 => ((foliotref01_span.f k bt356.2 bt356.1).bind fun t360 => (some t360))))) (fun k => ?_) (Ev.bind et (Ev.bind er (Ev.bind eq (Ev.bind (ev_spanB bq (by omega)) (Ev.now _))))), qr⟩
    simp only [foliotref01_RMS.l0]
    rw [if_neg g1, if_neg g2]
  | succ d ih =>
    intro i x hi hx
    have hm : rd l (i : Int) ∈ l := by
      unfold rd
      rw [Int.toNat_natCast, List.getD_eq_getElem?_getD, List.getElem?_eq_getElem (by omega)]
      exact List.getElem_mem _
    have hr := hl _ hm
    have hs := sat_in (rd l (i : Int))
    have hst := sq_take_succ l i (by omega)
    obtain ⟨a, ea, ba⟩ := ev_s (rd l (i : Int)) hr.1 hr.2
    obtain ⟨b, eb, bb⟩ := ev_s (sat (rd l (i : Int))) (by omega) (by omega)
    obtain ⟨p, ep, bp⟩ := ev_productB bb bb (by omega) (by omega)
    rw [bne_self_eq_false] at ep bp
    obtain ⟨r, er, br⟩ := ev_sumB_same hx bp (by omega) (by omega)
    rw [← hst] at br
    obtain ⟨q, hq, hroot⟩ := ih (i + 1) r (by omega) (br.mono (by omega))
    have g1 : (i : Int) < (n : Int) := by omega
    have g2 : (0 : Int) ≤ (i : Int) := Int.natCast_nonneg _
    have g3 : (i : Int) < (l.length : Int) := by omega
    have ei : wrap64 ((i : Int) + 1) = ((i + 1 : Nat) : Int) := by rw [w64_in (by omega) (by omega)]; rfl
    have key : Ev (fun k => (foliotref01_s.f k (rd l (i : Int))).bind fun bt330 => ((foliotref01_span.f k bt330.2 bt330.1).bind fun t334 => ((foliotref01_s.f k t334).bind fun bt335 => ((foliotref01_product.f k bt335.2 bt335.1 bt335.2 bt335.1).bind fun bt340 => ((foliotref01_sum.f k x false bt340.2 bt340.1).bind fun bt344 => (foliotref01_RMS.l0 k l (n : Int) ((i + 1 : Nat) : Int) bt344.1 bt344.2)))))) (sat q) :=
      Ev.bind ea (Ev.bind (ev_spanB ba (by omega)) (Ev.bind eb (Ev.bind ep (Ev.bind er hq))))
    refine ⟨q, Ev.step (fun k => ?_) key, hroot⟩
    simp only [foliotref01_RMS.l0]
    rw [if_pos g1, if_pos g2, if_pos g3, ei]
theorem ref_rms (l : List Int) (hl : ∀ x ∈ l, -9223372036854775808 ≤ x ∧ x ≤ 9223372036854775807) : (l = [] ∧ Ev (fun k => foliotref01_RMS.f k l) 0) ∨ (l ≠ [] ∧ ∃ q, Ev (fun k => foliotref01_RMS.f k l) (sat q) ∧ IsRoot (sq (l.take 64) / ((min l.length 64 : Nat) : Int)) q) := by
  have em : mn (l.length : Int) 64 = ((min l.length 64 : Nat) : Int) := by unfold mn; split <;> omega
  have ht : l.take (min l.length 64) = l.take 64 := by
    rcases Nat.le_total l.length 64 with h | h
    · rw [Nat.min_eq_left h, List.take_length, List.take_of_length_le h]
    · rw [Nat.min_eq_right h]
  unfold foliotref01_RMS.f
  rw [em]
  by_cases h : l = []
  · left
    subst h
    refine ⟨rfl, Ev.succ fun k => ?_⟩
    simp only [foliotref01_RMS.l0, List.length_nil]
    simp
  · right
    refine ⟨h, ?_⟩
    have hp := List.length_pos_iff.2 h
    obtain ⟨q, hq, hr⟩ := rmsB_l0 l hl (min l.length 64) (by omega) (by omega) (by omega) (min l.length 64) 0 [] (by omega) ⟨Nm.nil, by simp, by simp [sq, V]⟩
    rw [ht] at hr
    exact ⟨q, hq, hr⟩
end Go.Proofs.Ytigcmpmpjmbfkaa.Q
