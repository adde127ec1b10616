/- What is to be proved of ClockScript. -/
import Derived.Test.YtfanbadkclelhaaDV
import Derived.Test.YtfanbadkclelhaaPreX
namespace Go.Proofs.Ytfanbadkclelhaa.V
open Go Go.RowKit Go.Proofs.Ytfanbadkclelhaa.Ev
set_option linter.unusedVariables false
set_option maxRecDepth 100000
def okS56 (x : S56) : Prop := (Lit.int .i64 x.f0).wf = true ∧ (Lit.int .i64 x.f1).wf = true ∧ (Lit.int .i64 x.f2).wf = true ∧ (Lit.int .i64 x.f3).wf = true
theorem tm (S : Int) : (0 ≤ S ∧ Int.tmod S 86400 = S % 86400 ∧ Int.tdiv S 86400 = S / 86400) ∨ (S < 0 ∧ Int.tmod S 86400 = -((-S) % 86400) ∧ Int.tdiv S 86400 = -((-S) / 86400)) := by
  rcases Int.lt_or_le S 0 with h | h
  · refine .inr ⟨h, ?_, ?_⟩
    · have e := Int.neg_tmod (-S) 86400
      rw [Int.neg_neg] at e
      rw [e, Int.tmod_eq_emod_of_nonneg (show 0 ≤ -S by omega)]
    · have e := Int.neg_tdiv (-S) 86400
      rw [Int.neg_neg] at e
      rw [e, Int.tdiv_eq_ediv_of_nonneg (show 0 ≤ -S by omega)]
  · exact .inl ⟨h, Int.tmod_eq_emod_of_nonneg h, Int.tdiv_eq_ediv_of_nonneg h⟩
theorem day_p (S : Int) (h0 : -1000000000000000000 ≤ S) (h1 : S ≤ 1000000000000000000) : wrap64 (Int.tdiv (wrap64 (S - Int.tmod (wrap64 (Int.tmod S 86400 + 86400)) 86400)) 86400) = S / 86400 := by
  have a : ∃ t, Int.tmod S 86400 = t ∧ -86400 < t ∧ t < 86400 ∧ (t + 86400) % 86400 = S % 86400 := by
    refine ⟨_, rfl, ?_⟩
    rcases tm S with ⟨h, e, _⟩ | ⟨h, e, _⟩ <;> rw [e] <;> omega
  obtain ⟨t, e, t0, t1, t2⟩ := a
  rw [e, w64_in (n := t + 86400) (by omega) (by omega), Int.tmod_eq_emod_of_nonneg (by omega), t2, w64_in (n := S - S % 86400) (by omega) (by omega)]
  have b : Int.tdiv (S - S % 86400) 86400 = S / 86400 := by
    rcases tm (S - S % 86400) with ⟨h, _, e⟩ | ⟨h, _, e⟩ <;> rw [e] <;> omega
  rw [b, w64_in (by omega) (by omega)]
theorem day_r (S : Int) (h0 : -1000000000000000000 ≤ S) (h1 : S ≤ 1000000000000000000) : (if wrap64 (wrap64 (Int.tdiv S 86400) * 86400) > S then (some (wrap64 (wrap64 (Int.tdiv S 86400) - 1))) else (some (wrap64 (Int.tdiv S 86400)))) = some (S / 86400) := by
  rcases tm S with ⟨h, _, e⟩ | ⟨h, _, e⟩
  · rw [e, w64_in (n := S / 86400) (by omega) (by omega), w64_in (n := S / 86400 * 86400) (by omega) (by omega), if_neg (by omega)]
  · rw [e, w64_in (n := -((-S) / 86400)) (by omega) (by omega), w64_in (n := -((-S) / 86400) * 86400) (by omega) (by omega)]
    split
    · rw [w64_in (by omega) (by omega)]; congr 1; omega
    · congr 1; omega
def bh (era a b : Int) : Int × Int := if b ≥ 0 then (if (a + b) % 18446744073709551616 < a then (wrap64 (era + 1), (a + b) % 18446744073709551616) else (era, (a + b) % 18446744073709551616)) else (if (a + b) % 18446744073709551616 > a then (wrap64 (era - 1), (a + b) % 18446744073709551616) else (era, (a + b) % 18446744073709551616))
theorem plus_eq (a b : Int) : IntKind.u64.wrap (a + IntKind.u64.wrap b) = (a + b) % 18446744073709551616 := by rw [u64w, u64w]; omega
theorem behind_eq (era a b : Int) : clock_behind.f era a b = some (bh era a b) := by
  unfold clock_behind.f stamp_Plus.f bh
  rw [plus_eq, bsome]
  by_cases h : b ≥ 0
  · rw [if_pos h, if_pos h, if_neg (show ¬ b < 0 by omega)]
    split <;> rfl
  · rw [if_neg h, if_neg h, if_pos (show b < 0 by omega)]
    split <;> rfl
theorem shifted_eq (era a b : Int) (ha : 0 ≤ a ∧ a < 18446744073709551616) : Ev (fun k => foliotref16_shifted.f k era a b) (bh era a b) := by
  unfold foliotref16_shifted.f bh
  rw [plus_eq]
  by_cases h : b > 0
  · simp only [h, if_true, show b ≥ 0 by omega]
    by_cases c : (a + b) % 18446744073709551616 < a
    · simp only [c, if_true]
      refine Ev.succ fun k => ?_
      rw [foliotref16_shifted.j0, if_neg (by omega)]
    · simp only [c, if_false]
      refine Ev.succ fun k => ?_
      rw [foliotref16_shifted.j0, if_neg (by omega)]
  · simp only [h, if_false]
    refine Ev.succ fun k => ?_
    rw [foliotref16_shifted.j0]
    by_cases c : b < 0
    · rw [if_pos c, if_neg (show ¬ b ≥ 0 by omega)]
      split <;> rfl
    · obtain rfl : b = 0 := by omega
      rw [if_neg c, if_pos (by omega), if_neg (by omega)]
theorem bh_bd (era a b : Int) (m : Int) (hm : m ≤ 4611686018427387904) (h0 : -m ≤ era) (h1 : era ≤ m) : -m - 1 ≤ (bh era a b).1 ∧ (bh era a b).1 ≤ m + 1 ∧ 0 ≤ (bh era a b).2 ∧ (bh era a b).2 < 18446744073709551616 := by
  unfold bh
  rw [w64_in (n := era + 1) (by omega) (by omega), w64_in (n := era - 1) (by omega) (by omega)]
  (repeat' split) <;> simp only <;> omega
/-- Both clocks' state. -/
structure CI (r f era a x s l q : Int) : Prop where
  r0 : -140737488355 ≤ r
  r1 : r ≤ 140737488355
  f0 : -140737488355 ≤ f
  f1 : f ≤ 140737488355
  e0 : -(1000 + q) ≤ era
  e1 : era ≤ 1000 + q
  a0 : 0 ≤ a
  a1 : a < 18446744073709551616
  x0 : -4611686018427387904 ≤ x
  x1 : x ≤ 4611686018427387904
  s0 : 0 ≤ s
  s1 : s < 65536
  l : l = 0 ∨ l = 1 ∨ l = 2
  q0 : 0 ≤ q
  q1 : q ≤ 1048576
def dayV (era a x : Int) : Int := ((bh era a x).1 * 4294967296 + (bh era a x).2 / 4294967296) / 86400
theorem CI.secs {r f era a x s l q : Int} (h : CI r f era a x s l q) : ∃ S, wrap64 ((wrap64 ((bh era a x).1 * 4294967296)) + (wrap64 ((bh era a x).2 / 4294967296))) = S ∧ S / 86400 = dayV era a x ∧ -1000000000000000000 ≤ S ∧ S ≤ 1000000000000000000 := by
  have b := bh_bd era a x (1000 + q) (by have := h.q1; omega) h.e0 h.e1
  have q1 := h.q1
  unfold dayV
  generalize (bh era a x).1 = e at *
  generalize (bh era a x).2 = t at *
  refine ⟨_, rfl, ?_⟩
  rw [w64_in (n := e * 4294967296) (by omega) (by omega), w64_in (n := t / 4294967296) (by omega) (by omega), w64_in (by omega) (by omega)]
  omega
theorem date_eq (r f era a x s l q : Int) : clock_Clock_Date.f ⟨r, f, era, a, x, s, l, q⟩ = some (bh era a x) := by
  unfold clock_Clock_Date.f
  rw [behind_eq, bsome]
theorem rdate_eq {r f era a x s l q : Int} (h : CI r f era a x s l q) (q' : Int) : Ev (fun k => foliotref16_Clock_Date.f k ⟨era, a, x, r, f, s, l, q'⟩) (bh era a x) := by
  unfold foliotref16_Clock_Date.f
  exact Ev.bind (shifted_eq era a x ⟨h.a0, h.a1⟩) (Ev.now _)
theorem day_eq {r f era a x s l q : Int} (h : CI r f era a x s l q) (q' : Int) : clock_Clock_day.f ⟨r, f, era, a, x, s, l, q'⟩ = some (dayV era a x) := by
  obtain ⟨S, e, ed, b0, b1⟩ := h.secs
  unfold clock_Clock_day.f
  rw [date_eq, bsome, e, day_p S b0 b1, ed]
theorem rday_eq {r f era a x s l q : Int} (h : CI r f era a x s l q) (q' : Int) : Ev (fun k => foliotref16_Clock_day.f k ⟨era, a, x, r, f, s, l, q'⟩) (dayV era a x) := by
  obtain ⟨S, e, ed, b0, b1⟩ := h.secs
  unfold foliotref16_Clock_day.f
  refine Ev.bind (f := fun k t0 => _) (rdate_eq h q') ?_
  rw [e, day_r S b0 b1, ed]
  exact Ev.now _
theorem tick2 {r f era a x s l q : Int} (h : CI r f era a x s l q) (q' : Int) : clock_Clock_tick.f r f era a x s l q' = some (r, f, (bh era a 4294967296).1, (bh era a 4294967296).2, sat (x + (s + (r + f)) / 65536), (s + (r + f)) % 65536, l, q') := by
  obtain ⟨r0, r1, f0, f1, _, _, _, _, x0, x1, s0, s1, _, _, _⟩ := h
  unfold clock_Clock_tick.f clock_oscillator_gain.f
  rw [behind_eq]
  simp only [bsome]
  rw [w64_in (n := r + f) (by omega) (by omega), and16, w64_in (n := s + (r + f)) (by omega) (by omega), add_eq _ _ (by omega) (by omega) (by omega) (by omega)]
  rfl
theorem CI.tick {r f era a x s l q : Int} (h : CI r f era a x s l q) (hq : q + 1 ≤ 1048576) (l' : Int) (hl : l' = 0 ∨ l' = 1 ∨ l' = 2) (x' : Int) (hx : -4611686018427387904 ≤ x' ∧ x' ≤ 4611686018427387904) : CI r f (bh era a 4294967296).1 (bh era a 4294967296).2 x' ((s + (r + f)) % 65536) l' (q + 1) := by
  have b := bh_bd era a 4294967296 (1000 + q) (by omega) h.e0 h.e1
  obtain ⟨r0, r1, f0, f1, _, _, _, _, x0, x1, s0, s1, _, q0, _⟩ := h
  exact ⟨r0, r1, f0, f1, by omega, by omega, b.2.2.1, b.2.2.2, hx.1, hx.2, by omega, by omega, hl, by omega, by omega⟩
theorem cstep_eq (v r f era a x s l q : Int) (hv : -9223372036854775808 ≤ v ∧ v ≤ 9223372036854775807) (hx : -4611686018427387904 ≤ x ∧ x ≤ 4611686018427387904) : clock_Clock_Step.f v r f era a x s l q = some (r, f, era, a, sat (x + v), s, l, q) := by
  unfold clock_Clock_Step.f
  rw [add_eq _ _ (by omega) (by omega) hv.1 hv.2]
  rfl
theorem pass_both (r f base : Int) (n : Nat) (hb : 0 ≤ base) (hn : base + n ≤ 1048576) : ∀ (d i : Nat) (era a x s l : Int), i + d = n → CI r f era a x s l (base + i) →
    ∃ era' a' x' s' l', CI r f era' a' x' s' l' (base + n) ∧ Ev (fun k => clock_Clock_Pass.l0 k n i r f era a x s l (base + n)) (0, r, f, era', a', x', s', l', base + n) ∧ Ev (fun k => foliotref16_Clock_Pass.l0 k n i era a x r f s l (base + i)) (0, era', a', x', r, f, s', l', base + n) := by
  intro d
  induction d with
  | zero =>
    intro i era a x s l hi h
    obtain rfl : i = n := by omega
    refine ⟨era, a, x, s, l, h, Ev.succ fun k => ?_, Ev.succ fun k => ?_⟩
    · rw [clock_Clock_Pass.l0, if_neg (by omega)]
    · rw [foliotref16_Clock_Pass.l0, if_neg (by omega)]
  | succ d ih =>
    intro i era a x s l hi h
    have hw : wrap64 ((i : Int) + 1) = ((i + 1 : Nat) : Int) := by rw [w64_in (by omega) (by omega)]; rfl
    have hw2 : wrap64 (base + (i : Int) + 1) = base + ((i + 1 : Nat) : Int) := by rw [w64_in (by omega) (by omega)]; omega
    have c1 : (i : Int) < (n : Int) := by omega
    have hsat := sat_in (x + (s + (r + f)) / 65536)
    have hs : wrap64 ((wrap64 (s + (wrap64 (r + f)))) - (wrap64 (((wrap64 (s + (wrap64 (r + f)))) / 65536) * 65536))) = (s + (r + f)) % 65536 ∧ (wrap64 (s + (wrap64 (r + f)))) / 65536 = (s + (r + f)) / 65536 := by
      obtain ⟨r0, r1, f0, f1, _, _, _, _, x0, x1, s0, s1, _, _, _⟩ := h
      rw [w64_in (n := r + f) (by omega) (by omega), w64_in (n := s + (r + f)) (by omega) (by omega), w64_in (n := (s + (r + f)) / 65536 * 65536) (by omega) (by omega), w64_in (by omega) (by omega)]
      omega
    have hrad := ref_add x ((s + (r + f)) / 65536) (by have := h.x0; omega) (by have := h.x1; omega) (by have := h.r0; have := h.f0; have := h.s0; omega) (by have := h.r1; have := h.f1; have := h.s1; omega)
    have next : ∀ (l' x' : Int), (l' = 0 ∨ l' = 1 ∨ l' = 2) → (-4611686018427387904 ≤ x' ∧ x' ≤ 4611686018427387904) → CI r f (bh era a 4294967296).1 (bh era a 4294967296).2 x' ((s + (r + f)) % 65536) l' (base + ((i + 1 : Nat) : Int)) := fun l' x' hl hx => by
      have := h.tick (by omega) l' hl x' hx
      rw [show base + (i : Int) + 1 = base + ((i + 1 : Nat) : Int) from by omega] at this
      exact this
    have tk := tick2 h (base + n)
    by_cases hl : l = 0
    · subst hl
      obtain ⟨era', a', x', s', l', hc, e1, e2⟩ := ih (i + 1) _ _ _ _ 0 (by omega) (next 0 _ (.inl rfl) hsat)
      refine ⟨era', a', x', s', l', hc, ?_, ?_⟩
      · refine Ev.step (fun k => by rw [clock_Clock_Pass.l0, if_pos c1, if_neg (by decide)]) ?_
        refine Ev.step (fun k => by rw [clock_Clock_Pass.j0, tk, bsome, hw]) ?_
        refine Ev.congr (fun k => if_pos rfl) e1
      · refine Ev.step (fun k => by rw [foliotref16_Clock_Pass.l0, if_pos c1, hs.1, hs.2, hw, hw2]) ?_
        refine Ev.bind (f := fun k t0 => _) (rday_eq h _) ?_
        refine Ev.bind (f := fun k t1 => _) (shifted_eq era a 4294967296 ⟨h.a0, h.a1⟩) ?_
        refine Ev.bind (f := fun k t2 => _) hrad ?_
        refine Ev.congr (fun k => if_neg (by decide)) ?_
        exact e2
    · have h2 := next l (sat (x + (s + (r + f)) / 65536)) h.l hsat
      have dp := day_eq h (base + n)
      have dp2 := day_eq h2 (base + n)
      have dr := rday_eq h (base + i)
      have dr2 := rday_eq h2 (base + ((i + 1 : Nat) : Int))
      by_cases hd : dayV (bh era a 4294967296).1 (bh era a 4294967296).2 (sat (x + (s + (r + f)) / 65536)) ≤ dayV era a x
      · obtain ⟨era', a', x', s', l', hc, e1, e2⟩ := ih (i + 1) _ _ _ _ l (by omega) h2
        refine ⟨era', a', x', s', l', hc, ?_, ?_⟩
        · refine Ev.step (fun k => by rw [clock_Clock_Pass.l0, if_pos c1, if_pos hl, dp, bsome]) ?_
          refine Ev.step (fun k => by rw [clock_Clock_Pass.j0, tk, bsome, hw]) ?_
          refine Ev.congr (fun k => if_neg hl) ?_
          refine Ev.bind (f := fun k t2 => _) (Ev.const dp2) ?_
          refine Ev.congr (fun k => if_pos hd) e1
        · refine Ev.step (fun k => by rw [foliotref16_Clock_Pass.l0, if_pos c1, hs.1, hs.2, hw, hw2]) ?_
          refine Ev.bind (f := fun k t0 => _) dr ?_
          refine Ev.bind (f := fun k t1 => _) (shifted_eq era a 4294967296 ⟨h.a0, h.a1⟩) ?_
          refine Ev.bind (f := fun k t2 => _) hrad ?_
          refine Ev.congr (fun k => if_pos hl) ?_
          refine Ev.bind (f := fun k t3 => _) dr2 ?_
          refine Ev.congr (fun k => if_neg (by omega)) e2
      · by_cases hl1 : l = 1
        · have hs2 := sat_in (sat (x + (s + (r + f)) / 65536) + -4294967296)
          obtain ⟨era', a', x', s', l', hc, e1, e2⟩ := ih (i + 1) _ _ _ _ 0 (by omega) (next 0 _ (.inl rfl) hs2)
          refine ⟨era', a', x', s', l', hc, ?_, ?_⟩
          · refine Ev.step (fun k => by rw [clock_Clock_Pass.l0, if_pos c1, if_pos hl, dp, bsome]) ?_
            refine Ev.step (fun k => by rw [clock_Clock_Pass.j0, tk, bsome, hw]) ?_
            refine Ev.congr (fun k => if_neg hl) ?_
            refine Ev.bind (f := fun k t2 => _) (Ev.const dp2) ?_
            refine Ev.congr (fun k => if_neg hd) ?_
            refine Ev.congr (fun k => if_pos hl1) ?_
            refine Ev.bind (f := fun k t3 => _) (Ev.const (cstep_eq (-4294967296) _ _ _ _ _ _ _ _ (by omega) hsat)) ?_
            exact e1
          · refine Ev.step (fun k => by rw [foliotref16_Clock_Pass.l0, if_pos c1, hs.1, hs.2, hw, hw2]) ?_
            refine Ev.bind (f := fun k t0 => _) dr ?_
            refine Ev.bind (f := fun k t1 => _) (shifted_eq era a 4294967296 ⟨h.a0, h.a1⟩) ?_
            refine Ev.bind (f := fun k t2 => _) hrad ?_
            refine Ev.congr (fun k => if_pos hl) ?_
            refine Ev.bind (f := fun k t3 => _) dr2 ?_
            refine Ev.congr (fun k => if_pos (by omega)) ?_
            refine Ev.congr (fun k => if_pos hl1) ?_
            refine Ev.bind (f := fun k t4 => _) (ref_sub _ 4294967296 (by omega) (by omega) (by omega) (by omega)) ?_
            rw [← Int.sub_eq_add_neg] at e2
            exact e2
        · have hs2 := sat_in (sat (x + (s + (r + f)) / 65536) + 4294967296)
          obtain ⟨era', a', x', s', l', hc, e1, e2⟩ := ih (i + 1) _ _ _ _ 0 (by omega) (next 0 _ (.inl rfl) hs2)
          refine ⟨era', a', x', s', l', hc, ?_, ?_⟩
          · refine Ev.step (fun k => by rw [clock_Clock_Pass.l0, if_pos c1, if_pos hl, dp, bsome]) ?_
            refine Ev.step (fun k => by rw [clock_Clock_Pass.j0, tk, bsome, hw]) ?_
            refine Ev.congr (fun k => if_neg hl) ?_
            refine Ev.bind (f := fun k t2 => _) (Ev.const dp2) ?_
            refine Ev.congr (fun k => if_neg hd) ?_
            refine Ev.congr (fun k => if_neg hl1) ?_
            refine Ev.bind (f := fun k t3 => _) (Ev.const (cstep_eq 4294967296 _ _ _ _ _ _ _ _ (by omega) hsat)) ?_
            exact e1
          · refine Ev.step (fun k => by rw [foliotref16_Clock_Pass.l0, if_pos c1, hs.1, hs.2, hw, hw2]) ?_
            refine Ev.bind (f := fun k t0 => _) dr ?_
            refine Ev.bind (f := fun k t1 => _) (shifted_eq era a 4294967296 ⟨h.a0, h.a1⟩) ?_
            refine Ev.bind (f := fun k t2 => _) hrad ?_
            refine Ev.congr (fun k => if_pos hl) ?_
            refine Ev.bind (f := fun k t3 => _) dr2 ?_
            refine Ev.congr (fun k => if_pos (by omega)) ?_
            refine Ev.congr (fun k => if_neg hl1) ?_
            refine Ev.bind (f := fun k t4 => _) (ref_add _ 4294967296 (by omega) (by omega) (by omega) (by omega)) ?_
            exact e2
theorem told_true {r f era a x s l q : Int} (h : CI r f era a x s l q) : Ev (fun k => foliotlaw16_told.f k ⟨r, f, era, a, x, s, l, q⟩ ⟨era, a, x, r, f, s, l, q⟩) true := by
  unfold foliotlaw16_told.f clock_Clock_Now.f clock_Clock_True.f clock_Clock_Error.f clock_Clock_Freq.f clock_Clock_Rate.f clock_Clock_Seconds.f foliotlaw16_date.f
  have hn : Ev (fun k => foliotref16_Clock_Now.f k ⟨era, a, x, r, f, s, l, q⟩) (bh era a x).2 := by
    unfold foliotref16_Clock_Now.f
    exact Ev.bind (rdate_eq h q) (Ev.now _)
  rw [date_eq]
  simp only [bsome]
  refine Ev.bind (f := fun k t1 => _) hn ?_
  simp only [if_true]
  refine Ev.bind (f := fun k t4 => _) (rdate_eq h q) ?_
  simp only [and_self, if_true, decide_true]
  exact Ev.now _
theorem does_eq {r f era a x s l q : Int} (h : CI r f era a x s l q) (k0 n v g : Int) (hn : -9223372036854775808 ≤ n ∧ n ≤ 9223372036854775807) (hv : -9223372036854775808 ≤ v ∧ v ≤ 9223372036854775807) (hg : -9223372036854775808 ≤ g ∧ g ≤ 9223372036854775807) :
    ∃ r' f' era' a' x' s' l' q', CI r' f' era' a' x' s' l' q' ∧ Ev (fun k => foliotlaw16_does.f k k0 n v g r f era a x s l q era a x r f s l q) (true, r', f', era', a', x', s', l', q', era', a', x', r', f', s', l', q') := by
  have hx : -4611686018427387904 ≤ x ∧ x ≤ 4611686018427387904 := ⟨h.x0, h.x1⟩
  unfold foliotlaw16_does.f
  by_cases c0 : k0 = 0
  · simp only [c0, if_true]
    unfold clock_Clock_Pass.f foliotref16_Clock_Pass.f
    by_cases d0 : n < 0
    · refine ⟨r, f, era, a, x, s, l, q, h, ?_⟩
      simp only [d0, if_true, bsome, decide_true]
      exact Ev.now _
    · have hw : wrap64 (1048576 - q) = 1048576 - q := w64_in (by have := h.q1; omega) (by have := h.q0; omega)
      rw [hw]
      by_cases d1 : n > 1048576 - q
      · refine ⟨r, f, era, a, x, s, l, q, h, ?_⟩
        simp only [d0, d1, if_true, if_false, bsome, decide_true]
        exact Ev.now _
      · obtain ⟨m, rfl⟩ : ∃ m : Nat, n = m := ⟨n.toNat, by omega⟩
        obtain ⟨era', a', x', s', l', hc, e1, e2⟩ := pass_both r f q m h.q0 (by omega) m 0 era a x s l (by omega) (by simpa using h)
        refine ⟨r, f, era', a', x', s', l', q + m, hc, ?_⟩
        simp only [d0, d1, if_false]
        rw [w64_in (n := q + (m : Int)) (by have := h.q0; omega) (by omega)]
        have e2' : Ev (fun k => foliotref16_Clock_Pass.l0 k m 0 era a x r f s l q) (0, era', a', x', r, f, s', l', q + m) := by simpa using e2
        refine Ev.bind (f := fun k t0 => _) e1 ?_
        refine Ev.bind (f := fun k t1 => _) e2' ?_
        simp only [decide_true]
        exact Ev.now _
  simp only [c0, if_false]
  have hs2 := sat_in (x + v)
  have hstep : CI r f era a (sat (x + v)) s l q := ⟨h.r0, h.r1, h.f0, h.f1, h.e0, h.e1, h.a0, h.a1, hs2.1, hs2.2, h.s0, h.s1, h.l, h.q0, h.q1⟩
  have hradd := ref_add x v (by omega) (by omega) hv.1 hv.2
  by_cases c1 : k0 = 1
  · refine ⟨_, _, _, _, _, _, _, _, hstep, ?_⟩
    simp only [c1, if_true]
    unfold clock_Clock_Slew.f foliotref16_Clock_Slew.f
    rw [cstep_eq v _ _ _ _ _ _ _ _ hv hx]
    simp only [bsome]
    refine Ev.bind (f := fun k t3 => _) (Ev.bind (f := fun k t0 => _) hradd (Ev.now _)) (Ev.now _)
  simp only [c1, if_false]
  by_cases c2 : k0 = 2
  · refine ⟨_, _, _, _, _, _, _, _, hstep, ?_⟩
    simp only [c2, if_true]
    unfold foliotref16_Clock_Slew.f
    rw [cstep_eq v _ _ _ _ _ _ _ _ hv hx]
    simp only [bsome]
    refine Ev.bind (f := fun k t3 => _) (Ev.bind (f := fun k t0 => _) hradd (Ev.now _)) (Ev.now _)
  simp only [c2, if_false]
  have hcl : -140737488355 ≤ clampTo 140737488355 g ∧ clampTo 140737488355 g ≤ 140737488355 := by unfold clampTo; (repeat' split) <;> omega
  by_cases c3 : k0 = 3
  · refine ⟨_, _, _, _, _, _, _, _, (⟨h.r0, h.r1, hcl.1, hcl.2, h.e0, h.e1, h.a0, h.a1, h.x0, h.x1, h.s0, h.s1, h.l, h.q0, h.q1⟩ : CI r (clampTo 140737488355 g) era a x s l q), ?_⟩
    simp only [c3, if_true]
    unfold clock_Clock_SetFreq.f foliotref16_Clock_SetFreq.f
    rw [fcut_eq g hg.1 hg.2]
    simp only [bsome]
    refine Ev.bind (f := fun k t3 => _) (Ev.bind (f := fun k t0 => _) (ref_cut g hg.1 hg.2) (Ev.now _)) (Ev.now _)
  simp only [c3, if_false]
  by_cases c4 : k0 = 4
  · refine ⟨_, _, _, _, _, _, _, _, (⟨hcl.1, hcl.2, h.f0, h.f1, h.e0, h.e1, h.a0, h.a1, h.x0, h.x1, h.s0, h.s1, h.l, h.q0, h.q1⟩ : CI (clampTo 140737488355 g) f era a x s l q), ?_⟩
    simp only [c4, if_true]
    unfold clock_Clock_SetRate.f foliotref16_Clock_SetRate.f
    rw [fcut_eq g hg.1 hg.2]
    simp only [bsome]
    refine Ev.bind (f := fun k t3 => _) (Ev.bind (f := fun k t0 => _) (ref_cut g hg.1 hg.2) (Ev.now _)) (Ev.now _)
  simp only [c4, if_false]
  by_cases c5 : k0 = 5
  · simp only [c5, if_true]
    unfold clock_Clock_SetLeap.f foliotref16_Clock_SetLeap.f
    by_cases d : n = 0 ∨ n = 1 ∨ n = 2
    · refine ⟨_, _, _, _, _, _, _, _, (⟨h.r0, h.r1, h.f0, h.f1, h.e0, h.e1, h.a0, h.a1, h.x0, h.x1, h.s0, h.s1, d, h.q0, h.q1⟩ : CI r f era a x s n q), ?_⟩
      rcases d with rfl | rfl | rfl <;> exact Ev.now _
    · refine ⟨_, _, _, _, _, _, _, _, h, ?_⟩
      rw [if_neg (by omega), if_neg (by omega), if_neg (by omega)]
      by_cases d2 : n < 0
      · rw [if_pos d2]; exact Ev.now _
      · rw [if_neg d2, if_pos (by omega)]; exact Ev.now _
  simp only [c5, if_false]
  by_cases c6 : k0 = 6
  · refine ⟨_, _, _, _, _, _, _, _, h, ?_⟩
    simp only [c6, if_true]
    have hrf : -9223372036854775808 ≤ r + f ∧ r + f ≤ 9223372036854775807 := by have := h.r0; have := h.r1; have := h.f0; have := h.f1; omega
    have hd := sat_in ((r + f) * v / 281474976710656)
    have p : Ev (fun k => clock_Clock_At.f k ⟨r, f, era, a, x, s, l, q⟩ v) (IntKind.u64.wrap ((bh era a x).2 + IntKind.u64.wrap (sat (v + sat ((r + f) * v / 281474976710656))))) := by
      unfold clock_Clock_At.f clock_Clock_Now.f clock_oscillator_gain.f stamp_Plus.f
      rw [date_eq]
      simp only [bsome]
      rw [w64_in hrf.1 hrf.2]
      refine Ev.bind (f := fun k t2 => _) (ev_drift (r + f) v hrf.1 hrf.2 hv.1 hv.2) ?_
      refine Ev.bind (f := fun k t3 => _) (ev_add v _ hv.1 hv.2 (by omega) (by omega)) (Ev.now _)
    have w : Ev (fun k => foliotref16_Clock_At.f k ⟨era, a, x, r, f, s, l, q⟩ v) (IntKind.u64.wrap ((bh era a x).2 + IntKind.u64.wrap (sat (v + sat ((r + f) * v / 281474976710656))))) := by
      unfold foliotref16_Clock_At.f foliotref16_Clock_Now.f foliotref02_Plus.f
      refine Ev.bind (f := fun k t0 => _) (Ev.bind (f := fun k t => _) (rdate_eq h q) (Ev.now _)) ?_
      rw [w64_in hrf.1 hrf.2]
      refine Ev.bind (f := fun k t1 => _) (ref_drift (r + f) v hrf.1 hrf.2 hv.1 hv.2) ?_
      refine Ev.bind (f := fun k t2 => _) (ref_add v _ hv.1 hv.2 (by omega) (by omega)) (Ev.now _)
    refine Ev.bind (f := fun k t12 => _) p ?_
    refine Ev.bind (f := fun k t13 => _) w ?_
    simp only [decide_true]
    exact Ev.now _
  refine ⟨_, _, _, _, _, _, _, _, h, ?_⟩
  simp only [c6, if_false]
  exact Ev.now _
theorem cscript_l0 (l : List S56) (hlen : l.length ≤ 4611686018427387904) (hx : ∀ x ∈ l, okS56 x) : ∀ (d i : Nat) (r f era a x s lp q : Int), i + d = l.length → CI r f era a x s lp q → Ev (fun k => foliotlaw16_ClockScript.l0 k l (l.length : Int) (i : Int) r f era a x s lp q era a x r f s lp q) true := by
  intro d
  induction d with
  | zero =>
    intro i r f era a x s lp q hi h
    refine Ev.succ fun k => ?_
    rw [foliotlaw16_ClockScript.l0, if_neg (by omega)]
  | succ d ih =>
    intro i r f era a x s lp q hi h
    have hil : i < l.length := by omega
    have hw : wrap64 ((i : Int) + 1) = ((i + 1 : Nat) : Int) := by rw [w64_in (by omega) (by omega)]; rfl
    have e : rdOf z_S56 l (i : Int) = l[i] := by unfold rdOf; rw [Int.toNat_natCast, List.getD_eq_getElem?_getD, List.getElem?_eq_getElem hil]; rfl
    obtain ⟨o0, o1, o2, o3⟩ := hx _ (List.getElem_mem hil)
    generalize l[i] = o at *
    obtain ⟨r', f', era', a', x', s', l', q', hc, hd⟩ := does_eq h o.f0 o.f1 o.f2 o.f3 (wf64 o1) (wf64 o2) (wf64 o3)
    refine Ev.step (fun k => by rw [foliotlaw16_ClockScript.l0, if_pos (by omega), if_pos (by omega), if_pos (by omega), e, hw]) ?_
    refine Ev.bind (f := fun k t5 => _) hd ?_
    simp only [Bool.not_true, cond_false]
    refine Ev.bind (f := fun k t6 => _) (told_true hc) ?_
    simp only [Bool.not_true, cond_false]
    exact ih (i + 1) r' f' era' a' x' s' l' q' (by omega) hc
theorem rclamp_eq (x : Int) (h0 : -9223372036854775808 ≤ x) (h1 : x ≤ 9223372036854775807) : Ev (fun k => foliotref01_Clamp.f k x 4611686018427387904) (sat x) := by
  unfold foliotref01_Clamp.f
  obtain ⟨u, eu, bu⟩ := ev_s x h0 h1
  obtain ⟨v, evv, bv⟩ := ev_s 4611686018427387904 (by omega) (by omega)
  have hc := ev_cmp u v bu.1 bv.1 (by have := bu.2.1; omega)
  refine Ev.congr (fun k => by rw [if_neg (by omega)]) ?_
  refine Ev.bind (f := fun k t0 => _) eu ?_
  refine Ev.bind (f := fun k t1 => _) evv ?_
  refine Ev.bind (f := fun k t2 => _) hc ?_
  have vv : V v = 4611686018427387904 := by have := bv.2.2; simpa using this.symm
  have uu := bu.2.2
  by_cases hgt : sgn (V u - V v) > 0
  · simp only [hgt, if_true]
    refine Ev.bind (f := fun k t3 => _) evv ?_
    have hb : Big 4 v (decide (x < 0)) (if x < 0 then -4611686018427387904 else 4611686018427387904) := ⟨bv.1, bv.2.1, by rw [vv]; by_cases hx : x < 0 <;> simp [hx]⟩
    have hs := ev_spanB hb (by omega)
    have e : sat (if x < 0 then -4611686018427387904 else 4611686018427387904) = sat x := by
      have hV : V u > 4611686018427387904 := by unfold sgn at hgt; rw [vv] at hgt; (repeat' split at hgt) <;> omega
      by_cases hx : x < 0
      · simp only [hx, decide_true, if_true] at uu ⊢
        unfold sat clampTo; (repeat' split) <;> omega
      · simp only [hx, decide_false, Bool.false_eq_true, if_false] at uu ⊢
        unfold sat clampTo; (repeat' split) <;> omega
    rw [e] at hs
    exact Ev.bind (f := fun k t4 => _) hs (Ev.now _)
  · simp only [hgt, if_false]
    exact Ev.bind (f := fun k t5 => _) (ev_spanB bu (by omega)) (Ev.now _)
theorem sat_if (w : Int) : (if 4611686018427387904 < w then 4611686018427387904 else if w < -4611686018427387904 then -4611686018427387904 else w) = sat w := by
  unfold sat clampTo; (repeat' split) <;> omega
namespace Pure
theorem ClockScript (a0_0 : Int) (a0_1 : Int) (a1 : Int) (a2 : Int) (a3 : List S56) (h0 : (Lit.int .i64 a0_0).wf = true) (h1 : (Lit.int .u64 a0_1).wf = true) (h2 : (Lit.int .i64 a1).wf = true) (h3 : (Lit.int .i64 a2).wf = true) (h4 : (a3.length ≤ 9223372036854775807 ∧ a3.length * 32 ≤ 140737488351232 ∧ ∀ x ∈ a3, okS56 x)) : ∃ k, foliotlaw16_ClockScript.f k a0_0 a0_1 a1 a2 a3 = some true := by
  obtain ⟨_, h4l, hx⟩ := h4
  have b1 := wf64 h2
  have b2 := wf64 h3
  have ba := wfu64 h1
  refine Ev.rounds (r := true) ?_
  unfold foliotlaw16_ClockScript.f
  refine Ev.bind (f := fun k t0 => _) ⟨200000, fun k hk => shown_eq k hk⟩ ?_
  simp only [Bool.not_true, cond_false]
  rw [new_eq a0_0 a0_1 a1 a2 b1.1 b1.2 b2.1 b2.2, sat_if]
  simp only [bsome, foliotlaw16_date.f]
  have hcl : -140737488355 ≤ clampTo 140737488355 a2 ∧ clampTo 140737488355 a2 ≤ 140737488355 := by unfold clampTo; (repeat' split) <;> omega
  have hs := sat_in a1
  have hera : -1000 ≤ (if a0_0 < -1000 then 0 else if a0_0 > 1000 then 0 else a0_0) ∧ (if a0_0 < -1000 then 0 else if a0_0 > 1000 then 0 else a0_0) ≤ 1000 := by
    (repeat' split) <;> omega
  have rnew : Ev (fun k => foliotref16_New.f k a0_0 a0_1 a1 a2) ((if a0_0 < -1000 then 0 else if a0_0 > 1000 then 0 else a0_0), a0_1, sat a1, clampTo 140737488355 a2, 0, 0, 0, 0) := by
    unfold foliotref16_New.f
    have hc := rclamp_eq a1 b1.1 b1.2
    have hcut := ref_cut a2 b2.1 b2.2
    (repeat' split) <;> exact Ev.bind (f := fun k t => _) hc (Ev.bind (f := fun k t => _) hcut (Ev.now _))
  refine Ev.bind (f := fun k t3 => _) rnew ?_
  generalize (if a0_0 < -1000 then 0 else if a0_0 > 1000 then 0 else a0_0) = era at *
  have hci : CI (clampTo 140737488355 a2) 0 era a0_1 (sat a1) 0 0 0 := ⟨hcl.1, hcl.2, by omega, by omega, by omega, by omega, ba.1, by omega, hs.1, hs.2, by omega, by omega, .inl rfl, by omega, by omega⟩
  refine Ev.bind (f := fun k t4 => _) (told_true hci) ?_
  simp only [Bool.not_true, cond_false]
  exact cscript_l0 a3 (by omega) hx a3.length 0 _ _ _ _ _ _ _ _ (by omega) hci
end Pure
end Go.Proofs.Ytfanbadkclelhaa.V
