/- What is to be proved of ClockLeaps. -/
import Derived.Test.YtfanbadkclelhaaDL5
import Derived.Test.YtfanbadkclelhaaPreL5
namespace Go.Proofs.Ytfanbadkclelhaa.L5
open Go Go.RowKit Go.Proofs.Ytfanbadkclelhaa.Ev
set_option linter.unusedVariables false
set_option linter.unusedSimpArgs false
set_option maxRecDepth 100000

theorem floor_eq (v : Int) (h0 : -1000000000000000000 ≤ v) (h1 : v ≤ 1000000000000000000) : foliotlaw16_floor.f v = some (v / 86400) := by
  unfold foliotlaw16_floor.f
  rcases tm v with ⟨h, _, e⟩ | ⟨h, _, e⟩
  · rw [e, if_neg (by omega), w64_in (by omega) (by omega)]
  · rw [e, if_pos h, w64_in (n := -((-v) / 86400)) (by omega) (by omega), w64_in (n := -((-v) / 86400) * 86400) (by omega) (by omega)]
    split
    · rw [w64_in (by omega) (by omega)]; congr 1; omega
    · congr 1; omega
def secsOf (era a : Int) : Int := era * 4294967296 + a / 4294967296
theorem secs_next (era a : Int) (h0 : 0 ≤ a) (h1 : a < 18446744073709551616) (e0 : -10000000 ≤ era) (e1 : era ≤ 10000000) : secsOf (bh era a 4294967296).1 (bh era a 4294967296).2 = secsOf era a + 1 := by
  unfold secsOf bh
  rw [if_pos (by omega), w64_in (by omega) (by omega)]
  split <;> simp only <;> omega
theorem bh_zero (era a : Int) (h0 : 0 ≤ a) (h1 : a < 18446744073709551616) : bh era a 0 = (era, a) := by
  unfold bh
  rw [if_pos (by omega), Int.add_zero, show a % 18446744073709551616 = a from by omega, if_neg (by omega)]
theorem dayV_zero (era a : Int) (h0 : 0 ≤ a) (h1 : a < 18446744073709551616) : dayV era a 0 = secsOf era a / 86400 := by
  unfold dayV secsOf
  rw [bh_zero era a h0 h1]
/-- A clock with a leap ordered (L), q seconds on. -/
structure LI (S0 L want : Int) (era a x l q : Int) : Prop where
  s : secsOf era a = S0 + q
  e0 : -(1000 + q) ≤ era
  e1 : era ≤ 1000 + q
  a0 : 0 ≤ a
  a1 : a < 18446744073709551616
  q0 : 0 ≤ q
  q1 : q ≤ 1048576
  v : ((S0 + q) / 86400 > S0 / 86400 → l = 0 ∧ x = want) ∧ (¬ (S0 + q) / 86400 > S0 / 86400 → l = L ∧ x = 0)
structure Lk (L want : Int) : Prop where
  c : (L = 0 ∧ want = 0) ∨ (L = 1 ∧ want = -4294967296) ∨ (L = 2 ∧ want = 4294967296)
theorem pass_leap (S0 L want base : Int) (lk : Lk L want) (n : Nat) (hb : 0 ≤ base) (hn : base + n ≤ 1048576) : ∀ (d i : Nat) (era a x l : Int), i + d = n → LI S0 L want era a x l (base + i) →
    ∃ era' a' x' l', LI S0 L want era' a' x' l' (base + n) ∧ Ev (fun k => clock_Clock_Pass.l0 k n i 0 0 era a x 0 l (base + n)) (0, 0, 0, era', a', x', 0, l', base + n) := by
  intro d
  induction d with
  | zero =>
    intro i era a x l hi h
    obtain rfl : i = n := by omega
    refine ⟨era, a, x, l, h, Ev.succ fun k => ?_⟩
    rw [clock_Clock_Pass.l0, if_neg (by omega)]
  | succ d ih =>
    intro i era a x l hi h
    have hw : wrap64 ((i : Int) + 1) = ((i + 1 : Nat) : Int) := by rw [w64_in (by omega) (by omega)]; rfl
    have c1 : (i : Int) < (n : Int) := by omega
    obtain ⟨hs, e0, e1, a0, a1, q0, q1, hv1, hv2⟩ := h
    have lk' := lk.c
    have hxb : x = 0 ∨ x = want := by
      by_cases c : (S0 + (base + (i : Int))) / 86400 > S0 / 86400
      · exact .inr (hv1 c).2
      · exact .inl (hv2 c).2
    have hci : CI 0 0 era a x 0 (if l = 0 then 0 else 1) (base + i) := ⟨by omega, by omega, by omega, by omega, e0, e1, a0, a1, by omega, by omega, by omega, by omega, by split <;> simp, q0, q1⟩
    have tk0 := tick2 hci (base + n)
    have hsn := secs_next era a a0 a1 (by omega) (by omega)
    have hbb := bh_bd era a 4294967296 (1000 + (base + (i : Int))) (by omega) e0 e1
    have ex : sat (x + (0 + ((0 : Int) + 0)) / 65536) = x := by
      rw [show x + (0 + ((0 : Int) + 0)) / 65536 = x from by omega, sat_of (by omega) (by omega)]
    have tk : clock_Clock_tick.f 0 0 era a x 0 l (base + n) = some (0, 0, (bh era a 4294967296).1, (bh era a 4294967296).2, x, 0, l, base + n) := by
      unfold clock_Clock_tick.f clock_oscillator_gain.f at tk0 ⊢
      rw [behind_eq] at tk0 ⊢
      simp only [bsome] at tk0 ⊢
      rw [w64_in (n := (0 : Int) + 0) (by omega) (by omega), and16, w64_in (by omega) (by omega), add_eq _ _ (by omega) (by omega) (by omega) (by omega)]
      simp only [bsome]
      rw [ex]
      rfl
    generalize (bh era a 4294967296).1 = era1 at *
    generalize (bh era a 4294967296).2 = a1' at *
    have li : ∀ x' l', (((S0 + (base + ((i + 1 : Nat) : Int))) / 86400 > S0 / 86400 → l' = 0 ∧ x' = want) ∧ (¬ (S0 + (base + ((i + 1 : Nat) : Int))) / 86400 > S0 / 86400 → l' = L ∧ x' = 0)) → LI S0 L want era1 a1' x' l' (base + ((i + 1 : Nat) : Int)) := fun x' l' hv =>
      ⟨by rw [hsn, hs]; omega, by omega, by omega, hbb.2.2.1, hbb.2.2.2, by omega, by omega, hv⟩
    by_cases hl : l = 0
    · subst hl
      obtain ⟨era', a', x', l', hc, e⟩ := ih (i + 1) era1 a1' x 0 (by omega) (li x 0 (by
        by_cases c : (S0 + (base + (i : Int))) / 86400 > S0 / 86400
        · have := (hv1 c).2; exact ⟨fun _ => ⟨rfl, this⟩, fun h => by omega⟩
        · have := hv2 c; exact ⟨fun _ => ⟨rfl, by omega⟩, fun _ => ⟨by omega, by omega⟩⟩))
      refine ⟨era', a', x', l', hc, ?_⟩
      refine Ev.step (fun k => by rw [clock_Clock_Pass.l0, if_pos c1, if_neg (by decide)]) ?_
      refine Ev.step (fun k => by rw [clock_Clock_Pass.j0, tk, bsome, hw]) ?_
      exact Ev.congr (fun k => if_pos rfl) e
    · have c : ¬ (S0 + (base + (i : Int))) / 86400 > S0 / 86400 := fun c => hl (hv1 c).1
      obtain ⟨rfl, rfl⟩ := hv2 c
      have hci2 : CI 0 0 era a 0 0 l (base + i) := ⟨by omega, by omega, by omega, by omega, e0, e1, a0, a1, by omega, by omega, by omega, by omega, by omega, q0, q1⟩
      have hci3 : CI 0 0 era1 a1' 0 0 l (base + ((i + 1 : Nat) : Int)) := ⟨by omega, by omega, by omega, by omega, by omega, by omega, hbb.2.2.1, hbb.2.2.2, by omega, by omega, by omega, by omega, by omega, by omega, by omega⟩
      have d1 := day_eq hci2 (base + n)
      have d2 := day_eq hci3 (base + n)
      rw [dayV_zero era a a0 a1, hs] at d1
      rw [dayV_zero era1 a1' hbb.2.2.1 hbb.2.2.2, hsn, hs] at d2
      by_cases hd : (S0 + (base + (i : Int)) + 1) / 86400 ≤ (S0 + (base + (i : Int))) / 86400
      · obtain ⟨era', a', x', l', hc, e⟩ := ih (i + 1) era1 a1' 0 l (by omega) (li 0 l ⟨fun h => by omega, fun _ => ⟨rfl, rfl⟩⟩)
        refine ⟨era', a', x', l', hc, ?_⟩
        refine Ev.step (fun k => by rw [clock_Clock_Pass.l0, if_pos c1, if_pos hl, d1, bsome]) ?_
        refine Ev.step (fun k => by rw [clock_Clock_Pass.j0, tk, bsome, hw]) ?_
        refine Ev.congr (fun k => if_neg hl) ?_
        refine Ev.bind (f := fun k t2 => _) (Ev.const d2) ?_
        exact Ev.congr (fun k => if_pos hd) e
      · have hgo : ∀ (x' : Int), x' = want → ∃ era' a' x'' l', LI S0 l want era' a' x'' l' (base + n) ∧ Ev (fun k => clock_Clock_Pass.l0 k n ((i + 1 : Nat) : Int) 0 0 era1 a1' x' 0 0 (base + n)) (0, 0, 0, era', a', x'', 0, l', base + n) := fun x' hx' =>
          ih (i + 1) era1 a1' x' 0 (by omega) (li x' 0 ⟨fun _ => ⟨rfl, hx'⟩, fun h => by omega⟩)
        by_cases hl1 : l = 1
        · obtain ⟨era', a', x', l', hc, e⟩ := hgo (sat (0 + -4294967296)) (by rw [sat_of (by omega) (by omega)]; omega)
          refine ⟨era', a', x', l', hc, ?_⟩
          refine Ev.step (fun k => by rw [clock_Clock_Pass.l0, if_pos c1, if_pos hl, d1, bsome]) ?_
          refine Ev.step (fun k => by rw [clock_Clock_Pass.j0, tk, bsome, hw]) ?_
          refine Ev.congr (fun k => if_neg hl) ?_
          refine Ev.bind (f := fun k t2 => _) (Ev.const d2) ?_
          refine Ev.congr (fun k => if_neg hd) ?_
          refine Ev.congr (fun k => if_pos hl1) ?_
          refine Ev.bind (f := fun k t3 => _) (Ev.const (cstep_eq (-4294967296) 0 0 era1 a1' 0 0 l (base + n) (by omega) (by omega))) ?_
          exact e
        · obtain ⟨era', a', x', l', hc, e⟩ := hgo (sat (0 + 4294967296)) (by rw [sat_of (by omega) (by omega)]; omega)
          refine ⟨era', a', x', l', hc, ?_⟩
          refine Ev.step (fun k => by rw [clock_Clock_Pass.l0, if_pos c1, if_pos hl, d1, bsome]) ?_
          refine Ev.step (fun k => by rw [clock_Clock_Pass.j0, tk, bsome, hw]) ?_
          refine Ev.congr (fun k => if_neg hl) ?_
          refine Ev.bind (f := fun k t2 => _) (Ev.const d2) ?_
          refine Ev.congr (fun k => if_neg hd) ?_
          refine Ev.congr (fun k => if_neg hl1) ?_
          refine Ev.bind (f := fun k t3 => _) (Ev.const (cstep_eq 4294967296 0 0 era1 a1' 0 0 l (base + n) (by omega) (by omega))) ?_
          exact e
theorem leaps_l0 (S0 L want : Int) (lk : Lk L want) (era0 at0 : Int) (hS : secsOf era0 at0 = S0) (he : -1000 ≤ era0 ∧ era0 ≤ 1000) (ha : 0 ≤ at0 ∧ at0 < 18446744073709551616) (l : List Int) (hl : l.length ≤ 4611686018427387904) (hx : ∀ x ∈ l, (Lit.int .i64 x).wf = true) :
    ∀ (d i : Nat) (n : Int) (era a x lp : Int), i + d = l.length → 0 ≤ n → n ≤ 262144 → LI S0 L want era a x lp n → Ev (fun k => foliotlaw16_ClockLeaps.l0 k want (S0 / 86400) n l (l.length : Int) (i : Int) era0 at0 0 0 era a x 0 lp n) true := by
  intro d
  induction d with
  | zero =>
    intro i n era a x lp hi n0 n1 h
    refine Ev.succ fun k => ?_
    rw [foliotlaw16_ClockLeaps.l0, if_neg (by omega)]
  | succ d ih =>
    intro i n era a x lp hi n0 n1 h
    have hw : wrap64 ((i : Int) + 1) = ((i + 1 : Nat) : Int) := by rw [w64_in (by omega) (by omega)]; rfl
    have hr := wf64 (hx _ (rd_mem l i (by omega) (by omega)))
    obtain ⟨v, hv⟩ : ∃ v, rd l (i : Int) = v := ⟨_, rfl⟩
    rw [hv] at hr
    have skip := ih (i + 1) n era a x lp (by omega) n0 n1 h
    refine Ev.step (fun k => by rw [foliotlaw16_ClockLeaps.l0, if_pos (by omega), if_pos (by omega), if_pos (by omega), hv, hw]) ?_
    by_cases c1 : v < 0
    · simp only [c1, if_true]; exact skip
    by_cases c2 : v > 131072
    · simp only [c1, c2, if_true, if_false]; exact skip
    have hnv : wrap64 (n + v) = n + v := w64_in (by omega) (by omega)
    rw [hnv]
    by_cases c3 : n + v > 262144
    · simp only [c1, c2, c3, if_true, if_false]; exact skip
    simp only [c1, c2, c3, if_false]
    obtain ⟨m, rfl⟩ : ∃ m : Nat, v = m := ⟨v.toNat, by omega⟩
    obtain ⟨era', a', x', l', hc, e⟩ := pass_leap S0 L want n lk m n0 (by omega) m 0 era a x lp (by omega) (by simpa using h)
    have pass : Ev (fun k => clock_Clock_Pass.f k (m : Int) 0 0 era a x 0 lp n) (0, 0, 0, era', a', x', 0, l', n + m) := by
      unfold clock_Clock_Pass.f
      exact Ev.congr (fun k => by rw [if_neg (by omega), w64_in (n := 1048576 - n) (by omega) (by omega), if_neg (by omega), hnv]; rfl) e
    have hb2 : -1000000000000 * 100000 ≤ S0 ∧ S0 ≤ 1000000000000 * 100000 := by rw [← hS]; unfold secsOf; omega
    have hsec : wrap64 ((wrap64 ((wrap64 (era0 * 4294967296)) + (wrap64 ((at0 / 4294967296))))) + (n + (m : Int))) = S0 + (n + (m : Int)) := by
      rw [w64_in (n := era0 * 4294967296) (by omega) (by omega), w64_in (n := at0 / 4294967296) (by omega) (by omega), show era0 * 4294967296 + at0 / 4294967296 = S0 from hS, w64_in (n := S0) (by omega) (by omega), w64_in (by omega) (by omega)]
    refine Ev.bind (f := fun k t4 => _) pass ?_
    refine Ev.congr (fun k => if_neg (by simp)) ?_
    rw [hsec]
    refine Ev.bind (f := fun k t5 => _) (Ev.const (floor_eq _ (by omega) (by omega))) ?_
    have hv := hc.v
    have next := ih (i + 1) (n + m) era' a' x' l' (by omega) (by omega) (by omega) hc
    by_cases cd : (S0 + (n + (m : Int))) / 86400 > S0 / 86400
    · simp only [cd, if_true]
      obtain ⟨rfl, rfl⟩ := hv.1 cd
      refine Ev.step (fun k => by rw [foliotlaw16_ClockLeaps.j1, clock_Clock_Error.f, bsome, hw]) ?_
      exact Ev.congr (fun k => if_neg (by simp)) next
    · simp only [cd, if_false]
      obtain ⟨rfl, rfl⟩ := hv.2 cd
      refine Ev.step (fun k => by rw [foliotlaw16_ClockLeaps.j1, clock_Clock_Error.f, bsome, hw]) ?_
      exact Ev.congr (fun k => if_neg (by simp)) next
theorem leaps_j0 (L want : Int) (lk : Lk L want) (era0 at0 : Int) (he : -1000 ≤ era0 ∧ era0 ≤ 1000) (ha : 0 ≤ at0 ∧ at0 < 18446744073709551616) (l : List Int) (hl : l.length ≤ 4611686018427387904) (hx : ∀ x ∈ l, (Lit.int .i64 x).wf = true) :
    Ev (fun k => foliotlaw16_ClockLeaps.j0 k l want era0 at0 0 0 era0 at0 0 0 L 0) true := by
  have hb2 : -1000000000000 * 100000 ≤ secsOf era0 at0 ∧ secsOf era0 at0 ≤ 1000000000000 * 100000 := by unfold secsOf; omega
  have hsec : wrap64 ((wrap64 (era0 * 4294967296)) + (wrap64 ((at0 / 4294967296)))) = secsOf era0 at0 := by
    unfold secsOf at hb2 ⊢
    rw [w64_in (n := era0 * 4294967296) (by omega) (by omega), w64_in (n := at0 / 4294967296) (by omega) (by omega), w64_in (by omega) (by omega)]
  refine Ev.step (fun k => by rw [foliotlaw16_ClockLeaps.j0, hsec, floor_eq _ (by omega) (by omega), bsome]) ?_
  exact leaps_l0 (secsOf era0 at0) L want lk era0 at0 rfl he ha l hl hx l.length 0 0 era0 at0 0 L (by omega) (by omega) (by omega) ⟨by omega, by omega, by omega, ha.1, ha.2, by omega, by omega, ⟨fun h => by omega, fun _ => ⟨rfl, rfl⟩⟩⟩
namespace Pure
theorem ClockLeaps (a0_0 : Int) (a0_1 : Int) (a1 : Int) (a2 : List Int) (h0 : (Lit.int .i64 a0_0).wf = true) (h1 : (Lit.int .u64 a0_1).wf = true) (h2 : (Lit.int .i64 a1).wf = true) (h3 : (a2.length ≤ 9223372036854775807 ∧ a2.length * 8 ≤ 140737488351232 ∧ ∀ x ∈ a2, (Lit.int .i64 x).wf = true)) : ∃ k, foliotlaw16_ClockLeaps.f k a0_0 a0_1 a1 a2 = some true := by
  obtain ⟨_, h3l, hx⟩ := h3
  have ba := wfu64 h1
  refine Ev.rounds (r := true) ?_
  unfold foliotlaw16_ClockLeaps.f
  refine Ev.bind (f := fun k t0 => _) ⟨200000, fun k hk => shown_eq k hk⟩ ?_
  simp only [Bool.not_true, cond_false]
  rw [new_eq a0_0 a0_1 0 0 (by omega) (by omega) (by omega) (by omega)]
  have ec : clampTo 140737488355 0 = 0 := by decide
  rw [ec]
  simp only [bsome, Int.lt_irrefl, if_false, show ¬ (4611686018427387904 : Int) < 0 by omega, show ¬ (0 : Int) < -4611686018427387904 by omega]
  unfold clock_Clock_SetLeap.f
  have fin : ∀ (L want : Int), Lk L want → mapv 0 [(0, 0), (1, (-4294967296)), (2, 4294967296)] L = want → Ev (fun k => (if a0_0 < (-1000) then (foliotlaw16_ClockLeaps.j0 k a2 (mapv 0 [(0, 0), (1, (-4294967296)), (2, 4294967296)] L) 0 a0_1 0 0 (if a0_0 < -1000 then 0 else if a0_0 > 1000 then 0 else a0_0) a0_1 0 0 L 0) else (if a0_0 > 1000 then (foliotlaw16_ClockLeaps.j0 k a2 (mapv 0 [(0, 0), (1, (-4294967296)), (2, 4294967296)] L) 0 a0_1 0 0 (if a0_0 < -1000 then 0 else if a0_0 > 1000 then 0 else a0_0) a0_1 0 0 L 0) else (foliotlaw16_ClockLeaps.j0 k a2 (mapv 0 [(0, 0), (1, (-4294967296)), (2, 4294967296)] L) a0_0 a0_1 0 0 (if a0_0 < -1000 then 0 else if a0_0 > 1000 then 0 else a0_0) a0_1 0 0 L 0)))) true := by
    intro L want lk e
    rw [e]
    by_cases d0 : a0_0 < -1000
    · simp only [d0, if_true]; exact leaps_j0 L want lk 0 a0_1 (by omega) ⟨ba.1, by omega⟩ a2 (by omega) hx
    · by_cases d1 : a0_0 > 1000
      · simp only [d0, d1, if_true, if_false]; exact leaps_j0 L want lk 0 a0_1 (by omega) ⟨ba.1, by omega⟩ a2 (by omega) hx
      · simp only [d0, d1, if_false]; exact leaps_j0 L want lk a0_0 a0_1 (by omega) ⟨ba.1, by omega⟩ a2 (by omega) hx
  by_cases c0 : a1 = 0
  · subst c0
    exact fin 0 0 ⟨.inl ⟨rfl, rfl⟩⟩ (by decide)
  by_cases c1 : a1 = 1
  · subst c1
    exact fin 1 (-4294967296) ⟨.inr (.inl ⟨rfl, rfl⟩)⟩ (by decide)
  by_cases c2 : a1 = 2
  · subst c2
    exact fin 2 4294967296 ⟨.inr (.inr ⟨rfl, rfl⟩)⟩ (by decide)
  simp only [c0, c1, c2, if_false, bsome, Bool.not_false, cond_true]
  by_cases d : a1 < 0
  · simp only [d, if_true]; exact Ev.now _
  · simp only [d, if_false, show a1 > 2 by omega, decide_true]; exact Ev.now _
end Pure
end Go.Proofs.Ytfanbadkclelhaa.L5
