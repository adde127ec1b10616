/- Plain lemmas on the printed functions: whole numbers, no program in sight. -/
import Derived.Test.YtigcmpmpjmbfkaaPa
import Derived.Laws.BitsLemmas
namespace Go.Proofs.Ytigcmpmpjmbfkaa.Q
open Go Go.RowKit Go.Proofs.Ytigcmpmpjmbfkaa.Ev
set_option linter.unusedVariables false
set_option linter.unusedSimpArgs false
set_option maxRecDepth 100000
theorem trim_l0 (a : List Int) (ha : Dg a) (hl : a.length ≤ 100000) : ∀ c : Nat, c ≤ a.length → ∃ r, Ev (fun k => foliotref01_trim.l0 k a (c : Int)) r ∧ Nm r ∧ V r = V (a.take c) ∧ r.length ≤ c := by
  intro c
  induction c with
  | zero =>
    intro _
    refine ⟨[], Ev.succ fun k => ?_, Nm.nil, by simp [V], by simp⟩
    simp [foliotref01_trim.l0]
  | succ c ih =>
    intro h1
    have e : wrap64 (((c + 1 : Nat) : Int) - 1) = c := by rw [w64_in (by omega) (by omega)]; omega
    have g1 : ((c + 1 : Nat) : Int) > 0 := by omega
    have g2 : (0 : Int) ≤ c := by omega
    have g3 : (c : Int) < (a.length : Int) := by omega
    have g5 : (0 : Int) ≤ ((c + 1 : Nat) : Int) := by omega
    have g6 : ((c + 1 : Nat) : Int) ≤ (a.length : Int) := by omega
    by_cases hz : rd a (c : Int) = 0
    · obtain ⟨r, hr, h⟩ := ih (by omega)
      refine ⟨r, Ev.step (fun k => ?_) hr, h.1, ?_, by omega⟩
      · simp only [foliotref01_trim.l0, g1, e, g2, g3, hz, if_true]
      · rw [V_take_succ, hz, Int.mul_zero, Int.add_zero]; exact h.2.1
    · refine ⟨a.take (c + 1), Ev.succ fun k => ?_, ⟨ha.take _, fun hne => ?_⟩, rfl, by rw [List.length_take]; omega⟩
      · simp only [foliotref01_trim.l0, g1, e, g2, g3, g5, g6, hz, if_true, if_false, List.drop_zero, Int.sub_zero, Int.toNat_natCast]
      · rw [List.getLast_eq_getElem, List.getElem_take]
        intro h
        apply hz
        rw [rd_nat, List.getD_eq_getElem?_getD, List.getElem?_eq_getElem (by omega)]
        simp only [Option.getD_some]
        rw [← h]
        congr 1
        rw [List.length_take]; omega
theorem ev_trim (a : List Int) (ha : Dg a) (hl : a.length ≤ 100000) : ∃ r, Ev (fun k => foliotref01_trim.f k a) r ∧ Nm r ∧ V r = V a ∧ r.length ≤ a.length := by
  obtain ⟨r, hr, h1, h2, h3⟩ := trim_l0 a ha hl a.length (Nat.le_refl _)
  rw [V_take_all a (Nat.le_refl _)] at h2
  exact ⟨r, hr, h1, h2, h3⟩
theorem trims_l0 (a : List Int) (ha : Dg a) (hl : a.length ≤ 100000) : ∀ c : Nat, c ≤ a.length → ∃ r, Ev (fun k => foliotref01_trim_s1.l0 k (c : Int) a) r ∧ Nm r ∧ V r = V (a.take c) ∧ r.length ≤ c := by
  intro c
  induction c with
  | zero =>
    intro _
    refine ⟨[], Ev.succ fun k => ?_, Nm.nil, by simp [V], by simp⟩
    simp [foliotref01_trim_s1.l0]
  | succ c ih =>
    intro h1
    have e : wrap64 (((c + 1 : Nat) : Int) - 1) = c := by rw [w64_in (by omega) (by omega)]; omega
    have g1 : ((c + 1 : Nat) : Int) > 0 := by omega
    have g2 : (0 : Int) ≤ c := by omega
    have g3 : (c : Int) < (a.length : Int) := by omega
    have g5 : (0 : Int) ≤ ((c + 1 : Nat) : Int) := by omega
    have g6 : ((c + 1 : Nat) : Int) ≤ (a.length : Int) := by omega
    by_cases hz : rd a (c : Int) = 0
    · obtain ⟨r, hr, h⟩ := ih (by omega)
      refine ⟨r, Ev.step (fun k => ?_) hr, h.1, ?_, by omega⟩
      · simp only [foliotref01_trim_s1.l0, g1, e, g2, g3, hz, if_true]
      · rw [V_take_succ, hz, Int.mul_zero, Int.add_zero]; exact h.2.1
    · refine ⟨a.take (c + 1), Ev.succ fun k => ?_, ⟨ha.take _, fun hne => ?_⟩, rfl, by rw [List.length_take]; omega⟩
      · simp only [foliotref01_trim_s1.l0, g1, e, g2, g3, g5, g6, hz, if_true, if_false, List.drop_zero, Int.sub_zero, Int.toNat_natCast]
      · rw [List.getLast_eq_getElem, List.getElem_take]
        intro h
        apply hz
        rw [rd_nat, List.getD_eq_getElem?_getD, List.getElem?_eq_getElem (by omega)]
        simp only [Option.getD_some]
        rw [← h]
        congr 1
        rw [List.length_take]; omega
theorem ev_trims (a : List Int) (ha : Dg a) (hl : a.length ≤ 100000) : ∃ r, Ev (fun k => foliotref01_trim_s1.f k a) r ∧ Nm r ∧ V r = V a ∧ r.length ≤ a.length := by
  obtain ⟨r, hr, h1, h2, h3⟩ := trims_l0 a ha hl a.length (Nat.le_refl _)
  rw [V_take_all a (Nat.le_refl _)] at h2
  exact ⟨r, hr, h1, h2, h3⟩
theorem rd_in {l : List Int} {i : Nat} : (if (i : Int) < (l.length : Int) then rd l (i : Int) else 0) = rd l (i : Int) := by
  split
  · rfl
  · exact (rd_out (by omega)).symm
theorem plus_j1 (a b x : List Int) (s : Int) (i : Nat) (hx : x.length ≤ 100000) (hs0 : 0 ≤ s) (hs1 : s ≤ 1000000) (hi : i ≤ 1000000) {R : List Int} (h : Ev (fun k => foliotref01_plus.l0 k a b (s / 65536) ((i + 1 : Nat) : Int) (x ++ [s % 65536])) R) : Ev (fun k => foliotref01_plus.j1 k a b s (i : Int) x) R := by
  refine Ev.step (fun k => ?_) h
  have e1 : wrap64 ((i : Int) + 1) = ((i + 1 : Nat) : Int) := by rw [w64_in (by omega) (by omega)]; omega
  simp only [foliotref01_plus.j1]
  rw [if_pos (by simp only [List.length_cons, List.length_nil]; omega), Int.tmod_eq_emod_of_nonneg hs0, Int.tdiv_eq_ediv_of_nonneg hs0, w64_in (n := s / 65536) (by omega) (by omega), e1]
theorem plus_j0 (a b x : List Int) (c : Int) (i : Nat) (hx : x.length ≤ 100000) (hc0 : 0 ≤ c) (hc1 : c ≤ 100000) (hb : Dg b) (hi : i ≤ 1000000) {R : List Int} (h : Ev (fun k => foliotref01_plus.l0 k a b ((c + rd b (i : Int)) / 65536) ((i + 1 : Nat) : Int) (x ++ [(c + rd b (i : Int)) % 65536])) R) : Ev (fun k => foliotref01_plus.j0 k a b c (i : Int) x) R := by
  have db := rd_dg hb i
  refine Ev.step (fun k => ?_) (plus_j1 a b x (c + rd b (i : Int)) i hx (by omega) (by omega) hi h)
  simp only [foliotref01_plus.j0]
  by_cases h2 : (i : Int) < (b.length : Int)
  · rw [if_pos h2, if_pos (by omega), if_pos h2, w64_in (n := c + rd b i) (by omega) (by omega)]
  · rw [if_neg h2, rd_out (l := b) (by omega), Int.add_zero]
theorem plus_go (a b x : List Int) (c : Int) (i : Nat) (hx : x.length ≤ 100000) (hc0 : 0 ≤ c) (hc1 : c ≤ 1) (ha : Dg a) (hb : Dg b) (hi : i ≤ 1000000) (hgo : i < a.length ∨ i < b.length ∨ c > 0) {R : List Int} (h : Ev (fun k => foliotref01_plus.l0 k a b ((c + rd a (i : Int) + rd b (i : Int)) / 65536) ((i + 1 : Nat) : Int) (x ++ [(c + rd a (i : Int) + rd b (i : Int)) % 65536])) R) : Ev (fun k => foliotref01_plus.l0 k a b c (i : Int) x) R := by
  have da := rd_dg ha i
  refine Ev.step (fun k => ?_) (plus_j0 a b x (c + rd a (i : Int)) i hx (by omega) (by omega) hb hi h)
  simp only [foliotref01_plus.l0]
  have g2 : (0 : Int) ≤ i := by omega
  by_cases h1 : (i : Int) < (a.length : Int)
  · simp only [h1, g2, if_true]
    rw [w64_in (n := c + rd a i) (by omega) (by omega)]
  · rw [rd_out (l := a) (i := i) (by omega), Int.add_zero]
    simp only [h1, if_false]
    by_cases h2 : (i : Int) < (b.length : Int)
    · simp only [h2, if_true]
    · simp only [h2, if_false]
      rw [if_pos (by omega)]
theorem plus_l0 (a b : List Int) (ha : Dg a) (hb : Dg b) (hla : a.length ≤ 1000) (hlb : b.length ≤ 1000) : ∀ (d : Nat) (i : Nat) (c : Int) (x : List Int), i + d = max a.length b.length + 1 → x.length = i → Dg x → 0 ≤ c → c ≤ 1 → V x + 65536 ^ i * c = V (a.take i) + V (b.take i) →
    ∃ r, Ev (fun k => foliotref01_plus.l0 k a b c (i : Int) x) r ∧ Nm r ∧ V r = V a + V b ∧ r.length ≤ max a.length b.length + 1 := by
  have hend : ∀ (i : Nat) (x : List Int), x.length = i → Dg x → max a.length b.length ≤ i → i ≤ max a.length b.length + 1 → V x = V (a.take i) + V (b.take i) → ∃ r, Ev (fun k => foliotref01_plus.l0 k a b 0 (i : Int) x) r ∧ Nm r ∧ V r = V a + V b ∧ r.length ≤ max a.length b.length + 1 := by
    intro i x hx dx h1 h2 hv
    obtain ⟨r, hr, hn, he, hl⟩ := ev_trims x dx (by omega)
    refine ⟨r, ?_, hn, ?_, by omega⟩
    · refine Ev.step (f := fun k => (foliotref01_trim_s1.f k x).bind fun t => some t) (fun k => ?_) (Ev.bind hr (Ev.now _))
      simp only [foliotref01_plus.l0]
      rw [if_neg (by omega), if_neg (by omega), if_neg (by omega)]
    · rw [he, hv, V_take_all a (by omega), V_take_all b (by omega)]
  intro d
  induction d with
  | zero =>
    intro i c x hi hx dx hc0 hc1 hv
    have : c = 0 := by
      rw [V_take_all a (by omega), V_take_all b (by omega)] at hv
      have va := V_bd ha; have vb := V_bd hb; have vx := V_bd dx
      have hp := pw_pos (i - 1)
      have e : (65536 : Int) ^ i = 65536 ^ (i - 1) * 65536 := by rw [← Int.pow_succ]; congr 1; omega
      have := pw_le (show a.length ≤ i - 1 by omega); have := pw_le (show b.length ≤ i - 1 by omega)
      rcases (show c = 0 ∨ c = 1 by omega) with h | h
      · exact h
      · rw [h, e] at hv; omega
    subst this
    exact hend i x hx dx (by omega) (by omega) (by simpa using hv)
  | succ d ih =>
    intro i c x hi hx dx hc0 hc1 hv
    by_cases hgo : i < a.length ∨ i < b.length ∨ c > 0
    · have da := rd_dg ha i; have db := rd_dg hb i
      have hp := pw_pos i
      obtain ⟨r, hr, h⟩ := ih (i + 1) ((c + rd a (i : Int) + rd b (i : Int)) / 65536) (x ++ [(c + rd a (i : Int) + rd b (i : Int)) % 65536]) (by omega) (by simp; omega) (dx.append (Dg.one (by omega) (by omega))) (by omega) (by omega) (by
        rw [V_append, V_take_succ, V_take_succ, hx, Int.pow_succ]
        simp only [V, Int.mul_zero, Int.add_zero]
        have e : (c + rd a (i : Int) + rd b (i : Int)) % 65536 + 65536 * ((c + rd a (i : Int) + rd b (i : Int)) / 65536) = c + rd a (i : Int) + rd b (i : Int) := by omega
        generalize (c + rd a (i : Int) + rd b (i : Int)) % 65536 = s1 at *
        generalize (c + rd a (i : Int) + rd b (i : Int)) / 65536 = s2 at *
        grind)
      exact ⟨r, plus_go a b x c i (by omega) hc0 hc1 ha hb (by omega) (by omega) hr, h⟩
    · obtain rfl : c = 0 := by omega
      exact hend i x hx dx (by omega) (by omega) (by simpa using hv)
theorem ev_plus (a b : List Int) (ha : Dg a) (hb : Dg b) (hla : a.length ≤ 1000) (hlb : b.length ≤ 1000) : ∃ r, Ev (fun k => foliotref01_plus.f k a b) r ∧ Nm r ∧ V r = V a + V b ∧ r.length ≤ max a.length b.length + 1 := by
  unfold foliotref01_plus.f
  exact plus_l0 a b ha hb hla hlb (max a.length b.length + 1) 0 0 [] (by omega) rfl Dg.nil (by omega) (by omega) (by simp [V])
theorem minus_go (a b x : List Int) (c : Int) (i : Nat) (hx : x.length ≤ 100000) (hc0 : 0 ≤ c) (hc1 : c ≤ 1) (ha : Dg a) (hb : Dg b) (hi : i < a.length) (hl : a.length ≤ 1000) {R : List Int} (h : Ev (fun k => foliotref01_minus.l0 k a b (-((rd a (i : Int) - c - rd b (i : Int)) / 65536)) ((i + 1 : Nat) : Int) (x ++ [(rd a (i : Int) - c - rd b (i : Int)) % 65536])) R) : Ev (fun k => foliotref01_minus.l0 k a b c (i : Int) x) R := by
  have da := rd_dg ha i; have db := rd_dg hb i
  have e1 : wrap64 ((i : Int) + 1) = ((i + 1 : Nat) : Int) := by rw [w64_in (by omega) (by omega)]; omega
  have key : Ev (fun k => foliotref01_minus.j0 k a b (i : Int) (rd a (i : Int) - c - rd b (i : Int)) x) R := by
    obtain ⟨s, hs⟩ : ∃ s, rd a (i : Int) - c - rd b (i : Int) = s := ⟨_, rfl⟩
    have hsb : -65536 ≤ s ∧ s < 65536 := by omega
    rw [hs] at h ⊢
    by_cases h3 : s < 0
    · by_cases h4 : -65536 ≤ s
      · rw [show -(s / 65536) = 1 by omega, show s % 65536 = s + 65536 by omega] at h
        refine Ev.step (fun k => ?_) h
        simp only [foliotref01_minus.j0, h3, if_true]
        rw [w64_in (n := s + 65536) (by omega) (by omega), if_pos (by simp only [List.length_cons, List.length_nil]; omega), e1]
      · omega
    · by_cases h4 : s < 65536
      · rw [show -(s / 65536) = 0 by omega, show s % 65536 = s by omega] at h
        refine Ev.step (fun k => ?_) h
        simp only [foliotref01_minus.j0, h3, if_false]
        rw [if_pos (by simp only [List.length_cons, List.length_nil]; omega), e1]
      · omega
  refine Ev.step (fun k => ?_) key
  simp only [foliotref01_minus.l0]
  have g2 : (0 : Int) ≤ i := by omega
  have g3 : (i : Int) < (a.length : Int) := by omega
  simp only [g2, g3, if_true]
  rw [w64_in (n := rd a i - c) (by omega) (by omega)]
  by_cases h2 : (i : Int) < (b.length : Int)
  · simp only [h2, if_true]
    rw [w64_in (n := rd a i - c - rd b i) (by omega) (by omega)]
  · simp only [h2, if_false]
    rw [rd_out (l := b) (by omega), Int.sub_zero]
theorem minus_l0 (a b : List Int) (ha : Dg a) (hb : Nm b) (hla : a.length ≤ 1000) (hv : V b ≤ V a) : ∀ (d : Nat) (i : Nat) (c : Int) (x : List Int), i + d = a.length → x.length = i → Dg x → 0 ≤ c → c ≤ 1 → V x - 65536 ^ i * c = V (a.take i) - V (b.take i) →
    ∃ r, Ev (fun k => foliotref01_minus.l0 k a b c (i : Int) x) r ∧ Nm r ∧ V r = V a - V b ∧ r.length ≤ a.length := by
  intro d
  induction d with
  | zero =>
    intro i c x hi hx dx hc0 hc1 he
    have va := V_bd ha
    have hlb : b.length ≤ a.length := hb.len (by omega)
    obtain ⟨r, hr, hn, hev, hl⟩ := ev_trims x dx (by omega)
    rw [V_take_all a (by omega), V_take_all b (by omega)] at he
    have vx := V_bd dx
    rw [hx] at vx
    have hc : c = 0 := by
      rcases (show c = 0 ∨ c = 1 by omega) with h | h
      · exact h
      · rw [h] at he; omega
    subst hc
    refine ⟨r, Ev.step (f := fun k => (foliotref01_trim_s1.f k x).bind fun t => some t) (fun k => ?_) (Ev.bind hr (Ev.now _)), hn, by rw [hev]; simpa using he, by omega⟩
    simp only [foliotref01_minus.l0]
    rw [if_neg (by omega)]
  | succ d ih =>
    intro i c x hi hx dx hc0 hc1 he
    have da := rd_dg ha i; have db := rd_dg hb.1 i
    obtain ⟨r, hr, h⟩ := ih (i + 1) (-((rd a (i : Int) - c - rd b (i : Int)) / 65536)) (x ++ [(rd a (i : Int) - c - rd b (i : Int)) % 65536]) (by omega) (by simp; omega) (dx.append (Dg.one (by omega) (by omega))) (by omega) (by omega) (by
      rw [V_append, V_take_succ, V_take_succ, hx, Int.pow_succ]
      simp only [V, Int.mul_zero, Int.add_zero]
      have e : (rd a (i : Int) - c - rd b (i : Int)) % 65536 + 65536 * ((rd a (i : Int) - c - rd b (i : Int)) / 65536) = rd a (i : Int) - c - rd b (i : Int) := by omega
      generalize (rd a (i : Int) - c - rd b (i : Int)) % 65536 = s1 at *
      generalize (rd a (i : Int) - c - rd b (i : Int)) / 65536 = s2 at *
      grind)
    exact ⟨r, minus_go a b x c i (by omega) hc0 hc1 ha hb.1 (by omega) hla hr, h⟩
theorem ev_minus (a b : List Int) (ha : Dg a) (hb : Nm b) (hla : a.length ≤ 1000) (hv : V b ≤ V a) : ∃ r, Ev (fun k => foliotref01_minus.f k a b) r ∧ Nm r ∧ V r = V a - V b ∧ r.length ≤ a.length := by
  unfold foliotref01_minus.f
  exact minus_l0 a b ha hb hla hv a.length 0 0 [] (by omega) rfl Dg.nil (by omega) (by omega) (by simp [V])
end Go.Proofs.Ytigcmpmpjmbfkaa.Q
