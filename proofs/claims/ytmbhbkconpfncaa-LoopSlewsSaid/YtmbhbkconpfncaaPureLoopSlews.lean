/- What is to be proved of LoopSlews. -/
import Derived.Test.YtmbhbkconpfncaaDV
import Derived.Test.YtmbhbkconpfncaaPreY
namespace Go.Proofs.Ytmbhbkconpfncaa.V
open Go Go.RowKit Go.Proofs.Ytmbhbkconpfncaa.Ev
set_option linter.unusedVariables false
set_option maxRecDepth 100000
def okS112 (x : S112) : Prop := (Lit.int .i64 x.f0).wf = true ∧ (Lit.int .u32 x.f1).wf = true ∧ (Lit.int .i64 x.f2).wf = true ∧ (Lit.int .i64 x.f3).wf = true ∧ (Lit.int .i64 x.f4).wf = true ∧ (Lit.int .i64 x.f8).wf = true ∧ (Lit.int .i64 x.f10).wf = true ∧ (Lit.int .i64 x.f11).wf = true
def okS115 (x : S115) : Prop := (Lit.int .i64 x.f0).wf = true ∧ (Lit.int .i64 x.f1).wf = true ∧ (x.f2.length ≤ 9223372036854775807 ∧ x.f2.length * 1 ≤ 140737488351232 ∧ ∀ y ∈ x.f2, (Lit.int .u8 y).wf = true)
def okS117 (x : S117) : Prop := (Lit.int .u32 x.f0).wf = true ∧ (Lit.int .i64 x.f1).wf = true ∧ (Lit.int .i64 x.f2).wf = true
theorem wf16 {n : Int} (h : (Lit.int .u16 n).wf = true) : 0 ≤ n ∧ n ≤ 65535 := by
  simpa [Lit.wf, IntKind.min, IntKind.max, IntKind.signed, IntKind.bits] using h
/-- What is slewed has the sign of what is left, and is no more than it. -/
theorem tick_between (s : S55) (h : LInv s) : (0 ≤ s.f5 → 0 ≤ tickX s ∧ tickX s ≤ s.f5) ∧ (s.f5 ≤ 0 → s.f5 ≤ tickX s ∧ tickX s ≤ 0) := by
  have h5 := h.h5
  have h8 := h.h8
  unfold tickX shiftVal
  rw [if_pos (by omega)]
  generalize (-(-s.f8 - 2)).toNat = n
  have hp : (0 : Int) < 2 ^ n := Int.pow_pos (by decide)
  generalize (2 : Int) ^ n = P at hp
  have a := Int.ediv_mul_add_emod s.f5 P
  have b := Int.emod_nonneg s.f5 (show P ≠ 0 by omega)
  have c := Int.emod_lt_of_pos s.f5 hp
  have hle : ∀ q : Int, 0 ≤ q → q ≤ q * P := fun q hq => by
    have := Int.mul_le_mul_of_nonneg_left (show (1 : Int) ≤ P by omega) hq; omega
  generalize s.f5 / P = q at *
  constructor
  · intro h0
    have hq : 0 ≤ q := by
      rcases Int.lt_or_le q 0 with hn | hn
      · have := Int.mul_le_mul_of_nonneg_right (show q ≤ -1 by omega) (Int.le_of_lt hp); omega
      · exact hn
    have := hle q hq
    rw [sat_of (by omega) (by omega)]; omega
  · intro h0
    have hq : q ≤ 0 := by
      rcases Int.lt_or_le 0 q with hn | hn
      · have := hle q (by omega); omega
      · exact hn
    have hq2 : s.f5 ≤ q := by
      have := hle (-q) (by omega)
      rw [Int.neg_mul] at this
      rcases Int.lt_or_le q s.f5 with hn | hn
      · have e : q * P ≤ (s.f5 - 1) * P := Int.mul_le_mul_of_nonneg_right (by omega) (Int.le_of_lt hp)
        rw [Int.sub_mul, Int.one_mul] at e
        have f := hle (-s.f5) (by omega)
        rw [Int.neg_mul] at f
        omega
      · exact hn
    rw [sat_of (by omega) (by omega)]; omega
theorem slews_loop (sec : Int) (hsec : 0 ≤ sec ∧ sec ≤ 65535) (left : Int) (hl : -4611686018427387904 ≤ left ∧ left ≤ 4611686018427387904) : ∀ (m i : Nat) (sum : Int) (s : S55), (i : Int) + m = sec % 3000 → LInv s → s.f5 = left - sum → (0 ≤ left → 0 ≤ sum ∧ sum ≤ left) → (left ≤ 0 → left ≤ sum ∧ sum ≤ 0) →
    Ev (fun k => foliotlaw15_LoopSlews.l0 k sec left sum i s.f0 s.f1 s.f2 s.f3 s.f4 s.f5 s.f6 s.f7 s.f8 s.f9) true := by
  have em : Int.tmod (wrap64 sec) 3000 = sec % 3000 := by rw [w64_in (by omega) (by omega), Int.tmod_eq_emod_of_nonneg (by omega)]
  intro m
  induction m with
  | zero =>
    intro i sum s hi hs h5 hp hn
    refine Ev.step (fun k => by rw [foliotlaw15_LoopSlews.l0]) ?_
    have c : ¬ (i : Int) < sec % 3000 := by omega
    simp only [em, c, if_false]
    have b : -4611686018427387904 ≤ sum ∧ sum ≤ 4611686018427387904 := by omega
    refine Ev.bind (Ev.const (size_is sum (by omega))) (Ev.bind (Ev.const (size_is left (by omega))) (Ev.const ?_))
    rw [sat_of b.1 b.2, sat_of hl.1 hl.2]
    have : absV sum ≤ absV left := by
      unfold absV sat clampTo
      (repeat' split) <;> omega
    rw [decide_eq_true this]
  | succ m ih =>
    intro i sum s hi hs h5 hp hn
    refine Ev.step (fun k => by rw [foliotlaw15_LoopSlews.l0]) ?_
    have c : (i : Int) < sec % 3000 := by omega
    have et := tick_is s hs
    have b := tick_between s hs
    have e1 : sat (s.f5 - tickX s) = s.f5 - tickX s := sat_of (by omega) (by omega)
    have nxt := ih (i + 1) (sum + tickX s) (tickS s) (by omega) (tick_inv s hs) (by unfold tickS; simp only; rw [e1]; omega) (by omega) (by omega)
    rw [show ((i + 1 : Nat) : Int) = (i : Int) + 1 from by omega] at nxt
    unfold tickS at nxt
    simp only [e1] at nxt
    have w1 : wrap64 (sum + tickX s) = sum + tickX s := w64_in (by omega) (by omega)
    have w2 : wrap64 (left - (sum + tickX s)) = s.f5 - tickX s := by rw [w64_in (by omega) (by omega)]; omega
    have w3 : wrap64 ((i : Int) + 1) = (i : Int) + 1 := w64_in (by omega) (by omega)
    simp only [em, c, if_true, et, bsome, loop_Loop_Left.f, e1, w1, w2, w3, not_true_eq_false, if_false]
    by_cases c1 : left ≥ 0
    · have d1 : ¬ tickX s < 0 := by omega
      by_cases c2 : left ≤ 0
      · have d2 : ¬ tickX s > 0 := by omega
        simp only [c1, c2, d1, d2, if_true, if_false]
        exact nxt
      · simp only [c1, c2, d1, if_true, if_false]
        exact nxt
    · have c2 : left ≤ 0 := by omega
      have d2 : ¬ tickX s > 0 := by omega
      simp only [c1, c2, d2, if_true, if_false]
      exact nxt
namespace Pure
theorem LoopSlews (a0_0 : List S112) (a0_1 : List S115) (a0_2 : List Int) (a0_3 : Int) (a0_4 : List S117) (a0_5 : ByteArray) (a0_6 : List ByteArray) (a0_7 : Int) (a0_8 : Bool) (a0_9 : Bool) (a0_10 : Int) (a0_11 : Int) (a0_12 : Int) (a0_13 : Int) (a0_14 : Int) (a1 : Int) (a2 : Int) (h0 : (a0_0.length ≤ 9223372036854775807 ∧ a0_0.length * 80 ≤ 140737488351232 ∧ ∀ x ∈ a0_0, okS112 x)) (h1 : (a0_1.length ≤ 9223372036854775807 ∧ a0_1.length * 40 ≤ 140737488351232 ∧ ∀ x ∈ a0_1, okS115 x)) (h2 : (a0_2.length ≤ 9223372036854775807 ∧ a0_2.length * 8 ≤ 140737488351232 ∧ ∀ x ∈ a0_2, (Lit.int .i64 x).wf = true)) (h3 : (Lit.int .i64 a0_3).wf = true) (h4 : (a0_4.length ≤ 9223372036854775807 ∧ a0_4.length * 24 ≤ 140737488351232 ∧ ∀ x ∈ a0_4, okS117 x)) (h5 : a0_5.size ≤ 140737488351232) (h6 : (a0_6.length ≤ 9223372036854775807 ∧ a0_6.length * 16 ≤ 140737488351232 ∧ ∀ x ∈ a0_6, x.size ≤ 140737488351232)) (h7 : (Lit.int .i64 a0_7).wf = true) (h8 : (Lit.int .i64 a0_10).wf = true) (h9 : (Lit.int .i64 a0_11).wf = true) (h10 : (Lit.int .i64 a0_12).wf = true) (h11 : (Lit.int .i64 a0_13).wf = true) (h12 : (Lit.int .i64 a0_14).wf = true) (h13 : (Lit.int .i64 a1).wf = true) (h14 : (Lit.int .u16 a2).wf = true) : ∃ k, foliotlaw15_LoopSlews.f k a0_0 a0_1 a0_2 a0_3 a0_4 a0_5 a0_6 a0_7 a0_8 a0_9 a0_10 a0_11 a0_12 a0_13 a0_14 a1 a2 = some true := by
  refine Ev.rounds ?_
  unfold foliotlaw15_LoopSlews.f
  obtain ⟨s, e, I, f0, f1, f2, f3, f5, f4, f6, f7, f8, f9⟩ := new_is a0_0 a0_1 a0_2 a0_3 a0_4 a0_5 a0_6 a0_7 a0_8 a0_9 a0_10 a0_11 a0_12 a0_13 a0_14 0 true (by omega)
  have f3' : s.f3 = 1 := f3
  have ho := wf64 h13
  refine Ev.bind (Ev.const e) (Ev.bind (upd_ev a1 0 5 s I ho (by omega)) (Ev.bind (rnew_ev a0_0 a0_1 a0_2 a0_3 a0_4 a0_5 a0_6 a0_7 a0_8 a0_9 a0_10 a0_11 a0_12 a0_13 a0_14 0 true (by omega) s e) (Ev.bind (rupd_ev a1 0 5 s I ho (by omega)) ?_)))
  simp only [not_true_eq_false, if_false, loop_Loop_Left.f, bsome]
  have F := upd_facts a1 0 5 s I
  have lf : (updV a1 0 5 s).1 ≠ 1 → (updV a1 0 5 s).2.2.f5 = 0 := by
    unfold updV
    rw [if_neg (show ¬ s.f3 = 0 by omega), if_pos f3']
    split
    · intro _; exact f5
    split
    · intro _; rfl
    · intro h; exact absurd rfl h
  generalize updV a1 0 5 s = r at *
  unfold tup
  by_cases c : r.1 = 1
  · have g := F.sl c
    have hs := sat_in a1
    have sec := wf16 h14
    simp only [c, not_true_eq_false, if_false]
    obtain ⟨n, hn⟩ := Int.eq_ofNat_of_zero_le (show 0 ≤ a2 % 3000 by omega)
    have := slews_loop a2 sec r.2.2.f5 (by rw [g.2.2]; omega) n 0 0 r.2.2 (by omega) F.inv (by omega) (by omega) (by omega)
    exact this
  · have l0 := lf c
    simp only [c, not_false_eq_true, if_true, l0, decide_true]
    exact Ev.now _
end Pure
end Go.Proofs.Ytmbhbkconpfncaa.V
