/- What is to be proved of RestrictKisses. -/
import Derived.Test.YtjfcfljdojkcdaaDQ
import Derived.Test.YtjfcfljdojkcdaaRa
namespace Go.Proofs.Ytjfcfljdojkcdaa.Q
open Go Go.RowKit Go.Proofs.Ytjfcfljdojkcdaa.Ev
set_option linter.unusedVariables false
set_option linter.unusedSimpArgs false
set_option maxRecDepth 100000
def okS145 (x : S145) : Prop := (Lit.int .i64 x.f0).wf = true ∧ (x.f1.length ≤ 9223372036854775807 ∧ x.f1.length * 1 ≤ 140737488351232 ∧ ∀ y ∈ x.f1, (Lit.int .u8 y).wf = true)
theorem poll_same (a b : Int) : mx 3 (mn 10 (mx a b)) = mn (mx (mx a b) 3) 10 := by
  unfold mx mn
  (repeat' split) <;> omega
theorem isdeath_same (a0_0 a0_1 a0_2 a0_3 a0_4 a0_5 a0_6 a0_7 a0_8 a0_9 a0_10 a0_11 a0_12 : Int) (a0_13 : List S145) (a0_14 : Int) (a0_15 : Bool) (a0_16 : List Int) : ∃ t, restrict_IsDeath_s1.f a0_0 a0_1 a0_2 a0_3 a0_4 a0_5 a0_6 a0_7 a0_8 a0_9 a0_10 a0_11 a0_12 a0_13 a0_14 a0_15 a0_16 = some t ∧ foliotref06_IsDeath.f a0_0 a0_1 a0_2 a0_3 a0_4 a0_5 a0_6 a0_7 a0_8 a0_9 a0_10 a0_11 a0_12 a0_13 a0_14 a0_15 a0_16 = some t := by
  unfold restrict_IsDeath_s1.f foliotref06_IsDeath.f
  by_cases h0 : a0_3 = 0
  · by_cases h1 : a0_0 = 3
    · by_cases h2 : a0_8 = 0
      · exact ⟨(0, false), by simp [h0, h1, h2]⟩
      · exact ⟨(a0_8, true), by simp [h0, h1, h2]⟩
    · exact ⟨(0, false), by simp [h0, h1]⟩
  · exact ⟨(0, false), by simp [h0]⟩
theorem death_val (a0_0 a0_1 a0_2 a0_3 a0_4 a0_5 a0_6 a0_7 a0_8 a0_9 a0_10 a0_11 a0_12 : Int) (a0_13 : List S145) (a0_14 : Int) (a0_15 : Bool) (a0_16 : List Int) (a1 a2 : Int) : ∃ m p, restrict_Death.f a0_0 a0_1 a0_2 a0_3 a0_4 a0_5 a0_6 a0_7 a0_8 a0_9 a0_10 a0_11 a0_12 a0_13 a0_14 a0_15 a0_16 a1 a2 = some (3, a0_1, m, 0, p, -20, 0, 0, a1, 0, a0_12, a0_12, a0_12, 0, false) ∧ foliotref06_Death.f a0_0 a0_1 a0_2 a0_3 a0_4 a0_5 a0_6 a0_7 a0_8 a0_9 a0_10 a0_11 a0_12 a0_13 a0_14 a0_15 a0_16 a1 a2 = some (3, a0_1, m, 0, p, -20, 0, 0, a1, 0, a0_12, a0_12, a0_12, 0, false) := by
  unfold restrict_Death.f foliotref06_Death.f
  rw [poll_same]
  by_cases h3 : a0_2 = 3
  · refine ⟨4, _, by rw [if_pos h3], by rw [if_pos h3, if_neg (by omega)]⟩
  · by_cases h1 : a0_2 = 1
    · refine ⟨2, _, by rw [if_neg h3, if_pos h1], by rw [if_neg h3, if_pos h1]⟩
    · refine ⟨a0_2, _, by rw [if_neg h3, if_neg h1], by rw [if_neg h3, if_neg h1]⟩
namespace Pure
theorem RestrictKisses (a0 : ByteArray) (a1_0 : Int) (a1_1 : Int) (a1_2 : Int) (a1_3 : Int) (a1_4 : Int) (a1_5 : Int) (a1_6 : Int) (a1_7 : Int) (a1_8 : Int) (a1_9 : Int) (a1_10 : Int) (a1_11 : Int) (a1_12 : Int) (a1_13 : List S145) (a1_14 : Int) (a1_15 : Bool) (a1_16 : List Int) (a2 : Int) (a3 : Int) (h0 : a0.size ≤ 140737488351232) (h1 : (Lit.int .i64 a1_0).wf = true) (h2 : (Lit.int .i64 a1_1).wf = true) (h3 : (Lit.int .i64 a1_2).wf = true) (h4 : (Lit.int .i64 a1_3).wf = true) (h5 : (Lit.int .i64 a1_4).wf = true) (h6 : (Lit.int .i64 a1_5).wf = true) (h7 : (Lit.int .i64 a1_6).wf = true) (h8 : (Lit.int .i64 a1_7).wf = true) (h9 : (Lit.int .u32 a1_8).wf = true) (h10 : (Lit.int .u64 a1_9).wf = true) (h11 : (Lit.int .u64 a1_10).wf = true) (h12 : (Lit.int .u64 a1_11).wf = true) (h13 : (Lit.int .u64 a1_12).wf = true) (h14 : (a1_13.length ≤ 9223372036854775807 ∧ a1_13.length * 32 ≤ 140737488351232 ∧ ∀ x ∈ a1_13, okS145 x)) (h15 : (Lit.int .i64 a1_14).wf = true) (h16 : (a1_16.length ≤ 9223372036854775807 ∧ a1_16.length * 1 ≤ 140737488351232 ∧ ∀ x ∈ a1_16, (Lit.int .u8 x).wf = true)) (h17 : (Lit.int .u32 a2).wf = true) (h18 : (Lit.int .i64 a3).wf = true) : ∃ k, foliotlaw06_RestrictKisses.f k a0 a1_0 a1_1 a1_2 a1_3 a1_4 a1_5 a1_6 a1_7 a1_8 a1_9 a1_10 a1_11 a1_12 a1_13 a1_14 a1_15 a1_16 a2 a3 = some true := by
  refine Ev.rounds (r := true) ?_
  unfold foliotlaw06_RestrictKisses.f
  refine Ev.bind ev_shown ?_
  obtain ⟨m, p, d1, d2⟩ := death_val a1_0 a1_1 a1_2 a1_3 a1_4 a1_5 a1_6 a1_7 a1_8 a1_9 a1_10 a1_11 a1_12 a1_13 a1_14 a1_15 a1_16 a2 a3
  obtain ⟨t, i1, i2⟩ := isdeath_same a1_0 a1_1 a1_2 a1_3 a1_4 a1_5 a1_6 a1_7 a1_8 a1_9 a1_10 a1_11 a1_12 a1_13 a1_14 a1_15 a1_16
  obtain ⟨v, k1, k2⟩ := kiss_same a0
  have i3 : restrict_IsDeath.f 3 a1_1 m 0 p (-20) 0 0 a2 0 a1_12 a1_12 a1_12 0 false = some (if a2 = 0 then 0 else a2, decide (¬ a2 = 0)) := by
    unfold restrict_IsDeath.f
    by_cases h : a2 = 0 <;> simp [h]
  have i4 : (if a2 = 0 then 0 else a2) = a2 := by split <;> omega
  have s1 : foliotlaw06_same.f 3 a1_1 m 0 p (-20) 0 0 a2 0 a1_12 a1_12 a1_12 0 false 3 a1_1 m 0 p (-20) 0 0 a2 0 a1_12 a1_12 a1_12 0 false = some true := by
    unfold foliotlaw06_same.f
    simp
  refine Ev.congr (fun k => by rw [Bool.not_true, cond_false, d1, bsome, i3, bsome, i1, bsome, i2, bsome, i4]) ?_
  refine Ev.bind k1 (Ev.bind k2 ?_)
  exact Ev.congr (fun k => by rw [if_pos rfl, d2, bsome, s1, bsome, cond_true, if_pos rfl, beq_self_eq_true, cond_true, if_pos rfl, beq_self_eq_true]) (Ev.now _)
end Pure
end Go.Proofs.Ytjfcfljdojkcdaa.Q
