/- What is to be proved of LoopRests. -/
import Derived.Test.YtmbhbkconpfncaaDQ
import Derived.Test.YtmbhbkconpfncaaPreQ
namespace Go.Proofs.Ytmbhbkconpfncaa.Q
open Go Go.RowKit Go.Proofs.Ytmbhbkconpfncaa.Ev
set_option linter.unusedVariables false
set_option maxRecDepth 100000
def okS112 (x : S112) : Prop := (Lit.int .i64 x.f0).wf = true ∧ (Lit.int .u32 x.f1).wf = true ∧ (Lit.int .i64 x.f2).wf = true ∧ (Lit.int .i64 x.f3).wf = true ∧ (Lit.int .i64 x.f4).wf = true ∧ (Lit.int .i64 x.f8).wf = true ∧ (Lit.int .i64 x.f10).wf = true ∧ (Lit.int .i64 x.f11).wf = true
def okS115 (x : S115) : Prop := (Lit.int .i64 x.f0).wf = true ∧ (Lit.int .i64 x.f1).wf = true ∧ (x.f2.length ≤ 9223372036854775807 ∧ x.f2.length * 1 ≤ 140737488351232 ∧ ∀ y ∈ x.f2, (Lit.int .u8 y).wf = true)
def okS117 (x : S117) : Prop := (Lit.int .u32 x.f0).wf = true ∧ (Lit.int .i64 x.f1).wf = true ∧ (Lit.int .i64 x.f2).wf = true
def okS40 (x : S40) : Prop := (Lit.int .i64 x.f0).wf = true ∧ (Lit.int .i64 x.f1).wf = true ∧ (Lit.int .i64 x.f2).wf = true ∧ (Lit.int .i64 x.f3).wf = true
theorem wf8 {n : Int} (h : (Lit.int .u8 n).wf = true) : 0 ≤ n ∧ n ≤ 255 := by
  simpa [Lit.wf, IntKind.min, IntKind.max, IntKind.signed, IntKind.bits] using h
theorem rdOf_mem {α : Type} (d : α) (xs : List α) (i : Int) (h0 : 0 ≤ i) (h1 : i < xs.length) : rdOf d xs i ∈ xs := by
  unfold rdOf
  have h : i.toNat < xs.length := by omega
  rw [List.getD_eq_getElem?_getD, List.getElem?_eq_getElem h]
  exact List.getElem_mem h
/-- What is slewed has the sign of what is left, and is no more than it. -/
theorem tick_between (s : S55) (h : LInv s) : (0 ≤ s.f5 → 0 ≤ tickX s ∧ tickX s ≤ s.f5) ∧ (s.f5 ≤ 0 → s.f5 ≤ tickX s ∧ tickX s ≤ 0) := by
  have h5 := h.h5
  have h8 := h.h8
  unfold tickX shiftVal
  rw [if_pos (by omega)]
  generalize (-(-s.f8 - 2)).toNat = n
  have hp : (0 : Int) < 2 ^ n := Int.pow_pos (by decide)
  generalize (2 : Int) ^ n = P at hp
  have a := Int.ediv_mul_add_emod s.f5 P
  have b := Int.emod_nonneg s.f5 (show P ≠ 0 by omega)
  have c := Int.emod_lt_of_pos s.f5 hp
  have hle : ∀ q : Int, 0 ≤ q → q ≤ q * P := fun q hq => by
    have := Int.mul_le_mul_of_nonneg_left (show (1 : Int) ≤ P by omega) hq; omega
  generalize s.f5 / P = q at *
  constructor
  · intro h0
    have hq : 0 ≤ q := by
      rcases Int.lt_or_le q 0 with hn | hn
      · have := Int.mul_le_mul_of_nonneg_right (show q ≤ -1 by omega) (Int.le_of_lt hp); omega
      · exact hn
    have := hle q hq
    rw [sat_of (by omega) (by omega)]; omega
  · intro h0
    have hq : q ≤ 0 := by
      rcases Int.lt_or_le 0 q with hn | hn
      · have := hle q (by omega); omega
      · exact hn
    have hq2 : s.f5 ≤ q := by
      have := hle (-q) (by omega)
      rw [Int.neg_mul] at this
      rcases Int.lt_or_le q s.f5 with hn | hn
      · have e : q * P ≤ (s.f5 - 1) * P := Int.mul_le_mul_of_nonneg_right (by omega) (Int.le_of_lt hp)
        rw [Int.sub_mul, Int.one_mul] at e
        have f := hle (-s.f5) (by omega)
        rw [Int.neg_mul] at f
        omega
      · exact hn
    rw [sat_of (by omega) (by omega)]; omega
theorem rests_l1 (xs : List S40) (t : Nat) (ht : t ≤ 255) (i : Nat) (hi : i < 4096) (F S P : Int) (nxt : ∀ s : S55, LInv s → Ev (fun k => foliotlaw15_LoopRests.l0 k xs t ((i : Int) + 1) s.f0 s.f1 s.f2 s.f3 s.f4 s.f5 s.f6 s.f7 s.f8 s.f9) true) : ∀ (d j : Nat) (s : S55), j + d = t → LInv s → s.f4 = F → s.f3 = S → s.f8 = P →
    Ev (fun k => foliotlaw15_LoopRests.l1 k xs t i F S P j s.f0 s.f1 s.f2 s.f3 s.f4 s.f5 s.f6 s.f7 s.f8 s.f9) true := by
  intro d
  induction d with
  | zero =>
    intro j s hj hs h4 h3 h8
    refine Ev.step (fun k => by rw [foliotlaw15_LoopRests.l1]) ?_
    rw [w64_in (n := (t : Int)) (by omega) (by omega), w64_in (n := (i : Int) + 1) (by omega) (by omega)]
    have c : ¬ (j : Int) < t := by omega
    simp only [c, if_false, loop_Loop_Freq.f, loop_Loop_State.f, loop_Loop_Poll.f, bsome, h4, h3, h8, not_true_eq_false]
    have := nxt s hs
    rw [h4, h3, h8] at this
    exact this
  | succ d ih =>
    intro j s hj hs h4 h3 h8
    refine Ev.step (fun k => by rw [foliotlaw15_LoopRests.l1]) ?_
    have b := tick_between s hs
    have h5 := hs.h5
    rw [w64_in (n := (t : Int)) (by omega) (by omega), w64_in (n := (j : Int) + 1) (by omega) (by omega)]
    have c : (j : Int) < t := by omega
    have et := tick_is s hs
    have e1 : sat (s.f5 - tickX s) = s.f5 - tickX s := sat_of (by omega) (by omega)
    have z1 := size_is (s.f5 - tickX s) (by omega)
    have z2 := size_is s.f5 (by omega)
    have hle : absV (sat (s.f5 - tickX s)) ≤ absV (sat s.f5) := by
      rw [e1, sat_of h5.1 h5.2]
      unfold absV sat clampTo
      (repeat' split) <;> omega
    have e2 : wrap64 (s.f5 - tickX s) = s.f5 - tickX s := w64_in (by omega) (by omega)
    have c2 : ¬ absV (s.f5 - tickX s) > absV (sat s.f5) := by rw [e1] at hle; omega
    have := ih (j + 1) (tickS s) (by omega) (tick_inv s hs) h4 h3 h8
    rw [show ((j + 1 : Nat) : Int) = (j : Int) + 1 from by omega] at this
    simp only [c, if_true, loop_Loop_Left.f, bsome, et, e1, e2, z1, z2, c2, if_false, not_true_eq_false]
    unfold tickS at this
    simp only [e1] at this
    exact this
theorem rests_loop (xs : List S40) (hxs : ∀ x ∈ xs, okS40 x) (hl : xs.length ≤ 4096) (t : Nat) (ht : t ≤ 255) : ∀ (m i : Nat) (s : S55), i + m = xs.length → LInv s →
    Ev (fun k => foliotlaw15_LoopRests.l0 k xs t i s.f0 s.f1 s.f2 s.f3 s.f4 s.f5 s.f6 s.f7 s.f8 s.f9) true := by
  intro m
  induction m with
  | zero =>
    intro i s hi hs
    refine Ev.succ fun k => ?_
    rw [foliotlaw15_LoopRests.l0, if_neg (by omega)]
  | succ m ih =>
    intro i s hi hs
    have hm := hxs _ (rdOf_mem z_S40 xs i (by omega) (by omega))
    refine Ev.step (fun k => by rw [foliotlaw15_LoopRests.l0]) ?_
    have b0 : (i : Int) < xs.length := by omega
    have b1 : (0 : Int) ≤ i := by omega
    simp only [b0, b1, if_true, loop_Loop_State.f, loop_Loop_Freq.f, loop_Loop_Poll.f, bsome]
    refine Ev.bind (upd_ev _ _ _ s hs (wf64 hm.2.1) (wf64 hm.2.2.1)) ?_
    have F := upd_facts (rdOf z_S40 xs i).f1 (rdOf z_S40 xs i).f2 (rdOf z_S40 xs i).f3 s hs
    generalize updV (rdOf z_S40 xs i).f1 (rdOf z_S40 xs i).f2 (rdOf z_S40 xs i).f3 s = r at *
    exact rests_l1 xs t ht i (by omega) _ _ _ (fun s' h' => by
      have := ih (i + 1) s' (by omega) h'
      rwa [show ((i + 1 : Nat) : Int) = (i : Int) + 1 from by omega] at this) t 0 r.2.2 (by omega) F.inv rfl rfl rfl
namespace Pure
theorem LoopRests (a0_0 : List S112) (a0_1 : List S115) (a0_2 : List Int) (a0_3 : Int) (a0_4 : List S117) (a0_5 : ByteArray) (a0_6 : List ByteArray) (a0_7 : Int) (a0_8 : Bool) (a0_9 : Bool) (a0_10 : Int) (a0_11 : Int) (a0_12 : Int) (a0_13 : Int) (a0_14 : Int) (a1 : Int) (a2 : List S40) (a3 : Int) (h0 : (a0_0.length ≤ 9223372036854775807 ∧ a0_0.length * 80 ≤ 140737488351232 ∧ ∀ x ∈ a0_0, okS112 x)) (h1 : (a0_1.length ≤ 9223372036854775807 ∧ a0_1.length * 40 ≤ 140737488351232 ∧ ∀ x ∈ a0_1, okS115 x)) (h2 : (a0_2.length ≤ 9223372036854775807 ∧ a0_2.length * 8 ≤ 140737488351232 ∧ ∀ x ∈ a0_2, (Lit.int .i64 x).wf = true)) (h3 : (Lit.int .i64 a0_3).wf = true) (h4 : (a0_4.length ≤ 9223372036854775807 ∧ a0_4.length * 24 ≤ 140737488351232 ∧ ∀ x ∈ a0_4, okS117 x)) (h5 : a0_5.size ≤ 140737488351232) (h6 : (a0_6.length ≤ 9223372036854775807 ∧ a0_6.length * 16 ≤ 140737488351232 ∧ ∀ x ∈ a0_6, x.size ≤ 140737488351232)) (h7 : (Lit.int .i64 a0_7).wf = true) (h8 : (Lit.int .i64 a0_10).wf = true) (h9 : (Lit.int .i64 a0_11).wf = true) (h10 : (Lit.int .i64 a0_12).wf = true) (h11 : (Lit.int .i64 a0_13).wf = true) (h12 : (Lit.int .i64 a0_14).wf = true) (h13 : (Lit.int .i64 a1).wf = true) (h14 : (a2.length ≤ 9223372036854775807 ∧ a2.length * 32 ≤ 140737488351232 ∧ ∀ x ∈ a2, okS40 x)) (h15 : (Lit.int .u8 a3).wf = true) : ∃ k, foliotlaw15_LoopRests.f k a0_0 a0_1 a0_2 a0_3 a0_4 a0_5 a0_6 a0_7 a0_8 a0_9 a0_10 a0_11 a0_12 a0_13 a0_14 a1 a2 a3 = some true := by
  refine Ev.rounds ?_
  unfold foliotlaw15_LoopRests.f
  by_cases c1 : (a2.length : Int) > 4096
  · simp only [c1, if_true]; exact Ev.now _
  simp only [c1, if_false]
  obtain ⟨s, e, I, f0, f1, f2, f3, f5, f4, f6, f7, f8, f9⟩ := new_is a0_0 a0_1 a0_2 a0_3 a0_4 a0_5 a0_6 a0_7 a0_8 a0_9 a0_10 a0_11 a0_12 a0_13 a0_14 a1 true (wf64 h13)
  refine Ev.bind (Ev.const e) ?_
  have et := tick_is s I
  have hx : tickX s = 0 := by have := tick_between s I; omega
  have e1 : sat (s.f5 - tickX s) = 0 := by rw [hx, f5]; decide
  have f4' : s.f4 = clampTo 140737488355 a1 := f4
  simp only [et, bsome, hx, loop_Loop_Left.f, loop_Loop_Freq.f, not_true_eq_false, if_false]
  rw [hx] at e1
  simp only [e1, not_true_eq_false, if_false]
  have nw : Ev (fun k => foliotref15_New.f k a0_0 a0_1 a0_2 a0_3 a0_4 a0_5 a0_6 a0_7 a0_8 a0_9 a0_10 a0_11 a0_12 a0_13 a0_14 a1 true) ((mx 1 (mn a0_10 4611686018427387904)), (mx 1 (mn a0_11 4611686018427387904)), (mx 0 (mn a0_12 1048576)), 1, clampTo 140737488355 a1, 0, 0, 0, 3, 0) := by
    unfold foliotref15_New.f
    exact Ev.bind (ref_cut a1 (wf64 h13).1 (wf64 h13).2) (Ev.now _)
  refine Ev.bind nw ?_
  simp only [f4', not_true_eq_false, if_false]
  obtain ⟨t, rfl⟩ := Int.eq_ofNat_of_zero_le (wf8 h15).1
  have ht := wf8 h15
  have := rests_loop a2 h14.2.2 (by omega) t (by omega) a2.length 0 (tickS s) (by omega) (tick_inv s I)
  unfold tickS at this
  rw [hx] at this
  simp only [e1, f4'] at this
  exact this
end Pure
end Go.Proofs.Ytmbhbkconpfncaa.Q
