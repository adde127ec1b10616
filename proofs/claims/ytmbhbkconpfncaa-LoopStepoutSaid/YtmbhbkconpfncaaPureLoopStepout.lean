/- What is to be proved of LoopStepout. -/
import Derived.Test.YtmbhbkconpfncaaDC
import Derived.Test.YtmbhbkconpfncaaPreL
namespace Go.Proofs.Ytmbhbkconpfncaa.C
open Go Go.RowKit Go.Proofs.Ytmbhbkconpfncaa.Ev
set_option linter.unusedVariables false
set_option maxRecDepth 100000
def okS112 (x : S112) : Prop := (Lit.int .i64 x.f0).wf = true ∧ (Lit.int .u32 x.f1).wf = true ∧ (Lit.int .i64 x.f2).wf = true ∧ (Lit.int .i64 x.f3).wf = true ∧ (Lit.int .i64 x.f4).wf = true ∧ (Lit.int .i64 x.f8).wf = true ∧ (Lit.int .i64 x.f10).wf = true ∧ (Lit.int .i64 x.f11).wf = true
def okS115 (x : S115) : Prop := (Lit.int .i64 x.f0).wf = true ∧ (Lit.int .i64 x.f1).wf = true ∧ (x.f2.length ≤ 9223372036854775807 ∧ x.f2.length * 1 ≤ 140737488351232 ∧ ∀ y ∈ x.f2, (Lit.int .u8 y).wf = true)
def okS117 (x : S117) : Prop := (Lit.int .u32 x.f0).wf = true ∧ (Lit.int .i64 x.f1).wf = true ∧ (Lit.int .i64 x.f2).wf = true
theorem wf8 {n : Int} (h : (Lit.int .u8 n).wf = true) : 0 ≤ n ∧ n ≤ 255 := by
  simpa [Lit.wf, IntKind.min, IntKind.max, IntKind.signed, IntKind.bits] using h
theorem rd_mem (xs : List Int) (i : Int) (h0 : 0 ≤ i) (h1 : i < xs.length) : rd xs i ∈ xs := by
  unfold rd
  have h : i.toNat < xs.length := by omega
  rw [List.getD_eq_getElem?_getD, List.getElem?_eq_getElem h]
  exact List.getElem_mem h
theorem stepout_loop (xs : List Int) (hxs : ∀ x ∈ xs, (Lit.int .i64 x).wf = true) (hl : xs.length ≤ 16384) (g : Int) (hg : 0 ≤ g ∧ g ≤ 255) (e0 : List S112) (e1 : List S115) (e2 : List Int) (e3 : Int) (e4 : List S117) (e5 : ByteArray) (e6 : List ByteArray) (e7 : Int) (e8 e9 : Bool) (e10 e11 e12 e13 e14 : Int) (he : 1 ≤ e12) : ∀ (m i : Nat) (now sp : Int) (s : S55), i + m = xs.length → LInv s → s.f2 = e12 → 0 ≤ now ∧ now ≤ 255 * (i : Int) → (s.f3 = 4 ∨ (s.f3 = 2 ∧ sp = s.f7 ∧ 0 ≤ sp ∧ sp ≤ now)) →
    Ev (fun k => foliotlaw15_LoopStepout.l0 k xs g sp now i e0 e1 e2 e3 e4 e5 e6 e7 e8 e9 e10 e11 e12 e13 e14 s.f0 s.f1 s.f2 s.f3 s.f4 s.f5 s.f6 s.f7 s.f8 s.f9) true := by
  intro m
  induction m with
  | zero =>
    intro i now sp s hi hs _ _ _
    refine Ev.succ fun k => ?_
    rw [foliotlaw15_LoopStepout.l0, if_neg (by omega)]
  | succ m ih =>
    intro i now sp s hi hs h2 hn hst
    have hm := wf64 (hxs _ (rd_mem xs i (by omega) (by omega)))
    refine Ev.step (fun k => by rw [foliotlaw15_LoopStepout.l0]) ?_
    have b0 : (i : Int) < xs.length := by omega
    have b1 : (0 : Int) ≤ i := by omega
    simp only [b0, b1, if_true, loop_Loop_State.f, bsome]
    rw [w64_in (n := g) (by omega) (by omega), w64_in (n := now + g) (by omega) (by omega)]
    refine Ev.bind (upd_ev _ _ _ s hs hm (by omega)) ?_
    have F := upd_facts (rd xs i) 0 (now + g) s hs
    generalize rd xs i = o at *
    generalize updV o 0 (now + g) s = r at *
    obtain ⟨I, k0, k1, k2, act, pan, still, st, no, sl, sp', sq⟩ := F
    have hN : nowV (now + g) = now + g := by unfold nowV mn mx; (repeat' split) <;> omega
    have jn : ∀ sp2 : Int, (r.2.2.f3 = 4 ∨ (r.2.2.f3 = 2 ∧ sp2 = r.2.2.f7 ∧ 0 ≤ sp2 ∧ sp2 ≤ now + g)) → (r.1 = 2 → s.f3 = 2 ∧ 0 ≤ sp2 ∧ e12 ≤ now + g - sp2) →
        Ev (fun k => foliotlaw15_LoopStepout.j0 k xs g sp2 (now + g) i s.f3 r.1 e0 e1 e2 e3 e4 e5 e6 e7 e8 e9 e10 e11 e12 e13 e14 r.2.2.f0 r.2.2.f1 r.2.2.f2 r.2.2.f3 r.2.2.f4 r.2.2.f5 r.2.2.f6 r.2.2.f7 r.2.2.f8 r.2.2.f9) true := by
      intro sp2 h3 h4
      have nxt := ih (i + 1) (now + g) sp2 r.2.2 (by omega) I (by omega) (by omega) h3
      rw [show ((i + 1 : Nat) : Int) = (i : Int) + 1 from by omega] at nxt
      refine Ev.step (fun k => by rw [foliotlaw15_LoopStepout.j0]) ?_
      rw [w64_in (n := (i : Int) + 1) (by omega) (by omega)]
      by_cases c : r.1 = 2
      · obtain ⟨q1, q2, q3⟩ := h4 c
        rw [w64_in (n := now + g - sp2) (by omega) (by omega)]
        simp only [c, q1, if_true, if_false, not_true_eq_false, show ¬ sp2 < 0 from by omega, show ¬ now + g - sp2 < e12 from by omega]
        exact nxt
      · simp only [c, if_false]
        exact nxt
    unfold tup
    have hA : r.1 = 0 ∨ r.1 = 1 ∨ r.1 = 2 ∨ r.1 = 3 := by omega
    rcases hst with h4 | ⟨h4, h5, h6, h7⟩
    · have n2 : r.1 ≠ 2 := fun c => (st c).2.1 h4
      simp only [h4, if_true]
      by_cases c : r.2.2.f3 = 2
      · have hz : r.1 = 0 := by
          rcases hA with a | a | a | a
          · exact a
          · have := (sl a).1; omega
          · exact absurd a n2
          · have := still a; rw [this] at c; omega
        have := jn (now + g) (by have := sq hz h4; omega) (fun a => absurd a n2)
        rw [h4] at this
        simp only [c, if_true]
        rw [c] at this
        exact this
      · have := jn sp (by
          rcases hA with a | a | a | a
          · have := sq a h4; omega
          · have := (sl a).1; omega
          · exact absurd a n2
          · have := still a; rw [this]; omega) (fun a => absurd a n2)
        rw [h4] at this
        simp only [c, if_false]
        exact this
    · have := jn sp (by
          rcases hA with a | a | a | a
          · have := sp' a h4; rw [this]; omega
          · have := (sl a).1; omega
          · have := (st a).2.2.2.2 (by omega); omega
          · have := still a; rw [this]; omega) (fun a => by
          have q := (st a).2.2.2.1 h4
          unfold sinceV mx at q
          rw [hN] at q
          refine ⟨h4, h6, ?_⟩
          split at q <;> omega)
      rw [h4] at this
      simp only [h4, show ¬ (2 : Int) = 4 from by decide, if_false]
      exact this
namespace Pure
theorem LoopStepout (a0_0 : List S112) (a0_1 : List S115) (a0_2 : List Int) (a0_3 : Int) (a0_4 : List S117) (a0_5 : ByteArray) (a0_6 : List ByteArray) (a0_7 : Int) (a0_8 : Bool) (a0_9 : Bool) (a0_10 : Int) (a0_11 : Int) (a0_12 : Int) (a0_13 : Int) (a0_14 : Int) (a1 : Int) (a2 : List Int) (a3 : Int) (h0 : (a0_0.length ≤ 9223372036854775807 ∧ a0_0.length * 80 ≤ 140737488351232 ∧ ∀ x ∈ a0_0, okS112 x)) (h1 : (a0_1.length ≤ 9223372036854775807 ∧ a0_1.length * 40 ≤ 140737488351232 ∧ ∀ x ∈ a0_1, okS115 x)) (h2 : (a0_2.length ≤ 9223372036854775807 ∧ a0_2.length * 8 ≤ 140737488351232 ∧ ∀ x ∈ a0_2, (Lit.int .i64 x).wf = true)) (h3 : (Lit.int .i64 a0_3).wf = true) (h4 : (a0_4.length ≤ 9223372036854775807 ∧ a0_4.length * 24 ≤ 140737488351232 ∧ ∀ x ∈ a0_4, okS117 x)) (h5 : a0_5.size ≤ 140737488351232) (h6 : (a0_6.length ≤ 9223372036854775807 ∧ a0_6.length * 16 ≤ 140737488351232 ∧ ∀ x ∈ a0_6, x.size ≤ 140737488351232)) (h7 : (Lit.int .i64 a0_7).wf = true) (h8 : (Lit.int .i64 a0_10).wf = true) (h9 : (Lit.int .i64 a0_11).wf = true) (h10 : (Lit.int .i64 a0_12).wf = true) (h11 : (Lit.int .i64 a0_13).wf = true) (h12 : (Lit.int .i64 a0_14).wf = true) (h13 : (Lit.int .i64 a1).wf = true) (h14 : (a2.length ≤ 9223372036854775807 ∧ a2.length * 8 ≤ 140737488351232 ∧ ∀ x ∈ a2, (Lit.int .i64 x).wf = true)) (h15 : (Lit.int .u8 a3).wf = true) : ∃ k, foliotlaw15_LoopStepout.f k a0_0 a0_1 a0_2 a0_3 a0_4 a0_5 a0_6 a0_7 a0_8 a0_9 a0_10 a0_11 a0_12 a0_13 a0_14 a1 a2 a3 = some true := by
  refine Ev.rounds ?_
  unfold foliotlaw15_LoopStepout.f
  by_cases c1 : (a2.length : Int) > 16384
  · simp only [c1, if_true]; exact Ev.now _
  by_cases c2 : a0_12 < 1
  · simp only [c1, c2, if_true, if_false]; exact Ev.now _
  by_cases c3 : a0_12 > 1048576
  · simp only [c1, c2, c3, if_true, if_false]; exact Ev.now _
  simp only [c1, c2, c3, if_false]
  obtain ⟨s, e, I, f0, f1, f2, f3, f5, f4, f6, f7, f8, f9⟩ := new_is a0_0 a0_1 a0_2 a0_3 a0_4 a0_5 a0_6 a0_7 a0_8 a0_9 a0_10 a0_11 a0_12 a0_13 a0_14 a1 true (wf64 h13)
  refine Ev.bind (Ev.const e) (Ev.bind (upd_ev 0 0 0 s I (by omega) (by omega)) ?_)
  have F := upd_facts 0 0 0 s I
  have h0 := I.h0
  have h1 := I.h1
  have ea : absV (sat 0) = 0 := by decide
  have f3' : s.f3 = 1 := f3
  have e4 : (updV 0 0 0 s).2.2.f3 = 4 := by
    unfold updV
    rw [ea, if_neg (by omega), if_neg (by omega), if_pos f3', if_neg (by omega)]
    rfl
  generalize updV 0 0 0 s = r at *
  unfold tup
  simp only [loop_Loop_State.f, bsome, e4, not_true_eq_false, if_false]
  have := stepout_loop a2 h14.2.2 (by omega) a3 (wf8 h15) a0_0 a0_1 a0_2 a0_3 a0_4 a0_5 a0_6 a0_7 a0_8 a0_9 a0_10 a0_11 a0_12 a0_13 a0_14 (by omega) a2.length 0 0 (-1) r.2.2 (by omega) F.inv (by have := F.k2; rw [this, f2]; unfold mn mx; (repeat' split) <;> omega) (by omega) (Or.inl e4)
  rw [e4] at this
  exact this
end Pure
end Go.Proofs.Ytmbhbkconpfncaa.C
