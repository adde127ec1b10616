/- What is to be proved of LoopScript. -/
import Derived.Test.YtmbhbkconpfncaaDV
import Derived.Test.YtmbhbkconpfncaaPreY
namespace Go.Proofs.Ytmbhbkconpfncaa.V
open Go Go.RowKit Go.Proofs.Ytmbhbkconpfncaa.Ev
set_option linter.unusedVariables false
set_option maxRecDepth 100000
def okS112 (x : S112) : Prop := (Lit.int .i64 x.f0).wf = true ∧ (Lit.int .u32 x.f1).wf = true ∧ (Lit.int .i64 x.f2).wf = true ∧ (Lit.int .i64 x.f3).wf = true ∧ (Lit.int .i64 x.f4).wf = true ∧ (Lit.int .i64 x.f8).wf = true ∧ (Lit.int .i64 x.f10).wf = true ∧ (Lit.int .i64 x.f11).wf = true
def okS115 (x : S115) : Prop := (Lit.int .i64 x.f0).wf = true ∧ (Lit.int .i64 x.f1).wf = true ∧ (x.f2.length ≤ 9223372036854775807 ∧ x.f2.length * 1 ≤ 140737488351232 ∧ ∀ y ∈ x.f2, (Lit.int .u8 y).wf = true)
def okS117 (x : S117) : Prop := (Lit.int .u32 x.f0).wf = true ∧ (Lit.int .i64 x.f1).wf = true ∧ (Lit.int .i64 x.f2).wf = true
def okS40 (x : S40) : Prop := (Lit.int .i64 x.f0).wf = true ∧ (Lit.int .i64 x.f1).wf = true ∧ (Lit.int .i64 x.f2).wf = true ∧ (Lit.int .i64 x.f3).wf = true
theorem rdOf_mem {α : Type} (d : α) (xs : List α) (i : Int) (h0 : 0 ≤ i) (h1 : i < xs.length) : rdOf d xs i ∈ xs := by
  unfold rdOf
  have h : i.toNat < xs.length := by omega
  rw [List.getD_eq_getElem?_getD, List.getElem?_eq_getElem h]
  exact List.getElem_mem h
theorem same_is (s : S55) : foliotlaw15_same.f s ⟨s.f0, s.f1, s.f2, s.f3, s.f4, s.f5, s.f6, s.f7, s.f8, s.f9⟩ = some true := by
  unfold foliotlaw15_same.f loop_Loop_Freq.f loop_Loop_State.f loop_Loop_Poll.f loop_Loop_Left.f
  simp only [bsome, if_true, decide_true]
theorem script_loop (xs : List S40) (hxs : ∀ x ∈ xs, okS40 x) (hl : xs.length ≤ 16384) : ∀ (m i : Nat) (s : S55), i + m = xs.length → LInv s →
    Ev (fun k => foliotlaw15_LoopScript.l0 k xs i s.f0 s.f1 s.f2 s.f3 s.f4 s.f5 s.f6 s.f7 s.f8 s.f9 s.f0 s.f1 s.f2 s.f3 s.f4 s.f5 s.f6 s.f7 s.f8 s.f9) true := by
  intro m
  induction m with
  | zero =>
    intro i s hi hs
    refine Ev.succ fun k => ?_
    rw [foliotlaw15_LoopScript.l0, if_neg (by omega)]
  | succ m ih =>
    intro i s hi hs
    have hm := hxs _ (rdOf_mem z_S40 xs i (by omega) (by omega))
    have nxt : ∀ s' : S55, LInv s' → Ev (fun k => foliotlaw15_LoopScript.j0 k xs i s'.f0 s'.f1 s'.f2 s'.f3 s'.f4 s'.f5 s'.f6 s'.f7 s'.f8 s'.f9 s'.f0 s'.f1 s'.f2 s'.f3 s'.f4 s'.f5 s'.f6 s'.f7 s'.f8 s'.f9) true := by
      intro s' h'
      have := ih (i + 1) s' (by omega) h'
      rw [show ((i + 1 : Nat) : Int) = (i : Int) + 1 from by omega] at this
      refine Ev.step (fun k => by rw [foliotlaw15_LoopScript.j0]) ?_
      rw [w64_in (n := (i : Int) + 1) (by omega) (by omega)]
      refine Ev.bind (Ev.const (same_is s')) ?_
      simp only [Bool.not_true, cond_false]
      exact this
    refine Ev.step (fun k => by rw [foliotlaw15_LoopScript.l0]) ?_
    have b0 : (i : Int) < xs.length := by omega
    have b1 : (0 : Int) ≤ i := by omega
    simp only [b0, b1, if_true]
    by_cases c0 : (rdOf z_S40 xs i).f0 = 0
    · simp only [c0, if_true]
      refine Ev.bind (upd_ev _ _ _ s hs (wf64 hm.2.1) (wf64 hm.2.2.1)) (Ev.bind (rupd_ev _ _ _ s hs (wf64 hm.2.1) (wf64 hm.2.2.1)) ?_)
      have F := upd_facts (rdOf z_S40 xs i).f1 (rdOf z_S40 xs i).f2 (rdOf z_S40 xs i).f3 s hs
      generalize updV (rdOf z_S40 xs i).f1 (rdOf z_S40 xs i).f2 (rdOf z_S40 xs i).f3 s = r at *
      simp only [not_true_eq_false, if_false]
      exact nxt r.2.2 F.inv
    · simp only [c0, if_false]
      by_cases c1 : (rdOf z_S40 xs i).f0 = 1
      · simp only [c1, if_true]
        refine Ev.bind (Ev.const (tick_is s hs)) (Ev.bind (rtick_ev s hs) ?_)
        simp only [not_true_eq_false, if_false]
        exact nxt (tickS s) (tick_inv s hs)
      · simp only [c1, if_false]
        exact nxt s hs
namespace Pure
theorem LoopScript (a0_0 : List S112) (a0_1 : List S115) (a0_2 : List Int) (a0_3 : Int) (a0_4 : List S117) (a0_5 : ByteArray) (a0_6 : List ByteArray) (a0_7 : Int) (a0_8 : Bool) (a0_9 : Bool) (a0_10 : Int) (a0_11 : Int) (a0_12 : Int) (a0_13 : Int) (a0_14 : Int) (a1 : Int) (a2 : Bool) (a3 : List S40) (h0 : (a0_0.length ≤ 9223372036854775807 ∧ a0_0.length * 80 ≤ 140737488351232 ∧ ∀ x ∈ a0_0, okS112 x)) (h1 : (a0_1.length ≤ 9223372036854775807 ∧ a0_1.length * 40 ≤ 140737488351232 ∧ ∀ x ∈ a0_1, okS115 x)) (h2 : (a0_2.length ≤ 9223372036854775807 ∧ a0_2.length * 8 ≤ 140737488351232 ∧ ∀ x ∈ a0_2, (Lit.int .i64 x).wf = true)) (h3 : (Lit.int .i64 a0_3).wf = true) (h4 : (a0_4.length ≤ 9223372036854775807 ∧ a0_4.length * 24 ≤ 140737488351232 ∧ ∀ x ∈ a0_4, okS117 x)) (h5 : a0_5.size ≤ 140737488351232) (h6 : (a0_6.length ≤ 9223372036854775807 ∧ a0_6.length * 16 ≤ 140737488351232 ∧ ∀ x ∈ a0_6, x.size ≤ 140737488351232)) (h7 : (Lit.int .i64 a0_7).wf = true) (h8 : (Lit.int .i64 a0_10).wf = true) (h9 : (Lit.int .i64 a0_11).wf = true) (h10 : (Lit.int .i64 a0_12).wf = true) (h11 : (Lit.int .i64 a0_13).wf = true) (h12 : (Lit.int .i64 a0_14).wf = true) (h13 : (Lit.int .i64 a1).wf = true) (h14 : (a3.length ≤ 9223372036854775807 ∧ a3.length * 32 ≤ 140737488351232 ∧ ∀ x ∈ a3, okS40 x)) : ∃ k, foliotlaw15_LoopScript.f k a0_0 a0_1 a0_2 a0_3 a0_4 a0_5 a0_6 a0_7 a0_8 a0_9 a0_10 a0_11 a0_12 a0_13 a0_14 a1 a2 a3 = some true := by
  refine Ev.rounds ?_
  unfold foliotlaw15_LoopScript.f
  by_cases c1 : (a3.length : Int) > 16384
  · simp only [c1, if_true]; exact Ev.now _
  simp only [c1, if_false]
  obtain ⟨s, e, I, _⟩ := new_is a0_0 a0_1 a0_2 a0_3 a0_4 a0_5 a0_6 a0_7 a0_8 a0_9 a0_10 a0_11 a0_12 a0_13 a0_14 a1 a2 (wf64 h13)
  refine Ev.bind (Ev.const e) (Ev.bind (rnew_ev a0_0 a0_1 a0_2 a0_3 a0_4 a0_5 a0_6 a0_7 a0_8 a0_9 a0_10 a0_11 a0_12 a0_13 a0_14 a1 a2 (wf64 h13) s e) (Ev.bind (Ev.const (same_is s)) ?_))
  simp only [Bool.not_true, cond_false]
  exact script_loop a3 h14.2.2 (by omega) a3.length 0 s (by omega) I
end Pure
end Go.Proofs.Ytmbhbkconpfncaa.V
