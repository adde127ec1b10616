/- What is to be proved of PeerTruth. -/
import Derived.Test.YtgbffggaifnalaaDT4
import Derived.Test.YtgbffggaifnalaaPreT4
namespace Go.Proofs.Ytgbffggaifnalaa.T4
open Go Go.RowKit Go.Proofs.Ytgbffggaifnalaa.Ev
set_option linter.unusedVariables false
set_option maxRecDepth 100000

namespace Pure
theorem PeerTruth (a0 : Int) (a1 : Int) (a2 : Int) (a3 : Int) (a4 : Int) (h0 : (Lit.int .u64 a0).wf = true) (h1 : (Lit.int .i64 a1).wf = true) (h2 : (Lit.int .i64 a2).wf = true) (h3 : (Lit.int .i64 a3).wf = true) (h4 : (Lit.int .i64 a4).wf = true) : ∃ k, foliotlaw10_PeerTruth.f k a0 a1 a2 a3 a4 = some true := by
  generalize a1 = off at *
  generalize a2 = th at *
  generalize a3 = hd at *
  generalize a4 = bk at *
  generalize a0 = b at *
  have hb0 := h0
  refine Ev.rounds (r := true) ?_
  unfold foliotlaw10_PeerTruth.f
  refine Ev.bind ev_shown ?_
  simp only [Bool.not_true, cond_false]
  by_cases c1 : off < -288230376151711744
  · simp only [c1, if_true]
    exact Ev.now _
  by_cases c2 : off > 288230376151711744
  · simp only [c1, c2, if_true, if_false]
    exact Ev.now _
  by_cases c3 : th < 0
  · simp only [c1, c2, c3, if_true, if_false]
    exact Ev.now _
  by_cases c4 : th > 288230376151711744
  · simp only [c1, c2, c3, c4, if_true, if_false]
    exact Ev.now _
  by_cases c5 : hd < 0
  · simp only [c1, c2, c3, c4, c5, if_true, if_false]
    exact Ev.now _
  by_cases c6 : hd > 288230376151711744
  · simp only [c1, c2, c3, c4, c5, c6, if_true, if_false]
    exact Ev.now _
  by_cases c7 : bk < 0
  · simp only [c1, c2, c3, c4, c5, c6, c7, if_true, if_false]
    exact Ev.now _
  by_cases c8 : bk > 288230376151711744
  · simp only [c1, c2, c3, c4, c5, c6, c7, c8, if_true, if_false]
    exact Ev.now _
  simp only [c1, c2, c3, c4, c5, c6, c7, c8, if_false]
  refine Ev.bind (ev_exchange _ _ _ _) ?_
  have s1 : sinceVal (IntKind.u64.wrap (b + IntKind.u64.wrap th)) (IntKind.u64.wrap (b + IntKind.u64.wrap off)) = th - off := by
    rw [u64w, u64w, u64w, u64w]
    exact since_eq2 _ _ _ (by omega) (by omega) (by omega)
  have s2 : sinceVal (IntKind.u64.wrap (IntKind.u64.wrap (b + IntKind.u64.wrap th) + IntKind.u64.wrap hd)) (IntKind.u64.wrap (IntKind.u64.wrap (IntKind.u64.wrap (IntKind.u64.wrap (b + IntKind.u64.wrap th) + IntKind.u64.wrap hd) + IntKind.u64.wrap bk) + IntKind.u64.wrap off)) = -bk - off := by
    generalize IntKind.u64.wrap (IntKind.u64.wrap (b + IntKind.u64.wrap th) + IntKind.u64.wrap hd) = x
    rw [u64w, u64w, u64w, u64w]
    exact since_eq2 _ _ _ (by omega) (by omega) (by omega)
  unfold exchOff exchWay
  rw [s1, s2]
  clear s1 s2
  rw [sat_of (x := (th - off + (-bk - off)) / 2) (by omega) (by omega), sat_of (x := th - off - (-bk - off)) (by omega) (by omega)]
  rw [w64_in (n := (th - off + (-bk - off)) / 2 + off) (by omega) (by omega), w64_in (n := -((th - off + (-bk - off)) / 2 + off)) (by omega) (by omega)]
  have hd2 : th - off - (-bk - off) = th + bk := by omega
  rw [hd2]
  have hm : mx (th + bk) 4096 = th + bk ∨ (mx (th + bk) 4096 = 4096 ∧ th + bk < 4096) := by
    unfold mx
    split <;> omega
  generalize mx (th + bk) 4096 = d at *
  have ha : ¬ ((th - off + (-bk - off)) / 2 + off < 0) → (th - off + (-bk - off)) / 2 + off ≤ d / 2 + 1 := by omega
  have hb : (th - off + (-bk - off)) / 2 + off < 0 → -((th - off + (-bk - off)) / 2 + off) ≤ d / 2 + 1 := by omega
  have hge : d ≥ th + bk := by omega
  have hor : d = th + bk ∨ d = 4096 := by omega
  generalize (th - off + (-bk - off)) / 2 + off = e at *
  have fin : ∀ v : Int, v ≤ d / 2 + 1 → Ev (fun k => foliotlaw10_PeerTruth.j0 k th bk d v) true := fun v hv => by
    refine Ev.succ fun k => ?_
    rw [foliotlaw10_PeerTruth.j0, w64_in (n := th + bk) (by omega) (by omega), if_pos hge, Int.tdiv_eq_ediv_of_nonneg (by omega), w64_in (n := d / 2) (by omega) (by omega), w64_in (n := d / 2 + 1) (by omega) (by omega), decide_eq_true hv]
    rcases hor with h | h
    · rw [if_pos h]
    · by_cases c' : d = th + bk
      · rw [if_pos c']
      · rw [if_neg c', if_pos h]
  by_cases c : e < 0
  · simp only [c, if_true]
    exact fin _ (hb c)
  · simp only [c, if_false]
    exact fin _ (ha c)
end Pure
end Go.Proofs.Ytgbffggaifnalaa.T4
