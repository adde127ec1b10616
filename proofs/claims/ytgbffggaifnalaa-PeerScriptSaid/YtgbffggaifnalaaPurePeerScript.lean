/- What is to be proved of PeerScript. -/
import Derived.Test.YtgbffggaifnalaaDV
import Derived.Test.YtgbffggaifnalaaRh
namespace Go.Proofs.Ytgbffggaifnalaa.V
open Go Go.RowKit Go.Proofs.Ytgbffggaifnalaa.Ev
set_option linter.unusedVariables false
set_option linter.unusedSimpArgs false
set_option maxRecDepth 100000
def okS148 (x : S148) : Prop := (Lit.int .i64 x.f0).wf = true ∧ (x.f1.length ≤ 9223372036854775807 ∧ x.f1.length * 1 ≤ 140737488351232 ∧ ∀ y ∈ x.f1, (Lit.int .u8 y).wf = true)
def okS47 (x : S47) : Prop := (Lit.int .i64 x.f0).wf = true ∧ (Lit.int .i64 x.f1).wf = true ∧ (Lit.int .i64 x.f2).wf = true ∧ (Lit.int .i64 x.f3).wf = true ∧ (Lit.int .i64 x.f4).wf = true ∧ (Lit.int .i64 x.f5).wf = true ∧ (Lit.int .u32 x.f6).wf = true ∧ (Lit.int .u64 x.f7).wf = true ∧ (Lit.int .i64 x.f8).wf = true ∧ (Lit.int .i64 x.f9).wf = true ∧ (Lit.int .i64 x.f10).wf = true ∧ (Lit.int .i64 x.f11).wf = true ∧ (Lit.int .i64 x.f12).wf = true ∧ (Lit.int .u64 x.f13).wf = true ∧ (Lit.int .i64 x.f14).wf = true ∧ (Lit.int .i64 x.f15).wf = true ∧ (Lit.int .i64 x.f16).wf = true ∧ (Lit.int .i64 x.f17).wf = true ∧ (Lit.int .i64 x.f18).wf = true ∧ (Lit.int .i64 x.f19).wf = true ∧ (Lit.int .i64 x.f20).wf = true ∧ (Lit.int .i64 x.f21).wf = true ∧ (Lit.int .u32 x.f22).wf = true ∧ (Lit.int .u64 x.f23).wf = true ∧ (Lit.int .u64 x.f24).wf = true ∧ (Lit.int .u64 x.f25).wf = true ∧ (Lit.int .u64 x.f26).wf = true ∧ (x.f27.length ≤ 9223372036854775807 ∧ x.f27.length * 32 ≤ 140737488351232 ∧ ∀ y ∈ x.f27, okS148 y) ∧ (Lit.int .i64 x.f28).wf = true ∧ (x.f30.length ≤ 9223372036854775807 ∧ x.f30.length * 1 ≤ 140737488351232 ∧ ∀ y ∈ x.f30, (Lit.int .u8 y).wf = true)
theorem okO {o : S47} (h : okS47 o) : OkO o := by
  obtain ⟨_, _, _, _, _, _, _, _, _, _, _, _, _, h13, _, _, _, _, _, h19, h20, h21, _⟩ := h
  refine ⟨wf64 h19, wf64 h20, wf64 h21, ?_⟩
  have : 0 ≤ o.f13 ∧ o.f13 ≤ 18446744073709551615 := by
    simpa [Lit.wf, IntKind.min, IntKind.max, IntKind.signed, IntKind.bits] using h13
  exact this.1
namespace Pure
theorem PeerScript (a0_0 : Int) (a0_1 : Int) (a0_2 : Int) (a0_3 : Int) (a0_4 : Int) (a0_5 : Bool) (a0_6 : Bool) (a0_7 : Bool) (a0_8 : Int) (a0_9 : Bool) (a0_10 : Int) (a0_11 : Int) (a1 : Int) (a2 : List S47) (h0 : (Lit.int .i64 a0_0).wf = true) (h1 : (Lit.int .u32 a0_1).wf = true) (h2 : (Lit.int .i64 a0_2).wf = true) (h3 : (Lit.int .i64 a0_3).wf = true) (h4 : (Lit.int .i64 a0_4).wf = true) (h5 : (Lit.int .i64 a0_8).wf = true) (h6 : (Lit.int .i64 a0_10).wf = true) (h7 : (Lit.int .i64 a0_11).wf = true) (h8 : (Lit.int .u32 a1).wf = true) (h9 : (a2.length ≤ 9223372036854775807 ∧ a2.length * 288 ≤ 140737488351232 ∧ ∀ x ∈ a2, okS47 x)) : ∃ k, foliotlaw10_PeerScript.f k a0_0 a0_1 a0_2 a0_3 a0_4 a0_5 a0_6 a0_7 a0_8 a0_9 a0_10 a0_11 a1 a2 = some true := by
  refine Ev.rounds (r := true) ?_
  unfold foliotlaw10_PeerScript.f
  refine Ev.bind (f := fun k t0 => _) ev_shown ?_
  have h := script_l0 a2 (by omega) (fun x hx => okO (h9.2.2 x hx)) a2.length 0 ⟨a0_0, a0_1, a0_2, a0_3, a0_4, a0_5, a0_6, a0_7, a0_8, a0_9, a0_10, a0_11, a1, false, 0, false, 0, false, 0, 0, 0, 0, 0, 0, 0, 0, 0, 0⟩ 0 (by omega)
  exact h
end Pure
end Go.Proofs.Ytgbffggaifnalaa.V
