-- Written by a program of this session (the kit's print, extended: wip/extend_print.py). Not trusted: Lean checks it.
import Derived.Test.YtjfcfljdojkcdaaRows
import Derived.Test.YtjfcfljdojkcdaaPRestrictTurnedx3
import Derived.Test.YtjfcfljdojkcdaaPureRestrictTurned
import Derived.Test.YtjfcfljdojkcdaaOpens
import Derived.WalkKit
import Derived.ProofKit
import Derived.OpenShut
import Derived.ShutString
import Derived.ChangeOld
import Derived.Below
import Derived.SizedLaws
namespace Go.Proofs.Ytjfcfljdojkcdaa.restrictTurned
open Go.ChangeShapes Go.WideShapes Go.ChangeAt Go.RowKit Go.Proofs.Ytjfcfljdojkcdaa.Opens Go.Proofs.Ytjfcfljdojkcdaa.PRestrictTurned Go.Proofs.YtjfcfljdojkcdaaW.PrintWords
open Go.ChangeMaps (open_string shut_string)
set_option linter.unusedVariables false
set_option maxHeartbeats 4000000
theorem own_ : ownKnob Try.prog.godebug = none := by kernel_rfl
theorem laidOut_ : laidOutB Try.prog = true := by kernel_rfl
theorem o26 : Opens k26 Try.prog 26 okS26 :=
  Opens.imp (Opens.iso (fun y => ⟨⟨y.1, y.2.1, y.2.2⟩, rfl⟩) (Opens.struct Try.underlying26 (by kernel_rfl) (OpensF.cons (Opens.int Try.underlying24) rfl (by kernel_rfl) rfl (OpensF.cons (Opens.int Try.underlying3) rfl (by kernel_rfl) rfl (OpensF.one (Opens.int Try.underlying3) rfl (by kernel_rfl)))))) (fun x h => ⟨h.1, h.2.1, h.2.2⟩)
set_option maxRecDepth 100000 in
theorem lifted (os : Os) (started : os.Started) (H : Type) (enc : TypeId × Value → H) :
    ReturnsInHanded {} Try.checked os 3 .any (Rows.restrictTurnedSpec.pre6 enc Try.prog Try.f3 Rows.restrictTurnedRow.domain false) (Rows.restrictTurnedSpec.post enc Try.prog Try.f3 false true false false) := by
  refine returnsInHanded_of_change_sized (C := Try.checked) own_ started (by kernel_rfl) Try.func3
    (ChangeSpec.witness6 (enc := enc) (C := Try.checked) false ⟨#[], #[.slice none 0 0, .slice none 0 0, .int .u32 0], []⟩ 8 (by kernel_rfl) (by kernel_rfl) (by kernel_rfl) (by kernel_rfl)) ?_
  intro W base args ds gs before hval0 hW hcnd hsz0 _
  have hsz : (DataW.weightsEach Try.prog (Try.f3.params.toList ++ Rows.restrictTurnedSpec.plain.varTypes Try.prog) (ds ++ gs)).all (· ≤ reachBytes) = true := hsz0
  have hval : ∀ (j : Nat) t v, Try.f3.params[j]? = some t → args[j]? = some v → Value.okWide Try.prog W .any base t v := hval0
  have hW' := hW
  obtain ⟨p, q, hA0, hV, rfl, hfz, hnd⟩ := hW
  have hA : DataW.TrodAll enc Try.prog W 0 (fun _ => true) true Try.f3.params.toList args.toList ds p := hA0
  rw [Try.params3] at hA hval hsz
  obtain ⟨v0, vs0, d0, ds0, p0, q0, hargs, rfl, rfl, h0, r0⟩ := trodAll_cons hA
  obtain ⟨v1, vs1, d1, ds1, p1, q1, rfl, rfl, rfl, h1, r1⟩ := trodAll_cons r0
  obtain ⟨v2, vs2, d2, ds2, p2, q2, rfl, rfl, rfl, h2, r2⟩ := trodAll_cons r1
  obtain ⟨rfl, rfl, rfl⟩ := trodAll_nil r2
  obtain rfl : args = #[v0, v1, v2] := by cases args; simp_all
  obtain ⟨rfl, rfl⟩ := trodVars_none hV
  obtain ⟨b0_, m0_, n0_, rfl⟩ := okWide_slice Try.underlying22 (hval 0 22 v0 rfl rfl)
  have k0_ := h0
  have lt0_ : ∀ x ∈ p0, x.block < W.heap.size := by obtain ⟨m, hm⟩ := k0_; exact DataW.trod_lt m _ _ _ hm
  obtain ⟨l0, ⟨A0, c0, e0_, hc0, hC0⟩, g0_⟩ := open_top (Opens.slice (B := 24) 26 Try.underlying22 (by kernel_rfl) (by kernel_rfl) o26) hsz (j := 0) (t := 22) rfl rfl h0
  simp [Value.cells] at e0_
  obtain ⟨rfl, rfl, rfl⟩ := e0_
  obtain ⟨b1_, m1_, n1_, rfl⟩ := okWide_slice Try.underlying23 (hval 1 23 v1 rfl rfl)
  have k1_ := h1
  have lt1_ : ∀ x ∈ p1, x.block < W.heap.size := by obtain ⟨m, hm⟩ := k1_; exact DataW.trod_lt m _ _ _ hm
  obtain ⟨l1, ⟨A1, c1, e1_, hc1, hC1⟩, g1_⟩ := open_top (Opens.slice (B := 8) 3 Try.underlying23 (by kernel_rfl) (by kernel_rfl) (Opens.int Try.underlying3)) hsz (j := 1) (t := 23) rfl rfl h1
  simp [Value.cells] at e1_
  obtain ⟨rfl, rfl, rfl⟩ := e1_
  obtain ⟨a2, rfl, rfl, rfl, w2⟩ := open_int Try.underlying24 (hval 2 24 v2 rfl rfl) h2
  clear hA0 hval0 hsz0 hsz
  obtain ⟨k, h⟩ := Pure.RestrictTurned l0 l1 a2 g0_.1 g0_.2.1 g0_.2.2 g1_.1 g1_.2.1 g1_.2.2 w2
  refine (foliotlaw06_RestrictTurned.calls k _ _ l0 _ _ l1 a2 true W hC0 hc0 hC1 hc1 h).mono fun e W' ⟨he, hd⟩ => ?_
  have bel : Below W.heap.size W W' := hd
  subst he
  exact ⟨_, rfl, _, _, _, [], _, [], hW', trodAll_mk1 (shut_bool Try.underlying4 _), (trodAll_cons_mk (Below.trod laidOut_ (by kernel_rfl) (of_decide_eq_true (by kernel_rfl)) k0_ bel lt0_) (trodAll_cons_mk (Below.trod laidOut_ (by kernel_rfl) (of_decide_eq_true (by kernel_rfl)) k1_ bel lt1_) (trodAll_cons_mk (shut_int Try.underlying24 w2) trodAll_mk0))), rfl, bel.frame _, fun h => by cases h⟩
theorem over : Rows.restrictTurnedRow.holds Try.pinned (OpenSpec.ofChange Rows.restrictTurnedSpec) :=
  OpenClaim.holds_of_wide 3 Try.f3 rfl rfl rfl rfl rfl rfl rfl ⟨rfl, rfl, rfl, rfl, rfl⟩ rfl rfl rfl rfl rfl (by kernel_rfl) Try.func3 (by kernel_rfl)
    (of_decide_eq_true (by kernel_rfl)) (by unfold Func.isWrapper; first | (rw [if_pos (by decide +kernel)]; kernel_rfl) | (rw [if_neg (by decide +kernel)]; exact ⟨rfl, rfl⟩))
    (fun os started H enc _ => lifted os started H enc)
theorem proved : Rows.RestrictTurnedSaid := over
#print axioms proved
end Go.Proofs.Ytjfcfljdojkcdaa.restrictTurned
namespace Go.Proofs.Ytjfcfljdojkcdaa
/-- The row, under a short name, for the claim. -/
theorem restrictTurned_holds : Rows.RestrictTurnedSaid := restrictTurned.proved
end Go.Proofs.Ytjfcfljdojkcdaa
