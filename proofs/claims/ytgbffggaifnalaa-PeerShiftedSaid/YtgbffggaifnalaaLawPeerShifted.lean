-- Written by a program of this session (the kit's print, extended: wip/extend_print.py). Not trusted: Lean checks it.
import Derived.Test.YtgbffggaifnalaaRows
import Derived.Test.YtgbffggaifnalaaPPeerShiftedx5
import Derived.Test.YtgbffggaifnalaaPurePeerShifted
import Derived.Test.YtgbffggaifnalaaOpens
import Derived.WalkKit
import Derived.ProofKit
import Derived.OpenShut
import Derived.ShutString
import Derived.ChangeOld
import Derived.Below
import Derived.SizedLaws
namespace Go.Proofs.Ytgbffggaifnalaa.peerShifted
open Go.ChangeShapes Go.WideShapes Go.ChangeAt Go.RowKit Go.Proofs.Ytgbffggaifnalaa.Opens Go.Proofs.Ytgbffggaifnalaa.PPeerShifted Go.Proofs.YtgbffggaifnalaaW.PrintWords
open Go.ChangeMaps (open_string shut_string)
set_option linter.unusedVariables false
set_option maxHeartbeats 4000000
theorem own_ : ownKnob Try.prog.godebug = none := by kernel_rfl
theorem laidOut_ : laidOutB Try.prog = true := by kernel_rfl
set_option maxRecDepth 100000 in
theorem lifted (os : Os) (started : os.Started) (H : Type) (enc : TypeId × Value → H) :
    ReturnsInHanded {} Try.checked os 3 .any (Rows.peerShiftedSpec.pre6 enc Try.prog Try.f3 Rows.peerShiftedRow.domain false) (Rows.peerShiftedSpec.post enc Try.prog Try.f3 false true false false) := by
  refine returnsInHanded_of_change_sized (C := Try.checked) own_ started (by kernel_rfl) Try.func3
    (ChangeSpec.witness6 (enc := enc) (C := Try.checked) false ⟨#[], #[(.agg #[(.int .u64 0), (.int .u64 0), (.int .u64 0), (.int .u64 0)]), .int .i32 0], []⟩ 8 (by kernel_rfl) (by kernel_rfl) (by kernel_rfl) (by kernel_rfl)) ?_
  intro W base args ds gs before hval0 hW hcnd hsz0 _
  have hsz : (DataW.weightsEach Try.prog (Try.f3.params.toList ++ Rows.peerShiftedSpec.plain.varTypes Try.prog) (ds ++ gs)).all (· ≤ reachBytes) = true := hsz0
  have hval : ∀ (j : Nat) t v, Try.f3.params[j]? = some t → args[j]? = some v → Value.okWide Try.prog W .any base t v := hval0
  have hW' := hW
  obtain ⟨p, q, hA0, hV, rfl, hfz, hnd⟩ := hW
  have hA : DataW.TrodAll enc Try.prog W 0 (fun _ => true) true Try.f3.params.toList args.toList ds p := hA0
  rw [Try.params3] at hA hval hsz
  obtain ⟨v0, vs0, d0, ds0, p0, q0, hargs, rfl, rfl, h0, r0⟩ := trodAll_cons hA
  obtain ⟨v1, vs1, d1, ds1, p1, q1, rfl, rfl, rfl, h1, r1⟩ := trodAll_cons r0
  obtain ⟨rfl, rfl, rfl⟩ := trodAll_nil r1
  obtain rfl : args = #[v0, v1] := by cases args; simp_all
  obtain ⟨rfl, rfl⟩ := trodVars_none hV
  obtain ⟨b0_, rfl, m0_⟩ := okWide_array Try.underlying24 (hval 0 24 v0 rfl rfl)
  have k0_ := h0
  have lt0_ : ∀ x ∈ p0, x.block < W.heap.size := by obtain ⟨m, hm⟩ := k0_; exact DataW.trod_lt m _ _ _ hm
  obtain ⟨⟨a0_0, a0_1, a0_2, a0_3⟩, ⟨_, _, e0_, rfl, ⟨_, _, rfl, rfl, ⟨_, _, rfl, rfl, rfl⟩⟩⟩, g0_⟩ := open_top (Opens.array [⟨"", 23, 0, false, "", "", 0⟩, ⟨"", 23, 1, false, "", "", 0⟩, ⟨"", 23, 2, false, "", "", 0⟩, ⟨"", 23, 3, false, "", "", 0⟩] Try.underlying24 rfl rfl (fun i f h => match i, h with | 0, h => Option.some.inj h ▸ ⟨rfl, by kernel_rfl⟩ | 1, h => Option.some.inj h ▸ ⟨rfl, by kernel_rfl⟩ | 2, h => Option.some.inj h ▸ ⟨rfl, by kernel_rfl⟩ | 3, h => Option.some.inj h ▸ ⟨rfl, by kernel_rfl⟩ | _ + 4, h => absurd h (by simp)) (by kernel_rfl) (OpensF.cons (Opens.int Try.underlying23) rfl (by kernel_rfl) rfl (OpensF.cons (Opens.int Try.underlying23) rfl (by kernel_rfl) rfl (OpensF.cons (Opens.int Try.underlying23) rfl (by kernel_rfl) rfl (OpensF.one (Opens.int Try.underlying23) rfl (by kernel_rfl)))))) hsz (j := 0) (t := 24) rfl rfl h0
  obtain rfl : b0_ = #[.int .u64 a0_0, .int .u64 a0_1, .int .u64 a0_2, .int .u64 a0_3] := Array.ext' e0_
  obtain ⟨a1, rfl, rfl, rfl, w1⟩ := open_int Try.underlying21 (hval 1 21 v1 rfl rfl) h1
  clear hA0 hval0 hsz0 hsz
  obtain ⟨k, h⟩ := Pure.PeerShifted a0_0 a0_1 a0_2 a0_3 a1 g0_.1 g0_.2.1 g0_.2.2.1 g0_.2.2.2 w1
  refine (foliotlaw10_PeerShifted.calls k a0_0 a0_1 a0_2 a0_3 a1 true W rfl h).mono fun e W' ⟨he, hd⟩ => ?_
  have bel : Below W.heap.size W W' := hd
  subst he
  exact ⟨_, rfl, _, _, _, [], _, [], hW', trodAll_mk1 (shut_bool Try.underlying4 _), (trodAll_cons_mk (Below.trod laidOut_ (by kernel_rfl) (of_decide_eq_true (by kernel_rfl)) k0_ bel lt0_) (trodAll_cons_mk (shut_int Try.underlying21 w1) trodAll_mk0)), rfl, bel.frame _, fun h => by cases h⟩
theorem over : Rows.peerShiftedRow.holds Try.pinned (OpenSpec.ofChange Rows.peerShiftedSpec) :=
  OpenClaim.holds_of_wide 3 Try.f3 rfl rfl rfl rfl rfl rfl rfl ⟨rfl, rfl, rfl, rfl, rfl⟩ rfl rfl rfl rfl rfl (by kernel_rfl) Try.func3 (by kernel_rfl)
    (of_decide_eq_true (by kernel_rfl)) (by unfold Func.isWrapper; first | (rw [if_pos (by decide +kernel)]; kernel_rfl) | (rw [if_neg (by decide +kernel)]; exact ⟨rfl, rfl⟩))
    (fun os started H enc _ => lifted os started H enc)
theorem proved : Rows.PeerShiftedSaid := over
#print axioms proved
end Go.Proofs.Ytgbffggaifnalaa.peerShifted
namespace Go.Proofs.Ytgbffggaifnalaa
/-- The row, under a short name, for the claim. -/
theorem peerShifted_holds : Rows.PeerShiftedSaid := peerShifted.proved
end Go.Proofs.Ytgbffggaifnalaa
