-- Written by a program of this session (the kit's print, extended: wip/extend_print.py). Not trusted: Lean checks it.
import Derived.Test.YtbcdoncnhhjjeaaRows
import Derived.Test.YtbcdoncnhhjjeaaPSystemDistancex7
import Derived.Test.YtbcdoncnhhjjeaaPureSystemDistance
import Derived.Test.YtbcdoncnhhjjeaaOpens
import Derived.WalkKit
import Derived.ProofKit
import Derived.OpenShut
import Derived.ShutString
import Derived.ChangeOld
import Derived.Below
import Derived.SizedLaws
namespace Go.Proofs.Ytbcdoncnhhjjeaa.systemDistance
open Go.ChangeShapes Go.WideShapes Go.ChangeAt Go.RowKit Go.Proofs.Ytbcdoncnhhjjeaa.Opens Go.Proofs.Ytbcdoncnhhjjeaa.PSystemDistance Go.Proofs.YtbcdoncnhhjjeaaW.PrintWords
open Go.ChangeMaps (open_string shut_string)
set_option linter.unusedVariables false
set_option maxHeartbeats 4000000
theorem own_ : ownKnob Try.prog.godebug = none := by kernel_rfl
theorem laidOut_ : laidOutB Try.prog = true := by kernel_rfl
set_option maxRecDepth 100000 in
theorem lifted (os : Os) (started : os.Started) (H : Type) (enc : TypeId × Value → H) :
    ReturnsInHanded {} Try.checked os 5 .any (Rows.systemDistanceSpec.pre6 enc Try.prog Try.f5 Rows.systemDistanceRow.domain false) (Rows.systemDistanceSpec.post enc Try.prog Try.f5 false true false false) := by
  refine returnsInHanded_of_change_sized (C := Try.checked) own_ started (by kernel_rfl) Try.func5
    (ChangeSpec.witness6 (enc := enc) (C := Try.checked) false ⟨#[], #[(.agg #[(.int .i64 0), (.int .i64 0), (.int .i64 0), (.int .i64 0), (.int .i64 0), (.int .u32 0), (.int .u64 0), (.int .i64 0), (.int .i64 0), (.int .i64 0), (.int .i64 0)]), (.agg #[(.int .i64 0), (.int .i64 0), (.int .i64 0), (.int .i64 0), (.int .i64 0), (.int .u32 0), (.int .i64 0), (.int .i64 0), (.int .i64 0), (.int .i64 0), (.int .u64 0), (.bool false), (.int .i64 0), (.int .i64 0)]), .int .u64 0, .int .u32 0], []⟩ 8 (by kernel_rfl) (by kernel_rfl) (by kernel_rfl) (by kernel_rfl)) ?_
  intro W base args ds gs before hval0 hW hcnd hsz0 _
  have hsz : (DataW.weightsEach Try.prog (Try.f5.params.toList ++ Rows.systemDistanceSpec.plain.varTypes Try.prog) (ds ++ gs)).all (· ≤ reachBytes) = true := hsz0
  have hval : ∀ (j : Nat) t v, Try.f5.params[j]? = some t → args[j]? = some v → Value.okWide Try.prog W .any base t v := hval0
  have hW' := hW
  obtain ⟨p, q, hA0, hV, rfl, hfz, hnd⟩ := hW
  have hA : DataW.TrodAll enc Try.prog W 0 (fun _ => true) true Try.f5.params.toList args.toList ds p := hA0
  rw [Try.params5] at hA hval hsz
  obtain ⟨v0, vs0, d0, ds0, p0, q0, hargs, rfl, rfl, h0, r0⟩ := trodAll_cons hA
  obtain ⟨v1, vs1, d1, ds1, p1, q1, rfl, rfl, rfl, h1, r1⟩ := trodAll_cons r0
  obtain ⟨v2, vs2, d2, ds2, p2, q2, rfl, rfl, rfl, h2, r2⟩ := trodAll_cons r1
  obtain ⟨v3, vs3, d3, ds3, p3, q3, rfl, rfl, rfl, h3, r3⟩ := trodAll_cons r2
  obtain ⟨rfl, rfl, rfl⟩ := trodAll_nil r3
  obtain rfl : args = #[v0, v1, v2, v3] := by cases args; simp_all
  obtain ⟨rfl, rfl⟩ := trodVars_none hV
  obtain ⟨b0_, rfl, m0_⟩ := okWide_struct Try.underlying28 (hval 0 28 v0 rfl rfl)
  have k0_ := h0
  have lt0_ : ∀ x ∈ p0, x.block < W.heap.size := by obtain ⟨m, hm⟩ := k0_; exact DataW.trod_lt m _ _ _ hm
  obtain ⟨⟨a0_0, a0_1, a0_2, a0_3, a0_4, a0_5, a0_6, a0_7, a0_8, a0_9, a0_10⟩, ⟨_, _, e0_, rfl, ⟨_, _, rfl, rfl, ⟨_, _, rfl, rfl, ⟨_, _, rfl, rfl, ⟨_, _, rfl, rfl, ⟨_, _, rfl, rfl, ⟨_, _, rfl, rfl, ⟨_, _, rfl, rfl, ⟨_, _, rfl, rfl, ⟨_, _, rfl, rfl, rfl⟩⟩⟩⟩⟩⟩⟩⟩⟩⟩, g0_⟩ := open_top (Opens.struct Try.underlying28 (by kernel_rfl) (OpensF.cons (Opens.int Try.underlying3) rfl (by kernel_rfl) rfl (OpensF.cons (Opens.int Try.underlying3) rfl (by kernel_rfl) rfl (OpensF.cons (Opens.int Try.underlying3) rfl (by kernel_rfl) rfl (OpensF.cons (Opens.int Try.underlying22) rfl (by kernel_rfl) rfl (OpensF.cons (Opens.int Try.underlying22) rfl (by kernel_rfl) rfl (OpensF.cons (Opens.int Try.underlying23) rfl (by kernel_rfl) rfl (OpensF.cons (Opens.int Try.underlying25) rfl (by kernel_rfl) rfl (OpensF.cons (Opens.int Try.underlying22) rfl (by kernel_rfl) rfl (OpensF.cons (Opens.int Try.underlying22) rfl (by kernel_rfl) rfl (OpensF.cons (Opens.int Try.underlying3) rfl (by kernel_rfl) rfl (OpensF.one (Opens.int Try.underlying26) rfl (by kernel_rfl))))))))))))) hsz (j := 0) (t := 28) rfl rfl h0
  obtain rfl : b0_ = #[.int .i64 a0_0, .int .i64 a0_1, .int .i64 a0_2, .int .i64 a0_3, .int .i64 a0_4, .int .u32 a0_5, .int .u64 a0_6, .int .i64 a0_7, .int .i64 a0_8, .int .i64 a0_9, .int .i64 a0_10] := Array.ext' e0_
  obtain ⟨b1_, rfl, m1_⟩ := okWide_struct Try.underlying32 (hval 1 32 v1 rfl rfl)
  have k1_ := h1
  have lt1_ : ∀ x ∈ p1, x.block < W.heap.size := by obtain ⟨m, hm⟩ := k1_; exact DataW.trod_lt m _ _ _ hm
  obtain ⟨⟨a1_0, a1_1, a1_2, a1_3, a1_4, a1_5, ⟨a1_6, a1_7, a1_8, a1_9, a1_10, a1_11⟩, a1_12, a1_13⟩, ⟨_, _, e1_, rfl, ⟨_, _, rfl, rfl, ⟨_, _, rfl, rfl, ⟨_, _, rfl, rfl, ⟨_, _, rfl, rfl, ⟨_, _, rfl, rfl, ⟨_, _, rfl, ⟨_, _, rfl, rfl, ⟨_, _, rfl, rfl, ⟨_, _, rfl, rfl, ⟨_, _, rfl, rfl, ⟨_, _, rfl, rfl, rfl⟩⟩⟩⟩⟩, ⟨_, _, rfl, rfl, rfl⟩⟩⟩⟩⟩⟩⟩⟩, g1_⟩ := open_top (Opens.struct Try.underlying32 (by kernel_rfl) (OpensF.cons (Opens.int Try.underlying3) rfl (by kernel_rfl) rfl (OpensF.cons (Opens.int Try.underlying3) rfl (by kernel_rfl) rfl (OpensF.cons (Opens.int Try.underlying3) rfl (by kernel_rfl) rfl (OpensF.cons (Opens.int Try.underlying22) rfl (by kernel_rfl) rfl (OpensF.cons (Opens.int Try.underlying22) rfl (by kernel_rfl) rfl (OpensF.cons (Opens.int Try.underlying23) rfl (by kernel_rfl) rfl (OpensF.cons (Opens.struct Try.underlying30 (by kernel_rfl) (OpensF.cons (Opens.int Try.underlying22) rfl (by kernel_rfl) rfl (OpensF.cons (Opens.int Try.underlying22) rfl (by kernel_rfl) rfl (OpensF.cons (Opens.int Try.underlying22) rfl (by kernel_rfl) rfl (OpensF.cons (Opens.int Try.underlying22) rfl (by kernel_rfl) rfl (OpensF.cons (Opens.int Try.underlying25) rfl (by kernel_rfl) rfl (OpensF.one (Opens.bool Try.underlying4) rfl (by kernel_rfl)))))))) rfl (by kernel_rfl) rfl (OpensF.cons (Opens.int Try.underlying22) rfl (by kernel_rfl) rfl (OpensF.one (Opens.int Try.underlying22) rfl (by kernel_rfl))))))))))) hsz (j := 1) (t := 32) rfl rfl h1
  obtain rfl : b1_ = #[.int .i64 a1_0, .int .i64 a1_1, .int .i64 a1_2, .int .i64 a1_3, .int .i64 a1_4, .int .u32 a1_5, .int .i64 a1_6, .int .i64 a1_7, .int .i64 a1_8, .int .i64 a1_9, .int .u64 a1_10, .bool a1_11, .int .i64 a1_12, .int .i64 a1_13] := Array.ext' e1_
  obtain ⟨a2, rfl, rfl, rfl, w2⟩ := open_int Try.underlying25 (hval 2 25 v2 rfl rfl) h2
  obtain ⟨a3, rfl, rfl, rfl, w3⟩ := open_int Try.underlying23 (hval 3 23 v3 rfl rfl) h3
  clear hA0 hval0 hsz0 hsz
  obtain ⟨k, h⟩ := Pure.SystemDistance a0_0 a0_1 a0_2 a0_3 a0_4 a0_5 a0_6 a0_7 a0_8 a0_9 a0_10 a1_0 a1_1 a1_2 a1_3 a1_4 a1_5 a1_6 a1_7 a1_8 a1_9 a1_10 a1_11 a1_12 a1_13 a2 a3 g0_.1 g0_.2.1 g0_.2.2.1 g0_.2.2.2.1 g0_.2.2.2.2.1 g0_.2.2.2.2.2.1 g0_.2.2.2.2.2.2.1 g0_.2.2.2.2.2.2.2.1 g0_.2.2.2.2.2.2.2.2.1 g0_.2.2.2.2.2.2.2.2.2.1 g0_.2.2.2.2.2.2.2.2.2.2 g1_.1 g1_.2.1 g1_.2.2.1 g1_.2.2.2.1 g1_.2.2.2.2.1 g1_.2.2.2.2.2.1 g1_.2.2.2.2.2.2.1.1 g1_.2.2.2.2.2.2.1.2.1 g1_.2.2.2.2.2.2.1.2.2.1 g1_.2.2.2.2.2.2.1.2.2.2.1 g1_.2.2.2.2.2.2.1.2.2.2.2.1 g1_.2.2.2.2.2.2.2.1 g1_.2.2.2.2.2.2.2.2 w2 w3
  refine (foliotlaw17_SystemDistance.calls k a0_0 a0_1 a0_2 a0_3 a0_4 a0_5 a0_6 a0_7 a0_8 a0_9 a0_10 a1_0 a1_1 a1_2 a1_3 a1_4 a1_5 a1_6 a1_7 a1_8 a1_9 a1_10 a1_11 a1_12 a1_13 a2 a3 true W rfl h).mono fun e W' ⟨he, hd⟩ => ?_
  have bel : Below W.heap.size W W' := hd
  subst he
  exact ⟨_, rfl, _, _, _, [], _, [], hW', trodAll_mk1 (shut_bool Try.underlying4 _), (trodAll_cons_mk (Below.trod laidOut_ (by kernel_rfl) (of_decide_eq_true (by kernel_rfl)) k0_ bel lt0_) (trodAll_cons_mk (Below.trod laidOut_ (by kernel_rfl) (of_decide_eq_true (by kernel_rfl)) k1_ bel lt1_) (trodAll_cons_mk (shut_int Try.underlying25 w2) (trodAll_cons_mk (shut_int Try.underlying23 w3) trodAll_mk0)))), rfl, bel.frame _, fun h => by cases h⟩
theorem over : Rows.systemDistanceRow.holds Try.pinned (OpenSpec.ofChange Rows.systemDistanceSpec) :=
  OpenClaim.holds_of_wide 5 Try.f5 rfl rfl rfl rfl rfl rfl rfl ⟨rfl, rfl, rfl, rfl, rfl⟩ rfl rfl rfl rfl rfl (by kernel_rfl) Try.func5 (by kernel_rfl)
    (of_decide_eq_true (by kernel_rfl)) (by unfold Func.isWrapper; first | (rw [if_pos (by decide +kernel)]; kernel_rfl) | (rw [if_neg (by decide +kernel)]; exact ⟨rfl, rfl⟩))
    (fun os started H enc _ => lifted os started H enc)
theorem proved : Rows.SystemDistanceSaid := over
#print axioms proved
end Go.Proofs.Ytbcdoncnhhjjeaa.systemDistance
namespace Go.Proofs.Ytbcdoncnhhjjeaa
/-- The row, under a short name, for the claim. -/
theorem systemDistance_holds : Rows.SystemDistanceSaid := systemDistance.proved
end Go.Proofs.Ytbcdoncnhhjjeaa
