-- Written by a program of this session (the kit's print, extended: wip/extend_print.py). Not trusted: Lean checks it.
import Derived.Test.YtbcdoncnhhjjeaaRows
import Derived.Test.YtbcdoncnhhjjeaaPSystemAgesx14
import Derived.Test.YtbcdoncnhhjjeaaPureSystemAges
import Derived.Test.YtbcdoncnhhjjeaaOpens
import Derived.WalkKit
import Derived.ProofKit
import Derived.OpenShut
import Derived.ShutString
import Derived.ChangeOld
import Derived.Below
import Derived.SizedLaws
namespace Go.Proofs.Ytbcdoncnhhjjeaa.systemAges
open Go.ChangeShapes Go.WideShapes Go.ChangeAt Go.RowKit Go.Proofs.Ytbcdoncnhhjjeaa.Opens Go.Proofs.Ytbcdoncnhhjjeaa.PSystemAges Go.Proofs.YtbcdoncnhhjjeaaW.PrintWords
open Go.ChangeMaps (open_string shut_string)
set_option linter.unusedVariables false
set_option maxHeartbeats 4000000
theorem own_ : ownKnob Try.prog.godebug = none := by kernel_rfl
theorem laidOut_ : laidOutB Try.prog = true := by kernel_rfl
theorem o130 : Opens k130 Try.prog 130 okS130 :=
  Opens.imp (Opens.iso (fun y => ⟨⟨y.1, y.2.1, y.2.2.1, y.2.2.2.1, y.2.2.2.2.1, y.2.2.2.2.2.1, y.2.2.2.2.2.2.1, y.2.2.2.2.2.2.2.1, y.2.2.2.2.2.2.2.2.1, y.2.2.2.2.2.2.2.2.2.1, y.2.2.2.2.2.2.2.2.2.2.1, y.2.2.2.2.2.2.2.2.2.2.2⟩, rfl⟩) (Opens.struct Try.underlying130 (by kernel_rfl) (OpensF.cons (Opens.int Try.underlying3) rfl (by kernel_rfl) rfl (OpensF.cons (Opens.int Try.underlying23) rfl (by kernel_rfl) rfl (OpensF.cons (Opens.int Try.underlying3) rfl (by kernel_rfl) rfl (OpensF.cons (Opens.int Try.underlying3) rfl (by kernel_rfl) rfl (OpensF.cons (Opens.int Try.underlying3) rfl (by kernel_rfl) rfl (OpensF.cons (Opens.bool Try.underlying4) rfl (by kernel_rfl) rfl (OpensF.cons (Opens.bool Try.underlying4) rfl (by kernel_rfl) rfl (OpensF.cons (Opens.bool Try.underlying4) rfl (by kernel_rfl) rfl (OpensF.cons (Opens.int Try.underlying3) rfl (by kernel_rfl) rfl (OpensF.cons (Opens.bool Try.underlying4) rfl (by kernel_rfl) rfl (OpensF.cons (Opens.int Try.underlying22) rfl (by kernel_rfl) rfl (OpensF.one (Opens.int Try.underlying3) rfl (by kernel_rfl))))))))))))))) (fun x h => ⟨h.1, h.2.1, h.2.2.1, h.2.2.2.1, h.2.2.2.2.1, h.2.2.2.2.2.2.2.2.1, h.2.2.2.2.2.2.2.2.2.2.1, h.2.2.2.2.2.2.2.2.2.2.2⟩)
theorem o132 : Opens k132 Try.prog 132 okS132 :=
  Opens.imp (Opens.iso (fun y => ⟨⟨y.1, y.2.1, y.2.2⟩, rfl⟩) (Opens.struct Try.underlying132 (by kernel_rfl) (OpensF.cons (Opens.int Try.underlying3) rfl (by kernel_rfl) rfl (OpensF.cons (Opens.int Try.underlying3) rfl (by kernel_rfl) rfl (OpensF.one (Opens.slice (B := 1) 5 Try.underlying54 (by kernel_rfl) (by kernel_rfl) (Opens.int Try.underlying5)) rfl (by kernel_rfl)))))) (fun x h => ⟨h.1, h.2.1, h.2.2⟩)
theorem o134 : Opens k134 Try.prog 134 okS134 :=
  Opens.imp (Opens.iso (fun y => ⟨⟨y.1, y.2.1, y.2.2⟩, rfl⟩) (Opens.struct Try.underlying134 (by kernel_rfl) (OpensF.cons (Opens.int Try.underlying23) rfl (by kernel_rfl) rfl (OpensF.cons (Opens.int Try.underlying3) rfl (by kernel_rfl) rfl (OpensF.one (Opens.int Try.underlying3) rfl (by kernel_rfl)))))) (fun x h => ⟨h.1, h.2.1, h.2.2⟩)
set_option maxRecDepth 100000 in
theorem lifted (os : Os) (started : os.Started) (H : Type) (enc : TypeId × Value → H) :
    ReturnsInHanded {} Try.checked os 4 .any (Rows.systemAgesSpec.pre6 enc Try.prog Try.f4 Rows.systemAgesRow.domain false) (Rows.systemAgesSpec.post enc Try.prog Try.f4 false true false false) := by
  refine returnsInHanded_of_change_sized (C := Try.checked) own_ started (by kernel_rfl) Try.func4
    (ChangeSpec.witness6 (enc := enc) (C := Try.checked) false ⟨#[], #[(.agg #[(.int .i64 0), (.int .i64 0), (.int .i64 0), (.int .i64 0), (.int .i64 0), (.int .u32 0), (.int .u64 0), (.int .i64 0), (.int .i64 0), (.int .i64 0), (.int .i64 0)]), (.agg #[(.slice none 0 0), (.slice none 0 0), (.slice none 0 0), (.int .i64 0), (.slice none 0 0), (.string ⟨#[]⟩), (.slice none 0 0), (.int .i64 0), (.bool false), (.bool false), (.int .i64 0), (.int .i64 0), (.int .i64 0), (.int .i64 0), (.int .i64 0)]), .int .u64 0], []⟩ 8 (by kernel_rfl) (by kernel_rfl) (by kernel_rfl) (by kernel_rfl)) ?_
  intro W base args ds gs before hval0 hW hcnd hsz0 _
  have hsz : (DataW.weightsEach Try.prog (Try.f4.params.toList ++ Rows.systemAgesSpec.plain.varTypes Try.prog) (ds ++ gs)).all (· ≤ reachBytes) = true := hsz0
  have hval : ∀ (j : Nat) t v, Try.f4.params[j]? = some t → args[j]? = some v → Value.okWide Try.prog W .any base t v := hval0
  have hW' := hW
  obtain ⟨p, q, hA0, hV, rfl, hfz, hnd⟩ := hW
  have hA : DataW.TrodAll enc Try.prog W 0 (fun _ => true) true Try.f4.params.toList args.toList ds p := hA0
  rw [Try.params4] at hA hval hsz
  obtain ⟨v0, vs0, d0, ds0, p0, q0, hargs, rfl, rfl, h0, r0⟩ := trodAll_cons hA
  obtain ⟨v1, vs1, d1, ds1, p1, q1, rfl, rfl, rfl, h1, r1⟩ := trodAll_cons r0
  obtain ⟨v2, vs2, d2, ds2, p2, q2, rfl, rfl, rfl, h2, r2⟩ := trodAll_cons r1
  obtain ⟨rfl, rfl, rfl⟩ := trodAll_nil r2
  obtain rfl : args = #[v0, v1, v2] := by cases args; simp_all
  obtain ⟨rfl, rfl⟩ := trodVars_none hV
  obtain ⟨b0_, rfl, m0_⟩ := okWide_struct Try.underlying28 (hval 0 28 v0 rfl rfl)
  have k0_ := h0
  have lt0_ : ∀ x ∈ p0, x.block < W.heap.size := by obtain ⟨m, hm⟩ := k0_; exact DataW.trod_lt m _ _ _ hm
  obtain ⟨⟨a0_0, a0_1, a0_2, a0_3, a0_4, a0_5, a0_6, a0_7, a0_8, a0_9, a0_10⟩, ⟨_, _, e0_, rfl, ⟨_, _, rfl, rfl, ⟨_, _, rfl, rfl, ⟨_, _, rfl, rfl, ⟨_, _, rfl, rfl, ⟨_, _, rfl, rfl, ⟨_, _, rfl, rfl, ⟨_, _, rfl, rfl, ⟨_, _, rfl, rfl, ⟨_, _, rfl, rfl, rfl⟩⟩⟩⟩⟩⟩⟩⟩⟩⟩, g0_⟩ := open_top (Opens.struct Try.underlying28 (by kernel_rfl) (OpensF.cons (Opens.int Try.underlying3) rfl (by kernel_rfl) rfl (OpensF.cons (Opens.int Try.underlying3) rfl (by kernel_rfl) rfl (OpensF.cons (Opens.int Try.underlying3) rfl (by kernel_rfl) rfl (OpensF.cons (Opens.int Try.underlying22) rfl (by kernel_rfl) rfl (OpensF.cons (Opens.int Try.underlying22) rfl (by kernel_rfl) rfl (OpensF.cons (Opens.int Try.underlying23) rfl (by kernel_rfl) rfl (OpensF.cons (Opens.int Try.underlying25) rfl (by kernel_rfl) rfl (OpensF.cons (Opens.int Try.underlying22) rfl (by kernel_rfl) rfl (OpensF.cons (Opens.int Try.underlying22) rfl (by kernel_rfl) rfl (OpensF.cons (Opens.int Try.underlying3) rfl (by kernel_rfl) rfl (OpensF.one (Opens.int Try.underlying26) rfl (by kernel_rfl))))))))))))) hsz (j := 0) (t := 28) rfl rfl h0
  obtain rfl : b0_ = #[.int .i64 a0_0, .int .i64 a0_1, .int .i64 a0_2, .int .i64 a0_3, .int .i64 a0_4, .int .u32 a0_5, .int .u64 a0_6, .int .i64 a0_7, .int .i64 a0_8, .int .i64 a0_9, .int .i64 a0_10] := Array.ext' e0_
  obtain ⟨b1_, rfl, m1_⟩ := okWide_struct Try.underlying39 (hval 1 39 v1 rfl rfl)
  have k1_ := h1
  have lt1_ : ∀ x ∈ p1, x.block < W.heap.size := by obtain ⟨m, hm⟩ := k1_; exact DataW.trod_lt m _ _ _ hm
  obtain ⟨⟨l1_0, l1_1, l1_2, a1_3, l1_4, a1_5, l1_6, a1_7, a1_8, a1_9, a1_10, a1_11, a1_12, a1_13, a1_14⟩, ⟨_, _, e1_, ⟨A1_0, c1_0, rfl, hc1_0, hC1_0⟩, ⟨_, _, rfl, ⟨A1_1, c1_1, rfl, hc1_1, hC1_1⟩, ⟨_, _, rfl, ⟨A1_2, c1_2, rfl, hc1_2, hC1_2⟩, ⟨_, _, rfl, rfl, ⟨_, _, rfl, ⟨A1_4, c1_4, rfl, hc1_4, hC1_4⟩, ⟨_, _, rfl, rfl, ⟨_, _, rfl, ⟨A1_6, c1_6, rfl, hc1_6, hC1_6⟩, ⟨_, _, rfl, rfl, ⟨_, _, rfl, rfl, ⟨_, _, rfl, rfl, ⟨_, _, rfl, rfl, ⟨_, _, rfl, rfl, ⟨_, _, rfl, rfl, ⟨_, _, rfl, rfl, rfl⟩⟩⟩⟩⟩⟩⟩⟩⟩⟩⟩⟩⟩⟩, g1_⟩ := open_top (Opens.struct Try.underlying39 (by kernel_rfl) (OpensF.cons (Opens.slice (B := 80) 130 Try.underlying33 (by kernel_rfl) (by kernel_rfl) o130) rfl (by kernel_rfl) rfl (OpensF.cons (Opens.slice (B := 40) 132 Try.underlying34 (by kernel_rfl) (by kernel_rfl) o132) rfl (by kernel_rfl) rfl (OpensF.cons (Opens.slice (B := 8) 3 Try.underlying35 (by kernel_rfl) (by kernel_rfl) (Opens.int Try.underlying3)) rfl (by kernel_rfl) rfl (OpensF.cons (Opens.int Try.underlying3) rfl (by kernel_rfl) rfl (OpensF.cons (Opens.slice (B := 24) 134 Try.underlying36 (by kernel_rfl) (by kernel_rfl) o134) rfl (by kernel_rfl) rfl (OpensF.cons (Opens.string Try.underlying9) rfl (by kernel_rfl) rfl (OpensF.cons (Opens.slice (B := 16) 9 Try.underlying37 (by kernel_rfl) (by kernel_rfl) (Opens.string Try.underlying9)) rfl (by kernel_rfl) rfl (OpensF.cons (Opens.int Try.underlying3) rfl (by kernel_rfl) rfl (OpensF.cons (Opens.bool Try.underlying4) rfl (by kernel_rfl) rfl (OpensF.cons (Opens.bool Try.underlying4) rfl (by kernel_rfl) rfl (OpensF.cons (Opens.int Try.underlying22) rfl (by kernel_rfl) rfl (OpensF.cons (Opens.int Try.underlying22) rfl (by kernel_rfl) rfl (OpensF.cons (Opens.int Try.underlying3) rfl (by kernel_rfl) rfl (OpensF.cons (Opens.int Try.underlying3) rfl (by kernel_rfl) rfl (OpensF.one (Opens.int Try.underlying3) rfl (by kernel_rfl))))))))))))))))) hsz (j := 1) (t := 39) rfl rfl h1
  obtain rfl : b1_ = #[.slice A1_0 l1_0.length c1_0, .slice A1_1 l1_1.length c1_1, .slice A1_2 l1_2.length c1_2, .int .i64 a1_3, .slice A1_4 l1_4.length c1_4, .string a1_5, .slice A1_6 l1_6.length c1_6, .int .i64 a1_7, .bool a1_8, .bool a1_9, .int .i64 a1_10, .int .i64 a1_11, .int .i64 a1_12, .int .i64 a1_13, .int .i64 a1_14] := Array.ext' e1_
  obtain ⟨a2, rfl, rfl, rfl, w2⟩ := open_int Try.underlying25 (hval 2 25 v2 rfl rfl) h2
  clear hA0 hval0 hsz0 hsz
  obtain ⟨k, h⟩ := Pure.SystemAges a0_0 a0_1 a0_2 a0_3 a0_4 a0_5 a0_6 a0_7 a0_8 a0_9 a0_10 l1_0 l1_1 l1_2 a1_3 l1_4 a1_5 l1_6 a1_7 a1_8 a1_9 a1_10 a1_11 a1_12 a1_13 a1_14 a2 g0_.1 g0_.2.1 g0_.2.2.1 g0_.2.2.2.1 g0_.2.2.2.2.1 g0_.2.2.2.2.2.1 g0_.2.2.2.2.2.2.1 g0_.2.2.2.2.2.2.2.1 g0_.2.2.2.2.2.2.2.2.1 g0_.2.2.2.2.2.2.2.2.2.1 g0_.2.2.2.2.2.2.2.2.2.2 g1_.1.1 g1_.1.2.1 g1_.1.2.2 g1_.2.1.1 g1_.2.1.2.1 g1_.2.1.2.2 g1_.2.2.1.1 g1_.2.2.1.2.1 g1_.2.2.1.2.2 g1_.2.2.2.1 g1_.2.2.2.2.1.1 g1_.2.2.2.2.1.2.1 g1_.2.2.2.2.1.2.2 g1_.2.2.2.2.2.1 g1_.2.2.2.2.2.2.1.1 g1_.2.2.2.2.2.2.1.2.1 g1_.2.2.2.2.2.2.1.2.2 g1_.2.2.2.2.2.2.2.1 g1_.2.2.2.2.2.2.2.2.2.2.1 g1_.2.2.2.2.2.2.2.2.2.2.2.1 g1_.2.2.2.2.2.2.2.2.2.2.2.2.1 g1_.2.2.2.2.2.2.2.2.2.2.2.2.2.1 g1_.2.2.2.2.2.2.2.2.2.2.2.2.2.2 w2
  refine (foliotlaw17_SystemAges.calls k a0_0 a0_1 a0_2 a0_3 a0_4 a0_5 a0_6 a0_7 a0_8 a0_9 a0_10 _ _ l1_0 _ _ l1_1 _ _ l1_2 a1_3 _ _ l1_4 a1_5 _ _ l1_6 a1_7 a1_8 a1_9 a1_10 a1_11 a1_12 a1_13 a1_14 a2 true W hC1_0 hc1_0 hC1_1 hc1_1 hC1_2 hc1_2 hC1_4 hc1_4 hC1_6 hc1_6 rfl h).mono fun e W' ⟨he, hd⟩ => ?_
  have bel : Below W.heap.size W W' := hd
  subst he
  exact ⟨_, rfl, _, _, _, [], _, [], hW', trodAll_mk1 (shut_bool Try.underlying4 _), (trodAll_cons_mk (Below.trod laidOut_ (by kernel_rfl) (of_decide_eq_true (by kernel_rfl)) k0_ bel lt0_) (trodAll_cons_mk (Below.trod laidOut_ (by kernel_rfl) (of_decide_eq_true (by kernel_rfl)) k1_ bel lt1_) (trodAll_cons_mk (shut_int Try.underlying25 w2) trodAll_mk0))), rfl, bel.frame _, fun h => by cases h⟩
theorem over : Rows.systemAgesRow.holds Try.pinned (OpenSpec.ofChange Rows.systemAgesSpec) :=
  OpenClaim.holds_of_wide 4 Try.f4 rfl rfl rfl rfl rfl rfl rfl ⟨rfl, rfl, rfl, rfl, rfl⟩ rfl rfl rfl rfl rfl (by kernel_rfl) Try.func4 (by kernel_rfl)
    (of_decide_eq_true (by kernel_rfl)) (by unfold Func.isWrapper; first | (rw [if_pos (by decide +kernel)]; kernel_rfl) | (rw [if_neg (by decide +kernel)]; exact ⟨rfl, rfl⟩))
    (fun os started H enc _ => lifted os started H enc)
theorem proved : Rows.SystemAgesSaid := over
#print axioms proved
end Go.Proofs.Ytbcdoncnhhjjeaa.systemAges
namespace Go.Proofs.Ytbcdoncnhhjjeaa
/-- The row, under a short name, for the claim. -/
theorem systemAges_holds : Rows.SystemAgesSaid := systemAges.proved
end Go.Proofs.Ytbcdoncnhhjjeaa
