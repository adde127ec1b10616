-- Written by a program of this session (the kit's print, extended: wip/extend_print.py). Not trusted: Lean checks it.
import Derived.Test.YtbcdoncnhhjjeaaRows
import Derived.Test.YtbcdoncnhhjjeaaPSystemLostx9
import Derived.Test.YtbcdoncnhhjjeaaPureSystemLost
import Derived.Test.YtbcdoncnhhjjeaaVSystemLostOpens
import Derived.WalkKit
import Derived.ProofKit
import Derived.OpenShut
import Derived.ShutString
import Derived.ChangeOld
import Derived.Below
import Derived.SizedLaws
namespace Go.Proofs.Ytbcdoncnhhjjeaa.systemLost
open Go.ChangeShapes Go.WideShapes Go.ChangeAt Go.RowKit Go.Proofs.Ytbcdoncnhhjjeaa.Opens Go.Proofs.Ytbcdoncnhhjjeaa.PSystemLost Go.Proofs.YtbcdoncnhhjjeaaW.PrintWords
open Go.ChangeMaps (open_string shut_string)
set_option linter.unusedVariables false
set_option maxHeartbeats 4000000
theorem own_ : ownKnob Try.prog.godebug = none := by kernel_rfl
theorem laidOut_ : laidOutB Try.prog = true := by kernel_rfl
theorem o130 : Opens k130 Try.prog 130 okS130 :=
  Opens.imp (Opens.iso (fun y => ⟨⟨y.1, y.2.1, y.2.2.1, y.2.2.2.1, y.2.2.2.2.1, y.2.2.2.2.2.1, y.2.2.2.2.2.2.1, y.2.2.2.2.2.2.2.1, y.2.2.2.2.2.2.2.2.1, y.2.2.2.2.2.2.2.2.2.1, y.2.2.2.2.2.2.2.2.2.2.1, y.2.2.2.2.2.2.2.2.2.2.2⟩, rfl⟩) (Opens.struct Try.underlying130 (by kernel_rfl) (OpensF.cons (Opens.int Try.underlying3) rfl (by kernel_rfl) rfl (OpensF.cons (Opens.int Try.underlying23) rfl (by kernel_rfl) rfl (OpensF.cons (Opens.int Try.underlying3) rfl (by kernel_rfl) rfl (OpensF.cons (Opens.int Try.underlying3) rfl (by kernel_rfl) rfl (OpensF.cons (Opens.int Try.underlying3) rfl (by kernel_rfl) rfl (OpensF.cons (Opens.bool Try.underlying4) rfl (by kernel_rfl) rfl (OpensF.cons (Opens.bool Try.underlying4) rfl (by kernel_rfl) rfl (OpensF.cons (Opens.bool Try.underlying4) rfl (by kernel_rfl) rfl (OpensF.cons (Opens.int Try.underlying3) rfl (by kernel_rfl) rfl (OpensF.cons (Opens.bool Try.underlying4) rfl (by kernel_rfl) rfl (OpensF.cons (Opens.int Try.underlying22) rfl (by kernel_rfl) rfl (OpensF.one (Opens.int Try.underlying3) rfl (by kernel_rfl))))))))))))))) (fun x h => ⟨h.1, h.2.1, h.2.2.1, h.2.2.2.1, h.2.2.2.2.1, h.2.2.2.2.2.2.2.2.1, h.2.2.2.2.2.2.2.2.2.2.1, h.2.2.2.2.2.2.2.2.2.2.2⟩)
theorem o132 : Opens k132 Try.prog 132 okS132 :=
  Opens.imp (Opens.iso (fun y => ⟨⟨y.1, y.2.1, y.2.2⟩, rfl⟩) (Opens.struct Try.underlying132 (by kernel_rfl) (OpensF.cons (Opens.int Try.underlying3) rfl (by kernel_rfl) rfl (OpensF.cons (Opens.int Try.underlying3) rfl (by kernel_rfl) rfl (OpensF.one (Opens.slice (B := 1) 5 Try.underlying54 (by kernel_rfl) (by kernel_rfl) (Opens.int Try.underlying5)) rfl (by kernel_rfl)))))) (fun x h => ⟨h.1, h.2.1, h.2.2⟩)
theorem o134 : Opens k134 Try.prog 134 okS134 :=
  Opens.imp (Opens.iso (fun y => ⟨⟨y.1, y.2.1, y.2.2⟩, rfl⟩) (Opens.struct Try.underlying134 (by kernel_rfl) (OpensF.cons (Opens.int Try.underlying23) rfl (by kernel_rfl) rfl (OpensF.cons (Opens.int Try.underlying3) rfl (by kernel_rfl) rfl (OpensF.one (Opens.int Try.underlying3) rfl (by kernel_rfl)))))) (fun x h => ⟨h.1, h.2.1, h.2.2⟩)
theorem o94 : Opens k94 Try.prog 94 okS94 :=
  Opens.imp (Opens.iso (fun y => ⟨⟨y.1, y.2⟩, rfl⟩) (Opens.struct Try.underlying94 (by kernel_rfl) (OpensF.cons (Opens.int Try.underlying3) rfl (by kernel_rfl) rfl (OpensF.one (Opens.slice (B := 1) 5 Try.underlying54 (by kernel_rfl) (by kernel_rfl) (Opens.int Try.underlying5)) rfl (by kernel_rfl))))) (fun x h => ⟨h.1, h.2⟩)
set_option maxRecDepth 100000 in
theorem lifted (os : Os) (started : os.Started) (H : Type) (enc : TypeId × Value → H) :
    ReturnsInHanded {} Try.checked os 6 .any (Rows.systemLostSpec.pre6 enc Try.prog Try.f6 Rows.systemLostRow.domain false) (Rows.systemLostSpec.post enc Try.prog Try.f6 false true false false) := by
  refine returnsInHanded_of_change_sized (C := Try.checked) own_ started (by kernel_rfl) Try.func6
    (ChangeSpec.witness6 (enc := enc) (C := Try.checked) false ⟨#[], #[(.agg #[(.int .i64 0), (.int .i64 0), (.int .i64 0), (.int .i64 0), (.int .i64 0), (.int .u32 0), (.int .u64 0), (.int .i64 0), (.int .i64 0), (.int .i64 0), (.int .i64 0)]), (.agg #[(.slice none 0 0), (.slice none 0 0), (.slice none 0 0), (.int .i64 0), (.slice none 0 0), (.string ⟨#[]⟩), (.slice none 0 0), (.int .i64 0), (.bool false), (.bool false), (.int .i64 0), (.int .i64 0), (.int .i64 0), (.int .i64 0), (.int .i64 0)]), (.agg #[(.int .i64 0), (.int .i64 0), (.int .i64 0), (.int .i64 0), (.int .i64 0), (.int .i64 0), (.int .i64 0), (.int .i64 0), (.int .u32 0), (.int .u64 0), (.int .u64 0), (.int .u64 0), (.int .u64 0), (.slice none 0 0), (.int .i64 0), (.bool false), (.slice none 0 0)]), .int .u64 0], []⟩ 8 (by kernel_rfl) (by kernel_rfl) (by kernel_rfl) (by kernel_rfl)) ?_
  intro W base args ds gs before hval0 hW hcnd hsz0 _
  have hsz : (DataW.weightsEach Try.prog (Try.f6.params.toList ++ Rows.systemLostSpec.plain.varTypes Try.prog) (ds ++ gs)).all (· ≤ reachBytes) = true := hsz0
  have hval : ∀ (j : Nat) t v, Try.f6.params[j]? = some t → args[j]? = some v → Value.okWide Try.prog W .any base t v := hval0
  have hW' := hW
  obtain ⟨p, q, hA0, hV, rfl, hfz, hnd⟩ := hW
  have hA : DataW.TrodAll enc Try.prog W 0 (fun _ => true) true Try.f6.params.toList args.toList ds p := hA0
  rw [Try.params6] at hA hval hsz
  obtain ⟨v0, vs0, d0, ds0, p0, q0, hargs, rfl, rfl, h0, r0⟩ := trodAll_cons hA
  obtain ⟨v1, vs1, d1, ds1, p1, q1, rfl, rfl, rfl, h1, r1⟩ := trodAll_cons r0
  obtain ⟨v2, vs2, d2, ds2, p2, q2, rfl, rfl, rfl, h2, r2⟩ := trodAll_cons r1
  obtain ⟨v3, vs3, d3, ds3, p3, q3, rfl, rfl, rfl, h3, r3⟩ := trodAll_cons r2
  obtain ⟨rfl, rfl, rfl⟩ := trodAll_nil r3
  obtain rfl : args = #[v0, v1, v2, v3] := by cases args; simp_all
  obtain ⟨rfl, rfl⟩ := trodVars_none hV
  obtain ⟨b0_, rfl, m0_⟩ := okWide_struct Try.underlying28 (hval 0 28 v0 rfl rfl)
  have k0_ := h0
  have lt0_ : ∀ x ∈ p0, x.block < W.heap.size := by obtain ⟨m, hm⟩ := k0_; exact DataW.trod_lt m _ _ _ hm
  obtain ⟨⟨a0_0, a0_1, a0_2, a0_3, a0_4, a0_5, a0_6, a0_7, a0_8, a0_9, a0_10⟩, ⟨_, _, e0_, rfl, ⟨_, _, rfl, rfl, ⟨_, _, rfl, rfl, ⟨_, _, rfl, rfl, ⟨_, _, rfl, rfl, ⟨_, _, rfl, rfl, ⟨_, _, rfl, rfl, ⟨_, _, rfl, rfl, ⟨_, _, rfl, rfl, ⟨_, _, rfl, rfl, rfl⟩⟩⟩⟩⟩⟩⟩⟩⟩⟩, g0_⟩ := open_top (Opens.struct Try.underlying28 (by kernel_rfl) (OpensF.cons (Opens.int Try.underlying3) rfl (by kernel_rfl) rfl (OpensF.cons (Opens.int Try.underlying3) rfl (by kernel_rfl) rfl (OpensF.cons (Opens.int Try.underlying3) rfl (by kernel_rfl) rfl (OpensF.cons (Opens.int Try.underlying22) rfl (by kernel_rfl) rfl (OpensF.cons (Opens.int Try.underlying22) rfl (by kernel_rfl) rfl (OpensF.cons (Opens.int Try.underlying23) rfl (by kernel_rfl) rfl (OpensF.cons (Opens.int Try.underlying25) rfl (by kernel_rfl) rfl (OpensF.cons (Opens.int Try.underlying22) rfl (by kernel_rfl) rfl (OpensF.cons (Opens.int Try.underlying22) rfl (by kernel_rfl) rfl (OpensF.cons (Opens.int Try.underlying3) rfl (by kernel_rfl) rfl (OpensF.one (Opens.int Try.underlying26) rfl (by kernel_rfl))))))))))))) hsz (j := 0) (t := 28) rfl rfl h0
  obtain rfl : b0_ = #[.int .i64 a0_0, .int .i64 a0_1, .int .i64 a0_2, .int .i64 a0_3, .int .i64 a0_4, .int .u32 a0_5, .int .u64 a0_6, .int .i64 a0_7, .int .i64 a0_8, .int .i64 a0_9, .int .i64 a0_10] := Array.ext' e0_
  obtain ⟨b1_, rfl, m1_⟩ := okWide_struct Try.underlying39 (hval 1 39 v1 rfl rfl)
  have k1_ := h1
  have lt1_ : ∀ x ∈ p1, x.block < W.heap.size := by obtain ⟨m, hm⟩ := k1_; exact DataW.trod_lt m _ _ _ hm
  obtain ⟨⟨l1_0, l1_1, l1_2, a1_3, l1_4, a1_5, l1_6, a1_7, a1_8, a1_9, a1_10, a1_11, a1_12, a1_13, a1_14⟩, ⟨_, _, e1_, ⟨A1_0, c1_0, rfl, hc1_0, hC1_0⟩, ⟨_, _, rfl, ⟨A1_1, c1_1, rfl, hc1_1, hC1_1⟩, ⟨_, _, rfl, ⟨A1_2, c1_2, rfl, hc1_2, hC1_2⟩, ⟨_, _, rfl, rfl, ⟨_, _, rfl, ⟨A1_4, c1_4, rfl, hc1_4, hC1_4⟩, ⟨_, _, rfl, rfl, ⟨_, _, rfl, ⟨A1_6, c1_6, rfl, hc1_6, hC1_6⟩, ⟨_, _, rfl, rfl, ⟨_, _, rfl, rfl, ⟨_, _, rfl, rfl, ⟨_, _, rfl, rfl, ⟨_, _, rfl, rfl, ⟨_, _, rfl, rfl, ⟨_, _, rfl, rfl, rfl⟩⟩⟩⟩⟩⟩⟩⟩⟩⟩⟩⟩⟩⟩, g1_⟩ := open_top (Opens.struct Try.underlying39 (by kernel_rfl) (OpensF.cons (Opens.slice (B := 80) 130 Try.underlying33 (by kernel_rfl) (by kernel_rfl) o130) rfl (by kernel_rfl) rfl (OpensF.cons (Opens.slice (B := 40) 132 Try.underlying34 (by kernel_rfl) (by kernel_rfl) o132) rfl (by kernel_rfl) rfl (OpensF.cons (Opens.slice (B := 8) 3 Try.underlying35 (by kernel_rfl) (by kernel_rfl) (Opens.int Try.underlying3)) rfl (by kernel_rfl) rfl (OpensF.cons (Opens.int Try.underlying3) rfl (by kernel_rfl) rfl (OpensF.cons (Opens.slice (B := 24) 134 Try.underlying36 (by kernel_rfl) (by kernel_rfl) o134) rfl (by kernel_rfl) rfl (OpensF.cons (Opens.string Try.underlying9) rfl (by kernel_rfl) rfl (OpensF.cons (Opens.slice (B := 16) 9 Try.underlying37 (by kernel_rfl) (by kernel_rfl) (Opens.string Try.underlying9)) rfl (by kernel_rfl) rfl (OpensF.cons (Opens.int Try.underlying3) rfl (by kernel_rfl) rfl (OpensF.cons (Opens.bool Try.underlying4) rfl (by kernel_rfl) rfl (OpensF.cons (Opens.bool Try.underlying4) rfl (by kernel_rfl) rfl (OpensF.cons (Opens.int Try.underlying22) rfl (by kernel_rfl) rfl (OpensF.cons (Opens.int Try.underlying22) rfl (by kernel_rfl) rfl (OpensF.cons (Opens.int Try.underlying3) rfl (by kernel_rfl) rfl (OpensF.cons (Opens.int Try.underlying3) rfl (by kernel_rfl) rfl (OpensF.one (Opens.int Try.underlying3) rfl (by kernel_rfl))))))))))))))))) hsz (j := 1) (t := 39) rfl rfl h1
  obtain rfl : b1_ = #[.slice A1_0 l1_0.length c1_0, .slice A1_1 l1_1.length c1_1, .slice A1_2 l1_2.length c1_2, .int .i64 a1_3, .slice A1_4 l1_4.length c1_4, .string a1_5, .slice A1_6 l1_6.length c1_6, .int .i64 a1_7, .bool a1_8, .bool a1_9, .int .i64 a1_10, .int .i64 a1_11, .int .i64 a1_12, .int .i64 a1_13, .int .i64 a1_14] := Array.ext' e1_
  obtain ⟨b2_, rfl, m2_⟩ := okWide_struct Try.underlying56 (hval 2 56 v2 rfl rfl)
  have k2_ := h2
  have lt2_ : ∀ x ∈ p2, x.block < W.heap.size := by obtain ⟨m, hm⟩ := k2_; exact DataW.trod_lt m _ _ _ hm
  obtain ⟨⟨a2_0, a2_1, a2_2, a2_3, a2_4, a2_5, a2_6, a2_7, a2_8, a2_9, a2_10, a2_11, a2_12, l2_13, a2_14, a2_15, l2_16⟩, ⟨_, _, e2_, rfl, ⟨_, _, rfl, rfl, ⟨_, _, rfl, rfl, ⟨_, _, rfl, rfl, ⟨_, _, rfl, rfl, ⟨_, _, rfl, rfl, ⟨_, _, rfl, rfl, ⟨_, _, rfl, rfl, ⟨_, _, rfl, rfl, ⟨_, _, rfl, rfl, ⟨_, _, rfl, rfl, ⟨_, _, rfl, rfl, ⟨_, _, rfl, rfl, ⟨_, _, rfl, ⟨A2_13, c2_13, rfl, hc2_13, hC2_13⟩, ⟨_, _, rfl, rfl, ⟨_, _, rfl, rfl, ⟨A2_16, c2_16, rfl, hc2_16, hC2_16⟩⟩⟩⟩⟩⟩⟩⟩⟩⟩⟩⟩⟩⟩⟩⟩⟩, g2_⟩ := open_top (Opens.struct Try.underlying56 (by kernel_rfl) (OpensF.cons (Opens.int Try.underlying3) rfl (by kernel_rfl) rfl (OpensF.cons (Opens.int Try.underlying3) rfl (by kernel_rfl) rfl (OpensF.cons (Opens.int Try.underlying3) rfl (by kernel_rfl) rfl (OpensF.cons (Opens.int Try.underlying3) rfl (by kernel_rfl) rfl (OpensF.cons (Opens.int Try.underlying3) rfl (by kernel_rfl) rfl (OpensF.cons (Opens.int Try.underlying3) rfl (by kernel_rfl) rfl (OpensF.cons (Opens.int Try.underlying22) rfl (by kernel_rfl) rfl (OpensF.cons (Opens.int Try.underlying22) rfl (by kernel_rfl) rfl (OpensF.cons (Opens.int Try.underlying23) rfl (by kernel_rfl) rfl (OpensF.cons (Opens.int Try.underlying25) rfl (by kernel_rfl) rfl (OpensF.cons (Opens.int Try.underlying25) rfl (by kernel_rfl) rfl (OpensF.cons (Opens.int Try.underlying25) rfl (by kernel_rfl) rfl (OpensF.cons (Opens.int Try.underlying25) rfl (by kernel_rfl) rfl (OpensF.cons (Opens.slice (B := 32) 94 Try.underlying53 (by kernel_rfl) (by kernel_rfl) o94) rfl (by kernel_rfl) rfl (OpensF.cons (Opens.int Try.underlying3) rfl (by kernel_rfl) rfl (OpensF.cons (Opens.bool Try.underlying4) rfl (by kernel_rfl) rfl (OpensF.one (Opens.slice (B := 1) 5 Try.underlying54 (by kernel_rfl) (by kernel_rfl) (Opens.int Try.underlying5)) rfl (by kernel_rfl))))))))))))))))))) hsz (j := 2) (t := 56) rfl rfl h2
  obtain rfl : b2_ = #[.int .i64 a2_0, .int .i64 a2_1, .int .i64 a2_2, .int .i64 a2_3, .int .i64 a2_4, .int .i64 a2_5, .int .i64 a2_6, .int .i64 a2_7, .int .u32 a2_8, .int .u64 a2_9, .int .u64 a2_10, .int .u64 a2_11, .int .u64 a2_12, .slice A2_13 l2_13.length c2_13, .int .i64 a2_14, .bool a2_15, .slice A2_16 l2_16.length c2_16] := Array.ext' e2_
  obtain ⟨a3, rfl, rfl, rfl, w3⟩ := open_int Try.underlying25 (hval 3 25 v3 rfl rfl) h3
  clear hA0 hval0 hsz0 hsz
  obtain ⟨k, h⟩ := Pure.SystemLost a0_0 a0_1 a0_2 a0_3 a0_4 a0_5 a0_6 a0_7 a0_8 a0_9 a0_10 l1_0 l1_1 l1_2 a1_3 l1_4 a1_5 l1_6 a1_7 a1_8 a1_9 a1_10 a1_11 a1_12 a1_13 a1_14 a2_0 a2_1 a2_2 a2_3 a2_4 a2_5 a2_6 a2_7 a2_8 a2_9 a2_10 a2_11 a2_12 l2_13 a2_14 a2_15 l2_16 a3 g0_.1 g0_.2.1 g0_.2.2.1 g0_.2.2.2.1 g0_.2.2.2.2.1 g0_.2.2.2.2.2.1 g0_.2.2.2.2.2.2.1 g0_.2.2.2.2.2.2.2.1 g0_.2.2.2.2.2.2.2.2.1 g0_.2.2.2.2.2.2.2.2.2.1 g0_.2.2.2.2.2.2.2.2.2.2 g1_.1.1 g1_.1.2.1 g1_.1.2.2 g1_.2.1.1 g1_.2.1.2.1 g1_.2.1.2.2 g1_.2.2.1.1 g1_.2.2.1.2.1 g1_.2.2.1.2.2 g1_.2.2.2.1 g1_.2.2.2.2.1.1 g1_.2.2.2.2.1.2.1 g1_.2.2.2.2.1.2.2 g1_.2.2.2.2.2.1 g1_.2.2.2.2.2.2.1.1 g1_.2.2.2.2.2.2.1.2.1 g1_.2.2.2.2.2.2.1.2.2 g1_.2.2.2.2.2.2.2.1 g1_.2.2.2.2.2.2.2.2.2.2.1 g1_.2.2.2.2.2.2.2.2.2.2.2.1 g1_.2.2.2.2.2.2.2.2.2.2.2.2.1 g1_.2.2.2.2.2.2.2.2.2.2.2.2.2.1 g1_.2.2.2.2.2.2.2.2.2.2.2.2.2.2 g2_.1 g2_.2.1 g2_.2.2.1 g2_.2.2.2.1 g2_.2.2.2.2.1 g2_.2.2.2.2.2.1 g2_.2.2.2.2.2.2.1 g2_.2.2.2.2.2.2.2.1 g2_.2.2.2.2.2.2.2.2.1 g2_.2.2.2.2.2.2.2.2.2.1 g2_.2.2.2.2.2.2.2.2.2.2.1 g2_.2.2.2.2.2.2.2.2.2.2.2.1 g2_.2.2.2.2.2.2.2.2.2.2.2.2.1 g2_.2.2.2.2.2.2.2.2.2.2.2.2.2.1.1 g2_.2.2.2.2.2.2.2.2.2.2.2.2.2.1.2.1 g2_.2.2.2.2.2.2.2.2.2.2.2.2.2.1.2.2 g2_.2.2.2.2.2.2.2.2.2.2.2.2.2.2.1 g2_.2.2.2.2.2.2.2.2.2.2.2.2.2.2.2.2.1 g2_.2.2.2.2.2.2.2.2.2.2.2.2.2.2.2.2.2.1 g2_.2.2.2.2.2.2.2.2.2.2.2.2.2.2.2.2.2.2 w3
  refine (foliotlaw17_SystemLost.calls k a0_0 a0_1 a0_2 a0_3 a0_4 a0_5 a0_6 a0_7 a0_8 a0_9 a0_10 _ _ l1_0 _ _ l1_1 _ _ l1_2 a1_3 _ _ l1_4 a1_5 _ _ l1_6 a1_7 a1_8 a1_9 a1_10 a1_11 a1_12 a1_13 a1_14 a2_0 a2_1 a2_2 a2_3 a2_4 a2_5 a2_6 a2_7 a2_8 a2_9 a2_10 a2_11 a2_12 _ _ l2_13 a2_14 a2_15 _ _ l2_16 a3 true W hC1_0 hc1_0 hC1_1 hc1_1 hC1_2 hc1_2 hC1_4 hc1_4 hC1_6 hc1_6 hC2_13 hc2_13 hC2_16 hc2_16 rfl h).mono fun e W' ⟨he, hd⟩ => ?_
  have bel : Below W.heap.size W W' := hd
  subst he
  exact ⟨_, rfl, _, _, _, [], _, [], hW', trodAll_mk1 (shut_bool Try.underlying4 _), (trodAll_cons_mk (Below.trod laidOut_ (by kernel_rfl) (of_decide_eq_true (by kernel_rfl)) k0_ bel lt0_) (trodAll_cons_mk (Below.trod laidOut_ (by kernel_rfl) (of_decide_eq_true (by kernel_rfl)) k1_ bel lt1_) (trodAll_cons_mk (Below.trod laidOut_ (by kernel_rfl) (of_decide_eq_true (by kernel_rfl)) k2_ bel lt2_) (trodAll_cons_mk (shut_int Try.underlying25 w3) trodAll_mk0)))), rfl, bel.frame _, fun h => by cases h⟩
theorem over : Rows.systemLostRow.holds Try.pinned (OpenSpec.ofChange Rows.systemLostSpec) :=
  OpenClaim.holds_of_wide 6 Try.f6 rfl rfl rfl rfl rfl rfl rfl ⟨rfl, rfl, rfl, rfl, rfl⟩ rfl rfl rfl rfl rfl (by kernel_rfl) Try.func6 (by kernel_rfl)
    (of_decide_eq_true (by kernel_rfl)) (by unfold Func.isWrapper; first | (rw [if_pos (by decide +kernel)]; kernel_rfl) | (rw [if_neg (by decide +kernel)]; exact ⟨rfl, rfl⟩))
    (fun os started H enc _ => lifted os started H enc)
theorem proved : Rows.SystemLostSaid := over
#print axioms proved
end Go.Proofs.Ytbcdoncnhhjjeaa.systemLost
namespace Go.Proofs.Ytbcdoncnhhjjeaa
/-- The row, under a short name, for the claim. -/
theorem systemLost_holds : Rows.SystemLostSaid := systemLost.proved
end Go.Proofs.Ytbcdoncnhhjjeaa
