/- The statement PeerTruth holds: for every input the law returns true. Its contract comes out of the evaluator, what it computes is shown true in YtgbffggaifnalaaPurePeerTruth. -/
import Derived.Test.YtgbffggaifnalaaRows
import Derived.Test.YtgbffggaifnalaaKT4
import Derived.Test.YtgbffggaifnalaaPurePeerTruth
import Derived.Test.YtgbffggaifnalaaEvS
import Derived.WalkKit
import Derived.ProofKit
import Derived.OpenShut
import Derived.ShutString
import Derived.ChangeOld
import Derived.Below
import Derived.SizedLaws
namespace Go.Proofs.Ytgbffggaifnalaa.T4.RowPeerTruth
open Go Go.ChangeShapes Go.WideShapes Go.ChangeAt Go.RowKit Go.Proofs.Ytgbffggaifnalaa Go.Proofs.Ytgbffggaifnalaa.Ev Go.Proofs.Ytgbffggaifnalaa.T4
open Go.ChangeMaps (open_string shut_string)
set_option linter.unusedVariables false
set_option maxRecDepth 100000
set_option maxHeartbeats 4000000
theorem own_ : ownKnob Try.prog.godebug = none := by kernel_rfl
theorem laidOut_ : laidOutB Try.prog = true := by kernel_rfl
set_option maxRecDepth 100000 in
theorem lifted (os : Os) (started : os.Started) (H : Type) (enc : TypeId × Value → H) :
  ReturnsInHanded {} Try.checked os 4 .any (Rows.peerTruthSpec.pre6 enc Try.prog Try.f4 Rows.peerTruthRow.domain false) (Rows.peerTruthSpec.post enc Try.prog Try.f4 false true false false) := by
 refine returnsInHanded_of_change_sized (C := Try.checked) own_ started (by kernel_rfl) Try.func4
  (ChangeSpec.witness6 (enc := enc) (C := Try.checked) false ⟨#[], #[(.int .u64 0), (.int .i64 0), (.int .i64 0), (.int .i64 0), (.int .i64 0)], []⟩ 8 (by kernel_rfl) (by kernel_rfl) (by kernel_rfl) (by kernel_rfl)) ?_
 intro W base args ds gs before hval0 hW hcnd hsz0 _
 have hsz : (DataW.weightsEach Try.prog (Try.f4.params.toList ++ Rows.peerTruthSpec.plain.varTypes Try.prog) (ds ++ gs)).all (· ≤ reachBytes) = true := hsz0
 have hval : ∀ (j : Nat) t v, Try.f4.params[j]? = some t → args[j]? = some v → Value.okWide Try.prog W .any base t v := hval0
 have hW' := hW
 obtain ⟨p, q, hA0, hV, rfl, hfz, hnd⟩ := hW
 have hA : DataW.TrodAll enc Try.prog W 0 (fun _ => true) true Try.f4.params.toList args.toList ds p := hA0
 rw [Try.params4] at hA hval hsz
 obtain ⟨v0, vs0, d0, ds0, p0, q0, hargs, rfl, rfl, h0, r0⟩ := trodAll_cons hA
 obtain ⟨v1, vs1, d1, ds1, p1, q1, rfl, rfl, rfl, h1, r1⟩ := trodAll_cons r0
 obtain ⟨v2, vs2, d2, ds2, p2, q2, rfl, rfl, rfl, h2, r2⟩ := trodAll_cons r1
 obtain ⟨v3, vs3, d3, ds3, p3, q3, rfl, rfl, rfl, h3, r3⟩ := trodAll_cons r2
 obtain ⟨v4, vs4, d4, ds4, p4, q4, rfl, rfl, rfl, h4, r4⟩ := trodAll_cons r3
 obtain ⟨rfl, rfl, rfl⟩ := trodAll_nil r4
 obtain rfl : args = #[v0, v1, v2, v3, v4] := by cases args; simp_all
 obtain ⟨rfl, rfl⟩ := trodVars_none hV
 have lt0 : ∀ x ∈ p0, x.block < W.heap.size := by obtain ⟨m, hm⟩ := h0; exact DataW.trod_lt m _ _ _ hm
 obtain ⟨y0, e0, g0⟩ := open_cells (R := R) (Opens.int Try.underlying23) hsz (j := 0) (t := 23) rfl rfl h0
 have lt1 : ∀ x ∈ p1, x.block < W.heap.size := by obtain ⟨m, hm⟩ := h1; exact DataW.trod_lt m _ _ _ hm
 obtain ⟨y1, e1, g1⟩ := open_cells (R := R) (Opens.int Try.underlying25) hsz (j := 1) (t := 25) rfl rfl h1
 have lt2 : ∀ x ∈ p2, x.block < W.heap.size := by obtain ⟨m, hm⟩ := h2; exact DataW.trod_lt m _ _ _ hm
 obtain ⟨y2, e2, g2⟩ := open_cells (R := R) (Opens.int Try.underlying25) hsz (j := 2) (t := 25) rfl rfl h2
 have lt3 : ∀ x ∈ p3, x.block < W.heap.size := by obtain ⟨m, hm⟩ := h3; exact DataW.trod_lt m _ _ _ hm
 obtain ⟨y3, e3, g3⟩ := open_cells (R := R) (Opens.int Try.underlying25) hsz (j := 3) (t := 25) rfl rfl h3
 have lt4 : ∀ x ∈ p4, x.block < W.heap.size := by obtain ⟨m, hm⟩ := h4; exact DataW.trod_lt m _ _ _ hm
 obtain ⟨y4, e4, g4⟩ := open_cells (R := R) (Opens.int Try.underlying25) hsz (j := 4) (t := 25) rfl rfl h4
 obtain ⟨k, h⟩ := Pure.PeerTruth y0 y1 y2 y3 y4 g0 g1 g2 g3 g4
 have hall : All2 (IsT R Ow.none W) (unflats foliotlaw10_PeerTruth.F.shIn (foliotlaw10_PeerTruth.F.DI.enc (y0, y1, y2, y3, y4))) [v0, v1, v2, v3, v4] := (.cons (top_lf (okW_int Try.underlying23 (hval 0 23 v0 rfl rfl)) e0) (.cons (top_lf (okW_int Try.underlying25 (hval 1 25 v1 rfl rfl)) e1) (.cons (top_lf (okW_int Try.underlying25 (hval 2 25 v2 rfl rfl)) e2) (.cons (top_lf (okW_int Try.underlying25 (hval 3 25 v3 rfl rfl)) e3) (.cons (top_lf (okW_int Try.underlying25 (hval 4 25 v4 rfl rfl)) e4) .nil)))))
 refine (law_calls (R := R) (P := Try.prog) Try.func4 (body := bodyOf Try.f4) rfl rfl (foliotlaw10_PeerTruth.ok k) rfl rfl rfl rfl (y := (y0, y1, y2, y3, y4)) rfl rfl h hall).mono fun e W' ⟨he, bel⟩ => ?_
 subst he
 exact ⟨_, rfl, _, _, _, [], _, [], hW', trodAll_mk1 (shut_bool Try.underlying4 _), (trodAll_cons_mk (Below.trod laidOut_ (by kernel_rfl) (of_decide_eq_true (by kernel_rfl)) h0 bel lt0) (trodAll_cons_mk (Below.trod laidOut_ (by kernel_rfl) (of_decide_eq_true (by kernel_rfl)) h1 bel lt1) (trodAll_cons_mk (Below.trod laidOut_ (by kernel_rfl) (of_decide_eq_true (by kernel_rfl)) h2 bel lt2) (trodAll_cons_mk (Below.trod laidOut_ (by kernel_rfl) (of_decide_eq_true (by kernel_rfl)) h3 bel lt3) (trodAll_cons_mk (Below.trod laidOut_ (by kernel_rfl) (of_decide_eq_true (by kernel_rfl)) h4 bel lt4) trodAll_mk0))))), rfl, bel.frame _, fun h => by cases h⟩
theorem over : Rows.peerTruthRow.holds Try.pinned (OpenSpec.ofChange Rows.peerTruthSpec) :=
 OpenClaim.holds_of_wide 4 Try.f4 rfl rfl rfl rfl rfl rfl rfl ⟨rfl, rfl, rfl, rfl, rfl⟩ rfl rfl rfl rfl rfl (by kernel_rfl) Try.func4 (by kernel_rfl)
  (of_decide_eq_true (by kernel_rfl)) (by unfold Func.isWrapper; first | (rw [if_pos (by decide +kernel)]; kernel_rfl) | (rw [if_neg (by decide +kernel)]; exact ⟨rfl, rfl⟩))
  (fun os started H enc _ => lifted os started H enc)
theorem proved : Rows.PeerTruthSaid := over
#print axioms proved
end Go.Proofs.Ytgbffggaifnalaa.T4.RowPeerTruth
namespace Go.Proofs.Ytgbffggaifnalaa
/-- The row, under a short name, for the claim. -/
theorem peerTruth_holds : Rows.PeerTruthSaid := T4.RowPeerTruth.proved
end Go.Proofs.Ytgbffggaifnalaa
