/- The statement PeerReckons holds: for every input the law returns true. Its contract comes out of the evaluator, what it computes is shown true in YtgbffggaifnalaaPurePeerReckons. -/
import Derived.Test.YtgbffggaifnalaaRows
import Derived.Test.YtgbffggaifnalaaKK8
import Derived.Test.YtgbffggaifnalaaPurePeerReckons
import Derived.Test.YtgbffggaifnalaaEvS
import Derived.WalkKit
import Derived.ProofKit
import Derived.OpenShut
import Derived.ShutString
import Derived.ChangeOld
import Derived.Below
import Derived.SizedLaws
namespace Go.Proofs.Ytgbffggaifnalaa.K8.RowPeerReckons
open Go Go.ChangeShapes Go.WideShapes Go.ChangeAt Go.RowKit Go.Proofs.Ytgbffggaifnalaa Go.Proofs.Ytgbffggaifnalaa.Ev Go.Proofs.Ytgbffggaifnalaa.K8
open Go.ChangeMaps (open_string shut_string)
set_option linter.unusedVariables false
set_option maxRecDepth 100000
set_option maxHeartbeats 4000000
theorem own_ : ownKnob Try.prog.godebug = none := by kernel_rfl
theorem laidOut_ : laidOutB Try.prog = true := by kernel_rfl
theorem o5 : Opens (R := R) (Cs.row 1) Try.prog 5 (fun x => (Lit.int .u8 x).wf = true) := Opens.to (fun y => y) (fun _ => rfl) (fun _ h => h) (Opens.int Try.underlying5)
theorem o148 : Opens (R := R) (Cs.row 0) Try.prog 148 okS148 :=
 Opens.to (fun y => (⟨y.1, y.2⟩ : S148)) (fun _ => rfl) (fun y h => ⟨h.1, h.2⟩) (Opens.struct Try.underlying148 (by kernel_rfl) (OpensF.cons (Opens.int Try.underlying3) rfl (by kernel_rfl) rfl (OpensF.one (Opens.ro (B := 1) (by decide) Try.underlying43 (by kernel_rfl) (by kernel_rfl) o5) rfl (by kernel_rfl))))
set_option maxRecDepth 100000 in
theorem lifted (os : Os) (started : os.Started) (H : Type) (enc : TypeId × Value → H) :
  ReturnsInHanded {} Try.checked os 8 .any (Rows.peerReckonsSpec.pre6 enc Try.prog Try.f8 Rows.peerReckonsRow.domain false) (Rows.peerReckonsSpec.post enc Try.prog Try.f8 false true false false) := by
 refine returnsInHanded_of_change_sized (C := Try.checked) own_ started (by kernel_rfl) Try.func8
  (ChangeSpec.witness6 (enc := enc) (C := Try.checked) false ⟨#[], #[(.agg #[(.int .u64 0), (.int .u64 0), (.int .u64 0), (.int .u64 0)]), (.agg #[(.int .i64 0), (.int .i64 0), (.int .i64 0), (.int .i64 0), (.int .i64 0), (.int .i64 0), (.int .i64 0), (.int .i64 0), (.int .u32 0), (.int .u64 0), (.int .u64 0), (.int .u64 0), (.int .u64 0), (.slice none 0 0), (.int .i64 0), (.bool false), (.slice none 0 0)]), (.int .u32 0), (.agg #[(.int .i64 0), (.int .i64 0), (.int .i64 0), (.int .i64 0), (.int .i64 0), (.int .i64 0), (.int .u32 0), (.int .u64 0)]), (.agg #[(.int .i64 0), (.int .i64 0), (.int .i64 0), (.int .i64 0), (.int .u64 0), (.bool false)]), (.agg #[(.int .i64 0), (.int .u32 0), (.int .i64 0), (.int .i64 0), (.int .i64 0), (.bool false), (.bool false), (.bool false), (.int .i64 0), (.bool false), (.int .i64 0), (.int .i64 0)]), (.int .i64 0)], []⟩ 8 (by kernel_rfl) (by kernel_rfl) (by kernel_rfl) (by kernel_rfl)) ?_
 intro W base args ds gs before hval0 hW hcnd hsz0 _
 have hsz : (DataW.weightsEach Try.prog (Try.f8.params.toList ++ Rows.peerReckonsSpec.plain.varTypes Try.prog) (ds ++ gs)).all (· ≤ reachBytes) = true := hsz0
 have hval : ∀ (j : Nat) t v, Try.f8.params[j]? = some t → args[j]? = some v → Value.okWide Try.prog W .any base t v := hval0
 have hW' := hW
 obtain ⟨p, q, hA0, hV, rfl, hfz, hnd⟩ := hW
 have hA : DataW.TrodAll enc Try.prog W 0 (fun _ => true) true Try.f8.params.toList args.toList ds p := hA0
 rw [Try.params8] at hA hval hsz
 obtain ⟨v0, vs0, d0, ds0, p0, q0, hargs, rfl, rfl, h0, r0⟩ := trodAll_cons hA
 obtain ⟨v1, vs1, d1, ds1, p1, q1, rfl, rfl, rfl, h1, r1⟩ := trodAll_cons r0
 obtain ⟨v2, vs2, d2, ds2, p2, q2, rfl, rfl, rfl, h2, r2⟩ := trodAll_cons r1
 obtain ⟨v3, vs3, d3, ds3, p3, q3, rfl, rfl, rfl, h3, r3⟩ := trodAll_cons r2
 obtain ⟨v4, vs4, d4, ds4, p4, q4, rfl, rfl, rfl, h4, r4⟩ := trodAll_cons r3
 obtain ⟨v5, vs5, d5, ds5, p5, q5, rfl, rfl, rfl, h5, r5⟩ := trodAll_cons r4
 obtain ⟨v6, vs6, d6, ds6, p6, q6, rfl, rfl, rfl, h6, r6⟩ := trodAll_cons r5
 obtain ⟨rfl, rfl, rfl⟩ := trodAll_nil r6
 obtain rfl : args = #[v0, v1, v2, v3, v4, v5, v6] := by cases args; simp_all
 obtain ⟨rfl, rfl⟩ := trodVars_none hV
 have lt0 : ∀ x ∈ p0, x.block < W.heap.size := by obtain ⟨m, hm⟩ := h0; exact DataW.trod_lt m _ _ _ hm
 obtain ⟨y0, e0, g0⟩ := open_cells (R := R) (Opens.array [⟨"", 23, 0, false, "", "", 0⟩, ⟨"", 23, 1, false, "", "", 0⟩, ⟨"", 23, 2, false, "", "", 0⟩, ⟨"", 23, 3, false, "", "", 0⟩] Try.underlying24 rfl rfl (fun i f h => match i, h with | 0, h => Option.some.inj h ▸ ⟨rfl, by kernel_rfl⟩ | 1, h => Option.some.inj h ▸ ⟨rfl, by kernel_rfl⟩ | 2, h => Option.some.inj h ▸ ⟨rfl, by kernel_rfl⟩ | 3, h => Option.some.inj h ▸ ⟨rfl, by kernel_rfl⟩ | _ + 4, h => absurd h (by simp)) (by kernel_rfl) (OpensF.cons (Opens.int Try.underlying23) rfl (by kernel_rfl) rfl (OpensF.cons (Opens.int Try.underlying23) rfl (by kernel_rfl) rfl (OpensF.cons (Opens.int Try.underlying23) rfl (by kernel_rfl) rfl (OpensF.one (Opens.int Try.underlying23) rfl (by kernel_rfl)))))) hsz (j := 0) (t := 24) rfl rfl h0
 obtain ⟨b0, hb0⟩ := okW_array Try.underlying24 (hval 0 24 v0 rfl rfl)
 have lt1 : ∀ x ∈ p1, x.block < W.heap.size := by obtain ⟨m, hm⟩ := h1; exact DataW.trod_lt m _ _ _ hm
 obtain ⟨y1, e1, g1⟩ := open_cells (R := R) (Opens.struct Try.underlying45 (by kernel_rfl) (OpensF.cons (Opens.int Try.underlying3) rfl (by kernel_rfl) rfl (OpensF.cons (Opens.int Try.underlying3) rfl (by kernel_rfl) rfl (OpensF.cons (Opens.int Try.underlying3) rfl (by kernel_rfl) rfl (OpensF.cons (Opens.int Try.underlying3) rfl (by kernel_rfl) rfl (OpensF.cons (Opens.int Try.underlying3) rfl (by kernel_rfl) rfl (OpensF.cons (Opens.int Try.underlying3) rfl (by kernel_rfl) rfl (OpensF.cons (Opens.int Try.underlying25) rfl (by kernel_rfl) rfl (OpensF.cons (Opens.int Try.underlying25) rfl (by kernel_rfl) rfl (OpensF.cons (Opens.int Try.underlying31) rfl (by kernel_rfl) rfl (OpensF.cons (Opens.int Try.underlying23) rfl (by kernel_rfl) rfl (OpensF.cons (Opens.int Try.underlying23) rfl (by kernel_rfl) rfl (OpensF.cons (Opens.int Try.underlying23) rfl (by kernel_rfl) rfl (OpensF.cons (Opens.int Try.underlying23) rfl (by kernel_rfl) rfl (OpensF.cons (Opens.ro (B := 32) (by decide) Try.underlying42 (by kernel_rfl) (by kernel_rfl) o148) rfl (by kernel_rfl) rfl (OpensF.cons (Opens.int Try.underlying3) rfl (by kernel_rfl) rfl (OpensF.cons (Opens.bool Try.underlying4) rfl (by kernel_rfl) rfl (OpensF.one (Opens.ro (B := 1) (by decide) Try.underlying43 (by kernel_rfl) (by kernel_rfl) o5) rfl (by kernel_rfl))))))))))))))))))) hsz (j := 1) (t := 45) rfl rfl h1
 obtain ⟨b1, hb1⟩ := okW_struct Try.underlying45 (hval 1 45 v1 rfl rfl)
 have lt2 : ∀ x ∈ p2, x.block < W.heap.size := by obtain ⟨m, hm⟩ := h2; exact DataW.trod_lt m _ _ _ hm
 obtain ⟨y2, e2, g2⟩ := open_cells (R := R) (Opens.int Try.underlying31) hsz (j := 2) (t := 31) rfl rfl h2
 have lt3 : ∀ x ∈ p3, x.block < W.heap.size := by obtain ⟨m, hm⟩ := h3; exact DataW.trod_lt m _ _ _ hm
 obtain ⟨y3, e3, g3⟩ := open_cells (R := R) (Opens.struct Try.underlying61 (by kernel_rfl) (OpensF.cons (Opens.int Try.underlying3) rfl (by kernel_rfl) rfl (OpensF.cons (Opens.int Try.underlying3) rfl (by kernel_rfl) rfl (OpensF.cons (Opens.int Try.underlying3) rfl (by kernel_rfl) rfl (OpensF.cons (Opens.int Try.underlying3) rfl (by kernel_rfl) rfl (OpensF.cons (Opens.int Try.underlying25) rfl (by kernel_rfl) rfl (OpensF.cons (Opens.int Try.underlying25) rfl (by kernel_rfl) rfl (OpensF.cons (Opens.int Try.underlying31) rfl (by kernel_rfl) rfl (OpensF.one (Opens.int Try.underlying23) rfl (by kernel_rfl)))))))))) hsz (j := 3) (t := 61) rfl rfl h3
 obtain ⟨b3, hb3⟩ := okW_struct Try.underlying61 (hval 3 61 v3 rfl rfl)
 have lt4 : ∀ x ∈ p4, x.block < W.heap.size := by obtain ⟨m, hm⟩ := h4; exact DataW.trod_lt m _ _ _ hm
 obtain ⟨y4, e4, g4⟩ := open_cells (R := R) (Opens.struct Try.underlying74 (by kernel_rfl) (OpensF.cons (Opens.int Try.underlying25) rfl (by kernel_rfl) rfl (OpensF.cons (Opens.int Try.underlying25) rfl (by kernel_rfl) rfl (OpensF.cons (Opens.int Try.underlying25) rfl (by kernel_rfl) rfl (OpensF.cons (Opens.int Try.underlying25) rfl (by kernel_rfl) rfl (OpensF.cons (Opens.int Try.underlying23) rfl (by kernel_rfl) rfl (OpensF.one (Opens.bool Try.underlying4) rfl (by kernel_rfl)))))))) hsz (j := 4) (t := 74) rfl rfl h4
 obtain ⟨b4, hb4⟩ := okW_struct Try.underlying74 (hval 4 74 v4 rfl rfl)
 have lt5 : ∀ x ∈ p5, x.block < W.heap.size := by obtain ⟨m, hm⟩ := h5; exact DataW.trod_lt m _ _ _ hm
 obtain ⟨y5, e5, g5⟩ := open_cells (R := R) (Opens.struct Try.underlying33 (by kernel_rfl) (OpensF.cons (Opens.int Try.underlying3) rfl (by kernel_rfl) rfl (OpensF.cons (Opens.int Try.underlying31) rfl (by kernel_rfl) rfl (OpensF.cons (Opens.int Try.underlying3) rfl (by kernel_rfl) rfl (OpensF.cons (Opens.int Try.underlying3) rfl (by kernel_rfl) rfl (OpensF.cons (Opens.int Try.underlying3) rfl (by kernel_rfl) rfl (OpensF.cons (Opens.bool Try.underlying4) rfl (by kernel_rfl) rfl (OpensF.cons (Opens.bool Try.underlying4) rfl (by kernel_rfl) rfl (OpensF.cons (Opens.bool Try.underlying4) rfl (by kernel_rfl) rfl (OpensF.cons (Opens.int Try.underlying3) rfl (by kernel_rfl) rfl (OpensF.cons (Opens.bool Try.underlying4) rfl (by kernel_rfl) rfl (OpensF.cons (Opens.int Try.underlying25) rfl (by kernel_rfl) rfl (OpensF.one (Opens.int Try.underlying3) rfl (by kernel_rfl)))))))))))))) hsz (j := 5) (t := 33) rfl rfl h5
 obtain ⟨b5, hb5⟩ := okW_struct Try.underlying33 (hval 5 33 v5 rfl rfl)
 have lt6 : ∀ x ∈ p6, x.block < W.heap.size := by obtain ⟨m, hm⟩ := h6; exact DataW.trod_lt m _ _ _ hm
 obtain ⟨y6, e6, g6⟩ := open_cells (R := R) (Opens.int Try.underlying3) hsz (j := 6) (t := 3) rfl rfl h6
 obtain ⟨k, h⟩ := Pure.PeerReckons y0.1 y0.2.1 y0.2.2.1 y0.2.2.2 y1.1 y1.2.1 y1.2.2.1 y1.2.2.2.1 y1.2.2.2.2.1 y1.2.2.2.2.2.1 y1.2.2.2.2.2.2.1 y1.2.2.2.2.2.2.2.1 y1.2.2.2.2.2.2.2.2.1 y1.2.2.2.2.2.2.2.2.2.1 y1.2.2.2.2.2.2.2.2.2.2.1 y1.2.2.2.2.2.2.2.2.2.2.2.1 y1.2.2.2.2.2.2.2.2.2.2.2.2.1 y1.2.2.2.2.2.2.2.2.2.2.2.2.2.1 y1.2.2.2.2.2.2.2.2.2.2.2.2.2.2.1 y1.2.2.2.2.2.2.2.2.2.2.2.2.2.2.2.1 y1.2.2.2.2.2.2.2.2.2.2.2.2.2.2.2.2 y2 y3.1 y3.2.1 y3.2.2.1 y3.2.2.2.1 y3.2.2.2.2.1 y3.2.2.2.2.2.1 y3.2.2.2.2.2.2.1 y3.2.2.2.2.2.2.2 y4.1 y4.2.1 y4.2.2.1 y4.2.2.2.1 y4.2.2.2.2.1 y4.2.2.2.2.2 y5.1 y5.2.1 y5.2.2.1 y5.2.2.2.1 y5.2.2.2.2.1 y5.2.2.2.2.2.1 y5.2.2.2.2.2.2.1 y5.2.2.2.2.2.2.2.1 y5.2.2.2.2.2.2.2.2.1 y5.2.2.2.2.2.2.2.2.2.1 y5.2.2.2.2.2.2.2.2.2.2.1 y5.2.2.2.2.2.2.2.2.2.2.2 y6 g0.1 g0.2.1 g0.2.2.1 g0.2.2.2 g1.1 g1.2.1 g1.2.2.1 g1.2.2.2.1 g1.2.2.2.2.1 g1.2.2.2.2.2.1 g1.2.2.2.2.2.2.1 g1.2.2.2.2.2.2.2.1 g1.2.2.2.2.2.2.2.2.1 g1.2.2.2.2.2.2.2.2.2.1 g1.2.2.2.2.2.2.2.2.2.2.1 g1.2.2.2.2.2.2.2.2.2.2.2.1 g1.2.2.2.2.2.2.2.2.2.2.2.2.1 g1.2.2.2.2.2.2.2.2.2.2.2.2.2.1 g1.2.2.2.2.2.2.2.2.2.2.2.2.2.2.1 g1.2.2.2.2.2.2.2.2.2.2.2.2.2.2.2.2 g2 g3.1 g3.2.1 g3.2.2.1 g3.2.2.2.1 g3.2.2.2.2.1 g3.2.2.2.2.2.1 g3.2.2.2.2.2.2.1 g3.2.2.2.2.2.2.2 g4.1 g4.2.1 g4.2.2.1 g4.2.2.2.1 g4.2.2.2.2.1 g5.1 g5.2.1 g5.2.2.1 g5.2.2.2.1 g5.2.2.2.2.1 g5.2.2.2.2.2.2.2.2.1 g5.2.2.2.2.2.2.2.2.2.2.1 g5.2.2.2.2.2.2.2.2.2.2.2 g6
 have hall : All2 (IsT R Ow.none W) (unflats foliotlaw10_PeerReckons.F.shIn (foliotlaw10_PeerReckons.F.DI.enc (y0.1, y0.2.1, y0.2.2.1, y0.2.2.2, y1.1, y1.2.1, y1.2.2.1, y1.2.2.2.1, y1.2.2.2.2.1, y1.2.2.2.2.2.1, y1.2.2.2.2.2.2.1, y1.2.2.2.2.2.2.2.1, y1.2.2.2.2.2.2.2.2.1, y1.2.2.2.2.2.2.2.2.2.1, y1.2.2.2.2.2.2.2.2.2.2.1, y1.2.2.2.2.2.2.2.2.2.2.2.1, y1.2.2.2.2.2.2.2.2.2.2.2.2.1, y1.2.2.2.2.2.2.2.2.2.2.2.2.2.1, y1.2.2.2.2.2.2.2.2.2.2.2.2.2.2.1, y1.2.2.2.2.2.2.2.2.2.2.2.2.2.2.2.1, y1.2.2.2.2.2.2.2.2.2.2.2.2.2.2.2.2, y2, y3.1, y3.2.1, y3.2.2.1, y3.2.2.2.1, y3.2.2.2.2.1, y3.2.2.2.2.2.1, y3.2.2.2.2.2.2.1, y3.2.2.2.2.2.2.2, y4.1, y4.2.1, y4.2.2.1, y4.2.2.2.1, y4.2.2.2.2.1, y4.2.2.2.2.2, y5.1, y5.2.1, y5.2.2.1, y5.2.2.2.1, y5.2.2.2.2.1, y5.2.2.2.2.2.1, y5.2.2.2.2.2.2.1, y5.2.2.2.2.2.2.2.1, y5.2.2.2.2.2.2.2.2.1, y5.2.2.2.2.2.2.2.2.2.1, y5.2.2.2.2.2.2.2.2.2.2.1, y5.2.2.2.2.2.2.2.2.2.2.2, y6))) [v0, v1, v2, v3, v4, v5, v6] := (.cons (top_agg hb0 e0) (.cons (top_agg hb1 e1) (.cons (top_lf (okW_int Try.underlying31 (hval 2 31 v2 rfl rfl)) e2) (.cons (top_agg hb3 e3) (.cons (top_agg hb4 e4) (.cons (top_agg hb5 e5) (.cons (top_lf (okW_int Try.underlying3 (hval 6 3 v6 rfl rfl)) e6) .nil)))))))
 refine (law_calls (R := R) (P := Try.prog) Try.func8 (body := bodyOf Try.f8) rfl rfl (foliotlaw10_PeerReckons.ok k) rfl rfl rfl rfl (y := (y0.1, y0.2.1, y0.2.2.1, y0.2.2.2, y1.1, y1.2.1, y1.2.2.1, y1.2.2.2.1, y1.2.2.2.2.1, y1.2.2.2.2.2.1, y1.2.2.2.2.2.2.1, y1.2.2.2.2.2.2.2.1, y1.2.2.2.2.2.2.2.2.1, y1.2.2.2.2.2.2.2.2.2.1, y1.2.2.2.2.2.2.2.2.2.2.1, y1.2.2.2.2.2.2.2.2.2.2.2.1, y1.2.2.2.2.2.2.2.2.2.2.2.2.1, y1.2.2.2.2.2.2.2.2.2.2.2.2.2.1, y1.2.2.2.2.2.2.2.2.2.2.2.2.2.2.1, y1.2.2.2.2.2.2.2.2.2.2.2.2.2.2.2.1, y1.2.2.2.2.2.2.2.2.2.2.2.2.2.2.2.2, y2, y3.1, y3.2.1, y3.2.2.1, y3.2.2.2.1, y3.2.2.2.2.1, y3.2.2.2.2.2.1, y3.2.2.2.2.2.2.1, y3.2.2.2.2.2.2.2, y4.1, y4.2.1, y4.2.2.1, y4.2.2.2.1, y4.2.2.2.2.1, y4.2.2.2.2.2, y5.1, y5.2.1, y5.2.2.1, y5.2.2.2.1, y5.2.2.2.2.1, y5.2.2.2.2.2.1, y5.2.2.2.2.2.2.1, y5.2.2.2.2.2.2.2.1, y5.2.2.2.2.2.2.2.2.1, y5.2.2.2.2.2.2.2.2.2.1, y5.2.2.2.2.2.2.2.2.2.2.1, y5.2.2.2.2.2.2.2.2.2.2.2, y6)) rfl rfl h hall).mono fun e W' ⟨he, bel⟩ => ?_
 subst he
 exact ⟨_, rfl, _, _, _, [], _, [], hW', trodAll_mk1 (shut_bool Try.underlying4 _), (trodAll_cons_mk (Below.trod laidOut_ (by kernel_rfl) (of_decide_eq_true (by kernel_rfl)) h0 bel lt0) (trodAll_cons_mk (Below.trod laidOut_ (by kernel_rfl) (of_decide_eq_true (by kernel_rfl)) h1 bel lt1) (trodAll_cons_mk (Below.trod laidOut_ (by kernel_rfl) (of_decide_eq_true (by kernel_rfl)) h2 bel lt2) (trodAll_cons_mk (Below.trod laidOut_ (by kernel_rfl) (of_decide_eq_true (by kernel_rfl)) h3 bel lt3) (trodAll_cons_mk (Below.trod laidOut_ (by kernel_rfl) (of_decide_eq_true (by kernel_rfl)) h4 bel lt4) (trodAll_cons_mk (Below.trod laidOut_ (by kernel_rfl) (of_decide_eq_true (by kernel_rfl)) h5 bel lt5) (trodAll_cons_mk (Below.trod laidOut_ (by kernel_rfl) (of_decide_eq_true (by kernel_rfl)) h6 bel lt6) trodAll_mk0))))))), rfl, bel.frame _, fun h => by cases h⟩
theorem over : Rows.peerReckonsRow.holds Try.pinned (OpenSpec.ofChange Rows.peerReckonsSpec) :=
 OpenClaim.holds_of_wide 8 Try.f8 rfl rfl rfl rfl rfl rfl rfl ⟨rfl, rfl, rfl, rfl, rfl⟩ rfl rfl rfl rfl rfl (by kernel_rfl) Try.func8 (by kernel_rfl)
  (of_decide_eq_true (by kernel_rfl)) (by unfold Func.isWrapper; first | (rw [if_pos (by decide +kernel)]; kernel_rfl) | (rw [if_neg (by decide +kernel)]; exact ⟨rfl, rfl⟩))
  (fun os started H enc _ => lifted os started H enc)
theorem proved : Rows.PeerReckonsSaid := over
#print axioms proved
end Go.Proofs.Ytgbffggaifnalaa.K8.RowPeerReckons
namespace Go.Proofs.Ytgbffggaifnalaa
/-- The row, under a short name, for the claim. -/
theorem peerReckons_holds : Rows.PeerReckonsSaid := K8.RowPeerReckons.proved
end Go.Proofs.Ytgbffggaifnalaa
