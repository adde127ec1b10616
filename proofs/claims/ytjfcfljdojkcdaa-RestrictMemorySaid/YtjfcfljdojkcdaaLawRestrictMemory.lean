/- The statement RestrictMemory holds: for every input the law returns true. Its contract comes out of the evaluator, what it computes is shown true in YtjfcfljdojkcdaaPureRestrictMemory. -/
import Derived.Test.YtjfcfljdojkcdaaRows
import Derived.Test.YtjfcfljdojkcdaaKC8
import Derived.Test.YtjfcfljdojkcdaaPureRestrictMemory
import Derived.Test.YtjfcfljdojkcdaaEvS
import Derived.WalkKit
import Derived.ProofKit
import Derived.OpenShut
import Derived.ShutString
import Derived.ChangeOld
import Derived.Below
import Derived.SizedLaws
namespace Go.Proofs.Ytjfcfljdojkcdaa.C8.RowRestrictMemory
open Go Go.ChangeShapes Go.WideShapes Go.ChangeAt Go.RowKit Go.Proofs.Ytjfcfljdojkcdaa Go.Proofs.Ytjfcfljdojkcdaa.Ev Go.Proofs.Ytjfcfljdojkcdaa.C8
open Go.ChangeMaps (open_string shut_string)
set_option linter.unusedVariables false
set_option maxRecDepth 100000
set_option maxHeartbeats 4000000
theorem own_ : ownKnob Try.prog.godebug = none := by kernel_rfl
theorem laidOut_ : laidOutB Try.prog = true := by kernel_rfl
theorem o37 : Opens (R := R) (Cs.row 0) Try.prog 37 okS37 :=
 Opens.to (fun y => (⟨y.1, y.2.1, y.2.2⟩ : S37)) (fun _ => rfl) (fun y h => ⟨h.1, h.2.1, h.2.2⟩) (Opens.struct Try.underlying37 (by kernel_rfl) (OpensF.cons (Opens.int Try.underlying24) rfl (by kernel_rfl) rfl (OpensF.cons (Opens.int Try.underlying3) rfl (by kernel_rfl) rfl (OpensF.one (Opens.int Try.underlying3) rfl (by kernel_rfl)))))
set_option maxRecDepth 100000 in
theorem lifted (os : Os) (started : os.Started) (H : Type) (enc : TypeId × Value → H) :
  ReturnsInHanded {} Try.checked os 8 .any (Rows.restrictMemorySpec.pre6 enc Try.prog Try.f8 Rows.restrictMemoryRow.domain false) (Rows.restrictMemorySpec.post enc Try.prog Try.f8 false true false false) := by
 refine returnsInHanded_of_change_sized (C := Try.checked) own_ started (by kernel_rfl) Try.func8
  (ChangeSpec.witness6 (enc := enc) (C := Try.checked) false ⟨#[], #[(.int .i64 0), (.int .i64 0), (.slice none 0 0)], []⟩ 8 (by kernel_rfl) (by kernel_rfl) (by kernel_rfl) (by kernel_rfl)) ?_
 intro W base args ds gs before hval0 hW hcnd hsz0 _
 have hsz : (DataW.weightsEach Try.prog (Try.f8.params.toList ++ Rows.restrictMemorySpec.plain.varTypes Try.prog) (ds ++ gs)).all (· ≤ reachBytes) = true := hsz0
 have hval : ∀ (j : Nat) t v, Try.f8.params[j]? = some t → args[j]? = some v → Value.okWide Try.prog W .any base t v := hval0
 have hW' := hW
 obtain ⟨p, q, hA0, hV, rfl, hfz, hnd⟩ := hW
 have hA : DataW.TrodAll enc Try.prog W 0 (fun _ => true) true Try.f8.params.toList args.toList ds p := hA0
 rw [Try.params8] at hA hval hsz
 obtain ⟨v0, vs0, d0, ds0, p0, q0, hargs, rfl, rfl, h0, r0⟩ := trodAll_cons hA
 obtain ⟨v1, vs1, d1, ds1, p1, q1, rfl, rfl, rfl, h1, r1⟩ := trodAll_cons r0
 obtain ⟨v2, vs2, d2, ds2, p2, q2, rfl, rfl, rfl, h2, r2⟩ := trodAll_cons r1
 obtain ⟨rfl, rfl, rfl⟩ := trodAll_nil r2
 obtain rfl : args = #[v0, v1, v2] := by cases args; simp_all
 obtain ⟨rfl, rfl⟩ := trodVars_none hV
 have lt0 : ∀ x ∈ p0, x.block < W.heap.size := by obtain ⟨m, hm⟩ := h0; exact DataW.trod_lt m _ _ _ hm
 obtain ⟨y0, e0, g0⟩ := open_cells (R := R) (Opens.int Try.underlying3) hsz (j := 0) (t := 3) rfl rfl h0
 have lt1 : ∀ x ∈ p1, x.block < W.heap.size := by obtain ⟨m, hm⟩ := h1; exact DataW.trod_lt m _ _ _ hm
 obtain ⟨y1, e1, g1⟩ := open_cells (R := R) (Opens.int Try.underlying3) hsz (j := 1) (t := 3) rfl rfl h1
 have lt2 : ∀ x ∈ p2, x.block < W.heap.size := by obtain ⟨m, hm⟩ := h2; exact DataW.trod_lt m _ _ _ hm
 obtain ⟨y2, e2, g2⟩ := open_cells (R := R) (Opens.ro (B := 24) (by decide) Try.underlying29 (by kernel_rfl) (by kernel_rfl) o37) hsz (j := 2) (t := 29) rfl rfl h2
 obtain ⟨k, h⟩ := Pure.RestrictMemory y0 y1 y2 g0 g1 g2
 have hall : All2 (IsT R Ow.none W) (unflats foliotlaw06_RestrictMemory.F.shIn (foliotlaw06_RestrictMemory.F.DI.enc (y0, y1, y2))) [v0, v1, v2] := (.cons (top_lf (okW_int Try.underlying3 (hval 0 3 v0 rfl rfl)) e0) (.cons (top_lf (okW_int Try.underlying3 (hval 1 3 v1 rfl rfl)) e1) (.cons (top_lf (okW_slice Try.underlying29 (hval 2 29 v2 rfl rfl)) e2) .nil)))
 refine (law_calls (R := R) (P := Try.prog) Try.func8 (body := bodyOf Try.f8) rfl rfl (foliotlaw06_RestrictMemory.ok k) rfl rfl rfl rfl (y := (y0, y1, y2)) rfl rfl h hall).mono fun e W' ⟨he, bel⟩ => ?_
 subst he
 exact ⟨_, rfl, _, _, _, [], _, [], hW', trodAll_mk1 (shut_bool Try.underlying4 _), (trodAll_cons_mk (Below.trod laidOut_ (by kernel_rfl) (of_decide_eq_true (by kernel_rfl)) h0 bel lt0) (trodAll_cons_mk (Below.trod laidOut_ (by kernel_rfl) (of_decide_eq_true (by kernel_rfl)) h1 bel lt1) (trodAll_cons_mk (Below.trod laidOut_ (by kernel_rfl) (of_decide_eq_true (by kernel_rfl)) h2 bel lt2) trodAll_mk0))), rfl, bel.frame _, fun h => by cases h⟩
theorem over : Rows.restrictMemoryRow.holds Try.pinned (OpenSpec.ofChange Rows.restrictMemorySpec) :=
 OpenClaim.holds_of_wide 8 Try.f8 rfl rfl rfl rfl rfl rfl rfl ⟨rfl, rfl, rfl, rfl, rfl⟩ rfl rfl rfl rfl rfl (by kernel_rfl) Try.func8 (by kernel_rfl)
  (of_decide_eq_true (by kernel_rfl)) (by unfold Func.isWrapper; first | (rw [if_pos (by decide +kernel)]; kernel_rfl) | (rw [if_neg (by decide +kernel)]; exact ⟨rfl, rfl⟩))
  (fun os started H enc _ => lifted os started H enc)
theorem proved : Rows.RestrictMemorySaid := over
#print axioms proved
end Go.Proofs.Ytjfcfljdojkcdaa.C8.RowRestrictMemory
namespace Go.Proofs.Ytjfcfljdojkcdaa
/-- The row, under a short name, for the claim. -/
theorem restrictMemory_holds : Rows.RestrictMemorySaid := C8.RowRestrictMemory.proved
end Go.Proofs.Ytjfcfljdojkcdaa
