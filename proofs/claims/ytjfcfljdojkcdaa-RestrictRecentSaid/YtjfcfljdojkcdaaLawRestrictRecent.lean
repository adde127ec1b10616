/- The statement RestrictRecent holds: for every input the law returns true. Its contract comes out of the evaluator, what it computes is shown true in YtjfcfljdojkcdaaPureRestrictRecent. -/
import Derived.Test.YtjfcfljdojkcdaaRows
import Derived.Test.YtjfcfljdojkcdaaKC9
import Derived.Test.YtjfcfljdojkcdaaPureRestrictRecent
import Derived.Test.YtjfcfljdojkcdaaEvS
import Derived.WalkKit
import Derived.ProofKit
import Derived.OpenShut
import Derived.ShutString
import Derived.ChangeOld
import Derived.Below
import Derived.SizedLaws
namespace Go.Proofs.Ytjfcfljdojkcdaa.C9.RowRestrictRecent
open Go Go.ChangeShapes Go.WideShapes Go.ChangeAt Go.RowKit Go.Proofs.Ytjfcfljdojkcdaa Go.Proofs.Ytjfcfljdojkcdaa.Ev Go.Proofs.Ytjfcfljdojkcdaa.C9
open Go.ChangeMaps (open_string shut_string)
set_option linter.unusedVariables false
set_option maxRecDepth 100000
set_option maxHeartbeats 4000000
theorem own_ : ownKnob Try.prog.godebug = none := by kernel_rfl
theorem laidOut_ : laidOutB Try.prog = true := by kernel_rfl
theorem o24 : Opens (R := R) (Cs.row 3) Try.prog 24 (fun (x : Int) => (Lit.int .u32 x).wf = true) := Opens.to (fun y => y) (fun _ => rfl) (fun _ h => h) (Opens.int Try.underlying24)
set_option maxRecDepth 100000 in
theorem lifted (os : Os) (started : os.Started) (H : Type) (enc : TypeId × Value → H) :
  ReturnsInHanded {} Try.checked os 9 .any (Rows.restrictRecentSpec.pre6 enc Try.prog Try.f9 Rows.restrictRecentRow.domain false) (Rows.restrictRecentSpec.post enc Try.prog Try.f9 false true false false) := by
 refine returnsInHanded_of_change_sized (C := Try.checked) own_ started (by kernel_rfl) Try.func9
  (ChangeSpec.witness6 (enc := enc) (C := Try.checked) false ⟨#[], #[(.slice none 0 0)], []⟩ 8 (by kernel_rfl) (by kernel_rfl) (by kernel_rfl) (by kernel_rfl)) ?_
 intro W base args ds gs before hval0 hW hcnd hsz0 _
 have hsz : (DataW.weightsEach Try.prog (Try.f9.params.toList ++ Rows.restrictRecentSpec.plain.varTypes Try.prog) (ds ++ gs)).all (· ≤ reachBytes) = true := hsz0
 have hval : ∀ (j : Nat) t v, Try.f9.params[j]? = some t → args[j]? = some v → Value.okWide Try.prog W .any base t v := hval0
 have hW' := hW
 obtain ⟨p, q, hA0, hV, rfl, hfz, hnd⟩ := hW
 have hA : DataW.TrodAll enc Try.prog W 0 (fun _ => true) true Try.f9.params.toList args.toList ds p := hA0
 rw [Try.params9] at hA hval hsz
 obtain ⟨v0, vs0, d0, ds0, p0, q0, hargs, rfl, rfl, h0, r0⟩ := trodAll_cons hA
 obtain ⟨rfl, rfl, rfl⟩ := trodAll_nil r0
 obtain rfl : args = #[v0] := by cases args; simp_all
 obtain ⟨rfl, rfl⟩ := trodVars_none hV
 have lt0 : ∀ x ∈ p0, x.block < W.heap.size := by obtain ⟨m, hm⟩ := h0; exact DataW.trod_lt m _ _ _ hm
 obtain ⟨y0, e0, g0⟩ := open_cells (R := R) (Opens.ro (B := 4) (by decide) Try.underlying58 (by kernel_rfl) (by kernel_rfl) o24) hsz (j := 0) (t := 58) rfl rfl h0
 obtain ⟨k, h⟩ := Pure.RestrictRecent y0 g0
 have hall : All2 (IsT R Ow.none W) (unflats foliotlaw06_RestrictRecent.F.shIn (foliotlaw06_RestrictRecent.F.DI.enc y0)) [v0] := (.cons (top_lf (okW_slice Try.underlying58 (hval 0 58 v0 rfl rfl)) e0) .nil)
 refine (law_calls (R := R) (P := Try.prog) Try.func9 (body := bodyOf Try.f9) rfl rfl (foliotlaw06_RestrictRecent.ok k) rfl rfl rfl rfl (y := y0) rfl rfl h hall).mono fun e W' ⟨he, bel⟩ => ?_
 subst he
 exact ⟨_, rfl, _, _, _, [], _, [], hW', trodAll_mk1 (shut_bool Try.underlying4 _), (trodAll_cons_mk (Below.trod laidOut_ (by kernel_rfl) (of_decide_eq_true (by kernel_rfl)) h0 bel lt0) trodAll_mk0), rfl, bel.frame _, fun h => by cases h⟩
theorem over : Rows.restrictRecentRow.holds Try.pinned (OpenSpec.ofChange Rows.restrictRecentSpec) :=
 OpenClaim.holds_of_wide 9 Try.f9 rfl rfl rfl rfl rfl rfl rfl ⟨rfl, rfl, rfl, rfl, rfl⟩ rfl rfl rfl rfl rfl (by kernel_rfl) Try.func9 (by kernel_rfl)
  (of_decide_eq_true (by kernel_rfl)) (by unfold Func.isWrapper; first | (rw [if_pos (by decide +kernel)]; kernel_rfl) | (rw [if_neg (by decide +kernel)]; exact ⟨rfl, rfl⟩))
  (fun os started H enc _ => lifted os started H enc)
theorem proved : Rows.RestrictRecentSaid := over
#print axioms proved
end Go.Proofs.Ytjfcfljdojkcdaa.C9.RowRestrictRecent
namespace Go.Proofs.Ytjfcfljdojkcdaa
/-- The row, under a short name, for the claim. -/
theorem restrictRecent_holds : Rows.RestrictRecentSaid := C9.RowRestrictRecent.proved
end Go.Proofs.Ytjfcfljdojkcdaa
