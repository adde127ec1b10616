/- The contracts of the functions. -/
import Derived.Test.YtfanbadkclelhaaDL5
import Derived.Test.YtfanbadkclelhaaEvQ
import Derived.Test.YtfanbadkclelhaaProg
import Derived.Laws.Externs
import Derived.Lib.BitFns
import Derived.Lib.Strings
import Derived.Lib.Slices
import Derived.Lib.Small
import Derived.Lib.Walk
namespace Go.Proofs.Ytfanbadkclelhaa.L5
open Go Go.RowKit Go.Proofs.Ytfanbadkclelhaa.Ev
set_option linter.unusedVariables false
set_option maxRecDepth 100000
def D : Nat → Type
 | 0 => Int
 | 1 => S64
 | _ => Unit
def enc : (c : Nat) → D c → List (Lf D)
 | 0 => fun x => [.v (.int .i64 x)]
 | 1 => fun x => [.v (.int .i64 x.f0), .v (.int .i64 x.f1), .v (.int .i64 x.f2), .v (.int .u64 x.f3), .v (.int .i64 x.f4), .v (.int .i64 x.f5), .v (.int .i64 x.f6), .v (.int .i64 x.f7)]
 | _ + 2 => fun _ => []
def z : (c : Nat) → D c
 | 0 => (0 : Int)
 | 1 => (z_S64 : S64)
 | _ + 2 => ()
def sz : Nat → Nat
 | 0 => 1
 | 1 => 8
 | _ + 2 => 0
theorem len_ : ∀ (c : Nat) (x : D c), (enc c x).length = sz c
 | 0, x => by rfl
 | 1, x => by rfl
 | _ + 2, x => by rfl
theorem free_ : ∀ (c : Nat) (x : D c), (enc c x).all lfFree = true
 | 0, x => by rfl
 | 1, x => by rfl
 | _ + 2, x => by rfl
def R : Ro := ⟨D, enc, fun _ _ => none, z, sz, len_, free_⟩
def codes : TypeId → Option (RoT R) := codeOf [(3, ⟨0, ((.last (dInt .i64) .nil) : DL R (Int)), fun _ => rfl⟩),
 (64, ⟨1, ((.cons (dInt .i64) (.cons (dInt .i64) (.cons (dInt .i64) (.cons (dInt .u64) (.cons (dInt .i64) (.cons (dInt .i64) (.cons (dInt .i64) (.last (dInt .i64) .nil)))))))) : DL R (Int × Int × Int × Int × Int × Int × Int × Int)).to (fun y => (⟨y.1, y.2.1, y.2.2.1, y.2.2.2.1, y.2.2.2.2.1, y.2.2.2.2.2.1, y.2.2.2.2.2.2.1, y.2.2.2.2.2.2.2⟩ : S64)) (fun x => (x.f0, x.f1, x.f2, x.f3, x.f4, x.f5, x.f6, x.f7)) (fun _ => rfl), fun _ => rfl⟩)]
def rts : Nat → Option (RoT R) := codeOf [(0, ⟨0, ((.last (dInt .i64) .nil) : DL R (Int)), fun _ => rfl⟩),
 (1, ⟨1, ((.cons (dInt .i64) (.cons (dInt .i64) (.cons (dInt .i64) (.cons (dInt .u64) (.cons (dInt .i64) (.cons (dInt .i64) (.cons (dInt .i64) (.last (dInt .i64) .nil)))))))) : DL R (Int × Int × Int × Int × Int × Int × Int × Int)).to (fun y => (⟨y.1, y.2.1, y.2.2.1, y.2.2.2.1, y.2.2.2.2.1, y.2.2.2.2.2.1, y.2.2.2.2.2.2.1, y.2.2.2.2.2.2.2⟩ : S64)) (fun x => (x.f0, x.f1, x.f2, x.f3, x.f4, x.f5, x.f6, x.f7)) (fun _ => rfl), fun _ => rfl⟩)]
def owns : TypeId → List (Nat × Nat × TypeId) := ownOf []
def tabL : List (Nat × TI) := [(2, ⟨1, 13, [(.int .i64 0)], [], 0, false, 0, 0, 8⟩),
 (3, ⟨1, 13, [(.int .i64 0)], [], 0, false, 0, 0, 8⟩),
 (4, ⟨1, 4, [(.bool false)], [], 0, false, 0, 0, 1⟩),
 (22, ⟨1, 17, [(.int .u64 0)], [], 0, false, 0, 0, 8⟩),
 (23, ⟨1, 17, [(.int .u64 0)], [], 0, false, 0, 0, 8⟩),
 (25, ⟨2, 1, [(.int .i64 0), (.int .u64 0)], [(0, 1, false), (1, 1, false)], 0, false, 0, 0, 16⟩),
 (27, ⟨1, 5, [(.pointer none)], [], 0, false, 0, 0, 8⟩),
 (29, ⟨1, 13, [(.int .i64 0)], [], 0, false, 0, 0, 8⟩),
 (30, ⟨1, 13, [(.int .i64 0)], [], 0, false, 0, 0, 8⟩),
 (32, ⟨1, 13, [(.int .i64 0)], [], 0, false, 0, 0, 8⟩),
 (39, ⟨1, 3, [(.slice none 0 0)], [], 1, false, 0, 3, 24⟩),
 (61, ⟨2, 1, [(.int .i64 0), (.int .i64 0)], [(0, 1, false), (1, 1, false)], 0, false, 0, 0, 16⟩),
 (64, ⟨8, 1, [(.int .i64 0), (.int .i64 0), (.int .i64 0), (.int .u64 0), (.int .i64 0), (.int .i64 0), (.int .i64 0), (.int .i64 0)], [(0, 2, true), (2, 2, true), (4, 1, false), (5, 1, false), (6, 1, false), (7, 1, false)], 0, false, 0, 0, 64⟩),
 (66, ⟨1, 5, [(.pointer none)], [], 0, false, 0, 0, 8⟩),
 (76, ⟨3, 1, [(.int .u64 0), (.int .u64 0), (.bool false)], [(0, 1, false), (1, 1, false), (2, 1, false)], 0, false, 0, 0, 24⟩)]
theorem tabs : TabOk Try.prog (tabOf tabL) := tabOf_ok _ _ (by kernel_rfl)
def flats : Nat → Bool
 | 0 => true
 | 1 => true
 | _ + 2 => false
theorem flats_ : ∀ (c : Nat), flats c = true → ∀ x, (R.enc c x).all noRo = true
 | 0, _, x => by rfl
 | 1, _, x => by rfl
 | _ + 2, h, x => by cases h
def eqs : List (Nat × List Nat) := []
theorem eqs_ : EqOk Try.prog (eqtOf eqs) := eqtOf_ok _ (by kernel_rfl)
def mps : List (Nat × MpT) := [(42, ⟨3, .i64, 29, (.int .i64 0)⟩)]
theorem mps_ : MpOk Try.prog (mpsOf mps) := mpsOf_ok _ (by kernel_rfl)
theorem mixed : Try.prog.follows .mixedOrders = true := by kernel_rfl
theorem mt_66_foliot_clock_gain : MtOne Try.prog 66 "foliot/clock.gain" 60 := fun a w => by rfl
def fixed_size.F : FnS R (Int) (Int × Bool) := ⟨[.lf], [], (.last (dInt .i64) .nil), .tup [none, none], [], (.cons (dInt .u64) (.last dBool .nil))⟩
def fixed_size.p (k : Nat) (y : Int) : Option (Int × Bool) := fixed_size.f y
def fixed_size.E (k : Nat) : Env R := ⟨tabOf tabL, ctOf [], mtNone, fun _ => false, codes, rts, 11, fun _ => [], fun _ => [], [], eqtOf eqs, fun _ => false, flats, mpsOf mps⟩
def fixed_size.cs : List (CutS R (Int × Bool)) := []
theorem fixed_size.hE (k : Nat) : EnvOk Try.prog (fixed_size.E k) := ⟨tabs, ctOf_ok all_nil, mtNone_ok, mixed, eqs_, flats_, mps_⟩
theorem fixed_size.q (k : Nat) (y : Int) : fixed_size.p k y = fixed_size.F.run fixed_size.E Try.f45.results.toList (bodyOf Try.f45) fixed_size.cs k y := by kernel_rfl
theorem fixed_size.ok (k : Nat) : CsemOk R Try.prog 45 (fixed_size.F.sem (fixed_size.p k)) := fn_ok (F := fixed_size.F) (f := fixed_size.p) (E := fixed_size.E) fixed_size.hE (fun _ => rfl) Try.func45 (body := (bodyOf Try.f45)) rfl (by kernel_rfl) rfl (by decide) (by kernel_rfl) (cuts := fixed_size.cs) all_nil fixed_size.q k
def fixed_whole_cut.F : FnS R (Int × Int × Bool × Int) (Int) := ⟨[.agg 3, .lf], [], (.cons (dInt .u64) (.cons (dInt .u64) (.cons dBool (.last (dInt .i64) .nil)))), .lf, [], (.last (dInt .i64) .nil)⟩
def fixed_whole_cut.p (k : Nat) (y : Int × Int × Bool × Int) : Option (Int) := fixed_whole_cut.f y.1 y.2.1 y.2.2.1 y.2.2.2
def fixed_whole_cut.E (k : Nat) : Env R := ⟨tabOf tabL, ctOf [], mtNone, fun _ => false, codes, rts, 25, fun _ => [], fun _ => [], [], eqtOf eqs, fun _ => false, flats, mpsOf mps⟩
def fixed_whole_cut.cs : List (CutS R (Int)) := []
theorem fixed_whole_cut.hE (k : Nat) : EnvOk Try.prog (fixed_whole_cut.E k) := ⟨tabs, ctOf_ok all_nil, mtNone_ok, mixed, eqs_, flats_, mps_⟩
theorem fixed_whole_cut.q (k : Nat) (y : Int × Int × Bool × Int) : fixed_whole_cut.p k y = fixed_whole_cut.F.run fixed_whole_cut.E Try.f46.results.toList (bodyOf Try.f46) fixed_whole_cut.cs k y := by kernel_rfl
theorem fixed_whole_cut.ok (k : Nat) : CsemOk R Try.prog 46 (fixed_whole_cut.F.sem (fixed_whole_cut.p k)) := fn_ok (F := fixed_whole_cut.F) (f := fixed_whole_cut.p) (E := fixed_whole_cut.E) fixed_whole_cut.hE (fun _ => rfl) Try.func46 (body := (bodyOf Try.f46)) rfl (by kernel_rfl) rfl (by decide) (by kernel_rfl) (cuts := fixed_whole_cut.cs) all_nil fixed_whole_cut.q k
def fixed_Cut.F : FnS R (Int) (Int) := ⟨[.lf], [], (.last (dInt .i64) .nil), .lf, [], (.last (dInt .i64) .nil)⟩
def fixed_Cut.p (k : Nat) (y : Int) : Option (Int) := fixed_Cut.f y
def fixed_Cut.E (k : Nat) : Env R := ⟨tabOf tabL, ctOf [(45, (fixed_size.F.sem (fixed_size.p k))), (46, (fixed_whole_cut.F.sem (fixed_whole_cut.p k)))], mtNone, fun _ => false, codes, rts, 14, fun _ => [], fun _ => [], [], eqtOf eqs, fun _ => false, flats, mpsOf mps⟩
def fixed_Cut.cs : List (CutS R (Int)) := []
theorem fixed_Cut.hE (k : Nat) : EnvOk Try.prog (fixed_Cut.E k) := ⟨tabs, ctOf_ok (all_cons (fixed_size.ok k) (all_cons (fixed_whole_cut.ok k) all_nil)), mtNone_ok, mixed, eqs_, flats_, mps_⟩
theorem fixed_Cut.q (k : Nat) (y : Int) : fixed_Cut.p k y = fixed_Cut.F.run fixed_Cut.E Try.f25.results.toList (bodyOf Try.f25) fixed_Cut.cs k y := by kernel_rfl
theorem fixed_Cut.ok (k : Nat) : CsemOk R Try.prog 25 (fixed_Cut.F.sem (fixed_Cut.p k)) := fn_ok (F := fixed_Cut.F) (f := fixed_Cut.p) (E := fixed_Cut.E) fixed_Cut.hE (fun _ => rfl) Try.func25 (body := (bodyOf Try.f25)) rfl (by kernel_rfl) rfl (by decide) (by kernel_rfl) (cuts := fixed_Cut.cs) all_nil fixed_Cut.q k
def bits_Add64.F : FnS R (Int × Int × Int) (Int × Int) := ⟨[.lf, .lf, .lf], [], (.cons (dInt .u64) (.cons (dInt .u64) (.last (dInt .u64) .nil))), .tup [none, none], [], (.cons (dInt .u64) (.last (dInt .u64) .nil))⟩
def bits_Add64.p (k : Nat) (y : Int × Int × Int) : Option (Int × Int) := bits_Add64.f y.1 y.2.1 y.2.2
theorem bits_Add64.ok (k : Nat) : CsemOk R Try.prog 63 (bits_Add64.F.sem (bits_Add64.p k)) := sem_ok fun y r h ρ w us hrel hargs => by
 obtain ⟨a0, a1, a2⟩ := y
 change All2 (IsT R ρ w) [.lf (.v (.int .u64 a0)), .lf (.v (.int .u64 a1)), .lf (.v (.int .u64 a2))] us at hargs
 obtain ⟨u0, _, rfl, h0, g1⟩ := all2_cons hargs
 obtain ⟨u1, _, rfl, h1, g2⟩ := all2_cons g1
 obtain ⟨u2, _, rfl, h2, g3⟩ := all2_cons g2
 clear hargs g1 g2
 cases g3
 obtain ⟨rfl, b0⟩ := is_v h0
 obtain ⟨rfl, b1⟩ := is_v h1
 obtain ⟨rfl, b2⟩ := is_v h2
 have b0 := u64_le b0
 have b1 := u64_le b1
 change bits_Add64.f a0 a1 a2 = some r at h
 unfold bits_Add64.f at h
 split at h
 · rename_i hb
   obtain ⟨h0, h1, h2, h3⟩ := hb
   injection h with h
   subst h
   refine .inr ⟨.tuple #[.int .u64 ((a0 + a1 + a2) % 18446744073709551616), .int .u64 ((a0 + a1 + a2) / 18446744073709551616)], w, ?_, ?_⟩
   · rw [run_callFunc_extern Try.func63 (by kernel_rfl) rfl rfl (e := add64Entry) rfl, run_add64 a0 a1 a2 h0 h1 h2 h3 w]
     rfl
   · refine post_still hrel ?_
     exact ⟨[_, _], rfl, .cons (Is.v _ (u64_ok (Int.emod_nonneg _ (by omega)) (by omega))) (.cons (Is.v _ (u64_ok (by omega) (by omega))) .nil)⟩
 · cases h
def fixed_sum.F : FnS R (Int × Int) (Int × Int × Bool) := ⟨[.lf, .lf], [], (.cons (dInt .i64) (.last (dInt .i64) .nil)), .agg 3, [], (.cons (dInt .u64) (.cons (dInt .u64) (.last dBool .nil)))⟩
def fixed_sum.p (k : Nat) (y : Int × Int) : Option (Int × Int × Bool) := fixed_sum.f y.1 y.2
def fixed_sum.E (k : Nat) : Env R := ⟨tabOf tabL, ctOf [(63, (bits_Add64.F.sem (bits_Add64.p k)))], mtNone, fun _ => false, codes, rts, 43, fun _ => [], fun _ => [], [], eqtOf eqs, fun _ => false, flats, mpsOf mps⟩
def fixed_sum.cs : List (CutS R (Int × Int × Bool)) := []
theorem fixed_sum.hE (k : Nat) : EnvOk Try.prog (fixed_sum.E k) := ⟨tabs, ctOf_ok (all_cons (bits_Add64.ok k) all_nil), mtNone_ok, mixed, eqs_, flats_, mps_⟩
theorem fixed_sum.q (k : Nat) (y : Int × Int) : fixed_sum.p k y = fixed_sum.F.run fixed_sum.E Try.f47.results.toList (bodyOf Try.f47) fixed_sum.cs k y := by kernel_rfl
theorem fixed_sum.ok (k : Nat) : CsemOk R Try.prog 47 (fixed_sum.F.sem (fixed_sum.p k)) := fn_ok (F := fixed_sum.F) (f := fixed_sum.p) (E := fixed_sum.E) fixed_sum.hE (fun _ => rfl) Try.func47 (body := (bodyOf Try.f47)) rfl (by kernel_rfl) rfl (by decide) (by kernel_rfl) (cuts := fixed_sum.cs) all_nil fixed_sum.q k
def fixed_whole_span.F : FnS R (Int × Int × Bool) (Int) := ⟨[.agg 3], [], (.cons (dInt .u64) (.cons (dInt .u64) (.last dBool .nil))), .lf, [], (.last (dInt .i64) .nil)⟩
def fixed_whole_span.p (k : Nat) (y : Int × Int × Bool) : Option (Int) := fixed_whole_span.f y.1 y.2.1 y.2.2
def fixed_whole_span.E (k : Nat) : Env R := ⟨tabOf tabL, ctOf [(46, (fixed_whole_cut.F.sem (fixed_whole_cut.p k)))], mtNone, fun _ => false, codes, rts, 5, fun _ => [], fun _ => [], [], eqtOf eqs, fun _ => false, flats, mpsOf mps⟩
def fixed_whole_span.cs : List (CutS R (Int)) := []
theorem fixed_whole_span.hE (k : Nat) : EnvOk Try.prog (fixed_whole_span.E k) := ⟨tabs, ctOf_ok (all_cons (fixed_whole_cut.ok k) all_nil), mtNone_ok, mixed, eqs_, flats_, mps_⟩
theorem fixed_whole_span.q (k : Nat) (y : Int × Int × Bool) : fixed_whole_span.p k y = fixed_whole_span.F.run fixed_whole_span.E Try.f48.results.toList (bodyOf Try.f48) fixed_whole_span.cs k y := by kernel_rfl
theorem fixed_whole_span.ok (k : Nat) : CsemOk R Try.prog 48 (fixed_whole_span.F.sem (fixed_whole_span.p k)) := fn_ok (F := fixed_whole_span.F) (f := fixed_whole_span.p) (E := fixed_whole_span.E) fixed_whole_span.hE (fun _ => rfl) Try.func48 (body := (bodyOf Try.f48)) rfl (by kernel_rfl) rfl (by decide) (by kernel_rfl) (cuts := fixed_whole_span.cs) all_nil fixed_whole_span.q k
def fixed_Add.F : FnS R (Int × Int) (Int) := ⟨[.lf, .lf], [], (.cons (dInt .i64) (.last (dInt .i64) .nil)), .lf, [], (.last (dInt .i64) .nil)⟩
def fixed_Add.p (k : Nat) (y : Int × Int) : Option (Int) := fixed_Add.f y.1 y.2
def fixed_Add.E (k : Nat) : Env R := ⟨tabOf tabL, ctOf [(47, (fixed_sum.F.sem (fixed_sum.p k))), (48, (fixed_whole_span.F.sem (fixed_whole_span.p k)))], mtNone, fun _ => false, codes, rts, 9, fun _ => [], fun _ => [], [], eqtOf eqs, fun _ => false, flats, mpsOf mps⟩
def fixed_Add.cs : List (CutS R (Int)) := []
theorem fixed_Add.hE (k : Nat) : EnvOk Try.prog (fixed_Add.E k) := ⟨tabs, ctOf_ok (all_cons (fixed_sum.ok k) (all_cons (fixed_whole_span.ok k) all_nil)), mtNone_ok, mixed, eqs_, flats_, mps_⟩
theorem fixed_Add.q (k : Nat) (y : Int × Int) : fixed_Add.p k y = fixed_Add.F.run fixed_Add.E Try.f27.results.toList (bodyOf Try.f27) fixed_Add.cs k y := by kernel_rfl
theorem fixed_Add.ok (k : Nat) : CsemOk R Try.prog 27 (fixed_Add.F.sem (fixed_Add.p k)) := fn_ok (F := fixed_Add.F) (f := fixed_Add.p) (E := fixed_Add.E) fixed_Add.hE (fun _ => rfl) Try.func27 (body := (bodyOf Try.f27)) rfl (by kernel_rfl) rfl (by decide) (by kernel_rfl) (cuts := fixed_Add.cs) all_nil fixed_Add.q k
def fixed_Clamp.F : FnS R (Int × Int) (Int) := ⟨[.lf, .lf], [], (.cons (dInt .i64) (.last (dInt .i64) .nil)), .lf, [], (.last (dInt .i64) .nil)⟩
def fixed_Clamp.p (k : Nat) (y : Int × Int) : Option (Int) := fixed_Clamp.f y.1 y.2
def fixed_Clamp.E (k : Nat) : Env R := ⟨tabOf tabL, ctOf [(27, (fixed_Add.F.sem (fixed_Add.p k)))], mtNone, fun _ => false, codes, rts, 14, fun _ => [], fun _ => [], [], eqtOf eqs, fun _ => false, flats, mpsOf mps⟩
def fixed_Clamp.cs : List (CutS R (Int)) := []
theorem fixed_Clamp.hE (k : Nat) : EnvOk Try.prog (fixed_Clamp.E k) := ⟨tabs, ctOf_ok (all_cons (fixed_Add.ok k) all_nil), mtNone_ok, mixed, eqs_, flats_, mps_⟩
theorem fixed_Clamp.q (k : Nat) (y : Int × Int) : fixed_Clamp.p k y = fixed_Clamp.F.run fixed_Clamp.E Try.f26.results.toList (bodyOf Try.f26) fixed_Clamp.cs k y := by kernel_rfl
theorem fixed_Clamp.ok (k : Nat) : CsemOk R Try.prog 26 (fixed_Clamp.F.sem (fixed_Clamp.p k)) := fn_ok (F := fixed_Clamp.F) (f := fixed_Clamp.p) (E := fixed_Clamp.E) fixed_Clamp.hE (fun _ => rfl) Try.func26 (body := (bodyOf Try.f26)) rfl (by kernel_rfl) rfl (by decide) (by kernel_rfl) (cuts := fixed_Clamp.cs) all_nil fixed_Clamp.q k
def clock_New.F : FnS R (Int × Int × Int × Int) (Int × Int × Int × Int × Int × Int × Int × Int) := ⟨[.agg 2, .lf, .lf], [], (.cons (dInt .i64) (.cons (dInt .u64) (.cons (dInt .i64) (.last (dInt .i64) .nil)))), .lf, [.blk 8 64], (.ptr 0 0 (.cons (dInt .i64) (.cons (dInt .i64) (.cons (dInt .i64) (.cons (dInt .u64) (.cons (dInt .i64) (.cons (dInt .i64) (.cons (dInt .i64) (.last (dInt .i64) .nil)))))))))⟩
def clock_New.p (k : Nat) (y : Int × Int × Int × Int) : Option (Int × Int × Int × Int × Int × Int × Int × Int) := clock_New.f y.1 y.2.1 y.2.2.1 y.2.2.2
def clock_New.E (k : Nat) : Env R := ⟨tabOf tabL, ctOf [(25, (fixed_Cut.F.sem (fixed_Cut.p k))), (26, (fixed_Clamp.F.sem (fixed_Clamp.p k)))], mtNone, fun f => memB f [25, 26], codes, rts, 24, fun i => ordOf [(3, [(0, 0), (1, 0), (2, 0), (3, 0), (4, 0), (5, 0), (6, 0), (7, 1), (8, 0)])] i, fun _ => [], [], eqtOf eqs, fun _ => false, flats, mpsOf mps⟩
def clock_New.cs : List (CutS R (Int × Int × Int × Int × Int × Int × Int × Int)) := []
theorem clock_New.hE (k : Nat) : EnvOk Try.prog (clock_New.E k) := ⟨tabs, ctOf_ok (all_cons (fixed_Cut.ok k) (all_cons (fixed_Clamp.ok k) all_nil)), mtNone_ok, mixed, eqs_, flats_, mps_⟩
theorem clock_New.q (k : Nat) (y : Int × Int × Int × Int) : clock_New.p k y = clock_New.F.run clock_New.E Try.f7.results.toList (bodyOf Try.f7) clock_New.cs k y := by kernel_rfl
theorem clock_New.ok (k : Nat) : CsemOk R Try.prog 7 (clock_New.F.sem (clock_New.p k)) := fn_ok (F := clock_New.F) (f := clock_New.p) (E := clock_New.E) clock_New.hE (fun _ => rfl) Try.func7 (body := (bodyOf Try.f7)) rfl (by kernel_rfl) rfl (by decide) (by kernel_rfl) (cuts := clock_New.cs) all_nil clock_New.q k
def stamp_Plus.F : FnS R (Int × Int) (Int) := ⟨[.lf, .lf], [], (.cons (dInt .u64) (.last (dInt .i64) .nil)), .lf, [], (.last (dInt .u64) .nil)⟩
def stamp_Plus.p (k : Nat) (y : Int × Int) : Option (Int) := stamp_Plus.f y.1 y.2
def stamp_Plus.E (k : Nat) : Env R := ⟨tabOf tabL, ctOf [], mtNone, fun _ => false, codes, rts, 9, fun _ => [], fun _ => [], [], eqtOf eqs, fun _ => false, flats, mpsOf mps⟩
def stamp_Plus.cs : List (CutS R (Int)) := []
theorem stamp_Plus.hE (k : Nat) : EnvOk Try.prog (stamp_Plus.E k) := ⟨tabs, ctOf_ok all_nil, mtNone_ok, mixed, eqs_, flats_, mps_⟩
theorem stamp_Plus.q (k : Nat) (y : Int × Int) : stamp_Plus.p k y = stamp_Plus.F.run stamp_Plus.E Try.f49.results.toList (bodyOf Try.f49) stamp_Plus.cs k y := by kernel_rfl
theorem stamp_Plus.ok (k : Nat) : CsemOk R Try.prog 49 (stamp_Plus.F.sem (stamp_Plus.p k)) := fn_ok (F := stamp_Plus.F) (f := stamp_Plus.p) (E := stamp_Plus.E) stamp_Plus.hE (fun _ => rfl) Try.func49 (body := (bodyOf Try.f49)) rfl (by kernel_rfl) rfl (by decide) (by kernel_rfl) (cuts := stamp_Plus.cs) all_nil stamp_Plus.q k
def clock_behind.F : FnS R (Int × Int × Int) (Int × Int) := ⟨[.agg 2, .lf], [], (.cons (dInt .i64) (.cons (dInt .u64) (.last (dInt .i64) .nil))), .agg 2, [], (.cons (dInt .i64) (.last (dInt .u64) .nil))⟩
def clock_behind.p (k : Nat) (y : Int × Int × Int) : Option (Int × Int) := clock_behind.f y.1 y.2.1 y.2.2
def clock_behind.E (k : Nat) : Env R := ⟨tabOf tabL, ctOf [(49, (stamp_Plus.F.sem (stamp_Plus.p k)))], mtNone, fun _ => false, codes, rts, 40, fun _ => [], fun _ => [], [], eqtOf eqs, fun _ => false, flats, mpsOf mps⟩
def clock_behind.cs : List (CutS R (Int × Int)) := []
theorem clock_behind.hE (k : Nat) : EnvOk Try.prog (clock_behind.E k) := ⟨tabs, ctOf_ok (all_cons (stamp_Plus.ok k) all_nil), mtNone_ok, mixed, eqs_, flats_, mps_⟩
theorem clock_behind.q (k : Nat) (y : Int × Int × Int) : clock_behind.p k y = clock_behind.F.run clock_behind.E Try.f30.results.toList (bodyOf Try.f30) clock_behind.cs k y := by kernel_rfl
theorem clock_behind.ok (k : Nat) : CsemOk R Try.prog 30 (clock_behind.F.sem (clock_behind.p k)) := fn_ok (F := clock_behind.F) (f := clock_behind.p) (E := clock_behind.E) clock_behind.hE (fun _ => rfl) Try.func30 (body := (bodyOf Try.f30)) rfl (by kernel_rfl) rfl (by decide) (by kernel_rfl) (cuts := clock_behind.cs) all_nil clock_behind.q k
def clock_Clock_Date.F : FnS R (S64) (Int × Int) := ⟨[.lf], [], (.last (dEpt 1 0) .nil), .agg 2, [], (.cons (dInt .i64) (.last (dInt .u64) .nil))⟩
def clock_Clock_Date.p (k : Nat) (y : S64) : Option (Int × Int) := clock_Clock_Date.f y
def clock_Clock_Date.E (k : Nat) : Env R := ⟨tabOf tabL, ctOf [(30, (clock_behind.F.sem (clock_behind.p k)))], mtNone, fun f => memB f [30], codes, rts, 12, fun i => ordOf [(1, [(0, 0), (1, 0), (2, 0), (3, 0), (4, 0), (5, 0), (6, 0), (7, 0), (8, 0), (9, 2)])] i, fun _ => [], [], eqtOf eqs, fun _ => false, flats, mpsOf mps⟩
def clock_Clock_Date.cs : List (CutS R (Int × Int)) := []
theorem clock_Clock_Date.hE (k : Nat) : EnvOk Try.prog (clock_Clock_Date.E k) := ⟨tabs, ctOf_ok (all_cons (clock_behind.ok k) all_nil), mtNone_ok, mixed, eqs_, flats_, mps_⟩
theorem clock_Clock_Date.q (k : Nat) (y : S64) : clock_Clock_Date.p k y = clock_Clock_Date.F.run clock_Clock_Date.E Try.f14.results.toList (bodyOf Try.f14) clock_Clock_Date.cs k y := by kernel_rfl
theorem clock_Clock_Date.ok (k : Nat) : CsemOk R Try.prog 14 (clock_Clock_Date.F.sem (clock_Clock_Date.p k)) := fn_ok (F := clock_Clock_Date.F) (f := clock_Clock_Date.p) (E := clock_Clock_Date.E) clock_Clock_Date.hE (fun _ => rfl) Try.func14 (body := (bodyOf Try.f14)) rfl (by kernel_rfl) rfl (by decide) (by kernel_rfl) (cuts := clock_Clock_Date.cs) all_nil clock_Clock_Date.q k
def clock_Clock_Now.F : FnS R (S64) (Int) := ⟨[.lf], [], (.last (dEpt 1 0) .nil), .lf, [], (.last (dInt .u64) .nil)⟩
def clock_Clock_Now.p (k : Nat) (y : S64) : Option (Int) := clock_Clock_Now.f y
def clock_Clock_Now.E (k : Nat) : Env R := ⟨tabOf tabL, ctOf [(14, (clock_Clock_Date.F.sem (clock_Clock_Date.p k)))], mtNone, fun _ => false, codes, rts, 6, fun _ => [], fun _ => [], [], eqtOf eqs, fun _ => false, flats, mpsOf mps⟩
def clock_Clock_Now.cs : List (CutS R (Int)) := []
theorem clock_Clock_Now.hE (k : Nat) : EnvOk Try.prog (clock_Clock_Now.E k) := ⟨tabs, ctOf_ok (all_cons (clock_Clock_Date.ok k) all_nil), mtNone_ok, mixed, eqs_, flats_, mps_⟩
theorem clock_Clock_Now.q (k : Nat) (y : S64) : clock_Clock_Now.p k y = clock_Clock_Now.F.run clock_Clock_Now.E Try.f12.results.toList (bodyOf Try.f12) clock_Clock_Now.cs k y := by kernel_rfl
theorem clock_Clock_Now.ok (k : Nat) : CsemOk R Try.prog 12 (clock_Clock_Now.F.sem (clock_Clock_Now.p k)) := fn_ok (F := clock_Clock_Now.F) (f := clock_Clock_Now.p) (E := clock_Clock_Now.E) clock_Clock_Now.hE (fun _ => rfl) Try.func12 (body := (bodyOf Try.f12)) rfl (by kernel_rfl) rfl (by decide) (by kernel_rfl) (cuts := clock_Clock_Now.cs) all_nil clock_Clock_Now.q k
def clock_Clock_True.F : FnS R (S64) (Int) := ⟨[.lf], [], (.last (dEpt 1 0) .nil), .lf, [], (.last (dInt .u64) .nil)⟩
def clock_Clock_True.p (k : Nat) (y : S64) : Option (Int) := clock_Clock_True.f y
def clock_Clock_True.E (k : Nat) : Env R := ⟨tabOf tabL, ctOf [], mtNone, fun _ => false, codes, rts, 8, fun _ => [], fun _ => [], [], eqtOf eqs, fun _ => false, flats, mpsOf mps⟩
def clock_Clock_True.cs : List (CutS R (Int)) := []
theorem clock_Clock_True.hE (k : Nat) : EnvOk Try.prog (clock_Clock_True.E k) := ⟨tabs, ctOf_ok all_nil, mtNone_ok, mixed, eqs_, flats_, mps_⟩
theorem clock_Clock_True.q (k : Nat) (y : S64) : clock_Clock_True.p k y = clock_Clock_True.F.run clock_Clock_True.E Try.f13.results.toList (bodyOf Try.f13) clock_Clock_True.cs k y := by kernel_rfl
theorem clock_Clock_True.ok (k : Nat) : CsemOk R Try.prog 13 (clock_Clock_True.F.sem (clock_Clock_True.p k)) := fn_ok (F := clock_Clock_True.F) (f := clock_Clock_True.p) (E := clock_Clock_True.E) clock_Clock_True.hE (fun _ => rfl) Try.func13 (body := (bodyOf Try.f13)) rfl (by kernel_rfl) rfl (by decide) (by kernel_rfl) (cuts := clock_Clock_True.cs) all_nil clock_Clock_True.q k
def clock_Clock_Error.F : FnS R (S64) (Int) := ⟨[.lf], [], (.last (dEpt 1 0) .nil), .lf, [], (.last (dInt .i64) .nil)⟩
def clock_Clock_Error.p (k : Nat) (y : S64) : Option (Int) := clock_Clock_Error.f y
def clock_Clock_Error.E (k : Nat) : Env R := ⟨tabOf tabL, ctOf [], mtNone, fun _ => false, codes, rts, 7, fun _ => [], fun _ => [], [], eqtOf eqs, fun _ => false, flats, mpsOf mps⟩
def clock_Clock_Error.cs : List (CutS R (Int)) := []
theorem clock_Clock_Error.hE (k : Nat) : EnvOk Try.prog (clock_Clock_Error.E k) := ⟨tabs, ctOf_ok all_nil, mtNone_ok, mixed, eqs_, flats_, mps_⟩
theorem clock_Clock_Error.q (k : Nat) (y : S64) : clock_Clock_Error.p k y = clock_Clock_Error.F.run clock_Clock_Error.E Try.f11.results.toList (bodyOf Try.f11) clock_Clock_Error.cs k y := by kernel_rfl
theorem clock_Clock_Error.ok (k : Nat) : CsemOk R Try.prog 11 (clock_Clock_Error.F.sem (clock_Clock_Error.p k)) := fn_ok (F := clock_Clock_Error.F) (f := clock_Clock_Error.p) (E := clock_Clock_Error.E) clock_Clock_Error.hE (fun _ => rfl) Try.func11 (body := (bodyOf Try.f11)) rfl (by kernel_rfl) rfl (by decide) (by kernel_rfl) (cuts := clock_Clock_Error.cs) all_nil clock_Clock_Error.q k
def clock_Clock_SetRate.F : FnS R (Int × Int × Int × Int × Int × Int × Int × Int × Int) (Int × Int × Int × Int × Int × Int × Int × Int) := ⟨[.lf, .lf], [.blk 8 64], (.ptr 0 0 (.cons (dInt .i64) (.cons (dInt .i64) (.cons (dInt .i64) (.cons (dInt .i64) (.cons (dInt .u64) (.cons (dInt .i64) (.cons (dInt .i64) (.cons (dInt .i64) (.last (dInt .i64) .nil)))))))))), .tup [], [.blk 8 64], (.cons (dInt .i64) (.cons (dInt .i64) (.cons (dInt .i64) (.cons (dInt .u64) (.cons (dInt .i64) (.cons (dInt .i64) (.cons (dInt .i64) (.last (dInt .i64) .nil))))))))⟩
def clock_Clock_SetRate.p (k : Nat) (y : Int × Int × Int × Int × Int × Int × Int × Int × Int) : Option (Int × Int × Int × Int × Int × Int × Int × Int) := clock_Clock_SetRate.f y.1 y.2.1 y.2.2.1 y.2.2.2.1 y.2.2.2.2.1 y.2.2.2.2.2.1 y.2.2.2.2.2.2.1 y.2.2.2.2.2.2.2.1 y.2.2.2.2.2.2.2.2
def clock_Clock_SetRate.E (k : Nat) : Env R := ⟨tabOf tabL, ctOf [(25, (fixed_Cut.F.sem (fixed_Cut.p k)))], mtNone, fun _ => false, codes, rts, 10, fun _ => [], fun _ => [], [], eqtOf eqs, fun _ => false, flats, mpsOf mps⟩
def clock_Clock_SetRate.cs : List (CutS R (Int × Int × Int × Int × Int × Int × Int × Int)) := []
theorem clock_Clock_SetRate.hE (k : Nat) : EnvOk Try.prog (clock_Clock_SetRate.E k) := ⟨tabs, ctOf_ok (all_cons (fixed_Cut.ok k) all_nil), mtNone_ok, mixed, eqs_, flats_, mps_⟩
theorem clock_Clock_SetRate.q (k : Nat) (y : Int × Int × Int × Int × Int × Int × Int × Int × Int) : clock_Clock_SetRate.p k y = clock_Clock_SetRate.F.run clock_Clock_SetRate.E Try.f31.results.toList (bodyOf Try.f31) clock_Clock_SetRate.cs k y := by kernel_rfl
theorem clock_Clock_SetRate.ok (k : Nat) : CsemOk R Try.prog 31 (clock_Clock_SetRate.F.sem (clock_Clock_SetRate.p k)) := fn_ok (F := clock_Clock_SetRate.F) (f := clock_Clock_SetRate.p) (E := clock_Clock_SetRate.E) clock_Clock_SetRate.hE (fun _ => rfl) Try.func31 (body := (bodyOf Try.f31)) rfl (by kernel_rfl) rfl (by decide) (by kernel_rfl) (cuts := clock_Clock_SetRate.cs) all_nil clock_Clock_SetRate.q k
def clock_Clock_day.F : FnS R (S64) (Int) := ⟨[.lf], [], (.last (dEpt 1 0) .nil), .lf, [], (.last (dInt .i64) .nil)⟩
def clock_Clock_day.p (k : Nat) (y : S64) : Option (Int) := clock_Clock_day.f y
def clock_Clock_day.E (k : Nat) : Env R := ⟨tabOf tabL, ctOf [(14, (clock_Clock_Date.F.sem (clock_Clock_Date.p k)))], mtNone, fun _ => false, codes, rts, 22, fun _ => [], fun _ => [], [], eqtOf eqs, fun _ => false, flats, mpsOf mps⟩
def clock_Clock_day.cs : List (CutS R (Int)) := []
theorem clock_Clock_day.hE (k : Nat) : EnvOk Try.prog (clock_Clock_day.E k) := ⟨tabs, ctOf_ok (all_cons (clock_Clock_Date.ok k) all_nil), mtNone_ok, mixed, eqs_, flats_, mps_⟩
theorem clock_Clock_day.q (k : Nat) (y : S64) : clock_Clock_day.p k y = clock_Clock_day.F.run clock_Clock_day.E Try.f28.results.toList (bodyOf Try.f28) clock_Clock_day.cs k y := by kernel_rfl
theorem clock_Clock_day.ok (k : Nat) : CsemOk R Try.prog 28 (clock_Clock_day.F.sem (clock_Clock_day.p k)) := fn_ok (F := clock_Clock_day.F) (f := clock_Clock_day.p) (E := clock_Clock_day.E) clock_Clock_day.hE (fun _ => rfl) Try.func28 (body := (bodyOf Try.f28)) rfl (by kernel_rfl) rfl (by decide) (by kernel_rfl) (cuts := clock_Clock_day.cs) all_nil clock_Clock_day.q k
def clock_oscillator_gain.F : FnS R (S64) (Int) := ⟨[.lf], [], (.last (dEpt 1 0) .nil), .lf, [], (.last (dInt .i64) .nil)⟩
def clock_oscillator_gain.p (k : Nat) (y : S64) : Option (Int) := clock_oscillator_gain.f y
def clock_oscillator_gain.E (k : Nat) : Env R := ⟨tabOf tabL, ctOf [], mtNone, fun _ => false, codes, rts, 12, fun i => ordOf [(1, [(0, 0), (1, 0), (2, 0), (3, 0), (4, 0), (5, 0), (6, 0), (7, 0), (8, 0), (9, 0)])] i, fun _ => [], [], eqtOf eqs, fun _ => false, flats, mpsOf mps⟩
def clock_oscillator_gain.cs : List (CutS R (Int)) := []
theorem clock_oscillator_gain.hE (k : Nat) : EnvOk Try.prog (clock_oscillator_gain.E k) := ⟨tabs, ctOf_ok all_nil, mtNone_ok, mixed, eqs_, flats_, mps_⟩
theorem clock_oscillator_gain.q (k : Nat) (y : S64) : clock_oscillator_gain.p k y = clock_oscillator_gain.F.run clock_oscillator_gain.E Try.f60.results.toList (bodyOf Try.f60) clock_oscillator_gain.cs k y := by kernel_rfl
theorem clock_oscillator_gain.ok (k : Nat) : CsemOk R Try.prog 60 (clock_oscillator_gain.F.sem (clock_oscillator_gain.p k)) := fn_ok (F := clock_oscillator_gain.F) (f := clock_oscillator_gain.p) (E := clock_oscillator_gain.E) clock_oscillator_gain.hE (fun _ => rfl) Try.func60 (body := (bodyOf Try.f60)) rfl (by kernel_rfl) rfl (by decide) (by kernel_rfl) (cuts := clock_oscillator_gain.cs) all_nil clock_oscillator_gain.q k
def clock_Clock_tick.F : FnS R (Int × Int × Int × Int × Int × Int × Int × Int) (Int × Int × Int × Int × Int × Int × Int × Int) := ⟨[.lf, .lf], [.blk 8 64], (.ptr 0 0 (.ifc 66 0 0 (.cons (dInt .i64) (.cons (dInt .i64) (.cons (dInt .i64) (.cons (dInt .u64) (.cons (dInt .i64) (.cons (dInt .i64) (.cons (dInt .i64) (.last (dInt .i64) .nil)))))))))), .tup [], [.blk 8 64], (.cons (dInt .i64) (.cons (dInt .i64) (.cons (dInt .i64) (.cons (dInt .u64) (.cons (dInt .i64) (.cons (dInt .i64) (.cons (dInt .i64) (.last (dInt .i64) .nil))))))))⟩
def clock_Clock_tick.p (k : Nat) (y : Int × Int × Int × Int × Int × Int × Int × Int) : Option (Int × Int × Int × Int × Int × Int × Int × Int) := clock_Clock_tick.f y.1 y.2.1 y.2.2.1 y.2.2.2.1 y.2.2.2.2.1 y.2.2.2.2.2.1 y.2.2.2.2.2.2.1 y.2.2.2.2.2.2.2
def clock_Clock_tick.E (k : Nat) : Env R := ⟨tabOf tabL, ctOf [(30, (clock_behind.F.sem (clock_behind.p k))), (60, (clock_oscillator_gain.F.sem (clock_oscillator_gain.p k))), (27, (fixed_Add.F.sem (fixed_Add.p k)))], mtOf [(66, "foliot/clock.gain", 60)], fun f => memB f [27, 60], codes, rts, 41, fun i => ordOf [(1, [(0, 0), (1, 0), (2, 0), (3, 0), (4, 0), (5, 0), (6, 0), (7, 0), (8, 0), (9, 2)]), (2, [(0, 0), (1, 0), (2, 0), (3, 0), (4, 0), (5, 0), (6, 0), (7, 0), (8, 0), (9, 0), (10, 0), (11, 0), (12, 0), (13, 2)])] i, fun _ => [], [], eqtOf eqs, fun _ => false, flats, mpsOf mps⟩
def clock_Clock_tick.cs : List (CutS R (Int × Int × Int × Int × Int × Int × Int × Int)) := []
theorem clock_Clock_tick.hE (k : Nat) : EnvOk Try.prog (clock_Clock_tick.E k) := ⟨tabs, ctOf_ok (all_cons (clock_behind.ok k) (all_cons (clock_oscillator_gain.ok k) (all_cons (fixed_Add.ok k) all_nil))), (mtOf_ok (mt_cons mt_66_foliot_clock_gain mt_nil)), mixed, eqs_, flats_, mps_⟩
theorem clock_Clock_tick.q (k : Nat) (y : Int × Int × Int × Int × Int × Int × Int × Int) : clock_Clock_tick.p k y = clock_Clock_tick.F.run clock_Clock_tick.E Try.f29.results.toList (bodyOf Try.f29) clock_Clock_tick.cs k y := by kernel_rfl
theorem clock_Clock_tick.ok (k : Nat) : CsemOk R Try.prog 29 (clock_Clock_tick.F.sem (clock_Clock_tick.p k)) := fn_ok (F := clock_Clock_tick.F) (f := clock_Clock_tick.p) (E := clock_Clock_tick.E) clock_Clock_tick.hE (fun _ => rfl) Try.func29 (body := (bodyOf Try.f29)) rfl (by kernel_rfl) rfl (by decide) (by kernel_rfl) (cuts := clock_Clock_tick.cs) all_nil clock_Clock_tick.q k
def clock_Clock_Step.F : FnS R (Int × Int × Int × Int × Int × Int × Int × Int × Int) (Int × Int × Int × Int × Int × Int × Int × Int) := ⟨[.lf, .lf], [.blk 8 64], (.ptr 0 0 (.cons (dInt .i64) (.cons (dInt .i64) (.cons (dInt .i64) (.cons (dInt .i64) (.cons (dInt .u64) (.cons (dInt .i64) (.cons (dInt .i64) (.cons (dInt .i64) (.last (dInt .i64) .nil)))))))))), .tup [], [.blk 8 64], (.cons (dInt .i64) (.cons (dInt .i64) (.cons (dInt .i64) (.cons (dInt .u64) (.cons (dInt .i64) (.cons (dInt .i64) (.cons (dInt .i64) (.last (dInt .i64) .nil))))))))⟩
def clock_Clock_Step.p (k : Nat) (y : Int × Int × Int × Int × Int × Int × Int × Int × Int) : Option (Int × Int × Int × Int × Int × Int × Int × Int) := clock_Clock_Step.f y.1 y.2.1 y.2.2.1 y.2.2.2.1 y.2.2.2.2.1 y.2.2.2.2.2.1 y.2.2.2.2.2.2.1 y.2.2.2.2.2.2.2.1 y.2.2.2.2.2.2.2.2
def clock_Clock_Step.E (k : Nat) : Env R := ⟨tabOf tabL, ctOf [(27, (fixed_Add.F.sem (fixed_Add.p k)))], mtNone, fun _ => false, codes, rts, 13, fun _ => [], fun _ => [], [], eqtOf eqs, fun _ => false, flats, mpsOf mps⟩
def clock_Clock_Step.cs : List (CutS R (Int × Int × Int × Int × Int × Int × Int × Int)) := []
theorem clock_Clock_Step.hE (k : Nat) : EnvOk Try.prog (clock_Clock_Step.E k) := ⟨tabs, ctOf_ok (all_cons (fixed_Add.ok k) all_nil), mtNone_ok, mixed, eqs_, flats_, mps_⟩
theorem clock_Clock_Step.q (k : Nat) (y : Int × Int × Int × Int × Int × Int × Int × Int × Int) : clock_Clock_Step.p k y = clock_Clock_Step.F.run clock_Clock_Step.E Try.f9.results.toList (bodyOf Try.f9) clock_Clock_Step.cs k y := by kernel_rfl
theorem clock_Clock_Step.ok (k : Nat) : CsemOk R Try.prog 9 (clock_Clock_Step.F.sem (clock_Clock_Step.p k)) := fn_ok (F := clock_Clock_Step.F) (f := clock_Clock_Step.p) (E := clock_Clock_Step.E) clock_Clock_Step.hE (fun _ => rfl) Try.func9 (body := (bodyOf Try.f9)) rfl (by kernel_rfl) rfl (by decide) (by kernel_rfl) (cuts := clock_Clock_Step.cs) all_nil clock_Clock_Step.q k
def clock_Clock_Pass.F : FnS R (Int × Int × Int × Int × Int × Int × Int × Int × Int) (Int × Int × Int × Int × Int × Int × Int × Int × Int) := ⟨[.lf, .lf], [.blk 8 64], (.ptr 0 0 (.cons (dInt .i64) (.cons (dInt .i64) (.cons (dInt .i64) (.cons (dInt .i64) (.cons (dInt .u64) (.cons (dInt .i64) (.cons (dInt .i64) (.cons (dInt .i64) (.last (dInt .i64) .nil)))))))))), .lf, [.blk 8 64], (.cons (dInt .i64) (.cons (dInt .i64) (.cons (dInt .i64) (.cons (dInt .i64) (.cons (dInt .u64) (.cons (dInt .i64) (.cons (dInt .i64) (.cons (dInt .i64) (.last (dInt .i64) .nil)))))))))⟩
def clock_Clock_Pass.p (k : Nat) (y : Int × Int × Int × Int × Int × Int × Int × Int × Int) : Option (Int × Int × Int × Int × Int × Int × Int × Int × Int) := clock_Clock_Pass.f k y.1 y.2.1 y.2.2.1 y.2.2.2.1 y.2.2.2.2.1 y.2.2.2.2.2.1 y.2.2.2.2.2.2.1 y.2.2.2.2.2.2.2.1 y.2.2.2.2.2.2.2.2
def clock_Clock_Pass.E (k : Nat) : Env R := ⟨tabOf tabL, ctOf [(28, (clock_Clock_day.F.sem (clock_Clock_day.p k))), (29, (clock_Clock_tick.F.sem (clock_Clock_tick.p k))), (9, (clock_Clock_Step.F.sem (clock_Clock_Step.p k)))], mtNone, fun f => memB f [28], codes, rts, 65, fun _ => [], fun _ => [], [], eqtOf eqs, fun _ => false, flats, mpsOf mps⟩
def clock_Clock_Pass.cl0 : CutS R (Int × Int × Int × Int × Int × Int × Int × Int × Int) := ⟨10, [0, 25, 26], [], [.lf, .lf, .lf], [.blk 8 64], Int × Int × Int × Int × Int × Int × Int × Int × Int × Int, (.ptr 0 0 (.cons (dInt .i64) (.cons (dInt .i64) (.cons (dInt .i64) (.cons (dInt .i64) (.cons (dInt .i64) (.cons (dInt .u64) (.cons (dInt .i64) (.cons (dInt .i64) (.cons (dInt .i64) (.last (dInt .i64) .nil))))))))))), fun k z => clock_Clock_Pass.l0 k z.1 z.2.1 z.2.2.1 z.2.2.2.1 z.2.2.2.2.1 z.2.2.2.2.2.1 z.2.2.2.2.2.2.1 z.2.2.2.2.2.2.2.1 z.2.2.2.2.2.2.2.2.1 z.2.2.2.2.2.2.2.2.2⟩
def clock_Clock_Pass.cj0 : CutS R (Int × Int × Int × Int × Int × Int × Int × Int × Int) := ⟨18, [0, 5, 25, 26], [], [.lf, .lf, .lf, .lf], [.blk 8 64], Int × Int × Int × Int × Int × Int × Int × Int × Int × Int × Int, (.ptr 0 0 (.cons (dInt .i64) (.cons (dInt .i64) (.cons (dInt .i64) (.cons (dInt .i64) (.cons (dInt .i64) (.cons (dInt .i64) (.cons (dInt .u64) (.cons (dInt .i64) (.cons (dInt .i64) (.cons (dInt .i64) (.last (dInt .i64) .nil)))))))))))), fun k z => clock_Clock_Pass.j0 k z.1 z.2.1 z.2.2.1 z.2.2.2.1 z.2.2.2.2.1 z.2.2.2.2.2.1 z.2.2.2.2.2.2.1 z.2.2.2.2.2.2.2.1 z.2.2.2.2.2.2.2.2.1 z.2.2.2.2.2.2.2.2.2.1 z.2.2.2.2.2.2.2.2.2.2⟩
def clock_Clock_Pass.cs : List (CutS R (Int × Int × Int × Int × Int × Int × Int × Int × Int)) := [clock_Clock_Pass.cl0, clock_Clock_Pass.cj0]
theorem clock_Clock_Pass.hE (k : Nat) : EnvOk Try.prog (clock_Clock_Pass.E k) := ⟨tabs, ctOf_ok (all_cons (clock_Clock_day.ok k) (all_cons (clock_Clock_tick.ok k) (all_cons (clock_Clock_Step.ok k) all_nil))), mtNone_ok, mixed, eqs_, flats_, mps_⟩
theorem clock_Clock_Pass.ol0 : (clock_Clock_Pass.cl0).Ok clock_Clock_Pass.E Try.f10.results.toList 1 (bodyOf Try.f10) clock_Clock_Pass.cs clock_Clock_Pass.F.ret := ⟨fun z => rfl, fun k z => by
 show clock_Clock_Pass.l0 (k + 1) z.1 z.2.1 z.2.2.1 z.2.2.2.1 z.2.2.2.2.1 z.2.2.2.2.2.1 z.2.2.2.2.2.2.1 z.2.2.2.2.2.2.2.1 z.2.2.2.2.2.2.2.2.1 z.2.2.2.2.2.2.2.2.2 = _
 rw [clock_Clock_Pass.l0]
 kernel_rfl⟩
theorem clock_Clock_Pass.oj0 : (clock_Clock_Pass.cj0).Ok clock_Clock_Pass.E Try.f10.results.toList 1 (bodyOf Try.f10) clock_Clock_Pass.cs clock_Clock_Pass.F.ret := ⟨fun z => rfl, fun k z => by
 show clock_Clock_Pass.j0 (k + 1) z.1 z.2.1 z.2.2.1 z.2.2.2.1 z.2.2.2.2.1 z.2.2.2.2.2.1 z.2.2.2.2.2.2.1 z.2.2.2.2.2.2.2.1 z.2.2.2.2.2.2.2.2.1 z.2.2.2.2.2.2.2.2.2.1 z.2.2.2.2.2.2.2.2.2.2 = _
 rw [clock_Clock_Pass.j0]
 kernel_rfl⟩
theorem clock_Clock_Pass.q (k : Nat) (y : Int × Int × Int × Int × Int × Int × Int × Int × Int) : clock_Clock_Pass.p k y = clock_Clock_Pass.F.run clock_Clock_Pass.E Try.f10.results.toList (bodyOf Try.f10) clock_Clock_Pass.cs k y := by kernel_rfl
theorem clock_Clock_Pass.ok (k : Nat) : CsemOk R Try.prog 10 (clock_Clock_Pass.F.sem (clock_Clock_Pass.p k)) := fn_ok (F := clock_Clock_Pass.F) (f := clock_Clock_Pass.p) (E := clock_Clock_Pass.E) clock_Clock_Pass.hE (fun _ => rfl) Try.func10 (body := (bodyOf Try.f10)) rfl (by kernel_rfl) rfl (by decide) (by kernel_rfl) (cuts := clock_Clock_Pass.cs) (all_cons clock_Clock_Pass.ol0 (all_cons clock_Clock_Pass.oj0 all_nil)) clock_Clock_Pass.q k
def clock_Clock_SetLeap.F : FnS R (Int × Int × Int × Int × Int × Int × Int × Int × Int) (Bool × Int × Int × Int × Int × Int × Int × Int × Int) := ⟨[.lf, .lf], [.blk 8 64], (.ptr 0 0 (.cons (dInt .i64) (.cons (dInt .i64) (.cons (dInt .i64) (.cons (dInt .i64) (.cons (dInt .u64) (.cons (dInt .i64) (.cons (dInt .i64) (.cons (dInt .i64) (.last (dInt .i64) .nil)))))))))), .lf, [.blk 8 64], (.cons dBool (.cons (dInt .i64) (.cons (dInt .i64) (.cons (dInt .i64) (.cons (dInt .u64) (.cons (dInt .i64) (.cons (dInt .i64) (.cons (dInt .i64) (.last (dInt .i64) .nil)))))))))⟩
def clock_Clock_SetLeap.p (k : Nat) (y : Int × Int × Int × Int × Int × Int × Int × Int × Int) : Option (Bool × Int × Int × Int × Int × Int × Int × Int × Int) := clock_Clock_SetLeap.f y.1 y.2.1 y.2.2.1 y.2.2.2.1 y.2.2.2.2.1 y.2.2.2.2.2.1 y.2.2.2.2.2.2.1 y.2.2.2.2.2.2.2.1 y.2.2.2.2.2.2.2.2
def clock_Clock_SetLeap.E (k : Nat) : Env R := ⟨tabOf tabL, ctOf [], mtNone, fun _ => false, codes, rts, 14, fun _ => [], fun _ => [], [], eqtOf eqs, fun _ => false, flats, mpsOf mps⟩
def clock_Clock_SetLeap.cs : List (CutS R (Bool × Int × Int × Int × Int × Int × Int × Int × Int)) := []
theorem clock_Clock_SetLeap.hE (k : Nat) : EnvOk Try.prog (clock_Clock_SetLeap.E k) := ⟨tabs, ctOf_ok all_nil, mtNone_ok, mixed, eqs_, flats_, mps_⟩
theorem clock_Clock_SetLeap.q (k : Nat) (y : Int × Int × Int × Int × Int × Int × Int × Int × Int) : clock_Clock_SetLeap.p k y = clock_Clock_SetLeap.F.run clock_Clock_SetLeap.E Try.f17.results.toList (bodyOf Try.f17) clock_Clock_SetLeap.cs k y := by kernel_rfl
theorem clock_Clock_SetLeap.ok (k : Nat) : CsemOk R Try.prog 17 (clock_Clock_SetLeap.F.sem (clock_Clock_SetLeap.p k)) := fn_ok (F := clock_Clock_SetLeap.F) (f := clock_Clock_SetLeap.p) (E := clock_Clock_SetLeap.E) clock_Clock_SetLeap.hE (fun _ => rfl) Try.func17 (body := (bodyOf Try.f17)) rfl (by kernel_rfl) rfl (by decide) (by kernel_rfl) (cuts := clock_Clock_SetLeap.cs) all_nil clock_Clock_SetLeap.q k
def foliotlaw16_shown.F : FnS R (Unit) (Bool) := ⟨[], [], .nil, .lf, [], (.last dBool .nil)⟩
def foliotlaw16_shown.p (k : Nat) (y : Unit) : Option (Bool) := foliotlaw16_shown.f k
def foliotlaw16_shown.E (k : Nat) : Env R := ⟨tabOf tabL, ctOf [(7, (clock_New.F.sem (clock_New.p k))), (12, (clock_Clock_Now.F.sem (clock_Clock_Now.p k))), (13, (clock_Clock_True.F.sem (clock_Clock_True.p k))), (11, (clock_Clock_Error.F.sem (clock_Clock_Error.p k))), (31, (clock_Clock_SetRate.F.sem (clock_Clock_SetRate.p k))), (10, (clock_Clock_Pass.F.sem (clock_Clock_Pass.p k))), (17, (clock_Clock_SetLeap.F.sem (clock_Clock_SetLeap.p k)))], mtNone, fun f => memB f [11, 12, 13], codes, rts, 82, fun _ => [], fun _ => [], [], eqtOf eqs, fun _ => false, flats, mpsOf mps⟩
def foliotlaw16_shown.cs : List (CutS R (Bool)) := []
theorem foliotlaw16_shown.hE (k : Nat) : EnvOk Try.prog (foliotlaw16_shown.E k) := ⟨tabs, ctOf_ok (all_cons (clock_New.ok k) (all_cons (clock_Clock_Now.ok k) (all_cons (clock_Clock_True.ok k) (all_cons (clock_Clock_Error.ok k) (all_cons (clock_Clock_SetRate.ok k) (all_cons (clock_Clock_Pass.ok k) (all_cons (clock_Clock_SetLeap.ok k) all_nil))))))), mtNone_ok, mixed, eqs_, flats_, mps_⟩
theorem foliotlaw16_shown.q (k : Nat) (y : Unit) : foliotlaw16_shown.p k y = foliotlaw16_shown.F.run foliotlaw16_shown.E Try.f16.results.toList (bodyOf Try.f16) foliotlaw16_shown.cs k y := by kernel_rfl
theorem foliotlaw16_shown.ok (k : Nat) : CsemOk R Try.prog 16 (foliotlaw16_shown.F.sem (foliotlaw16_shown.p k)) := fn_ok (F := foliotlaw16_shown.F) (f := foliotlaw16_shown.p) (E := foliotlaw16_shown.E) foliotlaw16_shown.hE (fun _ => rfl) Try.func16 (body := (bodyOf Try.f16)) rfl (by kernel_rfl) rfl (by decide) (by kernel_rfl) (cuts := foliotlaw16_shown.cs) all_nil foliotlaw16_shown.q k
def foliotlaw16_floor.F : FnS R (Int) (Int) := ⟨[.lf], [], (.last (dInt .i64) .nil), .lf, [], (.last (dInt .i64) .nil)⟩
def foliotlaw16_floor.p (k : Nat) (y : Int) : Option (Int) := foliotlaw16_floor.f y
def foliotlaw16_floor.E (k : Nat) : Env R := ⟨tabOf tabL, ctOf [], mtNone, fun _ => false, codes, rts, 17, fun _ => [], fun _ => [], [], eqtOf eqs, fun _ => false, flats, mpsOf mps⟩
def foliotlaw16_floor.cs : List (CutS R (Int)) := []
theorem foliotlaw16_floor.hE (k : Nat) : EnvOk Try.prog (foliotlaw16_floor.E k) := ⟨tabs, ctOf_ok all_nil, mtNone_ok, mixed, eqs_, flats_, mps_⟩
theorem foliotlaw16_floor.q (k : Nat) (y : Int) : foliotlaw16_floor.p k y = foliotlaw16_floor.F.run foliotlaw16_floor.E Try.f18.results.toList (bodyOf Try.f18) foliotlaw16_floor.cs k y := by kernel_rfl
theorem foliotlaw16_floor.ok (k : Nat) : CsemOk R Try.prog 18 (foliotlaw16_floor.F.sem (foliotlaw16_floor.p k)) := fn_ok (F := foliotlaw16_floor.F) (f := foliotlaw16_floor.p) (E := foliotlaw16_floor.E) foliotlaw16_floor.hE (fun _ => rfl) Try.func18 (body := (bodyOf Try.f18)) rfl (by kernel_rfl) rfl (by decide) (by kernel_rfl) (cuts := foliotlaw16_floor.cs) all_nil foliotlaw16_floor.q k
def foliotlaw16_ClockLeaps.F : FnS R (Int × Int × Int × (List Int)) (Bool) := ⟨[.agg 2, .lf, .lf], [], (.cons (dInt .i64) (.cons (dInt .u64) (.cons (dInt .i64) (.last (dRo 0) .nil)))), .lf, [], (.last dBool .nil)⟩
def foliotlaw16_ClockLeaps.p (k : Nat) (y : Int × Int × Int × (List Int)) : Option (Bool) := foliotlaw16_ClockLeaps.f k y.1 y.2.1 y.2.2.1 y.2.2.2
def foliotlaw16_ClockLeaps.E (k : Nat) : Env R := ⟨tabOf tabL, ctOf [(16, (foliotlaw16_shown.F.sem (foliotlaw16_shown.p k))), (7, (clock_New.F.sem (clock_New.p k))), (17, (clock_Clock_SetLeap.F.sem (clock_Clock_SetLeap.p k))), (18, (foliotlaw16_floor.F.sem (foliotlaw16_floor.p k))), (10, (clock_Clock_Pass.F.sem (clock_Clock_Pass.p k))), (11, (clock_Clock_Error.F.sem (clock_Clock_Error.p k)))], mtNone, fun f => memB f [11], codes, rts, 94, fun _ => [], fun _ => [], [], eqtOf eqs, fun _ => false, flats, mpsOf mps⟩
def foliotlaw16_ClockLeaps.cj0 : CutS R (Bool) := ⟨18, [2, 3, 7, 8], [], [.lf, .lf, .lf, .lf], [.blk 2 25, .blk 8 64], (List Int) × Int × Int × Int × Int × Int × Int × Int × Int × Int × Int × Int, (.cons (dRo 0) (.ptr 0 0 (.ptr 1 0 (.cons (dInt .i64) (.cons (dInt .i64) (.cons (dInt .u64) (.cons (dInt .i64) (.cons (dInt .i64) (.cons (dInt .i64) (.cons (dInt .u64) (.cons (dInt .i64) (.cons (dInt .i64) (.cons (dInt .i64) (.last (dInt .i64) .nil)))))))))))))), fun k z => foliotlaw16_ClockLeaps.j0 k z.1 z.2.1 z.2.2.1 z.2.2.2.1 z.2.2.2.2.1 z.2.2.2.2.2.1 z.2.2.2.2.2.2.1 z.2.2.2.2.2.2.2.1 z.2.2.2.2.2.2.2.2.1 z.2.2.2.2.2.2.2.2.2.1 z.2.2.2.2.2.2.2.2.2.2.1 z.2.2.2.2.2.2.2.2.2.2.2⟩
def foliotlaw16_ClockLeaps.cl0 : CutS R (Bool) := ⟨24, [3, 7, 8, 9, 10, 50, 51, 52], [], [.lf, .lf, .lf, .lf, .lf, .lf, .lf, .lf], [.blk 2 25, .blk 8 64], Int × Int × Int × (List Int) × Int × Int × Int × Int × Int × Int × Int × Int × Int × Int × Int × Int, (.ptr 0 0 (.ptr 1 0 (.cons (dInt .i64) (.cons (dInt .i64) (.cons (dInt .i64) (.cons (dRo 0) (.cons (dInt .i64) (.cons (dInt .i64) (.cons (dInt .i64) (.cons (dInt .u64) (.cons (dInt .i64) (.cons (dInt .i64) (.cons (dInt .i64) (.cons (dInt .u64) (.cons (dInt .i64) (.cons (dInt .i64) (.cons (dInt .i64) (.last (dInt .i64) .nil)))))))))))))))))), fun k z => foliotlaw16_ClockLeaps.l0 k z.1 z.2.1 z.2.2.1 z.2.2.2.1 z.2.2.2.2.1 z.2.2.2.2.2.1 z.2.2.2.2.2.2.1 z.2.2.2.2.2.2.2.1 z.2.2.2.2.2.2.2.2.1 z.2.2.2.2.2.2.2.2.2.1 z.2.2.2.2.2.2.2.2.2.2.1 z.2.2.2.2.2.2.2.2.2.2.2.1 z.2.2.2.2.2.2.2.2.2.2.2.2.1 z.2.2.2.2.2.2.2.2.2.2.2.2.2.1 z.2.2.2.2.2.2.2.2.2.2.2.2.2.2.1 z.2.2.2.2.2.2.2.2.2.2.2.2.2.2.2⟩
def foliotlaw16_ClockLeaps.cj1 : CutS R (Bool) := ⟨42, [3, 7, 8, 9, 10, 13, 50, 51, 52], [], [.lf, .lf, .lf, .lf, .lf, .lf, .lf, .lf, .lf], [.blk 2 25, .blk 8 64], Int × Int × Int × Int × (List Int) × Int × Int × Int × Int × Int × Int × Int × Int × Int × Int × Int × Int, (.ptr 0 0 (.ptr 1 0 (.cons (dInt .i64) (.cons (dInt .i64) (.cons (dInt .i64) (.cons (dInt .i64) (.cons (dRo 0) (.cons (dInt .i64) (.cons (dInt .i64) (.cons (dInt .i64) (.cons (dInt .u64) (.cons (dInt .i64) (.cons (dInt .i64) (.cons (dInt .i64) (.cons (dInt .u64) (.cons (dInt .i64) (.cons (dInt .i64) (.cons (dInt .i64) (.last (dInt .i64) .nil))))))))))))))))))), fun k z => foliotlaw16_ClockLeaps.j1 k z.1 z.2.1 z.2.2.1 z.2.2.2.1 z.2.2.2.2.1 z.2.2.2.2.2.1 z.2.2.2.2.2.2.1 z.2.2.2.2.2.2.2.1 z.2.2.2.2.2.2.2.2.1 z.2.2.2.2.2.2.2.2.2.1 z.2.2.2.2.2.2.2.2.2.2.1 z.2.2.2.2.2.2.2.2.2.2.2.1 z.2.2.2.2.2.2.2.2.2.2.2.2.1 z.2.2.2.2.2.2.2.2.2.2.2.2.2.1 z.2.2.2.2.2.2.2.2.2.2.2.2.2.2.1 z.2.2.2.2.2.2.2.2.2.2.2.2.2.2.2.1 z.2.2.2.2.2.2.2.2.2.2.2.2.2.2.2.2⟩
def foliotlaw16_ClockLeaps.cs : List (CutS R (Bool)) := [foliotlaw16_ClockLeaps.cj0, foliotlaw16_ClockLeaps.cl0, foliotlaw16_ClockLeaps.cj1]
theorem foliotlaw16_ClockLeaps.hE (k : Nat) : EnvOk Try.prog (foliotlaw16_ClockLeaps.E k) := ⟨tabs, ctOf_ok (all_cons (foliotlaw16_shown.ok k) (all_cons (clock_New.ok k) (all_cons (clock_Clock_SetLeap.ok k) (all_cons (foliotlaw16_floor.ok k) (all_cons (clock_Clock_Pass.ok k) (all_cons (clock_Clock_Error.ok k) all_nil)))))), mtNone_ok, mixed, eqs_, flats_, mps_⟩
theorem foliotlaw16_ClockLeaps.oj0 : (foliotlaw16_ClockLeaps.cj0).Ok foliotlaw16_ClockLeaps.E Try.f4.results.toList 0 (bodyOf Try.f4) foliotlaw16_ClockLeaps.cs foliotlaw16_ClockLeaps.F.ret := ⟨fun z => rfl, fun k z => by
 show foliotlaw16_ClockLeaps.j0 (k + 1) z.1 z.2.1 z.2.2.1 z.2.2.2.1 z.2.2.2.2.1 z.2.2.2.2.2.1 z.2.2.2.2.2.2.1 z.2.2.2.2.2.2.2.1 z.2.2.2.2.2.2.2.2.1 z.2.2.2.2.2.2.2.2.2.1 z.2.2.2.2.2.2.2.2.2.2.1 z.2.2.2.2.2.2.2.2.2.2.2 = _
 rw [foliotlaw16_ClockLeaps.j0]
 kernel_rfl⟩
theorem foliotlaw16_ClockLeaps.ol0 : (foliotlaw16_ClockLeaps.cl0).Ok foliotlaw16_ClockLeaps.E Try.f4.results.toList 0 (bodyOf Try.f4) foliotlaw16_ClockLeaps.cs foliotlaw16_ClockLeaps.F.ret := ⟨fun z => rfl, fun k z => by
 show foliotlaw16_ClockLeaps.l0 (k + 1) z.1 z.2.1 z.2.2.1 z.2.2.2.1 z.2.2.2.2.1 z.2.2.2.2.2.1 z.2.2.2.2.2.2.1 z.2.2.2.2.2.2.2.1 z.2.2.2.2.2.2.2.2.1 z.2.2.2.2.2.2.2.2.2.1 z.2.2.2.2.2.2.2.2.2.2.1 z.2.2.2.2.2.2.2.2.2.2.2.1 z.2.2.2.2.2.2.2.2.2.2.2.2.1 z.2.2.2.2.2.2.2.2.2.2.2.2.2.1 z.2.2.2.2.2.2.2.2.2.2.2.2.2.2.1 z.2.2.2.2.2.2.2.2.2.2.2.2.2.2.2 = _
 rw [foliotlaw16_ClockLeaps.l0]
 kernel_rfl⟩
theorem foliotlaw16_ClockLeaps.oj1 : (foliotlaw16_ClockLeaps.cj1).Ok foliotlaw16_ClockLeaps.E Try.f4.results.toList 0 (bodyOf Try.f4) foliotlaw16_ClockLeaps.cs foliotlaw16_ClockLeaps.F.ret := ⟨fun z => rfl, fun k z => by
 show foliotlaw16_ClockLeaps.j1 (k + 1) z.1 z.2.1 z.2.2.1 z.2.2.2.1 z.2.2.2.2.1 z.2.2.2.2.2.1 z.2.2.2.2.2.2.1 z.2.2.2.2.2.2.2.1 z.2.2.2.2.2.2.2.2.1 z.2.2.2.2.2.2.2.2.2.1 z.2.2.2.2.2.2.2.2.2.2.1 z.2.2.2.2.2.2.2.2.2.2.2.1 z.2.2.2.2.2.2.2.2.2.2.2.2.1 z.2.2.2.2.2.2.2.2.2.2.2.2.2.1 z.2.2.2.2.2.2.2.2.2.2.2.2.2.2.1 z.2.2.2.2.2.2.2.2.2.2.2.2.2.2.2.1 z.2.2.2.2.2.2.2.2.2.2.2.2.2.2.2.2 = _
 rw [foliotlaw16_ClockLeaps.j1]
 kernel_rfl⟩
theorem foliotlaw16_ClockLeaps.q (k : Nat) (y : Int × Int × Int × (List Int)) : foliotlaw16_ClockLeaps.p k y = foliotlaw16_ClockLeaps.F.run foliotlaw16_ClockLeaps.E Try.f4.results.toList (bodyOf Try.f4) foliotlaw16_ClockLeaps.cs k y := by kernel_rfl
theorem foliotlaw16_ClockLeaps.ok (k : Nat) : CsemOk R Try.prog 4 (foliotlaw16_ClockLeaps.F.sem (foliotlaw16_ClockLeaps.p k)) := fn_ok (F := foliotlaw16_ClockLeaps.F) (f := foliotlaw16_ClockLeaps.p) (E := foliotlaw16_ClockLeaps.E) foliotlaw16_ClockLeaps.hE (fun _ => rfl) Try.func4 (body := (bodyOf Try.f4)) rfl (by kernel_rfl) rfl (by decide) (by kernel_rfl) (cuts := foliotlaw16_ClockLeaps.cs) (all_cons foliotlaw16_ClockLeaps.oj0 (all_cons foliotlaw16_ClockLeaps.ol0 (all_cons foliotlaw16_ClockLeaps.oj1 all_nil))) foliotlaw16_ClockLeaps.q k
end Go.Proofs.Ytfanbadkclelhaa.L5
