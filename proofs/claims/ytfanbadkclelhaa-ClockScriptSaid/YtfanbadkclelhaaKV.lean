/- The contracts of the functions. -/
import Derived.Test.YtfanbadkclelhaaDV
import Derived.Test.YtfanbadkclelhaaEvQ
import Derived.Test.YtfanbadkclelhaaProg
import Derived.Laws.Externs
import Derived.Lib.BitFns
import Derived.Lib.Strings
import Derived.Lib.Slices
import Derived.Lib.Small
import Derived.Lib.Walk
namespace Go.Proofs.Ytfanbadkclelhaa.V
open Go Go.RowKit Go.Proofs.Ytfanbadkclelhaa.Ev
set_option linter.unusedVariables false
set_option maxRecDepth 100000
def D : Nat → Type
 | 0 => S56
 | 1 => S64
 | 2 => Int
 | 3 => S69
 | _ => Unit
def enc : (c : Nat) → D c → List (Lf D)
 | 0 => fun x => [.v (.int .i64 x.f0), .v (.int .i64 x.f1), .v (.int .i64 x.f2), .v (.int .i64 x.f3)]
 | 1 => fun x => [.v (.int .i64 x.f0), .v (.int .i64 x.f1), .v (.int .i64 x.f2), .v (.int .u64 x.f3), .v (.int .i64 x.f4), .v (.int .i64 x.f5), .v (.int .i64 x.f6), .v (.int .i64 x.f7)]
 | 2 => fun x => [.v (.int .i64 x)]
 | 3 => fun x => [.v (.int .i64 x.f0), .v (.int .u64 x.f1), .v (.int .i64 x.f2), .v (.int .i64 x.f3), .v (.int .i64 x.f4), .v (.int .i64 x.f5), .v (.int .i64 x.f6), .v (.int .i64 x.f7)]
 | _ + 4 => fun _ => []
def z : (c : Nat) → D c
 | 0 => (z_S56 : S56)
 | 1 => (z_S64 : S64)
 | 2 => (0 : Int)
 | 3 => (z_S69 : S69)
 | _ + 4 => ()
def sz : Nat → Nat
 | 0 => 4
 | 1 => 8
 | 2 => 1
 | 3 => 8
 | _ + 4 => 0
theorem len_ : ∀ (c : Nat) (x : D c), (enc c x).length = sz c
 | 0, x => by rfl
 | 1, x => by rfl
 | 2, x => by rfl
 | 3, x => by rfl
 | _ + 4, x => by rfl
theorem free_ : ∀ (c : Nat) (x : D c), (enc c x).all lfFree = true
 | 0, x => by rfl
 | 1, x => by rfl
 | 2, x => by rfl
 | 3, x => by rfl
 | _ + 4, x => by rfl
def R : Ro := ⟨D, enc, fun _ _ => none, z, sz, len_, free_⟩
def codes : TypeId → Option (RoT R) := codeOf [(56, ⟨0, ((.cons (dInt .i64) (.cons (dInt .i64) (.cons (dInt .i64) (.last (dInt .i64) .nil)))) : DL R (Int × Int × Int × Int)).to (fun y => (⟨y.1, y.2.1, y.2.2.1, y.2.2.2⟩ : S56)) (fun x => (x.f0, x.f1, x.f2, x.f3)) (fun _ => rfl), fun _ => rfl⟩),
 (64, ⟨1, ((.cons (dInt .i64) (.cons (dInt .i64) (.cons (dInt .i64) (.cons (dInt .u64) (.cons (dInt .i64) (.cons (dInt .i64) (.cons (dInt .i64) (.last (dInt .i64) .nil)))))))) : DL R (Int × Int × Int × Int × Int × Int × Int × Int)).to (fun y => (⟨y.1, y.2.1, y.2.2.1, y.2.2.2.1, y.2.2.2.2.1, y.2.2.2.2.2.1, y.2.2.2.2.2.2.1, y.2.2.2.2.2.2.2⟩ : S64)) (fun x => (x.f0, x.f1, x.f2, x.f3, x.f4, x.f5, x.f6, x.f7)) (fun _ => rfl), fun _ => rfl⟩),
 (3, ⟨2, ((.last (dInt .i64) .nil) : DL R (Int)), fun _ => rfl⟩),
 (69, ⟨3, ((.cons (dInt .i64) (.cons (dInt .u64) (.cons (dInt .i64) (.cons (dInt .i64) (.cons (dInt .i64) (.cons (dInt .i64) (.cons (dInt .i64) (.last (dInt .i64) .nil)))))))) : DL R (Int × Int × Int × Int × Int × Int × Int × Int)).to (fun y => (⟨y.1, y.2.1, y.2.2.1, y.2.2.2.1, y.2.2.2.2.1, y.2.2.2.2.2.1, y.2.2.2.2.2.2.1, y.2.2.2.2.2.2.2⟩ : S69)) (fun x => (x.f0, x.f1, x.f2, x.f3, x.f4, x.f5, x.f6, x.f7)) (fun _ => rfl), fun _ => rfl⟩)]
def rts : Nat → Option (RoT R) := codeOf [(0, ⟨0, ((.cons (dInt .i64) (.cons (dInt .i64) (.cons (dInt .i64) (.last (dInt .i64) .nil)))) : DL R (Int × Int × Int × Int)).to (fun y => (⟨y.1, y.2.1, y.2.2.1, y.2.2.2⟩ : S56)) (fun x => (x.f0, x.f1, x.f2, x.f3)) (fun _ => rfl), fun _ => rfl⟩),
 (1, ⟨1, ((.cons (dInt .i64) (.cons (dInt .i64) (.cons (dInt .i64) (.cons (dInt .u64) (.cons (dInt .i64) (.cons (dInt .i64) (.cons (dInt .i64) (.last (dInt .i64) .nil)))))))) : DL R (Int × Int × Int × Int × Int × Int × Int × Int)).to (fun y => (⟨y.1, y.2.1, y.2.2.1, y.2.2.2.1, y.2.2.2.2.1, y.2.2.2.2.2.1, y.2.2.2.2.2.2.1, y.2.2.2.2.2.2.2⟩ : S64)) (fun x => (x.f0, x.f1, x.f2, x.f3, x.f4, x.f5, x.f6, x.f7)) (fun _ => rfl), fun _ => rfl⟩),
 (2, ⟨2, ((.last (dInt .i64) .nil) : DL R (Int)), fun _ => rfl⟩),
 (3, ⟨3, ((.cons (dInt .i64) (.cons (dInt .u64) (.cons (dInt .i64) (.cons (dInt .i64) (.cons (dInt .i64) (.cons (dInt .i64) (.cons (dInt .i64) (.last (dInt .i64) .nil)))))))) : DL R (Int × Int × Int × Int × Int × Int × Int × Int)).to (fun y => (⟨y.1, y.2.1, y.2.2.1, y.2.2.2.1, y.2.2.2.2.1, y.2.2.2.2.2.1, y.2.2.2.2.2.2.1, y.2.2.2.2.2.2.2⟩ : S69)) (fun x => (x.f0, x.f1, x.f2, x.f3, x.f4, x.f5, x.f6, x.f7)) (fun _ => rfl), fun _ => rfl⟩)]
def owns : TypeId → List (Nat × Nat × TypeId) := ownOf [(83, [(0, 2, 3)])]
def tabL : List (Nat × TI) := [(2, ⟨1, 13, [(.int .i64 0)], [], 0, false, 0, 0, 8⟩),
 (3, ⟨1, 13, [(.int .i64 0)], [], 0, false, 0, 0, 8⟩),
 (4, ⟨1, 4, [(.bool false)], [], 0, false, 0, 0, 1⟩),
 (22, ⟨1, 17, [(.int .u64 0)], [], 0, false, 0, 0, 8⟩),
 (23, ⟨1, 17, [(.int .u64 0)], [], 0, false, 0, 0, 8⟩),
 (25, ⟨2, 1, [(.int .i64 0), (.int .u64 0)], [(0, 1, false), (1, 1, false)], 0, false, 0, 0, 16⟩),
 (27, ⟨1, 5, [(.pointer none)], [], 0, false, 0, 0, 8⟩),
 (29, ⟨1, 13, [(.int .i64 0)], [], 0, false, 0, 0, 8⟩),
 (30, ⟨1, 13, [(.int .i64 0)], [], 0, false, 0, 0, 8⟩),
 (32, ⟨1, 13, [(.int .i64 0)], [], 0, false, 0, 0, 8⟩),
 (39, ⟨1, 3, [(.slice none 0 0)], [], 1, false, 0, 3, 24⟩),
 (44, ⟨1, 17, [(.int .u64 0)], [], 0, false, 0, 0, 8⟩),
 (49, ⟨1, 3, [(.slice none 0 0)], [], 4, true, 0, 56, 24⟩),
 (52, ⟨2, 1, [(.int .i64 0), (.int .u64 0)], [(0, 1, false), (1, 1, false)], 0, false, 0, 0, 16⟩),
 (56, ⟨4, 1, [(.int .i64 0), (.int .i64 0), (.int .i64 0), (.int .i64 0)], [(0, 1, false), (1, 1, false), (2, 1, false), (3, 1, false)], 0, false, 0, 0, 32⟩),
 (61, ⟨2, 1, [(.int .i64 0), (.int .i64 0)], [(0, 1, false), (1, 1, false)], 0, false, 0, 0, 16⟩),
 (64, ⟨8, 1, [(.int .i64 0), (.int .i64 0), (.int .i64 0), (.int .u64 0), (.int .i64 0), (.int .i64 0), (.int .i64 0), (.int .i64 0)], [(0, 2, true), (2, 2, true), (4, 1, false), (5, 1, false), (6, 1, false), (7, 1, false)], 0, false, 0, 0, 64⟩),
 (66, ⟨1, 5, [(.pointer none)], [], 0, false, 0, 0, 8⟩),
 (69, ⟨8, 1, [(.int .i64 0), (.int .u64 0), (.int .i64 0), (.int .i64 0), (.int .i64 0), (.int .i64 0), (.int .i64 0), (.int .i64 0)], [(0, 2, true), (2, 1, false), (3, 1, false), (4, 1, false), (5, 1, false), (6, 1, false), (7, 1, false)], 0, false, 0, 0, 64⟩),
 (76, ⟨3, 1, [(.int .u64 0), (.int .u64 0), (.bool false)], [(0, 1, false), (1, 1, false), (2, 1, false)], 0, false, 0, 0, 24⟩),
 (83, ⟨2, 1, [(.slice none 0 0), (.bool false)], [(0, 1, false), (1, 1, false)], 0, false, 0, 0, 32⟩)]
theorem tabs : TabOk Try.prog (tabOf tabL) := tabOf_ok _ _ (by kernel_rfl)
def flats : Nat → Bool
 | 0 => true
 | 1 => true
 | 2 => true
 | 3 => true
 | _ + 4 => false
theorem flats_ : ∀ (c : Nat), flats c = true → ∀ x, (R.enc c x).all noRo = true
 | 0, _, x => by rfl
 | 1, _, x => by rfl
 | 2, _, x => by rfl
 | 3, _, x => by rfl
 | _ + 4, h, x => by cases h
def eqs : List (Nat × List Nat) := [(52, [0, 0])]
theorem eqs_ : EqOk Try.prog (eqtOf eqs) := eqtOf_ok _ (by kernel_rfl)
theorem mixed : Try.prog.follows .mixedOrders = true := by kernel_rfl
theorem mt_66_foliot_clock_gain : MtOne Try.prog 66 "foliot/clock.gain" 60 := fun a w => by rfl
def fixed_size.F : FnS R (Int) (Int × Bool) := ⟨[.lf], [], (.last (dInt .i64) .nil), .tup [none, none], [], (.cons (dInt .u64) (.last dBool .nil))⟩
def fixed_size.p (k : Nat) (y : Int) : Option (Int × Bool) := fixed_size.f y
def fixed_size.E (k : Nat) : Env R := ⟨tabOf tabL, ctOf [], mtNone, fun _ => false, codes, rts, 11, fun _ => [], owns, [], eqtOf eqs, fun _ => false, flats⟩
def fixed_size.cs : List (CutS R (Int × Bool)) := []
theorem fixed_size.hE (k : Nat) : EnvOk Try.prog (fixed_size.E k) := ⟨tabs, ctOf_ok all_nil, mtNone_ok, mixed, eqs_, flats_⟩
theorem fixed_size.q (k : Nat) (y : Int) : fixed_size.p k y = fixed_size.F.run fixed_size.E Try.f45.results.toList (bodyOf Try.f45) fixed_size.cs k y := by kernel_rfl
theorem fixed_size.ok (k : Nat) : CsemOk R Try.prog 45 (fixed_size.F.sem (fixed_size.p k)) := fn_ok (F := fixed_size.F) (f := fixed_size.p) (E := fixed_size.E) fixed_size.hE (fun _ => rfl) Try.func45 (body := (bodyOf Try.f45)) rfl (by kernel_rfl) rfl (by decide) (by kernel_rfl) (cuts := fixed_size.cs) all_nil fixed_size.q k
def fixed_whole_cut.F : FnS R (Int × Int × Bool × Int) (Int) := ⟨[.agg 3, .lf], [], (.cons (dInt .u64) (.cons (dInt .u64) (.cons dBool (.last (dInt .i64) .nil)))), .lf, [], (.last (dInt .i64) .nil)⟩
def fixed_whole_cut.p (k : Nat) (y : Int × Int × Bool × Int) : Option (Int) := fixed_whole_cut.f y.1 y.2.1 y.2.2.1 y.2.2.2
def fixed_whole_cut.E (k : Nat) : Env R := ⟨tabOf tabL, ctOf [], mtNone, fun _ => false, codes, rts, 25, fun _ => [], owns, [], eqtOf eqs, fun _ => false, flats⟩
def fixed_whole_cut.cs : List (CutS R (Int)) := []
theorem fixed_whole_cut.hE (k : Nat) : EnvOk Try.prog (fixed_whole_cut.E k) := ⟨tabs, ctOf_ok all_nil, mtNone_ok, mixed, eqs_, flats_⟩
theorem fixed_whole_cut.q (k : Nat) (y : Int × Int × Bool × Int) : fixed_whole_cut.p k y = fixed_whole_cut.F.run fixed_whole_cut.E Try.f46.results.toList (bodyOf Try.f46) fixed_whole_cut.cs k y := by kernel_rfl
theorem fixed_whole_cut.ok (k : Nat) : CsemOk R Try.prog 46 (fixed_whole_cut.F.sem (fixed_whole_cut.p k)) := fn_ok (F := fixed_whole_cut.F) (f := fixed_whole_cut.p) (E := fixed_whole_cut.E) fixed_whole_cut.hE (fun _ => rfl) Try.func46 (body := (bodyOf Try.f46)) rfl (by kernel_rfl) rfl (by decide) (by kernel_rfl) (cuts := fixed_whole_cut.cs) all_nil fixed_whole_cut.q k
def fixed_Cut.F : FnS R (Int) (Int) := ⟨[.lf], [], (.last (dInt .i64) .nil), .lf, [], (.last (dInt .i64) .nil)⟩
def fixed_Cut.p (k : Nat) (y : Int) : Option (Int) := fixed_Cut.f y
def fixed_Cut.E (k : Nat) : Env R := ⟨tabOf tabL, ctOf [(45, (fixed_size.F.sem (fixed_size.p k))), (46, (fixed_whole_cut.F.sem (fixed_whole_cut.p k)))], mtNone, fun _ => false, codes, rts, 14, fun _ => [], owns, [], eqtOf eqs, fun _ => false, flats⟩
def fixed_Cut.cs : List (CutS R (Int)) := []
theorem fixed_Cut.hE (k : Nat) : EnvOk Try.prog (fixed_Cut.E k) := ⟨tabs, ctOf_ok (all_cons (fixed_size.ok k) (all_cons (fixed_whole_cut.ok k) all_nil)), mtNone_ok, mixed, eqs_, flats_⟩
theorem fixed_Cut.q (k : Nat) (y : Int) : fixed_Cut.p k y = fixed_Cut.F.run fixed_Cut.E Try.f25.results.toList (bodyOf Try.f25) fixed_Cut.cs k y := by kernel_rfl
theorem fixed_Cut.ok (k : Nat) : CsemOk R Try.prog 25 (fixed_Cut.F.sem (fixed_Cut.p k)) := fn_ok (F := fixed_Cut.F) (f := fixed_Cut.p) (E := fixed_Cut.E) fixed_Cut.hE (fun _ => rfl) Try.func25 (body := (bodyOf Try.f25)) rfl (by kernel_rfl) rfl (by decide) (by kernel_rfl) (cuts := fixed_Cut.cs) all_nil fixed_Cut.q k
def bits_Add64.F : FnS R (Int × Int × Int) (Int × Int) := ⟨[.lf, .lf, .lf], [], (.cons (dInt .u64) (.cons (dInt .u64) (.last (dInt .u64) .nil))), .tup [none, none], [], (.cons (dInt .u64) (.last (dInt .u64) .nil))⟩
def bits_Add64.p (k : Nat) (y : Int × Int × Int) : Option (Int × Int) := bits_Add64.f y.1 y.2.1 y.2.2
theorem bits_Add64.ok (k : Nat) : CsemOk R Try.prog 63 (bits_Add64.F.sem (bits_Add64.p k)) := sem_ok fun y r h ρ w us hrel hargs => by
 obtain ⟨a0, a1, a2⟩ := y
 change All2 (IsT R ρ w) [.lf (.v (.int .u64 a0)), .lf (.v (.int .u64 a1)), .lf (.v (.int .u64 a2))] us at hargs
 obtain ⟨u0, _, rfl, h0, g1⟩ := all2_cons hargs
 obtain ⟨u1, _, rfl, h1, g2⟩ := all2_cons g1
 obtain ⟨u2, _, rfl, h2, g3⟩ := all2_cons g2
 clear hargs g1 g2
 cases g3
 obtain ⟨rfl, b0⟩ := is_v h0
 obtain ⟨rfl, b1⟩ := is_v h1
 obtain ⟨rfl, b2⟩ := is_v h2
 have b0 := u64_le b0
 have b1 := u64_le b1
 change bits_Add64.f a0 a1 a2 = some r at h
 unfold bits_Add64.f at h
 split at h
 · rename_i hb
   obtain ⟨h0, h1, h2, h3⟩ := hb
   injection h with h
   subst h
   refine .inr ⟨.tuple #[.int .u64 ((a0 + a1 + a2) % 18446744073709551616), .int .u64 ((a0 + a1 + a2) / 18446744073709551616)], w, ?_, ?_⟩
   · rw [run_callFunc_extern Try.func63 (by kernel_rfl) rfl rfl (e := add64Entry) rfl, run_add64 a0 a1 a2 h0 h1 h2 h3 w]
     rfl
   · refine post_still hrel ?_
     exact ⟨[_, _], rfl, .cons (Is.v _ (u64_ok (Int.emod_nonneg _ (by omega)) (by omega))) (.cons (Is.v _ (u64_ok (by omega) (by omega))) .nil)⟩
 · cases h
def fixed_sum.F : FnS R (Int × Int) (Int × Int × Bool) := ⟨[.lf, .lf], [], (.cons (dInt .i64) (.last (dInt .i64) .nil)), .agg 3, [], (.cons (dInt .u64) (.cons (dInt .u64) (.last dBool .nil)))⟩
def fixed_sum.p (k : Nat) (y : Int × Int) : Option (Int × Int × Bool) := fixed_sum.f y.1 y.2
def fixed_sum.E (k : Nat) : Env R := ⟨tabOf tabL, ctOf [(63, (bits_Add64.F.sem (bits_Add64.p k)))], mtNone, fun _ => false, codes, rts, 43, fun _ => [], owns, [], eqtOf eqs, fun _ => false, flats⟩
def fixed_sum.cs : List (CutS R (Int × Int × Bool)) := []
theorem fixed_sum.hE (k : Nat) : EnvOk Try.prog (fixed_sum.E k) := ⟨tabs, ctOf_ok (all_cons (bits_Add64.ok k) all_nil), mtNone_ok, mixed, eqs_, flats_⟩
theorem fixed_sum.q (k : Nat) (y : Int × Int) : fixed_sum.p k y = fixed_sum.F.run fixed_sum.E Try.f47.results.toList (bodyOf Try.f47) fixed_sum.cs k y := by kernel_rfl
theorem fixed_sum.ok (k : Nat) : CsemOk R Try.prog 47 (fixed_sum.F.sem (fixed_sum.p k)) := fn_ok (F := fixed_sum.F) (f := fixed_sum.p) (E := fixed_sum.E) fixed_sum.hE (fun _ => rfl) Try.func47 (body := (bodyOf Try.f47)) rfl (by kernel_rfl) rfl (by decide) (by kernel_rfl) (cuts := fixed_sum.cs) all_nil fixed_sum.q k
def fixed_whole_span.F : FnS R (Int × Int × Bool) (Int) := ⟨[.agg 3], [], (.cons (dInt .u64) (.cons (dInt .u64) (.last dBool .nil))), .lf, [], (.last (dInt .i64) .nil)⟩
def fixed_whole_span.p (k : Nat) (y : Int × Int × Bool) : Option (Int) := fixed_whole_span.f y.1 y.2.1 y.2.2
def fixed_whole_span.E (k : Nat) : Env R := ⟨tabOf tabL, ctOf [(46, (fixed_whole_cut.F.sem (fixed_whole_cut.p k)))], mtNone, fun _ => false, codes, rts, 5, fun _ => [], owns, [], eqtOf eqs, fun _ => false, flats⟩
def fixed_whole_span.cs : List (CutS R (Int)) := []
theorem fixed_whole_span.hE (k : Nat) : EnvOk Try.prog (fixed_whole_span.E k) := ⟨tabs, ctOf_ok (all_cons (fixed_whole_cut.ok k) all_nil), mtNone_ok, mixed, eqs_, flats_⟩
theorem fixed_whole_span.q (k : Nat) (y : Int × Int × Bool) : fixed_whole_span.p k y = fixed_whole_span.F.run fixed_whole_span.E Try.f48.results.toList (bodyOf Try.f48) fixed_whole_span.cs k y := by kernel_rfl
theorem fixed_whole_span.ok (k : Nat) : CsemOk R Try.prog 48 (fixed_whole_span.F.sem (fixed_whole_span.p k)) := fn_ok (F := fixed_whole_span.F) (f := fixed_whole_span.p) (E := fixed_whole_span.E) fixed_whole_span.hE (fun _ => rfl) Try.func48 (body := (bodyOf Try.f48)) rfl (by kernel_rfl) rfl (by decide) (by kernel_rfl) (cuts := fixed_whole_span.cs) all_nil fixed_whole_span.q k
def fixed_Add.F : FnS R (Int × Int) (Int) := ⟨[.lf, .lf], [], (.cons (dInt .i64) (.last (dInt .i64) .nil)), .lf, [], (.last (dInt .i64) .nil)⟩
def fixed_Add.p (k : Nat) (y : Int × Int) : Option (Int) := fixed_Add.f y.1 y.2
def fixed_Add.E (k : Nat) : Env R := ⟨tabOf tabL, ctOf [(47, (fixed_sum.F.sem (fixed_sum.p k))), (48, (fixed_whole_span.F.sem (fixed_whole_span.p k)))], mtNone, fun _ => false, codes, rts, 9, fun _ => [], owns, [], eqtOf eqs, fun _ => false, flats⟩
def fixed_Add.cs : List (CutS R (Int)) := []
theorem fixed_Add.hE (k : Nat) : EnvOk Try.prog (fixed_Add.E k) := ⟨tabs, ctOf_ok (all_cons (fixed_sum.ok k) (all_cons (fixed_whole_span.ok k) all_nil)), mtNone_ok, mixed, eqs_, flats_⟩
theorem fixed_Add.q (k : Nat) (y : Int × Int) : fixed_Add.p k y = fixed_Add.F.run fixed_Add.E Try.f27.results.toList (bodyOf Try.f27) fixed_Add.cs k y := by kernel_rfl
theorem fixed_Add.ok (k : Nat) : CsemOk R Try.prog 27 (fixed_Add.F.sem (fixed_Add.p k)) := fn_ok (F := fixed_Add.F) (f := fixed_Add.p) (E := fixed_Add.E) fixed_Add.hE (fun _ => rfl) Try.func27 (body := (bodyOf Try.f27)) rfl (by kernel_rfl) rfl (by decide) (by kernel_rfl) (cuts := fixed_Add.cs) all_nil fixed_Add.q k
def fixed_Clamp.F : FnS R (Int × Int) (Int) := ⟨[.lf, .lf], [], (.cons (dInt .i64) (.last (dInt .i64) .nil)), .lf, [], (.last (dInt .i64) .nil)⟩
def fixed_Clamp.p (k : Nat) (y : Int × Int) : Option (Int) := fixed_Clamp.f y.1 y.2
def fixed_Clamp.E (k : Nat) : Env R := ⟨tabOf tabL, ctOf [(27, (fixed_Add.F.sem (fixed_Add.p k)))], mtNone, fun _ => false, codes, rts, 14, fun _ => [], owns, [], eqtOf eqs, fun _ => false, flats⟩
def fixed_Clamp.cs : List (CutS R (Int)) := []
theorem fixed_Clamp.hE (k : Nat) : EnvOk Try.prog (fixed_Clamp.E k) := ⟨tabs, ctOf_ok (all_cons (fixed_Add.ok k) all_nil), mtNone_ok, mixed, eqs_, flats_⟩
theorem fixed_Clamp.q (k : Nat) (y : Int × Int) : fixed_Clamp.p k y = fixed_Clamp.F.run fixed_Clamp.E Try.f26.results.toList (bodyOf Try.f26) fixed_Clamp.cs k y := by kernel_rfl
theorem fixed_Clamp.ok (k : Nat) : CsemOk R Try.prog 26 (fixed_Clamp.F.sem (fixed_Clamp.p k)) := fn_ok (F := fixed_Clamp.F) (f := fixed_Clamp.p) (E := fixed_Clamp.E) fixed_Clamp.hE (fun _ => rfl) Try.func26 (body := (bodyOf Try.f26)) rfl (by kernel_rfl) rfl (by decide) (by kernel_rfl) (cuts := fixed_Clamp.cs) all_nil fixed_Clamp.q k
def clock_New.F : FnS R (Int × Int × Int × Int) (Int × Int × Int × Int × Int × Int × Int × Int) := ⟨[.agg 2, .lf, .lf], [], (.cons (dInt .i64) (.cons (dInt .u64) (.cons (dInt .i64) (.last (dInt .i64) .nil)))), .lf, [.blk 8 64], (.ptr 0 0 (.cons (dInt .i64) (.cons (dInt .i64) (.cons (dInt .i64) (.cons (dInt .u64) (.cons (dInt .i64) (.cons (dInt .i64) (.cons (dInt .i64) (.last (dInt .i64) .nil)))))))))⟩
def clock_New.p (k : Nat) (y : Int × Int × Int × Int) : Option (Int × Int × Int × Int × Int × Int × Int × Int) := clock_New.f y.1 y.2.1 y.2.2.1 y.2.2.2
def clock_New.E (k : Nat) : Env R := ⟨tabOf tabL, ctOf [(25, (fixed_Cut.F.sem (fixed_Cut.p k))), (26, (fixed_Clamp.F.sem (fixed_Clamp.p k)))], mtNone, fun f => memB f [25, 26], codes, rts, 24, fun i => ordOf [(3, [(0, 0), (1, 0), (2, 0), (3, 0), (4, 0), (5, 0), (6, 0), (7, 1), (8, 0)])] i, owns, [], eqtOf eqs, fun _ => false, flats⟩
def clock_New.cs : List (CutS R (Int × Int × Int × Int × Int × Int × Int × Int)) := []
theorem clock_New.hE (k : Nat) : EnvOk Try.prog (clock_New.E k) := ⟨tabs, ctOf_ok (all_cons (fixed_Cut.ok k) (all_cons (fixed_Clamp.ok k) all_nil)), mtNone_ok, mixed, eqs_, flats_⟩
theorem clock_New.q (k : Nat) (y : Int × Int × Int × Int) : clock_New.p k y = clock_New.F.run clock_New.E Try.f7.results.toList (bodyOf Try.f7) clock_New.cs k y := by kernel_rfl
theorem clock_New.ok (k : Nat) : CsemOk R Try.prog 7 (clock_New.F.sem (clock_New.p k)) := fn_ok (F := clock_New.F) (f := clock_New.p) (E := clock_New.E) clock_New.hE (fun _ => rfl) Try.func7 (body := (bodyOf Try.f7)) rfl (by kernel_rfl) rfl (by decide) (by kernel_rfl) (cuts := clock_New.cs) all_nil clock_New.q k
def stamp_Plus.F : FnS R (Int × Int) (Int) := ⟨[.lf, .lf], [], (.cons (dInt .u64) (.last (dInt .i64) .nil)), .lf, [], (.last (dInt .u64) .nil)⟩
def stamp_Plus.p (k : Nat) (y : Int × Int) : Option (Int) := stamp_Plus.f y.1 y.2
def stamp_Plus.E (k : Nat) : Env R := ⟨tabOf tabL, ctOf [], mtNone, fun _ => false, codes, rts, 9, fun _ => [], owns, [], eqtOf eqs, fun _ => false, flats⟩
def stamp_Plus.cs : List (CutS R (Int)) := []
theorem stamp_Plus.hE (k : Nat) : EnvOk Try.prog (stamp_Plus.E k) := ⟨tabs, ctOf_ok all_nil, mtNone_ok, mixed, eqs_, flats_⟩
theorem stamp_Plus.q (k : Nat) (y : Int × Int) : stamp_Plus.p k y = stamp_Plus.F.run stamp_Plus.E Try.f49.results.toList (bodyOf Try.f49) stamp_Plus.cs k y := by kernel_rfl
theorem stamp_Plus.ok (k : Nat) : CsemOk R Try.prog 49 (stamp_Plus.F.sem (stamp_Plus.p k)) := fn_ok (F := stamp_Plus.F) (f := stamp_Plus.p) (E := stamp_Plus.E) stamp_Plus.hE (fun _ => rfl) Try.func49 (body := (bodyOf Try.f49)) rfl (by kernel_rfl) rfl (by decide) (by kernel_rfl) (cuts := stamp_Plus.cs) all_nil stamp_Plus.q k
def clock_behind.F : FnS R (Int × Int × Int) (Int × Int) := ⟨[.agg 2, .lf], [], (.cons (dInt .i64) (.cons (dInt .u64) (.last (dInt .i64) .nil))), .agg 2, [], (.cons (dInt .i64) (.last (dInt .u64) .nil))⟩
def clock_behind.p (k : Nat) (y : Int × Int × Int) : Option (Int × Int) := clock_behind.f y.1 y.2.1 y.2.2
def clock_behind.E (k : Nat) : Env R := ⟨tabOf tabL, ctOf [(49, (stamp_Plus.F.sem (stamp_Plus.p k)))], mtNone, fun _ => false, codes, rts, 40, fun _ => [], owns, [], eqtOf eqs, fun _ => false, flats⟩
def clock_behind.cs : List (CutS R (Int × Int)) := []
theorem clock_behind.hE (k : Nat) : EnvOk Try.prog (clock_behind.E k) := ⟨tabs, ctOf_ok (all_cons (stamp_Plus.ok k) all_nil), mtNone_ok, mixed, eqs_, flats_⟩
theorem clock_behind.q (k : Nat) (y : Int × Int × Int) : clock_behind.p k y = clock_behind.F.run clock_behind.E Try.f30.results.toList (bodyOf Try.f30) clock_behind.cs k y := by kernel_rfl
theorem clock_behind.ok (k : Nat) : CsemOk R Try.prog 30 (clock_behind.F.sem (clock_behind.p k)) := fn_ok (F := clock_behind.F) (f := clock_behind.p) (E := clock_behind.E) clock_behind.hE (fun _ => rfl) Try.func30 (body := (bodyOf Try.f30)) rfl (by kernel_rfl) rfl (by decide) (by kernel_rfl) (cuts := clock_behind.cs) all_nil clock_behind.q k
def clock_Clock_Date.F : FnS R (S64) (Int × Int) := ⟨[.lf], [], (.last (dEpt 1 0) .nil), .agg 2, [], (.cons (dInt .i64) (.last (dInt .u64) .nil))⟩
def clock_Clock_Date.p (k : Nat) (y : S64) : Option (Int × Int) := clock_Clock_Date.f y
def clock_Clock_Date.E (k : Nat) : Env R := ⟨tabOf tabL, ctOf [(30, (clock_behind.F.sem (clock_behind.p k)))], mtNone, fun f => memB f [30], codes, rts, 12, fun i => ordOf [(1, [(0, 0), (1, 0), (2, 0), (3, 0), (4, 0), (5, 0), (6, 0), (7, 0), (8, 0), (9, 2)])] i, owns, [], eqtOf eqs, fun _ => false, flats⟩
def clock_Clock_Date.cs : List (CutS R (Int × Int)) := []
theorem clock_Clock_Date.hE (k : Nat) : EnvOk Try.prog (clock_Clock_Date.E k) := ⟨tabs, ctOf_ok (all_cons (clock_behind.ok k) all_nil), mtNone_ok, mixed, eqs_, flats_⟩
theorem clock_Clock_Date.q (k : Nat) (y : S64) : clock_Clock_Date.p k y = clock_Clock_Date.F.run clock_Clock_Date.E Try.f14.results.toList (bodyOf Try.f14) clock_Clock_Date.cs k y := by kernel_rfl
theorem clock_Clock_Date.ok (k : Nat) : CsemOk R Try.prog 14 (clock_Clock_Date.F.sem (clock_Clock_Date.p k)) := fn_ok (F := clock_Clock_Date.F) (f := clock_Clock_Date.p) (E := clock_Clock_Date.E) clock_Clock_Date.hE (fun _ => rfl) Try.func14 (body := (bodyOf Try.f14)) rfl (by kernel_rfl) rfl (by decide) (by kernel_rfl) (cuts := clock_Clock_Date.cs) all_nil clock_Clock_Date.q k
def clock_Clock_Now.F : FnS R (S64) (Int) := ⟨[.lf], [], (.last (dEpt 1 0) .nil), .lf, [], (.last (dInt .u64) .nil)⟩
def clock_Clock_Now.p (k : Nat) (y : S64) : Option (Int) := clock_Clock_Now.f y
def clock_Clock_Now.E (k : Nat) : Env R := ⟨tabOf tabL, ctOf [(14, (clock_Clock_Date.F.sem (clock_Clock_Date.p k)))], mtNone, fun _ => false, codes, rts, 6, fun _ => [], owns, [], eqtOf eqs, fun _ => false, flats⟩
def clock_Clock_Now.cs : List (CutS R (Int)) := []
theorem clock_Clock_Now.hE (k : Nat) : EnvOk Try.prog (clock_Clock_Now.E k) := ⟨tabs, ctOf_ok (all_cons (clock_Clock_Date.ok k) all_nil), mtNone_ok, mixed, eqs_, flats_⟩
theorem clock_Clock_Now.q (k : Nat) (y : S64) : clock_Clock_Now.p k y = clock_Clock_Now.F.run clock_Clock_Now.E Try.f12.results.toList (bodyOf Try.f12) clock_Clock_Now.cs k y := by kernel_rfl
theorem clock_Clock_Now.ok (k : Nat) : CsemOk R Try.prog 12 (clock_Clock_Now.F.sem (clock_Clock_Now.p k)) := fn_ok (F := clock_Clock_Now.F) (f := clock_Clock_Now.p) (E := clock_Clock_Now.E) clock_Clock_Now.hE (fun _ => rfl) Try.func12 (body := (bodyOf Try.f12)) rfl (by kernel_rfl) rfl (by decide) (by kernel_rfl) (cuts := clock_Clock_Now.cs) all_nil clock_Clock_Now.q k
def clock_Clock_True.F : FnS R (S64) (Int) := ⟨[.lf], [], (.last (dEpt 1 0) .nil), .lf, [], (.last (dInt .u64) .nil)⟩
def clock_Clock_True.p (k : Nat) (y : S64) : Option (Int) := clock_Clock_True.f y
def clock_Clock_True.E (k : Nat) : Env R := ⟨tabOf tabL, ctOf [], mtNone, fun _ => false, codes, rts, 8, fun _ => [], owns, [], eqtOf eqs, fun _ => false, flats⟩
def clock_Clock_True.cs : List (CutS R (Int)) := []
theorem clock_Clock_True.hE (k : Nat) : EnvOk Try.prog (clock_Clock_True.E k) := ⟨tabs, ctOf_ok all_nil, mtNone_ok, mixed, eqs_, flats_⟩
theorem clock_Clock_True.q (k : Nat) (y : S64) : clock_Clock_True.p k y = clock_Clock_True.F.run clock_Clock_True.E Try.f13.results.toList (bodyOf Try.f13) clock_Clock_True.cs k y := by kernel_rfl
theorem clock_Clock_True.ok (k : Nat) : CsemOk R Try.prog 13 (clock_Clock_True.F.sem (clock_Clock_True.p k)) := fn_ok (F := clock_Clock_True.F) (f := clock_Clock_True.p) (E := clock_Clock_True.E) clock_Clock_True.hE (fun _ => rfl) Try.func13 (body := (bodyOf Try.f13)) rfl (by kernel_rfl) rfl (by decide) (by kernel_rfl) (cuts := clock_Clock_True.cs) all_nil clock_Clock_True.q k
def clock_Clock_Error.F : FnS R (S64) (Int) := ⟨[.lf], [], (.last (dEpt 1 0) .nil), .lf, [], (.last (dInt .i64) .nil)⟩
def clock_Clock_Error.p (k : Nat) (y : S64) : Option (Int) := clock_Clock_Error.f y
def clock_Clock_Error.E (k : Nat) : Env R := ⟨tabOf tabL, ctOf [], mtNone, fun _ => false, codes, rts, 7, fun _ => [], owns, [], eqtOf eqs, fun _ => false, flats⟩
def clock_Clock_Error.cs : List (CutS R (Int)) := []
theorem clock_Clock_Error.hE (k : Nat) : EnvOk Try.prog (clock_Clock_Error.E k) := ⟨tabs, ctOf_ok all_nil, mtNone_ok, mixed, eqs_, flats_⟩
theorem clock_Clock_Error.q (k : Nat) (y : S64) : clock_Clock_Error.p k y = clock_Clock_Error.F.run clock_Clock_Error.E Try.f11.results.toList (bodyOf Try.f11) clock_Clock_Error.cs k y := by kernel_rfl
theorem clock_Clock_Error.ok (k : Nat) : CsemOk R Try.prog 11 (clock_Clock_Error.F.sem (clock_Clock_Error.p k)) := fn_ok (F := clock_Clock_Error.F) (f := clock_Clock_Error.p) (E := clock_Clock_Error.E) clock_Clock_Error.hE (fun _ => rfl) Try.func11 (body := (bodyOf Try.f11)) rfl (by kernel_rfl) rfl (by decide) (by kernel_rfl) (cuts := clock_Clock_Error.cs) all_nil clock_Clock_Error.q k
def clock_Clock_SetRate.F : FnS R (Int × Int × Int × Int × Int × Int × Int × Int × Int) (Int × Int × Int × Int × Int × Int × Int × Int) := ⟨[.lf, .lf], [.blk 8 64], (.ptr 0 0 (.cons (dInt .i64) (.cons (dInt .i64) (.cons (dInt .i64) (.cons (dInt .i64) (.cons (dInt .u64) (.cons (dInt .i64) (.cons (dInt .i64) (.cons (dInt .i64) (.last (dInt .i64) .nil)))))))))), .tup [], [.blk 8 64], (.cons (dInt .i64) (.cons (dInt .i64) (.cons (dInt .i64) (.cons (dInt .u64) (.cons (dInt .i64) (.cons (dInt .i64) (.cons (dInt .i64) (.last (dInt .i64) .nil))))))))⟩
def clock_Clock_SetRate.p (k : Nat) (y : Int × Int × Int × Int × Int × Int × Int × Int × Int) : Option (Int × Int × Int × Int × Int × Int × Int × Int) := clock_Clock_SetRate.f y.1 y.2.1 y.2.2.1 y.2.2.2.1 y.2.2.2.2.1 y.2.2.2.2.2.1 y.2.2.2.2.2.2.1 y.2.2.2.2.2.2.2.1 y.2.2.2.2.2.2.2.2
def clock_Clock_SetRate.E (k : Nat) : Env R := ⟨tabOf tabL, ctOf [(25, (fixed_Cut.F.sem (fixed_Cut.p k)))], mtNone, fun _ => false, codes, rts, 10, fun _ => [], owns, [], eqtOf eqs, fun _ => false, flats⟩
def clock_Clock_SetRate.cs : List (CutS R (Int × Int × Int × Int × Int × Int × Int × Int)) := []
theorem clock_Clock_SetRate.hE (k : Nat) : EnvOk Try.prog (clock_Clock_SetRate.E k) := ⟨tabs, ctOf_ok (all_cons (fixed_Cut.ok k) all_nil), mtNone_ok, mixed, eqs_, flats_⟩
theorem clock_Clock_SetRate.q (k : Nat) (y : Int × Int × Int × Int × Int × Int × Int × Int × Int) : clock_Clock_SetRate.p k y = clock_Clock_SetRate.F.run clock_Clock_SetRate.E Try.f31.results.toList (bodyOf Try.f31) clock_Clock_SetRate.cs k y := by kernel_rfl
theorem clock_Clock_SetRate.ok (k : Nat) : CsemOk R Try.prog 31 (clock_Clock_SetRate.F.sem (clock_Clock_SetRate.p k)) := fn_ok (F := clock_Clock_SetRate.F) (f := clock_Clock_SetRate.p) (E := clock_Clock_SetRate.E) clock_Clock_SetRate.hE (fun _ => rfl) Try.func31 (body := (bodyOf Try.f31)) rfl (by kernel_rfl) rfl (by decide) (by kernel_rfl) (cuts := clock_Clock_SetRate.cs) all_nil clock_Clock_SetRate.q k
def clock_Clock_day.F : FnS R (S64) (Int) := ⟨[.lf], [], (.last (dEpt 1 0) .nil), .lf, [], (.last (dInt .i64) .nil)⟩
def clock_Clock_day.p (k : Nat) (y : S64) : Option (Int) := clock_Clock_day.f y
def clock_Clock_day.E (k : Nat) : Env R := ⟨tabOf tabL, ctOf [(14, (clock_Clock_Date.F.sem (clock_Clock_Date.p k)))], mtNone, fun _ => false, codes, rts, 22, fun _ => [], owns, [], eqtOf eqs, fun _ => false, flats⟩
def clock_Clock_day.cs : List (CutS R (Int)) := []
theorem clock_Clock_day.hE (k : Nat) : EnvOk Try.prog (clock_Clock_day.E k) := ⟨tabs, ctOf_ok (all_cons (clock_Clock_Date.ok k) all_nil), mtNone_ok, mixed, eqs_, flats_⟩
theorem clock_Clock_day.q (k : Nat) (y : S64) : clock_Clock_day.p k y = clock_Clock_day.F.run clock_Clock_day.E Try.f28.results.toList (bodyOf Try.f28) clock_Clock_day.cs k y := by kernel_rfl
theorem clock_Clock_day.ok (k : Nat) : CsemOk R Try.prog 28 (clock_Clock_day.F.sem (clock_Clock_day.p k)) := fn_ok (F := clock_Clock_day.F) (f := clock_Clock_day.p) (E := clock_Clock_day.E) clock_Clock_day.hE (fun _ => rfl) Try.func28 (body := (bodyOf Try.f28)) rfl (by kernel_rfl) rfl (by decide) (by kernel_rfl) (cuts := clock_Clock_day.cs) all_nil clock_Clock_day.q k
def clock_oscillator_gain.F : FnS R (S64) (Int) := ⟨[.lf], [], (.last (dEpt 1 0) .nil), .lf, [], (.last (dInt .i64) .nil)⟩
def clock_oscillator_gain.p (k : Nat) (y : S64) : Option (Int) := clock_oscillator_gain.f y
def clock_oscillator_gain.E (k : Nat) : Env R := ⟨tabOf tabL, ctOf [], mtNone, fun _ => false, codes, rts, 12, fun i => ordOf [(1, [(0, 0), (1, 0), (2, 0), (3, 0), (4, 0), (5, 0), (6, 0), (7, 0), (8, 0), (9, 0)])] i, owns, [], eqtOf eqs, fun _ => false, flats⟩
def clock_oscillator_gain.cs : List (CutS R (Int)) := []
theorem clock_oscillator_gain.hE (k : Nat) : EnvOk Try.prog (clock_oscillator_gain.E k) := ⟨tabs, ctOf_ok all_nil, mtNone_ok, mixed, eqs_, flats_⟩
theorem clock_oscillator_gain.q (k : Nat) (y : S64) : clock_oscillator_gain.p k y = clock_oscillator_gain.F.run clock_oscillator_gain.E Try.f60.results.toList (bodyOf Try.f60) clock_oscillator_gain.cs k y := by kernel_rfl
theorem clock_oscillator_gain.ok (k : Nat) : CsemOk R Try.prog 60 (clock_oscillator_gain.F.sem (clock_oscillator_gain.p k)) := fn_ok (F := clock_oscillator_gain.F) (f := clock_oscillator_gain.p) (E := clock_oscillator_gain.E) clock_oscillator_gain.hE (fun _ => rfl) Try.func60 (body := (bodyOf Try.f60)) rfl (by kernel_rfl) rfl (by decide) (by kernel_rfl) (cuts := clock_oscillator_gain.cs) all_nil clock_oscillator_gain.q k
def clock_Clock_tick.F : FnS R (Int × Int × Int × Int × Int × Int × Int × Int) (Int × Int × Int × Int × Int × Int × Int × Int) := ⟨[.lf, .lf], [.blk 8 64], (.ptr 0 0 (.ifc 66 0 0 (.cons (dInt .i64) (.cons (dInt .i64) (.cons (dInt .i64) (.cons (dInt .u64) (.cons (dInt .i64) (.cons (dInt .i64) (.cons (dInt .i64) (.last (dInt .i64) .nil)))))))))), .tup [], [.blk 8 64], (.cons (dInt .i64) (.cons (dInt .i64) (.cons (dInt .i64) (.cons (dInt .u64) (.cons (dInt .i64) (.cons (dInt .i64) (.cons (dInt .i64) (.last (dInt .i64) .nil))))))))⟩
def clock_Clock_tick.p (k : Nat) (y : Int × Int × Int × Int × Int × Int × Int × Int) : Option (Int × Int × Int × Int × Int × Int × Int × Int) := clock_Clock_tick.f y.1 y.2.1 y.2.2.1 y.2.2.2.1 y.2.2.2.2.1 y.2.2.2.2.2.1 y.2.2.2.2.2.2.1 y.2.2.2.2.2.2.2
def clock_Clock_tick.E (k : Nat) : Env R := ⟨tabOf tabL, ctOf [(30, (clock_behind.F.sem (clock_behind.p k))), (60, (clock_oscillator_gain.F.sem (clock_oscillator_gain.p k))), (27, (fixed_Add.F.sem (fixed_Add.p k)))], mtOf [(66, "foliot/clock.gain", 60)], fun f => memB f [27, 60], codes, rts, 41, fun i => ordOf [(1, [(0, 0), (1, 0), (2, 0), (3, 0), (4, 0), (5, 0), (6, 0), (7, 0), (8, 0), (9, 2)]), (2, [(0, 0), (1, 0), (2, 0), (3, 0), (4, 0), (5, 0), (6, 0), (7, 0), (8, 0), (9, 0), (10, 0), (11, 0), (12, 0), (13, 2)])] i, owns, [], eqtOf eqs, fun _ => false, flats⟩
def clock_Clock_tick.cs : List (CutS R (Int × Int × Int × Int × Int × Int × Int × Int)) := []
theorem clock_Clock_tick.hE (k : Nat) : EnvOk Try.prog (clock_Clock_tick.E k) := ⟨tabs, ctOf_ok (all_cons (clock_behind.ok k) (all_cons (clock_oscillator_gain.ok k) (all_cons (fixed_Add.ok k) all_nil))), (mtOf_ok (mt_cons mt_66_foliot_clock_gain mt_nil)), mixed, eqs_, flats_⟩
theorem clock_Clock_tick.q (k : Nat) (y : Int × Int × Int × Int × Int × Int × Int × Int) : clock_Clock_tick.p k y = clock_Clock_tick.F.run clock_Clock_tick.E Try.f29.results.toList (bodyOf Try.f29) clock_Clock_tick.cs k y := by kernel_rfl
theorem clock_Clock_tick.ok (k : Nat) : CsemOk R Try.prog 29 (clock_Clock_tick.F.sem (clock_Clock_tick.p k)) := fn_ok (F := clock_Clock_tick.F) (f := clock_Clock_tick.p) (E := clock_Clock_tick.E) clock_Clock_tick.hE (fun _ => rfl) Try.func29 (body := (bodyOf Try.f29)) rfl (by kernel_rfl) rfl (by decide) (by kernel_rfl) (cuts := clock_Clock_tick.cs) all_nil clock_Clock_tick.q k
def clock_Clock_Step.F : FnS R (Int × Int × Int × Int × Int × Int × Int × Int × Int) (Int × Int × Int × Int × Int × Int × Int × Int) := ⟨[.lf, .lf], [.blk 8 64], (.ptr 0 0 (.cons (dInt .i64) (.cons (dInt .i64) (.cons (dInt .i64) (.cons (dInt .i64) (.cons (dInt .u64) (.cons (dInt .i64) (.cons (dInt .i64) (.cons (dInt .i64) (.last (dInt .i64) .nil)))))))))), .tup [], [.blk 8 64], (.cons (dInt .i64) (.cons (dInt .i64) (.cons (dInt .i64) (.cons (dInt .u64) (.cons (dInt .i64) (.cons (dInt .i64) (.cons (dInt .i64) (.last (dInt .i64) .nil))))))))⟩
def clock_Clock_Step.p (k : Nat) (y : Int × Int × Int × Int × Int × Int × Int × Int × Int) : Option (Int × Int × Int × Int × Int × Int × Int × Int) := clock_Clock_Step.f y.1 y.2.1 y.2.2.1 y.2.2.2.1 y.2.2.2.2.1 y.2.2.2.2.2.1 y.2.2.2.2.2.2.1 y.2.2.2.2.2.2.2.1 y.2.2.2.2.2.2.2.2
def clock_Clock_Step.E (k : Nat) : Env R := ⟨tabOf tabL, ctOf [(27, (fixed_Add.F.sem (fixed_Add.p k)))], mtNone, fun _ => false, codes, rts, 13, fun _ => [], owns, [], eqtOf eqs, fun _ => false, flats⟩
def clock_Clock_Step.cs : List (CutS R (Int × Int × Int × Int × Int × Int × Int × Int)) := []
theorem clock_Clock_Step.hE (k : Nat) : EnvOk Try.prog (clock_Clock_Step.E k) := ⟨tabs, ctOf_ok (all_cons (fixed_Add.ok k) all_nil), mtNone_ok, mixed, eqs_, flats_⟩
theorem clock_Clock_Step.q (k : Nat) (y : Int × Int × Int × Int × Int × Int × Int × Int × Int) : clock_Clock_Step.p k y = clock_Clock_Step.F.run clock_Clock_Step.E Try.f9.results.toList (bodyOf Try.f9) clock_Clock_Step.cs k y := by kernel_rfl
theorem clock_Clock_Step.ok (k : Nat) : CsemOk R Try.prog 9 (clock_Clock_Step.F.sem (clock_Clock_Step.p k)) := fn_ok (F := clock_Clock_Step.F) (f := clock_Clock_Step.p) (E := clock_Clock_Step.E) clock_Clock_Step.hE (fun _ => rfl) Try.func9 (body := (bodyOf Try.f9)) rfl (by kernel_rfl) rfl (by decide) (by kernel_rfl) (cuts := clock_Clock_Step.cs) all_nil clock_Clock_Step.q k
def clock_Clock_Pass.F : FnS R (Int × Int × Int × Int × Int × Int × Int × Int × Int) (Int × Int × Int × Int × Int × Int × Int × Int × Int) := ⟨[.lf, .lf], [.blk 8 64], (.ptr 0 0 (.cons (dInt .i64) (.cons (dInt .i64) (.cons (dInt .i64) (.cons (dInt .i64) (.cons (dInt .u64) (.cons (dInt .i64) (.cons (dInt .i64) (.cons (dInt .i64) (.last (dInt .i64) .nil)))))))))), .lf, [.blk 8 64], (.cons (dInt .i64) (.cons (dInt .i64) (.cons (dInt .i64) (.cons (dInt .i64) (.cons (dInt .u64) (.cons (dInt .i64) (.cons (dInt .i64) (.cons (dInt .i64) (.last (dInt .i64) .nil)))))))))⟩
def clock_Clock_Pass.p (k : Nat) (y : Int × Int × Int × Int × Int × Int × Int × Int × Int) : Option (Int × Int × Int × Int × Int × Int × Int × Int × Int) := clock_Clock_Pass.f k y.1 y.2.1 y.2.2.1 y.2.2.2.1 y.2.2.2.2.1 y.2.2.2.2.2.1 y.2.2.2.2.2.2.1 y.2.2.2.2.2.2.2.1 y.2.2.2.2.2.2.2.2
def clock_Clock_Pass.E (k : Nat) : Env R := ⟨tabOf tabL, ctOf [(28, (clock_Clock_day.F.sem (clock_Clock_day.p k))), (29, (clock_Clock_tick.F.sem (clock_Clock_tick.p k))), (9, (clock_Clock_Step.F.sem (clock_Clock_Step.p k)))], mtNone, fun f => memB f [28], codes, rts, 65, fun _ => [], owns, [], eqtOf eqs, fun _ => false, flats⟩
def clock_Clock_Pass.cl0 : CutS R (Int × Int × Int × Int × Int × Int × Int × Int × Int) := ⟨10, [0, 25, 26], [], [.lf, .lf, .lf], [.blk 8 64], Int × Int × Int × Int × Int × Int × Int × Int × Int × Int, (.ptr 0 0 (.cons (dInt .i64) (.cons (dInt .i64) (.cons (dInt .i64) (.cons (dInt .i64) (.cons (dInt .i64) (.cons (dInt .u64) (.cons (dInt .i64) (.cons (dInt .i64) (.cons (dInt .i64) (.last (dInt .i64) .nil))))))))))), fun k z => clock_Clock_Pass.l0 k z.1 z.2.1 z.2.2.1 z.2.2.2.1 z.2.2.2.2.1 z.2.2.2.2.2.1 z.2.2.2.2.2.2.1 z.2.2.2.2.2.2.2.1 z.2.2.2.2.2.2.2.2.1 z.2.2.2.2.2.2.2.2.2⟩
def clock_Clock_Pass.cj0 : CutS R (Int × Int × Int × Int × Int × Int × Int × Int × Int) := ⟨18, [0, 5, 25, 26], [], [.lf, .lf, .lf, .lf], [.blk 8 64], Int × Int × Int × Int × Int × Int × Int × Int × Int × Int × Int, (.ptr 0 0 (.cons (dInt .i64) (.cons (dInt .i64) (.cons (dInt .i64) (.cons (dInt .i64) (.cons (dInt .i64) (.cons (dInt .i64) (.cons (dInt .u64) (.cons (dInt .i64) (.cons (dInt .i64) (.cons (dInt .i64) (.last (dInt .i64) .nil)))))))))))), fun k z => clock_Clock_Pass.j0 k z.1 z.2.1 z.2.2.1 z.2.2.2.1 z.2.2.2.2.1 z.2.2.2.2.2.1 z.2.2.2.2.2.2.1 z.2.2.2.2.2.2.2.1 z.2.2.2.2.2.2.2.2.1 z.2.2.2.2.2.2.2.2.2.1 z.2.2.2.2.2.2.2.2.2.2⟩
def clock_Clock_Pass.cs : List (CutS R (Int × Int × Int × Int × Int × Int × Int × Int × Int)) := [clock_Clock_Pass.cl0, clock_Clock_Pass.cj0]
theorem clock_Clock_Pass.hE (k : Nat) : EnvOk Try.prog (clock_Clock_Pass.E k) := ⟨tabs, ctOf_ok (all_cons (clock_Clock_day.ok k) (all_cons (clock_Clock_tick.ok k) (all_cons (clock_Clock_Step.ok k) all_nil))), mtNone_ok, mixed, eqs_, flats_⟩
theorem clock_Clock_Pass.ol0 : (clock_Clock_Pass.cl0).Ok clock_Clock_Pass.E Try.f10.results.toList 1 (bodyOf Try.f10) clock_Clock_Pass.cs clock_Clock_Pass.F.ret := ⟨fun z => rfl, fun k z => by
 show clock_Clock_Pass.l0 (k + 1) z.1 z.2.1 z.2.2.1 z.2.2.2.1 z.2.2.2.2.1 z.2.2.2.2.2.1 z.2.2.2.2.2.2.1 z.2.2.2.2.2.2.2.1 z.2.2.2.2.2.2.2.2.1 z.2.2.2.2.2.2.2.2.2 = _
 rw [clock_Clock_Pass.l0]
 kernel_rfl⟩
theorem clock_Clock_Pass.oj0 : (clock_Clock_Pass.cj0).Ok clock_Clock_Pass.E Try.f10.results.toList 1 (bodyOf Try.f10) clock_Clock_Pass.cs clock_Clock_Pass.F.ret := ⟨fun z => rfl, fun k z => by
 show clock_Clock_Pass.j0 (k + 1) z.1 z.2.1 z.2.2.1 z.2.2.2.1 z.2.2.2.2.1 z.2.2.2.2.2.1 z.2.2.2.2.2.2.1 z.2.2.2.2.2.2.2.1 z.2.2.2.2.2.2.2.2.1 z.2.2.2.2.2.2.2.2.2.1 z.2.2.2.2.2.2.2.2.2.2 = _
 rw [clock_Clock_Pass.j0]
 kernel_rfl⟩
theorem clock_Clock_Pass.q (k : Nat) (y : Int × Int × Int × Int × Int × Int × Int × Int × Int) : clock_Clock_Pass.p k y = clock_Clock_Pass.F.run clock_Clock_Pass.E Try.f10.results.toList (bodyOf Try.f10) clock_Clock_Pass.cs k y := by kernel_rfl
theorem clock_Clock_Pass.ok (k : Nat) : CsemOk R Try.prog 10 (clock_Clock_Pass.F.sem (clock_Clock_Pass.p k)) := fn_ok (F := clock_Clock_Pass.F) (f := clock_Clock_Pass.p) (E := clock_Clock_Pass.E) clock_Clock_Pass.hE (fun _ => rfl) Try.func10 (body := (bodyOf Try.f10)) rfl (by kernel_rfl) rfl (by decide) (by kernel_rfl) (cuts := clock_Clock_Pass.cs) (all_cons clock_Clock_Pass.ol0 (all_cons clock_Clock_Pass.oj0 all_nil)) clock_Clock_Pass.q k
def clock_Clock_SetLeap.F : FnS R (Int × Int × Int × Int × Int × Int × Int × Int × Int) (Bool × Int × Int × Int × Int × Int × Int × Int × Int) := ⟨[.lf, .lf], [.blk 8 64], (.ptr 0 0 (.cons (dInt .i64) (.cons (dInt .i64) (.cons (dInt .i64) (.cons (dInt .i64) (.cons (dInt .u64) (.cons (dInt .i64) (.cons (dInt .i64) (.cons (dInt .i64) (.last (dInt .i64) .nil)))))))))), .lf, [.blk 8 64], (.cons dBool (.cons (dInt .i64) (.cons (dInt .i64) (.cons (dInt .i64) (.cons (dInt .u64) (.cons (dInt .i64) (.cons (dInt .i64) (.cons (dInt .i64) (.last (dInt .i64) .nil)))))))))⟩
def clock_Clock_SetLeap.p (k : Nat) (y : Int × Int × Int × Int × Int × Int × Int × Int × Int) : Option (Bool × Int × Int × Int × Int × Int × Int × Int × Int) := clock_Clock_SetLeap.f y.1 y.2.1 y.2.2.1 y.2.2.2.1 y.2.2.2.2.1 y.2.2.2.2.2.1 y.2.2.2.2.2.2.1 y.2.2.2.2.2.2.2.1 y.2.2.2.2.2.2.2.2
def clock_Clock_SetLeap.E (k : Nat) : Env R := ⟨tabOf tabL, ctOf [], mtNone, fun _ => false, codes, rts, 14, fun _ => [], owns, [], eqtOf eqs, fun _ => false, flats⟩
def clock_Clock_SetLeap.cs : List (CutS R (Bool × Int × Int × Int × Int × Int × Int × Int × Int)) := []
theorem clock_Clock_SetLeap.hE (k : Nat) : EnvOk Try.prog (clock_Clock_SetLeap.E k) := ⟨tabs, ctOf_ok all_nil, mtNone_ok, mixed, eqs_, flats_⟩
theorem clock_Clock_SetLeap.q (k : Nat) (y : Int × Int × Int × Int × Int × Int × Int × Int × Int) : clock_Clock_SetLeap.p k y = clock_Clock_SetLeap.F.run clock_Clock_SetLeap.E Try.f17.results.toList (bodyOf Try.f17) clock_Clock_SetLeap.cs k y := by kernel_rfl
theorem clock_Clock_SetLeap.ok (k : Nat) : CsemOk R Try.prog 17 (clock_Clock_SetLeap.F.sem (clock_Clock_SetLeap.p k)) := fn_ok (F := clock_Clock_SetLeap.F) (f := clock_Clock_SetLeap.p) (E := clock_Clock_SetLeap.E) clock_Clock_SetLeap.hE (fun _ => rfl) Try.func17 (body := (bodyOf Try.f17)) rfl (by kernel_rfl) rfl (by decide) (by kernel_rfl) (cuts := clock_Clock_SetLeap.cs) all_nil clock_Clock_SetLeap.q k
def foliotlaw16_shown.F : FnS R (Unit) (Bool) := ⟨[], [], .nil, .lf, [], (.last dBool .nil)⟩
def foliotlaw16_shown.p (k : Nat) (y : Unit) : Option (Bool) := foliotlaw16_shown.f k
def foliotlaw16_shown.E (k : Nat) : Env R := ⟨tabOf tabL, ctOf [(7, (clock_New.F.sem (clock_New.p k))), (12, (clock_Clock_Now.F.sem (clock_Clock_Now.p k))), (13, (clock_Clock_True.F.sem (clock_Clock_True.p k))), (11, (clock_Clock_Error.F.sem (clock_Clock_Error.p k))), (31, (clock_Clock_SetRate.F.sem (clock_Clock_SetRate.p k))), (10, (clock_Clock_Pass.F.sem (clock_Clock_Pass.p k))), (17, (clock_Clock_SetLeap.F.sem (clock_Clock_SetLeap.p k)))], mtNone, fun f => memB f [11, 12, 13], codes, rts, 82, fun _ => [], owns, [], eqtOf eqs, fun _ => false, flats⟩
def foliotlaw16_shown.cs : List (CutS R (Bool)) := []
theorem foliotlaw16_shown.hE (k : Nat) : EnvOk Try.prog (foliotlaw16_shown.E k) := ⟨tabs, ctOf_ok (all_cons (clock_New.ok k) (all_cons (clock_Clock_Now.ok k) (all_cons (clock_Clock_True.ok k) (all_cons (clock_Clock_Error.ok k) (all_cons (clock_Clock_SetRate.ok k) (all_cons (clock_Clock_Pass.ok k) (all_cons (clock_Clock_SetLeap.ok k) all_nil))))))), mtNone_ok, mixed, eqs_, flats_⟩
theorem foliotlaw16_shown.q (k : Nat) (y : Unit) : foliotlaw16_shown.p k y = foliotlaw16_shown.F.run foliotlaw16_shown.E Try.f16.results.toList (bodyOf Try.f16) foliotlaw16_shown.cs k y := by kernel_rfl
theorem foliotlaw16_shown.ok (k : Nat) : CsemOk R Try.prog 16 (foliotlaw16_shown.F.sem (foliotlaw16_shown.p k)) := fn_ok (F := foliotlaw16_shown.F) (f := foliotlaw16_shown.p) (E := foliotlaw16_shown.E) foliotlaw16_shown.hE (fun _ => rfl) Try.func16 (body := (bodyOf Try.f16)) rfl (by kernel_rfl) rfl (by decide) (by kernel_rfl) (cuts := foliotlaw16_shown.cs) all_nil foliotlaw16_shown.q k
def foliotlaw16_date.F : FnS R (Int × Int) (Int × Int) := ⟨[.agg 2], [], (.cons (dInt .i64) (.last (dInt .u64) .nil)), .agg 2, [], (.cons (dInt .i64) (.last (dInt .u64) .nil))⟩
def foliotlaw16_date.p (k : Nat) (y : Int × Int) : Option (Int × Int) := foliotlaw16_date.f y.1 y.2
def foliotlaw16_date.E (k : Nat) : Env R := ⟨tabOf tabL, ctOf [], mtNone, fun _ => false, codes, rts, 4, fun _ => [], owns, [], eqtOf eqs, fun _ => false, flats⟩
def foliotlaw16_date.cs : List (CutS R (Int × Int)) := []
theorem foliotlaw16_date.hE (k : Nat) : EnvOk Try.prog (foliotlaw16_date.E k) := ⟨tabs, ctOf_ok all_nil, mtNone_ok, mixed, eqs_, flats_⟩
theorem foliotlaw16_date.q (k : Nat) (y : Int × Int) : foliotlaw16_date.p k y = foliotlaw16_date.F.run foliotlaw16_date.E Try.f22.results.toList (bodyOf Try.f22) foliotlaw16_date.cs k y := by kernel_rfl
theorem foliotlaw16_date.ok (k : Nat) : CsemOk R Try.prog 22 (foliotlaw16_date.F.sem (foliotlaw16_date.p k)) := fn_ok (F := foliotlaw16_date.F) (f := foliotlaw16_date.p) (E := foliotlaw16_date.E) foliotlaw16_date.hE (fun _ => rfl) Try.func22 (body := (bodyOf Try.f22)) rfl (by kernel_rfl) rfl (by decide) (by kernel_rfl) (cuts := foliotlaw16_date.cs) all_nil foliotlaw16_date.q k
def foliotref01_of.F : FnS R (Int) (Bool × (List Int)) := ⟨[.lf], [], (.last (dInt .i64) .nil), .agg 2, [.row 2 3], (.row 2 0 (.cons dBool (.last (dRo 2) .nil)))⟩
def foliotref01_of.p (k : Nat) (y : Int) : Option (Bool × (List Int)) := foliotref01_of.f k y
def foliotref01_of.E (k : Nat) : Env R := ⟨tabOf tabL, ctOf [], mtNone, fun _ => false, codes, rts, 30, fun _ => [], owns, [], eqtOf eqs, fun _ => false, flats⟩
def foliotref01_of.cl0 : CutS R (Bool × (List Int)) := ⟨10, [2, 3, 4], [], [.lf, .lf, .lf], [.blk 2 83, .blk 2 83, .row 2 3, .row 2 3], Int × Bool × Bool × (List Int) × (List Int), (.ptr 0 0 (.ptr 1 0 (.cons (dInt .u64) (.row 2 2 (.cons dBool (.row 2 3 (.cons dBool (.cons (dRo 2) (.last (dRo 2) .nil))))))))), fun k z => foliotref01_of.l0 k z.1 z.2.1 z.2.2.1 z.2.2.2.1 z.2.2.2.2⟩
def foliotref01_of.cs : List (CutS R (Bool × (List Int))) := [foliotref01_of.cl0]
theorem foliotref01_of.hE (k : Nat) : EnvOk Try.prog (foliotref01_of.E k) := ⟨tabs, ctOf_ok all_nil, mtNone_ok, mixed, eqs_, flats_⟩
theorem foliotref01_of.ol0 : (foliotref01_of.cl0).Ok foliotref01_of.E Try.f54.results.toList 0 (bodyOf Try.f54) foliotref01_of.cs foliotref01_of.F.ret := ⟨fun z => rfl, fun k z => by
 show foliotref01_of.l0 (k + 1) z.1 z.2.1 z.2.2.1 z.2.2.2.1 z.2.2.2.2 = _
 rw [foliotref01_of.l0]
 kernel_rfl⟩
theorem foliotref01_of.q (k : Nat) (y : Int) : foliotref01_of.p k y = foliotref01_of.F.run foliotref01_of.E Try.f54.results.toList (bodyOf Try.f54) foliotref01_of.cs k y := by kernel_rfl
theorem foliotref01_of.ok (k : Nat) : CsemOk R Try.prog 54 (foliotref01_of.F.sem (foliotref01_of.p k)) := fn_ok (F := foliotref01_of.F) (f := foliotref01_of.p) (E := foliotref01_of.E) foliotref01_of.hE (fun _ => rfl) Try.func54 (body := (bodyOf Try.f54)) rfl (by kernel_rfl) rfl (by decide) (by kernel_rfl) (cuts := foliotref01_of.cs) (all_cons foliotref01_of.ol0 all_nil) foliotref01_of.q k
def foliotref01_s.F : FnS R (Int) (Bool × (List Int)) := ⟨[.lf], [], (.last (dInt .i64) .nil), .agg 2, [.row 2 3], (.row 2 0 (.cons dBool (.last (dRo 2) .nil)))⟩
def foliotref01_s.p (k : Nat) (y : Int) : Option (Bool × (List Int)) := foliotref01_s.f k y
def foliotref01_s.E (k : Nat) : Env R := ⟨tabOf tabL, ctOf [(54, (foliotref01_of.F.sem (foliotref01_of.p k)))], mtNone, fun _ => false, codes, rts, 5, fun _ => [], owns, [], eqtOf eqs, fun _ => false, flats⟩
def foliotref01_s.cs : List (CutS R (Bool × (List Int))) := []
theorem foliotref01_s.hE (k : Nat) : EnvOk Try.prog (foliotref01_s.E k) := ⟨tabs, ctOf_ok (all_cons (foliotref01_of.ok k) all_nil), mtNone_ok, mixed, eqs_, flats_⟩
theorem foliotref01_s.q (k : Nat) (y : Int) : foliotref01_s.p k y = foliotref01_s.F.run foliotref01_s.E Try.f50.results.toList (bodyOf Try.f50) foliotref01_s.cs k y := by kernel_rfl
theorem foliotref01_s.ok (k : Nat) : CsemOk R Try.prog 50 (foliotref01_s.F.sem (foliotref01_s.p k)) := fn_ok (F := foliotref01_s.F) (f := foliotref01_s.p) (E := foliotref01_s.E) foliotref01_s.hE (fun _ => rfl) Try.func50 (body := (bodyOf Try.f50)) rfl (by kernel_rfl) rfl (by decide) (by kernel_rfl) (cuts := foliotref01_s.cs) all_nil foliotref01_s.q k
def foliotref01_compare.F : FnS R ((List Int) × (List Int)) (Int) := ⟨[.lf, .lf], [], (.cons (dRo 2) (.last (dRo 2) .nil)), .lf, [], (.last (dInt .i64) .nil)⟩
def foliotref01_compare.p (k : Nat) (y : (List Int) × (List Int)) : Option (Int) := foliotref01_compare.f k y.1 y.2
def foliotref01_compare.E (k : Nat) : Env R := ⟨tabOf tabL, ctOf [], mtNone, fun _ => false, codes, rts, 41, fun i => ordOf [(8, [(0, 0), (1, 0), (2, 0), (3, 0), (4, 0), (5, 0), (6, 0), (7, 0), (8, 0)]), (10, [(0, 0), (1, 0), (2, 0), (3, 0), (4, 0), (5, 0), (6, 0), (7, 0), (8, 0)])] i, owns, [], eqtOf eqs, fun _ => false, flats⟩
def foliotref01_compare.cl0 : CutS R (Int) := ⟨12, [0, 1, 5], [], [.lf, .lf, .lf], [], (List Int) × (List Int) × Int, (.cons (dRo 2) (.cons (dRo 2) (.last (dInt .i64) .nil))), fun k z => foliotref01_compare.l0 k z.1 z.2.1 z.2.2⟩
def foliotref01_compare.cs : List (CutS R (Int)) := [foliotref01_compare.cl0]
theorem foliotref01_compare.hE (k : Nat) : EnvOk Try.prog (foliotref01_compare.E k) := ⟨tabs, ctOf_ok all_nil, mtNone_ok, mixed, eqs_, flats_⟩
theorem foliotref01_compare.ol0 : (foliotref01_compare.cl0).Ok foliotref01_compare.E Try.f51.results.toList 0 (bodyOf Try.f51) foliotref01_compare.cs foliotref01_compare.F.ret := ⟨fun z => rfl, fun k z => by
 show foliotref01_compare.l0 (k + 1) z.1 z.2.1 z.2.2 = _
 rw [foliotref01_compare.l0]
 kernel_rfl⟩
theorem foliotref01_compare.q (k : Nat) (y : (List Int) × (List Int)) : foliotref01_compare.p k y = foliotref01_compare.F.run foliotref01_compare.E Try.f51.results.toList (bodyOf Try.f51) foliotref01_compare.cs k y := by kernel_rfl
theorem foliotref01_compare.ok (k : Nat) : CsemOk R Try.prog 51 (foliotref01_compare.F.sem (foliotref01_compare.p k)) := fn_ok (F := foliotref01_compare.F) (f := foliotref01_compare.p) (E := foliotref01_compare.E) foliotref01_compare.hE (fun _ => rfl) Try.func51 (body := (bodyOf Try.f51)) rfl (by kernel_rfl) rfl (by decide) (by kernel_rfl) (cuts := foliotref01_compare.cs) (all_cons foliotref01_compare.ol0 all_nil) foliotref01_compare.q k
def foliotref01_cut.F : FnS R ((List Int) × Bool × Int) (Int) := ⟨[.agg 2, .lf], [], (.cons (dRo 2) (.cons dBool (.last (dInt .i64) .nil))), .lf, [], (.last (dInt .i64) .nil)⟩
def foliotref01_cut.p (k : Nat) (y : (List Int) × Bool × Int) : Option (Int) := foliotref01_cut.f k y.1 y.2.1 y.2.2
def foliotref01_cut.E (k : Nat) : Env R := ⟨tabOf tabL, ctOf [(54, (foliotref01_of.F.sem (foliotref01_of.p k))), (51, (foliotref01_compare.F.sem (foliotref01_compare.p k)))], mtNone, fun f => memB f [51], codes, rts, 40, fun i => ordOf [(1, [(0, 0), (1, 0), (2, 0), (3, 1), (4, 0), (5, 0), (6, 0)])] i, owns, [], eqtOf eqs, fun _ => false, flats⟩
def foliotref01_cut.cl0 : CutS R (Int) := ⟨14, [2, 5, 6], [], [.lf, .lf, .lf], [.blk 2 83], Int × Int × (List Int) × Bool, (.ptr 0 0 (.cons (dInt .i64) (.cons (dInt .i64) (.cons (dRo 2) (.last dBool .nil))))), fun k z => foliotref01_cut.l0 k z.1 z.2.1 z.2.2.1 z.2.2.2⟩
def foliotref01_cut.cs : List (CutS R (Int)) := [foliotref01_cut.cl0]
theorem foliotref01_cut.hE (k : Nat) : EnvOk Try.prog (foliotref01_cut.E k) := ⟨tabs, ctOf_ok (all_cons (foliotref01_of.ok k) (all_cons (foliotref01_compare.ok k) all_nil)), mtNone_ok, mixed, eqs_, flats_⟩
theorem foliotref01_cut.ol0 : (foliotref01_cut.cl0).Ok foliotref01_cut.E Try.f53.results.toList 0 (bodyOf Try.f53) foliotref01_cut.cs foliotref01_cut.F.ret := ⟨fun z => rfl, fun k z => by
 show foliotref01_cut.l0 (k + 1) z.1 z.2.1 z.2.2.1 z.2.2.2 = _
 rw [foliotref01_cut.l0]
 kernel_rfl⟩
theorem foliotref01_cut.q (k : Nat) (y : (List Int) × Bool × Int) : foliotref01_cut.p k y = foliotref01_cut.F.run foliotref01_cut.E Try.f53.results.toList (bodyOf Try.f53) foliotref01_cut.cs k y := by kernel_rfl
theorem foliotref01_cut.ok (k : Nat) : CsemOk R Try.prog 53 (foliotref01_cut.F.sem (foliotref01_cut.p k)) := fn_ok (F := foliotref01_cut.F) (f := foliotref01_cut.p) (E := foliotref01_cut.E) foliotref01_cut.hE (fun _ => rfl) Try.func53 (body := (bodyOf Try.f53)) rfl (by kernel_rfl) rfl (by decide) (by kernel_rfl) (cuts := foliotref01_cut.cs) (all_cons foliotref01_cut.ol0 all_nil) foliotref01_cut.q k
def foliotref01_span.F : FnS R ((List Int) × Bool) (Int) := ⟨[.agg 2], [], (.cons (dRo 2) (.last dBool .nil)), .lf, [], (.last (dInt .i64) .nil)⟩
def foliotref01_span.p (k : Nat) (y : (List Int) × Bool) : Option (Int) := foliotref01_span.f k y.1 y.2
def foliotref01_span.E (k : Nat) : Env R := ⟨tabOf tabL, ctOf [(53, (foliotref01_cut.F.sem (foliotref01_cut.p k)))], mtNone, fun _ => false, codes, rts, 5, fun _ => [], owns, [], eqtOf eqs, fun _ => false, flats⟩
def foliotref01_span.cs : List (CutS R (Int)) := []
theorem foliotref01_span.hE (k : Nat) : EnvOk Try.prog (foliotref01_span.E k) := ⟨tabs, ctOf_ok (all_cons (foliotref01_cut.ok k) all_nil), mtNone_ok, mixed, eqs_, flats_⟩
theorem foliotref01_span.q (k : Nat) (y : (List Int) × Bool) : foliotref01_span.p k y = foliotref01_span.F.run foliotref01_span.E Try.f52.results.toList (bodyOf Try.f52) foliotref01_span.cs k y := by kernel_rfl
theorem foliotref01_span.ok (k : Nat) : CsemOk R Try.prog 52 (foliotref01_span.F.sem (foliotref01_span.p k)) := fn_ok (F := foliotref01_span.F) (f := foliotref01_span.p) (E := foliotref01_span.E) foliotref01_span.hE (fun _ => rfl) Try.func52 (body := (bodyOf Try.f52)) rfl (by kernel_rfl) rfl (by decide) (by kernel_rfl) (cuts := foliotref01_span.cs) all_nil foliotref01_span.q k
def foliotref01_Clamp.F : FnS R (Int × Int) (Int) := ⟨[.lf, .lf], [], (.cons (dInt .i64) (.last (dInt .i64) .nil)), .lf, [], (.last (dInt .i64) .nil)⟩
def foliotref01_Clamp.p (k : Nat) (y : Int × Int) : Option (Int) := foliotref01_Clamp.f k y.1 y.2
def foliotref01_Clamp.E (k : Nat) : Env R := ⟨tabOf tabL, ctOf [(50, (foliotref01_s.F.sem (foliotref01_s.p k))), (51, (foliotref01_compare.F.sem (foliotref01_compare.p k))), (52, (foliotref01_span.F.sem (foliotref01_span.p k)))], mtNone, fun f => memB f [51, 52], codes, rts, 23, fun i => ordOf [(4, [(0, 0), (1, 0), (2, 0), (3, 1), (4, 0), (5, 0), (6, 0)])] i, owns, [], eqtOf eqs, fun _ => false, flats⟩
def foliotref01_Clamp.cs : List (CutS R (Int)) := []
theorem foliotref01_Clamp.hE (k : Nat) : EnvOk Try.prog (foliotref01_Clamp.E k) := ⟨tabs, ctOf_ok (all_cons (foliotref01_s.ok k) (all_cons (foliotref01_compare.ok k) (all_cons (foliotref01_span.ok k) all_nil))), mtNone_ok, mixed, eqs_, flats_⟩
theorem foliotref01_Clamp.q (k : Nat) (y : Int × Int) : foliotref01_Clamp.p k y = foliotref01_Clamp.F.run foliotref01_Clamp.E Try.f32.results.toList (bodyOf Try.f32) foliotref01_Clamp.cs k y := by kernel_rfl
theorem foliotref01_Clamp.ok (k : Nat) : CsemOk R Try.prog 32 (foliotref01_Clamp.F.sem (foliotref01_Clamp.p k)) := fn_ok (F := foliotref01_Clamp.F) (f := foliotref01_Clamp.p) (E := foliotref01_Clamp.E) foliotref01_Clamp.hE (fun _ => rfl) Try.func32 (body := (bodyOf Try.f32)) rfl (by kernel_rfl) rfl (by decide) (by kernel_rfl) (cuts := foliotref01_Clamp.cs) all_nil foliotref01_Clamp.q k
def foliotref01_Cut.F : FnS R (Int) (Int) := ⟨[.lf], [], (.last (dInt .i64) .nil), .lf, [], (.last (dInt .i64) .nil)⟩
def foliotref01_Cut.p (k : Nat) (y : Int) : Option (Int) := foliotref01_Cut.f k y
def foliotref01_Cut.E (k : Nat) : Env R := ⟨tabOf tabL, ctOf [(54, (foliotref01_of.F.sem (foliotref01_of.p k))), (53, (foliotref01_cut.F.sem (foliotref01_cut.p k)))], mtNone, fun f => memB f [53], codes, rts, 6, fun _ => [], owns, [], eqtOf eqs, fun _ => false, flats⟩
def foliotref01_Cut.cs : List (CutS R (Int)) := []
theorem foliotref01_Cut.hE (k : Nat) : EnvOk Try.prog (foliotref01_Cut.E k) := ⟨tabs, ctOf_ok (all_cons (foliotref01_of.ok k) (all_cons (foliotref01_cut.ok k) all_nil)), mtNone_ok, mixed, eqs_, flats_⟩
theorem foliotref01_Cut.q (k : Nat) (y : Int) : foliotref01_Cut.p k y = foliotref01_Cut.F.run foliotref01_Cut.E Try.f33.results.toList (bodyOf Try.f33) foliotref01_Cut.cs k y := by kernel_rfl
theorem foliotref01_Cut.ok (k : Nat) : CsemOk R Try.prog 33 (foliotref01_Cut.F.sem (foliotref01_Cut.p k)) := fn_ok (F := foliotref01_Cut.F) (f := foliotref01_Cut.p) (E := foliotref01_Cut.E) foliotref01_Cut.hE (fun _ => rfl) Try.func33 (body := (bodyOf Try.f33)) rfl (by kernel_rfl) rfl (by decide) (by kernel_rfl) (cuts := foliotref01_Cut.cs) all_nil foliotref01_Cut.q k
def foliotref16_New.F : FnS R (Int × Int × Int × Int) (Int × Int × Int × Int × Int × Int × Int × Int) := ⟨[.agg 2, .lf, .lf], [], (.cons (dInt .i64) (.cons (dInt .u64) (.cons (dInt .i64) (.last (dInt .i64) .nil)))), .lf, [.blk 8 69], (.ptr 0 0 (.cons (dInt .i64) (.cons (dInt .u64) (.cons (dInt .i64) (.cons (dInt .i64) (.cons (dInt .i64) (.cons (dInt .i64) (.cons (dInt .i64) (.last (dInt .i64) .nil)))))))))⟩
def foliotref16_New.p (k : Nat) (y : Int × Int × Int × Int) : Option (Int × Int × Int × Int × Int × Int × Int × Int) := foliotref16_New.f k y.1 y.2.1 y.2.2.1 y.2.2.2
def foliotref16_New.E (k : Nat) : Env R := ⟨tabOf tabL, ctOf [(32, (foliotref01_Clamp.F.sem (foliotref01_Clamp.p k))), (33, (foliotref01_Cut.F.sem (foliotref01_Cut.p k)))], mtNone, fun f => memB f [32, 33], codes, rts, 23, fun i => ordOf [(3, [(0, 0), (1, 0), (2, 0), (3, 0), (4, 0), (5, 0), (6, 1), (7, 0)])] i, owns, [], eqtOf eqs, fun _ => false, flats⟩
def foliotref16_New.cs : List (CutS R (Int × Int × Int × Int × Int × Int × Int × Int)) := []
theorem foliotref16_New.hE (k : Nat) : EnvOk Try.prog (foliotref16_New.E k) := ⟨tabs, ctOf_ok (all_cons (foliotref01_Clamp.ok k) (all_cons (foliotref01_Cut.ok k) all_nil)), mtNone_ok, mixed, eqs_, flats_⟩
theorem foliotref16_New.q (k : Nat) (y : Int × Int × Int × Int) : foliotref16_New.p k y = foliotref16_New.F.run foliotref16_New.E Try.f21.results.toList (bodyOf Try.f21) foliotref16_New.cs k y := by kernel_rfl
theorem foliotref16_New.ok (k : Nat) : CsemOk R Try.prog 21 (foliotref16_New.F.sem (foliotref16_New.p k)) := fn_ok (F := foliotref16_New.F) (f := foliotref16_New.p) (E := foliotref16_New.E) foliotref16_New.hE (fun _ => rfl) Try.func21 (body := (bodyOf Try.f21)) rfl (by kernel_rfl) rfl (by decide) (by kernel_rfl) (cuts := foliotref16_New.cs) all_nil foliotref16_New.q k
def foliotref16_shifted.F : FnS R (Int × Int × Int) (Int × Int) := ⟨[.agg 2, .lf], [], (.cons (dInt .i64) (.cons (dInt .u64) (.last (dInt .i64) .nil))), .agg 2, [], (.cons (dInt .i64) (.last (dInt .u64) .nil))⟩
def foliotref16_shifted.p (k : Nat) (y : Int × Int × Int) : Option (Int × Int) := foliotref16_shifted.f k y.1 y.2.1 y.2.2
def foliotref16_shifted.E (k : Nat) : Env R := ⟨tabOf tabL, ctOf [], mtNone, fun _ => false, codes, rts, 38, fun _ => [], owns, [], eqtOf eqs, fun _ => false, flats⟩
def foliotref16_shifted.cj0 : CutS R (Int × Int) := ⟨8, [1, 2, 4, 5], [], [.lf, .lf, .lf, .lf], [.blk 2 52, .blk 2 52], Int × Int × Int × Int × Int × Int, (.cons (dInt .i64) (.ptr 0 0 (.ptr 1 0 (.cons (dInt .u64) (.cons (dInt .i64) (.cons (dInt .u64) (.cons (dInt .i64) (.last (dInt .u64) .nil)))))))), fun k z => foliotref16_shifted.j0 k z.1 z.2.1 z.2.2.1 z.2.2.2.1 z.2.2.2.2.1 z.2.2.2.2.2⟩
def foliotref16_shifted.cs : List (CutS R (Int × Int)) := [foliotref16_shifted.cj0]
theorem foliotref16_shifted.hE (k : Nat) : EnvOk Try.prog (foliotref16_shifted.E k) := ⟨tabs, ctOf_ok all_nil, mtNone_ok, mixed, eqs_, flats_⟩
theorem foliotref16_shifted.oj0 : (foliotref16_shifted.cj0).Ok foliotref16_shifted.E Try.f55.results.toList 0 (bodyOf Try.f55) foliotref16_shifted.cs foliotref16_shifted.F.ret := ⟨fun z => rfl, fun k z => by
 show foliotref16_shifted.j0 (k + 1) z.1 z.2.1 z.2.2.1 z.2.2.2.1 z.2.2.2.2.1 z.2.2.2.2.2 = _
 rw [foliotref16_shifted.j0]
 kernel_rfl⟩
theorem foliotref16_shifted.q (k : Nat) (y : Int × Int × Int) : foliotref16_shifted.p k y = foliotref16_shifted.F.run foliotref16_shifted.E Try.f55.results.toList (bodyOf Try.f55) foliotref16_shifted.cs k y := by kernel_rfl
theorem foliotref16_shifted.ok (k : Nat) : CsemOk R Try.prog 55 (foliotref16_shifted.F.sem (foliotref16_shifted.p k)) := fn_ok (F := foliotref16_shifted.F) (f := foliotref16_shifted.p) (E := foliotref16_shifted.E) foliotref16_shifted.hE (fun _ => rfl) Try.func55 (body := (bodyOf Try.f55)) rfl (by kernel_rfl) rfl (by decide) (by kernel_rfl) (cuts := foliotref16_shifted.cs) (all_cons foliotref16_shifted.oj0 all_nil) foliotref16_shifted.q k
def foliotref16_Clock_Date.F : FnS R (S69) (Int × Int) := ⟨[.lf], [], (.last (dEpt 3 0) .nil), .agg 2, [], (.cons (dInt .i64) (.last (dInt .u64) .nil))⟩
def foliotref16_Clock_Date.p (k : Nat) (y : S69) : Option (Int × Int) := foliotref16_Clock_Date.f k y
def foliotref16_Clock_Date.E (k : Nat) : Env R := ⟨tabOf tabL, ctOf [(55, (foliotref16_shifted.F.sem (foliotref16_shifted.p k)))], mtNone, fun f => memB f [55], codes, rts, 12, fun i => ordOf [(1, [(0, 0), (1, 0), (2, 0), (3, 0), (4, 0), (5, 0), (6, 0), (7, 0), (8, 0), (9, 2)])] i, owns, [], eqtOf eqs, fun _ => false, flats⟩
def foliotref16_Clock_Date.cs : List (CutS R (Int × Int)) := []
theorem foliotref16_Clock_Date.hE (k : Nat) : EnvOk Try.prog (foliotref16_Clock_Date.E k) := ⟨tabs, ctOf_ok (all_cons (foliotref16_shifted.ok k) all_nil), mtNone_ok, mixed, eqs_, flats_⟩
theorem foliotref16_Clock_Date.q (k : Nat) (y : S69) : foliotref16_Clock_Date.p k y = foliotref16_Clock_Date.F.run foliotref16_Clock_Date.E Try.f35.results.toList (bodyOf Try.f35) foliotref16_Clock_Date.cs k y := by kernel_rfl
theorem foliotref16_Clock_Date.ok (k : Nat) : CsemOk R Try.prog 35 (foliotref16_Clock_Date.F.sem (foliotref16_Clock_Date.p k)) := fn_ok (F := foliotref16_Clock_Date.F) (f := foliotref16_Clock_Date.p) (E := foliotref16_Clock_Date.E) foliotref16_Clock_Date.hE (fun _ => rfl) Try.func35 (body := (bodyOf Try.f35)) rfl (by kernel_rfl) rfl (by decide) (by kernel_rfl) (cuts := foliotref16_Clock_Date.cs) all_nil foliotref16_Clock_Date.q k
def foliotref16_Clock_Now.F : FnS R (S69) (Int) := ⟨[.lf], [], (.last (dEpt 3 0) .nil), .lf, [], (.last (dInt .u64) .nil)⟩
def foliotref16_Clock_Now.p (k : Nat) (y : S69) : Option (Int) := foliotref16_Clock_Now.f k y
def foliotref16_Clock_Now.E (k : Nat) : Env R := ⟨tabOf tabL, ctOf [(35, (foliotref16_Clock_Date.F.sem (foliotref16_Clock_Date.p k)))], mtNone, fun _ => false, codes, rts, 6, fun _ => [], owns, [], eqtOf eqs, fun _ => false, flats⟩
def foliotref16_Clock_Now.cs : List (CutS R (Int)) := []
theorem foliotref16_Clock_Now.hE (k : Nat) : EnvOk Try.prog (foliotref16_Clock_Now.E k) := ⟨tabs, ctOf_ok (all_cons (foliotref16_Clock_Date.ok k) all_nil), mtNone_ok, mixed, eqs_, flats_⟩
theorem foliotref16_Clock_Now.q (k : Nat) (y : S69) : foliotref16_Clock_Now.p k y = foliotref16_Clock_Now.F.run foliotref16_Clock_Now.E Try.f34.results.toList (bodyOf Try.f34) foliotref16_Clock_Now.cs k y := by kernel_rfl
theorem foliotref16_Clock_Now.ok (k : Nat) : CsemOk R Try.prog 34 (foliotref16_Clock_Now.F.sem (foliotref16_Clock_Now.p k)) := fn_ok (F := foliotref16_Clock_Now.F) (f := foliotref16_Clock_Now.p) (E := foliotref16_Clock_Now.E) foliotref16_Clock_Now.hE (fun _ => rfl) Try.func34 (body := (bodyOf Try.f34)) rfl (by kernel_rfl) rfl (by decide) (by kernel_rfl) (cuts := foliotref16_Clock_Now.cs) all_nil foliotref16_Clock_Now.q k
def clock_Clock_Freq.F : FnS R (S64) (Int) := ⟨[.lf], [], (.last (dEpt 1 0) .nil), .lf, [], (.last (dInt .i64) .nil)⟩
def clock_Clock_Freq.p (k : Nat) (y : S64) : Option (Int) := clock_Clock_Freq.f y
def clock_Clock_Freq.E (k : Nat) : Env R := ⟨tabOf tabL, ctOf [], mtNone, fun _ => false, codes, rts, 8, fun _ => [], owns, [], eqtOf eqs, fun _ => false, flats⟩
def clock_Clock_Freq.cs : List (CutS R (Int)) := []
theorem clock_Clock_Freq.hE (k : Nat) : EnvOk Try.prog (clock_Clock_Freq.E k) := ⟨tabs, ctOf_ok all_nil, mtNone_ok, mixed, eqs_, flats_⟩
theorem clock_Clock_Freq.q (k : Nat) (y : S64) : clock_Clock_Freq.p k y = clock_Clock_Freq.F.run clock_Clock_Freq.E Try.f36.results.toList (bodyOf Try.f36) clock_Clock_Freq.cs k y := by kernel_rfl
theorem clock_Clock_Freq.ok (k : Nat) : CsemOk R Try.prog 36 (clock_Clock_Freq.F.sem (clock_Clock_Freq.p k)) := fn_ok (F := clock_Clock_Freq.F) (f := clock_Clock_Freq.p) (E := clock_Clock_Freq.E) clock_Clock_Freq.hE (fun _ => rfl) Try.func36 (body := (bodyOf Try.f36)) rfl (by kernel_rfl) rfl (by decide) (by kernel_rfl) (cuts := clock_Clock_Freq.cs) all_nil clock_Clock_Freq.q k
def clock_Clock_Rate.F : FnS R (S64) (Int) := ⟨[.lf], [], (.last (dEpt 1 0) .nil), .lf, [], (.last (dInt .i64) .nil)⟩
def clock_Clock_Rate.p (k : Nat) (y : S64) : Option (Int) := clock_Clock_Rate.f y
def clock_Clock_Rate.E (k : Nat) : Env R := ⟨tabOf tabL, ctOf [], mtNone, fun _ => false, codes, rts, 8, fun _ => [], owns, [], eqtOf eqs, fun _ => false, flats⟩
def clock_Clock_Rate.cs : List (CutS R (Int)) := []
theorem clock_Clock_Rate.hE (k : Nat) : EnvOk Try.prog (clock_Clock_Rate.E k) := ⟨tabs, ctOf_ok all_nil, mtNone_ok, mixed, eqs_, flats_⟩
theorem clock_Clock_Rate.q (k : Nat) (y : S64) : clock_Clock_Rate.p k y = clock_Clock_Rate.F.run clock_Clock_Rate.E Try.f37.results.toList (bodyOf Try.f37) clock_Clock_Rate.cs k y := by kernel_rfl
theorem clock_Clock_Rate.ok (k : Nat) : CsemOk R Try.prog 37 (clock_Clock_Rate.F.sem (clock_Clock_Rate.p k)) := fn_ok (F := clock_Clock_Rate.F) (f := clock_Clock_Rate.p) (E := clock_Clock_Rate.E) clock_Clock_Rate.hE (fun _ => rfl) Try.func37 (body := (bodyOf Try.f37)) rfl (by kernel_rfl) rfl (by decide) (by kernel_rfl) (cuts := clock_Clock_Rate.cs) all_nil clock_Clock_Rate.q k
def clock_Clock_Seconds.F : FnS R (S64) (Int) := ⟨[.lf], [], (.last (dEpt 1 0) .nil), .lf, [], (.last (dInt .i64) .nil)⟩
def clock_Clock_Seconds.p (k : Nat) (y : S64) : Option (Int) := clock_Clock_Seconds.f y
def clock_Clock_Seconds.E (k : Nat) : Env R := ⟨tabOf tabL, ctOf [], mtNone, fun _ => false, codes, rts, 7, fun _ => [], owns, [], eqtOf eqs, fun _ => false, flats⟩
def clock_Clock_Seconds.cs : List (CutS R (Int)) := []
theorem clock_Clock_Seconds.hE (k : Nat) : EnvOk Try.prog (clock_Clock_Seconds.E k) := ⟨tabs, ctOf_ok all_nil, mtNone_ok, mixed, eqs_, flats_⟩
theorem clock_Clock_Seconds.q (k : Nat) (y : S64) : clock_Clock_Seconds.p k y = clock_Clock_Seconds.F.run clock_Clock_Seconds.E Try.f15.results.toList (bodyOf Try.f15) clock_Clock_Seconds.cs k y := by kernel_rfl
theorem clock_Clock_Seconds.ok (k : Nat) : CsemOk R Try.prog 15 (clock_Clock_Seconds.F.sem (clock_Clock_Seconds.p k)) := fn_ok (F := clock_Clock_Seconds.F) (f := clock_Clock_Seconds.p) (E := clock_Clock_Seconds.E) clock_Clock_Seconds.hE (fun _ => rfl) Try.func15 (body := (bodyOf Try.f15)) rfl (by kernel_rfl) rfl (by decide) (by kernel_rfl) (cuts := clock_Clock_Seconds.cs) all_nil clock_Clock_Seconds.q k
def foliotlaw16_told.F : FnS R (S64 × S69) (Bool) := ⟨[.lf, .lf], [], (.cons (dEpt 1 0) (.last (dEpt 3 0) .nil)), .lf, [], (.last dBool .nil)⟩
def foliotlaw16_told.p (k : Nat) (y : S64 × S69) : Option (Bool) := foliotlaw16_told.f k y.1 y.2
def foliotlaw16_told.E (k : Nat) : Env R := ⟨tabOf tabL, ctOf [(12, (clock_Clock_Now.F.sem (clock_Clock_Now.p k))), (34, (foliotref16_Clock_Now.F.sem (foliotref16_Clock_Now.p k))), (14, (clock_Clock_Date.F.sem (clock_Clock_Date.p k))), (22, (foliotlaw16_date.F.sem (foliotlaw16_date.p k))), (35, (foliotref16_Clock_Date.F.sem (foliotref16_Clock_Date.p k))), (13, (clock_Clock_True.F.sem (clock_Clock_True.p k))), (11, (clock_Clock_Error.F.sem (clock_Clock_Error.p k))), (36, (clock_Clock_Freq.F.sem (clock_Clock_Freq.p k))), (37, (clock_Clock_Rate.F.sem (clock_Clock_Rate.p k))), (15, (clock_Clock_Seconds.F.sem (clock_Clock_Seconds.p k)))], mtNone, fun f => memB f [11, 12, 13, 14, 15, 22, 34, 35, 36, 37], codes, rts, 64, fun i => ordOf [(1, [(0, 0), (1, 0), (2, 0), (3, 0), (4, 0), (5, 0), (6, 0), (7, 0), (8, 0), (9, 0), (10, 0), (11, 0), (12, 0), (13, 0), (14, 0), (15, 0), (16, 0), (17, 0), (18, 0), (19, 0), (20, 0), (21, 0), (22, 0), (23, 0), (24, 0), (25, 0), (26, 0), (27, 0), (28, 0), (29, 0), (30, 0), (31, 0), (32, 0), (33, 0), (34, 0), (35, 0), (36, 0), (37, 0), (38, 0), (39, 0), (40, 0), (41, 0), (42, 0), (43, 0), (44, 0), (45, 0), (46, 0), (47, 0), (48, 0), (49, 0), (50, 0), (51, 0), (52, 0), (53, 0), (54, 0), (55, 0), (56, 0), (57, 0), (58, 0), (59, 0)])] i, owns, [], eqtOf eqs, fun _ => false, flats⟩
def foliotlaw16_told.cs : List (CutS R (Bool)) := []
theorem foliotlaw16_told.hE (k : Nat) : EnvOk Try.prog (foliotlaw16_told.E k) := ⟨tabs, ctOf_ok (all_cons (clock_Clock_Now.ok k) (all_cons (foliotref16_Clock_Now.ok k) (all_cons (clock_Clock_Date.ok k) (all_cons (foliotlaw16_date.ok k) (all_cons (foliotref16_Clock_Date.ok k) (all_cons (clock_Clock_True.ok k) (all_cons (clock_Clock_Error.ok k) (all_cons (clock_Clock_Freq.ok k) (all_cons (clock_Clock_Rate.ok k) (all_cons (clock_Clock_Seconds.ok k) all_nil)))))))))), mtNone_ok, mixed, eqs_, flats_⟩
theorem foliotlaw16_told.q (k : Nat) (y : S64 × S69) : foliotlaw16_told.p k y = foliotlaw16_told.F.run foliotlaw16_told.E Try.f23.results.toList (bodyOf Try.f23) foliotlaw16_told.cs k y := by kernel_rfl
theorem foliotlaw16_told.ok (k : Nat) : CsemOk R Try.prog 23 (foliotlaw16_told.F.sem (foliotlaw16_told.p k)) := fn_ok (F := foliotlaw16_told.F) (f := foliotlaw16_told.p) (E := foliotlaw16_told.E) foliotlaw16_told.hE (fun _ => rfl) Try.func23 (body := (bodyOf Try.f23)) rfl (by kernel_rfl) rfl (by decide) (by kernel_rfl) (cuts := foliotlaw16_told.cs) all_nil foliotlaw16_told.q k
def foliotref16_Clock_day.F : FnS R (S69) (Int) := ⟨[.lf], [], (.last (dEpt 3 0) .nil), .lf, [], (.last (dInt .i64) .nil)⟩
def foliotref16_Clock_day.p (k : Nat) (y : S69) : Option (Int) := foliotref16_Clock_day.f k y
def foliotref16_Clock_day.E (k : Nat) : Env R := ⟨tabOf tabL, ctOf [(35, (foliotref16_Clock_Date.F.sem (foliotref16_Clock_Date.p k)))], mtNone, fun _ => false, codes, rts, 25, fun _ => [], owns, [], eqtOf eqs, fun _ => false, flats⟩
def foliotref16_Clock_day.cs : List (CutS R (Int)) := []
theorem foliotref16_Clock_day.hE (k : Nat) : EnvOk Try.prog (foliotref16_Clock_day.E k) := ⟨tabs, ctOf_ok (all_cons (foliotref16_Clock_Date.ok k) all_nil), mtNone_ok, mixed, eqs_, flats_⟩
theorem foliotref16_Clock_day.q (k : Nat) (y : S69) : foliotref16_Clock_day.p k y = foliotref16_Clock_day.F.run foliotref16_Clock_day.E Try.f56.results.toList (bodyOf Try.f56) foliotref16_Clock_day.cs k y := by kernel_rfl
theorem foliotref16_Clock_day.ok (k : Nat) : CsemOk R Try.prog 56 (foliotref16_Clock_day.F.sem (foliotref16_Clock_day.p k)) := fn_ok (F := foliotref16_Clock_day.F) (f := foliotref16_Clock_day.p) (E := foliotref16_Clock_day.E) foliotref16_Clock_day.hE (fun _ => rfl) Try.func56 (body := (bodyOf Try.f56)) rfl (by kernel_rfl) rfl (by decide) (by kernel_rfl) (cuts := foliotref16_Clock_day.cs) all_nil foliotref16_Clock_day.q k
def foliotref01_trim.F : FnS R ((List Int)) ((List Int)) := ⟨[.lf], [], (.last (dRo 2) .nil), .lf, [], (.last (dRo 2) .nil)⟩
def foliotref01_trim.p (k : Nat) (y : (List Int)) : Option ((List Int)) := foliotref01_trim.f k y
def foliotref01_trim.E (k : Nat) : Env R := ⟨tabOf tabL, ctOf [], mtNone, fun _ => false, codes, rts, 21, fun _ => [], owns, [], eqtOf eqs, fun _ => false, flats⟩
def foliotref01_trim.cl0 : CutS R ((List Int)) := ⟨4, [0, 3], [], [.lf, .lf], [], (List Int) × Int, (.cons (dRo 2) (.last (dInt .i64) .nil)), fun k z => foliotref01_trim.l0 k z.1 z.2⟩
def foliotref01_trim.cs : List (CutS R ((List Int))) := [foliotref01_trim.cl0]
theorem foliotref01_trim.hE (k : Nat) : EnvOk Try.prog (foliotref01_trim.E k) := ⟨tabs, ctOf_ok all_nil, mtNone_ok, mixed, eqs_, flats_⟩
theorem foliotref01_trim.ol0 : (foliotref01_trim.cl0).Ok foliotref01_trim.E Try.f77.results.toList 0 (bodyOf Try.f77) foliotref01_trim.cs foliotref01_trim.F.ret := ⟨fun z => rfl, fun k z => by
 show foliotref01_trim.l0 (k + 1) z.1 z.2 = _
 rw [foliotref01_trim.l0]
 kernel_rfl⟩
theorem foliotref01_trim.q (k : Nat) (y : (List Int)) : foliotref01_trim.p k y = foliotref01_trim.F.run foliotref01_trim.E Try.f77.results.toList (bodyOf Try.f77) foliotref01_trim.cs k y := by kernel_rfl
theorem foliotref01_trim.ok (k : Nat) : CsemOk R Try.prog 77 (foliotref01_trim.F.sem (foliotref01_trim.p k)) := fn_ok (F := foliotref01_trim.F) (f := foliotref01_trim.p) (E := foliotref01_trim.E) foliotref01_trim.hE (fun _ => rfl) Try.func77 (body := (bodyOf Try.f77)) rfl (by kernel_rfl) rfl (by decide) (by kernel_rfl) (cuts := foliotref01_trim.cs) (all_cons foliotref01_trim.ol0 all_nil) foliotref01_trim.q k
def foliotref01_trim_s1.F : FnS R ((List Int)) ((List Int)) := ⟨[.lf], [.row 2 3], (.row 2 0 (.last (dRo 2) .nil)), .lf, [.dead, .row 2 3], (.row 2 1 (.last (dRo 2) .nil))⟩
def foliotref01_trim_s1.p (k : Nat) (y : (List Int)) : Option ((List Int)) := foliotref01_trim_s1.f k y
def foliotref01_trim_s1.E (k : Nat) : Env R := ⟨tabOf tabL, ctOf [], mtNone, fun _ => false, codes, rts, 21, fun _ => [], owns, [some (.take 2 3)], eqtOf eqs, fun _ => false, flats⟩
def foliotref01_trim_s1.cl0 : CutS R ((List Int)) := ⟨4, [0, 3], [], [.lf, .lf], [.row 2 3], Int × (List Int), (.row 2 0 (.cons (dInt .i64) (.last (dRo 2) .nil))), fun k z => foliotref01_trim_s1.l0 k z.1 z.2⟩
def foliotref01_trim_s1.cs : List (CutS R ((List Int))) := [foliotref01_trim_s1.cl0]
theorem foliotref01_trim_s1.hE (k : Nat) : EnvOk Try.prog (foliotref01_trim_s1.E k) := ⟨tabs, ctOf_ok all_nil, mtNone_ok, mixed, eqs_, flats_⟩
theorem foliotref01_trim_s1.ol0 : (foliotref01_trim_s1.cl0).Ok foliotref01_trim_s1.E Try.f77.results.toList 1 (bodyOf Try.f77) foliotref01_trim_s1.cs foliotref01_trim_s1.F.ret := ⟨fun z => rfl, fun k z => by
 show foliotref01_trim_s1.l0 (k + 1) z.1 z.2 = _
 rw [foliotref01_trim_s1.l0]
 kernel_rfl⟩
theorem foliotref01_trim_s1.q (k : Nat) (y : (List Int)) : foliotref01_trim_s1.p k y = foliotref01_trim_s1.F.run foliotref01_trim_s1.E Try.f77.results.toList (bodyOf Try.f77) foliotref01_trim_s1.cs k y := by kernel_rfl
theorem foliotref01_trim_s1.ok (k : Nat) : CsemOk R Try.prog 77 (foliotref01_trim_s1.F.sem (foliotref01_trim_s1.p k)) := fn_ok (F := foliotref01_trim_s1.F) (f := foliotref01_trim_s1.p) (E := foliotref01_trim_s1.E) foliotref01_trim_s1.hE (fun _ => rfl) Try.func77 (body := (bodyOf Try.f77)) rfl (by kernel_rfl) rfl (by decide) (by kernel_rfl) (cuts := foliotref01_trim_s1.cs) (all_cons foliotref01_trim_s1.ol0 all_nil) foliotref01_trim_s1.q k
def foliotref01_plus.F : FnS R ((List Int) × (List Int)) ((List Int)) := ⟨[.lf, .lf], [], (.cons (dRo 2) (.last (dRo 2) .nil)), .lf, [.row 2 3], (.row 2 0 (.last (dRo 2) .nil))⟩
def foliotref01_plus.p (k : Nat) (y : (List Int) × (List Int)) : Option ((List Int)) := foliotref01_plus.f k y.1 y.2
def foliotref01_plus.E (k : Nat) : Env R := ⟨tabOf tabL, ctOf [(77, (foliotref01_trim_s1.F.sem (foliotref01_trim_s1.p k)))], mtNone, fun _ => false, codes, rts, 54, fun _ => [], owns, [], eqtOf eqs, fun _ => false, flats⟩
def foliotref01_plus.cl0 : CutS R ((List Int)) := ⟨8, [0, 1, 5, 6, 7], [], [.lf, .lf, .lf, .lf, .lf], [.row 2 3], (List Int) × (List Int) × Int × Int × (List Int), (.cons (dRo 2) (.cons (dRo 2) (.row 2 0 (.cons (dInt .i64) (.cons (dInt .i64) (.last (dRo 2) .nil)))))), fun k z => foliotref01_plus.l0 k z.1 z.2.1 z.2.2.1 z.2.2.2.1 z.2.2.2.2⟩
def foliotref01_plus.cj0 : CutS R ((List Int)) := ⟨16, [0, 1, 5, 6, 7], [], [.lf, .lf, .lf, .lf, .lf], [.row 2 3], (List Int) × (List Int) × Int × Int × (List Int), (.cons (dRo 2) (.cons (dRo 2) (.row 2 0 (.cons (dInt .i64) (.cons (dInt .i64) (.last (dRo 2) .nil)))))), fun k z => foliotref01_plus.j0 k z.1 z.2.1 z.2.2.1 z.2.2.2.1 z.2.2.2.2⟩
def foliotref01_plus.cj1 : CutS R ((List Int)) := ⟨20, [0, 1, 5, 6, 7], [], [.lf, .lf, .lf, .lf, .lf], [.row 2 3], (List Int) × (List Int) × Int × Int × (List Int), (.cons (dRo 2) (.cons (dRo 2) (.row 2 0 (.cons (dInt .i64) (.cons (dInt .i64) (.last (dRo 2) .nil)))))), fun k z => foliotref01_plus.j1 k z.1 z.2.1 z.2.2.1 z.2.2.2.1 z.2.2.2.2⟩
def foliotref01_plus.cs : List (CutS R ((List Int))) := [foliotref01_plus.cl0, foliotref01_plus.cj0, foliotref01_plus.cj1]
theorem foliotref01_plus.hE (k : Nat) : EnvOk Try.prog (foliotref01_plus.E k) := ⟨tabs, ctOf_ok (all_cons (foliotref01_trim_s1.ok k) all_nil), mtNone_ok, mixed, eqs_, flats_⟩
theorem foliotref01_plus.ol0 : (foliotref01_plus.cl0).Ok foliotref01_plus.E Try.f71.results.toList 0 (bodyOf Try.f71) foliotref01_plus.cs foliotref01_plus.F.ret := ⟨fun z => rfl, fun k z => by
 show foliotref01_plus.l0 (k + 1) z.1 z.2.1 z.2.2.1 z.2.2.2.1 z.2.2.2.2 = _
 rw [foliotref01_plus.l0]
 kernel_rfl⟩
theorem foliotref01_plus.oj0 : (foliotref01_plus.cj0).Ok foliotref01_plus.E Try.f71.results.toList 0 (bodyOf Try.f71) foliotref01_plus.cs foliotref01_plus.F.ret := ⟨fun z => rfl, fun k z => by
 show foliotref01_plus.j0 (k + 1) z.1 z.2.1 z.2.2.1 z.2.2.2.1 z.2.2.2.2 = _
 rw [foliotref01_plus.j0]
 kernel_rfl⟩
theorem foliotref01_plus.oj1 : (foliotref01_plus.cj1).Ok foliotref01_plus.E Try.f71.results.toList 0 (bodyOf Try.f71) foliotref01_plus.cs foliotref01_plus.F.ret := ⟨fun z => rfl, fun k z => by
 show foliotref01_plus.j1 (k + 1) z.1 z.2.1 z.2.2.1 z.2.2.2.1 z.2.2.2.2 = _
 rw [foliotref01_plus.j1]
 kernel_rfl⟩
theorem foliotref01_plus.q (k : Nat) (y : (List Int) × (List Int)) : foliotref01_plus.p k y = foliotref01_plus.F.run foliotref01_plus.E Try.f71.results.toList (bodyOf Try.f71) foliotref01_plus.cs k y := by kernel_rfl
theorem foliotref01_plus.ok (k : Nat) : CsemOk R Try.prog 71 (foliotref01_plus.F.sem (foliotref01_plus.p k)) := fn_ok (F := foliotref01_plus.F) (f := foliotref01_plus.p) (E := foliotref01_plus.E) foliotref01_plus.hE (fun _ => rfl) Try.func71 (body := (bodyOf Try.f71)) rfl (by kernel_rfl) rfl (by decide) (by kernel_rfl) (cuts := foliotref01_plus.cs) (all_cons foliotref01_plus.ol0 (all_cons foliotref01_plus.oj0 (all_cons foliotref01_plus.oj1 all_nil))) foliotref01_plus.q k
def foliotref01_minus.F : FnS R ((List Int) × (List Int)) ((List Int)) := ⟨[.lf, .lf], [], (.cons (dRo 2) (.last (dRo 2) .nil)), .lf, [.row 2 3], (.row 2 0 (.last (dRo 2) .nil))⟩
def foliotref01_minus.p (k : Nat) (y : (List Int) × (List Int)) : Option ((List Int)) := foliotref01_minus.f k y.1 y.2
def foliotref01_minus.E (k : Nat) : Env R := ⟨tabOf tabL, ctOf [(77, (foliotref01_trim_s1.F.sem (foliotref01_trim_s1.p k)))], mtNone, fun _ => false, codes, rts, 42, fun _ => [], owns, [], eqtOf eqs, fun _ => false, flats⟩
def foliotref01_minus.cl0 : CutS R ((List Int)) := ⟨8, [0, 1, 5, 6, 7], [], [.lf, .lf, .lf, .lf, .lf], [.row 2 3], (List Int) × (List Int) × Int × Int × (List Int), (.cons (dRo 2) (.cons (dRo 2) (.row 2 0 (.cons (dInt .i64) (.cons (dInt .i64) (.last (dRo 2) .nil)))))), fun k z => foliotref01_minus.l0 k z.1 z.2.1 z.2.2.1 z.2.2.2.1 z.2.2.2.2⟩
def foliotref01_minus.cj0 : CutS R ((List Int)) := ⟨18, [0, 1, 5, 7, 8], [], [.lf, .lf, .lf, .lf, .lf], [.row 2 3], (List Int) × (List Int) × Int × Int × (List Int), (.cons (dRo 2) (.cons (dRo 2) (.row 2 0 (.cons (dInt .i64) (.cons (dInt .i64) (.last (dRo 2) .nil)))))), fun k z => foliotref01_minus.j0 k z.1 z.2.1 z.2.2.1 z.2.2.2.1 z.2.2.2.2⟩
def foliotref01_minus.cs : List (CutS R ((List Int))) := [foliotref01_minus.cl0, foliotref01_minus.cj0]
theorem foliotref01_minus.hE (k : Nat) : EnvOk Try.prog (foliotref01_minus.E k) := ⟨tabs, ctOf_ok (all_cons (foliotref01_trim_s1.ok k) all_nil), mtNone_ok, mixed, eqs_, flats_⟩
theorem foliotref01_minus.ol0 : (foliotref01_minus.cl0).Ok foliotref01_minus.E Try.f72.results.toList 0 (bodyOf Try.f72) foliotref01_minus.cs foliotref01_minus.F.ret := ⟨fun z => rfl, fun k z => by
 show foliotref01_minus.l0 (k + 1) z.1 z.2.1 z.2.2.1 z.2.2.2.1 z.2.2.2.2 = _
 rw [foliotref01_minus.l0]
 kernel_rfl⟩
theorem foliotref01_minus.oj0 : (foliotref01_minus.cj0).Ok foliotref01_minus.E Try.f72.results.toList 0 (bodyOf Try.f72) foliotref01_minus.cs foliotref01_minus.F.ret := ⟨fun z => rfl, fun k z => by
 show foliotref01_minus.j0 (k + 1) z.1 z.2.1 z.2.2.1 z.2.2.2.1 z.2.2.2.2 = _
 rw [foliotref01_minus.j0]
 kernel_rfl⟩
theorem foliotref01_minus.q (k : Nat) (y : (List Int) × (List Int)) : foliotref01_minus.p k y = foliotref01_minus.F.run foliotref01_minus.E Try.f72.results.toList (bodyOf Try.f72) foliotref01_minus.cs k y := by kernel_rfl
theorem foliotref01_minus.ok (k : Nat) : CsemOk R Try.prog 72 (foliotref01_minus.F.sem (foliotref01_minus.p k)) := fn_ok (F := foliotref01_minus.F) (f := foliotref01_minus.p) (E := foliotref01_minus.E) foliotref01_minus.hE (fun _ => rfl) Try.func72 (body := (bodyOf Try.f72)) rfl (by kernel_rfl) rfl (by decide) (by kernel_rfl) (cuts := foliotref01_minus.cs) (all_cons foliotref01_minus.ol0 (all_cons foliotref01_minus.oj0 all_nil)) foliotref01_minus.q k
def foliotref01_sum.F : FnS R ((List Int) × Bool × (List Int) × Bool) (Bool × (List Int)) := ⟨[.agg 2, .agg 2], [], (.cons (dRo 2) (.cons dBool (.cons (dRo 2) (.last dBool .nil)))), .agg 2, [.row 2 3], (.row 2 0 (.cons dBool (.last (dRo 2) .nil)))⟩
def foliotref01_sum.p (k : Nat) (y : (List Int) × Bool × (List Int) × Bool) : Option (Bool × (List Int)) := foliotref01_sum.f k y.1 y.2.1 y.2.2.1 y.2.2.2
def foliotref01_sum.E (k : Nat) : Env R := ⟨tabOf tabL, ctOf [(71, (foliotref01_plus.F.sem (foliotref01_plus.p k))), (51, (foliotref01_compare.F.sem (foliotref01_compare.p k))), (72, (foliotref01_minus.F.sem (foliotref01_minus.p k)))], mtNone, fun _ => false, codes, rts, 40, fun i => ordOf [(2, [(0, 0), (1, 0), (2, 0), (3, 0), (5, 0), (6, 0), (4, 1), (7, 0), (8, 2)]), (4, [(0, 0), (1, 0), (2, 0), (3, 0), (5, 0), (6, 0), (4, 1), (7, 0), (8, 2)]), (5, [(0, 0), (1, 0), (2, 0), (3, 0), (5, 0), (6, 0), (4, 1), (7, 0), (8, 2)])] i, owns, [], eqtOf eqs, fun _ => false, flats⟩
def foliotref01_sum.cs : List (CutS R (Bool × (List Int))) := []
theorem foliotref01_sum.hE (k : Nat) : EnvOk Try.prog (foliotref01_sum.E k) := ⟨tabs, ctOf_ok (all_cons (foliotref01_plus.ok k) (all_cons (foliotref01_compare.ok k) (all_cons (foliotref01_minus.ok k) all_nil))), mtNone_ok, mixed, eqs_, flats_⟩
theorem foliotref01_sum.q (k : Nat) (y : (List Int) × Bool × (List Int) × Bool) : foliotref01_sum.p k y = foliotref01_sum.F.run foliotref01_sum.E Try.f64.results.toList (bodyOf Try.f64) foliotref01_sum.cs k y := by kernel_rfl
theorem foliotref01_sum.ok (k : Nat) : CsemOk R Try.prog 64 (foliotref01_sum.F.sem (foliotref01_sum.p k)) := fn_ok (F := foliotref01_sum.F) (f := foliotref01_sum.p) (E := foliotref01_sum.E) foliotref01_sum.hE (fun _ => rfl) Try.func64 (body := (bodyOf Try.f64)) rfl (by kernel_rfl) rfl (by decide) (by kernel_rfl) (cuts := foliotref01_sum.cs) all_nil foliotref01_sum.q k
def foliotref01_Add.F : FnS R (Int × Int) (Int) := ⟨[.lf, .lf], [], (.cons (dInt .i64) (.last (dInt .i64) .nil)), .lf, [], (.last (dInt .i64) .nil)⟩
def foliotref01_Add.p (k : Nat) (y : Int × Int) : Option (Int) := foliotref01_Add.f k y.1 y.2
def foliotref01_Add.E (k : Nat) : Env R := ⟨tabOf tabL, ctOf [(50, (foliotref01_s.F.sem (foliotref01_s.p k))), (64, (foliotref01_sum.F.sem (foliotref01_sum.p k))), (52, (foliotref01_span.F.sem (foliotref01_span.p k)))], mtNone, fun f => memB f [52], codes, rts, 11, fun _ => [], owns, [], eqtOf eqs, fun f => memB f [64], flats⟩
def foliotref01_Add.cs : List (CutS R (Int)) := []
theorem foliotref01_Add.hE (k : Nat) : EnvOk Try.prog (foliotref01_Add.E k) := ⟨tabs, ctOf_ok (all_cons (foliotref01_s.ok k) (all_cons (foliotref01_sum.ok k) (all_cons (foliotref01_span.ok k) all_nil))), mtNone_ok, mixed, eqs_, flats_⟩
theorem foliotref01_Add.q (k : Nat) (y : Int × Int) : foliotref01_Add.p k y = foliotref01_Add.F.run foliotref01_Add.E Try.f57.results.toList (bodyOf Try.f57) foliotref01_Add.cs k y := by kernel_rfl
theorem foliotref01_Add.ok (k : Nat) : CsemOk R Try.prog 57 (foliotref01_Add.F.sem (foliotref01_Add.p k)) := fn_ok (F := foliotref01_Add.F) (f := foliotref01_Add.p) (E := foliotref01_Add.E) foliotref01_Add.hE (fun _ => rfl) Try.func57 (body := (bodyOf Try.f57)) rfl (by kernel_rfl) rfl (by decide) (by kernel_rfl) (cuts := foliotref01_Add.cs) all_nil foliotref01_Add.q k
def foliotref01_negative.F : FnS R ((List Int) × Bool) ((List Int) × Bool) := ⟨[.agg 2], [], (.cons (dRo 2) (.last dBool .nil)), .agg 2, [], (.cons (dRo 2) (.last dBool .nil))⟩
def foliotref01_negative.p (k : Nat) (y : (List Int) × Bool) : Option ((List Int) × Bool) := foliotref01_negative.f y.1 y.2
def foliotref01_negative.E (k : Nat) : Env R := ⟨tabOf tabL, ctOf [], mtNone, fun _ => false, codes, rts, 9, fun _ => [], owns, [], eqtOf eqs, fun _ => false, flats⟩
def foliotref01_negative.cs : List (CutS R ((List Int) × Bool)) := []
theorem foliotref01_negative.hE (k : Nat) : EnvOk Try.prog (foliotref01_negative.E k) := ⟨tabs, ctOf_ok all_nil, mtNone_ok, mixed, eqs_, flats_⟩
theorem foliotref01_negative.q (k : Nat) (y : (List Int) × Bool) : foliotref01_negative.p k y = foliotref01_negative.F.run foliotref01_negative.E Try.f65.results.toList (bodyOf Try.f65) foliotref01_negative.cs k y := by kernel_rfl
theorem foliotref01_negative.ok (k : Nat) : CsemOk R Try.prog 65 (foliotref01_negative.F.sem (foliotref01_negative.p k)) := fn_ok (F := foliotref01_negative.F) (f := foliotref01_negative.p) (E := foliotref01_negative.E) foliotref01_negative.hE (fun _ => rfl) Try.func65 (body := (bodyOf Try.f65)) rfl (by kernel_rfl) rfl (by decide) (by kernel_rfl) (cuts := foliotref01_negative.cs) all_nil foliotref01_negative.q k
def foliotref01_negative_s1.F : FnS R (Bool × (List Int)) (Bool × (List Int)) := ⟨[.agg 2], [.row 2 3], (.row 2 0 (.cons dBool (.last (dRo 2) .nil))), .agg 2, [.row 2 3], (.row 2 0 (.cons dBool (.last (dRo 2) .nil)))⟩
def foliotref01_negative_s1.p (k : Nat) (y : Bool × (List Int)) : Option (Bool × (List Int)) := foliotref01_negative_s1.f y.1 y.2
def foliotref01_negative_s1.E (k : Nat) : Env R := ⟨tabOf tabL, ctOf [], mtNone, fun _ => false, codes, rts, 9, fun _ => [], owns, [], eqtOf eqs, fun _ => false, flats⟩
def foliotref01_negative_s1.cs : List (CutS R (Bool × (List Int))) := []
theorem foliotref01_negative_s1.hE (k : Nat) : EnvOk Try.prog (foliotref01_negative_s1.E k) := ⟨tabs, ctOf_ok all_nil, mtNone_ok, mixed, eqs_, flats_⟩
theorem foliotref01_negative_s1.q (k : Nat) (y : Bool × (List Int)) : foliotref01_negative_s1.p k y = foliotref01_negative_s1.F.run foliotref01_negative_s1.E Try.f65.results.toList (bodyOf Try.f65) foliotref01_negative_s1.cs k y := by kernel_rfl
theorem foliotref01_negative_s1.ok (k : Nat) : CsemOk R Try.prog 65 (foliotref01_negative_s1.F.sem (foliotref01_negative_s1.p k)) := fn_ok (F := foliotref01_negative_s1.F) (f := foliotref01_negative_s1.p) (E := foliotref01_negative_s1.E) foliotref01_negative_s1.hE (fun _ => rfl) Try.func65 (body := (bodyOf Try.f65)) rfl (by kernel_rfl) rfl (by decide) (by kernel_rfl) (cuts := foliotref01_negative_s1.cs) all_nil foliotref01_negative_s1.q k
def foliotref01_Sub.F : FnS R (Int × Int) (Int) := ⟨[.lf, .lf], [], (.cons (dInt .i64) (.last (dInt .i64) .nil)), .lf, [], (.last (dInt .i64) .nil)⟩
def foliotref01_Sub.p (k : Nat) (y : Int × Int) : Option (Int) := foliotref01_Sub.f k y.1 y.2
def foliotref01_Sub.E (k : Nat) : Env R := ⟨tabOf tabL, ctOf [(50, (foliotref01_s.F.sem (foliotref01_s.p k))), (65, (foliotref01_negative_s1.F.sem (foliotref01_negative_s1.p k))), (64, (foliotref01_sum.F.sem (foliotref01_sum.p k))), (52, (foliotref01_span.F.sem (foliotref01_span.p k)))], mtNone, fun f => memB f [52], codes, rts, 12, fun _ => [], owns, [], eqtOf eqs, fun f => memB f [64], flats⟩
def foliotref01_Sub.cs : List (CutS R (Int)) := []
theorem foliotref01_Sub.hE (k : Nat) : EnvOk Try.prog (foliotref01_Sub.E k) := ⟨tabs, ctOf_ok (all_cons (foliotref01_s.ok k) (all_cons (foliotref01_negative_s1.ok k) (all_cons (foliotref01_sum.ok k) (all_cons (foliotref01_span.ok k) all_nil)))), mtNone_ok, mixed, eqs_, flats_⟩
theorem foliotref01_Sub.q (k : Nat) (y : Int × Int) : foliotref01_Sub.p k y = foliotref01_Sub.F.run foliotref01_Sub.E Try.f58.results.toList (bodyOf Try.f58) foliotref01_Sub.cs k y := by kernel_rfl
theorem foliotref01_Sub.ok (k : Nat) : CsemOk R Try.prog 58 (foliotref01_Sub.F.sem (foliotref01_Sub.p k)) := fn_ok (F := foliotref01_Sub.F) (f := foliotref01_Sub.p) (E := foliotref01_Sub.E) foliotref01_Sub.hE (fun _ => rfl) Try.func58 (body := (bodyOf Try.f58)) rfl (by kernel_rfl) rfl (by decide) (by kernel_rfl) (cuts := foliotref01_Sub.cs) all_nil foliotref01_Sub.q k
def foliotref16_Clock_Pass.F : FnS R (Int × Int × Int × Int × Int × Int × Int × Int × Int) (Int × Int × Int × Int × Int × Int × Int × Int × Int) := ⟨[.lf, .lf], [.blk 8 69], (.ptr 0 0 (.cons (dInt .i64) (.cons (dInt .i64) (.cons (dInt .u64) (.cons (dInt .i64) (.cons (dInt .i64) (.cons (dInt .i64) (.cons (dInt .i64) (.cons (dInt .i64) (.last (dInt .i64) .nil)))))))))), .lf, [.blk 8 69], (.cons (dInt .i64) (.cons (dInt .i64) (.cons (dInt .u64) (.cons (dInt .i64) (.cons (dInt .i64) (.cons (dInt .i64) (.cons (dInt .i64) (.cons (dInt .i64) (.last (dInt .i64) .nil)))))))))⟩
def foliotref16_Clock_Pass.p (k : Nat) (y : Int × Int × Int × Int × Int × Int × Int × Int × Int) : Option (Int × Int × Int × Int × Int × Int × Int × Int × Int) := foliotref16_Clock_Pass.f k y.1 y.2.1 y.2.2.1 y.2.2.2.1 y.2.2.2.2.1 y.2.2.2.2.2.1 y.2.2.2.2.2.2.1 y.2.2.2.2.2.2.2.1 y.2.2.2.2.2.2.2.2
def foliotref16_Clock_Pass.E (k : Nat) : Env R := ⟨tabOf tabL, ctOf [(56, (foliotref16_Clock_day.F.sem (foliotref16_Clock_day.p k))), (55, (foliotref16_shifted.F.sem (foliotref16_shifted.p k))), (57, (foliotref01_Add.F.sem (foliotref01_Add.p k))), (58, (foliotref01_Sub.F.sem (foliotref01_Sub.p k)))], mtNone, fun f => memB f [56], codes, rts, 115, fun i => ordOf [(9, [(0, 0), (1, 0), (2, 0), (3, 0), (4, 0), (5, 0), (6, 0), (7, 0), (8, 0), (9, 0), (10, 0), (11, 0), (12, 0), (13, 0), (14, 0), (15, 0), (16, 2)])] i, owns, [], eqtOf eqs, fun _ => false, flats⟩
def foliotref16_Clock_Pass.cl0 : CutS R (Int × Int × Int × Int × Int × Int × Int × Int × Int) := ⟨8, [0, 1, 5], [], [.lf, .lf, .lf], [.blk 8 69], Int × Int × Int × Int × Int × Int × Int × Int × Int × Int, (.ptr 0 0 (.cons (dInt .i64) (.cons (dInt .i64) (.cons (dInt .i64) (.cons (dInt .u64) (.cons (dInt .i64) (.cons (dInt .i64) (.cons (dInt .i64) (.cons (dInt .i64) (.cons (dInt .i64) (.last (dInt .i64) .nil))))))))))), fun k z => foliotref16_Clock_Pass.l0 k z.1 z.2.1 z.2.2.1 z.2.2.2.1 z.2.2.2.2.1 z.2.2.2.2.2.1 z.2.2.2.2.2.2.1 z.2.2.2.2.2.2.2.1 z.2.2.2.2.2.2.2.2.1 z.2.2.2.2.2.2.2.2.2⟩
def foliotref16_Clock_Pass.cs : List (CutS R (Int × Int × Int × Int × Int × Int × Int × Int × Int)) := [foliotref16_Clock_Pass.cl0]
theorem foliotref16_Clock_Pass.hE (k : Nat) : EnvOk Try.prog (foliotref16_Clock_Pass.E k) := ⟨tabs, ctOf_ok (all_cons (foliotref16_Clock_day.ok k) (all_cons (foliotref16_shifted.ok k) (all_cons (foliotref01_Add.ok k) (all_cons (foliotref01_Sub.ok k) all_nil)))), mtNone_ok, mixed, eqs_, flats_⟩
theorem foliotref16_Clock_Pass.ol0 : (foliotref16_Clock_Pass.cl0).Ok foliotref16_Clock_Pass.E Try.f38.results.toList 1 (bodyOf Try.f38) foliotref16_Clock_Pass.cs foliotref16_Clock_Pass.F.ret := ⟨fun z => rfl, fun k z => by
 show foliotref16_Clock_Pass.l0 (k + 1) z.1 z.2.1 z.2.2.1 z.2.2.2.1 z.2.2.2.2.1 z.2.2.2.2.2.1 z.2.2.2.2.2.2.1 z.2.2.2.2.2.2.2.1 z.2.2.2.2.2.2.2.2.1 z.2.2.2.2.2.2.2.2.2 = _
 rw [foliotref16_Clock_Pass.l0]
 kernel_rfl⟩
theorem foliotref16_Clock_Pass.q (k : Nat) (y : Int × Int × Int × Int × Int × Int × Int × Int × Int) : foliotref16_Clock_Pass.p k y = foliotref16_Clock_Pass.F.run foliotref16_Clock_Pass.E Try.f38.results.toList (bodyOf Try.f38) foliotref16_Clock_Pass.cs k y := by kernel_rfl
theorem foliotref16_Clock_Pass.ok (k : Nat) : CsemOk R Try.prog 38 (foliotref16_Clock_Pass.F.sem (foliotref16_Clock_Pass.p k)) := fn_ok (F := foliotref16_Clock_Pass.F) (f := foliotref16_Clock_Pass.p) (E := foliotref16_Clock_Pass.E) foliotref16_Clock_Pass.hE (fun _ => rfl) Try.func38 (body := (bodyOf Try.f38)) rfl (by kernel_rfl) rfl (by decide) (by kernel_rfl) (cuts := foliotref16_Clock_Pass.cs) (all_cons foliotref16_Clock_Pass.ol0 all_nil) foliotref16_Clock_Pass.q k
def clock_Clock_Slew.F : FnS R (Int × Int × Int × Int × Int × Int × Int × Int × Int) (Int × Int × Int × Int × Int × Int × Int × Int) := ⟨[.lf, .lf], [.blk 8 64], (.ptr 0 0 (.cons (dInt .i64) (.cons (dInt .i64) (.cons (dInt .i64) (.cons (dInt .i64) (.cons (dInt .u64) (.cons (dInt .i64) (.cons (dInt .i64) (.cons (dInt .i64) (.last (dInt .i64) .nil)))))))))), .tup [], [.blk 8 64], (.cons (dInt .i64) (.cons (dInt .i64) (.cons (dInt .i64) (.cons (dInt .u64) (.cons (dInt .i64) (.cons (dInt .i64) (.cons (dInt .i64) (.last (dInt .i64) .nil))))))))⟩
def clock_Clock_Slew.p (k : Nat) (y : Int × Int × Int × Int × Int × Int × Int × Int × Int) : Option (Int × Int × Int × Int × Int × Int × Int × Int) := clock_Clock_Slew.f y.1 y.2.1 y.2.2.1 y.2.2.2.1 y.2.2.2.2.1 y.2.2.2.2.2.1 y.2.2.2.2.2.2.1 y.2.2.2.2.2.2.2.1 y.2.2.2.2.2.2.2.2
def clock_Clock_Slew.E (k : Nat) : Env R := ⟨tabOf tabL, ctOf [(9, (clock_Clock_Step.F.sem (clock_Clock_Step.p k)))], mtNone, fun _ => false, codes, rts, 7, fun _ => [], owns, [], eqtOf eqs, fun _ => false, flats⟩
def clock_Clock_Slew.cs : List (CutS R (Int × Int × Int × Int × Int × Int × Int × Int)) := []
theorem clock_Clock_Slew.hE (k : Nat) : EnvOk Try.prog (clock_Clock_Slew.E k) := ⟨tabs, ctOf_ok (all_cons (clock_Clock_Step.ok k) all_nil), mtNone_ok, mixed, eqs_, flats_⟩
theorem clock_Clock_Slew.q (k : Nat) (y : Int × Int × Int × Int × Int × Int × Int × Int × Int) : clock_Clock_Slew.p k y = clock_Clock_Slew.F.run clock_Clock_Slew.E Try.f8.results.toList (bodyOf Try.f8) clock_Clock_Slew.cs k y := by kernel_rfl
theorem clock_Clock_Slew.ok (k : Nat) : CsemOk R Try.prog 8 (clock_Clock_Slew.F.sem (clock_Clock_Slew.p k)) := fn_ok (F := clock_Clock_Slew.F) (f := clock_Clock_Slew.p) (E := clock_Clock_Slew.E) clock_Clock_Slew.hE (fun _ => rfl) Try.func8 (body := (bodyOf Try.f8)) rfl (by kernel_rfl) rfl (by decide) (by kernel_rfl) (cuts := clock_Clock_Slew.cs) all_nil clock_Clock_Slew.q k
def foliotref16_Clock_Slew.F : FnS R (Int × Int × Int × Int × Int × Int × Int × Int × Int) (Int × Int × Int × Int × Int × Int × Int × Int) := ⟨[.lf, .lf], [.blk 8 69], (.ptr 0 0 (.cons (dInt .i64) (.cons (dInt .i64) (.cons (dInt .u64) (.cons (dInt .i64) (.cons (dInt .i64) (.cons (dInt .i64) (.cons (dInt .i64) (.cons (dInt .i64) (.last (dInt .i64) .nil)))))))))), .tup [], [.blk 8 69], (.cons (dInt .i64) (.cons (dInt .u64) (.cons (dInt .i64) (.cons (dInt .i64) (.cons (dInt .i64) (.cons (dInt .i64) (.cons (dInt .i64) (.last (dInt .i64) .nil))))))))⟩
def foliotref16_Clock_Slew.p (k : Nat) (y : Int × Int × Int × Int × Int × Int × Int × Int × Int) : Option (Int × Int × Int × Int × Int × Int × Int × Int) := foliotref16_Clock_Slew.f k y.1 y.2.1 y.2.2.1 y.2.2.2.1 y.2.2.2.2.1 y.2.2.2.2.2.1 y.2.2.2.2.2.2.1 y.2.2.2.2.2.2.2.1 y.2.2.2.2.2.2.2.2
def foliotref16_Clock_Slew.E (k : Nat) : Env R := ⟨tabOf tabL, ctOf [(57, (foliotref01_Add.F.sem (foliotref01_Add.p k)))], mtNone, fun _ => false, codes, rts, 13, fun _ => [], owns, [], eqtOf eqs, fun _ => false, flats⟩
def foliotref16_Clock_Slew.cs : List (CutS R (Int × Int × Int × Int × Int × Int × Int × Int)) := []
theorem foliotref16_Clock_Slew.hE (k : Nat) : EnvOk Try.prog (foliotref16_Clock_Slew.E k) := ⟨tabs, ctOf_ok (all_cons (foliotref01_Add.ok k) all_nil), mtNone_ok, mixed, eqs_, flats_⟩
theorem foliotref16_Clock_Slew.q (k : Nat) (y : Int × Int × Int × Int × Int × Int × Int × Int × Int) : foliotref16_Clock_Slew.p k y = foliotref16_Clock_Slew.F.run foliotref16_Clock_Slew.E Try.f39.results.toList (bodyOf Try.f39) foliotref16_Clock_Slew.cs k y := by kernel_rfl
theorem foliotref16_Clock_Slew.ok (k : Nat) : CsemOk R Try.prog 39 (foliotref16_Clock_Slew.F.sem (foliotref16_Clock_Slew.p k)) := fn_ok (F := foliotref16_Clock_Slew.F) (f := foliotref16_Clock_Slew.p) (E := foliotref16_Clock_Slew.E) foliotref16_Clock_Slew.hE (fun _ => rfl) Try.func39 (body := (bodyOf Try.f39)) rfl (by kernel_rfl) rfl (by decide) (by kernel_rfl) (cuts := foliotref16_Clock_Slew.cs) all_nil foliotref16_Clock_Slew.q k
def clock_Clock_SetFreq.F : FnS R (Int × Int × Int × Int × Int × Int × Int × Int × Int) (Int × Int × Int × Int × Int × Int × Int × Int) := ⟨[.lf, .lf], [.blk 8 64], (.ptr 0 0 (.cons (dInt .i64) (.cons (dInt .i64) (.cons (dInt .i64) (.cons (dInt .i64) (.cons (dInt .u64) (.cons (dInt .i64) (.cons (dInt .i64) (.cons (dInt .i64) (.last (dInt .i64) .nil)))))))))), .tup [], [.blk 8 64], (.cons (dInt .i64) (.cons (dInt .i64) (.cons (dInt .i64) (.cons (dInt .u64) (.cons (dInt .i64) (.cons (dInt .i64) (.cons (dInt .i64) (.last (dInt .i64) .nil))))))))⟩
def clock_Clock_SetFreq.p (k : Nat) (y : Int × Int × Int × Int × Int × Int × Int × Int × Int) : Option (Int × Int × Int × Int × Int × Int × Int × Int) := clock_Clock_SetFreq.f y.1 y.2.1 y.2.2.1 y.2.2.2.1 y.2.2.2.2.1 y.2.2.2.2.2.1 y.2.2.2.2.2.2.1 y.2.2.2.2.2.2.2.1 y.2.2.2.2.2.2.2.2
def clock_Clock_SetFreq.E (k : Nat) : Env R := ⟨tabOf tabL, ctOf [(25, (fixed_Cut.F.sem (fixed_Cut.p k)))], mtNone, fun _ => false, codes, rts, 10, fun _ => [], owns, [], eqtOf eqs, fun _ => false, flats⟩
def clock_Clock_SetFreq.cs : List (CutS R (Int × Int × Int × Int × Int × Int × Int × Int)) := []
theorem clock_Clock_SetFreq.hE (k : Nat) : EnvOk Try.prog (clock_Clock_SetFreq.E k) := ⟨tabs, ctOf_ok (all_cons (fixed_Cut.ok k) all_nil), mtNone_ok, mixed, eqs_, flats_⟩
theorem clock_Clock_SetFreq.q (k : Nat) (y : Int × Int × Int × Int × Int × Int × Int × Int × Int) : clock_Clock_SetFreq.p k y = clock_Clock_SetFreq.F.run clock_Clock_SetFreq.E Try.f19.results.toList (bodyOf Try.f19) clock_Clock_SetFreq.cs k y := by kernel_rfl
theorem clock_Clock_SetFreq.ok (k : Nat) : CsemOk R Try.prog 19 (clock_Clock_SetFreq.F.sem (clock_Clock_SetFreq.p k)) := fn_ok (F := clock_Clock_SetFreq.F) (f := clock_Clock_SetFreq.p) (E := clock_Clock_SetFreq.E) clock_Clock_SetFreq.hE (fun _ => rfl) Try.func19 (body := (bodyOf Try.f19)) rfl (by kernel_rfl) rfl (by decide) (by kernel_rfl) (cuts := clock_Clock_SetFreq.cs) all_nil clock_Clock_SetFreq.q k
def foliotref16_Clock_SetFreq.F : FnS R (Int × Int × Int × Int × Int × Int × Int × Int × Int) (Int × Int × Int × Int × Int × Int × Int × Int) := ⟨[.lf, .lf], [.blk 8 69], (.ptr 0 0 (.cons (dInt .i64) (.cons (dInt .i64) (.cons (dInt .u64) (.cons (dInt .i64) (.cons (dInt .i64) (.cons (dInt .i64) (.cons (dInt .i64) (.cons (dInt .i64) (.last (dInt .i64) .nil)))))))))), .tup [], [.blk 8 69], (.cons (dInt .i64) (.cons (dInt .u64) (.cons (dInt .i64) (.cons (dInt .i64) (.cons (dInt .i64) (.cons (dInt .i64) (.cons (dInt .i64) (.last (dInt .i64) .nil))))))))⟩
def foliotref16_Clock_SetFreq.p (k : Nat) (y : Int × Int × Int × Int × Int × Int × Int × Int × Int) : Option (Int × Int × Int × Int × Int × Int × Int × Int) := foliotref16_Clock_SetFreq.f k y.1 y.2.1 y.2.2.1 y.2.2.2.1 y.2.2.2.2.1 y.2.2.2.2.2.1 y.2.2.2.2.2.2.1 y.2.2.2.2.2.2.2.1 y.2.2.2.2.2.2.2.2
def foliotref16_Clock_SetFreq.E (k : Nat) : Env R := ⟨tabOf tabL, ctOf [(33, (foliotref01_Cut.F.sem (foliotref01_Cut.p k)))], mtNone, fun _ => false, codes, rts, 9, fun _ => [], owns, [], eqtOf eqs, fun _ => false, flats⟩
def foliotref16_Clock_SetFreq.cs : List (CutS R (Int × Int × Int × Int × Int × Int × Int × Int)) := []
theorem foliotref16_Clock_SetFreq.hE (k : Nat) : EnvOk Try.prog (foliotref16_Clock_SetFreq.E k) := ⟨tabs, ctOf_ok (all_cons (foliotref01_Cut.ok k) all_nil), mtNone_ok, mixed, eqs_, flats_⟩
theorem foliotref16_Clock_SetFreq.q (k : Nat) (y : Int × Int × Int × Int × Int × Int × Int × Int × Int) : foliotref16_Clock_SetFreq.p k y = foliotref16_Clock_SetFreq.F.run foliotref16_Clock_SetFreq.E Try.f40.results.toList (bodyOf Try.f40) foliotref16_Clock_SetFreq.cs k y := by kernel_rfl
theorem foliotref16_Clock_SetFreq.ok (k : Nat) : CsemOk R Try.prog 40 (foliotref16_Clock_SetFreq.F.sem (foliotref16_Clock_SetFreq.p k)) := fn_ok (F := foliotref16_Clock_SetFreq.F) (f := foliotref16_Clock_SetFreq.p) (E := foliotref16_Clock_SetFreq.E) foliotref16_Clock_SetFreq.hE (fun _ => rfl) Try.func40 (body := (bodyOf Try.f40)) rfl (by kernel_rfl) rfl (by decide) (by kernel_rfl) (cuts := foliotref16_Clock_SetFreq.cs) all_nil foliotref16_Clock_SetFreq.q k
def foliotref16_Clock_SetRate.F : FnS R (Int × Int × Int × Int × Int × Int × Int × Int × Int) (Int × Int × Int × Int × Int × Int × Int × Int) := ⟨[.lf, .lf], [.blk 8 69], (.ptr 0 0 (.cons (dInt .i64) (.cons (dInt .i64) (.cons (dInt .u64) (.cons (dInt .i64) (.cons (dInt .i64) (.cons (dInt .i64) (.cons (dInt .i64) (.cons (dInt .i64) (.last (dInt .i64) .nil)))))))))), .tup [], [.blk 8 69], (.cons (dInt .i64) (.cons (dInt .u64) (.cons (dInt .i64) (.cons (dInt .i64) (.cons (dInt .i64) (.cons (dInt .i64) (.cons (dInt .i64) (.last (dInt .i64) .nil))))))))⟩
def foliotref16_Clock_SetRate.p (k : Nat) (y : Int × Int × Int × Int × Int × Int × Int × Int × Int) : Option (Int × Int × Int × Int × Int × Int × Int × Int) := foliotref16_Clock_SetRate.f k y.1 y.2.1 y.2.2.1 y.2.2.2.1 y.2.2.2.2.1 y.2.2.2.2.2.1 y.2.2.2.2.2.2.1 y.2.2.2.2.2.2.2.1 y.2.2.2.2.2.2.2.2
def foliotref16_Clock_SetRate.E (k : Nat) : Env R := ⟨tabOf tabL, ctOf [(33, (foliotref01_Cut.F.sem (foliotref01_Cut.p k)))], mtNone, fun _ => false, codes, rts, 9, fun _ => [], owns, [], eqtOf eqs, fun _ => false, flats⟩
def foliotref16_Clock_SetRate.cs : List (CutS R (Int × Int × Int × Int × Int × Int × Int × Int)) := []
theorem foliotref16_Clock_SetRate.hE (k : Nat) : EnvOk Try.prog (foliotref16_Clock_SetRate.E k) := ⟨tabs, ctOf_ok (all_cons (foliotref01_Cut.ok k) all_nil), mtNone_ok, mixed, eqs_, flats_⟩
theorem foliotref16_Clock_SetRate.q (k : Nat) (y : Int × Int × Int × Int × Int × Int × Int × Int × Int) : foliotref16_Clock_SetRate.p k y = foliotref16_Clock_SetRate.F.run foliotref16_Clock_SetRate.E Try.f41.results.toList (bodyOf Try.f41) foliotref16_Clock_SetRate.cs k y := by kernel_rfl
theorem foliotref16_Clock_SetRate.ok (k : Nat) : CsemOk R Try.prog 41 (foliotref16_Clock_SetRate.F.sem (foliotref16_Clock_SetRate.p k)) := fn_ok (F := foliotref16_Clock_SetRate.F) (f := foliotref16_Clock_SetRate.p) (E := foliotref16_Clock_SetRate.E) foliotref16_Clock_SetRate.hE (fun _ => rfl) Try.func41 (body := (bodyOf Try.f41)) rfl (by kernel_rfl) rfl (by decide) (by kernel_rfl) (cuts := foliotref16_Clock_SetRate.cs) all_nil foliotref16_Clock_SetRate.q k
def foliotref16_Clock_SetLeap.F : FnS R (Int × Int × Int × Int × Int × Int × Int × Int × Int) (Bool × Int × Int × Int × Int × Int × Int × Int × Int) := ⟨[.lf, .lf], [.blk 8 69], (.ptr 0 0 (.cons (dInt .i64) (.cons (dInt .i64) (.cons (dInt .u64) (.cons (dInt .i64) (.cons (dInt .i64) (.cons (dInt .i64) (.cons (dInt .i64) (.cons (dInt .i64) (.last (dInt .i64) .nil)))))))))), .lf, [.blk 8 69], (.cons dBool (.cons (dInt .i64) (.cons (dInt .u64) (.cons (dInt .i64) (.cons (dInt .i64) (.cons (dInt .i64) (.cons (dInt .i64) (.cons (dInt .i64) (.last (dInt .i64) .nil)))))))))⟩
def foliotref16_Clock_SetLeap.p (k : Nat) (y : Int × Int × Int × Int × Int × Int × Int × Int × Int) : Option (Bool × Int × Int × Int × Int × Int × Int × Int × Int) := foliotref16_Clock_SetLeap.f y.1 y.2.1 y.2.2.1 y.2.2.2.1 y.2.2.2.2.1 y.2.2.2.2.2.1 y.2.2.2.2.2.2.1 y.2.2.2.2.2.2.2.1 y.2.2.2.2.2.2.2.2
def foliotref16_Clock_SetLeap.E (k : Nat) : Env R := ⟨tabOf tabL, ctOf [], mtNone, fun _ => false, codes, rts, 15, fun _ => [], owns, [], eqtOf eqs, fun _ => false, flats⟩
def foliotref16_Clock_SetLeap.cs : List (CutS R (Bool × Int × Int × Int × Int × Int × Int × Int × Int)) := []
theorem foliotref16_Clock_SetLeap.hE (k : Nat) : EnvOk Try.prog (foliotref16_Clock_SetLeap.E k) := ⟨tabs, ctOf_ok all_nil, mtNone_ok, mixed, eqs_, flats_⟩
theorem foliotref16_Clock_SetLeap.q (k : Nat) (y : Int × Int × Int × Int × Int × Int × Int × Int × Int) : foliotref16_Clock_SetLeap.p k y = foliotref16_Clock_SetLeap.F.run foliotref16_Clock_SetLeap.E Try.f42.results.toList (bodyOf Try.f42) foliotref16_Clock_SetLeap.cs k y := by kernel_rfl
theorem foliotref16_Clock_SetLeap.ok (k : Nat) : CsemOk R Try.prog 42 (foliotref16_Clock_SetLeap.F.sem (foliotref16_Clock_SetLeap.p k)) := fn_ok (F := foliotref16_Clock_SetLeap.F) (f := foliotref16_Clock_SetLeap.p) (E := foliotref16_Clock_SetLeap.E) foliotref16_Clock_SetLeap.hE (fun _ => rfl) Try.func42 (body := (bodyOf Try.f42)) rfl (by kernel_rfl) rfl (by decide) (by kernel_rfl) (cuts := foliotref16_Clock_SetLeap.cs) all_nil foliotref16_Clock_SetLeap.q k
def bits_Mul64.F : FnS R (Int × Int) (Int × Int) := ⟨[.lf, .lf], [], (.cons (dInt .u64) (.last (dInt .u64) .nil)), .tup [none, none], [], (.cons (dInt .u64) (.last (dInt .u64) .nil))⟩
def bits_Mul64.p (k : Nat) (y : Int × Int) : Option (Int × Int) := bits_Mul64.f y.1 y.2
def bits_Mul64.E (k : Nat) : Env R := ⟨tabOf tabL, ctOf [], mtNone, fun _ => false, codes, rts, 51, fun _ => [], owns, [], eqtOf eqs, fun _ => false, flats⟩
def bits_Mul64.cs : List (CutS R (Int × Int)) := []
theorem bits_Mul64.hE (k : Nat) : EnvOk Try.prog (bits_Mul64.E k) := ⟨tabs, ctOf_ok all_nil, mtNone_ok, mixed, eqs_, flats_⟩
theorem bits_Mul64.q (k : Nat) (y : Int × Int) : bits_Mul64.p k y = bits_Mul64.F.run bits_Mul64.E Try.f73.results.toList (bodyOf Try.f73) bits_Mul64.cs k y := by kernel_rfl
theorem bits_Mul64.ok (k : Nat) : CsemOk R Try.prog 73 (bits_Mul64.F.sem (bits_Mul64.p k)) := fn_ok (F := bits_Mul64.F) (f := bits_Mul64.p) (E := bits_Mul64.E) bits_Mul64.hE (fun _ => rfl) Try.func73 (body := (bodyOf Try.f73)) rfl (by kernel_rfl) rfl (by decide) (by kernel_rfl) (cuts := bits_Mul64.cs) all_nil bits_Mul64.q k
def fixed_product.F : FnS R (Int × Int) (Int × Int × Bool) := ⟨[.lf, .lf], [], (.cons (dInt .i64) (.last (dInt .i64) .nil)), .agg 3, [], (.cons (dInt .u64) (.cons (dInt .u64) (.last dBool .nil)))⟩
def fixed_product.p (k : Nat) (y : Int × Int) : Option (Int × Int × Bool) := fixed_product.f y.1 y.2
def fixed_product.E (k : Nat) : Env R := ⟨tabOf tabL, ctOf [(45, (fixed_size.F.sem (fixed_size.p k))), (73, (bits_Mul64.F.sem (bits_Mul64.p k)))], mtNone, fun _ => false, codes, rts, 33, fun _ => [], owns, [], eqtOf eqs, fun _ => false, flats⟩
def fixed_product.cs : List (CutS R (Int × Int × Bool)) := []
theorem fixed_product.hE (k : Nat) : EnvOk Try.prog (fixed_product.E k) := ⟨tabs, ctOf_ok (all_cons (fixed_size.ok k) (all_cons (bits_Mul64.ok k) all_nil)), mtNone_ok, mixed, eqs_, flats_⟩
theorem fixed_product.q (k : Nat) (y : Int × Int) : fixed_product.p k y = fixed_product.F.run fixed_product.E Try.f66.results.toList (bodyOf Try.f66) fixed_product.cs k y := by kernel_rfl
theorem fixed_product.ok (k : Nat) : CsemOk R Try.prog 66 (fixed_product.F.sem (fixed_product.p k)) := fn_ok (F := fixed_product.F) (f := fixed_product.p) (E := fixed_product.E) fixed_product.hE (fun _ => rfl) Try.func66 (body := (bodyOf Try.f66)) rfl (by kernel_rfl) rfl (by decide) (by kernel_rfl) (cuts := fixed_product.cs) all_nil fixed_product.q k
def bits_Len64.F : FnS R (Int) (Int) := ⟨[.lf], [], (.last (dInt .u64) .nil), .lf, [], (.last (dInt .i64) .nil)⟩
def bits_Len64.p (k : Nat) (y : Int) : Option (Int) := bits_Len64.f y
theorem bits_Len64.tab (i : Int) (h0 : 0 ≤ i) (h1 : i ≤ 255) (h : i.toNat < Lib.len8tab.size) : ((Lib.len8tab[i.toNat]'h).toNat : Int) = (Lib.bitLen i.toNat : Int) := by
  rw [← Lib.len8_of i h0 h1]
  simp only [Lib.len8, ByteArray.getElem?_lt' _ _ h, Option.getD_some]
theorem bits_Len64.sum (c n b : Nat) (hc : c ≤ 56) (hb : b ≤ 8) (hn : n = c + b) : wrap64 ((c : Int) + wrap64 (b : Int)) = (n : Int) := by
  unfold wrap64
  omega
set_option maxHeartbeats 4000000 in
set_option maxRecDepth 100000 in
theorem bits_Len64.lib (x : Int) (w : World) (h0 : 0 ≤ x) (h1 : x ≤ 18446744073709551615) :
    Calls Try.prog 79 #[.int .u64 x] w fun e w' => e = .returned (.int .i64 (Lib.bitLen x.toNat)) ∧ w' = w := by
  have hs := Lib.len8tab_size
  go_enter Try.func79, Try.ntmps79
  go_wp2
  all_goals (go_ret; refine ⟨congrArg Ending.returned (congrArg (Value.int IntKind.i64) ?_), rfl⟩)
  · rw [bits_Len64.tab (x / 4294967296 / 65536 / 256) (by omega) (by omega)]
    have e : (x / 4294967296 / 65536 / 256).toNat = x.toNat / 72057594037927936 := by omega
    rw [e]
    exact bits_Len64.sum 56 _ _ (by omega) (by rw [← e]; exact Lib.bitLen_le8' _ (by omega) (by omega)) (Lib.bitLen_shift56 x.toNat (by omega) (by omega))
  · rw [bits_Len64.tab (x / 4294967296 / 65536) (by omega) (by omega)]
    have e : (x / 4294967296 / 65536).toNat = x.toNat / 281474976710656 := by omega
    rw [e]
    exact bits_Len64.sum 48 _ _ (by omega) (by rw [← e]; exact Lib.bitLen_le8' _ (by omega) (by omega)) (Lib.bitLen_shift48 x.toNat (by omega) (by omega))
  · rw [bits_Len64.tab (x / 4294967296 / 256) (by omega) (by omega)]
    have e : (x / 4294967296 / 256).toNat = x.toNat / 1099511627776 := by omega
    rw [e]
    exact bits_Len64.sum 40 _ _ (by omega) (by rw [← e]; exact Lib.bitLen_le8' _ (by omega) (by omega)) (Lib.bitLen_shift40 x.toNat (by omega) (by omega))
  · rw [bits_Len64.tab (x / 4294967296) (by omega) (by omega)]
    have e : (x / 4294967296).toNat = x.toNat / 4294967296 := by omega
    rw [e]
    exact bits_Len64.sum 32 _ _ (by omega) (by rw [← e]; exact Lib.bitLen_le8' _ (by omega) (by omega)) (Lib.bitLen_shift32 x.toNat (by omega) (by omega))
  · rw [bits_Len64.tab (x / 65536 / 256) (by omega) (by omega)]
    have e : (x / 65536 / 256).toNat = x.toNat / 16777216 := by omega
    rw [e]
    exact bits_Len64.sum 24 _ _ (by omega) (by rw [← e]; exact Lib.bitLen_le8' _ (by omega) (by omega)) (Lib.bitLen_shift24 x.toNat (by omega) (by omega))
  · rw [bits_Len64.tab (x / 65536) (by omega) (by omega)]
    have e : (x / 65536).toNat = x.toNat / 65536 := by omega
    rw [e]
    exact bits_Len64.sum 16 _ _ (by omega) (by rw [← e]; exact Lib.bitLen_le8' _ (by omega) (by omega)) (Lib.bitLen_shift16 x.toNat (by omega) (by omega))
  · rw [bits_Len64.tab (x / 256) (by omega) (by omega)]
    have e : (x / 256).toNat = x.toNat / 256 := by omega
    rw [e]
    exact bits_Len64.sum 8 _ _ (by omega) (by rw [← e]; exact Lib.bitLen_le8' _ (by omega) (by omega)) (Lib.bitLen_shift8 x.toNat (by omega) (by omega))
  · rw [bits_Len64.tab x (by omega) (by omega)]
    have l := Lib.bitLen_le8' x (by omega) (by omega)
    unfold wrap64
    omega
theorem bits_Len64.le (n : Nat) : Lib.bitLen n ≤ 64 := by
  have : ∀ f x : Nat, Lib.bitLenAux f x ≤ f := by
    intro f
    induction f with
    | zero => intro x; simp [Lib.bitLenAux]
    | succ f ih =>
      intro x
      unfold Lib.bitLenAux
      split
      · omega
      · have := ih (x / 2); omega
  exact this 64 n
theorem bits_Len64.ok (k : Nat) : CsemOk R Try.prog 79 (bits_Len64.F.sem (bits_Len64.p k)) := sem_ok fun y r h ρ w us hrel hargs => by
 change All2 (IsT R ρ w) [.lf (.v (.int .u64 y))] us at hargs
 obtain ⟨u0, _, rfl, h0, g1⟩ := all2_cons hargs
 cases g1
 obtain ⟨rfl, b0⟩ := is_v h0
 change bits_Len64.f y = some r at h
 unfold bits_Len64.f at h
 split at h
 · rename_i hb
   injection h with h
   subst h
   refine .inl ⟨call_enter Try.func79 (body := bodyOf Try.f79) rfl (by kernel_rfl) _ w, (bits_Len64.lib y w hb.1 hb.2).mono fun e w' hh => ⟨_, hh.1, ?_⟩⟩
   rw [hh.2]
   refine post_still hrel (Is.v _ ?_)
   have := bits_Len64.le y.toNat
   exact wf_nat (n := Lib.bitLen y.toNat) (by omega)
 · cases h
def bits_LeadingZeros64.F : FnS R (Int) (Int) := ⟨[.lf], [], (.last (dInt .u64) .nil), .lf, [], (.last (dInt .i64) .nil)⟩
def bits_LeadingZeros64.p (k : Nat) (y : Int) : Option (Int) := bits_LeadingZeros64.f y
def bits_LeadingZeros64.E (k : Nat) : Env R := ⟨tabOf tabL, ctOf [(79, (bits_Len64.F.sem (bits_Len64.p k)))], mtNone, fun _ => false, codes, rts, 6, fun _ => [], owns, [], eqtOf eqs, fun _ => false, flats⟩
def bits_LeadingZeros64.cs : List (CutS R (Int)) := []
theorem bits_LeadingZeros64.hE (k : Nat) : EnvOk Try.prog (bits_LeadingZeros64.E k) := ⟨tabs, ctOf_ok (all_cons (bits_Len64.ok k) all_nil), mtNone_ok, mixed, eqs_, flats_⟩
theorem bits_LeadingZeros64.q (k : Nat) (y : Int) : bits_LeadingZeros64.p k y = bits_LeadingZeros64.F.run bits_LeadingZeros64.E Try.f78.results.toList (bodyOf Try.f78) bits_LeadingZeros64.cs k y := by kernel_rfl
theorem bits_LeadingZeros64.ok (k : Nat) : CsemOk R Try.prog 78 (bits_LeadingZeros64.F.sem (bits_LeadingZeros64.p k)) := fn_ok (F := bits_LeadingZeros64.F) (f := bits_LeadingZeros64.p) (E := bits_LeadingZeros64.E) bits_LeadingZeros64.hE (fun _ => rfl) Try.func78 (body := (bodyOf Try.f78)) rfl (by kernel_rfl) rfl (by decide) (by kernel_rfl) (cuts := bits_LeadingZeros64.cs) all_nil bits_LeadingZeros64.q k
def bits_Div64.F : FnS R (Int × Int × Int) (Int × Int) := ⟨[.lf, .lf, .lf], [], (.cons (dInt .u64) (.cons (dInt .u64) (.last (dInt .u64) .nil))), .tup [none, none], [], (.cons (dInt .u64) (.last (dInt .u64) .nil))⟩
def bits_Div64.p (k : Nat) (y : Int × Int × Int) : Option (Int × Int) := bits_Div64.f k y.1 y.2.1 y.2.2
def bits_Div64.E (k : Nat) : Env R := ⟨tabOf tabL, ctOf [(78, (bits_LeadingZeros64.F.sem (bits_LeadingZeros64.p k)))], mtNone, fun _ => false, codes, rts, 135, fun i => ordOf [(6, [(0, 0), (1, 0), (2, 0), (3, 0), (4, 0), (5, 0), (6, 0), (7, 0)])] i, owns, [], eqtOf eqs, fun _ => false, flats⟩
def bits_Div64.cl0 : CutS R (Int × Int) := ⟨34, [2, 8, 9, 10, 11, 13, 14, 15, 16], [], [.lf, .lf, .lf, .lf, .lf, .lf, .lf, .lf, .lf], [], Int × Int × Int × Int × Int × Int × Int × Int × Int, (.cons (dInt .u64) (.cons (dInt .u64) (.cons (dInt .u64) (.cons (dInt .u64) (.cons (dInt .u64) (.cons (dInt .u64) (.cons (dInt .u64) (.cons (dInt .u64) (.last (dInt .u64) .nil))))))))), fun k z => bits_Div64.l0 k z.1 z.2.1 z.2.2.1 z.2.2.2.1 z.2.2.2.2.1 z.2.2.2.2.2.1 z.2.2.2.2.2.2.1 z.2.2.2.2.2.2.2.1 z.2.2.2.2.2.2.2.2⟩
def bits_Div64.cj0 : CutS R (Int × Int) := ⟨42, [2, 8, 9, 10, 11, 13, 14, 15], [], [.lf, .lf, .lf, .lf, .lf, .lf, .lf, .lf], [], Int × Int × Int × Int × Int × Int × Int × Int, (.cons (dInt .u64) (.cons (dInt .u64) (.cons (dInt .u64) (.cons (dInt .u64) (.cons (dInt .u64) (.cons (dInt .u64) (.cons (dInt .u64) (.last (dInt .u64) .nil)))))))), fun k z => bits_Div64.j0 k z.1 z.2.1 z.2.2.1 z.2.2.2.1 z.2.2.2.2.1 z.2.2.2.2.2.1 z.2.2.2.2.2.2.1 z.2.2.2.2.2.2.2⟩
def bits_Div64.cl1 : CutS R (Int × Int) := ⟨48, [2, 8, 9, 10, 14, 15, 16, 17, 18], [], [.lf, .lf, .lf, .lf, .lf, .lf, .lf, .lf, .lf], [], Int × Int × Int × Int × Int × Int × Int × Int × Int, (.cons (dInt .u64) (.cons (dInt .u64) (.cons (dInt .u64) (.cons (dInt .u64) (.cons (dInt .u64) (.cons (dInt .u64) (.cons (dInt .u64) (.cons (dInt .u64) (.last (dInt .u64) .nil))))))))), fun k z => bits_Div64.l1 k z.1 z.2.1 z.2.2.1 z.2.2.2.1 z.2.2.2.2.1 z.2.2.2.2.2.1 z.2.2.2.2.2.2.1 z.2.2.2.2.2.2.2.1 z.2.2.2.2.2.2.2.2⟩
def bits_Div64.cj1 : CutS R (Int × Int) := ⟨56, [2, 8, 14, 15, 17, 18], [], [.lf, .lf, .lf, .lf, .lf, .lf], [], Int × Int × Int × Int × Int × Int, (.cons (dInt .u64) (.cons (dInt .u64) (.cons (dInt .u64) (.cons (dInt .u64) (.cons (dInt .u64) (.last (dInt .u64) .nil)))))), fun k z => bits_Div64.j1 k z.1 z.2.1 z.2.2.1 z.2.2.2.1 z.2.2.2.2.1 z.2.2.2.2.2⟩
def bits_Div64.cs : List (CutS R (Int × Int)) := [bits_Div64.cl0, bits_Div64.cj0, bits_Div64.cl1, bits_Div64.cj1]
theorem bits_Div64.hE (k : Nat) : EnvOk Try.prog (bits_Div64.E k) := ⟨tabs, ctOf_ok (all_cons (bits_LeadingZeros64.ok k) all_nil), mtNone_ok, mixed, eqs_, flats_⟩
theorem bits_Div64.ol0 : (bits_Div64.cl0).Ok bits_Div64.E Try.f74.results.toList 0 (bodyOf Try.f74) bits_Div64.cs bits_Div64.F.ret := ⟨fun z => rfl, fun k z => by
 show bits_Div64.l0 (k + 1) z.1 z.2.1 z.2.2.1 z.2.2.2.1 z.2.2.2.2.1 z.2.2.2.2.2.1 z.2.2.2.2.2.2.1 z.2.2.2.2.2.2.2.1 z.2.2.2.2.2.2.2.2 = _
 rw [bits_Div64.l0]
 kernel_rfl⟩
theorem bits_Div64.oj0 : (bits_Div64.cj0).Ok bits_Div64.E Try.f74.results.toList 0 (bodyOf Try.f74) bits_Div64.cs bits_Div64.F.ret := ⟨fun z => rfl, fun k z => by
 show bits_Div64.j0 (k + 1) z.1 z.2.1 z.2.2.1 z.2.2.2.1 z.2.2.2.2.1 z.2.2.2.2.2.1 z.2.2.2.2.2.2.1 z.2.2.2.2.2.2.2 = _
 rw [bits_Div64.j0]
 kernel_rfl⟩
theorem bits_Div64.ol1 : (bits_Div64.cl1).Ok bits_Div64.E Try.f74.results.toList 0 (bodyOf Try.f74) bits_Div64.cs bits_Div64.F.ret := ⟨fun z => rfl, fun k z => by
 show bits_Div64.l1 (k + 1) z.1 z.2.1 z.2.2.1 z.2.2.2.1 z.2.2.2.2.1 z.2.2.2.2.2.1 z.2.2.2.2.2.2.1 z.2.2.2.2.2.2.2.1 z.2.2.2.2.2.2.2.2 = _
 rw [bits_Div64.l1]
 kernel_rfl⟩
theorem bits_Div64.oj1 : (bits_Div64.cj1).Ok bits_Div64.E Try.f74.results.toList 0 (bodyOf Try.f74) bits_Div64.cs bits_Div64.F.ret := ⟨fun z => rfl, fun k z => by
 show bits_Div64.j1 (k + 1) z.1 z.2.1 z.2.2.1 z.2.2.2.1 z.2.2.2.2.1 z.2.2.2.2.2 = _
 rw [bits_Div64.j1]
 kernel_rfl⟩
theorem bits_Div64.q (k : Nat) (y : Int × Int × Int) : bits_Div64.p k y = bits_Div64.F.run bits_Div64.E Try.f74.results.toList (bodyOf Try.f74) bits_Div64.cs k y := by kernel_rfl
theorem bits_Div64.ok (k : Nat) : CsemOk R Try.prog 74 (bits_Div64.F.sem (bits_Div64.p k)) := fn_ok (F := bits_Div64.F) (f := bits_Div64.p) (E := bits_Div64.E) bits_Div64.hE (fun _ => rfl) Try.func74 (body := (bodyOf Try.f74)) rfl (by kernel_rfl) rfl (by decide) (by kernel_rfl) (cuts := bits_Div64.cs) (all_cons bits_Div64.ol0 (all_cons bits_Div64.oj0 (all_cons bits_Div64.ol1 (all_cons bits_Div64.oj1 all_nil)))) bits_Div64.q k
def fixed_whole_over.F : FnS R (Int × Int × Bool × Int) (Int × Int × Bool) := ⟨[.agg 3, .lf], [], (.cons (dInt .u64) (.cons (dInt .u64) (.cons dBool (.last (dInt .u64) .nil)))), .agg 3, [], (.cons (dInt .u64) (.cons (dInt .u64) (.last dBool .nil)))⟩
def fixed_whole_over.p (k : Nat) (y : Int × Int × Bool × Int) : Option (Int × Int × Bool) := fixed_whole_over.f k y.1 y.2.1 y.2.2.1 y.2.2.2
def fixed_whole_over.E (k : Nat) : Env R := ⟨tabOf tabL, ctOf [(74, (bits_Div64.F.sem (bits_Div64.p k))), (63, (bits_Add64.F.sem (bits_Add64.p k)))], mtNone, fun _ => false, codes, rts, 44, fun i => ordOf [(1, [(0, 0), (1, 0), (2, 0), (3, 0), (4, 0), (5, 0), (6, 0), (7, 0), (8, 0), (9, 0)])] i, owns, [], eqtOf eqs, fun _ => false, flats⟩
def fixed_whole_over.cs : List (CutS R (Int × Int × Bool)) := []
theorem fixed_whole_over.hE (k : Nat) : EnvOk Try.prog (fixed_whole_over.E k) := ⟨tabs, ctOf_ok (all_cons (bits_Div64.ok k) (all_cons (bits_Add64.ok k) all_nil)), mtNone_ok, mixed, eqs_, flats_⟩
theorem fixed_whole_over.q (k : Nat) (y : Int × Int × Bool × Int) : fixed_whole_over.p k y = fixed_whole_over.F.run fixed_whole_over.E Try.f67.results.toList (bodyOf Try.f67) fixed_whole_over.cs k y := by kernel_rfl
theorem fixed_whole_over.ok (k : Nat) : CsemOk R Try.prog 67 (fixed_whole_over.F.sem (fixed_whole_over.p k)) := fn_ok (F := fixed_whole_over.F) (f := fixed_whole_over.p) (E := fixed_whole_over.E) fixed_whole_over.hE (fun _ => rfl) Try.func67 (body := (bodyOf Try.f67)) rfl (by kernel_rfl) rfl (by decide) (by kernel_rfl) (cuts := fixed_whole_over.cs) all_nil fixed_whole_over.q k
def fixed_Drift.F : FnS R (Int × Int) (Int) := ⟨[.lf, .lf], [], (.cons (dInt .i64) (.last (dInt .i64) .nil)), .lf, [], (.last (dInt .i64) .nil)⟩
def fixed_Drift.p (k : Nat) (y : Int × Int) : Option (Int) := fixed_Drift.f k y.1 y.2
def fixed_Drift.E (k : Nat) : Env R := ⟨tabOf tabL, ctOf [(66, (fixed_product.F.sem (fixed_product.p k))), (67, (fixed_whole_over.F.sem (fixed_whole_over.p k))), (48, (fixed_whole_span.F.sem (fixed_whole_span.p k)))], mtNone, fun _ => false, codes, rts, 10, fun _ => [], owns, [], eqtOf eqs, fun _ => false, flats⟩
def fixed_Drift.cs : List (CutS R (Int)) := []
theorem fixed_Drift.hE (k : Nat) : EnvOk Try.prog (fixed_Drift.E k) := ⟨tabs, ctOf_ok (all_cons (fixed_product.ok k) (all_cons (fixed_whole_over.ok k) (all_cons (fixed_whole_span.ok k) all_nil))), mtNone_ok, mixed, eqs_, flats_⟩
theorem fixed_Drift.q (k : Nat) (y : Int × Int) : fixed_Drift.p k y = fixed_Drift.F.run fixed_Drift.E Try.f59.results.toList (bodyOf Try.f59) fixed_Drift.cs k y := by kernel_rfl
theorem fixed_Drift.ok (k : Nat) : CsemOk R Try.prog 59 (fixed_Drift.F.sem (fixed_Drift.p k)) := fn_ok (F := fixed_Drift.F) (f := fixed_Drift.p) (E := fixed_Drift.E) fixed_Drift.hE (fun _ => rfl) Try.func59 (body := (bodyOf Try.f59)) rfl (by kernel_rfl) rfl (by decide) (by kernel_rfl) (cuts := fixed_Drift.cs) all_nil fixed_Drift.q k
def clock_Clock_At.F : FnS R (S64 × Int) (Int) := ⟨[.lf, .lf], [], (.cons (dEpt 1 0) (.last (dInt .i64) .nil)), .lf, [], (.last (dInt .u64) .nil)⟩
def clock_Clock_At.p (k : Nat) (y : S64 × Int) : Option (Int) := clock_Clock_At.f k y.1 y.2
def clock_Clock_At.E (k : Nat) : Env R := ⟨tabOf tabL, ctOf [(12, (clock_Clock_Now.F.sem (clock_Clock_Now.p k))), (60, (clock_oscillator_gain.F.sem (clock_oscillator_gain.p k))), (59, (fixed_Drift.F.sem (fixed_Drift.p k))), (27, (fixed_Add.F.sem (fixed_Add.p k))), (49, (stamp_Plus.F.sem (stamp_Plus.p k)))], mtNone, fun f => memB f [12, 27, 49, 59, 60], codes, rts, 16, fun i => ordOf [(1, [(0, 0), (1, 0), (2, 0), (3, 0), (4, 0), (5, 0), (6, 0), (7, 0), (8, 0), (9, 0), (10, 0), (11, 0)])] i, owns, [], eqtOf eqs, fun _ => false, flats⟩
def clock_Clock_At.cs : List (CutS R (Int)) := []
theorem clock_Clock_At.hE (k : Nat) : EnvOk Try.prog (clock_Clock_At.E k) := ⟨tabs, ctOf_ok (all_cons (clock_Clock_Now.ok k) (all_cons (clock_oscillator_gain.ok k) (all_cons (fixed_Drift.ok k) (all_cons (fixed_Add.ok k) (all_cons (stamp_Plus.ok k) all_nil))))), mtNone_ok, mixed, eqs_, flats_⟩
theorem clock_Clock_At.q (k : Nat) (y : S64 × Int) : clock_Clock_At.p k y = clock_Clock_At.F.run clock_Clock_At.E Try.f43.results.toList (bodyOf Try.f43) clock_Clock_At.cs k y := by kernel_rfl
theorem clock_Clock_At.ok (k : Nat) : CsemOk R Try.prog 43 (clock_Clock_At.F.sem (clock_Clock_At.p k)) := fn_ok (F := clock_Clock_At.F) (f := clock_Clock_At.p) (E := clock_Clock_At.E) clock_Clock_At.hE (fun _ => rfl) Try.func43 (body := (bodyOf Try.f43)) rfl (by kernel_rfl) rfl (by decide) (by kernel_rfl) (cuts := clock_Clock_At.cs) all_nil clock_Clock_At.q k
def foliotref01_times.F : FnS R ((List Int) × (List Int)) ((List Int)) := ⟨[.lf, .lf], [], (.cons (dRo 2) (.last (dRo 2) .nil)), .lf, [.row 2 3], (.row 2 0 (.last (dRo 2) .nil))⟩
def foliotref01_times.p (k : Nat) (y : (List Int) × (List Int)) : Option ((List Int)) := foliotref01_times.f k y.1 y.2
def foliotref01_times.E (k : Nat) : Env R := ⟨tabOf tabL, ctOf [(77, (foliotref01_trim_s1.F.sem (foliotref01_trim_s1.p k)))], mtNone, fun _ => false, codes, rts, 67, fun i => ordOf [(11, [(0, 0), (1, 0), (2, 0), (3, 0), (4, 0), (5, 0), (6, 0), (7, 0), (8, 0), (9, 0), (10, 0), (11, 0)])] i, owns, [], eqtOf eqs, fun _ => false, flats⟩
def foliotref01_times.cl0 : CutS R ((List Int)) := ⟨6, [0, 1, 5, 6], [], [.lf, .lf, .lf, .lf], [.row 2 3], (List Int) × (List Int) × Int × (List Int), (.cons (dRo 2) (.cons (dRo 2) (.row 2 0 (.cons (dInt .i64) (.last (dRo 2) .nil))))), fun k z => foliotref01_times.l0 k z.1 z.2.1 z.2.2.1 z.2.2.2⟩
def foliotref01_times.cl1 : CutS R ((List Int)) := ⟨14, [0, 1, 5, 6, 7, 8], [], [.lf, .lf, .lf, .lf, .lf, .lf], [.row 2 3], (List Int) × (List Int) × Int × Int × Int × (List Int), (.cons (dRo 2) (.cons (dRo 2) (.row 2 0 (.cons (dInt .i64) (.cons (dInt .i64) (.cons (dInt .i64) (.last (dRo 2) .nil))))))), fun k z => foliotref01_times.l1 k z.1 z.2.1 z.2.2.1 z.2.2.2.1 z.2.2.2.2.1 z.2.2.2.2.2⟩
def foliotref01_times.cj0 : CutS R ((List Int)) := ⟨24, [0, 1, 5, 6, 8, 9], [], [.lf, .lf, .lf, .lf, .lf, .lf], [.row 2 3], (List Int) × (List Int) × Int × Int × Int × (List Int), (.cons (dRo 2) (.cons (dRo 2) (.row 2 0 (.cons (dInt .i64) (.cons (dInt .i64) (.cons (dInt .i64) (.last (dRo 2) .nil))))))), fun k z => foliotref01_times.j0 k z.1 z.2.1 z.2.2.1 z.2.2.2.1 z.2.2.2.2.1 z.2.2.2.2.2⟩
def foliotref01_times.cs : List (CutS R ((List Int))) := [foliotref01_times.cl0, foliotref01_times.cl1, foliotref01_times.cj0]
theorem foliotref01_times.hE (k : Nat) : EnvOk Try.prog (foliotref01_times.E k) := ⟨tabs, ctOf_ok (all_cons (foliotref01_trim_s1.ok k) all_nil), mtNone_ok, mixed, eqs_, flats_⟩
theorem foliotref01_times.ol0 : (foliotref01_times.cl0).Ok foliotref01_times.E Try.f76.results.toList 0 (bodyOf Try.f76) foliotref01_times.cs foliotref01_times.F.ret := ⟨fun z => rfl, fun k z => by
 show foliotref01_times.l0 (k + 1) z.1 z.2.1 z.2.2.1 z.2.2.2 = _
 rw [foliotref01_times.l0]
 kernel_rfl⟩
theorem foliotref01_times.ol1 : (foliotref01_times.cl1).Ok foliotref01_times.E Try.f76.results.toList 0 (bodyOf Try.f76) foliotref01_times.cs foliotref01_times.F.ret := ⟨fun z => rfl, fun k z => by
 show foliotref01_times.l1 (k + 1) z.1 z.2.1 z.2.2.1 z.2.2.2.1 z.2.2.2.2.1 z.2.2.2.2.2 = _
 rw [foliotref01_times.l1]
 kernel_rfl⟩
theorem foliotref01_times.oj0 : (foliotref01_times.cj0).Ok foliotref01_times.E Try.f76.results.toList 0 (bodyOf Try.f76) foliotref01_times.cs foliotref01_times.F.ret := ⟨fun z => rfl, fun k z => by
 show foliotref01_times.j0 (k + 1) z.1 z.2.1 z.2.2.1 z.2.2.2.1 z.2.2.2.2.1 z.2.2.2.2.2 = _
 rw [foliotref01_times.j0]
 kernel_rfl⟩
theorem foliotref01_times.q (k : Nat) (y : (List Int) × (List Int)) : foliotref01_times.p k y = foliotref01_times.F.run foliotref01_times.E Try.f76.results.toList (bodyOf Try.f76) foliotref01_times.cs k y := by kernel_rfl
theorem foliotref01_times.ok (k : Nat) : CsemOk R Try.prog 76 (foliotref01_times.F.sem (foliotref01_times.p k)) := fn_ok (F := foliotref01_times.F) (f := foliotref01_times.p) (E := foliotref01_times.E) foliotref01_times.hE (fun _ => rfl) Try.func76 (body := (bodyOf Try.f76)) rfl (by kernel_rfl) rfl (by decide) (by kernel_rfl) (cuts := foliotref01_times.cs) (all_cons foliotref01_times.ol0 (all_cons foliotref01_times.ol1 (all_cons foliotref01_times.oj0 all_nil))) foliotref01_times.q k
def foliotref01_product.F : FnS R ((List Int) × Bool × (List Int) × Bool) (Bool × (List Int)) := ⟨[.agg 2, .agg 2], [], (.cons (dRo 2) (.cons dBool (.cons (dRo 2) (.last dBool .nil)))), .agg 2, [.row 2 3], (.row 2 0 (.cons dBool (.last (dRo 2) .nil)))⟩
def foliotref01_product.p (k : Nat) (y : (List Int) × Bool × (List Int) × Bool) : Option (Bool × (List Int)) := foliotref01_product.f k y.1 y.2.1 y.2.2.1 y.2.2.2
def foliotref01_product.E (k : Nat) : Env R := ⟨tabOf tabL, ctOf [(76, (foliotref01_times.F.sem (foliotref01_times.p k)))], mtNone, fun _ => false, codes, rts, 16, fun i => ordOf [(1, [(0, 0), (1, 0), (2, 0), (3, 0), (5, 0), (6, 0), (7, 0), (8, 0), (9, 0), (4, 1), (10, 0), (11, 2)])] i, owns, [], eqtOf eqs, fun _ => false, flats⟩
def foliotref01_product.cs : List (CutS R (Bool × (List Int))) := []
theorem foliotref01_product.hE (k : Nat) : EnvOk Try.prog (foliotref01_product.E k) := ⟨tabs, ctOf_ok (all_cons (foliotref01_times.ok k) all_nil), mtNone_ok, mixed, eqs_, flats_⟩
theorem foliotref01_product.q (k : Nat) (y : (List Int) × Bool × (List Int) × Bool) : foliotref01_product.p k y = foliotref01_product.F.run foliotref01_product.E Try.f69.results.toList (bodyOf Try.f69) foliotref01_product.cs k y := by kernel_rfl
theorem foliotref01_product.ok (k : Nat) : CsemOk R Try.prog 69 (foliotref01_product.F.sem (foliotref01_product.p k)) := fn_ok (F := foliotref01_product.F) (f := foliotref01_product.p) (E := foliotref01_product.E) foliotref01_product.hE (fun _ => rfl) Try.func69 (body := (bodyOf Try.f69)) rfl (by kernel_rfl) rfl (by decide) (by kernel_rfl) (cuts := foliotref01_product.cs) all_nil foliotref01_product.q k
def foliotref01_two.F : FnS R (Int) (Bool × (List Int)) := ⟨[.lf], [], (.last (dInt .i64) .nil), .agg 2, [.row 2 3], (.row 2 0 (.cons dBool (.last (dRo 2) .nil)))⟩
def foliotref01_two.p (k : Nat) (y : Int) : Option (Bool × (List Int)) := foliotref01_two.f k y
def foliotref01_two.E (k : Nat) : Env R := ⟨tabOf tabL, ctOf [], mtNone, fun _ => false, codes, rts, 34, fun i => ordOf [(6, [(0, 0), (1, 0), (2, 0), (3, 0), (4, 0), (5, 0), (6, 0), (7, 0), (8, 0), (9, 0), (10, 0), (11, 0), (12, 2)])] i, owns, [], eqtOf eqs, fun _ => false, flats⟩
def foliotref01_two.cl0 : CutS R (Bool × (List Int)) := ⟨8, [0, 2, 3, 4], [], [.lf, .lf, .lf, .lf], [.blk 2 83, .blk 2 83, .row 2 3, .row 2 3], Int × Int × Bool × Bool × (List Int) × (List Int), (.cons (dInt .i64) (.ptr 0 0 (.ptr 1 0 (.cons (dInt .i64) (.row 2 2 (.cons dBool (.row 2 3 (.cons dBool (.cons (dRo 2) (.last (dRo 2) .nil)))))))))), fun k z => foliotref01_two.l0 k z.1 z.2.1 z.2.2.1 z.2.2.2.1 z.2.2.2.2.1 z.2.2.2.2.2⟩
def foliotref01_two.cs : List (CutS R (Bool × (List Int))) := [foliotref01_two.cl0]
theorem foliotref01_two.hE (k : Nat) : EnvOk Try.prog (foliotref01_two.E k) := ⟨tabs, ctOf_ok all_nil, mtNone_ok, mixed, eqs_, flats_⟩
theorem foliotref01_two.ol0 : (foliotref01_two.cl0).Ok foliotref01_two.E Try.f70.results.toList 0 (bodyOf Try.f70) foliotref01_two.cs foliotref01_two.F.ret := ⟨fun z => rfl, fun k z => by
 show foliotref01_two.l0 (k + 1) z.1 z.2.1 z.2.2.1 z.2.2.2.1 z.2.2.2.2.1 z.2.2.2.2.2 = _
 rw [foliotref01_two.l0]
 kernel_rfl⟩
theorem foliotref01_two.q (k : Nat) (y : Int) : foliotref01_two.p k y = foliotref01_two.F.run foliotref01_two.E Try.f70.results.toList (bodyOf Try.f70) foliotref01_two.cs k y := by kernel_rfl
theorem foliotref01_two.ok (k : Nat) : CsemOk R Try.prog 70 (foliotref01_two.F.sem (foliotref01_two.p k)) := fn_ok (F := foliotref01_two.F) (f := foliotref01_two.p) (E := foliotref01_two.E) foliotref01_two.hE (fun _ => rfl) Try.func70 (body := (bodyOf Try.f70)) rfl (by kernel_rfl) rfl (by decide) (by kernel_rfl) (cuts := foliotref01_two.cs) (all_cons foliotref01_two.ol0 all_nil) foliotref01_two.q k
def foliotref01_divide.F : FnS R ((List Int) × (List Int)) ((List Int) × (List Int)) := ⟨[.lf, .lf], [], (.cons (dRo 2) (.last (dRo 2) .nil)), .tup [none, none], [.row 2 3, .row 2 3], (.row 2 0 (.row 2 1 (.cons (dRo 2) (.last (dRo 2) .nil))))⟩
def foliotref01_divide.p (k : Nat) (y : (List Int) × (List Int)) : Option ((List Int) × (List Int)) := foliotref01_divide.f k y.1 y.2
def foliotref01_divide.E (k : Nat) : Env R := ⟨tabOf tabL, ctOf [(77, (foliotref01_trim_s1.F.sem (foliotref01_trim_s1.p k))), (76, (foliotref01_times.F.sem (foliotref01_times.p k))), (51, (foliotref01_compare.F.sem (foliotref01_compare.p k))), (72, (foliotref01_minus.F.sem (foliotref01_minus.p k)))], mtNone, fun f => memB f [51], codes, rts, 68, fun _ => [], owns, [], eqtOf eqs, fun f => memB f [72, 76], flats⟩
def foliotref01_divide.cl0 : CutS R ((List Int) × (List Int)) := ⟨8, [0, 1, 6, 7, 8], [], [.lf, .lf, .lf, .lf, .lf], [.row 2 3, .row 2 3], (List Int) × (List Int) × Int × (List Int) × (List Int), (.cons (dRo 2) (.cons (dRo 2) (.row 2 0 (.row 2 1 (.cons (dInt .i64) (.cons (dRo 2) (.last (dRo 2) .nil))))))), fun k z => foliotref01_divide.l0 k z.1 z.2.1 z.2.2.1 z.2.2.2.1 z.2.2.2.2⟩
def foliotref01_divide.cl1 : CutS R ((List Int) × (List Int)) := ⟨20, [0, 1, 6, 7, 8, 10, 11], [], [.lf, .lf, .lf, .lf, .lf, .lf, .lf], [.row 2 3, .row 2 3], (List Int) × (List Int) × Int × Int × Int × (List Int) × (List Int), (.cons (dRo 2) (.cons (dRo 2) (.row 2 0 (.row 2 1 (.cons (dInt .i64) (.cons (dInt .i64) (.cons (dInt .i64) (.cons (dRo 2) (.last (dRo 2) .nil))))))))), fun k z => foliotref01_divide.l1 k z.1 z.2.1 z.2.2.1 z.2.2.2.1 z.2.2.2.2.1 z.2.2.2.2.2.1 z.2.2.2.2.2.2⟩
def foliotref01_divide.cs : List (CutS R ((List Int) × (List Int))) := [foliotref01_divide.cl0, foliotref01_divide.cl1]
theorem foliotref01_divide.hE (k : Nat) : EnvOk Try.prog (foliotref01_divide.E k) := ⟨tabs, ctOf_ok (all_cons (foliotref01_trim_s1.ok k) (all_cons (foliotref01_times.ok k) (all_cons (foliotref01_compare.ok k) (all_cons (foliotref01_minus.ok k) all_nil)))), mtNone_ok, mixed, eqs_, flats_⟩
theorem foliotref01_divide.ol0 : (foliotref01_divide.cl0).Ok foliotref01_divide.E Try.f75.results.toList 0 (bodyOf Try.f75) foliotref01_divide.cs foliotref01_divide.F.ret := ⟨fun z => rfl, fun k z => by
 show foliotref01_divide.l0 (k + 1) z.1 z.2.1 z.2.2.1 z.2.2.2.1 z.2.2.2.2 = _
 rw [foliotref01_divide.l0]
 kernel_rfl⟩
theorem foliotref01_divide.ol1 : (foliotref01_divide.cl1).Ok foliotref01_divide.E Try.f75.results.toList 0 (bodyOf Try.f75) foliotref01_divide.cs foliotref01_divide.F.ret := ⟨fun z => rfl, fun k z => by
 show foliotref01_divide.l1 (k + 1) z.1 z.2.1 z.2.2.1 z.2.2.2.1 z.2.2.2.2.1 z.2.2.2.2.2.1 z.2.2.2.2.2.2 = _
 rw [foliotref01_divide.l1]
 kernel_rfl⟩
theorem foliotref01_divide.q (k : Nat) (y : (List Int) × (List Int)) : foliotref01_divide.p k y = foliotref01_divide.F.run foliotref01_divide.E Try.f75.results.toList (bodyOf Try.f75) foliotref01_divide.cs k y := by kernel_rfl
theorem foliotref01_divide.ok (k : Nat) : CsemOk R Try.prog 75 (foliotref01_divide.F.sem (foliotref01_divide.p k)) := fn_ok (F := foliotref01_divide.F) (f := foliotref01_divide.p) (E := foliotref01_divide.E) foliotref01_divide.hE (fun _ => rfl) Try.func75 (body := (bodyOf Try.f75)) rfl (by kernel_rfl) rfl (by decide) (by kernel_rfl) (cuts := foliotref01_divide.cs) (all_cons foliotref01_divide.ol0 (all_cons foliotref01_divide.ol1 all_nil)) foliotref01_divide.q k
def foliotref01_down.F : FnS R ((List Int) × Bool × (List Int) × Bool) (Bool × (List Int)) := ⟨[.agg 2, .agg 2], [], (.cons (dRo 2) (.cons dBool (.cons (dRo 2) (.last dBool .nil)))), .agg 2, [.row 2 3], (.row 2 0 (.cons dBool (.last (dRo 2) .nil)))⟩
def foliotref01_down.p (k : Nat) (y : (List Int) × Bool × (List Int) × Bool) : Option (Bool × (List Int)) := foliotref01_down.f k y.1 y.2.1 y.2.2.1 y.2.2.2
def foliotref01_down.E (k : Nat) : Env R := ⟨tabOf tabL, ctOf [(75, (foliotref01_divide.F.sem (foliotref01_divide.p k))), (71, (foliotref01_plus.F.sem (foliotref01_plus.p k)))], mtNone, fun _ => false, codes, rts, 31, fun _ => [], owns, [], eqtOf eqs, fun f => memB f [71], flats⟩
def foliotref01_down.cs : List (CutS R (Bool × (List Int))) := []
theorem foliotref01_down.hE (k : Nat) : EnvOk Try.prog (foliotref01_down.E k) := ⟨tabs, ctOf_ok (all_cons (foliotref01_divide.ok k) (all_cons (foliotref01_plus.ok k) all_nil)), mtNone_ok, mixed, eqs_, flats_⟩
theorem foliotref01_down.q (k : Nat) (y : (List Int) × Bool × (List Int) × Bool) : foliotref01_down.p k y = foliotref01_down.F.run foliotref01_down.E Try.f68.results.toList (bodyOf Try.f68) foliotref01_down.cs k y := by kernel_rfl
theorem foliotref01_down.ok (k : Nat) : CsemOk R Try.prog 68 (foliotref01_down.F.sem (foliotref01_down.p k)) := fn_ok (F := foliotref01_down.F) (f := foliotref01_down.p) (E := foliotref01_down.E) foliotref01_down.hE (fun _ => rfl) Try.func68 (body := (bodyOf Try.f68)) rfl (by kernel_rfl) rfl (by decide) (by kernel_rfl) (cuts := foliotref01_down.cs) all_nil foliotref01_down.q k
def foliotref01_Drift.F : FnS R (Int × Int) (Int) := ⟨[.lf, .lf], [], (.cons (dInt .i64) (.last (dInt .i64) .nil)), .lf, [], (.last (dInt .i64) .nil)⟩
def foliotref01_Drift.p (k : Nat) (y : Int × Int) : Option (Int) := foliotref01_Drift.f k y.1 y.2
def foliotref01_Drift.E (k : Nat) : Env R := ⟨tabOf tabL, ctOf [(54, (foliotref01_of.F.sem (foliotref01_of.p k))), (50, (foliotref01_s.F.sem (foliotref01_s.p k))), (69, (foliotref01_product.F.sem (foliotref01_product.p k))), (70, (foliotref01_two.F.sem (foliotref01_two.p k))), (68, (foliotref01_down.F.sem (foliotref01_down.p k))), (52, (foliotref01_span.F.sem (foliotref01_span.p k)))], mtNone, fun f => memB f [52], codes, rts, 13, fun _ => [], owns, [], eqtOf eqs, fun f => memB f [68, 69], flats⟩
def foliotref01_Drift.cs : List (CutS R (Int)) := []
theorem foliotref01_Drift.hE (k : Nat) : EnvOk Try.prog (foliotref01_Drift.E k) := ⟨tabs, ctOf_ok (all_cons (foliotref01_of.ok k) (all_cons (foliotref01_s.ok k) (all_cons (foliotref01_product.ok k) (all_cons (foliotref01_two.ok k) (all_cons (foliotref01_down.ok k) (all_cons (foliotref01_span.ok k) all_nil)))))), mtNone_ok, mixed, eqs_, flats_⟩
theorem foliotref01_Drift.q (k : Nat) (y : Int × Int) : foliotref01_Drift.p k y = foliotref01_Drift.F.run foliotref01_Drift.E Try.f62.results.toList (bodyOf Try.f62) foliotref01_Drift.cs k y := by kernel_rfl
theorem foliotref01_Drift.ok (k : Nat) : CsemOk R Try.prog 62 (foliotref01_Drift.F.sem (foliotref01_Drift.p k)) := fn_ok (F := foliotref01_Drift.F) (f := foliotref01_Drift.p) (E := foliotref01_Drift.E) foliotref01_Drift.hE (fun _ => rfl) Try.func62 (body := (bodyOf Try.f62)) rfl (by kernel_rfl) rfl (by decide) (by kernel_rfl) (cuts := foliotref01_Drift.cs) all_nil foliotref01_Drift.q k
def foliotref02_Plus.F : FnS R (Int × Int) (Int) := ⟨[.lf, .lf], [], (.cons (dInt .u64) (.last (dInt .i64) .nil)), .lf, [], (.last (dInt .u64) .nil)⟩
def foliotref02_Plus.p (k : Nat) (y : Int × Int) : Option (Int) := foliotref02_Plus.f y.1 y.2
def foliotref02_Plus.E (k : Nat) : Env R := ⟨tabOf tabL, ctOf [], mtNone, fun _ => false, codes, rts, 9, fun _ => [], owns, [], eqtOf eqs, fun _ => false, flats⟩
def foliotref02_Plus.cs : List (CutS R (Int)) := []
theorem foliotref02_Plus.hE (k : Nat) : EnvOk Try.prog (foliotref02_Plus.E k) := ⟨tabs, ctOf_ok all_nil, mtNone_ok, mixed, eqs_, flats_⟩
theorem foliotref02_Plus.q (k : Nat) (y : Int × Int) : foliotref02_Plus.p k y = foliotref02_Plus.F.run foliotref02_Plus.E Try.f61.results.toList (bodyOf Try.f61) foliotref02_Plus.cs k y := by kernel_rfl
theorem foliotref02_Plus.ok (k : Nat) : CsemOk R Try.prog 61 (foliotref02_Plus.F.sem (foliotref02_Plus.p k)) := fn_ok (F := foliotref02_Plus.F) (f := foliotref02_Plus.p) (E := foliotref02_Plus.E) foliotref02_Plus.hE (fun _ => rfl) Try.func61 (body := (bodyOf Try.f61)) rfl (by kernel_rfl) rfl (by decide) (by kernel_rfl) (cuts := foliotref02_Plus.cs) all_nil foliotref02_Plus.q k
def foliotref16_Clock_At.F : FnS R (S69 × Int) (Int) := ⟨[.lf, .lf], [], (.cons (dEpt 3 0) (.last (dInt .i64) .nil)), .lf, [], (.last (dInt .u64) .nil)⟩
def foliotref16_Clock_At.p (k : Nat) (y : S69 × Int) : Option (Int) := foliotref16_Clock_At.f k y.1 y.2
def foliotref16_Clock_At.E (k : Nat) : Env R := ⟨tabOf tabL, ctOf [(34, (foliotref16_Clock_Now.F.sem (foliotref16_Clock_Now.p k))), (62, (foliotref01_Drift.F.sem (foliotref01_Drift.p k))), (57, (foliotref01_Add.F.sem (foliotref01_Add.p k))), (61, (foliotref02_Plus.F.sem (foliotref02_Plus.p k)))], mtNone, fun f => memB f [34, 57, 61, 62], codes, rts, 21, fun i => ordOf [(1, [(0, 0), (1, 0), (2, 0), (3, 0), (4, 0), (5, 0), (6, 0), (7, 0), (8, 0), (9, 0), (10, 0), (11, 0), (12, 0), (13, 0), (14, 0), (15, 0), (16, 0)])] i, owns, [], eqtOf eqs, fun _ => false, flats⟩
def foliotref16_Clock_At.cs : List (CutS R (Int)) := []
theorem foliotref16_Clock_At.hE (k : Nat) : EnvOk Try.prog (foliotref16_Clock_At.E k) := ⟨tabs, ctOf_ok (all_cons (foliotref16_Clock_Now.ok k) (all_cons (foliotref01_Drift.ok k) (all_cons (foliotref01_Add.ok k) (all_cons (foliotref02_Plus.ok k) all_nil)))), mtNone_ok, mixed, eqs_, flats_⟩
theorem foliotref16_Clock_At.q (k : Nat) (y : S69 × Int) : foliotref16_Clock_At.p k y = foliotref16_Clock_At.F.run foliotref16_Clock_At.E Try.f44.results.toList (bodyOf Try.f44) foliotref16_Clock_At.cs k y := by kernel_rfl
theorem foliotref16_Clock_At.ok (k : Nat) : CsemOk R Try.prog 44 (foliotref16_Clock_At.F.sem (foliotref16_Clock_At.p k)) := fn_ok (F := foliotref16_Clock_At.F) (f := foliotref16_Clock_At.p) (E := foliotref16_Clock_At.E) foliotref16_Clock_At.hE (fun _ => rfl) Try.func44 (body := (bodyOf Try.f44)) rfl (by kernel_rfl) rfl (by decide) (by kernel_rfl) (cuts := foliotref16_Clock_At.cs) all_nil foliotref16_Clock_At.q k
def foliotlaw16_does.F : FnS R (Int × Int × Int × Int × Int × Int × Int × Int × Int × Int × Int × Int × Int × Int × Int × Int × Int × Int × Int × Int) (Bool × Int × Int × Int × Int × Int × Int × Int × Int × Int × Int × Int × Int × Int × Int × Int × Int) := ⟨[.lf, .lf, .agg 4], [.blk 8 64, .blk 8 69], (.ptr 0 0 (.ptr 1 0 (.cons (dInt .i64) (.cons (dInt .i64) (.cons (dInt .i64) (.cons (dInt .i64) (.cons (dInt .i64) (.cons (dInt .i64) (.cons (dInt .i64) (.cons (dInt .u64) (.cons (dInt .i64) (.cons (dInt .i64) (.cons (dInt .i64) (.cons (dInt .i64) (.cons (dInt .i64) (.cons (dInt .u64) (.cons (dInt .i64) (.cons (dInt .i64) (.cons (dInt .i64) (.cons (dInt .i64) (.cons (dInt .i64) (.last (dInt .i64) .nil)))))))))))))))))))))), .lf, [.blk 8 64, .blk 8 69], (.cons dBool (.cons (dInt .i64) (.cons (dInt .i64) (.cons (dInt .i64) (.cons (dInt .u64) (.cons (dInt .i64) (.cons (dInt .i64) (.cons (dInt .i64) (.cons (dInt .i64) (.cons (dInt .i64) (.cons (dInt .u64) (.cons (dInt .i64) (.cons (dInt .i64) (.cons (dInt .i64) (.cons (dInt .i64) (.cons (dInt .i64) (.last (dInt .i64) .nil)))))))))))))))))⟩
def foliotlaw16_does.p (k : Nat) (y : Int × Int × Int × Int × Int × Int × Int × Int × Int × Int × Int × Int × Int × Int × Int × Int × Int × Int × Int × Int) : Option (Bool × Int × Int × Int × Int × Int × Int × Int × Int × Int × Int × Int × Int × Int × Int × Int × Int) := foliotlaw16_does.f k y.1 y.2.1 y.2.2.1 y.2.2.2.1 y.2.2.2.2.1 y.2.2.2.2.2.1 y.2.2.2.2.2.2.1 y.2.2.2.2.2.2.2.1 y.2.2.2.2.2.2.2.2.1 y.2.2.2.2.2.2.2.2.2.1 y.2.2.2.2.2.2.2.2.2.2.1 y.2.2.2.2.2.2.2.2.2.2.2.1 y.2.2.2.2.2.2.2.2.2.2.2.2.1 y.2.2.2.2.2.2.2.2.2.2.2.2.2.1 y.2.2.2.2.2.2.2.2.2.2.2.2.2.2.1 y.2.2.2.2.2.2.2.2.2.2.2.2.2.2.2.1 y.2.2.2.2.2.2.2.2.2.2.2.2.2.2.2.2.1 y.2.2.2.2.2.2.2.2.2.2.2.2.2.2.2.2.2.1 y.2.2.2.2.2.2.2.2.2.2.2.2.2.2.2.2.2.2.1 y.2.2.2.2.2.2.2.2.2.2.2.2.2.2.2.2.2.2.2
def foliotlaw16_does.E (k : Nat) : Env R := ⟨tabOf tabL, ctOf [(10, (clock_Clock_Pass.F.sem (clock_Clock_Pass.p k))), (38, (foliotref16_Clock_Pass.F.sem (foliotref16_Clock_Pass.p k))), (8, (clock_Clock_Slew.F.sem (clock_Clock_Slew.p k))), (39, (foliotref16_Clock_Slew.F.sem (foliotref16_Clock_Slew.p k))), (9, (clock_Clock_Step.F.sem (clock_Clock_Step.p k))), (19, (clock_Clock_SetFreq.F.sem (clock_Clock_SetFreq.p k))), (40, (foliotref16_Clock_SetFreq.F.sem (foliotref16_Clock_SetFreq.p k))), (31, (clock_Clock_SetRate.F.sem (clock_Clock_SetRate.p k))), (41, (foliotref16_Clock_SetRate.F.sem (foliotref16_Clock_SetRate.p k))), (17, (clock_Clock_SetLeap.F.sem (clock_Clock_SetLeap.p k))), (42, (foliotref16_Clock_SetLeap.F.sem (foliotref16_Clock_SetLeap.p k))), (43, (clock_Clock_At.F.sem (clock_Clock_At.p k))), (44, (foliotref16_Clock_At.F.sem (foliotref16_Clock_At.p k)))], mtNone, fun f => memB f [43, 44], codes, rts, 82, fun i => ordOf [(3, [(0, 0), (1, 0), (2, 0), (4, 0), (5, 0), (6, 0), (3, 2), (7, 2), (8, 0), (9, 0)]), (17, [(0, 0), (1, 0), (2, 0), (4, 0), (5, 0), (6, 0), (3, 2), (7, 2), (8, 0), (9, 0)]), (19, [(0, 0), (1, 0), (2, 0), (3, 0), (4, 0), (5, 0), (6, 0), (7, 0), (8, 0), (9, 0)])] i, owns, [], eqtOf eqs, fun _ => false, flats⟩
def foliotlaw16_does.cs : List (CutS R (Bool × Int × Int × Int × Int × Int × Int × Int × Int × Int × Int × Int × Int × Int × Int × Int × Int)) := []
theorem foliotlaw16_does.hE (k : Nat) : EnvOk Try.prog (foliotlaw16_does.E k) := ⟨tabs, ctOf_ok (all_cons (clock_Clock_Pass.ok k) (all_cons (foliotref16_Clock_Pass.ok k) (all_cons (clock_Clock_Slew.ok k) (all_cons (foliotref16_Clock_Slew.ok k) (all_cons (clock_Clock_Step.ok k) (all_cons (clock_Clock_SetFreq.ok k) (all_cons (foliotref16_Clock_SetFreq.ok k) (all_cons (clock_Clock_SetRate.ok k) (all_cons (foliotref16_Clock_SetRate.ok k) (all_cons (clock_Clock_SetLeap.ok k) (all_cons (foliotref16_Clock_SetLeap.ok k) (all_cons (clock_Clock_At.ok k) (all_cons (foliotref16_Clock_At.ok k) all_nil))))))))))))), mtNone_ok, mixed, eqs_, flats_⟩
theorem foliotlaw16_does.q (k : Nat) (y : Int × Int × Int × Int × Int × Int × Int × Int × Int × Int × Int × Int × Int × Int × Int × Int × Int × Int × Int × Int) : foliotlaw16_does.p k y = foliotlaw16_does.F.run foliotlaw16_does.E Try.f24.results.toList (bodyOf Try.f24) foliotlaw16_does.cs k y := by kernel_rfl
theorem foliotlaw16_does.ok (k : Nat) : CsemOk R Try.prog 24 (foliotlaw16_does.F.sem (foliotlaw16_does.p k)) := fn_ok (F := foliotlaw16_does.F) (f := foliotlaw16_does.p) (E := foliotlaw16_does.E) foliotlaw16_does.hE (fun _ => rfl) Try.func24 (body := (bodyOf Try.f24)) rfl (by kernel_rfl) rfl (by decide) (by kernel_rfl) (cuts := foliotlaw16_does.cs) all_nil foliotlaw16_does.q k
def foliotlaw16_ClockScript.F : FnS R (Int × Int × Int × Int × (List S56)) (Bool) := ⟨[.agg 2, .lf, .lf, .lf], [], (.cons (dInt .i64) (.cons (dInt .u64) (.cons (dInt .i64) (.cons (dInt .i64) (.last (dRo 0) .nil))))), .lf, [], (.last dBool .nil)⟩
def foliotlaw16_ClockScript.p (k : Nat) (y : Int × Int × Int × Int × (List S56)) : Option (Bool) := foliotlaw16_ClockScript.f k y.1 y.2.1 y.2.2.1 y.2.2.2.1 y.2.2.2.2
def foliotlaw16_ClockScript.E (k : Nat) : Env R := ⟨tabOf tabL, ctOf [(16, (foliotlaw16_shown.F.sem (foliotlaw16_shown.p k))), (7, (clock_New.F.sem (clock_New.p k))), (22, (foliotlaw16_date.F.sem (foliotlaw16_date.p k))), (21, (foliotref16_New.F.sem (foliotref16_New.p k))), (23, (foliotlaw16_told.F.sem (foliotlaw16_told.p k))), (24, (foliotlaw16_does.F.sem (foliotlaw16_does.p k)))], mtNone, fun f => memB f [22, 23], codes, rts, 46, fun i => ordOf [(3, [(0, 0), (1, 0), (2, 0), (4, 0), (6, 0), (7, 0), (3, 1), (5, 0), (8, 1), (9, 0), (10, 0)])] i, owns, [], eqtOf eqs, fun _ => false, flats⟩
def foliotlaw16_ClockScript.cl0 : CutS R (Bool) := ⟨14, [9, 10, 28, 29, 30], [], [.lf, .lf, .lf, .lf, .lf], [.blk 8 64, .blk 8 69], (List S56) × Int × Int × Int × Int × Int × Int × Int × Int × Int × Int × Int × Int × Int × Int × Int × Int × Int × Int, (.ptr 0 0 (.ptr 1 0 (.cons (dRo 0) (.cons (dInt .i64) (.cons (dInt .i64) (.cons (dInt .i64) (.cons (dInt .i64) (.cons (dInt .i64) (.cons (dInt .u64) (.cons (dInt .i64) (.cons (dInt .i64) (.cons (dInt .i64) (.cons (dInt .i64) (.cons (dInt .i64) (.cons (dInt .u64) (.cons (dInt .i64) (.cons (dInt .i64) (.cons (dInt .i64) (.cons (dInt .i64) (.cons (dInt .i64) (.last (dInt .i64) .nil))))))))))))))))))))), fun k z => foliotlaw16_ClockScript.l0 k z.1 z.2.1 z.2.2.1 z.2.2.2.1 z.2.2.2.2.1 z.2.2.2.2.2.1 z.2.2.2.2.2.2.1 z.2.2.2.2.2.2.2.1 z.2.2.2.2.2.2.2.2.1 z.2.2.2.2.2.2.2.2.2.1 z.2.2.2.2.2.2.2.2.2.2.1 z.2.2.2.2.2.2.2.2.2.2.2.1 z.2.2.2.2.2.2.2.2.2.2.2.2.1 z.2.2.2.2.2.2.2.2.2.2.2.2.2.1 z.2.2.2.2.2.2.2.2.2.2.2.2.2.2.1 z.2.2.2.2.2.2.2.2.2.2.2.2.2.2.2.1 z.2.2.2.2.2.2.2.2.2.2.2.2.2.2.2.2.1 z.2.2.2.2.2.2.2.2.2.2.2.2.2.2.2.2.2.1 z.2.2.2.2.2.2.2.2.2.2.2.2.2.2.2.2.2.2⟩
def foliotlaw16_ClockScript.cs : List (CutS R (Bool)) := [foliotlaw16_ClockScript.cl0]
theorem foliotlaw16_ClockScript.hE (k : Nat) : EnvOk Try.prog (foliotlaw16_ClockScript.E k) := ⟨tabs, ctOf_ok (all_cons (foliotlaw16_shown.ok k) (all_cons (clock_New.ok k) (all_cons (foliotlaw16_date.ok k) (all_cons (foliotref16_New.ok k) (all_cons (foliotlaw16_told.ok k) (all_cons (foliotlaw16_does.ok k) all_nil)))))), mtNone_ok, mixed, eqs_, flats_⟩
theorem foliotlaw16_ClockScript.ol0 : (foliotlaw16_ClockScript.cl0).Ok foliotlaw16_ClockScript.E Try.f6.results.toList 0 (bodyOf Try.f6) foliotlaw16_ClockScript.cs foliotlaw16_ClockScript.F.ret := ⟨fun z => rfl, fun k z => by
 show foliotlaw16_ClockScript.l0 (k + 1) z.1 z.2.1 z.2.2.1 z.2.2.2.1 z.2.2.2.2.1 z.2.2.2.2.2.1 z.2.2.2.2.2.2.1 z.2.2.2.2.2.2.2.1 z.2.2.2.2.2.2.2.2.1 z.2.2.2.2.2.2.2.2.2.1 z.2.2.2.2.2.2.2.2.2.2.1 z.2.2.2.2.2.2.2.2.2.2.2.1 z.2.2.2.2.2.2.2.2.2.2.2.2.1 z.2.2.2.2.2.2.2.2.2.2.2.2.2.1 z.2.2.2.2.2.2.2.2.2.2.2.2.2.2.1 z.2.2.2.2.2.2.2.2.2.2.2.2.2.2.2.1 z.2.2.2.2.2.2.2.2.2.2.2.2.2.2.2.2.1 z.2.2.2.2.2.2.2.2.2.2.2.2.2.2.2.2.2.1 z.2.2.2.2.2.2.2.2.2.2.2.2.2.2.2.2.2.2 = _
 rw [foliotlaw16_ClockScript.l0]
 kernel_rfl⟩
theorem foliotlaw16_ClockScript.q (k : Nat) (y : Int × Int × Int × Int × (List S56)) : foliotlaw16_ClockScript.p k y = foliotlaw16_ClockScript.F.run foliotlaw16_ClockScript.E Try.f6.results.toList (bodyOf Try.f6) foliotlaw16_ClockScript.cs k y := by kernel_rfl
theorem foliotlaw16_ClockScript.ok (k : Nat) : CsemOk R Try.prog 6 (foliotlaw16_ClockScript.F.sem (foliotlaw16_ClockScript.p k)) := fn_ok (F := foliotlaw16_ClockScript.F) (f := foliotlaw16_ClockScript.p) (E := foliotlaw16_ClockScript.E) foliotlaw16_ClockScript.hE (fun _ => rfl) Try.func6 (body := (bodyOf Try.f6)) rfl (by kernel_rfl) rfl (by decide) (by kernel_rfl) (cuts := foliotlaw16_ClockScript.cs) (all_cons foliotlaw16_ClockScript.ol0 all_nil) foliotlaw16_ClockScript.q k
end Go.Proofs.Ytfanbadkclelhaa.V
