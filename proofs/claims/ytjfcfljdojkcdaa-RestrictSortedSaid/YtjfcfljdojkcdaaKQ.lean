/- The contracts of the functions. -/
import Derived.Test.YtjfcfljdojkcdaaDQ
import Derived.Test.YtjfcfljdojkcdaaEvPg
import Derived.Test.YtjfcfljdojkcdaaProg
import Derived.Laws.Externs
import Derived.Lib.BitFns
import Derived.Lib.Strings
import Derived.Lib.Slices
import Derived.Lib.Small
import Derived.Lib.Walk
namespace Go.Proofs.Ytjfcfljdojkcdaa.Q
open Go Go.RowKit Go.Proofs.Ytjfcfljdojkcdaa.Ev
noncomputable section
set_option linter.unusedVariables false
set_option maxRecDepth 100000
def D : Nat → Type
 | 0 => S145
 | 1 => Int
 | 2 => S75
 | 3 => S78
 | 4 => Int
 | 5 => S26
 | 6 => Int
 | _ => Unit
def enc : (c : Nat) → D c → List (Lf D)
 | 0 => fun x => [.v (.int .i64 x.f0), .ro 1 x.f1]
 | 1 => fun x => [.v (.int .u8 x)]
 | 2 => fun x => [.v (.int .i64 x.f0), .v (.int .i64 x.f1), .v (.int .i64 x.f2), .v (.int .i64 x.f3), .ro 3 x.f4]
 | 3 => fun x => [.v (.int .u32 x.f0), .v (.int .i64 x.f1), .v (.int .i64 x.f2), .v (.int .i64 x.f3), .v (.int .i64 x.f4), .v (.int .i64 x.f5)]
 | 4 => fun x => [.v (.int .u32 x)]
 | 5 => fun x => [.v (.int .u32 x.f0), .v (.int .i64 x.f1), .v (.int .i64 x.f2)]
 | 6 => fun x => [.v (.int .i64 x)]
 | _ + 7 => fun _ => []
def z : (c : Nat) → D c
 | 0 => (z_S145 : S145)
 | 1 => (0 : Int)
 | 2 => (z_S75 : S75)
 | 3 => (z_S78 : S78)
 | 4 => (0 : Int)
 | 5 => (z_S26 : S26)
 | 6 => (0 : Int)
 | _ + 7 => ()
def sz : Nat → Nat
 | 0 => 2
 | 1 => 1
 | 2 => 5
 | 3 => 6
 | 4 => 1
 | 5 => 3
 | 6 => 1
 | _ + 7 => 0
theorem len_ : ∀ (c : Nat) (x : D c), (enc c x).length = sz c
 | 0, x => by rfl
 | 1, x => by rfl
 | 2, x => by rfl
 | 3, x => by rfl
 | 4, x => by rfl
 | 5, x => by rfl
 | 6, x => by rfl
 | _ + 7, x => by rfl
theorem free_ : ∀ (c : Nat) (x : D c), (enc c x).all lfFree = true
 | 0, x => by rfl
 | 1, x => by rfl
 | 2, x => by rfl
 | 3, x => by rfl
 | 4, x => by rfl
 | 5, x => by rfl
 | 6, x => by rfl
 | _ + 7, x => by rfl
def R : Ro := ⟨D, enc, fun _ _ => none, z, sz, len_, free_⟩
def codes : TypeId → Option (RoT R) := codeOf [(145, ⟨0, ((.cons (dInt .i64) (.last (dRo 1) .nil)) : DL R (Int × (List Int))).to (fun y => (⟨y.1, y.2⟩ : S145)) (fun x => (x.f0, x.f1)) (fun _ => rfl), fun _ => rfl⟩),
 (5, ⟨1, ((.last (dInt .u8) .nil) : DL R (Int)), fun _ => rfl⟩),
 (75, ⟨2, ((.cons (dInt .i64) (.cons (dInt .i64) (.cons (dInt .i64) (.cons (dInt .i64) (.last (dRo 3) .nil))))) : DL R (Int × Int × Int × Int × (List S78))).to (fun y => (⟨y.1, y.2.1, y.2.2.1, y.2.2.2.1, y.2.2.2.2⟩ : S75)) (fun x => (x.f0, x.f1, x.f2, x.f3, x.f4)) (fun _ => rfl), fun _ => rfl⟩),
 (78, ⟨3, ((.cons (dInt .u32) (.cons (dInt .i64) (.cons (dInt .i64) (.cons (dInt .i64) (.cons (dInt .i64) (.last (dInt .i64) .nil)))))) : DL R (Int × Int × Int × Int × Int × Int)).to (fun y => (⟨y.1, y.2.1, y.2.2.1, y.2.2.2.1, y.2.2.2.2.1, y.2.2.2.2.2⟩ : S78)) (fun x => (x.f0, x.f1, x.f2, x.f3, x.f4, x.f5)) (fun _ => rfl), fun _ => rfl⟩),
 (24, ⟨4, ((.last (dInt .u32) .nil) : DL R (Int)), fun _ => rfl⟩),
 (26, ⟨5, ((.cons (dInt .u32) (.cons (dInt .i64) (.last (dInt .i64) .nil))) : DL R (Int × Int × Int)).to (fun y => (⟨y.1, y.2.1, y.2.2⟩ : S26)) (fun x => (x.f0, x.f1, x.f2)) (fun _ => rfl), fun _ => rfl⟩),
 (3, ⟨6, ((.last (dInt .i64) .nil) : DL R (Int)), fun _ => rfl⟩)]
def rts : Nat → Option (RoT R) := codeOf [(0, ⟨0, ((.cons (dInt .i64) (.last (dRo 1) .nil)) : DL R (Int × (List Int))).to (fun y => (⟨y.1, y.2⟩ : S145)) (fun x => (x.f0, x.f1)) (fun _ => rfl), fun _ => rfl⟩),
 (1, ⟨1, ((.last (dInt .u8) .nil) : DL R (Int)), fun _ => rfl⟩),
 (2, ⟨2, ((.cons (dInt .i64) (.cons (dInt .i64) (.cons (dInt .i64) (.cons (dInt .i64) (.last (dRo 3) .nil))))) : DL R (Int × Int × Int × Int × (List S78))).to (fun y => (⟨y.1, y.2.1, y.2.2.1, y.2.2.2.1, y.2.2.2.2⟩ : S75)) (fun x => (x.f0, x.f1, x.f2, x.f3, x.f4)) (fun _ => rfl), fun _ => rfl⟩),
 (3, ⟨3, ((.cons (dInt .u32) (.cons (dInt .i64) (.cons (dInt .i64) (.cons (dInt .i64) (.cons (dInt .i64) (.last (dInt .i64) .nil)))))) : DL R (Int × Int × Int × Int × Int × Int)).to (fun y => (⟨y.1, y.2.1, y.2.2.1, y.2.2.2.1, y.2.2.2.2.1, y.2.2.2.2.2⟩ : S78)) (fun x => (x.f0, x.f1, x.f2, x.f3, x.f4, x.f5)) (fun _ => rfl), fun _ => rfl⟩),
 (4, ⟨4, ((.last (dInt .u32) .nil) : DL R (Int)), fun _ => rfl⟩),
 (5, ⟨5, ((.cons (dInt .u32) (.cons (dInt .i64) (.last (dInt .i64) .nil))) : DL R (Int × Int × Int)).to (fun y => (⟨y.1, y.2.1, y.2.2⟩ : S26)) (fun x => (x.f0, x.f1, x.f2)) (fun _ => rfl), fun _ => rfl⟩),
 (6, ⟨6, ((.last (dInt .i64) .nil) : DL R (Int)), fun _ => rfl⟩)]
def owns : TypeId → List (Nat × Nat × TypeId × Nat) := ownOf [(75, [(4, 3, 78, 0)])]
def tabL : List (Nat × TI) := [(3, ⟨1, 13, [(.int .i64 0)], [], 0, false, 0, 0, 8⟩),
 (4, ⟨1, 4, [(.bool false)], [], 0, false, 0, 0, 1⟩),
 (5, ⟨1, 14, [(.int .u8 0)], [], 0, false, 0, 0, 1⟩),
 (9, ⟨1, 6, [(.string ⟨#[]⟩)], [], 0, false, 0, 0, 16⟩),
 (22, ⟨1, 3, [(.slice none 0 0)], [], 3, true, 0, 26, 24⟩),
 (23, ⟨1, 3, [(.slice none 0 0)], [], 1, false, 0, 3, 24⟩),
 (24, ⟨1, 16, [(.int .u32 0)], [], 0, false, 0, 0, 4⟩),
 (26, ⟨3, 1, [(.int .u32 0), (.int .i64 0), (.int .i64 0)], [(0, 1, false), (1, 1, false), (2, 1, false)], 0, false, 0, 0, 24⟩),
 (31, ⟨1, 5, [(.pointer none)], [], 0, false, 0, 0, 8⟩),
 (32, ⟨1, 13, [(.int .i64 0)], [], 0, false, 0, 0, 8⟩),
 (40, ⟨1, 13, [(.int .i64 0)], [], 0, false, 0, 0, 8⟩),
 (41, ⟨1, 17, [(.int .u64 0)], [], 0, false, 0, 0, 8⟩),
 (42, ⟨1, 17, [(.int .u64 0)], [], 0, false, 0, 0, 8⟩),
 (43, ⟨1, 3, [(.slice none 0 0)], [], 2, true, 0, 145, 24⟩),
 (44, ⟨1, 3, [(.slice none 0 0)], [], 1, false, 0, 5, 24⟩),
 (46, ⟨17, 1, [(.int .i64 0), (.int .i64 0), (.int .i64 0), (.int .i64 0), (.int .i64 0), (.int .i64 0), (.int .i64 0), (.int .i64 0), (.int .u32 0), (.int .u64 0), (.int .u64 0), (.int .u64 0), (.int .u64 0), (.slice none 0 0), (.int .i64 0), (.bool false), (.slice none 0 0)], [(0, 1, false), (1, 1, false), (2, 1, false), (3, 1, false), (4, 1, false), (5, 1, false), (6, 1, false), (7, 1, false), (8, 1, false), (9, 1, false), (10, 1, false), (11, 1, false), (12, 1, false), (13, 1, false), (14, 1, false), (15, 1, false), (16, 1, false)], 0, false, 0, 0, 168⟩),
 (58, ⟨1, 3, [(.slice none 0 0)], [], 1, false, 0, 24, 24⟩),
 (65, ⟨5, 1, [(.int .u32 0), (.int .i64 0), (.int .i64 0), (.int .i64 0), (.int .i64 0)], [(0, 1, false), (1, 1, false), (2, 1, false), (3, 1, false), (4, 1, false)], 0, false, 0, 0, 40⟩),
 (73, ⟨1, 3, [(.slice none 0 0)], [], 6, true, 0, 78, 24⟩),
 (75, ⟨5, 1, [(.int .i64 0), (.int .i64 0), (.int .i64 0), (.int .i64 0), (.slice none 0 0)], [(0, 1, false), (1, 1, false), (2, 1, false), (3, 1, false), (4, 1, false)], 0, false, 0, 0, 56⟩),
 (78, ⟨6, 1, [(.int .u32 0), (.int .i64 0), (.int .i64 0), (.int .i64 0), (.int .i64 0), (.int .i64 0)], [(0, 5, true), (5, 1, false)], 0, false, 0, 0, 48⟩),
 (82, ⟨1, 17, [(.int .u64 0)], [], 0, false, 0, 0, 8⟩)]
theorem tabs : TabOk Try.prog (tabOf tabL) := tabOf_ok _ _ (by kernel_rfl)
def flats : Nat → Bool
 | 0 => false
 | 1 => true
 | 2 => false
 | 3 => true
 | 4 => true
 | 5 => true
 | 6 => true
 | _ + 7 => false
theorem flats_ : ∀ (c : Nat), flats c = true → ∀ x, (R.enc c x).all noRo = true
 | 0, h, x => by cases h
 | 1, _, x => by rfl
 | 2, h, x => by cases h
 | 3, _, x => by rfl
 | 4, _, x => by rfl
 | 5, _, x => by rfl
 | 6, _, x => by rfl
 | _ + 7, h, x => by cases h
def eqs : List (Nat × List Nat) := [(26, [0, 0, 0]), (65, [0, 0, 0, 0, 0])]
theorem eqs_ : EqOk Try.prog (eqtOf eqs) := eqtOf_ok _ (by kernel_rfl)
def mps : List (Nat × MpT) := []
theorem mps_ : MpOk Try.prog (mpsOf mps) := mpsOf_ok _ (by kernel_rfl)
def byt_ : Option (ByT R) := none
theorem mixed : Try.prog.follows .mixedOrders = true := by kernel_rfl
def restrict_New.F : FnG R (Int × Int) ((Int) ⊕ (Int × Int × Int × Int × Int × (List S78))) := ⟨[.lf, .lf], [], (.cons (dInt .i64) (.last (dInt .i64) .nil)), (.alt (.one (.tup [none, none]) [] ((.nilp (.last (dInt .i64) .nil)))) (.one (.tup [none, none]) [.blk 5 75, .row 3 78] ((.ptr 0 0 (.cons (dInt .i64) (.cons (dInt .i64) (.cons (dInt .i64) (.cons (dInt .i64) (.cons (dInt .i64) (.row 3 1 (.last (dRo 3) .nil)))))))))))⟩
def restrict_New.p (k : Nat) (y : Int × Int) : Option ((Int) ⊕ (Int × Int × Int × Int × Int × (List S78))) := restrict_New.f y.1 y.2
def restrict_New.E (k : Nat) : Env R := ⟨tabOf tabL, ctOf [], mtNone, fun _ => false, codes, rts, 25, fun _ => [], owns, [], eqtOf eqs, fun _ => false, flats, mpsOf mps, byt_⟩
def restrict_New.cs : List (CutS R ((Int) ⊕ (Int × Int × Int × Int × Int × (List S78)))) := []
theorem restrict_New.hE (k : Nat) : EnvOk Try.prog (restrict_New.E k) := ⟨tabs, ctOf_ok all_nil, mtNone_ok, mixed, eqs_, flats_, mps_⟩
theorem restrict_New.q (k : Nat) (y : Int × Int) : restrict_New.p k y = restrict_New.F.run restrict_New.E Try.f13.results.toList (bodyOf Try.f13) restrict_New.cs k y := by kernel_rfl
theorem restrict_New.ok (k : Nat) : CsemOk R Try.prog 13 (restrict_New.F.sem (restrict_New.p k)) := fnG_ok (F := restrict_New.F) (f := restrict_New.p) (E := restrict_New.E) restrict_New.hE (fun _ => rfl) Try.func13 (body := (bodyOf Try.f13)) rfl (by kernel_rfl) rfl (by decide) (by kernel_rfl) (cuts := restrict_New.cs) all_nil restrict_New.q k
def restrict_Memory_Heard_1.F : FnS R (Int × Int × Int × Int × Int × Int × Int) (Bool) := ⟨[.agg 6, .lf], [], (.cons (dInt .u32) (.cons (dInt .i64) (.cons (dInt .i64) (.cons (dInt .i64) (.cons (dInt .i64) (.cons (dInt .i64) (.last (dEpt 4 0) .nil))))))), .lf, [], (.last dBool .nil)⟩
def restrict_Memory_Heard_1.p (k : Nat) (y : Int × Int × Int × Int × Int × Int × Int) : Option (Bool) := restrict_Memory_Heard_1.f y.1 y.2.1 y.2.2.1 y.2.2.2.1 y.2.2.2.2.1 y.2.2.2.2.2.1 y.2.2.2.2.2.2
def restrict_Memory_Heard_1.E (k : Nat) : Env R := ⟨tabOf tabL, ctOf [], mtNone, fun _ => false, codes, rts, 9, fun _ => [], owns, [], eqtOf eqs, fun _ => false, flats, mpsOf mps, byt_⟩
def restrict_Memory_Heard_1.cs : List (CutS R (Bool)) := []
theorem restrict_Memory_Heard_1.hE (k : Nat) : EnvOk Try.prog (restrict_Memory_Heard_1.E k) := ⟨tabs, ctOf_ok all_nil, mtNone_ok, mixed, eqs_, flats_, mps_⟩
theorem restrict_Memory_Heard_1.q (k : Nat) (y : Int × Int × Int × Int × Int × Int × Int) : restrict_Memory_Heard_1.p k y = restrict_Memory_Heard_1.F.run restrict_Memory_Heard_1.E Try.f35.results.toList (bodyOf Try.f35) restrict_Memory_Heard_1.cs k y := by kernel_rfl
theorem restrict_Memory_Heard_1.ok (k : Nat) : CsemOk R Try.prog 35 (restrict_Memory_Heard_1.F.sem (restrict_Memory_Heard_1.p k)) := fn_ok (F := restrict_Memory_Heard_1.F) (f := restrict_Memory_Heard_1.p) (E := restrict_Memory_Heard_1.E) restrict_Memory_Heard_1.hE (fun _ => rfl) Try.func35 (body := (bodyOf Try.f35)) rfl (by kernel_rfl) rfl (by decide) (by kernel_rfl) (cuts := restrict_Memory_Heard_1.cs) all_nil restrict_Memory_Heard_1.q k
def slices_IndexFunc_restrict_known_restrict_known.F : FnS R ((List S78) × Int) (Int × (List S78) × Int) := ⟨[.lf, .lf], [.row 3 78, .blk 1 24], (.row 3 0 (.fnc 35 [(1, 0)] (.cons (dRo 3) (.last (dInt .u32) .nil)))), .lf, [.row 3 78, .blk 1 24], (.cons (dInt .i64) (.cons (dRo 3) (.last (dInt .u32) .nil)))⟩
def slices_IndexFunc_restrict_known_restrict_known.p (k : Nat) (y : (List S78) × Int) : Option (Int × (List S78) × Int) := slices_IndexFunc_restrict_known_restrict_known.f k y.1 y.2
def slices_IndexFunc_restrict_known_restrict_known.E (k : Nat) : Env R := ⟨tabOf tabL, ctOf [(35, (restrict_Memory_Heard_1.F.sem (restrict_Memory_Heard_1.p k)))], mtNone, fun f => memB f [35], codes, rts, 19, fun _ => [], owns, [], eqtOf eqs, fun _ => false, flats, mpsOf mps, byt_⟩
def slices_IndexFunc_restrict_known_restrict_known.cl0 : CutS R (Int × (List S78) × Int) := ⟨4, [0, 1, 7, 8], [], [.lf, .lf, .lf, .lf], [.row 3 78, .blk 1 24], Int × Int × (List S78) × Int, (.row 3 0 (.fnc 35 [(1, 0)] (.cons (dInt .i64) (.cons (dInt .i64) (.cons (dRo 3) (.last (dInt .u32) .nil)))))), fun k z => slices_IndexFunc_restrict_known_restrict_known.l0 k z.1 z.2.1 z.2.2.1 z.2.2.2⟩
def slices_IndexFunc_restrict_known_restrict_known.cs : List (CutS R (Int × (List S78) × Int)) := [slices_IndexFunc_restrict_known_restrict_known.cl0]
theorem slices_IndexFunc_restrict_known_restrict_known.hE (k : Nat) : EnvOk Try.prog (slices_IndexFunc_restrict_known_restrict_known.E k) := ⟨tabs, ctOf_ok (all_cons (restrict_Memory_Heard_1.ok k) all_nil), mtNone_ok, mixed, eqs_, flats_, mps_⟩
theorem slices_IndexFunc_restrict_known_restrict_known.ol0 : (slices_IndexFunc_restrict_known_restrict_known.cl0).Ok slices_IndexFunc_restrict_known_restrict_known.E Try.f34.results.toList 2 (bodyOf Try.f34) slices_IndexFunc_restrict_known_restrict_known.cs slices_IndexFunc_restrict_known_restrict_known.F.ret := ⟨fun z => rfl, fun k z => by
 show slices_IndexFunc_restrict_known_restrict_known.l0 (k + 1) z.1 z.2.1 z.2.2.1 z.2.2.2 = _
 rw [slices_IndexFunc_restrict_known_restrict_known.l0]
 kernel_rfl⟩
theorem slices_IndexFunc_restrict_known_restrict_known.q (k : Nat) (y : (List S78) × Int) : slices_IndexFunc_restrict_known_restrict_known.p k y = slices_IndexFunc_restrict_known_restrict_known.F.run slices_IndexFunc_restrict_known_restrict_known.E Try.f34.results.toList (bodyOf Try.f34) slices_IndexFunc_restrict_known_restrict_known.cs k y := by kernel_rfl
theorem slices_IndexFunc_restrict_known_restrict_known.ok (k : Nat) : CsemOk R Try.prog 34 (slices_IndexFunc_restrict_known_restrict_known.F.sem (slices_IndexFunc_restrict_known_restrict_known.p k)) := fn_ok (F := slices_IndexFunc_restrict_known_restrict_known.F) (f := slices_IndexFunc_restrict_known_restrict_known.p) (E := slices_IndexFunc_restrict_known_restrict_known.E) slices_IndexFunc_restrict_known_restrict_known.hE (fun _ => rfl) Try.func34 (body := (bodyOf Try.f34)) rfl (by kernel_rfl) rfl (by decide) (by kernel_rfl) (cuts := slices_IndexFunc_restrict_known_restrict_known.cs) (all_cons slices_IndexFunc_restrict_known_restrict_known.ol0 all_nil) slices_IndexFunc_restrict_known_restrict_known.q k
def restrict_Memory_place.F : FnS R (Int × Int × Int × Int × Int × Int × Int × Int × Int × Int × (List S78)) (Int × Int × Int × Int × (List S78)) := ⟨[.lf, .agg 6], [.blk 5 75, .row 3 78], (.ptr 0 0 (.cons (dInt .u32) (.cons (dInt .i64) (.cons (dInt .i64) (.cons (dInt .i64) (.cons (dInt .i64) (.cons (dInt .i64) (.cons (dInt .i64) (.cons (dInt .i64) (.cons (dInt .i64) (.cons (dInt .i64) (.row 3 1 (.last (dRo 3) .nil))))))))))))), .tup [], [.blk 5 75, .dead, .row 3 78], (.cons (dInt .i64) (.cons (dInt .i64) (.cons (dInt .i64) (.cons (dInt .i64) (.row 3 2 (.last (dRo 3) .nil))))))⟩
def restrict_Memory_place.p (k : Nat) (y : Int × Int × Int × Int × Int × Int × Int × Int × Int × Int × (List S78)) : Option (Int × Int × Int × Int × (List S78)) := restrict_Memory_place.f k y.1 y.2.1 y.2.2.1 y.2.2.2.1 y.2.2.2.2.1 y.2.2.2.2.2.1 y.2.2.2.2.2.2.1 y.2.2.2.2.2.2.2.1 y.2.2.2.2.2.2.2.2.1 y.2.2.2.2.2.2.2.2.2.1 y.2.2.2.2.2.2.2.2.2.2
def restrict_Memory_place.E (k : Nat) : Env R := ⟨tabOf tabL, ctOf [], mtNone, fun _ => false, codes, rts, 56, fun i => ordOf [(2, [(0, 0), (1, 0), (2, 0), (3, 0), (4, 0), (5, 0), (6, 1), (7, 2), (8, 0), (9, 0), (10, 2)]), (7, [(0, 0), (1, 0), (2, 0), (3, 0), (4, 0), (5, 0), (6, 0), (7, 0), (8, 0), (9, 0), (10, 0), (11, 0), (12, 0), (13, 0), (14, 0), (15, 0), (16, 0)]), (10, [(0, 0), (1, 0), (2, 0), (3, 0), (4, 0), (5, 0), (6, 0), (7, 2)])] i, (ownQ owns 2), [], eqtOf eqs, fun _ => false, flats, mpsOf mps, byt_⟩
def restrict_Memory_place.cl0 : CutS R (Int × Int × Int × Int × (List S78)) := ⟨10, [0, 3, 4, 26, 27], [], [.lf, .lf, .lf, .lf, .lf], [.blk 5 75, .dead, .blk 6 78, .row 3 78], Int × Int × Int × Int × Int × Int × Int × Int × Int × Int × Int × Int × Int × (List S78), (.ptr 0 0 (.ptr 2 0 (.cons (dInt .i64) (.cons (dInt .i64) (.cons (dInt .i64) (.cons (dInt .i64) (.cons (dInt .i64) (.cons (dInt .i64) (.cons (dInt .i64) (.row 3 3 (.cons (dInt .u32) (.cons (dInt .i64) (.cons (dInt .i64) (.cons (dInt .i64) (.cons (dInt .i64) (.cons (dInt .i64) (.last (dRo 3) .nil))))))))))))))))), fun k z => restrict_Memory_place.l0 k z.1 z.2.1 z.2.2.1 z.2.2.2.1 z.2.2.2.2.1 z.2.2.2.2.2.1 z.2.2.2.2.2.2.1 z.2.2.2.2.2.2.2.1 z.2.2.2.2.2.2.2.2.1 z.2.2.2.2.2.2.2.2.2.1 z.2.2.2.2.2.2.2.2.2.2.1 z.2.2.2.2.2.2.2.2.2.2.2.1 z.2.2.2.2.2.2.2.2.2.2.2.2.1 z.2.2.2.2.2.2.2.2.2.2.2.2.2⟩
def restrict_Memory_place.cs : List (CutS R (Int × Int × Int × Int × (List S78))) := [restrict_Memory_place.cl0]
theorem restrict_Memory_place.hE (k : Nat) : EnvOk Try.prog (restrict_Memory_place.E k) := ⟨tabs, ctOf_ok all_nil, mtNone_ok, mixed, eqs_, flats_, mps_⟩
theorem restrict_Memory_place.ol0 : (restrict_Memory_place.cl0).Ok restrict_Memory_place.E Try.f36.results.toList 2 (bodyOf Try.f36) restrict_Memory_place.cs restrict_Memory_place.F.ret := ⟨fun z => rfl, fun k z => by
 show restrict_Memory_place.l0 (k + 1) z.1 z.2.1 z.2.2.1 z.2.2.2.1 z.2.2.2.2.1 z.2.2.2.2.2.1 z.2.2.2.2.2.2.1 z.2.2.2.2.2.2.2.1 z.2.2.2.2.2.2.2.2.1 z.2.2.2.2.2.2.2.2.2.1 z.2.2.2.2.2.2.2.2.2.2.1 z.2.2.2.2.2.2.2.2.2.2.2.1 z.2.2.2.2.2.2.2.2.2.2.2.2.1 z.2.2.2.2.2.2.2.2.2.2.2.2.2 = _
 rw [restrict_Memory_place.l0]
 kernel_rfl⟩
theorem restrict_Memory_place.q (k : Nat) (y : Int × Int × Int × Int × Int × Int × Int × Int × Int × Int × (List S78)) : restrict_Memory_place.p k y = restrict_Memory_place.F.run restrict_Memory_place.E Try.f36.results.toList (bodyOf Try.f36) restrict_Memory_place.cs k y := by kernel_rfl
theorem restrict_Memory_place.ok (k : Nat) : CsemOk R Try.prog 36 (restrict_Memory_place.F.sem (restrict_Memory_place.p k)) := fn_ok (F := restrict_Memory_place.F) (f := restrict_Memory_place.p) (E := restrict_Memory_place.E) restrict_Memory_place.hE (fun _ => rfl) Try.func36 (body := (bodyOf Try.f36)) rfl (by kernel_rfl) rfl (by decide) (by kernel_rfl) (cuts := restrict_Memory_place.cs) (all_cons restrict_Memory_place.ol0 all_nil) restrict_Memory_place.q k
def restrict_Memory_Heard.F : FnS R (Int × Int × Int × Int × Int × Int × Int × (List S78)) (Int × Int × Int × Int × Int × (List S78)) := ⟨[.lf, .lf, .lf, .lf], [.blk 5 75, .row 3 78], (.ptr 0 0 (.cons (dInt .u32) (.cons (dInt .i64) (.cons (dInt .i64) (.cons (dInt .i64) (.cons (dInt .i64) (.cons (dInt .i64) (.cons (dInt .i64) (.row 3 1 (.last (dRo 3) .nil)))))))))), .lf, [.blk 5 75, .dead, .row 3 78], (.cons (dInt .i64) (.cons (dInt .i64) (.cons (dInt .i64) (.cons (dInt .i64) (.cons (dInt .i64) (.row 3 2 (.last (dRo 3) .nil)))))))⟩
def restrict_Memory_Heard.p (k : Nat) (y : Int × Int × Int × Int × Int × Int × Int × (List S78)) : Option (Int × Int × Int × Int × Int × (List S78)) := restrict_Memory_Heard.f k y.1 y.2.1 y.2.2.1 y.2.2.2.1 y.2.2.2.2.1 y.2.2.2.2.2.1 y.2.2.2.2.2.2.1 y.2.2.2.2.2.2.2
def restrict_Memory_Heard.E (k : Nat) : Env R := ⟨tabOf tabL, ctOf [(34, (slices_IndexFunc_restrict_known_restrict_known.F.sem (slices_IndexFunc_restrict_known_restrict_known.p k))), (36, (restrict_Memory_place.F.sem (restrict_Memory_place.p k)))], mtNone, fun _ => false, codes, rts, 194, fun i => ordOf [(6, [(0, 0), (1, 0), (2, 0), (3, 0), (4, 0), (5, 0), (6, 0), (7, 0), (8, 0), (9, 0), (10, 0), (11, 0), (12, 0), (13, 0), (14, 0), (15, 0), (16, 0), (17, 0), (18, 0), (19, 0), (20, 2)]), (9, [(0, 0), (1, 0), (2, 0), (3, 0), (4, 0), (5, 0), (6, 0), (7, 0), (8, 0), (9, 0), (10, 0), (11, 0), (12, 0)]), (11, [(0, 0), (1, 0), (2, 0), (3, 0), (4, 0), (5, 0), (6, 0), (7, 0), (8, 0), (9, 0), (10, 0), (11, 0), (12, 0), (13, 2), (14, 0), (15, 0), (16, 2)]), (13, [(0, 0), (1, 0), (2, 0), (3, 0), (4, 0), (5, 0), (6, 0), (7, 0), (8, 0), (9, 0), (10, 0), (11, 0), (12, 0), (13, 0), (14, 0), (15, 0), (16, 0)]), (15, [(0, 0), (1, 0), (2, 0), (3, 0), (4, 0), (5, 0), (6, 0), (7, 0), (8, 0), (9, 0), (10, 0), (11, 0), (12, 0), (13, 0), (14, 0), (15, 0), (16, 0), (17, 0), (18, 0), (19, 0), (20, 2)]), (23, [(0, 0), (1, 0), (2, 0), (3, 0), (4, 0), (5, 0), (6, 0), (7, 0), (8, 0), (9, 0), (10, 0), (11, 0), (12, 0), (13, 2)])] i, (ownQ owns 2), [], eqtOf eqs, fun _ => false, flats, mpsOf mps, byt_⟩
def restrict_Memory_Heard.cj0 : CutS R (Int × Int × Int × Int × Int × (List S78)) := ⟨6, [0, 3, 5], [], [.lf, .lf, .lf], [.blk 5 75, .dead, .blk 1 24, .row 3 78], Int × Int × Int × Int × Int × Int × (List S78), (.ptr 0 0 (.cons (dInt .i64) (.ptr 2 0 (.cons (dInt .i64) (.cons (dInt .i64) (.cons (dInt .i64) (.cons (dInt .i64) (.row 3 3 (.cons (dInt .u32) (.last (dRo 3) .nil)))))))))), fun k z => restrict_Memory_Heard.j0 k z.1 z.2.1 z.2.2.1 z.2.2.2.1 z.2.2.2.2.1 z.2.2.2.2.2.1 z.2.2.2.2.2.2⟩
def restrict_Memory_Heard.cs : List (CutS R (Int × Int × Int × Int × Int × (List S78))) := [restrict_Memory_Heard.cj0]
theorem restrict_Memory_Heard.hE (k : Nat) : EnvOk Try.prog (restrict_Memory_Heard.E k) := ⟨tabs, ctOf_ok (all_cons (slices_IndexFunc_restrict_known_restrict_known.ok k) (all_cons (restrict_Memory_place.ok k) all_nil)), mtNone_ok, mixed, eqs_, flats_, mps_⟩
theorem restrict_Memory_Heard.oj0 : (restrict_Memory_Heard.cj0).Ok restrict_Memory_Heard.E Try.f14.results.toList 2 (bodyOf Try.f14) restrict_Memory_Heard.cs restrict_Memory_Heard.F.ret := ⟨fun z => rfl, fun k z => by
 show restrict_Memory_Heard.j0 (k + 1) z.1 z.2.1 z.2.2.1 z.2.2.2.1 z.2.2.2.2.1 z.2.2.2.2.2.1 z.2.2.2.2.2.2 = _
 rw [restrict_Memory_Heard.j0]
 kernel_rfl⟩
theorem restrict_Memory_Heard.q (k : Nat) (y : Int × Int × Int × Int × Int × Int × Int × (List S78)) : restrict_Memory_Heard.p k y = restrict_Memory_Heard.F.run restrict_Memory_Heard.E Try.f14.results.toList (bodyOf Try.f14) restrict_Memory_Heard.cs k y := by kernel_rfl
theorem restrict_Memory_Heard.ok (k : Nat) : CsemOk R Try.prog 14 (restrict_Memory_Heard.F.sem (restrict_Memory_Heard.p k)) := fn_ok (F := restrict_Memory_Heard.F) (f := restrict_Memory_Heard.p) (E := restrict_Memory_Heard.E) restrict_Memory_Heard.hE (fun _ => rfl) Try.func14 (body := (bodyOf Try.f14)) rfl (by kernel_rfl) rfl (by decide) (by kernel_rfl) (cuts := restrict_Memory_Heard.cs) (all_cons restrict_Memory_Heard.oj0 all_nil) restrict_Memory_Heard.q k
def restrict_Memory_Find.F : FnS R (S75 × Int) (Int × Int × Int × Int × Int × Bool) := ⟨[.lf, .lf], [], (.cons (dEpt 2 0) (.last (dInt .u32) .nil)), .tup [some 5, none], [], (.cons (dInt .u32) (.cons (dInt .i64) (.cons (dInt .i64) (.cons (dInt .i64) (.cons (dInt .i64) (.last dBool .nil))))))⟩
def restrict_Memory_Find.p (k : Nat) (y : S75 × Int) : Option (Int × Int × Int × Int × Int × Bool) := restrict_Memory_Find.f k y.1 y.2
def restrict_Memory_Find.E (k : Nat) : Env R := ⟨tabOf tabL, ctOf [], mtNone, fun _ => false, codes, rts, 26, fun _ => [], owns, [], eqtOf eqs, fun _ => false, flats, mpsOf mps, byt_⟩
def restrict_Memory_Find.cl0 : CutS R (Int × Int × Int × Int × Int × Bool) := ⟨4, [1, 4, 11, 12, 13], [], [.lf, .lf, .lf, .lf, .lf], [.blk 5 65], Int × (List S78) × Int × Int × Int × Int × Int × Int × Int, (.cons (dInt .u32) (.ptr 0 0 (.cons (dRo 3) (.cons (dInt .i64) (.cons (dInt .i64) (.cons (dInt .u32) (.cons (dInt .i64) (.cons (dInt .i64) (.cons (dInt .i64) (.last (dInt .i64) .nil)))))))))), fun k z => restrict_Memory_Find.l0 k z.1 z.2.1 z.2.2.1 z.2.2.2.1 z.2.2.2.2.1 z.2.2.2.2.2.1 z.2.2.2.2.2.2.1 z.2.2.2.2.2.2.2.1 z.2.2.2.2.2.2.2.2⟩
def restrict_Memory_Find.cs : List (CutS R (Int × Int × Int × Int × Int × Bool)) := [restrict_Memory_Find.cl0]
theorem restrict_Memory_Find.hE (k : Nat) : EnvOk Try.prog (restrict_Memory_Find.E k) := ⟨tabs, ctOf_ok all_nil, mtNone_ok, mixed, eqs_, flats_, mps_⟩
theorem restrict_Memory_Find.ol0 : (restrict_Memory_Find.cl0).Ok restrict_Memory_Find.E Try.f30.results.toList 0 (bodyOf Try.f30) restrict_Memory_Find.cs restrict_Memory_Find.F.ret := ⟨fun z => rfl, fun k z => by
 show restrict_Memory_Find.l0 (k + 1) z.1 z.2.1 z.2.2.1 z.2.2.2.1 z.2.2.2.2.1 z.2.2.2.2.2.1 z.2.2.2.2.2.2.1 z.2.2.2.2.2.2.2.1 z.2.2.2.2.2.2.2.2 = _
 rw [restrict_Memory_Find.l0]
 kernel_rfl⟩
theorem restrict_Memory_Find.q (k : Nat) (y : S75 × Int) : restrict_Memory_Find.p k y = restrict_Memory_Find.F.run restrict_Memory_Find.E Try.f30.results.toList (bodyOf Try.f30) restrict_Memory_Find.cs k y := by kernel_rfl
theorem restrict_Memory_Find.ok (k : Nat) : CsemOk R Try.prog 30 (restrict_Memory_Find.F.sem (restrict_Memory_Find.p k)) := fn_ok (F := restrict_Memory_Find.F) (f := restrict_Memory_Find.p) (E := restrict_Memory_Find.E) restrict_Memory_Find.hE (fun _ => rfl) Try.func30 (body := (bodyOf Try.f30)) rfl (by kernel_rfl) rfl (by decide) (by kernel_rfl) (cuts := restrict_Memory_Find.cs) (all_cons restrict_Memory_Find.ol0 all_nil) restrict_Memory_Find.q k
def restrict_mask.F : FnS R (Int) (Int) := ⟨[.lf], [], (.last (dInt .i64) .nil), .lf, [], (.last (dInt .u32) .nil)⟩
def restrict_mask.p (k : Nat) (y : Int) : Option (Int) := restrict_mask.f y
def restrict_mask.E (k : Nat) : Env R := ⟨tabOf tabL, ctOf [], mtNone, fun _ => false, codes, rts, 6, fun _ => [], owns, [], eqtOf eqs, fun _ => false, flats, mpsOf mps, byt_⟩
def restrict_mask.cs : List (CutS R (Int)) := []
theorem restrict_mask.hE (k : Nat) : EnvOk Try.prog (restrict_mask.E k) := ⟨tabs, ctOf_ok all_nil, mtNone_ok, mixed, eqs_, flats_, mps_⟩
theorem restrict_mask.q (k : Nat) (y : Int) : restrict_mask.p k y = restrict_mask.F.run restrict_mask.E Try.f32.results.toList (bodyOf Try.f32) restrict_mask.cs k y := by kernel_rfl
theorem restrict_mask.ok (k : Nat) : CsemOk R Try.prog 32 (restrict_mask.F.sem (restrict_mask.p k)) := fn_ok (F := restrict_mask.F) (f := restrict_mask.p) (E := restrict_mask.E) restrict_mask.hE (fun _ => rfl) Try.func32 (body := (bodyOf Try.f32)) rfl (by kernel_rfl) rfl (by decide) (by kernel_rfl) (cuts := restrict_mask.cs) all_nil restrict_mask.q k
def restrict_Check.F : FnS R (Int × Int × Int) (Int) := ⟨[.agg 3], [], (.cons (dInt .u32) (.cons (dInt .i64) (.last (dInt .i64) .nil))), .lf, [], (.last (dInt .i64) .nil)⟩
def restrict_Check.p (k : Nat) (y : Int × Int × Int) : Option (Int) := restrict_Check.f y.1 y.2.1 y.2.2
def restrict_Check.E (k : Nat) : Env R := ⟨tabOf tabL, ctOf [(32, (restrict_mask.F.sem (restrict_mask.p k)))], mtNone, fun f => memB f [32], codes, rts, 23, fun i => ordOf [(5, [(0, 0), (1, 0), (2, 0), (3, 0), (4, 0), (5, 0), (6, 0), (7, 0)])] i, owns, [], eqtOf eqs, fun _ => false, flats, mpsOf mps, byt_⟩
def restrict_Check.cs : List (CutS R (Int)) := []
theorem restrict_Check.hE (k : Nat) : EnvOk Try.prog (restrict_Check.E k) := ⟨tabs, ctOf_ok (all_cons (restrict_mask.ok k) all_nil), mtNone_ok, mixed, eqs_, flats_, mps_⟩
theorem restrict_Check.q (k : Nat) (y : Int × Int × Int) : restrict_Check.p k y = restrict_Check.F.run restrict_Check.E Try.f22.results.toList (bodyOf Try.f22) restrict_Check.cs k y := by kernel_rfl
theorem restrict_Check.ok (k : Nat) : CsemOk R Try.prog 22 (restrict_Check.F.sem (restrict_Check.p k)) := fn_ok (F := restrict_Check.F) (f := restrict_Check.p) (E := restrict_Check.E) restrict_Check.hE (fun _ => rfl) Try.func22 (body := (bodyOf Try.f22)) rfl (by kernel_rfl) rfl (by decide) (by kernel_rfl) (cuts := restrict_Check.cs) all_nil restrict_Check.q k
def restrict_Match.F : FnS R ((List S26) × Int) (Int) := ⟨[.lf, .lf], [], (.cons (dRo 5) (.last (dInt .u32) .nil)), .lf, [], (.last (dInt .i64) .nil)⟩
def restrict_Match.p (k : Nat) (y : (List S26) × Int) : Option (Int) := restrict_Match.f k y.1 y.2
def restrict_Match.E (k : Nat) : Env R := ⟨tabOf tabL, ctOf [(22, (restrict_Check.F.sem (restrict_Check.p k))), (32, (restrict_mask.F.sem (restrict_mask.p k)))], mtNone, fun f => memB f [22, 32], codes, rts, 48, fun i => ordOf [(5, [(0, 0), (1, 0), (2, 0), (3, 0), (4, 0), (5, 0), (6, 0), (7, 0), (8, 0), (9, 0), (10, 0), (11, 0), (12, 0)]), (7, [(0, 0), (1, 0), (2, 0), (3, 0), (4, 0), (5, 0)])] i, owns, [], eqtOf eqs, fun _ => false, flats, mpsOf mps, byt_⟩
def restrict_Match.cl0 : CutS R (Int) := ⟨6, [1, 5, 6, 9, 10, 11], [], [.lf, .lf, .lf, .lf, .lf, .lf], [], Int × Int × Int × (List S26) × Int × Int, (.cons (dInt .u32) (.cons (dInt .i64) (.cons (dInt .i64) (.cons (dRo 5) (.cons (dInt .i64) (.last (dInt .i64) .nil)))))), fun k z => restrict_Match.l0 k z.1 z.2.1 z.2.2.1 z.2.2.2.1 z.2.2.2.2.1 z.2.2.2.2.2⟩
def restrict_Match.cs : List (CutS R (Int)) := [restrict_Match.cl0]
theorem restrict_Match.hE (k : Nat) : EnvOk Try.prog (restrict_Match.E k) := ⟨tabs, ctOf_ok (all_cons (restrict_Check.ok k) (all_cons (restrict_mask.ok k) all_nil)), mtNone_ok, mixed, eqs_, flats_, mps_⟩
theorem restrict_Match.ol0 : (restrict_Match.cl0).Ok restrict_Match.E Try.f10.results.toList 0 (bodyOf Try.f10) restrict_Match.cs restrict_Match.F.ret := ⟨fun z => rfl, fun k z => by
 show restrict_Match.l0 (k + 1) z.1 z.2.1 z.2.2.1 z.2.2.2.1 z.2.2.2.2.1 z.2.2.2.2.2 = _
 rw [restrict_Match.l0]
 kernel_rfl⟩
theorem restrict_Match.q (k : Nat) (y : (List S26) × Int) : restrict_Match.p k y = restrict_Match.F.run restrict_Match.E Try.f10.results.toList (bodyOf Try.f10) restrict_Match.cs k y := by kernel_rfl
theorem restrict_Match.ok (k : Nat) : CsemOk R Try.prog 10 (restrict_Match.F.sem (restrict_Match.p k)) := fn_ok (F := restrict_Match.F) (f := restrict_Match.p) (E := restrict_Match.E) restrict_Match.hE (fun _ => rfl) Try.func10 (body := (bodyOf Try.f10)) rfl (by kernel_rfl) rfl (by decide) (by kernel_rfl) (cuts := restrict_Match.cs) (all_cons restrict_Match.ol0 all_nil) restrict_Match.q k
def restrict_KissCode.F : FnS R (ByteArray) (Int) := ⟨[.lf], [], (.last dStr .nil), .lf, [], (.last (dInt .u32) .nil)⟩
def restrict_KissCode.p (k : Nat) (y : ByteArray) : Option (Int) := restrict_KissCode.f k y
def restrict_KissCode.E (k : Nat) : Env R := ⟨tabOf tabL, ctOf [], mtNone, fun _ => false, codes, rts, 39, fun _ => [], owns, [], eqtOf eqs, fun _ => false, flats, mpsOf mps, byt_⟩
def restrict_KissCode.cl0 : CutS R (Int) := ⟨10, [0, 3, 13, 14], [], [.lf, .lf, .lf, .lf], [], ByteArray × Int × Int × Int, (.cons dStr (.cons (dInt .u32) (.cons (dInt .i64) (.last (dInt .i64) .nil)))), fun k z => restrict_KissCode.l0 k z.1 z.2.1 z.2.2.1 z.2.2.2⟩
def restrict_KissCode.cs : List (CutS R (Int)) := [restrict_KissCode.cl0]
theorem restrict_KissCode.hE (k : Nat) : EnvOk Try.prog (restrict_KissCode.E k) := ⟨tabs, ctOf_ok all_nil, mtNone_ok, mixed, eqs_, flats_, mps_⟩
theorem restrict_KissCode.ol0 : (restrict_KissCode.cl0).Ok restrict_KissCode.E Try.f18.results.toList 0 (bodyOf Try.f18) restrict_KissCode.cs restrict_KissCode.F.ret := ⟨fun z => rfl, fun k z => by
 show restrict_KissCode.l0 (k + 1) z.1 z.2.1 z.2.2.1 z.2.2.2 = _
 rw [restrict_KissCode.l0]
 kernel_rfl⟩
theorem restrict_KissCode.q (k : Nat) (y : ByteArray) : restrict_KissCode.p k y = restrict_KissCode.F.run restrict_KissCode.E Try.f18.results.toList (bodyOf Try.f18) restrict_KissCode.cs k y := by kernel_rfl
theorem restrict_KissCode.ok (k : Nat) : CsemOk R Try.prog 18 (restrict_KissCode.F.sem (restrict_KissCode.p k)) := fn_ok (F := restrict_KissCode.F) (f := restrict_KissCode.p) (E := restrict_KissCode.E) restrict_KissCode.hE (fun _ => rfl) Try.func18 (body := (bodyOf Try.f18)) rfl (by kernel_rfl) rfl (by decide) (by kernel_rfl) (cuts := restrict_KissCode.cs) (all_cons restrict_KissCode.ol0 all_nil) restrict_KissCode.q k
def foliotlaw06_shown.F : FnS R (Unit) (Bool) := ⟨[], [], .nil, .lf, [], (.last dBool .nil)⟩
def foliotlaw06_shown.p (k : Nat) (y : Unit) : Option (Bool) := foliotlaw06_shown.f k
def foliotlaw06_shown.E (k : Nat) : Env R := ⟨tabOf tabL, ctOf [(13, (restrict_New.F.sem (restrict_New.p k))), (14, (restrict_Memory_Heard.F.sem (restrict_Memory_Heard.p k))), (30, (restrict_Memory_Find.F.sem (restrict_Memory_Find.p k))), (10, (restrict_Match.F.sem (restrict_Match.p k))), (18, (restrict_KissCode.F.sem (restrict_KissCode.p k)))], mtNone, fun f => memB f [10, 30], codes, rts, 66, fun _ => [], owns, [], eqtOf eqs, fun _ => false, flats, mpsOf mps, byt_⟩
def foliotlaw06_shown.cs : List (CutS R (Bool)) := []
theorem foliotlaw06_shown.hE (k : Nat) : EnvOk Try.prog (foliotlaw06_shown.E k) := ⟨tabs, ctOf_ok (all_cons (restrict_New.ok k) (all_cons (restrict_Memory_Heard.ok k) (all_cons (restrict_Memory_Find.ok k) (all_cons (restrict_Match.ok k) (all_cons (restrict_KissCode.ok k) all_nil))))), mtNone_ok, mixed, eqs_, flats_, mps_⟩
theorem foliotlaw06_shown.q (k : Nat) (y : Unit) : foliotlaw06_shown.p k y = foliotlaw06_shown.F.run foliotlaw06_shown.E Try.f12.results.toList (bodyOf Try.f12) foliotlaw06_shown.cs k y := by kernel_rfl
theorem foliotlaw06_shown.ok (k : Nat) : CsemOk R Try.prog 12 (foliotlaw06_shown.F.sem (foliotlaw06_shown.p k)) := fn_ok (F := foliotlaw06_shown.F) (f := foliotlaw06_shown.p) (E := foliotlaw06_shown.E) foliotlaw06_shown.hE (fun _ => rfl) Try.func12 (body := (bodyOf Try.f12)) rfl (by kernel_rfl) rfl (by decide) (by kernel_rfl) (cuts := foliotlaw06_shown.cs) all_nil foliotlaw06_shown.q k
def restrict_Death.F : FnS R (Int × Int × Int × Int × Int × Int × Int × Int × Int × Int × Int × Int × Int × (List S145) × Int × Bool × (List Int) × Int × Int) (Int × Int × Int × Int × Int × Int × Int × Int × Int × Int × Int × Int × Int × Int × Bool) := ⟨[.agg 17, .lf, .lf], [], (.cons (dInt .i64) (.cons (dInt .i64) (.cons (dInt .i64) (.cons (dInt .i64) (.cons (dInt .i64) (.cons (dInt .i64) (.cons (dInt .i64) (.cons (dInt .i64) (.cons (dInt .u32) (.cons (dInt .u64) (.cons (dInt .u64) (.cons (dInt .u64) (.cons (dInt .u64) (.cons (dRo 0) (.cons (dInt .i64) (.cons dBool (.cons (dRo 1) (.cons (dInt .u32) (.last (dInt .i64) .nil))))))))))))))))))), .agg 17, [], (.cons (dInt .i64) (.cons (dInt .i64) (.cons (dInt .i64) (.cons (dInt .i64) (.cons (dInt .i64) (.cons (dInt .i64) (.cons (dInt .i64) (.cons (dInt .i64) (.cons (dInt .u32) (.cons (dInt .u64) (.cons (dInt .u64) (.cons (dInt .u64) (.cons (dInt .u64) (.nils (.cons (dInt .i64) (.last dBool (.nils .nil)))))))))))))))))⟩
def restrict_Death.p (k : Nat) (y : Int × Int × Int × Int × Int × Int × Int × Int × Int × Int × Int × Int × Int × (List S145) × Int × Bool × (List Int) × Int × Int) : Option (Int × Int × Int × Int × Int × Int × Int × Int × Int × Int × Int × Int × Int × Int × Bool) := restrict_Death.f y.1 y.2.1 y.2.2.1 y.2.2.2.1 y.2.2.2.2.1 y.2.2.2.2.2.1 y.2.2.2.2.2.2.1 y.2.2.2.2.2.2.2.1 y.2.2.2.2.2.2.2.2.1 y.2.2.2.2.2.2.2.2.2.1 y.2.2.2.2.2.2.2.2.2.2.1 y.2.2.2.2.2.2.2.2.2.2.2.1 y.2.2.2.2.2.2.2.2.2.2.2.2.1 y.2.2.2.2.2.2.2.2.2.2.2.2.2.1 y.2.2.2.2.2.2.2.2.2.2.2.2.2.2.1 y.2.2.2.2.2.2.2.2.2.2.2.2.2.2.2.1 y.2.2.2.2.2.2.2.2.2.2.2.2.2.2.2.2.1 y.2.2.2.2.2.2.2.2.2.2.2.2.2.2.2.2.2.1 y.2.2.2.2.2.2.2.2.2.2.2.2.2.2.2.2.2.2
def restrict_Death.E (k : Nat) : Env R := ⟨tabOf tabL, ctOf [], mtNone, fun _ => false, codes, rts, 34, fun _ => [], owns, [], eqtOf eqs, fun _ => false, flats, mpsOf mps, byt_⟩
def restrict_Death.cs : List (CutS R (Int × Int × Int × Int × Int × Int × Int × Int × Int × Int × Int × Int × Int × Int × Bool)) := []
theorem restrict_Death.hE (k : Nat) : EnvOk Try.prog (restrict_Death.E k) := ⟨tabs, ctOf_ok all_nil, mtNone_ok, mixed, eqs_, flats_, mps_⟩
theorem restrict_Death.q (k : Nat) (y : Int × Int × Int × Int × Int × Int × Int × Int × Int × Int × Int × Int × Int × (List S145) × Int × Bool × (List Int) × Int × Int) : restrict_Death.p k y = restrict_Death.F.run restrict_Death.E Try.f15.results.toList (bodyOf Try.f15) restrict_Death.cs k y := by kernel_rfl
theorem restrict_Death.ok (k : Nat) : CsemOk R Try.prog 15 (restrict_Death.F.sem (restrict_Death.p k)) := fn_ok (F := restrict_Death.F) (f := restrict_Death.p) (E := restrict_Death.E) restrict_Death.hE (fun _ => rfl) Try.func15 (body := (bodyOf Try.f15)) rfl (by kernel_rfl) rfl (by decide) (by kernel_rfl) (cuts := restrict_Death.cs) all_nil restrict_Death.q k
def restrict_IsDeath.F : FnS R (Int × Int × Int × Int × Int × Int × Int × Int × Int × Int × Int × Int × Int × Int × Bool) (Int × Bool) := ⟨[.agg 17], [], (.cons (dInt .i64) (.cons (dInt .i64) (.cons (dInt .i64) (.cons (dInt .i64) (.cons (dInt .i64) (.cons (dInt .i64) (.cons (dInt .i64) (.cons (dInt .i64) (.cons (dInt .u32) (.cons (dInt .u64) (.cons (dInt .u64) (.cons (dInt .u64) (.cons (dInt .u64) (.nils (.cons (dInt .i64) (.last dBool (.nils .nil))))))))))))))))), .tup [none, none], [], (.cons (dInt .u32) (.last dBool .nil))⟩
def restrict_IsDeath.p (k : Nat) (y : Int × Int × Int × Int × Int × Int × Int × Int × Int × Int × Int × Int × Int × Int × Bool) : Option (Int × Bool) := restrict_IsDeath.f y.1 y.2.1 y.2.2.1 y.2.2.2.1 y.2.2.2.2.1 y.2.2.2.2.2.1 y.2.2.2.2.2.2.1 y.2.2.2.2.2.2.2.1 y.2.2.2.2.2.2.2.2.1 y.2.2.2.2.2.2.2.2.2.1 y.2.2.2.2.2.2.2.2.2.2.1 y.2.2.2.2.2.2.2.2.2.2.2.1 y.2.2.2.2.2.2.2.2.2.2.2.2.1 y.2.2.2.2.2.2.2.2.2.2.2.2.2.1 y.2.2.2.2.2.2.2.2.2.2.2.2.2.2
def restrict_IsDeath.E (k : Nat) : Env R := ⟨tabOf tabL, ctOf [], mtNone, fun _ => false, codes, rts, 19, fun _ => [], owns, [], eqtOf eqs, fun _ => false, flats, mpsOf mps, byt_⟩
def restrict_IsDeath.cs : List (CutS R (Int × Bool)) := []
theorem restrict_IsDeath.hE (k : Nat) : EnvOk Try.prog (restrict_IsDeath.E k) := ⟨tabs, ctOf_ok all_nil, mtNone_ok, mixed, eqs_, flats_, mps_⟩
theorem restrict_IsDeath.q (k : Nat) (y : Int × Int × Int × Int × Int × Int × Int × Int × Int × Int × Int × Int × Int × Int × Bool) : restrict_IsDeath.p k y = restrict_IsDeath.F.run restrict_IsDeath.E Try.f16.results.toList (bodyOf Try.f16) restrict_IsDeath.cs k y := by kernel_rfl
theorem restrict_IsDeath.ok (k : Nat) : CsemOk R Try.prog 16 (restrict_IsDeath.F.sem (restrict_IsDeath.p k)) := fn_ok (F := restrict_IsDeath.F) (f := restrict_IsDeath.p) (E := restrict_IsDeath.E) restrict_IsDeath.hE (fun _ => rfl) Try.func16 (body := (bodyOf Try.f16)) rfl (by kernel_rfl) rfl (by decide) (by kernel_rfl) (cuts := restrict_IsDeath.cs) all_nil restrict_IsDeath.q k
def restrict_IsDeath_s1.F : FnS R (Int × Int × Int × Int × Int × Int × Int × Int × Int × Int × Int × Int × Int × (List S145) × Int × Bool × (List Int)) (Int × Bool) := ⟨[.agg 17], [], (.cons (dInt .i64) (.cons (dInt .i64) (.cons (dInt .i64) (.cons (dInt .i64) (.cons (dInt .i64) (.cons (dInt .i64) (.cons (dInt .i64) (.cons (dInt .i64) (.cons (dInt .u32) (.cons (dInt .u64) (.cons (dInt .u64) (.cons (dInt .u64) (.cons (dInt .u64) (.cons (dRo 0) (.cons (dInt .i64) (.cons dBool (.last (dRo 1) .nil))))))))))))))))), .tup [none, none], [], (.cons (dInt .u32) (.last dBool .nil))⟩
def restrict_IsDeath_s1.p (k : Nat) (y : Int × Int × Int × Int × Int × Int × Int × Int × Int × Int × Int × Int × Int × (List S145) × Int × Bool × (List Int)) : Option (Int × Bool) := restrict_IsDeath_s1.f y.1 y.2.1 y.2.2.1 y.2.2.2.1 y.2.2.2.2.1 y.2.2.2.2.2.1 y.2.2.2.2.2.2.1 y.2.2.2.2.2.2.2.1 y.2.2.2.2.2.2.2.2.1 y.2.2.2.2.2.2.2.2.2.1 y.2.2.2.2.2.2.2.2.2.2.1 y.2.2.2.2.2.2.2.2.2.2.2.1 y.2.2.2.2.2.2.2.2.2.2.2.2.1 y.2.2.2.2.2.2.2.2.2.2.2.2.2.1 y.2.2.2.2.2.2.2.2.2.2.2.2.2.2.1 y.2.2.2.2.2.2.2.2.2.2.2.2.2.2.2.1 y.2.2.2.2.2.2.2.2.2.2.2.2.2.2.2.2
def restrict_IsDeath_s1.E (k : Nat) : Env R := ⟨tabOf tabL, ctOf [], mtNone, fun _ => false, codes, rts, 19, fun _ => [], owns, [], eqtOf eqs, fun _ => false, flats, mpsOf mps, byt_⟩
def restrict_IsDeath_s1.cs : List (CutS R (Int × Bool)) := []
theorem restrict_IsDeath_s1.hE (k : Nat) : EnvOk Try.prog (restrict_IsDeath_s1.E k) := ⟨tabs, ctOf_ok all_nil, mtNone_ok, mixed, eqs_, flats_, mps_⟩
theorem restrict_IsDeath_s1.q (k : Nat) (y : Int × Int × Int × Int × Int × Int × Int × Int × Int × Int × Int × Int × Int × (List S145) × Int × Bool × (List Int)) : restrict_IsDeath_s1.p k y = restrict_IsDeath_s1.F.run restrict_IsDeath_s1.E Try.f16.results.toList (bodyOf Try.f16) restrict_IsDeath_s1.cs k y := by kernel_rfl
theorem restrict_IsDeath_s1.ok (k : Nat) : CsemOk R Try.prog 16 (restrict_IsDeath_s1.F.sem (restrict_IsDeath_s1.p k)) := fn_ok (F := restrict_IsDeath_s1.F) (f := restrict_IsDeath_s1.p) (E := restrict_IsDeath_s1.E) restrict_IsDeath_s1.hE (fun _ => rfl) Try.func16 (body := (bodyOf Try.f16)) rfl (by kernel_rfl) rfl (by decide) (by kernel_rfl) (cuts := restrict_IsDeath_s1.cs) all_nil restrict_IsDeath_s1.q k
def foliotref06_IsDeath.F : FnS R (Int × Int × Int × Int × Int × Int × Int × Int × Int × Int × Int × Int × Int × (List S145) × Int × Bool × (List Int)) (Int × Bool) := ⟨[.agg 17], [], (.cons (dInt .i64) (.cons (dInt .i64) (.cons (dInt .i64) (.cons (dInt .i64) (.cons (dInt .i64) (.cons (dInt .i64) (.cons (dInt .i64) (.cons (dInt .i64) (.cons (dInt .u32) (.cons (dInt .u64) (.cons (dInt .u64) (.cons (dInt .u64) (.cons (dInt .u64) (.cons (dRo 0) (.cons (dInt .i64) (.cons dBool (.last (dRo 1) .nil))))))))))))))))), .tup [none, none], [], (.cons (dInt .u32) (.last dBool .nil))⟩
def foliotref06_IsDeath.p (k : Nat) (y : Int × Int × Int × Int × Int × Int × Int × Int × Int × Int × Int × Int × Int × (List S145) × Int × Bool × (List Int)) : Option (Int × Bool) := foliotref06_IsDeath.f y.1 y.2.1 y.2.2.1 y.2.2.2.1 y.2.2.2.2.1 y.2.2.2.2.2.1 y.2.2.2.2.2.2.1 y.2.2.2.2.2.2.2.1 y.2.2.2.2.2.2.2.2.1 y.2.2.2.2.2.2.2.2.2.1 y.2.2.2.2.2.2.2.2.2.2.1 y.2.2.2.2.2.2.2.2.2.2.2.1 y.2.2.2.2.2.2.2.2.2.2.2.2.1 y.2.2.2.2.2.2.2.2.2.2.2.2.2.1 y.2.2.2.2.2.2.2.2.2.2.2.2.2.2.1 y.2.2.2.2.2.2.2.2.2.2.2.2.2.2.2.1 y.2.2.2.2.2.2.2.2.2.2.2.2.2.2.2.2
def foliotref06_IsDeath.E (k : Nat) : Env R := ⟨tabOf tabL, ctOf [], mtNone, fun _ => false, codes, rts, 19, fun _ => [], owns, [], eqtOf eqs, fun _ => false, flats, mpsOf mps, byt_⟩
def foliotref06_IsDeath.cs : List (CutS R (Int × Bool)) := []
theorem foliotref06_IsDeath.hE (k : Nat) : EnvOk Try.prog (foliotref06_IsDeath.E k) := ⟨tabs, ctOf_ok all_nil, mtNone_ok, mixed, eqs_, flats_, mps_⟩
theorem foliotref06_IsDeath.q (k : Nat) (y : Int × Int × Int × Int × Int × Int × Int × Int × Int × Int × Int × Int × Int × (List S145) × Int × Bool × (List Int)) : foliotref06_IsDeath.p k y = foliotref06_IsDeath.F.run foliotref06_IsDeath.E Try.f17.results.toList (bodyOf Try.f17) foliotref06_IsDeath.cs k y := by kernel_rfl
theorem foliotref06_IsDeath.ok (k : Nat) : CsemOk R Try.prog 17 (foliotref06_IsDeath.F.sem (foliotref06_IsDeath.p k)) := fn_ok (F := foliotref06_IsDeath.F) (f := foliotref06_IsDeath.p) (E := foliotref06_IsDeath.E) foliotref06_IsDeath.hE (fun _ => rfl) Try.func17 (body := (bodyOf Try.f17)) rfl (by kernel_rfl) rfl (by decide) (by kernel_rfl) (cuts := foliotref06_IsDeath.cs) all_nil foliotref06_IsDeath.q k
def foliotref06_KissCode.F : FnS R (ByteArray) (Int) := ⟨[.lf], [], (.last dStr .nil), .lf, [], (.last (dInt .u32) .nil)⟩
def foliotref06_KissCode.p (k : Nat) (y : ByteArray) : Option (Int) := foliotref06_KissCode.f k y
def foliotref06_KissCode.E (k : Nat) : Env R := ⟨tabOf tabL, ctOf [], mtNone, fun _ => false, codes, rts, 40, fun _ => [], owns, [], eqtOf eqs, fun _ => false, flats, mpsOf mps, byt_⟩
def foliotref06_KissCode.cl0 : CutS R (Int) := ⟨10, [0, 3, 4], [], [.lf, .lf, .lf], [], ByteArray × Int × Int, (.cons dStr (.cons (dInt .u32) (.last (dInt .i64) .nil))), fun k z => foliotref06_KissCode.l0 k z.1 z.2.1 z.2.2⟩
def foliotref06_KissCode.cs : List (CutS R (Int)) := [foliotref06_KissCode.cl0]
theorem foliotref06_KissCode.hE (k : Nat) : EnvOk Try.prog (foliotref06_KissCode.E k) := ⟨tabs, ctOf_ok all_nil, mtNone_ok, mixed, eqs_, flats_, mps_⟩
theorem foliotref06_KissCode.ol0 : (foliotref06_KissCode.cl0).Ok foliotref06_KissCode.E Try.f19.results.toList 0 (bodyOf Try.f19) foliotref06_KissCode.cs foliotref06_KissCode.F.ret := ⟨fun z => rfl, fun k z => by
 show foliotref06_KissCode.l0 (k + 1) z.1 z.2.1 z.2.2 = _
 rw [foliotref06_KissCode.l0]
 kernel_rfl⟩
theorem foliotref06_KissCode.q (k : Nat) (y : ByteArray) : foliotref06_KissCode.p k y = foliotref06_KissCode.F.run foliotref06_KissCode.E Try.f19.results.toList (bodyOf Try.f19) foliotref06_KissCode.cs k y := by kernel_rfl
theorem foliotref06_KissCode.ok (k : Nat) : CsemOk R Try.prog 19 (foliotref06_KissCode.F.sem (foliotref06_KissCode.p k)) := fn_ok (F := foliotref06_KissCode.F) (f := foliotref06_KissCode.p) (E := foliotref06_KissCode.E) foliotref06_KissCode.hE (fun _ => rfl) Try.func19 (body := (bodyOf Try.f19)) rfl (by kernel_rfl) rfl (by decide) (by kernel_rfl) (cuts := foliotref06_KissCode.cs) (all_cons foliotref06_KissCode.ol0 all_nil) foliotref06_KissCode.q k
def foliotref06_Death.F : FnS R (Int × Int × Int × Int × Int × Int × Int × Int × Int × Int × Int × Int × Int × (List S145) × Int × Bool × (List Int) × Int × Int) (Int × Int × Int × Int × Int × Int × Int × Int × Int × Int × Int × Int × Int × Int × Bool) := ⟨[.agg 17, .lf, .lf], [], (.cons (dInt .i64) (.cons (dInt .i64) (.cons (dInt .i64) (.cons (dInt .i64) (.cons (dInt .i64) (.cons (dInt .i64) (.cons (dInt .i64) (.cons (dInt .i64) (.cons (dInt .u32) (.cons (dInt .u64) (.cons (dInt .u64) (.cons (dInt .u64) (.cons (dInt .u64) (.cons (dRo 0) (.cons (dInt .i64) (.cons dBool (.cons (dRo 1) (.cons (dInt .u32) (.last (dInt .i64) .nil))))))))))))))))))), .agg 17, [], (.cons (dInt .i64) (.cons (dInt .i64) (.cons (dInt .i64) (.cons (dInt .i64) (.cons (dInt .i64) (.cons (dInt .i64) (.cons (dInt .i64) (.cons (dInt .i64) (.cons (dInt .u32) (.cons (dInt .u64) (.cons (dInt .u64) (.cons (dInt .u64) (.cons (dInt .u64) (.nils (.cons (dInt .i64) (.last dBool (.nils .nil)))))))))))))))))⟩
def foliotref06_Death.p (k : Nat) (y : Int × Int × Int × Int × Int × Int × Int × Int × Int × Int × Int × Int × Int × (List S145) × Int × Bool × (List Int) × Int × Int) : Option (Int × Int × Int × Int × Int × Int × Int × Int × Int × Int × Int × Int × Int × Int × Bool) := foliotref06_Death.f y.1 y.2.1 y.2.2.1 y.2.2.2.1 y.2.2.2.2.1 y.2.2.2.2.2.1 y.2.2.2.2.2.2.1 y.2.2.2.2.2.2.2.1 y.2.2.2.2.2.2.2.2.1 y.2.2.2.2.2.2.2.2.2.1 y.2.2.2.2.2.2.2.2.2.2.1 y.2.2.2.2.2.2.2.2.2.2.2.1 y.2.2.2.2.2.2.2.2.2.2.2.2.1 y.2.2.2.2.2.2.2.2.2.2.2.2.2.1 y.2.2.2.2.2.2.2.2.2.2.2.2.2.2.1 y.2.2.2.2.2.2.2.2.2.2.2.2.2.2.2.1 y.2.2.2.2.2.2.2.2.2.2.2.2.2.2.2.2.1 y.2.2.2.2.2.2.2.2.2.2.2.2.2.2.2.2.2.1 y.2.2.2.2.2.2.2.2.2.2.2.2.2.2.2.2.2.2
def foliotref06_Death.E (k : Nat) : Env R := ⟨tabOf tabL, ctOf [], mtNone, fun _ => false, codes, rts, 35, fun _ => [], owns, [], eqtOf eqs, fun _ => false, flats, mpsOf mps, byt_⟩
def foliotref06_Death.cs : List (CutS R (Int × Int × Int × Int × Int × Int × Int × Int × Int × Int × Int × Int × Int × Int × Bool)) := []
theorem foliotref06_Death.hE (k : Nat) : EnvOk Try.prog (foliotref06_Death.E k) := ⟨tabs, ctOf_ok all_nil, mtNone_ok, mixed, eqs_, flats_, mps_⟩
theorem foliotref06_Death.q (k : Nat) (y : Int × Int × Int × Int × Int × Int × Int × Int × Int × Int × Int × Int × Int × (List S145) × Int × Bool × (List Int) × Int × Int) : foliotref06_Death.p k y = foliotref06_Death.F.run foliotref06_Death.E Try.f21.results.toList (bodyOf Try.f21) foliotref06_Death.cs k y := by kernel_rfl
theorem foliotref06_Death.ok (k : Nat) : CsemOk R Try.prog 21 (foliotref06_Death.F.sem (foliotref06_Death.p k)) := fn_ok (F := foliotref06_Death.F) (f := foliotref06_Death.p) (E := foliotref06_Death.E) foliotref06_Death.hE (fun _ => rfl) Try.func21 (body := (bodyOf Try.f21)) rfl (by kernel_rfl) rfl (by decide) (by kernel_rfl) (cuts := foliotref06_Death.cs) all_nil foliotref06_Death.q k
def foliotlaw06_same.F : FnS R (Int × Int × Int × Int × Int × Int × Int × Int × Int × Int × Int × Int × Int × Int × Bool × Int × Int × Int × Int × Int × Int × Int × Int × Int × Int × Int × Int × Int × Int × Bool) (Bool) := ⟨[.agg 17, .agg 17], [], (.cons (dInt .i64) (.cons (dInt .i64) (.cons (dInt .i64) (.cons (dInt .i64) (.cons (dInt .i64) (.cons (dInt .i64) (.cons (dInt .i64) (.cons (dInt .i64) (.cons (dInt .u32) (.cons (dInt .u64) (.cons (dInt .u64) (.cons (dInt .u64) (.cons (dInt .u64) (.nils (.cons (dInt .i64) (.cons dBool (.nils (.cons (dInt .i64) (.cons (dInt .i64) (.cons (dInt .i64) (.cons (dInt .i64) (.cons (dInt .i64) (.cons (dInt .i64) (.cons (dInt .i64) (.cons (dInt .i64) (.cons (dInt .u32) (.cons (dInt .u64) (.cons (dInt .u64) (.cons (dInt .u64) (.cons (dInt .u64) (.nils (.cons (dInt .i64) (.last dBool (.nils .nil)))))))))))))))))))))))))))))))))), .lf, [], (.last dBool .nil)⟩
def foliotlaw06_same.p (k : Nat) (y : Int × Int × Int × Int × Int × Int × Int × Int × Int × Int × Int × Int × Int × Int × Bool × Int × Int × Int × Int × Int × Int × Int × Int × Int × Int × Int × Int × Int × Int × Bool) : Option (Bool) := foliotlaw06_same.f y.1 y.2.1 y.2.2.1 y.2.2.2.1 y.2.2.2.2.1 y.2.2.2.2.2.1 y.2.2.2.2.2.2.1 y.2.2.2.2.2.2.2.1 y.2.2.2.2.2.2.2.2.1 y.2.2.2.2.2.2.2.2.2.1 y.2.2.2.2.2.2.2.2.2.2.1 y.2.2.2.2.2.2.2.2.2.2.2.1 y.2.2.2.2.2.2.2.2.2.2.2.2.1 y.2.2.2.2.2.2.2.2.2.2.2.2.2.1 y.2.2.2.2.2.2.2.2.2.2.2.2.2.2.1 y.2.2.2.2.2.2.2.2.2.2.2.2.2.2.2.1 y.2.2.2.2.2.2.2.2.2.2.2.2.2.2.2.2.1 y.2.2.2.2.2.2.2.2.2.2.2.2.2.2.2.2.2.1 y.2.2.2.2.2.2.2.2.2.2.2.2.2.2.2.2.2.2.1 y.2.2.2.2.2.2.2.2.2.2.2.2.2.2.2.2.2.2.2.1 y.2.2.2.2.2.2.2.2.2.2.2.2.2.2.2.2.2.2.2.2.1 y.2.2.2.2.2.2.2.2.2.2.2.2.2.2.2.2.2.2.2.2.2.1 y.2.2.2.2.2.2.2.2.2.2.2.2.2.2.2.2.2.2.2.2.2.2.1 y.2.2.2.2.2.2.2.2.2.2.2.2.2.2.2.2.2.2.2.2.2.2.2.1 y.2.2.2.2.2.2.2.2.2.2.2.2.2.2.2.2.2.2.2.2.2.2.2.2.1 y.2.2.2.2.2.2.2.2.2.2.2.2.2.2.2.2.2.2.2.2.2.2.2.2.2.1 y.2.2.2.2.2.2.2.2.2.2.2.2.2.2.2.2.2.2.2.2.2.2.2.2.2.2.1 y.2.2.2.2.2.2.2.2.2.2.2.2.2.2.2.2.2.2.2.2.2.2.2.2.2.2.2.1 y.2.2.2.2.2.2.2.2.2.2.2.2.2.2.2.2.2.2.2.2.2.2.2.2.2.2.2.2.1 y.2.2.2.2.2.2.2.2.2.2.2.2.2.2.2.2.2.2.2.2.2.2.2.2.2.2.2.2.2
def foliotlaw06_same.E (k : Nat) : Env R := ⟨tabOf tabL, ctOf [], mtNone, fun _ => false, codes, rts, 126, fun _ => [], owns, [], eqtOf eqs, fun _ => false, flats, mpsOf mps, byt_⟩
def foliotlaw06_same.cs : List (CutS R (Bool)) := []
theorem foliotlaw06_same.hE (k : Nat) : EnvOk Try.prog (foliotlaw06_same.E k) := ⟨tabs, ctOf_ok all_nil, mtNone_ok, mixed, eqs_, flats_, mps_⟩
theorem foliotlaw06_same.q (k : Nat) (y : Int × Int × Int × Int × Int × Int × Int × Int × Int × Int × Int × Int × Int × Int × Bool × Int × Int × Int × Int × Int × Int × Int × Int × Int × Int × Int × Int × Int × Int × Bool) : foliotlaw06_same.p k y = foliotlaw06_same.F.run foliotlaw06_same.E Try.f20.results.toList (bodyOf Try.f20) foliotlaw06_same.cs k y := by kernel_rfl
theorem foliotlaw06_same.ok (k : Nat) : CsemOk R Try.prog 20 (foliotlaw06_same.F.sem (foliotlaw06_same.p k)) := fn_ok (F := foliotlaw06_same.F) (f := foliotlaw06_same.p) (E := foliotlaw06_same.E) foliotlaw06_same.hE (fun _ => rfl) Try.func20 (body := (bodyOf Try.f20)) rfl (by kernel_rfl) rfl (by decide) (by kernel_rfl) (cuts := foliotlaw06_same.cs) all_nil foliotlaw06_same.q k
def foliotlaw06_RestrictKisses.F : FnS R (ByteArray × Int × Int × Int × Int × Int × Int × Int × Int × Int × Int × Int × Int × Int × (List S145) × Int × Bool × (List Int) × Int × Int) (Bool) := ⟨[.lf, .agg 17, .lf, .lf], [], (.cons dStr (.cons (dInt .i64) (.cons (dInt .i64) (.cons (dInt .i64) (.cons (dInt .i64) (.cons (dInt .i64) (.cons (dInt .i64) (.cons (dInt .i64) (.cons (dInt .i64) (.cons (dInt .u32) (.cons (dInt .u64) (.cons (dInt .u64) (.cons (dInt .u64) (.cons (dInt .u64) (.cons (dRo 0) (.cons (dInt .i64) (.cons dBool (.cons (dRo 1) (.cons (dInt .u32) (.last (dInt .i64) .nil)))))))))))))))))))), .lf, [], (.last dBool .nil)⟩
def foliotlaw06_RestrictKisses.p (k : Nat) (y : ByteArray × Int × Int × Int × Int × Int × Int × Int × Int × Int × Int × Int × Int × Int × (List S145) × Int × Bool × (List Int) × Int × Int) : Option (Bool) := foliotlaw06_RestrictKisses.f k y.1 y.2.1 y.2.2.1 y.2.2.2.1 y.2.2.2.2.1 y.2.2.2.2.2.1 y.2.2.2.2.2.2.1 y.2.2.2.2.2.2.2.1 y.2.2.2.2.2.2.2.2.1 y.2.2.2.2.2.2.2.2.2.1 y.2.2.2.2.2.2.2.2.2.2.1 y.2.2.2.2.2.2.2.2.2.2.2.1 y.2.2.2.2.2.2.2.2.2.2.2.2.1 y.2.2.2.2.2.2.2.2.2.2.2.2.2.1 y.2.2.2.2.2.2.2.2.2.2.2.2.2.2.1 y.2.2.2.2.2.2.2.2.2.2.2.2.2.2.2.1 y.2.2.2.2.2.2.2.2.2.2.2.2.2.2.2.2.1 y.2.2.2.2.2.2.2.2.2.2.2.2.2.2.2.2.2.1 y.2.2.2.2.2.2.2.2.2.2.2.2.2.2.2.2.2.2.1 y.2.2.2.2.2.2.2.2.2.2.2.2.2.2.2.2.2.2.2
def foliotlaw06_RestrictKisses.E (k : Nat) : Env R := ⟨tabOf tabL, ctOf [(12, (foliotlaw06_shown.F.sem (foliotlaw06_shown.p k))), (15, (restrict_Death.F.sem (restrict_Death.p k))), (16, (restrict_IsDeath.F.semOr (restrict_IsDeath.p k) (restrict_IsDeath_s1.F.sem (restrict_IsDeath_s1.p k)))), (17, (foliotref06_IsDeath.F.sem (foliotref06_IsDeath.p k))), (18, (restrict_KissCode.F.sem (restrict_KissCode.p k))), (19, (foliotref06_KissCode.F.sem (foliotref06_KissCode.p k))), (21, (foliotref06_Death.F.sem (foliotref06_Death.p k))), (20, (foliotlaw06_same.F.sem (foliotlaw06_same.p k)))], mtNone, fun f => memB f [18, 19, 20], codes, rts, 71, fun i => ordOf [(7, [(0, 0), (1, 0), (2, 0), (3, 0), (4, 0), (5, 0), (6, 0), (7, 0), (8, 0), (9, 0), (10, 1), (11, 0), (12, 0), (13, 0), (14, 0), (15, 0), (16, 0), (17, 0), (18, 0), (19, 0), (20, 0), (21, 0), (22, 0), (23, 0), (24, 0), (25, 0), (26, 0), (27, 0), (28, 0), (29, 0), (30, 0), (31, 0), (32, 0), (33, 0), (34, 0)])] i, owns, [], eqtOf eqs, fun _ => false, flats, mpsOf mps, byt_⟩
def foliotlaw06_RestrictKisses.cs : List (CutS R (Bool)) := []
theorem foliotlaw06_RestrictKisses.hE (k : Nat) : EnvOk Try.prog (foliotlaw06_RestrictKisses.E k) := ⟨tabs, ctOf_ok (all_cons (foliotlaw06_shown.ok k) (all_cons (restrict_Death.ok k) (all_cons (semOr_ok (restrict_IsDeath.ok k) (restrict_IsDeath_s1.ok k)) (all_cons (foliotref06_IsDeath.ok k) (all_cons (restrict_KissCode.ok k) (all_cons (foliotref06_KissCode.ok k) (all_cons (foliotref06_Death.ok k) (all_cons (foliotlaw06_same.ok k) all_nil)))))))), mtNone_ok, mixed, eqs_, flats_, mps_⟩
theorem foliotlaw06_RestrictKisses.q (k : Nat) (y : ByteArray × Int × Int × Int × Int × Int × Int × Int × Int × Int × Int × Int × Int × Int × (List S145) × Int × Bool × (List Int) × Int × Int) : foliotlaw06_RestrictKisses.p k y = foliotlaw06_RestrictKisses.F.run foliotlaw06_RestrictKisses.E Try.f5.results.toList (bodyOf Try.f5) foliotlaw06_RestrictKisses.cs k y := by kernel_rfl
theorem foliotlaw06_RestrictKisses.ok (k : Nat) : CsemOk R Try.prog 5 (foliotlaw06_RestrictKisses.F.sem (foliotlaw06_RestrictKisses.p k)) := fn_ok (F := foliotlaw06_RestrictKisses.F) (f := foliotlaw06_RestrictKisses.p) (E := foliotlaw06_RestrictKisses.E) foliotlaw06_RestrictKisses.hE (fun _ => rfl) Try.func5 (body := (bodyOf Try.f5)) rfl (by kernel_rfl) rfl (by decide) (by kernel_rfl) (cuts := foliotlaw06_RestrictKisses.cs) all_nil foliotlaw06_RestrictKisses.q k
def foliotref06_Check.F : FnS R (Int × Int × Int) (Int) := ⟨[.agg 3], [], (.cons (dInt .u32) (.cons (dInt .i64) (.last (dInt .i64) .nil))), .lf, [], (.last (dInt .i64) .nil)⟩
def foliotref06_Check.p (k : Nat) (y : Int × Int × Int) : Option (Int) := foliotref06_Check.f k y.1 y.2.1 y.2.2
def foliotref06_Check.E (k : Nat) : Env R := ⟨tabOf tabL, ctOf [], mtNone, fun _ => false, codes, rts, 35, fun _ => [], owns, [], eqtOf eqs, fun _ => false, flats, mpsOf mps, byt_⟩
def foliotref06_Check.cl0 : CutS R (Int) := ⟨8, [1, 3], [], [.lf, .lf], [.blk 3 26], Int × Int × Int × Int, (.ptr 0 0 (.cons (dInt .i64) (.cons (dInt .u32) (.cons (dInt .i64) (.last (dInt .i64) .nil))))), fun k z => foliotref06_Check.l0 k z.1 z.2.1 z.2.2.1 z.2.2.2⟩
def foliotref06_Check.cs : List (CutS R (Int)) := [foliotref06_Check.cl0]
theorem foliotref06_Check.hE (k : Nat) : EnvOk Try.prog (foliotref06_Check.E k) := ⟨tabs, ctOf_ok all_nil, mtNone_ok, mixed, eqs_, flats_, mps_⟩
theorem foliotref06_Check.ol0 : (foliotref06_Check.cl0).Ok foliotref06_Check.E Try.f23.results.toList 0 (bodyOf Try.f23) foliotref06_Check.cs foliotref06_Check.F.ret := ⟨fun z => rfl, fun k z => by
 show foliotref06_Check.l0 (k + 1) z.1 z.2.1 z.2.2.1 z.2.2.2 = _
 rw [foliotref06_Check.l0]
 kernel_rfl⟩
theorem foliotref06_Check.q (k : Nat) (y : Int × Int × Int) : foliotref06_Check.p k y = foliotref06_Check.F.run foliotref06_Check.E Try.f23.results.toList (bodyOf Try.f23) foliotref06_Check.cs k y := by kernel_rfl
theorem foliotref06_Check.ok (k : Nat) : CsemOk R Try.prog 23 (foliotref06_Check.F.sem (foliotref06_Check.p k)) := fn_ok (F := foliotref06_Check.F) (f := foliotref06_Check.p) (E := foliotref06_Check.E) foliotref06_Check.hE (fun _ => rfl) Try.func23 (body := (bodyOf Try.f23)) rfl (by kernel_rfl) rfl (by decide) (by kernel_rfl) (cuts := foliotref06_Check.cs) (all_cons foliotref06_Check.ol0 all_nil) foliotref06_Check.q k
def foliotref06_speaks.F : FnS R (Int × Int × Int × Int) (Bool) := ⟨[.agg 3, .lf], [], (.cons (dInt .u32) (.cons (dInt .i64) (.cons (dInt .i64) (.last (dInt .u32) .nil)))), .lf, [], (.last dBool .nil)⟩
def foliotref06_speaks.p (k : Nat) (y : Int × Int × Int × Int) : Option (Bool) := foliotref06_speaks.f k y.1 y.2.1 y.2.2.1 y.2.2.2
def foliotref06_speaks.E (k : Nat) : Env R := ⟨tabOf tabL, ctOf [], mtNone, fun _ => false, codes, rts, 24, fun i => ordOf [(4, [(0, 0), (1, 0), (2, 0), (3, 0), (4, 0), (5, 0), (6, 0), (7, 0), (8, 0), (9, 0), (10, 0), (11, 0)])] i, owns, [], eqtOf eqs, fun _ => false, flats, mpsOf mps, byt_⟩
def foliotref06_speaks.cl0 : CutS R (Bool) := ⟨4, [1, 2, 5], [], [.lf, .lf, .lf], [.blk 3 26], Int × Int × Int × Int × Int, (.cons (dInt .u32) (.ptr 0 0 (.cons (dInt .i64) (.cons (dInt .u32) (.cons (dInt .i64) (.last (dInt .i64) .nil)))))), fun k z => foliotref06_speaks.l0 k z.1 z.2.1 z.2.2.1 z.2.2.2.1 z.2.2.2.2⟩
def foliotref06_speaks.cs : List (CutS R (Bool)) := [foliotref06_speaks.cl0]
theorem foliotref06_speaks.hE (k : Nat) : EnvOk Try.prog (foliotref06_speaks.E k) := ⟨tabs, ctOf_ok all_nil, mtNone_ok, mixed, eqs_, flats_, mps_⟩
theorem foliotref06_speaks.ol0 : (foliotref06_speaks.cl0).Ok foliotref06_speaks.E Try.f33.results.toList 0 (bodyOf Try.f33) foliotref06_speaks.cs foliotref06_speaks.F.ret := ⟨fun z => rfl, fun k z => by
 show foliotref06_speaks.l0 (k + 1) z.1 z.2.1 z.2.2.1 z.2.2.2.1 z.2.2.2.2 = _
 rw [foliotref06_speaks.l0]
 kernel_rfl⟩
theorem foliotref06_speaks.q (k : Nat) (y : Int × Int × Int × Int) : foliotref06_speaks.p k y = foliotref06_speaks.F.run foliotref06_speaks.E Try.f33.results.toList (bodyOf Try.f33) foliotref06_speaks.cs k y := by kernel_rfl
theorem foliotref06_speaks.ok (k : Nat) : CsemOk R Try.prog 33 (foliotref06_speaks.F.sem (foliotref06_speaks.p k)) := fn_ok (F := foliotref06_speaks.F) (f := foliotref06_speaks.p) (E := foliotref06_speaks.E) foliotref06_speaks.hE (fun _ => rfl) Try.func33 (body := (bodyOf Try.f33)) rfl (by kernel_rfl) rfl (by decide) (by kernel_rfl) (cuts := foliotref06_speaks.cs) (all_cons foliotref06_speaks.ol0 all_nil) foliotref06_speaks.q k
def foliotref06_Match.F : FnS R ((List S26) × Int) (Int) := ⟨[.lf, .lf], [], (.cons (dRo 5) (.last (dInt .u32) .nil)), .lf, [], (.last (dInt .i64) .nil)⟩
def foliotref06_Match.p (k : Nat) (y : (List S26) × Int) : Option (Int) := foliotref06_Match.f k y.1 y.2
def foliotref06_Match.E (k : Nat) : Env R := ⟨tabOf tabL, ctOf [(23, (foliotref06_Check.F.sem (foliotref06_Check.p k))), (33, (foliotref06_speaks.F.sem (foliotref06_speaks.p k)))], mtNone, fun _ => false, codes, rts, 42, fun _ => [], owns, [], eqtOf eqs, fun _ => false, flats, mpsOf mps, byt_⟩
def foliotref06_Match.cl0 : CutS R (Int) := ⟨6, [1, 5, 6, 9, 10, 11], [], [.lf, .lf, .lf, .lf, .lf, .lf], [], Int × Int × Int × (List S26) × Int × Int, (.cons (dInt .u32) (.cons (dInt .i64) (.cons (dInt .i64) (.cons (dRo 5) (.cons (dInt .i64) (.last (dInt .i64) .nil)))))), fun k z => foliotref06_Match.l0 k z.1 z.2.1 z.2.2.1 z.2.2.2.1 z.2.2.2.2.1 z.2.2.2.2.2⟩
def foliotref06_Match.cs : List (CutS R (Int)) := [foliotref06_Match.cl0]
theorem foliotref06_Match.hE (k : Nat) : EnvOk Try.prog (foliotref06_Match.E k) := ⟨tabs, ctOf_ok (all_cons (foliotref06_Check.ok k) (all_cons (foliotref06_speaks.ok k) all_nil)), mtNone_ok, mixed, eqs_, flats_, mps_⟩
theorem foliotref06_Match.ol0 : (foliotref06_Match.cl0).Ok foliotref06_Match.E Try.f11.results.toList 0 (bodyOf Try.f11) foliotref06_Match.cs foliotref06_Match.F.ret := ⟨fun z => rfl, fun k z => by
 show foliotref06_Match.l0 (k + 1) z.1 z.2.1 z.2.2.1 z.2.2.2.1 z.2.2.2.2.1 z.2.2.2.2.2 = _
 rw [foliotref06_Match.l0]
 kernel_rfl⟩
theorem foliotref06_Match.q (k : Nat) (y : (List S26) × Int) : foliotref06_Match.p k y = foliotref06_Match.F.run foliotref06_Match.E Try.f11.results.toList (bodyOf Try.f11) foliotref06_Match.cs k y := by kernel_rfl
theorem foliotref06_Match.ok (k : Nat) : CsemOk R Try.prog 11 (foliotref06_Match.F.sem (foliotref06_Match.p k)) := fn_ok (F := foliotref06_Match.F) (f := foliotref06_Match.p) (E := foliotref06_Match.E) foliotref06_Match.hE (fun _ => rfl) Try.func11 (body := (bodyOf Try.f11)) rfl (by kernel_rfl) rfl (by decide) (by kernel_rfl) (cuts := foliotref06_Match.cs) (all_cons foliotref06_Match.ol0 all_nil) foliotref06_Match.q k
def restrict_Sort_1.F : FnS R (Int × Int × Int) (Bool) := ⟨[.agg 3], [], (.cons (dInt .u32) (.cons (dInt .i64) (.last (dInt .i64) .nil))), .lf, [], (.last dBool .nil)⟩
def restrict_Sort_1.p (k : Nat) (y : Int × Int × Int) : Option (Bool) := restrict_Sort_1.f y.1 y.2.1 y.2.2
def restrict_Sort_1.E (k : Nat) : Env R := ⟨tabOf tabL, ctOf [(22, (restrict_Check.F.sem (restrict_Check.p k)))], mtNone, fun _ => false, codes, rts, 6, fun _ => [], owns, [], eqtOf eqs, fun _ => false, flats, mpsOf mps, byt_⟩
def restrict_Sort_1.cs : List (CutS R (Bool)) := []
theorem restrict_Sort_1.hE (k : Nat) : EnvOk Try.prog (restrict_Sort_1.E k) := ⟨tabs, ctOf_ok (all_cons (restrict_Check.ok k) all_nil), mtNone_ok, mixed, eqs_, flats_, mps_⟩
theorem restrict_Sort_1.q (k : Nat) (y : Int × Int × Int) : restrict_Sort_1.p k y = restrict_Sort_1.F.run restrict_Sort_1.E Try.f38.results.toList (bodyOf Try.f38) restrict_Sort_1.cs k y := by kernel_rfl
theorem restrict_Sort_1.ok (k : Nat) : CsemOk R Try.prog 38 (restrict_Sort_1.F.sem (restrict_Sort_1.p k)) := fn_ok (F := restrict_Sort_1.F) (f := restrict_Sort_1.p) (E := restrict_Sort_1.E) restrict_Sort_1.hE (fun _ => rfl) Try.func38 (body := (bodyOf Try.f38)) rfl (by kernel_rfl) rfl (by decide) (by kernel_rfl) (cuts := restrict_Sort_1.cs) all_nil restrict_Sort_1.q k
def slices_IndexFunc_api_Rule_api_Rule.F : FnS R ((List S26)) (Int) := ⟨[.lf, .lf], [], (.last (dRo 5) (.fnv 38 .nil)), .lf, [], (.last (dInt .i64) .nil)⟩
def slices_IndexFunc_api_Rule_api_Rule.p (k : Nat) (y : (List S26)) : Option (Int) := slices_IndexFunc_api_Rule_api_Rule.f k y
def slices_IndexFunc_api_Rule_api_Rule.E (k : Nat) : Env R := ⟨tabOf tabL, ctOf [(38, (restrict_Sort_1.F.sem (restrict_Sort_1.p k)))], mtNone, fun _ => false, codes, rts, 19, fun _ => [], owns, [], eqtOf eqs, fun _ => false, flats, mpsOf mps, byt_⟩
def slices_IndexFunc_api_Rule_api_Rule.cl0 : CutS R (Int) := ⟨4, [0, 1, 7, 8], [], [.lf, .lf, .lf, .lf], [], (List S26) × Int × Int, (.cons (dRo 5) (.fnv 38 (.cons (dInt .i64) (.last (dInt .i64) .nil)))), fun k z => slices_IndexFunc_api_Rule_api_Rule.l0 k z.1 z.2.1 z.2.2⟩
def slices_IndexFunc_api_Rule_api_Rule.cs : List (CutS R (Int)) := [slices_IndexFunc_api_Rule_api_Rule.cl0]
theorem slices_IndexFunc_api_Rule_api_Rule.hE (k : Nat) : EnvOk Try.prog (slices_IndexFunc_api_Rule_api_Rule.E k) := ⟨tabs, ctOf_ok (all_cons (restrict_Sort_1.ok k) all_nil), mtNone_ok, mixed, eqs_, flats_, mps_⟩
theorem slices_IndexFunc_api_Rule_api_Rule.ol0 : (slices_IndexFunc_api_Rule_api_Rule.cl0).Ok slices_IndexFunc_api_Rule_api_Rule.E Try.f52.results.toList 0 (bodyOf Try.f52) slices_IndexFunc_api_Rule_api_Rule.cs slices_IndexFunc_api_Rule_api_Rule.F.ret := ⟨fun z => rfl, fun k z => by
 show slices_IndexFunc_api_Rule_api_Rule.l0 (k + 1) z.1 z.2.1 z.2.2 = _
 rw [slices_IndexFunc_api_Rule_api_Rule.l0]
 kernel_rfl⟩
theorem slices_IndexFunc_api_Rule_api_Rule.q (k : Nat) (y : (List S26)) : slices_IndexFunc_api_Rule_api_Rule.p k y = slices_IndexFunc_api_Rule_api_Rule.F.run slices_IndexFunc_api_Rule_api_Rule.E Try.f52.results.toList (bodyOf Try.f52) slices_IndexFunc_api_Rule_api_Rule.cs k y := by kernel_rfl
theorem slices_IndexFunc_api_Rule_api_Rule.ok (k : Nat) : CsemOk R Try.prog 52 (slices_IndexFunc_api_Rule_api_Rule.F.sem (slices_IndexFunc_api_Rule_api_Rule.p k)) := fn_ok (F := slices_IndexFunc_api_Rule_api_Rule.F) (f := slices_IndexFunc_api_Rule_api_Rule.p) (E := slices_IndexFunc_api_Rule_api_Rule.E) slices_IndexFunc_api_Rule_api_Rule.hE (fun _ => rfl) Try.func52 (body := (bodyOf Try.f52)) rfl (by kernel_rfl) rfl (by decide) (by kernel_rfl) (cuts := slices_IndexFunc_api_Rule_api_Rule.cs) (all_cons slices_IndexFunc_api_Rule_api_Rule.ol0 all_nil) slices_IndexFunc_api_Rule_api_Rule.q k
def slices_ContainsFunc_api_Rule_api_Rule.F : FnS R ((List S26)) (Bool) := ⟨[.lf, .lf], [], (.last (dRo 5) (.fnv 38 .nil)), .lf, [], (.last dBool .nil)⟩
def slices_ContainsFunc_api_Rule_api_Rule.p (k : Nat) (y : (List S26)) : Option (Bool) := slices_ContainsFunc_api_Rule_api_Rule.f k y
def slices_ContainsFunc_api_Rule_api_Rule.E (k : Nat) : Env R := ⟨tabOf tabL, ctOf [(52, (slices_IndexFunc_api_Rule_api_Rule.F.sem (slices_IndexFunc_api_Rule_api_Rule.p k)))], mtNone, fun _ => false, codes, rts, 9, fun _ => [], owns, [], eqtOf eqs, fun _ => false, flats, mpsOf mps, byt_⟩
def slices_ContainsFunc_api_Rule_api_Rule.cs : List (CutS R (Bool)) := []
theorem slices_ContainsFunc_api_Rule_api_Rule.hE (k : Nat) : EnvOk Try.prog (slices_ContainsFunc_api_Rule_api_Rule.E k) := ⟨tabs, ctOf_ok (all_cons (slices_IndexFunc_api_Rule_api_Rule.ok k) all_nil), mtNone_ok, mixed, eqs_, flats_, mps_⟩
theorem slices_ContainsFunc_api_Rule_api_Rule.q (k : Nat) (y : (List S26)) : slices_ContainsFunc_api_Rule_api_Rule.p k y = slices_ContainsFunc_api_Rule_api_Rule.F.run slices_ContainsFunc_api_Rule_api_Rule.E Try.f37.results.toList (bodyOf Try.f37) slices_ContainsFunc_api_Rule_api_Rule.cs k y := by kernel_rfl
theorem slices_ContainsFunc_api_Rule_api_Rule.ok (k : Nat) : CsemOk R Try.prog 37 (slices_ContainsFunc_api_Rule_api_Rule.F.sem (slices_ContainsFunc_api_Rule_api_Rule.p k)) := fn_ok (F := slices_ContainsFunc_api_Rule_api_Rule.F) (f := slices_ContainsFunc_api_Rule_api_Rule.p) (E := slices_ContainsFunc_api_Rule_api_Rule.E) slices_ContainsFunc_api_Rule_api_Rule.hE (fun _ => rfl) Try.func37 (body := (bodyOf Try.f37)) rfl (by kernel_rfl) rfl (by decide) (by kernel_rfl) (cuts := slices_ContainsFunc_api_Rule_api_Rule.cs) all_nil slices_ContainsFunc_api_Rule_api_Rule.q k
def slices_Clone_api_Rule_api_Rule.F : FnS R ((List S26)) ((List S26)) := ⟨[.lf], [], (.last (dRo 5) .nil), .lf, [.row 5 26], (.row 5 0 (.last (dRo 5) .nil))⟩
def slices_Clone_api_Rule_api_Rule.p (k : Nat) (y : (List S26)) : Option ((List S26)) := slices_Clone_api_Rule_api_Rule.f y
def slices_Clone_api_Rule_api_Rule.E (k : Nat) : Env R := ⟨tabOf tabL, ctOf [], mtNone, fun _ => false, codes, rts, 8, fun _ => [], owns, [some (.row 5 26)], eqtOf eqs, fun _ => false, flats, mpsOf mps, byt_⟩
def slices_Clone_api_Rule_api_Rule.cs : List (CutS R ((List S26))) := []
theorem slices_Clone_api_Rule_api_Rule.hE (k : Nat) : EnvOk Try.prog (slices_Clone_api_Rule_api_Rule.E k) := ⟨tabs, ctOf_ok all_nil, mtNone_ok, mixed, eqs_, flats_, mps_⟩
theorem slices_Clone_api_Rule_api_Rule.q (k : Nat) (y : (List S26)) : slices_Clone_api_Rule_api_Rule.p k y = slices_Clone_api_Rule_api_Rule.F.run slices_Clone_api_Rule_api_Rule.E Try.f39.results.toList (bodyOf Try.f39) slices_Clone_api_Rule_api_Rule.cs k y := by kernel_rfl
theorem slices_Clone_api_Rule_api_Rule.ok (k : Nat) : CsemOk R Try.prog 39 (slices_Clone_api_Rule_api_Rule.F.sem (slices_Clone_api_Rule_api_Rule.p k)) := fn_ok (F := slices_Clone_api_Rule_api_Rule.F) (f := slices_Clone_api_Rule_api_Rule.p) (E := slices_Clone_api_Rule_api_Rule.E) slices_Clone_api_Rule_api_Rule.hE (fun _ => rfl) Try.func39 (body := (bodyOf Try.f39)) rfl (by kernel_rfl) rfl (by decide) (by kernel_rfl) (cuts := slices_Clone_api_Rule_api_Rule.cs) all_nil slices_Clone_api_Rule_api_Rule.q k
def cmp_isNaN_uint32.F : FnS R (Int) (Bool) := ⟨[.lf], [], (.last (dInt .u32) .nil), .lf, [], (.last dBool .nil)⟩
def cmp_isNaN_uint32.p (k : Nat) (y : Int) : Option (Bool) := cmp_isNaN_uint32.f y
def cmp_isNaN_uint32.E (k : Nat) : Env R := ⟨tabOf tabL, ctOf [], mtNone, fun _ => false, codes, rts, 6, fun _ => [], owns, [], eqtOf eqs, fun _ => false, flats, mpsOf mps, byt_⟩
def cmp_isNaN_uint32.cs : List (CutS R (Bool)) := []
theorem cmp_isNaN_uint32.hE (k : Nat) : EnvOk Try.prog (cmp_isNaN_uint32.E k) := ⟨tabs, ctOf_ok all_nil, mtNone_ok, mixed, eqs_, flats_, mps_⟩
theorem cmp_isNaN_uint32.q (k : Nat) (y : Int) : cmp_isNaN_uint32.p k y = cmp_isNaN_uint32.F.run cmp_isNaN_uint32.E Try.f54.results.toList (bodyOf Try.f54) cmp_isNaN_uint32.cs k y := by kernel_rfl
theorem cmp_isNaN_uint32.ok (k : Nat) : CsemOk R Try.prog 54 (cmp_isNaN_uint32.F.sem (cmp_isNaN_uint32.p k)) := fn_ok (F := cmp_isNaN_uint32.F) (f := cmp_isNaN_uint32.p) (E := cmp_isNaN_uint32.E) cmp_isNaN_uint32.hE (fun _ => rfl) Try.func54 (body := (bodyOf Try.f54)) rfl (by kernel_rfl) rfl (by decide) (by kernel_rfl) (cuts := cmp_isNaN_uint32.cs) all_nil cmp_isNaN_uint32.q k
def cmp_Compare_uint32.F : FnS R (Int × Int) (Int) := ⟨[.lf, .lf], [], (.cons (dInt .u32) (.last (dInt .u32) .nil)), .lf, [], (.last (dInt .i64) .nil)⟩
def cmp_Compare_uint32.p (k : Nat) (y : Int × Int) : Option (Int) := cmp_Compare_uint32.f y.1 y.2
def cmp_Compare_uint32.E (k : Nat) : Env R := ⟨tabOf tabL, ctOf [(54, (cmp_isNaN_uint32.F.sem (cmp_isNaN_uint32.p k)))], mtNone, fun _ => false, codes, rts, 20, fun _ => [], owns, [], eqtOf eqs, fun _ => false, flats, mpsOf mps, byt_⟩
def cmp_Compare_uint32.cs : List (CutS R (Int)) := []
theorem cmp_Compare_uint32.hE (k : Nat) : EnvOk Try.prog (cmp_Compare_uint32.E k) := ⟨tabs, ctOf_ok (all_cons (cmp_isNaN_uint32.ok k) all_nil), mtNone_ok, mixed, eqs_, flats_, mps_⟩
theorem cmp_Compare_uint32.q (k : Nat) (y : Int × Int) : cmp_Compare_uint32.p k y = cmp_Compare_uint32.F.run cmp_Compare_uint32.E Try.f43.results.toList (bodyOf Try.f43) cmp_Compare_uint32.cs k y := by kernel_rfl
theorem cmp_Compare_uint32.ok (k : Nat) : CsemOk R Try.prog 43 (cmp_Compare_uint32.F.sem (cmp_Compare_uint32.p k)) := fn_ok (F := cmp_Compare_uint32.F) (f := cmp_Compare_uint32.p) (E := cmp_Compare_uint32.E) cmp_Compare_uint32.hE (fun _ => rfl) Try.func43 (body := (bodyOf Try.f43)) rfl (by kernel_rfl) rfl (by decide) (by kernel_rfl) (cuts := cmp_Compare_uint32.cs) all_nil cmp_Compare_uint32.q k
def cmp_isNaN_int.F : FnS R (Int) (Bool) := ⟨[.lf], [], (.last (dInt .i64) .nil), .lf, [], (.last dBool .nil)⟩
def cmp_isNaN_int.p (k : Nat) (y : Int) : Option (Bool) := cmp_isNaN_int.f y
def cmp_isNaN_int.E (k : Nat) : Env R := ⟨tabOf tabL, ctOf [], mtNone, fun _ => false, codes, rts, 6, fun _ => [], owns, [], eqtOf eqs, fun _ => false, flats, mpsOf mps, byt_⟩
def cmp_isNaN_int.cs : List (CutS R (Bool)) := []
theorem cmp_isNaN_int.hE (k : Nat) : EnvOk Try.prog (cmp_isNaN_int.E k) := ⟨tabs, ctOf_ok all_nil, mtNone_ok, mixed, eqs_, flats_, mps_⟩
theorem cmp_isNaN_int.q (k : Nat) (y : Int) : cmp_isNaN_int.p k y = cmp_isNaN_int.F.run cmp_isNaN_int.E Try.f55.results.toList (bodyOf Try.f55) cmp_isNaN_int.cs k y := by kernel_rfl
theorem cmp_isNaN_int.ok (k : Nat) : CsemOk R Try.prog 55 (cmp_isNaN_int.F.sem (cmp_isNaN_int.p k)) := fn_ok (F := cmp_isNaN_int.F) (f := cmp_isNaN_int.p) (E := cmp_isNaN_int.E) cmp_isNaN_int.hE (fun _ => rfl) Try.func55 (body := (bodyOf Try.f55)) rfl (by kernel_rfl) rfl (by decide) (by kernel_rfl) (cuts := cmp_isNaN_int.cs) all_nil cmp_isNaN_int.q k
def cmp_Compare_int.F : FnS R (Int × Int) (Int) := ⟨[.lf, .lf], [], (.cons (dInt .i64) (.last (dInt .i64) .nil)), .lf, [], (.last (dInt .i64) .nil)⟩
def cmp_Compare_int.p (k : Nat) (y : Int × Int) : Option (Int) := cmp_Compare_int.f y.1 y.2
def cmp_Compare_int.E (k : Nat) : Env R := ⟨tabOf tabL, ctOf [(55, (cmp_isNaN_int.F.sem (cmp_isNaN_int.p k)))], mtNone, fun _ => false, codes, rts, 20, fun _ => [], owns, [], eqtOf eqs, fun _ => false, flats, mpsOf mps, byt_⟩
def cmp_Compare_int.cs : List (CutS R (Int)) := []
theorem cmp_Compare_int.hE (k : Nat) : EnvOk Try.prog (cmp_Compare_int.E k) := ⟨tabs, ctOf_ok (all_cons (cmp_isNaN_int.ok k) all_nil), mtNone_ok, mixed, eqs_, flats_, mps_⟩
theorem cmp_Compare_int.q (k : Nat) (y : Int × Int) : cmp_Compare_int.p k y = cmp_Compare_int.F.run cmp_Compare_int.E Try.f44.results.toList (bodyOf Try.f44) cmp_Compare_int.cs k y := by kernel_rfl
theorem cmp_Compare_int.ok (k : Nat) : CsemOk R Try.prog 44 (cmp_Compare_int.F.sem (cmp_Compare_int.p k)) := fn_ok (F := cmp_Compare_int.F) (f := cmp_Compare_int.p) (E := cmp_Compare_int.E) cmp_Compare_int.hE (fun _ => rfl) Try.func44 (body := (bodyOf Try.f44)) rfl (by kernel_rfl) rfl (by decide) (by kernel_rfl) (cuts := cmp_Compare_int.cs) all_nil cmp_Compare_int.q k
def cmp_Or_int.F : FnS R ((List Int)) (Int) := ⟨[.lf], [], (.last (dRo 6) .nil), .lf, [], (.last (dInt .i64) .nil)⟩
def cmp_Or_int.p (k : Nat) (y : (List Int)) : Option (Int) := cmp_Or_int.f k y
def cmp_Or_int.E (k : Nat) : Env R := ⟨tabOf tabL, ctOf [], mtNone, fun _ => false, codes, rts, 18, fun _ => [], owns, [], eqtOf eqs, fun _ => false, flats, mpsOf mps, byt_⟩
def cmp_Or_int.cl0 : CutS R (Int) := ⟨6, [3, 6, 7, 8], [], [.lf, .lf, .lf, .lf], [], Int × (List Int) × Int × Int, (.cons (dInt .i64) (.cons (dRo 6) (.cons (dInt .i64) (.last (dInt .i64) .nil)))), fun k z => cmp_Or_int.l0 k z.1 z.2.1 z.2.2.1 z.2.2.2⟩
def cmp_Or_int.cs : List (CutS R (Int)) := [cmp_Or_int.cl0]
theorem cmp_Or_int.hE (k : Nat) : EnvOk Try.prog (cmp_Or_int.E k) := ⟨tabs, ctOf_ok all_nil, mtNone_ok, mixed, eqs_, flats_, mps_⟩
theorem cmp_Or_int.ol0 : (cmp_Or_int.cl0).Ok cmp_Or_int.E Try.f42.results.toList 0 (bodyOf Try.f42) cmp_Or_int.cs cmp_Or_int.F.ret := ⟨fun z => rfl, fun k z => by
 show cmp_Or_int.l0 (k + 1) z.1 z.2.1 z.2.2.1 z.2.2.2 = _
 rw [cmp_Or_int.l0]
 kernel_rfl⟩
theorem cmp_Or_int.q (k : Nat) (y : (List Int)) : cmp_Or_int.p k y = cmp_Or_int.F.run cmp_Or_int.E Try.f42.results.toList (bodyOf Try.f42) cmp_Or_int.cs k y := by kernel_rfl
theorem cmp_Or_int.ok (k : Nat) : CsemOk R Try.prog 42 (cmp_Or_int.F.sem (cmp_Or_int.p k)) := fn_ok (F := cmp_Or_int.F) (f := cmp_Or_int.p) (E := cmp_Or_int.E) cmp_Or_int.hE (fun _ => rfl) Try.func42 (body := (bodyOf Try.f42)) rfl (by kernel_rfl) rfl (by decide) (by kernel_rfl) (cuts := cmp_Or_int.cs) (all_cons cmp_Or_int.ol0 all_nil) cmp_Or_int.q k
def restrict_Sort_2.F : FnS R (Int × Int × Int × Int × Int × Int) (Int) := ⟨[.agg 3, .agg 3], [], (.cons (dInt .u32) (.cons (dInt .i64) (.cons (dInt .i64) (.cons (dInt .u32) (.cons (dInt .i64) (.last (dInt .i64) .nil)))))), .lf, [], (.last (dInt .i64) .nil)⟩
def restrict_Sort_2.p (k : Nat) (y : Int × Int × Int × Int × Int × Int) : Option (Int) := restrict_Sort_2.f k y.1 y.2.1 y.2.2.1 y.2.2.2.1 y.2.2.2.2.1 y.2.2.2.2.2
def restrict_Sort_2.E (k : Nat) : Env R := ⟨tabOf tabL, ctOf [(43, (cmp_Compare_uint32.F.sem (cmp_Compare_uint32.p k))), (44, (cmp_Compare_int.F.sem (cmp_Compare_int.p k))), (42, (cmp_Or_int.F.sem (cmp_Or_int.p k)))], mtNone, fun f => memB f [42, 43, 44], codes, rts, 17, fun i => ordOf [(1, [(0, 0), (1, 0), (2, 0), (3, 0), (4, 0), (5, 0), (6, 0), (7, 0), (8, 0), (9, 0), (10, 1), (11, 0), (12, 0)])] i, owns, [], eqtOf eqs, fun _ => false, flats, mpsOf mps, byt_⟩
def restrict_Sort_2.cs : List (CutS R (Int)) := []
theorem restrict_Sort_2.hE (k : Nat) : EnvOk Try.prog (restrict_Sort_2.E k) := ⟨tabs, ctOf_ok (all_cons (cmp_Compare_uint32.ok k) (all_cons (cmp_Compare_int.ok k) (all_cons (cmp_Or_int.ok k) all_nil))), mtNone_ok, mixed, eqs_, flats_, mps_⟩
theorem restrict_Sort_2.q (k : Nat) (y : Int × Int × Int × Int × Int × Int) : restrict_Sort_2.p k y = restrict_Sort_2.F.run restrict_Sort_2.E Try.f41.results.toList (bodyOf Try.f41) restrict_Sort_2.cs k y := by kernel_rfl
theorem restrict_Sort_2.ok (k : Nat) : CsemOk R Try.prog 41 (restrict_Sort_2.F.sem (restrict_Sort_2.p k)) := fn_ok (F := restrict_Sort_2.F) (f := restrict_Sort_2.p) (E := restrict_Sort_2.E) restrict_Sort_2.hE (fun _ => rfl) Try.func41 (body := (bodyOf Try.f41)) rfl (by kernel_rfl) rfl (by decide) (by kernel_rfl) (cuts := restrict_Sort_2.cs) all_nil restrict_Sort_2.q k
def slices_insertionSortCmpFunc_api_Rule.F : FnS R (Int × Int × (List S26)) ((List S26)) := ⟨[.lf, .lf, .lf, .lf], [.row 5 26], (.row 5 0 (.cons (dInt .i64) (.cons (dInt .i64) (.fnv 41 (.last (dRo 5) .nil))))), .tup [], [.row 5 26], (.last (dRo 5) .nil)⟩
def slices_insertionSortCmpFunc_api_Rule.p (k : Nat) (y : Int × Int × (List S26)) : Option ((List S26)) := slices_insertionSortCmpFunc_api_Rule.f k y.1 y.2.1 y.2.2
def slices_insertionSortCmpFunc_api_Rule.E (k : Nat) : Env R := ⟨tabOf tabL, ctOf [(41, (restrict_Sort_2.F.sem (restrict_Sort_2.p k)))], mtNone, fun _ => false, codes, rts, 53, fun i => ordOf [(4, [(0, 0), (1, 0), (2, 0), (3, 0), (4, 0), (5, 0), (6, 0), (7, 0), (8, 0), (9, 0), (10, 0), (11, 0), (12, 0), (13, 0), (14, 2), (15, 0), (16, 0)]), (6, [(0, 0), (1, 0), (2, 0), (3, 0), (4, 0), (5, 0), (6, 0), (7, 0), (8, 0), (9, 0), (10, 0), (11, 0), (12, 0), (13, 0), (14, 0), (15, 2), (16, 0), (17, 2)])] i, owns, [], eqtOf eqs, fun _ => false, flats, mpsOf mps, byt_⟩
def slices_insertionSortCmpFunc_api_Rule.cl0 : CutS R ((List S26)) := ⟨2, [0, 1, 2, 3, 8], [], [.lf, .lf, .lf, .lf, .lf], [.row 5 26], Int × Int × Int × (List S26), (.row 5 0 (.cons (dInt .i64) (.cons (dInt .i64) (.fnv 41 (.cons (dInt .i64) (.last (dRo 5) .nil)))))), fun k z => slices_insertionSortCmpFunc_api_Rule.l0 k z.1 z.2.1 z.2.2.1 z.2.2.2⟩
def slices_insertionSortCmpFunc_api_Rule.cl1 : CutS R ((List S26)) := ⟨8, [0, 1, 2, 3, 8, 9], [], [.lf, .lf, .lf, .lf, .lf, .lf], [.row 5 26], Int × Int × Int × Int × (List S26), (.row 5 0 (.cons (dInt .i64) (.cons (dInt .i64) (.fnv 41 (.cons (dInt .i64) (.cons (dInt .i64) (.last (dRo 5) .nil))))))), fun k z => slices_insertionSortCmpFunc_api_Rule.l1 k z.1 z.2.1 z.2.2.1 z.2.2.2.1 z.2.2.2.2⟩
def slices_insertionSortCmpFunc_api_Rule.cs : List (CutS R ((List S26))) := [slices_insertionSortCmpFunc_api_Rule.cl0, slices_insertionSortCmpFunc_api_Rule.cl1]
theorem slices_insertionSortCmpFunc_api_Rule.hE (k : Nat) : EnvOk Try.prog (slices_insertionSortCmpFunc_api_Rule.E k) := ⟨tabs, ctOf_ok (all_cons (restrict_Sort_2.ok k) all_nil), mtNone_ok, mixed, eqs_, flats_, mps_⟩
theorem slices_insertionSortCmpFunc_api_Rule.ol0 : (slices_insertionSortCmpFunc_api_Rule.cl0).Ok slices_insertionSortCmpFunc_api_Rule.E Try.f58.results.toList 1 (bodyOf Try.f58) slices_insertionSortCmpFunc_api_Rule.cs slices_insertionSortCmpFunc_api_Rule.F.ret := ⟨fun z => rfl, fun k z => by
 show slices_insertionSortCmpFunc_api_Rule.l0 (k + 1) z.1 z.2.1 z.2.2.1 z.2.2.2 = _
 rw [slices_insertionSortCmpFunc_api_Rule.l0]
 kernel_rfl⟩
theorem slices_insertionSortCmpFunc_api_Rule.ol1 : (slices_insertionSortCmpFunc_api_Rule.cl1).Ok slices_insertionSortCmpFunc_api_Rule.E Try.f58.results.toList 1 (bodyOf Try.f58) slices_insertionSortCmpFunc_api_Rule.cs slices_insertionSortCmpFunc_api_Rule.F.ret := ⟨fun z => rfl, fun k z => by
 show slices_insertionSortCmpFunc_api_Rule.l1 (k + 1) z.1 z.2.1 z.2.2.1 z.2.2.2.1 z.2.2.2.2 = _
 rw [slices_insertionSortCmpFunc_api_Rule.l1]
 kernel_rfl⟩
theorem slices_insertionSortCmpFunc_api_Rule.q (k : Nat) (y : Int × Int × (List S26)) : slices_insertionSortCmpFunc_api_Rule.p k y = slices_insertionSortCmpFunc_api_Rule.F.run slices_insertionSortCmpFunc_api_Rule.E Try.f58.results.toList (bodyOf Try.f58) slices_insertionSortCmpFunc_api_Rule.cs k y := by kernel_rfl
theorem slices_insertionSortCmpFunc_api_Rule.ok (k : Nat) : CsemOk R Try.prog 58 (slices_insertionSortCmpFunc_api_Rule.F.sem (slices_insertionSortCmpFunc_api_Rule.p k)) := fn_ok (F := slices_insertionSortCmpFunc_api_Rule.F) (f := slices_insertionSortCmpFunc_api_Rule.p) (E := slices_insertionSortCmpFunc_api_Rule.E) slices_insertionSortCmpFunc_api_Rule.hE (fun _ => rfl) Try.func58 (body := (bodyOf Try.f58)) rfl (by kernel_rfl) rfl (by decide) (by kernel_rfl) (cuts := slices_insertionSortCmpFunc_api_Rule.cs) (all_cons slices_insertionSortCmpFunc_api_Rule.ol0 (all_cons slices_insertionSortCmpFunc_api_Rule.ol1 all_nil)) slices_insertionSortCmpFunc_api_Rule.q k
def slices_swapRangeCmpFunc_api_Rule.F : FnS R (Int × Int × Int × (List S26)) ((List S26)) := ⟨[.lf, .lf, .lf, .lf, .lf], [.row 5 26], (.row 5 0 (.cons (dInt .i64) (.cons (dInt .i64) (.cons (dInt .i64) (.fnv 41 (.last (dRo 5) .nil)))))), .tup [], [.row 5 26], (.last (dRo 5) .nil)⟩
def slices_swapRangeCmpFunc_api_Rule.p (k : Nat) (y : Int × Int × Int × (List S26)) : Option ((List S26)) := slices_swapRangeCmpFunc_api_Rule.f k y.1 y.2.1 y.2.2.1 y.2.2.2
def slices_swapRangeCmpFunc_api_Rule.E (k : Nat) : Env R := ⟨tabOf tabL, ctOf [], mtNone, fun _ => false, codes, rts, 38, fun i => ordOf [(3, [(0, 0), (1, 0), (2, 0), (3, 0), (4, 0), (5, 0), (6, 0), (7, 0), (8, 0), (9, 0), (10, 0), (11, 0), (12, 0), (13, 0), (14, 0), (15, 0), (16, 0), (17, 0), (18, 0), (19, 0), (20, 0), (21, 2), (22, 0), (23, 2)])] i, owns, [], eqtOf eqs, fun _ => false, flats, mpsOf mps, byt_⟩
def slices_swapRangeCmpFunc_api_Rule.cl0 : CutS R ((List S26)) := ⟨2, [0, 1, 2, 3, 10], [], [.lf, .lf, .lf, .lf, .lf], [.row 5 26], Int × Int × Int × Int × (List S26), (.row 5 0 (.cons (dInt .i64) (.cons (dInt .i64) (.cons (dInt .i64) (.cons (dInt .i64) (.last (dRo 5) .nil)))))), fun k z => slices_swapRangeCmpFunc_api_Rule.l0 k z.1 z.2.1 z.2.2.1 z.2.2.2.1 z.2.2.2.2⟩
def slices_swapRangeCmpFunc_api_Rule.cs : List (CutS R ((List S26))) := [slices_swapRangeCmpFunc_api_Rule.cl0]
theorem slices_swapRangeCmpFunc_api_Rule.hE (k : Nat) : EnvOk Try.prog (slices_swapRangeCmpFunc_api_Rule.E k) := ⟨tabs, ctOf_ok all_nil, mtNone_ok, mixed, eqs_, flats_, mps_⟩
theorem slices_swapRangeCmpFunc_api_Rule.ol0 : (slices_swapRangeCmpFunc_api_Rule.cl0).Ok slices_swapRangeCmpFunc_api_Rule.E Try.f76.results.toList 1 (bodyOf Try.f76) slices_swapRangeCmpFunc_api_Rule.cs slices_swapRangeCmpFunc_api_Rule.F.ret := ⟨fun z => rfl, fun k z => by
 show slices_swapRangeCmpFunc_api_Rule.l0 (k + 1) z.1 z.2.1 z.2.2.1 z.2.2.2.1 z.2.2.2.2 = _
 rw [slices_swapRangeCmpFunc_api_Rule.l0]
 kernel_rfl⟩
theorem slices_swapRangeCmpFunc_api_Rule.q (k : Nat) (y : Int × Int × Int × (List S26)) : slices_swapRangeCmpFunc_api_Rule.p k y = slices_swapRangeCmpFunc_api_Rule.F.run slices_swapRangeCmpFunc_api_Rule.E Try.f76.results.toList (bodyOf Try.f76) slices_swapRangeCmpFunc_api_Rule.cs k y := by kernel_rfl
theorem slices_swapRangeCmpFunc_api_Rule.ok (k : Nat) : CsemOk R Try.prog 76 (slices_swapRangeCmpFunc_api_Rule.F.sem (slices_swapRangeCmpFunc_api_Rule.p k)) := fn_ok (F := slices_swapRangeCmpFunc_api_Rule.F) (f := slices_swapRangeCmpFunc_api_Rule.p) (E := slices_swapRangeCmpFunc_api_Rule.E) slices_swapRangeCmpFunc_api_Rule.hE (fun _ => rfl) Try.func76 (body := (bodyOf Try.f76)) rfl (by kernel_rfl) rfl (by decide) (by kernel_rfl) (cuts := slices_swapRangeCmpFunc_api_Rule.cs) (all_cons slices_swapRangeCmpFunc_api_Rule.ol0 all_nil) slices_swapRangeCmpFunc_api_Rule.q k
def slices_rotateCmpFunc_api_Rule.F : FnS R (Int × Int × Int × (List S26)) ((List S26)) := ⟨[.lf, .lf, .lf, .lf, .lf], [.row 5 26], (.row 5 0 (.cons (dInt .i64) (.cons (dInt .i64) (.cons (dInt .i64) (.fnv 41 (.last (dRo 5) .nil)))))), .tup [], [.row 5 26], (.last (dRo 5) .nil)⟩
def slices_rotateCmpFunc_api_Rule.p (k : Nat) (y : Int × Int × Int × (List S26)) : Option ((List S26)) := slices_rotateCmpFunc_api_Rule.f k y.1 y.2.1 y.2.2.1 y.2.2.2
def slices_rotateCmpFunc_api_Rule.E (k : Nat) : Env R := ⟨tabOf tabL, ctOf [(76, (slices_swapRangeCmpFunc_api_Rule.F.sem (slices_swapRangeCmpFunc_api_Rule.p k)))], mtNone, fun _ => false, codes, rts, 58, fun _ => [], owns, [], eqtOf eqs, fun _ => false, flats, mpsOf mps, byt_⟩
def slices_rotateCmpFunc_api_Rule.cl0 : CutS R ((List S26)) := ⟨4, [0, 2, 4, 10, 11], [], [.lf, .lf, .lf, .lf, .lf], [.row 5 26], Int × Int × Int × (List S26), (.row 5 0 (.cons (dInt .i64) (.fnv 41 (.cons (dInt .i64) (.cons (dInt .i64) (.last (dRo 5) .nil)))))), fun k z => slices_rotateCmpFunc_api_Rule.l0 k z.1 z.2.1 z.2.2.1 z.2.2.2⟩
def slices_rotateCmpFunc_api_Rule.cs : List (CutS R ((List S26))) := [slices_rotateCmpFunc_api_Rule.cl0]
theorem slices_rotateCmpFunc_api_Rule.hE (k : Nat) : EnvOk Try.prog (slices_rotateCmpFunc_api_Rule.E k) := ⟨tabs, ctOf_ok (all_cons (slices_swapRangeCmpFunc_api_Rule.ok k) all_nil), mtNone_ok, mixed, eqs_, flats_, mps_⟩
theorem slices_rotateCmpFunc_api_Rule.ol0 : (slices_rotateCmpFunc_api_Rule.cl0).Ok slices_rotateCmpFunc_api_Rule.E Try.f70.results.toList 1 (bodyOf Try.f70) slices_rotateCmpFunc_api_Rule.cs slices_rotateCmpFunc_api_Rule.F.ret := ⟨fun z => rfl, fun k z => by
 show slices_rotateCmpFunc_api_Rule.l0 (k + 1) z.1 z.2.1 z.2.2.1 z.2.2.2 = _
 rw [slices_rotateCmpFunc_api_Rule.l0]
 kernel_rfl⟩
theorem slices_rotateCmpFunc_api_Rule.q (k : Nat) (y : Int × Int × Int × (List S26)) : slices_rotateCmpFunc_api_Rule.p k y = slices_rotateCmpFunc_api_Rule.F.run slices_rotateCmpFunc_api_Rule.E Try.f70.results.toList (bodyOf Try.f70) slices_rotateCmpFunc_api_Rule.cs k y := by kernel_rfl
theorem slices_rotateCmpFunc_api_Rule.ok (k : Nat) : CsemOk R Try.prog 70 (slices_rotateCmpFunc_api_Rule.F.sem (slices_rotateCmpFunc_api_Rule.p k)) := fn_ok (F := slices_rotateCmpFunc_api_Rule.F) (f := slices_rotateCmpFunc_api_Rule.p) (E := slices_rotateCmpFunc_api_Rule.E) slices_rotateCmpFunc_api_Rule.hE (fun _ => rfl) Try.func70 (body := (bodyOf Try.f70)) rfl (by kernel_rfl) rfl (by decide) (by kernel_rfl) (cuts := slices_rotateCmpFunc_api_Rule.cs) (all_cons slices_rotateCmpFunc_api_Rule.ol0 all_nil) slices_rotateCmpFunc_api_Rule.q k
def slices_symMergeCmpFunc_api_Rule.F : FnG R (Int × Int × Int × (List S26)) ((List S26)) := ⟨[.lf, .lf, .lf, .lf, .lf], [.row 5 26], (.row 5 0 (.cons (dInt .i64) (.cons (dInt .i64) (.cons (dInt .i64) (.fnv 41 (.last (dRo 5) .nil)))))), (.one (.tup []) [.row 5 26] ((.last (dRo 5) .nil)))⟩
def slices_symMergeCmpFunc_api_Rule.p (k : Nat) (y : Int × Int × Int × (List S26)) : Option ((List S26)) := slices_symMergeCmpFunc_api_Rule.f k y.1 y.2.1 y.2.2.1 y.2.2.2
def slices_symMergeCmpFunc_api_Rule.E (k : Nat) : Env R := ⟨tabOf tabL, ctOf [(41, (restrict_Sort_2.F.sem (restrict_Sort_2.p k))), (70, (slices_rotateCmpFunc_api_Rule.F.sem (slices_rotateCmpFunc_api_Rule.p k))), (59, (slices_symMergeCmpFunc_api_Rule.F.sem (slices_symMergeCmpFunc_api_Rule.p k)))], mtNone, fun _ => false, codes, rts, 220, fun i => ordOf [(5, [(0, 0), (1, 0), (2, 0), (3, 0), (4, 0), (5, 0), (6, 0), (7, 0), (8, 0), (9, 2), (10, 0)]), (11, [(0, 0), (1, 0), (2, 0), (3, 0), (4, 0), (5, 0), (6, 0), (7, 0), (8, 0), (9, 0), (10, 0), (11, 0), (12, 0), (13, 0), (14, 0), (15, 2), (16, 0), (17, 2)]), (17, [(0, 0), (1, 0), (2, 0), (3, 0), (4, 0), (5, 0), (6, 0), (7, 0), (8, 0), (9, 2), (10, 0), (11, 0)]), (23, [(0, 0), (1, 0), (2, 0), (3, 0), (4, 0), (5, 0), (6, 0), (7, 0), (8, 0), (9, 0), (10, 0), (11, 0), (12, 0), (13, 0), (14, 0), (15, 2), (16, 0), (17, 2)]), (35, [(0, 0), (1, 0), (2, 0), (3, 0), (4, 0), (5, 0), (6, 0), (7, 0), (8, 0), (9, 0), (10, 0), (11, 2), (12, 0), (13, 0)])] i, owns, [], eqtOf eqs, fun _ => false, flats, mpsOf mps, byt_⟩
def slices_symMergeCmpFunc_api_Rule.cj0 : CutS R ((List S26)) := ⟨64, [0, 1, 2, 3, 4, 18, 19, 20, 21], [], [.lf, .lf, .lf, .lf, .lf, .lf, .lf, .lf, .lf], [.row 5 26], Int × Int × Int × Int × Int × Int × Int × (List S26), (.row 5 0 (.cons (dInt .i64) (.cons (dInt .i64) (.cons (dInt .i64) (.fnv 41 (.cons (dInt .i64) (.cons (dInt .i64) (.cons (dInt .i64) (.cons (dInt .i64) (.last (dRo 5) .nil)))))))))), fun k z => slices_symMergeCmpFunc_api_Rule.j0 k z.1 z.2.1 z.2.2.1 z.2.2.2.1 z.2.2.2.2.1 z.2.2.2.2.2.1 z.2.2.2.2.2.2.1 z.2.2.2.2.2.2.2⟩
def slices_symMergeCmpFunc_api_Rule.cl0 : CutS R ((List S26)) := ⟨66, [0, 1, 2, 3, 4, 18, 19, 20, 21, 22], [], [.lf, .lf, .lf, .lf, .lf, .lf, .lf, .lf, .lf, .lf], [.row 5 26], Int × Int × Int × Int × Int × Int × Int × Int × (List S26), (.row 5 0 (.cons (dInt .i64) (.cons (dInt .i64) (.cons (dInt .i64) (.fnv 41 (.cons (dInt .i64) (.cons (dInt .i64) (.cons (dInt .i64) (.cons (dInt .i64) (.cons (dInt .i64) (.last (dRo 5) .nil))))))))))), fun k z => slices_symMergeCmpFunc_api_Rule.l0 k z.1 z.2.1 z.2.2.1 z.2.2.2.1 z.2.2.2.2.1 z.2.2.2.2.2.1 z.2.2.2.2.2.2.1 z.2.2.2.2.2.2.2.1 z.2.2.2.2.2.2.2.2⟩
def slices_symMergeCmpFunc_api_Rule.cj1 : CutS R ((List S26)) := ⟨82, [0, 1, 3, 4, 18, 20, 24], [], [.lf, .lf, .lf, .lf, .lf, .lf, .lf], [.row 5 26], Int × Int × Int × Int × Int × (List S26), (.row 5 0 (.cons (dInt .i64) (.cons (dInt .i64) (.fnv 41 (.cons (dInt .i64) (.cons (dInt .i64) (.cons (dInt .i64) (.last (dRo 5) .nil)))))))), fun k z => slices_symMergeCmpFunc_api_Rule.j1 k z.1 z.2.1 z.2.2.1 z.2.2.2.1 z.2.2.2.2.1 z.2.2.2.2.2⟩
def slices_symMergeCmpFunc_api_Rule.cl1 : CutS R ((List S26)) := ⟨30, [0, 2, 4, 14, 15], [], [.lf, .lf, .lf, .lf, .lf], [.row 5 26], Int × Int × Int × (List S26), (.row 5 0 (.cons (dInt .i64) (.fnv 41 (.cons (dInt .i64) (.cons (dInt .i64) (.last (dRo 5) .nil)))))), fun k z => slices_symMergeCmpFunc_api_Rule.l1 k z.1 z.2.1 z.2.2.1 z.2.2.2⟩
def slices_symMergeCmpFunc_api_Rule.cl2 : CutS R ((List S26)) := ⟨42, [0, 14, 17], [], [.lf, .lf, .lf], [.row 5 26], Int × Int × (List S26), (.row 5 0 (.cons (dInt .i64) (.cons (dInt .i64) (.last (dRo 5) .nil)))), fun k z => slices_symMergeCmpFunc_api_Rule.l2 k z.1 z.2.1 z.2.2⟩
def slices_symMergeCmpFunc_api_Rule.cl3 : CutS R ((List S26)) := ⟨6, [0, 1, 4, 10, 11], [], [.lf, .lf, .lf, .lf, .lf], [.row 5 26], Int × Int × Int × (List S26), (.row 5 0 (.cons (dInt .i64) (.fnv 41 (.cons (dInt .i64) (.cons (dInt .i64) (.last (dRo 5) .nil)))))), fun k z => slices_symMergeCmpFunc_api_Rule.l3 k z.1 z.2.1 z.2.2.1 z.2.2.2⟩
def slices_symMergeCmpFunc_api_Rule.cl4 : CutS R ((List S26)) := ⟨18, [0, 10, 13], [], [.lf, .lf, .lf], [.row 5 26], Int × Int × (List S26), (.row 5 0 (.cons (dInt .i64) (.cons (dInt .i64) (.last (dRo 5) .nil)))), fun k z => slices_symMergeCmpFunc_api_Rule.l4 k z.1 z.2.1 z.2.2⟩
def slices_symMergeCmpFunc_api_Rule.cs : List (CutS R ((List S26))) := [slices_symMergeCmpFunc_api_Rule.cj0, slices_symMergeCmpFunc_api_Rule.cl0, slices_symMergeCmpFunc_api_Rule.cj1, slices_symMergeCmpFunc_api_Rule.cl1, slices_symMergeCmpFunc_api_Rule.cl2, slices_symMergeCmpFunc_api_Rule.cl3, slices_symMergeCmpFunc_api_Rule.cl4]
theorem slices_symMergeCmpFunc_api_Rule.hE (k : Nat) (hself : CsemOk R Try.prog 59 (slices_symMergeCmpFunc_api_Rule.F.sem (slices_symMergeCmpFunc_api_Rule.p k))) : EnvOk Try.prog (slices_symMergeCmpFunc_api_Rule.E k) := ⟨tabs, ctOf_ok (all_cons (restrict_Sort_2.ok k) (all_cons (slices_rotateCmpFunc_api_Rule.ok k) (all_cons hself all_nil))), mtNone_ok, mixed, eqs_, flats_, mps_⟩
theorem slices_symMergeCmpFunc_api_Rule.oj0 : (slices_symMergeCmpFunc_api_Rule.cj0).Ok slices_symMergeCmpFunc_api_Rule.E Try.f59.results.toList 1 (bodyOf Try.f59) slices_symMergeCmpFunc_api_Rule.cs slices_symMergeCmpFunc_api_Rule.F.ret := ⟨fun z => rfl, fun k z => by
 show slices_symMergeCmpFunc_api_Rule.j0 (k + 1) z.1 z.2.1 z.2.2.1 z.2.2.2.1 z.2.2.2.2.1 z.2.2.2.2.2.1 z.2.2.2.2.2.2.1 z.2.2.2.2.2.2.2 = _
 rw [slices_symMergeCmpFunc_api_Rule.j0]
 kernel_rfl⟩
theorem slices_symMergeCmpFunc_api_Rule.ol0 : (slices_symMergeCmpFunc_api_Rule.cl0).Ok slices_symMergeCmpFunc_api_Rule.E Try.f59.results.toList 1 (bodyOf Try.f59) slices_symMergeCmpFunc_api_Rule.cs slices_symMergeCmpFunc_api_Rule.F.ret := ⟨fun z => rfl, fun k z => by
 show slices_symMergeCmpFunc_api_Rule.l0 (k + 1) z.1 z.2.1 z.2.2.1 z.2.2.2.1 z.2.2.2.2.1 z.2.2.2.2.2.1 z.2.2.2.2.2.2.1 z.2.2.2.2.2.2.2.1 z.2.2.2.2.2.2.2.2 = _
 rw [slices_symMergeCmpFunc_api_Rule.l0]
 kernel_rfl⟩
theorem slices_symMergeCmpFunc_api_Rule.oj1 : (slices_symMergeCmpFunc_api_Rule.cj1).Ok slices_symMergeCmpFunc_api_Rule.E Try.f59.results.toList 1 (bodyOf Try.f59) slices_symMergeCmpFunc_api_Rule.cs slices_symMergeCmpFunc_api_Rule.F.ret := ⟨fun z => rfl, fun k z => by
 show slices_symMergeCmpFunc_api_Rule.j1 (k + 1) z.1 z.2.1 z.2.2.1 z.2.2.2.1 z.2.2.2.2.1 z.2.2.2.2.2 = _
 rw [slices_symMergeCmpFunc_api_Rule.j1]
 kernel_rfl⟩
theorem slices_symMergeCmpFunc_api_Rule.ol1 : (slices_symMergeCmpFunc_api_Rule.cl1).Ok slices_symMergeCmpFunc_api_Rule.E Try.f59.results.toList 1 (bodyOf Try.f59) slices_symMergeCmpFunc_api_Rule.cs slices_symMergeCmpFunc_api_Rule.F.ret := ⟨fun z => rfl, fun k z => by
 show slices_symMergeCmpFunc_api_Rule.l1 (k + 1) z.1 z.2.1 z.2.2.1 z.2.2.2 = _
 rw [slices_symMergeCmpFunc_api_Rule.l1]
 kernel_rfl⟩
theorem slices_symMergeCmpFunc_api_Rule.ol2 : (slices_symMergeCmpFunc_api_Rule.cl2).Ok slices_symMergeCmpFunc_api_Rule.E Try.f59.results.toList 1 (bodyOf Try.f59) slices_symMergeCmpFunc_api_Rule.cs slices_symMergeCmpFunc_api_Rule.F.ret := ⟨fun z => rfl, fun k z => by
 show slices_symMergeCmpFunc_api_Rule.l2 (k + 1) z.1 z.2.1 z.2.2 = _
 rw [slices_symMergeCmpFunc_api_Rule.l2]
 kernel_rfl⟩
theorem slices_symMergeCmpFunc_api_Rule.ol3 : (slices_symMergeCmpFunc_api_Rule.cl3).Ok slices_symMergeCmpFunc_api_Rule.E Try.f59.results.toList 1 (bodyOf Try.f59) slices_symMergeCmpFunc_api_Rule.cs slices_symMergeCmpFunc_api_Rule.F.ret := ⟨fun z => rfl, fun k z => by
 show slices_symMergeCmpFunc_api_Rule.l3 (k + 1) z.1 z.2.1 z.2.2.1 z.2.2.2 = _
 rw [slices_symMergeCmpFunc_api_Rule.l3]
 kernel_rfl⟩
theorem slices_symMergeCmpFunc_api_Rule.ol4 : (slices_symMergeCmpFunc_api_Rule.cl4).Ok slices_symMergeCmpFunc_api_Rule.E Try.f59.results.toList 1 (bodyOf Try.f59) slices_symMergeCmpFunc_api_Rule.cs slices_symMergeCmpFunc_api_Rule.F.ret := ⟨fun z => rfl, fun k z => by
 show slices_symMergeCmpFunc_api_Rule.l4 (k + 1) z.1 z.2.1 z.2.2 = _
 rw [slices_symMergeCmpFunc_api_Rule.l4]
 kernel_rfl⟩
theorem slices_symMergeCmpFunc_api_Rule.q0 (y : Int × Int × Int × (List S26)) : slices_symMergeCmpFunc_api_Rule.p 0 y = none := by kernel_rfl
theorem slices_symMergeCmpFunc_api_Rule.q (k : Nat) (y : Int × Int × Int × (List S26)) : slices_symMergeCmpFunc_api_Rule.p (k + 1) y = slices_symMergeCmpFunc_api_Rule.F.run slices_symMergeCmpFunc_api_Rule.E Try.f59.results.toList (bodyOf Try.f59) slices_symMergeCmpFunc_api_Rule.cs k y := by
 show slices_symMergeCmpFunc_api_Rule.f (k + 1) y.1 y.2.1 y.2.2.1 y.2.2.2 = _
 rw [slices_symMergeCmpFunc_api_Rule.f]
 kernel_rfl
theorem slices_symMergeCmpFunc_api_Rule.ok (k : Nat) : CsemOk R Try.prog 59 (slices_symMergeCmpFunc_api_Rule.F.sem (slices_symMergeCmpFunc_api_Rule.p k)) := fnR_ok (F := slices_symMergeCmpFunc_api_Rule.F) (f := slices_symMergeCmpFunc_api_Rule.p) (E := slices_symMergeCmpFunc_api_Rule.E) (fun _ => rfl) Try.func59 (body := (bodyOf Try.f59)) rfl (by kernel_rfl) rfl (by decide) (by kernel_rfl) (cuts := slices_symMergeCmpFunc_api_Rule.cs) (all_cons slices_symMergeCmpFunc_api_Rule.oj0 (all_cons slices_symMergeCmpFunc_api_Rule.ol0 (all_cons slices_symMergeCmpFunc_api_Rule.oj1 (all_cons slices_symMergeCmpFunc_api_Rule.ol1 (all_cons slices_symMergeCmpFunc_api_Rule.ol2 (all_cons slices_symMergeCmpFunc_api_Rule.ol3 (all_cons slices_symMergeCmpFunc_api_Rule.ol4 all_nil))))))) slices_symMergeCmpFunc_api_Rule.hE slices_symMergeCmpFunc_api_Rule.q0 slices_symMergeCmpFunc_api_Rule.q k
def slices_stableCmpFunc_api_Rule.F : FnS R (Int × (List S26)) ((List S26)) := ⟨[.lf, .lf, .lf], [.row 5 26], (.row 5 0 (.cons (dInt .i64) (.fnv 41 (.last (dRo 5) .nil)))), .tup [], [.row 5 26], (.last (dRo 5) .nil)⟩
def slices_stableCmpFunc_api_Rule.p (k : Nat) (y : Int × (List S26)) : Option ((List S26)) := slices_stableCmpFunc_api_Rule.f k y.1 y.2
def slices_stableCmpFunc_api_Rule.E (k : Nat) : Env R := ⟨tabOf tabL, ctOf [(58, (slices_insertionSortCmpFunc_api_Rule.F.sem (slices_insertionSortCmpFunc_api_Rule.p k))), (59, (slices_symMergeCmpFunc_api_Rule.F.sem (slices_symMergeCmpFunc_api_Rule.p k)))], mtNone, fun _ => false, codes, rts, 63, fun _ => [], owns, [], eqtOf eqs, fun _ => false, flats, mpsOf mps, byt_⟩
def slices_stableCmpFunc_api_Rule.cl0 : CutS R ((List S26)) := ⟨4, [0, 1, 2, 6, 7, 8], [], [.lf, .lf, .lf, .lf, .lf, .lf], [.row 5 26], Int × Int × Int × Int × (List S26), (.row 5 0 (.cons (dInt .i64) (.fnv 41 (.cons (dInt .i64) (.cons (dInt .i64) (.cons (dInt .i64) (.last (dRo 5) .nil))))))), fun k z => slices_stableCmpFunc_api_Rule.l0 k z.1 z.2.1 z.2.2.1 z.2.2.2.1 z.2.2.2.2⟩
def slices_stableCmpFunc_api_Rule.cl1 : CutS R ((List S26)) := ⟨14, [0, 1, 2, 6], [], [.lf, .lf, .lf, .lf], [.row 5 26], Int × Int × (List S26), (.row 5 0 (.cons (dInt .i64) (.fnv 41 (.cons (dInt .i64) (.last (dRo 5) .nil))))), fun k z => slices_stableCmpFunc_api_Rule.l1 k z.1 z.2.1 z.2.2⟩
def slices_stableCmpFunc_api_Rule.cl2 : CutS R ((List S26)) := ⟨18, [0, 1, 2, 6, 7, 8], [], [.lf, .lf, .lf, .lf, .lf, .lf], [.row 5 26], Int × Int × Int × Int × (List S26), (.row 5 0 (.cons (dInt .i64) (.fnv 41 (.cons (dInt .i64) (.cons (dInt .i64) (.cons (dInt .i64) (.last (dRo 5) .nil))))))), fun k z => slices_stableCmpFunc_api_Rule.l2 k z.1 z.2.1 z.2.2.1 z.2.2.2.1 z.2.2.2.2⟩
def slices_stableCmpFunc_api_Rule.cs : List (CutS R ((List S26))) := [slices_stableCmpFunc_api_Rule.cl0, slices_stableCmpFunc_api_Rule.cl1, slices_stableCmpFunc_api_Rule.cl2]
theorem slices_stableCmpFunc_api_Rule.hE (k : Nat) : EnvOk Try.prog (slices_stableCmpFunc_api_Rule.E k) := ⟨tabs, ctOf_ok (all_cons (slices_insertionSortCmpFunc_api_Rule.ok k) (all_cons (slices_symMergeCmpFunc_api_Rule.ok k) all_nil)), mtNone_ok, mixed, eqs_, flats_, mps_⟩
theorem slices_stableCmpFunc_api_Rule.ol0 : (slices_stableCmpFunc_api_Rule.cl0).Ok slices_stableCmpFunc_api_Rule.E Try.f53.results.toList 1 (bodyOf Try.f53) slices_stableCmpFunc_api_Rule.cs slices_stableCmpFunc_api_Rule.F.ret := ⟨fun z => rfl, fun k z => by
 show slices_stableCmpFunc_api_Rule.l0 (k + 1) z.1 z.2.1 z.2.2.1 z.2.2.2.1 z.2.2.2.2 = _
 rw [slices_stableCmpFunc_api_Rule.l0]
 kernel_rfl⟩
theorem slices_stableCmpFunc_api_Rule.ol1 : (slices_stableCmpFunc_api_Rule.cl1).Ok slices_stableCmpFunc_api_Rule.E Try.f53.results.toList 1 (bodyOf Try.f53) slices_stableCmpFunc_api_Rule.cs slices_stableCmpFunc_api_Rule.F.ret := ⟨fun z => rfl, fun k z => by
 show slices_stableCmpFunc_api_Rule.l1 (k + 1) z.1 z.2.1 z.2.2 = _
 rw [slices_stableCmpFunc_api_Rule.l1]
 kernel_rfl⟩
theorem slices_stableCmpFunc_api_Rule.ol2 : (slices_stableCmpFunc_api_Rule.cl2).Ok slices_stableCmpFunc_api_Rule.E Try.f53.results.toList 1 (bodyOf Try.f53) slices_stableCmpFunc_api_Rule.cs slices_stableCmpFunc_api_Rule.F.ret := ⟨fun z => rfl, fun k z => by
 show slices_stableCmpFunc_api_Rule.l2 (k + 1) z.1 z.2.1 z.2.2.1 z.2.2.2.1 z.2.2.2.2 = _
 rw [slices_stableCmpFunc_api_Rule.l2]
 kernel_rfl⟩
theorem slices_stableCmpFunc_api_Rule.q (k : Nat) (y : Int × (List S26)) : slices_stableCmpFunc_api_Rule.p k y = slices_stableCmpFunc_api_Rule.F.run slices_stableCmpFunc_api_Rule.E Try.f53.results.toList (bodyOf Try.f53) slices_stableCmpFunc_api_Rule.cs k y := by kernel_rfl
theorem slices_stableCmpFunc_api_Rule.ok (k : Nat) : CsemOk R Try.prog 53 (slices_stableCmpFunc_api_Rule.F.sem (slices_stableCmpFunc_api_Rule.p k)) := fn_ok (F := slices_stableCmpFunc_api_Rule.F) (f := slices_stableCmpFunc_api_Rule.p) (E := slices_stableCmpFunc_api_Rule.E) slices_stableCmpFunc_api_Rule.hE (fun _ => rfl) Try.func53 (body := (bodyOf Try.f53)) rfl (by kernel_rfl) rfl (by decide) (by kernel_rfl) (cuts := slices_stableCmpFunc_api_Rule.cs) (all_cons slices_stableCmpFunc_api_Rule.ol0 (all_cons slices_stableCmpFunc_api_Rule.ol1 (all_cons slices_stableCmpFunc_api_Rule.ol2 all_nil))) slices_stableCmpFunc_api_Rule.q k
def slices_SortStableFunc_api_Rule_api_Rule.F : FnS R ((List S26)) ((List S26)) := ⟨[.lf, .lf], [.row 5 26], (.row 5 0 (.fnv 41 (.last (dRo 5) .nil))), .tup [], [.row 5 26], (.last (dRo 5) .nil)⟩
def slices_SortStableFunc_api_Rule_api_Rule.p (k : Nat) (y : (List S26)) : Option ((List S26)) := slices_SortStableFunc_api_Rule_api_Rule.f k y
def slices_SortStableFunc_api_Rule_api_Rule.E (k : Nat) : Env R := ⟨tabOf tabL, ctOf [(53, (slices_stableCmpFunc_api_Rule.F.sem (slices_stableCmpFunc_api_Rule.p k)))], mtNone, fun _ => false, codes, rts, 9, fun _ => [], owns, [], eqtOf eqs, fun _ => false, flats, mpsOf mps, byt_⟩
def slices_SortStableFunc_api_Rule_api_Rule.cs : List (CutS R ((List S26))) := []
theorem slices_SortStableFunc_api_Rule_api_Rule.hE (k : Nat) : EnvOk Try.prog (slices_SortStableFunc_api_Rule_api_Rule.E k) := ⟨tabs, ctOf_ok (all_cons (slices_stableCmpFunc_api_Rule.ok k) all_nil), mtNone_ok, mixed, eqs_, flats_, mps_⟩
theorem slices_SortStableFunc_api_Rule_api_Rule.q (k : Nat) (y : (List S26)) : slices_SortStableFunc_api_Rule_api_Rule.p k y = slices_SortStableFunc_api_Rule_api_Rule.F.run slices_SortStableFunc_api_Rule_api_Rule.E Try.f40.results.toList (bodyOf Try.f40) slices_SortStableFunc_api_Rule_api_Rule.cs k y := by kernel_rfl
theorem slices_SortStableFunc_api_Rule_api_Rule.ok (k : Nat) : CsemOk R Try.prog 40 (slices_SortStableFunc_api_Rule_api_Rule.F.sem (slices_SortStableFunc_api_Rule_api_Rule.p k)) := fn_ok (F := slices_SortStableFunc_api_Rule_api_Rule.F) (f := slices_SortStableFunc_api_Rule_api_Rule.p) (E := slices_SortStableFunc_api_Rule_api_Rule.E) slices_SortStableFunc_api_Rule_api_Rule.hE (fun _ => rfl) Try.func40 (body := (bodyOf Try.f40)) rfl (by kernel_rfl) rfl (by decide) (by kernel_rfl) (cuts := slices_SortStableFunc_api_Rule_api_Rule.cs) all_nil slices_SortStableFunc_api_Rule_api_Rule.q k
def restrict_Sort.F : FnS R ((List S26)) (Int × (List S26)) := ⟨[.lf], [], (.last (dRo 5) .nil), .tup [none, none], [.row 5 26], (.row 5 0 (.cons (dInt .i64) (.last (dRo 5) .nil)))⟩
def restrict_Sort.p (k : Nat) (y : (List S26)) : Option (Int × (List S26)) := restrict_Sort.f k y
def restrict_Sort.E (k : Nat) : Env R := ⟨tabOf tabL, ctOf [(37, (slices_ContainsFunc_api_Rule_api_Rule.F.sem (slices_ContainsFunc_api_Rule_api_Rule.p k))), (39, (slices_Clone_api_Rule_api_Rule.F.sem (slices_Clone_api_Rule_api_Rule.p k))), (40, (slices_SortStableFunc_api_Rule_api_Rule.F.sem (slices_SortStableFunc_api_Rule_api_Rule.p k)))], mtNone, fun _ => false, codes, rts, 67, fun i => ordOf [(12, [(0, 0), (1, 0), (2, 0), (3, 0), (4, 0), (5, 0), (6, 0), (7, 0), (8, 0), (9, 0), (10, 0), (11, 0), (12, 0), (13, 0), (14, 0), (15, 0), (16, 0), (17, 0), (18, 0), (19, 0), (20, 0), (21, 0), (22, 0), (23, 0)]), (13, [(0, 0), (1, 0), (2, 0), (3, 0), (4, 0), (5, 0), (6, 0), (7, 0), (8, 0), (9, 0), (10, 0), (11, 2)])] i, owns, [some (.row 5 26), none], eqtOf eqs, fun _ => false, flats, mpsOf mps, byt_⟩
def restrict_Sort.cl0 : CutS R (Int × (List S26)) := ⟨18, [5, 18, 19, 20], [some (.row 5 26), none, none, none], [.lf, .lf, .lf, .lf], [.row 5 26, .row 5 26], Int × Int × (List S26) × (List S26), (.row 5 0 (.row 5 1 (.cons (dInt .i64) (.cons (dInt .i64) (.cons (dRo 5) (.last (dRo 5) .nil)))))), fun k z => restrict_Sort.l0 k z.1 z.2.1 z.2.2.1 z.2.2.2⟩
def restrict_Sort.cj0 : CutS R (Int × (List S26)) := ⟨30, [5, 18, 19, 20], [], [.lf, .lf, .lf, .lf], [.row 5 26, .row 5 26], Int × Int × (List S26) × (List S26), (.row 5 0 (.row 5 1 (.cons (dInt .i64) (.cons (dInt .i64) (.cons (dRo 5) (.last (dRo 5) .nil)))))), fun k z => restrict_Sort.j0 k z.1 z.2.1 z.2.2.1 z.2.2.2⟩
def restrict_Sort.cs : List (CutS R (Int × (List S26))) := [restrict_Sort.cl0, restrict_Sort.cj0]
theorem restrict_Sort.hE (k : Nat) : EnvOk Try.prog (restrict_Sort.E k) := ⟨tabs, ctOf_ok (all_cons (slices_ContainsFunc_api_Rule_api_Rule.ok k) (all_cons (slices_Clone_api_Rule_api_Rule.ok k) (all_cons (slices_SortStableFunc_api_Rule_api_Rule.ok k) all_nil))), mtNone_ok, mixed, eqs_, flats_, mps_⟩
theorem restrict_Sort.ol0 : (restrict_Sort.cl0).Ok restrict_Sort.E Try.f24.results.toList 0 (bodyOf Try.f24) restrict_Sort.cs restrict_Sort.F.ret := ⟨fun z => rfl, fun k z => by
 show restrict_Sort.l0 (k + 1) z.1 z.2.1 z.2.2.1 z.2.2.2 = _
 rw [restrict_Sort.l0]
 kernel_rfl⟩
theorem restrict_Sort.oj0 : (restrict_Sort.cj0).Ok restrict_Sort.E Try.f24.results.toList 0 (bodyOf Try.f24) restrict_Sort.cs restrict_Sort.F.ret := ⟨fun z => rfl, fun k z => by
 show restrict_Sort.j0 (k + 1) z.1 z.2.1 z.2.2.1 z.2.2.2 = _
 rw [restrict_Sort.j0]
 kernel_rfl⟩
theorem restrict_Sort.q (k : Nat) (y : (List S26)) : restrict_Sort.p k y = restrict_Sort.F.run restrict_Sort.E Try.f24.results.toList (bodyOf Try.f24) restrict_Sort.cs k y := by kernel_rfl
theorem restrict_Sort.ok (k : Nat) : CsemOk R Try.prog 24 (restrict_Sort.F.sem (restrict_Sort.p k)) := fn_ok (F := restrict_Sort.F) (f := restrict_Sort.p) (E := restrict_Sort.E) restrict_Sort.hE (fun _ => rfl) Try.func24 (body := (bodyOf Try.f24)) rfl (by kernel_rfl) rfl (by decide) (by kernel_rfl) (cuts := restrict_Sort.cs) (all_cons restrict_Sort.ol0 (all_cons restrict_Sort.oj0 all_nil)) restrict_Sort.q k
def foliotref06_less.F : FnS R (Int × Int × Int × Int × Int × Int) (Bool) := ⟨[.agg 3, .agg 3], [], (.cons (dInt .u32) (.cons (dInt .i64) (.cons (dInt .i64) (.cons (dInt .u32) (.cons (dInt .i64) (.last (dInt .i64) .nil)))))), .lf, [], (.last dBool .nil)⟩
def foliotref06_less.p (k : Nat) (y : Int × Int × Int × Int × Int × Int) : Option (Bool) := foliotref06_less.f y.1 y.2.1 y.2.2.1 y.2.2.2.1 y.2.2.2.2.1 y.2.2.2.2.2
def foliotref06_less.E (k : Nat) : Env R := ⟨tabOf tabL, ctOf [], mtNone, fun _ => false, codes, rts, 24, fun _ => [], owns, [], eqtOf eqs, fun _ => false, flats, mpsOf mps, byt_⟩
def foliotref06_less.cs : List (CutS R (Bool)) := []
theorem foliotref06_less.hE (k : Nat) : EnvOk Try.prog (foliotref06_less.E k) := ⟨tabs, ctOf_ok all_nil, mtNone_ok, mixed, eqs_, flats_, mps_⟩
theorem foliotref06_less.q (k : Nat) (y : Int × Int × Int × Int × Int × Int) : foliotref06_less.p k y = foliotref06_less.F.run foliotref06_less.E Try.f45.results.toList (bodyOf Try.f45) foliotref06_less.cs k y := by kernel_rfl
theorem foliotref06_less.ok (k : Nat) : CsemOk R Try.prog 45 (foliotref06_less.F.sem (foliotref06_less.p k)) := fn_ok (F := foliotref06_less.F) (f := foliotref06_less.p) (E := foliotref06_less.E) foliotref06_less.hE (fun _ => rfl) Try.func45 (body := (bodyOf Try.f45)) rfl (by kernel_rfl) rfl (by decide) (by kernel_rfl) (cuts := foliotref06_less.cs) all_nil foliotref06_less.q k
def foliotref06_Sort.F : FnS R ((List S26)) (Int × (List S26)) := ⟨[.lf], [], (.last (dRo 5) .nil), .tup [none, none], [.row 5 26], (.row 5 0 (.cons (dInt .i64) (.last (dRo 5) .nil)))⟩
def foliotref06_Sort.p (k : Nat) (y : (List S26)) : Option (Int × (List S26)) := foliotref06_Sort.f k y
def foliotref06_Sort.E (k : Nat) : Env R := ⟨tabOf tabL, ctOf [(23, (foliotref06_Check.F.sem (foliotref06_Check.p k))), (45, (foliotref06_less.F.sem (foliotref06_less.p k)))], mtNone, fun f => memB f [45], codes, rts, 77, fun i => ordOf [(11, [(0, 0), (1, 0), (2, 0), (3, 0), (4, 0), (5, 0), (6, 0), (7, 0), (8, 0), (9, 0), (10, 0), (11, 0)]), (13, [(0, 0), (1, 0), (2, 0), (3, 0), (4, 0), (5, 0), (6, 0), (7, 0), (8, 0), (9, 0), (10, 0), (11, 0), (12, 0)]), (14, [(0, 0), (1, 0), (2, 0), (3, 0), (4, 0), (5, 0), (6, 0), (7, 0), (8, 0), (9, 0), (10, 2)])] i, owns, [some (.row 5 26), none], eqtOf eqs, fun _ => false, flats, mpsOf mps, byt_⟩
def foliotref06_Sort.cl0 : CutS R (Int × (List S26)) := ⟨10, [4, 13, 14, 15], [some (.row 5 26), none, none, none], [.lf, .lf, .lf, .lf], [.row 5 26], (List S26) × Int × Int × (List S26), (.row 5 0 (.cons (dRo 5) (.cons (dInt .i64) (.cons (dInt .i64) (.last (dRo 5) .nil))))), fun k z => foliotref06_Sort.l0 k z.1 z.2.1 z.2.2.1 z.2.2.2⟩
def foliotref06_Sort.cl1 : CutS R (Int × (List S26)) := ⟨22, [4, 6, 8, 13, 14, 15], [], [.lf, .lf, .lf, .lf, .lf, .lf], [.row 5 26, .blk 3 26], Int × (List S26) × Int × Int × (List S26) × Int × Int × Int, (.row 5 0 (.ptr 1 0 (.cons (dInt .i64) (.cons (dRo 5) (.cons (dInt .i64) (.cons (dInt .i64) (.cons (dRo 5) (.cons (dInt .u32) (.cons (dInt .i64) (.last (dInt .i64) .nil)))))))))), fun k z => foliotref06_Sort.l1 k z.1 z.2.1 z.2.2.1 z.2.2.2.1 z.2.2.2.2.1 z.2.2.2.2.2.1 z.2.2.2.2.2.2.1 z.2.2.2.2.2.2.2⟩
def foliotref06_Sort.cs : List (CutS R (Int × (List S26))) := [foliotref06_Sort.cl0, foliotref06_Sort.cl1]
theorem foliotref06_Sort.hE (k : Nat) : EnvOk Try.prog (foliotref06_Sort.E k) := ⟨tabs, ctOf_ok (all_cons (foliotref06_Check.ok k) (all_cons (foliotref06_less.ok k) all_nil)), mtNone_ok, mixed, eqs_, flats_, mps_⟩
theorem foliotref06_Sort.ol0 : (foliotref06_Sort.cl0).Ok foliotref06_Sort.E Try.f25.results.toList 0 (bodyOf Try.f25) foliotref06_Sort.cs foliotref06_Sort.F.ret := ⟨fun z => rfl, fun k z => by
 show foliotref06_Sort.l0 (k + 1) z.1 z.2.1 z.2.2.1 z.2.2.2 = _
 rw [foliotref06_Sort.l0]
 kernel_rfl⟩
theorem foliotref06_Sort.ol1 : (foliotref06_Sort.cl1).Ok foliotref06_Sort.E Try.f25.results.toList 0 (bodyOf Try.f25) foliotref06_Sort.cs foliotref06_Sort.F.ret := ⟨fun z => rfl, fun k z => by
 show foliotref06_Sort.l1 (k + 1) z.1 z.2.1 z.2.2.1 z.2.2.2.1 z.2.2.2.2.1 z.2.2.2.2.2.1 z.2.2.2.2.2.2.1 z.2.2.2.2.2.2.2 = _
 rw [foliotref06_Sort.l1]
 kernel_rfl⟩
theorem foliotref06_Sort.q (k : Nat) (y : (List S26)) : foliotref06_Sort.p k y = foliotref06_Sort.F.run foliotref06_Sort.E Try.f25.results.toList (bodyOf Try.f25) foliotref06_Sort.cs k y := by kernel_rfl
theorem foliotref06_Sort.ok (k : Nat) : CsemOk R Try.prog 25 (foliotref06_Sort.F.sem (foliotref06_Sort.p k)) := fn_ok (F := foliotref06_Sort.F) (f := foliotref06_Sort.p) (E := foliotref06_Sort.E) foliotref06_Sort.hE (fun _ => rfl) Try.func25 (body := (bodyOf Try.f25)) rfl (by kernel_rfl) rfl (by decide) (by kernel_rfl) (cuts := foliotref06_Sort.cs) (all_cons foliotref06_Sort.ol0 (all_cons foliotref06_Sort.ol1 all_nil)) foliotref06_Sort.q k
def foliotlaw06_rules.F : FnS R ((List S26) × (List S26)) (Bool) := ⟨[.lf, .lf], [], (.cons (dRo 5) (.last (dRo 5) .nil)), .lf, [], (.last dBool .nil)⟩
def foliotlaw06_rules.p (k : Nat) (y : (List S26) × (List S26)) : Option (Bool) := foliotlaw06_rules.f k y.1 y.2
def foliotlaw06_rules.E (k : Nat) : Env R := ⟨tabOf tabL, ctOf [], mtNone, fun _ => false, codes, rts, 26, fun i => ordOf [(6, [(0, 0), (1, 0), (2, 0), (3, 0), (4, 0), (5, 0), (6, 0), (7, 0), (8, 0)])] i, owns, [], eqtOf eqs, fun _ => false, flats, mpsOf mps, byt_⟩
def foliotlaw06_rules.cl0 : CutS R (Bool) := ⟨8, [0, 1, 12, 13], [], [.lf, .lf, .lf, .lf], [], (List S26) × (List S26) × Int × Int, (.cons (dRo 5) (.cons (dRo 5) (.cons (dInt .i64) (.last (dInt .i64) .nil)))), fun k z => foliotlaw06_rules.l0 k z.1 z.2.1 z.2.2.1 z.2.2.2⟩
def foliotlaw06_rules.cs : List (CutS R (Bool)) := [foliotlaw06_rules.cl0]
theorem foliotlaw06_rules.hE (k : Nat) : EnvOk Try.prog (foliotlaw06_rules.E k) := ⟨tabs, ctOf_ok all_nil, mtNone_ok, mixed, eqs_, flats_, mps_⟩
theorem foliotlaw06_rules.ol0 : (foliotlaw06_rules.cl0).Ok foliotlaw06_rules.E Try.f26.results.toList 0 (bodyOf Try.f26) foliotlaw06_rules.cs foliotlaw06_rules.F.ret := ⟨fun z => rfl, fun k z => by
 show foliotlaw06_rules.l0 (k + 1) z.1 z.2.1 z.2.2.1 z.2.2.2 = _
 rw [foliotlaw06_rules.l0]
 kernel_rfl⟩
theorem foliotlaw06_rules.q (k : Nat) (y : (List S26) × (List S26)) : foliotlaw06_rules.p k y = foliotlaw06_rules.F.run foliotlaw06_rules.E Try.f26.results.toList (bodyOf Try.f26) foliotlaw06_rules.cs k y := by kernel_rfl
theorem foliotlaw06_rules.ok (k : Nat) : CsemOk R Try.prog 26 (foliotlaw06_rules.F.sem (foliotlaw06_rules.p k)) := fn_ok (F := foliotlaw06_rules.F) (f := foliotlaw06_rules.p) (E := foliotlaw06_rules.E) foliotlaw06_rules.hE (fun _ => rfl) Try.func26 (body := (bodyOf Try.f26)) rfl (by kernel_rfl) rfl (by decide) (by kernel_rfl) (cuts := foliotlaw06_rules.cs) (all_cons foliotlaw06_rules.ol0 all_nil) foliotlaw06_rules.q k
def foliotlaw06_RestrictRules.F : FnS R ((List S26) × Int) (Bool) := ⟨[.lf, .lf], [], (.cons (dRo 5) (.last (dInt .u32) .nil)), .lf, [], (.last dBool .nil)⟩
def foliotlaw06_RestrictRules.p (k : Nat) (y : (List S26) × Int) : Option (Bool) := foliotlaw06_RestrictRules.f k y.1 y.2
def foliotlaw06_RestrictRules.E (k : Nat) : Env R := ⟨tabOf tabL, ctOf [(12, (foliotlaw06_shown.F.sem (foliotlaw06_shown.p k))), (10, (restrict_Match.F.sem (restrict_Match.p k))), (11, (foliotref06_Match.F.sem (foliotref06_Match.p k))), (22, (restrict_Check.F.sem (restrict_Check.p k))), (23, (foliotref06_Check.F.sem (foliotref06_Check.p k))), (24, (restrict_Sort.F.sem (restrict_Sort.p k))), (25, (foliotref06_Sort.F.sem (foliotref06_Sort.p k))), (26, (foliotlaw06_rules.F.sem (foliotlaw06_rules.p k)))], mtNone, fun f => memB f [10, 22, 23, 26], codes, rts, 74, fun i => ordOf [(9, [(0, 0), (1, 0), (2, 0), (3, 0), (4, 0)])] i, owns, [], eqtOf eqs, fun f => memB f [24], flats, mpsOf mps, byt_⟩
def foliotlaw06_RestrictRules.cl0 : CutS R (Bool) := ⟨14, [0, 5, 24, 25, 26], [], [.lf, .lf, .lf, .lf, .lf], [.row 5 26], (List S26) × (List S26) × Int × Int × (List S26), (.cons (dRo 5) (.row 5 0 (.cons (dRo 5) (.cons (dInt .i64) (.cons (dInt .i64) (.last (dRo 5) .nil)))))), fun k z => foliotlaw06_RestrictRules.l0 k z.1 z.2.1 z.2.2.1 z.2.2.2.1 z.2.2.2.2⟩
def foliotlaw06_RestrictRules.cl1 : CutS R (Bool) := ⟨34, [0, 5, 8, 62, 63], [], [.lf, .lf, .lf, .lf, .lf], [.row 5 26, .row 5 26], (List S26) × Int × Int × (List S26) × (List S26), (.cons (dRo 5) (.row 5 0 (.row 5 1 (.cons (dInt .i64) (.cons (dInt .i64) (.cons (dRo 5) (.last (dRo 5) .nil))))))), fun k z => foliotlaw06_RestrictRules.l1 k z.1 z.2.1 z.2.2.1 z.2.2.2.1 z.2.2.2.2⟩
def foliotlaw06_RestrictRules.cs : List (CutS R (Bool)) := [foliotlaw06_RestrictRules.cl0, foliotlaw06_RestrictRules.cl1]
theorem foliotlaw06_RestrictRules.hE (k : Nat) : EnvOk Try.prog (foliotlaw06_RestrictRules.E k) := ⟨tabs, ctOf_ok (all_cons (foliotlaw06_shown.ok k) (all_cons (restrict_Match.ok k) (all_cons (foliotref06_Match.ok k) (all_cons (restrict_Check.ok k) (all_cons (foliotref06_Check.ok k) (all_cons (restrict_Sort.ok k) (all_cons (foliotref06_Sort.ok k) (all_cons (foliotlaw06_rules.ok k) all_nil)))))))), mtNone_ok, mixed, eqs_, flats_, mps_⟩
theorem foliotlaw06_RestrictRules.ol0 : (foliotlaw06_RestrictRules.cl0).Ok foliotlaw06_RestrictRules.E Try.f6.results.toList 0 (bodyOf Try.f6) foliotlaw06_RestrictRules.cs foliotlaw06_RestrictRules.F.ret := ⟨fun z => rfl, fun k z => by
 show foliotlaw06_RestrictRules.l0 (k + 1) z.1 z.2.1 z.2.2.1 z.2.2.2.1 z.2.2.2.2 = _
 rw [foliotlaw06_RestrictRules.l0]
 kernel_rfl⟩
theorem foliotlaw06_RestrictRules.ol1 : (foliotlaw06_RestrictRules.cl1).Ok foliotlaw06_RestrictRules.E Try.f6.results.toList 0 (bodyOf Try.f6) foliotlaw06_RestrictRules.cs foliotlaw06_RestrictRules.F.ret := ⟨fun z => rfl, fun k z => by
 show foliotlaw06_RestrictRules.l1 (k + 1) z.1 z.2.1 z.2.2.1 z.2.2.2.1 z.2.2.2.2 = _
 rw [foliotlaw06_RestrictRules.l1]
 kernel_rfl⟩
theorem foliotlaw06_RestrictRules.q (k : Nat) (y : (List S26) × Int) : foliotlaw06_RestrictRules.p k y = foliotlaw06_RestrictRules.F.run foliotlaw06_RestrictRules.E Try.f6.results.toList (bodyOf Try.f6) foliotlaw06_RestrictRules.cs k y := by kernel_rfl
theorem foliotlaw06_RestrictRules.ok (k : Nat) : CsemOk R Try.prog 6 (foliotlaw06_RestrictRules.F.sem (foliotlaw06_RestrictRules.p k)) := fn_ok (F := foliotlaw06_RestrictRules.F) (f := foliotlaw06_RestrictRules.p) (E := foliotlaw06_RestrictRules.E) foliotlaw06_RestrictRules.hE (fun _ => rfl) Try.func6 (body := (bodyOf Try.f6)) rfl (by kernel_rfl) rfl (by decide) (by kernel_rfl) (cuts := foliotlaw06_RestrictRules.cs) (all_cons foliotlaw06_RestrictRules.ol0 (all_cons foliotlaw06_RestrictRules.ol1 all_nil)) foliotlaw06_RestrictRules.q k
def foliotlaw06_RestrictSorted.F : FnS R ((List S26) × (List Int)) (Bool) := ⟨[.lf, .lf], [], (.cons (dRo 5) (.last (dRo 4) .nil)), .lf, [], (.last dBool .nil)⟩
def foliotlaw06_RestrictSorted.p (k : Nat) (y : (List S26) × (List Int)) : Option (Bool) := foliotlaw06_RestrictSorted.f k y.1 y.2
def foliotlaw06_RestrictSorted.E (k : Nat) : Env R := ⟨tabOf tabL, ctOf [(12, (foliotlaw06_shown.F.sem (foliotlaw06_shown.p k))), (24, (restrict_Sort.F.sem (restrict_Sort.p k))), (26, (foliotlaw06_rules.F.sem (foliotlaw06_rules.p k))), (10, (restrict_Match.F.sem (restrict_Match.p k)))], mtNone, fun f => memB f [10, 26], codes, rts, 78, fun i => ordOf [(12, [(0, 0), (1, 0), (2, 0), (3, 0), (4, 0), (5, 0), (6, 0), (7, 0), (8, 0), (9, 0), (10, 0), (11, 0), (12, 0), (13, 0), (14, 0), (15, 0), (16, 0), (17, 1), (18, 2), (19, 0)])] i, owns, [], eqtOf eqs, fun f => memB f [24], flats, mpsOf mps, byt_⟩
def foliotlaw06_RestrictSorted.cl0 : CutS R (Bool) := ⟨20, [0, 1, 5, 38, 39, 40], [none, some .frz, none, none, none, none], [.lf, .lf, .lf, .lf, .lf, .lf], [.row 5 26], (List S26) × (List Int) × (List S26) × Int × Int × (List S26), (.cons (dRo 5) (.cons (dRo 4) (.row 5 0 (.cons (dRo 5) (.cons (dInt .i64) (.cons (dInt .i64) (.last (dRo 5) .nil))))))), fun k z => foliotlaw06_RestrictSorted.l0 k z.1 z.2.1 z.2.2.1 z.2.2.2.1 z.2.2.2.2.1 z.2.2.2.2.2⟩
def foliotlaw06_RestrictSorted.cl1 : CutS R (Bool) := ⟨30, [0, 5, 64, 65, 66], [], [.lf, .lf, .lf, .lf, .lf], [.row 5 26], (List S26) × (List Int) × Int × Int × (List S26), (.cons (dRo 5) (.row 5 0 (.cons (dRo 4) (.cons (dInt .i64) (.cons (dInt .i64) (.last (dRo 5) .nil)))))), fun k z => foliotlaw06_RestrictSorted.l1 k z.1 z.2.1 z.2.2.1 z.2.2.2.1 z.2.2.2.2⟩
def foliotlaw06_RestrictSorted.cs : List (CutS R (Bool)) := [foliotlaw06_RestrictSorted.cl0, foliotlaw06_RestrictSorted.cl1]
theorem foliotlaw06_RestrictSorted.hE (k : Nat) : EnvOk Try.prog (foliotlaw06_RestrictSorted.E k) := ⟨tabs, ctOf_ok (all_cons (foliotlaw06_shown.ok k) (all_cons (restrict_Sort.ok k) (all_cons (foliotlaw06_rules.ok k) (all_cons (restrict_Match.ok k) all_nil)))), mtNone_ok, mixed, eqs_, flats_, mps_⟩
theorem foliotlaw06_RestrictSorted.ol0 : (foliotlaw06_RestrictSorted.cl0).Ok foliotlaw06_RestrictSorted.E Try.f7.results.toList 0 (bodyOf Try.f7) foliotlaw06_RestrictSorted.cs foliotlaw06_RestrictSorted.F.ret := ⟨fun z => rfl, fun k z => by
 show foliotlaw06_RestrictSorted.l0 (k + 1) z.1 z.2.1 z.2.2.1 z.2.2.2.1 z.2.2.2.2.1 z.2.2.2.2.2 = _
 rw [foliotlaw06_RestrictSorted.l0]
 kernel_rfl⟩
theorem foliotlaw06_RestrictSorted.ol1 : (foliotlaw06_RestrictSorted.cl1).Ok foliotlaw06_RestrictSorted.E Try.f7.results.toList 0 (bodyOf Try.f7) foliotlaw06_RestrictSorted.cs foliotlaw06_RestrictSorted.F.ret := ⟨fun z => rfl, fun k z => by
 show foliotlaw06_RestrictSorted.l1 (k + 1) z.1 z.2.1 z.2.2.1 z.2.2.2.1 z.2.2.2.2 = _
 rw [foliotlaw06_RestrictSorted.l1]
 kernel_rfl⟩
theorem foliotlaw06_RestrictSorted.q (k : Nat) (y : (List S26) × (List Int)) : foliotlaw06_RestrictSorted.p k y = foliotlaw06_RestrictSorted.F.run foliotlaw06_RestrictSorted.E Try.f7.results.toList (bodyOf Try.f7) foliotlaw06_RestrictSorted.cs k y := by kernel_rfl
theorem foliotlaw06_RestrictSorted.ok (k : Nat) : CsemOk R Try.prog 7 (foliotlaw06_RestrictSorted.F.sem (foliotlaw06_RestrictSorted.p k)) := fn_ok (F := foliotlaw06_RestrictSorted.F) (f := foliotlaw06_RestrictSorted.p) (E := foliotlaw06_RestrictSorted.E) foliotlaw06_RestrictSorted.hE (fun _ => rfl) Try.func7 (body := (bodyOf Try.f7)) rfl (by kernel_rfl) rfl (by decide) (by kernel_rfl) (cuts := foliotlaw06_RestrictSorted.cs) (all_cons foliotlaw06_RestrictSorted.ol0 (all_cons foliotlaw06_RestrictSorted.ol1 all_nil)) foliotlaw06_RestrictSorted.q k
end
end Go.Proofs.Ytjfcfljdojkcdaa.Q
