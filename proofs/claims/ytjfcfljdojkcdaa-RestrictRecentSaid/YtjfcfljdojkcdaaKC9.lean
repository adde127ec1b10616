/- The contracts of the functions. -/
import Derived.Test.YtjfcfljdojkcdaaDC9
import Derived.Test.YtjfcfljdojkcdaaEvPg
import Derived.Test.YtjfcfljdojkcdaaProg
import Derived.Laws.Externs
import Derived.Lib.BitFns
import Derived.Lib.Strings
import Derived.Lib.Slices
import Derived.Lib.Small
import Derived.Lib.Walk
namespace Go.Proofs.Ytjfcfljdojkcdaa.C9
open Go Go.RowKit Go.Proofs.Ytjfcfljdojkcdaa.Ev
noncomputable section
set_option linter.unusedVariables false
set_option maxRecDepth 100000
def D : Nat → Type
 | 0 => S37
 | 1 => S75
 | 2 => S78
 | 3 => Int
 | 4 => S26
 | 5 => S94
 | 6 => S95
 | 7 => Int
 | 8 => Int
 | 9 => S65
 | _ => Unit
def enc : (c : Nat) → D c → List (Lf D)
 | 0 => fun x => [.v (.int .u32 x.f0), .v (.int .i64 x.f1), .v (.int .i64 x.f2)]
 | 1 => fun x => [.v (.int .i64 x.f0), .v (.int .i64 x.f1), .v (.int .i64 x.f2), .v (.int .i64 x.f3), .ro 2 x.f4]
 | 2 => fun x => [.v (.int .u32 x.f0), .v (.int .i64 x.f1), .v (.int .i64 x.f2), .v (.int .i64 x.f3), .v (.int .i64 x.f4), .v (.int .i64 x.f5)]
 | 3 => fun x => [.v (.int .u32 x)]
 | 4 => fun x => [.v (.int .u32 x.f0), .v (.int .i64 x.f1), .v (.int .i64 x.f2)]
 | 5 => fun x => [.ro 6 x.f0, .v (.int .i64 x.f1), .v (.int .i64 x.f2), .v (.int .i64 x.f3), .v (.bool x.f4)]
 | 6 => fun x => [.v (.int .u32 x.f0), .v (.int .i64 x.f1), .v (.int .i64 x.f2), .v (.int .i64 x.f3), .v (.int .i64 x.f4)]
 | 7 => fun x => [.v (.int .u64 x)]
 | 8 => fun x => [.v (.int .i64 x)]
 | 9 => fun x => [.v (.int .u32 x.f0), .v (.int .i64 x.f1), .v (.int .i64 x.f2), .v (.int .i64 x.f3), .v (.int .i64 x.f4)]
 | _ + 10 => fun _ => []
def z : (c : Nat) → D c
 | 0 => (z_S37 : S37)
 | 1 => (z_S75 : S75)
 | 2 => (z_S78 : S78)
 | 3 => (0 : Int)
 | 4 => (z_S26 : S26)
 | 5 => (z_S94 : S94)
 | 6 => (z_S95 : S95)
 | 7 => (0 : Int)
 | 8 => (0 : Int)
 | 9 => (z_S65 : S65)
 | _ + 10 => ()
def sz : Nat → Nat
 | 0 => 3
 | 1 => 5
 | 2 => 6
 | 3 => 1
 | 4 => 3
 | 5 => 5
 | 6 => 5
 | 7 => 1
 | 8 => 1
 | 9 => 5
 | _ + 10 => 0
theorem len_ : ∀ (c : Nat) (x : D c), (enc c x).length = sz c
 | 0, x => by rfl
 | 1, x => by rfl
 | 2, x => by rfl
 | 3, x => by rfl
 | 4, x => by rfl
 | 5, x => by rfl
 | 6, x => by rfl
 | 7, x => by rfl
 | 8, x => by rfl
 | 9, x => by rfl
 | _ + 10, x => by rfl
theorem free_ : ∀ (c : Nat) (x : D c), (enc c x).all lfFree = true
 | 0, x => by rfl
 | 1, x => by rfl
 | 2, x => by rfl
 | 3, x => by rfl
 | 4, x => by rfl
 | 5, x => by rfl
 | 6, x => by rfl
 | 7, x => by rfl
 | 8, x => by rfl
 | 9, x => by rfl
 | _ + 10, x => by rfl
def R : Ro := ⟨D, enc, fun _ _ => none, z, sz, len_, free_⟩
def codes : TypeId → Option (RoT R) := codeOf [(37, ⟨0, ((.cons (dInt .u32) (.cons (dInt .i64) (.last (dInt .i64) .nil))) : DL R (Int × Int × Int)).to (fun y => (⟨y.1, y.2.1, y.2.2⟩ : S37)) (fun x => (x.f0, x.f1, x.f2)) (fun _ => rfl), fun _ => rfl⟩),
 (75, ⟨1, ((.cons (dInt .i64) (.cons (dInt .i64) (.cons (dInt .i64) (.cons (dInt .i64) (.last (dRo 2) .nil))))) : DL R (Int × Int × Int × Int × (List S78))).to (fun y => (⟨y.1, y.2.1, y.2.2.1, y.2.2.2.1, y.2.2.2.2⟩ : S75)) (fun x => (x.f0, x.f1, x.f2, x.f3, x.f4)) (fun _ => rfl), fun _ => rfl⟩),
 (78, ⟨2, ((.cons (dInt .u32) (.cons (dInt .i64) (.cons (dInt .i64) (.cons (dInt .i64) (.cons (dInt .i64) (.last (dInt .i64) .nil)))))) : DL R (Int × Int × Int × Int × Int × Int)).to (fun y => (⟨y.1, y.2.1, y.2.2.1, y.2.2.2.1, y.2.2.2.2.1, y.2.2.2.2.2⟩ : S78)) (fun x => (x.f0, x.f1, x.f2, x.f3, x.f4, x.f5)) (fun _ => rfl), fun _ => rfl⟩),
 (24, ⟨3, ((.last (dInt .u32) .nil) : DL R (Int)), fun _ => rfl⟩),
 (26, ⟨4, ((.cons (dInt .u32) (.cons (dInt .i64) (.last (dInt .i64) .nil))) : DL R (Int × Int × Int)).to (fun y => (⟨y.1, y.2.1, y.2.2⟩ : S26)) (fun x => (x.f0, x.f1, x.f2)) (fun _ => rfl), fun _ => rfl⟩),
 (94, ⟨5, ((.cons (dRo 6) (.cons (dInt .i64) (.cons (dInt .i64) (.cons (dInt .i64) (.last dBool .nil))))) : DL R ((List S95) × Int × Int × Int × Bool)).to (fun y => (⟨y.1, y.2.1, y.2.2.1, y.2.2.2.1, y.2.2.2.2⟩ : S94)) (fun x => (x.f0, x.f1, x.f2, x.f3, x.f4)) (fun _ => rfl), fun _ => rfl⟩),
 (95, ⟨6, ((.cons (dInt .u32) (.cons (dInt .i64) (.cons (dInt .i64) (.cons (dInt .i64) (.last (dInt .i64) .nil))))) : DL R (Int × Int × Int × Int × Int)).to (fun y => (⟨y.1, y.2.1, y.2.2.1, y.2.2.2.1, y.2.2.2.2⟩ : S95)) (fun x => (x.f0, x.f1, x.f2, x.f3, x.f4)) (fun _ => rfl), fun _ => rfl⟩),
 (120, ⟨7, ((.last (dInt .u64) .nil) : DL R (Int)), fun _ => rfl⟩),
 (3, ⟨8, ((.last (dInt .i64) .nil) : DL R (Int)), fun _ => rfl⟩),
 (65, ⟨9, ((.cons (dInt .u32) (.cons (dInt .i64) (.cons (dInt .i64) (.cons (dInt .i64) (.last (dInt .i64) .nil))))) : DL R (Int × Int × Int × Int × Int)).to (fun y => (⟨y.1, y.2.1, y.2.2.1, y.2.2.2.1, y.2.2.2.2⟩ : S65)) (fun x => (x.f0, x.f1, x.f2, x.f3, x.f4)) (fun _ => rfl), fun _ => rfl⟩)]
def rts : Nat → Option (RoT R) := codeOf [(0, ⟨0, ((.cons (dInt .u32) (.cons (dInt .i64) (.last (dInt .i64) .nil))) : DL R (Int × Int × Int)).to (fun y => (⟨y.1, y.2.1, y.2.2⟩ : S37)) (fun x => (x.f0, x.f1, x.f2)) (fun _ => rfl), fun _ => rfl⟩),
 (1, ⟨1, ((.cons (dInt .i64) (.cons (dInt .i64) (.cons (dInt .i64) (.cons (dInt .i64) (.last (dRo 2) .nil))))) : DL R (Int × Int × Int × Int × (List S78))).to (fun y => (⟨y.1, y.2.1, y.2.2.1, y.2.2.2.1, y.2.2.2.2⟩ : S75)) (fun x => (x.f0, x.f1, x.f2, x.f3, x.f4)) (fun _ => rfl), fun _ => rfl⟩),
 (2, ⟨2, ((.cons (dInt .u32) (.cons (dInt .i64) (.cons (dInt .i64) (.cons (dInt .i64) (.cons (dInt .i64) (.last (dInt .i64) .nil)))))) : DL R (Int × Int × Int × Int × Int × Int)).to (fun y => (⟨y.1, y.2.1, y.2.2.1, y.2.2.2.1, y.2.2.2.2.1, y.2.2.2.2.2⟩ : S78)) (fun x => (x.f0, x.f1, x.f2, x.f3, x.f4, x.f5)) (fun _ => rfl), fun _ => rfl⟩),
 (3, ⟨3, ((.last (dInt .u32) .nil) : DL R (Int)), fun _ => rfl⟩),
 (4, ⟨4, ((.cons (dInt .u32) (.cons (dInt .i64) (.last (dInt .i64) .nil))) : DL R (Int × Int × Int)).to (fun y => (⟨y.1, y.2.1, y.2.2⟩ : S26)) (fun x => (x.f0, x.f1, x.f2)) (fun _ => rfl), fun _ => rfl⟩),
 (5, ⟨5, ((.cons (dRo 6) (.cons (dInt .i64) (.cons (dInt .i64) (.cons (dInt .i64) (.last dBool .nil))))) : DL R ((List S95) × Int × Int × Int × Bool)).to (fun y => (⟨y.1, y.2.1, y.2.2.1, y.2.2.2.1, y.2.2.2.2⟩ : S94)) (fun x => (x.f0, x.f1, x.f2, x.f3, x.f4)) (fun _ => rfl), fun _ => rfl⟩),
 (6, ⟨6, ((.cons (dInt .u32) (.cons (dInt .i64) (.cons (dInt .i64) (.cons (dInt .i64) (.last (dInt .i64) .nil))))) : DL R (Int × Int × Int × Int × Int)).to (fun y => (⟨y.1, y.2.1, y.2.2.1, y.2.2.2.1, y.2.2.2.2⟩ : S95)) (fun x => (x.f0, x.f1, x.f2, x.f3, x.f4)) (fun _ => rfl), fun _ => rfl⟩),
 (7, ⟨7, ((.last (dInt .u64) .nil) : DL R (Int)), fun _ => rfl⟩),
 (8, ⟨8, ((.last (dInt .i64) .nil) : DL R (Int)), fun _ => rfl⟩),
 (9, ⟨9, ((.cons (dInt .u32) (.cons (dInt .i64) (.cons (dInt .i64) (.cons (dInt .i64) (.last (dInt .i64) .nil))))) : DL R (Int × Int × Int × Int × Int)).to (fun y => (⟨y.1, y.2.1, y.2.2.1, y.2.2.2.1, y.2.2.2.2⟩ : S65)) (fun x => (x.f0, x.f1, x.f2, x.f3, x.f4)) (fun _ => rfl), fun _ => rfl⟩)]
def owns : TypeId → List (Nat × Nat × TypeId × Nat) := ownOf [(75, [(4, 2, 78, 0)]), (94, [(0, 6, 95, 0)])]
def tabL : List (Nat × TI) := [(3, ⟨1, 13, [(.int .i64 0)], [], 0, false, 0, 0, 8⟩),
 (4, ⟨1, 4, [(.bool false)], [], 0, false, 0, 0, 1⟩),
 (5, ⟨1, 14, [(.int .u8 0)], [], 0, false, 0, 0, 1⟩),
 (9, ⟨1, 6, [(.string ⟨#[]⟩)], [], 0, false, 0, 0, 16⟩),
 (22, ⟨1, 3, [(.slice none 0 0)], [], 3, true, 0, 26, 24⟩),
 (24, ⟨1, 16, [(.int .u32 0)], [], 0, false, 0, 0, 4⟩),
 (26, ⟨3, 1, [(.int .u32 0), (.int .i64 0), (.int .i64 0)], [(0, 1, false), (1, 1, false), (2, 1, false)], 0, false, 0, 0, 24⟩),
 (29, ⟨1, 3, [(.slice none 0 0)], [], 3, true, 0, 37, 24⟩),
 (31, ⟨1, 5, [(.pointer none)], [], 0, false, 0, 0, 8⟩),
 (32, ⟨1, 13, [(.int .i64 0)], [], 0, false, 0, 0, 8⟩),
 (37, ⟨3, 1, [(.int .u32 0), (.int .i64 0), (.int .i64 0)], [(0, 1, false), (1, 1, false), (2, 1, false)], 0, false, 0, 0, 24⟩),
 (41, ⟨1, 17, [(.int .u64 0)], [], 0, false, 0, 0, 8⟩),
 (58, ⟨1, 3, [(.slice none 0 0)], [], 1, false, 0, 24, 24⟩),
 (60, ⟨1, 5, [(.pointer none)], [], 0, false, 0, 0, 8⟩),
 (65, ⟨5, 1, [(.int .u32 0), (.int .i64 0), (.int .i64 0), (.int .i64 0), (.int .i64 0)], [(0, 1, false), (1, 1, false), (2, 1, false), (3, 1, false), (4, 1, false)], 0, false, 0, 0, 40⟩),
 (68, ⟨1, 3, [(.slice none 0 0)], [], 5, true, 0, 65, 24⟩),
 (73, ⟨1, 3, [(.slice none 0 0)], [], 6, true, 0, 78, 24⟩),
 (75, ⟨5, 1, [(.int .i64 0), (.int .i64 0), (.int .i64 0), (.int .i64 0), (.slice none 0 0)], [(0, 1, false), (1, 1, false), (2, 1, false), (3, 1, false), (4, 1, false)], 0, false, 0, 0, 56⟩),
 (78, ⟨6, 1, [(.int .u32 0), (.int .i64 0), (.int .i64 0), (.int .i64 0), (.int .i64 0), (.int .i64 0)], [(0, 5, true), (5, 1, false)], 0, false, 0, 0, 48⟩),
 (82, ⟨1, 17, [(.int .u64 0)], [], 0, false, 0, 0, 8⟩),
 (92, ⟨1, 3, [(.slice none 0 0)], [], 5, true, 0, 95, 24⟩),
 (94, ⟨5, 1, [(.slice none 0 0), (.int .i64 0), (.int .i64 0), (.int .i64 0), (.bool false)], [(0, 1, false), (1, 1, false), (2, 1, false), (3, 1, false), (4, 1, false)], 0, false, 0, 0, 56⟩),
 (95, ⟨5, 1, [(.int .u32 0), (.int .i64 0), (.int .i64 0), (.int .i64 0), (.int .i64 0)], [(0, 1, false), (1, 1, false), (2, 1, false), (3, 1, false), (4, 1, false)], 0, false, 0, 0, 40⟩),
 (111, ⟨1, 13, [(.int .i64 0)], [], 0, false, 0, 0, 8⟩),
 (120, ⟨1, 17, [(.int .u64 0)], [], 0, false, 0, 0, 8⟩)]
theorem tabs : TabOk Try.prog (tabOf tabL) := tabOf_ok _ _ (by kernel_rfl)
def flats : Nat → Bool
 | 0 => true
 | 1 => false
 | 2 => true
 | 3 => true
 | 4 => true
 | 5 => false
 | 6 => true
 | 7 => true
 | 8 => true
 | 9 => true
 | _ + 10 => false
theorem flats_ : ∀ (c : Nat), flats c = true → ∀ x, (R.enc c x).all noRo = true
 | 0, _, x => by rfl
 | 1, h, x => by cases h
 | 2, _, x => by rfl
 | 3, _, x => by rfl
 | 4, _, x => by rfl
 | 5, h, x => by cases h
 | 6, _, x => by rfl
 | 7, _, x => by rfl
 | 8, _, x => by rfl
 | 9, _, x => by rfl
 | _ + 10, h, x => by cases h
def eqs : List (Nat × List Nat) := [(65, [0, 0, 0, 0, 0])]
theorem eqs_ : EqOk Try.prog (eqtOf eqs) := eqtOf_ok _ (by kernel_rfl)
def mps : List (Nat × MpT) := []
theorem mps_ : MpOk Try.prog (mpsOf mps) := mpsOf_ok _ (by kernel_rfl)
def byt_ : Option (ByT R) := none
theorem mixed : Try.prog.follows .mixedOrders = true := by kernel_rfl
def restrict_New.F : FnG R (Int × Int) ((Int) ⊕ (Int × Int × Int × Int × Int × (List S78))) := ⟨[.lf, .lf], [], (.cons (dInt .i64) (.last (dInt .i64) .nil)), (.alt (.one (.tup [none, none]) [] ((.nilp (.last (dInt .i64) .nil)))) (.one (.tup [none, none]) [.blk 5 75, .row 2 78] ((.ptr 0 0 (.cons (dInt .i64) (.cons (dInt .i64) (.cons (dInt .i64) (.cons (dInt .i64) (.cons (dInt .i64) (.row 2 1 (.last (dRo 2) .nil)))))))))))⟩
def restrict_New.p (k : Nat) (y : Int × Int) : Option ((Int) ⊕ (Int × Int × Int × Int × Int × (List S78))) := restrict_New.f y.1 y.2
def restrict_New.E (k : Nat) : Env R := ⟨tabOf tabL, ctOf [], mtNone, fun _ => false, codes, rts, 25, fun _ => [], owns, [], eqtOf eqs, fun _ => false, flats, mpsOf mps, byt_⟩
def restrict_New.cs : List (CutS R ((Int) ⊕ (Int × Int × Int × Int × Int × (List S78)))) := []
theorem restrict_New.hE (k : Nat) : EnvOk Try.prog (restrict_New.E k) := ⟨tabs, ctOf_ok all_nil, mtNone_ok, mixed, eqs_, flats_, mps_⟩
theorem restrict_New.q (k : Nat) (y : Int × Int) : restrict_New.p k y = restrict_New.F.run restrict_New.E Try.f13.results.toList (bodyOf Try.f13) restrict_New.cs k y := by kernel_rfl
theorem restrict_New.ok (k : Nat) : CsemOk R Try.prog 13 (restrict_New.F.sem (restrict_New.p k)) := fnG_ok (F := restrict_New.F) (f := restrict_New.p) (E := restrict_New.E) restrict_New.hE (fun _ => rfl) Try.func13 (body := (bodyOf Try.f13)) rfl (by kernel_rfl) rfl (by decide) (by kernel_rfl) (cuts := restrict_New.cs) all_nil restrict_New.q k
def restrict_Memory_Heard_1.F : FnS R (Int × Int × Int × Int × Int × Int × Int) (Bool) := ⟨[.agg 6, .lf], [], (.cons (dInt .u32) (.cons (dInt .i64) (.cons (dInt .i64) (.cons (dInt .i64) (.cons (dInt .i64) (.cons (dInt .i64) (.last (dEpt 3 0) .nil))))))), .lf, [], (.last dBool .nil)⟩
def restrict_Memory_Heard_1.p (k : Nat) (y : Int × Int × Int × Int × Int × Int × Int) : Option (Bool) := restrict_Memory_Heard_1.f y.1 y.2.1 y.2.2.1 y.2.2.2.1 y.2.2.2.2.1 y.2.2.2.2.2.1 y.2.2.2.2.2.2
def restrict_Memory_Heard_1.E (k : Nat) : Env R := ⟨tabOf tabL, ctOf [], mtNone, fun _ => false, codes, rts, 9, fun _ => [], owns, [], eqtOf eqs, fun _ => false, flats, mpsOf mps, byt_⟩
def restrict_Memory_Heard_1.cs : List (CutS R (Bool)) := []
theorem restrict_Memory_Heard_1.hE (k : Nat) : EnvOk Try.prog (restrict_Memory_Heard_1.E k) := ⟨tabs, ctOf_ok all_nil, mtNone_ok, mixed, eqs_, flats_, mps_⟩
theorem restrict_Memory_Heard_1.q (k : Nat) (y : Int × Int × Int × Int × Int × Int × Int) : restrict_Memory_Heard_1.p k y = restrict_Memory_Heard_1.F.run restrict_Memory_Heard_1.E Try.f35.results.toList (bodyOf Try.f35) restrict_Memory_Heard_1.cs k y := by kernel_rfl
theorem restrict_Memory_Heard_1.ok (k : Nat) : CsemOk R Try.prog 35 (restrict_Memory_Heard_1.F.sem (restrict_Memory_Heard_1.p k)) := fn_ok (F := restrict_Memory_Heard_1.F) (f := restrict_Memory_Heard_1.p) (E := restrict_Memory_Heard_1.E) restrict_Memory_Heard_1.hE (fun _ => rfl) Try.func35 (body := (bodyOf Try.f35)) rfl (by kernel_rfl) rfl (by decide) (by kernel_rfl) (cuts := restrict_Memory_Heard_1.cs) all_nil restrict_Memory_Heard_1.q k
def slices_IndexFunc_restrict_known_restrict_known.F : FnS R ((List S78) × Int) (Int × (List S78) × Int) := ⟨[.lf, .lf], [.row 2 78, .blk 1 24], (.row 2 0 (.fnc 35 [(1, 0)] (.cons (dRo 2) (.last (dInt .u32) .nil)))), .lf, [.row 2 78, .blk 1 24], (.cons (dInt .i64) (.cons (dRo 2) (.last (dInt .u32) .nil)))⟩
def slices_IndexFunc_restrict_known_restrict_known.p (k : Nat) (y : (List S78) × Int) : Option (Int × (List S78) × Int) := slices_IndexFunc_restrict_known_restrict_known.f k y.1 y.2
def slices_IndexFunc_restrict_known_restrict_known.E (k : Nat) : Env R := ⟨tabOf tabL, ctOf [(35, (restrict_Memory_Heard_1.F.sem (restrict_Memory_Heard_1.p k)))], mtNone, fun f => memB f [35], codes, rts, 19, fun _ => [], owns, [], eqtOf eqs, fun _ => false, flats, mpsOf mps, byt_⟩
def slices_IndexFunc_restrict_known_restrict_known.cl0 : CutS R (Int × (List S78) × Int) := ⟨4, [0, 1, 7, 8], [], [.lf, .lf, .lf, .lf], [.row 2 78, .blk 1 24], Int × Int × (List S78) × Int, (.row 2 0 (.fnc 35 [(1, 0)] (.cons (dInt .i64) (.cons (dInt .i64) (.cons (dRo 2) (.last (dInt .u32) .nil)))))), fun k z => slices_IndexFunc_restrict_known_restrict_known.l0 k z.1 z.2.1 z.2.2.1 z.2.2.2⟩
def slices_IndexFunc_restrict_known_restrict_known.cs : List (CutS R (Int × (List S78) × Int)) := [slices_IndexFunc_restrict_known_restrict_known.cl0]
theorem slices_IndexFunc_restrict_known_restrict_known.hE (k : Nat) : EnvOk Try.prog (slices_IndexFunc_restrict_known_restrict_known.E k) := ⟨tabs, ctOf_ok (all_cons (restrict_Memory_Heard_1.ok k) all_nil), mtNone_ok, mixed, eqs_, flats_, mps_⟩
theorem slices_IndexFunc_restrict_known_restrict_known.ol0 : (slices_IndexFunc_restrict_known_restrict_known.cl0).Ok slices_IndexFunc_restrict_known_restrict_known.E Try.f34.results.toList 2 (bodyOf Try.f34) slices_IndexFunc_restrict_known_restrict_known.cs slices_IndexFunc_restrict_known_restrict_known.F.ret := ⟨fun z => rfl, fun k z => by
 obtain ⟨z0, z1, z2, z3⟩ := z
 show slices_IndexFunc_restrict_known_restrict_known.l0 (k + 1) z0 z1 z2 z3 = _
 rw [slices_IndexFunc_restrict_known_restrict_known.l0]
 kernel_rfl⟩
theorem slices_IndexFunc_restrict_known_restrict_known.q (k : Nat) (y : (List S78) × Int) : slices_IndexFunc_restrict_known_restrict_known.p k y = slices_IndexFunc_restrict_known_restrict_known.F.run slices_IndexFunc_restrict_known_restrict_known.E Try.f34.results.toList (bodyOf Try.f34) slices_IndexFunc_restrict_known_restrict_known.cs k y := by kernel_rfl
theorem slices_IndexFunc_restrict_known_restrict_known.ok (k : Nat) : CsemOk R Try.prog 34 (slices_IndexFunc_restrict_known_restrict_known.F.sem (slices_IndexFunc_restrict_known_restrict_known.p k)) := fn_ok (F := slices_IndexFunc_restrict_known_restrict_known.F) (f := slices_IndexFunc_restrict_known_restrict_known.p) (E := slices_IndexFunc_restrict_known_restrict_known.E) slices_IndexFunc_restrict_known_restrict_known.hE (fun _ => rfl) Try.func34 (body := (bodyOf Try.f34)) rfl (by kernel_rfl) rfl (by decide) (by kernel_rfl) (cuts := slices_IndexFunc_restrict_known_restrict_known.cs) (all_cons slices_IndexFunc_restrict_known_restrict_known.ol0 all_nil) slices_IndexFunc_restrict_known_restrict_known.q k
def restrict_Memory_place.F : FnS R (Int × Int × Int × Int × Int × Int × Int × Int × Int × Int × (List S78)) (Int × Int × Int × Int × (List S78)) := ⟨[.lf, .agg 6], [.blk 5 75, .row 2 78], (.ptr 0 0 (.cons (dInt .u32) (.cons (dInt .i64) (.cons (dInt .i64) (.cons (dInt .i64) (.cons (dInt .i64) (.cons (dInt .i64) (.cons (dInt .i64) (.cons (dInt .i64) (.cons (dInt .i64) (.cons (dInt .i64) (.row 2 1 (.last (dRo 2) .nil))))))))))))), .tup [], [.blk 5 75, .dead, .row 2 78], (.cons (dInt .i64) (.cons (dInt .i64) (.cons (dInt .i64) (.cons (dInt .i64) (.row 2 2 (.last (dRo 2) .nil))))))⟩
def restrict_Memory_place.p (k : Nat) (y : Int × Int × Int × Int × Int × Int × Int × Int × Int × Int × (List S78)) : Option (Int × Int × Int × Int × (List S78)) := restrict_Memory_place.f k y.1 y.2.1 y.2.2.1 y.2.2.2.1 y.2.2.2.2.1 y.2.2.2.2.2.1 y.2.2.2.2.2.2.1 y.2.2.2.2.2.2.2.1 y.2.2.2.2.2.2.2.2.1 y.2.2.2.2.2.2.2.2.2.1 y.2.2.2.2.2.2.2.2.2.2
def restrict_Memory_place.E (k : Nat) : Env R := ⟨tabOf tabL, ctOf [], mtNone, fun _ => false, codes, rts, 56, fun i => ordOf [(2, [(0, 0), (1, 0), (2, 0), (3, 0), (4, 0), (5, 0), (6, 1), (7, 2), (8, 0), (9, 0), (10, 2)]), (7, [(0, 0), (1, 0), (2, 0), (3, 0), (4, 0), (5, 0), (6, 0), (7, 0), (8, 0), (9, 0), (10, 0), (11, 0), (12, 0), (13, 0), (14, 0), (15, 0), (16, 0)]), (10, [(0, 0), (1, 0), (2, 0), (3, 0), (4, 0), (5, 0), (6, 0), (7, 2)])] i, (ownQ owns 2), [], eqtOf eqs, fun _ => false, flats, mpsOf mps, byt_⟩
def restrict_Memory_place.cl0 : CutS R (Int × Int × Int × Int × (List S78)) := ⟨10, [0, 3, 4, 26, 27], [], [.lf, .lf, .lf, .lf, .lf], [.blk 5 75, .dead, .blk 6 78, .row 2 78], Int × Int × Int × Int × Int × Int × Int × Int × Int × Int × Int × Int × Int × (List S78), (.ptr 0 0 (.ptr 2 0 (.cons (dInt .i64) (.cons (dInt .i64) (.cons (dInt .i64) (.cons (dInt .i64) (.cons (dInt .i64) (.cons (dInt .i64) (.cons (dInt .i64) (.row 2 3 (.cons (dInt .u32) (.cons (dInt .i64) (.cons (dInt .i64) (.cons (dInt .i64) (.cons (dInt .i64) (.cons (dInt .i64) (.last (dRo 2) .nil))))))))))))))))), fun k z => restrict_Memory_place.l0 k z.1 z.2.1 z.2.2.1 z.2.2.2.1 z.2.2.2.2.1 z.2.2.2.2.2.1 z.2.2.2.2.2.2.1 z.2.2.2.2.2.2.2.1 z.2.2.2.2.2.2.2.2.1 z.2.2.2.2.2.2.2.2.2.1 z.2.2.2.2.2.2.2.2.2.2.1 z.2.2.2.2.2.2.2.2.2.2.2.1 z.2.2.2.2.2.2.2.2.2.2.2.2.1 z.2.2.2.2.2.2.2.2.2.2.2.2.2⟩
def restrict_Memory_place.cs : List (CutS R (Int × Int × Int × Int × (List S78))) := [restrict_Memory_place.cl0]
theorem restrict_Memory_place.hE (k : Nat) : EnvOk Try.prog (restrict_Memory_place.E k) := ⟨tabs, ctOf_ok all_nil, mtNone_ok, mixed, eqs_, flats_, mps_⟩
theorem restrict_Memory_place.ol0 : (restrict_Memory_place.cl0).Ok restrict_Memory_place.E Try.f36.results.toList 2 (bodyOf Try.f36) restrict_Memory_place.cs restrict_Memory_place.F.ret := ⟨fun z => rfl, fun k z => by
 obtain ⟨z0, z1, z2, z3, z4, z5, z6, z7, z8, z9, z10, z11, z12, z13⟩ := z
 show restrict_Memory_place.l0 (k + 1) z0 z1 z2 z3 z4 z5 z6 z7 z8 z9 z10 z11 z12 z13 = _
 rw [restrict_Memory_place.l0]
 kernel_rfl⟩
theorem restrict_Memory_place.q (k : Nat) (y : Int × Int × Int × Int × Int × Int × Int × Int × Int × Int × (List S78)) : restrict_Memory_place.p k y = restrict_Memory_place.F.run restrict_Memory_place.E Try.f36.results.toList (bodyOf Try.f36) restrict_Memory_place.cs k y := by kernel_rfl
theorem restrict_Memory_place.ok (k : Nat) : CsemOk R Try.prog 36 (restrict_Memory_place.F.sem (restrict_Memory_place.p k)) := fn_ok (F := restrict_Memory_place.F) (f := restrict_Memory_place.p) (E := restrict_Memory_place.E) restrict_Memory_place.hE (fun _ => rfl) Try.func36 (body := (bodyOf Try.f36)) rfl (by kernel_rfl) rfl (by decide) (by kernel_rfl) (cuts := restrict_Memory_place.cs) (all_cons restrict_Memory_place.ol0 all_nil) restrict_Memory_place.q k
def restrict_Memory_Heard.F : FnS R (Int × Int × Int × Int × Int × Int × Int × (List S78)) (Int × Int × Int × Int × Int × (List S78)) := ⟨[.lf, .lf, .lf, .lf], [.blk 5 75, .row 2 78], (.ptr 0 0 (.cons (dInt .u32) (.cons (dInt .i64) (.cons (dInt .i64) (.cons (dInt .i64) (.cons (dInt .i64) (.cons (dInt .i64) (.cons (dInt .i64) (.row 2 1 (.last (dRo 2) .nil)))))))))), .lf, [.blk 5 75, .dead, .row 2 78], (.cons (dInt .i64) (.cons (dInt .i64) (.cons (dInt .i64) (.cons (dInt .i64) (.cons (dInt .i64) (.row 2 2 (.last (dRo 2) .nil)))))))⟩
def restrict_Memory_Heard.p (k : Nat) (y : Int × Int × Int × Int × Int × Int × Int × (List S78)) : Option (Int × Int × Int × Int × Int × (List S78)) := restrict_Memory_Heard.f k y.1 y.2.1 y.2.2.1 y.2.2.2.1 y.2.2.2.2.1 y.2.2.2.2.2.1 y.2.2.2.2.2.2.1 y.2.2.2.2.2.2.2
def restrict_Memory_Heard.E (k : Nat) : Env R := ⟨tabOf tabL, ctOf [(34, (slices_IndexFunc_restrict_known_restrict_known.F.sem (slices_IndexFunc_restrict_known_restrict_known.p k))), (36, (restrict_Memory_place.F.sem (restrict_Memory_place.p k)))], mtNone, fun _ => false, codes, rts, 194, fun i => ordOf [(6, [(0, 0), (1, 0), (2, 0), (3, 0), (4, 0), (5, 0), (6, 0), (7, 0), (8, 0), (9, 0), (10, 0), (11, 0), (12, 0), (13, 0), (14, 0), (15, 0), (16, 0), (17, 0), (18, 0), (19, 0), (20, 2)]), (9, [(0, 0), (1, 0), (2, 0), (3, 0), (4, 0), (5, 0), (6, 0), (7, 0), (8, 0), (9, 0), (10, 0), (11, 0), (12, 0)]), (11, [(0, 0), (1, 0), (2, 0), (3, 0), (4, 0), (5, 0), (6, 0), (7, 0), (8, 0), (9, 0), (10, 0), (11, 0), (12, 0), (13, 2), (14, 0), (15, 0), (16, 2)]), (13, [(0, 0), (1, 0), (2, 0), (3, 0), (4, 0), (5, 0), (6, 0), (7, 0), (8, 0), (9, 0), (10, 0), (11, 0), (12, 0), (13, 0), (14, 0), (15, 0), (16, 0)]), (15, [(0, 0), (1, 0), (2, 0), (3, 0), (4, 0), (5, 0), (6, 0), (7, 0), (8, 0), (9, 0), (10, 0), (11, 0), (12, 0), (13, 0), (14, 0), (15, 0), (16, 0), (17, 0), (18, 0), (19, 0), (20, 2)]), (23, [(0, 0), (1, 0), (2, 0), (3, 0), (4, 0), (5, 0), (6, 0), (7, 0), (8, 0), (9, 0), (10, 0), (11, 0), (12, 0), (13, 2)])] i, (ownQ owns 2), [], eqtOf eqs, fun _ => false, flats, mpsOf mps, byt_⟩
def restrict_Memory_Heard.cj0 : CutS R (Int × Int × Int × Int × Int × (List S78)) := ⟨6, [0, 3, 5], [], [.lf, .lf, .lf], [.blk 5 75, .dead, .blk 1 24, .row 2 78], Int × Int × Int × Int × Int × Int × (List S78), (.ptr 0 0 (.cons (dInt .i64) (.ptr 2 0 (.cons (dInt .i64) (.cons (dInt .i64) (.cons (dInt .i64) (.cons (dInt .i64) (.row 2 3 (.cons (dInt .u32) (.last (dRo 2) .nil)))))))))), fun k z => restrict_Memory_Heard.j0 k z.1 z.2.1 z.2.2.1 z.2.2.2.1 z.2.2.2.2.1 z.2.2.2.2.2.1 z.2.2.2.2.2.2⟩
def restrict_Memory_Heard.cs : List (CutS R (Int × Int × Int × Int × Int × (List S78))) := [restrict_Memory_Heard.cj0]
theorem restrict_Memory_Heard.hE (k : Nat) : EnvOk Try.prog (restrict_Memory_Heard.E k) := ⟨tabs, ctOf_ok (all_cons (slices_IndexFunc_restrict_known_restrict_known.ok k) (all_cons (restrict_Memory_place.ok k) all_nil)), mtNone_ok, mixed, eqs_, flats_, mps_⟩
theorem restrict_Memory_Heard.oj0 : (restrict_Memory_Heard.cj0).Ok restrict_Memory_Heard.E Try.f14.results.toList 2 (bodyOf Try.f14) restrict_Memory_Heard.cs restrict_Memory_Heard.F.ret := ⟨fun z => rfl, fun k z => by
 obtain ⟨z0, z1, z2, z3, z4, z5, z6⟩ := z
 show restrict_Memory_Heard.j0 (k + 1) z0 z1 z2 z3 z4 z5 z6 = _
 rw [restrict_Memory_Heard.j0]
 kernel_rfl⟩
theorem restrict_Memory_Heard.q (k : Nat) (y : Int × Int × Int × Int × Int × Int × Int × (List S78)) : restrict_Memory_Heard.p k y = restrict_Memory_Heard.F.run restrict_Memory_Heard.E Try.f14.results.toList (bodyOf Try.f14) restrict_Memory_Heard.cs k y := by kernel_rfl
theorem restrict_Memory_Heard.ok (k : Nat) : CsemOk R Try.prog 14 (restrict_Memory_Heard.F.sem (restrict_Memory_Heard.p k)) := fn_ok (F := restrict_Memory_Heard.F) (f := restrict_Memory_Heard.p) (E := restrict_Memory_Heard.E) restrict_Memory_Heard.hE (fun _ => rfl) Try.func14 (body := (bodyOf Try.f14)) rfl (by kernel_rfl) rfl (by decide) (by kernel_rfl) (cuts := restrict_Memory_Heard.cs) (all_cons restrict_Memory_Heard.oj0 all_nil) restrict_Memory_Heard.q k
def restrict_Memory_Find.F : FnS R (S75 × Int) (Int × Int × Int × Int × Int × Bool) := ⟨[.lf, .lf], [], (.cons (dEpt 1 0) (.last (dInt .u32) .nil)), .tup [some 5, none], [], (.cons (dInt .u32) (.cons (dInt .i64) (.cons (dInt .i64) (.cons (dInt .i64) (.cons (dInt .i64) (.last dBool .nil))))))⟩
def restrict_Memory_Find.p (k : Nat) (y : S75 × Int) : Option (Int × Int × Int × Int × Int × Bool) := restrict_Memory_Find.f k y.1 y.2
def restrict_Memory_Find.E (k : Nat) : Env R := ⟨tabOf tabL, ctOf [], mtNone, fun _ => false, codes, rts, 26, fun _ => [], owns, [], eqtOf eqs, fun _ => false, flats, mpsOf mps, byt_⟩
def restrict_Memory_Find.cl0 : CutS R (Int × Int × Int × Int × Int × Bool) := ⟨4, [1, 4, 11, 12, 13], [], [.lf, .lf, .lf, .lf, .lf], [.blk 5 65], Int × (List S78) × Int × Int × Int × Int × Int × Int × Int, (.cons (dInt .u32) (.ptr 0 0 (.cons (dRo 2) (.cons (dInt .i64) (.cons (dInt .i64) (.cons (dInt .u32) (.cons (dInt .i64) (.cons (dInt .i64) (.cons (dInt .i64) (.last (dInt .i64) .nil)))))))))), fun k z => restrict_Memory_Find.l0 k z.1 z.2.1 z.2.2.1 z.2.2.2.1 z.2.2.2.2.1 z.2.2.2.2.2.1 z.2.2.2.2.2.2.1 z.2.2.2.2.2.2.2.1 z.2.2.2.2.2.2.2.2⟩
def restrict_Memory_Find.cs : List (CutS R (Int × Int × Int × Int × Int × Bool)) := [restrict_Memory_Find.cl0]
theorem restrict_Memory_Find.hE (k : Nat) : EnvOk Try.prog (restrict_Memory_Find.E k) := ⟨tabs, ctOf_ok all_nil, mtNone_ok, mixed, eqs_, flats_, mps_⟩
theorem restrict_Memory_Find.ol0 : (restrict_Memory_Find.cl0).Ok restrict_Memory_Find.E Try.f30.results.toList 0 (bodyOf Try.f30) restrict_Memory_Find.cs restrict_Memory_Find.F.ret := ⟨fun z => rfl, fun k z => by
 obtain ⟨z0, z1, z2, z3, z4, z5, z6, z7, z8⟩ := z
 show restrict_Memory_Find.l0 (k + 1) z0 z1 z2 z3 z4 z5 z6 z7 z8 = _
 rw [restrict_Memory_Find.l0]
 kernel_rfl⟩
theorem restrict_Memory_Find.q (k : Nat) (y : S75 × Int) : restrict_Memory_Find.p k y = restrict_Memory_Find.F.run restrict_Memory_Find.E Try.f30.results.toList (bodyOf Try.f30) restrict_Memory_Find.cs k y := by kernel_rfl
theorem restrict_Memory_Find.ok (k : Nat) : CsemOk R Try.prog 30 (restrict_Memory_Find.F.sem (restrict_Memory_Find.p k)) := fn_ok (F := restrict_Memory_Find.F) (f := restrict_Memory_Find.p) (E := restrict_Memory_Find.E) restrict_Memory_Find.hE (fun _ => rfl) Try.func30 (body := (bodyOf Try.f30)) rfl (by kernel_rfl) rfl (by decide) (by kernel_rfl) (cuts := restrict_Memory_Find.cs) (all_cons restrict_Memory_Find.ol0 all_nil) restrict_Memory_Find.q k
def restrict_mask.F : FnS R (Int) (Int) := ⟨[.lf], [], (.last (dInt .i64) .nil), .lf, [], (.last (dInt .u32) .nil)⟩
def restrict_mask.p (k : Nat) (y : Int) : Option (Int) := restrict_mask.f y
def restrict_mask.E (k : Nat) : Env R := ⟨tabOf tabL, ctOf [], mtNone, fun _ => false, codes, rts, 6, fun _ => [], owns, [], eqtOf eqs, fun _ => false, flats, mpsOf mps, byt_⟩
def restrict_mask.cs : List (CutS R (Int)) := []
theorem restrict_mask.hE (k : Nat) : EnvOk Try.prog (restrict_mask.E k) := ⟨tabs, ctOf_ok all_nil, mtNone_ok, mixed, eqs_, flats_, mps_⟩
theorem restrict_mask.q (k : Nat) (y : Int) : restrict_mask.p k y = restrict_mask.F.run restrict_mask.E Try.f32.results.toList (bodyOf Try.f32) restrict_mask.cs k y := by kernel_rfl
theorem restrict_mask.ok (k : Nat) : CsemOk R Try.prog 32 (restrict_mask.F.sem (restrict_mask.p k)) := fn_ok (F := restrict_mask.F) (f := restrict_mask.p) (E := restrict_mask.E) restrict_mask.hE (fun _ => rfl) Try.func32 (body := (bodyOf Try.f32)) rfl (by kernel_rfl) rfl (by decide) (by kernel_rfl) (cuts := restrict_mask.cs) all_nil restrict_mask.q k
def restrict_Check.F : FnS R (Int × Int × Int) (Int) := ⟨[.agg 3], [], (.cons (dInt .u32) (.cons (dInt .i64) (.last (dInt .i64) .nil))), .lf, [], (.last (dInt .i64) .nil)⟩
def restrict_Check.p (k : Nat) (y : Int × Int × Int) : Option (Int) := restrict_Check.f y.1 y.2.1 y.2.2
def restrict_Check.E (k : Nat) : Env R := ⟨tabOf tabL, ctOf [(32, (restrict_mask.F.sem (restrict_mask.p k)))], mtNone, fun f => memB f [32], codes, rts, 23, fun i => ordOf [(5, [(0, 0), (1, 0), (2, 0), (3, 0), (4, 0), (5, 0), (6, 0), (7, 0)])] i, owns, [], eqtOf eqs, fun _ => false, flats, mpsOf mps, byt_⟩
def restrict_Check.cs : List (CutS R (Int)) := []
theorem restrict_Check.hE (k : Nat) : EnvOk Try.prog (restrict_Check.E k) := ⟨tabs, ctOf_ok (all_cons (restrict_mask.ok k) all_nil), mtNone_ok, mixed, eqs_, flats_, mps_⟩
theorem restrict_Check.q (k : Nat) (y : Int × Int × Int) : restrict_Check.p k y = restrict_Check.F.run restrict_Check.E Try.f22.results.toList (bodyOf Try.f22) restrict_Check.cs k y := by kernel_rfl
theorem restrict_Check.ok (k : Nat) : CsemOk R Try.prog 22 (restrict_Check.F.sem (restrict_Check.p k)) := fn_ok (F := restrict_Check.F) (f := restrict_Check.p) (E := restrict_Check.E) restrict_Check.hE (fun _ => rfl) Try.func22 (body := (bodyOf Try.f22)) rfl (by kernel_rfl) rfl (by decide) (by kernel_rfl) (cuts := restrict_Check.cs) all_nil restrict_Check.q k
def restrict_Match.F : FnS R ((List S26) × Int) (Int) := ⟨[.lf, .lf], [], (.cons (dRo 4) (.last (dInt .u32) .nil)), .lf, [], (.last (dInt .i64) .nil)⟩
def restrict_Match.p (k : Nat) (y : (List S26) × Int) : Option (Int) := restrict_Match.f k y.1 y.2
def restrict_Match.E (k : Nat) : Env R := ⟨tabOf tabL, ctOf [(22, (restrict_Check.F.sem (restrict_Check.p k))), (32, (restrict_mask.F.sem (restrict_mask.p k)))], mtNone, fun f => memB f [22, 32], codes, rts, 48, fun i => ordOf [(5, [(0, 0), (1, 0), (2, 0), (3, 0), (4, 0), (5, 0), (6, 0), (7, 0), (8, 0), (9, 0), (10, 0), (11, 0), (12, 0)]), (7, [(0, 0), (1, 0), (2, 0), (3, 0), (4, 0), (5, 0)])] i, owns, [], eqtOf eqs, fun _ => false, flats, mpsOf mps, byt_⟩
def restrict_Match.cl0 : CutS R (Int) := ⟨6, [1, 5, 6, 9, 10, 11], [], [.lf, .lf, .lf, .lf, .lf, .lf], [], Int × Int × Int × (List S26) × Int × Int, (.cons (dInt .u32) (.cons (dInt .i64) (.cons (dInt .i64) (.cons (dRo 4) (.cons (dInt .i64) (.last (dInt .i64) .nil)))))), fun k z => restrict_Match.l0 k z.1 z.2.1 z.2.2.1 z.2.2.2.1 z.2.2.2.2.1 z.2.2.2.2.2⟩
def restrict_Match.cs : List (CutS R (Int)) := [restrict_Match.cl0]
theorem restrict_Match.hE (k : Nat) : EnvOk Try.prog (restrict_Match.E k) := ⟨tabs, ctOf_ok (all_cons (restrict_Check.ok k) (all_cons (restrict_mask.ok k) all_nil)), mtNone_ok, mixed, eqs_, flats_, mps_⟩
theorem restrict_Match.ol0 : (restrict_Match.cl0).Ok restrict_Match.E Try.f10.results.toList 0 (bodyOf Try.f10) restrict_Match.cs restrict_Match.F.ret := ⟨fun z => rfl, fun k z => by
 obtain ⟨z0, z1, z2, z3, z4, z5⟩ := z
 show restrict_Match.l0 (k + 1) z0 z1 z2 z3 z4 z5 = _
 rw [restrict_Match.l0]
 kernel_rfl⟩
theorem restrict_Match.q (k : Nat) (y : (List S26) × Int) : restrict_Match.p k y = restrict_Match.F.run restrict_Match.E Try.f10.results.toList (bodyOf Try.f10) restrict_Match.cs k y := by kernel_rfl
theorem restrict_Match.ok (k : Nat) : CsemOk R Try.prog 10 (restrict_Match.F.sem (restrict_Match.p k)) := fn_ok (F := restrict_Match.F) (f := restrict_Match.p) (E := restrict_Match.E) restrict_Match.hE (fun _ => rfl) Try.func10 (body := (bodyOf Try.f10)) rfl (by kernel_rfl) rfl (by decide) (by kernel_rfl) (cuts := restrict_Match.cs) (all_cons restrict_Match.ol0 all_nil) restrict_Match.q k
def restrict_KissCode.F : FnS R (ByteArray) (Int) := ⟨[.lf], [], (.last dStr .nil), .lf, [], (.last (dInt .u32) .nil)⟩
def restrict_KissCode.p (k : Nat) (y : ByteArray) : Option (Int) := restrict_KissCode.f k y
def restrict_KissCode.E (k : Nat) : Env R := ⟨tabOf tabL, ctOf [], mtNone, fun _ => false, codes, rts, 39, fun _ => [], owns, [], eqtOf eqs, fun _ => false, flats, mpsOf mps, byt_⟩
def restrict_KissCode.cl0 : CutS R (Int) := ⟨10, [0, 3, 13, 14], [], [.lf, .lf, .lf, .lf], [], ByteArray × Int × Int × Int, (.cons dStr (.cons (dInt .u32) (.cons (dInt .i64) (.last (dInt .i64) .nil)))), fun k z => restrict_KissCode.l0 k z.1 z.2.1 z.2.2.1 z.2.2.2⟩
def restrict_KissCode.cs : List (CutS R (Int)) := [restrict_KissCode.cl0]
theorem restrict_KissCode.hE (k : Nat) : EnvOk Try.prog (restrict_KissCode.E k) := ⟨tabs, ctOf_ok all_nil, mtNone_ok, mixed, eqs_, flats_, mps_⟩
theorem restrict_KissCode.ol0 : (restrict_KissCode.cl0).Ok restrict_KissCode.E Try.f18.results.toList 0 (bodyOf Try.f18) restrict_KissCode.cs restrict_KissCode.F.ret := ⟨fun z => rfl, fun k z => by
 obtain ⟨z0, z1, z2, z3⟩ := z
 show restrict_KissCode.l0 (k + 1) z0 z1 z2 z3 = _
 rw [restrict_KissCode.l0]
 kernel_rfl⟩
theorem restrict_KissCode.q (k : Nat) (y : ByteArray) : restrict_KissCode.p k y = restrict_KissCode.F.run restrict_KissCode.E Try.f18.results.toList (bodyOf Try.f18) restrict_KissCode.cs k y := by kernel_rfl
theorem restrict_KissCode.ok (k : Nat) : CsemOk R Try.prog 18 (restrict_KissCode.F.sem (restrict_KissCode.p k)) := fn_ok (F := restrict_KissCode.F) (f := restrict_KissCode.p) (E := restrict_KissCode.E) restrict_KissCode.hE (fun _ => rfl) Try.func18 (body := (bodyOf Try.f18)) rfl (by kernel_rfl) rfl (by decide) (by kernel_rfl) (cuts := restrict_KissCode.cs) (all_cons restrict_KissCode.ol0 all_nil) restrict_KissCode.q k
def foliotlaw06_shown.F : FnS R (Unit) (Bool) := ⟨[], [], .nil, .lf, [], (.last dBool .nil)⟩
def foliotlaw06_shown.p (k : Nat) (y : Unit) : Option (Bool) := foliotlaw06_shown.f k
def foliotlaw06_shown.E (k : Nat) : Env R := ⟨tabOf tabL, ctOf [(13, (restrict_New.F.sem (restrict_New.p k))), (14, (restrict_Memory_Heard.F.sem (restrict_Memory_Heard.p k))), (30, (restrict_Memory_Find.F.sem (restrict_Memory_Find.p k))), (10, (restrict_Match.F.sem (restrict_Match.p k))), (18, (restrict_KissCode.F.sem (restrict_KissCode.p k)))], mtNone, fun f => memB f [10, 30], codes, rts, 66, fun _ => [], owns, [], eqtOf eqs, fun _ => false, flats, mpsOf mps, byt_⟩
def foliotlaw06_shown.cs : List (CutS R (Bool)) := []
theorem foliotlaw06_shown.hE (k : Nat) : EnvOk Try.prog (foliotlaw06_shown.E k) := ⟨tabs, ctOf_ok (all_cons (restrict_New.ok k) (all_cons (restrict_Memory_Heard.ok k) (all_cons (restrict_Memory_Find.ok k) (all_cons (restrict_Match.ok k) (all_cons (restrict_KissCode.ok k) all_nil))))), mtNone_ok, mixed, eqs_, flats_, mps_⟩
theorem foliotlaw06_shown.q (k : Nat) (y : Unit) : foliotlaw06_shown.p k y = foliotlaw06_shown.F.run foliotlaw06_shown.E Try.f12.results.toList (bodyOf Try.f12) foliotlaw06_shown.cs k y := by kernel_rfl
theorem foliotlaw06_shown.ok (k : Nat) : CsemOk R Try.prog 12 (foliotlaw06_shown.F.sem (foliotlaw06_shown.p k)) := fn_ok (F := foliotlaw06_shown.F) (f := foliotlaw06_shown.p) (E := foliotlaw06_shown.E) foliotlaw06_shown.hE (fun _ => rfl) Try.func12 (body := (bodyOf Try.f12)) rfl (by kernel_rfl) rfl (by decide) (by kernel_rfl) (cuts := foliotlaw06_shown.cs) all_nil foliotlaw06_shown.q k
def foliotref06_New.F : FnG R (Int × Int) ((Int) ⊕ (Int × Int × Int × Int × Bool × (List S95))) := ⟨[.lf, .lf], [], (.cons (dInt .i64) (.last (dInt .i64) .nil)), (.alt (.one (.tup [none, none]) [] ((.nilp (.last (dInt .i64) .nil)))) (.one (.tup [none, none]) [.blk 5 94, .row 6 95] ((.ptr 0 0 (.cons (dInt .i64) (.row 6 1 (.cons (dInt .i64) (.cons (dInt .i64) (.cons (dInt .i64) (.cons dBool (.last (dRo 6) .nil)))))))))))⟩
def foliotref06_New.p (k : Nat) (y : Int × Int) : Option ((Int) ⊕ (Int × Int × Int × Int × Bool × (List S95))) := foliotref06_New.f y.1 y.2
def foliotref06_New.E (k : Nat) : Env R := ⟨tabOf tabL, ctOf [], mtNone, fun _ => false, codes, rts, 24, fun _ => [], owns, [], eqtOf eqs, fun _ => false, flats, mpsOf mps, byt_⟩
def foliotref06_New.cs : List (CutS R ((Int) ⊕ (Int × Int × Int × Int × Bool × (List S95)))) := []
theorem foliotref06_New.hE (k : Nat) : EnvOk Try.prog (foliotref06_New.E k) := ⟨tabs, ctOf_ok all_nil, mtNone_ok, mixed, eqs_, flats_, mps_⟩
theorem foliotref06_New.q (k : Nat) (y : Int × Int) : foliotref06_New.p k y = foliotref06_New.F.run foliotref06_New.E Try.f27.results.toList (bodyOf Try.f27) foliotref06_New.cs k y := by kernel_rfl
theorem foliotref06_New.ok (k : Nat) : CsemOk R Try.prog 27 (foliotref06_New.F.sem (foliotref06_New.p k)) := fnG_ok (F := foliotref06_New.F) (f := foliotref06_New.p) (E := foliotref06_New.E) foliotref06_New.hE (fun _ => rfl) Try.func27 (body := (bodyOf Try.f27)) rfl (by kernel_rfl) rfl (by decide) (by kernel_rfl) (cuts := foliotref06_New.cs) all_nil foliotref06_New.q k
def foliotref06_Memory_Find.F : FnS R (S94 × Int) (Int × Int × Int × Int × Int × Bool) := ⟨[.lf, .lf], [], (.cons (dEpt 5 0) (.last (dInt .u32) .nil)), .tup [some 5, none], [], (.cons (dInt .u32) (.cons (dInt .i64) (.cons (dInt .i64) (.cons (dInt .i64) (.cons (dInt .i64) (.last dBool .nil))))))⟩
def foliotref06_Memory_Find.p (k : Nat) (y : S94 × Int) : Option (Int × Int × Int × Int × Int × Bool) := foliotref06_Memory_Find.f k y.1 y.2
def foliotref06_Memory_Find.E (k : Nat) : Env R := ⟨tabOf tabL, ctOf [], mtNone, fun _ => false, codes, rts, 24, fun _ => [], owns, [], eqtOf eqs, fun _ => false, flats, mpsOf mps, byt_⟩
def foliotref06_Memory_Find.cl0 : CutS R (Int × Int × Int × Int × Int × Bool) := ⟨4, [1, 4, 11, 12, 13], [], [.lf, .lf, .lf, .lf, .lf], [.blk 5 95], Int × (List S95) × Int × Int × Int × Int × Int × Int × Int, (.cons (dInt .u32) (.ptr 0 0 (.cons (dRo 6) (.cons (dInt .i64) (.cons (dInt .i64) (.cons (dInt .u32) (.cons (dInt .i64) (.cons (dInt .i64) (.cons (dInt .i64) (.last (dInt .i64) .nil)))))))))), fun k z => foliotref06_Memory_Find.l0 k z.1 z.2.1 z.2.2.1 z.2.2.2.1 z.2.2.2.2.1 z.2.2.2.2.2.1 z.2.2.2.2.2.2.1 z.2.2.2.2.2.2.2.1 z.2.2.2.2.2.2.2.2⟩
def foliotref06_Memory_Find.cs : List (CutS R (Int × Int × Int × Int × Int × Bool)) := [foliotref06_Memory_Find.cl0]
theorem foliotref06_Memory_Find.hE (k : Nat) : EnvOk Try.prog (foliotref06_Memory_Find.E k) := ⟨tabs, ctOf_ok all_nil, mtNone_ok, mixed, eqs_, flats_, mps_⟩
theorem foliotref06_Memory_Find.ol0 : (foliotref06_Memory_Find.cl0).Ok foliotref06_Memory_Find.E Try.f46.results.toList 0 (bodyOf Try.f46) foliotref06_Memory_Find.cs foliotref06_Memory_Find.F.ret := ⟨fun z => rfl, fun k z => by
 obtain ⟨z0, z1, z2, z3, z4, z5, z6, z7, z8⟩ := z
 show foliotref06_Memory_Find.l0 (k + 1) z0 z1 z2 z3 z4 z5 z6 z7 z8 = _
 rw [foliotref06_Memory_Find.l0]
 kernel_rfl⟩
theorem foliotref06_Memory_Find.q (k : Nat) (y : S94 × Int) : foliotref06_Memory_Find.p k y = foliotref06_Memory_Find.F.run foliotref06_Memory_Find.E Try.f46.results.toList (bodyOf Try.f46) foliotref06_Memory_Find.cs k y := by kernel_rfl
theorem foliotref06_Memory_Find.ok (k : Nat) : CsemOk R Try.prog 46 (foliotref06_Memory_Find.F.sem (foliotref06_Memory_Find.p k)) := fn_ok (F := foliotref06_Memory_Find.F) (f := foliotref06_Memory_Find.p) (E := foliotref06_Memory_Find.E) foliotref06_Memory_Find.hE (fun _ => rfl) Try.func46 (body := (bodyOf Try.f46)) rfl (by kernel_rfl) rfl (by decide) (by kernel_rfl) (cuts := foliotref06_Memory_Find.cs) (all_cons foliotref06_Memory_Find.ol0 all_nil) foliotref06_Memory_Find.q k
def foliotref06_gap.F : FnS R (Int × Int) (Int) := ⟨[.lf, .lf], [], (.cons (dInt .i64) (.last (dInt .i64) .nil)), .lf, [], (.last (dInt .i64) .nil)⟩
def foliotref06_gap.p (k : Nat) (y : Int × Int) : Option (Int) := foliotref06_gap.f y.1 y.2
def foliotref06_gap.E (k : Nat) : Env R := ⟨tabOf tabL, ctOf [], mtNone, fun _ => false, codes, rts, 12, fun _ => [], owns, [], eqtOf eqs, fun _ => false, flats, mpsOf mps, byt_⟩
def foliotref06_gap.cs : List (CutS R (Int)) := []
theorem foliotref06_gap.hE (k : Nat) : EnvOk Try.prog (foliotref06_gap.E k) := ⟨tabs, ctOf_ok all_nil, mtNone_ok, mixed, eqs_, flats_, mps_⟩
theorem foliotref06_gap.q (k : Nat) (y : Int × Int) : foliotref06_gap.p k y = foliotref06_gap.F.run foliotref06_gap.E Try.f47.results.toList (bodyOf Try.f47) foliotref06_gap.cs k y := by kernel_rfl
theorem foliotref06_gap.ok (k : Nat) : CsemOk R Try.prog 47 (foliotref06_gap.F.sem (foliotref06_gap.p k)) := fn_ok (F := foliotref06_gap.F) (f := foliotref06_gap.p) (E := foliotref06_gap.E) foliotref06_gap.hE (fun _ => rfl) Try.func47 (body := (bodyOf Try.f47)) rfl (by kernel_rfl) rfl (by decide) (by kernel_rfl) (cuts := foliotref06_gap.cs) all_nil foliotref06_gap.q k
def foliotref06_Memory_Heard.F : FnS R (Int × Int × Int × Int × Int × Int × Bool × (List S95)) (Int × Int × Int × Int × Bool × (List S95) × (List S95)) := ⟨[.lf, .lf, .lf, .lf], [.blk 5 94, .row 6 95], (.ptr 0 0 (.cons (dInt .u32) (.cons (dInt .i64) (.cons (dInt .i64) (.row 6 1 (.cons (dInt .i64) (.cons (dInt .i64) (.cons (dInt .i64) (.cons dBool (.last (dRo 6) .nil)))))))))), .lf, [.blk 5 94, .row 6 95, .row 6 95], (.cons (dInt .i64) (.row 6 2 (.cons (dInt .i64) (.cons (dInt .i64) (.cons (dInt .i64) (.cons dBool (.cons (dRo 6) (.last (dRo 6) .nil))))))))⟩
def foliotref06_Memory_Heard.p (k : Nat) (y : Int × Int × Int × Int × Int × Int × Bool × (List S95)) : Option (Int × Int × Int × Int × Bool × (List S95) × (List S95)) := foliotref06_Memory_Heard.f k y.1 y.2.1 y.2.2.1 y.2.2.2.1 y.2.2.2.2.1 y.2.2.2.2.2.1 y.2.2.2.2.2.2.1 y.2.2.2.2.2.2.2
def foliotref06_Memory_Heard.E (k : Nat) : Env R := ⟨tabOf tabL, ctOf [(46, (foliotref06_Memory_Find.F.sem (foliotref06_Memory_Find.p k))), (47, (foliotref06_gap.F.sem (foliotref06_gap.p k)))], mtNone, fun f => memB f [46], codes, rts, 151, fun _ => [], owns, [], eqtOf eqs, fun _ => false, flats, mpsOf mps, byt_⟩
def foliotref06_Memory_Heard.cl0 : CutS R (Int × Int × Int × Int × Bool × (List S95) × (List S95)) := ⟨16, [0, 1, 2, 3, 9, 10, 11, 12, 56, 57, 58], [none, none, none, none, none, none, none, some (.row 6 95), none, none, none], [.lf, .lf, .lf, .lf, .lf, .lf, .lf, .lf, .lf, .lf, .lf], [.blk 5 94, .row 6 95, .blk 5 95, .row 6 95], Int × Int × Int × Int × Bool × Int × Int × Int × Int × Int × Bool × (List S95) × Int × Int × Int × Int × Int × (List S95), (.ptr 0 0 (.cons (dInt .u32) (.cons (dInt .i64) (.cons (dInt .i64) (.cons (dInt .i64) (.ptr 2 0 (.cons dBool (.row 6 3 (.row 6 1 (.cons (dInt .i64) (.cons (dInt .i64) (.row 6 1 (.cons (dInt .i64) (.cons (dInt .i64) (.cons (dInt .i64) (.cons dBool (.cons (dRo 6) (.cons (dInt .u32) (.cons (dInt .i64) (.cons (dInt .i64) (.cons (dInt .i64) (.cons (dInt .i64) (.last (dRo 6) .nil))))))))))))))))))))))), fun k z => foliotref06_Memory_Heard.l0 k z.1 z.2.1 z.2.2.1 z.2.2.2.1 z.2.2.2.2.1 z.2.2.2.2.2.1 z.2.2.2.2.2.2.1 z.2.2.2.2.2.2.2.1 z.2.2.2.2.2.2.2.2.1 z.2.2.2.2.2.2.2.2.2.1 z.2.2.2.2.2.2.2.2.2.2.1 z.2.2.2.2.2.2.2.2.2.2.2.1 z.2.2.2.2.2.2.2.2.2.2.2.2.1 z.2.2.2.2.2.2.2.2.2.2.2.2.2.1 z.2.2.2.2.2.2.2.2.2.2.2.2.2.2.1 z.2.2.2.2.2.2.2.2.2.2.2.2.2.2.2.1 z.2.2.2.2.2.2.2.2.2.2.2.2.2.2.2.2.1 z.2.2.2.2.2.2.2.2.2.2.2.2.2.2.2.2.2⟩
def foliotref06_Memory_Heard.cj0 : CutS R (Int × Int × Int × Int × Bool × (List S95) × (List S95)) := ⟨44, [0, 3, 9, 10, 12, 15, 16], [], [.lf, .lf, .lf, .lf, .lf, .lf, .lf], [.blk 5 94, .row 6 95, .blk 5 95, .row 6 95], Int × Int × Int × Int × Int × Int × Int × Bool × (List S95) × Int × Int × Int × Int × Int × (List S95), (.ptr 0 0 (.cons (dInt .i64) (.cons (dInt .i64) (.ptr 2 0 (.row 6 3 (.cons (dInt .i64) (.cons (dInt .i64) (.row 6 1 (.cons (dInt .i64) (.cons (dInt .i64) (.cons (dInt .i64) (.cons dBool (.cons (dRo 6) (.cons (dInt .u32) (.cons (dInt .i64) (.cons (dInt .i64) (.cons (dInt .i64) (.cons (dInt .i64) (.last (dRo 6) .nil))))))))))))))))))), fun k z => foliotref06_Memory_Heard.j0 k z.1 z.2.1 z.2.2.1 z.2.2.2.1 z.2.2.2.2.1 z.2.2.2.2.2.1 z.2.2.2.2.2.2.1 z.2.2.2.2.2.2.2.1 z.2.2.2.2.2.2.2.2.1 z.2.2.2.2.2.2.2.2.2.1 z.2.2.2.2.2.2.2.2.2.2.1 z.2.2.2.2.2.2.2.2.2.2.2.1 z.2.2.2.2.2.2.2.2.2.2.2.2.1 z.2.2.2.2.2.2.2.2.2.2.2.2.2.1 z.2.2.2.2.2.2.2.2.2.2.2.2.2.2⟩
def foliotref06_Memory_Heard.cj1 : CutS R (Int × Int × Int × Int × Bool × (List S95) × (List S95)) := ⟨64, [0, 10, 12, 17], [], [.lf, .lf, .lf, .lf], [.blk 5 94, .row 6 95, .blk 5 95, .row 6 95], Int × Int × Int × Int × Bool × (List S95) × Int × Int × Int × Int × Int × (List S95), (.ptr 0 0 (.ptr 2 0 (.row 6 3 (.cons (dInt .i64) (.row 6 1 (.cons (dInt .i64) (.cons (dInt .i64) (.cons (dInt .i64) (.cons dBool (.cons (dRo 6) (.cons (dInt .u32) (.cons (dInt .i64) (.cons (dInt .i64) (.cons (dInt .i64) (.cons (dInt .i64) (.last (dRo 6) .nil)))))))))))))))), fun k z => foliotref06_Memory_Heard.j1 k z.1 z.2.1 z.2.2.1 z.2.2.2.1 z.2.2.2.2.1 z.2.2.2.2.2.1 z.2.2.2.2.2.2.1 z.2.2.2.2.2.2.2.1 z.2.2.2.2.2.2.2.2.1 z.2.2.2.2.2.2.2.2.2.1 z.2.2.2.2.2.2.2.2.2.2.1 z.2.2.2.2.2.2.2.2.2.2.2⟩
def foliotref06_Memory_Heard.cs : List (CutS R (Int × Int × Int × Int × Bool × (List S95) × (List S95))) := [foliotref06_Memory_Heard.cl0, foliotref06_Memory_Heard.cj0, foliotref06_Memory_Heard.cj1]
theorem foliotref06_Memory_Heard.hE (k : Nat) : EnvOk Try.prog (foliotref06_Memory_Heard.E k) := ⟨tabs, ctOf_ok (all_cons (foliotref06_Memory_Find.ok k) (all_cons (foliotref06_gap.ok k) all_nil)), mtNone_ok, mixed, eqs_, flats_, mps_⟩
theorem foliotref06_Memory_Heard.ol0 : (foliotref06_Memory_Heard.cl0).Ok foliotref06_Memory_Heard.E Try.f28.results.toList 2 (bodyOf Try.f28) foliotref06_Memory_Heard.cs foliotref06_Memory_Heard.F.ret := ⟨fun z => rfl, fun k z => by
 obtain ⟨z0, z1, z2, z3, z4, z5, z6, z7, z8, z9, z10, z11, z12, z13, z14, z15, z16, z17⟩ := z
 show foliotref06_Memory_Heard.l0 (k + 1) z0 z1 z2 z3 z4 z5 z6 z7 z8 z9 z10 z11 z12 z13 z14 z15 z16 z17 = _
 rw [foliotref06_Memory_Heard.l0]
 kernel_rfl⟩
theorem foliotref06_Memory_Heard.oj0 : (foliotref06_Memory_Heard.cj0).Ok foliotref06_Memory_Heard.E Try.f28.results.toList 2 (bodyOf Try.f28) foliotref06_Memory_Heard.cs foliotref06_Memory_Heard.F.ret := ⟨fun z => rfl, fun k z => by
 obtain ⟨z0, z1, z2, z3, z4, z5, z6, z7, z8, z9, z10, z11, z12, z13, z14⟩ := z
 show foliotref06_Memory_Heard.j0 (k + 1) z0 z1 z2 z3 z4 z5 z6 z7 z8 z9 z10 z11 z12 z13 z14 = _
 rw [foliotref06_Memory_Heard.j0]
 kernel_rfl⟩
theorem foliotref06_Memory_Heard.oj1 : (foliotref06_Memory_Heard.cj1).Ok foliotref06_Memory_Heard.E Try.f28.results.toList 2 (bodyOf Try.f28) foliotref06_Memory_Heard.cs foliotref06_Memory_Heard.F.ret := ⟨fun z => rfl, fun k z => by
 obtain ⟨z0, z1, z2, z3, z4, z5, z6, z7, z8, z9, z10, z11⟩ := z
 show foliotref06_Memory_Heard.j1 (k + 1) z0 z1 z2 z3 z4 z5 z6 z7 z8 z9 z10 z11 = _
 rw [foliotref06_Memory_Heard.j1]
 kernel_rfl⟩
theorem foliotref06_Memory_Heard.q (k : Nat) (y : Int × Int × Int × Int × Int × Int × Bool × (List S95)) : foliotref06_Memory_Heard.p k y = foliotref06_Memory_Heard.F.run foliotref06_Memory_Heard.E Try.f28.results.toList (bodyOf Try.f28) foliotref06_Memory_Heard.cs k y := by kernel_rfl
theorem foliotref06_Memory_Heard.ok (k : Nat) : CsemOk R Try.prog 28 (foliotref06_Memory_Heard.F.sem (foliotref06_Memory_Heard.p k)) := fn_ok (F := foliotref06_Memory_Heard.F) (f := foliotref06_Memory_Heard.p) (E := foliotref06_Memory_Heard.E) foliotref06_Memory_Heard.hE (fun _ => rfl) Try.func28 (body := (bodyOf Try.f28)) rfl (by kernel_rfl) rfl (by decide) (by kernel_rfl) (cuts := foliotref06_Memory_Heard.cs) (all_cons foliotref06_Memory_Heard.ol0 (all_cons foliotref06_Memory_Heard.oj0 (all_cons foliotref06_Memory_Heard.oj1 all_nil))) foliotref06_Memory_Heard.q k
def slices_Clone_restrict_known_restrict_known.F : FnS R ((List S78)) ((List S78)) := ⟨[.lf], [], (.last (dRo 2) .nil), .lf, [.row 2 78], (.row 2 0 (.last (dRo 2) .nil))⟩
def slices_Clone_restrict_known_restrict_known.p (k : Nat) (y : (List S78)) : Option ((List S78)) := slices_Clone_restrict_known_restrict_known.f y
def slices_Clone_restrict_known_restrict_known.E (k : Nat) : Env R := ⟨tabOf tabL, ctOf [], mtNone, fun _ => false, codes, rts, 8, fun _ => [], owns, [some (.row 2 78)], eqtOf eqs, fun _ => false, flats, mpsOf mps, byt_⟩
def slices_Clone_restrict_known_restrict_known.cs : List (CutS R ((List S78))) := []
theorem slices_Clone_restrict_known_restrict_known.hE (k : Nat) : EnvOk Try.prog (slices_Clone_restrict_known_restrict_known.E k) := ⟨tabs, ctOf_ok all_nil, mtNone_ok, mixed, eqs_, flats_, mps_⟩
theorem slices_Clone_restrict_known_restrict_known.q (k : Nat) (y : (List S78)) : slices_Clone_restrict_known_restrict_known.p k y = slices_Clone_restrict_known_restrict_known.F.run slices_Clone_restrict_known_restrict_known.E Try.f49.results.toList (bodyOf Try.f49) slices_Clone_restrict_known_restrict_known.cs k y := by kernel_rfl
theorem slices_Clone_restrict_known_restrict_known.ok (k : Nat) : CsemOk R Try.prog 49 (slices_Clone_restrict_known_restrict_known.F.sem (slices_Clone_restrict_known_restrict_known.p k)) := fn_ok (F := slices_Clone_restrict_known_restrict_known.F) (f := slices_Clone_restrict_known_restrict_known.p) (E := slices_Clone_restrict_known_restrict_known.E) slices_Clone_restrict_known_restrict_known.hE (fun _ => rfl) Try.func49 (body := (bodyOf Try.f49)) rfl (by kernel_rfl) rfl (by decide) (by kernel_rfl) (cuts := slices_Clone_restrict_known_restrict_known.cs) all_nil slices_Clone_restrict_known_restrict_known.q k
def bits_Len64.F : FnS R (Int) (Int) := ⟨[.lf], [], (.last (dInt .u64) .nil), .lf, [], (.last (dInt .i64) .nil)⟩
def bits_Len64.p (k : Nat) (y : Int) : Option (Int) := bits_Len64.f y
theorem bits_Len64.tab (i : Int) (h0 : 0 ≤ i) (h1 : i ≤ 255) (h : i.toNat < Lib.len8tab.size) : ((Lib.len8tab[i.toNat]'h).toNat : Int) = (Lib.bitLen i.toNat : Int) := by
  rw [← Lib.len8_of i h0 h1]
  simp only [Lib.len8, ByteArray.getElem?_lt' _ _ h, Option.getD_some]
theorem bits_Len64.sum (c n b : Nat) (hc : c ≤ 56) (hb : b ≤ 8) (hn : n = c + b) : wrap64 ((c : Int) + wrap64 (b : Int)) = (n : Int) := by
  unfold wrap64
  omega
set_option maxHeartbeats 4000000 in
set_option maxRecDepth 100000 in
theorem bits_Len64.lib (x : Int) (w : World) (h0 : 0 ≤ x) (h1 : x ≤ 18446744073709551615) :
    Calls Try.prog 69 #[.int .u64 x] w fun e w' => e = .returned (.int .i64 (Lib.bitLen x.toNat)) ∧ w' = w := by
  have hs := Lib.len8tab_size
  go_enter Try.func69, Try.ntmps69
  go_wp2
  all_goals (go_ret; refine ⟨congrArg Ending.returned (congrArg (Value.int IntKind.i64) ?_), rfl⟩)
  · rw [bits_Len64.tab (x / 4294967296 / 65536 / 256) (by omega) (by omega)]
    have e : (x / 4294967296 / 65536 / 256).toNat = x.toNat / 72057594037927936 := by omega
    rw [e]
    exact bits_Len64.sum 56 _ _ (by omega) (by rw [← e]; exact Lib.bitLen_le8' _ (by omega) (by omega)) (Lib.bitLen_shift56 x.toNat (by omega) (by omega))
  · rw [bits_Len64.tab (x / 4294967296 / 65536) (by omega) (by omega)]
    have e : (x / 4294967296 / 65536).toNat = x.toNat / 281474976710656 := by omega
    rw [e]
    exact bits_Len64.sum 48 _ _ (by omega) (by rw [← e]; exact Lib.bitLen_le8' _ (by omega) (by omega)) (Lib.bitLen_shift48 x.toNat (by omega) (by omega))
  · rw [bits_Len64.tab (x / 4294967296 / 256) (by omega) (by omega)]
    have e : (x / 4294967296 / 256).toNat = x.toNat / 1099511627776 := by omega
    rw [e]
    exact bits_Len64.sum 40 _ _ (by omega) (by rw [← e]; exact Lib.bitLen_le8' _ (by omega) (by omega)) (Lib.bitLen_shift40 x.toNat (by omega) (by omega))
  · rw [bits_Len64.tab (x / 4294967296) (by omega) (by omega)]
    have e : (x / 4294967296).toNat = x.toNat / 4294967296 := by omega
    rw [e]
    exact bits_Len64.sum 32 _ _ (by omega) (by rw [← e]; exact Lib.bitLen_le8' _ (by omega) (by omega)) (Lib.bitLen_shift32 x.toNat (by omega) (by omega))
  · rw [bits_Len64.tab (x / 65536 / 256) (by omega) (by omega)]
    have e : (x / 65536 / 256).toNat = x.toNat / 16777216 := by omega
    rw [e]
    exact bits_Len64.sum 24 _ _ (by omega) (by rw [← e]; exact Lib.bitLen_le8' _ (by omega) (by omega)) (Lib.bitLen_shift24 x.toNat (by omega) (by omega))
  · rw [bits_Len64.tab (x / 65536) (by omega) (by omega)]
    have e : (x / 65536).toNat = x.toNat / 65536 := by omega
    rw [e]
    exact bits_Len64.sum 16 _ _ (by omega) (by rw [← e]; exact Lib.bitLen_le8' _ (by omega) (by omega)) (Lib.bitLen_shift16 x.toNat (by omega) (by omega))
  · rw [bits_Len64.tab (x / 256) (by omega) (by omega)]
    have e : (x / 256).toNat = x.toNat / 256 := by omega
    rw [e]
    exact bits_Len64.sum 8 _ _ (by omega) (by rw [← e]; exact Lib.bitLen_le8' _ (by omega) (by omega)) (Lib.bitLen_shift8 x.toNat (by omega) (by omega))
  · rw [bits_Len64.tab x (by omega) (by omega)]
    have l := Lib.bitLen_le8' x (by omega) (by omega)
    unfold wrap64
    omega
theorem bits_Len64.le (n : Nat) : Lib.bitLen n ≤ 64 := by
  have : ∀ f x : Nat, Lib.bitLenAux f x ≤ f := by
    intro f
    induction f with
    | zero => intro x; simp [Lib.bitLenAux]
    | succ f ih =>
      intro x
      unfold Lib.bitLenAux
      split
      · omega
      · have := ih (x / 2); omega
  exact this 64 n
theorem bits_Len64.ok (k : Nat) : CsemOk R Try.prog 69 (bits_Len64.F.sem (bits_Len64.p k)) := sem_ok fun y r h ρ w us hrel hargs => by
 change All2 (IsT R ρ w) [.lf (.v (.int .u64 y))] us at hargs
 obtain ⟨u0, _, rfl, h0, g1⟩ := all2_cons hargs
 cases g1
 obtain ⟨rfl, b0⟩ := is_v h0
 change bits_Len64.f y = some r at h
 unfold bits_Len64.f at h
 split at h
 · rename_i hb
   injection h with h
   subst h
   refine .inl ⟨call_enter Try.func69 (body := bodyOf Try.f69) rfl (by kernel_rfl) _ w, (bits_Len64.lib y w hb.1 hb.2).mono fun e w' hh => ⟨_, hh.1, ?_⟩⟩
   rw [hh.2]
   refine post_still hrel (Is.v _ ?_)
   have := bits_Len64.le y.toNat
   exact wf_nat (n := Lib.bitLen y.toNat) (by omega)
 · cases h
def bits_Len.F : FnS R (Int) (Int) := ⟨[.lf], [], (.last (dInt .u64) .nil), .lf, [], (.last (dInt .i64) .nil)⟩
def bits_Len.p (k : Nat) (y : Int) : Option (Int) := bits_Len.f y
def bits_Len.E (k : Nat) : Env R := ⟨tabOf tabL, ctOf [(69, (bits_Len64.F.sem (bits_Len64.p k)))], mtNone, fun _ => false, codes, rts, 8, fun _ => [], owns, [], eqtOf eqs, fun _ => false, flats, mpsOf mps, byt_⟩
def bits_Len.cs : List (CutS R (Int)) := []
theorem bits_Len.hE (k : Nat) : EnvOk Try.prog (bits_Len.E k) := ⟨tabs, ctOf_ok (all_cons (bits_Len64.ok k) all_nil), mtNone_ok, mixed, eqs_, flats_, mps_⟩
theorem bits_Len.q (k : Nat) (y : Int) : bits_Len.p k y = bits_Len.F.run bits_Len.E Try.f57.results.toList (bodyOf Try.f57) bits_Len.cs k y := by kernel_rfl
theorem bits_Len.ok (k : Nat) : CsemOk R Try.prog 57 (bits_Len.F.sem (bits_Len.p k)) := fn_ok (F := bits_Len.F) (f := bits_Len.p) (E := bits_Len.E) bits_Len.hE (fun _ => rfl) Try.func57 (body := (bodyOf Try.f57)) rfl (by kernel_rfl) rfl (by decide) (by kernel_rfl) (cuts := bits_Len.cs) all_nil bits_Len.q k
def cmp_isNaN_int.F : FnS R (Int) (Bool) := ⟨[.lf], [], (.last (dInt .i64) .nil), .lf, [], (.last dBool .nil)⟩
def cmp_isNaN_int.p (k : Nat) (y : Int) : Option (Bool) := cmp_isNaN_int.f y
def cmp_isNaN_int.E (k : Nat) : Env R := ⟨tabOf tabL, ctOf [], mtNone, fun _ => false, codes, rts, 6, fun _ => [], owns, [], eqtOf eqs, fun _ => false, flats, mpsOf mps, byt_⟩
def cmp_isNaN_int.cs : List (CutS R (Bool)) := []
theorem cmp_isNaN_int.hE (k : Nat) : EnvOk Try.prog (cmp_isNaN_int.E k) := ⟨tabs, ctOf_ok all_nil, mtNone_ok, mixed, eqs_, flats_, mps_⟩
theorem cmp_isNaN_int.q (k : Nat) (y : Int) : cmp_isNaN_int.p k y = cmp_isNaN_int.F.run cmp_isNaN_int.E Try.f55.results.toList (bodyOf Try.f55) cmp_isNaN_int.cs k y := by kernel_rfl
theorem cmp_isNaN_int.ok (k : Nat) : CsemOk R Try.prog 55 (cmp_isNaN_int.F.sem (cmp_isNaN_int.p k)) := fn_ok (F := cmp_isNaN_int.F) (f := cmp_isNaN_int.p) (E := cmp_isNaN_int.E) cmp_isNaN_int.hE (fun _ => rfl) Try.func55 (body := (bodyOf Try.f55)) rfl (by kernel_rfl) rfl (by decide) (by kernel_rfl) (cuts := cmp_isNaN_int.cs) all_nil cmp_isNaN_int.q k
def cmp_Compare_int.F : FnS R (Int × Int) (Int) := ⟨[.lf, .lf], [], (.cons (dInt .i64) (.last (dInt .i64) .nil)), .lf, [], (.last (dInt .i64) .nil)⟩
def cmp_Compare_int.p (k : Nat) (y : Int × Int) : Option (Int) := cmp_Compare_int.f y.1 y.2
def cmp_Compare_int.E (k : Nat) : Env R := ⟨tabOf tabL, ctOf [(55, (cmp_isNaN_int.F.sem (cmp_isNaN_int.p k)))], mtNone, fun _ => false, codes, rts, 20, fun _ => [], owns, [], eqtOf eqs, fun _ => false, flats, mpsOf mps, byt_⟩
def cmp_Compare_int.cs : List (CutS R (Int)) := []
theorem cmp_Compare_int.hE (k : Nat) : EnvOk Try.prog (cmp_Compare_int.E k) := ⟨tabs, ctOf_ok (all_cons (cmp_isNaN_int.ok k) all_nil), mtNone_ok, mixed, eqs_, flats_, mps_⟩
theorem cmp_Compare_int.q (k : Nat) (y : Int × Int) : cmp_Compare_int.p k y = cmp_Compare_int.F.run cmp_Compare_int.E Try.f44.results.toList (bodyOf Try.f44) cmp_Compare_int.cs k y := by kernel_rfl
theorem cmp_Compare_int.ok (k : Nat) : CsemOk R Try.prog 44 (cmp_Compare_int.F.sem (cmp_Compare_int.p k)) := fn_ok (F := cmp_Compare_int.F) (f := cmp_Compare_int.p) (E := cmp_Compare_int.E) cmp_Compare_int.hE (fun _ => rfl) Try.func44 (body := (bodyOf Try.f44)) rfl (by kernel_rfl) rfl (by decide) (by kernel_rfl) (cuts := cmp_Compare_int.cs) all_nil cmp_Compare_int.q k
def restrict_Memory_List_1.F : FnS R (Int × Int × Int × Int × Int × Int × Int × Int × Int × Int × Int × Int) (Int) := ⟨[.agg 6, .agg 6], [], (.cons (dInt .u32) (.cons (dInt .i64) (.cons (dInt .i64) (.cons (dInt .i64) (.cons (dInt .i64) (.cons (dInt .i64) (.cons (dInt .u32) (.cons (dInt .i64) (.cons (dInt .i64) (.cons (dInt .i64) (.cons (dInt .i64) (.last (dInt .i64) .nil)))))))))))), .lf, [], (.last (dInt .i64) .nil)⟩
def restrict_Memory_List_1.p (k : Nat) (y : Int × Int × Int × Int × Int × Int × Int × Int × Int × Int × Int × Int) : Option (Int) := restrict_Memory_List_1.f y.1 y.2.1 y.2.2.1 y.2.2.2.1 y.2.2.2.2.1 y.2.2.2.2.2.1 y.2.2.2.2.2.2.1 y.2.2.2.2.2.2.2.1 y.2.2.2.2.2.2.2.2.1 y.2.2.2.2.2.2.2.2.2.1 y.2.2.2.2.2.2.2.2.2.2.1 y.2.2.2.2.2.2.2.2.2.2.2
def restrict_Memory_List_1.E (k : Nat) : Env R := ⟨tabOf tabL, ctOf [(44, (cmp_Compare_int.F.sem (cmp_Compare_int.p k)))], mtNone, fun _ => false, codes, rts, 10, fun _ => [], owns, [], eqtOf eqs, fun _ => false, flats, mpsOf mps, byt_⟩
def restrict_Memory_List_1.cs : List (CutS R (Int)) := []
theorem restrict_Memory_List_1.hE (k : Nat) : EnvOk Try.prog (restrict_Memory_List_1.E k) := ⟨tabs, ctOf_ok (all_cons (cmp_Compare_int.ok k) all_nil), mtNone_ok, mixed, eqs_, flats_, mps_⟩
theorem restrict_Memory_List_1.q (k : Nat) (y : Int × Int × Int × Int × Int × Int × Int × Int × Int × Int × Int × Int) : restrict_Memory_List_1.p k y = restrict_Memory_List_1.F.run restrict_Memory_List_1.E Try.f51.results.toList (bodyOf Try.f51) restrict_Memory_List_1.cs k y := by kernel_rfl
theorem restrict_Memory_List_1.ok (k : Nat) : CsemOk R Try.prog 51 (restrict_Memory_List_1.F.sem (restrict_Memory_List_1.p k)) := fn_ok (F := restrict_Memory_List_1.F) (f := restrict_Memory_List_1.p) (E := restrict_Memory_List_1.E) restrict_Memory_List_1.hE (fun _ => rfl) Try.func51 (body := (bodyOf Try.f51)) rfl (by kernel_rfl) rfl (by decide) (by kernel_rfl) (cuts := restrict_Memory_List_1.cs) all_nil restrict_Memory_List_1.q k
def slices_insertionSortCmpFunc_restrict_known.F : FnS R (Int × Int × (List S78)) ((List S78)) := ⟨[.lf, .lf, .lf, .lf], [.row 2 78], (.row 2 0 (.cons (dInt .i64) (.cons (dInt .i64) (.fnv 51 (.last (dRo 2) .nil))))), .tup [], [.row 2 78], (.last (dRo 2) .nil)⟩
def slices_insertionSortCmpFunc_restrict_known.p (k : Nat) (y : Int × Int × (List S78)) : Option ((List S78)) := slices_insertionSortCmpFunc_restrict_known.f k y.1 y.2.1 y.2.2
def slices_insertionSortCmpFunc_restrict_known.E (k : Nat) : Env R := ⟨tabOf tabL, ctOf [(51, (restrict_Memory_List_1.F.sem (restrict_Memory_List_1.p k)))], mtNone, fun _ => false, codes, rts, 53, fun i => ordOf [(4, [(0, 0), (1, 0), (2, 0), (3, 0), (4, 0), (5, 0), (6, 0), (7, 0), (8, 0), (9, 0), (10, 0), (11, 0), (12, 0), (13, 0), (14, 2), (15, 0), (16, 0)]), (6, [(0, 0), (1, 0), (2, 0), (3, 0), (4, 0), (5, 0), (6, 0), (7, 0), (8, 0), (9, 0), (10, 0), (11, 0), (12, 0), (13, 0), (14, 0), (15, 2), (16, 0), (17, 2)])] i, owns, [], eqtOf eqs, fun _ => false, flats, mpsOf mps, byt_⟩
def slices_insertionSortCmpFunc_restrict_known.cl0 : CutS R ((List S78)) := ⟨2, [0, 1, 2, 3, 8], [], [.lf, .lf, .lf, .lf, .lf], [.row 2 78], Int × Int × Int × (List S78), (.row 2 0 (.cons (dInt .i64) (.cons (dInt .i64) (.fnv 51 (.cons (dInt .i64) (.last (dRo 2) .nil)))))), fun k z => slices_insertionSortCmpFunc_restrict_known.l0 k z.1 z.2.1 z.2.2.1 z.2.2.2⟩
def slices_insertionSortCmpFunc_restrict_known.cl1 : CutS R ((List S78)) := ⟨8, [0, 1, 2, 3, 8, 9], [], [.lf, .lf, .lf, .lf, .lf, .lf], [.row 2 78], Int × Int × Int × Int × (List S78), (.row 2 0 (.cons (dInt .i64) (.cons (dInt .i64) (.fnv 51 (.cons (dInt .i64) (.cons (dInt .i64) (.last (dRo 2) .nil))))))), fun k z => slices_insertionSortCmpFunc_restrict_known.l1 k z.1 z.2.1 z.2.2.1 z.2.2.2.1 z.2.2.2.2⟩
def slices_insertionSortCmpFunc_restrict_known.cs : List (CutS R ((List S78))) := [slices_insertionSortCmpFunc_restrict_known.cl0, slices_insertionSortCmpFunc_restrict_known.cl1]
theorem slices_insertionSortCmpFunc_restrict_known.hE (k : Nat) : EnvOk Try.prog (slices_insertionSortCmpFunc_restrict_known.E k) := ⟨tabs, ctOf_ok (all_cons (restrict_Memory_List_1.ok k) all_nil), mtNone_ok, mixed, eqs_, flats_, mps_⟩
theorem slices_insertionSortCmpFunc_restrict_known.ol0 : (slices_insertionSortCmpFunc_restrict_known.cl0).Ok slices_insertionSortCmpFunc_restrict_known.E Try.f60.results.toList 1 (bodyOf Try.f60) slices_insertionSortCmpFunc_restrict_known.cs slices_insertionSortCmpFunc_restrict_known.F.ret := ⟨fun z => rfl, fun k z => by
 obtain ⟨z0, z1, z2, z3⟩ := z
 show slices_insertionSortCmpFunc_restrict_known.l0 (k + 1) z0 z1 z2 z3 = _
 rw [slices_insertionSortCmpFunc_restrict_known.l0]
 kernel_rfl⟩
theorem slices_insertionSortCmpFunc_restrict_known.ol1 : (slices_insertionSortCmpFunc_restrict_known.cl1).Ok slices_insertionSortCmpFunc_restrict_known.E Try.f60.results.toList 1 (bodyOf Try.f60) slices_insertionSortCmpFunc_restrict_known.cs slices_insertionSortCmpFunc_restrict_known.F.ret := ⟨fun z => rfl, fun k z => by
 obtain ⟨z0, z1, z2, z3, z4⟩ := z
 show slices_insertionSortCmpFunc_restrict_known.l1 (k + 1) z0 z1 z2 z3 z4 = _
 rw [slices_insertionSortCmpFunc_restrict_known.l1]
 kernel_rfl⟩
theorem slices_insertionSortCmpFunc_restrict_known.q (k : Nat) (y : Int × Int × (List S78)) : slices_insertionSortCmpFunc_restrict_known.p k y = slices_insertionSortCmpFunc_restrict_known.F.run slices_insertionSortCmpFunc_restrict_known.E Try.f60.results.toList (bodyOf Try.f60) slices_insertionSortCmpFunc_restrict_known.cs k y := by kernel_rfl
theorem slices_insertionSortCmpFunc_restrict_known.ok (k : Nat) : CsemOk R Try.prog 60 (slices_insertionSortCmpFunc_restrict_known.F.sem (slices_insertionSortCmpFunc_restrict_known.p k)) := fn_ok (F := slices_insertionSortCmpFunc_restrict_known.F) (f := slices_insertionSortCmpFunc_restrict_known.p) (E := slices_insertionSortCmpFunc_restrict_known.E) slices_insertionSortCmpFunc_restrict_known.hE (fun _ => rfl) Try.func60 (body := (bodyOf Try.f60)) rfl (by kernel_rfl) rfl (by decide) (by kernel_rfl) (cuts := slices_insertionSortCmpFunc_restrict_known.cs) (all_cons slices_insertionSortCmpFunc_restrict_known.ol0 (all_cons slices_insertionSortCmpFunc_restrict_known.ol1 all_nil)) slices_insertionSortCmpFunc_restrict_known.q k
def slices_siftDownCmpFunc_restrict_known.F : FnS R (Int × Int × Int × (List S78)) ((List S78)) := ⟨[.lf, .lf, .lf, .lf, .lf], [.row 2 78], (.row 2 0 (.cons (dInt .i64) (.cons (dInt .i64) (.cons (dInt .i64) (.fnv 51 (.last (dRo 2) .nil)))))), .tup [], [.row 2 78], (.last (dRo 2) .nil)⟩
def slices_siftDownCmpFunc_restrict_known.p (k : Nat) (y : Int × Int × Int × (List S78)) : Option ((List S78)) := slices_siftDownCmpFunc_restrict_known.f k y.1 y.2.1 y.2.2.1 y.2.2.2
def slices_siftDownCmpFunc_restrict_known.E (k : Nat) : Env R := ⟨tabOf tabL, ctOf [(51, (restrict_Memory_List_1.F.sem (restrict_Memory_List_1.p k)))], mtNone, fun _ => false, codes, rts, 82, fun i => ordOf [(3, [(0, 0), (1, 0), (2, 0), (3, 0), (4, 0), (5, 0), (6, 0), (7, 0), (8, 0), (9, 0), (10, 0), (11, 0), (12, 0), (13, 0), (14, 0), (15, 0), (16, 0), (17, 0), (18, 0), (19, 2), (20, 0), (21, 0)]), (5, [(0, 0), (1, 0), (2, 0), (3, 0), (4, 0), (5, 0), (6, 0), (7, 0), (8, 0), (9, 0), (10, 0), (11, 0), (12, 0), (13, 2), (14, 0), (15, 0)]), (6, [(0, 0), (1, 0), (2, 0), (3, 0), (4, 0), (5, 0), (6, 0), (7, 0), (8, 0), (9, 0), (10, 0), (11, 0), (12, 0), (13, 0), (14, 0), (15, 0), (16, 0), (17, 0), (18, 0), (19, 0), (20, 0), (21, 2), (22, 0), (23, 2)])] i, owns, [], eqtOf eqs, fun _ => false, flats, mpsOf mps, byt_⟩
def slices_siftDownCmpFunc_restrict_known.cl0 : CutS R ((List S78)) := ⟨2, [0, 2, 3, 4, 10], [], [.lf, .lf, .lf, .lf, .lf], [.row 2 78], Int × Int × Int × (List S78), (.row 2 0 (.cons (dInt .i64) (.cons (dInt .i64) (.fnv 51 (.cons (dInt .i64) (.last (dRo 2) .nil)))))), fun k z => slices_siftDownCmpFunc_restrict_known.l0 k z.1 z.2.1 z.2.2.1 z.2.2.2⟩
def slices_siftDownCmpFunc_restrict_known.cj0 : CutS R ((List S78)) := ⟨10, [0, 2, 3, 4, 10, 11], [], [.lf, .lf, .lf, .lf, .lf, .lf], [.row 2 78], Int × Int × Int × Int × (List S78), (.row 2 0 (.cons (dInt .i64) (.cons (dInt .i64) (.fnv 51 (.cons (dInt .i64) (.cons (dInt .i64) (.last (dRo 2) .nil))))))), fun k z => slices_siftDownCmpFunc_restrict_known.j0 k z.1 z.2.1 z.2.2.1 z.2.2.2.1 z.2.2.2.2⟩
def slices_siftDownCmpFunc_restrict_known.cs : List (CutS R ((List S78))) := [slices_siftDownCmpFunc_restrict_known.cl0, slices_siftDownCmpFunc_restrict_known.cj0]
theorem slices_siftDownCmpFunc_restrict_known.hE (k : Nat) : EnvOk Try.prog (slices_siftDownCmpFunc_restrict_known.E k) := ⟨tabs, ctOf_ok (all_cons (restrict_Memory_List_1.ok k) all_nil), mtNone_ok, mixed, eqs_, flats_, mps_⟩
theorem slices_siftDownCmpFunc_restrict_known.ol0 : (slices_siftDownCmpFunc_restrict_known.cl0).Ok slices_siftDownCmpFunc_restrict_known.E Try.f71.results.toList 1 (bodyOf Try.f71) slices_siftDownCmpFunc_restrict_known.cs slices_siftDownCmpFunc_restrict_known.F.ret := ⟨fun z => rfl, fun k z => by
 obtain ⟨z0, z1, z2, z3⟩ := z
 show slices_siftDownCmpFunc_restrict_known.l0 (k + 1) z0 z1 z2 z3 = _
 rw [slices_siftDownCmpFunc_restrict_known.l0]
 kernel_rfl⟩
theorem slices_siftDownCmpFunc_restrict_known.oj0 : (slices_siftDownCmpFunc_restrict_known.cj0).Ok slices_siftDownCmpFunc_restrict_known.E Try.f71.results.toList 1 (bodyOf Try.f71) slices_siftDownCmpFunc_restrict_known.cs slices_siftDownCmpFunc_restrict_known.F.ret := ⟨fun z => rfl, fun k z => by
 obtain ⟨z0, z1, z2, z3, z4⟩ := z
 show slices_siftDownCmpFunc_restrict_known.j0 (k + 1) z0 z1 z2 z3 z4 = _
 rw [slices_siftDownCmpFunc_restrict_known.j0]
 kernel_rfl⟩
theorem slices_siftDownCmpFunc_restrict_known.q (k : Nat) (y : Int × Int × Int × (List S78)) : slices_siftDownCmpFunc_restrict_known.p k y = slices_siftDownCmpFunc_restrict_known.F.run slices_siftDownCmpFunc_restrict_known.E Try.f71.results.toList (bodyOf Try.f71) slices_siftDownCmpFunc_restrict_known.cs k y := by kernel_rfl
theorem slices_siftDownCmpFunc_restrict_known.ok (k : Nat) : CsemOk R Try.prog 71 (slices_siftDownCmpFunc_restrict_known.F.sem (slices_siftDownCmpFunc_restrict_known.p k)) := fn_ok (F := slices_siftDownCmpFunc_restrict_known.F) (f := slices_siftDownCmpFunc_restrict_known.p) (E := slices_siftDownCmpFunc_restrict_known.E) slices_siftDownCmpFunc_restrict_known.hE (fun _ => rfl) Try.func71 (body := (bodyOf Try.f71)) rfl (by kernel_rfl) rfl (by decide) (by kernel_rfl) (cuts := slices_siftDownCmpFunc_restrict_known.cs) (all_cons slices_siftDownCmpFunc_restrict_known.ol0 (all_cons slices_siftDownCmpFunc_restrict_known.oj0 all_nil)) slices_siftDownCmpFunc_restrict_known.q k
def slices_heapSortCmpFunc_restrict_known.F : FnS R (Int × Int × (List S78)) ((List S78)) := ⟨[.lf, .lf, .lf, .lf], [.row 2 78], (.row 2 0 (.cons (dInt .i64) (.cons (dInt .i64) (.fnv 51 (.last (dRo 2) .nil))))), .tup [], [.row 2 78], (.last (dRo 2) .nil)⟩
def slices_heapSortCmpFunc_restrict_known.p (k : Nat) (y : Int × Int × (List S78)) : Option ((List S78)) := slices_heapSortCmpFunc_restrict_known.f k y.1 y.2.1 y.2.2
def slices_heapSortCmpFunc_restrict_known.E (k : Nat) : Env R := ⟨tabOf tabL, ctOf [(71, (slices_siftDownCmpFunc_restrict_known.F.sem (slices_siftDownCmpFunc_restrict_known.p k)))], mtNone, fun _ => false, codes, rts, 60, fun i => ordOf [(10, [(0, 0), (1, 0), (2, 0), (3, 0), (4, 0), (5, 0), (6, 0), (7, 0), (8, 0), (9, 0), (10, 0), (11, 0), (12, 0), (13, 0), (14, 0), (15, 0), (16, 0), (17, 2), (18, 0), (19, 2)])] i, owns, [], eqtOf eqs, fun _ => false, flats, mpsOf mps, byt_⟩
def slices_heapSortCmpFunc_restrict_known.cl0 : CutS R ((List S78)) := ⟨8, [0, 3, 8, 9, 10, 11], [], [.lf, .lf, .lf, .lf, .lf, .lf], [.row 2 78], Int × Int × Int × Int × (List S78), (.row 2 0 (.fnv 51 (.cons (dInt .i64) (.cons (dInt .i64) (.cons (dInt .i64) (.cons (dInt .i64) (.last (dRo 2) .nil))))))), fun k z => slices_heapSortCmpFunc_restrict_known.l0 k z.1 z.2.1 z.2.2.1 z.2.2.2.1 z.2.2.2.2⟩
def slices_heapSortCmpFunc_restrict_known.cl1 : CutS R ((List S78)) := ⟨16, [0, 3, 8, 9, 12], [], [.lf, .lf, .lf, .lf, .lf], [.row 2 78], Int × Int × Int × (List S78), (.row 2 0 (.fnv 51 (.cons (dInt .i64) (.cons (dInt .i64) (.cons (dInt .i64) (.last (dRo 2) .nil)))))), fun k z => slices_heapSortCmpFunc_restrict_known.l1 k z.1 z.2.1 z.2.2.1 z.2.2.2⟩
def slices_heapSortCmpFunc_restrict_known.cs : List (CutS R ((List S78))) := [slices_heapSortCmpFunc_restrict_known.cl0, slices_heapSortCmpFunc_restrict_known.cl1]
theorem slices_heapSortCmpFunc_restrict_known.hE (k : Nat) : EnvOk Try.prog (slices_heapSortCmpFunc_restrict_known.E k) := ⟨tabs, ctOf_ok (all_cons (slices_siftDownCmpFunc_restrict_known.ok k) all_nil), mtNone_ok, mixed, eqs_, flats_, mps_⟩
theorem slices_heapSortCmpFunc_restrict_known.ol0 : (slices_heapSortCmpFunc_restrict_known.cl0).Ok slices_heapSortCmpFunc_restrict_known.E Try.f61.results.toList 1 (bodyOf Try.f61) slices_heapSortCmpFunc_restrict_known.cs slices_heapSortCmpFunc_restrict_known.F.ret := ⟨fun z => rfl, fun k z => by
 obtain ⟨z0, z1, z2, z3, z4⟩ := z
 show slices_heapSortCmpFunc_restrict_known.l0 (k + 1) z0 z1 z2 z3 z4 = _
 rw [slices_heapSortCmpFunc_restrict_known.l0]
 kernel_rfl⟩
theorem slices_heapSortCmpFunc_restrict_known.ol1 : (slices_heapSortCmpFunc_restrict_known.cl1).Ok slices_heapSortCmpFunc_restrict_known.E Try.f61.results.toList 1 (bodyOf Try.f61) slices_heapSortCmpFunc_restrict_known.cs slices_heapSortCmpFunc_restrict_known.F.ret := ⟨fun z => rfl, fun k z => by
 obtain ⟨z0, z1, z2, z3⟩ := z
 show slices_heapSortCmpFunc_restrict_known.l1 (k + 1) z0 z1 z2 z3 = _
 rw [slices_heapSortCmpFunc_restrict_known.l1]
 kernel_rfl⟩
theorem slices_heapSortCmpFunc_restrict_known.q (k : Nat) (y : Int × Int × (List S78)) : slices_heapSortCmpFunc_restrict_known.p k y = slices_heapSortCmpFunc_restrict_known.F.run slices_heapSortCmpFunc_restrict_known.E Try.f61.results.toList (bodyOf Try.f61) slices_heapSortCmpFunc_restrict_known.cs k y := by kernel_rfl
theorem slices_heapSortCmpFunc_restrict_known.ok (k : Nat) : CsemOk R Try.prog 61 (slices_heapSortCmpFunc_restrict_known.F.sem (slices_heapSortCmpFunc_restrict_known.p k)) := fn_ok (F := slices_heapSortCmpFunc_restrict_known.F) (f := slices_heapSortCmpFunc_restrict_known.p) (E := slices_heapSortCmpFunc_restrict_known.E) slices_heapSortCmpFunc_restrict_known.hE (fun _ => rfl) Try.func61 (body := (bodyOf Try.f61)) rfl (by kernel_rfl) rfl (by decide) (by kernel_rfl) (cuts := slices_heapSortCmpFunc_restrict_known.cs) (all_cons slices_heapSortCmpFunc_restrict_known.ol0 (all_cons slices_heapSortCmpFunc_restrict_known.ol1 all_nil)) slices_heapSortCmpFunc_restrict_known.q k
def slices_nextPowerOfTwo.F : FnS R (Int) (Int) := ⟨[.lf], [], (.last (dInt .i64) .nil), .lf, [], (.last (dInt .u64) .nil)⟩
def slices_nextPowerOfTwo.p (k : Nat) (y : Int) : Option (Int) := slices_nextPowerOfTwo.f y
def slices_nextPowerOfTwo.E (k : Nat) : Env R := ⟨tabOf tabL, ctOf [(57, (bits_Len.F.sem (bits_Len.p k)))], mtNone, fun _ => false, codes, rts, 7, fun _ => [], owns, [], eqtOf eqs, fun _ => false, flats, mpsOf mps, byt_⟩
def slices_nextPowerOfTwo.cs : List (CutS R (Int)) := []
theorem slices_nextPowerOfTwo.hE (k : Nat) : EnvOk Try.prog (slices_nextPowerOfTwo.E k) := ⟨tabs, ctOf_ok (all_cons (bits_Len.ok k) all_nil), mtNone_ok, mixed, eqs_, flats_, mps_⟩
theorem slices_nextPowerOfTwo.q (k : Nat) (y : Int) : slices_nextPowerOfTwo.p k y = slices_nextPowerOfTwo.F.run slices_nextPowerOfTwo.E Try.f72.results.toList (bodyOf Try.f72) slices_nextPowerOfTwo.cs k y := by kernel_rfl
theorem slices_nextPowerOfTwo.ok (k : Nat) : CsemOk R Try.prog 72 (slices_nextPowerOfTwo.F.sem (slices_nextPowerOfTwo.p k)) := fn_ok (F := slices_nextPowerOfTwo.F) (f := slices_nextPowerOfTwo.p) (E := slices_nextPowerOfTwo.E) slices_nextPowerOfTwo.hE (fun _ => rfl) Try.func72 (body := (bodyOf Try.f72)) rfl (by kernel_rfl) rfl (by decide) (by kernel_rfl) (cuts := slices_nextPowerOfTwo.cs) all_nil slices_nextPowerOfTwo.q k
def slices_xorshift_Next.F : FnS R (Int) (Int × Int) := ⟨[.lf], [.blk 1 120], (.ptr 0 0 (.last (dInt .u64) .nil)), .lf, [.blk 1 120], (.cons (dInt .u64) (.last (dInt .u64) .nil))⟩
def slices_xorshift_Next.p (k : Nat) (y : Int) : Option (Int × Int) := slices_xorshift_Next.f y
def slices_xorshift_Next.E (k : Nat) : Env R := ⟨tabOf tabL, ctOf [], mtNone, fun _ => false, codes, rts, 33, fun i => ordOf [(1, [(0, 0), (1, 0), (2, 0), (3, 0), (4, 0), (5, 0), (6, 0), (7, 0), (8, 0), (9, 2)]), (2, [(0, 0), (1, 0), (2, 0), (3, 0), (4, 0), (5, 0), (6, 0), (7, 0), (8, 0), (9, 2)]), (3, [(0, 0), (1, 0), (2, 0), (3, 0), (4, 0), (5, 0), (6, 0), (7, 0), (8, 0), (9, 2)])] i, owns, [], eqtOf eqs, fun _ => false, flats, mpsOf mps, byt_⟩
def slices_xorshift_Next.cs : List (CutS R (Int × Int)) := []
theorem slices_xorshift_Next.hE (k : Nat) : EnvOk Try.prog (slices_xorshift_Next.E k) := ⟨tabs, ctOf_ok all_nil, mtNone_ok, mixed, eqs_, flats_, mps_⟩
theorem slices_xorshift_Next.q (k : Nat) (y : Int) : slices_xorshift_Next.p k y = slices_xorshift_Next.F.run slices_xorshift_Next.E Try.f73.results.toList (bodyOf Try.f73) slices_xorshift_Next.cs k y := by kernel_rfl
theorem slices_xorshift_Next.ok (k : Nat) : CsemOk R Try.prog 73 (slices_xorshift_Next.F.sem (slices_xorshift_Next.p k)) := fn_ok (F := slices_xorshift_Next.F) (f := slices_xorshift_Next.p) (E := slices_xorshift_Next.E) slices_xorshift_Next.hE (fun _ => rfl) Try.func73 (body := (bodyOf Try.f73)) rfl (by kernel_rfl) rfl (by decide) (by kernel_rfl) (cuts := slices_xorshift_Next.cs) all_nil slices_xorshift_Next.q k
def slices_breakPatternsCmpFunc_restrict_known.F : FnS R (Int × Int × (List S78)) ((List S78)) := ⟨[.lf, .lf, .lf, .lf], [.row 2 78], (.row 2 0 (.cons (dInt .i64) (.cons (dInt .i64) (.fnv 51 (.last (dRo 2) .nil))))), .tup [], [.row 2 78], (.last (dRo 2) .nil)⟩
def slices_breakPatternsCmpFunc_restrict_known.p (k : Nat) (y : Int × Int × (List S78)) : Option ((List S78)) := slices_breakPatternsCmpFunc_restrict_known.f k y.1 y.2.1 y.2.2
def slices_breakPatternsCmpFunc_restrict_known.E (k : Nat) : Env R := ⟨tabOf tabL, ctOf [(72, (slices_nextPowerOfTwo.F.sem (slices_nextPowerOfTwo.p k))), (73, (slices_xorshift_Next.F.sem (slices_xorshift_Next.p k)))], mtNone, fun _ => false, codes, rts, 67, fun i => ordOf [(10, [(0, 0), (1, 0), (2, 0), (3, 0), (4, 0), (5, 0), (6, 0), (7, 0), (8, 0), (9, 0), (10, 0), (11, 0), (12, 0), (13, 0), (14, 0), (15, 0), (16, 0), (17, 2), (18, 0), (19, 2)])] i, owns, [], eqtOf eqs, fun _ => false, flats, mpsOf mps, byt_⟩
def slices_breakPatternsCmpFunc_restrict_known.cl0 : CutS R ((List S78)) := ⟨10, [0, 1, 8, 9, 10, 11], [], [.lf, .lf, .lf, .lf, .lf, .lf], [.row 2 78, .blk 1 120], Int × Int × Int × Int × (List S78) × Int, (.row 2 0 (.cons (dInt .i64) (.cons (dInt .i64) (.ptr 1 0 (.cons (dInt .u64) (.cons (dInt .i64) (.cons (dRo 2) (.last (dInt .u64) .nil)))))))), fun k z => slices_breakPatternsCmpFunc_restrict_known.l0 k z.1 z.2.1 z.2.2.1 z.2.2.2.1 z.2.2.2.2.1 z.2.2.2.2.2⟩
def slices_breakPatternsCmpFunc_restrict_known.cj0 : CutS R ((List S78)) := ⟨20, [0, 1, 8, 9, 10, 11, 12], [], [.lf, .lf, .lf, .lf, .lf, .lf, .lf], [.row 2 78, .blk 1 120], Int × Int × Int × Int × Int × (List S78) × Int, (.row 2 0 (.cons (dInt .i64) (.cons (dInt .i64) (.ptr 1 0 (.cons (dInt .u64) (.cons (dInt .i64) (.cons (dInt .i64) (.cons (dRo 2) (.last (dInt .u64) .nil))))))))), fun k z => slices_breakPatternsCmpFunc_restrict_known.j0 k z.1 z.2.1 z.2.2.1 z.2.2.2.1 z.2.2.2.2.1 z.2.2.2.2.2.1 z.2.2.2.2.2.2⟩
def slices_breakPatternsCmpFunc_restrict_known.cs : List (CutS R ((List S78))) := [slices_breakPatternsCmpFunc_restrict_known.cl0, slices_breakPatternsCmpFunc_restrict_known.cj0]
theorem slices_breakPatternsCmpFunc_restrict_known.hE (k : Nat) : EnvOk Try.prog (slices_breakPatternsCmpFunc_restrict_known.E k) := ⟨tabs, ctOf_ok (all_cons (slices_nextPowerOfTwo.ok k) (all_cons (slices_xorshift_Next.ok k) all_nil)), mtNone_ok, mixed, eqs_, flats_, mps_⟩
theorem slices_breakPatternsCmpFunc_restrict_known.ol0 : (slices_breakPatternsCmpFunc_restrict_known.cl0).Ok slices_breakPatternsCmpFunc_restrict_known.E Try.f62.results.toList 1 (bodyOf Try.f62) slices_breakPatternsCmpFunc_restrict_known.cs slices_breakPatternsCmpFunc_restrict_known.F.ret := ⟨fun z => rfl, fun k z => by
 obtain ⟨z0, z1, z2, z3, z4, z5⟩ := z
 show slices_breakPatternsCmpFunc_restrict_known.l0 (k + 1) z0 z1 z2 z3 z4 z5 = _
 rw [slices_breakPatternsCmpFunc_restrict_known.l0]
 kernel_rfl⟩
theorem slices_breakPatternsCmpFunc_restrict_known.oj0 : (slices_breakPatternsCmpFunc_restrict_known.cj0).Ok slices_breakPatternsCmpFunc_restrict_known.E Try.f62.results.toList 1 (bodyOf Try.f62) slices_breakPatternsCmpFunc_restrict_known.cs slices_breakPatternsCmpFunc_restrict_known.F.ret := ⟨fun z => rfl, fun k z => by
 obtain ⟨z0, z1, z2, z3, z4, z5, z6⟩ := z
 show slices_breakPatternsCmpFunc_restrict_known.j0 (k + 1) z0 z1 z2 z3 z4 z5 z6 = _
 rw [slices_breakPatternsCmpFunc_restrict_known.j0]
 kernel_rfl⟩
theorem slices_breakPatternsCmpFunc_restrict_known.q (k : Nat) (y : Int × Int × (List S78)) : slices_breakPatternsCmpFunc_restrict_known.p k y = slices_breakPatternsCmpFunc_restrict_known.F.run slices_breakPatternsCmpFunc_restrict_known.E Try.f62.results.toList (bodyOf Try.f62) slices_breakPatternsCmpFunc_restrict_known.cs k y := by kernel_rfl
theorem slices_breakPatternsCmpFunc_restrict_known.ok (k : Nat) : CsemOk R Try.prog 62 (slices_breakPatternsCmpFunc_restrict_known.F.sem (slices_breakPatternsCmpFunc_restrict_known.p k)) := fn_ok (F := slices_breakPatternsCmpFunc_restrict_known.F) (f := slices_breakPatternsCmpFunc_restrict_known.p) (E := slices_breakPatternsCmpFunc_restrict_known.E) slices_breakPatternsCmpFunc_restrict_known.hE (fun _ => rfl) Try.func62 (body := (bodyOf Try.f62)) rfl (by kernel_rfl) rfl (by decide) (by kernel_rfl) (cuts := slices_breakPatternsCmpFunc_restrict_known.cs) (all_cons slices_breakPatternsCmpFunc_restrict_known.ol0 (all_cons slices_breakPatternsCmpFunc_restrict_known.oj0 all_nil)) slices_breakPatternsCmpFunc_restrict_known.q k
def slices_order2CmpFunc_restrict_known.F : FnS R ((List S78) × Int × Int × Int) (Int × Int × Int) := ⟨[.lf, .lf, .lf, .lf, .lf], [.blk 1 3], (.cons (dRo 2) (.cons (dInt .i64) (.cons (dInt .i64) (.ptr 0 0 (.fnv 51 (.last (dInt .i64) .nil)))))), .tup [none, none], [.blk 1 3], (.cons (dInt .i64) (.cons (dInt .i64) (.last (dInt .i64) .nil)))⟩
def slices_order2CmpFunc_restrict_known.p (k : Nat) (y : (List S78) × Int × Int × Int) : Option (Int × Int × Int) := slices_order2CmpFunc_restrict_known.f y.1 y.2.1 y.2.2.1 y.2.2.2
def slices_order2CmpFunc_restrict_known.E (k : Nat) : Env R := ⟨tabOf tabL, ctOf [(51, (restrict_Memory_List_1.F.sem (restrict_Memory_List_1.p k)))], mtNone, fun _ => false, codes, rts, 32, fun i => ordOf [(1, [(0, 0), (1, 0), (2, 0), (3, 0), (4, 0), (5, 0), (6, 0), (7, 0), (8, 0), (9, 2), (10, 0)])] i, owns, [], eqtOf eqs, fun _ => false, flats, mpsOf mps, byt_⟩
def slices_order2CmpFunc_restrict_known.cs : List (CutS R (Int × Int × Int)) := []
theorem slices_order2CmpFunc_restrict_known.hE (k : Nat) : EnvOk Try.prog (slices_order2CmpFunc_restrict_known.E k) := ⟨tabs, ctOf_ok (all_cons (restrict_Memory_List_1.ok k) all_nil), mtNone_ok, mixed, eqs_, flats_, mps_⟩
theorem slices_order2CmpFunc_restrict_known.q (k : Nat) (y : (List S78) × Int × Int × Int) : slices_order2CmpFunc_restrict_known.p k y = slices_order2CmpFunc_restrict_known.F.run slices_order2CmpFunc_restrict_known.E Try.f77.results.toList (bodyOf Try.f77) slices_order2CmpFunc_restrict_known.cs k y := by kernel_rfl
theorem slices_order2CmpFunc_restrict_known.ok (k : Nat) : CsemOk R Try.prog 77 (slices_order2CmpFunc_restrict_known.F.sem (slices_order2CmpFunc_restrict_known.p k)) := fn_ok (F := slices_order2CmpFunc_restrict_known.F) (f := slices_order2CmpFunc_restrict_known.p) (E := slices_order2CmpFunc_restrict_known.E) slices_order2CmpFunc_restrict_known.hE (fun _ => rfl) Try.func77 (body := (bodyOf Try.f77)) rfl (by kernel_rfl) rfl (by decide) (by kernel_rfl) (cuts := slices_order2CmpFunc_restrict_known.cs) all_nil slices_order2CmpFunc_restrict_known.q k
def slices_medianCmpFunc_restrict_known.F : FnS R ((List S78) × Int × Int × Int × Int) (Int × Int) := ⟨[.lf, .lf, .lf, .lf, .lf, .lf], [.blk 1 3], (.cons (dRo 2) (.cons (dInt .i64) (.cons (dInt .i64) (.cons (dInt .i64) (.ptr 0 0 (.fnv 51 (.last (dInt .i64) .nil))))))), .lf, [.blk 1 3], (.cons (dInt .i64) (.last (dInt .i64) .nil))⟩
def slices_medianCmpFunc_restrict_known.p (k : Nat) (y : (List S78) × Int × Int × Int × Int) : Option (Int × Int) := slices_medianCmpFunc_restrict_known.f y.1 y.2.1 y.2.2.1 y.2.2.2.1 y.2.2.2.2
def slices_medianCmpFunc_restrict_known.E (k : Nat) : Env R := ⟨tabOf tabL, ctOf [(77, (slices_order2CmpFunc_restrict_known.F.sem (slices_order2CmpFunc_restrict_known.p k)))], mtNone, fun _ => false, codes, rts, 41, fun _ => [], owns, [], eqtOf eqs, fun _ => false, flats, mpsOf mps, byt_⟩
def slices_medianCmpFunc_restrict_known.cs : List (CutS R (Int × Int)) := []
theorem slices_medianCmpFunc_restrict_known.hE (k : Nat) : EnvOk Try.prog (slices_medianCmpFunc_restrict_known.E k) := ⟨tabs, ctOf_ok (all_cons (slices_order2CmpFunc_restrict_known.ok k) all_nil), mtNone_ok, mixed, eqs_, flats_, mps_⟩
theorem slices_medianCmpFunc_restrict_known.q (k : Nat) (y : (List S78) × Int × Int × Int × Int) : slices_medianCmpFunc_restrict_known.p k y = slices_medianCmpFunc_restrict_known.F.run slices_medianCmpFunc_restrict_known.E Try.f75.results.toList (bodyOf Try.f75) slices_medianCmpFunc_restrict_known.cs k y := by kernel_rfl
theorem slices_medianCmpFunc_restrict_known.ok (k : Nat) : CsemOk R Try.prog 75 (slices_medianCmpFunc_restrict_known.F.sem (slices_medianCmpFunc_restrict_known.p k)) := fn_ok (F := slices_medianCmpFunc_restrict_known.F) (f := slices_medianCmpFunc_restrict_known.p) (E := slices_medianCmpFunc_restrict_known.E) slices_medianCmpFunc_restrict_known.hE (fun _ => rfl) Try.func75 (body := (bodyOf Try.f75)) rfl (by kernel_rfl) rfl (by decide) (by kernel_rfl) (cuts := slices_medianCmpFunc_restrict_known.cs) all_nil slices_medianCmpFunc_restrict_known.q k
def slices_medianAdjacentCmpFunc_restrict_known.F : FnS R ((List S78) × Int × Int) (Int × Int) := ⟨[.lf, .lf, .lf, .lf], [.blk 1 3], (.cons (dRo 2) (.cons (dInt .i64) (.ptr 0 0 (.fnv 51 (.last (dInt .i64) .nil))))), .lf, [.blk 1 3], (.cons (dInt .i64) (.last (dInt .i64) .nil))⟩
def slices_medianAdjacentCmpFunc_restrict_known.p (k : Nat) (y : (List S78) × Int × Int) : Option (Int × Int) := slices_medianAdjacentCmpFunc_restrict_known.f y.1 y.2.1 y.2.2
def slices_medianAdjacentCmpFunc_restrict_known.E (k : Nat) : Env R := ⟨tabOf tabL, ctOf [(75, (slices_medianCmpFunc_restrict_known.F.sem (slices_medianCmpFunc_restrict_known.p k)))], mtNone, fun _ => false, codes, rts, 18, fun _ => [], owns, [], eqtOf eqs, fun _ => false, flats, mpsOf mps, byt_⟩
def slices_medianAdjacentCmpFunc_restrict_known.cs : List (CutS R (Int × Int)) := []
theorem slices_medianAdjacentCmpFunc_restrict_known.hE (k : Nat) : EnvOk Try.prog (slices_medianAdjacentCmpFunc_restrict_known.E k) := ⟨tabs, ctOf_ok (all_cons (slices_medianCmpFunc_restrict_known.ok k) all_nil), mtNone_ok, mixed, eqs_, flats_, mps_⟩
theorem slices_medianAdjacentCmpFunc_restrict_known.q (k : Nat) (y : (List S78) × Int × Int) : slices_medianAdjacentCmpFunc_restrict_known.p k y = slices_medianAdjacentCmpFunc_restrict_known.F.run slices_medianAdjacentCmpFunc_restrict_known.E Try.f74.results.toList (bodyOf Try.f74) slices_medianAdjacentCmpFunc_restrict_known.cs k y := by kernel_rfl
theorem slices_medianAdjacentCmpFunc_restrict_known.ok (k : Nat) : CsemOk R Try.prog 74 (slices_medianAdjacentCmpFunc_restrict_known.F.sem (slices_medianAdjacentCmpFunc_restrict_known.p k)) := fn_ok (F := slices_medianAdjacentCmpFunc_restrict_known.F) (f := slices_medianAdjacentCmpFunc_restrict_known.p) (E := slices_medianAdjacentCmpFunc_restrict_known.E) slices_medianAdjacentCmpFunc_restrict_known.hE (fun _ => rfl) Try.func74 (body := (bodyOf Try.f74)) rfl (by kernel_rfl) rfl (by decide) (by kernel_rfl) (cuts := slices_medianAdjacentCmpFunc_restrict_known.cs) all_nil slices_medianAdjacentCmpFunc_restrict_known.q k
def slices_choosePivotCmpFunc_restrict_known.F : FnS R ((List S78) × Int × Int) (Int × Int) := ⟨[.lf, .lf, .lf, .lf], [], (.cons (dRo 2) (.cons (dInt .i64) (.last (dInt .i64) (.fnv 51 .nil)))), .tup [none, none], [], (.cons (dInt .i64) (.last (dInt .i64) .nil))⟩
def slices_choosePivotCmpFunc_restrict_known.p (k : Nat) (y : (List S78) × Int × Int) : Option (Int × Int) := slices_choosePivotCmpFunc_restrict_known.f k y.1 y.2.1 y.2.2
def slices_choosePivotCmpFunc_restrict_known.E (k : Nat) : Env R := ⟨tabOf tabL, ctOf [(74, (slices_medianAdjacentCmpFunc_restrict_known.F.sem (slices_medianAdjacentCmpFunc_restrict_known.p k))), (75, (slices_medianCmpFunc_restrict_known.F.sem (slices_medianCmpFunc_restrict_known.p k)))], mtNone, fun _ => false, codes, rts, 63, fun _ => [], owns, [], eqtOf eqs, fun _ => false, flats, mpsOf mps, byt_⟩
def slices_choosePivotCmpFunc_restrict_known.cj0 : CutS R (Int × Int) := ⟨22, [0, 3, 11, 12, 13, 14], [], [.lf, .lf, .lf, .lf, .lf, .lf], [.blk 1 3], (List S78) × Int × Int × Int × Int, (.cons (dRo 2) (.fnv 51 (.ptr 0 0 (.cons (dInt .i64) (.cons (dInt .i64) (.cons (dInt .i64) (.last (dInt .i64) .nil))))))), fun k z => slices_choosePivotCmpFunc_restrict_known.j0 k z.1 z.2.1 z.2.2.1 z.2.2.2.1 z.2.2.2.2⟩
def slices_choosePivotCmpFunc_restrict_known.cs : List (CutS R (Int × Int)) := [slices_choosePivotCmpFunc_restrict_known.cj0]
theorem slices_choosePivotCmpFunc_restrict_known.hE (k : Nat) : EnvOk Try.prog (slices_choosePivotCmpFunc_restrict_known.E k) := ⟨tabs, ctOf_ok (all_cons (slices_medianAdjacentCmpFunc_restrict_known.ok k) (all_cons (slices_medianCmpFunc_restrict_known.ok k) all_nil)), mtNone_ok, mixed, eqs_, flats_, mps_⟩
theorem slices_choosePivotCmpFunc_restrict_known.oj0 : (slices_choosePivotCmpFunc_restrict_known.cj0).Ok slices_choosePivotCmpFunc_restrict_known.E Try.f63.results.toList 0 (bodyOf Try.f63) slices_choosePivotCmpFunc_restrict_known.cs slices_choosePivotCmpFunc_restrict_known.F.ret := ⟨fun z => rfl, fun k z => by
 obtain ⟨z0, z1, z2, z3, z4⟩ := z
 show slices_choosePivotCmpFunc_restrict_known.j0 (k + 1) z0 z1 z2 z3 z4 = _
 rw [slices_choosePivotCmpFunc_restrict_known.j0]
 kernel_rfl⟩
theorem slices_choosePivotCmpFunc_restrict_known.q (k : Nat) (y : (List S78) × Int × Int) : slices_choosePivotCmpFunc_restrict_known.p k y = slices_choosePivotCmpFunc_restrict_known.F.run slices_choosePivotCmpFunc_restrict_known.E Try.f63.results.toList (bodyOf Try.f63) slices_choosePivotCmpFunc_restrict_known.cs k y := by kernel_rfl
theorem slices_choosePivotCmpFunc_restrict_known.ok (k : Nat) : CsemOk R Try.prog 63 (slices_choosePivotCmpFunc_restrict_known.F.sem (slices_choosePivotCmpFunc_restrict_known.p k)) := fn_ok (F := slices_choosePivotCmpFunc_restrict_known.F) (f := slices_choosePivotCmpFunc_restrict_known.p) (E := slices_choosePivotCmpFunc_restrict_known.E) slices_choosePivotCmpFunc_restrict_known.hE (fun _ => rfl) Try.func63 (body := (bodyOf Try.f63)) rfl (by kernel_rfl) rfl (by decide) (by kernel_rfl) (cuts := slices_choosePivotCmpFunc_restrict_known.cs) (all_cons slices_choosePivotCmpFunc_restrict_known.oj0 all_nil) slices_choosePivotCmpFunc_restrict_known.q k
def slices_reverseRangeCmpFunc_restrict_known.F : FnS R (Int × Int × (List S78)) ((List S78)) := ⟨[.lf, .lf, .lf, .lf], [.row 2 78], (.row 2 0 (.cons (dInt .i64) (.cons (dInt .i64) (.fnv 51 (.last (dRo 2) .nil))))), .tup [], [.row 2 78], (.last (dRo 2) .nil)⟩
def slices_reverseRangeCmpFunc_restrict_known.p (k : Nat) (y : Int × Int × (List S78)) : Option ((List S78)) := slices_reverseRangeCmpFunc_restrict_known.f k y.1 y.2.1 y.2.2
def slices_reverseRangeCmpFunc_restrict_known.E (k : Nat) : Env R := ⟨tabOf tabL, ctOf [], mtNone, fun _ => false, codes, rts, 34, fun i => ordOf [(3, [(0, 0), (1, 0), (2, 0), (3, 0), (4, 0), (5, 0), (6, 0), (7, 0), (8, 0), (9, 0), (10, 0), (11, 0), (12, 0), (13, 2), (14, 0), (15, 2)])] i, owns, [], eqtOf eqs, fun _ => false, flats, mpsOf mps, byt_⟩
def slices_reverseRangeCmpFunc_restrict_known.cl0 : CutS R ((List S78)) := ⟨4, [0, 8, 9], [], [.lf, .lf, .lf], [.row 2 78], Int × Int × (List S78), (.row 2 0 (.cons (dInt .i64) (.cons (dInt .i64) (.last (dRo 2) .nil)))), fun k z => slices_reverseRangeCmpFunc_restrict_known.l0 k z.1 z.2.1 z.2.2⟩
def slices_reverseRangeCmpFunc_restrict_known.cs : List (CutS R ((List S78))) := [slices_reverseRangeCmpFunc_restrict_known.cl0]
theorem slices_reverseRangeCmpFunc_restrict_known.hE (k : Nat) : EnvOk Try.prog (slices_reverseRangeCmpFunc_restrict_known.E k) := ⟨tabs, ctOf_ok all_nil, mtNone_ok, mixed, eqs_, flats_, mps_⟩
theorem slices_reverseRangeCmpFunc_restrict_known.ol0 : (slices_reverseRangeCmpFunc_restrict_known.cl0).Ok slices_reverseRangeCmpFunc_restrict_known.E Try.f64.results.toList 1 (bodyOf Try.f64) slices_reverseRangeCmpFunc_restrict_known.cs slices_reverseRangeCmpFunc_restrict_known.F.ret := ⟨fun z => rfl, fun k z => by
 obtain ⟨z0, z1, z2⟩ := z
 show slices_reverseRangeCmpFunc_restrict_known.l0 (k + 1) z0 z1 z2 = _
 rw [slices_reverseRangeCmpFunc_restrict_known.l0]
 kernel_rfl⟩
theorem slices_reverseRangeCmpFunc_restrict_known.q (k : Nat) (y : Int × Int × (List S78)) : slices_reverseRangeCmpFunc_restrict_known.p k y = slices_reverseRangeCmpFunc_restrict_known.F.run slices_reverseRangeCmpFunc_restrict_known.E Try.f64.results.toList (bodyOf Try.f64) slices_reverseRangeCmpFunc_restrict_known.cs k y := by kernel_rfl
theorem slices_reverseRangeCmpFunc_restrict_known.ok (k : Nat) : CsemOk R Try.prog 64 (slices_reverseRangeCmpFunc_restrict_known.F.sem (slices_reverseRangeCmpFunc_restrict_known.p k)) := fn_ok (F := slices_reverseRangeCmpFunc_restrict_known.F) (f := slices_reverseRangeCmpFunc_restrict_known.p) (E := slices_reverseRangeCmpFunc_restrict_known.E) slices_reverseRangeCmpFunc_restrict_known.hE (fun _ => rfl) Try.func64 (body := (bodyOf Try.f64)) rfl (by kernel_rfl) rfl (by decide) (by kernel_rfl) (cuts := slices_reverseRangeCmpFunc_restrict_known.cs) (all_cons slices_reverseRangeCmpFunc_restrict_known.ol0 all_nil) slices_reverseRangeCmpFunc_restrict_known.q k
def slices_partialInsertionSortCmpFunc_restrict_known.F : FnS R (Int × Int × (List S78)) (Bool × (List S78)) := ⟨[.lf, .lf, .lf, .lf], [.row 2 78], (.row 2 0 (.cons (dInt .i64) (.cons (dInt .i64) (.fnv 51 (.last (dRo 2) .nil))))), .lf, [.row 2 78], (.cons dBool (.last (dRo 2) .nil))⟩
def slices_partialInsertionSortCmpFunc_restrict_known.p (k : Nat) (y : Int × Int × (List S78)) : Option (Bool × (List S78)) := slices_partialInsertionSortCmpFunc_restrict_known.f k y.1 y.2.1 y.2.2
def slices_partialInsertionSortCmpFunc_restrict_known.E (k : Nat) : Env R := ⟨tabOf tabL, ctOf [(51, (restrict_Memory_List_1.F.sem (restrict_Memory_List_1.p k)))], mtNone, fun _ => false, codes, rts, 141, fun i => ordOf [(5, [(0, 0), (1, 0), (2, 0), (3, 0), (4, 0), (5, 0), (6, 0), (7, 0), (8, 0), (9, 0), (10, 0), (11, 0), (12, 0), (13, 0), (14, 2), (15, 0), (16, 0), (17, 0)]), (11, [(0, 0), (1, 0), (2, 0), (3, 0), (4, 0), (5, 0), (6, 0), (7, 0), (8, 0), (9, 0), (10, 0), (11, 0), (12, 0), (13, 0), (14, 0), (15, 2), (16, 0), (17, 2)]), (16, [(0, 0), (1, 0), (2, 0), (3, 0), (4, 0), (5, 0), (6, 0), (7, 0), (8, 0), (9, 0), (10, 2), (11, 0), (12, 0)]), (17, [(0, 0), (1, 0), (2, 0), (3, 0), (4, 0), (5, 0), (6, 0), (7, 0), (8, 0), (9, 0), (10, 0), (11, 0), (12, 0), (13, 0), (14, 0), (15, 2), (16, 0), (17, 2)]), (22, [(0, 0), (1, 0), (2, 0), (3, 0), (4, 0), (5, 0), (6, 0), (7, 0), (8, 0), (9, 0), (10, 2), (11, 0), (12, 0)]), (23, [(0, 0), (1, 0), (2, 0), (3, 0), (4, 0), (5, 0), (6, 0), (7, 0), (8, 0), (9, 0), (10, 0), (11, 0), (12, 0), (13, 0), (14, 0), (15, 2), (16, 0), (17, 2)])] i, owns, [], eqtOf eqs, fun _ => false, flats, mpsOf mps, byt_⟩
def slices_partialInsertionSortCmpFunc_restrict_known.cl0 : CutS R (Bool × (List S78)) := ⟨6, [0, 1, 2, 3, 9, 10], [], [.lf, .lf, .lf, .lf, .lf, .lf], [.row 2 78], Int × Int × Int × Int × (List S78), (.row 2 0 (.cons (dInt .i64) (.cons (dInt .i64) (.fnv 51 (.cons (dInt .i64) (.cons (dInt .i64) (.last (dRo 2) .nil))))))), fun k z => slices_partialInsertionSortCmpFunc_restrict_known.l0 k z.1 z.2.1 z.2.2.1 z.2.2.2.1 z.2.2.2.2⟩
def slices_partialInsertionSortCmpFunc_restrict_known.cl1 : CutS R (Bool × (List S78)) := ⟨10, [0, 1, 2, 3, 9, 10], [], [.lf, .lf, .lf, .lf, .lf, .lf], [.row 2 78], Int × Int × Int × Int × (List S78), (.row 2 0 (.cons (dInt .i64) (.cons (dInt .i64) (.fnv 51 (.cons (dInt .i64) (.cons (dInt .i64) (.last (dRo 2) .nil))))))), fun k z => slices_partialInsertionSortCmpFunc_restrict_known.l1 k z.1 z.2.1 z.2.2.1 z.2.2.2.1 z.2.2.2.2⟩
def slices_partialInsertionSortCmpFunc_restrict_known.cl2 : CutS R (Bool × (List S78)) := ⟨28, [0, 1, 2, 3, 9, 10, 11], [], [.lf, .lf, .lf, .lf, .lf, .lf, .lf], [.row 2 78], Int × Int × Int × Int × Int × (List S78), (.row 2 0 (.cons (dInt .i64) (.cons (dInt .i64) (.fnv 51 (.cons (dInt .i64) (.cons (dInt .i64) (.cons (dInt .i64) (.last (dRo 2) .nil)))))))), fun k z => slices_partialInsertionSortCmpFunc_restrict_known.l2 k z.1 z.2.1 z.2.2.1 z.2.2.2.1 z.2.2.2.2.1 z.2.2.2.2.2⟩
def slices_partialInsertionSortCmpFunc_restrict_known.cl3 : CutS R (Bool × (List S78)) := ⟨40, [0, 1, 2, 3, 9, 10, 12], [], [.lf, .lf, .lf, .lf, .lf, .lf, .lf], [.row 2 78], Int × Int × Int × Int × Int × (List S78), (.row 2 0 (.cons (dInt .i64) (.cons (dInt .i64) (.fnv 51 (.cons (dInt .i64) (.cons (dInt .i64) (.cons (dInt .i64) (.last (dRo 2) .nil)))))))), fun k z => slices_partialInsertionSortCmpFunc_restrict_known.l3 k z.1 z.2.1 z.2.2.1 z.2.2.2.1 z.2.2.2.2.1 z.2.2.2.2.2⟩
def slices_partialInsertionSortCmpFunc_restrict_known.cs : List (CutS R (Bool × (List S78))) := [slices_partialInsertionSortCmpFunc_restrict_known.cl0, slices_partialInsertionSortCmpFunc_restrict_known.cl1, slices_partialInsertionSortCmpFunc_restrict_known.cl2, slices_partialInsertionSortCmpFunc_restrict_known.cl3]
theorem slices_partialInsertionSortCmpFunc_restrict_known.hE (k : Nat) : EnvOk Try.prog (slices_partialInsertionSortCmpFunc_restrict_known.E k) := ⟨tabs, ctOf_ok (all_cons (restrict_Memory_List_1.ok k) all_nil), mtNone_ok, mixed, eqs_, flats_, mps_⟩
theorem slices_partialInsertionSortCmpFunc_restrict_known.ol0 : (slices_partialInsertionSortCmpFunc_restrict_known.cl0).Ok slices_partialInsertionSortCmpFunc_restrict_known.E Try.f65.results.toList 1 (bodyOf Try.f65) slices_partialInsertionSortCmpFunc_restrict_known.cs slices_partialInsertionSortCmpFunc_restrict_known.F.ret := ⟨fun z => rfl, fun k z => by
 obtain ⟨z0, z1, z2, z3, z4⟩ := z
 show slices_partialInsertionSortCmpFunc_restrict_known.l0 (k + 1) z0 z1 z2 z3 z4 = _
 rw [slices_partialInsertionSortCmpFunc_restrict_known.l0]
 kernel_rfl⟩
theorem slices_partialInsertionSortCmpFunc_restrict_known.ol1 : (slices_partialInsertionSortCmpFunc_restrict_known.cl1).Ok slices_partialInsertionSortCmpFunc_restrict_known.E Try.f65.results.toList 1 (bodyOf Try.f65) slices_partialInsertionSortCmpFunc_restrict_known.cs slices_partialInsertionSortCmpFunc_restrict_known.F.ret := ⟨fun z => rfl, fun k z => by
 obtain ⟨z0, z1, z2, z3, z4⟩ := z
 show slices_partialInsertionSortCmpFunc_restrict_known.l1 (k + 1) z0 z1 z2 z3 z4 = _
 rw [slices_partialInsertionSortCmpFunc_restrict_known.l1]
 kernel_rfl⟩
theorem slices_partialInsertionSortCmpFunc_restrict_known.ol2 : (slices_partialInsertionSortCmpFunc_restrict_known.cl2).Ok slices_partialInsertionSortCmpFunc_restrict_known.E Try.f65.results.toList 1 (bodyOf Try.f65) slices_partialInsertionSortCmpFunc_restrict_known.cs slices_partialInsertionSortCmpFunc_restrict_known.F.ret := ⟨fun z => rfl, fun k z => by
 obtain ⟨z0, z1, z2, z3, z4, z5⟩ := z
 show slices_partialInsertionSortCmpFunc_restrict_known.l2 (k + 1) z0 z1 z2 z3 z4 z5 = _
 rw [slices_partialInsertionSortCmpFunc_restrict_known.l2]
 kernel_rfl⟩
theorem slices_partialInsertionSortCmpFunc_restrict_known.ol3 : (slices_partialInsertionSortCmpFunc_restrict_known.cl3).Ok slices_partialInsertionSortCmpFunc_restrict_known.E Try.f65.results.toList 1 (bodyOf Try.f65) slices_partialInsertionSortCmpFunc_restrict_known.cs slices_partialInsertionSortCmpFunc_restrict_known.F.ret := ⟨fun z => rfl, fun k z => by
 obtain ⟨z0, z1, z2, z3, z4, z5⟩ := z
 show slices_partialInsertionSortCmpFunc_restrict_known.l3 (k + 1) z0 z1 z2 z3 z4 z5 = _
 rw [slices_partialInsertionSortCmpFunc_restrict_known.l3]
 kernel_rfl⟩
theorem slices_partialInsertionSortCmpFunc_restrict_known.q (k : Nat) (y : Int × Int × (List S78)) : slices_partialInsertionSortCmpFunc_restrict_known.p k y = slices_partialInsertionSortCmpFunc_restrict_known.F.run slices_partialInsertionSortCmpFunc_restrict_known.E Try.f65.results.toList (bodyOf Try.f65) slices_partialInsertionSortCmpFunc_restrict_known.cs k y := by kernel_rfl
theorem slices_partialInsertionSortCmpFunc_restrict_known.ok (k : Nat) : CsemOk R Try.prog 65 (slices_partialInsertionSortCmpFunc_restrict_known.F.sem (slices_partialInsertionSortCmpFunc_restrict_known.p k)) := fn_ok (F := slices_partialInsertionSortCmpFunc_restrict_known.F) (f := slices_partialInsertionSortCmpFunc_restrict_known.p) (E := slices_partialInsertionSortCmpFunc_restrict_known.E) slices_partialInsertionSortCmpFunc_restrict_known.hE (fun _ => rfl) Try.func65 (body := (bodyOf Try.f65)) rfl (by kernel_rfl) rfl (by decide) (by kernel_rfl) (cuts := slices_partialInsertionSortCmpFunc_restrict_known.cs) (all_cons slices_partialInsertionSortCmpFunc_restrict_known.ol0 (all_cons slices_partialInsertionSortCmpFunc_restrict_known.ol1 (all_cons slices_partialInsertionSortCmpFunc_restrict_known.ol2 (all_cons slices_partialInsertionSortCmpFunc_restrict_known.ol3 all_nil)))) slices_partialInsertionSortCmpFunc_restrict_known.q k
def slices_partitionEqualCmpFunc_restrict_known.F : FnS R (Int × Int × Int × (List S78)) (Int × (List S78)) := ⟨[.lf, .lf, .lf, .lf, .lf], [.row 2 78], (.row 2 0 (.cons (dInt .i64) (.cons (dInt .i64) (.cons (dInt .i64) (.fnv 51 (.last (dRo 2) .nil)))))), .lf, [.row 2 78], (.cons (dInt .i64) (.last (dRo 2) .nil))⟩
def slices_partitionEqualCmpFunc_restrict_known.p (k : Nat) (y : Int × Int × Int × (List S78)) : Option (Int × (List S78)) := slices_partitionEqualCmpFunc_restrict_known.f k y.1 y.2.1 y.2.2.1 y.2.2.2
def slices_partitionEqualCmpFunc_restrict_known.E (k : Nat) : Env R := ⟨tabOf tabL, ctOf [(51, (restrict_Memory_List_1.F.sem (restrict_Memory_List_1.p k)))], mtNone, fun _ => false, codes, rts, 90, fun i => ordOf [(1, [(0, 0), (1, 0), (2, 0), (3, 0), (4, 0), (5, 0), (6, 0), (7, 0), (8, 0), (9, 0), (10, 0), (11, 0), (12, 0), (13, 2), (14, 0), (15, 2)]), (3, [(0, 0), (1, 0), (2, 0), (3, 0), (4, 0), (5, 0), (6, 0), (7, 0), (8, 0), (9, 0), (10, 0), (11, 0), (12, 0), (13, 2), (14, 0), (15, 0), (16, 0)]), (5, [(0, 0), (1, 0), (2, 0), (3, 0), (4, 0), (5, 0), (6, 0), (7, 0), (8, 0), (9, 0), (10, 0), (11, 0), (12, 0), (13, 2), (14, 0), (15, 0)]), (8, [(0, 0), (1, 0), (2, 0), (3, 0), (4, 0), (5, 0), (6, 0), (7, 0), (8, 0), (9, 0), (10, 0), (11, 0), (12, 0), (13, 2), (14, 0), (15, 2)])] i, owns, [], eqtOf eqs, fun _ => false, flats, mpsOf mps, byt_⟩
def slices_partitionEqualCmpFunc_restrict_known.cl0 : CutS R (Int × (List S78)) := ⟨6, [0, 1, 4, 11, 12], [], [.lf, .lf, .lf, .lf, .lf], [.row 2 78], Int × Int × Int × (List S78), (.row 2 0 (.cons (dInt .i64) (.fnv 51 (.cons (dInt .i64) (.cons (dInt .i64) (.last (dRo 2) .nil)))))), fun k z => slices_partitionEqualCmpFunc_restrict_known.l0 k z.1 z.2.1 z.2.2.1 z.2.2.2⟩
def slices_partitionEqualCmpFunc_restrict_known.cl1 : CutS R (Int × (List S78)) := ⟨10, [0, 1, 4, 11, 12], [], [.lf, .lf, .lf, .lf, .lf], [.row 2 78], Int × Int × Int × (List S78), (.row 2 0 (.cons (dInt .i64) (.fnv 51 (.cons (dInt .i64) (.cons (dInt .i64) (.last (dRo 2) .nil)))))), fun k z => slices_partitionEqualCmpFunc_restrict_known.l1 k z.1 z.2.1 z.2.2.1 z.2.2.2⟩
def slices_partitionEqualCmpFunc_restrict_known.cs : List (CutS R (Int × (List S78))) := [slices_partitionEqualCmpFunc_restrict_known.cl0, slices_partitionEqualCmpFunc_restrict_known.cl1]
theorem slices_partitionEqualCmpFunc_restrict_known.hE (k : Nat) : EnvOk Try.prog (slices_partitionEqualCmpFunc_restrict_known.E k) := ⟨tabs, ctOf_ok (all_cons (restrict_Memory_List_1.ok k) all_nil), mtNone_ok, mixed, eqs_, flats_, mps_⟩
theorem slices_partitionEqualCmpFunc_restrict_known.ol0 : (slices_partitionEqualCmpFunc_restrict_known.cl0).Ok slices_partitionEqualCmpFunc_restrict_known.E Try.f66.results.toList 1 (bodyOf Try.f66) slices_partitionEqualCmpFunc_restrict_known.cs slices_partitionEqualCmpFunc_restrict_known.F.ret := ⟨fun z => rfl, fun k z => by
 obtain ⟨z0, z1, z2, z3⟩ := z
 show slices_partitionEqualCmpFunc_restrict_known.l0 (k + 1) z0 z1 z2 z3 = _
 rw [slices_partitionEqualCmpFunc_restrict_known.l0]
 kernel_rfl⟩
theorem slices_partitionEqualCmpFunc_restrict_known.ol1 : (slices_partitionEqualCmpFunc_restrict_known.cl1).Ok slices_partitionEqualCmpFunc_restrict_known.E Try.f66.results.toList 1 (bodyOf Try.f66) slices_partitionEqualCmpFunc_restrict_known.cs slices_partitionEqualCmpFunc_restrict_known.F.ret := ⟨fun z => rfl, fun k z => by
 obtain ⟨z0, z1, z2, z3⟩ := z
 show slices_partitionEqualCmpFunc_restrict_known.l1 (k + 1) z0 z1 z2 z3 = _
 rw [slices_partitionEqualCmpFunc_restrict_known.l1]
 kernel_rfl⟩
theorem slices_partitionEqualCmpFunc_restrict_known.q (k : Nat) (y : Int × Int × Int × (List S78)) : slices_partitionEqualCmpFunc_restrict_known.p k y = slices_partitionEqualCmpFunc_restrict_known.F.run slices_partitionEqualCmpFunc_restrict_known.E Try.f66.results.toList (bodyOf Try.f66) slices_partitionEqualCmpFunc_restrict_known.cs k y := by kernel_rfl
theorem slices_partitionEqualCmpFunc_restrict_known.ok (k : Nat) : CsemOk R Try.prog 66 (slices_partitionEqualCmpFunc_restrict_known.F.sem (slices_partitionEqualCmpFunc_restrict_known.p k)) := fn_ok (F := slices_partitionEqualCmpFunc_restrict_known.F) (f := slices_partitionEqualCmpFunc_restrict_known.p) (E := slices_partitionEqualCmpFunc_restrict_known.E) slices_partitionEqualCmpFunc_restrict_known.hE (fun _ => rfl) Try.func66 (body := (bodyOf Try.f66)) rfl (by kernel_rfl) rfl (by decide) (by kernel_rfl) (cuts := slices_partitionEqualCmpFunc_restrict_known.cs) (all_cons slices_partitionEqualCmpFunc_restrict_known.ol0 (all_cons slices_partitionEqualCmpFunc_restrict_known.ol1 all_nil)) slices_partitionEqualCmpFunc_restrict_known.q k
def slices_partitionCmpFunc_restrict_known.F : FnS R (Int × Int × Int × (List S78)) (Int × Bool × (List S78)) := ⟨[.lf, .lf, .lf, .lf, .lf], [.row 2 78], (.row 2 0 (.cons (dInt .i64) (.cons (dInt .i64) (.cons (dInt .i64) (.fnv 51 (.last (dRo 2) .nil)))))), .tup [none, none], [.row 2 78], (.cons (dInt .i64) (.cons dBool (.last (dRo 2) .nil)))⟩
def slices_partitionCmpFunc_restrict_known.p (k : Nat) (y : Int × Int × Int × (List S78)) : Option (Int × Bool × (List S78)) := slices_partitionCmpFunc_restrict_known.f k y.1 y.2.1 y.2.2.1 y.2.2.2
def slices_partitionCmpFunc_restrict_known.E (k : Nat) : Env R := ⟨tabOf tabL, ctOf [(51, (restrict_Memory_List_1.F.sem (restrict_Memory_List_1.p k)))], mtNone, fun _ => false, codes, rts, 178, fun i => ordOf [(1, [(0, 0), (1, 0), (2, 0), (3, 0), (4, 0), (5, 0), (6, 0), (7, 0), (8, 0), (9, 0), (10, 0), (11, 0), (12, 0), (13, 2), (14, 0), (15, 2)]), (3, [(0, 0), (1, 0), (2, 0), (3, 0), (4, 0), (5, 0), (6, 0), (7, 0), (8, 0), (9, 0), (10, 0), (11, 0), (12, 0), (13, 2), (14, 0), (15, 0)]), (5, [(0, 0), (1, 0), (2, 0), (3, 0), (4, 0), (5, 0), (6, 0), (7, 0), (8, 0), (9, 0), (10, 0), (11, 0), (12, 0), (13, 2), (14, 0), (15, 0), (16, 0)]), (8, [(0, 0), (1, 0), (2, 0), (3, 0), (4, 0), (5, 0), (6, 0), (7, 0), (8, 0), (9, 0), (10, 0), (11, 0), (12, 0), (13, 2), (14, 0), (15, 2)]), (10, [(0, 0), (1, 0), (2, 0), (3, 0), (4, 0), (5, 0), (6, 0), (7, 0), (8, 0), (9, 0), (10, 0), (11, 0), (12, 0), (13, 2), (14, 0), (15, 2)]), (13, [(0, 0), (1, 0), (2, 0), (3, 0), (4, 0), (5, 0), (6, 0), (7, 0), (8, 0), (9, 0), (10, 0), (11, 0), (12, 0), (13, 2), (14, 0), (15, 0)]), (15, [(0, 0), (1, 0), (2, 0), (3, 0), (4, 0), (5, 0), (6, 0), (7, 0), (8, 0), (9, 0), (10, 0), (11, 0), (12, 0), (13, 2), (14, 0), (15, 0), (16, 0)]), (18, [(0, 0), (1, 0), (2, 0), (3, 0), (4, 0), (5, 0), (6, 0), (7, 0), (8, 0), (9, 0), (10, 0), (11, 0), (12, 0), (13, 2), (14, 0), (15, 2)]), (21, [(0, 0), (1, 0), (2, 0), (3, 0), (4, 0), (5, 0), (6, 0), (7, 0), (8, 0), (9, 0), (10, 0), (11, 0), (12, 0), (13, 2), (14, 0), (15, 2)])] i, owns, [], eqtOf eqs, fun _ => false, flats, mpsOf mps, byt_⟩
def slices_partitionCmpFunc_restrict_known.cl0 : CutS R (Int × Bool × (List S78)) := ⟨6, [0, 1, 4, 12, 13], [], [.lf, .lf, .lf, .lf, .lf], [.row 2 78], Int × Int × Int × (List S78), (.row 2 0 (.cons (dInt .i64) (.fnv 51 (.cons (dInt .i64) (.cons (dInt .i64) (.last (dRo 2) .nil)))))), fun k z => slices_partitionCmpFunc_restrict_known.l0 k z.1 z.2.1 z.2.2.1 z.2.2.2⟩
def slices_partitionCmpFunc_restrict_known.cl1 : CutS R (Int × Bool × (List S78)) := ⟨10, [0, 1, 4, 12, 13], [], [.lf, .lf, .lf, .lf, .lf], [.row 2 78], Int × Int × Int × (List S78), (.row 2 0 (.cons (dInt .i64) (.fnv 51 (.cons (dInt .i64) (.cons (dInt .i64) (.last (dRo 2) .nil)))))), fun k z => slices_partitionCmpFunc_restrict_known.l1 k z.1 z.2.1 z.2.2.1 z.2.2.2⟩
def slices_partitionCmpFunc_restrict_known.cl2 : CutS R (Int × Bool × (List S78)) := ⟨26, [0, 1, 4, 12, 13], [], [.lf, .lf, .lf, .lf, .lf], [.row 2 78], Int × Int × Int × (List S78), (.row 2 0 (.cons (dInt .i64) (.fnv 51 (.cons (dInt .i64) (.cons (dInt .i64) (.last (dRo 2) .nil)))))), fun k z => slices_partitionCmpFunc_restrict_known.l2 k z.1 z.2.1 z.2.2.1 z.2.2.2⟩
def slices_partitionCmpFunc_restrict_known.cl3 : CutS R (Int × Bool × (List S78)) := ⟨30, [0, 1, 4, 12, 13], [], [.lf, .lf, .lf, .lf, .lf], [.row 2 78], Int × Int × Int × (List S78), (.row 2 0 (.cons (dInt .i64) (.fnv 51 (.cons (dInt .i64) (.cons (dInt .i64) (.last (dRo 2) .nil)))))), fun k z => slices_partitionCmpFunc_restrict_known.l3 k z.1 z.2.1 z.2.2.1 z.2.2.2⟩
def slices_partitionCmpFunc_restrict_known.cs : List (CutS R (Int × Bool × (List S78))) := [slices_partitionCmpFunc_restrict_known.cl0, slices_partitionCmpFunc_restrict_known.cl1, slices_partitionCmpFunc_restrict_known.cl2, slices_partitionCmpFunc_restrict_known.cl3]
theorem slices_partitionCmpFunc_restrict_known.hE (k : Nat) : EnvOk Try.prog (slices_partitionCmpFunc_restrict_known.E k) := ⟨tabs, ctOf_ok (all_cons (restrict_Memory_List_1.ok k) all_nil), mtNone_ok, mixed, eqs_, flats_, mps_⟩
theorem slices_partitionCmpFunc_restrict_known.ol0 : (slices_partitionCmpFunc_restrict_known.cl0).Ok slices_partitionCmpFunc_restrict_known.E Try.f67.results.toList 1 (bodyOf Try.f67) slices_partitionCmpFunc_restrict_known.cs slices_partitionCmpFunc_restrict_known.F.ret := ⟨fun z => rfl, fun k z => by
 obtain ⟨z0, z1, z2, z3⟩ := z
 show slices_partitionCmpFunc_restrict_known.l0 (k + 1) z0 z1 z2 z3 = _
 rw [slices_partitionCmpFunc_restrict_known.l0]
 kernel_rfl⟩
theorem slices_partitionCmpFunc_restrict_known.ol1 : (slices_partitionCmpFunc_restrict_known.cl1).Ok slices_partitionCmpFunc_restrict_known.E Try.f67.results.toList 1 (bodyOf Try.f67) slices_partitionCmpFunc_restrict_known.cs slices_partitionCmpFunc_restrict_known.F.ret := ⟨fun z => rfl, fun k z => by
 obtain ⟨z0, z1, z2, z3⟩ := z
 show slices_partitionCmpFunc_restrict_known.l1 (k + 1) z0 z1 z2 z3 = _
 rw [slices_partitionCmpFunc_restrict_known.l1]
 kernel_rfl⟩
theorem slices_partitionCmpFunc_restrict_known.ol2 : (slices_partitionCmpFunc_restrict_known.cl2).Ok slices_partitionCmpFunc_restrict_known.E Try.f67.results.toList 1 (bodyOf Try.f67) slices_partitionCmpFunc_restrict_known.cs slices_partitionCmpFunc_restrict_known.F.ret := ⟨fun z => rfl, fun k z => by
 obtain ⟨z0, z1, z2, z3⟩ := z
 show slices_partitionCmpFunc_restrict_known.l2 (k + 1) z0 z1 z2 z3 = _
 rw [slices_partitionCmpFunc_restrict_known.l2]
 kernel_rfl⟩
theorem slices_partitionCmpFunc_restrict_known.ol3 : (slices_partitionCmpFunc_restrict_known.cl3).Ok slices_partitionCmpFunc_restrict_known.E Try.f67.results.toList 1 (bodyOf Try.f67) slices_partitionCmpFunc_restrict_known.cs slices_partitionCmpFunc_restrict_known.F.ret := ⟨fun z => rfl, fun k z => by
 obtain ⟨z0, z1, z2, z3⟩ := z
 show slices_partitionCmpFunc_restrict_known.l3 (k + 1) z0 z1 z2 z3 = _
 rw [slices_partitionCmpFunc_restrict_known.l3]
 kernel_rfl⟩
theorem slices_partitionCmpFunc_restrict_known.q (k : Nat) (y : Int × Int × Int × (List S78)) : slices_partitionCmpFunc_restrict_known.p k y = slices_partitionCmpFunc_restrict_known.F.run slices_partitionCmpFunc_restrict_known.E Try.f67.results.toList (bodyOf Try.f67) slices_partitionCmpFunc_restrict_known.cs k y := by kernel_rfl
theorem slices_partitionCmpFunc_restrict_known.ok (k : Nat) : CsemOk R Try.prog 67 (slices_partitionCmpFunc_restrict_known.F.sem (slices_partitionCmpFunc_restrict_known.p k)) := fn_ok (F := slices_partitionCmpFunc_restrict_known.F) (f := slices_partitionCmpFunc_restrict_known.p) (E := slices_partitionCmpFunc_restrict_known.E) slices_partitionCmpFunc_restrict_known.hE (fun _ => rfl) Try.func67 (body := (bodyOf Try.f67)) rfl (by kernel_rfl) rfl (by decide) (by kernel_rfl) (cuts := slices_partitionCmpFunc_restrict_known.cs) (all_cons slices_partitionCmpFunc_restrict_known.ol0 (all_cons slices_partitionCmpFunc_restrict_known.ol1 (all_cons slices_partitionCmpFunc_restrict_known.ol2 (all_cons slices_partitionCmpFunc_restrict_known.ol3 all_nil)))) slices_partitionCmpFunc_restrict_known.q k
def slices_pdqsortCmpFunc_restrict_known.F : FnG R (Int × Int × Int × (List S78)) ((List S78)) := ⟨[.lf, .lf, .lf, .lf, .lf], [.row 2 78], (.row 2 0 (.cons (dInt .i64) (.cons (dInt .i64) (.cons (dInt .i64) (.fnv 51 (.last (dRo 2) .nil)))))), (.one (.tup []) [.row 2 78] ((.last (dRo 2) .nil)))⟩
def slices_pdqsortCmpFunc_restrict_known.p (k : Nat) (y : Int × Int × Int × (List S78)) : Option ((List S78)) := slices_pdqsortCmpFunc_restrict_known.f k y.1 y.2.1 y.2.2.1 y.2.2.2
def slices_pdqsortCmpFunc_restrict_known.E (k : Nat) : Env R := ⟨tabOf tabL, ctOf [(60, (slices_insertionSortCmpFunc_restrict_known.F.sem (slices_insertionSortCmpFunc_restrict_known.p k))), (61, (slices_heapSortCmpFunc_restrict_known.F.sem (slices_heapSortCmpFunc_restrict_known.p k))), (62, (slices_breakPatternsCmpFunc_restrict_known.F.sem (slices_breakPatternsCmpFunc_restrict_known.p k))), (63, (slices_choosePivotCmpFunc_restrict_known.F.sem (slices_choosePivotCmpFunc_restrict_known.p k))), (64, (slices_reverseRangeCmpFunc_restrict_known.F.sem (slices_reverseRangeCmpFunc_restrict_known.p k))), (65, (slices_partialInsertionSortCmpFunc_restrict_known.F.sem (slices_partialInsertionSortCmpFunc_restrict_known.p k))), (51, (restrict_Memory_List_1.F.sem (restrict_Memory_List_1.p k))), (66, (slices_partitionEqualCmpFunc_restrict_known.F.sem (slices_partitionEqualCmpFunc_restrict_known.p k))), (67, (slices_partitionCmpFunc_restrict_known.F.sem (slices_partitionCmpFunc_restrict_known.p k))), (56, (slices_pdqsortCmpFunc_restrict_known.F.sem (slices_pdqsortCmpFunc_restrict_known.p k)))], mtNone, fun f => memB f [63], codes, rts, 148, fun i => ordOf [(17, [(0, 0), (1, 0), (2, 0), (3, 0), (4, 0), (5, 0), (6, 0), (7, 0), (8, 0), (9, 0), (10, 0), (11, 0), (12, 0), (13, 2), (14, 0), (15, 0), (16, 0)])] i, owns, [], eqtOf eqs, fun _ => false, flats, mpsOf mps, byt_⟩
def slices_pdqsortCmpFunc_restrict_known.cl0 : CutS R ((List S78)) := ⟨4, [0, 1, 2, 3, 4, 10, 11], [], [.lf, .lf, .lf, .lf, .lf, .lf, .lf], [.row 2 78], Int × Int × Int × Bool × Bool × (List S78), (.row 2 0 (.cons (dInt .i64) (.cons (dInt .i64) (.cons (dInt .i64) (.fnv 51 (.cons dBool (.cons dBool (.last (dRo 2) .nil)))))))), fun k z => slices_pdqsortCmpFunc_restrict_known.l0 k z.1 z.2.1 z.2.2.1 z.2.2.2.1 z.2.2.2.2.1 z.2.2.2.2.2⟩
def slices_pdqsortCmpFunc_restrict_known.cj0 : CutS R ((List S78)) := ⟨20, [0, 1, 2, 3, 4, 10, 11, 12], [], [.lf, .lf, .lf, .lf, .lf, .lf, .lf, .lf], [.row 2 78], Int × Int × Int × Bool × Bool × Int × (List S78), (.row 2 0 (.cons (dInt .i64) (.cons (dInt .i64) (.cons (dInt .i64) (.fnv 51 (.cons dBool (.cons dBool (.cons (dInt .i64) (.last (dRo 2) .nil))))))))), fun k z => slices_pdqsortCmpFunc_restrict_known.j0 k z.1 z.2.1 z.2.2.1 z.2.2.2.1 z.2.2.2.2.1 z.2.2.2.2.2.1 z.2.2.2.2.2.2⟩
def slices_pdqsortCmpFunc_restrict_known.cj1 : CutS R ((List S78)) := ⟨30, [0, 1, 2, 3, 4, 10, 11, 12, 13, 14], [], [.lf, .lf, .lf, .lf, .lf, .lf, .lf, .lf, .lf, .lf], [.row 2 78], Int × Int × Int × Bool × Bool × Int × Int × Int × (List S78), (.row 2 0 (.cons (dInt .i64) (.cons (dInt .i64) (.cons (dInt .i64) (.fnv 51 (.cons dBool (.cons dBool (.cons (dInt .i64) (.cons (dInt .i64) (.cons (dInt .i64) (.last (dRo 2) .nil))))))))))), fun k z => slices_pdqsortCmpFunc_restrict_known.j1 k z.1 z.2.1 z.2.2.1 z.2.2.2.1 z.2.2.2.2.1 z.2.2.2.2.2.1 z.2.2.2.2.2.2.1 z.2.2.2.2.2.2.2.1 z.2.2.2.2.2.2.2.2⟩
def slices_pdqsortCmpFunc_restrict_known.cj2 : CutS R ((List S78)) := ⟨34, [0, 1, 2, 3, 4, 10, 11, 12, 13], [], [.lf, .lf, .lf, .lf, .lf, .lf, .lf, .lf, .lf], [.row 2 78], Int × Int × Int × Bool × Bool × Int × Int × (List S78), (.row 2 0 (.cons (dInt .i64) (.cons (dInt .i64) (.cons (dInt .i64) (.fnv 51 (.cons dBool (.cons dBool (.cons (dInt .i64) (.cons (dInt .i64) (.last (dRo 2) .nil)))))))))), fun k z => slices_pdqsortCmpFunc_restrict_known.j2 k z.1 z.2.1 z.2.2.1 z.2.2.2.1 z.2.2.2.2.1 z.2.2.2.2.2.1 z.2.2.2.2.2.2.1 z.2.2.2.2.2.2.2⟩
def slices_pdqsortCmpFunc_restrict_known.cs : List (CutS R ((List S78))) := [slices_pdqsortCmpFunc_restrict_known.cl0, slices_pdqsortCmpFunc_restrict_known.cj0, slices_pdqsortCmpFunc_restrict_known.cj1, slices_pdqsortCmpFunc_restrict_known.cj2]
theorem slices_pdqsortCmpFunc_restrict_known.hE (k : Nat) (hself : CsemOk R Try.prog 56 (slices_pdqsortCmpFunc_restrict_known.F.sem (slices_pdqsortCmpFunc_restrict_known.p k))) : EnvOk Try.prog (slices_pdqsortCmpFunc_restrict_known.E k) := ⟨tabs, ctOf_ok (all_cons (slices_insertionSortCmpFunc_restrict_known.ok k) (all_cons (slices_heapSortCmpFunc_restrict_known.ok k) (all_cons (slices_breakPatternsCmpFunc_restrict_known.ok k) (all_cons (slices_choosePivotCmpFunc_restrict_known.ok k) (all_cons (slices_reverseRangeCmpFunc_restrict_known.ok k) (all_cons (slices_partialInsertionSortCmpFunc_restrict_known.ok k) (all_cons (restrict_Memory_List_1.ok k) (all_cons (slices_partitionEqualCmpFunc_restrict_known.ok k) (all_cons (slices_partitionCmpFunc_restrict_known.ok k) (all_cons hself all_nil)))))))))), mtNone_ok, mixed, eqs_, flats_, mps_⟩
theorem slices_pdqsortCmpFunc_restrict_known.ol0 : (slices_pdqsortCmpFunc_restrict_known.cl0).Ok slices_pdqsortCmpFunc_restrict_known.E Try.f56.results.toList 1 (bodyOf Try.f56) slices_pdqsortCmpFunc_restrict_known.cs slices_pdqsortCmpFunc_restrict_known.F.ret := ⟨fun z => rfl, fun k z => by
 obtain ⟨z0, z1, z2, z3, z4, z5⟩ := z
 show slices_pdqsortCmpFunc_restrict_known.l0 (k + 1) z0 z1 z2 z3 z4 z5 = _
 rw [slices_pdqsortCmpFunc_restrict_known.l0]
 kernel_rfl⟩
theorem slices_pdqsortCmpFunc_restrict_known.oj0 : (slices_pdqsortCmpFunc_restrict_known.cj0).Ok slices_pdqsortCmpFunc_restrict_known.E Try.f56.results.toList 1 (bodyOf Try.f56) slices_pdqsortCmpFunc_restrict_known.cs slices_pdqsortCmpFunc_restrict_known.F.ret := ⟨fun z => rfl, fun k z => by
 obtain ⟨z0, z1, z2, z3, z4, z5, z6⟩ := z
 show slices_pdqsortCmpFunc_restrict_known.j0 (k + 1) z0 z1 z2 z3 z4 z5 z6 = _
 rw [slices_pdqsortCmpFunc_restrict_known.j0]
 kernel_rfl⟩
theorem slices_pdqsortCmpFunc_restrict_known.oj1 : (slices_pdqsortCmpFunc_restrict_known.cj1).Ok slices_pdqsortCmpFunc_restrict_known.E Try.f56.results.toList 1 (bodyOf Try.f56) slices_pdqsortCmpFunc_restrict_known.cs slices_pdqsortCmpFunc_restrict_known.F.ret := ⟨fun z => rfl, fun k z => by
 obtain ⟨z0, z1, z2, z3, z4, z5, z6, z7, z8⟩ := z
 show slices_pdqsortCmpFunc_restrict_known.j1 (k + 1) z0 z1 z2 z3 z4 z5 z6 z7 z8 = _
 rw [slices_pdqsortCmpFunc_restrict_known.j1]
 kernel_rfl⟩
theorem slices_pdqsortCmpFunc_restrict_known.oj2 : (slices_pdqsortCmpFunc_restrict_known.cj2).Ok slices_pdqsortCmpFunc_restrict_known.E Try.f56.results.toList 1 (bodyOf Try.f56) slices_pdqsortCmpFunc_restrict_known.cs slices_pdqsortCmpFunc_restrict_known.F.ret := ⟨fun z => rfl, fun k z => by
 obtain ⟨z0, z1, z2, z3, z4, z5, z6, z7⟩ := z
 show slices_pdqsortCmpFunc_restrict_known.j2 (k + 1) z0 z1 z2 z3 z4 z5 z6 z7 = _
 rw [slices_pdqsortCmpFunc_restrict_known.j2]
 kernel_rfl⟩
theorem slices_pdqsortCmpFunc_restrict_known.q0 (y : Int × Int × Int × (List S78)) : slices_pdqsortCmpFunc_restrict_known.p 0 y = none := by kernel_rfl
theorem slices_pdqsortCmpFunc_restrict_known.q (k : Nat) (y : Int × Int × Int × (List S78)) : slices_pdqsortCmpFunc_restrict_known.p (k + 1) y = slices_pdqsortCmpFunc_restrict_known.F.run slices_pdqsortCmpFunc_restrict_known.E Try.f56.results.toList (bodyOf Try.f56) slices_pdqsortCmpFunc_restrict_known.cs k y := by
 show slices_pdqsortCmpFunc_restrict_known.f (k + 1) y.1 y.2.1 y.2.2.1 y.2.2.2 = _
 rw [slices_pdqsortCmpFunc_restrict_known.f]
 kernel_rfl
theorem slices_pdqsortCmpFunc_restrict_known.ok (k : Nat) : CsemOk R Try.prog 56 (slices_pdqsortCmpFunc_restrict_known.F.sem (slices_pdqsortCmpFunc_restrict_known.p k)) := fnR_ok (F := slices_pdqsortCmpFunc_restrict_known.F) (f := slices_pdqsortCmpFunc_restrict_known.p) (E := slices_pdqsortCmpFunc_restrict_known.E) (fun _ => rfl) Try.func56 (body := (bodyOf Try.f56)) rfl (by kernel_rfl) rfl (by decide) (by kernel_rfl) (cuts := slices_pdqsortCmpFunc_restrict_known.cs) (all_cons slices_pdqsortCmpFunc_restrict_known.ol0 (all_cons slices_pdqsortCmpFunc_restrict_known.oj0 (all_cons slices_pdqsortCmpFunc_restrict_known.oj1 (all_cons slices_pdqsortCmpFunc_restrict_known.oj2 all_nil)))) slices_pdqsortCmpFunc_restrict_known.hE slices_pdqsortCmpFunc_restrict_known.q0 slices_pdqsortCmpFunc_restrict_known.q k
def slices_SortFunc_restrict_known_restrict_known.F : FnS R ((List S78)) ((List S78)) := ⟨[.lf, .lf], [.row 2 78], (.row 2 0 (.fnv 51 (.last (dRo 2) .nil))), .tup [], [.row 2 78], (.last (dRo 2) .nil)⟩
def slices_SortFunc_restrict_known_restrict_known.p (k : Nat) (y : (List S78)) : Option ((List S78)) := slices_SortFunc_restrict_known_restrict_known.f k y
def slices_SortFunc_restrict_known_restrict_known.E (k : Nat) : Env R := ⟨tabOf tabL, ctOf [(57, (bits_Len.F.sem (bits_Len.p k))), (56, (slices_pdqsortCmpFunc_restrict_known.F.sem (slices_pdqsortCmpFunc_restrict_known.p k)))], mtNone, fun _ => false, codes, rts, 14, fun _ => [], owns, [], eqtOf eqs, fun _ => false, flats, mpsOf mps, byt_⟩
def slices_SortFunc_restrict_known_restrict_known.cs : List (CutS R ((List S78))) := []
theorem slices_SortFunc_restrict_known_restrict_known.hE (k : Nat) : EnvOk Try.prog (slices_SortFunc_restrict_known_restrict_known.E k) := ⟨tabs, ctOf_ok (all_cons (bits_Len.ok k) (all_cons (slices_pdqsortCmpFunc_restrict_known.ok k) all_nil)), mtNone_ok, mixed, eqs_, flats_, mps_⟩
theorem slices_SortFunc_restrict_known_restrict_known.q (k : Nat) (y : (List S78)) : slices_SortFunc_restrict_known_restrict_known.p k y = slices_SortFunc_restrict_known_restrict_known.F.run slices_SortFunc_restrict_known_restrict_known.E Try.f50.results.toList (bodyOf Try.f50) slices_SortFunc_restrict_known_restrict_known.cs k y := by kernel_rfl
theorem slices_SortFunc_restrict_known_restrict_known.ok (k : Nat) : CsemOk R Try.prog 50 (slices_SortFunc_restrict_known_restrict_known.F.sem (slices_SortFunc_restrict_known_restrict_known.p k)) := fn_ok (F := slices_SortFunc_restrict_known_restrict_known.F) (f := slices_SortFunc_restrict_known_restrict_known.p) (E := slices_SortFunc_restrict_known_restrict_known.E) slices_SortFunc_restrict_known_restrict_known.hE (fun _ => rfl) Try.func50 (body := (bodyOf Try.f50)) rfl (by kernel_rfl) rfl (by decide) (by kernel_rfl) (cuts := slices_SortFunc_restrict_known_restrict_known.cs) all_nil slices_SortFunc_restrict_known_restrict_known.q k
def restrict_Memory_List.F : FnS R (S75) ((List S65)) := ⟨[.lf], [], (.last (dEpt 1 0) .nil), .lf, [.row 9 65], (.row 9 0 (.last (dRo 9) .nil))⟩
def restrict_Memory_List.p (k : Nat) (y : S75) : Option ((List S65)) := restrict_Memory_List.f k y
def restrict_Memory_List.E (k : Nat) : Env R := ⟨tabOf tabL, ctOf [(49, (slices_Clone_restrict_known_restrict_known.F.sem (slices_Clone_restrict_known_restrict_known.p k))), (50, (slices_SortFunc_restrict_known_restrict_known.F.sem (slices_SortFunc_restrict_known_restrict_known.p k)))], mtNone, fun _ => false, codes, rts, 27, fun _ => [], owns, [], eqtOf eqs, fun _ => false, flats, mpsOf mps, byt_⟩
def restrict_Memory_List.cl0 : CutS R ((List S65)) := ⟨10, [4, 14, 15, 16], [some (.row 9 65), none, none, none], [.lf, .lf, .lf, .lf], [.row 9 65, .row 2 78], Int × Int × (List S65) × (List S78), (.row 9 0 (.row 2 1 (.cons (dInt .i64) (.cons (dInt .i64) (.cons (dRo 9) (.last (dRo 2) .nil)))))), fun k z => restrict_Memory_List.l0 k z.1 z.2.1 z.2.2.1 z.2.2.2⟩
def restrict_Memory_List.cs : List (CutS R ((List S65))) := [restrict_Memory_List.cl0]
theorem restrict_Memory_List.hE (k : Nat) : EnvOk Try.prog (restrict_Memory_List.E k) := ⟨tabs, ctOf_ok (all_cons (slices_Clone_restrict_known_restrict_known.ok k) (all_cons (slices_SortFunc_restrict_known_restrict_known.ok k) all_nil)), mtNone_ok, mixed, eqs_, flats_, mps_⟩
theorem restrict_Memory_List.ol0 : (restrict_Memory_List.cl0).Ok restrict_Memory_List.E Try.f31.results.toList 0 (bodyOf Try.f31) restrict_Memory_List.cs restrict_Memory_List.F.ret := ⟨fun z => rfl, fun k z => by
 obtain ⟨z0, z1, z2, z3⟩ := z
 show restrict_Memory_List.l0 (k + 1) z0 z1 z2 z3 = _
 rw [restrict_Memory_List.l0]
 kernel_rfl⟩
theorem restrict_Memory_List.q (k : Nat) (y : S75) : restrict_Memory_List.p k y = restrict_Memory_List.F.run restrict_Memory_List.E Try.f31.results.toList (bodyOf Try.f31) restrict_Memory_List.cs k y := by kernel_rfl
theorem restrict_Memory_List.ok (k : Nat) : CsemOk R Try.prog 31 (restrict_Memory_List.F.sem (restrict_Memory_List.p k)) := fn_ok (F := restrict_Memory_List.F) (f := restrict_Memory_List.p) (E := restrict_Memory_List.E) restrict_Memory_List.hE (fun _ => rfl) Try.func31 (body := (bodyOf Try.f31)) rfl (by kernel_rfl) rfl (by decide) (by kernel_rfl) (cuts := restrict_Memory_List.cs) (all_cons restrict_Memory_List.ol0 all_nil) restrict_Memory_List.q k
def foliotlaw06_entry.F : FnS R (Int × Int × Int × Int × Int) (Int × Int × Int × Int × Int) := ⟨[.agg 5], [], (.cons (dInt .u32) (.cons (dInt .i64) (.cons (dInt .i64) (.cons (dInt .i64) (.last (dInt .i64) .nil))))), .agg 5, [], (.cons (dInt .u32) (.cons (dInt .i64) (.cons (dInt .i64) (.cons (dInt .i64) (.last (dInt .i64) .nil)))))⟩
def foliotlaw06_entry.p (k : Nat) (y : Int × Int × Int × Int × Int) : Option (Int × Int × Int × Int × Int) := foliotlaw06_entry.f y.1 y.2.1 y.2.2.1 y.2.2.2.1 y.2.2.2.2
def foliotlaw06_entry.E (k : Nat) : Env R := ⟨tabOf tabL, ctOf [], mtNone, fun _ => false, codes, rts, 14, fun _ => [], owns, [], eqtOf eqs, fun _ => false, flats, mpsOf mps, byt_⟩
def foliotlaw06_entry.cs : List (CutS R (Int × Int × Int × Int × Int)) := []
theorem foliotlaw06_entry.hE (k : Nat) : EnvOk Try.prog (foliotlaw06_entry.E k) := ⟨tabs, ctOf_ok all_nil, mtNone_ok, mixed, eqs_, flats_, mps_⟩
theorem foliotlaw06_entry.q (k : Nat) (y : Int × Int × Int × Int × Int) : foliotlaw06_entry.p k y = foliotlaw06_entry.F.run foliotlaw06_entry.E Try.f48.results.toList (bodyOf Try.f48) foliotlaw06_entry.cs k y := by kernel_rfl
theorem foliotlaw06_entry.ok (k : Nat) : CsemOk R Try.prog 48 (foliotlaw06_entry.F.sem (foliotlaw06_entry.p k)) := fn_ok (F := foliotlaw06_entry.F) (f := foliotlaw06_entry.p) (E := foliotlaw06_entry.E) foliotlaw06_entry.hE (fun _ => rfl) Try.func48 (body := (bodyOf Try.f48)) rfl (by kernel_rfl) rfl (by decide) (by kernel_rfl) (cuts := foliotlaw06_entry.cs) all_nil foliotlaw06_entry.q k
def foliotlaw06_told.F : FnS R (S75 × S94 × Int) (Bool) := ⟨[.lf, .lf, .lf], [], (.cons (dEpt 1 0) (.cons (dEpt 5 0) (.last (dInt .u32) .nil))), .lf, [], (.last dBool .nil)⟩
def foliotlaw06_told.p (k : Nat) (y : S75 × S94 × Int) : Option (Bool) := foliotlaw06_told.f k y.1 y.2.1 y.2.2
def foliotlaw06_told.E (k : Nat) : Env R := ⟨tabOf tabL, ctOf [(31, (restrict_Memory_List.F.sem (restrict_Memory_List.p k))), (48, (foliotlaw06_entry.F.sem (foliotlaw06_entry.p k))), (30, (restrict_Memory_Find.F.sem (restrict_Memory_Find.p k))), (46, (foliotref06_Memory_Find.F.sem (foliotref06_Memory_Find.p k)))], mtNone, fun f => memB f [48], codes, rts, 67, fun i => ordOf [(7, [(0, 0), (1, 0), (2, 0), (3, 0), (4, 0), (5, 0), (6, 0), (7, 0), (8, 0), (9, 0), (10, 0), (11, 0), (12, 0)]), (13, [(0, 0), (1, 0), (2, 0), (3, 0), (4, 0), (5, 0), (6, 0), (7, 0), (8, 0), (9, 0)])] i, owns, [], eqtOf eqs, fun _ => false, flats, mpsOf mps, byt_⟩
def foliotlaw06_told.cl0 : CutS R (Bool) := ⟨10, [0, 1, 2, 7, 24, 25], [], [.lf, .lf, .lf, .lf, .lf, .lf], [.row 9 65], S75 × S94 × Int × Int × Int × (List S65), (.cons (dEpt 1 0) (.cons (dEpt 5 0) (.cons (dInt .u32) (.row 9 0 (.cons (dInt .i64) (.cons (dInt .i64) (.last (dRo 9) .nil))))))), fun k z => foliotlaw06_told.l0 k z.1 z.2.1 z.2.2.1 z.2.2.2.1 z.2.2.2.2.1 z.2.2.2.2.2⟩
def foliotlaw06_told.cs : List (CutS R (Bool)) := [foliotlaw06_told.cl0]
theorem foliotlaw06_told.hE (k : Nat) : EnvOk Try.prog (foliotlaw06_told.E k) := ⟨tabs, ctOf_ok (all_cons (restrict_Memory_List.ok k) (all_cons (foliotlaw06_entry.ok k) (all_cons (restrict_Memory_Find.ok k) (all_cons (foliotref06_Memory_Find.ok k) all_nil)))), mtNone_ok, mixed, eqs_, flats_, mps_⟩
theorem foliotlaw06_told.ol0 : (foliotlaw06_told.cl0).Ok foliotlaw06_told.E Try.f29.results.toList 0 (bodyOf Try.f29) foliotlaw06_told.cs foliotlaw06_told.F.ret := ⟨fun z => rfl, fun k z => by
 obtain ⟨z0, z1, z2, z3, z4, z5⟩ := z
 show foliotlaw06_told.l0 (k + 1) z0 z1 z2 z3 z4 z5 = _
 rw [foliotlaw06_told.l0]
 kernel_rfl⟩
theorem foliotlaw06_told.q (k : Nat) (y : S75 × S94 × Int) : foliotlaw06_told.p k y = foliotlaw06_told.F.run foliotlaw06_told.E Try.f29.results.toList (bodyOf Try.f29) foliotlaw06_told.cs k y := by kernel_rfl
theorem foliotlaw06_told.ok (k : Nat) : CsemOk R Try.prog 29 (foliotlaw06_told.F.sem (foliotlaw06_told.p k)) := fn_ok (F := foliotlaw06_told.F) (f := foliotlaw06_told.p) (E := foliotlaw06_told.E) foliotlaw06_told.hE (fun _ => rfl) Try.func29 (body := (bodyOf Try.f29)) rfl (by kernel_rfl) rfl (by decide) (by kernel_rfl) (cuts := foliotlaw06_told.cs) (all_cons foliotlaw06_told.ol0 all_nil) foliotlaw06_told.q k
def foliotlaw06_RestrictMemory.F : FnS R (Int × Int × (List S37)) (Bool) := ⟨[.lf, .lf, .lf], [], (.cons (dInt .i64) (.cons (dInt .i64) (.last (dRo 0) .nil))), .lf, [], (.last dBool .nil)⟩
def foliotlaw06_RestrictMemory.p (k : Nat) (y : Int × Int × (List S37)) : Option (Bool) := foliotlaw06_RestrictMemory.f k y.1 y.2.1 y.2.2
def foliotlaw06_RestrictMemory.E (k : Nat) : Env R := ⟨tabOf tabL, ctOf [(12, (foliotlaw06_shown.F.sem (foliotlaw06_shown.p k))), (13, (restrict_New.F.sem (restrict_New.p k))), (27, (foliotref06_New.F.sem (foliotref06_New.p k))), (14, (restrict_Memory_Heard.F.sem (restrict_Memory_Heard.p k))), (28, (foliotref06_Memory_Heard.F.sem (foliotref06_Memory_Heard.p k))), (29, (foliotlaw06_told.F.sem (foliotlaw06_told.p k)))], mtNone, fun f => memB f [29], codes, rts, 74, fun i => ordOf [(12, [(0, 0), (1, 0), (2, 0), (3, 0), (4, 0), (5, 0), (6, 0), (8, 0), (9, 0), (10, 0), (11, 0), (12, 0), (13, 0), (14, 0), (7, 2), (15, 2), (16, 0), (17, 0), (18, 0), (19, 0), (20, 0), (21, 0), (22, 0), (23, 0), (24, 0)])] i, owns, [], eqtOf eqs, fun _ => false, flats, mpsOf mps, byt_⟩
def foliotlaw06_RestrictMemory.cl0 : CutS R (Bool) := ⟨20, [7, 9, 39, 40, 41], [], [.lf, .lf, .lf, .lf, .lf], [.blk 5 75, .blk 5 94, .row 2 78, .row 6 95], (List S37) × Int × Int × Int × Int × Int × Int × Int × Int × Int × Bool × (List S78) × (List S95), (.ptr 0 0 (.ptr 1 0 (.cons (dRo 0) (.cons (dInt .i64) (.cons (dInt .i64) (.cons (dInt .i64) (.cons (dInt .i64) (.cons (dInt .i64) (.cons (dInt .i64) (.row 2 2 (.row 6 3 (.cons (dInt .i64) (.cons (dInt .i64) (.cons (dInt .i64) (.cons dBool (.cons (dRo 2) (.last (dRo 6) .nil))))))))))))))))), fun k z => foliotlaw06_RestrictMemory.l0 k z.1 z.2.1 z.2.2.1 z.2.2.2.1 z.2.2.2.2.1 z.2.2.2.2.2.1 z.2.2.2.2.2.2.1 z.2.2.2.2.2.2.2.1 z.2.2.2.2.2.2.2.2.1 z.2.2.2.2.2.2.2.2.2.1 z.2.2.2.2.2.2.2.2.2.2.1 z.2.2.2.2.2.2.2.2.2.2.2.1 z.2.2.2.2.2.2.2.2.2.2.2.2⟩
def foliotlaw06_RestrictMemory.cs : List (CutS R (Bool)) := [foliotlaw06_RestrictMemory.cl0]
theorem foliotlaw06_RestrictMemory.hE (k : Nat) : EnvOk Try.prog (foliotlaw06_RestrictMemory.E k) := ⟨tabs, ctOf_ok (all_cons (foliotlaw06_shown.ok k) (all_cons (restrict_New.ok k) (all_cons (foliotref06_New.ok k) (all_cons (restrict_Memory_Heard.ok k) (all_cons (foliotref06_Memory_Heard.ok k) (all_cons (foliotlaw06_told.ok k) all_nil)))))), mtNone_ok, mixed, eqs_, flats_, mps_⟩
theorem foliotlaw06_RestrictMemory.ol0 : (foliotlaw06_RestrictMemory.cl0).Ok foliotlaw06_RestrictMemory.E Try.f8.results.toList 0 (bodyOf Try.f8) foliotlaw06_RestrictMemory.cs foliotlaw06_RestrictMemory.F.ret := ⟨fun z => rfl, fun k z => by
 obtain ⟨z0, z1, z2, z3, z4, z5, z6, z7, z8, z9, z10, z11, z12⟩ := z
 show foliotlaw06_RestrictMemory.l0 (k + 1) z0 z1 z2 z3 z4 z5 z6 z7 z8 z9 z10 z11 z12 = _
 rw [foliotlaw06_RestrictMemory.l0]
 kernel_rfl⟩
theorem foliotlaw06_RestrictMemory.q (k : Nat) (y : Int × Int × (List S37)) : foliotlaw06_RestrictMemory.p k y = foliotlaw06_RestrictMemory.F.run foliotlaw06_RestrictMemory.E Try.f8.results.toList (bodyOf Try.f8) foliotlaw06_RestrictMemory.cs k y := by kernel_rfl
theorem foliotlaw06_RestrictMemory.ok (k : Nat) : CsemOk R Try.prog 8 (foliotlaw06_RestrictMemory.F.sem (foliotlaw06_RestrictMemory.p k)) := fn_ok (F := foliotlaw06_RestrictMemory.F) (f := foliotlaw06_RestrictMemory.p) (E := foliotlaw06_RestrictMemory.E) foliotlaw06_RestrictMemory.hE (fun _ => rfl) Try.func8 (body := (bodyOf Try.f8)) rfl (by kernel_rfl) rfl (by decide) (by kernel_rfl) (cuts := foliotlaw06_RestrictMemory.cs) (all_cons foliotlaw06_RestrictMemory.ol0 all_nil) foliotlaw06_RestrictMemory.q k
def foliotlaw06_RestrictRecent.F : FnS R ((List Int)) (Bool) := ⟨[.lf], [], (.last (dRo 3) .nil), .lf, [], (.last dBool .nil)⟩
def foliotlaw06_RestrictRecent.p (k : Nat) (y : (List Int)) : Option (Bool) := foliotlaw06_RestrictRecent.f k y
def foliotlaw06_RestrictRecent.E (k : Nat) : Env R := ⟨tabOf tabL, ctOf [(12, (foliotlaw06_shown.F.sem (foliotlaw06_shown.p k))), (13, (restrict_New.F.sem (restrict_New.p k))), (14, (restrict_Memory_Heard.F.sem (restrict_Memory_Heard.p k))), (31, (restrict_Memory_List.F.sem (restrict_Memory_List.p k))), (30, (restrict_Memory_Find.F.sem (restrict_Memory_Find.p k)))], mtNone, fun f => memB f [30], codes, rts, 139, fun i => ordOf [(29, [(0, 0), (1, 0), (2, 0), (3, 0), (4, 0), (5, 0), (6, 0), (7, 0), (8, 0), (9, 0), (10, 0), (11, 0), (12, 0), (13, 0), (14, 0), (15, 0), (16, 0), (17, 0), (18, 0), (19, 0), (20, 0), (21, 0), (22, 0), (23, 0), (24, 0), (25, 0), (26, 0), (27, 0), (28, 0), (29, 0), (30, 0), (31, 0), (32, 0), (33, 0), (34, 0), (35, 0), (36, 0), (37, 0), (38, 0), (39, 0), (40, 0)])] i, owns, [], eqtOf eqs, fun f => memB f [31], flats, mpsOf mps, byt_⟩
def foliotlaw06_RestrictRecent.cl0 : CutS R (Bool) := ⟨16, [3, 5, 27, 28, 29], [none, some (.take 3 24), none, none, none], [.lf, .lf, .lf, .lf, .lf], [.blk 5 75, .row 3 24, .row 2 78], (List Int) × Int × Int × Int × Int × Int × Int × (List Int) × (List S78), (.ptr 0 0 (.row 3 1 (.cons (dRo 3) (.cons (dInt .i64) (.cons (dInt .i64) (.cons (dInt .i64) (.cons (dInt .i64) (.cons (dInt .i64) (.cons (dInt .i64) (.row 2 2 (.cons (dRo 3) (.last (dRo 2) .nil)))))))))))), fun k z => foliotlaw06_RestrictRecent.l0 k z.1 z.2.1 z.2.2.1 z.2.2.2.1 z.2.2.2.2.1 z.2.2.2.2.2.1 z.2.2.2.2.2.2.1 z.2.2.2.2.2.2.2.1 z.2.2.2.2.2.2.2.2⟩
def foliotlaw06_RestrictRecent.cl1 : CutS R (Bool) := ⟨54, [5, 13, 93, 94], [], [.lf, .lf, .lf, .lf], [.row 3 24, .row 9 65], Int × Int × (List Int) × (List S65), (.row 3 0 (.row 9 1 (.cons (dInt .i64) (.cons (dInt .i64) (.cons (dRo 3) (.last (dRo 9) .nil)))))), fun k z => foliotlaw06_RestrictRecent.l1 k z.1 z.2.1 z.2.2.1 z.2.2.2⟩
def foliotlaw06_RestrictRecent.cl2 : CutS R (Bool) := ⟨26, [3, 6, 7, 8, 27, 28, 29, 40, 41, 42], [], [.lf, .lf, .lf, .lf, .lf, .lf, .lf, .lf, .lf, .lf], [.blk 5 75, .row 3 24, .row 3 24, .row 2 78], Int × Int × (List Int) × Int × Int × Int × Int × Int × Int × Int × Int × (List Int) × (List Int) × (List S78), (.ptr 0 0 (.cons (dInt .i64) (.cons (dInt .u32) (.row 3 1 (.cons (dRo 3) (.cons (dInt .i64) (.cons (dInt .i64) (.row 3 2 (.cons (dInt .i64) (.cons (dInt .i64) (.cons (dInt .i64) (.cons (dInt .i64) (.cons (dInt .i64) (.cons (dInt .i64) (.row 2 3 (.cons (dRo 3) (.cons (dRo 3) (.last (dRo 2) .nil)))))))))))))))))), fun k z => foliotlaw06_RestrictRecent.l2 k z.1 z.2.1 z.2.2.1 z.2.2.2.1 z.2.2.2.2.1 z.2.2.2.2.2.1 z.2.2.2.2.2.2.1 z.2.2.2.2.2.2.2.1 z.2.2.2.2.2.2.2.2.1 z.2.2.2.2.2.2.2.2.2.1 z.2.2.2.2.2.2.2.2.2.2.1 z.2.2.2.2.2.2.2.2.2.2.2.1 z.2.2.2.2.2.2.2.2.2.2.2.2.1 z.2.2.2.2.2.2.2.2.2.2.2.2.2⟩
def foliotlaw06_RestrictRecent.cs : List (CutS R (Bool)) := [foliotlaw06_RestrictRecent.cl0, foliotlaw06_RestrictRecent.cl1, foliotlaw06_RestrictRecent.cl2]
theorem foliotlaw06_RestrictRecent.hE (k : Nat) : EnvOk Try.prog (foliotlaw06_RestrictRecent.E k) := ⟨tabs, ctOf_ok (all_cons (foliotlaw06_shown.ok k) (all_cons (restrict_New.ok k) (all_cons (restrict_Memory_Heard.ok k) (all_cons (restrict_Memory_List.ok k) (all_cons (restrict_Memory_Find.ok k) all_nil))))), mtNone_ok, mixed, eqs_, flats_, mps_⟩
theorem foliotlaw06_RestrictRecent.ol0 : (foliotlaw06_RestrictRecent.cl0).Ok foliotlaw06_RestrictRecent.E Try.f9.results.toList 0 (bodyOf Try.f9) foliotlaw06_RestrictRecent.cs foliotlaw06_RestrictRecent.F.ret := ⟨fun z => rfl, fun k z => by
 obtain ⟨z0, z1, z2, z3, z4, z5, z6, z7, z8⟩ := z
 show foliotlaw06_RestrictRecent.l0 (k + 1) z0 z1 z2 z3 z4 z5 z6 z7 z8 = _
 rw [foliotlaw06_RestrictRecent.l0]
 kernel_rfl⟩
theorem foliotlaw06_RestrictRecent.ol1 : (foliotlaw06_RestrictRecent.cl1).Ok foliotlaw06_RestrictRecent.E Try.f9.results.toList 0 (bodyOf Try.f9) foliotlaw06_RestrictRecent.cs foliotlaw06_RestrictRecent.F.ret := ⟨fun z => rfl, fun k z => by
 obtain ⟨z0, z1, z2, z3⟩ := z
 show foliotlaw06_RestrictRecent.l1 (k + 1) z0 z1 z2 z3 = _
 rw [foliotlaw06_RestrictRecent.l1]
 kernel_rfl⟩
theorem foliotlaw06_RestrictRecent.ol2 : (foliotlaw06_RestrictRecent.cl2).Ok foliotlaw06_RestrictRecent.E Try.f9.results.toList 0 (bodyOf Try.f9) foliotlaw06_RestrictRecent.cs foliotlaw06_RestrictRecent.F.ret := ⟨fun z => rfl, fun k z => by
 obtain ⟨z0, z1, z2, z3, z4, z5, z6, z7, z8, z9, z10, z11, z12, z13⟩ := z
 show foliotlaw06_RestrictRecent.l2 (k + 1) z0 z1 z2 z3 z4 z5 z6 z7 z8 z9 z10 z11 z12 z13 = _
 rw [foliotlaw06_RestrictRecent.l2]
 kernel_rfl⟩
theorem foliotlaw06_RestrictRecent.q (k : Nat) (y : (List Int)) : foliotlaw06_RestrictRecent.p k y = foliotlaw06_RestrictRecent.F.run foliotlaw06_RestrictRecent.E Try.f9.results.toList (bodyOf Try.f9) foliotlaw06_RestrictRecent.cs k y := by kernel_rfl
theorem foliotlaw06_RestrictRecent.ok (k : Nat) : CsemOk R Try.prog 9 (foliotlaw06_RestrictRecent.F.sem (foliotlaw06_RestrictRecent.p k)) := fn_ok (F := foliotlaw06_RestrictRecent.F) (f := foliotlaw06_RestrictRecent.p) (E := foliotlaw06_RestrictRecent.E) foliotlaw06_RestrictRecent.hE (fun _ => rfl) Try.func9 (body := (bodyOf Try.f9)) rfl (by kernel_rfl) rfl (by decide) (by kernel_rfl) (cuts := foliotlaw06_RestrictRecent.cs) (all_cons foliotlaw06_RestrictRecent.ol0 (all_cons foliotlaw06_RestrictRecent.ol1 (all_cons foliotlaw06_RestrictRecent.ol2 all_nil))) foliotlaw06_RestrictRecent.q k
end
end Go.Proofs.Ytjfcfljdojkcdaa.C9
