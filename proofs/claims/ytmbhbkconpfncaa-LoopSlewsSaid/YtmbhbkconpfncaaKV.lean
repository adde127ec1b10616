/- The contracts of the functions. -/
import Derived.Test.YtmbhbkconpfncaaDV
import Derived.Test.YtmbhbkconpfncaaEvQ
import Derived.Test.YtmbhbkconpfncaaProg
import Derived.Laws.Externs
import Derived.Lib.BitFns
import Derived.Lib.Strings
import Derived.Lib.Slices
import Derived.Lib.Small
import Derived.Lib.Walk
namespace Go.Proofs.Ytmbhbkconpfncaa.V
open Go Go.RowKit Go.Proofs.Ytmbhbkconpfncaa.Ev
set_option linter.unusedVariables false
set_option maxRecDepth 100000
def D : Nat → Type
 | 0 => S112
 | 1 => S115
 | 2 => Int
 | 3 => Int
 | 4 => S117
 | 5 => ByteArray
 | 6 => S55
 | 7 => S50
 | 8 => S40
 | _ => Unit
def enc : (c : Nat) → D c → List (Lf D)
 | 0 => fun x => [.v (.int .i64 x.f0), .v (.int .u32 x.f1), .v (.int .i64 x.f2), .v (.int .i64 x.f3), .v (.int .i64 x.f4), .v (.bool x.f5), .v (.bool x.f6), .v (.bool x.f7), .v (.int .i64 x.f8), .v (.bool x.f9), .v (.int .i64 x.f10), .v (.int .i64 x.f11)]
 | 1 => fun x => [.v (.int .i64 x.f0), .v (.int .i64 x.f1), .ro 2 x.f2]
 | 2 => fun x => [.v (.int .u8 x)]
 | 3 => fun x => [.v (.int .i64 x)]
 | 4 => fun x => [.v (.int .u32 x.f0), .v (.int .i64 x.f1), .v (.int .i64 x.f2)]
 | 5 => fun x => [.v (.string x)]
 | 6 => fun x => [.v (.int .i64 x.f0), .v (.int .i64 x.f1), .v (.int .i64 x.f2), .v (.int .i64 x.f3), .v (.int .i64 x.f4), .v (.int .i64 x.f5), .v (.int .i64 x.f6), .v (.int .i64 x.f7), .v (.int .i64 x.f8), .v (.int .i64 x.f9)]
 | 7 => fun x => [.v (.int .i64 x.f0), .v (.int .i64 x.f1), .v (.int .i64 x.f2), .v (.int .i64 x.f3), .v (.int .i64 x.f4), .v (.int .i64 x.f5), .v (.int .i64 x.f6), .v (.int .i64 x.f7), .v (.int .i64 x.f8), .v (.int .i64 x.f9)]
 | 8 => fun x => [.v (.int .i64 x.f0), .v (.int .i64 x.f1), .v (.int .i64 x.f2), .v (.int .i64 x.f3)]
 | _ + 9 => fun _ => []
def z : (c : Nat) → D c
 | 0 => (z_S112 : S112)
 | 1 => (z_S115 : S115)
 | 2 => (0 : Int)
 | 3 => (0 : Int)
 | 4 => (z_S117 : S117)
 | 5 => (⟨#[]⟩ : ByteArray)
 | 6 => (z_S55 : S55)
 | 7 => (z_S50 : S50)
 | 8 => (z_S40 : S40)
 | _ + 9 => ()
def sz : Nat → Nat
 | 0 => 12
 | 1 => 3
 | 2 => 1
 | 3 => 1
 | 4 => 3
 | 5 => 1
 | 6 => 10
 | 7 => 10
 | 8 => 4
 | _ + 9 => 0
theorem len_ : ∀ (c : Nat) (x : D c), (enc c x).length = sz c
 | 0, x => by rfl
 | 1, x => by rfl
 | 2, x => by rfl
 | 3, x => by rfl
 | 4, x => by rfl
 | 5, x => by rfl
 | 6, x => by rfl
 | 7, x => by rfl
 | 8, x => by rfl
 | _ + 9, x => by rfl
theorem free_ : ∀ (c : Nat) (x : D c), (enc c x).all lfFree = true
 | 0, x => by rfl
 | 1, x => by rfl
 | 2, x => by rfl
 | 3, x => by rfl
 | 4, x => by rfl
 | 5, x => by rfl
 | 6, x => by rfl
 | 7, x => by rfl
 | 8, x => by rfl
 | _ + 9, x => by rfl
def R : Ro := ⟨D, enc, fun _ _ => none, z, sz, len_, free_⟩
def codes : TypeId → Option (RoT R) := codeOf [(112, ⟨0, ((.cons (dInt .i64) (.cons (dInt .u32) (.cons (dInt .i64) (.cons (dInt .i64) (.cons (dInt .i64) (.cons dBool (.cons dBool (.cons dBool (.cons (dInt .i64) (.cons dBool (.cons (dInt .i64) (.last (dInt .i64) .nil)))))))))))) : DL R (Int × Int × Int × Int × Int × Bool × Bool × Bool × Int × Bool × Int × Int)).to (fun y => (⟨y.1, y.2.1, y.2.2.1, y.2.2.2.1, y.2.2.2.2.1, y.2.2.2.2.2.1, y.2.2.2.2.2.2.1, y.2.2.2.2.2.2.2.1, y.2.2.2.2.2.2.2.2.1, y.2.2.2.2.2.2.2.2.2.1, y.2.2.2.2.2.2.2.2.2.2.1, y.2.2.2.2.2.2.2.2.2.2.2⟩ : S112)) (fun x => (x.f0, x.f1, x.f2, x.f3, x.f4, x.f5, x.f6, x.f7, x.f8, x.f9, x.f10, x.f11)) (fun _ => rfl), fun _ => rfl⟩),
 (115, ⟨1, ((.cons (dInt .i64) (.cons (dInt .i64) (.last (dRo 2) .nil))) : DL R (Int × Int × (List Int))).to (fun y => (⟨y.1, y.2.1, y.2.2⟩ : S115)) (fun x => (x.f0, x.f1, x.f2)) (fun _ => rfl), fun _ => rfl⟩),
 (5, ⟨2, ((.last (dInt .u8) .nil) : DL R (Int)), fun _ => rfl⟩),
 (3, ⟨3, ((.last (dInt .i64) .nil) : DL R (Int)), fun _ => rfl⟩),
 (117, ⟨4, ((.cons (dInt .u32) (.cons (dInt .i64) (.last (dInt .i64) .nil))) : DL R (Int × Int × Int)).to (fun y => (⟨y.1, y.2.1, y.2.2⟩ : S117)) (fun x => (x.f0, x.f1, x.f2)) (fun _ => rfl), fun _ => rfl⟩),
 (9, ⟨5, ((.last dStr .nil) : DL R (ByteArray)), fun _ => rfl⟩),
 (55, ⟨6, ((.cons (dInt .i64) (.cons (dInt .i64) (.cons (dInt .i64) (.cons (dInt .i64) (.cons (dInt .i64) (.cons (dInt .i64) (.cons (dInt .i64) (.cons (dInt .i64) (.cons (dInt .i64) (.last (dInt .i64) .nil)))))))))) : DL R (Int × Int × Int × Int × Int × Int × Int × Int × Int × Int)).to (fun y => (⟨y.1, y.2.1, y.2.2.1, y.2.2.2.1, y.2.2.2.2.1, y.2.2.2.2.2.1, y.2.2.2.2.2.2.1, y.2.2.2.2.2.2.2.1, y.2.2.2.2.2.2.2.2.1, y.2.2.2.2.2.2.2.2.2⟩ : S55)) (fun x => (x.f0, x.f1, x.f2, x.f3, x.f4, x.f5, x.f6, x.f7, x.f8, x.f9)) (fun _ => rfl), fun _ => rfl⟩),
 (50, ⟨7, ((.cons (dInt .i64) (.cons (dInt .i64) (.cons (dInt .i64) (.cons (dInt .i64) (.cons (dInt .i64) (.cons (dInt .i64) (.cons (dInt .i64) (.cons (dInt .i64) (.cons (dInt .i64) (.last (dInt .i64) .nil)))))))))) : DL R (Int × Int × Int × Int × Int × Int × Int × Int × Int × Int)).to (fun y => (⟨y.1, y.2.1, y.2.2.1, y.2.2.2.1, y.2.2.2.2.1, y.2.2.2.2.2.1, y.2.2.2.2.2.2.1, y.2.2.2.2.2.2.2.1, y.2.2.2.2.2.2.2.2.1, y.2.2.2.2.2.2.2.2.2⟩ : S50)) (fun x => (x.f0, x.f1, x.f2, x.f3, x.f4, x.f5, x.f6, x.f7, x.f8, x.f9)) (fun _ => rfl), fun _ => rfl⟩),
 (40, ⟨8, ((.cons (dInt .i64) (.cons (dInt .i64) (.cons (dInt .i64) (.last (dInt .i64) .nil)))) : DL R (Int × Int × Int × Int)).to (fun y => (⟨y.1, y.2.1, y.2.2.1, y.2.2.2⟩ : S40)) (fun x => (x.f0, x.f1, x.f2, x.f3)) (fun _ => rfl), fun _ => rfl⟩)]
def rts : Nat → Option (RoT R) := codeOf [(0, ⟨0, ((.cons (dInt .i64) (.cons (dInt .u32) (.cons (dInt .i64) (.cons (dInt .i64) (.cons (dInt .i64) (.cons dBool (.cons dBool (.cons dBool (.cons (dInt .i64) (.cons dBool (.cons (dInt .i64) (.last (dInt .i64) .nil)))))))))))) : DL R (Int × Int × Int × Int × Int × Bool × Bool × Bool × Int × Bool × Int × Int)).to (fun y => (⟨y.1, y.2.1, y.2.2.1, y.2.2.2.1, y.2.2.2.2.1, y.2.2.2.2.2.1, y.2.2.2.2.2.2.1, y.2.2.2.2.2.2.2.1, y.2.2.2.2.2.2.2.2.1, y.2.2.2.2.2.2.2.2.2.1, y.2.2.2.2.2.2.2.2.2.2.1, y.2.2.2.2.2.2.2.2.2.2.2⟩ : S112)) (fun x => (x.f0, x.f1, x.f2, x.f3, x.f4, x.f5, x.f6, x.f7, x.f8, x.f9, x.f10, x.f11)) (fun _ => rfl), fun _ => rfl⟩),
 (1, ⟨1, ((.cons (dInt .i64) (.cons (dInt .i64) (.last (dRo 2) .nil))) : DL R (Int × Int × (List Int))).to (fun y => (⟨y.1, y.2.1, y.2.2⟩ : S115)) (fun x => (x.f0, x.f1, x.f2)) (fun _ => rfl), fun _ => rfl⟩),
 (2, ⟨2, ((.last (dInt .u8) .nil) : DL R (Int)), fun _ => rfl⟩),
 (3, ⟨3, ((.last (dInt .i64) .nil) : DL R (Int)), fun _ => rfl⟩),
 (4, ⟨4, ((.cons (dInt .u32) (.cons (dInt .i64) (.last (dInt .i64) .nil))) : DL R (Int × Int × Int)).to (fun y => (⟨y.1, y.2.1, y.2.2⟩ : S117)) (fun x => (x.f0, x.f1, x.f2)) (fun _ => rfl), fun _ => rfl⟩),
 (5, ⟨5, ((.last dStr .nil) : DL R (ByteArray)), fun _ => rfl⟩),
 (6, ⟨6, ((.cons (dInt .i64) (.cons (dInt .i64) (.cons (dInt .i64) (.cons (dInt .i64) (.cons (dInt .i64) (.cons (dInt .i64) (.cons (dInt .i64) (.cons (dInt .i64) (.cons (dInt .i64) (.last (dInt .i64) .nil)))))))))) : DL R (Int × Int × Int × Int × Int × Int × Int × Int × Int × Int)).to (fun y => (⟨y.1, y.2.1, y.2.2.1, y.2.2.2.1, y.2.2.2.2.1, y.2.2.2.2.2.1, y.2.2.2.2.2.2.1, y.2.2.2.2.2.2.2.1, y.2.2.2.2.2.2.2.2.1, y.2.2.2.2.2.2.2.2.2⟩ : S55)) (fun x => (x.f0, x.f1, x.f2, x.f3, x.f4, x.f5, x.f6, x.f7, x.f8, x.f9)) (fun _ => rfl), fun _ => rfl⟩),
 (7, ⟨7, ((.cons (dInt .i64) (.cons (dInt .i64) (.cons (dInt .i64) (.cons (dInt .i64) (.cons (dInt .i64) (.cons (dInt .i64) (.cons (dInt .i64) (.cons (dInt .i64) (.cons (dInt .i64) (.last (dInt .i64) .nil)))))))))) : DL R (Int × Int × Int × Int × Int × Int × Int × Int × Int × Int)).to (fun y => (⟨y.1, y.2.1, y.2.2.1, y.2.2.2.1, y.2.2.2.2.1, y.2.2.2.2.2.1, y.2.2.2.2.2.2.1, y.2.2.2.2.2.2.2.1, y.2.2.2.2.2.2.2.2.1, y.2.2.2.2.2.2.2.2.2⟩ : S50)) (fun x => (x.f0, x.f1, x.f2, x.f3, x.f4, x.f5, x.f6, x.f7, x.f8, x.f9)) (fun _ => rfl), fun _ => rfl⟩),
 (8, ⟨8, ((.cons (dInt .i64) (.cons (dInt .i64) (.cons (dInt .i64) (.last (dInt .i64) .nil)))) : DL R (Int × Int × Int × Int)).to (fun y => (⟨y.1, y.2.1, y.2.2.1, y.2.2.2⟩ : S40)) (fun x => (x.f0, x.f1, x.f2, x.f3)) (fun _ => rfl), fun _ => rfl⟩)]
def owns : TypeId → List (Nat × Nat × TypeId) := ownOf [(78, [(0, 3, 3)])]
def tabL : List (Nat × TI) := [(2, ⟨1, 13, [(.int .i64 0)], [], 0, false, 0, 0, 8⟩),
 (3, ⟨1, 13, [(.int .i64 0)], [], 0, false, 0, 0, 8⟩),
 (4, ⟨1, 4, [(.bool false)], [], 0, false, 0, 0, 1⟩),
 (24, ⟨1, 3, [(.slice none 0 0)], [], 1, false, 0, 3, 24⟩),
 (27, ⟨1, 13, [(.int .i64 0)], [], 0, false, 0, 0, 8⟩),
 (29, ⟨15, 1, [(.slice none 0 0), (.slice none 0 0), (.slice none 0 0), (.int .i64 0), (.slice none 0 0), (.string ⟨#[]⟩), (.slice none 0 0), (.int .i64 0), (.bool false), (.bool false), (.int .i64 0), (.int .i64 0), (.int .i64 0), (.int .i64 0), (.int .i64 0)], [(0, 1, false), (1, 1, false), (2, 1, false), (3, 1, false), (4, 1, false), (5, 1, false), (6, 1, false), (7, 1, false), (8, 1, false), (9, 1, false), (10, 1, false), (11, 1, false), (12, 1, false), (13, 1, false), (14, 1, false)], 0, false, 0, 0, 200⟩),
 (30, ⟨1, 13, [(.int .i64 0)], [], 0, false, 0, 0, 8⟩),
 (32, ⟨1, 5, [(.pointer none)], [], 0, false, 0, 0, 8⟩),
 (38, ⟨1, 3, [(.slice none 0 0)], [], 4, true, 0, 40, 24⟩),
 (40, ⟨4, 1, [(.int .i64 0), (.int .i64 0), (.int .i64 0), (.int .i64 0)], [(0, 1, false), (1, 1, false), (2, 1, false), (3, 1, false)], 0, false, 0, 0, 32⟩),
 (45, ⟨1, 15, [(.int .u16 0)], [], 0, false, 0, 0, 2⟩),
 (50, ⟨10, 1, [(.int .i64 0), (.int .i64 0), (.int .i64 0), (.int .i64 0), (.int .i64 0), (.int .i64 0), (.int .i64 0), (.int .i64 0), (.int .i64 0), (.int .i64 0)], [(0, 1, false), (1, 1, false), (2, 1, false), (3, 1, false), (4, 1, false), (5, 1, false), (6, 1, false), (7, 1, false), (8, 1, false), (9, 1, false)], 0, false, 0, 0, 80⟩),
 (55, ⟨10, 1, [(.int .i64 0), (.int .i64 0), (.int .i64 0), (.int .i64 0), (.int .i64 0), (.int .i64 0), (.int .i64 0), (.int .i64 0), (.int .i64 0), (.int .i64 0)], [(0, 1, false), (1, 1, false), (2, 1, false), (3, 1, false), (4, 1, false), (5, 1, false), (6, 1, false), (7, 1, false), (8, 1, false), (9, 1, false)], 0, false, 0, 0, 80⟩),
 (66, ⟨1, 17, [(.int .u64 0)], [], 0, false, 0, 0, 8⟩),
 (70, ⟨3, 1, [(.int .u64 0), (.int .u64 0), (.bool false)], [(0, 1, false), (1, 1, false), (2, 1, false)], 0, false, 0, 0, 24⟩),
 (75, ⟨1, 17, [(.int .u64 0)], [], 0, false, 0, 0, 8⟩),
 (78, ⟨2, 1, [(.slice none 0 0), (.bool false)], [(0, 1, false), (1, 1, false)], 0, false, 0, 0, 32⟩)]
theorem tabs : TabOk Try.prog (tabOf tabL) := tabOf_ok _ _ (by kernel_rfl)
def flats : Nat → Bool
 | 0 => true
 | 1 => false
 | 2 => true
 | 3 => true
 | 4 => true
 | 5 => true
 | 6 => true
 | 7 => true
 | 8 => true
 | _ + 9 => false
theorem flats_ : ∀ (c : Nat), flats c = true → ∀ x, (R.enc c x).all noRo = true
 | 0, _, x => by rfl
 | 1, h, x => by cases h
 | 2, _, x => by rfl
 | 3, _, x => by rfl
 | 4, _, x => by rfl
 | 5, _, x => by rfl
 | 6, _, x => by rfl
 | 7, _, x => by rfl
 | 8, _, x => by rfl
 | _ + 9, h, x => by cases h
def eqs : List (Nat × List Nat) := []
theorem eqs_ : EqOk Try.prog (eqtOf eqs) := eqtOf_ok _ (by kernel_rfl)
theorem mixed : Try.prog.follows .mixedOrders = true := by kernel_rfl
def fixed_size.F : FnS R (Int) (Int × Bool) := ⟨[.lf], [], (.last (dInt .i64) .nil), .tup [none, none], [], (.cons (dInt .u64) (.last dBool .nil))⟩
def fixed_size.p (k : Nat) (y : Int) : Option (Int × Bool) := fixed_size.f y
def fixed_size.E (k : Nat) : Env R := ⟨tabOf tabL, ctOf [], mtNone, fun _ => false, codes, rts, 11, fun _ => [], owns, [], eqtOf eqs, fun _ => false, flats⟩
def fixed_size.cs : List (CutS R (Int × Bool)) := []
theorem fixed_size.hE (k : Nat) : EnvOk Try.prog (fixed_size.E k) := ⟨tabs, ctOf_ok all_nil, mtNone_ok, mixed, eqs_, flats_⟩
theorem fixed_size.q (k : Nat) (y : Int) : fixed_size.p k y = fixed_size.F.run fixed_size.E Try.f41.results.toList (bodyOf Try.f41) fixed_size.cs k y := by kernel_rfl
theorem fixed_size.ok (k : Nat) : CsemOk R Try.prog 41 (fixed_size.F.sem (fixed_size.p k)) := fn_ok (F := fixed_size.F) (f := fixed_size.p) (E := fixed_size.E) fixed_size.hE (fun _ => rfl) Try.func41 (body := (bodyOf Try.f41)) rfl (by kernel_rfl) rfl (by decide) (by kernel_rfl) (cuts := fixed_size.cs) all_nil fixed_size.q k
def fixed_whole_cut.F : FnS R (Int × Int × Bool × Int) (Int) := ⟨[.agg 3, .lf], [], (.cons (dInt .u64) (.cons (dInt .u64) (.cons dBool (.last (dInt .i64) .nil)))), .lf, [], (.last (dInt .i64) .nil)⟩
def fixed_whole_cut.p (k : Nat) (y : Int × Int × Bool × Int) : Option (Int) := fixed_whole_cut.f y.1 y.2.1 y.2.2.1 y.2.2.2
def fixed_whole_cut.E (k : Nat) : Env R := ⟨tabOf tabL, ctOf [], mtNone, fun _ => false, codes, rts, 25, fun _ => [], owns, [], eqtOf eqs, fun _ => false, flats⟩
def fixed_whole_cut.cs : List (CutS R (Int)) := []
theorem fixed_whole_cut.hE (k : Nat) : EnvOk Try.prog (fixed_whole_cut.E k) := ⟨tabs, ctOf_ok all_nil, mtNone_ok, mixed, eqs_, flats_⟩
theorem fixed_whole_cut.q (k : Nat) (y : Int × Int × Bool × Int) : fixed_whole_cut.p k y = fixed_whole_cut.F.run fixed_whole_cut.E Try.f42.results.toList (bodyOf Try.f42) fixed_whole_cut.cs k y := by kernel_rfl
theorem fixed_whole_cut.ok (k : Nat) : CsemOk R Try.prog 42 (fixed_whole_cut.F.sem (fixed_whole_cut.p k)) := fn_ok (F := fixed_whole_cut.F) (f := fixed_whole_cut.p) (E := fixed_whole_cut.E) fixed_whole_cut.hE (fun _ => rfl) Try.func42 (body := (bodyOf Try.f42)) rfl (by kernel_rfl) rfl (by decide) (by kernel_rfl) (cuts := fixed_whole_cut.cs) all_nil fixed_whole_cut.q k
def fixed_Cut.F : FnS R (Int) (Int) := ⟨[.lf], [], (.last (dInt .i64) .nil), .lf, [], (.last (dInt .i64) .nil)⟩
def fixed_Cut.p (k : Nat) (y : Int) : Option (Int) := fixed_Cut.f y
def fixed_Cut.E (k : Nat) : Env R := ⟨tabOf tabL, ctOf [(41, (fixed_size.F.sem (fixed_size.p k))), (42, (fixed_whole_cut.F.sem (fixed_whole_cut.p k)))], mtNone, fun _ => false, codes, rts, 14, fun _ => [], owns, [], eqtOf eqs, fun _ => false, flats⟩
def fixed_Cut.cs : List (CutS R (Int)) := []
theorem fixed_Cut.hE (k : Nat) : EnvOk Try.prog (fixed_Cut.E k) := ⟨tabs, ctOf_ok (all_cons (fixed_size.ok k) (all_cons (fixed_whole_cut.ok k) all_nil)), mtNone_ok, mixed, eqs_, flats_⟩
theorem fixed_Cut.q (k : Nat) (y : Int) : fixed_Cut.p k y = fixed_Cut.F.run fixed_Cut.E Try.f21.results.toList (bodyOf Try.f21) fixed_Cut.cs k y := by kernel_rfl
theorem fixed_Cut.ok (k : Nat) : CsemOk R Try.prog 21 (fixed_Cut.F.sem (fixed_Cut.p k)) := fn_ok (F := fixed_Cut.F) (f := fixed_Cut.p) (E := fixed_Cut.E) fixed_Cut.hE (fun _ => rfl) Try.func21 (body := (bodyOf Try.f21)) rfl (by kernel_rfl) rfl (by decide) (by kernel_rfl) (cuts := fixed_Cut.cs) all_nil fixed_Cut.q k
def loop_New.F : FnS R ((List S112) × (List S115) × (List Int) × Int × (List S117) × ByteArray × (List ByteArray) × Int × Bool × Bool × Int × Int × Int × Int × Int × Int × Bool) (Int × Int × Int × Int × Int × Int × Int × Int × Int × Int) := ⟨[.agg 15, .lf, .lf], [], (.cons (dRo 0) (.cons (dRo 1) (.cons (dRo 3) (.cons (dInt .i64) (.cons (dRo 4) (.cons dStr (.cons (dRo 5) (.cons (dInt .i64) (.cons dBool (.cons dBool (.cons (dInt .i64) (.cons (dInt .i64) (.cons (dInt .i64) (.cons (dInt .i64) (.cons (dInt .i64) (.cons (dInt .i64) (.last dBool .nil))))))))))))))))), .lf, [.blk 10 55], (.ptr 0 0 (.cons (dInt .i64) (.cons (dInt .i64) (.cons (dInt .i64) (.cons (dInt .i64) (.cons (dInt .i64) (.cons (dInt .i64) (.cons (dInt .i64) (.cons (dInt .i64) (.cons (dInt .i64) (.last (dInt .i64) .nil)))))))))))⟩
def loop_New.p (k : Nat) (y : (List S112) × (List S115) × (List Int) × Int × (List S117) × ByteArray × (List ByteArray) × Int × Bool × Bool × Int × Int × Int × Int × Int × Int × Bool) : Option (Int × Int × Int × Int × Int × Int × Int × Int × Int × Int) := loop_New.f y.1 y.2.1 y.2.2.1 y.2.2.2.1 y.2.2.2.2.1 y.2.2.2.2.2.1 y.2.2.2.2.2.2.1 y.2.2.2.2.2.2.2.1 y.2.2.2.2.2.2.2.2.1 y.2.2.2.2.2.2.2.2.2.1 y.2.2.2.2.2.2.2.2.2.2.1 y.2.2.2.2.2.2.2.2.2.2.2.1 y.2.2.2.2.2.2.2.2.2.2.2.2.1 y.2.2.2.2.2.2.2.2.2.2.2.2.2.1 y.2.2.2.2.2.2.2.2.2.2.2.2.2.2.1 y.2.2.2.2.2.2.2.2.2.2.2.2.2.2.2.1 y.2.2.2.2.2.2.2.2.2.2.2.2.2.2.2.2
def loop_New.E (k : Nat) : Env R := ⟨tabOf tabL, ctOf [(21, (fixed_Cut.F.sem (fixed_Cut.p k)))], mtNone, fun _ => false, codes, rts, 32, fun _ => [], owns, [], eqtOf eqs, fun _ => false, flats⟩
def loop_New.cs : List (CutS R (Int × Int × Int × Int × Int × Int × Int × Int × Int × Int)) := []
theorem loop_New.hE (k : Nat) : EnvOk Try.prog (loop_New.E k) := ⟨tabs, ctOf_ok (all_cons (fixed_Cut.ok k) all_nil), mtNone_ok, mixed, eqs_, flats_⟩
theorem loop_New.q (k : Nat) (y : (List S112) × (List S115) × (List Int) × Int × (List S117) × ByteArray × (List ByteArray) × Int × Bool × Bool × Int × Int × Int × Int × Int × Int × Bool) : loop_New.p k y = loop_New.F.run loop_New.E Try.f9.results.toList (bodyOf Try.f9) loop_New.cs k y := by kernel_rfl
theorem loop_New.ok (k : Nat) : CsemOk R Try.prog 9 (loop_New.F.sem (loop_New.p k)) := fn_ok (F := loop_New.F) (f := loop_New.p) (E := loop_New.E) loop_New.hE (fun _ => rfl) Try.func9 (body := (bodyOf Try.f9)) rfl (by kernel_rfl) rfl (by decide) (by kernel_rfl) (cuts := loop_New.cs) all_nil loop_New.q k
def bits_Add64.F : FnS R (Int × Int × Int) (Int × Int) := ⟨[.lf, .lf, .lf], [], (.cons (dInt .u64) (.cons (dInt .u64) (.last (dInt .u64) .nil))), .tup [none, none], [], (.cons (dInt .u64) (.last (dInt .u64) .nil))⟩
def bits_Add64.p (k : Nat) (y : Int × Int × Int) : Option (Int × Int) := bits_Add64.f y.1 y.2.1 y.2.2
theorem bits_Add64.ok (k : Nat) : CsemOk R Try.prog 62 (bits_Add64.F.sem (bits_Add64.p k)) := sem_ok fun y r h ρ w us hrel hargs => by
 obtain ⟨a0, a1, a2⟩ := y
 change All2 (IsT R ρ w) [.lf (.v (.int .u64 a0)), .lf (.v (.int .u64 a1)), .lf (.v (.int .u64 a2))] us at hargs
 obtain ⟨u0, _, rfl, h0, g1⟩ := all2_cons hargs
 obtain ⟨u1, _, rfl, h1, g2⟩ := all2_cons g1
 obtain ⟨u2, _, rfl, h2, g3⟩ := all2_cons g2
 clear hargs g1 g2
 cases g3
 obtain ⟨rfl, b0⟩ := is_v h0
 obtain ⟨rfl, b1⟩ := is_v h1
 obtain ⟨rfl, b2⟩ := is_v h2
 have b0 := u64_le b0
 have b1 := u64_le b1
 change bits_Add64.f a0 a1 a2 = some r at h
 unfold bits_Add64.f at h
 split at h
 · rename_i hb
   obtain ⟨h0, h1, h2, h3⟩ := hb
   injection h with h
   subst h
   refine .inr ⟨.tuple #[.int .u64 ((a0 + a1 + a2) % 18446744073709551616), .int .u64 ((a0 + a1 + a2) / 18446744073709551616)], w, ?_, ?_⟩
   · rw [run_callFunc_extern Try.func62 (by kernel_rfl) rfl rfl (e := add64Entry) rfl, run_add64 a0 a1 a2 h0 h1 h2 h3 w]
     rfl
   · refine post_still hrel ?_
     exact ⟨[_, _], rfl, .cons (Is.v _ (u64_ok (Int.emod_nonneg _ (by omega)) (by omega))) (.cons (Is.v _ (u64_ok (by omega) (by omega))) .nil)⟩
 · cases h
def fixed_sum.F : FnS R (Int × Int) (Int × Int × Bool) := ⟨[.lf, .lf], [], (.cons (dInt .i64) (.last (dInt .i64) .nil)), .agg 3, [], (.cons (dInt .u64) (.cons (dInt .u64) (.last dBool .nil)))⟩
def fixed_sum.p (k : Nat) (y : Int × Int) : Option (Int × Int × Bool) := fixed_sum.f y.1 y.2
def fixed_sum.E (k : Nat) : Env R := ⟨tabOf tabL, ctOf [(62, (bits_Add64.F.sem (bits_Add64.p k)))], mtNone, fun _ => false, codes, rts, 43, fun _ => [], owns, [], eqtOf eqs, fun _ => false, flats⟩
def fixed_sum.cs : List (CutS R (Int × Int × Bool)) := []
theorem fixed_sum.hE (k : Nat) : EnvOk Try.prog (fixed_sum.E k) := ⟨tabs, ctOf_ok (all_cons (bits_Add64.ok k) all_nil), mtNone_ok, mixed, eqs_, flats_⟩
theorem fixed_sum.q (k : Nat) (y : Int × Int) : fixed_sum.p k y = fixed_sum.F.run fixed_sum.E Try.f43.results.toList (bodyOf Try.f43) fixed_sum.cs k y := by kernel_rfl
theorem fixed_sum.ok (k : Nat) : CsemOk R Try.prog 43 (fixed_sum.F.sem (fixed_sum.p k)) := fn_ok (F := fixed_sum.F) (f := fixed_sum.p) (E := fixed_sum.E) fixed_sum.hE (fun _ => rfl) Try.func43 (body := (bodyOf Try.f43)) rfl (by kernel_rfl) rfl (by decide) (by kernel_rfl) (cuts := fixed_sum.cs) all_nil fixed_sum.q k
def fixed_whole_span.F : FnS R (Int × Int × Bool) (Int) := ⟨[.agg 3], [], (.cons (dInt .u64) (.cons (dInt .u64) (.last dBool .nil))), .lf, [], (.last (dInt .i64) .nil)⟩
def fixed_whole_span.p (k : Nat) (y : Int × Int × Bool) : Option (Int) := fixed_whole_span.f y.1 y.2.1 y.2.2
def fixed_whole_span.E (k : Nat) : Env R := ⟨tabOf tabL, ctOf [(42, (fixed_whole_cut.F.sem (fixed_whole_cut.p k)))], mtNone, fun _ => false, codes, rts, 5, fun _ => [], owns, [], eqtOf eqs, fun _ => false, flats⟩
def fixed_whole_span.cs : List (CutS R (Int)) := []
theorem fixed_whole_span.hE (k : Nat) : EnvOk Try.prog (fixed_whole_span.E k) := ⟨tabs, ctOf_ok (all_cons (fixed_whole_cut.ok k) all_nil), mtNone_ok, mixed, eqs_, flats_⟩
theorem fixed_whole_span.q (k : Nat) (y : Int × Int × Bool) : fixed_whole_span.p k y = fixed_whole_span.F.run fixed_whole_span.E Try.f44.results.toList (bodyOf Try.f44) fixed_whole_span.cs k y := by kernel_rfl
theorem fixed_whole_span.ok (k : Nat) : CsemOk R Try.prog 44 (fixed_whole_span.F.sem (fixed_whole_span.p k)) := fn_ok (F := fixed_whole_span.F) (f := fixed_whole_span.p) (E := fixed_whole_span.E) fixed_whole_span.hE (fun _ => rfl) Try.func44 (body := (bodyOf Try.f44)) rfl (by kernel_rfl) rfl (by decide) (by kernel_rfl) (cuts := fixed_whole_span.cs) all_nil fixed_whole_span.q k
def fixed_Add.F : FnS R (Int × Int) (Int) := ⟨[.lf, .lf], [], (.cons (dInt .i64) (.last (dInt .i64) .nil)), .lf, [], (.last (dInt .i64) .nil)⟩
def fixed_Add.p (k : Nat) (y : Int × Int) : Option (Int) := fixed_Add.f y.1 y.2
def fixed_Add.E (k : Nat) : Env R := ⟨tabOf tabL, ctOf [(43, (fixed_sum.F.sem (fixed_sum.p k))), (44, (fixed_whole_span.F.sem (fixed_whole_span.p k)))], mtNone, fun _ => false, codes, rts, 9, fun _ => [], owns, [], eqtOf eqs, fun _ => false, flats⟩
def fixed_Add.cs : List (CutS R (Int)) := []
theorem fixed_Add.hE (k : Nat) : EnvOk Try.prog (fixed_Add.E k) := ⟨tabs, ctOf_ok (all_cons (fixed_sum.ok k) (all_cons (fixed_whole_span.ok k) all_nil)), mtNone_ok, mixed, eqs_, flats_⟩
theorem fixed_Add.q (k : Nat) (y : Int × Int) : fixed_Add.p k y = fixed_Add.F.run fixed_Add.E Try.f22.results.toList (bodyOf Try.f22) fixed_Add.cs k y := by kernel_rfl
theorem fixed_Add.ok (k : Nat) : CsemOk R Try.prog 22 (fixed_Add.F.sem (fixed_Add.p k)) := fn_ok (F := fixed_Add.F) (f := fixed_Add.p) (E := fixed_Add.E) fixed_Add.hE (fun _ => rfl) Try.func22 (body := (bodyOf Try.f22)) rfl (by kernel_rfl) rfl (by decide) (by kernel_rfl) (cuts := fixed_Add.cs) all_nil fixed_Add.q k
def fixed_Abs.F : FnS R (Int) (Int) := ⟨[.lf], [], (.last (dInt .i64) .nil), .lf, [], (.last (dInt .i64) .nil)⟩
def fixed_Abs.p (k : Nat) (y : Int) : Option (Int) := fixed_Abs.f y
def fixed_Abs.E (k : Nat) : Env R := ⟨tabOf tabL, ctOf [(41, (fixed_size.F.sem (fixed_size.p k))), (44, (fixed_whole_span.F.sem (fixed_whole_span.p k)))], mtNone, fun _ => false, codes, rts, 13, fun _ => [], owns, [], eqtOf eqs, fun _ => false, flats⟩
def fixed_Abs.cs : List (CutS R (Int)) := []
theorem fixed_Abs.hE (k : Nat) : EnvOk Try.prog (fixed_Abs.E k) := ⟨tabs, ctOf_ok (all_cons (fixed_size.ok k) (all_cons (fixed_whole_span.ok k) all_nil)), mtNone_ok, mixed, eqs_, flats_⟩
theorem fixed_Abs.q (k : Nat) (y : Int) : fixed_Abs.p k y = fixed_Abs.F.run fixed_Abs.E Try.f23.results.toList (bodyOf Try.f23) fixed_Abs.cs k y := by kernel_rfl
theorem fixed_Abs.ok (k : Nat) : CsemOk R Try.prog 23 (fixed_Abs.F.sem (fixed_Abs.p k)) := fn_ok (F := fixed_Abs.F) (f := fixed_Abs.p) (E := fixed_Abs.E) fixed_Abs.hE (fun _ => rfl) Try.func23 (body := (bodyOf Try.f23)) rfl (by kernel_rfl) rfl (by decide) (by kernel_rfl) (cuts := fixed_Abs.cs) all_nil fixed_Abs.q k
def bits_Mul64.F : FnS R (Int × Int) (Int × Int) := ⟨[.lf, .lf], [], (.cons (dInt .u64) (.last (dInt .u64) .nil)), .tup [none, none], [], (.cons (dInt .u64) (.last (dInt .u64) .nil))⟩
def bits_Mul64.p (k : Nat) (y : Int × Int) : Option (Int × Int) := bits_Mul64.f y.1 y.2
def bits_Mul64.E (k : Nat) : Env R := ⟨tabOf tabL, ctOf [], mtNone, fun _ => false, codes, rts, 51, fun _ => [], owns, [], eqtOf eqs, fun _ => false, flats⟩
def bits_Mul64.cs : List (CutS R (Int × Int)) := []
theorem bits_Mul64.hE (k : Nat) : EnvOk Try.prog (bits_Mul64.E k) := ⟨tabs, ctOf_ok all_nil, mtNone_ok, mixed, eqs_, flats_⟩
theorem bits_Mul64.q (k : Nat) (y : Int × Int) : bits_Mul64.p k y = bits_Mul64.F.run bits_Mul64.E Try.f63.results.toList (bodyOf Try.f63) bits_Mul64.cs k y := by kernel_rfl
theorem bits_Mul64.ok (k : Nat) : CsemOk R Try.prog 63 (bits_Mul64.F.sem (bits_Mul64.p k)) := fn_ok (F := bits_Mul64.F) (f := bits_Mul64.p) (E := bits_Mul64.E) bits_Mul64.hE (fun _ => rfl) Try.func63 (body := (bodyOf Try.f63)) rfl (by kernel_rfl) rfl (by decide) (by kernel_rfl) (cuts := bits_Mul64.cs) all_nil bits_Mul64.q k
def fixed_product.F : FnS R (Int × Int) (Int × Int × Bool) := ⟨[.lf, .lf], [], (.cons (dInt .i64) (.last (dInt .i64) .nil)), .agg 3, [], (.cons (dInt .u64) (.cons (dInt .u64) (.last dBool .nil)))⟩
def fixed_product.p (k : Nat) (y : Int × Int) : Option (Int × Int × Bool) := fixed_product.f y.1 y.2
def fixed_product.E (k : Nat) : Env R := ⟨tabOf tabL, ctOf [(41, (fixed_size.F.sem (fixed_size.p k))), (63, (bits_Mul64.F.sem (bits_Mul64.p k)))], mtNone, fun _ => false, codes, rts, 33, fun _ => [], owns, [], eqtOf eqs, fun _ => false, flats⟩
def fixed_product.cs : List (CutS R (Int × Int × Bool)) := []
theorem fixed_product.hE (k : Nat) : EnvOk Try.prog (fixed_product.E k) := ⟨tabs, ctOf_ok (all_cons (fixed_size.ok k) (all_cons (bits_Mul64.ok k) all_nil)), mtNone_ok, mixed, eqs_, flats_⟩
theorem fixed_product.q (k : Nat) (y : Int × Int) : fixed_product.p k y = fixed_product.F.run fixed_product.E Try.f45.results.toList (bodyOf Try.f45) fixed_product.cs k y := by kernel_rfl
theorem fixed_product.ok (k : Nat) : CsemOk R Try.prog 45 (fixed_product.F.sem (fixed_product.p k)) := fn_ok (F := fixed_product.F) (f := fixed_product.p) (E := fixed_product.E) fixed_product.hE (fun _ => rfl) Try.func45 (body := (bodyOf Try.f45)) rfl (by kernel_rfl) rfl (by decide) (by kernel_rfl) (cuts := fixed_product.cs) all_nil fixed_product.q k
def fixed_Clamp.F : FnS R (Int × Int) (Int) := ⟨[.lf, .lf], [], (.cons (dInt .i64) (.last (dInt .i64) .nil)), .lf, [], (.last (dInt .i64) .nil)⟩
def fixed_Clamp.p (k : Nat) (y : Int × Int) : Option (Int) := fixed_Clamp.f y.1 y.2
def fixed_Clamp.E (k : Nat) : Env R := ⟨tabOf tabL, ctOf [(22, (fixed_Add.F.sem (fixed_Add.p k)))], mtNone, fun _ => false, codes, rts, 14, fun _ => [], owns, [], eqtOf eqs, fun _ => false, flats⟩
def fixed_Clamp.cs : List (CutS R (Int)) := []
theorem fixed_Clamp.hE (k : Nat) : EnvOk Try.prog (fixed_Clamp.E k) := ⟨tabs, ctOf_ok (all_cons (fixed_Add.ok k) all_nil), mtNone_ok, mixed, eqs_, flats_⟩
theorem fixed_Clamp.q (k : Nat) (y : Int × Int) : fixed_Clamp.p k y = fixed_Clamp.F.run fixed_Clamp.E Try.f48.results.toList (bodyOf Try.f48) fixed_Clamp.cs k y := by kernel_rfl
theorem fixed_Clamp.ok (k : Nat) : CsemOk R Try.prog 48 (fixed_Clamp.F.sem (fixed_Clamp.p k)) := fn_ok (F := fixed_Clamp.F) (f := fixed_Clamp.p) (E := fixed_Clamp.E) fixed_Clamp.hE (fun _ => rfl) Try.func48 (body := (bodyOf Try.f48)) rfl (by kernel_rfl) rfl (by decide) (by kernel_rfl) (cuts := fixed_Clamp.cs) all_nil fixed_Clamp.q k
def fixed_Shift.F : FnS R (Int × Int) (Int) := ⟨[.lf, .lf], [], (.cons (dInt .i64) (.last (dInt .i64) .nil)), .lf, [], (.last (dInt .i64) .nil)⟩
def fixed_Shift.p (k : Nat) (y : Int × Int) : Option (Int) := fixed_Shift.f y.1 y.2
def fixed_Shift.E (k : Nat) : Env R := ⟨tabOf tabL, ctOf [(22, (fixed_Add.F.sem (fixed_Add.p k))), (45, (fixed_product.F.sem (fixed_product.p k))), (44, (fixed_whole_span.F.sem (fixed_whole_span.p k))), (48, (fixed_Clamp.F.sem (fixed_Clamp.p k)))], mtNone, fun _ => false, codes, rts, 28, fun _ => [], owns, [], eqtOf eqs, fun _ => false, flats⟩
def fixed_Shift.cs : List (CutS R (Int)) := []
theorem fixed_Shift.hE (k : Nat) : EnvOk Try.prog (fixed_Shift.E k) := ⟨tabs, ctOf_ok (all_cons (fixed_Add.ok k) (all_cons (fixed_product.ok k) (all_cons (fixed_whole_span.ok k) (all_cons (fixed_Clamp.ok k) all_nil)))), mtNone_ok, mixed, eqs_, flats_⟩
theorem fixed_Shift.q (k : Nat) (y : Int × Int) : fixed_Shift.p k y = fixed_Shift.F.run fixed_Shift.E Try.f30.results.toList (bodyOf Try.f30) fixed_Shift.cs k y := by kernel_rfl
theorem fixed_Shift.ok (k : Nat) : CsemOk R Try.prog 30 (fixed_Shift.F.sem (fixed_Shift.p k)) := fn_ok (F := fixed_Shift.F) (f := fixed_Shift.p) (E := fixed_Shift.E) fixed_Shift.hE (fun _ => rfl) Try.func30 (body := (bodyOf Try.f30)) rfl (by kernel_rfl) rfl (by decide) (by kernel_rfl) (cuts := fixed_Shift.cs) all_nil fixed_Shift.q k
def loop_Loop_tallied.F : FnS R (Bool × Int × Int × Int × Int × Int × Int × Int × Int × Int × Int) (Int × Int × Int × Int × Int × Int × Int × Int × Int × Int) := ⟨[.lf, .lf], [.blk 10 55], (.ptr 0 0 (.cons dBool (.cons (dInt .i64) (.cons (dInt .i64) (.cons (dInt .i64) (.cons (dInt .i64) (.cons (dInt .i64) (.cons (dInt .i64) (.cons (dInt .i64) (.cons (dInt .i64) (.cons (dInt .i64) (.last (dInt .i64) .nil)))))))))))), .tup [], [.blk 10 55], (.cons (dInt .i64) (.cons (dInt .i64) (.cons (dInt .i64) (.cons (dInt .i64) (.cons (dInt .i64) (.cons (dInt .i64) (.cons (dInt .i64) (.cons (dInt .i64) (.cons (dInt .i64) (.last (dInt .i64) .nil))))))))))⟩
def loop_Loop_tallied.p (k : Nat) (y : Bool × Int × Int × Int × Int × Int × Int × Int × Int × Int × Int) : Option (Int × Int × Int × Int × Int × Int × Int × Int × Int × Int) := loop_Loop_tallied.f k y.1 y.2.1 y.2.2.1 y.2.2.2.1 y.2.2.2.2.1 y.2.2.2.2.2.1 y.2.2.2.2.2.2.1 y.2.2.2.2.2.2.2.1 y.2.2.2.2.2.2.2.2.1 y.2.2.2.2.2.2.2.2.2.1 y.2.2.2.2.2.2.2.2.2.2
def loop_Loop_tallied.E (k : Nat) : Env R := ⟨tabOf tabL, ctOf [], mtNone, fun _ => false, codes, rts, 65, fun i => ordOf [(0, [(0, 0), (1, 0), (2, 0), (3, 0), (4, 0), (5, 0), (6, 0), (7, 0), (8, 0), (9, 0), (10, 0), (11, 0), (12, 2)]), (2, [(0, 0), (1, 0), (2, 0), (3, 0), (4, 0), (5, 0), (6, 0), (7, 0), (8, 0), (9, 0), (10, 0), (11, 0), (12, 2)])] i, owns, [], eqtOf eqs, fun _ => false, flats⟩
def loop_Loop_tallied.cj0 : CutS R (Int × Int × Int × Int × Int × Int × Int × Int × Int × Int) := ⟨6, [0], [], [.lf], [.blk 10 55], Int × Int × Int × Int × Int × Int × Int × Int × Int × Int, (.ptr 0 0 (.cons (dInt .i64) (.cons (dInt .i64) (.cons (dInt .i64) (.cons (dInt .i64) (.cons (dInt .i64) (.cons (dInt .i64) (.cons (dInt .i64) (.cons (dInt .i64) (.cons (dInt .i64) (.last (dInt .i64) .nil))))))))))), fun k z => loop_Loop_tallied.j0 k z.1 z.2.1 z.2.2.1 z.2.2.2.1 z.2.2.2.2.1 z.2.2.2.2.2.1 z.2.2.2.2.2.2.1 z.2.2.2.2.2.2.2.1 z.2.2.2.2.2.2.2.2.1 z.2.2.2.2.2.2.2.2.2⟩
def loop_Loop_tallied.cs : List (CutS R (Int × Int × Int × Int × Int × Int × Int × Int × Int × Int)) := [loop_Loop_tallied.cj0]
theorem loop_Loop_tallied.hE (k : Nat) : EnvOk Try.prog (loop_Loop_tallied.E k) := ⟨tabs, ctOf_ok all_nil, mtNone_ok, mixed, eqs_, flats_⟩
theorem loop_Loop_tallied.oj0 : (loop_Loop_tallied.cj0).Ok loop_Loop_tallied.E Try.f29.results.toList 1 (bodyOf Try.f29) loop_Loop_tallied.cs loop_Loop_tallied.F.ret := ⟨fun z => rfl, fun k z => by
 show loop_Loop_tallied.j0 (k + 1) z.1 z.2.1 z.2.2.1 z.2.2.2.1 z.2.2.2.2.1 z.2.2.2.2.2.1 z.2.2.2.2.2.2.1 z.2.2.2.2.2.2.2.1 z.2.2.2.2.2.2.2.2.1 z.2.2.2.2.2.2.2.2.2 = _
 rw [loop_Loop_tallied.j0]
 kernel_rfl⟩
theorem loop_Loop_tallied.q (k : Nat) (y : Bool × Int × Int × Int × Int × Int × Int × Int × Int × Int × Int) : loop_Loop_tallied.p k y = loop_Loop_tallied.F.run loop_Loop_tallied.E Try.f29.results.toList (bodyOf Try.f29) loop_Loop_tallied.cs k y := by kernel_rfl
theorem loop_Loop_tallied.ok (k : Nat) : CsemOk R Try.prog 29 (loop_Loop_tallied.F.sem (loop_Loop_tallied.p k)) := fn_ok (F := loop_Loop_tallied.F) (f := loop_Loop_tallied.p) (E := loop_Loop_tallied.E) loop_Loop_tallied.hE (fun _ => rfl) Try.func29 (body := (bodyOf Try.f29)) rfl (by kernel_rfl) rfl (by decide) (by kernel_rfl) (cuts := loop_Loop_tallied.cs) (all_cons loop_Loop_tallied.oj0 all_nil) loop_Loop_tallied.q k
def fixed_Sub.F : FnS R (Int × Int) (Int) := ⟨[.lf, .lf], [], (.cons (dInt .i64) (.last (dInt .i64) .nil)), .lf, [], (.last (dInt .i64) .nil)⟩
def fixed_Sub.p (k : Nat) (y : Int × Int) : Option (Int) := fixed_Sub.f y.1 y.2
def fixed_Sub.E (k : Nat) : Env R := ⟨tabOf tabL, ctOf [(22, (fixed_Add.F.sem (fixed_Add.p k)))], mtNone, fun _ => false, codes, rts, 14, fun _ => [], owns, [], eqtOf eqs, fun _ => false, flats⟩
def fixed_Sub.cs : List (CutS R (Int)) := []
theorem fixed_Sub.hE (k : Nat) : EnvOk Try.prog (fixed_Sub.E k) := ⟨tabs, ctOf_ok (all_cons (fixed_Add.ok k) all_nil), mtNone_ok, mixed, eqs_, flats_⟩
theorem fixed_Sub.q (k : Nat) (y : Int × Int) : fixed_Sub.p k y = fixed_Sub.F.run fixed_Sub.E Try.f26.results.toList (bodyOf Try.f26) fixed_Sub.cs k y := by kernel_rfl
theorem fixed_Sub.ok (k : Nat) : CsemOk R Try.prog 26 (fixed_Sub.F.sem (fixed_Sub.p k)) := fn_ok (F := fixed_Sub.F) (f := fixed_Sub.p) (E := fixed_Sub.E) fixed_Sub.hE (fun _ => rfl) Try.func26 (body := (bodyOf Try.f26)) rfl (by kernel_rfl) rfl (by decide) (by kernel_rfl) (cuts := fixed_Sub.cs) all_nil fixed_Sub.q k
def loop_seconds.F : FnS R (Int) (Int) := ⟨[.lf], [], (.last (dInt .i64) .nil), .lf, [], (.last (dInt .i64) .nil)⟩
def loop_seconds.p (k : Nat) (y : Int) : Option (Int) := loop_seconds.f y
def loop_seconds.E (k : Nat) : Env R := ⟨tabOf tabL, ctOf [(30, (fixed_Shift.F.sem (fixed_Shift.p k)))], mtNone, fun _ => false, codes, rts, 5, fun _ => [], owns, [], eqtOf eqs, fun _ => false, flats⟩
def loop_seconds.cs : List (CutS R (Int)) := []
theorem loop_seconds.hE (k : Nat) : EnvOk Try.prog (loop_seconds.E k) := ⟨tabs, ctOf_ok (all_cons (fixed_Shift.ok k) all_nil), mtNone_ok, mixed, eqs_, flats_⟩
theorem loop_seconds.q (k : Nat) (y : Int) : loop_seconds.p k y = loop_seconds.F.run loop_seconds.E Try.f27.results.toList (bodyOf Try.f27) loop_seconds.cs k y := by kernel_rfl
theorem loop_seconds.ok (k : Nat) : CsemOk R Try.prog 27 (loop_seconds.F.sem (loop_seconds.p k)) := fn_ok (F := loop_seconds.F) (f := loop_seconds.p) (E := loop_seconds.E) loop_seconds.hE (fun _ => rfl) Try.func27 (body := (bodyOf Try.f27)) rfl (by kernel_rfl) rfl (by decide) (by kernel_rfl) (cuts := loop_seconds.cs) all_nil loop_seconds.q k
def bits_Len64.F : FnS R (Int) (Int) := ⟨[.lf], [], (.last (dInt .u64) .nil), .lf, [], (.last (dInt .i64) .nil)⟩
def bits_Len64.p (k : Nat) (y : Int) : Option (Int) := bits_Len64.f y
theorem bits_Len64.tab (i : Int) (h0 : 0 ≤ i) (h1 : i ≤ 255) (h : i.toNat < Lib.len8tab.size) : ((Lib.len8tab[i.toNat]'h).toNat : Int) = (Lib.bitLen i.toNat : Int) := by
  rw [← Lib.len8_of i h0 h1]
  simp only [Lib.len8, ByteArray.getElem?_lt' _ _ h, Option.getD_some]
theorem bits_Len64.sum (c n b : Nat) (hc : c ≤ 56) (hb : b ≤ 8) (hn : n = c + b) : wrap64 ((c : Int) + wrap64 (b : Int)) = (n : Int) := by
  unfold wrap64
  omega
set_option maxHeartbeats 4000000 in
set_option maxRecDepth 100000 in
theorem bits_Len64.lib (x : Int) (w : World) (h0 : 0 ≤ x) (h1 : x ≤ 18446744073709551615) :
    Calls Try.prog 73 #[.int .u64 x] w fun e w' => e = .returned (.int .i64 (Lib.bitLen x.toNat)) ∧ w' = w := by
  have hs := Lib.len8tab_size
  go_enter Try.func73, Try.ntmps73
  go_wp2
  all_goals (go_ret; refine ⟨congrArg Ending.returned (congrArg (Value.int IntKind.i64) ?_), rfl⟩)
  · rw [bits_Len64.tab (x / 4294967296 / 65536 / 256) (by omega) (by omega)]
    have e : (x / 4294967296 / 65536 / 256).toNat = x.toNat / 72057594037927936 := by omega
    rw [e]
    exact bits_Len64.sum 56 _ _ (by omega) (by rw [← e]; exact Lib.bitLen_le8' _ (by omega) (by omega)) (Lib.bitLen_shift56 x.toNat (by omega) (by omega))
  · rw [bits_Len64.tab (x / 4294967296 / 65536) (by omega) (by omega)]
    have e : (x / 4294967296 / 65536).toNat = x.toNat / 281474976710656 := by omega
    rw [e]
    exact bits_Len64.sum 48 _ _ (by omega) (by rw [← e]; exact Lib.bitLen_le8' _ (by omega) (by omega)) (Lib.bitLen_shift48 x.toNat (by omega) (by omega))
  · rw [bits_Len64.tab (x / 4294967296 / 256) (by omega) (by omega)]
    have e : (x / 4294967296 / 256).toNat = x.toNat / 1099511627776 := by omega
    rw [e]
    exact bits_Len64.sum 40 _ _ (by omega) (by rw [← e]; exact Lib.bitLen_le8' _ (by omega) (by omega)) (Lib.bitLen_shift40 x.toNat (by omega) (by omega))
  · rw [bits_Len64.tab (x / 4294967296) (by omega) (by omega)]
    have e : (x / 4294967296).toNat = x.toNat / 4294967296 := by omega
    rw [e]
    exact bits_Len64.sum 32 _ _ (by omega) (by rw [← e]; exact Lib.bitLen_le8' _ (by omega) (by omega)) (Lib.bitLen_shift32 x.toNat (by omega) (by omega))
  · rw [bits_Len64.tab (x / 65536 / 256) (by omega) (by omega)]
    have e : (x / 65536 / 256).toNat = x.toNat / 16777216 := by omega
    rw [e]
    exact bits_Len64.sum 24 _ _ (by omega) (by rw [← e]; exact Lib.bitLen_le8' _ (by omega) (by omega)) (Lib.bitLen_shift24 x.toNat (by omega) (by omega))
  · rw [bits_Len64.tab (x / 65536) (by omega) (by omega)]
    have e : (x / 65536).toNat = x.toNat / 65536 := by omega
    rw [e]
    exact bits_Len64.sum 16 _ _ (by omega) (by rw [← e]; exact Lib.bitLen_le8' _ (by omega) (by omega)) (Lib.bitLen_shift16 x.toNat (by omega) (by omega))
  · rw [bits_Len64.tab (x / 256) (by omega) (by omega)]
    have e : (x / 256).toNat = x.toNat / 256 := by omega
    rw [e]
    exact bits_Len64.sum 8 _ _ (by omega) (by rw [← e]; exact Lib.bitLen_le8' _ (by omega) (by omega)) (Lib.bitLen_shift8 x.toNat (by omega) (by omega))
  · rw [bits_Len64.tab x (by omega) (by omega)]
    have l := Lib.bitLen_le8' x (by omega) (by omega)
    unfold wrap64
    omega
theorem bits_Len64.le (n : Nat) : Lib.bitLen n ≤ 64 := by
  have : ∀ f x : Nat, Lib.bitLenAux f x ≤ f := by
    intro f
    induction f with
    | zero => intro x; simp [Lib.bitLenAux]
    | succ f ih =>
      intro x
      unfold Lib.bitLenAux
      split
      · omega
      · have := ih (x / 2); omega
  exact this 64 n
theorem bits_Len64.ok (k : Nat) : CsemOk R Try.prog 73 (bits_Len64.F.sem (bits_Len64.p k)) := sem_ok fun y r h ρ w us hrel hargs => by
 change All2 (IsT R ρ w) [.lf (.v (.int .u64 y))] us at hargs
 obtain ⟨u0, _, rfl, h0, g1⟩ := all2_cons hargs
 cases g1
 obtain ⟨rfl, b0⟩ := is_v h0
 change bits_Len64.f y = some r at h
 unfold bits_Len64.f at h
 split at h
 · rename_i hb
   injection h with h
   subst h
   refine .inl ⟨call_enter Try.func73 (body := bodyOf Try.f73) rfl (by kernel_rfl) _ w, (bits_Len64.lib y w hb.1 hb.2).mono fun e w' hh => ⟨_, hh.1, ?_⟩⟩
   rw [hh.2]
   refine post_still hrel (Is.v _ ?_)
   have := bits_Len64.le y.toNat
   exact wf_nat (n := Lib.bitLen y.toNat) (by omega)
 · cases h
def bits_LeadingZeros64.F : FnS R (Int) (Int) := ⟨[.lf], [], (.last (dInt .u64) .nil), .lf, [], (.last (dInt .i64) .nil)⟩
def bits_LeadingZeros64.p (k : Nat) (y : Int) : Option (Int) := bits_LeadingZeros64.f y
def bits_LeadingZeros64.E (k : Nat) : Env R := ⟨tabOf tabL, ctOf [(73, (bits_Len64.F.sem (bits_Len64.p k)))], mtNone, fun _ => false, codes, rts, 6, fun _ => [], owns, [], eqtOf eqs, fun _ => false, flats⟩
def bits_LeadingZeros64.cs : List (CutS R (Int)) := []
theorem bits_LeadingZeros64.hE (k : Nat) : EnvOk Try.prog (bits_LeadingZeros64.E k) := ⟨tabs, ctOf_ok (all_cons (bits_Len64.ok k) all_nil), mtNone_ok, mixed, eqs_, flats_⟩
theorem bits_LeadingZeros64.q (k : Nat) (y : Int) : bits_LeadingZeros64.p k y = bits_LeadingZeros64.F.run bits_LeadingZeros64.E Try.f71.results.toList (bodyOf Try.f71) bits_LeadingZeros64.cs k y := by kernel_rfl
theorem bits_LeadingZeros64.ok (k : Nat) : CsemOk R Try.prog 71 (bits_LeadingZeros64.F.sem (bits_LeadingZeros64.p k)) := fn_ok (F := bits_LeadingZeros64.F) (f := bits_LeadingZeros64.p) (E := bits_LeadingZeros64.E) bits_LeadingZeros64.hE (fun _ => rfl) Try.func71 (body := (bodyOf Try.f71)) rfl (by kernel_rfl) rfl (by decide) (by kernel_rfl) (cuts := bits_LeadingZeros64.cs) all_nil bits_LeadingZeros64.q k
def bits_Div64.F : FnS R (Int × Int × Int) (Int × Int) := ⟨[.lf, .lf, .lf], [], (.cons (dInt .u64) (.cons (dInt .u64) (.last (dInt .u64) .nil))), .tup [none, none], [], (.cons (dInt .u64) (.last (dInt .u64) .nil))⟩
def bits_Div64.p (k : Nat) (y : Int × Int × Int) : Option (Int × Int) := bits_Div64.f k y.1 y.2.1 y.2.2
def bits_Div64.E (k : Nat) : Env R := ⟨tabOf tabL, ctOf [(71, (bits_LeadingZeros64.F.sem (bits_LeadingZeros64.p k)))], mtNone, fun _ => false, codes, rts, 135, fun i => ordOf [(6, [(0, 0), (1, 0), (2, 0), (3, 0), (4, 0), (5, 0), (6, 0), (7, 0)])] i, owns, [], eqtOf eqs, fun _ => false, flats⟩
def bits_Div64.cl0 : CutS R (Int × Int) := ⟨34, [2, 8, 9, 10, 11, 13, 14, 15, 16], [], [.lf, .lf, .lf, .lf, .lf, .lf, .lf, .lf, .lf], [], Int × Int × Int × Int × Int × Int × Int × Int × Int, (.cons (dInt .u64) (.cons (dInt .u64) (.cons (dInt .u64) (.cons (dInt .u64) (.cons (dInt .u64) (.cons (dInt .u64) (.cons (dInt .u64) (.cons (dInt .u64) (.last (dInt .u64) .nil))))))))), fun k z => bits_Div64.l0 k z.1 z.2.1 z.2.2.1 z.2.2.2.1 z.2.2.2.2.1 z.2.2.2.2.2.1 z.2.2.2.2.2.2.1 z.2.2.2.2.2.2.2.1 z.2.2.2.2.2.2.2.2⟩
def bits_Div64.cj0 : CutS R (Int × Int) := ⟨42, [2, 8, 9, 10, 11, 13, 14, 15], [], [.lf, .lf, .lf, .lf, .lf, .lf, .lf, .lf], [], Int × Int × Int × Int × Int × Int × Int × Int, (.cons (dInt .u64) (.cons (dInt .u64) (.cons (dInt .u64) (.cons (dInt .u64) (.cons (dInt .u64) (.cons (dInt .u64) (.cons (dInt .u64) (.last (dInt .u64) .nil)))))))), fun k z => bits_Div64.j0 k z.1 z.2.1 z.2.2.1 z.2.2.2.1 z.2.2.2.2.1 z.2.2.2.2.2.1 z.2.2.2.2.2.2.1 z.2.2.2.2.2.2.2⟩
def bits_Div64.cl1 : CutS R (Int × Int) := ⟨48, [2, 8, 9, 10, 14, 15, 16, 17, 18], [], [.lf, .lf, .lf, .lf, .lf, .lf, .lf, .lf, .lf], [], Int × Int × Int × Int × Int × Int × Int × Int × Int, (.cons (dInt .u64) (.cons (dInt .u64) (.cons (dInt .u64) (.cons (dInt .u64) (.cons (dInt .u64) (.cons (dInt .u64) (.cons (dInt .u64) (.cons (dInt .u64) (.last (dInt .u64) .nil))))))))), fun k z => bits_Div64.l1 k z.1 z.2.1 z.2.2.1 z.2.2.2.1 z.2.2.2.2.1 z.2.2.2.2.2.1 z.2.2.2.2.2.2.1 z.2.2.2.2.2.2.2.1 z.2.2.2.2.2.2.2.2⟩
def bits_Div64.cj1 : CutS R (Int × Int) := ⟨56, [2, 8, 14, 15, 17, 18], [], [.lf, .lf, .lf, .lf, .lf, .lf], [], Int × Int × Int × Int × Int × Int, (.cons (dInt .u64) (.cons (dInt .u64) (.cons (dInt .u64) (.cons (dInt .u64) (.cons (dInt .u64) (.last (dInt .u64) .nil)))))), fun k z => bits_Div64.j1 k z.1 z.2.1 z.2.2.1 z.2.2.2.1 z.2.2.2.2.1 z.2.2.2.2.2⟩
def bits_Div64.cs : List (CutS R (Int × Int)) := [bits_Div64.cl0, bits_Div64.cj0, bits_Div64.cl1, bits_Div64.cj1]
theorem bits_Div64.hE (k : Nat) : EnvOk Try.prog (bits_Div64.E k) := ⟨tabs, ctOf_ok (all_cons (bits_LeadingZeros64.ok k) all_nil), mtNone_ok, mixed, eqs_, flats_⟩
theorem bits_Div64.ol0 : (bits_Div64.cl0).Ok bits_Div64.E Try.f64.results.toList 0 (bodyOf Try.f64) bits_Div64.cs bits_Div64.F.ret := ⟨fun z => rfl, fun k z => by
 show bits_Div64.l0 (k + 1) z.1 z.2.1 z.2.2.1 z.2.2.2.1 z.2.2.2.2.1 z.2.2.2.2.2.1 z.2.2.2.2.2.2.1 z.2.2.2.2.2.2.2.1 z.2.2.2.2.2.2.2.2 = _
 rw [bits_Div64.l0]
 kernel_rfl⟩
theorem bits_Div64.oj0 : (bits_Div64.cj0).Ok bits_Div64.E Try.f64.results.toList 0 (bodyOf Try.f64) bits_Div64.cs bits_Div64.F.ret := ⟨fun z => rfl, fun k z => by
 show bits_Div64.j0 (k + 1) z.1 z.2.1 z.2.2.1 z.2.2.2.1 z.2.2.2.2.1 z.2.2.2.2.2.1 z.2.2.2.2.2.2.1 z.2.2.2.2.2.2.2 = _
 rw [bits_Div64.j0]
 kernel_rfl⟩
theorem bits_Div64.ol1 : (bits_Div64.cl1).Ok bits_Div64.E Try.f64.results.toList 0 (bodyOf Try.f64) bits_Div64.cs bits_Div64.F.ret := ⟨fun z => rfl, fun k z => by
 show bits_Div64.l1 (k + 1) z.1 z.2.1 z.2.2.1 z.2.2.2.1 z.2.2.2.2.1 z.2.2.2.2.2.1 z.2.2.2.2.2.2.1 z.2.2.2.2.2.2.2.1 z.2.2.2.2.2.2.2.2 = _
 rw [bits_Div64.l1]
 kernel_rfl⟩
theorem bits_Div64.oj1 : (bits_Div64.cj1).Ok bits_Div64.E Try.f64.results.toList 0 (bodyOf Try.f64) bits_Div64.cs bits_Div64.F.ret := ⟨fun z => rfl, fun k z => by
 show bits_Div64.j1 (k + 1) z.1 z.2.1 z.2.2.1 z.2.2.2.1 z.2.2.2.2.1 z.2.2.2.2.2 = _
 rw [bits_Div64.j1]
 kernel_rfl⟩
theorem bits_Div64.q (k : Nat) (y : Int × Int × Int) : bits_Div64.p k y = bits_Div64.F.run bits_Div64.E Try.f64.results.toList (bodyOf Try.f64) bits_Div64.cs k y := by kernel_rfl
theorem bits_Div64.ok (k : Nat) : CsemOk R Try.prog 64 (bits_Div64.F.sem (bits_Div64.p k)) := fn_ok (F := bits_Div64.F) (f := bits_Div64.p) (E := bits_Div64.E) bits_Div64.hE (fun _ => rfl) Try.func64 (body := (bodyOf Try.f64)) rfl (by kernel_rfl) rfl (by decide) (by kernel_rfl) (cuts := bits_Div64.cs) (all_cons bits_Div64.ol0 (all_cons bits_Div64.oj0 (all_cons bits_Div64.ol1 (all_cons bits_Div64.oj1 all_nil)))) bits_Div64.q k
def fixed_whole_over.F : FnS R (Int × Int × Bool × Int) (Int × Int × Bool) := ⟨[.agg 3, .lf], [], (.cons (dInt .u64) (.cons (dInt .u64) (.cons dBool (.last (dInt .u64) .nil)))), .agg 3, [], (.cons (dInt .u64) (.cons (dInt .u64) (.last dBool .nil)))⟩
def fixed_whole_over.p (k : Nat) (y : Int × Int × Bool × Int) : Option (Int × Int × Bool) := fixed_whole_over.f k y.1 y.2.1 y.2.2.1 y.2.2.2
def fixed_whole_over.E (k : Nat) : Env R := ⟨tabOf tabL, ctOf [(64, (bits_Div64.F.sem (bits_Div64.p k))), (62, (bits_Add64.F.sem (bits_Add64.p k)))], mtNone, fun _ => false, codes, rts, 44, fun i => ordOf [(1, [(0, 0), (1, 0), (2, 0), (3, 0), (4, 0), (5, 0), (6, 0), (7, 0), (8, 0), (9, 0)])] i, owns, [], eqtOf eqs, fun _ => false, flats⟩
def fixed_whole_over.cs : List (CutS R (Int × Int × Bool)) := []
theorem fixed_whole_over.hE (k : Nat) : EnvOk Try.prog (fixed_whole_over.E k) := ⟨tabs, ctOf_ok (all_cons (bits_Div64.ok k) (all_cons (bits_Add64.ok k) all_nil)), mtNone_ok, mixed, eqs_, flats_⟩
theorem fixed_whole_over.q (k : Nat) (y : Int × Int × Bool × Int) : fixed_whole_over.p k y = fixed_whole_over.F.run fixed_whole_over.E Try.f46.results.toList (bodyOf Try.f46) fixed_whole_over.cs k y := by kernel_rfl
theorem fixed_whole_over.ok (k : Nat) : CsemOk R Try.prog 46 (fixed_whole_over.F.sem (fixed_whole_over.p k)) := fn_ok (F := fixed_whole_over.F) (f := fixed_whole_over.p) (E := fixed_whole_over.E) fixed_whole_over.hE (fun _ => rfl) Try.func46 (body := (bodyOf Try.f46)) rfl (by kernel_rfl) rfl (by decide) (by kernel_rfl) (cuts := fixed_whole_over.cs) all_nil fixed_whole_over.q k
def fixed_Rate.F : FnS R (Int × Int) (Int) := ⟨[.lf, .lf], [], (.cons (dInt .i64) (.last (dInt .i64) .nil)), .lf, [], (.last (dInt .i64) .nil)⟩
def fixed_Rate.p (k : Nat) (y : Int × Int) : Option (Int) := fixed_Rate.f k y.1 y.2
def fixed_Rate.E (k : Nat) : Env R := ⟨tabOf tabL, ctOf [(45, (fixed_product.F.sem (fixed_product.p k))), (46, (fixed_whole_over.F.sem (fixed_whole_over.p k))), (42, (fixed_whole_cut.F.sem (fixed_whole_cut.p k)))], mtNone, fun _ => false, codes, rts, 13, fun _ => [], owns, [], eqtOf eqs, fun _ => false, flats⟩
def fixed_Rate.cs : List (CutS R (Int)) := []
theorem fixed_Rate.hE (k : Nat) : EnvOk Try.prog (fixed_Rate.E k) := ⟨tabs, ctOf_ok (all_cons (fixed_product.ok k) (all_cons (fixed_whole_over.ok k) (all_cons (fixed_whole_cut.ok k) all_nil))), mtNone_ok, mixed, eqs_, flats_⟩
theorem fixed_Rate.q (k : Nat) (y : Int × Int) : fixed_Rate.p k y = fixed_Rate.F.run fixed_Rate.E Try.f25.results.toList (bodyOf Try.f25) fixed_Rate.cs k y := by kernel_rfl
theorem fixed_Rate.ok (k : Nat) : CsemOk R Try.prog 25 (fixed_Rate.F.sem (fixed_Rate.p k)) := fn_ok (F := fixed_Rate.F) (f := fixed_Rate.p) (E := fixed_Rate.E) fixed_Rate.hE (fun _ => rfl) Try.func25 (body := (bodyOf Try.f25)) rfl (by kernel_rfl) rfl (by decide) (by kernel_rfl) (cuts := fixed_Rate.cs) all_nil fixed_Rate.q k
def loop_Loop_tuned.F : FnS R (Int × Int × Int × Int × Int × Int × Int × Int × Int × Int × Int) (Int × Int × Int × Int × Int × Int × Int × Int × Int × Int) := ⟨[.lf, .lf], [.blk 10 55], (.ptr 0 0 (.cons (dInt .i64) (.cons (dInt .i64) (.cons (dInt .i64) (.cons (dInt .i64) (.cons (dInt .i64) (.cons (dInt .i64) (.cons (dInt .i64) (.cons (dInt .i64) (.cons (dInt .i64) (.cons (dInt .i64) (.last (dInt .i64) .nil)))))))))))), .tup [], [.blk 10 55], (.cons (dInt .i64) (.cons (dInt .i64) (.cons (dInt .i64) (.cons (dInt .i64) (.cons (dInt .i64) (.cons (dInt .i64) (.cons (dInt .i64) (.cons (dInt .i64) (.cons (dInt .i64) (.last (dInt .i64) .nil))))))))))⟩
def loop_Loop_tuned.p (k : Nat) (y : Int × Int × Int × Int × Int × Int × Int × Int × Int × Int × Int) : Option (Int × Int × Int × Int × Int × Int × Int × Int × Int × Int) := loop_Loop_tuned.f y.1 y.2.1 y.2.2.1 y.2.2.2.1 y.2.2.2.2.1 y.2.2.2.2.2.1 y.2.2.2.2.2.2.1 y.2.2.2.2.2.2.2.1 y.2.2.2.2.2.2.2.2.1 y.2.2.2.2.2.2.2.2.2.1 y.2.2.2.2.2.2.2.2.2.2
def loop_Loop_tuned.E (k : Nat) : Env R := ⟨tabOf tabL, ctOf [(21, (fixed_Cut.F.sem (fixed_Cut.p k)))], mtNone, fun _ => false, codes, rts, 14, fun _ => [], owns, [], eqtOf eqs, fun _ => false, flats⟩
def loop_Loop_tuned.cs : List (CutS R (Int × Int × Int × Int × Int × Int × Int × Int × Int × Int)) := []
theorem loop_Loop_tuned.hE (k : Nat) : EnvOk Try.prog (loop_Loop_tuned.E k) := ⟨tabs, ctOf_ok (all_cons (fixed_Cut.ok k) all_nil), mtNone_ok, mixed, eqs_, flats_⟩
theorem loop_Loop_tuned.q (k : Nat) (y : Int × Int × Int × Int × Int × Int × Int × Int × Int × Int × Int) : loop_Loop_tuned.p k y = loop_Loop_tuned.F.run loop_Loop_tuned.E Try.f24.results.toList (bodyOf Try.f24) loop_Loop_tuned.cs k y := by kernel_rfl
theorem loop_Loop_tuned.ok (k : Nat) : CsemOk R Try.prog 24 (loop_Loop_tuned.F.sem (loop_Loop_tuned.p k)) := fn_ok (F := loop_Loop_tuned.F) (f := loop_Loop_tuned.p) (E := loop_Loop_tuned.E) loop_Loop_tuned.hE (fun _ => rfl) Try.func24 (body := (bodyOf Try.f24)) rfl (by kernel_rfl) rfl (by decide) (by kernel_rfl) (cuts := loop_Loop_tuned.cs) all_nil loop_Loop_tuned.q k
def fixed_Scale.F : FnS R (Int × Int × Int) (Int) := ⟨[.lf, .lf, .lf], [], (.cons (dInt .i64) (.cons (dInt .i64) (.last (dInt .i64) .nil))), .lf, [], (.last (dInt .i64) .nil)⟩
def fixed_Scale.p (k : Nat) (y : Int × Int × Int) : Option (Int) := fixed_Scale.f k y.1 y.2.1 y.2.2
def fixed_Scale.E (k : Nat) : Env R := ⟨tabOf tabL, ctOf [(45, (fixed_product.F.sem (fixed_product.p k))), (46, (fixed_whole_over.F.sem (fixed_whole_over.p k))), (44, (fixed_whole_span.F.sem (fixed_whole_span.p k)))], mtNone, fun _ => false, codes, rts, 16, fun _ => [], owns, [], eqtOf eqs, fun _ => false, flats⟩
def fixed_Scale.cs : List (CutS R (Int)) := []
theorem fixed_Scale.hE (k : Nat) : EnvOk Try.prog (fixed_Scale.E k) := ⟨tabs, ctOf_ok (all_cons (fixed_product.ok k) (all_cons (fixed_whole_over.ok k) (all_cons (fixed_whole_span.ok k) all_nil))), mtNone_ok, mixed, eqs_, flats_⟩
theorem fixed_Scale.q (k : Nat) (y : Int × Int × Int) : fixed_Scale.p k y = fixed_Scale.F.run fixed_Scale.E Try.f47.results.toList (bodyOf Try.f47) fixed_Scale.cs k y := by kernel_rfl
theorem fixed_Scale.ok (k : Nat) : CsemOk R Try.prog 47 (fixed_Scale.F.sem (fixed_Scale.p k)) := fn_ok (F := fixed_Scale.F) (f := fixed_Scale.p) (E := fixed_Scale.E) fixed_Scale.hE (fun _ => rfl) Try.func47 (body := (bodyOf Try.f47)) rfl (by kernel_rfl) rfl (by decide) (by kernel_rfl) (cuts := fixed_Scale.cs) all_nil fixed_Scale.q k
def loop_Loop_adjusted.F : FnS R (Int × Int × Int × Int × Int × Int × Int × Int × Int × Int × Int × Int) (Int × Int × Int × Int × Int × Int × Int × Int × Int × Int) := ⟨[.lf, .lf, .lf], [.blk 10 55], (.ptr 0 0 (.cons (dInt .i64) (.cons (dInt .i64) (.cons (dInt .i64) (.cons (dInt .i64) (.cons (dInt .i64) (.cons (dInt .i64) (.cons (dInt .i64) (.cons (dInt .i64) (.cons (dInt .i64) (.cons (dInt .i64) (.cons (dInt .i64) (.last (dInt .i64) .nil))))))))))))), .tup [], [.blk 10 55], (.cons (dInt .i64) (.cons (dInt .i64) (.cons (dInt .i64) (.cons (dInt .i64) (.cons (dInt .i64) (.cons (dInt .i64) (.cons (dInt .i64) (.cons (dInt .i64) (.cons (dInt .i64) (.last (dInt .i64) .nil))))))))))⟩
def loop_Loop_adjusted.p (k : Nat) (y : Int × Int × Int × Int × Int × Int × Int × Int × Int × Int × Int × Int) : Option (Int × Int × Int × Int × Int × Int × Int × Int × Int × Int) := loop_Loop_adjusted.f k y.1 y.2.1 y.2.2.1 y.2.2.2.1 y.2.2.2.2.1 y.2.2.2.2.2.1 y.2.2.2.2.2.2.1 y.2.2.2.2.2.2.2.1 y.2.2.2.2.2.2.2.2.1 y.2.2.2.2.2.2.2.2.2.1 y.2.2.2.2.2.2.2.2.2.2.1 y.2.2.2.2.2.2.2.2.2.2.2
def loop_Loop_adjusted.E (k : Nat) : Env R := ⟨tabOf tabL, ctOf [(26, (fixed_Sub.F.sem (fixed_Sub.p k))), (27, (loop_seconds.F.sem (loop_seconds.p k))), (30, (fixed_Shift.F.sem (fixed_Shift.p k))), (25, (fixed_Rate.F.sem (fixed_Rate.p k))), (24, (loop_Loop_tuned.F.sem (loop_Loop_tuned.p k))), (47, (fixed_Scale.F.sem (fixed_Scale.p k))), (21, (fixed_Cut.F.sem (fixed_Cut.p k)))], mtNone, fun f => memB f [47], codes, rts, 43, fun i => ordOf [(2, [(0, 0), (1, 0), (2, 0), (3, 0), (4, 0), (5, 0), (6, 0), (7, 0), (8, 0), (9, 0), (10, 0), (11, 0), (12, 0), (13, 0), (14, 0), (15, 0), (16, 0), (17, 0), (18, 0)])] i, owns, [], eqtOf eqs, fun _ => false, flats⟩
def loop_Loop_adjusted.cs : List (CutS R (Int × Int × Int × Int × Int × Int × Int × Int × Int × Int)) := []
theorem loop_Loop_adjusted.hE (k : Nat) : EnvOk Try.prog (loop_Loop_adjusted.E k) := ⟨tabs, ctOf_ok (all_cons (fixed_Sub.ok k) (all_cons (loop_seconds.ok k) (all_cons (fixed_Shift.ok k) (all_cons (fixed_Rate.ok k) (all_cons (loop_Loop_tuned.ok k) (all_cons (fixed_Scale.ok k) (all_cons (fixed_Cut.ok k) all_nil))))))), mtNone_ok, mixed, eqs_, flats_⟩
theorem loop_Loop_adjusted.q (k : Nat) (y : Int × Int × Int × Int × Int × Int × Int × Int × Int × Int × Int × Int) : loop_Loop_adjusted.p k y = loop_Loop_adjusted.F.run loop_Loop_adjusted.E Try.f28.results.toList (bodyOf Try.f28) loop_Loop_adjusted.cs k y := by kernel_rfl
theorem loop_Loop_adjusted.ok (k : Nat) : CsemOk R Try.prog 28 (loop_Loop_adjusted.F.sem (loop_Loop_adjusted.p k)) := fn_ok (F := loop_Loop_adjusted.F) (f := loop_Loop_adjusted.p) (E := loop_Loop_adjusted.E) loop_Loop_adjusted.hE (fun _ => rfl) Try.func28 (body := (bodyOf Try.f28)) rfl (by kernel_rfl) rfl (by decide) (by kernel_rfl) (cuts := loop_Loop_adjusted.cs) all_nil loop_Loop_adjusted.q k
def loop_Loop_Update.F : FnS R (Int × Int × Int × Int × Int × Int × Int × Int × Int × Int × Int × Int × Int) (Int × Int × Int × Int × Int × Int × Int × Int × Int × Int × Int × Int) := ⟨[.lf, .lf, .lf, .lf], [.blk 10 55], (.ptr 0 0 (.cons (dInt .i64) (.cons (dInt .i64) (.cons (dInt .i64) (.cons (dInt .i64) (.cons (dInt .i64) (.cons (dInt .i64) (.cons (dInt .i64) (.cons (dInt .i64) (.cons (dInt .i64) (.cons (dInt .i64) (.cons (dInt .i64) (.cons (dInt .i64) (.last (dInt .i64) .nil)))))))))))))), .tup [none, none], [.blk 10 55], (.cons (dInt .i64) (.cons (dInt .i64) (.cons (dInt .i64) (.cons (dInt .i64) (.cons (dInt .i64) (.cons (dInt .i64) (.cons (dInt .i64) (.cons (dInt .i64) (.cons (dInt .i64) (.cons (dInt .i64) (.cons (dInt .i64) (.last (dInt .i64) .nil))))))))))))⟩
def loop_Loop_Update.p (k : Nat) (y : Int × Int × Int × Int × Int × Int × Int × Int × Int × Int × Int × Int × Int) : Option (Int × Int × Int × Int × Int × Int × Int × Int × Int × Int × Int × Int) := loop_Loop_Update.f k y.1 y.2.1 y.2.2.1 y.2.2.2.1 y.2.2.2.2.1 y.2.2.2.2.2.1 y.2.2.2.2.2.2.1 y.2.2.2.2.2.2.2.1 y.2.2.2.2.2.2.2.2.1 y.2.2.2.2.2.2.2.2.2.1 y.2.2.2.2.2.2.2.2.2.2.1 y.2.2.2.2.2.2.2.2.2.2.2.1 y.2.2.2.2.2.2.2.2.2.2.2.2
def loop_Loop_Update.E (k : Nat) : Env R := ⟨tabOf tabL, ctOf [(22, (fixed_Add.F.sem (fixed_Add.p k))), (23, (fixed_Abs.F.sem (fixed_Abs.p k))), (26, (fixed_Sub.F.sem (fixed_Sub.p k))), (27, (loop_seconds.F.sem (loop_seconds.p k))), (25, (fixed_Rate.F.sem (fixed_Rate.p k))), (24, (loop_Loop_tuned.F.sem (loop_Loop_tuned.p k))), (28, (loop_Loop_adjusted.F.sem (loop_Loop_adjusted.p k))), (30, (fixed_Shift.F.sem (fixed_Shift.p k))), (29, (loop_Loop_tallied.F.sem (loop_Loop_tallied.p k)))], mtNone, fun _ => false, codes, rts, 157, fun _ => [], owns, [], eqtOf eqs, fun _ => false, flats⟩
def loop_Loop_Update.cj0 : CutS R (Int × Int × Int × Int × Int × Int × Int × Int × Int × Int × Int × Int) := ⟨52, [0, 1, 2, 3, 10, 11, 12], [], [.lf, .lf, .lf, .lf, .lf, .lf, .lf], [.blk 10 55], Int × Int × Int × Int × Int × Bool × Int × Int × Int × Int × Int × Int × Int × Int × Int × Int, (.ptr 0 0 (.cons (dInt .i64) (.cons (dInt .i64) (.cons (dInt .i64) (.cons (dInt .i64) (.cons (dInt .i64) (.cons dBool (.cons (dInt .i64) (.cons (dInt .i64) (.cons (dInt .i64) (.cons (dInt .i64) (.cons (dInt .i64) (.cons (dInt .i64) (.cons (dInt .i64) (.cons (dInt .i64) (.cons (dInt .i64) (.last (dInt .i64) .nil))))))))))))))))), fun k z => loop_Loop_Update.j0 k z.1 z.2.1 z.2.2.1 z.2.2.2.1 z.2.2.2.2.1 z.2.2.2.2.2.1 z.2.2.2.2.2.2.1 z.2.2.2.2.2.2.2.1 z.2.2.2.2.2.2.2.2.1 z.2.2.2.2.2.2.2.2.2.1 z.2.2.2.2.2.2.2.2.2.2.1 z.2.2.2.2.2.2.2.2.2.2.2.1 z.2.2.2.2.2.2.2.2.2.2.2.2.1 z.2.2.2.2.2.2.2.2.2.2.2.2.2.1 z.2.2.2.2.2.2.2.2.2.2.2.2.2.2.1 z.2.2.2.2.2.2.2.2.2.2.2.2.2.2.2⟩
def loop_Loop_Update.cj1 : CutS R (Int × Int × Int × Int × Int × Int × Int × Int × Int × Int × Int × Int) := ⟨56, [0, 1, 2, 3, 10], [], [.lf, .lf, .lf, .lf, .lf], [.blk 10 55], Int × Int × Int × Int × Int × Int × Int × Int × Int × Int × Int × Int × Int × Int, (.ptr 0 0 (.cons (dInt .i64) (.cons (dInt .i64) (.cons (dInt .i64) (.cons (dInt .i64) (.cons (dInt .i64) (.cons (dInt .i64) (.cons (dInt .i64) (.cons (dInt .i64) (.cons (dInt .i64) (.cons (dInt .i64) (.cons (dInt .i64) (.cons (dInt .i64) (.cons (dInt .i64) (.last (dInt .i64) .nil))))))))))))))), fun k z => loop_Loop_Update.j1 k z.1 z.2.1 z.2.2.1 z.2.2.2.1 z.2.2.2.2.1 z.2.2.2.2.2.1 z.2.2.2.2.2.2.1 z.2.2.2.2.2.2.2.1 z.2.2.2.2.2.2.2.2.1 z.2.2.2.2.2.2.2.2.2.1 z.2.2.2.2.2.2.2.2.2.2.1 z.2.2.2.2.2.2.2.2.2.2.2.1 z.2.2.2.2.2.2.2.2.2.2.2.2.1 z.2.2.2.2.2.2.2.2.2.2.2.2.2⟩
def loop_Loop_Update.cs : List (CutS R (Int × Int × Int × Int × Int × Int × Int × Int × Int × Int × Int × Int)) := [loop_Loop_Update.cj0, loop_Loop_Update.cj1]
theorem loop_Loop_Update.hE (k : Nat) : EnvOk Try.prog (loop_Loop_Update.E k) := ⟨tabs, ctOf_ok (all_cons (fixed_Add.ok k) (all_cons (fixed_Abs.ok k) (all_cons (fixed_Sub.ok k) (all_cons (loop_seconds.ok k) (all_cons (fixed_Rate.ok k) (all_cons (loop_Loop_tuned.ok k) (all_cons (loop_Loop_adjusted.ok k) (all_cons (fixed_Shift.ok k) (all_cons (loop_Loop_tallied.ok k) all_nil))))))))), mtNone_ok, mixed, eqs_, flats_⟩
theorem loop_Loop_Update.oj0 : (loop_Loop_Update.cj0).Ok loop_Loop_Update.E Try.f10.results.toList 1 (bodyOf Try.f10) loop_Loop_Update.cs loop_Loop_Update.F.ret := ⟨fun z => rfl, fun k z => by
 show loop_Loop_Update.j0 (k + 1) z.1 z.2.1 z.2.2.1 z.2.2.2.1 z.2.2.2.2.1 z.2.2.2.2.2.1 z.2.2.2.2.2.2.1 z.2.2.2.2.2.2.2.1 z.2.2.2.2.2.2.2.2.1 z.2.2.2.2.2.2.2.2.2.1 z.2.2.2.2.2.2.2.2.2.2.1 z.2.2.2.2.2.2.2.2.2.2.2.1 z.2.2.2.2.2.2.2.2.2.2.2.2.1 z.2.2.2.2.2.2.2.2.2.2.2.2.2.1 z.2.2.2.2.2.2.2.2.2.2.2.2.2.2.1 z.2.2.2.2.2.2.2.2.2.2.2.2.2.2.2 = _
 rw [loop_Loop_Update.j0]
 kernel_rfl⟩
theorem loop_Loop_Update.oj1 : (loop_Loop_Update.cj1).Ok loop_Loop_Update.E Try.f10.results.toList 1 (bodyOf Try.f10) loop_Loop_Update.cs loop_Loop_Update.F.ret := ⟨fun z => rfl, fun k z => by
 show loop_Loop_Update.j1 (k + 1) z.1 z.2.1 z.2.2.1 z.2.2.2.1 z.2.2.2.2.1 z.2.2.2.2.2.1 z.2.2.2.2.2.2.1 z.2.2.2.2.2.2.2.1 z.2.2.2.2.2.2.2.2.1 z.2.2.2.2.2.2.2.2.2.1 z.2.2.2.2.2.2.2.2.2.2.1 z.2.2.2.2.2.2.2.2.2.2.2.1 z.2.2.2.2.2.2.2.2.2.2.2.2.1 z.2.2.2.2.2.2.2.2.2.2.2.2.2 = _
 rw [loop_Loop_Update.j1]
 kernel_rfl⟩
theorem loop_Loop_Update.q (k : Nat) (y : Int × Int × Int × Int × Int × Int × Int × Int × Int × Int × Int × Int × Int) : loop_Loop_Update.p k y = loop_Loop_Update.F.run loop_Loop_Update.E Try.f10.results.toList (bodyOf Try.f10) loop_Loop_Update.cs k y := by kernel_rfl
theorem loop_Loop_Update.ok (k : Nat) : CsemOk R Try.prog 10 (loop_Loop_Update.F.sem (loop_Loop_Update.p k)) := fn_ok (F := loop_Loop_Update.F) (f := loop_Loop_Update.p) (E := loop_Loop_Update.E) loop_Loop_Update.hE (fun _ => rfl) Try.func10 (body := (bodyOf Try.f10)) rfl (by kernel_rfl) rfl (by decide) (by kernel_rfl) (cuts := loop_Loop_Update.cs) (all_cons loop_Loop_Update.oj0 (all_cons loop_Loop_Update.oj1 all_nil)) loop_Loop_Update.q k
def foliotref01_of.F : FnS R (Int) (Bool × (List Int)) := ⟨[.lf], [], (.last (dInt .i64) .nil), .agg 2, [.row 3 3], (.row 3 0 (.cons dBool (.last (dRo 3) .nil)))⟩
def foliotref01_of.p (k : Nat) (y : Int) : Option (Bool × (List Int)) := foliotref01_of.f k y
def foliotref01_of.E (k : Nat) : Env R := ⟨tabOf tabL, ctOf [], mtNone, fun _ => false, codes, rts, 30, fun _ => [], owns, [], eqtOf eqs, fun _ => false, flats⟩
def foliotref01_of.cl0 : CutS R (Bool × (List Int)) := ⟨10, [2, 3, 4], [], [.lf, .lf, .lf], [.blk 2 78, .blk 2 78, .row 3 3, .row 3 3], Int × Bool × Bool × (List Int) × (List Int), (.ptr 0 0 (.ptr 1 0 (.cons (dInt .u64) (.row 3 2 (.cons dBool (.row 3 3 (.cons dBool (.cons (dRo 3) (.last (dRo 3) .nil))))))))), fun k z => foliotref01_of.l0 k z.1 z.2.1 z.2.2.1 z.2.2.2.1 z.2.2.2.2⟩
def foliotref01_of.cs : List (CutS R (Bool × (List Int))) := [foliotref01_of.cl0]
theorem foliotref01_of.hE (k : Nat) : EnvOk Try.prog (foliotref01_of.E k) := ⟨tabs, ctOf_ok all_nil, mtNone_ok, mixed, eqs_, flats_⟩
theorem foliotref01_of.ol0 : (foliotref01_of.cl0).Ok foliotref01_of.E Try.f50.results.toList 0 (bodyOf Try.f50) foliotref01_of.cs foliotref01_of.F.ret := ⟨fun z => rfl, fun k z => by
 show foliotref01_of.l0 (k + 1) z.1 z.2.1 z.2.2.1 z.2.2.2.1 z.2.2.2.2 = _
 rw [foliotref01_of.l0]
 kernel_rfl⟩
theorem foliotref01_of.q (k : Nat) (y : Int) : foliotref01_of.p k y = foliotref01_of.F.run foliotref01_of.E Try.f50.results.toList (bodyOf Try.f50) foliotref01_of.cs k y := by kernel_rfl
theorem foliotref01_of.ok (k : Nat) : CsemOk R Try.prog 50 (foliotref01_of.F.sem (foliotref01_of.p k)) := fn_ok (F := foliotref01_of.F) (f := foliotref01_of.p) (E := foliotref01_of.E) foliotref01_of.hE (fun _ => rfl) Try.func50 (body := (bodyOf Try.f50)) rfl (by kernel_rfl) rfl (by decide) (by kernel_rfl) (cuts := foliotref01_of.cs) (all_cons foliotref01_of.ol0 all_nil) foliotref01_of.q k
def foliotref01_compare.F : FnS R ((List Int) × (List Int)) (Int) := ⟨[.lf, .lf], [], (.cons (dRo 3) (.last (dRo 3) .nil)), .lf, [], (.last (dInt .i64) .nil)⟩
def foliotref01_compare.p (k : Nat) (y : (List Int) × (List Int)) : Option (Int) := foliotref01_compare.f k y.1 y.2
def foliotref01_compare.E (k : Nat) : Env R := ⟨tabOf tabL, ctOf [], mtNone, fun _ => false, codes, rts, 41, fun i => ordOf [(8, [(0, 0), (1, 0), (2, 0), (3, 0), (4, 0), (5, 0), (6, 0), (7, 0), (8, 0)]), (10, [(0, 0), (1, 0), (2, 0), (3, 0), (4, 0), (5, 0), (6, 0), (7, 0), (8, 0)])] i, owns, [], eqtOf eqs, fun _ => false, flats⟩
def foliotref01_compare.cl0 : CutS R (Int) := ⟨12, [0, 1, 5], [], [.lf, .lf, .lf], [], (List Int) × (List Int) × Int, (.cons (dRo 3) (.cons (dRo 3) (.last (dInt .i64) .nil))), fun k z => foliotref01_compare.l0 k z.1 z.2.1 z.2.2⟩
def foliotref01_compare.cs : List (CutS R (Int)) := [foliotref01_compare.cl0]
theorem foliotref01_compare.hE (k : Nat) : EnvOk Try.prog (foliotref01_compare.E k) := ⟨tabs, ctOf_ok all_nil, mtNone_ok, mixed, eqs_, flats_⟩
theorem foliotref01_compare.ol0 : (foliotref01_compare.cl0).Ok foliotref01_compare.E Try.f65.results.toList 0 (bodyOf Try.f65) foliotref01_compare.cs foliotref01_compare.F.ret := ⟨fun z => rfl, fun k z => by
 show foliotref01_compare.l0 (k + 1) z.1 z.2.1 z.2.2 = _
 rw [foliotref01_compare.l0]
 kernel_rfl⟩
theorem foliotref01_compare.q (k : Nat) (y : (List Int) × (List Int)) : foliotref01_compare.p k y = foliotref01_compare.F.run foliotref01_compare.E Try.f65.results.toList (bodyOf Try.f65) foliotref01_compare.cs k y := by kernel_rfl
theorem foliotref01_compare.ok (k : Nat) : CsemOk R Try.prog 65 (foliotref01_compare.F.sem (foliotref01_compare.p k)) := fn_ok (F := foliotref01_compare.F) (f := foliotref01_compare.p) (E := foliotref01_compare.E) foliotref01_compare.hE (fun _ => rfl) Try.func65 (body := (bodyOf Try.f65)) rfl (by kernel_rfl) rfl (by decide) (by kernel_rfl) (cuts := foliotref01_compare.cs) (all_cons foliotref01_compare.ol0 all_nil) foliotref01_compare.q k
def foliotref01_cut.F : FnS R ((List Int) × Bool × Int) (Int) := ⟨[.agg 2, .lf], [], (.cons (dRo 3) (.cons dBool (.last (dInt .i64) .nil))), .lf, [], (.last (dInt .i64) .nil)⟩
def foliotref01_cut.p (k : Nat) (y : (List Int) × Bool × Int) : Option (Int) := foliotref01_cut.f k y.1 y.2.1 y.2.2
def foliotref01_cut.E (k : Nat) : Env R := ⟨tabOf tabL, ctOf [(50, (foliotref01_of.F.sem (foliotref01_of.p k))), (65, (foliotref01_compare.F.sem (foliotref01_compare.p k)))], mtNone, fun f => memB f [65], codes, rts, 40, fun i => ordOf [(1, [(0, 0), (1, 0), (2, 0), (3, 1), (4, 0), (5, 0), (6, 0)])] i, owns, [], eqtOf eqs, fun _ => false, flats⟩
def foliotref01_cut.cl0 : CutS R (Int) := ⟨14, [2, 5, 6], [], [.lf, .lf, .lf], [.blk 2 78], Int × Int × (List Int) × Bool, (.ptr 0 0 (.cons (dInt .i64) (.cons (dInt .i64) (.cons (dRo 3) (.last dBool .nil))))), fun k z => foliotref01_cut.l0 k z.1 z.2.1 z.2.2.1 z.2.2.2⟩
def foliotref01_cut.cs : List (CutS R (Int)) := [foliotref01_cut.cl0]
theorem foliotref01_cut.hE (k : Nat) : EnvOk Try.prog (foliotref01_cut.E k) := ⟨tabs, ctOf_ok (all_cons (foliotref01_of.ok k) (all_cons (foliotref01_compare.ok k) all_nil)), mtNone_ok, mixed, eqs_, flats_⟩
theorem foliotref01_cut.ol0 : (foliotref01_cut.cl0).Ok foliotref01_cut.E Try.f49.results.toList 0 (bodyOf Try.f49) foliotref01_cut.cs foliotref01_cut.F.ret := ⟨fun z => rfl, fun k z => by
 show foliotref01_cut.l0 (k + 1) z.1 z.2.1 z.2.2.1 z.2.2.2 = _
 rw [foliotref01_cut.l0]
 kernel_rfl⟩
theorem foliotref01_cut.q (k : Nat) (y : (List Int) × Bool × Int) : foliotref01_cut.p k y = foliotref01_cut.F.run foliotref01_cut.E Try.f49.results.toList (bodyOf Try.f49) foliotref01_cut.cs k y := by kernel_rfl
theorem foliotref01_cut.ok (k : Nat) : CsemOk R Try.prog 49 (foliotref01_cut.F.sem (foliotref01_cut.p k)) := fn_ok (F := foliotref01_cut.F) (f := foliotref01_cut.p) (E := foliotref01_cut.E) foliotref01_cut.hE (fun _ => rfl) Try.func49 (body := (bodyOf Try.f49)) rfl (by kernel_rfl) rfl (by decide) (by kernel_rfl) (cuts := foliotref01_cut.cs) (all_cons foliotref01_cut.ol0 all_nil) foliotref01_cut.q k
def foliotref01_Cut.F : FnS R (Int) (Int) := ⟨[.lf], [], (.last (dInt .i64) .nil), .lf, [], (.last (dInt .i64) .nil)⟩
def foliotref01_Cut.p (k : Nat) (y : Int) : Option (Int) := foliotref01_Cut.f k y
def foliotref01_Cut.E (k : Nat) : Env R := ⟨tabOf tabL, ctOf [(50, (foliotref01_of.F.sem (foliotref01_of.p k))), (49, (foliotref01_cut.F.sem (foliotref01_cut.p k)))], mtNone, fun f => memB f [49], codes, rts, 6, fun _ => [], owns, [], eqtOf eqs, fun _ => false, flats⟩
def foliotref01_Cut.cs : List (CutS R (Int)) := []
theorem foliotref01_Cut.hE (k : Nat) : EnvOk Try.prog (foliotref01_Cut.E k) := ⟨tabs, ctOf_ok (all_cons (foliotref01_of.ok k) (all_cons (foliotref01_cut.ok k) all_nil)), mtNone_ok, mixed, eqs_, flats_⟩
theorem foliotref01_Cut.q (k : Nat) (y : Int) : foliotref01_Cut.p k y = foliotref01_Cut.F.run foliotref01_Cut.E Try.f31.results.toList (bodyOf Try.f31) foliotref01_Cut.cs k y := by kernel_rfl
theorem foliotref01_Cut.ok (k : Nat) : CsemOk R Try.prog 31 (foliotref01_Cut.F.sem (foliotref01_Cut.p k)) := fn_ok (F := foliotref01_Cut.F) (f := foliotref01_Cut.p) (E := foliotref01_Cut.E) foliotref01_Cut.hE (fun _ => rfl) Try.func31 (body := (bodyOf Try.f31)) rfl (by kernel_rfl) rfl (by decide) (by kernel_rfl) (cuts := foliotref01_Cut.cs) all_nil foliotref01_Cut.q k
def foliotref15_New.F : FnS R ((List S112) × (List S115) × (List Int) × Int × (List S117) × ByteArray × (List ByteArray) × Int × Bool × Bool × Int × Int × Int × Int × Int × Int × Bool) (Int × Int × Int × Int × Int × Int × Int × Int × Int × Int) := ⟨[.agg 15, .lf, .lf], [], (.cons (dRo 0) (.cons (dRo 1) (.cons (dRo 3) (.cons (dInt .i64) (.cons (dRo 4) (.cons dStr (.cons (dRo 5) (.cons (dInt .i64) (.cons dBool (.cons dBool (.cons (dInt .i64) (.cons (dInt .i64) (.cons (dInt .i64) (.cons (dInt .i64) (.cons (dInt .i64) (.cons (dInt .i64) (.last dBool .nil))))))))))))))))), .lf, [.blk 10 50], (.ptr 0 0 (.cons (dInt .i64) (.cons (dInt .i64) (.cons (dInt .i64) (.cons (dInt .i64) (.cons (dInt .i64) (.cons (dInt .i64) (.cons (dInt .i64) (.cons (dInt .i64) (.cons (dInt .i64) (.last (dInt .i64) .nil)))))))))))⟩
def foliotref15_New.p (k : Nat) (y : (List S112) × (List S115) × (List Int) × Int × (List S117) × ByteArray × (List ByteArray) × Int × Bool × Bool × Int × Int × Int × Int × Int × Int × Bool) : Option (Int × Int × Int × Int × Int × Int × Int × Int × Int × Int) := foliotref15_New.f k y.1 y.2.1 y.2.2.1 y.2.2.2.1 y.2.2.2.2.1 y.2.2.2.2.2.1 y.2.2.2.2.2.2.1 y.2.2.2.2.2.2.2.1 y.2.2.2.2.2.2.2.2.1 y.2.2.2.2.2.2.2.2.2.1 y.2.2.2.2.2.2.2.2.2.2.1 y.2.2.2.2.2.2.2.2.2.2.2.1 y.2.2.2.2.2.2.2.2.2.2.2.2.1 y.2.2.2.2.2.2.2.2.2.2.2.2.2.1 y.2.2.2.2.2.2.2.2.2.2.2.2.2.2.1 y.2.2.2.2.2.2.2.2.2.2.2.2.2.2.2.1 y.2.2.2.2.2.2.2.2.2.2.2.2.2.2.2.2
def foliotref15_New.E (k : Nat) : Env R := ⟨tabOf tabL, ctOf [(31, (foliotref01_Cut.F.sem (foliotref01_Cut.p k)))], mtNone, fun _ => false, codes, rts, 32, fun _ => [], owns, [], eqtOf eqs, fun _ => false, flats⟩
def foliotref15_New.cs : List (CutS R (Int × Int × Int × Int × Int × Int × Int × Int × Int × Int)) := []
theorem foliotref15_New.hE (k : Nat) : EnvOk Try.prog (foliotref15_New.E k) := ⟨tabs, ctOf_ok (all_cons (foliotref01_Cut.ok k) all_nil), mtNone_ok, mixed, eqs_, flats_⟩
theorem foliotref15_New.q (k : Nat) (y : (List S112) × (List S115) × (List Int) × Int × (List S117) × ByteArray × (List ByteArray) × Int × Bool × Bool × Int × Int × Int × Int × Int × Int × Bool) : foliotref15_New.p k y = foliotref15_New.F.run foliotref15_New.E Try.f16.results.toList (bodyOf Try.f16) foliotref15_New.cs k y := by kernel_rfl
theorem foliotref15_New.ok (k : Nat) : CsemOk R Try.prog 16 (foliotref15_New.F.sem (foliotref15_New.p k)) := fn_ok (F := foliotref15_New.F) (f := foliotref15_New.p) (E := foliotref15_New.E) foliotref15_New.hE (fun _ => rfl) Try.func16 (body := (bodyOf Try.f16)) rfl (by kernel_rfl) rfl (by decide) (by kernel_rfl) (cuts := foliotref15_New.cs) all_nil foliotref15_New.q k
def foliotref01_s.F : FnS R (Int) (Bool × (List Int)) := ⟨[.lf], [], (.last (dInt .i64) .nil), .agg 2, [.row 3 3], (.row 3 0 (.cons dBool (.last (dRo 3) .nil)))⟩
def foliotref01_s.p (k : Nat) (y : Int) : Option (Bool × (List Int)) := foliotref01_s.f k y
def foliotref01_s.E (k : Nat) : Env R := ⟨tabOf tabL, ctOf [(50, (foliotref01_of.F.sem (foliotref01_of.p k)))], mtNone, fun _ => false, codes, rts, 5, fun _ => [], owns, [], eqtOf eqs, fun _ => false, flats⟩
def foliotref01_s.cs : List (CutS R (Bool × (List Int))) := []
theorem foliotref01_s.hE (k : Nat) : EnvOk Try.prog (foliotref01_s.E k) := ⟨tabs, ctOf_ok (all_cons (foliotref01_of.ok k) all_nil), mtNone_ok, mixed, eqs_, flats_⟩
theorem foliotref01_s.q (k : Nat) (y : Int) : foliotref01_s.p k y = foliotref01_s.F.run foliotref01_s.E Try.f53.results.toList (bodyOf Try.f53) foliotref01_s.cs k y := by kernel_rfl
theorem foliotref01_s.ok (k : Nat) : CsemOk R Try.prog 53 (foliotref01_s.F.sem (foliotref01_s.p k)) := fn_ok (F := foliotref01_s.F) (f := foliotref01_s.p) (E := foliotref01_s.E) foliotref01_s.hE (fun _ => rfl) Try.func53 (body := (bodyOf Try.f53)) rfl (by kernel_rfl) rfl (by decide) (by kernel_rfl) (cuts := foliotref01_s.cs) all_nil foliotref01_s.q k
def foliotref01_trim.F : FnS R ((List Int)) ((List Int)) := ⟨[.lf], [], (.last (dRo 3) .nil), .lf, [], (.last (dRo 3) .nil)⟩
def foliotref01_trim.p (k : Nat) (y : (List Int)) : Option ((List Int)) := foliotref01_trim.f k y
def foliotref01_trim.E (k : Nat) : Env R := ⟨tabOf tabL, ctOf [], mtNone, fun _ => false, codes, rts, 21, fun _ => [], owns, [], eqtOf eqs, fun _ => false, flats⟩
def foliotref01_trim.cl0 : CutS R ((List Int)) := ⟨4, [0, 3], [], [.lf, .lf], [], (List Int) × Int, (.cons (dRo 3) (.last (dInt .i64) .nil)), fun k z => foliotref01_trim.l0 k z.1 z.2⟩
def foliotref01_trim.cs : List (CutS R ((List Int))) := [foliotref01_trim.cl0]
theorem foliotref01_trim.hE (k : Nat) : EnvOk Try.prog (foliotref01_trim.E k) := ⟨tabs, ctOf_ok all_nil, mtNone_ok, mixed, eqs_, flats_⟩
theorem foliotref01_trim.ol0 : (foliotref01_trim.cl0).Ok foliotref01_trim.E Try.f72.results.toList 0 (bodyOf Try.f72) foliotref01_trim.cs foliotref01_trim.F.ret := ⟨fun z => rfl, fun k z => by
 show foliotref01_trim.l0 (k + 1) z.1 z.2 = _
 rw [foliotref01_trim.l0]
 kernel_rfl⟩
theorem foliotref01_trim.q (k : Nat) (y : (List Int)) : foliotref01_trim.p k y = foliotref01_trim.F.run foliotref01_trim.E Try.f72.results.toList (bodyOf Try.f72) foliotref01_trim.cs k y := by kernel_rfl
theorem foliotref01_trim.ok (k : Nat) : CsemOk R Try.prog 72 (foliotref01_trim.F.sem (foliotref01_trim.p k)) := fn_ok (F := foliotref01_trim.F) (f := foliotref01_trim.p) (E := foliotref01_trim.E) foliotref01_trim.hE (fun _ => rfl) Try.func72 (body := (bodyOf Try.f72)) rfl (by kernel_rfl) rfl (by decide) (by kernel_rfl) (cuts := foliotref01_trim.cs) (all_cons foliotref01_trim.ol0 all_nil) foliotref01_trim.q k
def foliotref01_trim_s1.F : FnS R ((List Int)) ((List Int)) := ⟨[.lf], [.row 3 3], (.row 3 0 (.last (dRo 3) .nil)), .lf, [.dead, .row 3 3], (.row 3 1 (.last (dRo 3) .nil))⟩
def foliotref01_trim_s1.p (k : Nat) (y : (List Int)) : Option ((List Int)) := foliotref01_trim_s1.f k y
def foliotref01_trim_s1.E (k : Nat) : Env R := ⟨tabOf tabL, ctOf [], mtNone, fun _ => false, codes, rts, 21, fun _ => [], owns, [some (.take 3 3)], eqtOf eqs, fun _ => false, flats⟩
def foliotref01_trim_s1.cl0 : CutS R ((List Int)) := ⟨4, [0, 3], [], [.lf, .lf], [.row 3 3], Int × (List Int), (.row 3 0 (.cons (dInt .i64) (.last (dRo 3) .nil))), fun k z => foliotref01_trim_s1.l0 k z.1 z.2⟩
def foliotref01_trim_s1.cs : List (CutS R ((List Int))) := [foliotref01_trim_s1.cl0]
theorem foliotref01_trim_s1.hE (k : Nat) : EnvOk Try.prog (foliotref01_trim_s1.E k) := ⟨tabs, ctOf_ok all_nil, mtNone_ok, mixed, eqs_, flats_⟩
theorem foliotref01_trim_s1.ol0 : (foliotref01_trim_s1.cl0).Ok foliotref01_trim_s1.E Try.f72.results.toList 1 (bodyOf Try.f72) foliotref01_trim_s1.cs foliotref01_trim_s1.F.ret := ⟨fun z => rfl, fun k z => by
 show foliotref01_trim_s1.l0 (k + 1) z.1 z.2 = _
 rw [foliotref01_trim_s1.l0]
 kernel_rfl⟩
theorem foliotref01_trim_s1.q (k : Nat) (y : (List Int)) : foliotref01_trim_s1.p k y = foliotref01_trim_s1.F.run foliotref01_trim_s1.E Try.f72.results.toList (bodyOf Try.f72) foliotref01_trim_s1.cs k y := by kernel_rfl
theorem foliotref01_trim_s1.ok (k : Nat) : CsemOk R Try.prog 72 (foliotref01_trim_s1.F.sem (foliotref01_trim_s1.p k)) := fn_ok (F := foliotref01_trim_s1.F) (f := foliotref01_trim_s1.p) (E := foliotref01_trim_s1.E) foliotref01_trim_s1.hE (fun _ => rfl) Try.func72 (body := (bodyOf Try.f72)) rfl (by kernel_rfl) rfl (by decide) (by kernel_rfl) (cuts := foliotref01_trim_s1.cs) (all_cons foliotref01_trim_s1.ol0 all_nil) foliotref01_trim_s1.q k
def foliotref01_plus.F : FnS R ((List Int) × (List Int)) ((List Int)) := ⟨[.lf, .lf], [], (.cons (dRo 3) (.last (dRo 3) .nil)), .lf, [.row 3 3], (.row 3 0 (.last (dRo 3) .nil))⟩
def foliotref01_plus.p (k : Nat) (y : (List Int) × (List Int)) : Option ((List Int)) := foliotref01_plus.f k y.1 y.2
def foliotref01_plus.E (k : Nat) : Env R := ⟨tabOf tabL, ctOf [(72, (foliotref01_trim_s1.F.sem (foliotref01_trim_s1.p k)))], mtNone, fun _ => false, codes, rts, 54, fun _ => [], owns, [], eqtOf eqs, fun _ => false, flats⟩
def foliotref01_plus.cl0 : CutS R ((List Int)) := ⟨8, [0, 1, 5, 6, 7], [], [.lf, .lf, .lf, .lf, .lf], [.row 3 3], (List Int) × (List Int) × Int × Int × (List Int), (.cons (dRo 3) (.cons (dRo 3) (.row 3 0 (.cons (dInt .i64) (.cons (dInt .i64) (.last (dRo 3) .nil)))))), fun k z => foliotref01_plus.l0 k z.1 z.2.1 z.2.2.1 z.2.2.2.1 z.2.2.2.2⟩
def foliotref01_plus.cj0 : CutS R ((List Int)) := ⟨16, [0, 1, 5, 6, 7], [], [.lf, .lf, .lf, .lf, .lf], [.row 3 3], (List Int) × (List Int) × Int × Int × (List Int), (.cons (dRo 3) (.cons (dRo 3) (.row 3 0 (.cons (dInt .i64) (.cons (dInt .i64) (.last (dRo 3) .nil)))))), fun k z => foliotref01_plus.j0 k z.1 z.2.1 z.2.2.1 z.2.2.2.1 z.2.2.2.2⟩
def foliotref01_plus.cj1 : CutS R ((List Int)) := ⟨20, [0, 1, 5, 6, 7], [], [.lf, .lf, .lf, .lf, .lf], [.row 3 3], (List Int) × (List Int) × Int × Int × (List Int), (.cons (dRo 3) (.cons (dRo 3) (.row 3 0 (.cons (dInt .i64) (.cons (dInt .i64) (.last (dRo 3) .nil)))))), fun k z => foliotref01_plus.j1 k z.1 z.2.1 z.2.2.1 z.2.2.2.1 z.2.2.2.2⟩
def foliotref01_plus.cs : List (CutS R ((List Int))) := [foliotref01_plus.cl0, foliotref01_plus.cj0, foliotref01_plus.cj1]
theorem foliotref01_plus.hE (k : Nat) : EnvOk Try.prog (foliotref01_plus.E k) := ⟨tabs, ctOf_ok (all_cons (foliotref01_trim_s1.ok k) all_nil), mtNone_ok, mixed, eqs_, flats_⟩
theorem foliotref01_plus.ol0 : (foliotref01_plus.cl0).Ok foliotref01_plus.E Try.f66.results.toList 0 (bodyOf Try.f66) foliotref01_plus.cs foliotref01_plus.F.ret := ⟨fun z => rfl, fun k z => by
 show foliotref01_plus.l0 (k + 1) z.1 z.2.1 z.2.2.1 z.2.2.2.1 z.2.2.2.2 = _
 rw [foliotref01_plus.l0]
 kernel_rfl⟩
theorem foliotref01_plus.oj0 : (foliotref01_plus.cj0).Ok foliotref01_plus.E Try.f66.results.toList 0 (bodyOf Try.f66) foliotref01_plus.cs foliotref01_plus.F.ret := ⟨fun z => rfl, fun k z => by
 show foliotref01_plus.j0 (k + 1) z.1 z.2.1 z.2.2.1 z.2.2.2.1 z.2.2.2.2 = _
 rw [foliotref01_plus.j0]
 kernel_rfl⟩
theorem foliotref01_plus.oj1 : (foliotref01_plus.cj1).Ok foliotref01_plus.E Try.f66.results.toList 0 (bodyOf Try.f66) foliotref01_plus.cs foliotref01_plus.F.ret := ⟨fun z => rfl, fun k z => by
 show foliotref01_plus.j1 (k + 1) z.1 z.2.1 z.2.2.1 z.2.2.2.1 z.2.2.2.2 = _
 rw [foliotref01_plus.j1]
 kernel_rfl⟩
theorem foliotref01_plus.q (k : Nat) (y : (List Int) × (List Int)) : foliotref01_plus.p k y = foliotref01_plus.F.run foliotref01_plus.E Try.f66.results.toList (bodyOf Try.f66) foliotref01_plus.cs k y := by kernel_rfl
theorem foliotref01_plus.ok (k : Nat) : CsemOk R Try.prog 66 (foliotref01_plus.F.sem (foliotref01_plus.p k)) := fn_ok (F := foliotref01_plus.F) (f := foliotref01_plus.p) (E := foliotref01_plus.E) foliotref01_plus.hE (fun _ => rfl) Try.func66 (body := (bodyOf Try.f66)) rfl (by kernel_rfl) rfl (by decide) (by kernel_rfl) (cuts := foliotref01_plus.cs) (all_cons foliotref01_plus.ol0 (all_cons foliotref01_plus.oj0 (all_cons foliotref01_plus.oj1 all_nil))) foliotref01_plus.q k
def foliotref01_minus.F : FnS R ((List Int) × (List Int)) ((List Int)) := ⟨[.lf, .lf], [], (.cons (dRo 3) (.last (dRo 3) .nil)), .lf, [.row 3 3], (.row 3 0 (.last (dRo 3) .nil))⟩
def foliotref01_minus.p (k : Nat) (y : (List Int) × (List Int)) : Option ((List Int)) := foliotref01_minus.f k y.1 y.2
def foliotref01_minus.E (k : Nat) : Env R := ⟨tabOf tabL, ctOf [(72, (foliotref01_trim_s1.F.sem (foliotref01_trim_s1.p k)))], mtNone, fun _ => false, codes, rts, 42, fun _ => [], owns, [], eqtOf eqs, fun _ => false, flats⟩
def foliotref01_minus.cl0 : CutS R ((List Int)) := ⟨8, [0, 1, 5, 6, 7], [], [.lf, .lf, .lf, .lf, .lf], [.row 3 3], (List Int) × (List Int) × Int × Int × (List Int), (.cons (dRo 3) (.cons (dRo 3) (.row 3 0 (.cons (dInt .i64) (.cons (dInt .i64) (.last (dRo 3) .nil)))))), fun k z => foliotref01_minus.l0 k z.1 z.2.1 z.2.2.1 z.2.2.2.1 z.2.2.2.2⟩
def foliotref01_minus.cj0 : CutS R ((List Int)) := ⟨18, [0, 1, 5, 7, 8], [], [.lf, .lf, .lf, .lf, .lf], [.row 3 3], (List Int) × (List Int) × Int × Int × (List Int), (.cons (dRo 3) (.cons (dRo 3) (.row 3 0 (.cons (dInt .i64) (.cons (dInt .i64) (.last (dRo 3) .nil)))))), fun k z => foliotref01_minus.j0 k z.1 z.2.1 z.2.2.1 z.2.2.2.1 z.2.2.2.2⟩
def foliotref01_minus.cs : List (CutS R ((List Int))) := [foliotref01_minus.cl0, foliotref01_minus.cj0]
theorem foliotref01_minus.hE (k : Nat) : EnvOk Try.prog (foliotref01_minus.E k) := ⟨tabs, ctOf_ok (all_cons (foliotref01_trim_s1.ok k) all_nil), mtNone_ok, mixed, eqs_, flats_⟩
theorem foliotref01_minus.ol0 : (foliotref01_minus.cl0).Ok foliotref01_minus.E Try.f67.results.toList 0 (bodyOf Try.f67) foliotref01_minus.cs foliotref01_minus.F.ret := ⟨fun z => rfl, fun k z => by
 show foliotref01_minus.l0 (k + 1) z.1 z.2.1 z.2.2.1 z.2.2.2.1 z.2.2.2.2 = _
 rw [foliotref01_minus.l0]
 kernel_rfl⟩
theorem foliotref01_minus.oj0 : (foliotref01_minus.cj0).Ok foliotref01_minus.E Try.f67.results.toList 0 (bodyOf Try.f67) foliotref01_minus.cs foliotref01_minus.F.ret := ⟨fun z => rfl, fun k z => by
 show foliotref01_minus.j0 (k + 1) z.1 z.2.1 z.2.2.1 z.2.2.2.1 z.2.2.2.2 = _
 rw [foliotref01_minus.j0]
 kernel_rfl⟩
theorem foliotref01_minus.q (k : Nat) (y : (List Int) × (List Int)) : foliotref01_minus.p k y = foliotref01_minus.F.run foliotref01_minus.E Try.f67.results.toList (bodyOf Try.f67) foliotref01_minus.cs k y := by kernel_rfl
theorem foliotref01_minus.ok (k : Nat) : CsemOk R Try.prog 67 (foliotref01_minus.F.sem (foliotref01_minus.p k)) := fn_ok (F := foliotref01_minus.F) (f := foliotref01_minus.p) (E := foliotref01_minus.E) foliotref01_minus.hE (fun _ => rfl) Try.func67 (body := (bodyOf Try.f67)) rfl (by kernel_rfl) rfl (by decide) (by kernel_rfl) (cuts := foliotref01_minus.cs) (all_cons foliotref01_minus.ol0 (all_cons foliotref01_minus.oj0 all_nil)) foliotref01_minus.q k
def foliotref01_sum.F : FnS R ((List Int) × Bool × (List Int) × Bool) (Bool × (List Int)) := ⟨[.agg 2, .agg 2], [], (.cons (dRo 3) (.cons dBool (.cons (dRo 3) (.last dBool .nil)))), .agg 2, [.row 3 3], (.row 3 0 (.cons dBool (.last (dRo 3) .nil)))⟩
def foliotref01_sum.p (k : Nat) (y : (List Int) × Bool × (List Int) × Bool) : Option (Bool × (List Int)) := foliotref01_sum.f k y.1 y.2.1 y.2.2.1 y.2.2.2
def foliotref01_sum.E (k : Nat) : Env R := ⟨tabOf tabL, ctOf [(66, (foliotref01_plus.F.sem (foliotref01_plus.p k))), (65, (foliotref01_compare.F.sem (foliotref01_compare.p k))), (67, (foliotref01_minus.F.sem (foliotref01_minus.p k)))], mtNone, fun _ => false, codes, rts, 40, fun i => ordOf [(2, [(0, 0), (1, 0), (2, 0), (3, 0), (5, 0), (6, 0), (4, 1), (7, 0), (8, 2)]), (4, [(0, 0), (1, 0), (2, 0), (3, 0), (5, 0), (6, 0), (4, 1), (7, 0), (8, 2)]), (5, [(0, 0), (1, 0), (2, 0), (3, 0), (5, 0), (6, 0), (4, 1), (7, 0), (8, 2)])] i, owns, [], eqtOf eqs, fun _ => false, flats⟩
def foliotref01_sum.cs : List (CutS R (Bool × (List Int))) := []
theorem foliotref01_sum.hE (k : Nat) : EnvOk Try.prog (foliotref01_sum.E k) := ⟨tabs, ctOf_ok (all_cons (foliotref01_plus.ok k) (all_cons (foliotref01_compare.ok k) (all_cons (foliotref01_minus.ok k) all_nil))), mtNone_ok, mixed, eqs_, flats_⟩
theorem foliotref01_sum.q (k : Nat) (y : (List Int) × Bool × (List Int) × Bool) : foliotref01_sum.p k y = foliotref01_sum.F.run foliotref01_sum.E Try.f52.results.toList (bodyOf Try.f52) foliotref01_sum.cs k y := by kernel_rfl
theorem foliotref01_sum.ok (k : Nat) : CsemOk R Try.prog 52 (foliotref01_sum.F.sem (foliotref01_sum.p k)) := fn_ok (F := foliotref01_sum.F) (f := foliotref01_sum.p) (E := foliotref01_sum.E) foliotref01_sum.hE (fun _ => rfl) Try.func52 (body := (bodyOf Try.f52)) rfl (by kernel_rfl) rfl (by decide) (by kernel_rfl) (cuts := foliotref01_sum.cs) all_nil foliotref01_sum.q k
def foliotref01_span.F : FnS R ((List Int) × Bool) (Int) := ⟨[.agg 2], [], (.cons (dRo 3) (.last dBool .nil)), .lf, [], (.last (dInt .i64) .nil)⟩
def foliotref01_span.p (k : Nat) (y : (List Int) × Bool) : Option (Int) := foliotref01_span.f k y.1 y.2
def foliotref01_span.E (k : Nat) : Env R := ⟨tabOf tabL, ctOf [(49, (foliotref01_cut.F.sem (foliotref01_cut.p k)))], mtNone, fun _ => false, codes, rts, 5, fun _ => [], owns, [], eqtOf eqs, fun _ => false, flats⟩
def foliotref01_span.cs : List (CutS R (Int)) := []
theorem foliotref01_span.hE (k : Nat) : EnvOk Try.prog (foliotref01_span.E k) := ⟨tabs, ctOf_ok (all_cons (foliotref01_cut.ok k) all_nil), mtNone_ok, mixed, eqs_, flats_⟩
theorem foliotref01_span.q (k : Nat) (y : (List Int) × Bool) : foliotref01_span.p k y = foliotref01_span.F.run foliotref01_span.E Try.f51.results.toList (bodyOf Try.f51) foliotref01_span.cs k y := by kernel_rfl
theorem foliotref01_span.ok (k : Nat) : CsemOk R Try.prog 51 (foliotref01_span.F.sem (foliotref01_span.p k)) := fn_ok (F := foliotref01_span.F) (f := foliotref01_span.p) (E := foliotref01_span.E) foliotref01_span.hE (fun _ => rfl) Try.func51 (body := (bodyOf Try.f51)) rfl (by kernel_rfl) rfl (by decide) (by kernel_rfl) (cuts := foliotref01_span.cs) all_nil foliotref01_span.q k
def foliotref01_Add.F : FnS R (Int × Int) (Int) := ⟨[.lf, .lf], [], (.cons (dInt .i64) (.last (dInt .i64) .nil)), .lf, [], (.last (dInt .i64) .nil)⟩
def foliotref01_Add.p (k : Nat) (y : Int × Int) : Option (Int) := foliotref01_Add.f k y.1 y.2
def foliotref01_Add.E (k : Nat) : Env R := ⟨tabOf tabL, ctOf [(53, (foliotref01_s.F.sem (foliotref01_s.p k))), (52, (foliotref01_sum.F.sem (foliotref01_sum.p k))), (51, (foliotref01_span.F.sem (foliotref01_span.p k)))], mtNone, fun f => memB f [51], codes, rts, 11, fun _ => [], owns, [], eqtOf eqs, fun f => memB f [52], flats⟩
def foliotref01_Add.cs : List (CutS R (Int)) := []
theorem foliotref01_Add.hE (k : Nat) : EnvOk Try.prog (foliotref01_Add.E k) := ⟨tabs, ctOf_ok (all_cons (foliotref01_s.ok k) (all_cons (foliotref01_sum.ok k) (all_cons (foliotref01_span.ok k) all_nil))), mtNone_ok, mixed, eqs_, flats_⟩
theorem foliotref01_Add.q (k : Nat) (y : Int × Int) : foliotref01_Add.p k y = foliotref01_Add.F.run foliotref01_Add.E Try.f32.results.toList (bodyOf Try.f32) foliotref01_Add.cs k y := by kernel_rfl
theorem foliotref01_Add.ok (k : Nat) : CsemOk R Try.prog 32 (foliotref01_Add.F.sem (foliotref01_Add.p k)) := fn_ok (F := foliotref01_Add.F) (f := foliotref01_Add.p) (E := foliotref01_Add.E) foliotref01_Add.hE (fun _ => rfl) Try.func32 (body := (bodyOf Try.f32)) rfl (by kernel_rfl) rfl (by decide) (by kernel_rfl) (cuts := foliotref01_Add.cs) all_nil foliotref01_Add.q k
def foliotref01_Abs.F : FnS R (Int) (Int) := ⟨[.lf], [], (.last (dInt .i64) .nil), .lf, [], (.last (dInt .i64) .nil)⟩
def foliotref01_Abs.p (k : Nat) (y : Int) : Option (Int) := foliotref01_Abs.f k y
def foliotref01_Abs.E (k : Nat) : Env R := ⟨tabOf tabL, ctOf [(53, (foliotref01_s.F.sem (foliotref01_s.p k))), (51, (foliotref01_span.F.sem (foliotref01_span.p k)))], mtNone, fun f => memB f [51], codes, rts, 8, fun _ => [], owns, [], eqtOf eqs, fun _ => false, flats⟩
def foliotref01_Abs.cs : List (CutS R (Int)) := []
theorem foliotref01_Abs.hE (k : Nat) : EnvOk Try.prog (foliotref01_Abs.E k) := ⟨tabs, ctOf_ok (all_cons (foliotref01_s.ok k) (all_cons (foliotref01_span.ok k) all_nil)), mtNone_ok, mixed, eqs_, flats_⟩
theorem foliotref01_Abs.q (k : Nat) (y : Int) : foliotref01_Abs.p k y = foliotref01_Abs.F.run foliotref01_Abs.E Try.f33.results.toList (bodyOf Try.f33) foliotref01_Abs.cs k y := by kernel_rfl
theorem foliotref01_Abs.ok (k : Nat) : CsemOk R Try.prog 33 (foliotref01_Abs.F.sem (foliotref01_Abs.p k)) := fn_ok (F := foliotref01_Abs.F) (f := foliotref01_Abs.p) (E := foliotref01_Abs.E) foliotref01_Abs.hE (fun _ => rfl) Try.func33 (body := (bodyOf Try.f33)) rfl (by kernel_rfl) rfl (by decide) (by kernel_rfl) (cuts := foliotref01_Abs.cs) all_nil foliotref01_Abs.q k
def foliotref15_Loop_since.F : FnS R (S50 × Int) (Int) := ⟨[.lf, .lf], [], (.cons (dEpt 7 0) (.last (dInt .i64) .nil)), .lf, [], (.last (dInt .i64) .nil)⟩
def foliotref15_Loop_since.p (k : Nat) (y : S50 × Int) : Option (Int) := foliotref15_Loop_since.f y.1 y.2
def foliotref15_Loop_since.E (k : Nat) : Env R := ⟨tabOf tabL, ctOf [], mtNone, fun _ => false, codes, rts, 12, fun _ => [], owns, [], eqtOf eqs, fun _ => false, flats⟩
def foliotref15_Loop_since.cs : List (CutS R (Int)) := []
theorem foliotref15_Loop_since.hE (k : Nat) : EnvOk Try.prog (foliotref15_Loop_since.E k) := ⟨tabs, ctOf_ok all_nil, mtNone_ok, mixed, eqs_, flats_⟩
theorem foliotref15_Loop_since.q (k : Nat) (y : S50 × Int) : foliotref15_Loop_since.p k y = foliotref15_Loop_since.F.run foliotref15_Loop_since.E Try.f34.results.toList (bodyOf Try.f34) foliotref15_Loop_since.cs k y := by kernel_rfl
theorem foliotref15_Loop_since.ok (k : Nat) : CsemOk R Try.prog 34 (foliotref15_Loop_since.F.sem (foliotref15_Loop_since.p k)) := fn_ok (F := foliotref15_Loop_since.F) (f := foliotref15_Loop_since.p) (E := foliotref15_Loop_since.E) foliotref15_Loop_since.hE (fun _ => rfl) Try.func34 (body := (bodyOf Try.f34)) rfl (by kernel_rfl) rfl (by decide) (by kernel_rfl) (cuts := foliotref15_Loop_since.cs) all_nil foliotref15_Loop_since.q k
def foliotref15_Loop_step.F : FnS R (Int × Int × Int × Int × Int × Int × Int × Int × Int × Int × Int × Int) (Int × Int × Int × Int × Int × Int × Int × Int × Int × Int × Int × Int) := ⟨[.lf, .lf, .lf], [.blk 10 50], (.ptr 0 0 (.cons (dInt .i64) (.cons (dInt .i64) (.cons (dInt .i64) (.cons (dInt .i64) (.cons (dInt .i64) (.cons (dInt .i64) (.cons (dInt .i64) (.cons (dInt .i64) (.cons (dInt .i64) (.cons (dInt .i64) (.cons (dInt .i64) (.last (dInt .i64) .nil))))))))))))), .tup [none, none], [.blk 10 50], (.cons (dInt .i64) (.cons (dInt .i64) (.cons (dInt .i64) (.cons (dInt .i64) (.cons (dInt .i64) (.cons (dInt .i64) (.cons (dInt .i64) (.cons (dInt .i64) (.cons (dInt .i64) (.cons (dInt .i64) (.cons (dInt .i64) (.last (dInt .i64) .nil))))))))))))⟩
def foliotref15_Loop_step.p (k : Nat) (y : Int × Int × Int × Int × Int × Int × Int × Int × Int × Int × Int × Int) : Option (Int × Int × Int × Int × Int × Int × Int × Int × Int × Int × Int × Int) := foliotref15_Loop_step.f y.1 y.2.1 y.2.2.1 y.2.2.2.1 y.2.2.2.2.1 y.2.2.2.2.2.1 y.2.2.2.2.2.2.1 y.2.2.2.2.2.2.2.1 y.2.2.2.2.2.2.2.2.1 y.2.2.2.2.2.2.2.2.2.1 y.2.2.2.2.2.2.2.2.2.2.1 y.2.2.2.2.2.2.2.2.2.2.2
def foliotref15_Loop_step.E (k : Nat) : Env R := ⟨tabOf tabL, ctOf [], mtNone, fun _ => false, codes, rts, 36, fun _ => [], owns, [], eqtOf eqs, fun _ => false, flats⟩
def foliotref15_Loop_step.cs : List (CutS R (Int × Int × Int × Int × Int × Int × Int × Int × Int × Int × Int × Int)) := []
theorem foliotref15_Loop_step.hE (k : Nat) : EnvOk Try.prog (foliotref15_Loop_step.E k) := ⟨tabs, ctOf_ok all_nil, mtNone_ok, mixed, eqs_, flats_⟩
theorem foliotref15_Loop_step.q (k : Nat) (y : Int × Int × Int × Int × Int × Int × Int × Int × Int × Int × Int × Int) : foliotref15_Loop_step.p k y = foliotref15_Loop_step.F.run foliotref15_Loop_step.E Try.f36.results.toList (bodyOf Try.f36) foliotref15_Loop_step.cs k y := by kernel_rfl
theorem foliotref15_Loop_step.ok (k : Nat) : CsemOk R Try.prog 36 (foliotref15_Loop_step.F.sem (foliotref15_Loop_step.p k)) := fn_ok (F := foliotref15_Loop_step.F) (f := foliotref15_Loop_step.p) (E := foliotref15_Loop_step.E) foliotref15_Loop_step.hE (fun _ => rfl) Try.func36 (body := (bodyOf Try.f36)) rfl (by kernel_rfl) rfl (by decide) (by kernel_rfl) (cuts := foliotref15_Loop_step.cs) all_nil foliotref15_Loop_step.q k
def foliotref01_negative.F : FnS R ((List Int) × Bool) ((List Int) × Bool) := ⟨[.agg 2], [], (.cons (dRo 3) (.last dBool .nil)), .agg 2, [], (.cons (dRo 3) (.last dBool .nil))⟩
def foliotref01_negative.p (k : Nat) (y : (List Int) × Bool) : Option ((List Int) × Bool) := foliotref01_negative.f y.1 y.2
def foliotref01_negative.E (k : Nat) : Env R := ⟨tabOf tabL, ctOf [], mtNone, fun _ => false, codes, rts, 9, fun _ => [], owns, [], eqtOf eqs, fun _ => false, flats⟩
def foliotref01_negative.cs : List (CutS R ((List Int) × Bool)) := []
theorem foliotref01_negative.hE (k : Nat) : EnvOk Try.prog (foliotref01_negative.E k) := ⟨tabs, ctOf_ok all_nil, mtNone_ok, mixed, eqs_, flats_⟩
theorem foliotref01_negative.q (k : Nat) (y : (List Int) × Bool) : foliotref01_negative.p k y = foliotref01_negative.F.run foliotref01_negative.E Try.f61.results.toList (bodyOf Try.f61) foliotref01_negative.cs k y := by kernel_rfl
theorem foliotref01_negative.ok (k : Nat) : CsemOk R Try.prog 61 (foliotref01_negative.F.sem (foliotref01_negative.p k)) := fn_ok (F := foliotref01_negative.F) (f := foliotref01_negative.p) (E := foliotref01_negative.E) foliotref01_negative.hE (fun _ => rfl) Try.func61 (body := (bodyOf Try.f61)) rfl (by kernel_rfl) rfl (by decide) (by kernel_rfl) (cuts := foliotref01_negative.cs) all_nil foliotref01_negative.q k
def foliotref01_negative_s1.F : FnS R (Bool × (List Int)) (Bool × (List Int)) := ⟨[.agg 2], [.row 3 3], (.row 3 0 (.cons dBool (.last (dRo 3) .nil))), .agg 2, [.row 3 3], (.row 3 0 (.cons dBool (.last (dRo 3) .nil)))⟩
def foliotref01_negative_s1.p (k : Nat) (y : Bool × (List Int)) : Option (Bool × (List Int)) := foliotref01_negative_s1.f y.1 y.2
def foliotref01_negative_s1.E (k : Nat) : Env R := ⟨tabOf tabL, ctOf [], mtNone, fun _ => false, codes, rts, 9, fun _ => [], owns, [], eqtOf eqs, fun _ => false, flats⟩
def foliotref01_negative_s1.cs : List (CutS R (Bool × (List Int))) := []
theorem foliotref01_negative_s1.hE (k : Nat) : EnvOk Try.prog (foliotref01_negative_s1.E k) := ⟨tabs, ctOf_ok all_nil, mtNone_ok, mixed, eqs_, flats_⟩
theorem foliotref01_negative_s1.q (k : Nat) (y : Bool × (List Int)) : foliotref01_negative_s1.p k y = foliotref01_negative_s1.F.run foliotref01_negative_s1.E Try.f61.results.toList (bodyOf Try.f61) foliotref01_negative_s1.cs k y := by kernel_rfl
theorem foliotref01_negative_s1.ok (k : Nat) : CsemOk R Try.prog 61 (foliotref01_negative_s1.F.sem (foliotref01_negative_s1.p k)) := fn_ok (F := foliotref01_negative_s1.F) (f := foliotref01_negative_s1.p) (E := foliotref01_negative_s1.E) foliotref01_negative_s1.hE (fun _ => rfl) Try.func61 (body := (bodyOf Try.f61)) rfl (by kernel_rfl) rfl (by decide) (by kernel_rfl) (cuts := foliotref01_negative_s1.cs) all_nil foliotref01_negative_s1.q k
def foliotref01_Sub.F : FnS R (Int × Int) (Int) := ⟨[.lf, .lf], [], (.cons (dInt .i64) (.last (dInt .i64) .nil)), .lf, [], (.last (dInt .i64) .nil)⟩
def foliotref01_Sub.p (k : Nat) (y : Int × Int) : Option (Int) := foliotref01_Sub.f k y.1 y.2
def foliotref01_Sub.E (k : Nat) : Env R := ⟨tabOf tabL, ctOf [(53, (foliotref01_s.F.sem (foliotref01_s.p k))), (61, (foliotref01_negative_s1.F.sem (foliotref01_negative_s1.p k))), (52, (foliotref01_sum.F.sem (foliotref01_sum.p k))), (51, (foliotref01_span.F.sem (foliotref01_span.p k)))], mtNone, fun f => memB f [51], codes, rts, 12, fun _ => [], owns, [], eqtOf eqs, fun f => memB f [52], flats⟩
def foliotref01_Sub.cs : List (CutS R (Int)) := []
theorem foliotref01_Sub.hE (k : Nat) : EnvOk Try.prog (foliotref01_Sub.E k) := ⟨tabs, ctOf_ok (all_cons (foliotref01_s.ok k) (all_cons (foliotref01_negative_s1.ok k) (all_cons (foliotref01_sum.ok k) (all_cons (foliotref01_span.ok k) all_nil)))), mtNone_ok, mixed, eqs_, flats_⟩
theorem foliotref01_Sub.q (k : Nat) (y : Int × Int) : foliotref01_Sub.p k y = foliotref01_Sub.F.run foliotref01_Sub.E Try.f40.results.toList (bodyOf Try.f40) foliotref01_Sub.cs k y := by kernel_rfl
theorem foliotref01_Sub.ok (k : Nat) : CsemOk R Try.prog 40 (foliotref01_Sub.F.sem (foliotref01_Sub.p k)) := fn_ok (F := foliotref01_Sub.F) (f := foliotref01_Sub.p) (E := foliotref01_Sub.E) foliotref01_Sub.hE (fun _ => rfl) Try.func40 (body := (bodyOf Try.f40)) rfl (by kernel_rfl) rfl (by decide) (by kernel_rfl) (cuts := foliotref01_Sub.cs) all_nil foliotref01_Sub.q k
def foliotref01_times.F : FnS R ((List Int) × (List Int)) ((List Int)) := ⟨[.lf, .lf], [], (.cons (dRo 3) (.last (dRo 3) .nil)), .lf, [.row 3 3], (.row 3 0 (.last (dRo 3) .nil))⟩
def foliotref01_times.p (k : Nat) (y : (List Int) × (List Int)) : Option ((List Int)) := foliotref01_times.f k y.1 y.2
def foliotref01_times.E (k : Nat) : Env R := ⟨tabOf tabL, ctOf [(72, (foliotref01_trim_s1.F.sem (foliotref01_trim_s1.p k)))], mtNone, fun _ => false, codes, rts, 67, fun i => ordOf [(11, [(0, 0), (1, 0), (2, 0), (3, 0), (4, 0), (5, 0), (6, 0), (7, 0), (8, 0), (9, 0), (10, 0), (11, 0)])] i, owns, [], eqtOf eqs, fun _ => false, flats⟩
def foliotref01_times.cl0 : CutS R ((List Int)) := ⟨6, [0, 1, 5, 6], [], [.lf, .lf, .lf, .lf], [.row 3 3], (List Int) × (List Int) × Int × (List Int), (.cons (dRo 3) (.cons (dRo 3) (.row 3 0 (.cons (dInt .i64) (.last (dRo 3) .nil))))), fun k z => foliotref01_times.l0 k z.1 z.2.1 z.2.2.1 z.2.2.2⟩
def foliotref01_times.cl1 : CutS R ((List Int)) := ⟨14, [0, 1, 5, 6, 7, 8], [], [.lf, .lf, .lf, .lf, .lf, .lf], [.row 3 3], (List Int) × (List Int) × Int × Int × Int × (List Int), (.cons (dRo 3) (.cons (dRo 3) (.row 3 0 (.cons (dInt .i64) (.cons (dInt .i64) (.cons (dInt .i64) (.last (dRo 3) .nil))))))), fun k z => foliotref01_times.l1 k z.1 z.2.1 z.2.2.1 z.2.2.2.1 z.2.2.2.2.1 z.2.2.2.2.2⟩
def foliotref01_times.cj0 : CutS R ((List Int)) := ⟨24, [0, 1, 5, 6, 8, 9], [], [.lf, .lf, .lf, .lf, .lf, .lf], [.row 3 3], (List Int) × (List Int) × Int × Int × Int × (List Int), (.cons (dRo 3) (.cons (dRo 3) (.row 3 0 (.cons (dInt .i64) (.cons (dInt .i64) (.cons (dInt .i64) (.last (dRo 3) .nil))))))), fun k z => foliotref01_times.j0 k z.1 z.2.1 z.2.2.1 z.2.2.2.1 z.2.2.2.2.1 z.2.2.2.2.2⟩
def foliotref01_times.cs : List (CutS R ((List Int))) := [foliotref01_times.cl0, foliotref01_times.cl1, foliotref01_times.cj0]
theorem foliotref01_times.hE (k : Nat) : EnvOk Try.prog (foliotref01_times.E k) := ⟨tabs, ctOf_ok (all_cons (foliotref01_trim_s1.ok k) all_nil), mtNone_ok, mixed, eqs_, flats_⟩
theorem foliotref01_times.ol0 : (foliotref01_times.cl0).Ok foliotref01_times.E Try.f69.results.toList 0 (bodyOf Try.f69) foliotref01_times.cs foliotref01_times.F.ret := ⟨fun z => rfl, fun k z => by
 show foliotref01_times.l0 (k + 1) z.1 z.2.1 z.2.2.1 z.2.2.2 = _
 rw [foliotref01_times.l0]
 kernel_rfl⟩
theorem foliotref01_times.ol1 : (foliotref01_times.cl1).Ok foliotref01_times.E Try.f69.results.toList 0 (bodyOf Try.f69) foliotref01_times.cs foliotref01_times.F.ret := ⟨fun z => rfl, fun k z => by
 show foliotref01_times.l1 (k + 1) z.1 z.2.1 z.2.2.1 z.2.2.2.1 z.2.2.2.2.1 z.2.2.2.2.2 = _
 rw [foliotref01_times.l1]
 kernel_rfl⟩
theorem foliotref01_times.oj0 : (foliotref01_times.cj0).Ok foliotref01_times.E Try.f69.results.toList 0 (bodyOf Try.f69) foliotref01_times.cs foliotref01_times.F.ret := ⟨fun z => rfl, fun k z => by
 show foliotref01_times.j0 (k + 1) z.1 z.2.1 z.2.2.1 z.2.2.2.1 z.2.2.2.2.1 z.2.2.2.2.2 = _
 rw [foliotref01_times.j0]
 kernel_rfl⟩
theorem foliotref01_times.q (k : Nat) (y : (List Int) × (List Int)) : foliotref01_times.p k y = foliotref01_times.F.run foliotref01_times.E Try.f69.results.toList (bodyOf Try.f69) foliotref01_times.cs k y := by kernel_rfl
theorem foliotref01_times.ok (k : Nat) : CsemOk R Try.prog 69 (foliotref01_times.F.sem (foliotref01_times.p k)) := fn_ok (F := foliotref01_times.F) (f := foliotref01_times.p) (E := foliotref01_times.E) foliotref01_times.hE (fun _ => rfl) Try.func69 (body := (bodyOf Try.f69)) rfl (by kernel_rfl) rfl (by decide) (by kernel_rfl) (cuts := foliotref01_times.cs) (all_cons foliotref01_times.ol0 (all_cons foliotref01_times.ol1 (all_cons foliotref01_times.oj0 all_nil))) foliotref01_times.q k
def foliotref01_product.F : FnS R ((List Int) × Bool × (List Int) × Bool) (Bool × (List Int)) := ⟨[.agg 2, .agg 2], [], (.cons (dRo 3) (.cons dBool (.cons (dRo 3) (.last dBool .nil)))), .agg 2, [.row 3 3], (.row 3 0 (.cons dBool (.last (dRo 3) .nil)))⟩
def foliotref01_product.p (k : Nat) (y : (List Int) × Bool × (List Int) × Bool) : Option (Bool × (List Int)) := foliotref01_product.f k y.1 y.2.1 y.2.2.1 y.2.2.2
def foliotref01_product.E (k : Nat) : Env R := ⟨tabOf tabL, ctOf [(69, (foliotref01_times.F.sem (foliotref01_times.p k)))], mtNone, fun _ => false, codes, rts, 16, fun i => ordOf [(1, [(0, 0), (1, 0), (2, 0), (3, 0), (5, 0), (6, 0), (7, 0), (8, 0), (9, 0), (4, 1), (10, 0), (11, 2)])] i, owns, [], eqtOf eqs, fun _ => false, flats⟩
def foliotref01_product.cs : List (CutS R (Bool × (List Int))) := []
theorem foliotref01_product.hE (k : Nat) : EnvOk Try.prog (foliotref01_product.E k) := ⟨tabs, ctOf_ok (all_cons (foliotref01_times.ok k) all_nil), mtNone_ok, mixed, eqs_, flats_⟩
theorem foliotref01_product.q (k : Nat) (y : (List Int) × Bool × (List Int) × Bool) : foliotref01_product.p k y = foliotref01_product.F.run foliotref01_product.E Try.f58.results.toList (bodyOf Try.f58) foliotref01_product.cs k y := by kernel_rfl
theorem foliotref01_product.ok (k : Nat) : CsemOk R Try.prog 58 (foliotref01_product.F.sem (foliotref01_product.p k)) := fn_ok (F := foliotref01_product.F) (f := foliotref01_product.p) (E := foliotref01_product.E) foliotref01_product.hE (fun _ => rfl) Try.func58 (body := (bodyOf Try.f58)) rfl (by kernel_rfl) rfl (by decide) (by kernel_rfl) (cuts := foliotref01_product.cs) all_nil foliotref01_product.q k
def foliotref01_two.F : FnS R (Int) (Bool × (List Int)) := ⟨[.lf], [], (.last (dInt .i64) .nil), .agg 2, [.row 3 3], (.row 3 0 (.cons dBool (.last (dRo 3) .nil)))⟩
def foliotref01_two.p (k : Nat) (y : Int) : Option (Bool × (List Int)) := foliotref01_two.f k y
def foliotref01_two.E (k : Nat) : Env R := ⟨tabOf tabL, ctOf [], mtNone, fun _ => false, codes, rts, 34, fun i => ordOf [(6, [(0, 0), (1, 0), (2, 0), (3, 0), (4, 0), (5, 0), (6, 0), (7, 0), (8, 0), (9, 0), (10, 0), (11, 0), (12, 2)])] i, owns, [], eqtOf eqs, fun _ => false, flats⟩
def foliotref01_two.cl0 : CutS R (Bool × (List Int)) := ⟨8, [0, 2, 3, 4], [], [.lf, .lf, .lf, .lf], [.blk 2 78, .blk 2 78, .row 3 3, .row 3 3], Int × Int × Bool × Bool × (List Int) × (List Int), (.cons (dInt .i64) (.ptr 0 0 (.ptr 1 0 (.cons (dInt .i64) (.row 3 2 (.cons dBool (.row 3 3 (.cons dBool (.cons (dRo 3) (.last (dRo 3) .nil)))))))))), fun k z => foliotref01_two.l0 k z.1 z.2.1 z.2.2.1 z.2.2.2.1 z.2.2.2.2.1 z.2.2.2.2.2⟩
def foliotref01_two.cs : List (CutS R (Bool × (List Int))) := [foliotref01_two.cl0]
theorem foliotref01_two.hE (k : Nat) : EnvOk Try.prog (foliotref01_two.E k) := ⟨tabs, ctOf_ok all_nil, mtNone_ok, mixed, eqs_, flats_⟩
theorem foliotref01_two.ol0 : (foliotref01_two.cl0).Ok foliotref01_two.E Try.f59.results.toList 0 (bodyOf Try.f59) foliotref01_two.cs foliotref01_two.F.ret := ⟨fun z => rfl, fun k z => by
 show foliotref01_two.l0 (k + 1) z.1 z.2.1 z.2.2.1 z.2.2.2.1 z.2.2.2.2.1 z.2.2.2.2.2 = _
 rw [foliotref01_two.l0]
 kernel_rfl⟩
theorem foliotref01_two.q (k : Nat) (y : Int) : foliotref01_two.p k y = foliotref01_two.F.run foliotref01_two.E Try.f59.results.toList (bodyOf Try.f59) foliotref01_two.cs k y := by kernel_rfl
theorem foliotref01_two.ok (k : Nat) : CsemOk R Try.prog 59 (foliotref01_two.F.sem (foliotref01_two.p k)) := fn_ok (F := foliotref01_two.F) (f := foliotref01_two.p) (E := foliotref01_two.E) foliotref01_two.hE (fun _ => rfl) Try.func59 (body := (bodyOf Try.f59)) rfl (by kernel_rfl) rfl (by decide) (by kernel_rfl) (cuts := foliotref01_two.cs) (all_cons foliotref01_two.ol0 all_nil) foliotref01_two.q k
def foliotref01_divide.F : FnS R ((List Int) × (List Int)) ((List Int) × (List Int)) := ⟨[.lf, .lf], [], (.cons (dRo 3) (.last (dRo 3) .nil)), .tup [none, none], [.row 3 3, .row 3 3], (.row 3 0 (.row 3 1 (.cons (dRo 3) (.last (dRo 3) .nil))))⟩
def foliotref01_divide.p (k : Nat) (y : (List Int) × (List Int)) : Option ((List Int) × (List Int)) := foliotref01_divide.f k y.1 y.2
def foliotref01_divide.E (k : Nat) : Env R := ⟨tabOf tabL, ctOf [(72, (foliotref01_trim_s1.F.sem (foliotref01_trim_s1.p k))), (69, (foliotref01_times.F.sem (foliotref01_times.p k))), (65, (foliotref01_compare.F.sem (foliotref01_compare.p k))), (67, (foliotref01_minus.F.sem (foliotref01_minus.p k)))], mtNone, fun f => memB f [65], codes, rts, 68, fun _ => [], owns, [], eqtOf eqs, fun f => memB f [67, 69], flats⟩
def foliotref01_divide.cl0 : CutS R ((List Int) × (List Int)) := ⟨8, [0, 1, 6, 7, 8], [], [.lf, .lf, .lf, .lf, .lf], [.row 3 3, .row 3 3], (List Int) × (List Int) × Int × (List Int) × (List Int), (.cons (dRo 3) (.cons (dRo 3) (.row 3 0 (.row 3 1 (.cons (dInt .i64) (.cons (dRo 3) (.last (dRo 3) .nil))))))), fun k z => foliotref01_divide.l0 k z.1 z.2.1 z.2.2.1 z.2.2.2.1 z.2.2.2.2⟩
def foliotref01_divide.cl1 : CutS R ((List Int) × (List Int)) := ⟨20, [0, 1, 6, 7, 8, 10, 11], [], [.lf, .lf, .lf, .lf, .lf, .lf, .lf], [.row 3 3, .row 3 3], (List Int) × (List Int) × Int × Int × Int × (List Int) × (List Int), (.cons (dRo 3) (.cons (dRo 3) (.row 3 0 (.row 3 1 (.cons (dInt .i64) (.cons (dInt .i64) (.cons (dInt .i64) (.cons (dRo 3) (.last (dRo 3) .nil))))))))), fun k z => foliotref01_divide.l1 k z.1 z.2.1 z.2.2.1 z.2.2.2.1 z.2.2.2.2.1 z.2.2.2.2.2.1 z.2.2.2.2.2.2⟩
def foliotref01_divide.cs : List (CutS R ((List Int) × (List Int))) := [foliotref01_divide.cl0, foliotref01_divide.cl1]
theorem foliotref01_divide.hE (k : Nat) : EnvOk Try.prog (foliotref01_divide.E k) := ⟨tabs, ctOf_ok (all_cons (foliotref01_trim_s1.ok k) (all_cons (foliotref01_times.ok k) (all_cons (foliotref01_compare.ok k) (all_cons (foliotref01_minus.ok k) all_nil)))), mtNone_ok, mixed, eqs_, flats_⟩
theorem foliotref01_divide.ol0 : (foliotref01_divide.cl0).Ok foliotref01_divide.E Try.f70.results.toList 0 (bodyOf Try.f70) foliotref01_divide.cs foliotref01_divide.F.ret := ⟨fun z => rfl, fun k z => by
 show foliotref01_divide.l0 (k + 1) z.1 z.2.1 z.2.2.1 z.2.2.2.1 z.2.2.2.2 = _
 rw [foliotref01_divide.l0]
 kernel_rfl⟩
theorem foliotref01_divide.ol1 : (foliotref01_divide.cl1).Ok foliotref01_divide.E Try.f70.results.toList 0 (bodyOf Try.f70) foliotref01_divide.cs foliotref01_divide.F.ret := ⟨fun z => rfl, fun k z => by
 show foliotref01_divide.l1 (k + 1) z.1 z.2.1 z.2.2.1 z.2.2.2.1 z.2.2.2.2.1 z.2.2.2.2.2.1 z.2.2.2.2.2.2 = _
 rw [foliotref01_divide.l1]
 kernel_rfl⟩
theorem foliotref01_divide.q (k : Nat) (y : (List Int) × (List Int)) : foliotref01_divide.p k y = foliotref01_divide.F.run foliotref01_divide.E Try.f70.results.toList (bodyOf Try.f70) foliotref01_divide.cs k y := by kernel_rfl
theorem foliotref01_divide.ok (k : Nat) : CsemOk R Try.prog 70 (foliotref01_divide.F.sem (foliotref01_divide.p k)) := fn_ok (F := foliotref01_divide.F) (f := foliotref01_divide.p) (E := foliotref01_divide.E) foliotref01_divide.hE (fun _ => rfl) Try.func70 (body := (bodyOf Try.f70)) rfl (by kernel_rfl) rfl (by decide) (by kernel_rfl) (cuts := foliotref01_divide.cs) (all_cons foliotref01_divide.ol0 (all_cons foliotref01_divide.ol1 all_nil)) foliotref01_divide.q k
def foliotref01_down.F : FnS R ((List Int) × Bool × (List Int) × Bool) (Bool × (List Int)) := ⟨[.agg 2, .agg 2], [], (.cons (dRo 3) (.cons dBool (.cons (dRo 3) (.last dBool .nil)))), .agg 2, [.row 3 3], (.row 3 0 (.cons dBool (.last (dRo 3) .nil)))⟩
def foliotref01_down.p (k : Nat) (y : (List Int) × Bool × (List Int) × Bool) : Option (Bool × (List Int)) := foliotref01_down.f k y.1 y.2.1 y.2.2.1 y.2.2.2
def foliotref01_down.E (k : Nat) : Env R := ⟨tabOf tabL, ctOf [(70, (foliotref01_divide.F.sem (foliotref01_divide.p k))), (66, (foliotref01_plus.F.sem (foliotref01_plus.p k)))], mtNone, fun _ => false, codes, rts, 31, fun _ => [], owns, [], eqtOf eqs, fun f => memB f [66], flats⟩
def foliotref01_down.cs : List (CutS R (Bool × (List Int))) := []
theorem foliotref01_down.hE (k : Nat) : EnvOk Try.prog (foliotref01_down.E k) := ⟨tabs, ctOf_ok (all_cons (foliotref01_divide.ok k) (all_cons (foliotref01_plus.ok k) all_nil)), mtNone_ok, mixed, eqs_, flats_⟩
theorem foliotref01_down.q (k : Nat) (y : (List Int) × Bool × (List Int) × Bool) : foliotref01_down.p k y = foliotref01_down.F.run foliotref01_down.E Try.f60.results.toList (bodyOf Try.f60) foliotref01_down.cs k y := by kernel_rfl
theorem foliotref01_down.ok (k : Nat) : CsemOk R Try.prog 60 (foliotref01_down.F.sem (foliotref01_down.p k)) := fn_ok (F := foliotref01_down.F) (f := foliotref01_down.p) (E := foliotref01_down.E) foliotref01_down.hE (fun _ => rfl) Try.func60 (body := (bodyOf Try.f60)) rfl (by kernel_rfl) rfl (by decide) (by kernel_rfl) (cuts := foliotref01_down.cs) all_nil foliotref01_down.q k
def foliotref01_Mul.F : FnS R (Int × Int) (Int) := ⟨[.lf, .lf], [], (.cons (dInt .i64) (.last (dInt .i64) .nil)), .lf, [], (.last (dInt .i64) .nil)⟩
def foliotref01_Mul.p (k : Nat) (y : Int × Int) : Option (Int) := foliotref01_Mul.f k y.1 y.2
def foliotref01_Mul.E (k : Nat) : Env R := ⟨tabOf tabL, ctOf [(53, (foliotref01_s.F.sem (foliotref01_s.p k))), (58, (foliotref01_product.F.sem (foliotref01_product.p k))), (59, (foliotref01_two.F.sem (foliotref01_two.p k))), (60, (foliotref01_down.F.sem (foliotref01_down.p k))), (51, (foliotref01_span.F.sem (foliotref01_span.p k)))], mtNone, fun f => memB f [51], codes, rts, 13, fun _ => [], owns, [], eqtOf eqs, fun f => memB f [58, 60], flats⟩
def foliotref01_Mul.cs : List (CutS R (Int)) := []
theorem foliotref01_Mul.hE (k : Nat) : EnvOk Try.prog (foliotref01_Mul.E k) := ⟨tabs, ctOf_ok (all_cons (foliotref01_s.ok k) (all_cons (foliotref01_product.ok k) (all_cons (foliotref01_two.ok k) (all_cons (foliotref01_down.ok k) (all_cons (foliotref01_span.ok k) all_nil))))), mtNone_ok, mixed, eqs_, flats_⟩
theorem foliotref01_Mul.q (k : Nat) (y : Int × Int) : foliotref01_Mul.p k y = foliotref01_Mul.F.run foliotref01_Mul.E Try.f68.results.toList (bodyOf Try.f68) foliotref01_Mul.cs k y := by kernel_rfl
theorem foliotref01_Mul.ok (k : Nat) : CsemOk R Try.prog 68 (foliotref01_Mul.F.sem (foliotref01_Mul.p k)) := fn_ok (F := foliotref01_Mul.F) (f := foliotref01_Mul.p) (E := foliotref01_Mul.E) foliotref01_Mul.hE (fun _ => rfl) Try.func68 (body := (bodyOf Try.f68)) rfl (by kernel_rfl) rfl (by decide) (by kernel_rfl) (cuts := foliotref01_Mul.cs) all_nil foliotref01_Mul.q k
def foliotref15_seconds.F : FnS R (Int) (Int) := ⟨[.lf], [], (.last (dInt .i64) .nil), .lf, [], (.last (dInt .i64) .nil)⟩
def foliotref15_seconds.p (k : Nat) (y : Int) : Option (Int) := foliotref15_seconds.f k y
def foliotref15_seconds.E (k : Nat) : Env R := ⟨tabOf tabL, ctOf [(68, (foliotref01_Mul.F.sem (foliotref01_Mul.p k)))], mtNone, fun _ => false, codes, rts, 6, fun _ => [], owns, [], eqtOf eqs, fun _ => false, flats⟩
def foliotref15_seconds.cs : List (CutS R (Int)) := []
theorem foliotref15_seconds.hE (k : Nat) : EnvOk Try.prog (foliotref15_seconds.E k) := ⟨tabs, ctOf_ok (all_cons (foliotref01_Mul.ok k) all_nil), mtNone_ok, mixed, eqs_, flats_⟩
theorem foliotref15_seconds.q (k : Nat) (y : Int) : foliotref15_seconds.p k y = foliotref15_seconds.F.run foliotref15_seconds.E Try.f55.results.toList (bodyOf Try.f55) foliotref15_seconds.cs k y := by kernel_rfl
theorem foliotref15_seconds.ok (k : Nat) : CsemOk R Try.prog 55 (foliotref15_seconds.F.sem (foliotref15_seconds.p k)) := fn_ok (F := foliotref15_seconds.F) (f := foliotref15_seconds.p) (E := foliotref15_seconds.E) foliotref15_seconds.hE (fun _ => rfl) Try.func55 (body := (bodyOf Try.f55)) rfl (by kernel_rfl) rfl (by decide) (by kernel_rfl) (cuts := foliotref15_seconds.cs) all_nil foliotref15_seconds.q k
def foliotref01_Rate.F : FnS R (Int × Int) (Int) := ⟨[.lf, .lf], [], (.cons (dInt .i64) (.last (dInt .i64) .nil)), .lf, [], (.last (dInt .i64) .nil)⟩
def foliotref01_Rate.p (k : Nat) (y : Int × Int) : Option (Int) := foliotref01_Rate.f k y.1 y.2
def foliotref01_Rate.E (k : Nat) : Env R := ⟨tabOf tabL, ctOf [(53, (foliotref01_s.F.sem (foliotref01_s.p k))), (59, (foliotref01_two.F.sem (foliotref01_two.p k))), (58, (foliotref01_product.F.sem (foliotref01_product.p k))), (60, (foliotref01_down.F.sem (foliotref01_down.p k))), (49, (foliotref01_cut.F.sem (foliotref01_cut.p k)))], mtNone, fun f => memB f [49], codes, rts, 15, fun _ => [], owns, [], eqtOf eqs, fun f => memB f [58, 60], flats⟩
def foliotref01_Rate.cs : List (CutS R (Int)) := []
theorem foliotref01_Rate.hE (k : Nat) : EnvOk Try.prog (foliotref01_Rate.E k) := ⟨tabs, ctOf_ok (all_cons (foliotref01_s.ok k) (all_cons (foliotref01_two.ok k) (all_cons (foliotref01_product.ok k) (all_cons (foliotref01_down.ok k) (all_cons (foliotref01_cut.ok k) all_nil))))), mtNone_ok, mixed, eqs_, flats_⟩
theorem foliotref01_Rate.q (k : Nat) (y : Int × Int) : foliotref01_Rate.p k y = foliotref01_Rate.F.run foliotref01_Rate.E Try.f54.results.toList (bodyOf Try.f54) foliotref01_Rate.cs k y := by kernel_rfl
theorem foliotref01_Rate.ok (k : Nat) : CsemOk R Try.prog 54 (foliotref01_Rate.F.sem (foliotref01_Rate.p k)) := fn_ok (F := foliotref01_Rate.F) (f := foliotref01_Rate.p) (E := foliotref01_Rate.E) foliotref01_Rate.hE (fun _ => rfl) Try.func54 (body := (bodyOf Try.f54)) rfl (by kernel_rfl) rfl (by decide) (by kernel_rfl) (cuts := foliotref01_Rate.cs) all_nil foliotref01_Rate.q k
def foliotref15_Loop_measure.F : FnS R (Int × Int × Int × Int × Int × Int × Int × Int × Int × Int × Int × Int) (Int × Int × Int × Int × Int × Int × Int × Int × Int × Int) := ⟨[.lf, .lf, .lf], [.blk 10 50], (.ptr 0 0 (.cons (dInt .i64) (.cons (dInt .i64) (.cons (dInt .i64) (.cons (dInt .i64) (.cons (dInt .i64) (.cons (dInt .i64) (.cons (dInt .i64) (.cons (dInt .i64) (.cons (dInt .i64) (.cons (dInt .i64) (.cons (dInt .i64) (.last (dInt .i64) .nil))))))))))))), .tup [], [.blk 10 50], (.cons (dInt .i64) (.cons (dInt .i64) (.cons (dInt .i64) (.cons (dInt .i64) (.cons (dInt .i64) (.cons (dInt .i64) (.cons (dInt .i64) (.cons (dInt .i64) (.cons (dInt .i64) (.last (dInt .i64) .nil))))))))))⟩
def foliotref15_Loop_measure.p (k : Nat) (y : Int × Int × Int × Int × Int × Int × Int × Int × Int × Int × Int × Int) : Option (Int × Int × Int × Int × Int × Int × Int × Int × Int × Int) := foliotref15_Loop_measure.f k y.1 y.2.1 y.2.2.1 y.2.2.2.1 y.2.2.2.2.1 y.2.2.2.2.2.1 y.2.2.2.2.2.2.1 y.2.2.2.2.2.2.2.1 y.2.2.2.2.2.2.2.2.1 y.2.2.2.2.2.2.2.2.2.1 y.2.2.2.2.2.2.2.2.2.2.1 y.2.2.2.2.2.2.2.2.2.2.2
def foliotref15_Loop_measure.E (k : Nat) : Env R := ⟨tabOf tabL, ctOf [(34, (foliotref15_Loop_since.F.sem (foliotref15_Loop_since.p k))), (40, (foliotref01_Sub.F.sem (foliotref01_Sub.p k))), (55, (foliotref15_seconds.F.sem (foliotref15_seconds.p k))), (54, (foliotref01_Rate.F.sem (foliotref01_Rate.p k))), (31, (foliotref01_Cut.F.sem (foliotref01_Cut.p k)))], mtNone, fun f => memB f [31, 34, 40, 54, 55], codes, rts, 29, fun i => ordOf [(1, [(0, 0), (1, 0), (2, 0), (3, 0), (4, 0), (5, 0), (6, 0), (7, 0), (8, 0), (9, 0), (10, 0), (11, 0), (12, 0), (13, 0), (14, 0), (15, 0), (16, 0), (17, 0), (18, 2)])] i, owns, [], eqtOf eqs, fun _ => false, flats⟩
def foliotref15_Loop_measure.cs : List (CutS R (Int × Int × Int × Int × Int × Int × Int × Int × Int × Int)) := []
theorem foliotref15_Loop_measure.hE (k : Nat) : EnvOk Try.prog (foliotref15_Loop_measure.E k) := ⟨tabs, ctOf_ok (all_cons (foliotref15_Loop_since.ok k) (all_cons (foliotref01_Sub.ok k) (all_cons (foliotref15_seconds.ok k) (all_cons (foliotref01_Rate.ok k) (all_cons (foliotref01_Cut.ok k) all_nil))))), mtNone_ok, mixed, eqs_, flats_⟩
theorem foliotref15_Loop_measure.q (k : Nat) (y : Int × Int × Int × Int × Int × Int × Int × Int × Int × Int × Int × Int) : foliotref15_Loop_measure.p k y = foliotref15_Loop_measure.F.run foliotref15_Loop_measure.E Try.f35.results.toList (bodyOf Try.f35) foliotref15_Loop_measure.cs k y := by kernel_rfl
theorem foliotref15_Loop_measure.ok (k : Nat) : CsemOk R Try.prog 35 (foliotref15_Loop_measure.F.sem (foliotref15_Loop_measure.p k)) := fn_ok (F := foliotref15_Loop_measure.F) (f := foliotref15_Loop_measure.p) (E := foliotref15_Loop_measure.E) foliotref15_Loop_measure.hE (fun _ => rfl) Try.func35 (body := (bodyOf Try.f35)) rfl (by kernel_rfl) rfl (by decide) (by kernel_rfl) (cuts := foliotref15_Loop_measure.cs) all_nil foliotref15_Loop_measure.q k
def foliotref01_Shift.F : FnS R (Int × Int) (Int) := ⟨[.lf, .lf], [], (.cons (dInt .i64) (.last (dInt .i64) .nil)), .lf, [], (.last (dInt .i64) .nil)⟩
def foliotref01_Shift.p (k : Nat) (y : Int × Int) : Option (Int) := foliotref01_Shift.f k y.1 y.2
def foliotref01_Shift.E (k : Nat) : Env R := ⟨tabOf tabL, ctOf [(53, (foliotref01_s.F.sem (foliotref01_s.p k))), (59, (foliotref01_two.F.sem (foliotref01_two.p k))), (58, (foliotref01_product.F.sem (foliotref01_product.p k))), (51, (foliotref01_span.F.sem (foliotref01_span.p k))), (60, (foliotref01_down.F.sem (foliotref01_down.p k)))], mtNone, fun f => memB f [51], codes, rts, 23, fun _ => [], owns, [], eqtOf eqs, fun f => memB f [58, 60], flats⟩
def foliotref01_Shift.cs : List (CutS R (Int)) := []
theorem foliotref01_Shift.hE (k : Nat) : EnvOk Try.prog (foliotref01_Shift.E k) := ⟨tabs, ctOf_ok (all_cons (foliotref01_s.ok k) (all_cons (foliotref01_two.ok k) (all_cons (foliotref01_product.ok k) (all_cons (foliotref01_span.ok k) (all_cons (foliotref01_down.ok k) all_nil))))), mtNone_ok, mixed, eqs_, flats_⟩
theorem foliotref01_Shift.q (k : Nat) (y : Int × Int) : foliotref01_Shift.p k y = foliotref01_Shift.F.run foliotref01_Shift.E Try.f39.results.toList (bodyOf Try.f39) foliotref01_Shift.cs k y := by kernel_rfl
theorem foliotref01_Shift.ok (k : Nat) : CsemOk R Try.prog 39 (foliotref01_Shift.F.sem (foliotref01_Shift.p k)) := fn_ok (F := foliotref01_Shift.F) (f := foliotref01_Shift.p) (E := foliotref01_Shift.E) foliotref01_Shift.hE (fun _ => rfl) Try.func39 (body := (bodyOf Try.f39)) rfl (by kernel_rfl) rfl (by decide) (by kernel_rfl) (cuts := foliotref01_Shift.cs) all_nil foliotref01_Shift.q k
def foliotref15_Loop_follow.F : FnS R (Int × Int × Int × Int × Int × Int × Int × Int × Int × Int × Int × Int × Int) (Int × Int × Int × Int × Int × Int × Int × Int × Int × Int × Int × Int) := ⟨[.lf, .lf, .lf, .lf], [.blk 10 50], (.ptr 0 0 (.cons (dInt .i64) (.cons (dInt .i64) (.cons (dInt .i64) (.cons (dInt .i64) (.cons (dInt .i64) (.cons (dInt .i64) (.cons (dInt .i64) (.cons (dInt .i64) (.cons (dInt .i64) (.cons (dInt .i64) (.cons (dInt .i64) (.cons (dInt .i64) (.last (dInt .i64) .nil)))))))))))))), .tup [none, none], [.blk 10 50], (.cons (dInt .i64) (.cons (dInt .i64) (.cons (dInt .i64) (.cons (dInt .i64) (.cons (dInt .i64) (.cons (dInt .i64) (.cons (dInt .i64) (.cons (dInt .i64) (.cons (dInt .i64) (.cons (dInt .i64) (.cons (dInt .i64) (.last (dInt .i64) .nil))))))))))))⟩
def foliotref15_Loop_follow.p (k : Nat) (y : Int × Int × Int × Int × Int × Int × Int × Int × Int × Int × Int × Int × Int) : Option (Int × Int × Int × Int × Int × Int × Int × Int × Int × Int × Int × Int) := foliotref15_Loop_follow.f k y.1 y.2.1 y.2.2.1 y.2.2.2.1 y.2.2.2.2.1 y.2.2.2.2.2.1 y.2.2.2.2.2.2.1 y.2.2.2.2.2.2.2.1 y.2.2.2.2.2.2.2.2.1 y.2.2.2.2.2.2.2.2.2.1 y.2.2.2.2.2.2.2.2.2.2.1 y.2.2.2.2.2.2.2.2.2.2.2.1 y.2.2.2.2.2.2.2.2.2.2.2.2
def foliotref15_Loop_follow.E (k : Nat) : Env R := ⟨tabOf tabL, ctOf [(33, (foliotref01_Abs.F.sem (foliotref01_Abs.p k))), (39, (foliotref01_Shift.F.sem (foliotref01_Shift.p k)))], mtNone, fun _ => false, codes, rts, 89, fun i => ordOf [(6, [(0, 0), (1, 0), (2, 0), (3, 0), (4, 0), (5, 0), (6, 0), (7, 0), (8, 0), (9, 0), (10, 0), (11, 0), (12, 2)]), (7, [(0, 0), (1, 0), (2, 0), (3, 0), (4, 0), (5, 0), (6, 0), (7, 0), (8, 0), (9, 0), (10, 0), (11, 0), (12, 0), (13, 2)])] i, owns, [], eqtOf eqs, fun _ => false, flats⟩
def foliotref15_Loop_follow.cj0 : CutS R (Int × Int × Int × Int × Int × Int × Int × Int × Int × Int × Int × Int) := ⟨16, [0], [], [.lf], [.blk 10 50], Int × Int × Int × Int × Int × Int × Int × Int × Int × Int, (.ptr 0 0 (.cons (dInt .i64) (.cons (dInt .i64) (.cons (dInt .i64) (.cons (dInt .i64) (.cons (dInt .i64) (.cons (dInt .i64) (.cons (dInt .i64) (.cons (dInt .i64) (.cons (dInt .i64) (.last (dInt .i64) .nil))))))))))), fun k z => foliotref15_Loop_follow.j0 k z.1 z.2.1 z.2.2.1 z.2.2.2.1 z.2.2.2.2.1 z.2.2.2.2.2.1 z.2.2.2.2.2.2.1 z.2.2.2.2.2.2.2.1 z.2.2.2.2.2.2.2.2.1 z.2.2.2.2.2.2.2.2.2⟩
def foliotref15_Loop_follow.cs : List (CutS R (Int × Int × Int × Int × Int × Int × Int × Int × Int × Int × Int × Int)) := [foliotref15_Loop_follow.cj0]
theorem foliotref15_Loop_follow.hE (k : Nat) : EnvOk Try.prog (foliotref15_Loop_follow.E k) := ⟨tabs, ctOf_ok (all_cons (foliotref01_Abs.ok k) (all_cons (foliotref01_Shift.ok k) all_nil)), mtNone_ok, mixed, eqs_, flats_⟩
theorem foliotref15_Loop_follow.oj0 : (foliotref15_Loop_follow.cj0).Ok foliotref15_Loop_follow.E Try.f38.results.toList 1 (bodyOf Try.f38) foliotref15_Loop_follow.cs foliotref15_Loop_follow.F.ret := ⟨fun z => rfl, fun k z => by
 show foliotref15_Loop_follow.j0 (k + 1) z.1 z.2.1 z.2.2.1 z.2.2.2.1 z.2.2.2.2.1 z.2.2.2.2.2.1 z.2.2.2.2.2.2.1 z.2.2.2.2.2.2.2.1 z.2.2.2.2.2.2.2.2.1 z.2.2.2.2.2.2.2.2.2 = _
 rw [foliotref15_Loop_follow.j0]
 kernel_rfl⟩
theorem foliotref15_Loop_follow.q (k : Nat) (y : Int × Int × Int × Int × Int × Int × Int × Int × Int × Int × Int × Int × Int) : foliotref15_Loop_follow.p k y = foliotref15_Loop_follow.F.run foliotref15_Loop_follow.E Try.f38.results.toList (bodyOf Try.f38) foliotref15_Loop_follow.cs k y := by kernel_rfl
theorem foliotref15_Loop_follow.ok (k : Nat) : CsemOk R Try.prog 38 (foliotref15_Loop_follow.F.sem (foliotref15_Loop_follow.p k)) := fn_ok (F := foliotref15_Loop_follow.F) (f := foliotref15_Loop_follow.p) (E := foliotref15_Loop_follow.E) foliotref15_Loop_follow.hE (fun _ => rfl) Try.func38 (body := (bodyOf Try.f38)) rfl (by kernel_rfl) rfl (by decide) (by kernel_rfl) (cuts := foliotref15_Loop_follow.cs) (all_cons foliotref15_Loop_follow.oj0 all_nil) foliotref15_Loop_follow.q k
def foliotref15_eight.F : FnS R (Int) (Int) := ⟨[.lf], [], (.last (dInt .i64) .nil), .lf, [], (.last (dInt .i64) .nil)⟩
def foliotref15_eight.p (k : Nat) (y : Int) : Option (Int) := foliotref15_eight.f k y
def foliotref15_eight.E (k : Nat) : Env R := ⟨tabOf tabL, ctOf [(55, (foliotref15_seconds.F.sem (foliotref15_seconds.p k))), (39, (foliotref01_Shift.F.sem (foliotref01_Shift.p k)))], mtNone, fun _ => false, codes, rts, 6, fun _ => [], owns, [], eqtOf eqs, fun _ => false, flats⟩
def foliotref15_eight.cs : List (CutS R (Int)) := []
theorem foliotref15_eight.hE (k : Nat) : EnvOk Try.prog (foliotref15_eight.E k) := ⟨tabs, ctOf_ok (all_cons (foliotref15_seconds.ok k) (all_cons (foliotref01_Shift.ok k) all_nil)), mtNone_ok, mixed, eqs_, flats_⟩
theorem foliotref15_eight.q (k : Nat) (y : Int) : foliotref15_eight.p k y = foliotref15_eight.F.run foliotref15_eight.E Try.f57.results.toList (bodyOf Try.f57) foliotref15_eight.cs k y := by kernel_rfl
theorem foliotref15_eight.ok (k : Nat) : CsemOk R Try.prog 57 (foliotref15_eight.F.sem (foliotref15_eight.p k)) := fn_ok (F := foliotref15_eight.F) (f := foliotref15_eight.p) (E := foliotref15_eight.E) foliotref15_eight.hE (fun _ => rfl) Try.func57 (body := (bodyOf Try.f57)) rfl (by kernel_rfl) rfl (by decide) (by kernel_rfl) (cuts := foliotref15_eight.cs) all_nil foliotref15_eight.q k
def foliotref01_Scale.F : FnS R (Int × Int × Int) (Int) := ⟨[.lf, .lf, .lf], [], (.cons (dInt .i64) (.cons (dInt .i64) (.last (dInt .i64) .nil))), .lf, [], (.last (dInt .i64) .nil)⟩
def foliotref01_Scale.p (k : Nat) (y : Int × Int × Int) : Option (Int) := foliotref01_Scale.f k y.1 y.2.1 y.2.2
def foliotref01_Scale.E (k : Nat) : Env R := ⟨tabOf tabL, ctOf [(53, (foliotref01_s.F.sem (foliotref01_s.p k))), (50, (foliotref01_of.F.sem (foliotref01_of.p k))), (58, (foliotref01_product.F.sem (foliotref01_product.p k))), (60, (foliotref01_down.F.sem (foliotref01_down.p k))), (51, (foliotref01_span.F.sem (foliotref01_span.p k)))], mtNone, fun f => memB f [51], codes, rts, 18, fun _ => [], owns, [], eqtOf eqs, fun f => memB f [58, 60], flats⟩
def foliotref01_Scale.cs : List (CutS R (Int)) := []
theorem foliotref01_Scale.hE (k : Nat) : EnvOk Try.prog (foliotref01_Scale.E k) := ⟨tabs, ctOf_ok (all_cons (foliotref01_s.ok k) (all_cons (foliotref01_of.ok k) (all_cons (foliotref01_product.ok k) (all_cons (foliotref01_down.ok k) (all_cons (foliotref01_span.ok k) all_nil))))), mtNone_ok, mixed, eqs_, flats_⟩
theorem foliotref01_Scale.q (k : Nat) (y : Int × Int × Int) : foliotref01_Scale.p k y = foliotref01_Scale.F.run foliotref01_Scale.E Try.f56.results.toList (bodyOf Try.f56) foliotref01_Scale.cs k y := by kernel_rfl
theorem foliotref01_Scale.ok (k : Nat) : CsemOk R Try.prog 56 (foliotref01_Scale.F.sem (foliotref01_Scale.p k)) := fn_ok (F := foliotref01_Scale.F) (f := foliotref01_Scale.p) (E := foliotref01_Scale.E) foliotref01_Scale.hE (fun _ => rfl) Try.func56 (body := (bodyOf Try.f56)) rfl (by kernel_rfl) rfl (by decide) (by kernel_rfl) (cuts := foliotref01_Scale.cs) all_nil foliotref01_Scale.q k
def foliotref15_Loop_adjust.F : FnS R (Int × Int × Int × Int × Int × Int × Int × Int × Int × Int × Int × Int) (Int × Int × Int × Int × Int × Int × Int × Int × Int × Int) := ⟨[.lf, .lf, .lf], [.blk 10 50], (.ptr 0 0 (.cons (dInt .i64) (.cons (dInt .i64) (.cons (dInt .i64) (.cons (dInt .i64) (.cons (dInt .i64) (.cons (dInt .i64) (.cons (dInt .i64) (.cons (dInt .i64) (.cons (dInt .i64) (.cons (dInt .i64) (.cons (dInt .i64) (.last (dInt .i64) .nil))))))))))))), .tup [], [.blk 10 50], (.cons (dInt .i64) (.cons (dInt .i64) (.cons (dInt .i64) (.cons (dInt .i64) (.cons (dInt .i64) (.cons (dInt .i64) (.cons (dInt .i64) (.cons (dInt .i64) (.cons (dInt .i64) (.last (dInt .i64) .nil))))))))))⟩
def foliotref15_Loop_adjust.p (k : Nat) (y : Int × Int × Int × Int × Int × Int × Int × Int × Int × Int × Int × Int) : Option (Int × Int × Int × Int × Int × Int × Int × Int × Int × Int) := foliotref15_Loop_adjust.f k y.1 y.2.1 y.2.2.1 y.2.2.2.1 y.2.2.2.2.1 y.2.2.2.2.2.1 y.2.2.2.2.2.2.1 y.2.2.2.2.2.2.2.1 y.2.2.2.2.2.2.2.2.1 y.2.2.2.2.2.2.2.2.2.1 y.2.2.2.2.2.2.2.2.2.2.1 y.2.2.2.2.2.2.2.2.2.2.2
def foliotref15_Loop_adjust.E (k : Nat) : Env R := ⟨tabOf tabL, ctOf [(34, (foliotref15_Loop_since.F.sem (foliotref15_Loop_since.p k))), (40, (foliotref01_Sub.F.sem (foliotref01_Sub.p k))), (57, (foliotref15_eight.F.sem (foliotref15_eight.p k))), (54, (foliotref01_Rate.F.sem (foliotref01_Rate.p k))), (31, (foliotref01_Cut.F.sem (foliotref01_Cut.p k))), (56, (foliotref01_Scale.F.sem (foliotref01_Scale.p k)))], mtNone, fun f => memB f [34], codes, rts, 55, fun _ => [], owns, [], eqtOf eqs, fun _ => false, flats⟩
def foliotref15_Loop_adjust.cl0 : CutS R (Int × Int × Int × Int × Int × Int × Int × Int × Int × Int) := ⟨10, [0, 1, 6, 8, 9], [], [.lf, .lf, .lf, .lf, .lf], [.blk 10 50], Int × Int × Int × Int × Int × Int × Int × Int × Int × Int × Int × Int × Int × Int, (.ptr 0 0 (.cons (dInt .i64) (.cons (dInt .i64) (.cons (dInt .i64) (.cons (dInt .i64) (.cons (dInt .i64) (.cons (dInt .i64) (.cons (dInt .i64) (.cons (dInt .i64) (.cons (dInt .i64) (.cons (dInt .i64) (.cons (dInt .i64) (.cons (dInt .i64) (.cons (dInt .i64) (.last (dInt .i64) .nil))))))))))))))), fun k z => foliotref15_Loop_adjust.l0 k z.1 z.2.1 z.2.2.1 z.2.2.2.1 z.2.2.2.2.1 z.2.2.2.2.2.1 z.2.2.2.2.2.2.1 z.2.2.2.2.2.2.2.1 z.2.2.2.2.2.2.2.2.1 z.2.2.2.2.2.2.2.2.2.1 z.2.2.2.2.2.2.2.2.2.2.1 z.2.2.2.2.2.2.2.2.2.2.2.1 z.2.2.2.2.2.2.2.2.2.2.2.2.1 z.2.2.2.2.2.2.2.2.2.2.2.2.2⟩
def foliotref15_Loop_adjust.cs : List (CutS R (Int × Int × Int × Int × Int × Int × Int × Int × Int × Int)) := [foliotref15_Loop_adjust.cl0]
theorem foliotref15_Loop_adjust.hE (k : Nat) : EnvOk Try.prog (foliotref15_Loop_adjust.E k) := ⟨tabs, ctOf_ok (all_cons (foliotref15_Loop_since.ok k) (all_cons (foliotref01_Sub.ok k) (all_cons (foliotref15_eight.ok k) (all_cons (foliotref01_Rate.ok k) (all_cons (foliotref01_Cut.ok k) (all_cons (foliotref01_Scale.ok k) all_nil)))))), mtNone_ok, mixed, eqs_, flats_⟩
theorem foliotref15_Loop_adjust.ol0 : (foliotref15_Loop_adjust.cl0).Ok foliotref15_Loop_adjust.E Try.f37.results.toList 1 (bodyOf Try.f37) foliotref15_Loop_adjust.cs foliotref15_Loop_adjust.F.ret := ⟨fun z => rfl, fun k z => by
 show foliotref15_Loop_adjust.l0 (k + 1) z.1 z.2.1 z.2.2.1 z.2.2.2.1 z.2.2.2.2.1 z.2.2.2.2.2.1 z.2.2.2.2.2.2.1 z.2.2.2.2.2.2.2.1 z.2.2.2.2.2.2.2.2.1 z.2.2.2.2.2.2.2.2.2.1 z.2.2.2.2.2.2.2.2.2.2.1 z.2.2.2.2.2.2.2.2.2.2.2.1 z.2.2.2.2.2.2.2.2.2.2.2.2.1 z.2.2.2.2.2.2.2.2.2.2.2.2.2 = _
 rw [foliotref15_Loop_adjust.l0]
 kernel_rfl⟩
theorem foliotref15_Loop_adjust.q (k : Nat) (y : Int × Int × Int × Int × Int × Int × Int × Int × Int × Int × Int × Int) : foliotref15_Loop_adjust.p k y = foliotref15_Loop_adjust.F.run foliotref15_Loop_adjust.E Try.f37.results.toList (bodyOf Try.f37) foliotref15_Loop_adjust.cs k y := by kernel_rfl
theorem foliotref15_Loop_adjust.ok (k : Nat) : CsemOk R Try.prog 37 (foliotref15_Loop_adjust.F.sem (foliotref15_Loop_adjust.p k)) := fn_ok (F := foliotref15_Loop_adjust.F) (f := foliotref15_Loop_adjust.p) (E := foliotref15_Loop_adjust.E) foliotref15_Loop_adjust.hE (fun _ => rfl) Try.func37 (body := (bodyOf Try.f37)) rfl (by kernel_rfl) rfl (by decide) (by kernel_rfl) (cuts := foliotref15_Loop_adjust.cs) (all_cons foliotref15_Loop_adjust.ol0 all_nil) foliotref15_Loop_adjust.q k
def foliotref15_Loop_Update.F : FnS R (Int × Int × Int × Int × Int × Int × Int × Int × Int × Int × Int × Int × Int) (Int × Int × Int × Int × Int × Int × Int × Int × Int × Int × Int × Int) := ⟨[.lf, .lf, .lf, .lf], [.blk 10 50], (.ptr 0 0 (.cons (dInt .i64) (.cons (dInt .i64) (.cons (dInt .i64) (.cons (dInt .i64) (.cons (dInt .i64) (.cons (dInt .i64) (.cons (dInt .i64) (.cons (dInt .i64) (.cons (dInt .i64) (.cons (dInt .i64) (.cons (dInt .i64) (.cons (dInt .i64) (.last (dInt .i64) .nil)))))))))))))), .tup [none, none], [.blk 10 50], (.cons (dInt .i64) (.cons (dInt .i64) (.cons (dInt .i64) (.cons (dInt .i64) (.cons (dInt .i64) (.cons (dInt .i64) (.cons (dInt .i64) (.cons (dInt .i64) (.cons (dInt .i64) (.cons (dInt .i64) (.cons (dInt .i64) (.last (dInt .i64) .nil))))))))))))⟩
def foliotref15_Loop_Update.p (k : Nat) (y : Int × Int × Int × Int × Int × Int × Int × Int × Int × Int × Int × Int × Int) : Option (Int × Int × Int × Int × Int × Int × Int × Int × Int × Int × Int × Int) := foliotref15_Loop_Update.f k y.1 y.2.1 y.2.2.1 y.2.2.2.1 y.2.2.2.2.1 y.2.2.2.2.2.1 y.2.2.2.2.2.2.1 y.2.2.2.2.2.2.2.1 y.2.2.2.2.2.2.2.2.1 y.2.2.2.2.2.2.2.2.2.1 y.2.2.2.2.2.2.2.2.2.2.1 y.2.2.2.2.2.2.2.2.2.2.2.1 y.2.2.2.2.2.2.2.2.2.2.2.2
def foliotref15_Loop_Update.E (k : Nat) : Env R := ⟨tabOf tabL, ctOf [(32, (foliotref01_Add.F.sem (foliotref01_Add.p k))), (33, (foliotref01_Abs.F.sem (foliotref01_Abs.p k))), (34, (foliotref15_Loop_since.F.sem (foliotref15_Loop_since.p k))), (35, (foliotref15_Loop_measure.F.sem (foliotref15_Loop_measure.p k))), (37, (foliotref15_Loop_adjust.F.sem (foliotref15_Loop_adjust.p k))), (38, (foliotref15_Loop_follow.F.sem (foliotref15_Loop_follow.p k))), (36, (foliotref15_Loop_step.F.sem (foliotref15_Loop_step.p k)))], mtNone, fun f => memB f [34], codes, rts, 106, fun i => ordOf [(6, [(0, 0), (1, 0), (2, 0), (3, 0), (4, 0), (5, 0), (6, 0), (7, 0), (8, 0)])] i, owns, [], eqtOf eqs, fun _ => false, flats⟩
def foliotref15_Loop_Update.cj0 : CutS R (Int × Int × Int × Int × Int × Int × Int × Int × Int × Int × Int × Int) := ⟨66, [0, 1, 2, 3], [], [.lf, .lf, .lf, .lf], [.blk 10 50], Int × Int × Int × Int × Int × Int × Int × Int × Int × Int × Int × Int × Int, (.ptr 0 0 (.cons (dInt .i64) (.cons (dInt .i64) (.cons (dInt .i64) (.cons (dInt .i64) (.cons (dInt .i64) (.cons (dInt .i64) (.cons (dInt .i64) (.cons (dInt .i64) (.cons (dInt .i64) (.cons (dInt .i64) (.cons (dInt .i64) (.cons (dInt .i64) (.last (dInt .i64) .nil)))))))))))))), fun k z => foliotref15_Loop_Update.j0 k z.1 z.2.1 z.2.2.1 z.2.2.2.1 z.2.2.2.2.1 z.2.2.2.2.2.1 z.2.2.2.2.2.2.1 z.2.2.2.2.2.2.2.1 z.2.2.2.2.2.2.2.2.1 z.2.2.2.2.2.2.2.2.2.1 z.2.2.2.2.2.2.2.2.2.2.1 z.2.2.2.2.2.2.2.2.2.2.2.1 z.2.2.2.2.2.2.2.2.2.2.2.2⟩
def foliotref15_Loop_Update.cj1 : CutS R (Int × Int × Int × Int × Int × Int × Int × Int × Int × Int × Int × Int) := ⟨68, [0, 1, 2, 3], [], [.lf, .lf, .lf, .lf], [.blk 10 50], Int × Int × Int × Int × Int × Int × Int × Int × Int × Int × Int × Int × Int, (.ptr 0 0 (.cons (dInt .i64) (.cons (dInt .i64) (.cons (dInt .i64) (.cons (dInt .i64) (.cons (dInt .i64) (.cons (dInt .i64) (.cons (dInt .i64) (.cons (dInt .i64) (.cons (dInt .i64) (.cons (dInt .i64) (.cons (dInt .i64) (.cons (dInt .i64) (.last (dInt .i64) .nil)))))))))))))), fun k z => foliotref15_Loop_Update.j1 k z.1 z.2.1 z.2.2.1 z.2.2.2.1 z.2.2.2.2.1 z.2.2.2.2.2.1 z.2.2.2.2.2.2.1 z.2.2.2.2.2.2.2.1 z.2.2.2.2.2.2.2.2.1 z.2.2.2.2.2.2.2.2.2.1 z.2.2.2.2.2.2.2.2.2.2.1 z.2.2.2.2.2.2.2.2.2.2.2.1 z.2.2.2.2.2.2.2.2.2.2.2.2⟩
def foliotref15_Loop_Update.cj2 : CutS R (Int × Int × Int × Int × Int × Int × Int × Int × Int × Int × Int × Int) := ⟨40, [0, 1, 3], [], [.lf, .lf, .lf], [.blk 10 50], Int × Int × Int × Int × Int × Int × Int × Int × Int × Int × Int × Int, (.ptr 0 0 (.cons (dInt .i64) (.cons (dInt .i64) (.cons (dInt .i64) (.cons (dInt .i64) (.cons (dInt .i64) (.cons (dInt .i64) (.cons (dInt .i64) (.cons (dInt .i64) (.cons (dInt .i64) (.cons (dInt .i64) (.cons (dInt .i64) (.last (dInt .i64) .nil))))))))))))), fun k z => foliotref15_Loop_Update.j2 k z.1 z.2.1 z.2.2.1 z.2.2.2.1 z.2.2.2.2.1 z.2.2.2.2.2.1 z.2.2.2.2.2.2.1 z.2.2.2.2.2.2.2.1 z.2.2.2.2.2.2.2.2.1 z.2.2.2.2.2.2.2.2.2.1 z.2.2.2.2.2.2.2.2.2.2.1 z.2.2.2.2.2.2.2.2.2.2.2⟩
def foliotref15_Loop_Update.cs : List (CutS R (Int × Int × Int × Int × Int × Int × Int × Int × Int × Int × Int × Int)) := [foliotref15_Loop_Update.cj0, foliotref15_Loop_Update.cj1, foliotref15_Loop_Update.cj2]
theorem foliotref15_Loop_Update.hE (k : Nat) : EnvOk Try.prog (foliotref15_Loop_Update.E k) := ⟨tabs, ctOf_ok (all_cons (foliotref01_Add.ok k) (all_cons (foliotref01_Abs.ok k) (all_cons (foliotref15_Loop_since.ok k) (all_cons (foliotref15_Loop_measure.ok k) (all_cons (foliotref15_Loop_adjust.ok k) (all_cons (foliotref15_Loop_follow.ok k) (all_cons (foliotref15_Loop_step.ok k) all_nil))))))), mtNone_ok, mixed, eqs_, flats_⟩
theorem foliotref15_Loop_Update.oj0 : (foliotref15_Loop_Update.cj0).Ok foliotref15_Loop_Update.E Try.f17.results.toList 1 (bodyOf Try.f17) foliotref15_Loop_Update.cs foliotref15_Loop_Update.F.ret := ⟨fun z => rfl, fun k z => by
 show foliotref15_Loop_Update.j0 (k + 1) z.1 z.2.1 z.2.2.1 z.2.2.2.1 z.2.2.2.2.1 z.2.2.2.2.2.1 z.2.2.2.2.2.2.1 z.2.2.2.2.2.2.2.1 z.2.2.2.2.2.2.2.2.1 z.2.2.2.2.2.2.2.2.2.1 z.2.2.2.2.2.2.2.2.2.2.1 z.2.2.2.2.2.2.2.2.2.2.2.1 z.2.2.2.2.2.2.2.2.2.2.2.2 = _
 rw [foliotref15_Loop_Update.j0]
 kernel_rfl⟩
theorem foliotref15_Loop_Update.oj1 : (foliotref15_Loop_Update.cj1).Ok foliotref15_Loop_Update.E Try.f17.results.toList 1 (bodyOf Try.f17) foliotref15_Loop_Update.cs foliotref15_Loop_Update.F.ret := ⟨fun z => rfl, fun k z => by
 show foliotref15_Loop_Update.j1 (k + 1) z.1 z.2.1 z.2.2.1 z.2.2.2.1 z.2.2.2.2.1 z.2.2.2.2.2.1 z.2.2.2.2.2.2.1 z.2.2.2.2.2.2.2.1 z.2.2.2.2.2.2.2.2.1 z.2.2.2.2.2.2.2.2.2.1 z.2.2.2.2.2.2.2.2.2.2.1 z.2.2.2.2.2.2.2.2.2.2.2.1 z.2.2.2.2.2.2.2.2.2.2.2.2 = _
 rw [foliotref15_Loop_Update.j1]
 kernel_rfl⟩
theorem foliotref15_Loop_Update.oj2 : (foliotref15_Loop_Update.cj2).Ok foliotref15_Loop_Update.E Try.f17.results.toList 1 (bodyOf Try.f17) foliotref15_Loop_Update.cs foliotref15_Loop_Update.F.ret := ⟨fun z => rfl, fun k z => by
 show foliotref15_Loop_Update.j2 (k + 1) z.1 z.2.1 z.2.2.1 z.2.2.2.1 z.2.2.2.2.1 z.2.2.2.2.2.1 z.2.2.2.2.2.2.1 z.2.2.2.2.2.2.2.1 z.2.2.2.2.2.2.2.2.1 z.2.2.2.2.2.2.2.2.2.1 z.2.2.2.2.2.2.2.2.2.2.1 z.2.2.2.2.2.2.2.2.2.2.2 = _
 rw [foliotref15_Loop_Update.j2]
 kernel_rfl⟩
theorem foliotref15_Loop_Update.q (k : Nat) (y : Int × Int × Int × Int × Int × Int × Int × Int × Int × Int × Int × Int × Int) : foliotref15_Loop_Update.p k y = foliotref15_Loop_Update.F.run foliotref15_Loop_Update.E Try.f17.results.toList (bodyOf Try.f17) foliotref15_Loop_Update.cs k y := by kernel_rfl
theorem foliotref15_Loop_Update.ok (k : Nat) : CsemOk R Try.prog 17 (foliotref15_Loop_Update.F.sem (foliotref15_Loop_Update.p k)) := fn_ok (F := foliotref15_Loop_Update.F) (f := foliotref15_Loop_Update.p) (E := foliotref15_Loop_Update.E) foliotref15_Loop_Update.hE (fun _ => rfl) Try.func17 (body := (bodyOf Try.f17)) rfl (by kernel_rfl) rfl (by decide) (by kernel_rfl) (cuts := foliotref15_Loop_Update.cs) (all_cons foliotref15_Loop_Update.oj0 (all_cons foliotref15_Loop_Update.oj1 (all_cons foliotref15_Loop_Update.oj2 all_nil))) foliotref15_Loop_Update.q k
def loop_Loop_Left.F : FnS R (S55) (Int) := ⟨[.lf], [], (.last (dEpt 6 0) .nil), .lf, [], (.last (dInt .i64) .nil)⟩
def loop_Loop_Left.p (k : Nat) (y : S55) : Option (Int) := loop_Loop_Left.f y
def loop_Loop_Left.E (k : Nat) : Env R := ⟨tabOf tabL, ctOf [], mtNone, fun _ => false, codes, rts, 7, fun _ => [], owns, [], eqtOf eqs, fun _ => false, flats⟩
def loop_Loop_Left.cs : List (CutS R (Int)) := []
theorem loop_Loop_Left.hE (k : Nat) : EnvOk Try.prog (loop_Loop_Left.E k) := ⟨tabs, ctOf_ok all_nil, mtNone_ok, mixed, eqs_, flats_⟩
theorem loop_Loop_Left.q (k : Nat) (y : S55) : loop_Loop_Left.p k y = loop_Loop_Left.F.run loop_Loop_Left.E Try.f15.results.toList (bodyOf Try.f15) loop_Loop_Left.cs k y := by kernel_rfl
theorem loop_Loop_Left.ok (k : Nat) : CsemOk R Try.prog 15 (loop_Loop_Left.F.sem (loop_Loop_Left.p k)) := fn_ok (F := loop_Loop_Left.F) (f := loop_Loop_Left.p) (E := loop_Loop_Left.E) loop_Loop_Left.hE (fun _ => rfl) Try.func15 (body := (bodyOf Try.f15)) rfl (by kernel_rfl) rfl (by decide) (by kernel_rfl) (cuts := loop_Loop_Left.cs) all_nil loop_Loop_Left.q k
def loop_Loop_Tick.F : FnS R (Int × Int × Int × Int × Int × Int × Int × Int × Int × Int) (Int × Int × Int × Int × Int × Int × Int × Int × Int × Int × Int) := ⟨[.lf], [.blk 10 55], (.ptr 0 0 (.cons (dInt .i64) (.cons (dInt .i64) (.cons (dInt .i64) (.cons (dInt .i64) (.cons (dInt .i64) (.cons (dInt .i64) (.cons (dInt .i64) (.cons (dInt .i64) (.cons (dInt .i64) (.last (dInt .i64) .nil))))))))))), .lf, [.blk 10 55], (.cons (dInt .i64) (.cons (dInt .i64) (.cons (dInt .i64) (.cons (dInt .i64) (.cons (dInt .i64) (.cons (dInt .i64) (.cons (dInt .i64) (.cons (dInt .i64) (.cons (dInt .i64) (.cons (dInt .i64) (.last (dInt .i64) .nil)))))))))))⟩
def loop_Loop_Tick.p (k : Nat) (y : Int × Int × Int × Int × Int × Int × Int × Int × Int × Int) : Option (Int × Int × Int × Int × Int × Int × Int × Int × Int × Int × Int) := loop_Loop_Tick.f y.1 y.2.1 y.2.2.1 y.2.2.2.1 y.2.2.2.2.1 y.2.2.2.2.2.1 y.2.2.2.2.2.2.1 y.2.2.2.2.2.2.2.1 y.2.2.2.2.2.2.2.2.1 y.2.2.2.2.2.2.2.2.2
def loop_Loop_Tick.E (k : Nat) : Env R := ⟨tabOf tabL, ctOf [(30, (fixed_Shift.F.sem (fixed_Shift.p k))), (26, (fixed_Sub.F.sem (fixed_Sub.p k)))], mtNone, fun f => memB f [30], codes, rts, 25, fun i => ordOf [(1, [(0, 0), (1, 0), (2, 0), (3, 0), (4, 0), (5, 0), (6, 0), (7, 0), (8, 0), (9, 0), (10, 0), (11, 0)])] i, owns, [], eqtOf eqs, fun _ => false, flats⟩
def loop_Loop_Tick.cs : List (CutS R (Int × Int × Int × Int × Int × Int × Int × Int × Int × Int × Int)) := []
theorem loop_Loop_Tick.hE (k : Nat) : EnvOk Try.prog (loop_Loop_Tick.E k) := ⟨tabs, ctOf_ok (all_cons (fixed_Shift.ok k) (all_cons (fixed_Sub.ok k) all_nil)), mtNone_ok, mixed, eqs_, flats_⟩
theorem loop_Loop_Tick.q (k : Nat) (y : Int × Int × Int × Int × Int × Int × Int × Int × Int × Int) : loop_Loop_Tick.p k y = loop_Loop_Tick.F.run loop_Loop_Tick.E Try.f18.results.toList (bodyOf Try.f18) loop_Loop_Tick.cs k y := by kernel_rfl
theorem loop_Loop_Tick.ok (k : Nat) : CsemOk R Try.prog 18 (loop_Loop_Tick.F.sem (loop_Loop_Tick.p k)) := fn_ok (F := loop_Loop_Tick.F) (f := loop_Loop_Tick.p) (E := loop_Loop_Tick.E) loop_Loop_Tick.hE (fun _ => rfl) Try.func18 (body := (bodyOf Try.f18)) rfl (by kernel_rfl) rfl (by decide) (by kernel_rfl) (cuts := loop_Loop_Tick.cs) all_nil loop_Loop_Tick.q k
def foliotlaw15_size.F : FnS R (Int) (Int) := ⟨[.lf], [], (.last (dInt .i64) .nil), .lf, [], (.last (dInt .i64) .nil)⟩
def foliotlaw15_size.p (k : Nat) (y : Int) : Option (Int) := foliotlaw15_size.f y
def foliotlaw15_size.E (k : Nat) : Env R := ⟨tabOf tabL, ctOf [], mtNone, fun _ => false, codes, rts, 10, fun _ => [], owns, [], eqtOf eqs, fun _ => false, flats⟩
def foliotlaw15_size.cs : List (CutS R (Int)) := []
theorem foliotlaw15_size.hE (k : Nat) : EnvOk Try.prog (foliotlaw15_size.E k) := ⟨tabs, ctOf_ok all_nil, mtNone_ok, mixed, eqs_, flats_⟩
theorem foliotlaw15_size.q (k : Nat) (y : Int) : foliotlaw15_size.p k y = foliotlaw15_size.F.run foliotlaw15_size.E Try.f12.results.toList (bodyOf Try.f12) foliotlaw15_size.cs k y := by kernel_rfl
theorem foliotlaw15_size.ok (k : Nat) : CsemOk R Try.prog 12 (foliotlaw15_size.F.sem (foliotlaw15_size.p k)) := fn_ok (F := foliotlaw15_size.F) (f := foliotlaw15_size.p) (E := foliotlaw15_size.E) foliotlaw15_size.hE (fun _ => rfl) Try.func12 (body := (bodyOf Try.f12)) rfl (by kernel_rfl) rfl (by decide) (by kernel_rfl) (cuts := foliotlaw15_size.cs) all_nil foliotlaw15_size.q k
def foliotlaw15_LoopSlews.F : FnS R ((List S112) × (List S115) × (List Int) × Int × (List S117) × ByteArray × (List ByteArray) × Int × Bool × Bool × Int × Int × Int × Int × Int × Int × Int) (Bool) := ⟨[.agg 15, .lf, .lf], [], (.cons (dRo 0) (.cons (dRo 1) (.cons (dRo 3) (.cons (dInt .i64) (.cons (dRo 4) (.cons dStr (.cons (dRo 5) (.cons (dInt .i64) (.cons dBool (.cons dBool (.cons (dInt .i64) (.cons (dInt .i64) (.cons (dInt .i64) (.cons (dInt .i64) (.cons (dInt .i64) (.cons (dInt .i64) (.last (dInt .u16) .nil))))))))))))))))), .lf, [], (.last dBool .nil)⟩
def foliotlaw15_LoopSlews.p (k : Nat) (y : (List S112) × (List S115) × (List Int) × Int × (List S117) × ByteArray × (List ByteArray) × Int × Bool × Bool × Int × Int × Int × Int × Int × Int × Int) : Option (Bool) := foliotlaw15_LoopSlews.f k y.1 y.2.1 y.2.2.1 y.2.2.2.1 y.2.2.2.2.1 y.2.2.2.2.2.1 y.2.2.2.2.2.2.1 y.2.2.2.2.2.2.2.1 y.2.2.2.2.2.2.2.2.1 y.2.2.2.2.2.2.2.2.2.1 y.2.2.2.2.2.2.2.2.2.2.1 y.2.2.2.2.2.2.2.2.2.2.2.1 y.2.2.2.2.2.2.2.2.2.2.2.2.1 y.2.2.2.2.2.2.2.2.2.2.2.2.2.1 y.2.2.2.2.2.2.2.2.2.2.2.2.2.2.1 y.2.2.2.2.2.2.2.2.2.2.2.2.2.2.2.1 y.2.2.2.2.2.2.2.2.2.2.2.2.2.2.2.2
def foliotlaw15_LoopSlews.E (k : Nat) : Env R := ⟨tabOf tabL, ctOf [(9, (loop_New.F.sem (loop_New.p k))), (10, (loop_Loop_Update.F.sem (loop_Loop_Update.p k))), (16, (foliotref15_New.F.sem (foliotref15_New.p k))), (17, (foliotref15_Loop_Update.F.sem (foliotref15_Loop_Update.p k))), (15, (loop_Loop_Left.F.sem (loop_Loop_Left.p k))), (18, (loop_Loop_Tick.F.sem (loop_Loop_Tick.p k))), (12, (foliotlaw15_size.F.sem (foliotlaw15_size.p k)))], mtNone, fun f => memB f [15], codes, rts, 78, fun _ => [], owns, [], eqtOf eqs, fun _ => false, flats⟩
def foliotlaw15_LoopSlews.cl0 : CutS R (Bool) := ⟨22, [2, 7, 12, 13, 14], [], [.lf, .lf, .lf, .lf, .lf], [.blk 10 55], Int × Int × Int × Int × Int × Int × Int × Int × Int × Int × Int × Int × Int × Int, (.cons (dInt .u16) (.ptr 0 0 (.cons (dInt .i64) (.cons (dInt .i64) (.cons (dInt .i64) (.cons (dInt .i64) (.cons (dInt .i64) (.cons (dInt .i64) (.cons (dInt .i64) (.cons (dInt .i64) (.cons (dInt .i64) (.cons (dInt .i64) (.cons (dInt .i64) (.cons (dInt .i64) (.last (dInt .i64) .nil))))))))))))))), fun k z => foliotlaw15_LoopSlews.l0 k z.1 z.2.1 z.2.2.1 z.2.2.2.1 z.2.2.2.2.1 z.2.2.2.2.2.1 z.2.2.2.2.2.2.1 z.2.2.2.2.2.2.2.1 z.2.2.2.2.2.2.2.2.1 z.2.2.2.2.2.2.2.2.2.1 z.2.2.2.2.2.2.2.2.2.2.1 z.2.2.2.2.2.2.2.2.2.2.2.1 z.2.2.2.2.2.2.2.2.2.2.2.2.1 z.2.2.2.2.2.2.2.2.2.2.2.2.2⟩
def foliotlaw15_LoopSlews.cs : List (CutS R (Bool)) := [foliotlaw15_LoopSlews.cl0]
theorem foliotlaw15_LoopSlews.hE (k : Nat) : EnvOk Try.prog (foliotlaw15_LoopSlews.E k) := ⟨tabs, ctOf_ok (all_cons (loop_New.ok k) (all_cons (loop_Loop_Update.ok k) (all_cons (foliotref15_New.ok k) (all_cons (foliotref15_Loop_Update.ok k) (all_cons (loop_Loop_Left.ok k) (all_cons (loop_Loop_Tick.ok k) (all_cons (foliotlaw15_size.ok k) all_nil))))))), mtNone_ok, mixed, eqs_, flats_⟩
theorem foliotlaw15_LoopSlews.ol0 : (foliotlaw15_LoopSlews.cl0).Ok foliotlaw15_LoopSlews.E Try.f5.results.toList 0 (bodyOf Try.f5) foliotlaw15_LoopSlews.cs foliotlaw15_LoopSlews.F.ret := ⟨fun z => rfl, fun k z => by
 show foliotlaw15_LoopSlews.l0 (k + 1) z.1 z.2.1 z.2.2.1 z.2.2.2.1 z.2.2.2.2.1 z.2.2.2.2.2.1 z.2.2.2.2.2.2.1 z.2.2.2.2.2.2.2.1 z.2.2.2.2.2.2.2.2.1 z.2.2.2.2.2.2.2.2.2.1 z.2.2.2.2.2.2.2.2.2.2.1 z.2.2.2.2.2.2.2.2.2.2.2.1 z.2.2.2.2.2.2.2.2.2.2.2.2.1 z.2.2.2.2.2.2.2.2.2.2.2.2.2 = _
 rw [foliotlaw15_LoopSlews.l0]
 kernel_rfl⟩
theorem foliotlaw15_LoopSlews.q (k : Nat) (y : (List S112) × (List S115) × (List Int) × Int × (List S117) × ByteArray × (List ByteArray) × Int × Bool × Bool × Int × Int × Int × Int × Int × Int × Int) : foliotlaw15_LoopSlews.p k y = foliotlaw15_LoopSlews.F.run foliotlaw15_LoopSlews.E Try.f5.results.toList (bodyOf Try.f5) foliotlaw15_LoopSlews.cs k y := by kernel_rfl
theorem foliotlaw15_LoopSlews.ok (k : Nat) : CsemOk R Try.prog 5 (foliotlaw15_LoopSlews.F.sem (foliotlaw15_LoopSlews.p k)) := fn_ok (F := foliotlaw15_LoopSlews.F) (f := foliotlaw15_LoopSlews.p) (E := foliotlaw15_LoopSlews.E) foliotlaw15_LoopSlews.hE (fun _ => rfl) Try.func5 (body := (bodyOf Try.f5)) rfl (by kernel_rfl) rfl (by decide) (by kernel_rfl) (cuts := foliotlaw15_LoopSlews.cs) (all_cons foliotlaw15_LoopSlews.ol0 all_nil) foliotlaw15_LoopSlews.q k
def loop_Loop_Freq.F : FnS R (S55) (Int) := ⟨[.lf], [], (.last (dEpt 6 0) .nil), .lf, [], (.last (dInt .i64) .nil)⟩
def loop_Loop_Freq.p (k : Nat) (y : S55) : Option (Int) := loop_Loop_Freq.f y
def loop_Loop_Freq.E (k : Nat) : Env R := ⟨tabOf tabL, ctOf [], mtNone, fun _ => false, codes, rts, 7, fun _ => [], owns, [], eqtOf eqs, fun _ => false, flats⟩
def loop_Loop_Freq.cs : List (CutS R (Int)) := []
theorem loop_Loop_Freq.hE (k : Nat) : EnvOk Try.prog (loop_Loop_Freq.E k) := ⟨tabs, ctOf_ok all_nil, mtNone_ok, mixed, eqs_, flats_⟩
theorem loop_Loop_Freq.q (k : Nat) (y : S55) : loop_Loop_Freq.p k y = loop_Loop_Freq.F.run loop_Loop_Freq.E Try.f13.results.toList (bodyOf Try.f13) loop_Loop_Freq.cs k y := by kernel_rfl
theorem loop_Loop_Freq.ok (k : Nat) : CsemOk R Try.prog 13 (loop_Loop_Freq.F.sem (loop_Loop_Freq.p k)) := fn_ok (F := loop_Loop_Freq.F) (f := loop_Loop_Freq.p) (E := loop_Loop_Freq.E) loop_Loop_Freq.hE (fun _ => rfl) Try.func13 (body := (bodyOf Try.f13)) rfl (by kernel_rfl) rfl (by decide) (by kernel_rfl) (cuts := loop_Loop_Freq.cs) all_nil loop_Loop_Freq.q k
def loop_Loop_State.F : FnS R (S55) (Int) := ⟨[.lf], [], (.last (dEpt 6 0) .nil), .lf, [], (.last (dInt .i64) .nil)⟩
def loop_Loop_State.p (k : Nat) (y : S55) : Option (Int) := loop_Loop_State.f y
def loop_Loop_State.E (k : Nat) : Env R := ⟨tabOf tabL, ctOf [], mtNone, fun _ => false, codes, rts, 7, fun _ => [], owns, [], eqtOf eqs, fun _ => false, flats⟩
def loop_Loop_State.cs : List (CutS R (Int)) := []
theorem loop_Loop_State.hE (k : Nat) : EnvOk Try.prog (loop_Loop_State.E k) := ⟨tabs, ctOf_ok all_nil, mtNone_ok, mixed, eqs_, flats_⟩
theorem loop_Loop_State.q (k : Nat) (y : S55) : loop_Loop_State.p k y = loop_Loop_State.F.run loop_Loop_State.E Try.f11.results.toList (bodyOf Try.f11) loop_Loop_State.cs k y := by kernel_rfl
theorem loop_Loop_State.ok (k : Nat) : CsemOk R Try.prog 11 (loop_Loop_State.F.sem (loop_Loop_State.p k)) := fn_ok (F := loop_Loop_State.F) (f := loop_Loop_State.p) (E := loop_Loop_State.E) loop_Loop_State.hE (fun _ => rfl) Try.func11 (body := (bodyOf Try.f11)) rfl (by kernel_rfl) rfl (by decide) (by kernel_rfl) (cuts := loop_Loop_State.cs) all_nil loop_Loop_State.q k
def loop_Loop_Poll.F : FnS R (S55) (Int) := ⟨[.lf], [], (.last (dEpt 6 0) .nil), .lf, [], (.last (dInt .i64) .nil)⟩
def loop_Loop_Poll.p (k : Nat) (y : S55) : Option (Int) := loop_Loop_Poll.f y
def loop_Loop_Poll.E (k : Nat) : Env R := ⟨tabOf tabL, ctOf [], mtNone, fun _ => false, codes, rts, 7, fun _ => [], owns, [], eqtOf eqs, fun _ => false, flats⟩
def loop_Loop_Poll.cs : List (CutS R (Int)) := []
theorem loop_Loop_Poll.hE (k : Nat) : EnvOk Try.prog (loop_Loop_Poll.E k) := ⟨tabs, ctOf_ok all_nil, mtNone_ok, mixed, eqs_, flats_⟩
theorem loop_Loop_Poll.q (k : Nat) (y : S55) : loop_Loop_Poll.p k y = loop_Loop_Poll.F.run loop_Loop_Poll.E Try.f14.results.toList (bodyOf Try.f14) loop_Loop_Poll.cs k y := by kernel_rfl
theorem loop_Loop_Poll.ok (k : Nat) : CsemOk R Try.prog 14 (loop_Loop_Poll.F.sem (loop_Loop_Poll.p k)) := fn_ok (F := loop_Loop_Poll.F) (f := loop_Loop_Poll.p) (E := loop_Loop_Poll.E) loop_Loop_Poll.hE (fun _ => rfl) Try.func14 (body := (bodyOf Try.f14)) rfl (by kernel_rfl) rfl (by decide) (by kernel_rfl) (cuts := loop_Loop_Poll.cs) all_nil loop_Loop_Poll.q k
def foliotlaw15_same.F : FnS R (S55 × S50) (Bool) := ⟨[.lf, .lf], [], (.cons (dEpt 6 0) (.last (dEpt 7 0) .nil)), .lf, [], (.last dBool .nil)⟩
def foliotlaw15_same.p (k : Nat) (y : S55 × S50) : Option (Bool) := foliotlaw15_same.f y.1 y.2
def foliotlaw15_same.E (k : Nat) : Env R := ⟨tabOf tabL, ctOf [(13, (loop_Loop_Freq.F.sem (loop_Loop_Freq.p k))), (11, (loop_Loop_State.F.sem (loop_Loop_State.p k))), (14, (loop_Loop_Poll.F.sem (loop_Loop_Poll.p k))), (15, (loop_Loop_Left.F.sem (loop_Loop_Left.p k)))], mtNone, fun f => memB f [11, 13, 14, 15], codes, rts, 39, fun i => ordOf [(1, [(0, 0), (1, 0), (2, 0), (3, 0), (4, 0), (5, 0), (6, 0), (7, 0), (8, 0), (9, 0), (10, 0), (11, 0), (12, 0), (13, 0), (14, 0), (15, 0), (16, 0), (17, 0), (18, 0), (19, 0), (20, 0), (21, 0), (22, 0), (23, 0), (24, 0), (25, 0), (26, 0), (27, 0), (28, 0), (29, 0), (30, 0), (31, 0), (32, 0), (33, 0), (34, 0)])] i, owns, [], eqtOf eqs, fun _ => false, flats⟩
def foliotlaw15_same.cs : List (CutS R (Bool)) := []
theorem foliotlaw15_same.hE (k : Nat) : EnvOk Try.prog (foliotlaw15_same.E k) := ⟨tabs, ctOf_ok (all_cons (loop_Loop_Freq.ok k) (all_cons (loop_Loop_State.ok k) (all_cons (loop_Loop_Poll.ok k) (all_cons (loop_Loop_Left.ok k) all_nil)))), mtNone_ok, mixed, eqs_, flats_⟩
theorem foliotlaw15_same.q (k : Nat) (y : S55 × S50) : foliotlaw15_same.p k y = foliotlaw15_same.F.run foliotlaw15_same.E Try.f19.results.toList (bodyOf Try.f19) foliotlaw15_same.cs k y := by kernel_rfl
theorem foliotlaw15_same.ok (k : Nat) : CsemOk R Try.prog 19 (foliotlaw15_same.F.sem (foliotlaw15_same.p k)) := fn_ok (F := foliotlaw15_same.F) (f := foliotlaw15_same.p) (E := foliotlaw15_same.E) foliotlaw15_same.hE (fun _ => rfl) Try.func19 (body := (bodyOf Try.f19)) rfl (by kernel_rfl) rfl (by decide) (by kernel_rfl) (cuts := foliotlaw15_same.cs) all_nil foliotlaw15_same.q k
def foliotref15_Loop_Tick.F : FnS R (Int × Int × Int × Int × Int × Int × Int × Int × Int × Int) (Int × Int × Int × Int × Int × Int × Int × Int × Int × Int × Int) := ⟨[.lf], [.blk 10 50], (.ptr 0 0 (.cons (dInt .i64) (.cons (dInt .i64) (.cons (dInt .i64) (.cons (dInt .i64) (.cons (dInt .i64) (.cons (dInt .i64) (.cons (dInt .i64) (.cons (dInt .i64) (.cons (dInt .i64) (.last (dInt .i64) .nil))))))))))), .lf, [.blk 10 50], (.cons (dInt .i64) (.cons (dInt .i64) (.cons (dInt .i64) (.cons (dInt .i64) (.cons (dInt .i64) (.cons (dInt .i64) (.cons (dInt .i64) (.cons (dInt .i64) (.cons (dInt .i64) (.cons (dInt .i64) (.last (dInt .i64) .nil)))))))))))⟩
def foliotref15_Loop_Tick.p (k : Nat) (y : Int × Int × Int × Int × Int × Int × Int × Int × Int × Int) : Option (Int × Int × Int × Int × Int × Int × Int × Int × Int × Int × Int) := foliotref15_Loop_Tick.f k y.1 y.2.1 y.2.2.1 y.2.2.2.1 y.2.2.2.2.1 y.2.2.2.2.2.1 y.2.2.2.2.2.2.1 y.2.2.2.2.2.2.2.1 y.2.2.2.2.2.2.2.2.1 y.2.2.2.2.2.2.2.2.2
def foliotref15_Loop_Tick.E (k : Nat) : Env R := ⟨tabOf tabL, ctOf [(39, (foliotref01_Shift.F.sem (foliotref01_Shift.p k))), (40, (foliotref01_Sub.F.sem (foliotref01_Sub.p k)))], mtNone, fun f => memB f [39], codes, rts, 25, fun i => ordOf [(1, [(0, 0), (1, 0), (2, 0), (3, 0), (4, 0), (5, 0), (6, 0), (7, 0), (8, 0), (9, 0), (10, 0), (11, 0)])] i, owns, [], eqtOf eqs, fun _ => false, flats⟩
def foliotref15_Loop_Tick.cs : List (CutS R (Int × Int × Int × Int × Int × Int × Int × Int × Int × Int × Int)) := []
theorem foliotref15_Loop_Tick.hE (k : Nat) : EnvOk Try.prog (foliotref15_Loop_Tick.E k) := ⟨tabs, ctOf_ok (all_cons (foliotref01_Shift.ok k) (all_cons (foliotref01_Sub.ok k) all_nil)), mtNone_ok, mixed, eqs_, flats_⟩
theorem foliotref15_Loop_Tick.q (k : Nat) (y : Int × Int × Int × Int × Int × Int × Int × Int × Int × Int) : foliotref15_Loop_Tick.p k y = foliotref15_Loop_Tick.F.run foliotref15_Loop_Tick.E Try.f20.results.toList (bodyOf Try.f20) foliotref15_Loop_Tick.cs k y := by kernel_rfl
theorem foliotref15_Loop_Tick.ok (k : Nat) : CsemOk R Try.prog 20 (foliotref15_Loop_Tick.F.sem (foliotref15_Loop_Tick.p k)) := fn_ok (F := foliotref15_Loop_Tick.F) (f := foliotref15_Loop_Tick.p) (E := foliotref15_Loop_Tick.E) foliotref15_Loop_Tick.hE (fun _ => rfl) Try.func20 (body := (bodyOf Try.f20)) rfl (by kernel_rfl) rfl (by decide) (by kernel_rfl) (cuts := foliotref15_Loop_Tick.cs) all_nil foliotref15_Loop_Tick.q k
def foliotlaw15_LoopScript.F : FnS R ((List S112) × (List S115) × (List Int) × Int × (List S117) × ByteArray × (List ByteArray) × Int × Bool × Bool × Int × Int × Int × Int × Int × Int × Bool × (List S40)) (Bool) := ⟨[.agg 15, .lf, .lf, .lf], [], (.cons (dRo 0) (.cons (dRo 1) (.cons (dRo 3) (.cons (dInt .i64) (.cons (dRo 4) (.cons dStr (.cons (dRo 5) (.cons (dInt .i64) (.cons dBool (.cons dBool (.cons (dInt .i64) (.cons (dInt .i64) (.cons (dInt .i64) (.cons (dInt .i64) (.cons (dInt .i64) (.cons (dInt .i64) (.cons dBool (.last (dRo 8) .nil)))))))))))))))))), .lf, [], (.last dBool .nil)⟩
def foliotlaw15_LoopScript.p (k : Nat) (y : (List S112) × (List S115) × (List Int) × Int × (List S117) × ByteArray × (List ByteArray) × Int × Bool × Bool × Int × Int × Int × Int × Int × Int × Bool × (List S40)) : Option (Bool) := foliotlaw15_LoopScript.f k y.1 y.2.1 y.2.2.1 y.2.2.2.1 y.2.2.2.2.1 y.2.2.2.2.2.1 y.2.2.2.2.2.2.1 y.2.2.2.2.2.2.2.1 y.2.2.2.2.2.2.2.2.1 y.2.2.2.2.2.2.2.2.2.1 y.2.2.2.2.2.2.2.2.2.2.1 y.2.2.2.2.2.2.2.2.2.2.2.1 y.2.2.2.2.2.2.2.2.2.2.2.2.1 y.2.2.2.2.2.2.2.2.2.2.2.2.2.1 y.2.2.2.2.2.2.2.2.2.2.2.2.2.2.1 y.2.2.2.2.2.2.2.2.2.2.2.2.2.2.2.1 y.2.2.2.2.2.2.2.2.2.2.2.2.2.2.2.2.1 y.2.2.2.2.2.2.2.2.2.2.2.2.2.2.2.2.2
def foliotlaw15_LoopScript.E (k : Nat) : Env R := ⟨tabOf tabL, ctOf [(9, (loop_New.F.sem (loop_New.p k))), (16, (foliotref15_New.F.sem (foliotref15_New.p k))), (19, (foliotlaw15_same.F.sem (foliotlaw15_same.p k))), (10, (loop_Loop_Update.F.sem (loop_Loop_Update.p k))), (17, (foliotref15_Loop_Update.F.sem (foliotref15_Loop_Update.p k))), (18, (loop_Loop_Tick.F.sem (loop_Loop_Tick.p k))), (20, (foliotref15_Loop_Tick.F.sem (foliotref15_Loop_Tick.p k)))], mtNone, fun f => memB f [19], codes, rts, 91, fun _ => [], owns, [], eqtOf eqs, fun _ => false, flats⟩
def foliotlaw15_LoopScript.cl0 : CutS R (Bool) := ⟨16, [3, 9, 10, 11], [], [.lf, .lf, .lf, .lf], [.blk 10 55, .blk 10 50], (List S40) × Int × Int × Int × Int × Int × Int × Int × Int × Int × Int × Int × Int × Int × Int × Int × Int × Int × Int × Int × Int × Int, (.cons (dRo 8) (.ptr 0 0 (.ptr 1 0 (.cons (dInt .i64) (.cons (dInt .i64) (.cons (dInt .i64) (.cons (dInt .i64) (.cons (dInt .i64) (.cons (dInt .i64) (.cons (dInt .i64) (.cons (dInt .i64) (.cons (dInt .i64) (.cons (dInt .i64) (.cons (dInt .i64) (.cons (dInt .i64) (.cons (dInt .i64) (.cons (dInt .i64) (.cons (dInt .i64) (.cons (dInt .i64) (.cons (dInt .i64) (.cons (dInt .i64) (.cons (dInt .i64) (.cons (dInt .i64) (.last (dInt .i64) .nil)))))))))))))))))))))))), fun k z => foliotlaw15_LoopScript.l0 k z.1 z.2.1 z.2.2.1 z.2.2.2.1 z.2.2.2.2.1 z.2.2.2.2.2.1 z.2.2.2.2.2.2.1 z.2.2.2.2.2.2.2.1 z.2.2.2.2.2.2.2.2.1 z.2.2.2.2.2.2.2.2.2.1 z.2.2.2.2.2.2.2.2.2.2.1 z.2.2.2.2.2.2.2.2.2.2.2.1 z.2.2.2.2.2.2.2.2.2.2.2.2.1 z.2.2.2.2.2.2.2.2.2.2.2.2.2.1 z.2.2.2.2.2.2.2.2.2.2.2.2.2.2.1 z.2.2.2.2.2.2.2.2.2.2.2.2.2.2.2.1 z.2.2.2.2.2.2.2.2.2.2.2.2.2.2.2.2.1 z.2.2.2.2.2.2.2.2.2.2.2.2.2.2.2.2.2.1 z.2.2.2.2.2.2.2.2.2.2.2.2.2.2.2.2.2.2.1 z.2.2.2.2.2.2.2.2.2.2.2.2.2.2.2.2.2.2.2.1 z.2.2.2.2.2.2.2.2.2.2.2.2.2.2.2.2.2.2.2.2.1 z.2.2.2.2.2.2.2.2.2.2.2.2.2.2.2.2.2.2.2.2.2⟩
def foliotlaw15_LoopScript.cj0 : CutS R (Bool) := ⟨40, [3, 9, 10, 11], [], [.lf, .lf, .lf, .lf], [.blk 10 55, .blk 10 50], (List S40) × Int × Int × Int × Int × Int × Int × Int × Int × Int × Int × Int × Int × Int × Int × Int × Int × Int × Int × Int × Int × Int, (.cons (dRo 8) (.ptr 0 0 (.ptr 1 0 (.cons (dInt .i64) (.cons (dInt .i64) (.cons (dInt .i64) (.cons (dInt .i64) (.cons (dInt .i64) (.cons (dInt .i64) (.cons (dInt .i64) (.cons (dInt .i64) (.cons (dInt .i64) (.cons (dInt .i64) (.cons (dInt .i64) (.cons (dInt .i64) (.cons (dInt .i64) (.cons (dInt .i64) (.cons (dInt .i64) (.cons (dInt .i64) (.cons (dInt .i64) (.cons (dInt .i64) (.cons (dInt .i64) (.cons (dInt .i64) (.last (dInt .i64) .nil)))))))))))))))))))))))), fun k z => foliotlaw15_LoopScript.j0 k z.1 z.2.1 z.2.2.1 z.2.2.2.1 z.2.2.2.2.1 z.2.2.2.2.2.1 z.2.2.2.2.2.2.1 z.2.2.2.2.2.2.2.1 z.2.2.2.2.2.2.2.2.1 z.2.2.2.2.2.2.2.2.2.1 z.2.2.2.2.2.2.2.2.2.2.1 z.2.2.2.2.2.2.2.2.2.2.2.1 z.2.2.2.2.2.2.2.2.2.2.2.2.1 z.2.2.2.2.2.2.2.2.2.2.2.2.2.1 z.2.2.2.2.2.2.2.2.2.2.2.2.2.2.1 z.2.2.2.2.2.2.2.2.2.2.2.2.2.2.2.1 z.2.2.2.2.2.2.2.2.2.2.2.2.2.2.2.2.1 z.2.2.2.2.2.2.2.2.2.2.2.2.2.2.2.2.2.1 z.2.2.2.2.2.2.2.2.2.2.2.2.2.2.2.2.2.2.1 z.2.2.2.2.2.2.2.2.2.2.2.2.2.2.2.2.2.2.2.1 z.2.2.2.2.2.2.2.2.2.2.2.2.2.2.2.2.2.2.2.2.1 z.2.2.2.2.2.2.2.2.2.2.2.2.2.2.2.2.2.2.2.2.2⟩
def foliotlaw15_LoopScript.cs : List (CutS R (Bool)) := [foliotlaw15_LoopScript.cl0, foliotlaw15_LoopScript.cj0]
theorem foliotlaw15_LoopScript.hE (k : Nat) : EnvOk Try.prog (foliotlaw15_LoopScript.E k) := ⟨tabs, ctOf_ok (all_cons (loop_New.ok k) (all_cons (foliotref15_New.ok k) (all_cons (foliotlaw15_same.ok k) (all_cons (loop_Loop_Update.ok k) (all_cons (foliotref15_Loop_Update.ok k) (all_cons (loop_Loop_Tick.ok k) (all_cons (foliotref15_Loop_Tick.ok k) all_nil))))))), mtNone_ok, mixed, eqs_, flats_⟩
theorem foliotlaw15_LoopScript.ol0 : (foliotlaw15_LoopScript.cl0).Ok foliotlaw15_LoopScript.E Try.f7.results.toList 0 (bodyOf Try.f7) foliotlaw15_LoopScript.cs foliotlaw15_LoopScript.F.ret := ⟨fun z => rfl, fun k z => by
 show foliotlaw15_LoopScript.l0 (k + 1) z.1 z.2.1 z.2.2.1 z.2.2.2.1 z.2.2.2.2.1 z.2.2.2.2.2.1 z.2.2.2.2.2.2.1 z.2.2.2.2.2.2.2.1 z.2.2.2.2.2.2.2.2.1 z.2.2.2.2.2.2.2.2.2.1 z.2.2.2.2.2.2.2.2.2.2.1 z.2.2.2.2.2.2.2.2.2.2.2.1 z.2.2.2.2.2.2.2.2.2.2.2.2.1 z.2.2.2.2.2.2.2.2.2.2.2.2.2.1 z.2.2.2.2.2.2.2.2.2.2.2.2.2.2.1 z.2.2.2.2.2.2.2.2.2.2.2.2.2.2.2.1 z.2.2.2.2.2.2.2.2.2.2.2.2.2.2.2.2.1 z.2.2.2.2.2.2.2.2.2.2.2.2.2.2.2.2.2.1 z.2.2.2.2.2.2.2.2.2.2.2.2.2.2.2.2.2.2.1 z.2.2.2.2.2.2.2.2.2.2.2.2.2.2.2.2.2.2.2.1 z.2.2.2.2.2.2.2.2.2.2.2.2.2.2.2.2.2.2.2.2.1 z.2.2.2.2.2.2.2.2.2.2.2.2.2.2.2.2.2.2.2.2.2 = _
 rw [foliotlaw15_LoopScript.l0]
 kernel_rfl⟩
theorem foliotlaw15_LoopScript.oj0 : (foliotlaw15_LoopScript.cj0).Ok foliotlaw15_LoopScript.E Try.f7.results.toList 0 (bodyOf Try.f7) foliotlaw15_LoopScript.cs foliotlaw15_LoopScript.F.ret := ⟨fun z => rfl, fun k z => by
 show foliotlaw15_LoopScript.j0 (k + 1) z.1 z.2.1 z.2.2.1 z.2.2.2.1 z.2.2.2.2.1 z.2.2.2.2.2.1 z.2.2.2.2.2.2.1 z.2.2.2.2.2.2.2.1 z.2.2.2.2.2.2.2.2.1 z.2.2.2.2.2.2.2.2.2.1 z.2.2.2.2.2.2.2.2.2.2.1 z.2.2.2.2.2.2.2.2.2.2.2.1 z.2.2.2.2.2.2.2.2.2.2.2.2.1 z.2.2.2.2.2.2.2.2.2.2.2.2.2.1 z.2.2.2.2.2.2.2.2.2.2.2.2.2.2.1 z.2.2.2.2.2.2.2.2.2.2.2.2.2.2.2.1 z.2.2.2.2.2.2.2.2.2.2.2.2.2.2.2.2.1 z.2.2.2.2.2.2.2.2.2.2.2.2.2.2.2.2.2.1 z.2.2.2.2.2.2.2.2.2.2.2.2.2.2.2.2.2.2.1 z.2.2.2.2.2.2.2.2.2.2.2.2.2.2.2.2.2.2.2.1 z.2.2.2.2.2.2.2.2.2.2.2.2.2.2.2.2.2.2.2.2.1 z.2.2.2.2.2.2.2.2.2.2.2.2.2.2.2.2.2.2.2.2.2 = _
 rw [foliotlaw15_LoopScript.j0]
 kernel_rfl⟩
theorem foliotlaw15_LoopScript.q (k : Nat) (y : (List S112) × (List S115) × (List Int) × Int × (List S117) × ByteArray × (List ByteArray) × Int × Bool × Bool × Int × Int × Int × Int × Int × Int × Bool × (List S40)) : foliotlaw15_LoopScript.p k y = foliotlaw15_LoopScript.F.run foliotlaw15_LoopScript.E Try.f7.results.toList (bodyOf Try.f7) foliotlaw15_LoopScript.cs k y := by kernel_rfl
theorem foliotlaw15_LoopScript.ok (k : Nat) : CsemOk R Try.prog 7 (foliotlaw15_LoopScript.F.sem (foliotlaw15_LoopScript.p k)) := fn_ok (F := foliotlaw15_LoopScript.F) (f := foliotlaw15_LoopScript.p) (E := foliotlaw15_LoopScript.E) foliotlaw15_LoopScript.hE (fun _ => rfl) Try.func7 (body := (bodyOf Try.f7)) rfl (by kernel_rfl) rfl (by decide) (by kernel_rfl) (cuts := foliotlaw15_LoopScript.cs) (all_cons foliotlaw15_LoopScript.ol0 (all_cons foliotlaw15_LoopScript.oj0 all_nil)) foliotlaw15_LoopScript.q k
end Go.Proofs.Ytmbhbkconpfncaa.V
