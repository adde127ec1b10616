/- The contracts of the functions. -/
import Derived.Test.YtigcmpmpjmbfkaaDQ
import Derived.Test.YtigcmpmpjmbfkaaEvPg
import Derived.Test.YtigcmpmpjmbfkaaProg
import Derived.Laws.Externs
import Derived.Lib.BitFns
import Derived.Lib.Strings
import Derived.Lib.Slices
import Derived.Lib.Small
import Derived.Lib.Walk
namespace Go.Proofs.Ytigcmpmpjmbfkaa.Q
open Go Go.RowKit Go.Proofs.Ytigcmpmpjmbfkaa.Ev
set_option linter.unusedVariables false
set_option maxRecDepth 100000
def D : Nat → Type
 | 0 => S25
 | 1 => S53
 | 2 => Int
 | 3 => Int
 | _ => Unit
def enc : (c : Nat) → D c → List (Lf D)
 | 0 => fun x => [.v (.int .i64 x.f0), .v (.int .i64 x.f1), .v (.int .i64 x.f2), .v (.int .i64 x.f3), .v (.int .i64 x.f4), .v (.bool x.f5), .v (.bool x.f6)]
 | 1 => fun x => [.v (.int .i64 x.f0), .v (.int .i64 x.f1), .v (.int .i64 x.f2), .v (.int .i64 x.f3), .v (.int .i64 x.f4), .v (.bool x.f5), .v (.bool x.f6), .v (.int .i64 x.f7)]
 | 2 => fun x => [.v (.int .i64 x)]
 | 3 => fun x => [.v (.int .i64 x)]
 | _ + 4 => fun _ => []
def z : (c : Nat) → D c
 | 0 => (z_S25 : S25)
 | 1 => (z_S53 : S53)
 | 2 => (0 : Int)
 | 3 => (0 : Int)
 | _ + 4 => ()
def sz : Nat → Nat
 | 0 => 7
 | 1 => 8
 | 2 => 1
 | 3 => 1
 | _ + 4 => 0
theorem len_ : ∀ (c : Nat) (x : D c), (enc c x).length = sz c
 | 0, x => by rfl
 | 1, x => by rfl
 | 2, x => by rfl
 | 3, x => by rfl
 | _ + 4, x => by rfl
theorem free_ : ∀ (c : Nat) (x : D c), (enc c x).all lfFree = true
 | 0, x => by rfl
 | 1, x => by rfl
 | 2, x => by rfl
 | 3, x => by rfl
 | _ + 4, x => by rfl
def R : Ro := ⟨D, enc, fun _ _ => none, z, sz, len_, free_⟩
def codes : TypeId → Option (RoT R) := codeOf [(25, ⟨0, ((.cons (dInt .i64) (.cons (dInt .i64) (.cons (dInt .i64) (.cons (dInt .i64) (.cons (dInt .i64) (.cons dBool (.last dBool .nil))))))) : DL R (Int × Int × Int × Int × Int × Bool × Bool)).to (fun y => (⟨y.1, y.2.1, y.2.2.1, y.2.2.2.1, y.2.2.2.2.1, y.2.2.2.2.2.1, y.2.2.2.2.2.2⟩ : S25)) (fun x => (x.f0, x.f1, x.f2, x.f3, x.f4, x.f5, x.f6)) (fun _ => rfl), fun _ => rfl⟩),
 (53, ⟨1, ((.cons (dInt .i64) (.cons (dInt .i64) (.cons (dInt .i64) (.cons (dInt .i64) (.cons (dInt .i64) (.cons dBool (.cons dBool (.last (dInt .i64) .nil)))))))) : DL R (Int × Int × Int × Int × Int × Bool × Bool × Int)).to (fun y => (⟨y.1, y.2.1, y.2.2.1, y.2.2.2.1, y.2.2.2.2.1, y.2.2.2.2.2.1, y.2.2.2.2.2.2.1, y.2.2.2.2.2.2.2⟩ : S53)) (fun x => (x.f0, x.f1, x.f2, x.f3, x.f4, x.f5, x.f6, x.f7)) (fun _ => rfl), fun _ => rfl⟩),
 (3, ⟨2, ((.last (dInt .i64) .nil) : DL R (Int)), fun _ => rfl⟩),
 (23, ⟨3, ((.last (dInt .i64) .nil) : DL R (Int)), fun _ => rfl⟩)]
def rts : Nat → Option (RoT R) := codeOf [(0, ⟨0, ((.cons (dInt .i64) (.cons (dInt .i64) (.cons (dInt .i64) (.cons (dInt .i64) (.cons (dInt .i64) (.cons dBool (.last dBool .nil))))))) : DL R (Int × Int × Int × Int × Int × Bool × Bool)).to (fun y => (⟨y.1, y.2.1, y.2.2.1, y.2.2.2.1, y.2.2.2.2.1, y.2.2.2.2.2.1, y.2.2.2.2.2.2⟩ : S25)) (fun x => (x.f0, x.f1, x.f2, x.f3, x.f4, x.f5, x.f6)) (fun _ => rfl), fun _ => rfl⟩),
 (1, ⟨1, ((.cons (dInt .i64) (.cons (dInt .i64) (.cons (dInt .i64) (.cons (dInt .i64) (.cons (dInt .i64) (.cons dBool (.cons dBool (.last (dInt .i64) .nil)))))))) : DL R (Int × Int × Int × Int × Int × Bool × Bool × Int)).to (fun y => (⟨y.1, y.2.1, y.2.2.1, y.2.2.2.1, y.2.2.2.2.1, y.2.2.2.2.2.1, y.2.2.2.2.2.2.1, y.2.2.2.2.2.2.2⟩ : S53)) (fun x => (x.f0, x.f1, x.f2, x.f3, x.f4, x.f5, x.f6, x.f7)) (fun _ => rfl), fun _ => rfl⟩),
 (2, ⟨2, ((.last (dInt .i64) .nil) : DL R (Int)), fun _ => rfl⟩),
 (3, ⟨3, ((.last (dInt .i64) .nil) : DL R (Int)), fun _ => rfl⟩)]
def owns : TypeId → List (Nat × Nat × TypeId × Nat) := ownOf [(80, [(0, 2, 3, 0)])]
def tabL : List (Nat × TI) := [(2, ⟨1, 13, [(.int .i64 0)], [], 0, false, 0, 0, 8⟩),
 (3, ⟨1, 13, [(.int .i64 0)], [], 0, false, 0, 0, 8⟩),
 (4, ⟨1, 4, [(.bool false)], [], 0, false, 0, 0, 1⟩),
 (9, ⟨1, 6, [(.string ⟨#[]⟩)], [], 0, false, 0, 0, 16⟩),
 (22, ⟨1, 3, [(.slice none 0 0)], [], 7, true, 0, 25, 24⟩),
 (23, ⟨1, 13, [(.int .i64 0)], [], 0, false, 0, 0, 8⟩),
 (25, ⟨7, 1, [(.int .i64 0), (.int .i64 0), (.int .i64 0), (.int .i64 0), (.int .i64 0), (.bool false), (.bool false)], [(0, 1, false), (1, 1, false), (2, 1, false), (3, 1, false), (4, 1, false), (5, 1, false), (6, 1, false)], 0, false, 0, 0, 48⟩),
 (35, ⟨1, 3, [(.slice none 0 0)], [], 1, false, 0, 3, 24⟩),
 (37, ⟨5, 1, [(.int .i64 0), (.int .i64 0), (.int .i64 0), (.bool false), (.bool false)], [(0, 1, false), (1, 1, false), (2, 1, false), (3, 1, false), (4, 1, false)], 0, false, 0, 0, 32⟩),
 (44, ⟨5, 1, [(.int .i64 0), (.int .i64 0), (.int .i64 0), (.bool false), (.bool false)], [(0, 1, false), (1, 1, false), (2, 1, false), (3, 1, false), (4, 1, false)], 0, false, 0, 0, 32⟩),
 (50, ⟨1, 3, [(.slice none 0 0)], [], 8, true, 0, 53, 24⟩),
 (53, ⟨8, 1, [(.int .i64 0), (.int .i64 0), (.int .i64 0), (.int .i64 0), (.int .i64 0), (.bool false), (.bool false), (.int .i64 0)], [(0, 7, true), (7, 1, false)], 0, false, 0, 0, 56⟩),
 (65, ⟨1, 17, [(.int .u64 0)], [], 0, false, 0, 0, 8⟩),
 (67, ⟨3, 1, [(.int .u64 0), (.int .u64 0), (.bool false)], [(0, 1, false), (1, 1, false), (2, 1, false)], 0, false, 0, 0, 24⟩),
 (71, ⟨1, 3, [(.slice none 0 0)], [], 1, false, 0, 23, 24⟩),
 (80, ⟨2, 1, [(.slice none 0 0), (.bool false)], [(0, 1, false), (1, 1, false)], 0, false, 0, 0, 32⟩),
 (86, ⟨1, 17, [(.int .u64 0)], [], 0, false, 0, 0, 8⟩)]
theorem tabs : TabOk Try.prog (tabOf tabL) := tabOf_ok _ _ (by kernel_rfl)
def flats : Nat → Bool
 | 0 => true
 | 1 => true
 | 2 => true
 | 3 => true
 | _ + 4 => false
theorem flats_ : ∀ (c : Nat), flats c = true → ∀ x, (R.enc c x).all noRo = true
 | 0, _, x => by rfl
 | 1, _, x => by rfl
 | 2, _, x => by rfl
 | 3, _, x => by rfl
 | _ + 4, h, x => by cases h
def eqs : List (Nat × List Nat) := [(25, [0, 0, 0, 0, 0, 1, 1]), (37, [0, 0, 0, 1, 1])]
theorem eqs_ : EqOk Try.prog (eqtOf eqs) := eqtOf_ok _ (by kernel_rfl)
def mps : List (Nat × MpT) := []
theorem mps_ : MpOk Try.prog (mpsOf mps) := mpsOf_ok _ (by kernel_rfl)
def byt_ : Option (ByT R) := none
theorem mixed : Try.prog.follows .mixedOrders = true := by kernel_rfl
def foliotlaw14_cand.F : FnS R (Int × Int) (Int × Int × Int × Int × Int × Bool × Bool) := ⟨[.lf, .lf], [], (.cons (dInt .i64) (.last (dInt .i64) .nil)), .agg 7, [], (.cons (dInt .i64) (.cons (dInt .i64) (.cons (dInt .i64) (.cons (dInt .i64) (.cons (dInt .i64) (.cons dBool (.last dBool .nil)))))))⟩
def foliotlaw14_cand.p (k : Nat) (y : Int × Int) : Option (Int × Int × Int × Int × Int × Bool × Bool) := foliotlaw14_cand.f y.1 y.2
def foliotlaw14_cand.E (k : Nat) : Env R := ⟨tabOf tabL, ctOf [], mtNone, fun _ => false, codes, rts, 8, fun _ => [], owns, [], eqtOf eqs, fun _ => false, flats, mpsOf mps, byt_⟩
def foliotlaw14_cand.cs : List (CutS R (Int × Int × Int × Int × Int × Bool × Bool)) := []
theorem foliotlaw14_cand.hE (k : Nat) : EnvOk Try.prog (foliotlaw14_cand.E k) := ⟨tabs, ctOf_ok all_nil, mtNone_ok, mixed, eqs_, flats_, mps_⟩
theorem foliotlaw14_cand.q (k : Nat) (y : Int × Int) : foliotlaw14_cand.p k y = foliotlaw14_cand.F.run foliotlaw14_cand.E Try.f29.results.toList (bodyOf Try.f29) foliotlaw14_cand.cs k y := by kernel_rfl
theorem foliotlaw14_cand.ok (k : Nat) : CsemOk R Try.prog 29 (foliotlaw14_cand.F.sem (foliotlaw14_cand.p k)) := fn_ok (F := foliotlaw14_cand.F) (f := foliotlaw14_cand.p) (E := foliotlaw14_cand.E) foliotlaw14_cand.hE (fun _ => rfl) Try.func29 (body := (bodyOf Try.f29)) rfl (by kernel_rfl) rfl (by decide) (by kernel_rfl) (cuts := foliotlaw14_cand.cs) all_nil foliotlaw14_cand.q k
def fixed_size.F : FnS R (Int) (Int × Bool) := ⟨[.lf], [], (.last (dInt .i64) .nil), .tup [none, none], [], (.cons (dInt .u64) (.last dBool .nil))⟩
def fixed_size.p (k : Nat) (y : Int) : Option (Int × Bool) := fixed_size.f y
def fixed_size.E (k : Nat) : Env R := ⟨tabOf tabL, ctOf [], mtNone, fun _ => false, codes, rts, 11, fun _ => [], owns, [], eqtOf eqs, fun _ => false, flats, mpsOf mps, byt_⟩
def fixed_size.cs : List (CutS R (Int × Bool)) := []
theorem fixed_size.hE (k : Nat) : EnvOk Try.prog (fixed_size.E k) := ⟨tabs, ctOf_ok all_nil, mtNone_ok, mixed, eqs_, flats_, mps_⟩
theorem fixed_size.q (k : Nat) (y : Int) : fixed_size.p k y = fixed_size.F.run fixed_size.E Try.f72.results.toList (bodyOf Try.f72) fixed_size.cs k y := by kernel_rfl
theorem fixed_size.ok (k : Nat) : CsemOk R Try.prog 72 (fixed_size.F.sem (fixed_size.p k)) := fn_ok (F := fixed_size.F) (f := fixed_size.p) (E := fixed_size.E) fixed_size.hE (fun _ => rfl) Try.func72 (body := (bodyOf Try.f72)) rfl (by kernel_rfl) rfl (by decide) (by kernel_rfl) (cuts := fixed_size.cs) all_nil fixed_size.q k
def bits_Mul64.F : FnS R (Int × Int) (Int × Int) := ⟨[.lf, .lf], [], (.cons (dInt .u64) (.last (dInt .u64) .nil)), .tup [none, none], [], (.cons (dInt .u64) (.last (dInt .u64) .nil))⟩
def bits_Mul64.p (k : Nat) (y : Int × Int) : Option (Int × Int) := bits_Mul64.f y.1 y.2
def bits_Mul64.E (k : Nat) : Env R := ⟨tabOf tabL, ctOf [], mtNone, fun _ => false, codes, rts, 51, fun _ => [], owns, [], eqtOf eqs, fun _ => false, flats, mpsOf mps, byt_⟩
def bits_Mul64.cs : List (CutS R (Int × Int)) := []
theorem bits_Mul64.hE (k : Nat) : EnvOk Try.prog (bits_Mul64.E k) := ⟨tabs, ctOf_ok all_nil, mtNone_ok, mixed, eqs_, flats_, mps_⟩
theorem bits_Mul64.q (k : Nat) (y : Int × Int) : bits_Mul64.p k y = bits_Mul64.F.run bits_Mul64.E Try.f73.results.toList (bodyOf Try.f73) bits_Mul64.cs k y := by kernel_rfl
theorem bits_Mul64.ok (k : Nat) : CsemOk R Try.prog 73 (bits_Mul64.F.sem (bits_Mul64.p k)) := fn_ok (F := bits_Mul64.F) (f := bits_Mul64.p) (E := bits_Mul64.E) bits_Mul64.hE (fun _ => rfl) Try.func73 (body := (bodyOf Try.f73)) rfl (by kernel_rfl) rfl (by decide) (by kernel_rfl) (cuts := bits_Mul64.cs) all_nil bits_Mul64.q k
def fixed_product.F : FnS R (Int × Int) (Int × Int × Bool) := ⟨[.lf, .lf], [], (.cons (dInt .i64) (.last (dInt .i64) .nil)), .agg 3, [], (.cons (dInt .u64) (.cons (dInt .u64) (.last dBool .nil)))⟩
def fixed_product.p (k : Nat) (y : Int × Int) : Option (Int × Int × Bool) := fixed_product.f y.1 y.2
def fixed_product.E (k : Nat) : Env R := ⟨tabOf tabL, ctOf [(72, (fixed_size.F.sem (fixed_size.p k))), (73, (bits_Mul64.F.sem (bits_Mul64.p k)))], mtNone, fun _ => false, codes, rts, 33, fun _ => [], owns, [], eqtOf eqs, fun _ => false, flats, mpsOf mps, byt_⟩
def fixed_product.cs : List (CutS R (Int × Int × Bool)) := []
theorem fixed_product.hE (k : Nat) : EnvOk Try.prog (fixed_product.E k) := ⟨tabs, ctOf_ok (all_cons (fixed_size.ok k) (all_cons (bits_Mul64.ok k) all_nil)), mtNone_ok, mixed, eqs_, flats_, mps_⟩
theorem fixed_product.q (k : Nat) (y : Int × Int) : fixed_product.p k y = fixed_product.F.run fixed_product.E Try.f50.results.toList (bodyOf Try.f50) fixed_product.cs k y := by kernel_rfl
theorem fixed_product.ok (k : Nat) : CsemOk R Try.prog 50 (fixed_product.F.sem (fixed_product.p k)) := fn_ok (F := fixed_product.F) (f := fixed_product.p) (E := fixed_product.E) fixed_product.hE (fun _ => rfl) Try.func50 (body := (bodyOf Try.f50)) rfl (by kernel_rfl) rfl (by decide) (by kernel_rfl) (cuts := fixed_product.cs) all_nil fixed_product.q k
def bits_Len64.F : FnS R (Int) (Int) := ⟨[.lf], [], (.last (dInt .u64) .nil), .lf, [], (.last (dInt .i64) .nil)⟩
def bits_Len64.p (k : Nat) (y : Int) : Option (Int) := bits_Len64.f y
theorem bits_Len64.tab (i : Int) (h0 : 0 ≤ i) (h1 : i ≤ 255) (h : i.toNat < Lib.len8tab.size) : ((Lib.len8tab[i.toNat]'h).toNat : Int) = (Lib.bitLen i.toNat : Int) := by
  rw [← Lib.len8_of i h0 h1]
  simp only [Lib.len8, ByteArray.getElem?_lt' _ _ h, Option.getD_some]
theorem bits_Len64.sum (c n b : Nat) (hc : c ≤ 56) (hb : b ≤ 8) (hn : n = c + b) : wrap64 ((c : Int) + wrap64 (b : Int)) = (n : Int) := by
  unfold wrap64
  omega
set_option maxHeartbeats 4000000 in
set_option maxRecDepth 100000 in
theorem bits_Len64.lib (x : Int) (w : World) (h0 : 0 ≤ x) (h1 : x ≤ 18446744073709551615) :
    Calls Try.prog 90 #[.int .u64 x] w fun e w' => e = .returned (.int .i64 (Lib.bitLen x.toNat)) ∧ w' = w := by
  have hs := Lib.len8tab_size
  go_enter Try.func90, Try.ntmps90
  go_wp2
  all_goals (go_ret; refine ⟨congrArg Ending.returned (congrArg (Value.int IntKind.i64) ?_), rfl⟩)
  · rw [bits_Len64.tab (x / 4294967296 / 65536 / 256) (by omega) (by omega)]
    have e : (x / 4294967296 / 65536 / 256).toNat = x.toNat / 72057594037927936 := by omega
    rw [e]
    exact bits_Len64.sum 56 _ _ (by omega) (by rw [← e]; exact Lib.bitLen_le8' _ (by omega) (by omega)) (Lib.bitLen_shift56 x.toNat (by omega) (by omega))
  · rw [bits_Len64.tab (x / 4294967296 / 65536) (by omega) (by omega)]
    have e : (x / 4294967296 / 65536).toNat = x.toNat / 281474976710656 := by omega
    rw [e]
    exact bits_Len64.sum 48 _ _ (by omega) (by rw [← e]; exact Lib.bitLen_le8' _ (by omega) (by omega)) (Lib.bitLen_shift48 x.toNat (by omega) (by omega))
  · rw [bits_Len64.tab (x / 4294967296 / 256) (by omega) (by omega)]
    have e : (x / 4294967296 / 256).toNat = x.toNat / 1099511627776 := by omega
    rw [e]
    exact bits_Len64.sum 40 _ _ (by omega) (by rw [← e]; exact Lib.bitLen_le8' _ (by omega) (by omega)) (Lib.bitLen_shift40 x.toNat (by omega) (by omega))
  · rw [bits_Len64.tab (x / 4294967296) (by omega) (by omega)]
    have e : (x / 4294967296).toNat = x.toNat / 4294967296 := by omega
    rw [e]
    exact bits_Len64.sum 32 _ _ (by omega) (by rw [← e]; exact Lib.bitLen_le8' _ (by omega) (by omega)) (Lib.bitLen_shift32 x.toNat (by omega) (by omega))
  · rw [bits_Len64.tab (x / 65536 / 256) (by omega) (by omega)]
    have e : (x / 65536 / 256).toNat = x.toNat / 16777216 := by omega
    rw [e]
    exact bits_Len64.sum 24 _ _ (by omega) (by rw [← e]; exact Lib.bitLen_le8' _ (by omega) (by omega)) (Lib.bitLen_shift24 x.toNat (by omega) (by omega))
  · rw [bits_Len64.tab (x / 65536) (by omega) (by omega)]
    have e : (x / 65536).toNat = x.toNat / 65536 := by omega
    rw [e]
    exact bits_Len64.sum 16 _ _ (by omega) (by rw [← e]; exact Lib.bitLen_le8' _ (by omega) (by omega)) (Lib.bitLen_shift16 x.toNat (by omega) (by omega))
  · rw [bits_Len64.tab (x / 256) (by omega) (by omega)]
    have e : (x / 256).toNat = x.toNat / 256 := by omega
    rw [e]
    exact bits_Len64.sum 8 _ _ (by omega) (by rw [← e]; exact Lib.bitLen_le8' _ (by omega) (by omega)) (Lib.bitLen_shift8 x.toNat (by omega) (by omega))
  · rw [bits_Len64.tab x (by omega) (by omega)]
    have l := Lib.bitLen_le8' x (by omega) (by omega)
    unfold wrap64
    omega
theorem bits_Len64.le (n : Nat) : Lib.bitLen n ≤ 64 := by
  have : ∀ f x : Nat, Lib.bitLenAux f x ≤ f := by
    intro f
    induction f with
    | zero => intro x; simp [Lib.bitLenAux]
    | succ f ih =>
      intro x
      unfold Lib.bitLenAux
      split
      · omega
      · have := ih (x / 2); omega
  exact this 64 n
theorem bits_Len64.ok (k : Nat) : CsemOk R Try.prog 90 (bits_Len64.F.sem (bits_Len64.p k)) := sem_ok fun y r h ρ w us hrel hargs => by
 change All2 (IsT R ρ w) [.lf (.v (.int .u64 y))] us at hargs
 obtain ⟨u0, _, rfl, h0, g1⟩ := all2_cons hargs
 cases g1
 obtain ⟨rfl, b0⟩ := is_v h0
 change bits_Len64.f y = some r at h
 unfold bits_Len64.f at h
 split at h
 · rename_i hb
   injection h with h
   subst h
   refine .inl ⟨call_enter Try.func90 (body := bodyOf Try.f90) rfl (by kernel_rfl) _ w, (bits_Len64.lib y w hb.1 hb.2).mono fun e w' hh => ⟨_, hh.1, ?_⟩⟩
   rw [hh.2]
   refine post_still hrel (Is.v _ ?_)
   have := bits_Len64.le y.toNat
   exact wf_nat (n := Lib.bitLen y.toNat) (by omega)
 · cases h
def bits_LeadingZeros64.F : FnS R (Int) (Int) := ⟨[.lf], [], (.last (dInt .u64) .nil), .lf, [], (.last (dInt .i64) .nil)⟩
def bits_LeadingZeros64.p (k : Nat) (y : Int) : Option (Int) := bits_LeadingZeros64.f y
def bits_LeadingZeros64.E (k : Nat) : Env R := ⟨tabOf tabL, ctOf [(90, (bits_Len64.F.sem (bits_Len64.p k)))], mtNone, fun _ => false, codes, rts, 6, fun _ => [], owns, [], eqtOf eqs, fun _ => false, flats, mpsOf mps, byt_⟩
def bits_LeadingZeros64.cs : List (CutS R (Int)) := []
theorem bits_LeadingZeros64.hE (k : Nat) : EnvOk Try.prog (bits_LeadingZeros64.E k) := ⟨tabs, ctOf_ok (all_cons (bits_Len64.ok k) all_nil), mtNone_ok, mixed, eqs_, flats_, mps_⟩
theorem bits_LeadingZeros64.q (k : Nat) (y : Int) : bits_LeadingZeros64.p k y = bits_LeadingZeros64.F.run bits_LeadingZeros64.E Try.f86.results.toList (bodyOf Try.f86) bits_LeadingZeros64.cs k y := by kernel_rfl
theorem bits_LeadingZeros64.ok (k : Nat) : CsemOk R Try.prog 86 (bits_LeadingZeros64.F.sem (bits_LeadingZeros64.p k)) := fn_ok (F := bits_LeadingZeros64.F) (f := bits_LeadingZeros64.p) (E := bits_LeadingZeros64.E) bits_LeadingZeros64.hE (fun _ => rfl) Try.func86 (body := (bodyOf Try.f86)) rfl (by kernel_rfl) rfl (by decide) (by kernel_rfl) (cuts := bits_LeadingZeros64.cs) all_nil bits_LeadingZeros64.q k
def bits_Div64.F : FnS R (Int × Int × Int) (Int × Int) := ⟨[.lf, .lf, .lf], [], (.cons (dInt .u64) (.cons (dInt .u64) (.last (dInt .u64) .nil))), .tup [none, none], [], (.cons (dInt .u64) (.last (dInt .u64) .nil))⟩
def bits_Div64.p (k : Nat) (y : Int × Int × Int) : Option (Int × Int) := bits_Div64.f k y.1 y.2.1 y.2.2
def bits_Div64.E (k : Nat) : Env R := ⟨tabOf tabL, ctOf [(86, (bits_LeadingZeros64.F.sem (bits_LeadingZeros64.p k)))], mtNone, fun _ => false, codes, rts, 135, fun i => ordOf [(6, [(0, 0), (1, 0), (2, 0), (3, 0), (4, 0), (5, 0), (6, 0), (7, 0)])] i, owns, [], eqtOf eqs, fun _ => false, flats, mpsOf mps, byt_⟩
def bits_Div64.cl0 : CutS R (Int × Int) := ⟨34, [2, 8, 9, 10, 11, 13, 14, 15, 16], [], [.lf, .lf, .lf, .lf, .lf, .lf, .lf, .lf, .lf], [], Int × Int × Int × Int × Int × Int × Int × Int × Int, (.cons (dInt .u64) (.cons (dInt .u64) (.cons (dInt .u64) (.cons (dInt .u64) (.cons (dInt .u64) (.cons (dInt .u64) (.cons (dInt .u64) (.cons (dInt .u64) (.last (dInt .u64) .nil))))))))), fun k z => bits_Div64.l0 k z.1 z.2.1 z.2.2.1 z.2.2.2.1 z.2.2.2.2.1 z.2.2.2.2.2.1 z.2.2.2.2.2.2.1 z.2.2.2.2.2.2.2.1 z.2.2.2.2.2.2.2.2⟩
def bits_Div64.cj0 : CutS R (Int × Int) := ⟨42, [2, 8, 9, 10, 11, 13, 14, 15], [], [.lf, .lf, .lf, .lf, .lf, .lf, .lf, .lf], [], Int × Int × Int × Int × Int × Int × Int × Int, (.cons (dInt .u64) (.cons (dInt .u64) (.cons (dInt .u64) (.cons (dInt .u64) (.cons (dInt .u64) (.cons (dInt .u64) (.cons (dInt .u64) (.last (dInt .u64) .nil)))))))), fun k z => bits_Div64.j0 k z.1 z.2.1 z.2.2.1 z.2.2.2.1 z.2.2.2.2.1 z.2.2.2.2.2.1 z.2.2.2.2.2.2.1 z.2.2.2.2.2.2.2⟩
def bits_Div64.cl1 : CutS R (Int × Int) := ⟨48, [2, 8, 9, 10, 14, 15, 16, 17, 18], [], [.lf, .lf, .lf, .lf, .lf, .lf, .lf, .lf, .lf], [], Int × Int × Int × Int × Int × Int × Int × Int × Int, (.cons (dInt .u64) (.cons (dInt .u64) (.cons (dInt .u64) (.cons (dInt .u64) (.cons (dInt .u64) (.cons (dInt .u64) (.cons (dInt .u64) (.cons (dInt .u64) (.last (dInt .u64) .nil))))))))), fun k z => bits_Div64.l1 k z.1 z.2.1 z.2.2.1 z.2.2.2.1 z.2.2.2.2.1 z.2.2.2.2.2.1 z.2.2.2.2.2.2.1 z.2.2.2.2.2.2.2.1 z.2.2.2.2.2.2.2.2⟩
def bits_Div64.cj1 : CutS R (Int × Int) := ⟨56, [2, 8, 14, 15, 17, 18], [], [.lf, .lf, .lf, .lf, .lf, .lf], [], Int × Int × Int × Int × Int × Int, (.cons (dInt .u64) (.cons (dInt .u64) (.cons (dInt .u64) (.cons (dInt .u64) (.cons (dInt .u64) (.last (dInt .u64) .nil)))))), fun k z => bits_Div64.j1 k z.1 z.2.1 z.2.2.1 z.2.2.2.1 z.2.2.2.2.1 z.2.2.2.2.2⟩
def bits_Div64.cs : List (CutS R (Int × Int)) := [bits_Div64.cl0, bits_Div64.cj0, bits_Div64.cl1, bits_Div64.cj1]
theorem bits_Div64.hE (k : Nat) : EnvOk Try.prog (bits_Div64.E k) := ⟨tabs, ctOf_ok (all_cons (bits_LeadingZeros64.ok k) all_nil), mtNone_ok, mixed, eqs_, flats_, mps_⟩
theorem bits_Div64.ol0 : (bits_Div64.cl0).Ok bits_Div64.E Try.f74.results.toList 0 (bodyOf Try.f74) bits_Div64.cs bits_Div64.F.ret := ⟨fun z => rfl, fun k z => by
 show bits_Div64.l0 (k + 1) z.1 z.2.1 z.2.2.1 z.2.2.2.1 z.2.2.2.2.1 z.2.2.2.2.2.1 z.2.2.2.2.2.2.1 z.2.2.2.2.2.2.2.1 z.2.2.2.2.2.2.2.2 = _
 rw [bits_Div64.l0]
 kernel_rfl⟩
theorem bits_Div64.oj0 : (bits_Div64.cj0).Ok bits_Div64.E Try.f74.results.toList 0 (bodyOf Try.f74) bits_Div64.cs bits_Div64.F.ret := ⟨fun z => rfl, fun k z => by
 show bits_Div64.j0 (k + 1) z.1 z.2.1 z.2.2.1 z.2.2.2.1 z.2.2.2.2.1 z.2.2.2.2.2.1 z.2.2.2.2.2.2.1 z.2.2.2.2.2.2.2 = _
 rw [bits_Div64.j0]
 kernel_rfl⟩
theorem bits_Div64.ol1 : (bits_Div64.cl1).Ok bits_Div64.E Try.f74.results.toList 0 (bodyOf Try.f74) bits_Div64.cs bits_Div64.F.ret := ⟨fun z => rfl, fun k z => by
 show bits_Div64.l1 (k + 1) z.1 z.2.1 z.2.2.1 z.2.2.2.1 z.2.2.2.2.1 z.2.2.2.2.2.1 z.2.2.2.2.2.2.1 z.2.2.2.2.2.2.2.1 z.2.2.2.2.2.2.2.2 = _
 rw [bits_Div64.l1]
 kernel_rfl⟩
theorem bits_Div64.oj1 : (bits_Div64.cj1).Ok bits_Div64.E Try.f74.results.toList 0 (bodyOf Try.f74) bits_Div64.cs bits_Div64.F.ret := ⟨fun z => rfl, fun k z => by
 show bits_Div64.j1 (k + 1) z.1 z.2.1 z.2.2.1 z.2.2.2.1 z.2.2.2.2.1 z.2.2.2.2.2 = _
 rw [bits_Div64.j1]
 kernel_rfl⟩
theorem bits_Div64.q (k : Nat) (y : Int × Int × Int) : bits_Div64.p k y = bits_Div64.F.run bits_Div64.E Try.f74.results.toList (bodyOf Try.f74) bits_Div64.cs k y := by kernel_rfl
theorem bits_Div64.ok (k : Nat) : CsemOk R Try.prog 74 (bits_Div64.F.sem (bits_Div64.p k)) := fn_ok (F := bits_Div64.F) (f := bits_Div64.p) (E := bits_Div64.E) bits_Div64.hE (fun _ => rfl) Try.func74 (body := (bodyOf Try.f74)) rfl (by kernel_rfl) rfl (by decide) (by kernel_rfl) (cuts := bits_Div64.cs) (all_cons bits_Div64.ol0 (all_cons bits_Div64.oj0 (all_cons bits_Div64.ol1 (all_cons bits_Div64.oj1 all_nil)))) bits_Div64.q k
def bits_Add64.F : FnS R (Int × Int × Int) (Int × Int) := ⟨[.lf, .lf, .lf], [], (.cons (dInt .u64) (.cons (dInt .u64) (.last (dInt .u64) .nil))), .tup [none, none], [], (.cons (dInt .u64) (.last (dInt .u64) .nil))⟩
def bits_Add64.p (k : Nat) (y : Int × Int × Int) : Option (Int × Int) := bits_Add64.f y.1 y.2.1 y.2.2
theorem bits_Add64.ok (k : Nat) : CsemOk R Try.prog 70 (bits_Add64.F.sem (bits_Add64.p k)) := sem_ok fun y r h ρ w us hrel hargs => by
 obtain ⟨a0, a1, a2⟩ := y
 change All2 (IsT R ρ w) [.lf (.v (.int .u64 a0)), .lf (.v (.int .u64 a1)), .lf (.v (.int .u64 a2))] us at hargs
 obtain ⟨u0, _, rfl, h0, g1⟩ := all2_cons hargs
 obtain ⟨u1, _, rfl, h1, g2⟩ := all2_cons g1
 obtain ⟨u2, _, rfl, h2, g3⟩ := all2_cons g2
 clear hargs g1 g2
 cases g3
 obtain ⟨rfl, b0⟩ := is_v h0
 obtain ⟨rfl, b1⟩ := is_v h1
 obtain ⟨rfl, b2⟩ := is_v h2
 have b0 := u64_le b0
 have b1 := u64_le b1
 change bits_Add64.f a0 a1 a2 = some r at h
 unfold bits_Add64.f at h
 split at h
 · rename_i hb
   obtain ⟨h0, h1, h2, h3⟩ := hb
   injection h with h
   subst h
   refine .inr ⟨.tuple #[.int .u64 ((a0 + a1 + a2) % 18446744073709551616), .int .u64 ((a0 + a1 + a2) / 18446744073709551616)], w, ?_, ?_⟩
   · rw [run_callFunc_extern Try.func70 (by kernel_rfl) rfl rfl (e := add64Entry) rfl, run_add64 a0 a1 a2 h0 h1 h2 h3 w]
     rfl
   · refine post_still hrel ?_
     exact ⟨[_, _], rfl, .cons (Is.v _ (u64_ok (Int.emod_nonneg _ (by omega)) (by omega))) (.cons (Is.v _ (u64_ok (by omega) (by omega))) .nil)⟩
 · cases h
def fixed_whole_over.F : FnS R (Int × Int × Bool × Int) (Int × Int × Bool) := ⟨[.agg 3, .lf], [], (.cons (dInt .u64) (.cons (dInt .u64) (.cons dBool (.last (dInt .u64) .nil)))), .agg 3, [], (.cons (dInt .u64) (.cons (dInt .u64) (.last dBool .nil)))⟩
def fixed_whole_over.p (k : Nat) (y : Int × Int × Bool × Int) : Option (Int × Int × Bool) := fixed_whole_over.f k y.1 y.2.1 y.2.2.1 y.2.2.2
def fixed_whole_over.E (k : Nat) : Env R := ⟨tabOf tabL, ctOf [(74, (bits_Div64.F.sem (bits_Div64.p k))), (70, (bits_Add64.F.sem (bits_Add64.p k)))], mtNone, fun _ => false, codes, rts, 44, fun i => ordOf [(1, [(0, 0), (1, 0), (2, 0), (3, 0), (4, 0), (5, 0), (6, 0), (7, 0), (8, 0), (9, 0)])] i, owns, [], eqtOf eqs, fun _ => false, flats, mpsOf mps, byt_⟩
def fixed_whole_over.cs : List (CutS R (Int × Int × Bool)) := []
theorem fixed_whole_over.hE (k : Nat) : EnvOk Try.prog (fixed_whole_over.E k) := ⟨tabs, ctOf_ok (all_cons (bits_Div64.ok k) (all_cons (bits_Add64.ok k) all_nil)), mtNone_ok, mixed, eqs_, flats_, mps_⟩
theorem fixed_whole_over.q (k : Nat) (y : Int × Int × Bool × Int) : fixed_whole_over.p k y = fixed_whole_over.F.run fixed_whole_over.E Try.f51.results.toList (bodyOf Try.f51) fixed_whole_over.cs k y := by kernel_rfl
theorem fixed_whole_over.ok (k : Nat) : CsemOk R Try.prog 51 (fixed_whole_over.F.sem (fixed_whole_over.p k)) := fn_ok (F := fixed_whole_over.F) (f := fixed_whole_over.p) (E := fixed_whole_over.E) fixed_whole_over.hE (fun _ => rfl) Try.func51 (body := (bodyOf Try.f51)) rfl (by kernel_rfl) rfl (by decide) (by kernel_rfl) (cuts := fixed_whole_over.cs) all_nil fixed_whole_over.q k
def fixed_whole_cut.F : FnS R (Int × Int × Bool × Int) (Int) := ⟨[.agg 3, .lf], [], (.cons (dInt .u64) (.cons (dInt .u64) (.cons dBool (.last (dInt .i64) .nil)))), .lf, [], (.last (dInt .i64) .nil)⟩
def fixed_whole_cut.p (k : Nat) (y : Int × Int × Bool × Int) : Option (Int) := fixed_whole_cut.f y.1 y.2.1 y.2.2.1 y.2.2.2
def fixed_whole_cut.E (k : Nat) : Env R := ⟨tabOf tabL, ctOf [], mtNone, fun _ => false, codes, rts, 25, fun _ => [], owns, [], eqtOf eqs, fun _ => false, flats, mpsOf mps, byt_⟩
def fixed_whole_cut.cs : List (CutS R (Int)) := []
theorem fixed_whole_cut.hE (k : Nat) : EnvOk Try.prog (fixed_whole_cut.E k) := ⟨tabs, ctOf_ok all_nil, mtNone_ok, mixed, eqs_, flats_, mps_⟩
theorem fixed_whole_cut.q (k : Nat) (y : Int × Int × Bool × Int) : fixed_whole_cut.p k y = fixed_whole_cut.F.run fixed_whole_cut.E Try.f71.results.toList (bodyOf Try.f71) fixed_whole_cut.cs k y := by kernel_rfl
theorem fixed_whole_cut.ok (k : Nat) : CsemOk R Try.prog 71 (fixed_whole_cut.F.sem (fixed_whole_cut.p k)) := fn_ok (F := fixed_whole_cut.F) (f := fixed_whole_cut.p) (E := fixed_whole_cut.E) fixed_whole_cut.hE (fun _ => rfl) Try.func71 (body := (bodyOf Try.f71)) rfl (by kernel_rfl) rfl (by decide) (by kernel_rfl) (cuts := fixed_whole_cut.cs) all_nil fixed_whole_cut.q k
def fixed_whole_span.F : FnS R (Int × Int × Bool) (Int) := ⟨[.agg 3], [], (.cons (dInt .u64) (.cons (dInt .u64) (.last dBool .nil))), .lf, [], (.last (dInt .i64) .nil)⟩
def fixed_whole_span.p (k : Nat) (y : Int × Int × Bool) : Option (Int) := fixed_whole_span.f y.1 y.2.1 y.2.2
def fixed_whole_span.E (k : Nat) : Env R := ⟨tabOf tabL, ctOf [(71, (fixed_whole_cut.F.sem (fixed_whole_cut.p k)))], mtNone, fun _ => false, codes, rts, 5, fun _ => [], owns, [], eqtOf eqs, fun _ => false, flats, mpsOf mps, byt_⟩
def fixed_whole_span.cs : List (CutS R (Int)) := []
theorem fixed_whole_span.hE (k : Nat) : EnvOk Try.prog (fixed_whole_span.E k) := ⟨tabs, ctOf_ok (all_cons (fixed_whole_cut.ok k) all_nil), mtNone_ok, mixed, eqs_, flats_, mps_⟩
theorem fixed_whole_span.q (k : Nat) (y : Int × Int × Bool) : fixed_whole_span.p k y = fixed_whole_span.F.run fixed_whole_span.E Try.f49.results.toList (bodyOf Try.f49) fixed_whole_span.cs k y := by kernel_rfl
theorem fixed_whole_span.ok (k : Nat) : CsemOk R Try.prog 49 (fixed_whole_span.F.sem (fixed_whole_span.p k)) := fn_ok (F := fixed_whole_span.F) (f := fixed_whole_span.p) (E := fixed_whole_span.E) fixed_whole_span.hE (fun _ => rfl) Try.func49 (body := (bodyOf Try.f49)) rfl (by kernel_rfl) rfl (by decide) (by kernel_rfl) (cuts := fixed_whole_span.cs) all_nil fixed_whole_span.q k
def fixed_Scale.F : FnS R (Int × Int × Int) (Int) := ⟨[.lf, .lf, .lf], [], (.cons (dInt .i64) (.cons (dInt .i64) (.last (dInt .i64) .nil))), .lf, [], (.last (dInt .i64) .nil)⟩
def fixed_Scale.p (k : Nat) (y : Int × Int × Int) : Option (Int) := fixed_Scale.f k y.1 y.2.1 y.2.2
def fixed_Scale.E (k : Nat) : Env R := ⟨tabOf tabL, ctOf [(50, (fixed_product.F.sem (fixed_product.p k))), (51, (fixed_whole_over.F.sem (fixed_whole_over.p k))), (49, (fixed_whole_span.F.sem (fixed_whole_span.p k)))], mtNone, fun _ => false, codes, rts, 16, fun _ => [], owns, [], eqtOf eqs, fun _ => false, flats, mpsOf mps, byt_⟩
def fixed_Scale.cs : List (CutS R (Int)) := []
theorem fixed_Scale.hE (k : Nat) : EnvOk Try.prog (fixed_Scale.E k) := ⟨tabs, ctOf_ok (all_cons (fixed_product.ok k) (all_cons (fixed_whole_over.ok k) (all_cons (fixed_whole_span.ok k) all_nil))), mtNone_ok, mixed, eqs_, flats_, mps_⟩
theorem fixed_Scale.q (k : Nat) (y : Int × Int × Int) : fixed_Scale.p k y = fixed_Scale.F.run fixed_Scale.E Try.f26.results.toList (bodyOf Try.f26) fixed_Scale.cs k y := by kernel_rfl
theorem fixed_Scale.ok (k : Nat) : CsemOk R Try.prog 26 (fixed_Scale.F.sem (fixed_Scale.p k)) := fn_ok (F := fixed_Scale.F) (f := fixed_Scale.p) (E := fixed_Scale.E) fixed_Scale.hE (fun _ => rfl) Try.func26 (body := (bodyOf Try.f26)) rfl (by kernel_rfl) rfl (by decide) (by kernel_rfl) (cuts := fixed_Scale.cs) all_nil fixed_Scale.q k
def fixed_sum.F : FnS R (Int × Int) (Int × Int × Bool) := ⟨[.lf, .lf], [], (.cons (dInt .i64) (.last (dInt .i64) .nil)), .agg 3, [], (.cons (dInt .u64) (.cons (dInt .u64) (.last dBool .nil)))⟩
def fixed_sum.p (k : Nat) (y : Int × Int) : Option (Int × Int × Bool) := fixed_sum.f y.1 y.2
def fixed_sum.E (k : Nat) : Env R := ⟨tabOf tabL, ctOf [(70, (bits_Add64.F.sem (bits_Add64.p k)))], mtNone, fun _ => false, codes, rts, 43, fun _ => [], owns, [], eqtOf eqs, fun _ => false, flats, mpsOf mps, byt_⟩
def fixed_sum.cs : List (CutS R (Int × Int × Bool)) := []
theorem fixed_sum.hE (k : Nat) : EnvOk Try.prog (fixed_sum.E k) := ⟨tabs, ctOf_ok (all_cons (bits_Add64.ok k) all_nil), mtNone_ok, mixed, eqs_, flats_, mps_⟩
theorem fixed_sum.q (k : Nat) (y : Int × Int) : fixed_sum.p k y = fixed_sum.F.run fixed_sum.E Try.f48.results.toList (bodyOf Try.f48) fixed_sum.cs k y := by kernel_rfl
theorem fixed_sum.ok (k : Nat) : CsemOk R Try.prog 48 (fixed_sum.F.sem (fixed_sum.p k)) := fn_ok (F := fixed_sum.F) (f := fixed_sum.p) (E := fixed_sum.E) fixed_sum.hE (fun _ => rfl) Try.func48 (body := (bodyOf Try.f48)) rfl (by kernel_rfl) rfl (by decide) (by kernel_rfl) (cuts := fixed_sum.cs) all_nil fixed_sum.q k
def fixed_Add.F : FnS R (Int × Int) (Int) := ⟨[.lf, .lf], [], (.cons (dInt .i64) (.last (dInt .i64) .nil)), .lf, [], (.last (dInt .i64) .nil)⟩
def fixed_Add.p (k : Nat) (y : Int × Int) : Option (Int) := fixed_Add.f y.1 y.2
def fixed_Add.E (k : Nat) : Env R := ⟨tabOf tabL, ctOf [(48, (fixed_sum.F.sem (fixed_sum.p k))), (49, (fixed_whole_span.F.sem (fixed_whole_span.p k)))], mtNone, fun _ => false, codes, rts, 9, fun _ => [], owns, [], eqtOf eqs, fun _ => false, flats, mpsOf mps, byt_⟩
def fixed_Add.cs : List (CutS R (Int)) := []
theorem fixed_Add.hE (k : Nat) : EnvOk Try.prog (fixed_Add.E k) := ⟨tabs, ctOf_ok (all_cons (fixed_sum.ok k) (all_cons (fixed_whole_span.ok k) all_nil)), mtNone_ok, mixed, eqs_, flats_, mps_⟩
theorem fixed_Add.q (k : Nat) (y : Int × Int) : fixed_Add.p k y = fixed_Add.F.run fixed_Add.E Try.f25.results.toList (bodyOf Try.f25) fixed_Add.cs k y := by kernel_rfl
theorem fixed_Add.ok (k : Nat) : CsemOk R Try.prog 25 (fixed_Add.F.sem (fixed_Add.p k)) := fn_ok (F := fixed_Add.F) (f := fixed_Add.p) (E := fixed_Add.E) fixed_Add.hE (fun _ => rfl) Try.func25 (body := (bodyOf Try.f25)) rfl (by kernel_rfl) rfl (by decide) (by kernel_rfl) (cuts := fixed_Add.cs) all_nil fixed_Add.q k
def cmp_isNaN_api_Span.F : FnS R (Int) (Bool) := ⟨[.lf], [], (.last (dInt .i64) .nil), .lf, [], (.last dBool .nil)⟩
def cmp_isNaN_api_Span.p (k : Nat) (y : Int) : Option (Bool) := cmp_isNaN_api_Span.f y
def cmp_isNaN_api_Span.E (k : Nat) : Env R := ⟨tabOf tabL, ctOf [], mtNone, fun _ => false, codes, rts, 6, fun _ => [], owns, [], eqtOf eqs, fun _ => false, flats, mpsOf mps, byt_⟩
def cmp_isNaN_api_Span.cs : List (CutS R (Bool)) := []
theorem cmp_isNaN_api_Span.hE (k : Nat) : EnvOk Try.prog (cmp_isNaN_api_Span.E k) := ⟨tabs, ctOf_ok all_nil, mtNone_ok, mixed, eqs_, flats_, mps_⟩
theorem cmp_isNaN_api_Span.q (k : Nat) (y : Int) : cmp_isNaN_api_Span.p k y = cmp_isNaN_api_Span.F.run cmp_isNaN_api_Span.E Try.f57.results.toList (bodyOf Try.f57) cmp_isNaN_api_Span.cs k y := by kernel_rfl
theorem cmp_isNaN_api_Span.ok (k : Nat) : CsemOk R Try.prog 57 (cmp_isNaN_api_Span.F.sem (cmp_isNaN_api_Span.p k)) := fn_ok (F := cmp_isNaN_api_Span.F) (f := cmp_isNaN_api_Span.p) (E := cmp_isNaN_api_Span.E) cmp_isNaN_api_Span.hE (fun _ => rfl) Try.func57 (body := (bodyOf Try.f57)) rfl (by kernel_rfl) rfl (by decide) (by kernel_rfl) (cuts := cmp_isNaN_api_Span.cs) all_nil cmp_isNaN_api_Span.q k
def cmp_Compare_api_Span.F : FnS R (Int × Int) (Int) := ⟨[.lf, .lf], [], (.cons (dInt .i64) (.last (dInt .i64) .nil)), .lf, [], (.last (dInt .i64) .nil)⟩
def cmp_Compare_api_Span.p (k : Nat) (y : Int × Int) : Option (Int) := cmp_Compare_api_Span.f y.1 y.2
def cmp_Compare_api_Span.E (k : Nat) : Env R := ⟨tabOf tabL, ctOf [(57, (cmp_isNaN_api_Span.F.sem (cmp_isNaN_api_Span.p k)))], mtNone, fun _ => false, codes, rts, 20, fun _ => [], owns, [], eqtOf eqs, fun _ => false, flats, mpsOf mps, byt_⟩
def cmp_Compare_api_Span.cs : List (CutS R (Int)) := []
theorem cmp_Compare_api_Span.hE (k : Nat) : EnvOk Try.prog (cmp_Compare_api_Span.E k) := ⟨tabs, ctOf_ok (all_cons (cmp_isNaN_api_Span.ok k) all_nil), mtNone_ok, mixed, eqs_, flats_, mps_⟩
theorem cmp_Compare_api_Span.q (k : Nat) (y : Int × Int) : cmp_Compare_api_Span.p k y = cmp_Compare_api_Span.F.run cmp_Compare_api_Span.E Try.f33.results.toList (bodyOf Try.f33) cmp_Compare_api_Span.cs k y := by kernel_rfl
theorem cmp_Compare_api_Span.ok (k : Nat) : CsemOk R Try.prog 33 (cmp_Compare_api_Span.F.sem (cmp_Compare_api_Span.p k)) := fn_ok (F := cmp_Compare_api_Span.F) (f := cmp_Compare_api_Span.p) (E := cmp_Compare_api_Span.E) cmp_Compare_api_Span.hE (fun _ => rfl) Try.func33 (body := (bodyOf Try.f33)) rfl (by kernel_rfl) rfl (by decide) (by kernel_rfl) (cuts := cmp_Compare_api_Span.cs) all_nil cmp_Compare_api_Span.q k
def cmp_isNaN_int.F : FnS R (Int) (Bool) := ⟨[.lf], [], (.last (dInt .i64) .nil), .lf, [], (.last dBool .nil)⟩
def cmp_isNaN_int.p (k : Nat) (y : Int) : Option (Bool) := cmp_isNaN_int.f y
def cmp_isNaN_int.E (k : Nat) : Env R := ⟨tabOf tabL, ctOf [], mtNone, fun _ => false, codes, rts, 6, fun _ => [], owns, [], eqtOf eqs, fun _ => false, flats, mpsOf mps, byt_⟩
def cmp_isNaN_int.cs : List (CutS R (Bool)) := []
theorem cmp_isNaN_int.hE (k : Nat) : EnvOk Try.prog (cmp_isNaN_int.E k) := ⟨tabs, ctOf_ok all_nil, mtNone_ok, mixed, eqs_, flats_, mps_⟩
theorem cmp_isNaN_int.q (k : Nat) (y : Int) : cmp_isNaN_int.p k y = cmp_isNaN_int.F.run cmp_isNaN_int.E Try.f77.results.toList (bodyOf Try.f77) cmp_isNaN_int.cs k y := by kernel_rfl
theorem cmp_isNaN_int.ok (k : Nat) : CsemOk R Try.prog 77 (cmp_isNaN_int.F.sem (cmp_isNaN_int.p k)) := fn_ok (F := cmp_isNaN_int.F) (f := cmp_isNaN_int.p) (E := cmp_isNaN_int.E) cmp_isNaN_int.hE (fun _ => rfl) Try.func77 (body := (bodyOf Try.f77)) rfl (by kernel_rfl) rfl (by decide) (by kernel_rfl) (cuts := cmp_isNaN_int.cs) all_nil cmp_isNaN_int.q k
def cmp_Compare_int.F : FnS R (Int × Int) (Int) := ⟨[.lf, .lf], [], (.cons (dInt .i64) (.last (dInt .i64) .nil)), .lf, [], (.last (dInt .i64) .nil)⟩
def cmp_Compare_int.p (k : Nat) (y : Int × Int) : Option (Int) := cmp_Compare_int.f y.1 y.2
def cmp_Compare_int.E (k : Nat) : Env R := ⟨tabOf tabL, ctOf [(77, (cmp_isNaN_int.F.sem (cmp_isNaN_int.p k)))], mtNone, fun _ => false, codes, rts, 20, fun _ => [], owns, [], eqtOf eqs, fun _ => false, flats, mpsOf mps, byt_⟩
def cmp_Compare_int.cs : List (CutS R (Int)) := []
theorem cmp_Compare_int.hE (k : Nat) : EnvOk Try.prog (cmp_Compare_int.E k) := ⟨tabs, ctOf_ok (all_cons (cmp_isNaN_int.ok k) all_nil), mtNone_ok, mixed, eqs_, flats_, mps_⟩
theorem cmp_Compare_int.q (k : Nat) (y : Int × Int) : cmp_Compare_int.p k y = cmp_Compare_int.F.run cmp_Compare_int.E Try.f56.results.toList (bodyOf Try.f56) cmp_Compare_int.cs k y := by kernel_rfl
theorem cmp_Compare_int.ok (k : Nat) : CsemOk R Try.prog 56 (cmp_Compare_int.F.sem (cmp_Compare_int.p k)) := fn_ok (F := cmp_Compare_int.F) (f := cmp_Compare_int.p) (E := cmp_Compare_int.E) cmp_Compare_int.hE (fun _ => rfl) Try.func56 (body := (bodyOf Try.f56)) rfl (by kernel_rfl) rfl (by decide) (by kernel_rfl) (cuts := cmp_Compare_int.cs) all_nil cmp_Compare_int.q k
def cmp_Or_int.F : FnS R ((List Int)) (Int) := ⟨[.lf], [], (.last (dRo 2) .nil), .lf, [], (.last (dInt .i64) .nil)⟩
def cmp_Or_int.p (k : Nat) (y : (List Int)) : Option (Int) := cmp_Or_int.f k y
def cmp_Or_int.E (k : Nat) : Env R := ⟨tabOf tabL, ctOf [], mtNone, fun _ => false, codes, rts, 18, fun _ => [], owns, [], eqtOf eqs, fun _ => false, flats, mpsOf mps, byt_⟩
def cmp_Or_int.cl0 : CutS R (Int) := ⟨6, [3, 6, 7, 8], [], [.lf, .lf, .lf, .lf], [], Int × (List Int) × Int × Int, (.cons (dInt .i64) (.cons (dRo 2) (.cons (dInt .i64) (.last (dInt .i64) .nil)))), fun k z => cmp_Or_int.l0 k z.1 z.2.1 z.2.2.1 z.2.2.2⟩
def cmp_Or_int.cs : List (CutS R (Int)) := [cmp_Or_int.cl0]
theorem cmp_Or_int.hE (k : Nat) : EnvOk Try.prog (cmp_Or_int.E k) := ⟨tabs, ctOf_ok all_nil, mtNone_ok, mixed, eqs_, flats_, mps_⟩
theorem cmp_Or_int.ol0 : (cmp_Or_int.cl0).Ok cmp_Or_int.E Try.f55.results.toList 0 (bodyOf Try.f55) cmp_Or_int.cs cmp_Or_int.F.ret := ⟨fun z => rfl, fun k z => by
 show cmp_Or_int.l0 (k + 1) z.1 z.2.1 z.2.2.1 z.2.2.2 = _
 rw [cmp_Or_int.l0]
 kernel_rfl⟩
theorem cmp_Or_int.q (k : Nat) (y : (List Int)) : cmp_Or_int.p k y = cmp_Or_int.F.run cmp_Or_int.E Try.f55.results.toList (bodyOf Try.f55) cmp_Or_int.cs k y := by kernel_rfl
theorem cmp_Or_int.ok (k : Nat) : CsemOk R Try.prog 55 (cmp_Or_int.F.sem (cmp_Or_int.p k)) := fn_ok (F := cmp_Or_int.F) (f := cmp_Or_int.p) (E := cmp_Or_int.E) cmp_Or_int.hE (fun _ => rfl) Try.func55 (body := (bodyOf Try.f55)) rfl (by kernel_rfl) rfl (by decide) (by kernel_rfl) (cuts := cmp_Or_int.cs) (all_cons cmp_Or_int.ol0 all_nil) cmp_Or_int.q k
def cluster_byMerit_1.F : FnS R (Int × Int × Int × Int × Int × Bool × Bool × Int × Int × Int × Int × Int × Int × Bool × Bool × Int) (Int) := ⟨[.agg 8, .agg 8], [], (.cons (dInt .i64) (.cons (dInt .i64) (.cons (dInt .i64) (.cons (dInt .i64) (.cons (dInt .i64) (.cons dBool (.cons dBool (.cons (dInt .i64) (.cons (dInt .i64) (.cons (dInt .i64) (.cons (dInt .i64) (.cons (dInt .i64) (.cons (dInt .i64) (.cons dBool (.cons dBool (.last (dInt .i64) .nil)))))))))))))))), .lf, [], (.last (dInt .i64) .nil)⟩
def cluster_byMerit_1.p (k : Nat) (y : Int × Int × Int × Int × Int × Bool × Bool × Int × Int × Int × Int × Int × Int × Bool × Bool × Int) : Option (Int) := cluster_byMerit_1.f k y.1 y.2.1 y.2.2.1 y.2.2.2.1 y.2.2.2.2.1 y.2.2.2.2.2.1 y.2.2.2.2.2.2.1 y.2.2.2.2.2.2.2.1 y.2.2.2.2.2.2.2.2.1 y.2.2.2.2.2.2.2.2.2.1 y.2.2.2.2.2.2.2.2.2.2.1 y.2.2.2.2.2.2.2.2.2.2.2.1 y.2.2.2.2.2.2.2.2.2.2.2.2.1 y.2.2.2.2.2.2.2.2.2.2.2.2.2.1 y.2.2.2.2.2.2.2.2.2.2.2.2.2.2.1 y.2.2.2.2.2.2.2.2.2.2.2.2.2.2.2
def cluster_byMerit_1.E (k : Nat) : Env R := ⟨tabOf tabL, ctOf [(33, (cmp_Compare_api_Span.F.sem (cmp_Compare_api_Span.p k))), (56, (cmp_Compare_int.F.sem (cmp_Compare_int.p k))), (55, (cmp_Or_int.F.sem (cmp_Or_int.p k)))], mtNone, fun f => memB f [33, 55, 56], codes, rts, 19, fun i => ordOf [(1, [(0, 0), (1, 0), (2, 0), (3, 0), (4, 0), (5, 0), (6, 0), (7, 0), (8, 0), (9, 0), (10, 0), (11, 0), (12, 1), (13, 0), (14, 0)])] i, owns, [], eqtOf eqs, fun _ => false, flats, mpsOf mps, byt_⟩
def cluster_byMerit_1.cs : List (CutS R (Int)) := []
theorem cluster_byMerit_1.hE (k : Nat) : EnvOk Try.prog (cluster_byMerit_1.E k) := ⟨tabs, ctOf_ok (all_cons (cmp_Compare_api_Span.ok k) (all_cons (cmp_Compare_int.ok k) (all_cons (cmp_Or_int.ok k) all_nil))), mtNone_ok, mixed, eqs_, flats_, mps_⟩
theorem cluster_byMerit_1.q (k : Nat) (y : Int × Int × Int × Int × Int × Bool × Bool × Int × Int × Int × Int × Int × Int × Bool × Bool × Int) : cluster_byMerit_1.p k y = cluster_byMerit_1.F.run cluster_byMerit_1.E Try.f54.results.toList (bodyOf Try.f54) cluster_byMerit_1.cs k y := by kernel_rfl
theorem cluster_byMerit_1.ok (k : Nat) : CsemOk R Try.prog 54 (cluster_byMerit_1.F.sem (cluster_byMerit_1.p k)) := fn_ok (F := cluster_byMerit_1.F) (f := cluster_byMerit_1.p) (E := cluster_byMerit_1.E) cluster_byMerit_1.hE (fun _ => rfl) Try.func54 (body := (bodyOf Try.f54)) rfl (by kernel_rfl) rfl (by decide) (by kernel_rfl) (cuts := cluster_byMerit_1.cs) all_nil cluster_byMerit_1.q k
def slices_insertionSortCmpFunc_cluster_rated.F : FnS R (Int × Int × (List S53)) ((List S53)) := ⟨[.lf, .lf, .lf, .lf], [.row 1 53], (.row 1 0 (.cons (dInt .i64) (.cons (dInt .i64) (.fnv 54 (.last (dRo 1) .nil))))), .tup [], [.row 1 53], (.last (dRo 1) .nil)⟩
def slices_insertionSortCmpFunc_cluster_rated.p (k : Nat) (y : Int × Int × (List S53)) : Option ((List S53)) := slices_insertionSortCmpFunc_cluster_rated.f k y.1 y.2.1 y.2.2
def slices_insertionSortCmpFunc_cluster_rated.E (k : Nat) : Env R := ⟨tabOf tabL, ctOf [(54, (cluster_byMerit_1.F.sem (cluster_byMerit_1.p k)))], mtNone, fun _ => false, codes, rts, 53, fun i => ordOf [(4, [(0, 0), (1, 0), (2, 0), (3, 0), (4, 0), (5, 0), (6, 0), (7, 0), (8, 0), (9, 0), (10, 0), (11, 0), (12, 0), (13, 0), (14, 2), (15, 0), (16, 0)]), (6, [(0, 0), (1, 0), (2, 0), (3, 0), (4, 0), (5, 0), (6, 0), (7, 0), (8, 0), (9, 0), (10, 0), (11, 0), (12, 0), (13, 0), (14, 0), (15, 2), (16, 0), (17, 2)])] i, owns, [], eqtOf eqs, fun _ => false, flats, mpsOf mps, byt_⟩
def slices_insertionSortCmpFunc_cluster_rated.cl0 : CutS R ((List S53)) := ⟨2, [0, 1, 2, 3, 8], [], [.lf, .lf, .lf, .lf, .lf], [.row 1 53], Int × Int × Int × (List S53), (.row 1 0 (.cons (dInt .i64) (.cons (dInt .i64) (.fnv 54 (.cons (dInt .i64) (.last (dRo 1) .nil)))))), fun k z => slices_insertionSortCmpFunc_cluster_rated.l0 k z.1 z.2.1 z.2.2.1 z.2.2.2⟩
def slices_insertionSortCmpFunc_cluster_rated.cl1 : CutS R ((List S53)) := ⟨8, [0, 1, 2, 3, 8, 9], [], [.lf, .lf, .lf, .lf, .lf, .lf], [.row 1 53], Int × Int × Int × Int × (List S53), (.row 1 0 (.cons (dInt .i64) (.cons (dInt .i64) (.fnv 54 (.cons (dInt .i64) (.cons (dInt .i64) (.last (dRo 1) .nil))))))), fun k z => slices_insertionSortCmpFunc_cluster_rated.l1 k z.1 z.2.1 z.2.2.1 z.2.2.2.1 z.2.2.2.2⟩
def slices_insertionSortCmpFunc_cluster_rated.cs : List (CutS R ((List S53))) := [slices_insertionSortCmpFunc_cluster_rated.cl0, slices_insertionSortCmpFunc_cluster_rated.cl1]
theorem slices_insertionSortCmpFunc_cluster_rated.hE (k : Nat) : EnvOk Try.prog (slices_insertionSortCmpFunc_cluster_rated.E k) := ⟨tabs, ctOf_ok (all_cons (cluster_byMerit_1.ok k) all_nil), mtNone_ok, mixed, eqs_, flats_, mps_⟩
theorem slices_insertionSortCmpFunc_cluster_rated.ol0 : (slices_insertionSortCmpFunc_cluster_rated.cl0).Ok slices_insertionSortCmpFunc_cluster_rated.E Try.f87.results.toList 1 (bodyOf Try.f87) slices_insertionSortCmpFunc_cluster_rated.cs slices_insertionSortCmpFunc_cluster_rated.F.ret := ⟨fun z => rfl, fun k z => by
 show slices_insertionSortCmpFunc_cluster_rated.l0 (k + 1) z.1 z.2.1 z.2.2.1 z.2.2.2 = _
 rw [slices_insertionSortCmpFunc_cluster_rated.l0]
 kernel_rfl⟩
theorem slices_insertionSortCmpFunc_cluster_rated.ol1 : (slices_insertionSortCmpFunc_cluster_rated.cl1).Ok slices_insertionSortCmpFunc_cluster_rated.E Try.f87.results.toList 1 (bodyOf Try.f87) slices_insertionSortCmpFunc_cluster_rated.cs slices_insertionSortCmpFunc_cluster_rated.F.ret := ⟨fun z => rfl, fun k z => by
 show slices_insertionSortCmpFunc_cluster_rated.l1 (k + 1) z.1 z.2.1 z.2.2.1 z.2.2.2.1 z.2.2.2.2 = _
 rw [slices_insertionSortCmpFunc_cluster_rated.l1]
 kernel_rfl⟩
theorem slices_insertionSortCmpFunc_cluster_rated.q (k : Nat) (y : Int × Int × (List S53)) : slices_insertionSortCmpFunc_cluster_rated.p k y = slices_insertionSortCmpFunc_cluster_rated.F.run slices_insertionSortCmpFunc_cluster_rated.E Try.f87.results.toList (bodyOf Try.f87) slices_insertionSortCmpFunc_cluster_rated.cs k y := by kernel_rfl
theorem slices_insertionSortCmpFunc_cluster_rated.ok (k : Nat) : CsemOk R Try.prog 87 (slices_insertionSortCmpFunc_cluster_rated.F.sem (slices_insertionSortCmpFunc_cluster_rated.p k)) := fn_ok (F := slices_insertionSortCmpFunc_cluster_rated.F) (f := slices_insertionSortCmpFunc_cluster_rated.p) (E := slices_insertionSortCmpFunc_cluster_rated.E) slices_insertionSortCmpFunc_cluster_rated.hE (fun _ => rfl) Try.func87 (body := (bodyOf Try.f87)) rfl (by kernel_rfl) rfl (by decide) (by kernel_rfl) (cuts := slices_insertionSortCmpFunc_cluster_rated.cs) (all_cons slices_insertionSortCmpFunc_cluster_rated.ol0 (all_cons slices_insertionSortCmpFunc_cluster_rated.ol1 all_nil)) slices_insertionSortCmpFunc_cluster_rated.q k
def slices_swapRangeCmpFunc_cluster_rated.F : FnS R (Int × Int × Int × (List S53)) ((List S53)) := ⟨[.lf, .lf, .lf, .lf, .lf], [.row 1 53], (.row 1 0 (.cons (dInt .i64) (.cons (dInt .i64) (.cons (dInt .i64) (.fnv 54 (.last (dRo 1) .nil)))))), .tup [], [.row 1 53], (.last (dRo 1) .nil)⟩
def slices_swapRangeCmpFunc_cluster_rated.p (k : Nat) (y : Int × Int × Int × (List S53)) : Option ((List S53)) := slices_swapRangeCmpFunc_cluster_rated.f k y.1 y.2.1 y.2.2.1 y.2.2.2
def slices_swapRangeCmpFunc_cluster_rated.E (k : Nat) : Env R := ⟨tabOf tabL, ctOf [], mtNone, fun _ => false, codes, rts, 38, fun i => ordOf [(3, [(0, 0), (1, 0), (2, 0), (3, 0), (4, 0), (5, 0), (6, 0), (7, 0), (8, 0), (9, 0), (10, 0), (11, 0), (12, 0), (13, 0), (14, 0), (15, 0), (16, 0), (17, 0), (18, 0), (19, 0), (20, 0), (21, 2), (22, 0), (23, 2)])] i, owns, [], eqtOf eqs, fun _ => false, flats, mpsOf mps, byt_⟩
def slices_swapRangeCmpFunc_cluster_rated.cl0 : CutS R ((List S53)) := ⟨2, [0, 1, 2, 3, 10], [], [.lf, .lf, .lf, .lf, .lf], [.row 1 53], Int × Int × Int × Int × (List S53), (.row 1 0 (.cons (dInt .i64) (.cons (dInt .i64) (.cons (dInt .i64) (.cons (dInt .i64) (.last (dRo 1) .nil)))))), fun k z => slices_swapRangeCmpFunc_cluster_rated.l0 k z.1 z.2.1 z.2.2.1 z.2.2.2.1 z.2.2.2.2⟩
def slices_swapRangeCmpFunc_cluster_rated.cs : List (CutS R ((List S53))) := [slices_swapRangeCmpFunc_cluster_rated.cl0]
theorem slices_swapRangeCmpFunc_cluster_rated.hE (k : Nat) : EnvOk Try.prog (slices_swapRangeCmpFunc_cluster_rated.E k) := ⟨tabs, ctOf_ok all_nil, mtNone_ok, mixed, eqs_, flats_, mps_⟩
theorem slices_swapRangeCmpFunc_cluster_rated.ol0 : (slices_swapRangeCmpFunc_cluster_rated.cl0).Ok slices_swapRangeCmpFunc_cluster_rated.E Try.f92.results.toList 1 (bodyOf Try.f92) slices_swapRangeCmpFunc_cluster_rated.cs slices_swapRangeCmpFunc_cluster_rated.F.ret := ⟨fun z => rfl, fun k z => by
 show slices_swapRangeCmpFunc_cluster_rated.l0 (k + 1) z.1 z.2.1 z.2.2.1 z.2.2.2.1 z.2.2.2.2 = _
 rw [slices_swapRangeCmpFunc_cluster_rated.l0]
 kernel_rfl⟩
theorem slices_swapRangeCmpFunc_cluster_rated.q (k : Nat) (y : Int × Int × Int × (List S53)) : slices_swapRangeCmpFunc_cluster_rated.p k y = slices_swapRangeCmpFunc_cluster_rated.F.run slices_swapRangeCmpFunc_cluster_rated.E Try.f92.results.toList (bodyOf Try.f92) slices_swapRangeCmpFunc_cluster_rated.cs k y := by kernel_rfl
theorem slices_swapRangeCmpFunc_cluster_rated.ok (k : Nat) : CsemOk R Try.prog 92 (slices_swapRangeCmpFunc_cluster_rated.F.sem (slices_swapRangeCmpFunc_cluster_rated.p k)) := fn_ok (F := slices_swapRangeCmpFunc_cluster_rated.F) (f := slices_swapRangeCmpFunc_cluster_rated.p) (E := slices_swapRangeCmpFunc_cluster_rated.E) slices_swapRangeCmpFunc_cluster_rated.hE (fun _ => rfl) Try.func92 (body := (bodyOf Try.f92)) rfl (by kernel_rfl) rfl (by decide) (by kernel_rfl) (cuts := slices_swapRangeCmpFunc_cluster_rated.cs) (all_cons slices_swapRangeCmpFunc_cluster_rated.ol0 all_nil) slices_swapRangeCmpFunc_cluster_rated.q k
def slices_rotateCmpFunc_cluster_rated.F : FnS R (Int × Int × Int × (List S53)) ((List S53)) := ⟨[.lf, .lf, .lf, .lf, .lf], [.row 1 53], (.row 1 0 (.cons (dInt .i64) (.cons (dInt .i64) (.cons (dInt .i64) (.fnv 54 (.last (dRo 1) .nil)))))), .tup [], [.row 1 53], (.last (dRo 1) .nil)⟩
def slices_rotateCmpFunc_cluster_rated.p (k : Nat) (y : Int × Int × Int × (List S53)) : Option ((List S53)) := slices_rotateCmpFunc_cluster_rated.f k y.1 y.2.1 y.2.2.1 y.2.2.2
def slices_rotateCmpFunc_cluster_rated.E (k : Nat) : Env R := ⟨tabOf tabL, ctOf [(92, (slices_swapRangeCmpFunc_cluster_rated.F.sem (slices_swapRangeCmpFunc_cluster_rated.p k)))], mtNone, fun _ => false, codes, rts, 58, fun _ => [], owns, [], eqtOf eqs, fun _ => false, flats, mpsOf mps, byt_⟩
def slices_rotateCmpFunc_cluster_rated.cl0 : CutS R ((List S53)) := ⟨4, [0, 2, 4, 10, 11], [], [.lf, .lf, .lf, .lf, .lf], [.row 1 53], Int × Int × Int × (List S53), (.row 1 0 (.cons (dInt .i64) (.fnv 54 (.cons (dInt .i64) (.cons (dInt .i64) (.last (dRo 1) .nil)))))), fun k z => slices_rotateCmpFunc_cluster_rated.l0 k z.1 z.2.1 z.2.2.1 z.2.2.2⟩
def slices_rotateCmpFunc_cluster_rated.cs : List (CutS R ((List S53))) := [slices_rotateCmpFunc_cluster_rated.cl0]
theorem slices_rotateCmpFunc_cluster_rated.hE (k : Nat) : EnvOk Try.prog (slices_rotateCmpFunc_cluster_rated.E k) := ⟨tabs, ctOf_ok (all_cons (slices_swapRangeCmpFunc_cluster_rated.ok k) all_nil), mtNone_ok, mixed, eqs_, flats_, mps_⟩
theorem slices_rotateCmpFunc_cluster_rated.ol0 : (slices_rotateCmpFunc_cluster_rated.cl0).Ok slices_rotateCmpFunc_cluster_rated.E Try.f91.results.toList 1 (bodyOf Try.f91) slices_rotateCmpFunc_cluster_rated.cs slices_rotateCmpFunc_cluster_rated.F.ret := ⟨fun z => rfl, fun k z => by
 show slices_rotateCmpFunc_cluster_rated.l0 (k + 1) z.1 z.2.1 z.2.2.1 z.2.2.2 = _
 rw [slices_rotateCmpFunc_cluster_rated.l0]
 kernel_rfl⟩
theorem slices_rotateCmpFunc_cluster_rated.q (k : Nat) (y : Int × Int × Int × (List S53)) : slices_rotateCmpFunc_cluster_rated.p k y = slices_rotateCmpFunc_cluster_rated.F.run slices_rotateCmpFunc_cluster_rated.E Try.f91.results.toList (bodyOf Try.f91) slices_rotateCmpFunc_cluster_rated.cs k y := by kernel_rfl
theorem slices_rotateCmpFunc_cluster_rated.ok (k : Nat) : CsemOk R Try.prog 91 (slices_rotateCmpFunc_cluster_rated.F.sem (slices_rotateCmpFunc_cluster_rated.p k)) := fn_ok (F := slices_rotateCmpFunc_cluster_rated.F) (f := slices_rotateCmpFunc_cluster_rated.p) (E := slices_rotateCmpFunc_cluster_rated.E) slices_rotateCmpFunc_cluster_rated.hE (fun _ => rfl) Try.func91 (body := (bodyOf Try.f91)) rfl (by kernel_rfl) rfl (by decide) (by kernel_rfl) (cuts := slices_rotateCmpFunc_cluster_rated.cs) (all_cons slices_rotateCmpFunc_cluster_rated.ol0 all_nil) slices_rotateCmpFunc_cluster_rated.q k
def slices_symMergeCmpFunc_cluster_rated.F : FnG R (Int × Int × Int × (List S53)) ((List S53)) := ⟨[.lf, .lf, .lf, .lf, .lf], [.row 1 53], (.row 1 0 (.cons (dInt .i64) (.cons (dInt .i64) (.cons (dInt .i64) (.fnv 54 (.last (dRo 1) .nil)))))), (.one (.tup []) [.row 1 53] ((.last (dRo 1) .nil)))⟩
def slices_symMergeCmpFunc_cluster_rated.p (k : Nat) (y : Int × Int × Int × (List S53)) : Option ((List S53)) := slices_symMergeCmpFunc_cluster_rated.f k y.1 y.2.1 y.2.2.1 y.2.2.2
def slices_symMergeCmpFunc_cluster_rated.E (k : Nat) : Env R := ⟨tabOf tabL, ctOf [(54, (cluster_byMerit_1.F.sem (cluster_byMerit_1.p k))), (91, (slices_rotateCmpFunc_cluster_rated.F.sem (slices_rotateCmpFunc_cluster_rated.p k))), (88, (slices_symMergeCmpFunc_cluster_rated.F.sem (slices_symMergeCmpFunc_cluster_rated.p k)))], mtNone, fun _ => false, codes, rts, 220, fun i => ordOf [(5, [(0, 0), (1, 0), (2, 0), (3, 0), (4, 0), (5, 0), (6, 0), (7, 0), (8, 0), (9, 2), (10, 0)]), (11, [(0, 0), (1, 0), (2, 0), (3, 0), (4, 0), (5, 0), (6, 0), (7, 0), (8, 0), (9, 0), (10, 0), (11, 0), (12, 0), (13, 0), (14, 0), (15, 2), (16, 0), (17, 2)]), (17, [(0, 0), (1, 0), (2, 0), (3, 0), (4, 0), (5, 0), (6, 0), (7, 0), (8, 0), (9, 2), (10, 0), (11, 0)]), (23, [(0, 0), (1, 0), (2, 0), (3, 0), (4, 0), (5, 0), (6, 0), (7, 0), (8, 0), (9, 0), (10, 0), (11, 0), (12, 0), (13, 0), (14, 0), (15, 2), (16, 0), (17, 2)]), (35, [(0, 0), (1, 0), (2, 0), (3, 0), (4, 0), (5, 0), (6, 0), (7, 0), (8, 0), (9, 0), (10, 0), (11, 2), (12, 0), (13, 0)])] i, owns, [], eqtOf eqs, fun _ => false, flats, mpsOf mps, byt_⟩
def slices_symMergeCmpFunc_cluster_rated.cj0 : CutS R ((List S53)) := ⟨64, [0, 1, 2, 3, 4, 18, 19, 20, 21], [], [.lf, .lf, .lf, .lf, .lf, .lf, .lf, .lf, .lf], [.row 1 53], Int × Int × Int × Int × Int × Int × Int × (List S53), (.row 1 0 (.cons (dInt .i64) (.cons (dInt .i64) (.cons (dInt .i64) (.fnv 54 (.cons (dInt .i64) (.cons (dInt .i64) (.cons (dInt .i64) (.cons (dInt .i64) (.last (dRo 1) .nil)))))))))), fun k z => slices_symMergeCmpFunc_cluster_rated.j0 k z.1 z.2.1 z.2.2.1 z.2.2.2.1 z.2.2.2.2.1 z.2.2.2.2.2.1 z.2.2.2.2.2.2.1 z.2.2.2.2.2.2.2⟩
def slices_symMergeCmpFunc_cluster_rated.cl0 : CutS R ((List S53)) := ⟨66, [0, 1, 2, 3, 4, 18, 19, 20, 21, 22], [], [.lf, .lf, .lf, .lf, .lf, .lf, .lf, .lf, .lf, .lf], [.row 1 53], Int × Int × Int × Int × Int × Int × Int × Int × (List S53), (.row 1 0 (.cons (dInt .i64) (.cons (dInt .i64) (.cons (dInt .i64) (.fnv 54 (.cons (dInt .i64) (.cons (dInt .i64) (.cons (dInt .i64) (.cons (dInt .i64) (.cons (dInt .i64) (.last (dRo 1) .nil))))))))))), fun k z => slices_symMergeCmpFunc_cluster_rated.l0 k z.1 z.2.1 z.2.2.1 z.2.2.2.1 z.2.2.2.2.1 z.2.2.2.2.2.1 z.2.2.2.2.2.2.1 z.2.2.2.2.2.2.2.1 z.2.2.2.2.2.2.2.2⟩
def slices_symMergeCmpFunc_cluster_rated.cj1 : CutS R ((List S53)) := ⟨82, [0, 1, 3, 4, 18, 20, 24], [], [.lf, .lf, .lf, .lf, .lf, .lf, .lf], [.row 1 53], Int × Int × Int × Int × Int × (List S53), (.row 1 0 (.cons (dInt .i64) (.cons (dInt .i64) (.fnv 54 (.cons (dInt .i64) (.cons (dInt .i64) (.cons (dInt .i64) (.last (dRo 1) .nil)))))))), fun k z => slices_symMergeCmpFunc_cluster_rated.j1 k z.1 z.2.1 z.2.2.1 z.2.2.2.1 z.2.2.2.2.1 z.2.2.2.2.2⟩
def slices_symMergeCmpFunc_cluster_rated.cl1 : CutS R ((List S53)) := ⟨30, [0, 2, 4, 14, 15], [], [.lf, .lf, .lf, .lf, .lf], [.row 1 53], Int × Int × Int × (List S53), (.row 1 0 (.cons (dInt .i64) (.fnv 54 (.cons (dInt .i64) (.cons (dInt .i64) (.last (dRo 1) .nil)))))), fun k z => slices_symMergeCmpFunc_cluster_rated.l1 k z.1 z.2.1 z.2.2.1 z.2.2.2⟩
def slices_symMergeCmpFunc_cluster_rated.cl2 : CutS R ((List S53)) := ⟨42, [0, 14, 17], [], [.lf, .lf, .lf], [.row 1 53], Int × Int × (List S53), (.row 1 0 (.cons (dInt .i64) (.cons (dInt .i64) (.last (dRo 1) .nil)))), fun k z => slices_symMergeCmpFunc_cluster_rated.l2 k z.1 z.2.1 z.2.2⟩
def slices_symMergeCmpFunc_cluster_rated.cl3 : CutS R ((List S53)) := ⟨6, [0, 1, 4, 10, 11], [], [.lf, .lf, .lf, .lf, .lf], [.row 1 53], Int × Int × Int × (List S53), (.row 1 0 (.cons (dInt .i64) (.fnv 54 (.cons (dInt .i64) (.cons (dInt .i64) (.last (dRo 1) .nil)))))), fun k z => slices_symMergeCmpFunc_cluster_rated.l3 k z.1 z.2.1 z.2.2.1 z.2.2.2⟩
def slices_symMergeCmpFunc_cluster_rated.cl4 : CutS R ((List S53)) := ⟨18, [0, 10, 13], [], [.lf, .lf, .lf], [.row 1 53], Int × Int × (List S53), (.row 1 0 (.cons (dInt .i64) (.cons (dInt .i64) (.last (dRo 1) .nil)))), fun k z => slices_symMergeCmpFunc_cluster_rated.l4 k z.1 z.2.1 z.2.2⟩
def slices_symMergeCmpFunc_cluster_rated.cs : List (CutS R ((List S53))) := [slices_symMergeCmpFunc_cluster_rated.cj0, slices_symMergeCmpFunc_cluster_rated.cl0, slices_symMergeCmpFunc_cluster_rated.cj1, slices_symMergeCmpFunc_cluster_rated.cl1, slices_symMergeCmpFunc_cluster_rated.cl2, slices_symMergeCmpFunc_cluster_rated.cl3, slices_symMergeCmpFunc_cluster_rated.cl4]
theorem slices_symMergeCmpFunc_cluster_rated.hE (k : Nat) (hself : CsemOk R Try.prog 88 (slices_symMergeCmpFunc_cluster_rated.F.sem (slices_symMergeCmpFunc_cluster_rated.p k))) : EnvOk Try.prog (slices_symMergeCmpFunc_cluster_rated.E k) := ⟨tabs, ctOf_ok (all_cons (cluster_byMerit_1.ok k) (all_cons (slices_rotateCmpFunc_cluster_rated.ok k) (all_cons hself all_nil))), mtNone_ok, mixed, eqs_, flats_, mps_⟩
theorem slices_symMergeCmpFunc_cluster_rated.oj0 : (slices_symMergeCmpFunc_cluster_rated.cj0).Ok slices_symMergeCmpFunc_cluster_rated.E Try.f88.results.toList 1 (bodyOf Try.f88) slices_symMergeCmpFunc_cluster_rated.cs slices_symMergeCmpFunc_cluster_rated.F.ret := ⟨fun z => rfl, fun k z => by
 show slices_symMergeCmpFunc_cluster_rated.j0 (k + 1) z.1 z.2.1 z.2.2.1 z.2.2.2.1 z.2.2.2.2.1 z.2.2.2.2.2.1 z.2.2.2.2.2.2.1 z.2.2.2.2.2.2.2 = _
 rw [slices_symMergeCmpFunc_cluster_rated.j0]
 kernel_rfl⟩
theorem slices_symMergeCmpFunc_cluster_rated.ol0 : (slices_symMergeCmpFunc_cluster_rated.cl0).Ok slices_symMergeCmpFunc_cluster_rated.E Try.f88.results.toList 1 (bodyOf Try.f88) slices_symMergeCmpFunc_cluster_rated.cs slices_symMergeCmpFunc_cluster_rated.F.ret := ⟨fun z => rfl, fun k z => by
 show slices_symMergeCmpFunc_cluster_rated.l0 (k + 1) z.1 z.2.1 z.2.2.1 z.2.2.2.1 z.2.2.2.2.1 z.2.2.2.2.2.1 z.2.2.2.2.2.2.1 z.2.2.2.2.2.2.2.1 z.2.2.2.2.2.2.2.2 = _
 rw [slices_symMergeCmpFunc_cluster_rated.l0]
 kernel_rfl⟩
theorem slices_symMergeCmpFunc_cluster_rated.oj1 : (slices_symMergeCmpFunc_cluster_rated.cj1).Ok slices_symMergeCmpFunc_cluster_rated.E Try.f88.results.toList 1 (bodyOf Try.f88) slices_symMergeCmpFunc_cluster_rated.cs slices_symMergeCmpFunc_cluster_rated.F.ret := ⟨fun z => rfl, fun k z => by
 show slices_symMergeCmpFunc_cluster_rated.j1 (k + 1) z.1 z.2.1 z.2.2.1 z.2.2.2.1 z.2.2.2.2.1 z.2.2.2.2.2 = _
 rw [slices_symMergeCmpFunc_cluster_rated.j1]
 kernel_rfl⟩
theorem slices_symMergeCmpFunc_cluster_rated.ol1 : (slices_symMergeCmpFunc_cluster_rated.cl1).Ok slices_symMergeCmpFunc_cluster_rated.E Try.f88.results.toList 1 (bodyOf Try.f88) slices_symMergeCmpFunc_cluster_rated.cs slices_symMergeCmpFunc_cluster_rated.F.ret := ⟨fun z => rfl, fun k z => by
 show slices_symMergeCmpFunc_cluster_rated.l1 (k + 1) z.1 z.2.1 z.2.2.1 z.2.2.2 = _
 rw [slices_symMergeCmpFunc_cluster_rated.l1]
 kernel_rfl⟩
theorem slices_symMergeCmpFunc_cluster_rated.ol2 : (slices_symMergeCmpFunc_cluster_rated.cl2).Ok slices_symMergeCmpFunc_cluster_rated.E Try.f88.results.toList 1 (bodyOf Try.f88) slices_symMergeCmpFunc_cluster_rated.cs slices_symMergeCmpFunc_cluster_rated.F.ret := ⟨fun z => rfl, fun k z => by
 show slices_symMergeCmpFunc_cluster_rated.l2 (k + 1) z.1 z.2.1 z.2.2 = _
 rw [slices_symMergeCmpFunc_cluster_rated.l2]
 kernel_rfl⟩
theorem slices_symMergeCmpFunc_cluster_rated.ol3 : (slices_symMergeCmpFunc_cluster_rated.cl3).Ok slices_symMergeCmpFunc_cluster_rated.E Try.f88.results.toList 1 (bodyOf Try.f88) slices_symMergeCmpFunc_cluster_rated.cs slices_symMergeCmpFunc_cluster_rated.F.ret := ⟨fun z => rfl, fun k z => by
 show slices_symMergeCmpFunc_cluster_rated.l3 (k + 1) z.1 z.2.1 z.2.2.1 z.2.2.2 = _
 rw [slices_symMergeCmpFunc_cluster_rated.l3]
 kernel_rfl⟩
theorem slices_symMergeCmpFunc_cluster_rated.ol4 : (slices_symMergeCmpFunc_cluster_rated.cl4).Ok slices_symMergeCmpFunc_cluster_rated.E Try.f88.results.toList 1 (bodyOf Try.f88) slices_symMergeCmpFunc_cluster_rated.cs slices_symMergeCmpFunc_cluster_rated.F.ret := ⟨fun z => rfl, fun k z => by
 show slices_symMergeCmpFunc_cluster_rated.l4 (k + 1) z.1 z.2.1 z.2.2 = _
 rw [slices_symMergeCmpFunc_cluster_rated.l4]
 kernel_rfl⟩
theorem slices_symMergeCmpFunc_cluster_rated.q0 (y : Int × Int × Int × (List S53)) : slices_symMergeCmpFunc_cluster_rated.p 0 y = none := by kernel_rfl
theorem slices_symMergeCmpFunc_cluster_rated.q (k : Nat) (y : Int × Int × Int × (List S53)) : slices_symMergeCmpFunc_cluster_rated.p (k + 1) y = slices_symMergeCmpFunc_cluster_rated.F.run slices_symMergeCmpFunc_cluster_rated.E Try.f88.results.toList (bodyOf Try.f88) slices_symMergeCmpFunc_cluster_rated.cs k y := by
 show slices_symMergeCmpFunc_cluster_rated.f (k + 1) y.1 y.2.1 y.2.2.1 y.2.2.2 = _
 rw [slices_symMergeCmpFunc_cluster_rated.f]
 kernel_rfl
theorem slices_symMergeCmpFunc_cluster_rated.ok (k : Nat) : CsemOk R Try.prog 88 (slices_symMergeCmpFunc_cluster_rated.F.sem (slices_symMergeCmpFunc_cluster_rated.p k)) := fnR_ok (F := slices_symMergeCmpFunc_cluster_rated.F) (f := slices_symMergeCmpFunc_cluster_rated.p) (E := slices_symMergeCmpFunc_cluster_rated.E) (fun _ => rfl) Try.func88 (body := (bodyOf Try.f88)) rfl (by kernel_rfl) rfl (by decide) (by kernel_rfl) (cuts := slices_symMergeCmpFunc_cluster_rated.cs) (all_cons slices_symMergeCmpFunc_cluster_rated.oj0 (all_cons slices_symMergeCmpFunc_cluster_rated.ol0 (all_cons slices_symMergeCmpFunc_cluster_rated.oj1 (all_cons slices_symMergeCmpFunc_cluster_rated.ol1 (all_cons slices_symMergeCmpFunc_cluster_rated.ol2 (all_cons slices_symMergeCmpFunc_cluster_rated.ol3 (all_cons slices_symMergeCmpFunc_cluster_rated.ol4 all_nil))))))) slices_symMergeCmpFunc_cluster_rated.hE slices_symMergeCmpFunc_cluster_rated.q0 slices_symMergeCmpFunc_cluster_rated.q k
def slices_stableCmpFunc_cluster_rated.F : FnS R (Int × (List S53)) ((List S53)) := ⟨[.lf, .lf, .lf], [.row 1 53], (.row 1 0 (.cons (dInt .i64) (.fnv 54 (.last (dRo 1) .nil)))), .tup [], [.row 1 53], (.last (dRo 1) .nil)⟩
def slices_stableCmpFunc_cluster_rated.p (k : Nat) (y : Int × (List S53)) : Option ((List S53)) := slices_stableCmpFunc_cluster_rated.f k y.1 y.2
def slices_stableCmpFunc_cluster_rated.E (k : Nat) : Env R := ⟨tabOf tabL, ctOf [(87, (slices_insertionSortCmpFunc_cluster_rated.F.sem (slices_insertionSortCmpFunc_cluster_rated.p k))), (88, (slices_symMergeCmpFunc_cluster_rated.F.sem (slices_symMergeCmpFunc_cluster_rated.p k)))], mtNone, fun _ => false, codes, rts, 63, fun _ => [], owns, [], eqtOf eqs, fun _ => false, flats, mpsOf mps, byt_⟩
def slices_stableCmpFunc_cluster_rated.cl0 : CutS R ((List S53)) := ⟨4, [0, 1, 2, 6, 7, 8], [], [.lf, .lf, .lf, .lf, .lf, .lf], [.row 1 53], Int × Int × Int × Int × (List S53), (.row 1 0 (.cons (dInt .i64) (.fnv 54 (.cons (dInt .i64) (.cons (dInt .i64) (.cons (dInt .i64) (.last (dRo 1) .nil))))))), fun k z => slices_stableCmpFunc_cluster_rated.l0 k z.1 z.2.1 z.2.2.1 z.2.2.2.1 z.2.2.2.2⟩
def slices_stableCmpFunc_cluster_rated.cl1 : CutS R ((List S53)) := ⟨14, [0, 1, 2, 6], [], [.lf, .lf, .lf, .lf], [.row 1 53], Int × Int × (List S53), (.row 1 0 (.cons (dInt .i64) (.fnv 54 (.cons (dInt .i64) (.last (dRo 1) .nil))))), fun k z => slices_stableCmpFunc_cluster_rated.l1 k z.1 z.2.1 z.2.2⟩
def slices_stableCmpFunc_cluster_rated.cl2 : CutS R ((List S53)) := ⟨18, [0, 1, 2, 6, 7, 8], [], [.lf, .lf, .lf, .lf, .lf, .lf], [.row 1 53], Int × Int × Int × Int × (List S53), (.row 1 0 (.cons (dInt .i64) (.fnv 54 (.cons (dInt .i64) (.cons (dInt .i64) (.cons (dInt .i64) (.last (dRo 1) .nil))))))), fun k z => slices_stableCmpFunc_cluster_rated.l2 k z.1 z.2.1 z.2.2.1 z.2.2.2.1 z.2.2.2.2⟩
def slices_stableCmpFunc_cluster_rated.cs : List (CutS R ((List S53))) := [slices_stableCmpFunc_cluster_rated.cl0, slices_stableCmpFunc_cluster_rated.cl1, slices_stableCmpFunc_cluster_rated.cl2]
theorem slices_stableCmpFunc_cluster_rated.hE (k : Nat) : EnvOk Try.prog (slices_stableCmpFunc_cluster_rated.E k) := ⟨tabs, ctOf_ok (all_cons (slices_insertionSortCmpFunc_cluster_rated.ok k) (all_cons (slices_symMergeCmpFunc_cluster_rated.ok k) all_nil)), mtNone_ok, mixed, eqs_, flats_, mps_⟩
theorem slices_stableCmpFunc_cluster_rated.ol0 : (slices_stableCmpFunc_cluster_rated.cl0).Ok slices_stableCmpFunc_cluster_rated.E Try.f76.results.toList 1 (bodyOf Try.f76) slices_stableCmpFunc_cluster_rated.cs slices_stableCmpFunc_cluster_rated.F.ret := ⟨fun z => rfl, fun k z => by
 show slices_stableCmpFunc_cluster_rated.l0 (k + 1) z.1 z.2.1 z.2.2.1 z.2.2.2.1 z.2.2.2.2 = _
 rw [slices_stableCmpFunc_cluster_rated.l0]
 kernel_rfl⟩
theorem slices_stableCmpFunc_cluster_rated.ol1 : (slices_stableCmpFunc_cluster_rated.cl1).Ok slices_stableCmpFunc_cluster_rated.E Try.f76.results.toList 1 (bodyOf Try.f76) slices_stableCmpFunc_cluster_rated.cs slices_stableCmpFunc_cluster_rated.F.ret := ⟨fun z => rfl, fun k z => by
 show slices_stableCmpFunc_cluster_rated.l1 (k + 1) z.1 z.2.1 z.2.2 = _
 rw [slices_stableCmpFunc_cluster_rated.l1]
 kernel_rfl⟩
theorem slices_stableCmpFunc_cluster_rated.ol2 : (slices_stableCmpFunc_cluster_rated.cl2).Ok slices_stableCmpFunc_cluster_rated.E Try.f76.results.toList 1 (bodyOf Try.f76) slices_stableCmpFunc_cluster_rated.cs slices_stableCmpFunc_cluster_rated.F.ret := ⟨fun z => rfl, fun k z => by
 show slices_stableCmpFunc_cluster_rated.l2 (k + 1) z.1 z.2.1 z.2.2.1 z.2.2.2.1 z.2.2.2.2 = _
 rw [slices_stableCmpFunc_cluster_rated.l2]
 kernel_rfl⟩
theorem slices_stableCmpFunc_cluster_rated.q (k : Nat) (y : Int × (List S53)) : slices_stableCmpFunc_cluster_rated.p k y = slices_stableCmpFunc_cluster_rated.F.run slices_stableCmpFunc_cluster_rated.E Try.f76.results.toList (bodyOf Try.f76) slices_stableCmpFunc_cluster_rated.cs k y := by kernel_rfl
theorem slices_stableCmpFunc_cluster_rated.ok (k : Nat) : CsemOk R Try.prog 76 (slices_stableCmpFunc_cluster_rated.F.sem (slices_stableCmpFunc_cluster_rated.p k)) := fn_ok (F := slices_stableCmpFunc_cluster_rated.F) (f := slices_stableCmpFunc_cluster_rated.p) (E := slices_stableCmpFunc_cluster_rated.E) slices_stableCmpFunc_cluster_rated.hE (fun _ => rfl) Try.func76 (body := (bodyOf Try.f76)) rfl (by kernel_rfl) rfl (by decide) (by kernel_rfl) (cuts := slices_stableCmpFunc_cluster_rated.cs) (all_cons slices_stableCmpFunc_cluster_rated.ol0 (all_cons slices_stableCmpFunc_cluster_rated.ol1 (all_cons slices_stableCmpFunc_cluster_rated.ol2 all_nil))) slices_stableCmpFunc_cluster_rated.q k
def slices_SortStableFunc_cluster_rated_cluster_rated.F : FnS R ((List S53)) ((List S53)) := ⟨[.lf, .lf], [.row 1 53], (.row 1 0 (.fnv 54 (.last (dRo 1) .nil))), .tup [], [.row 1 53], (.last (dRo 1) .nil)⟩
def slices_SortStableFunc_cluster_rated_cluster_rated.p (k : Nat) (y : (List S53)) : Option ((List S53)) := slices_SortStableFunc_cluster_rated_cluster_rated.f k y
def slices_SortStableFunc_cluster_rated_cluster_rated.E (k : Nat) : Env R := ⟨tabOf tabL, ctOf [(76, (slices_stableCmpFunc_cluster_rated.F.sem (slices_stableCmpFunc_cluster_rated.p k)))], mtNone, fun _ => false, codes, rts, 9, fun _ => [], owns, [], eqtOf eqs, fun _ => false, flats, mpsOf mps, byt_⟩
def slices_SortStableFunc_cluster_rated_cluster_rated.cs : List (CutS R ((List S53))) := []
theorem slices_SortStableFunc_cluster_rated_cluster_rated.hE (k : Nat) : EnvOk Try.prog (slices_SortStableFunc_cluster_rated_cluster_rated.E k) := ⟨tabs, ctOf_ok (all_cons (slices_stableCmpFunc_cluster_rated.ok k) all_nil), mtNone_ok, mixed, eqs_, flats_, mps_⟩
theorem slices_SortStableFunc_cluster_rated_cluster_rated.q (k : Nat) (y : (List S53)) : slices_SortStableFunc_cluster_rated_cluster_rated.p k y = slices_SortStableFunc_cluster_rated_cluster_rated.F.run slices_SortStableFunc_cluster_rated_cluster_rated.E Try.f53.results.toList (bodyOf Try.f53) slices_SortStableFunc_cluster_rated_cluster_rated.cs k y := by kernel_rfl
theorem slices_SortStableFunc_cluster_rated_cluster_rated.ok (k : Nat) : CsemOk R Try.prog 53 (slices_SortStableFunc_cluster_rated_cluster_rated.F.sem (slices_SortStableFunc_cluster_rated_cluster_rated.p k)) := fn_ok (F := slices_SortStableFunc_cluster_rated_cluster_rated.F) (f := slices_SortStableFunc_cluster_rated_cluster_rated.p) (E := slices_SortStableFunc_cluster_rated_cluster_rated.E) slices_SortStableFunc_cluster_rated_cluster_rated.hE (fun _ => rfl) Try.func53 (body := (bodyOf Try.f53)) rfl (by kernel_rfl) rfl (by decide) (by kernel_rfl) (cuts := slices_SortStableFunc_cluster_rated_cluster_rated.cs) all_nil slices_SortStableFunc_cluster_rated_cluster_rated.q k
def cluster_byMerit.F : FnS R ((List S25)) ((List S53)) := ⟨[.lf], [], (.last (dRo 0) .nil), .lf, [.row 1 53], (.row 1 0 (.last (dRo 1) .nil))⟩
def cluster_byMerit.p (k : Nat) (y : (List S25)) : Option ((List S53)) := cluster_byMerit.f k y
def cluster_byMerit.E (k : Nat) : Env R := ⟨tabOf tabL, ctOf [(26, (fixed_Scale.F.sem (fixed_Scale.p k))), (25, (fixed_Add.F.sem (fixed_Add.p k))), (53, (slices_SortStableFunc_cluster_rated_cluster_rated.F.sem (slices_SortStableFunc_cluster_rated_cluster_rated.p k)))], mtNone, fun f => memB f [25, 26], codes, rts, 27, fun i => ordOf [(5, [(0, 0), (1, 0), (2, 0), (3, 0), (4, 0), (5, 0), (6, 0), (7, 0), (8, 0), (9, 1), (10, 2), (11, 0)])] i, owns, [], eqtOf eqs, fun _ => false, flats, mpsOf mps, byt_⟩
def cluster_byMerit.cl0 : CutS R ((List S53)) := ⟨6, [3, 6, 7, 8], [some (.row 1 53), none, none, none], [.lf, .lf, .lf, .lf], [.row 1 53], (List S25) × Int × Int × (List S53), (.row 1 0 (.cons (dRo 0) (.cons (dInt .i64) (.cons (dInt .i64) (.last (dRo 1) .nil))))), fun k z => cluster_byMerit.l0 k z.1 z.2.1 z.2.2.1 z.2.2.2⟩
def cluster_byMerit.cs : List (CutS R ((List S53))) := [cluster_byMerit.cl0]
theorem cluster_byMerit.hE (k : Nat) : EnvOk Try.prog (cluster_byMerit.E k) := ⟨tabs, ctOf_ok (all_cons (fixed_Scale.ok k) (all_cons (fixed_Add.ok k) (all_cons (slices_SortStableFunc_cluster_rated_cluster_rated.ok k) all_nil))), mtNone_ok, mixed, eqs_, flats_, mps_⟩
theorem cluster_byMerit.ol0 : (cluster_byMerit.cl0).Ok cluster_byMerit.E Try.f30.results.toList 0 (bodyOf Try.f30) cluster_byMerit.cs cluster_byMerit.F.ret := ⟨fun z => rfl, fun k z => by
 show cluster_byMerit.l0 (k + 1) z.1 z.2.1 z.2.2.1 z.2.2.2 = _
 rw [cluster_byMerit.l0]
 kernel_rfl⟩
theorem cluster_byMerit.q (k : Nat) (y : (List S25)) : cluster_byMerit.p k y = cluster_byMerit.F.run cluster_byMerit.E Try.f30.results.toList (bodyOf Try.f30) cluster_byMerit.cs k y := by kernel_rfl
theorem cluster_byMerit.ok (k : Nat) : CsemOk R Try.prog 30 (cluster_byMerit.F.sem (cluster_byMerit.p k)) := fn_ok (F := cluster_byMerit.F) (f := cluster_byMerit.p) (E := cluster_byMerit.E) cluster_byMerit.hE (fun _ => rfl) Try.func30 (body := (bodyOf Try.f30)) rfl (by kernel_rfl) rfl (by decide) (by kernel_rfl) (cuts := cluster_byMerit.cs) (all_cons cluster_byMerit.ol0 all_nil) cluster_byMerit.q k
def cluster_Cluster_1.F : FnS R (Int × Int × Int × Int × Int × Bool × Bool × Int × Int × Int × Int × Int × Bool × Bool) (Int) := ⟨[.agg 7, .agg 7], [], (.cons (dInt .i64) (.cons (dInt .i64) (.cons (dInt .i64) (.cons (dInt .i64) (.cons (dInt .i64) (.cons dBool (.cons dBool (.cons (dInt .i64) (.cons (dInt .i64) (.cons (dInt .i64) (.cons (dInt .i64) (.cons (dInt .i64) (.cons dBool (.last dBool .nil)))))))))))))), .lf, [], (.last (dInt .i64) .nil)⟩
def cluster_Cluster_1.p (k : Nat) (y : Int × Int × Int × Int × Int × Bool × Bool × Int × Int × Int × Int × Int × Bool × Bool) : Option (Int) := cluster_Cluster_1.f y.1 y.2.1 y.2.2.1 y.2.2.2.1 y.2.2.2.2.1 y.2.2.2.2.2.1 y.2.2.2.2.2.2.1 y.2.2.2.2.2.2.2.1 y.2.2.2.2.2.2.2.2.1 y.2.2.2.2.2.2.2.2.2.1 y.2.2.2.2.2.2.2.2.2.2.1 y.2.2.2.2.2.2.2.2.2.2.2.1 y.2.2.2.2.2.2.2.2.2.2.2.2.1 y.2.2.2.2.2.2.2.2.2.2.2.2.2
def cluster_Cluster_1.E (k : Nat) : Env R := ⟨tabOf tabL, ctOf [(33, (cmp_Compare_api_Span.F.sem (cmp_Compare_api_Span.p k)))], mtNone, fun _ => false, codes, rts, 10, fun _ => [], owns, [], eqtOf eqs, fun _ => false, flats, mpsOf mps, byt_⟩
def cluster_Cluster_1.cs : List (CutS R (Int)) := []
theorem cluster_Cluster_1.hE (k : Nat) : EnvOk Try.prog (cluster_Cluster_1.E k) := ⟨tabs, ctOf_ok (all_cons (cmp_Compare_api_Span.ok k) all_nil), mtNone_ok, mixed, eqs_, flats_, mps_⟩
theorem cluster_Cluster_1.q (k : Nat) (y : Int × Int × Int × Int × Int × Bool × Bool × Int × Int × Int × Int × Int × Bool × Bool) : cluster_Cluster_1.p k y = cluster_Cluster_1.F.run cluster_Cluster_1.E Try.f32.results.toList (bodyOf Try.f32) cluster_Cluster_1.cs k y := by kernel_rfl
theorem cluster_Cluster_1.ok (k : Nat) : CsemOk R Try.prog 32 (cluster_Cluster_1.F.sem (cluster_Cluster_1.p k)) := fn_ok (F := cluster_Cluster_1.F) (f := cluster_Cluster_1.p) (E := cluster_Cluster_1.E) cluster_Cluster_1.hE (fun _ => rfl) Try.func32 (body := (bodyOf Try.f32)) rfl (by kernel_rfl) rfl (by decide) (by kernel_rfl) (cuts := cluster_Cluster_1.cs) all_nil cluster_Cluster_1.q k
def slices_MinFunc_api_Cand_api_Cand.F : FnS R ((List S25)) (Int × Int × Int × Int × Int × Bool × Bool) := ⟨[.lf, .lf], [], (.last (dRo 0) (.fnv 32 .nil)), .agg 7, [], (.cons (dInt .i64) (.cons (dInt .i64) (.cons (dInt .i64) (.cons (dInt .i64) (.cons (dInt .i64) (.cons dBool (.last dBool .nil)))))))⟩
def slices_MinFunc_api_Cand_api_Cand.p (k : Nat) (y : (List S25)) : Option (Int × Int × Int × Int × Int × Bool × Bool) := slices_MinFunc_api_Cand_api_Cand.f k y
def slices_MinFunc_api_Cand_api_Cand.E (k : Nat) : Env R := ⟨tabOf tabL, ctOf [(32, (cluster_Cluster_1.F.sem (cluster_Cluster_1.p k)))], mtNone, fun _ => false, codes, rts, 33, fun i => ordOf [(7, [(0, 0), (1, 0), (2, 0), (3, 0), (4, 0), (5, 0), (6, 2), (7, 0)])] i, owns, [], eqtOf eqs, fun _ => false, flats, mpsOf mps, byt_⟩
def slices_MinFunc_api_Cand_api_Cand.cl0 : CutS R (Int × Int × Int × Int × Int × Bool × Bool) := ⟨10, [0, 1, 4, 5, 6], [], [.lf, .lf, .lf, .lf, .lf], [.blk 7 25, .blk 7 25], (List S25) × Int × Int × Int × Int × Int × Int × Bool × Bool × Int × Int × Int × Int × Int × Bool × Bool, (.cons (dRo 0) (.fnv 32 (.ptr 0 0 (.ptr 1 0 (.cons (dInt .i64) (.cons (dInt .i64) (.cons (dInt .i64) (.cons (dInt .i64) (.cons (dInt .i64) (.cons (dInt .i64) (.cons dBool (.cons dBool (.cons (dInt .i64) (.cons (dInt .i64) (.cons (dInt .i64) (.cons (dInt .i64) (.cons (dInt .i64) (.cons dBool (.last dBool .nil))))))))))))))))))), fun k z => slices_MinFunc_api_Cand_api_Cand.l0 k z.1 z.2.1 z.2.2.1 z.2.2.2.1 z.2.2.2.2.1 z.2.2.2.2.2.1 z.2.2.2.2.2.2.1 z.2.2.2.2.2.2.2.1 z.2.2.2.2.2.2.2.2.1 z.2.2.2.2.2.2.2.2.2.1 z.2.2.2.2.2.2.2.2.2.2.1 z.2.2.2.2.2.2.2.2.2.2.2.1 z.2.2.2.2.2.2.2.2.2.2.2.2.1 z.2.2.2.2.2.2.2.2.2.2.2.2.2.1 z.2.2.2.2.2.2.2.2.2.2.2.2.2.2.1 z.2.2.2.2.2.2.2.2.2.2.2.2.2.2.2⟩
def slices_MinFunc_api_Cand_api_Cand.cs : List (CutS R (Int × Int × Int × Int × Int × Bool × Bool)) := [slices_MinFunc_api_Cand_api_Cand.cl0]
theorem slices_MinFunc_api_Cand_api_Cand.hE (k : Nat) : EnvOk Try.prog (slices_MinFunc_api_Cand_api_Cand.E k) := ⟨tabs, ctOf_ok (all_cons (cluster_Cluster_1.ok k) all_nil), mtNone_ok, mixed, eqs_, flats_, mps_⟩
theorem slices_MinFunc_api_Cand_api_Cand.ol0 : (slices_MinFunc_api_Cand_api_Cand.cl0).Ok slices_MinFunc_api_Cand_api_Cand.E Try.f31.results.toList 0 (bodyOf Try.f31) slices_MinFunc_api_Cand_api_Cand.cs slices_MinFunc_api_Cand_api_Cand.F.ret := ⟨fun z => rfl, fun k z => by
 show slices_MinFunc_api_Cand_api_Cand.l0 (k + 1) z.1 z.2.1 z.2.2.1 z.2.2.2.1 z.2.2.2.2.1 z.2.2.2.2.2.1 z.2.2.2.2.2.2.1 z.2.2.2.2.2.2.2.1 z.2.2.2.2.2.2.2.2.1 z.2.2.2.2.2.2.2.2.2.1 z.2.2.2.2.2.2.2.2.2.2.1 z.2.2.2.2.2.2.2.2.2.2.2.1 z.2.2.2.2.2.2.2.2.2.2.2.2.1 z.2.2.2.2.2.2.2.2.2.2.2.2.2.1 z.2.2.2.2.2.2.2.2.2.2.2.2.2.2.1 z.2.2.2.2.2.2.2.2.2.2.2.2.2.2.2 = _
 rw [slices_MinFunc_api_Cand_api_Cand.l0]
 kernel_rfl⟩
theorem slices_MinFunc_api_Cand_api_Cand.q (k : Nat) (y : (List S25)) : slices_MinFunc_api_Cand_api_Cand.p k y = slices_MinFunc_api_Cand_api_Cand.F.run slices_MinFunc_api_Cand_api_Cand.E Try.f31.results.toList (bodyOf Try.f31) slices_MinFunc_api_Cand_api_Cand.cs k y := by kernel_rfl
theorem slices_MinFunc_api_Cand_api_Cand.ok (k : Nat) : CsemOk R Try.prog 31 (slices_MinFunc_api_Cand_api_Cand.F.sem (slices_MinFunc_api_Cand_api_Cand.p k)) := fn_ok (F := slices_MinFunc_api_Cand_api_Cand.F) (f := slices_MinFunc_api_Cand_api_Cand.p) (E := slices_MinFunc_api_Cand_api_Cand.E) slices_MinFunc_api_Cand_api_Cand.hE (fun _ => rfl) Try.func31 (body := (bodyOf Try.f31)) rfl (by kernel_rfl) rfl (by decide) (by kernel_rfl) (cuts := slices_MinFunc_api_Cand_api_Cand.cs) (all_cons slices_MinFunc_api_Cand_api_Cand.ol0 all_nil) slices_MinFunc_api_Cand_api_Cand.q k
def fixed_Sub.F : FnS R (Int × Int) (Int) := ⟨[.lf, .lf], [], (.cons (dInt .i64) (.last (dInt .i64) .nil)), .lf, [], (.last (dInt .i64) .nil)⟩
def fixed_Sub.p (k : Nat) (y : Int × Int) : Option (Int) := fixed_Sub.f y.1 y.2
def fixed_Sub.E (k : Nat) : Env R := ⟨tabOf tabL, ctOf [(25, (fixed_Add.F.sem (fixed_Add.p k)))], mtNone, fun _ => false, codes, rts, 14, fun _ => [], owns, [], eqtOf eqs, fun _ => false, flats, mpsOf mps, byt_⟩
def fixed_Sub.cs : List (CutS R (Int)) := []
theorem fixed_Sub.hE (k : Nat) : EnvOk Try.prog (fixed_Sub.E k) := ⟨tabs, ctOf_ok (all_cons (fixed_Add.ok k) all_nil), mtNone_ok, mixed, eqs_, flats_, mps_⟩
theorem fixed_Sub.q (k : Nat) (y : Int × Int) : fixed_Sub.p k y = fixed_Sub.F.run fixed_Sub.E Try.f27.results.toList (bodyOf Try.f27) fixed_Sub.cs k y := by kernel_rfl
theorem fixed_Sub.ok (k : Nat) : CsemOk R Try.prog 27 (fixed_Sub.F.sem (fixed_Sub.p k)) := fn_ok (F := fixed_Sub.F) (f := fixed_Sub.p) (E := fixed_Sub.E) fixed_Sub.hE (fun _ => rfl) Try.func27 (body := (bodyOf Try.f27)) rfl (by kernel_rfl) rfl (by decide) (by kernel_rfl) (cuts := fixed_Sub.cs) all_nil fixed_Sub.q k
def fixed_root.F : FnS R (Int × Int) (Int) := ⟨[.lf, .lf], [], (.cons (dInt .u64) (.last (dInt .u64) .nil)), .lf, [], (.last (dInt .u64) .nil)⟩
def fixed_root.p (k : Nat) (y : Int × Int) : Option (Int) := fixed_root.f k y.1 y.2
def fixed_root.E (k : Nat) : Env R := ⟨tabOf tabL, ctOf [(73, (bits_Mul64.F.sem (bits_Mul64.p k)))], mtNone, fun _ => false, codes, rts, 40, fun _ => [], owns, [], eqtOf eqs, fun _ => false, flats, mpsOf mps, byt_⟩
def fixed_root.cl0 : CutS R (Int) := ⟨6, [0, 1, 5, 6], [], [.lf, .lf, .lf, .lf], [], Int × Int × Int × Int, (.cons (dInt .u64) (.cons (dInt .u64) (.cons (dInt .u64) (.last (dInt .i64) .nil)))), fun k z => fixed_root.l0 k z.1 z.2.1 z.2.2.1 z.2.2.2⟩
def fixed_root.cs : List (CutS R (Int)) := [fixed_root.cl0]
theorem fixed_root.hE (k : Nat) : EnvOk Try.prog (fixed_root.E k) := ⟨tabs, ctOf_ok (all_cons (bits_Mul64.ok k) all_nil), mtNone_ok, mixed, eqs_, flats_, mps_⟩
theorem fixed_root.ol0 : (fixed_root.cl0).Ok fixed_root.E Try.f75.results.toList 0 (bodyOf Try.f75) fixed_root.cs fixed_root.F.ret := ⟨fun z => rfl, fun k z => by
 show fixed_root.l0 (k + 1) z.1 z.2.1 z.2.2.1 z.2.2.2 = _
 rw [fixed_root.l0]
 kernel_rfl⟩
theorem fixed_root.q (k : Nat) (y : Int × Int) : fixed_root.p k y = fixed_root.F.run fixed_root.E Try.f75.results.toList (bodyOf Try.f75) fixed_root.cs k y := by kernel_rfl
theorem fixed_root.ok (k : Nat) : CsemOk R Try.prog 75 (fixed_root.F.sem (fixed_root.p k)) := fn_ok (F := fixed_root.F) (f := fixed_root.p) (E := fixed_root.E) fixed_root.hE (fun _ => rfl) Try.func75 (body := (bodyOf Try.f75)) rfl (by kernel_rfl) rfl (by decide) (by kernel_rfl) (cuts := fixed_root.cs) (all_cons fixed_root.ol0 all_nil) fixed_root.q k
def fixed_RMS.F : FnS R ((List Int)) (Int) := ⟨[.lf], [], (.last (dRo 3) .nil), .lf, [], (.last (dInt .i64) .nil)⟩
def fixed_RMS.p (k : Nat) (y : (List Int)) : Option (Int) := fixed_RMS.f k y
def fixed_RMS.E (k : Nat) : Env R := ⟨tabOf tabL, ctOf [(25, (fixed_Add.F.sem (fixed_Add.p k))), (72, (fixed_size.F.sem (fixed_size.p k))), (73, (bits_Mul64.F.sem (bits_Mul64.p k))), (70, (bits_Add64.F.sem (bits_Add64.p k))), (74, (bits_Div64.F.sem (bits_Div64.p k))), (75, (fixed_root.F.sem (fixed_root.p k))), (49, (fixed_whole_span.F.sem (fixed_whole_span.p k)))], mtNone, fun _ => false, codes, rts, 80, fun _ => [], owns, [], eqtOf eqs, fun _ => false, flats, mpsOf mps, byt_⟩
def fixed_RMS.cl0 : CutS R (Int) := ⟨12, [0, 3, 4, 5, 23, 24, 25], [], [.lf, .lf, .lf, .lf, .lf, .lf, .lf], [], (List Int) × Int × Int × Int × (List Int) × Int × Int, (.cons (dRo 3) (.cons (dInt .u64) (.cons (dInt .u64) (.cons (dInt .u64) (.cons (dRo 3) (.cons (dInt .i64) (.last (dInt .i64) .nil))))))), fun k z => fixed_RMS.l0 k z.1 z.2.1 z.2.2.1 z.2.2.2.1 z.2.2.2.2.1 z.2.2.2.2.2.1 z.2.2.2.2.2.2⟩
def fixed_RMS.cs : List (CutS R (Int)) := [fixed_RMS.cl0]
theorem fixed_RMS.hE (k : Nat) : EnvOk Try.prog (fixed_RMS.E k) := ⟨tabs, ctOf_ok (all_cons (fixed_Add.ok k) (all_cons (fixed_size.ok k) (all_cons (bits_Mul64.ok k) (all_cons (bits_Add64.ok k) (all_cons (bits_Div64.ok k) (all_cons (fixed_root.ok k) (all_cons (fixed_whole_span.ok k) all_nil))))))), mtNone_ok, mixed, eqs_, flats_, mps_⟩
theorem fixed_RMS.ol0 : (fixed_RMS.cl0).Ok fixed_RMS.E Try.f52.results.toList 0 (bodyOf Try.f52) fixed_RMS.cs fixed_RMS.F.ret := ⟨fun z => rfl, fun k z => by
 show fixed_RMS.l0 (k + 1) z.1 z.2.1 z.2.2.1 z.2.2.2.1 z.2.2.2.2.1 z.2.2.2.2.2.1 z.2.2.2.2.2.2 = _
 rw [fixed_RMS.l0]
 kernel_rfl⟩
theorem fixed_RMS.q (k : Nat) (y : (List Int)) : fixed_RMS.p k y = fixed_RMS.F.run fixed_RMS.E Try.f52.results.toList (bodyOf Try.f52) fixed_RMS.cs k y := by kernel_rfl
theorem fixed_RMS.ok (k : Nat) : CsemOk R Try.prog 52 (fixed_RMS.F.sem (fixed_RMS.p k)) := fn_ok (F := fixed_RMS.F) (f := fixed_RMS.p) (E := fixed_RMS.E) fixed_RMS.hE (fun _ => rfl) Try.func52 (body := (bodyOf Try.f52)) rfl (by kernel_rfl) rfl (by decide) (by kernel_rfl) (cuts := fixed_RMS.cs) (all_cons fixed_RMS.ol0 all_nil) fixed_RMS.q k
def cluster_apart.F : FnS R ((List S25) × Int) (Int) := ⟨[.lf, .lf], [], (.cons (dRo 0) (.last (dInt .i64) .nil)), .lf, [], (.last (dInt .i64) .nil)⟩
def cluster_apart.p (k : Nat) (y : (List S25) × Int) : Option (Int) := cluster_apart.f k y.1 y.2
def cluster_apart.E (k : Nat) : Env R := ⟨tabOf tabL, ctOf [(27, (fixed_Sub.F.sem (fixed_Sub.p k))), (52, (fixed_RMS.F.sem (fixed_RMS.p k)))], mtNone, fun f => memB f [27, 52], codes, rts, 32, fun i => ordOf [(6, [(0, 0), (1, 0), (2, 0), (3, 0), (4, 0), (5, 0), (6, 0), (7, 0), (8, 0), (9, 1), (10, 2), (11, 0)])] i, owns, [], eqtOf eqs, fun _ => false, flats, mpsOf mps, byt_⟩
def cluster_apart.cl0 : CutS R (Int) := ⟨6, [0, 1, 5, 8, 9, 10], [none, none, some (.row 3 23), none, none, none], [.lf, .lf, .lf, .lf, .lf, .lf], [.row 3 23], (List S25) × Int × (List S25) × Int × Int × (List Int), (.cons (dRo 0) (.cons (dInt .i64) (.row 3 0 (.cons (dRo 0) (.cons (dInt .i64) (.cons (dInt .i64) (.last (dRo 3) .nil))))))), fun k z => cluster_apart.l0 k z.1 z.2.1 z.2.2.1 z.2.2.2.1 z.2.2.2.2.1 z.2.2.2.2.2⟩
def cluster_apart.cs : List (CutS R (Int)) := [cluster_apart.cl0]
theorem cluster_apart.hE (k : Nat) : EnvOk Try.prog (cluster_apart.E k) := ⟨tabs, ctOf_ok (all_cons (fixed_Sub.ok k) (all_cons (fixed_RMS.ok k) all_nil)), mtNone_ok, mixed, eqs_, flats_, mps_⟩
theorem cluster_apart.ol0 : (cluster_apart.cl0).Ok cluster_apart.E Try.f28.results.toList 0 (bodyOf Try.f28) cluster_apart.cs cluster_apart.F.ret := ⟨fun z => rfl, fun k z => by
 show cluster_apart.l0 (k + 1) z.1 z.2.1 z.2.2.1 z.2.2.2.1 z.2.2.2.2.1 z.2.2.2.2.2 = _
 rw [cluster_apart.l0]
 kernel_rfl⟩
theorem cluster_apart.q (k : Nat) (y : (List S25) × Int) : cluster_apart.p k y = cluster_apart.F.run cluster_apart.E Try.f28.results.toList (bodyOf Try.f28) cluster_apart.cs k y := by kernel_rfl
theorem cluster_apart.ok (k : Nat) : CsemOk R Try.prog 28 (cluster_apart.F.sem (cluster_apart.p k)) := fn_ok (F := cluster_apart.F) (f := cluster_apart.p) (E := cluster_apart.E) cluster_apart.hE (fun _ => rfl) Try.func28 (body := (bodyOf Try.f28)) rfl (by kernel_rfl) rfl (by decide) (by kernel_rfl) (cuts := cluster_apart.cs) (all_cons cluster_apart.ol0 all_nil) cluster_apart.q k
def cluster_worst.F : FnS R ((List S25)) (Int × Int) := ⟨[.lf], [], (.last (dRo 0) .nil), .tup [none, none], [], (.cons (dInt .i64) (.last (dInt .i64) .nil))⟩
def cluster_worst.p (k : Nat) (y : (List S25)) : Option (Int × Int) := cluster_worst.f k y
def cluster_worst.E (k : Nat) : Env R := ⟨tabOf tabL, ctOf [(28, (cluster_apart.F.sem (cluster_apart.p k)))], mtNone, fun _ => false, codes, rts, 36, fun _ => [], owns, [], eqtOf eqs, fun _ => false, flats, mpsOf mps, byt_⟩
def cluster_worst.cl0 : CutS R (Int × Int) := ⟨6, [0, 4, 5, 9, 10, 11], [], [.lf, .lf, .lf, .lf, .lf, .lf], [], (List S25) × Int × Int × (List S25) × Int × Int, (.cons (dRo 0) (.cons (dInt .i64) (.cons (dInt .i64) (.cons (dRo 0) (.cons (dInt .i64) (.last (dInt .i64) .nil)))))), fun k z => cluster_worst.l0 k z.1 z.2.1 z.2.2.1 z.2.2.2.1 z.2.2.2.2.1 z.2.2.2.2.2⟩
def cluster_worst.cs : List (CutS R (Int × Int)) := [cluster_worst.cl0]
theorem cluster_worst.hE (k : Nat) : EnvOk Try.prog (cluster_worst.E k) := ⟨tabs, ctOf_ok (all_cons (cluster_apart.ok k) all_nil), mtNone_ok, mixed, eqs_, flats_, mps_⟩
theorem cluster_worst.ol0 : (cluster_worst.cl0).Ok cluster_worst.E Try.f34.results.toList 0 (bodyOf Try.f34) cluster_worst.cs cluster_worst.F.ret := ⟨fun z => rfl, fun k z => by
 show cluster_worst.l0 (k + 1) z.1 z.2.1 z.2.2.1 z.2.2.2.1 z.2.2.2.2.1 z.2.2.2.2.2 = _
 rw [cluster_worst.l0]
 kernel_rfl⟩
theorem cluster_worst.q (k : Nat) (y : (List S25)) : cluster_worst.p k y = cluster_worst.F.run cluster_worst.E Try.f34.results.toList (bodyOf Try.f34) cluster_worst.cs k y := by kernel_rfl
theorem cluster_worst.ok (k : Nat) : CsemOk R Try.prog 34 (cluster_worst.F.sem (cluster_worst.p k)) := fn_ok (F := cluster_worst.F) (f := cluster_worst.p) (E := cluster_worst.E) cluster_worst.hE (fun _ => rfl) Try.func34 (body := (bodyOf Try.f34)) rfl (by kernel_rfl) rfl (by decide) (by kernel_rfl) (cuts := cluster_worst.cs) (all_cons cluster_worst.ol0 all_nil) cluster_worst.q k
def slices_Delete_api_Cand_api_Cand.F : FnS R (Int × Int × (List S25)) ((List S25)) := ⟨[.lf, .lf, .lf], [.row 0 25], (.row 0 0 (.cons (dInt .i64) (.cons (dInt .i64) (.last (dRo 0) .nil)))), .lf, [.dead, .row 0 25], (.row 0 1 (.last (dRo 0) .nil))⟩
def slices_Delete_api_Cand_api_Cand.p (k : Nat) (y : Int × Int × (List S25)) : Option ((List S25)) := slices_Delete_api_Cand_api_Cand.f y.1 y.2.1 y.2.2
def slices_Delete_api_Cand_api_Cand.E (k : Nat) : Env R := ⟨tabOf tabL, ctOf [], mtNone, fun _ => false, codes, rts, 33, fun i => ordOf [(5, [(0, 0), (1, 0), (2, 0), (3, 0), (4, 0), (5, 0), (6, 2), (7, 0)])] i, owns, [some (.tmv 0 25)], eqtOf eqs, fun _ => false, flats, mpsOf mps, byt_⟩
def slices_Delete_api_Cand_api_Cand.cs : List (CutS R ((List S25))) := []
theorem slices_Delete_api_Cand_api_Cand.hE (k : Nat) : EnvOk Try.prog (slices_Delete_api_Cand_api_Cand.E k) := ⟨tabs, ctOf_ok all_nil, mtNone_ok, mixed, eqs_, flats_, mps_⟩
theorem slices_Delete_api_Cand_api_Cand.q (k : Nat) (y : Int × Int × (List S25)) : slices_Delete_api_Cand_api_Cand.p k y = slices_Delete_api_Cand_api_Cand.F.run slices_Delete_api_Cand_api_Cand.E Try.f35.results.toList (bodyOf Try.f35) slices_Delete_api_Cand_api_Cand.cs k y := by kernel_rfl
theorem slices_Delete_api_Cand_api_Cand.ok (k : Nat) : CsemOk R Try.prog 35 (slices_Delete_api_Cand_api_Cand.F.sem (slices_Delete_api_Cand_api_Cand.p k)) := fn_ok (F := slices_Delete_api_Cand_api_Cand.F) (f := slices_Delete_api_Cand_api_Cand.p) (E := slices_Delete_api_Cand_api_Cand.E) slices_Delete_api_Cand_api_Cand.hE (fun _ => rfl) Try.func35 (body := (bodyOf Try.f35)) rfl (by kernel_rfl) rfl (by decide) (by kernel_rfl) (cuts := slices_Delete_api_Cand_api_Cand.cs) all_nil slices_Delete_api_Cand_api_Cand.q k
def cluster_Cluster.F : FnS R ((List S25)) ((List S25)) := ⟨[.lf], [], (.last (dRo 0) .nil), .lf, [.row 0 25], (.row 0 0 (.last (dRo 0) .nil))⟩
def cluster_Cluster.p (k : Nat) (y : (List S25)) : Option ((List S25)) := cluster_Cluster.f k y
def cluster_Cluster.E (k : Nat) : Env R := ⟨tabOf tabL, ctOf [(30, (cluster_byMerit.F.sem (cluster_byMerit.p k))), (31, (slices_MinFunc_api_Cand_api_Cand.F.sem (slices_MinFunc_api_Cand_api_Cand.p k))), (34, (cluster_worst.F.sem (cluster_worst.p k))), (35, (slices_Delete_api_Cand_api_Cand.F.sem (slices_Delete_api_Cand_api_Cand.p k)))], mtNone, fun f => memB f [31, 34], codes, rts, 49, fun _ => [], owns, [], eqtOf eqs, fun _ => false, flats, mpsOf mps, byt_⟩
def cluster_Cluster.cl0 : CutS R ((List S25)) := ⟨6, [3, 10, 11, 12], [some (.row 0 25), none, none, none], [.lf, .lf, .lf, .lf], [.row 0 25, .row 1 53], Int × Int × (List S25) × (List S53), (.row 0 0 (.row 1 1 (.cons (dInt .i64) (.cons (dInt .i64) (.cons (dRo 0) (.last (dRo 1) .nil)))))), fun k z => cluster_Cluster.l0 k z.1 z.2.1 z.2.2.1 z.2.2.2⟩
def cluster_Cluster.cl1 : CutS R ((List S25)) := ⟨16, [3], [], [.lf], [.row 0 25], (List S25), (.row 0 0 (.last (dRo 0) .nil)), fun k z => cluster_Cluster.l1 k z⟩
def cluster_Cluster.cs : List (CutS R ((List S25))) := [cluster_Cluster.cl0, cluster_Cluster.cl1]
theorem cluster_Cluster.hE (k : Nat) : EnvOk Try.prog (cluster_Cluster.E k) := ⟨tabs, ctOf_ok (all_cons (cluster_byMerit.ok k) (all_cons (slices_MinFunc_api_Cand_api_Cand.ok k) (all_cons (cluster_worst.ok k) (all_cons (slices_Delete_api_Cand_api_Cand.ok k) all_nil)))), mtNone_ok, mixed, eqs_, flats_, mps_⟩
theorem cluster_Cluster.ol0 : (cluster_Cluster.cl0).Ok cluster_Cluster.E Try.f12.results.toList 0 (bodyOf Try.f12) cluster_Cluster.cs cluster_Cluster.F.ret := ⟨fun z => rfl, fun k z => by
 show cluster_Cluster.l0 (k + 1) z.1 z.2.1 z.2.2.1 z.2.2.2 = _
 rw [cluster_Cluster.l0]
 kernel_rfl⟩
theorem cluster_Cluster.ol1 : (cluster_Cluster.cl1).Ok cluster_Cluster.E Try.f12.results.toList 0 (bodyOf Try.f12) cluster_Cluster.cs cluster_Cluster.F.ret := ⟨fun z => rfl, fun k (z : (List S25)) => by
 show cluster_Cluster.l1 (k + 1) z = _
 rw [cluster_Cluster.l1]
 kernel_rfl⟩
theorem cluster_Cluster.q (k : Nat) (y : (List S25)) : cluster_Cluster.p k y = cluster_Cluster.F.run cluster_Cluster.E Try.f12.results.toList (bodyOf Try.f12) cluster_Cluster.cs k y := by kernel_rfl
theorem cluster_Cluster.ok (k : Nat) : CsemOk R Try.prog 12 (cluster_Cluster.F.sem (cluster_Cluster.p k)) := fn_ok (F := cluster_Cluster.F) (f := cluster_Cluster.p) (E := cluster_Cluster.E) cluster_Cluster.hE (fun _ => rfl) Try.func12 (body := (bodyOf Try.f12)) rfl (by kernel_rfl) rfl (by decide) (by kernel_rfl) (cuts := cluster_Cluster.cs) (all_cons cluster_Cluster.ol0 (all_cons cluster_Cluster.ol1 all_nil)) cluster_Cluster.q k
def fixed_Clamp.F : FnS R (Int × Int) (Int) := ⟨[.lf, .lf], [], (.cons (dInt .i64) (.last (dInt .i64) .nil)), .lf, [], (.last (dInt .i64) .nil)⟩
def fixed_Clamp.p (k : Nat) (y : Int × Int) : Option (Int) := fixed_Clamp.f y.1 y.2
def fixed_Clamp.E (k : Nat) : Env R := ⟨tabOf tabL, ctOf [(25, (fixed_Add.F.sem (fixed_Add.p k)))], mtNone, fun _ => false, codes, rts, 14, fun _ => [], owns, [], eqtOf eqs, fun _ => false, flats, mpsOf mps, byt_⟩
def fixed_Clamp.cs : List (CutS R (Int)) := []
theorem fixed_Clamp.hE (k : Nat) : EnvOk Try.prog (fixed_Clamp.E k) := ⟨tabs, ctOf_ok (all_cons (fixed_Add.ok k) all_nil), mtNone_ok, mixed, eqs_, flats_, mps_⟩
theorem fixed_Clamp.q (k : Nat) (y : Int × Int) : fixed_Clamp.p k y = fixed_Clamp.F.run fixed_Clamp.E Try.f39.results.toList (bodyOf Try.f39) fixed_Clamp.cs k y := by kernel_rfl
theorem fixed_Clamp.ok (k : Nat) : CsemOk R Try.prog 39 (fixed_Clamp.F.sem (fixed_Clamp.p k)) := fn_ok (F := fixed_Clamp.F) (f := fixed_Clamp.p) (E := fixed_Clamp.E) fixed_Clamp.hE (fun _ => rfl) Try.func39 (body := (bodyOf Try.f39)) rfl (by kernel_rfl) rfl (by decide) (by kernel_rfl) (cuts := fixed_Clamp.cs) all_nil fixed_Clamp.q k
def fixed_Shift.F : FnS R (Int × Int) (Int) := ⟨[.lf, .lf], [], (.cons (dInt .i64) (.last (dInt .i64) .nil)), .lf, [], (.last (dInt .i64) .nil)⟩
def fixed_Shift.p (k : Nat) (y : Int × Int) : Option (Int) := fixed_Shift.f y.1 y.2
def fixed_Shift.E (k : Nat) : Env R := ⟨tabOf tabL, ctOf [(25, (fixed_Add.F.sem (fixed_Add.p k))), (50, (fixed_product.F.sem (fixed_product.p k))), (49, (fixed_whole_span.F.sem (fixed_whole_span.p k))), (39, (fixed_Clamp.F.sem (fixed_Clamp.p k)))], mtNone, fun _ => false, codes, rts, 28, fun _ => [], owns, [], eqtOf eqs, fun _ => false, flats, mpsOf mps, byt_⟩
def fixed_Shift.cs : List (CutS R (Int)) := []
theorem fixed_Shift.hE (k : Nat) : EnvOk Try.prog (fixed_Shift.E k) := ⟨tabs, ctOf_ok (all_cons (fixed_Add.ok k) (all_cons (fixed_product.ok k) (all_cons (fixed_whole_span.ok k) (all_cons (fixed_Clamp.ok k) all_nil)))), mtNone_ok, mixed, eqs_, flats_, mps_⟩
theorem fixed_Shift.q (k : Nat) (y : Int × Int) : fixed_Shift.p k y = fixed_Shift.F.run fixed_Shift.E Try.f47.results.toList (bodyOf Try.f47) fixed_Shift.cs k y := by kernel_rfl
theorem fixed_Shift.ok (k : Nat) : CsemOk R Try.prog 47 (fixed_Shift.F.sem (fixed_Shift.p k)) := fn_ok (F := fixed_Shift.F) (f := fixed_Shift.p) (E := fixed_Shift.E) fixed_Shift.hE (fun _ => rfl) Try.func47 (body := (bodyOf Try.f47)) rfl (by kernel_rfl) rfl (by decide) (by kernel_rfl) (cuts := fixed_Shift.cs) all_nil fixed_Shift.q k
def cluster_weight.F : FnS R (Int × Int × Int × Int × Int × Bool × Bool) (Int) := ⟨[.agg 7], [], (.cons (dInt .i64) (.cons (dInt .i64) (.cons (dInt .i64) (.cons (dInt .i64) (.cons (dInt .i64) (.cons dBool (.last dBool .nil))))))), .lf, [], (.last (dInt .i64) .nil)⟩
def cluster_weight.p (k : Nat) (y : Int × Int × Int × Int × Int × Bool × Bool) : Option (Int) := cluster_weight.f y.1 y.2.1 y.2.2.1 y.2.2.2.1 y.2.2.2.2.1 y.2.2.2.2.2.1 y.2.2.2.2.2.2
def cluster_weight.E (k : Nat) : Env R := ⟨tabOf tabL, ctOf [(47, (fixed_Shift.F.sem (fixed_Shift.p k)))], mtNone, fun _ => false, codes, rts, 8, fun _ => [], owns, [], eqtOf eqs, fun _ => false, flats, mpsOf mps, byt_⟩
def cluster_weight.cs : List (CutS R (Int)) := []
theorem cluster_weight.hE (k : Nat) : EnvOk Try.prog (cluster_weight.E k) := ⟨tabs, ctOf_ok (all_cons (fixed_Shift.ok k) all_nil), mtNone_ok, mixed, eqs_, flats_, mps_⟩
theorem cluster_weight.q (k : Nat) (y : Int × Int × Int × Int × Int × Bool × Bool) : cluster_weight.p k y = cluster_weight.F.run cluster_weight.E Try.f24.results.toList (bodyOf Try.f24) cluster_weight.cs k y := by kernel_rfl
theorem cluster_weight.ok (k : Nat) : CsemOk R Try.prog 24 (cluster_weight.F.sem (cluster_weight.p k)) := fn_ok (F := cluster_weight.F) (f := cluster_weight.p) (E := cluster_weight.E) cluster_weight.hE (fun _ => rfl) Try.func24 (body := (bodyOf Try.f24)) rfl (by kernel_rfl) rfl (by decide) (by kernel_rfl) (cuts := cluster_weight.cs) all_nil cluster_weight.q k
def cluster_Combine.F : FnS R ((List S25)) (Int × Int) := ⟨[.lf], [], (.last (dRo 0) .nil), .tup [none, none], [], (.cons (dInt .i64) (.last (dInt .i64) .nil))⟩
def cluster_Combine.p (k : Nat) (y : (List S25)) : Option (Int × Int) := cluster_Combine.f k y
def cluster_Combine.E (k : Nat) : Env R := ⟨tabOf tabL, ctOf [(24, (cluster_weight.F.sem (cluster_weight.p k))), (27, (fixed_Sub.F.sem (fixed_Sub.p k))), (26, (fixed_Scale.F.sem (fixed_Scale.p k))), (25, (fixed_Add.F.sem (fixed_Add.p k))), (28, (cluster_apart.F.sem (cluster_apart.p k)))], mtNone, fun f => memB f [24, 25, 26, 27, 28], codes, rts, 60, fun i => ordOf [(15, [(0, 0), (1, 0), (2, 0), (3, 0), (4, 0), (5, 0), (6, 0), (7, 0), (8, 0), (9, 0), (10, 0), (11, 0)]), (17, [(0, 0), (1, 0), (2, 0), (3, 0), (4, 0), (5, 0), (6, 0), (7, 0)])] i, owns, [], eqtOf eqs, fun _ => false, flats, mpsOf mps, byt_⟩
def cluster_Combine.cl0 : CutS R (Int × Int) := ⟨12, [0, 4, 19, 20, 21], [], [.lf, .lf, .lf, .lf, .lf], [], (List S25) × Int × (List S25) × Int × Int, (.cons (dRo 0) (.cons (dInt .i64) (.cons (dRo 0) (.cons (dInt .i64) (.last (dInt .i64) .nil))))), fun k z => cluster_Combine.l0 k z.1 z.2.1 z.2.2.1 z.2.2.2.1 z.2.2.2.2⟩
def cluster_Combine.cl1 : CutS R (Int × Int) := ⟨26, [0, 4, 7, 8, 36, 37, 38], [], [.lf, .lf, .lf, .lf, .lf, .lf, .lf], [.blk 7 25], (List S25) × Int × Int × (List S25) × Int × Int × Int × Int × Int × Int × Int × Bool × Bool, (.cons (dRo 0) (.cons (dInt .i64) (.ptr 0 0 (.cons (dInt .i64) (.cons (dRo 0) (.cons (dInt .i64) (.cons (dInt .i64) (.cons (dInt .i64) (.cons (dInt .i64) (.cons (dInt .i64) (.cons (dInt .i64) (.cons (dInt .i64) (.cons dBool (.last dBool .nil)))))))))))))), fun k z => cluster_Combine.l1 k z.1 z.2.1 z.2.2.1 z.2.2.2.1 z.2.2.2.2.1 z.2.2.2.2.2.1 z.2.2.2.2.2.2.1 z.2.2.2.2.2.2.2.1 z.2.2.2.2.2.2.2.2.1 z.2.2.2.2.2.2.2.2.2.1 z.2.2.2.2.2.2.2.2.2.2.1 z.2.2.2.2.2.2.2.2.2.2.2.1 z.2.2.2.2.2.2.2.2.2.2.2.2⟩
def cluster_Combine.cs : List (CutS R (Int × Int)) := [cluster_Combine.cl0, cluster_Combine.cl1]
theorem cluster_Combine.hE (k : Nat) : EnvOk Try.prog (cluster_Combine.E k) := ⟨tabs, ctOf_ok (all_cons (cluster_weight.ok k) (all_cons (fixed_Sub.ok k) (all_cons (fixed_Scale.ok k) (all_cons (fixed_Add.ok k) (all_cons (cluster_apart.ok k) all_nil))))), mtNone_ok, mixed, eqs_, flats_, mps_⟩
theorem cluster_Combine.ol0 : (cluster_Combine.cl0).Ok cluster_Combine.E Try.f9.results.toList 0 (bodyOf Try.f9) cluster_Combine.cs cluster_Combine.F.ret := ⟨fun z => rfl, fun k z => by
 show cluster_Combine.l0 (k + 1) z.1 z.2.1 z.2.2.1 z.2.2.2.1 z.2.2.2.2 = _
 rw [cluster_Combine.l0]
 kernel_rfl⟩
theorem cluster_Combine.ol1 : (cluster_Combine.cl1).Ok cluster_Combine.E Try.f9.results.toList 0 (bodyOf Try.f9) cluster_Combine.cs cluster_Combine.F.ret := ⟨fun z => rfl, fun k z => by
 show cluster_Combine.l1 (k + 1) z.1 z.2.1 z.2.2.1 z.2.2.2.1 z.2.2.2.2.1 z.2.2.2.2.2.1 z.2.2.2.2.2.2.1 z.2.2.2.2.2.2.2.1 z.2.2.2.2.2.2.2.2.1 z.2.2.2.2.2.2.2.2.2.1 z.2.2.2.2.2.2.2.2.2.2.1 z.2.2.2.2.2.2.2.2.2.2.2.1 z.2.2.2.2.2.2.2.2.2.2.2.2 = _
 rw [cluster_Combine.l1]
 kernel_rfl⟩
theorem cluster_Combine.q (k : Nat) (y : (List S25)) : cluster_Combine.p k y = cluster_Combine.F.run cluster_Combine.E Try.f9.results.toList (bodyOf Try.f9) cluster_Combine.cs k y := by kernel_rfl
theorem cluster_Combine.ok (k : Nat) : CsemOk R Try.prog 9 (cluster_Combine.F.sem (cluster_Combine.p k)) := fn_ok (F := cluster_Combine.F) (f := cluster_Combine.p) (E := cluster_Combine.E) cluster_Combine.hE (fun _ => rfl) Try.func9 (body := (bodyOf Try.f9)) rfl (by kernel_rfl) rfl (by decide) (by kernel_rfl) (cuts := cluster_Combine.cs) (all_cons cluster_Combine.ol0 (all_cons cluster_Combine.ol1 all_nil)) cluster_Combine.q k
def cluster_best_1.F : FnS R (Int × Int × Int × Int × Int × Bool × Bool) (Bool) := ⟨[.agg 7], [], (.cons (dInt .i64) (.cons (dInt .i64) (.cons (dInt .i64) (.cons (dInt .i64) (.cons (dInt .i64) (.cons dBool (.last dBool .nil))))))), .lf, [], (.last dBool .nil)⟩
def cluster_best_1.p (k : Nat) (y : Int × Int × Int × Int × Int × Bool × Bool) : Option (Bool) := cluster_best_1.f y.1 y.2.1 y.2.2.1 y.2.2.2.1 y.2.2.2.2.1 y.2.2.2.2.2.1 y.2.2.2.2.2.2
def cluster_best_1.E (k : Nat) : Env R := ⟨tabOf tabL, ctOf [], mtNone, fun _ => false, codes, rts, 5, fun _ => [], owns, [], eqtOf eqs, fun _ => false, flats, mpsOf mps, byt_⟩
def cluster_best_1.cs : List (CutS R (Bool)) := []
theorem cluster_best_1.hE (k : Nat) : EnvOk Try.prog (cluster_best_1.E k) := ⟨tabs, ctOf_ok all_nil, mtNone_ok, mixed, eqs_, flats_, mps_⟩
theorem cluster_best_1.q (k : Nat) (y : Int × Int × Int × Int × Int × Bool × Bool) : cluster_best_1.p k y = cluster_best_1.F.run cluster_best_1.E Try.f64.results.toList (bodyOf Try.f64) cluster_best_1.cs k y := by kernel_rfl
theorem cluster_best_1.ok (k : Nat) : CsemOk R Try.prog 64 (cluster_best_1.F.sem (cluster_best_1.p k)) := fn_ok (F := cluster_best_1.F) (f := cluster_best_1.p) (E := cluster_best_1.E) cluster_best_1.hE (fun _ => rfl) Try.func64 (body := (bodyOf Try.f64)) rfl (by kernel_rfl) rfl (by decide) (by kernel_rfl) (cuts := cluster_best_1.cs) all_nil cluster_best_1.q k
def slices_IndexFunc_api_Cand_api_Cand.F : FnS R ((List S25)) (Int) := ⟨[.lf, .lf], [], (.last (dRo 0) (.fnv 64 .nil)), .lf, [], (.last (dInt .i64) .nil)⟩
def slices_IndexFunc_api_Cand_api_Cand.p (k : Nat) (y : (List S25)) : Option (Int) := slices_IndexFunc_api_Cand_api_Cand.f k y
def slices_IndexFunc_api_Cand_api_Cand.E (k : Nat) : Env R := ⟨tabOf tabL, ctOf [(64, (cluster_best_1.F.sem (cluster_best_1.p k)))], mtNone, fun _ => false, codes, rts, 19, fun _ => [], owns, [], eqtOf eqs, fun _ => false, flats, mpsOf mps, byt_⟩
def slices_IndexFunc_api_Cand_api_Cand.cl0 : CutS R (Int) := ⟨4, [0, 1, 7, 8], [], [.lf, .lf, .lf, .lf], [], (List S25) × Int × Int, (.cons (dRo 0) (.fnv 64 (.cons (dInt .i64) (.last (dInt .i64) .nil)))), fun k z => slices_IndexFunc_api_Cand_api_Cand.l0 k z.1 z.2.1 z.2.2⟩
def slices_IndexFunc_api_Cand_api_Cand.cs : List (CutS R (Int)) := [slices_IndexFunc_api_Cand_api_Cand.cl0]
theorem slices_IndexFunc_api_Cand_api_Cand.hE (k : Nat) : EnvOk Try.prog (slices_IndexFunc_api_Cand_api_Cand.E k) := ⟨tabs, ctOf_ok (all_cons (cluster_best_1.ok k) all_nil), mtNone_ok, mixed, eqs_, flats_, mps_⟩
theorem slices_IndexFunc_api_Cand_api_Cand.ol0 : (slices_IndexFunc_api_Cand_api_Cand.cl0).Ok slices_IndexFunc_api_Cand_api_Cand.E Try.f45.results.toList 0 (bodyOf Try.f45) slices_IndexFunc_api_Cand_api_Cand.cs slices_IndexFunc_api_Cand_api_Cand.F.ret := ⟨fun z => rfl, fun k z => by
 show slices_IndexFunc_api_Cand_api_Cand.l0 (k + 1) z.1 z.2.1 z.2.2 = _
 rw [slices_IndexFunc_api_Cand_api_Cand.l0]
 kernel_rfl⟩
theorem slices_IndexFunc_api_Cand_api_Cand.q (k : Nat) (y : (List S25)) : slices_IndexFunc_api_Cand_api_Cand.p k y = slices_IndexFunc_api_Cand_api_Cand.F.run slices_IndexFunc_api_Cand_api_Cand.E Try.f45.results.toList (bodyOf Try.f45) slices_IndexFunc_api_Cand_api_Cand.cs k y := by kernel_rfl
theorem slices_IndexFunc_api_Cand_api_Cand.ok (k : Nat) : CsemOk R Try.prog 45 (slices_IndexFunc_api_Cand_api_Cand.F.sem (slices_IndexFunc_api_Cand_api_Cand.p k)) := fn_ok (F := slices_IndexFunc_api_Cand_api_Cand.F) (f := slices_IndexFunc_api_Cand_api_Cand.p) (E := slices_IndexFunc_api_Cand_api_Cand.E) slices_IndexFunc_api_Cand_api_Cand.hE (fun _ => rfl) Try.func45 (body := (bodyOf Try.f45)) rfl (by kernel_rfl) rfl (by decide) (by kernel_rfl) (cuts := slices_IndexFunc_api_Cand_api_Cand.cs) (all_cons slices_IndexFunc_api_Cand_api_Cand.ol0 all_nil) slices_IndexFunc_api_Cand_api_Cand.q k
def cluster_best_2.F : FnS R (Int × Int × Int × Int × Int × Bool × Bool × Int) (Bool) := ⟨[.agg 7, .lf], [], (.cons (dInt .i64) (.cons (dInt .i64) (.cons (dInt .i64) (.cons (dInt .i64) (.cons (dInt .i64) (.cons dBool (.cons dBool (.last (dEpt 2 0) .nil)))))))), .lf, [], (.last dBool .nil)⟩
def cluster_best_2.p (k : Nat) (y : Int × Int × Int × Int × Int × Bool × Bool × Int) : Option (Bool) := cluster_best_2.f y.1 y.2.1 y.2.2.1 y.2.2.2.1 y.2.2.2.2.1 y.2.2.2.2.2.1 y.2.2.2.2.2.2.1 y.2.2.2.2.2.2.2
def cluster_best_2.E (k : Nat) : Env R := ⟨tabOf tabL, ctOf [], mtNone, fun _ => false, codes, rts, 8, fun _ => [], owns, [], eqtOf eqs, fun _ => false, flats, mpsOf mps, byt_⟩
def cluster_best_2.cs : List (CutS R (Bool)) := []
theorem cluster_best_2.hE (k : Nat) : EnvOk Try.prog (cluster_best_2.E k) := ⟨tabs, ctOf_ok all_nil, mtNone_ok, mixed, eqs_, flats_, mps_⟩
theorem cluster_best_2.q (k : Nat) (y : Int × Int × Int × Int × Int × Bool × Bool × Int) : cluster_best_2.p k y = cluster_best_2.F.run cluster_best_2.E Try.f65.results.toList (bodyOf Try.f65) cluster_best_2.cs k y := by kernel_rfl
theorem cluster_best_2.ok (k : Nat) : CsemOk R Try.prog 65 (cluster_best_2.F.sem (cluster_best_2.p k)) := fn_ok (F := cluster_best_2.F) (f := cluster_best_2.p) (E := cluster_best_2.E) cluster_best_2.hE (fun _ => rfl) Try.func65 (body := (bodyOf Try.f65)) rfl (by kernel_rfl) rfl (by decide) (by kernel_rfl) (cuts := cluster_best_2.cs) all_nil cluster_best_2.q k
def slices_IndexFunc_api_Cand_api_Cand_s1.F : FnS R ((List S25) × Int) (Int × Int) := ⟨[.lf, .lf], [.blk 1 3], (.cons (dRo 0) (.fnc 65 [(0, 0)] (.last (dInt .i64) .nil))), .lf, [.blk 1 3], (.cons (dInt .i64) (.last (dInt .i64) .nil))⟩
def slices_IndexFunc_api_Cand_api_Cand_s1.p (k : Nat) (y : (List S25) × Int) : Option (Int × Int) := slices_IndexFunc_api_Cand_api_Cand_s1.f k y.1 y.2
def slices_IndexFunc_api_Cand_api_Cand_s1.E (k : Nat) : Env R := ⟨tabOf tabL, ctOf [(65, (cluster_best_2.F.sem (cluster_best_2.p k)))], mtNone, fun f => memB f [65], codes, rts, 19, fun _ => [], owns, [], eqtOf eqs, fun _ => false, flats, mpsOf mps, byt_⟩
def slices_IndexFunc_api_Cand_api_Cand_s1.cl0 : CutS R (Int × Int) := ⟨4, [0, 1, 7, 8], [], [.lf, .lf, .lf, .lf], [.blk 1 3], (List S25) × Int × Int × Int, (.cons (dRo 0) (.fnc 65 [(0, 0)] (.cons (dInt .i64) (.cons (dInt .i64) (.last (dInt .i64) .nil))))), fun k z => slices_IndexFunc_api_Cand_api_Cand_s1.l0 k z.1 z.2.1 z.2.2.1 z.2.2.2⟩
def slices_IndexFunc_api_Cand_api_Cand_s1.cs : List (CutS R (Int × Int)) := [slices_IndexFunc_api_Cand_api_Cand_s1.cl0]
theorem slices_IndexFunc_api_Cand_api_Cand_s1.hE (k : Nat) : EnvOk Try.prog (slices_IndexFunc_api_Cand_api_Cand_s1.E k) := ⟨tabs, ctOf_ok (all_cons (cluster_best_2.ok k) all_nil), mtNone_ok, mixed, eqs_, flats_, mps_⟩
theorem slices_IndexFunc_api_Cand_api_Cand_s1.ol0 : (slices_IndexFunc_api_Cand_api_Cand_s1.cl0).Ok slices_IndexFunc_api_Cand_api_Cand_s1.E Try.f45.results.toList 1 (bodyOf Try.f45) slices_IndexFunc_api_Cand_api_Cand_s1.cs slices_IndexFunc_api_Cand_api_Cand_s1.F.ret := ⟨fun z => rfl, fun k z => by
 show slices_IndexFunc_api_Cand_api_Cand_s1.l0 (k + 1) z.1 z.2.1 z.2.2.1 z.2.2.2 = _
 rw [slices_IndexFunc_api_Cand_api_Cand_s1.l0]
 kernel_rfl⟩
theorem slices_IndexFunc_api_Cand_api_Cand_s1.q (k : Nat) (y : (List S25) × Int) : slices_IndexFunc_api_Cand_api_Cand_s1.p k y = slices_IndexFunc_api_Cand_api_Cand_s1.F.run slices_IndexFunc_api_Cand_api_Cand_s1.E Try.f45.results.toList (bodyOf Try.f45) slices_IndexFunc_api_Cand_api_Cand_s1.cs k y := by kernel_rfl
theorem slices_IndexFunc_api_Cand_api_Cand_s1.ok (k : Nat) : CsemOk R Try.prog 45 (slices_IndexFunc_api_Cand_api_Cand_s1.F.sem (slices_IndexFunc_api_Cand_api_Cand_s1.p k)) := fn_ok (F := slices_IndexFunc_api_Cand_api_Cand_s1.F) (f := slices_IndexFunc_api_Cand_api_Cand_s1.p) (E := slices_IndexFunc_api_Cand_api_Cand_s1.E) slices_IndexFunc_api_Cand_api_Cand_s1.hE (fun _ => rfl) Try.func45 (body := (bodyOf Try.f45)) rfl (by kernel_rfl) rfl (by decide) (by kernel_rfl) (cuts := slices_IndexFunc_api_Cand_api_Cand_s1.cs) (all_cons slices_IndexFunc_api_Cand_api_Cand_s1.ol0 all_nil) slices_IndexFunc_api_Cand_api_Cand_s1.q k
def cluster_best.F : FnS R ((List S25) × Int) (Int) := ⟨[.lf, .lf], [], (.cons (dRo 0) (.last (dInt .i64) .nil)), .lf, [], (.last (dInt .i64) .nil)⟩
def cluster_best.p (k : Nat) (y : (List S25) × Int) : Option (Int) := cluster_best.f k y.1 y.2
def cluster_best.E (k : Nat) : Env R := ⟨tabOf tabL, ctOf [(45, (slices_IndexFunc_api_Cand_api_Cand.F.semOr (slices_IndexFunc_api_Cand_api_Cand.p k) (slices_IndexFunc_api_Cand_api_Cand_s1.F.sem (slices_IndexFunc_api_Cand_api_Cand_s1.p k))))], mtNone, fun _ => false, codes, rts, 34, fun i => ordOf [(5, [(0, 0), (1, 0), (2, 0), (3, 0), (4, 0), (5, 0), (6, 0), (7, 0), (8, 0), (9, 0), (10, 0), (11, 0), (12, 0), (13, 0)])] i, owns, [], eqtOf eqs, fun _ => false, flats, mpsOf mps, byt_⟩
def cluster_best.cs : List (CutS R (Int)) := []
theorem cluster_best.hE (k : Nat) : EnvOk Try.prog (cluster_best.E k) := ⟨tabs, ctOf_ok (all_cons (semOr_ok (slices_IndexFunc_api_Cand_api_Cand.ok k) (slices_IndexFunc_api_Cand_api_Cand_s1.ok k)) all_nil), mtNone_ok, mixed, eqs_, flats_, mps_⟩
theorem cluster_best.q (k : Nat) (y : (List S25) × Int) : cluster_best.p k y = cluster_best.F.run cluster_best.E Try.f38.results.toList (bodyOf Try.f38) cluster_best.cs k y := by kernel_rfl
theorem cluster_best.ok (k : Nat) : CsemOk R Try.prog 38 (cluster_best.F.sem (cluster_best.p k)) := fn_ok (F := cluster_best.F) (f := cluster_best.p) (E := cluster_best.E) cluster_best.hE (fun _ => rfl) Try.func38 (body := (bodyOf Try.f38)) rfl (by kernel_rfl) rfl (by decide) (by kernel_rfl) (cuts := cluster_best.cs) all_nil cluster_best.q k
def cluster_follow.F : FnS R (Int × Int × Int × Int × Int × Bool × Bool) (Int × Int × Int × Bool × Bool) := ⟨[.agg 7], [], (.cons (dInt .i64) (.cons (dInt .i64) (.cons (dInt .i64) (.cons (dInt .i64) (.cons (dInt .i64) (.cons dBool (.last dBool .nil))))))), .agg 5, [], (.cons (dInt .i64) (.cons (dInt .i64) (.cons (dInt .i64) (.cons dBool (.last dBool .nil)))))⟩
def cluster_follow.p (k : Nat) (y : Int × Int × Int × Int × Int × Bool × Bool) : Option (Int × Int × Int × Bool × Bool) := cluster_follow.f y.1 y.2.1 y.2.2.1 y.2.2.2.1 y.2.2.2.2.1 y.2.2.2.2.2.1 y.2.2.2.2.2.2
def cluster_follow.E (k : Nat) : Env R := ⟨tabOf tabL, ctOf [], mtNone, fun _ => false, codes, rts, 12, fun _ => [], owns, [], eqtOf eqs, fun _ => false, flats, mpsOf mps, byt_⟩
def cluster_follow.cs : List (CutS R (Int × Int × Int × Bool × Bool)) := []
theorem cluster_follow.hE (k : Nat) : EnvOk Try.prog (cluster_follow.E k) := ⟨tabs, ctOf_ok all_nil, mtNone_ok, mixed, eqs_, flats_, mps_⟩
theorem cluster_follow.q (k : Nat) (y : Int × Int × Int × Int × Int × Bool × Bool) : cluster_follow.p k y = cluster_follow.F.run cluster_follow.E Try.f40.results.toList (bodyOf Try.f40) cluster_follow.cs k y := by kernel_rfl
theorem cluster_follow.ok (k : Nat) : CsemOk R Try.prog 40 (cluster_follow.F.sem (cluster_follow.p k)) := fn_ok (F := cluster_follow.F) (f := cluster_follow.p) (E := cluster_follow.E) cluster_follow.hE (fun _ => rfl) Try.func40 (body := (bodyOf Try.f40)) rfl (by kernel_rfl) rfl (by decide) (by kernel_rfl) (cuts := cluster_follow.cs) all_nil cluster_follow.q k
def cluster_Mitigate.F : FnS R ((List S25) × Int) (Int × Int × Int × Bool × Bool) := ⟨[.lf, .lf], [], (.cons (dRo 0) (.last (dInt .i64) .nil)), .agg 5, [], (.cons (dInt .i64) (.cons (dInt .i64) (.cons (dInt .i64) (.cons dBool (.last dBool .nil)))))⟩
def cluster_Mitigate.p (k : Nat) (y : (List S25) × Int) : Option (Int × Int × Int × Bool × Bool) := cluster_Mitigate.f k y.1 y.2
def cluster_Mitigate.E (k : Nat) : Env R := ⟨tabOf tabL, ctOf [(12, (cluster_Cluster.F.sem (cluster_Cluster.p k))), (38, (cluster_best.F.sem (cluster_best.p k))), (39, (fixed_Clamp.F.sem (fixed_Clamp.p k))), (40, (cluster_follow.F.sem (cluster_follow.p k))), (35, (slices_Delete_api_Cand_api_Cand.F.sem (slices_Delete_api_Cand_api_Cand.p k))), (9, (cluster_Combine.F.sem (cluster_Combine.p k)))], mtNone, fun f => memB f [9, 38, 39], codes, rts, 92, fun i => ordOf [(12, [(0, 0), (1, 0), (2, 0), (3, 0), (4, 0), (5, 0), (6, 0), (7, 0), (8, 0), (9, 0), (10, 0), (11, 0), (12, 0), (13, 0), (14, 0), (15, 0), (16, 0), (17, 0)]), (18, [(0, 0), (2, 0), (3, 0), (4, 0), (5, 0), (1, 9), (7, 2), (8, 0), (9, 0), (10, 0), (11, 0), (12, 0), (13, 2), (14, 0), (15, 2)])] i, owns, [], eqtOf eqs, fun _ => false, flats, mpsOf mps, byt_⟩
def cluster_Mitigate.cl0 : CutS R (Int × Int × Int × Bool × Bool) := ⟨6, [1, 4, 5, 6, 13, 14, 15], [none, none, some (.row 0 25), some (.row 0 25), none, none, none], [.lf, .lf, .lf, .lf, .lf, .lf, .lf], [.blk 5 37, .row 0 25, .row 0 25, .row 0 25], Int × Int × Int × Int × Int × Int × Bool × Bool × (List S25) × (List S25) × (List S25), (.cons (dInt .i64) (.ptr 0 0 (.row 0 1 (.row 0 2 (.row 0 3 (.cons (dInt .i64) (.cons (dInt .i64) (.cons (dInt .i64) (.cons (dInt .i64) (.cons (dInt .i64) (.cons dBool (.cons dBool (.cons (dRo 0) (.cons (dRo 0) (.last (dRo 0) .nil))))))))))))))), fun k z => cluster_Mitigate.l0 k z.1 z.2.1 z.2.2.1 z.2.2.2.1 z.2.2.2.2.1 z.2.2.2.2.2.1 z.2.2.2.2.2.2.1 z.2.2.2.2.2.2.2.1 z.2.2.2.2.2.2.2.2.1 z.2.2.2.2.2.2.2.2.2.1 z.2.2.2.2.2.2.2.2.2.2⟩
def cluster_Mitigate.cj0 : CutS R (Int × Int × Int × Bool × Bool) := ⟨16, [1, 4, 5, 6, 13, 14, 15], [], [.lf, .lf, .lf, .lf, .lf, .lf, .lf], [.blk 5 37, .row 0 25, .row 0 25, .row 0 25], Int × Int × Int × Int × Int × Int × Bool × Bool × (List S25) × (List S25) × (List S25), (.cons (dInt .i64) (.ptr 0 0 (.row 0 1 (.row 0 2 (.row 0 3 (.cons (dInt .i64) (.cons (dInt .i64) (.cons (dInt .i64) (.cons (dInt .i64) (.cons (dInt .i64) (.cons dBool (.cons dBool (.cons (dRo 0) (.cons (dRo 0) (.last (dRo 0) .nil))))))))))))))), fun k z => cluster_Mitigate.j0 k z.1 z.2.1 z.2.2.1 z.2.2.2.1 z.2.2.2.2.1 z.2.2.2.2.2.1 z.2.2.2.2.2.2.1 z.2.2.2.2.2.2.2.1 z.2.2.2.2.2.2.2.2.1 z.2.2.2.2.2.2.2.2.2.1 z.2.2.2.2.2.2.2.2.2.2⟩
def cluster_Mitigate.cs : List (CutS R (Int × Int × Int × Bool × Bool)) := [cluster_Mitigate.cl0, cluster_Mitigate.cj0]
theorem cluster_Mitigate.hE (k : Nat) : EnvOk Try.prog (cluster_Mitigate.E k) := ⟨tabs, ctOf_ok (all_cons (cluster_Cluster.ok k) (all_cons (cluster_best.ok k) (all_cons (fixed_Clamp.ok k) (all_cons (cluster_follow.ok k) (all_cons (slices_Delete_api_Cand_api_Cand.ok k) (all_cons (cluster_Combine.ok k) all_nil)))))), mtNone_ok, mixed, eqs_, flats_, mps_⟩
theorem cluster_Mitigate.ol0 : (cluster_Mitigate.cl0).Ok cluster_Mitigate.E Try.f16.results.toList 0 (bodyOf Try.f16) cluster_Mitigate.cs cluster_Mitigate.F.ret := ⟨fun z => rfl, fun k z => by
 show cluster_Mitigate.l0 (k + 1) z.1 z.2.1 z.2.2.1 z.2.2.2.1 z.2.2.2.2.1 z.2.2.2.2.2.1 z.2.2.2.2.2.2.1 z.2.2.2.2.2.2.2.1 z.2.2.2.2.2.2.2.2.1 z.2.2.2.2.2.2.2.2.2.1 z.2.2.2.2.2.2.2.2.2.2 = _
 rw [cluster_Mitigate.l0]
 kernel_rfl⟩
theorem cluster_Mitigate.oj0 : (cluster_Mitigate.cj0).Ok cluster_Mitigate.E Try.f16.results.toList 0 (bodyOf Try.f16) cluster_Mitigate.cs cluster_Mitigate.F.ret := ⟨fun z => rfl, fun k z => by
 show cluster_Mitigate.j0 (k + 1) z.1 z.2.1 z.2.2.1 z.2.2.2.1 z.2.2.2.2.1 z.2.2.2.2.2.1 z.2.2.2.2.2.2.1 z.2.2.2.2.2.2.2.1 z.2.2.2.2.2.2.2.2.1 z.2.2.2.2.2.2.2.2.2.1 z.2.2.2.2.2.2.2.2.2.2 = _
 rw [cluster_Mitigate.j0]
 kernel_rfl⟩
theorem cluster_Mitigate.q (k : Nat) (y : (List S25) × Int) : cluster_Mitigate.p k y = cluster_Mitigate.F.run cluster_Mitigate.E Try.f16.results.toList (bodyOf Try.f16) cluster_Mitigate.cs k y := by kernel_rfl
theorem cluster_Mitigate.ok (k : Nat) : CsemOk R Try.prog 16 (cluster_Mitigate.F.sem (cluster_Mitigate.p k)) := fn_ok (F := cluster_Mitigate.F) (f := cluster_Mitigate.p) (E := cluster_Mitigate.E) cluster_Mitigate.hE (fun _ => rfl) Try.func16 (body := (bodyOf Try.f16)) rfl (by kernel_rfl) rfl (by decide) (by kernel_rfl) (cuts := cluster_Mitigate.cs) (all_cons cluster_Mitigate.ol0 (all_cons cluster_Mitigate.oj0 all_nil)) cluster_Mitigate.q k
def cluster_Select_1.F : FnS R (Int × Int × Int × Int × Int × Bool × Bool × Int) (Bool) := ⟨[.agg 7, .lf], [], (.cons (dInt .i64) (.cons (dInt .i64) (.cons (dInt .i64) (.cons (dInt .i64) (.cons (dInt .i64) (.cons dBool (.cons dBool (.last (dEpt 2 0) .nil)))))))), .lf, [], (.last dBool .nil)⟩
def cluster_Select_1.p (k : Nat) (y : Int × Int × Int × Int × Int × Bool × Bool × Int) : Option (Bool) := cluster_Select_1.f y.1 y.2.1 y.2.2.1 y.2.2.2.1 y.2.2.2.2.1 y.2.2.2.2.2.1 y.2.2.2.2.2.2.1 y.2.2.2.2.2.2.2
def cluster_Select_1.E (k : Nat) : Env R := ⟨tabOf tabL, ctOf [], mtNone, fun _ => false, codes, rts, 8, fun _ => [], owns, [], eqtOf eqs, fun _ => false, flats, mpsOf mps, byt_⟩
def cluster_Select_1.cs : List (CutS R (Bool)) := []
theorem cluster_Select_1.hE (k : Nat) : EnvOk Try.prog (cluster_Select_1.E k) := ⟨tabs, ctOf_ok all_nil, mtNone_ok, mixed, eqs_, flats_, mps_⟩
theorem cluster_Select_1.q (k : Nat) (y : Int × Int × Int × Int × Int × Bool × Bool × Int) : cluster_Select_1.p k y = cluster_Select_1.F.run cluster_Select_1.E Try.f46.results.toList (bodyOf Try.f46) cluster_Select_1.cs k y := by kernel_rfl
theorem cluster_Select_1.ok (k : Nat) : CsemOk R Try.prog 46 (cluster_Select_1.F.sem (cluster_Select_1.p k)) := fn_ok (F := cluster_Select_1.F) (f := cluster_Select_1.p) (E := cluster_Select_1.E) cluster_Select_1.hE (fun _ => rfl) Try.func46 (body := (bodyOf Try.f46)) rfl (by kernel_rfl) rfl (by decide) (by kernel_rfl) (cuts := cluster_Select_1.cs) all_nil cluster_Select_1.q k
def slices_IndexFunc_api_Cand_api_Cand_s2.F : FnS R ((List S25) × Int) (Int × Int) := ⟨[.lf, .lf], [.blk 1 3], (.cons (dRo 0) (.fnc 46 [(0, 0)] (.last (dInt .i64) .nil))), .lf, [.blk 1 3], (.cons (dInt .i64) (.last (dInt .i64) .nil))⟩
def slices_IndexFunc_api_Cand_api_Cand_s2.p (k : Nat) (y : (List S25) × Int) : Option (Int × Int) := slices_IndexFunc_api_Cand_api_Cand_s2.f k y.1 y.2
def slices_IndexFunc_api_Cand_api_Cand_s2.E (k : Nat) : Env R := ⟨tabOf tabL, ctOf [(46, (cluster_Select_1.F.sem (cluster_Select_1.p k)))], mtNone, fun f => memB f [46], codes, rts, 19, fun _ => [], owns, [], eqtOf eqs, fun _ => false, flats, mpsOf mps, byt_⟩
def slices_IndexFunc_api_Cand_api_Cand_s2.cl0 : CutS R (Int × Int) := ⟨4, [0, 1, 7, 8], [], [.lf, .lf, .lf, .lf], [.blk 1 3], (List S25) × Int × Int × Int, (.cons (dRo 0) (.fnc 46 [(0, 0)] (.cons (dInt .i64) (.cons (dInt .i64) (.last (dInt .i64) .nil))))), fun k z => slices_IndexFunc_api_Cand_api_Cand_s2.l0 k z.1 z.2.1 z.2.2.1 z.2.2.2⟩
def slices_IndexFunc_api_Cand_api_Cand_s2.cs : List (CutS R (Int × Int)) := [slices_IndexFunc_api_Cand_api_Cand_s2.cl0]
theorem slices_IndexFunc_api_Cand_api_Cand_s2.hE (k : Nat) : EnvOk Try.prog (slices_IndexFunc_api_Cand_api_Cand_s2.E k) := ⟨tabs, ctOf_ok (all_cons (cluster_Select_1.ok k) all_nil), mtNone_ok, mixed, eqs_, flats_, mps_⟩
theorem slices_IndexFunc_api_Cand_api_Cand_s2.ol0 : (slices_IndexFunc_api_Cand_api_Cand_s2.cl0).Ok slices_IndexFunc_api_Cand_api_Cand_s2.E Try.f45.results.toList 1 (bodyOf Try.f45) slices_IndexFunc_api_Cand_api_Cand_s2.cs slices_IndexFunc_api_Cand_api_Cand_s2.F.ret := ⟨fun z => rfl, fun k z => by
 show slices_IndexFunc_api_Cand_api_Cand_s2.l0 (k + 1) z.1 z.2.1 z.2.2.1 z.2.2.2 = _
 rw [slices_IndexFunc_api_Cand_api_Cand_s2.l0]
 kernel_rfl⟩
theorem slices_IndexFunc_api_Cand_api_Cand_s2.q (k : Nat) (y : (List S25) × Int) : slices_IndexFunc_api_Cand_api_Cand_s2.p k y = slices_IndexFunc_api_Cand_api_Cand_s2.F.run slices_IndexFunc_api_Cand_api_Cand_s2.E Try.f45.results.toList (bodyOf Try.f45) slices_IndexFunc_api_Cand_api_Cand_s2.cs k y := by kernel_rfl
theorem slices_IndexFunc_api_Cand_api_Cand_s2.ok (k : Nat) : CsemOk R Try.prog 45 (slices_IndexFunc_api_Cand_api_Cand_s2.F.sem (slices_IndexFunc_api_Cand_api_Cand_s2.p k)) := fn_ok (F := slices_IndexFunc_api_Cand_api_Cand_s2.F) (f := slices_IndexFunc_api_Cand_api_Cand_s2.p) (E := slices_IndexFunc_api_Cand_api_Cand_s2.E) slices_IndexFunc_api_Cand_api_Cand_s2.hE (fun _ => rfl) Try.func45 (body := (bodyOf Try.f45)) rfl (by kernel_rfl) rfl (by decide) (by kernel_rfl) (cuts := slices_IndexFunc_api_Cand_api_Cand_s2.cs) (all_cons slices_IndexFunc_api_Cand_api_Cand_s2.ol0 all_nil) slices_IndexFunc_api_Cand_api_Cand_s2.q k
def cluster_Select.F : FnS R ((List S25) × Int) (Int) := ⟨[.lf, .lf], [], (.cons (dRo 0) (.last (dInt .i64) .nil)), .lf, [], (.last (dInt .i64) .nil)⟩
def cluster_Select.p (k : Nat) (y : (List S25) × Int) : Option (Int) := cluster_Select.f k y.1 y.2
def cluster_Select.E (k : Nat) : Env R := ⟨tabOf tabL, ctOf [(45, (slices_IndexFunc_api_Cand_api_Cand_s2.F.sem (slices_IndexFunc_api_Cand_api_Cand_s2.p k))), (28, (cluster_apart.F.sem (cluster_apart.p k)))], mtNone, fun _ => false, codes, rts, 14, fun _ => [], owns, [], eqtOf eqs, fun _ => false, flats, mpsOf mps, byt_⟩
def cluster_Select.cs : List (CutS R (Int)) := []
theorem cluster_Select.hE (k : Nat) : EnvOk Try.prog (cluster_Select.E k) := ⟨tabs, ctOf_ok (all_cons (slices_IndexFunc_api_Cand_api_Cand_s2.ok k) (all_cons (cluster_apart.ok k) all_nil)), mtNone_ok, mixed, eqs_, flats_, mps_⟩
theorem cluster_Select.q (k : Nat) (y : (List S25) × Int) : cluster_Select.p k y = cluster_Select.F.run cluster_Select.E Try.f21.results.toList (bodyOf Try.f21) cluster_Select.cs k y := by kernel_rfl
theorem cluster_Select.ok (k : Nat) : CsemOk R Try.prog 21 (cluster_Select.F.sem (cluster_Select.p k)) := fn_ok (F := cluster_Select.F) (f := cluster_Select.p) (E := cluster_Select.E) cluster_Select.hE (fun _ => rfl) Try.func21 (body := (bodyOf Try.f21)) rfl (by kernel_rfl) rfl (by decide) (by kernel_rfl) (cuts := cluster_Select.cs) all_nil cluster_Select.q k
def foliotlaw14_shown.F : FnS R (Unit) (Bool) := ⟨[], [], .nil, .lf, [], (.last dBool .nil)⟩
def foliotlaw14_shown.p (k : Nat) (y : Unit) : Option (Bool) := foliotlaw14_shown.f k
def foliotlaw14_shown.E (k : Nat) : Env R := ⟨tabOf tabL, ctOf [(29, (foliotlaw14_cand.F.sem (foliotlaw14_cand.p k))), (12, (cluster_Cluster.F.sem (cluster_Cluster.p k))), (9, (cluster_Combine.F.sem (cluster_Combine.p k))), (16, (cluster_Mitigate.F.sem (cluster_Mitigate.p k))), (21, (cluster_Select.F.sem (cluster_Select.p k)))], mtNone, fun f => memB f [9, 16, 21, 29], codes, rts, 58, fun i => ordOf [(6, [(0, 0), (1, 0), (2, 4004), (3, 2004), (4, 1999), (5, 2)])] i, owns, [], eqtOf eqs, fun f => memB f [12], flats, mpsOf mps, byt_⟩
def foliotlaw14_shown.cs : List (CutS R (Bool)) := []
theorem foliotlaw14_shown.hE (k : Nat) : EnvOk Try.prog (foliotlaw14_shown.E k) := ⟨tabs, ctOf_ok (all_cons (foliotlaw14_cand.ok k) (all_cons (cluster_Cluster.ok k) (all_cons (cluster_Combine.ok k) (all_cons (cluster_Mitigate.ok k) (all_cons (cluster_Select.ok k) all_nil))))), mtNone_ok, mixed, eqs_, flats_, mps_⟩
theorem foliotlaw14_shown.q (k : Nat) (y : Unit) : foliotlaw14_shown.p k y = foliotlaw14_shown.F.run foliotlaw14_shown.E Try.f10.results.toList (bodyOf Try.f10) foliotlaw14_shown.cs k y := by kernel_rfl
theorem foliotlaw14_shown.ok (k : Nat) : CsemOk R Try.prog 10 (foliotlaw14_shown.F.sem (foliotlaw14_shown.p k)) := fn_ok (F := foliotlaw14_shown.F) (f := foliotlaw14_shown.p) (E := foliotlaw14_shown.E) foliotlaw14_shown.hE (fun _ => rfl) Try.func10 (body := (bodyOf Try.f10)) rfl (by kernel_rfl) rfl (by decide) (by kernel_rfl) (cuts := foliotlaw14_shown.cs) all_nil foliotlaw14_shown.q k
def foliotlaw14_few.F : FnS R ((List S25)) ((List S25)) := ⟨[.lf], [], (.last (dRo 0) .nil), .lf, [], (.last (dRo 0) .nil)⟩
def foliotlaw14_few.p (k : Nat) (y : (List S25)) : Option ((List S25)) := foliotlaw14_few.f y
def foliotlaw14_few.E (k : Nat) : Env R := ⟨tabOf tabL, ctOf [], mtNone, fun _ => false, codes, rts, 8, fun _ => [], owns, [], eqtOf eqs, fun _ => false, flats, mpsOf mps, byt_⟩
def foliotlaw14_few.cs : List (CutS R ((List S25))) := []
theorem foliotlaw14_few.hE (k : Nat) : EnvOk Try.prog (foliotlaw14_few.E k) := ⟨tabs, ctOf_ok all_nil, mtNone_ok, mixed, eqs_, flats_, mps_⟩
theorem foliotlaw14_few.q (k : Nat) (y : (List S25)) : foliotlaw14_few.p k y = foliotlaw14_few.F.run foliotlaw14_few.E Try.f11.results.toList (bodyOf Try.f11) foliotlaw14_few.cs k y := by kernel_rfl
theorem foliotlaw14_few.ok (k : Nat) : CsemOk R Try.prog 11 (foliotlaw14_few.F.sem (foliotlaw14_few.p k)) := fn_ok (F := foliotlaw14_few.F) (f := foliotlaw14_few.p) (E := foliotlaw14_few.E) foliotlaw14_few.hE (fun _ => rfl) Try.func11 (body := (bodyOf Try.f11)) rfl (by kernel_rfl) rfl (by decide) (by kernel_rfl) (cuts := foliotlaw14_few.cs) all_nil foliotlaw14_few.q k
def foliotlaw14_has.F : FnS R ((List S25) × Int × Int × Int × Int × Int × Bool × Bool) (Bool) := ⟨[.lf, .agg 7], [], (.cons (dRo 0) (.cons (dInt .i64) (.cons (dInt .i64) (.cons (dInt .i64) (.cons (dInt .i64) (.cons (dInt .i64) (.cons dBool (.last dBool .nil)))))))), .lf, [], (.last dBool .nil)⟩
def foliotlaw14_has.p (k : Nat) (y : (List S25) × Int × Int × Int × Int × Int × Bool × Bool) : Option (Bool) := foliotlaw14_has.f k y.1 y.2.1 y.2.2.1 y.2.2.2.1 y.2.2.2.2.1 y.2.2.2.2.2.1 y.2.2.2.2.2.2.1 y.2.2.2.2.2.2.2
def foliotlaw14_has.E (k : Nat) : Env R := ⟨tabOf tabL, ctOf [], mtNone, fun _ => false, codes, rts, 17, fun _ => [], owns, [], eqtOf eqs, fun _ => false, flats, mpsOf mps, byt_⟩
def foliotlaw14_has.cl0 : CutS R (Bool) := ⟨4, [3, 7, 8, 9], [], [.lf, .lf, .lf, .lf], [.blk 7 25], (List S25) × Int × Int × Int × Int × Int × Int × Int × Bool × Bool, (.ptr 0 0 (.cons (dRo 0) (.cons (dInt .i64) (.cons (dInt .i64) (.cons (dInt .i64) (.cons (dInt .i64) (.cons (dInt .i64) (.cons (dInt .i64) (.cons (dInt .i64) (.cons dBool (.last dBool .nil))))))))))), fun k z => foliotlaw14_has.l0 k z.1 z.2.1 z.2.2.1 z.2.2.2.1 z.2.2.2.2.1 z.2.2.2.2.2.1 z.2.2.2.2.2.2.1 z.2.2.2.2.2.2.2.1 z.2.2.2.2.2.2.2.2.1 z.2.2.2.2.2.2.2.2.2⟩
def foliotlaw14_has.cs : List (CutS R (Bool)) := [foliotlaw14_has.cl0]
theorem foliotlaw14_has.hE (k : Nat) : EnvOk Try.prog (foliotlaw14_has.E k) := ⟨tabs, ctOf_ok all_nil, mtNone_ok, mixed, eqs_, flats_, mps_⟩
theorem foliotlaw14_has.ol0 : (foliotlaw14_has.cl0).Ok foliotlaw14_has.E Try.f13.results.toList 0 (bodyOf Try.f13) foliotlaw14_has.cs foliotlaw14_has.F.ret := ⟨fun z => rfl, fun k z => by
 show foliotlaw14_has.l0 (k + 1) z.1 z.2.1 z.2.2.1 z.2.2.2.1 z.2.2.2.2.1 z.2.2.2.2.2.1 z.2.2.2.2.2.2.1 z.2.2.2.2.2.2.2.1 z.2.2.2.2.2.2.2.2.1 z.2.2.2.2.2.2.2.2.2 = _
 rw [foliotlaw14_has.l0]
 kernel_rfl⟩
theorem foliotlaw14_has.q (k : Nat) (y : (List S25) × Int × Int × Int × Int × Int × Bool × Bool) : foliotlaw14_has.p k y = foliotlaw14_has.F.run foliotlaw14_has.E Try.f13.results.toList (bodyOf Try.f13) foliotlaw14_has.cs k y := by kernel_rfl
theorem foliotlaw14_has.ok (k : Nat) : CsemOk R Try.prog 13 (foliotlaw14_has.F.sem (foliotlaw14_has.p k)) := fn_ok (F := foliotlaw14_has.F) (f := foliotlaw14_has.p) (E := foliotlaw14_has.E) foliotlaw14_has.hE (fun _ => rfl) Try.func13 (body := (bodyOf Try.f13)) rfl (by kernel_rfl) rfl (by decide) (by kernel_rfl) (cuts := foliotlaw14_has.cs) (all_cons foliotlaw14_has.ol0 all_nil) foliotlaw14_has.q k
def foliotref01_of.F : FnS R (Int) (Bool × (List Int)) := ⟨[.lf], [], (.last (dInt .i64) .nil), .agg 2, [.row 2 3], (.row 2 0 (.cons dBool (.last (dRo 2) .nil)))⟩
def foliotref01_of.p (k : Nat) (y : Int) : Option (Bool × (List Int)) := foliotref01_of.f k y
def foliotref01_of.E (k : Nat) : Env R := ⟨tabOf tabL, ctOf [], mtNone, fun _ => false, codes, rts, 30, fun _ => [], owns, [], eqtOf eqs, fun _ => false, flats, mpsOf mps, byt_⟩
def foliotref01_of.cl0 : CutS R (Bool × (List Int)) := ⟨10, [2, 3, 4], [], [.lf, .lf, .lf], [.blk 2 80, .blk 2 80, .row 2 3, .row 2 3], Int × Bool × Bool × (List Int) × (List Int), (.ptr 0 0 (.ptr 1 0 (.cons (dInt .u64) (.row 2 2 (.cons dBool (.row 2 3 (.cons dBool (.cons (dRo 2) (.last (dRo 2) .nil))))))))), fun k z => foliotref01_of.l0 k z.1 z.2.1 z.2.2.1 z.2.2.2.1 z.2.2.2.2⟩
def foliotref01_of.cs : List (CutS R (Bool × (List Int))) := [foliotref01_of.cl0]
theorem foliotref01_of.hE (k : Nat) : EnvOk Try.prog (foliotref01_of.E k) := ⟨tabs, ctOf_ok all_nil, mtNone_ok, mixed, eqs_, flats_, mps_⟩
theorem foliotref01_of.ol0 : (foliotref01_of.cl0).Ok foliotref01_of.E Try.f63.results.toList 0 (bodyOf Try.f63) foliotref01_of.cs foliotref01_of.F.ret := ⟨fun z => rfl, fun k z => by
 show foliotref01_of.l0 (k + 1) z.1 z.2.1 z.2.2.1 z.2.2.2.1 z.2.2.2.2 = _
 rw [foliotref01_of.l0]
 kernel_rfl⟩
theorem foliotref01_of.q (k : Nat) (y : Int) : foliotref01_of.p k y = foliotref01_of.F.run foliotref01_of.E Try.f63.results.toList (bodyOf Try.f63) foliotref01_of.cs k y := by kernel_rfl
theorem foliotref01_of.ok (k : Nat) : CsemOk R Try.prog 63 (foliotref01_of.F.sem (foliotref01_of.p k)) := fn_ok (F := foliotref01_of.F) (f := foliotref01_of.p) (E := foliotref01_of.E) foliotref01_of.hE (fun _ => rfl) Try.func63 (body := (bodyOf Try.f63)) rfl (by kernel_rfl) rfl (by decide) (by kernel_rfl) (cuts := foliotref01_of.cs) (all_cons foliotref01_of.ol0 all_nil) foliotref01_of.q k
def foliotref01_s.F : FnS R (Int) (Bool × (List Int)) := ⟨[.lf], [], (.last (dInt .i64) .nil), .agg 2, [.row 2 3], (.row 2 0 (.cons dBool (.last (dRo 2) .nil)))⟩
def foliotref01_s.p (k : Nat) (y : Int) : Option (Bool × (List Int)) := foliotref01_s.f k y
def foliotref01_s.E (k : Nat) : Env R := ⟨tabOf tabL, ctOf [(63, (foliotref01_of.F.sem (foliotref01_of.p k)))], mtNone, fun _ => false, codes, rts, 5, fun _ => [], owns, [], eqtOf eqs, fun _ => false, flats, mpsOf mps, byt_⟩
def foliotref01_s.cs : List (CutS R (Bool × (List Int))) := []
theorem foliotref01_s.hE (k : Nat) : EnvOk Try.prog (foliotref01_s.E k) := ⟨tabs, ctOf_ok (all_cons (foliotref01_of.ok k) all_nil), mtNone_ok, mixed, eqs_, flats_, mps_⟩
theorem foliotref01_s.q (k : Nat) (y : Int) : foliotref01_s.p k y = foliotref01_s.F.run foliotref01_s.E Try.f60.results.toList (bodyOf Try.f60) foliotref01_s.cs k y := by kernel_rfl
theorem foliotref01_s.ok (k : Nat) : CsemOk R Try.prog 60 (foliotref01_s.F.sem (foliotref01_s.p k)) := fn_ok (F := foliotref01_s.F) (f := foliotref01_s.p) (E := foliotref01_s.E) foliotref01_s.hE (fun _ => rfl) Try.func60 (body := (bodyOf Try.f60)) rfl (by kernel_rfl) rfl (by decide) (by kernel_rfl) (cuts := foliotref01_s.cs) all_nil foliotref01_s.q k
def foliotref01_trim.F : FnS R ((List Int)) ((List Int)) := ⟨[.lf], [], (.last (dRo 2) .nil), .lf, [], (.last (dRo 2) .nil)⟩
def foliotref01_trim.p (k : Nat) (y : (List Int)) : Option ((List Int)) := foliotref01_trim.f k y
def foliotref01_trim.E (k : Nat) : Env R := ⟨tabOf tabL, ctOf [], mtNone, fun _ => false, codes, rts, 21, fun _ => [], owns, [], eqtOf eqs, fun _ => false, flats, mpsOf mps, byt_⟩
def foliotref01_trim.cl0 : CutS R ((List Int)) := ⟨4, [0, 3], [], [.lf, .lf], [], (List Int) × Int, (.cons (dRo 2) (.last (dInt .i64) .nil)), fun k z => foliotref01_trim.l0 k z.1 z.2⟩
def foliotref01_trim.cs : List (CutS R ((List Int))) := [foliotref01_trim.cl0]
theorem foliotref01_trim.hE (k : Nat) : EnvOk Try.prog (foliotref01_trim.E k) := ⟨tabs, ctOf_ok all_nil, mtNone_ok, mixed, eqs_, flats_, mps_⟩
theorem foliotref01_trim.ol0 : (foliotref01_trim.cl0).Ok foliotref01_trim.E Try.f89.results.toList 0 (bodyOf Try.f89) foliotref01_trim.cs foliotref01_trim.F.ret := ⟨fun z => rfl, fun k z => by
 show foliotref01_trim.l0 (k + 1) z.1 z.2 = _
 rw [foliotref01_trim.l0]
 kernel_rfl⟩
theorem foliotref01_trim.q (k : Nat) (y : (List Int)) : foliotref01_trim.p k y = foliotref01_trim.F.run foliotref01_trim.E Try.f89.results.toList (bodyOf Try.f89) foliotref01_trim.cs k y := by kernel_rfl
theorem foliotref01_trim.ok (k : Nat) : CsemOk R Try.prog 89 (foliotref01_trim.F.sem (foliotref01_trim.p k)) := fn_ok (F := foliotref01_trim.F) (f := foliotref01_trim.p) (E := foliotref01_trim.E) foliotref01_trim.hE (fun _ => rfl) Try.func89 (body := (bodyOf Try.f89)) rfl (by kernel_rfl) rfl (by decide) (by kernel_rfl) (cuts := foliotref01_trim.cs) (all_cons foliotref01_trim.ol0 all_nil) foliotref01_trim.q k
def foliotref01_trim_s1.F : FnS R ((List Int)) ((List Int)) := ⟨[.lf], [.row 2 3], (.row 2 0 (.last (dRo 2) .nil)), .lf, [.dead, .row 2 3], (.row 2 1 (.last (dRo 2) .nil))⟩
def foliotref01_trim_s1.p (k : Nat) (y : (List Int)) : Option ((List Int)) := foliotref01_trim_s1.f k y
def foliotref01_trim_s1.E (k : Nat) : Env R := ⟨tabOf tabL, ctOf [], mtNone, fun _ => false, codes, rts, 21, fun _ => [], owns, [some (.take 2 3)], eqtOf eqs, fun _ => false, flats, mpsOf mps, byt_⟩
def foliotref01_trim_s1.cl0 : CutS R ((List Int)) := ⟨4, [0, 3], [], [.lf, .lf], [.row 2 3], Int × (List Int), (.row 2 0 (.cons (dInt .i64) (.last (dRo 2) .nil))), fun k z => foliotref01_trim_s1.l0 k z.1 z.2⟩
def foliotref01_trim_s1.cs : List (CutS R ((List Int))) := [foliotref01_trim_s1.cl0]
theorem foliotref01_trim_s1.hE (k : Nat) : EnvOk Try.prog (foliotref01_trim_s1.E k) := ⟨tabs, ctOf_ok all_nil, mtNone_ok, mixed, eqs_, flats_, mps_⟩
theorem foliotref01_trim_s1.ol0 : (foliotref01_trim_s1.cl0).Ok foliotref01_trim_s1.E Try.f89.results.toList 1 (bodyOf Try.f89) foliotref01_trim_s1.cs foliotref01_trim_s1.F.ret := ⟨fun z => rfl, fun k z => by
 show foliotref01_trim_s1.l0 (k + 1) z.1 z.2 = _
 rw [foliotref01_trim_s1.l0]
 kernel_rfl⟩
theorem foliotref01_trim_s1.q (k : Nat) (y : (List Int)) : foliotref01_trim_s1.p k y = foliotref01_trim_s1.F.run foliotref01_trim_s1.E Try.f89.results.toList (bodyOf Try.f89) foliotref01_trim_s1.cs k y := by kernel_rfl
theorem foliotref01_trim_s1.ok (k : Nat) : CsemOk R Try.prog 89 (foliotref01_trim_s1.F.sem (foliotref01_trim_s1.p k)) := fn_ok (F := foliotref01_trim_s1.F) (f := foliotref01_trim_s1.p) (E := foliotref01_trim_s1.E) foliotref01_trim_s1.hE (fun _ => rfl) Try.func89 (body := (bodyOf Try.f89)) rfl (by kernel_rfl) rfl (by decide) (by kernel_rfl) (cuts := foliotref01_trim_s1.cs) (all_cons foliotref01_trim_s1.ol0 all_nil) foliotref01_trim_s1.q k
def foliotref01_times.F : FnS R ((List Int) × (List Int)) ((List Int)) := ⟨[.lf, .lf], [], (.cons (dRo 2) (.last (dRo 2) .nil)), .lf, [.row 2 3], (.row 2 0 (.last (dRo 2) .nil))⟩
def foliotref01_times.p (k : Nat) (y : (List Int) × (List Int)) : Option ((List Int)) := foliotref01_times.f k y.1 y.2
def foliotref01_times.E (k : Nat) : Env R := ⟨tabOf tabL, ctOf [(89, (foliotref01_trim_s1.F.sem (foliotref01_trim_s1.p k)))], mtNone, fun _ => false, codes, rts, 67, fun i => ordOf [(11, [(0, 0), (1, 0), (2, 0), (3, 0), (4, 0), (5, 0), (6, 0), (7, 0), (8, 0), (9, 0), (10, 0), (11, 0)])] i, owns, [], eqtOf eqs, fun _ => false, flats, mpsOf mps, byt_⟩
def foliotref01_times.cl0 : CutS R ((List Int)) := ⟨6, [0, 1, 5, 6], [], [.lf, .lf, .lf, .lf], [.row 2 3], (List Int) × (List Int) × Int × (List Int), (.cons (dRo 2) (.cons (dRo 2) (.row 2 0 (.cons (dInt .i64) (.last (dRo 2) .nil))))), fun k z => foliotref01_times.l0 k z.1 z.2.1 z.2.2.1 z.2.2.2⟩
def foliotref01_times.cl1 : CutS R ((List Int)) := ⟨14, [0, 1, 5, 6, 7, 8], [], [.lf, .lf, .lf, .lf, .lf, .lf], [.row 2 3], (List Int) × (List Int) × Int × Int × Int × (List Int), (.cons (dRo 2) (.cons (dRo 2) (.row 2 0 (.cons (dInt .i64) (.cons (dInt .i64) (.cons (dInt .i64) (.last (dRo 2) .nil))))))), fun k z => foliotref01_times.l1 k z.1 z.2.1 z.2.2.1 z.2.2.2.1 z.2.2.2.2.1 z.2.2.2.2.2⟩
def foliotref01_times.cj0 : CutS R ((List Int)) := ⟨24, [0, 1, 5, 6, 8, 9], [], [.lf, .lf, .lf, .lf, .lf, .lf], [.row 2 3], (List Int) × (List Int) × Int × Int × Int × (List Int), (.cons (dRo 2) (.cons (dRo 2) (.row 2 0 (.cons (dInt .i64) (.cons (dInt .i64) (.cons (dInt .i64) (.last (dRo 2) .nil))))))), fun k z => foliotref01_times.j0 k z.1 z.2.1 z.2.2.1 z.2.2.2.1 z.2.2.2.2.1 z.2.2.2.2.2⟩
def foliotref01_times.cs : List (CutS R ((List Int))) := [foliotref01_times.cl0, foliotref01_times.cl1, foliotref01_times.cj0]
theorem foliotref01_times.hE (k : Nat) : EnvOk Try.prog (foliotref01_times.E k) := ⟨tabs, ctOf_ok (all_cons (foliotref01_trim_s1.ok k) all_nil), mtNone_ok, mixed, eqs_, flats_, mps_⟩
theorem foliotref01_times.ol0 : (foliotref01_times.cl0).Ok foliotref01_times.E Try.f83.results.toList 0 (bodyOf Try.f83) foliotref01_times.cs foliotref01_times.F.ret := ⟨fun z => rfl, fun k z => by
 show foliotref01_times.l0 (k + 1) z.1 z.2.1 z.2.2.1 z.2.2.2 = _
 rw [foliotref01_times.l0]
 kernel_rfl⟩
theorem foliotref01_times.ol1 : (foliotref01_times.cl1).Ok foliotref01_times.E Try.f83.results.toList 0 (bodyOf Try.f83) foliotref01_times.cs foliotref01_times.F.ret := ⟨fun z => rfl, fun k z => by
 show foliotref01_times.l1 (k + 1) z.1 z.2.1 z.2.2.1 z.2.2.2.1 z.2.2.2.2.1 z.2.2.2.2.2 = _
 rw [foliotref01_times.l1]
 kernel_rfl⟩
theorem foliotref01_times.oj0 : (foliotref01_times.cj0).Ok foliotref01_times.E Try.f83.results.toList 0 (bodyOf Try.f83) foliotref01_times.cs foliotref01_times.F.ret := ⟨fun z => rfl, fun k z => by
 show foliotref01_times.j0 (k + 1) z.1 z.2.1 z.2.2.1 z.2.2.2.1 z.2.2.2.2.1 z.2.2.2.2.2 = _
 rw [foliotref01_times.j0]
 kernel_rfl⟩
theorem foliotref01_times.q (k : Nat) (y : (List Int) × (List Int)) : foliotref01_times.p k y = foliotref01_times.F.run foliotref01_times.E Try.f83.results.toList (bodyOf Try.f83) foliotref01_times.cs k y := by kernel_rfl
theorem foliotref01_times.ok (k : Nat) : CsemOk R Try.prog 83 (foliotref01_times.F.sem (foliotref01_times.p k)) := fn_ok (F := foliotref01_times.F) (f := foliotref01_times.p) (E := foliotref01_times.E) foliotref01_times.hE (fun _ => rfl) Try.func83 (body := (bodyOf Try.f83)) rfl (by kernel_rfl) rfl (by decide) (by kernel_rfl) (cuts := foliotref01_times.cs) (all_cons foliotref01_times.ol0 (all_cons foliotref01_times.ol1 (all_cons foliotref01_times.oj0 all_nil))) foliotref01_times.q k
def foliotref01_product.F : FnS R ((List Int) × Bool × (List Int) × Bool) (Bool × (List Int)) := ⟨[.agg 2, .agg 2], [], (.cons (dRo 2) (.cons dBool (.cons (dRo 2) (.last dBool .nil)))), .agg 2, [.row 2 3], (.row 2 0 (.cons dBool (.last (dRo 2) .nil)))⟩
def foliotref01_product.p (k : Nat) (y : (List Int) × Bool × (List Int) × Bool) : Option (Bool × (List Int)) := foliotref01_product.f k y.1 y.2.1 y.2.2.1 y.2.2.2
def foliotref01_product.E (k : Nat) : Env R := ⟨tabOf tabL, ctOf [(83, (foliotref01_times.F.sem (foliotref01_times.p k)))], mtNone, fun _ => false, codes, rts, 16, fun i => ordOf [(1, [(0, 0), (1, 0), (2, 0), (3, 0), (5, 0), (6, 0), (7, 0), (8, 0), (9, 0), (4, 1), (10, 0), (11, 2)])] i, owns, [], eqtOf eqs, fun _ => false, flats, mpsOf mps, byt_⟩
def foliotref01_product.cs : List (CutS R (Bool × (List Int))) := []
theorem foliotref01_product.hE (k : Nat) : EnvOk Try.prog (foliotref01_product.E k) := ⟨tabs, ctOf_ok (all_cons (foliotref01_times.ok k) all_nil), mtNone_ok, mixed, eqs_, flats_, mps_⟩
theorem foliotref01_product.q (k : Nat) (y : (List Int) × Bool × (List Int) × Bool) : foliotref01_product.p k y = foliotref01_product.F.run foliotref01_product.E Try.f62.results.toList (bodyOf Try.f62) foliotref01_product.cs k y := by kernel_rfl
theorem foliotref01_product.ok (k : Nat) : CsemOk R Try.prog 62 (foliotref01_product.F.sem (foliotref01_product.p k)) := fn_ok (F := foliotref01_product.F) (f := foliotref01_product.p) (E := foliotref01_product.E) foliotref01_product.hE (fun _ => rfl) Try.func62 (body := (bodyOf Try.f62)) rfl (by kernel_rfl) rfl (by decide) (by kernel_rfl) (cuts := foliotref01_product.cs) all_nil foliotref01_product.q k
def foliotref01_compare.F : FnS R ((List Int) × (List Int)) (Int) := ⟨[.lf, .lf], [], (.cons (dRo 2) (.last (dRo 2) .nil)), .lf, [], (.last (dInt .i64) .nil)⟩
def foliotref01_compare.p (k : Nat) (y : (List Int) × (List Int)) : Option (Int) := foliotref01_compare.f k y.1 y.2
def foliotref01_compare.E (k : Nat) : Env R := ⟨tabOf tabL, ctOf [], mtNone, fun _ => false, codes, rts, 41, fun i => ordOf [(8, [(0, 0), (1, 0), (2, 0), (3, 0), (4, 0), (5, 0), (6, 0), (7, 0), (8, 0)]), (10, [(0, 0), (1, 0), (2, 0), (3, 0), (4, 0), (5, 0), (6, 0), (7, 0), (8, 0)])] i, owns, [], eqtOf eqs, fun _ => false, flats, mpsOf mps, byt_⟩
def foliotref01_compare.cl0 : CutS R (Int) := ⟨12, [0, 1, 5], [], [.lf, .lf, .lf], [], (List Int) × (List Int) × Int, (.cons (dRo 2) (.cons (dRo 2) (.last (dInt .i64) .nil))), fun k z => foliotref01_compare.l0 k z.1 z.2.1 z.2.2⟩
def foliotref01_compare.cs : List (CutS R (Int)) := [foliotref01_compare.cl0]
theorem foliotref01_compare.hE (k : Nat) : EnvOk Try.prog (foliotref01_compare.E k) := ⟨tabs, ctOf_ok all_nil, mtNone_ok, mixed, eqs_, flats_, mps_⟩
theorem foliotref01_compare.ol0 : (foliotref01_compare.cl0).Ok foliotref01_compare.E Try.f80.results.toList 0 (bodyOf Try.f80) foliotref01_compare.cs foliotref01_compare.F.ret := ⟨fun z => rfl, fun k z => by
 show foliotref01_compare.l0 (k + 1) z.1 z.2.1 z.2.2 = _
 rw [foliotref01_compare.l0]
 kernel_rfl⟩
theorem foliotref01_compare.q (k : Nat) (y : (List Int) × (List Int)) : foliotref01_compare.p k y = foliotref01_compare.F.run foliotref01_compare.E Try.f80.results.toList (bodyOf Try.f80) foliotref01_compare.cs k y := by kernel_rfl
theorem foliotref01_compare.ok (k : Nat) : CsemOk R Try.prog 80 (foliotref01_compare.F.sem (foliotref01_compare.p k)) := fn_ok (F := foliotref01_compare.F) (f := foliotref01_compare.p) (E := foliotref01_compare.E) foliotref01_compare.hE (fun _ => rfl) Try.func80 (body := (bodyOf Try.f80)) rfl (by kernel_rfl) rfl (by decide) (by kernel_rfl) (cuts := foliotref01_compare.cs) (all_cons foliotref01_compare.ol0 all_nil) foliotref01_compare.q k
def foliotref01_minus.F : FnS R ((List Int) × (List Int)) ((List Int)) := ⟨[.lf, .lf], [], (.cons (dRo 2) (.last (dRo 2) .nil)), .lf, [.row 2 3], (.row 2 0 (.last (dRo 2) .nil))⟩
def foliotref01_minus.p (k : Nat) (y : (List Int) × (List Int)) : Option ((List Int)) := foliotref01_minus.f k y.1 y.2
def foliotref01_minus.E (k : Nat) : Env R := ⟨tabOf tabL, ctOf [(89, (foliotref01_trim_s1.F.sem (foliotref01_trim_s1.p k)))], mtNone, fun _ => false, codes, rts, 42, fun _ => [], owns, [], eqtOf eqs, fun _ => false, flats, mpsOf mps, byt_⟩
def foliotref01_minus.cl0 : CutS R ((List Int)) := ⟨8, [0, 1, 5, 6, 7], [], [.lf, .lf, .lf, .lf, .lf], [.row 2 3], (List Int) × (List Int) × Int × Int × (List Int), (.cons (dRo 2) (.cons (dRo 2) (.row 2 0 (.cons (dInt .i64) (.cons (dInt .i64) (.last (dRo 2) .nil)))))), fun k z => foliotref01_minus.l0 k z.1 z.2.1 z.2.2.1 z.2.2.2.1 z.2.2.2.2⟩
def foliotref01_minus.cj0 : CutS R ((List Int)) := ⟨18, [0, 1, 5, 7, 8], [], [.lf, .lf, .lf, .lf, .lf], [.row 2 3], (List Int) × (List Int) × Int × Int × (List Int), (.cons (dRo 2) (.cons (dRo 2) (.row 2 0 (.cons (dInt .i64) (.cons (dInt .i64) (.last (dRo 2) .nil)))))), fun k z => foliotref01_minus.j0 k z.1 z.2.1 z.2.2.1 z.2.2.2.1 z.2.2.2.2⟩
def foliotref01_minus.cs : List (CutS R ((List Int))) := [foliotref01_minus.cl0, foliotref01_minus.cj0]
theorem foliotref01_minus.hE (k : Nat) : EnvOk Try.prog (foliotref01_minus.E k) := ⟨tabs, ctOf_ok (all_cons (foliotref01_trim_s1.ok k) all_nil), mtNone_ok, mixed, eqs_, flats_, mps_⟩
theorem foliotref01_minus.ol0 : (foliotref01_minus.cl0).Ok foliotref01_minus.E Try.f81.results.toList 0 (bodyOf Try.f81) foliotref01_minus.cs foliotref01_minus.F.ret := ⟨fun z => rfl, fun k z => by
 show foliotref01_minus.l0 (k + 1) z.1 z.2.1 z.2.2.1 z.2.2.2.1 z.2.2.2.2 = _
 rw [foliotref01_minus.l0]
 kernel_rfl⟩
theorem foliotref01_minus.oj0 : (foliotref01_minus.cj0).Ok foliotref01_minus.E Try.f81.results.toList 0 (bodyOf Try.f81) foliotref01_minus.cs foliotref01_minus.F.ret := ⟨fun z => rfl, fun k z => by
 show foliotref01_minus.j0 (k + 1) z.1 z.2.1 z.2.2.1 z.2.2.2.1 z.2.2.2.2 = _
 rw [foliotref01_minus.j0]
 kernel_rfl⟩
theorem foliotref01_minus.q (k : Nat) (y : (List Int) × (List Int)) : foliotref01_minus.p k y = foliotref01_minus.F.run foliotref01_minus.E Try.f81.results.toList (bodyOf Try.f81) foliotref01_minus.cs k y := by kernel_rfl
theorem foliotref01_minus.ok (k : Nat) : CsemOk R Try.prog 81 (foliotref01_minus.F.sem (foliotref01_minus.p k)) := fn_ok (F := foliotref01_minus.F) (f := foliotref01_minus.p) (E := foliotref01_minus.E) foliotref01_minus.hE (fun _ => rfl) Try.func81 (body := (bodyOf Try.f81)) rfl (by kernel_rfl) rfl (by decide) (by kernel_rfl) (cuts := foliotref01_minus.cs) (all_cons foliotref01_minus.ol0 (all_cons foliotref01_minus.oj0 all_nil)) foliotref01_minus.q k
def foliotref01_divide.F : FnS R ((List Int) × (List Int)) ((List Int) × (List Int)) := ⟨[.lf, .lf], [], (.cons (dRo 2) (.last (dRo 2) .nil)), .tup [none, none], [.row 2 3, .row 2 3], (.row 2 0 (.row 2 1 (.cons (dRo 2) (.last (dRo 2) .nil))))⟩
def foliotref01_divide.p (k : Nat) (y : (List Int) × (List Int)) : Option ((List Int) × (List Int)) := foliotref01_divide.f k y.1 y.2
def foliotref01_divide.E (k : Nat) : Env R := ⟨tabOf tabL, ctOf [(89, (foliotref01_trim_s1.F.sem (foliotref01_trim_s1.p k))), (83, (foliotref01_times.F.sem (foliotref01_times.p k))), (80, (foliotref01_compare.F.sem (foliotref01_compare.p k))), (81, (foliotref01_minus.F.sem (foliotref01_minus.p k)))], mtNone, fun f => memB f [80], codes, rts, 68, fun _ => [], owns, [], eqtOf eqs, fun f => memB f [81, 83], flats, mpsOf mps, byt_⟩
def foliotref01_divide.cl0 : CutS R ((List Int) × (List Int)) := ⟨8, [0, 1, 6, 7, 8], [], [.lf, .lf, .lf, .lf, .lf], [.row 2 3, .row 2 3], (List Int) × (List Int) × Int × (List Int) × (List Int), (.cons (dRo 2) (.cons (dRo 2) (.row 2 0 (.row 2 1 (.cons (dInt .i64) (.cons (dRo 2) (.last (dRo 2) .nil))))))), fun k z => foliotref01_divide.l0 k z.1 z.2.1 z.2.2.1 z.2.2.2.1 z.2.2.2.2⟩
def foliotref01_divide.cl1 : CutS R ((List Int) × (List Int)) := ⟨20, [0, 1, 6, 7, 8, 10, 11], [], [.lf, .lf, .lf, .lf, .lf, .lf, .lf], [.row 2 3, .row 2 3], (List Int) × (List Int) × Int × Int × Int × (List Int) × (List Int), (.cons (dRo 2) (.cons (dRo 2) (.row 2 0 (.row 2 1 (.cons (dInt .i64) (.cons (dInt .i64) (.cons (dInt .i64) (.cons (dRo 2) (.last (dRo 2) .nil))))))))), fun k z => foliotref01_divide.l1 k z.1 z.2.1 z.2.2.1 z.2.2.2.1 z.2.2.2.2.1 z.2.2.2.2.2.1 z.2.2.2.2.2.2⟩
def foliotref01_divide.cs : List (CutS R ((List Int) × (List Int))) := [foliotref01_divide.cl0, foliotref01_divide.cl1]
theorem foliotref01_divide.hE (k : Nat) : EnvOk Try.prog (foliotref01_divide.E k) := ⟨tabs, ctOf_ok (all_cons (foliotref01_trim_s1.ok k) (all_cons (foliotref01_times.ok k) (all_cons (foliotref01_compare.ok k) (all_cons (foliotref01_minus.ok k) all_nil)))), mtNone_ok, mixed, eqs_, flats_, mps_⟩
theorem foliotref01_divide.ol0 : (foliotref01_divide.cl0).Ok foliotref01_divide.E Try.f82.results.toList 0 (bodyOf Try.f82) foliotref01_divide.cs foliotref01_divide.F.ret := ⟨fun z => rfl, fun k z => by
 show foliotref01_divide.l0 (k + 1) z.1 z.2.1 z.2.2.1 z.2.2.2.1 z.2.2.2.2 = _
 rw [foliotref01_divide.l0]
 kernel_rfl⟩
theorem foliotref01_divide.ol1 : (foliotref01_divide.cl1).Ok foliotref01_divide.E Try.f82.results.toList 0 (bodyOf Try.f82) foliotref01_divide.cs foliotref01_divide.F.ret := ⟨fun z => rfl, fun k z => by
 show foliotref01_divide.l1 (k + 1) z.1 z.2.1 z.2.2.1 z.2.2.2.1 z.2.2.2.2.1 z.2.2.2.2.2.1 z.2.2.2.2.2.2 = _
 rw [foliotref01_divide.l1]
 kernel_rfl⟩
theorem foliotref01_divide.q (k : Nat) (y : (List Int) × (List Int)) : foliotref01_divide.p k y = foliotref01_divide.F.run foliotref01_divide.E Try.f82.results.toList (bodyOf Try.f82) foliotref01_divide.cs k y := by kernel_rfl
theorem foliotref01_divide.ok (k : Nat) : CsemOk R Try.prog 82 (foliotref01_divide.F.sem (foliotref01_divide.p k)) := fn_ok (F := foliotref01_divide.F) (f := foliotref01_divide.p) (E := foliotref01_divide.E) foliotref01_divide.hE (fun _ => rfl) Try.func82 (body := (bodyOf Try.f82)) rfl (by kernel_rfl) rfl (by decide) (by kernel_rfl) (cuts := foliotref01_divide.cs) (all_cons foliotref01_divide.ol0 (all_cons foliotref01_divide.ol1 all_nil)) foliotref01_divide.q k
def foliotref01_plus.F : FnS R ((List Int) × (List Int)) ((List Int)) := ⟨[.lf, .lf], [], (.cons (dRo 2) (.last (dRo 2) .nil)), .lf, [.row 2 3], (.row 2 0 (.last (dRo 2) .nil))⟩
def foliotref01_plus.p (k : Nat) (y : (List Int) × (List Int)) : Option ((List Int)) := foliotref01_plus.f k y.1 y.2
def foliotref01_plus.E (k : Nat) : Env R := ⟨tabOf tabL, ctOf [(89, (foliotref01_trim_s1.F.sem (foliotref01_trim_s1.p k)))], mtNone, fun _ => false, codes, rts, 54, fun _ => [], owns, [], eqtOf eqs, fun _ => false, flats, mpsOf mps, byt_⟩
def foliotref01_plus.cl0 : CutS R ((List Int)) := ⟨8, [0, 1, 5, 6, 7], [], [.lf, .lf, .lf, .lf, .lf], [.row 2 3], (List Int) × (List Int) × Int × Int × (List Int), (.cons (dRo 2) (.cons (dRo 2) (.row 2 0 (.cons (dInt .i64) (.cons (dInt .i64) (.last (dRo 2) .nil)))))), fun k z => foliotref01_plus.l0 k z.1 z.2.1 z.2.2.1 z.2.2.2.1 z.2.2.2.2⟩
def foliotref01_plus.cj0 : CutS R ((List Int)) := ⟨16, [0, 1, 5, 6, 7], [], [.lf, .lf, .lf, .lf, .lf], [.row 2 3], (List Int) × (List Int) × Int × Int × (List Int), (.cons (dRo 2) (.cons (dRo 2) (.row 2 0 (.cons (dInt .i64) (.cons (dInt .i64) (.last (dRo 2) .nil)))))), fun k z => foliotref01_plus.j0 k z.1 z.2.1 z.2.2.1 z.2.2.2.1 z.2.2.2.2⟩
def foliotref01_plus.cj1 : CutS R ((List Int)) := ⟨20, [0, 1, 5, 6, 7], [], [.lf, .lf, .lf, .lf, .lf], [.row 2 3], (List Int) × (List Int) × Int × Int × (List Int), (.cons (dRo 2) (.cons (dRo 2) (.row 2 0 (.cons (dInt .i64) (.cons (dInt .i64) (.last (dRo 2) .nil)))))), fun k z => foliotref01_plus.j1 k z.1 z.2.1 z.2.2.1 z.2.2.2.1 z.2.2.2.2⟩
def foliotref01_plus.cs : List (CutS R ((List Int))) := [foliotref01_plus.cl0, foliotref01_plus.cj0, foliotref01_plus.cj1]
theorem foliotref01_plus.hE (k : Nat) : EnvOk Try.prog (foliotref01_plus.E k) := ⟨tabs, ctOf_ok (all_cons (foliotref01_trim_s1.ok k) all_nil), mtNone_ok, mixed, eqs_, flats_, mps_⟩
theorem foliotref01_plus.ol0 : (foliotref01_plus.cl0).Ok foliotref01_plus.E Try.f79.results.toList 0 (bodyOf Try.f79) foliotref01_plus.cs foliotref01_plus.F.ret := ⟨fun z => rfl, fun k z => by
 show foliotref01_plus.l0 (k + 1) z.1 z.2.1 z.2.2.1 z.2.2.2.1 z.2.2.2.2 = _
 rw [foliotref01_plus.l0]
 kernel_rfl⟩
theorem foliotref01_plus.oj0 : (foliotref01_plus.cj0).Ok foliotref01_plus.E Try.f79.results.toList 0 (bodyOf Try.f79) foliotref01_plus.cs foliotref01_plus.F.ret := ⟨fun z => rfl, fun k z => by
 show foliotref01_plus.j0 (k + 1) z.1 z.2.1 z.2.2.1 z.2.2.2.1 z.2.2.2.2 = _
 rw [foliotref01_plus.j0]
 kernel_rfl⟩
theorem foliotref01_plus.oj1 : (foliotref01_plus.cj1).Ok foliotref01_plus.E Try.f79.results.toList 0 (bodyOf Try.f79) foliotref01_plus.cs foliotref01_plus.F.ret := ⟨fun z => rfl, fun k z => by
 show foliotref01_plus.j1 (k + 1) z.1 z.2.1 z.2.2.1 z.2.2.2.1 z.2.2.2.2 = _
 rw [foliotref01_plus.j1]
 kernel_rfl⟩
theorem foliotref01_plus.q (k : Nat) (y : (List Int) × (List Int)) : foliotref01_plus.p k y = foliotref01_plus.F.run foliotref01_plus.E Try.f79.results.toList (bodyOf Try.f79) foliotref01_plus.cs k y := by kernel_rfl
theorem foliotref01_plus.ok (k : Nat) : CsemOk R Try.prog 79 (foliotref01_plus.F.sem (foliotref01_plus.p k)) := fn_ok (F := foliotref01_plus.F) (f := foliotref01_plus.p) (E := foliotref01_plus.E) foliotref01_plus.hE (fun _ => rfl) Try.func79 (body := (bodyOf Try.f79)) rfl (by kernel_rfl) rfl (by decide) (by kernel_rfl) (cuts := foliotref01_plus.cs) (all_cons foliotref01_plus.ol0 (all_cons foliotref01_plus.oj0 (all_cons foliotref01_plus.oj1 all_nil))) foliotref01_plus.q k
def foliotref01_down.F : FnS R ((List Int) × Bool × (List Int) × Bool) (Bool × (List Int)) := ⟨[.agg 2, .agg 2], [], (.cons (dRo 2) (.cons dBool (.cons (dRo 2) (.last dBool .nil)))), .agg 2, [.row 2 3], (.row 2 0 (.cons dBool (.last (dRo 2) .nil)))⟩
def foliotref01_down.p (k : Nat) (y : (List Int) × Bool × (List Int) × Bool) : Option (Bool × (List Int)) := foliotref01_down.f k y.1 y.2.1 y.2.2.1 y.2.2.2
def foliotref01_down.E (k : Nat) : Env R := ⟨tabOf tabL, ctOf [(82, (foliotref01_divide.F.sem (foliotref01_divide.p k))), (79, (foliotref01_plus.F.sem (foliotref01_plus.p k)))], mtNone, fun _ => false, codes, rts, 31, fun _ => [], owns, [], eqtOf eqs, fun f => memB f [79], flats, mpsOf mps, byt_⟩
def foliotref01_down.cs : List (CutS R (Bool × (List Int))) := []
theorem foliotref01_down.hE (k : Nat) : EnvOk Try.prog (foliotref01_down.E k) := ⟨tabs, ctOf_ok (all_cons (foliotref01_divide.ok k) (all_cons (foliotref01_plus.ok k) all_nil)), mtNone_ok, mixed, eqs_, flats_, mps_⟩
theorem foliotref01_down.q (k : Nat) (y : (List Int) × Bool × (List Int) × Bool) : foliotref01_down.p k y = foliotref01_down.F.run foliotref01_down.E Try.f61.results.toList (bodyOf Try.f61) foliotref01_down.cs k y := by kernel_rfl
theorem foliotref01_down.ok (k : Nat) : CsemOk R Try.prog 61 (foliotref01_down.F.sem (foliotref01_down.p k)) := fn_ok (F := foliotref01_down.F) (f := foliotref01_down.p) (E := foliotref01_down.E) foliotref01_down.hE (fun _ => rfl) Try.func61 (body := (bodyOf Try.f61)) rfl (by kernel_rfl) rfl (by decide) (by kernel_rfl) (cuts := foliotref01_down.cs) all_nil foliotref01_down.q k
def foliotref01_cut.F : FnS R ((List Int) × Bool × Int) (Int) := ⟨[.agg 2, .lf], [], (.cons (dRo 2) (.cons dBool (.last (dInt .i64) .nil))), .lf, [], (.last (dInt .i64) .nil)⟩
def foliotref01_cut.p (k : Nat) (y : (List Int) × Bool × Int) : Option (Int) := foliotref01_cut.f k y.1 y.2.1 y.2.2
def foliotref01_cut.E (k : Nat) : Env R := ⟨tabOf tabL, ctOf [(63, (foliotref01_of.F.sem (foliotref01_of.p k))), (80, (foliotref01_compare.F.sem (foliotref01_compare.p k)))], mtNone, fun f => memB f [80], codes, rts, 40, fun i => ordOf [(1, [(0, 0), (1, 0), (2, 0), (3, 1), (4, 0), (5, 0), (6, 0)])] i, owns, [], eqtOf eqs, fun _ => false, flats, mpsOf mps, byt_⟩
def foliotref01_cut.cl0 : CutS R (Int) := ⟨14, [2, 5, 6], [], [.lf, .lf, .lf], [.blk 2 80], Int × Int × (List Int) × Bool, (.ptr 0 0 (.cons (dInt .i64) (.cons (dInt .i64) (.cons (dRo 2) (.last dBool .nil))))), fun k z => foliotref01_cut.l0 k z.1 z.2.1 z.2.2.1 z.2.2.2⟩
def foliotref01_cut.cs : List (CutS R (Int)) := [foliotref01_cut.cl0]
theorem foliotref01_cut.hE (k : Nat) : EnvOk Try.prog (foliotref01_cut.E k) := ⟨tabs, ctOf_ok (all_cons (foliotref01_of.ok k) (all_cons (foliotref01_compare.ok k) all_nil)), mtNone_ok, mixed, eqs_, flats_, mps_⟩
theorem foliotref01_cut.ol0 : (foliotref01_cut.cl0).Ok foliotref01_cut.E Try.f78.results.toList 0 (bodyOf Try.f78) foliotref01_cut.cs foliotref01_cut.F.ret := ⟨fun z => rfl, fun k z => by
 show foliotref01_cut.l0 (k + 1) z.1 z.2.1 z.2.2.1 z.2.2.2 = _
 rw [foliotref01_cut.l0]
 kernel_rfl⟩
theorem foliotref01_cut.q (k : Nat) (y : (List Int) × Bool × Int) : foliotref01_cut.p k y = foliotref01_cut.F.run foliotref01_cut.E Try.f78.results.toList (bodyOf Try.f78) foliotref01_cut.cs k y := by kernel_rfl
theorem foliotref01_cut.ok (k : Nat) : CsemOk R Try.prog 78 (foliotref01_cut.F.sem (foliotref01_cut.p k)) := fn_ok (F := foliotref01_cut.F) (f := foliotref01_cut.p) (E := foliotref01_cut.E) foliotref01_cut.hE (fun _ => rfl) Try.func78 (body := (bodyOf Try.f78)) rfl (by kernel_rfl) rfl (by decide) (by kernel_rfl) (cuts := foliotref01_cut.cs) (all_cons foliotref01_cut.ol0 all_nil) foliotref01_cut.q k
def foliotref01_span.F : FnS R ((List Int) × Bool) (Int) := ⟨[.agg 2], [], (.cons (dRo 2) (.last dBool .nil)), .lf, [], (.last (dInt .i64) .nil)⟩
def foliotref01_span.p (k : Nat) (y : (List Int) × Bool) : Option (Int) := foliotref01_span.f k y.1 y.2
def foliotref01_span.E (k : Nat) : Env R := ⟨tabOf tabL, ctOf [(78, (foliotref01_cut.F.sem (foliotref01_cut.p k)))], mtNone, fun _ => false, codes, rts, 5, fun _ => [], owns, [], eqtOf eqs, fun _ => false, flats, mpsOf mps, byt_⟩
def foliotref01_span.cs : List (CutS R (Int)) := []
theorem foliotref01_span.hE (k : Nat) : EnvOk Try.prog (foliotref01_span.E k) := ⟨tabs, ctOf_ok (all_cons (foliotref01_cut.ok k) all_nil), mtNone_ok, mixed, eqs_, flats_, mps_⟩
theorem foliotref01_span.q (k : Nat) (y : (List Int) × Bool) : foliotref01_span.p k y = foliotref01_span.F.run foliotref01_span.E Try.f58.results.toList (bodyOf Try.f58) foliotref01_span.cs k y := by kernel_rfl
theorem foliotref01_span.ok (k : Nat) : CsemOk R Try.prog 58 (foliotref01_span.F.sem (foliotref01_span.p k)) := fn_ok (F := foliotref01_span.F) (f := foliotref01_span.p) (E := foliotref01_span.E) foliotref01_span.hE (fun _ => rfl) Try.func58 (body := (bodyOf Try.f58)) rfl (by kernel_rfl) rfl (by decide) (by kernel_rfl) (cuts := foliotref01_span.cs) all_nil foliotref01_span.q k
def foliotref01_Scale.F : FnS R (Int × Int × Int) (Int) := ⟨[.lf, .lf, .lf], [], (.cons (dInt .i64) (.cons (dInt .i64) (.last (dInt .i64) .nil))), .lf, [], (.last (dInt .i64) .nil)⟩
def foliotref01_Scale.p (k : Nat) (y : Int × Int × Int) : Option (Int) := foliotref01_Scale.f k y.1 y.2.1 y.2.2
def foliotref01_Scale.E (k : Nat) : Env R := ⟨tabOf tabL, ctOf [(60, (foliotref01_s.F.sem (foliotref01_s.p k))), (63, (foliotref01_of.F.sem (foliotref01_of.p k))), (62, (foliotref01_product.F.sem (foliotref01_product.p k))), (61, (foliotref01_down.F.sem (foliotref01_down.p k))), (58, (foliotref01_span.F.sem (foliotref01_span.p k)))], mtNone, fun f => memB f [58], codes, rts, 18, fun _ => [], owns, [], eqtOf eqs, fun f => memB f [61, 62], flats, mpsOf mps, byt_⟩
def foliotref01_Scale.cs : List (CutS R (Int)) := []
theorem foliotref01_Scale.hE (k : Nat) : EnvOk Try.prog (foliotref01_Scale.E k) := ⟨tabs, ctOf_ok (all_cons (foliotref01_s.ok k) (all_cons (foliotref01_of.ok k) (all_cons (foliotref01_product.ok k) (all_cons (foliotref01_down.ok k) (all_cons (foliotref01_span.ok k) all_nil))))), mtNone_ok, mixed, eqs_, flats_, mps_⟩
theorem foliotref01_Scale.q (k : Nat) (y : Int × Int × Int) : foliotref01_Scale.p k y = foliotref01_Scale.F.run foliotref01_Scale.E Try.f37.results.toList (bodyOf Try.f37) foliotref01_Scale.cs k y := by kernel_rfl
theorem foliotref01_Scale.ok (k : Nat) : CsemOk R Try.prog 37 (foliotref01_Scale.F.sem (foliotref01_Scale.p k)) := fn_ok (F := foliotref01_Scale.F) (f := foliotref01_Scale.p) (E := foliotref01_Scale.E) foliotref01_Scale.hE (fun _ => rfl) Try.func37 (body := (bodyOf Try.f37)) rfl (by kernel_rfl) rfl (by decide) (by kernel_rfl) (cuts := foliotref01_Scale.cs) all_nil foliotref01_Scale.q k
def foliotref01_sum.F : FnS R ((List Int) × Bool × (List Int) × Bool) (Bool × (List Int)) := ⟨[.agg 2, .agg 2], [], (.cons (dRo 2) (.cons dBool (.cons (dRo 2) (.last dBool .nil)))), .agg 2, [.row 2 3], (.row 2 0 (.cons dBool (.last (dRo 2) .nil)))⟩
def foliotref01_sum.p (k : Nat) (y : (List Int) × Bool × (List Int) × Bool) : Option (Bool × (List Int)) := foliotref01_sum.f k y.1 y.2.1 y.2.2.1 y.2.2.2
def foliotref01_sum.E (k : Nat) : Env R := ⟨tabOf tabL, ctOf [(79, (foliotref01_plus.F.sem (foliotref01_plus.p k))), (80, (foliotref01_compare.F.sem (foliotref01_compare.p k))), (81, (foliotref01_minus.F.sem (foliotref01_minus.p k)))], mtNone, fun _ => false, codes, rts, 40, fun i => ordOf [(2, [(0, 0), (1, 0), (2, 0), (3, 0), (5, 0), (6, 0), (4, 1), (7, 0), (8, 2)]), (4, [(0, 0), (1, 0), (2, 0), (3, 0), (5, 0), (6, 0), (4, 1), (7, 0), (8, 2)]), (5, [(0, 0), (1, 0), (2, 0), (3, 0), (5, 0), (6, 0), (4, 1), (7, 0), (8, 2)])] i, owns, [], eqtOf eqs, fun _ => false, flats, mpsOf mps, byt_⟩
def foliotref01_sum.cs : List (CutS R (Bool × (List Int))) := []
theorem foliotref01_sum.hE (k : Nat) : EnvOk Try.prog (foliotref01_sum.E k) := ⟨tabs, ctOf_ok (all_cons (foliotref01_plus.ok k) (all_cons (foliotref01_compare.ok k) (all_cons (foliotref01_minus.ok k) all_nil))), mtNone_ok, mixed, eqs_, flats_, mps_⟩
theorem foliotref01_sum.q (k : Nat) (y : (List Int) × Bool × (List Int) × Bool) : foliotref01_sum.p k y = foliotref01_sum.F.run foliotref01_sum.E Try.f59.results.toList (bodyOf Try.f59) foliotref01_sum.cs k y := by kernel_rfl
theorem foliotref01_sum.ok (k : Nat) : CsemOk R Try.prog 59 (foliotref01_sum.F.sem (foliotref01_sum.p k)) := fn_ok (F := foliotref01_sum.F) (f := foliotref01_sum.p) (E := foliotref01_sum.E) foliotref01_sum.hE (fun _ => rfl) Try.func59 (body := (bodyOf Try.f59)) rfl (by kernel_rfl) rfl (by decide) (by kernel_rfl) (cuts := foliotref01_sum.cs) all_nil foliotref01_sum.q k
def foliotref01_Add.F : FnS R (Int × Int) (Int) := ⟨[.lf, .lf], [], (.cons (dInt .i64) (.last (dInt .i64) .nil)), .lf, [], (.last (dInt .i64) .nil)⟩
def foliotref01_Add.p (k : Nat) (y : Int × Int) : Option (Int) := foliotref01_Add.f k y.1 y.2
def foliotref01_Add.E (k : Nat) : Env R := ⟨tabOf tabL, ctOf [(60, (foliotref01_s.F.sem (foliotref01_s.p k))), (59, (foliotref01_sum.F.sem (foliotref01_sum.p k))), (58, (foliotref01_span.F.sem (foliotref01_span.p k)))], mtNone, fun f => memB f [58], codes, rts, 11, fun _ => [], owns, [], eqtOf eqs, fun f => memB f [59], flats, mpsOf mps, byt_⟩
def foliotref01_Add.cs : List (CutS R (Int)) := []
theorem foliotref01_Add.hE (k : Nat) : EnvOk Try.prog (foliotref01_Add.E k) := ⟨tabs, ctOf_ok (all_cons (foliotref01_s.ok k) (all_cons (foliotref01_sum.ok k) (all_cons (foliotref01_span.ok k) all_nil))), mtNone_ok, mixed, eqs_, flats_, mps_⟩
theorem foliotref01_Add.q (k : Nat) (y : Int × Int) : foliotref01_Add.p k y = foliotref01_Add.F.run foliotref01_Add.E Try.f36.results.toList (bodyOf Try.f36) foliotref01_Add.cs k y := by kernel_rfl
theorem foliotref01_Add.ok (k : Nat) : CsemOk R Try.prog 36 (foliotref01_Add.F.sem (foliotref01_Add.p k)) := fn_ok (F := foliotref01_Add.F) (f := foliotref01_Add.p) (E := foliotref01_Add.E) foliotref01_Add.hE (fun _ => rfl) Try.func36 (body := (bodyOf Try.f36)) rfl (by kernel_rfl) rfl (by decide) (by kernel_rfl) (cuts := foliotref01_Add.cs) all_nil foliotref01_Add.q k
def foliotref14_Merit.F : FnS R (Int × Int × Int × Int × Int × Bool × Bool) (Int) := ⟨[.agg 7], [], (.cons (dInt .i64) (.cons (dInt .i64) (.cons (dInt .i64) (.cons (dInt .i64) (.cons (dInt .i64) (.cons dBool (.last dBool .nil))))))), .lf, [], (.last (dInt .i64) .nil)⟩
def foliotref14_Merit.p (k : Nat) (y : Int × Int × Int × Int × Int × Bool × Bool) : Option (Int) := foliotref14_Merit.f k y.1 y.2.1 y.2.2.1 y.2.2.2.1 y.2.2.2.2.1 y.2.2.2.2.2.1 y.2.2.2.2.2.2
def foliotref14_Merit.E (k : Nat) : Env R := ⟨tabOf tabL, ctOf [(37, (foliotref01_Scale.F.sem (foliotref01_Scale.p k))), (36, (foliotref01_Add.F.sem (foliotref01_Add.p k)))], mtNone, fun f => memB f [36, 37], codes, rts, 9, fun i => ordOf [(1, [(0, 0), (1, 0), (2, 0), (3, 0), (4, 0), (5, 0), (6, 0)])] i, owns, [], eqtOf eqs, fun _ => false, flats, mpsOf mps, byt_⟩
def foliotref14_Merit.cs : List (CutS R (Int)) := []
theorem foliotref14_Merit.hE (k : Nat) : EnvOk Try.prog (foliotref14_Merit.E k) := ⟨tabs, ctOf_ok (all_cons (foliotref01_Scale.ok k) (all_cons (foliotref01_Add.ok k) all_nil)), mtNone_ok, mixed, eqs_, flats_, mps_⟩
theorem foliotref14_Merit.q (k : Nat) (y : Int × Int × Int × Int × Int × Bool × Bool) : foliotref14_Merit.p k y = foliotref14_Merit.F.run foliotref14_Merit.E Try.f14.results.toList (bodyOf Try.f14) foliotref14_Merit.cs k y := by kernel_rfl
theorem foliotref14_Merit.ok (k : Nat) : CsemOk R Try.prog 14 (foliotref14_Merit.F.sem (foliotref14_Merit.p k)) := fn_ok (F := foliotref14_Merit.F) (f := foliotref14_Merit.p) (E := foliotref14_Merit.E) foliotref14_Merit.hE (fun _ => rfl) Try.func14 (body := (bodyOf Try.f14)) rfl (by kernel_rfl) rfl (by decide) (by kernel_rfl) (cuts := foliotref14_Merit.cs) all_nil foliotref14_Merit.q k
def foliotlaw14_same.F : FnS R ((List S25) × (List S25)) (Bool) := ⟨[.lf, .lf], [], (.cons (dRo 0) (.last (dRo 0) .nil)), .lf, [], (.last dBool .nil)⟩
def foliotlaw14_same.p (k : Nat) (y : (List S25) × (List S25)) : Option (Bool) := foliotlaw14_same.f k y.1 y.2
def foliotlaw14_same.E (k : Nat) : Env R := ⟨tabOf tabL, ctOf [], mtNone, fun _ => false, codes, rts, 26, fun i => ordOf [(6, [(0, 0), (1, 0), (2, 0), (3, 0), (4, 0), (5, 0), (6, 0), (7, 0), (8, 0)])] i, owns, [], eqtOf eqs, fun _ => false, flats, mpsOf mps, byt_⟩
def foliotlaw14_same.cl0 : CutS R (Bool) := ⟨8, [0, 1, 12, 13], [], [.lf, .lf, .lf, .lf], [], (List S25) × (List S25) × Int × Int, (.cons (dRo 0) (.cons (dRo 0) (.cons (dInt .i64) (.last (dInt .i64) .nil)))), fun k z => foliotlaw14_same.l0 k z.1 z.2.1 z.2.2.1 z.2.2.2⟩
def foliotlaw14_same.cs : List (CutS R (Bool)) := [foliotlaw14_same.cl0]
theorem foliotlaw14_same.hE (k : Nat) : EnvOk Try.prog (foliotlaw14_same.E k) := ⟨tabs, ctOf_ok all_nil, mtNone_ok, mixed, eqs_, flats_, mps_⟩
theorem foliotlaw14_same.ol0 : (foliotlaw14_same.cl0).Ok foliotlaw14_same.E Try.f15.results.toList 0 (bodyOf Try.f15) foliotlaw14_same.cs foliotlaw14_same.F.ret := ⟨fun z => rfl, fun k z => by
 show foliotlaw14_same.l0 (k + 1) z.1 z.2.1 z.2.2.1 z.2.2.2 = _
 rw [foliotlaw14_same.l0]
 kernel_rfl⟩
theorem foliotlaw14_same.q (k : Nat) (y : (List S25) × (List S25)) : foliotlaw14_same.p k y = foliotlaw14_same.F.run foliotlaw14_same.E Try.f15.results.toList (bodyOf Try.f15) foliotlaw14_same.cs k y := by kernel_rfl
theorem foliotlaw14_same.ok (k : Nat) : CsemOk R Try.prog 15 (foliotlaw14_same.F.sem (foliotlaw14_same.p k)) := fn_ok (F := foliotlaw14_same.F) (f := foliotlaw14_same.p) (E := foliotlaw14_same.E) foliotlaw14_same.hE (fun _ => rfl) Try.func15 (body := (bodyOf Try.f15)) rfl (by kernel_rfl) rfl (by decide) (by kernel_rfl) (cuts := foliotlaw14_same.cs) (all_cons foliotlaw14_same.ol0 all_nil) foliotlaw14_same.q k
def foliotlaw14_ClusterKeeps.F : FnS R ((List S25)) (Bool) := ⟨[.lf], [], (.last (dRo 0) .nil), .lf, [], (.last dBool .nil)⟩
def foliotlaw14_ClusterKeeps.p (k : Nat) (y : (List S25)) : Option (Bool) := foliotlaw14_ClusterKeeps.f k y
def foliotlaw14_ClusterKeeps.E (k : Nat) : Env R := ⟨tabOf tabL, ctOf [(10, (foliotlaw14_shown.F.sem (foliotlaw14_shown.p k))), (11, (foliotlaw14_few.F.sem (foliotlaw14_few.p k))), (12, (cluster_Cluster.F.sem (cluster_Cluster.p k))), (13, (foliotlaw14_has.F.sem (foliotlaw14_has.p k))), (14, (foliotref14_Merit.F.sem (foliotref14_Merit.p k))), (15, (foliotlaw14_same.F.sem (foliotlaw14_same.p k)))], mtNone, fun f => memB f [13, 14, 15], codes, rts, 76, fun i => ordOf [(10, [(0, 0), (1, 0), (2, 0), (3, 0), (4, 0), (5, 0), (6, 0), (7, 0), (8, 0), (9, 0), (10, 0), (11, 0), (12, 0), (13, 0), (14, 0), (15, 0), (16, 0), (17, 0), (18, 0)])] i, owns, [], eqtOf eqs, fun f => memB f [12], flats, mpsOf mps, byt_⟩
def foliotlaw14_ClusterKeeps.cl0 : CutS R (Bool) := ⟨16, [0, 3, 25, 26, 27], [], [.lf, .lf, .lf, .lf, .lf], [.row 0 25], (List S25) × Int × Int × (List S25), (.cons (dRo 0) (.row 0 0 (.row 0 0 (.cons (dInt .i64) (.cons (dInt .i64) (.last (dRo 0) .nil)))))), fun k z => foliotlaw14_ClusterKeeps.l0 k z.1 z.2.1 z.2.2.1 z.2.2.2⟩
def foliotlaw14_ClusterKeeps.cl1 : CutS R (Bool) := ⟨28, [0, 3, 52, 53, 54], [], [.lf, .lf, .lf, .lf, .lf], [.row 0 25], (List S25) × (List S25) × Int × Int × (List S25), (.cons (dRo 0) (.row 0 0 (.cons (dRo 0) (.cons (dInt .i64) (.cons (dInt .i64) (.last (dRo 0) .nil)))))), fun k z => foliotlaw14_ClusterKeeps.l1 k z.1 z.2.1 z.2.2.1 z.2.2.2.1 z.2.2.2.2⟩
def foliotlaw14_ClusterKeeps.cs : List (CutS R (Bool)) := [foliotlaw14_ClusterKeeps.cl0, foliotlaw14_ClusterKeeps.cl1]
theorem foliotlaw14_ClusterKeeps.hE (k : Nat) : EnvOk Try.prog (foliotlaw14_ClusterKeeps.E k) := ⟨tabs, ctOf_ok (all_cons (foliotlaw14_shown.ok k) (all_cons (foliotlaw14_few.ok k) (all_cons (cluster_Cluster.ok k) (all_cons (foliotlaw14_has.ok k) (all_cons (foliotref14_Merit.ok k) (all_cons (foliotlaw14_same.ok k) all_nil)))))), mtNone_ok, mixed, eqs_, flats_, mps_⟩
theorem foliotlaw14_ClusterKeeps.ol0 : (foliotlaw14_ClusterKeeps.cl0).Ok foliotlaw14_ClusterKeeps.E Try.f4.results.toList 0 (bodyOf Try.f4) foliotlaw14_ClusterKeeps.cs foliotlaw14_ClusterKeeps.F.ret := ⟨fun z => rfl, fun k z => by
 show foliotlaw14_ClusterKeeps.l0 (k + 1) z.1 z.2.1 z.2.2.1 z.2.2.2 = _
 rw [foliotlaw14_ClusterKeeps.l0]
 kernel_rfl⟩
theorem foliotlaw14_ClusterKeeps.ol1 : (foliotlaw14_ClusterKeeps.cl1).Ok foliotlaw14_ClusterKeeps.E Try.f4.results.toList 0 (bodyOf Try.f4) foliotlaw14_ClusterKeeps.cs foliotlaw14_ClusterKeeps.F.ret := ⟨fun z => rfl, fun k z => by
 show foliotlaw14_ClusterKeeps.l1 (k + 1) z.1 z.2.1 z.2.2.1 z.2.2.2.1 z.2.2.2.2 = _
 rw [foliotlaw14_ClusterKeeps.l1]
 kernel_rfl⟩
theorem foliotlaw14_ClusterKeeps.q (k : Nat) (y : (List S25)) : foliotlaw14_ClusterKeeps.p k y = foliotlaw14_ClusterKeeps.F.run foliotlaw14_ClusterKeeps.E Try.f4.results.toList (bodyOf Try.f4) foliotlaw14_ClusterKeeps.cs k y := by kernel_rfl
theorem foliotlaw14_ClusterKeeps.ok (k : Nat) : CsemOk R Try.prog 4 (foliotlaw14_ClusterKeeps.F.sem (foliotlaw14_ClusterKeeps.p k)) := fn_ok (F := foliotlaw14_ClusterKeeps.F) (f := foliotlaw14_ClusterKeeps.p) (E := foliotlaw14_ClusterKeeps.E) foliotlaw14_ClusterKeeps.hE (fun _ => rfl) Try.func4 (body := (bodyOf Try.f4)) rfl (by kernel_rfl) rfl (by decide) (by kernel_rfl) (cuts := foliotlaw14_ClusterKeeps.cs) (all_cons foliotlaw14_ClusterKeeps.ol0 (all_cons foliotlaw14_ClusterKeeps.ol1 all_nil)) foliotlaw14_ClusterKeeps.q k
def foliotlaw14_ClusterTurned.F : FnS R ((List S25) × (List Int) × Int) (Bool) := ⟨[.lf, .lf, .lf], [], (.cons (dRo 0) (.cons (dRo 2) (.last (dInt .i64) .nil))), .lf, [], (.last dBool .nil)⟩
def foliotlaw14_ClusterTurned.p (k : Nat) (y : (List S25) × (List Int) × Int) : Option (Bool) := foliotlaw14_ClusterTurned.f k y.1 y.2.1 y.2.2
def foliotlaw14_ClusterTurned.E (k : Nat) : Env R := ⟨tabOf tabL, ctOf [(10, (foliotlaw14_shown.F.sem (foliotlaw14_shown.p k))), (11, (foliotlaw14_few.F.sem (foliotlaw14_few.p k))), (12, (cluster_Cluster.F.sem (cluster_Cluster.p k))), (15, (foliotlaw14_same.F.sem (foliotlaw14_same.p k))), (16, (cluster_Mitigate.F.sem (cluster_Mitigate.p k)))], mtNone, fun f => memB f [15, 16], codes, rts, 81, fun i => ordOf [(15, [(0, 0), (1, 0), (2, 0), (3, 0), (4, 0), (5, 0), (6, 0), (7, 0), (8, 0), (9, 0), (10, 0), (11, 0), (12, 0), (13, 2), (14, 0), (15, 2)])] i, owns, [], eqtOf eqs, fun f => memB f [12], flats, mpsOf mps, byt_⟩
def foliotlaw14_ClusterTurned.cl0 : CutS R (Bool) := ⟨10, [0, 1, 2, 17, 18], [], [.lf, .lf, .lf, .lf, .lf], [.row 0 25], (List Int) × Int × Int × Int × (List S25), (.row 0 0 (.cons (dRo 2) (.cons (dInt .i64) (.cons (dInt .i64) (.cons (dInt .i64) (.last (dRo 0) .nil)))))), fun k z => foliotlaw14_ClusterTurned.l0 k z.1 z.2.1 z.2.2.1 z.2.2.2.1 z.2.2.2.2⟩
def foliotlaw14_ClusterTurned.cl1 : CutS R (Bool) := ⟨22, [0, 1, 2, 8, 31, 32], [], [.lf, .lf, .lf, .lf, .lf, .lf], [.row 0 25, .row 0 25], (List Int) × Int × Int × Int × (List S25) × (List S25), (.row 0 0 (.cons (dRo 2) (.cons (dInt .i64) (.row 0 1 (.cons (dInt .i64) (.cons (dInt .i64) (.cons (dRo 0) (.last (dRo 0) .nil)))))))), fun k z => foliotlaw14_ClusterTurned.l1 k z.1 z.2.1 z.2.2.1 z.2.2.2.1 z.2.2.2.2.1 z.2.2.2.2.2⟩
def foliotlaw14_ClusterTurned.cj0 : CutS R (Bool) := ⟨32, [0, 1, 2, 8, 31, 32], [], [.lf, .lf, .lf, .lf, .lf, .lf], [.row 0 25, .row 0 25], (List Int) × Int × Int × Int × (List S25) × (List S25), (.row 0 0 (.cons (dRo 2) (.cons (dInt .i64) (.row 0 1 (.cons (dInt .i64) (.cons (dInt .i64) (.cons (dRo 0) (.last (dRo 0) .nil)))))))), fun k z => foliotlaw14_ClusterTurned.j0 k z.1 z.2.1 z.2.2.1 z.2.2.2.1 z.2.2.2.2.1 z.2.2.2.2.2⟩
def foliotlaw14_ClusterTurned.cs : List (CutS R (Bool)) := [foliotlaw14_ClusterTurned.cl0, foliotlaw14_ClusterTurned.cl1, foliotlaw14_ClusterTurned.cj0]
theorem foliotlaw14_ClusterTurned.hE (k : Nat) : EnvOk Try.prog (foliotlaw14_ClusterTurned.E k) := ⟨tabs, ctOf_ok (all_cons (foliotlaw14_shown.ok k) (all_cons (foliotlaw14_few.ok k) (all_cons (cluster_Cluster.ok k) (all_cons (foliotlaw14_same.ok k) (all_cons (cluster_Mitigate.ok k) all_nil))))), mtNone_ok, mixed, eqs_, flats_, mps_⟩
theorem foliotlaw14_ClusterTurned.ol0 : (foliotlaw14_ClusterTurned.cl0).Ok foliotlaw14_ClusterTurned.E Try.f5.results.toList 0 (bodyOf Try.f5) foliotlaw14_ClusterTurned.cs foliotlaw14_ClusterTurned.F.ret := ⟨fun z => rfl, fun k z => by
 show foliotlaw14_ClusterTurned.l0 (k + 1) z.1 z.2.1 z.2.2.1 z.2.2.2.1 z.2.2.2.2 = _
 rw [foliotlaw14_ClusterTurned.l0]
 kernel_rfl⟩
theorem foliotlaw14_ClusterTurned.ol1 : (foliotlaw14_ClusterTurned.cl1).Ok foliotlaw14_ClusterTurned.E Try.f5.results.toList 0 (bodyOf Try.f5) foliotlaw14_ClusterTurned.cs foliotlaw14_ClusterTurned.F.ret := ⟨fun z => rfl, fun k z => by
 show foliotlaw14_ClusterTurned.l1 (k + 1) z.1 z.2.1 z.2.2.1 z.2.2.2.1 z.2.2.2.2.1 z.2.2.2.2.2 = _
 rw [foliotlaw14_ClusterTurned.l1]
 kernel_rfl⟩
theorem foliotlaw14_ClusterTurned.oj0 : (foliotlaw14_ClusterTurned.cj0).Ok foliotlaw14_ClusterTurned.E Try.f5.results.toList 0 (bodyOf Try.f5) foliotlaw14_ClusterTurned.cs foliotlaw14_ClusterTurned.F.ret := ⟨fun z => rfl, fun k z => by
 show foliotlaw14_ClusterTurned.j0 (k + 1) z.1 z.2.1 z.2.2.1 z.2.2.2.1 z.2.2.2.2.1 z.2.2.2.2.2 = _
 rw [foliotlaw14_ClusterTurned.j0]
 kernel_rfl⟩
theorem foliotlaw14_ClusterTurned.q (k : Nat) (y : (List S25) × (List Int) × Int) : foliotlaw14_ClusterTurned.p k y = foliotlaw14_ClusterTurned.F.run foliotlaw14_ClusterTurned.E Try.f5.results.toList (bodyOf Try.f5) foliotlaw14_ClusterTurned.cs k y := by kernel_rfl
theorem foliotlaw14_ClusterTurned.ok (k : Nat) : CsemOk R Try.prog 5 (foliotlaw14_ClusterTurned.F.sem (foliotlaw14_ClusterTurned.p k)) := fn_ok (F := foliotlaw14_ClusterTurned.F) (f := foliotlaw14_ClusterTurned.p) (E := foliotlaw14_ClusterTurned.E) foliotlaw14_ClusterTurned.hE (fun _ => rfl) Try.func5 (body := (bodyOf Try.f5)) rfl (by kernel_rfl) rfl (by decide) (by kernel_rfl) (cuts := foliotlaw14_ClusterTurned.cs) (all_cons foliotlaw14_ClusterTurned.ol0 (all_cons foliotlaw14_ClusterTurned.ol1 (all_cons foliotlaw14_ClusterTurned.oj0 all_nil))) foliotlaw14_ClusterTurned.q k
def foliotlaw14_ClusterBetween.F : FnS R ((List S25)) (Bool) := ⟨[.lf], [], (.last (dRo 0) .nil), .lf, [], (.last dBool .nil)⟩
def foliotlaw14_ClusterBetween.p (k : Nat) (y : (List S25)) : Option (Bool) := foliotlaw14_ClusterBetween.f k y
def foliotlaw14_ClusterBetween.E (k : Nat) : Env R := ⟨tabOf tabL, ctOf [(10, (foliotlaw14_shown.F.sem (foliotlaw14_shown.p k))), (9, (cluster_Combine.F.sem (cluster_Combine.p k)))], mtNone, fun _ => false, codes, rts, 99, fun i => ordOf [(7, [(0, 0), (1, 0), (2, 0), (3, 0), (4, 0), (5, 0), (6, 0), (7, 0), (8, 0), (9, 0), (10, 0), (11, 0), (12, 0), (13, 0), (14, 0)]), (13, [(0, 0), (1, 0), (2, 0), (3, 0), (4, 0), (5, 0), (6, 0), (7, 0), (8, 0), (9, 0)])] i, owns, [], eqtOf eqs, fun _ => false, flats, mpsOf mps, byt_⟩
def foliotlaw14_ClusterBetween.cl0 : CutS R (Bool) := ⟨18, [0, 5, 6, 7, 45, 46, 47], [], [.lf, .lf, .lf, .lf, .lf, .lf, .lf], [], (List S25) × Int × Int × Int × (List S25) × Int × Int, (.cons (dRo 0) (.cons (dInt .i64) (.cons (dInt .i64) (.cons (dInt .i64) (.cons (dRo 0) (.cons (dInt .i64) (.last (dInt .i64) .nil))))))), fun k z => foliotlaw14_ClusterBetween.l0 k z.1 z.2.1 z.2.2.1 z.2.2.2.1 z.2.2.2.2.1 z.2.2.2.2.2.1 z.2.2.2.2.2.2⟩
def foliotlaw14_ClusterBetween.cs : List (CutS R (Bool)) := [foliotlaw14_ClusterBetween.cl0]
theorem foliotlaw14_ClusterBetween.hE (k : Nat) : EnvOk Try.prog (foliotlaw14_ClusterBetween.E k) := ⟨tabs, ctOf_ok (all_cons (foliotlaw14_shown.ok k) (all_cons (cluster_Combine.ok k) all_nil)), mtNone_ok, mixed, eqs_, flats_, mps_⟩
theorem foliotlaw14_ClusterBetween.ol0 : (foliotlaw14_ClusterBetween.cl0).Ok foliotlaw14_ClusterBetween.E Try.f6.results.toList 0 (bodyOf Try.f6) foliotlaw14_ClusterBetween.cs foliotlaw14_ClusterBetween.F.ret := ⟨fun z => rfl, fun k z => by
 show foliotlaw14_ClusterBetween.l0 (k + 1) z.1 z.2.1 z.2.2.1 z.2.2.2.1 z.2.2.2.2.1 z.2.2.2.2.2.1 z.2.2.2.2.2.2 = _
 rw [foliotlaw14_ClusterBetween.l0]
 kernel_rfl⟩
theorem foliotlaw14_ClusterBetween.q (k : Nat) (y : (List S25)) : foliotlaw14_ClusterBetween.p k y = foliotlaw14_ClusterBetween.F.run foliotlaw14_ClusterBetween.E Try.f6.results.toList (bodyOf Try.f6) foliotlaw14_ClusterBetween.cs k y := by kernel_rfl
theorem foliotlaw14_ClusterBetween.ok (k : Nat) : CsemOk R Try.prog 6 (foliotlaw14_ClusterBetween.F.sem (foliotlaw14_ClusterBetween.p k)) := fn_ok (F := foliotlaw14_ClusterBetween.F) (f := foliotlaw14_ClusterBetween.p) (E := foliotlaw14_ClusterBetween.E) foliotlaw14_ClusterBetween.hE (fun _ => rfl) Try.func6 (body := (bodyOf Try.f6)) rfl (by kernel_rfl) rfl (by decide) (by kernel_rfl) (cuts := foliotlaw14_ClusterBetween.cs) (all_cons foliotlaw14_ClusterBetween.ol0 all_nil) foliotlaw14_ClusterBetween.q k
def foliotlaw14_ClusterPeers.F : FnS R ((List S25) × Int) (Bool) := ⟨[.lf, .lf], [], (.cons (dRo 0) (.last (dInt .i64) .nil)), .lf, [], (.last dBool .nil)⟩
def foliotlaw14_ClusterPeers.p (k : Nat) (y : (List S25) × Int) : Option (Bool) := foliotlaw14_ClusterPeers.f k y.1 y.2
def foliotlaw14_ClusterPeers.E (k : Nat) : Env R := ⟨tabOf tabL, ctOf [(10, (foliotlaw14_shown.F.sem (foliotlaw14_shown.p k))), (11, (foliotlaw14_few.F.sem (foliotlaw14_few.p k))), (16, (cluster_Mitigate.F.sem (cluster_Mitigate.p k))), (12, (cluster_Cluster.F.sem (cluster_Cluster.p k)))], mtNone, fun _ => false, codes, rts, 152, fun _ => [], owns, [], eqtOf eqs, fun _ => false, flats, mpsOf mps, byt_⟩
def foliotlaw14_ClusterPeers.cl0 : CutS R (Bool) := ⟨14, [0, 5, 6, 7, 8, 22, 23, 24], [], [.lf, .lf, .lf, .lf, .lf, .lf, .lf, .lf], [.blk 5 37], (List S25) × Int × Bool × Bool × (List S25) × Int × Int × Int × Int × Int × Bool × Bool, (.cons (dRo 0) (.ptr 0 0 (.cons (dInt .i64) (.cons dBool (.cons dBool (.cons (dRo 0) (.cons (dInt .i64) (.cons (dInt .i64) (.cons (dInt .i64) (.cons (dInt .i64) (.cons (dInt .i64) (.cons dBool (.last dBool .nil))))))))))))), fun k z => foliotlaw14_ClusterPeers.l0 k z.1 z.2.1 z.2.2.1 z.2.2.2.1 z.2.2.2.2.1 z.2.2.2.2.2.1 z.2.2.2.2.2.2.1 z.2.2.2.2.2.2.2.1 z.2.2.2.2.2.2.2.2.1 z.2.2.2.2.2.2.2.2.2.1 z.2.2.2.2.2.2.2.2.2.2.1 z.2.2.2.2.2.2.2.2.2.2.2⟩
def foliotlaw14_ClusterPeers.cl1 : CutS R (Bool) := ⟨40, [5, 7, 11, 12, 114, 115, 116], [], [.lf, .lf, .lf, .lf, .lf, .lf, .lf], [.blk 5 37, .row 0 25], Bool × Bool × Bool × Int × Int × Int × Int × Int × Bool × Bool × (List S25), (.ptr 0 0 (.cons dBool (.cons dBool (.cons dBool (.row 0 1 (.cons (dInt .i64) (.cons (dInt .i64) (.cons (dInt .i64) (.cons (dInt .i64) (.cons (dInt .i64) (.cons dBool (.cons dBool (.last (dRo 0) .nil))))))))))))), fun k z => foliotlaw14_ClusterPeers.l1 k z.1 z.2.1 z.2.2.1 z.2.2.2.1 z.2.2.2.2.1 z.2.2.2.2.2.1 z.2.2.2.2.2.2.1 z.2.2.2.2.2.2.2.1 z.2.2.2.2.2.2.2.2.1 z.2.2.2.2.2.2.2.2.2.1 z.2.2.2.2.2.2.2.2.2.2⟩
def foliotlaw14_ClusterPeers.cj0 : CutS R (Bool) := ⟨22, [0, 5, 6, 7, 8, 10, 22, 23, 24], [], [.lf, .lf, .lf, .lf, .lf, .lf, .lf, .lf, .lf], [.blk 5 37, .blk 7 25], (List S25) × Int × Bool × Bool × (List S25) × Int × Int × Int × Int × Int × Bool × Bool × Int × Int × Int × Int × Int × Bool × Bool, (.cons (dRo 0) (.ptr 0 0 (.cons (dInt .i64) (.cons dBool (.cons dBool (.ptr 1 0 (.cons (dRo 0) (.cons (dInt .i64) (.cons (dInt .i64) (.cons (dInt .i64) (.cons (dInt .i64) (.cons (dInt .i64) (.cons dBool (.cons dBool (.cons (dInt .i64) (.cons (dInt .i64) (.cons (dInt .i64) (.cons (dInt .i64) (.cons (dInt .i64) (.cons dBool (.last dBool .nil))))))))))))))))))))), fun k z => foliotlaw14_ClusterPeers.j0 k z.1 z.2.1 z.2.2.1 z.2.2.2.1 z.2.2.2.2.1 z.2.2.2.2.2.1 z.2.2.2.2.2.2.1 z.2.2.2.2.2.2.2.1 z.2.2.2.2.2.2.2.2.1 z.2.2.2.2.2.2.2.2.2.1 z.2.2.2.2.2.2.2.2.2.2.1 z.2.2.2.2.2.2.2.2.2.2.2.1 z.2.2.2.2.2.2.2.2.2.2.2.2.1 z.2.2.2.2.2.2.2.2.2.2.2.2.2.1 z.2.2.2.2.2.2.2.2.2.2.2.2.2.2.1 z.2.2.2.2.2.2.2.2.2.2.2.2.2.2.2.1 z.2.2.2.2.2.2.2.2.2.2.2.2.2.2.2.2.1 z.2.2.2.2.2.2.2.2.2.2.2.2.2.2.2.2.2.1 z.2.2.2.2.2.2.2.2.2.2.2.2.2.2.2.2.2.2⟩
def foliotlaw14_ClusterPeers.cs : List (CutS R (Bool)) := [foliotlaw14_ClusterPeers.cl0, foliotlaw14_ClusterPeers.cl1, foliotlaw14_ClusterPeers.cj0]
theorem foliotlaw14_ClusterPeers.hE (k : Nat) : EnvOk Try.prog (foliotlaw14_ClusterPeers.E k) := ⟨tabs, ctOf_ok (all_cons (foliotlaw14_shown.ok k) (all_cons (foliotlaw14_few.ok k) (all_cons (cluster_Mitigate.ok k) (all_cons (cluster_Cluster.ok k) all_nil)))), mtNone_ok, mixed, eqs_, flats_, mps_⟩
theorem foliotlaw14_ClusterPeers.ol0 : (foliotlaw14_ClusterPeers.cl0).Ok foliotlaw14_ClusterPeers.E Try.f7.results.toList 0 (bodyOf Try.f7) foliotlaw14_ClusterPeers.cs foliotlaw14_ClusterPeers.F.ret := ⟨fun z => rfl, fun k z => by
 show foliotlaw14_ClusterPeers.l0 (k + 1) z.1 z.2.1 z.2.2.1 z.2.2.2.1 z.2.2.2.2.1 z.2.2.2.2.2.1 z.2.2.2.2.2.2.1 z.2.2.2.2.2.2.2.1 z.2.2.2.2.2.2.2.2.1 z.2.2.2.2.2.2.2.2.2.1 z.2.2.2.2.2.2.2.2.2.2.1 z.2.2.2.2.2.2.2.2.2.2.2 = _
 rw [foliotlaw14_ClusterPeers.l0]
 kernel_rfl⟩
theorem foliotlaw14_ClusterPeers.ol1 : (foliotlaw14_ClusterPeers.cl1).Ok foliotlaw14_ClusterPeers.E Try.f7.results.toList 0 (bodyOf Try.f7) foliotlaw14_ClusterPeers.cs foliotlaw14_ClusterPeers.F.ret := ⟨fun z => rfl, fun k z => by
 show foliotlaw14_ClusterPeers.l1 (k + 1) z.1 z.2.1 z.2.2.1 z.2.2.2.1 z.2.2.2.2.1 z.2.2.2.2.2.1 z.2.2.2.2.2.2.1 z.2.2.2.2.2.2.2.1 z.2.2.2.2.2.2.2.2.1 z.2.2.2.2.2.2.2.2.2.1 z.2.2.2.2.2.2.2.2.2.2 = _
 rw [foliotlaw14_ClusterPeers.l1]
 kernel_rfl⟩
theorem foliotlaw14_ClusterPeers.oj0 : (foliotlaw14_ClusterPeers.cj0).Ok foliotlaw14_ClusterPeers.E Try.f7.results.toList 0 (bodyOf Try.f7) foliotlaw14_ClusterPeers.cs foliotlaw14_ClusterPeers.F.ret := ⟨fun z => rfl, fun k z => by
 show foliotlaw14_ClusterPeers.j0 (k + 1) z.1 z.2.1 z.2.2.1 z.2.2.2.1 z.2.2.2.2.1 z.2.2.2.2.2.1 z.2.2.2.2.2.2.1 z.2.2.2.2.2.2.2.1 z.2.2.2.2.2.2.2.2.1 z.2.2.2.2.2.2.2.2.2.1 z.2.2.2.2.2.2.2.2.2.2.1 z.2.2.2.2.2.2.2.2.2.2.2.1 z.2.2.2.2.2.2.2.2.2.2.2.2.1 z.2.2.2.2.2.2.2.2.2.2.2.2.2.1 z.2.2.2.2.2.2.2.2.2.2.2.2.2.2.1 z.2.2.2.2.2.2.2.2.2.2.2.2.2.2.2.1 z.2.2.2.2.2.2.2.2.2.2.2.2.2.2.2.2.1 z.2.2.2.2.2.2.2.2.2.2.2.2.2.2.2.2.2.1 z.2.2.2.2.2.2.2.2.2.2.2.2.2.2.2.2.2.2 = _
 rw [foliotlaw14_ClusterPeers.j0]
 kernel_rfl⟩
theorem foliotlaw14_ClusterPeers.q (k : Nat) (y : (List S25) × Int) : foliotlaw14_ClusterPeers.p k y = foliotlaw14_ClusterPeers.F.run foliotlaw14_ClusterPeers.E Try.f7.results.toList (bodyOf Try.f7) foliotlaw14_ClusterPeers.cs k y := by kernel_rfl
theorem foliotlaw14_ClusterPeers.ok (k : Nat) : CsemOk R Try.prog 7 (foliotlaw14_ClusterPeers.F.sem (foliotlaw14_ClusterPeers.p k)) := fn_ok (F := foliotlaw14_ClusterPeers.F) (f := foliotlaw14_ClusterPeers.p) (E := foliotlaw14_ClusterPeers.E) foliotlaw14_ClusterPeers.hE (fun _ => rfl) Try.func7 (body := (bodyOf Try.f7)) rfl (by kernel_rfl) rfl (by decide) (by kernel_rfl) (cuts := foliotlaw14_ClusterPeers.cs) (all_cons foliotlaw14_ClusterPeers.ol0 (all_cons foliotlaw14_ClusterPeers.ol1 (all_cons foliotlaw14_ClusterPeers.oj0 all_nil))) foliotlaw14_ClusterPeers.q k
def foliotref01_two.F : FnS R (Int) (Bool × (List Int)) := ⟨[.lf], [], (.last (dInt .i64) .nil), .agg 2, [.row 2 3], (.row 2 0 (.cons dBool (.last (dRo 2) .nil)))⟩
def foliotref01_two.p (k : Nat) (y : Int) : Option (Bool × (List Int)) := foliotref01_two.f k y
def foliotref01_two.E (k : Nat) : Env R := ⟨tabOf tabL, ctOf [], mtNone, fun _ => false, codes, rts, 34, fun i => ordOf [(6, [(0, 0), (1, 0), (2, 0), (3, 0), (4, 0), (5, 0), (6, 0), (7, 0), (8, 0), (9, 0), (10, 0), (11, 0), (12, 2)])] i, owns, [], eqtOf eqs, fun _ => false, flats, mpsOf mps, byt_⟩
def foliotref01_two.cl0 : CutS R (Bool × (List Int)) := ⟨8, [0, 2, 3, 4], [], [.lf, .lf, .lf, .lf], [.blk 2 80, .blk 2 80, .row 2 3, .row 2 3], Int × Int × Bool × Bool × (List Int) × (List Int), (.cons (dInt .i64) (.ptr 0 0 (.ptr 1 0 (.cons (dInt .i64) (.row 2 2 (.cons dBool (.row 2 3 (.cons dBool (.cons (dRo 2) (.last (dRo 2) .nil)))))))))), fun k z => foliotref01_two.l0 k z.1 z.2.1 z.2.2.1 z.2.2.2.1 z.2.2.2.2.1 z.2.2.2.2.2⟩
def foliotref01_two.cs : List (CutS R (Bool × (List Int))) := [foliotref01_two.cl0]
theorem foliotref01_two.hE (k : Nat) : EnvOk Try.prog (foliotref01_two.E k) := ⟨tabs, ctOf_ok all_nil, mtNone_ok, mixed, eqs_, flats_, mps_⟩
theorem foliotref01_two.ol0 : (foliotref01_two.cl0).Ok foliotref01_two.E Try.f84.results.toList 0 (bodyOf Try.f84) foliotref01_two.cs foliotref01_two.F.ret := ⟨fun z => rfl, fun k z => by
 show foliotref01_two.l0 (k + 1) z.1 z.2.1 z.2.2.1 z.2.2.2.1 z.2.2.2.2.1 z.2.2.2.2.2 = _
 rw [foliotref01_two.l0]
 kernel_rfl⟩
theorem foliotref01_two.q (k : Nat) (y : Int) : foliotref01_two.p k y = foliotref01_two.F.run foliotref01_two.E Try.f84.results.toList (bodyOf Try.f84) foliotref01_two.cs k y := by kernel_rfl
theorem foliotref01_two.ok (k : Nat) : CsemOk R Try.prog 84 (foliotref01_two.F.sem (foliotref01_two.p k)) := fn_ok (F := foliotref01_two.F) (f := foliotref01_two.p) (E := foliotref01_two.E) foliotref01_two.hE (fun _ => rfl) Try.func84 (body := (bodyOf Try.f84)) rfl (by kernel_rfl) rfl (by decide) (by kernel_rfl) (cuts := foliotref01_two.cs) (all_cons foliotref01_two.ol0 all_nil) foliotref01_two.q k
def foliotref01_Shift.F : FnS R (Int × Int) (Int) := ⟨[.lf, .lf], [], (.cons (dInt .i64) (.last (dInt .i64) .nil)), .lf, [], (.last (dInt .i64) .nil)⟩
def foliotref01_Shift.p (k : Nat) (y : Int × Int) : Option (Int) := foliotref01_Shift.f k y.1 y.2
def foliotref01_Shift.E (k : Nat) : Env R := ⟨tabOf tabL, ctOf [(60, (foliotref01_s.F.sem (foliotref01_s.p k))), (84, (foliotref01_two.F.sem (foliotref01_two.p k))), (62, (foliotref01_product.F.sem (foliotref01_product.p k))), (58, (foliotref01_span.F.sem (foliotref01_span.p k))), (61, (foliotref01_down.F.sem (foliotref01_down.p k)))], mtNone, fun f => memB f [58], codes, rts, 23, fun _ => [], owns, [], eqtOf eqs, fun f => memB f [61, 62], flats, mpsOf mps, byt_⟩
def foliotref01_Shift.cs : List (CutS R (Int)) := []
theorem foliotref01_Shift.hE (k : Nat) : EnvOk Try.prog (foliotref01_Shift.E k) := ⟨tabs, ctOf_ok (all_cons (foliotref01_s.ok k) (all_cons (foliotref01_two.ok k) (all_cons (foliotref01_product.ok k) (all_cons (foliotref01_span.ok k) (all_cons (foliotref01_down.ok k) all_nil))))), mtNone_ok, mixed, eqs_, flats_, mps_⟩
theorem foliotref01_Shift.q (k : Nat) (y : Int × Int) : foliotref01_Shift.p k y = foliotref01_Shift.F.run foliotref01_Shift.E Try.f66.results.toList (bodyOf Try.f66) foliotref01_Shift.cs k y := by kernel_rfl
theorem foliotref01_Shift.ok (k : Nat) : CsemOk R Try.prog 66 (foliotref01_Shift.F.sem (foliotref01_Shift.p k)) := fn_ok (F := foliotref01_Shift.F) (f := foliotref01_Shift.p) (E := foliotref01_Shift.E) foliotref01_Shift.hE (fun _ => rfl) Try.func66 (body := (bodyOf Try.f66)) rfl (by kernel_rfl) rfl (by decide) (by kernel_rfl) (cuts := foliotref01_Shift.cs) all_nil foliotref01_Shift.q k
def foliotref14_weight.F : FnS R (Int × Int × Int × Int × Int × Bool × Bool) (Int) := ⟨[.agg 7], [], (.cons (dInt .i64) (.cons (dInt .i64) (.cons (dInt .i64) (.cons (dInt .i64) (.cons (dInt .i64) (.cons dBool (.last dBool .nil))))))), .lf, [], (.last (dInt .i64) .nil)⟩
def foliotref14_weight.p (k : Nat) (y : Int × Int × Int × Int × Int × Bool × Bool) : Option (Int) := foliotref14_weight.f k y.1 y.2.1 y.2.2.1 y.2.2.2.1 y.2.2.2.2.1 y.2.2.2.2.2.1 y.2.2.2.2.2.2
def foliotref14_weight.E (k : Nat) : Env R := ⟨tabOf tabL, ctOf [(66, (foliotref01_Shift.F.sem (foliotref01_Shift.p k)))], mtNone, fun _ => false, codes, rts, 8, fun _ => [], owns, [], eqtOf eqs, fun _ => false, flats, mpsOf mps, byt_⟩
def foliotref14_weight.cs : List (CutS R (Int)) := []
theorem foliotref14_weight.hE (k : Nat) : EnvOk Try.prog (foliotref14_weight.E k) := ⟨tabs, ctOf_ok (all_cons (foliotref01_Shift.ok k) all_nil), mtNone_ok, mixed, eqs_, flats_, mps_⟩
theorem foliotref14_weight.q (k : Nat) (y : Int × Int × Int × Int × Int × Bool × Bool) : foliotref14_weight.p k y = foliotref14_weight.F.run foliotref14_weight.E Try.f41.results.toList (bodyOf Try.f41) foliotref14_weight.cs k y := by kernel_rfl
theorem foliotref14_weight.ok (k : Nat) : CsemOk R Try.prog 41 (foliotref14_weight.F.sem (foliotref14_weight.p k)) := fn_ok (F := foliotref14_weight.F) (f := foliotref14_weight.p) (E := foliotref14_weight.E) foliotref14_weight.hE (fun _ => rfl) Try.func41 (body := (bodyOf Try.f41)) rfl (by kernel_rfl) rfl (by decide) (by kernel_rfl) (cuts := foliotref14_weight.cs) all_nil foliotref14_weight.q k
def foliotref01_negative.F : FnS R ((List Int) × Bool) ((List Int) × Bool) := ⟨[.agg 2], [], (.cons (dRo 2) (.last dBool .nil)), .agg 2, [], (.cons (dRo 2) (.last dBool .nil))⟩
def foliotref01_negative.p (k : Nat) (y : (List Int) × Bool) : Option ((List Int) × Bool) := foliotref01_negative.f y.1 y.2
def foliotref01_negative.E (k : Nat) : Env R := ⟨tabOf tabL, ctOf [], mtNone, fun _ => false, codes, rts, 9, fun _ => [], owns, [], eqtOf eqs, fun _ => false, flats, mpsOf mps, byt_⟩
def foliotref01_negative.cs : List (CutS R ((List Int) × Bool)) := []
theorem foliotref01_negative.hE (k : Nat) : EnvOk Try.prog (foliotref01_negative.E k) := ⟨tabs, ctOf_ok all_nil, mtNone_ok, mixed, eqs_, flats_, mps_⟩
theorem foliotref01_negative.q (k : Nat) (y : (List Int) × Bool) : foliotref01_negative.p k y = foliotref01_negative.F.run foliotref01_negative.E Try.f67.results.toList (bodyOf Try.f67) foliotref01_negative.cs k y := by kernel_rfl
theorem foliotref01_negative.ok (k : Nat) : CsemOk R Try.prog 67 (foliotref01_negative.F.sem (foliotref01_negative.p k)) := fn_ok (F := foliotref01_negative.F) (f := foliotref01_negative.p) (E := foliotref01_negative.E) foliotref01_negative.hE (fun _ => rfl) Try.func67 (body := (bodyOf Try.f67)) rfl (by kernel_rfl) rfl (by decide) (by kernel_rfl) (cuts := foliotref01_negative.cs) all_nil foliotref01_negative.q k
def foliotref01_negative_s1.F : FnS R (Bool × (List Int)) (Bool × (List Int)) := ⟨[.agg 2], [.row 2 3], (.row 2 0 (.cons dBool (.last (dRo 2) .nil))), .agg 2, [.row 2 3], (.row 2 0 (.cons dBool (.last (dRo 2) .nil)))⟩
def foliotref01_negative_s1.p (k : Nat) (y : Bool × (List Int)) : Option (Bool × (List Int)) := foliotref01_negative_s1.f y.1 y.2
def foliotref01_negative_s1.E (k : Nat) : Env R := ⟨tabOf tabL, ctOf [], mtNone, fun _ => false, codes, rts, 9, fun _ => [], owns, [], eqtOf eqs, fun _ => false, flats, mpsOf mps, byt_⟩
def foliotref01_negative_s1.cs : List (CutS R (Bool × (List Int))) := []
theorem foliotref01_negative_s1.hE (k : Nat) : EnvOk Try.prog (foliotref01_negative_s1.E k) := ⟨tabs, ctOf_ok all_nil, mtNone_ok, mixed, eqs_, flats_, mps_⟩
theorem foliotref01_negative_s1.q (k : Nat) (y : Bool × (List Int)) : foliotref01_negative_s1.p k y = foliotref01_negative_s1.F.run foliotref01_negative_s1.E Try.f67.results.toList (bodyOf Try.f67) foliotref01_negative_s1.cs k y := by kernel_rfl
theorem foliotref01_negative_s1.ok (k : Nat) : CsemOk R Try.prog 67 (foliotref01_negative_s1.F.sem (foliotref01_negative_s1.p k)) := fn_ok (F := foliotref01_negative_s1.F) (f := foliotref01_negative_s1.p) (E := foliotref01_negative_s1.E) foliotref01_negative_s1.hE (fun _ => rfl) Try.func67 (body := (bodyOf Try.f67)) rfl (by kernel_rfl) rfl (by decide) (by kernel_rfl) (cuts := foliotref01_negative_s1.cs) all_nil foliotref01_negative_s1.q k
def foliotref01_Sub.F : FnS R (Int × Int) (Int) := ⟨[.lf, .lf], [], (.cons (dInt .i64) (.last (dInt .i64) .nil)), .lf, [], (.last (dInt .i64) .nil)⟩
def foliotref01_Sub.p (k : Nat) (y : Int × Int) : Option (Int) := foliotref01_Sub.f k y.1 y.2
def foliotref01_Sub.E (k : Nat) : Env R := ⟨tabOf tabL, ctOf [(60, (foliotref01_s.F.sem (foliotref01_s.p k))), (67, (foliotref01_negative_s1.F.sem (foliotref01_negative_s1.p k))), (59, (foliotref01_sum.F.sem (foliotref01_sum.p k))), (58, (foliotref01_span.F.sem (foliotref01_span.p k)))], mtNone, fun f => memB f [58], codes, rts, 12, fun _ => [], owns, [], eqtOf eqs, fun f => memB f [59], flats, mpsOf mps, byt_⟩
def foliotref01_Sub.cs : List (CutS R (Int)) := []
theorem foliotref01_Sub.hE (k : Nat) : EnvOk Try.prog (foliotref01_Sub.E k) := ⟨tabs, ctOf_ok (all_cons (foliotref01_s.ok k) (all_cons (foliotref01_negative_s1.ok k) (all_cons (foliotref01_sum.ok k) (all_cons (foliotref01_span.ok k) all_nil)))), mtNone_ok, mixed, eqs_, flats_, mps_⟩
theorem foliotref01_Sub.q (k : Nat) (y : Int × Int) : foliotref01_Sub.p k y = foliotref01_Sub.F.run foliotref01_Sub.E Try.f42.results.toList (bodyOf Try.f42) foliotref01_Sub.cs k y := by kernel_rfl
theorem foliotref01_Sub.ok (k : Nat) : CsemOk R Try.prog 42 (foliotref01_Sub.F.sem (foliotref01_Sub.p k)) := fn_ok (F := foliotref01_Sub.F) (f := foliotref01_Sub.p) (E := foliotref01_Sub.E) foliotref01_Sub.hE (fun _ => rfl) Try.func42 (body := (bodyOf Try.f42)) rfl (by kernel_rfl) rfl (by decide) (by kernel_rfl) (cuts := foliotref01_Sub.cs) all_nil foliotref01_Sub.q k
def foliotref01_root.F : FnS R ((List Int)) (Bool × (List Int)) := ⟨[.lf], [], (.last (dRo 2) .nil), .agg 2, [.row 2 3], (.row 2 0 (.cons dBool (.last (dRo 2) .nil)))⟩
def foliotref01_root.p (k : Nat) (y : (List Int)) : Option (Bool × (List Int)) := foliotref01_root.f k y
def foliotref01_root.E (k : Nat) : Env R := ⟨tabOf tabL, ctOf [(84, (foliotref01_two.F.sem (foliotref01_two.p k))), (79, (foliotref01_plus.F.sem (foliotref01_plus.p k))), (83, (foliotref01_times.F.sem (foliotref01_times.p k))), (80, (foliotref01_compare.F.sem (foliotref01_compare.p k)))], mtNone, fun f => memB f [80], codes, rts, 28, fun _ => [], owns, [], eqtOf eqs, fun f => memB f [79, 83], flats, mpsOf mps, byt_⟩
def foliotref01_root.cl0 : CutS R (Bool × (List Int)) := ⟨6, [0, 2, 3, 4], [], [.lf, .lf, .lf, .lf], [.blk 2 80, .row 2 3, .row 2 3], (List Int) × Int × Bool × (List Int) × (List Int), (.cons (dRo 2) (.ptr 0 0 (.row 2 1 (.cons (dInt .i64) (.row 2 2 (.cons dBool (.cons (dRo 2) (.last (dRo 2) .nil)))))))), fun k z => foliotref01_root.l0 k z.1 z.2.1 z.2.2.1 z.2.2.2.1 z.2.2.2.2⟩
def foliotref01_root.cs : List (CutS R (Bool × (List Int))) := [foliotref01_root.cl0]
theorem foliotref01_root.hE (k : Nat) : EnvOk Try.prog (foliotref01_root.E k) := ⟨tabs, ctOf_ok (all_cons (foliotref01_two.ok k) (all_cons (foliotref01_plus.ok k) (all_cons (foliotref01_times.ok k) (all_cons (foliotref01_compare.ok k) all_nil)))), mtNone_ok, mixed, eqs_, flats_, mps_⟩
theorem foliotref01_root.ol0 : (foliotref01_root.cl0).Ok foliotref01_root.E Try.f85.results.toList 0 (bodyOf Try.f85) foliotref01_root.cs foliotref01_root.F.ret := ⟨fun z => rfl, fun k z => by
 show foliotref01_root.l0 (k + 1) z.1 z.2.1 z.2.2.1 z.2.2.2.1 z.2.2.2.2 = _
 rw [foliotref01_root.l0]
 kernel_rfl⟩
theorem foliotref01_root.q (k : Nat) (y : (List Int)) : foliotref01_root.p k y = foliotref01_root.F.run foliotref01_root.E Try.f85.results.toList (bodyOf Try.f85) foliotref01_root.cs k y := by kernel_rfl
theorem foliotref01_root.ok (k : Nat) : CsemOk R Try.prog 85 (foliotref01_root.F.sem (foliotref01_root.p k)) := fn_ok (F := foliotref01_root.F) (f := foliotref01_root.p) (E := foliotref01_root.E) foliotref01_root.hE (fun _ => rfl) Try.func85 (body := (bodyOf Try.f85)) rfl (by kernel_rfl) rfl (by decide) (by kernel_rfl) (cuts := foliotref01_root.cs) (all_cons foliotref01_root.ol0 all_nil) foliotref01_root.q k
def foliotref01_RMS.F : FnS R ((List Int)) (Int) := ⟨[.lf], [], (.last (dRo 3) .nil), .lf, [], (.last (dInt .i64) .nil)⟩
def foliotref01_RMS.p (k : Nat) (y : (List Int)) : Option (Int) := foliotref01_RMS.f k y
def foliotref01_RMS.E (k : Nat) : Env R := ⟨tabOf tabL, ctOf [(60, (foliotref01_s.F.sem (foliotref01_s.p k))), (58, (foliotref01_span.F.sem (foliotref01_span.p k))), (62, (foliotref01_product.F.sem (foliotref01_product.p k))), (59, (foliotref01_sum.F.sem (foliotref01_sum.p k))), (63, (foliotref01_of.F.sem (foliotref01_of.p k))), (61, (foliotref01_down.F.sem (foliotref01_down.p k))), (85, (foliotref01_root.F.sem (foliotref01_root.p k)))], mtNone, fun f => memB f [58], codes, rts, 37, fun i => ordOf [(7, [(0, 0), (1, 0), (2, 0), (3, 1), (4, 1), (5, 2)]), (10, [(0, 0), (1, 0), (2, 1), (3, 1), (4, 0), (5, 1), (6, 0), (7, 0)])] i, owns, [], eqtOf eqs, fun f => memB f [59, 61, 62, 85], flats, mpsOf mps, byt_⟩
def foliotref01_RMS.cl0 : CutS R (Int) := ⟨8, [0, 3, 4, 5], [], [.lf, .lf, .lf, .lf], [.blk 2 80, .row 2 3], (List Int) × Int × Int × Bool × (List Int), (.cons (dRo 3) (.ptr 0 0 (.cons (dInt .i64) (.cons (dInt .i64) (.row 2 1 (.cons dBool (.last (dRo 2) .nil))))))), fun k z => foliotref01_RMS.l0 k z.1 z.2.1 z.2.2.1 z.2.2.2.1 z.2.2.2.2⟩
def foliotref01_RMS.cs : List (CutS R (Int)) := [foliotref01_RMS.cl0]
theorem foliotref01_RMS.hE (k : Nat) : EnvOk Try.prog (foliotref01_RMS.E k) := ⟨tabs, ctOf_ok (all_cons (foliotref01_s.ok k) (all_cons (foliotref01_span.ok k) (all_cons (foliotref01_product.ok k) (all_cons (foliotref01_sum.ok k) (all_cons (foliotref01_of.ok k) (all_cons (foliotref01_down.ok k) (all_cons (foliotref01_root.ok k) all_nil))))))), mtNone_ok, mixed, eqs_, flats_, mps_⟩
theorem foliotref01_RMS.ol0 : (foliotref01_RMS.cl0).Ok foliotref01_RMS.E Try.f68.results.toList 0 (bodyOf Try.f68) foliotref01_RMS.cs foliotref01_RMS.F.ret := ⟨fun z => rfl, fun k z => by
 show foliotref01_RMS.l0 (k + 1) z.1 z.2.1 z.2.2.1 z.2.2.2.1 z.2.2.2.2 = _
 rw [foliotref01_RMS.l0]
 kernel_rfl⟩
theorem foliotref01_RMS.q (k : Nat) (y : (List Int)) : foliotref01_RMS.p k y = foliotref01_RMS.F.run foliotref01_RMS.E Try.f68.results.toList (bodyOf Try.f68) foliotref01_RMS.cs k y := by kernel_rfl
theorem foliotref01_RMS.ok (k : Nat) : CsemOk R Try.prog 68 (foliotref01_RMS.F.sem (foliotref01_RMS.p k)) := fn_ok (F := foliotref01_RMS.F) (f := foliotref01_RMS.p) (E := foliotref01_RMS.E) foliotref01_RMS.hE (fun _ => rfl) Try.func68 (body := (bodyOf Try.f68)) rfl (by kernel_rfl) rfl (by decide) (by kernel_rfl) (cuts := foliotref01_RMS.cs) (all_cons foliotref01_RMS.ol0 all_nil) foliotref01_RMS.q k
def foliotref14_jitter.F : FnS R ((List S25) × Int) (Int) := ⟨[.lf, .lf], [], (.cons (dRo 0) (.last (dInt .i64) .nil)), .lf, [], (.last (dInt .i64) .nil)⟩
def foliotref14_jitter.p (k : Nat) (y : (List S25) × Int) : Option (Int) := foliotref14_jitter.f k y.1 y.2
def foliotref14_jitter.E (k : Nat) : Env R := ⟨tabOf tabL, ctOf [(42, (foliotref01_Sub.F.sem (foliotref01_Sub.p k))), (68, (foliotref01_RMS.F.sem (foliotref01_RMS.p k)))], mtNone, fun f => memB f [42, 68], codes, rts, 32, fun i => ordOf [(6, [(0, 0), (1, 0), (2, 0), (3, 0), (4, 0), (5, 0), (6, 0), (7, 0), (8, 0), (9, 1), (10, 2), (11, 0)])] i, owns, [], eqtOf eqs, fun _ => false, flats, mpsOf mps, byt_⟩
def foliotref14_jitter.cl0 : CutS R (Int) := ⟨6, [0, 1, 5, 8, 9, 10], [none, none, some (.row 3 23), none, none, none], [.lf, .lf, .lf, .lf, .lf, .lf], [.row 3 23], (List S25) × Int × (List S25) × Int × Int × (List Int), (.cons (dRo 0) (.cons (dInt .i64) (.row 3 0 (.cons (dRo 0) (.cons (dInt .i64) (.cons (dInt .i64) (.last (dRo 3) .nil))))))), fun k z => foliotref14_jitter.l0 k z.1 z.2.1 z.2.2.1 z.2.2.2.1 z.2.2.2.2.1 z.2.2.2.2.2⟩
def foliotref14_jitter.cs : List (CutS R (Int)) := [foliotref14_jitter.cl0]
theorem foliotref14_jitter.hE (k : Nat) : EnvOk Try.prog (foliotref14_jitter.E k) := ⟨tabs, ctOf_ok (all_cons (foliotref01_Sub.ok k) (all_cons (foliotref01_RMS.ok k) all_nil)), mtNone_ok, mixed, eqs_, flats_, mps_⟩
theorem foliotref14_jitter.ol0 : (foliotref14_jitter.cl0).Ok foliotref14_jitter.E Try.f43.results.toList 0 (bodyOf Try.f43) foliotref14_jitter.cs foliotref14_jitter.F.ret := ⟨fun z => rfl, fun k z => by
 show foliotref14_jitter.l0 (k + 1) z.1 z.2.1 z.2.2.1 z.2.2.2.1 z.2.2.2.2.1 z.2.2.2.2.2 = _
 rw [foliotref14_jitter.l0]
 kernel_rfl⟩
theorem foliotref14_jitter.q (k : Nat) (y : (List S25) × Int) : foliotref14_jitter.p k y = foliotref14_jitter.F.run foliotref14_jitter.E Try.f43.results.toList (bodyOf Try.f43) foliotref14_jitter.cs k y := by kernel_rfl
theorem foliotref14_jitter.ok (k : Nat) : CsemOk R Try.prog 43 (foliotref14_jitter.F.sem (foliotref14_jitter.p k)) := fn_ok (F := foliotref14_jitter.F) (f := foliotref14_jitter.p) (E := foliotref14_jitter.E) foliotref14_jitter.hE (fun _ => rfl) Try.func43 (body := (bodyOf Try.f43)) rfl (by kernel_rfl) rfl (by decide) (by kernel_rfl) (cuts := foliotref14_jitter.cs) (all_cons foliotref14_jitter.ol0 all_nil) foliotref14_jitter.q k
def foliotref14_Combine.F : FnS R ((List S25)) (Int × Int) := ⟨[.lf], [], (.last (dRo 0) .nil), .tup [none, none], [], (.cons (dInt .i64) (.last (dInt .i64) .nil))⟩
def foliotref14_Combine.p (k : Nat) (y : (List S25)) : Option (Int × Int) := foliotref14_Combine.f k y
def foliotref14_Combine.E (k : Nat) : Env R := ⟨tabOf tabL, ctOf [(41, (foliotref14_weight.F.sem (foliotref14_weight.p k))), (42, (foliotref01_Sub.F.sem (foliotref01_Sub.p k))), (37, (foliotref01_Scale.F.sem (foliotref01_Scale.p k))), (36, (foliotref01_Add.F.sem (foliotref01_Add.p k))), (43, (foliotref14_jitter.F.sem (foliotref14_jitter.p k)))], mtNone, fun f => memB f [36, 37, 41, 42, 43], codes, rts, 62, fun i => ordOf [(14, [(0, 0), (1, 0), (2, 0), (3, 0), (4, 0), (5, 0), (6, 0), (7, 0), (8, 0), (9, 0), (10, 0), (11, 0), (12, 0), (13, 0)]), (16, [(0, 0), (1, 0), (2, 0), (3, 0), (4, 0), (5, 0), (6, 0), (7, 0), (8, 0), (9, 0)])] i, owns, [], eqtOf eqs, fun _ => false, flats, mpsOf mps, byt_⟩
def foliotref14_Combine.cl0 : CutS R (Int × Int) := ⟨12, [0, 4, 18, 19, 20], [], [.lf, .lf, .lf, .lf, .lf], [], (List S25) × Int × (List S25) × Int × Int, (.cons (dRo 0) (.cons (dInt .i64) (.cons (dRo 0) (.cons (dInt .i64) (.last (dInt .i64) .nil))))), fun k z => foliotref14_Combine.l0 k z.1 z.2.1 z.2.2.1 z.2.2.2.1 z.2.2.2.2⟩
def foliotref14_Combine.cl1 : CutS R (Int × Int) := ⟨24, [0, 4, 7, 34, 35, 36], [], [.lf, .lf, .lf, .lf, .lf, .lf], [], (List S25) × Int × Int × (List S25) × Int × Int, (.cons (dRo 0) (.cons (dInt .i64) (.cons (dInt .i64) (.cons (dRo 0) (.cons (dInt .i64) (.last (dInt .i64) .nil)))))), fun k z => foliotref14_Combine.l1 k z.1 z.2.1 z.2.2.1 z.2.2.2.1 z.2.2.2.2.1 z.2.2.2.2.2⟩
def foliotref14_Combine.cs : List (CutS R (Int × Int)) := [foliotref14_Combine.cl0, foliotref14_Combine.cl1]
theorem foliotref14_Combine.hE (k : Nat) : EnvOk Try.prog (foliotref14_Combine.E k) := ⟨tabs, ctOf_ok (all_cons (foliotref14_weight.ok k) (all_cons (foliotref01_Sub.ok k) (all_cons (foliotref01_Scale.ok k) (all_cons (foliotref01_Add.ok k) (all_cons (foliotref14_jitter.ok k) all_nil))))), mtNone_ok, mixed, eqs_, flats_, mps_⟩
theorem foliotref14_Combine.ol0 : (foliotref14_Combine.cl0).Ok foliotref14_Combine.E Try.f17.results.toList 0 (bodyOf Try.f17) foliotref14_Combine.cs foliotref14_Combine.F.ret := ⟨fun z => rfl, fun k z => by
 show foliotref14_Combine.l0 (k + 1) z.1 z.2.1 z.2.2.1 z.2.2.2.1 z.2.2.2.2 = _
 rw [foliotref14_Combine.l0]
 kernel_rfl⟩
theorem foliotref14_Combine.ol1 : (foliotref14_Combine.cl1).Ok foliotref14_Combine.E Try.f17.results.toList 0 (bodyOf Try.f17) foliotref14_Combine.cs foliotref14_Combine.F.ret := ⟨fun z => rfl, fun k z => by
 show foliotref14_Combine.l1 (k + 1) z.1 z.2.1 z.2.2.1 z.2.2.2.1 z.2.2.2.2.1 z.2.2.2.2.2 = _
 rw [foliotref14_Combine.l1]
 kernel_rfl⟩
theorem foliotref14_Combine.q (k : Nat) (y : (List S25)) : foliotref14_Combine.p k y = foliotref14_Combine.F.run foliotref14_Combine.E Try.f17.results.toList (bodyOf Try.f17) foliotref14_Combine.cs k y := by kernel_rfl
theorem foliotref14_Combine.ok (k : Nat) : CsemOk R Try.prog 17 (foliotref14_Combine.F.sem (foliotref14_Combine.p k)) := fn_ok (F := foliotref14_Combine.F) (f := foliotref14_Combine.p) (E := foliotref14_Combine.E) foliotref14_Combine.hE (fun _ => rfl) Try.func17 (body := (bodyOf Try.f17)) rfl (by kernel_rfl) rfl (by decide) (by kernel_rfl) (cuts := foliotref14_Combine.cs) (all_cons foliotref14_Combine.ol0 (all_cons foliotref14_Combine.ol1 all_nil)) foliotref14_Combine.q k
def cluster_Best.F : FnS R ((List S25) × Int) (Int × Int × Int × Int × Int × Bool × Bool × Bool) := ⟨[.lf, .lf], [], (.cons (dRo 0) (.last (dInt .i64) .nil)), .tup [some 7, none], [], (.cons (dInt .i64) (.cons (dInt .i64) (.cons (dInt .i64) (.cons (dInt .i64) (.cons (dInt .i64) (.cons dBool (.cons dBool (.last dBool .nil))))))))⟩
def cluster_Best.p (k : Nat) (y : (List S25) × Int) : Option (Int × Int × Int × Int × Int × Bool × Bool × Bool) := cluster_Best.f k y.1 y.2
def cluster_Best.E (k : Nat) : Env R := ⟨tabOf tabL, ctOf [(38, (cluster_best.F.sem (cluster_best.p k)))], mtNone, fun _ => false, codes, rts, 17, fun _ => [], owns, [], eqtOf eqs, fun _ => false, flats, mpsOf mps, byt_⟩
def cluster_Best.cs : List (CutS R (Int × Int × Int × Int × Int × Bool × Bool × Bool)) := []
theorem cluster_Best.hE (k : Nat) : EnvOk Try.prog (cluster_Best.E k) := ⟨tabs, ctOf_ok (all_cons (cluster_best.ok k) all_nil), mtNone_ok, mixed, eqs_, flats_, mps_⟩
theorem cluster_Best.q (k : Nat) (y : (List S25) × Int) : cluster_Best.p k y = cluster_Best.F.run cluster_Best.E Try.f18.results.toList (bodyOf Try.f18) cluster_Best.cs k y := by kernel_rfl
theorem cluster_Best.ok (k : Nat) : CsemOk R Try.prog 18 (cluster_Best.F.sem (cluster_Best.p k)) := fn_ok (F := cluster_Best.F) (f := cluster_Best.p) (E := cluster_Best.E) cluster_Best.hE (fun _ => rfl) Try.func18 (body := (bodyOf Try.f18)) rfl (by kernel_rfl) rfl (by decide) (by kernel_rfl) (cuts := cluster_Best.cs) all_nil cluster_Best.q k
def foliotref14_Best.F : FnS R ((List S25) × Int) (Int × Int × Int × Int × Int × Bool × Bool × Bool) := ⟨[.lf, .lf], [], (.cons (dRo 0) (.last (dInt .i64) .nil)), .tup [some 7, none], [], (.cons (dInt .i64) (.cons (dInt .i64) (.cons (dInt .i64) (.cons (dInt .i64) (.cons (dInt .i64) (.cons dBool (.cons dBool (.last dBool .nil))))))))⟩
def foliotref14_Best.p (k : Nat) (y : (List S25) × Int) : Option (Int × Int × Int × Int × Int × Bool × Bool × Bool) := foliotref14_Best.f k y.1 y.2
def foliotref14_Best.E (k : Nat) : Env R := ⟨tabOf tabL, ctOf [], mtNone, fun _ => false, codes, rts, 46, fun i => ordOf [(11, [(0, 0), (1, 0), (2, 0), (3, 0), (4, 0), (5, 0), (6, 0)])] i, owns, [], eqtOf eqs, fun _ => false, flats, mpsOf mps, byt_⟩
def foliotref14_Best.cl0 : CutS R (Int × Int × Int × Int × Int × Bool × Bool × Bool) := ⟨4, [0, 1, 4, 10, 11, 12], [], [.lf, .lf, .lf, .lf, .lf, .lf], [.blk 7 25], (List S25) × Int × (List S25) × Int × Int × Int × Int × Int × Int × Int × Bool × Bool, (.cons (dRo 0) (.cons (dInt .i64) (.ptr 0 0 (.cons (dRo 0) (.cons (dInt .i64) (.cons (dInt .i64) (.cons (dInt .i64) (.cons (dInt .i64) (.cons (dInt .i64) (.cons (dInt .i64) (.cons (dInt .i64) (.cons dBool (.last dBool .nil))))))))))))), fun k z => foliotref14_Best.l0 k z.1 z.2.1 z.2.2.1 z.2.2.2.1 z.2.2.2.2.1 z.2.2.2.2.2.1 z.2.2.2.2.2.2.1 z.2.2.2.2.2.2.2.1 z.2.2.2.2.2.2.2.2.1 z.2.2.2.2.2.2.2.2.2.1 z.2.2.2.2.2.2.2.2.2.2.1 z.2.2.2.2.2.2.2.2.2.2.2⟩
def foliotref14_Best.cl1 : CutS R (Int × Int × Int × Int × Int × Bool × Bool × Bool) := ⟨16, [0, 1, 4, 20, 21, 22], [], [.lf, .lf, .lf, .lf, .lf, .lf], [.blk 7 25], (List S25) × Int × (List S25) × Int × Int × Int × Int × Int × Int × Int × Bool × Bool, (.cons (dRo 0) (.cons (dInt .i64) (.ptr 0 0 (.cons (dRo 0) (.cons (dInt .i64) (.cons (dInt .i64) (.cons (dInt .i64) (.cons (dInt .i64) (.cons (dInt .i64) (.cons (dInt .i64) (.cons (dInt .i64) (.cons dBool (.last dBool .nil))))))))))))), fun k z => foliotref14_Best.l1 k z.1 z.2.1 z.2.2.1 z.2.2.2.1 z.2.2.2.2.1 z.2.2.2.2.2.1 z.2.2.2.2.2.2.1 z.2.2.2.2.2.2.2.1 z.2.2.2.2.2.2.2.2.1 z.2.2.2.2.2.2.2.2.2.1 z.2.2.2.2.2.2.2.2.2.2.1 z.2.2.2.2.2.2.2.2.2.2.2⟩
def foliotref14_Best.cj0 : CutS R (Int × Int × Int × Int × Int × Bool × Bool × Bool) := ⟨28, [0, 4], [], [.lf, .lf], [.blk 7 25], (List S25) × Int × Int × Int × Int × Int × Bool × Bool, (.cons (dRo 0) (.ptr 0 0 (.cons (dInt .i64) (.cons (dInt .i64) (.cons (dInt .i64) (.cons (dInt .i64) (.cons (dInt .i64) (.cons dBool (.last dBool .nil))))))))), fun k z => foliotref14_Best.j0 k z.1 z.2.1 z.2.2.1 z.2.2.2.1 z.2.2.2.2.1 z.2.2.2.2.2.1 z.2.2.2.2.2.2.1 z.2.2.2.2.2.2.2⟩
def foliotref14_Best.cs : List (CutS R (Int × Int × Int × Int × Int × Bool × Bool × Bool)) := [foliotref14_Best.cl0, foliotref14_Best.cl1, foliotref14_Best.cj0]
theorem foliotref14_Best.hE (k : Nat) : EnvOk Try.prog (foliotref14_Best.E k) := ⟨tabs, ctOf_ok all_nil, mtNone_ok, mixed, eqs_, flats_, mps_⟩
theorem foliotref14_Best.ol0 : (foliotref14_Best.cl0).Ok foliotref14_Best.E Try.f19.results.toList 0 (bodyOf Try.f19) foliotref14_Best.cs foliotref14_Best.F.ret := ⟨fun z => rfl, fun k z => by
 show foliotref14_Best.l0 (k + 1) z.1 z.2.1 z.2.2.1 z.2.2.2.1 z.2.2.2.2.1 z.2.2.2.2.2.1 z.2.2.2.2.2.2.1 z.2.2.2.2.2.2.2.1 z.2.2.2.2.2.2.2.2.1 z.2.2.2.2.2.2.2.2.2.1 z.2.2.2.2.2.2.2.2.2.2.1 z.2.2.2.2.2.2.2.2.2.2.2 = _
 rw [foliotref14_Best.l0]
 kernel_rfl⟩
theorem foliotref14_Best.ol1 : (foliotref14_Best.cl1).Ok foliotref14_Best.E Try.f19.results.toList 0 (bodyOf Try.f19) foliotref14_Best.cs foliotref14_Best.F.ret := ⟨fun z => rfl, fun k z => by
 show foliotref14_Best.l1 (k + 1) z.1 z.2.1 z.2.2.1 z.2.2.2.1 z.2.2.2.2.1 z.2.2.2.2.2.1 z.2.2.2.2.2.2.1 z.2.2.2.2.2.2.2.1 z.2.2.2.2.2.2.2.2.1 z.2.2.2.2.2.2.2.2.2.1 z.2.2.2.2.2.2.2.2.2.2.1 z.2.2.2.2.2.2.2.2.2.2.2 = _
 rw [foliotref14_Best.l1]
 kernel_rfl⟩
theorem foliotref14_Best.oj0 : (foliotref14_Best.cj0).Ok foliotref14_Best.E Try.f19.results.toList 0 (bodyOf Try.f19) foliotref14_Best.cs foliotref14_Best.F.ret := ⟨fun z => rfl, fun k z => by
 show foliotref14_Best.j0 (k + 1) z.1 z.2.1 z.2.2.1 z.2.2.2.1 z.2.2.2.2.1 z.2.2.2.2.2.1 z.2.2.2.2.2.2.1 z.2.2.2.2.2.2.2 = _
 rw [foliotref14_Best.j0]
 kernel_rfl⟩
theorem foliotref14_Best.q (k : Nat) (y : (List S25) × Int) : foliotref14_Best.p k y = foliotref14_Best.F.run foliotref14_Best.E Try.f19.results.toList (bodyOf Try.f19) foliotref14_Best.cs k y := by kernel_rfl
theorem foliotref14_Best.ok (k : Nat) : CsemOk R Try.prog 19 (foliotref14_Best.F.sem (foliotref14_Best.p k)) := fn_ok (F := foliotref14_Best.F) (f := foliotref14_Best.p) (E := foliotref14_Best.E) foliotref14_Best.hE (fun _ => rfl) Try.func19 (body := (bodyOf Try.f19)) rfl (by kernel_rfl) rfl (by decide) (by kernel_rfl) (cuts := foliotref14_Best.cs) (all_cons foliotref14_Best.ol0 (all_cons foliotref14_Best.ol1 (all_cons foliotref14_Best.oj0 all_nil))) foliotref14_Best.q k
def foliotref14_better.F : FnS R (Int × Int × Int × Int × Int × Bool × Bool × Int × Int × Int × Int × Int × Bool × Bool) (Bool) := ⟨[.agg 7, .agg 7], [], (.cons (dInt .i64) (.cons (dInt .i64) (.cons (dInt .i64) (.cons (dInt .i64) (.cons (dInt .i64) (.cons dBool (.cons dBool (.cons (dInt .i64) (.cons (dInt .i64) (.cons (dInt .i64) (.cons (dInt .i64) (.cons (dInt .i64) (.cons dBool (.last dBool .nil)))))))))))))), .lf, [], (.last dBool .nil)⟩
def foliotref14_better.p (k : Nat) (y : Int × Int × Int × Int × Int × Bool × Bool × Int × Int × Int × Int × Int × Bool × Bool) : Option (Bool) := foliotref14_better.f k y.1 y.2.1 y.2.2.1 y.2.2.2.1 y.2.2.2.2.1 y.2.2.2.2.2.1 y.2.2.2.2.2.2.1 y.2.2.2.2.2.2.2.1 y.2.2.2.2.2.2.2.2.1 y.2.2.2.2.2.2.2.2.2.1 y.2.2.2.2.2.2.2.2.2.2.1 y.2.2.2.2.2.2.2.2.2.2.2.1 y.2.2.2.2.2.2.2.2.2.2.2.2.1 y.2.2.2.2.2.2.2.2.2.2.2.2.2
def foliotref14_better.E (k : Nat) : Env R := ⟨tabOf tabL, ctOf [(14, (foliotref14_Merit.F.sem (foliotref14_Merit.p k)))], mtNone, fun f => memB f [14], codes, rts, 24, fun i => ordOf [(1, [(0, 0), (1, 0), (2, 0), (3, 0), (4, 0), (5, 0), (6, 0), (7, 0), (8, 0), (9, 0), (10, 0), (11, 0), (12, 0), (13, 0), (14, 0), (15, 0), (16, 0), (17, 0), (18, 0), (19, 0)])] i, owns, [], eqtOf eqs, fun _ => false, flats, mpsOf mps, byt_⟩
def foliotref14_better.cs : List (CutS R (Bool)) := []
theorem foliotref14_better.hE (k : Nat) : EnvOk Try.prog (foliotref14_better.E k) := ⟨tabs, ctOf_ok (all_cons (foliotref14_Merit.ok k) all_nil), mtNone_ok, mixed, eqs_, flats_, mps_⟩
theorem foliotref14_better.q (k : Nat) (y : Int × Int × Int × Int × Int × Bool × Bool × Int × Int × Int × Int × Int × Bool × Bool) : foliotref14_better.p k y = foliotref14_better.F.run foliotref14_better.E Try.f69.results.toList (bodyOf Try.f69) foliotref14_better.cs k y := by kernel_rfl
theorem foliotref14_better.ok (k : Nat) : CsemOk R Try.prog 69 (foliotref14_better.F.sem (foliotref14_better.p k)) := fn_ok (F := foliotref14_better.F) (f := foliotref14_better.p) (E := foliotref14_better.E) foliotref14_better.hE (fun _ => rfl) Try.func69 (body := (bodyOf Try.f69)) rfl (by kernel_rfl) rfl (by decide) (by kernel_rfl) (cuts := foliotref14_better.cs) all_nil foliotref14_better.q k
def foliotref14_sorted.F : FnS R ((List S25)) ((List S25)) := ⟨[.lf], [], (.last (dRo 0) .nil), .lf, [.row 0 25], (.row 0 0 (.last (dRo 0) .nil))⟩
def foliotref14_sorted.p (k : Nat) (y : (List S25)) : Option ((List S25)) := foliotref14_sorted.f k y
def foliotref14_sorted.E (k : Nat) : Env R := ⟨tabOf tabL, ctOf [(69, (foliotref14_better.F.sem (foliotref14_better.p k)))], mtNone, fun f => memB f [69], codes, rts, 45, fun i => ordOf [(6, [(0, 0), (1, 0), (2, 0), (3, 0), (4, 0), (5, 0), (6, 0), (7, 0), (8, 0), (9, 0), (10, 0)])] i, owns, [], eqtOf eqs, fun _ => false, flats, mpsOf mps, byt_⟩
def foliotref14_sorted.cl0 : CutS R ((List S25)) := ⟨6, [3, 8, 9, 10], [some (.row 0 25), none, none, none], [.lf, .lf, .lf, .lf], [.row 0 25], (List S25) × Int × Int × (List S25), (.row 0 0 (.cons (dRo 0) (.cons (dInt .i64) (.cons (dInt .i64) (.last (dRo 0) .nil))))), fun k z => foliotref14_sorted.l0 k z.1 z.2.1 z.2.2.1 z.2.2.2⟩
def foliotref14_sorted.cl1 : CutS R ((List S25)) := ⟨12, [3, 5, 6, 8, 9, 10], [], [.lf, .lf, .lf, .lf, .lf, .lf], [.row 0 25, .blk 7 25], Int × (List S25) × Int × Int × (List S25) × Int × Int × Int × Int × Int × Bool × Bool, (.row 0 0 (.ptr 1 0 (.cons (dInt .i64) (.cons (dRo 0) (.cons (dInt .i64) (.cons (dInt .i64) (.cons (dRo 0) (.cons (dInt .i64) (.cons (dInt .i64) (.cons (dInt .i64) (.cons (dInt .i64) (.cons (dInt .i64) (.cons dBool (.last dBool .nil)))))))))))))), fun k z => foliotref14_sorted.l1 k z.1 z.2.1 z.2.2.1 z.2.2.2.1 z.2.2.2.2.1 z.2.2.2.2.2.1 z.2.2.2.2.2.2.1 z.2.2.2.2.2.2.2.1 z.2.2.2.2.2.2.2.2.1 z.2.2.2.2.2.2.2.2.2.1 z.2.2.2.2.2.2.2.2.2.2.1 z.2.2.2.2.2.2.2.2.2.2.2⟩
def foliotref14_sorted.cs : List (CutS R ((List S25))) := [foliotref14_sorted.cl0, foliotref14_sorted.cl1]
theorem foliotref14_sorted.hE (k : Nat) : EnvOk Try.prog (foliotref14_sorted.E k) := ⟨tabs, ctOf_ok (all_cons (foliotref14_better.ok k) all_nil), mtNone_ok, mixed, eqs_, flats_, mps_⟩
theorem foliotref14_sorted.ol0 : (foliotref14_sorted.cl0).Ok foliotref14_sorted.E Try.f44.results.toList 0 (bodyOf Try.f44) foliotref14_sorted.cs foliotref14_sorted.F.ret := ⟨fun z => rfl, fun k z => by
 show foliotref14_sorted.l0 (k + 1) z.1 z.2.1 z.2.2.1 z.2.2.2 = _
 rw [foliotref14_sorted.l0]
 kernel_rfl⟩
theorem foliotref14_sorted.ol1 : (foliotref14_sorted.cl1).Ok foliotref14_sorted.E Try.f44.results.toList 0 (bodyOf Try.f44) foliotref14_sorted.cs foliotref14_sorted.F.ret := ⟨fun z => rfl, fun k z => by
 show foliotref14_sorted.l1 (k + 1) z.1 z.2.1 z.2.2.1 z.2.2.2.1 z.2.2.2.2.1 z.2.2.2.2.2.1 z.2.2.2.2.2.2.1 z.2.2.2.2.2.2.2.1 z.2.2.2.2.2.2.2.2.1 z.2.2.2.2.2.2.2.2.2.1 z.2.2.2.2.2.2.2.2.2.2.1 z.2.2.2.2.2.2.2.2.2.2.2 = _
 rw [foliotref14_sorted.l1]
 kernel_rfl⟩
theorem foliotref14_sorted.q (k : Nat) (y : (List S25)) : foliotref14_sorted.p k y = foliotref14_sorted.F.run foliotref14_sorted.E Try.f44.results.toList (bodyOf Try.f44) foliotref14_sorted.cs k y := by kernel_rfl
theorem foliotref14_sorted.ok (k : Nat) : CsemOk R Try.prog 44 (foliotref14_sorted.F.sem (foliotref14_sorted.p k)) := fn_ok (F := foliotref14_sorted.F) (f := foliotref14_sorted.p) (E := foliotref14_sorted.E) foliotref14_sorted.hE (fun _ => rfl) Try.func44 (body := (bodyOf Try.f44)) rfl (by kernel_rfl) rfl (by decide) (by kernel_rfl) (cuts := foliotref14_sorted.cs) (all_cons foliotref14_sorted.ol0 (all_cons foliotref14_sorted.ol1 all_nil)) foliotref14_sorted.q k
def foliotref14_Cluster.F : FnS R ((List S25)) ((Nat × Nat) × (List S25)) := ⟨[.lf], [], (.last (dRo 0) .nil), .lf, [.row 0 25], (.cons (dSl 0 0) (.last (dRo 0) .nil))⟩
def foliotref14_Cluster.p (k : Nat) (y : (List S25)) : Option ((Nat × Nat) × (List S25)) := foliotref14_Cluster.f k y
def foliotref14_Cluster.E (k : Nat) : Env R := ⟨tabOf tabL, ctOf [(44, (foliotref14_sorted.F.sem (foliotref14_sorted.p k))), (43, (foliotref14_jitter.F.sem (foliotref14_jitter.p k)))], mtNone, fun f => memB f [43], codes, rts, 73, fun i => ordOf [(4, [(0, 0), (1, 0), (2, 0), (3, 0), (4, 0), (5, 0), (6, 0)])] i, owns, [], eqtOf eqs, fun _ => false, flats, mpsOf mps, byt_⟩
def foliotref14_Cluster.cl0 : CutS R ((Nat × Nat) × (List S25)) := ⟨6, [3], [some (.sl 0)], [.lf], [.row 0 25], (Nat × Nat) × (List S25), (.cons (dSl 0 0) (.last (dRo 0) .nil)), fun k z => foliotref14_Cluster.l0 k z.1 z.2⟩
def foliotref14_Cluster.cl1 : CutS R ((Nat × Nat) × (List S25)) := ⟨12, [3, 4, 5, 6, 25, 26, 27], [], [.lf, .lf, .lf, .lf, .lf, .lf, .lf], [.row 0 25], (Nat × Nat) × Int × Int × Int × (Nat × Nat) × Int × Int × (List S25), (.cons (dSl 0 0) (.cons (dInt .i64) (.cons (dInt .i64) (.cons (dInt .i64) (.cons (dSl 0 0) (.cons (dInt .i64) (.cons (dInt .i64) (.last (dRo 0) .nil)))))))), fun k z => foliotref14_Cluster.l1 k z.1 z.2.1 z.2.2.1 z.2.2.2.1 z.2.2.2.2.1 z.2.2.2.2.2.1 z.2.2.2.2.2.2.1 z.2.2.2.2.2.2.2⟩
def foliotref14_Cluster.cs : List (CutS R ((Nat × Nat) × (List S25))) := [foliotref14_Cluster.cl0, foliotref14_Cluster.cl1]
theorem foliotref14_Cluster.hE (k : Nat) : EnvOk Try.prog (foliotref14_Cluster.E k) := ⟨tabs, ctOf_ok (all_cons (foliotref14_sorted.ok k) (all_cons (foliotref14_jitter.ok k) all_nil)), mtNone_ok, mixed, eqs_, flats_, mps_⟩
theorem foliotref14_Cluster.ol0 : (foliotref14_Cluster.cl0).Ok foliotref14_Cluster.E Try.f20.results.toList 0 (bodyOf Try.f20) foliotref14_Cluster.cs foliotref14_Cluster.F.ret := ⟨fun z => rfl, fun k z => by
 show foliotref14_Cluster.l0 (k + 1) z.1 z.2 = _
 rw [foliotref14_Cluster.l0]
 kernel_rfl⟩
theorem foliotref14_Cluster.ol1 : (foliotref14_Cluster.cl1).Ok foliotref14_Cluster.E Try.f20.results.toList 0 (bodyOf Try.f20) foliotref14_Cluster.cs foliotref14_Cluster.F.ret := ⟨fun z => rfl, fun k z => by
 show foliotref14_Cluster.l1 (k + 1) z.1 z.2.1 z.2.2.1 z.2.2.2.1 z.2.2.2.2.1 z.2.2.2.2.2.1 z.2.2.2.2.2.2.1 z.2.2.2.2.2.2.2 = _
 rw [foliotref14_Cluster.l1]
 kernel_rfl⟩
theorem foliotref14_Cluster.q (k : Nat) (y : (List S25)) : foliotref14_Cluster.p k y = foliotref14_Cluster.F.run foliotref14_Cluster.E Try.f20.results.toList (bodyOf Try.f20) foliotref14_Cluster.cs k y := by kernel_rfl
theorem foliotref14_Cluster.ok (k : Nat) : CsemOk R Try.prog 20 (foliotref14_Cluster.F.sem (foliotref14_Cluster.p k)) := fn_ok (F := foliotref14_Cluster.F) (f := foliotref14_Cluster.p) (E := foliotref14_Cluster.E) foliotref14_Cluster.hE (fun _ => rfl) Try.func20 (body := (bodyOf Try.f20)) rfl (by kernel_rfl) rfl (by decide) (by kernel_rfl) (cuts := foliotref14_Cluster.cs) (all_cons foliotref14_Cluster.ol0 (all_cons foliotref14_Cluster.ol1 all_nil)) foliotref14_Cluster.q k
def foliotref14_Select.F : FnS R ((List S25) × Int) (Int) := ⟨[.lf, .lf], [], (.cons (dRo 0) (.last (dInt .i64) .nil)), .lf, [], (.last (dInt .i64) .nil)⟩
def foliotref14_Select.p (k : Nat) (y : (List S25) × Int) : Option (Int) := foliotref14_Select.f k y.1 y.2
def foliotref14_Select.E (k : Nat) : Env R := ⟨tabOf tabL, ctOf [(43, (foliotref14_jitter.F.sem (foliotref14_jitter.p k)))], mtNone, fun _ => false, codes, rts, 22, fun _ => [], owns, [], eqtOf eqs, fun _ => false, flats, mpsOf mps, byt_⟩
def foliotref14_Select.cl0 : CutS R (Int) := ⟨4, [0, 1, 7, 8, 9], [], [.lf, .lf, .lf, .lf, .lf], [], (List S25) × Int × (List S25) × Int × Int, (.cons (dRo 0) (.cons (dInt .i64) (.cons (dRo 0) (.cons (dInt .i64) (.last (dInt .i64) .nil))))), fun k z => foliotref14_Select.l0 k z.1 z.2.1 z.2.2.1 z.2.2.2.1 z.2.2.2.2⟩
def foliotref14_Select.cs : List (CutS R (Int)) := [foliotref14_Select.cl0]
theorem foliotref14_Select.hE (k : Nat) : EnvOk Try.prog (foliotref14_Select.E k) := ⟨tabs, ctOf_ok (all_cons (foliotref14_jitter.ok k) all_nil), mtNone_ok, mixed, eqs_, flats_, mps_⟩
theorem foliotref14_Select.ol0 : (foliotref14_Select.cl0).Ok foliotref14_Select.E Try.f22.results.toList 0 (bodyOf Try.f22) foliotref14_Select.cs foliotref14_Select.F.ret := ⟨fun z => rfl, fun k z => by
 show foliotref14_Select.l0 (k + 1) z.1 z.2.1 z.2.2.1 z.2.2.2.1 z.2.2.2.2 = _
 rw [foliotref14_Select.l0]
 kernel_rfl⟩
theorem foliotref14_Select.q (k : Nat) (y : (List S25) × Int) : foliotref14_Select.p k y = foliotref14_Select.F.run foliotref14_Select.E Try.f22.results.toList (bodyOf Try.f22) foliotref14_Select.cs k y := by kernel_rfl
theorem foliotref14_Select.ok (k : Nat) : CsemOk R Try.prog 22 (foliotref14_Select.F.sem (foliotref14_Select.p k)) := fn_ok (F := foliotref14_Select.F) (f := foliotref14_Select.p) (E := foliotref14_Select.E) foliotref14_Select.hE (fun _ => rfl) Try.func22 (body := (bodyOf Try.f22)) rfl (by kernel_rfl) rfl (by decide) (by kernel_rfl) (cuts := foliotref14_Select.cs) (all_cons foliotref14_Select.ol0 all_nil) foliotref14_Select.q k
def foliotref14_Mitigate.F : FnS R ((List S25) × Int) (Int × Int × Int × Bool × Bool) := ⟨[.lf, .lf], [], (.cons (dRo 0) (.last (dInt .i64) .nil)), .agg 5, [], (.cons (dInt .i64) (.cons (dInt .i64) (.cons (dInt .i64) (.cons dBool (.last dBool .nil)))))⟩
def foliotref14_Mitigate.p (k : Nat) (y : (List S25) × Int) : Option (Int × Int × Int × Bool × Bool) := foliotref14_Mitigate.f k y.1 y.2
def foliotref14_Mitigate.E (k : Nat) : Env R := ⟨tabOf tabL, ctOf [(20, (foliotref14_Cluster.F.sem (foliotref14_Cluster.p k))), (19, (foliotref14_Best.F.sem (foliotref14_Best.p k))), (17, (foliotref14_Combine.F.sem (foliotref14_Combine.p k)))], mtNone, fun f => memB f [17, 19], codes, rts, 107, fun _ => [], owns, [], eqtOf eqs, fun _ => false, flats, mpsOf mps, byt_⟩
def foliotref14_Mitigate.cl0 : CutS R (Int × Int × Int × Bool × Bool) := ⟨8, [1, 4, 5, 6, 7, 8, 20, 21, 22], [none, none, some (.row 0 25), none, none, none, none, none, none], [.lf, .lf, .lf, .lf, .lf, .lf, .lf, .lf, .lf], [.blk 5 44, .row 0 25, .blk 7 25, .row 0 25], Int × Bool × (Nat × Nat) × Int × Int × Int × Int × Int × Bool × Bool × (List S25) × Int × Int × Int × Int × Int × Bool × Bool × (List S25), (.cons (dInt .i64) (.ptr 0 0 (.row 0 1 (.nils (.ptr 2 0 (.cons dBool (.cons (dSl 0 3) (.cons (dInt .i64) (.cons (dInt .i64) (.cons (dInt .i64) (.cons (dInt .i64) (.cons (dInt .i64) (.cons dBool (.cons dBool (.cons (dRo 0) (.cons (dInt .i64) (.cons (dInt .i64) (.cons (dInt .i64) (.cons (dInt .i64) (.cons (dInt .i64) (.cons dBool (.cons dBool (.last (dRo 0) .nil))))))))))))))))))))))), fun k z => foliotref14_Mitigate.l0 k z.1 z.2.1 z.2.2.1 z.2.2.2.1 z.2.2.2.2.1 z.2.2.2.2.2.1 z.2.2.2.2.2.2.1 z.2.2.2.2.2.2.2.1 z.2.2.2.2.2.2.2.2.1 z.2.2.2.2.2.2.2.2.2.1 z.2.2.2.2.2.2.2.2.2.2.1 z.2.2.2.2.2.2.2.2.2.2.2.1 z.2.2.2.2.2.2.2.2.2.2.2.2.1 z.2.2.2.2.2.2.2.2.2.2.2.2.2.1 z.2.2.2.2.2.2.2.2.2.2.2.2.2.2.1 z.2.2.2.2.2.2.2.2.2.2.2.2.2.2.2.1 z.2.2.2.2.2.2.2.2.2.2.2.2.2.2.2.2.1 z.2.2.2.2.2.2.2.2.2.2.2.2.2.2.2.2.2.1 z.2.2.2.2.2.2.2.2.2.2.2.2.2.2.2.2.2.2⟩
def foliotref14_Mitigate.cl1 : CutS R (Int × Int × Int × Bool × Bool) := ⟨42, [4, 6, 11, 13, 79, 80, 81], [], [.lf, .lf, .lf, .lf, .lf, .lf, .lf], [.blk 5 44, .row 0 25, .blk 7 25, .row 0 25], Bool × Int × Int × Int × Int × Int × Bool × Bool × (List S25) × Int × Int × Int × Int × Int × Bool × Bool × (List S25), (.ptr 0 0 (.row 0 1 (.ptr 2 0 (.cons dBool (.row 0 3 (.cons (dInt .i64) (.cons (dInt .i64) (.cons (dInt .i64) (.cons (dInt .i64) (.cons (dInt .i64) (.cons dBool (.cons dBool (.cons (dRo 0) (.cons (dInt .i64) (.cons (dInt .i64) (.cons (dInt .i64) (.cons (dInt .i64) (.cons (dInt .i64) (.cons dBool (.cons dBool (.last (dRo 0) .nil))))))))))))))))))))), fun k z => foliotref14_Mitigate.l1 k z.1 z.2.1 z.2.2.1 z.2.2.2.1 z.2.2.2.2.1 z.2.2.2.2.2.1 z.2.2.2.2.2.2.1 z.2.2.2.2.2.2.2.1 z.2.2.2.2.2.2.2.2.1 z.2.2.2.2.2.2.2.2.2.1 z.2.2.2.2.2.2.2.2.2.2.1 z.2.2.2.2.2.2.2.2.2.2.2.1 z.2.2.2.2.2.2.2.2.2.2.2.2.1 z.2.2.2.2.2.2.2.2.2.2.2.2.2.1 z.2.2.2.2.2.2.2.2.2.2.2.2.2.2.1 z.2.2.2.2.2.2.2.2.2.2.2.2.2.2.2.1 z.2.2.2.2.2.2.2.2.2.2.2.2.2.2.2.2⟩
def foliotref14_Mitigate.cj0 : CutS R (Int × Int × Int × Bool × Bool) := ⟨52, [4, 6, 11, 13, 79, 80, 81], [], [.lf, .lf, .lf, .lf, .lf, .lf, .lf], [.blk 5 44, .row 0 25, .blk 7 25, .row 0 25], Bool × Int × Int × Int × Int × Int × Bool × Bool × (List S25) × Int × Int × Int × Int × Int × Bool × Bool × (List S25), (.ptr 0 0 (.row 0 1 (.ptr 2 0 (.cons dBool (.row 0 3 (.cons (dInt .i64) (.cons (dInt .i64) (.cons (dInt .i64) (.cons (dInt .i64) (.cons (dInt .i64) (.cons dBool (.cons dBool (.cons (dRo 0) (.cons (dInt .i64) (.cons (dInt .i64) (.cons (dInt .i64) (.cons (dInt .i64) (.cons (dInt .i64) (.cons dBool (.cons dBool (.last (dRo 0) .nil))))))))))))))))))))), fun k z => foliotref14_Mitigate.j0 k z.1 z.2.1 z.2.2.1 z.2.2.2.1 z.2.2.2.2.1 z.2.2.2.2.2.1 z.2.2.2.2.2.2.1 z.2.2.2.2.2.2.2.1 z.2.2.2.2.2.2.2.2.1 z.2.2.2.2.2.2.2.2.2.1 z.2.2.2.2.2.2.2.2.2.2.1 z.2.2.2.2.2.2.2.2.2.2.2.1 z.2.2.2.2.2.2.2.2.2.2.2.2.1 z.2.2.2.2.2.2.2.2.2.2.2.2.2.1 z.2.2.2.2.2.2.2.2.2.2.2.2.2.2.1 z.2.2.2.2.2.2.2.2.2.2.2.2.2.2.2.1 z.2.2.2.2.2.2.2.2.2.2.2.2.2.2.2.2⟩
def foliotref14_Mitigate.cj1 : CutS R (Int × Int × Int × Bool × Bool) := ⟨20, [1, 4, 5, 6, 7, 8, 20, 21, 22], [], [.lf, .lf, .lf, .lf, .lf, .lf, .lf, .lf, .lf], [.blk 5 44, .row 0 25, .blk 7 25, .row 0 25], Int × Bool × (Nat × Nat) × Int × Int × Int × Int × Int × Bool × Bool × (List S25) × Int × Int × Int × Int × Int × Bool × Bool × (List S25), (.cons (dInt .i64) (.ptr 0 0 (.row 0 1 (.nils (.ptr 2 0 (.cons dBool (.cons (dSl 0 3) (.cons (dInt .i64) (.cons (dInt .i64) (.cons (dInt .i64) (.cons (dInt .i64) (.cons (dInt .i64) (.cons dBool (.cons dBool (.cons (dRo 0) (.cons (dInt .i64) (.cons (dInt .i64) (.cons (dInt .i64) (.cons (dInt .i64) (.cons (dInt .i64) (.cons dBool (.cons dBool (.last (dRo 0) .nil))))))))))))))))))))))), fun k z => foliotref14_Mitigate.j1 k z.1 z.2.1 z.2.2.1 z.2.2.2.1 z.2.2.2.2.1 z.2.2.2.2.2.1 z.2.2.2.2.2.2.1 z.2.2.2.2.2.2.2.1 z.2.2.2.2.2.2.2.2.1 z.2.2.2.2.2.2.2.2.2.1 z.2.2.2.2.2.2.2.2.2.2.1 z.2.2.2.2.2.2.2.2.2.2.2.1 z.2.2.2.2.2.2.2.2.2.2.2.2.1 z.2.2.2.2.2.2.2.2.2.2.2.2.2.1 z.2.2.2.2.2.2.2.2.2.2.2.2.2.2.1 z.2.2.2.2.2.2.2.2.2.2.2.2.2.2.2.1 z.2.2.2.2.2.2.2.2.2.2.2.2.2.2.2.2.1 z.2.2.2.2.2.2.2.2.2.2.2.2.2.2.2.2.2.1 z.2.2.2.2.2.2.2.2.2.2.2.2.2.2.2.2.2.2⟩
def foliotref14_Mitigate.cs : List (CutS R (Int × Int × Int × Bool × Bool)) := [foliotref14_Mitigate.cl0, foliotref14_Mitigate.cl1, foliotref14_Mitigate.cj0, foliotref14_Mitigate.cj1]
theorem foliotref14_Mitigate.hE (k : Nat) : EnvOk Try.prog (foliotref14_Mitigate.E k) := ⟨tabs, ctOf_ok (all_cons (foliotref14_Cluster.ok k) (all_cons (foliotref14_Best.ok k) (all_cons (foliotref14_Combine.ok k) all_nil))), mtNone_ok, mixed, eqs_, flats_, mps_⟩
theorem foliotref14_Mitigate.ol0 : (foliotref14_Mitigate.cl0).Ok foliotref14_Mitigate.E Try.f23.results.toList 0 (bodyOf Try.f23) foliotref14_Mitigate.cs foliotref14_Mitigate.F.ret := ⟨fun z => rfl, fun k z => by
 show foliotref14_Mitigate.l0 (k + 1) z.1 z.2.1 z.2.2.1 z.2.2.2.1 z.2.2.2.2.1 z.2.2.2.2.2.1 z.2.2.2.2.2.2.1 z.2.2.2.2.2.2.2.1 z.2.2.2.2.2.2.2.2.1 z.2.2.2.2.2.2.2.2.2.1 z.2.2.2.2.2.2.2.2.2.2.1 z.2.2.2.2.2.2.2.2.2.2.2.1 z.2.2.2.2.2.2.2.2.2.2.2.2.1 z.2.2.2.2.2.2.2.2.2.2.2.2.2.1 z.2.2.2.2.2.2.2.2.2.2.2.2.2.2.1 z.2.2.2.2.2.2.2.2.2.2.2.2.2.2.2.1 z.2.2.2.2.2.2.2.2.2.2.2.2.2.2.2.2.1 z.2.2.2.2.2.2.2.2.2.2.2.2.2.2.2.2.2.1 z.2.2.2.2.2.2.2.2.2.2.2.2.2.2.2.2.2.2 = _
 rw [foliotref14_Mitigate.l0]
 kernel_rfl⟩
theorem foliotref14_Mitigate.ol1 : (foliotref14_Mitigate.cl1).Ok foliotref14_Mitigate.E Try.f23.results.toList 0 (bodyOf Try.f23) foliotref14_Mitigate.cs foliotref14_Mitigate.F.ret := ⟨fun z => rfl, fun k z => by
 show foliotref14_Mitigate.l1 (k + 1) z.1 z.2.1 z.2.2.1 z.2.2.2.1 z.2.2.2.2.1 z.2.2.2.2.2.1 z.2.2.2.2.2.2.1 z.2.2.2.2.2.2.2.1 z.2.2.2.2.2.2.2.2.1 z.2.2.2.2.2.2.2.2.2.1 z.2.2.2.2.2.2.2.2.2.2.1 z.2.2.2.2.2.2.2.2.2.2.2.1 z.2.2.2.2.2.2.2.2.2.2.2.2.1 z.2.2.2.2.2.2.2.2.2.2.2.2.2.1 z.2.2.2.2.2.2.2.2.2.2.2.2.2.2.1 z.2.2.2.2.2.2.2.2.2.2.2.2.2.2.2.1 z.2.2.2.2.2.2.2.2.2.2.2.2.2.2.2.2 = _
 rw [foliotref14_Mitigate.l1]
 kernel_rfl⟩
theorem foliotref14_Mitigate.oj0 : (foliotref14_Mitigate.cj0).Ok foliotref14_Mitigate.E Try.f23.results.toList 0 (bodyOf Try.f23) foliotref14_Mitigate.cs foliotref14_Mitigate.F.ret := ⟨fun z => rfl, fun k z => by
 show foliotref14_Mitigate.j0 (k + 1) z.1 z.2.1 z.2.2.1 z.2.2.2.1 z.2.2.2.2.1 z.2.2.2.2.2.1 z.2.2.2.2.2.2.1 z.2.2.2.2.2.2.2.1 z.2.2.2.2.2.2.2.2.1 z.2.2.2.2.2.2.2.2.2.1 z.2.2.2.2.2.2.2.2.2.2.1 z.2.2.2.2.2.2.2.2.2.2.2.1 z.2.2.2.2.2.2.2.2.2.2.2.2.1 z.2.2.2.2.2.2.2.2.2.2.2.2.2.1 z.2.2.2.2.2.2.2.2.2.2.2.2.2.2.1 z.2.2.2.2.2.2.2.2.2.2.2.2.2.2.2.1 z.2.2.2.2.2.2.2.2.2.2.2.2.2.2.2.2 = _
 rw [foliotref14_Mitigate.j0]
 kernel_rfl⟩
theorem foliotref14_Mitigate.oj1 : (foliotref14_Mitigate.cj1).Ok foliotref14_Mitigate.E Try.f23.results.toList 0 (bodyOf Try.f23) foliotref14_Mitigate.cs foliotref14_Mitigate.F.ret := ⟨fun z => rfl, fun k z => by
 show foliotref14_Mitigate.j1 (k + 1) z.1 z.2.1 z.2.2.1 z.2.2.2.1 z.2.2.2.2.1 z.2.2.2.2.2.1 z.2.2.2.2.2.2.1 z.2.2.2.2.2.2.2.1 z.2.2.2.2.2.2.2.2.1 z.2.2.2.2.2.2.2.2.2.1 z.2.2.2.2.2.2.2.2.2.2.1 z.2.2.2.2.2.2.2.2.2.2.2.1 z.2.2.2.2.2.2.2.2.2.2.2.2.1 z.2.2.2.2.2.2.2.2.2.2.2.2.2.1 z.2.2.2.2.2.2.2.2.2.2.2.2.2.2.1 z.2.2.2.2.2.2.2.2.2.2.2.2.2.2.2.1 z.2.2.2.2.2.2.2.2.2.2.2.2.2.2.2.2.1 z.2.2.2.2.2.2.2.2.2.2.2.2.2.2.2.2.2.1 z.2.2.2.2.2.2.2.2.2.2.2.2.2.2.2.2.2.2 = _
 rw [foliotref14_Mitigate.j1]
 kernel_rfl⟩
theorem foliotref14_Mitigate.q (k : Nat) (y : (List S25) × Int) : foliotref14_Mitigate.p k y = foliotref14_Mitigate.F.run foliotref14_Mitigate.E Try.f23.results.toList (bodyOf Try.f23) foliotref14_Mitigate.cs k y := by kernel_rfl
theorem foliotref14_Mitigate.ok (k : Nat) : CsemOk R Try.prog 23 (foliotref14_Mitigate.F.sem (foliotref14_Mitigate.p k)) := fn_ok (F := foliotref14_Mitigate.F) (f := foliotref14_Mitigate.p) (E := foliotref14_Mitigate.E) foliotref14_Mitigate.hE (fun _ => rfl) Try.func23 (body := (bodyOf Try.f23)) rfl (by kernel_rfl) rfl (by decide) (by kernel_rfl) (cuts := foliotref14_Mitigate.cs) (all_cons foliotref14_Mitigate.ol0 (all_cons foliotref14_Mitigate.ol1 (all_cons foliotref14_Mitigate.oj0 (all_cons foliotref14_Mitigate.oj1 all_nil)))) foliotref14_Mitigate.q k
def foliotlaw14_ClusterChecks.F : FnS R ((List S25) × Int) (Bool) := ⟨[.lf, .lf], [], (.cons (dRo 0) (.last (dInt .i64) .nil)), .lf, [], (.last dBool .nil)⟩
def foliotlaw14_ClusterChecks.p (k : Nat) (y : (List S25) × Int) : Option (Bool) := foliotlaw14_ClusterChecks.f k y.1 y.2
def foliotlaw14_ClusterChecks.E (k : Nat) : Env R := ⟨tabOf tabL, ctOf [(10, (foliotlaw14_shown.F.sem (foliotlaw14_shown.p k))), (11, (foliotlaw14_few.F.sem (foliotlaw14_few.p k))), (12, (cluster_Cluster.F.sem (cluster_Cluster.p k))), (9, (cluster_Combine.F.sem (cluster_Combine.p k))), (17, (foliotref14_Combine.F.sem (foliotref14_Combine.p k))), (18, (cluster_Best.F.sem (cluster_Best.p k))), (19, (foliotref14_Best.F.sem (foliotref14_Best.p k))), (20, (foliotref14_Cluster.F.sem (foliotref14_Cluster.p k))), (15, (foliotlaw14_same.F.sem (foliotlaw14_same.p k))), (21, (cluster_Select.F.sem (cluster_Select.p k))), (22, (foliotref14_Select.F.sem (foliotref14_Select.p k))), (16, (cluster_Mitigate.F.sem (cluster_Mitigate.p k))), (23, (foliotref14_Mitigate.F.sem (foliotref14_Mitigate.p k)))], mtNone, fun f => memB f [9, 15, 16, 18, 21], codes, rts, 132, fun _ => [], owns, [], eqtOf eqs, fun f => memB f [12], flats, mpsOf mps, byt_⟩
def foliotlaw14_ClusterChecks.cl0 : CutS R (Bool) := ⟨26, [0, 5, 6, 108, 109], [], [.lf, .lf, .lf, .lf, .lf], [.row 0 25, .row 0 25], (List S25) × Int × Int × (List S25) × (List S25), (.cons (dRo 0) (.row 0 0 (.row 0 1 (.cons (dInt .i64) (.cons (dInt .i64) (.cons (dRo 0) (.last (dRo 0) .nil))))))), fun k z => foliotlaw14_ClusterChecks.l0 k z.1 z.2.1 z.2.2.1 z.2.2.2.1 z.2.2.2.2⟩
def foliotlaw14_ClusterChecks.cs : List (CutS R (Bool)) := [foliotlaw14_ClusterChecks.cl0]
theorem foliotlaw14_ClusterChecks.hE (k : Nat) : EnvOk Try.prog (foliotlaw14_ClusterChecks.E k) := ⟨tabs, ctOf_ok (all_cons (foliotlaw14_shown.ok k) (all_cons (foliotlaw14_few.ok k) (all_cons (cluster_Cluster.ok k) (all_cons (cluster_Combine.ok k) (all_cons (foliotref14_Combine.ok k) (all_cons (cluster_Best.ok k) (all_cons (foliotref14_Best.ok k) (all_cons (foliotref14_Cluster.ok k) (all_cons (foliotlaw14_same.ok k) (all_cons (cluster_Select.ok k) (all_cons (foliotref14_Select.ok k) (all_cons (cluster_Mitigate.ok k) (all_cons (foliotref14_Mitigate.ok k) all_nil))))))))))))), mtNone_ok, mixed, eqs_, flats_, mps_⟩
theorem foliotlaw14_ClusterChecks.ol0 : (foliotlaw14_ClusterChecks.cl0).Ok foliotlaw14_ClusterChecks.E Try.f8.results.toList 0 (bodyOf Try.f8) foliotlaw14_ClusterChecks.cs foliotlaw14_ClusterChecks.F.ret := ⟨fun z => rfl, fun k z => by
 show foliotlaw14_ClusterChecks.l0 (k + 1) z.1 z.2.1 z.2.2.1 z.2.2.2.1 z.2.2.2.2 = _
 rw [foliotlaw14_ClusterChecks.l0]
 kernel_rfl⟩
theorem foliotlaw14_ClusterChecks.q (k : Nat) (y : (List S25) × Int) : foliotlaw14_ClusterChecks.p k y = foliotlaw14_ClusterChecks.F.run foliotlaw14_ClusterChecks.E Try.f8.results.toList (bodyOf Try.f8) foliotlaw14_ClusterChecks.cs k y := by kernel_rfl
theorem foliotlaw14_ClusterChecks.ok (k : Nat) : CsemOk R Try.prog 8 (foliotlaw14_ClusterChecks.F.sem (foliotlaw14_ClusterChecks.p k)) := fn_ok (F := foliotlaw14_ClusterChecks.F) (f := foliotlaw14_ClusterChecks.p) (E := foliotlaw14_ClusterChecks.E) foliotlaw14_ClusterChecks.hE (fun _ => rfl) Try.func8 (body := (bodyOf Try.f8)) rfl (by kernel_rfl) rfl (by decide) (by kernel_rfl) (cuts := foliotlaw14_ClusterChecks.cs) (all_cons foliotlaw14_ClusterChecks.ol0 all_nil) foliotlaw14_ClusterChecks.q k
end Go.Proofs.Ytigcmpmpjmbfkaa.Q
