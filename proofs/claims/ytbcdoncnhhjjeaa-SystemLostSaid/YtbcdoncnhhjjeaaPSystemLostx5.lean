-- Written by a program (extend_print.py). Not trusted: Lean checks it.
import Derived.Test.YtbcdoncnhhjjeaaQSystemLost
import Derived.Lib.Strings
import Derived.Lib.Slices
import Derived.Lib.Small
import Derived.Lib.Walk
import Derived.Lib.BitFns
import Derived.Test.YtbcdoncnhhjjeaaPSystemLostx0
namespace Go.Proofs.Ytbcdoncnhhjjeaa.PSystemLost
open Go.RowKit Go.Proofs.YtbcdoncnhhjjeaaW.PrintWords Go.Proofs.YtbcdoncnhhjjeaaW.PrintLast Go.Proofs.YtbcdoncnhhjjeaaW.PrintMore
attribute [local go_sem] max2_int min2_int max_two min_two max_three min_three max_four min_four
set_option linter.unusedVariables false
set_option maxHeartbeats 8000000
set_option maxRecDepth 100000
set_option linter.unusedSimpArgs false
-- EXTIMPORTS Derived.Lib.Strings,Derived.Lib.Slices,Derived.Lib.Small,Derived.Lib.Walk,Derived.Lib.BitFns
def bits_Len64.f (a0 : Int) : Option (Int) := if 0 ≤ a0 ∧ a0 ≤ 18446744073709551615 then some (Lib.bitLen a0.toNat : Int) else none
theorem bits_Len64.tab (i : Int) (h0 : 0 ≤ i) (h1 : i ≤ 255) (h : i.toNat < Lib.len8tab.size) : ((Lib.len8tab[i.toNat]'h).toNat : Int) = (Lib.bitLen i.toNat : Int) := by
 rw [← Lib.len8_of i h0 h1]
 simp only [Lib.len8, ByteArray.getElem?_lt' _ _ h, Option.getD_some]
theorem bits_Len64.sum (c n b : Nat) (hc : c ≤ 56) (hb : b ≤ 8) (hn : n = c + b) : wrap64 ((c : Int) + wrap64 (b : Int)) = (n : Int) := by
 unfold wrap64
 omega
set_option maxHeartbeats 4000000 in
theorem bits_Len64.lib (x : Int) (w : World) (h0 : 0 ≤ x) (h1 : x ≤ 18446744073709551615) :
  Calls Try.prog 73 #[.int .u64 x] w fun e w' => e = .returned (.int .i64 (Lib.bitLen x.toNat)) ∧ w' = w := by
 have hs := Lib.len8tab_size
 go_enter Try.func73, Try.ntmps73
 go_wp2
 all_goals (go_ret; refine ⟨congrArg Ending.returned (congrArg (Value.int IntKind.i64) ?_), rfl⟩)
 ·rw [bits_Len64.tab (x / 4294967296 / 65536 / 256) q48 q48]
  have e : (x / 4294967296 / 65536 / 256).toNat = x.toNat / 72057594037927936 := by omega
  rw [e]
  exact bits_Len64.sum 56 _ _ q48 (by rw [← e]; exact Lib.bitLen_le8' _ q48 q48) (Lib.bitLen_shift56 x.toNat q48 q48)
 ·rw [bits_Len64.tab (x / 4294967296 / 65536) q48 q48]
  have e : (x / 4294967296 / 65536).toNat = x.toNat / 281474976710656 := by omega
  rw [e]
  exact bits_Len64.sum 48 _ _ q48 (by rw [← e]; exact Lib.bitLen_le8' _ q48 q48) (Lib.bitLen_shift48 x.toNat q48 q48)
 ·rw [bits_Len64.tab (x / 4294967296 / 256) q48 q48]
  have e : (x / 4294967296 / 256).toNat = x.toNat / 1099511627776 := by omega
  rw [e]
  exact bits_Len64.sum 40 _ _ q48 (by rw [← e]; exact Lib.bitLen_le8' _ q48 q48) (Lib.bitLen_shift40 x.toNat q48 q48)
 ·rw [bits_Len64.tab (x / 4294967296) q48 q48]
  have e : (x / 4294967296).toNat = x.toNat / 4294967296 := by omega
  rw [e]
  exact bits_Len64.sum 32 _ _ q48 (by rw [← e]; exact Lib.bitLen_le8' _ q48 q48) (Lib.bitLen_shift32 x.toNat q48 q48)
 ·rw [bits_Len64.tab (x / 65536 / 256) q48 q48]
  have e : (x / 65536 / 256).toNat = x.toNat / 16777216 := by omega
  rw [e]
  exact bits_Len64.sum 24 _ _ q48 (by rw [← e]; exact Lib.bitLen_le8' _ q48 q48) (Lib.bitLen_shift24 x.toNat q48 q48)
 ·rw [bits_Len64.tab (x / 65536) q48 q48]
  have e : (x / 65536).toNat = x.toNat / 65536 := by omega
  rw [e]
  exact bits_Len64.sum 16 _ _ q48 (by rw [← e]; exact Lib.bitLen_le8' _ q48 q48) (Lib.bitLen_shift16 x.toNat q48 q48)
 ·rw [bits_Len64.tab (x / 256) q48 q48]
  have e : (x / 256).toNat = x.toNat / 256 := by omega
  rw [e]
  exact bits_Len64.sum 8 _ _ q48 (by rw [← e]; exact Lib.bitLen_le8' _ q48 q48) (Lib.bitLen_shift8 x.toNat q48 q48)
 ·rw [bits_Len64.tab x q48 q48]
  have l := Lib.bitLen_le8' x q48 q48
  unfold wrap64
  omega
theorem bits_Len64.calls (a0 : Int) (r : Int) (w : World) (h : bits_Len64.f a0 = some r) :
  Calls Try.prog 73 #[.int .u64 a0] w fun e w' => e = .returned (.int .i64 r) ∧ Drawn0 w w' := by
 unfold bits_Len64.f at h
 split at h
 ·rename_i hb
  injection h with h
  subst h
  exact (bits_Len64.lib a0 w hb.1 hb.2).mono fun e w' hh => ⟨hh.1, (by rw [hh.2]; exact Drawn0.refl _)⟩
 ·cases h
end Go.Proofs.Ytbcdoncnhhjjeaa.PSystemLost
