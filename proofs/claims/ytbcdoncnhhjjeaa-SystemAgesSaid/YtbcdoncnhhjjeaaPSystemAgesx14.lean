-- Written by a program (extend_print.py). Not trusted: Lean checks it.
import Derived.Test.YtbcdoncnhhjjeaaPSystemAgesx0
import Derived.Test.YtbcdoncnhhjjeaaPSystemAgesx1
import Derived.Test.YtbcdoncnhhjjeaaPSystemAgesx2
import Derived.Test.YtbcdoncnhhjjeaaPSystemAgesx7
import Derived.Test.YtbcdoncnhhjjeaaPSystemAgesx12
import Derived.Test.YtbcdoncnhhjjeaaPSystemAgesx13
namespace Go.Proofs.Ytbcdoncnhhjjeaa.PSystemAges
open Go.RowKit Go.Proofs.YtbcdoncnhhjjeaaW.PrintWords Go.Proofs.YtbcdoncnhhjjeaaW.PrintLast Go.Proofs.YtbcdoncnhhjjeaaW.PrintMore
attribute [local go_sem] max2_int min2_int max_two min_two max_three min_three max_four min_four
set_option linter.unusedVariables false
set_option maxHeartbeats 8000000
set_option maxRecDepth 100000
set_option linter.unusedSimpArgs false
attribute [local go_sem high] eqA28
def foliotlaw17_SystemAges.f (k : Nat) (a0_0 : Int) (a0_1 : Int) (a0_2 : Int) (a0_3 : Int) (a0_4 : Int) (a0_5 : Int) (a0_6 : Int) (a0_7 : Int) (a0_8 : Int) (a0_9 : Int) (a0_10 : Int) (l1_0 : List (S130)) (l1_1 : List (S132)) (l1_2 : List Int) (a1_3 : Int) (l1_4 : List (S134)) (a1_5 : ByteArray) (l1_6 : List ByteArray) (a1_7 : Int) (a1_8 : Bool) (a1_9 : Bool) (a1_10 : Int) (a1_11 : Int) (a1_12 : Int) (a1_13 : Int) (a1_14 : Int) (a2 : Int) : Option (Bool) := (system_New.f l1_0 l1_1 l1_2 a1_3 l1_4 a1_5 l1_6 a1_7 a1_8 a1_9 a1_10 a1_11 a1_12 a1_13 a1_14).bind fun bt416 => ((foliotref17_New.f l1_0 l1_1 l1_2 a1_3 l1_4 a1_5 l1_6 a1_7 a1_8 a1_9 a1_10 a1_11 a1_12 a1_13 a1_14).bind fun bt427 => (if (bt416.1 == bt427.1 && (bt416.2.1 == bt427.2.1 && (bt416.2.2.1 == bt427.2.2.1 && (bt416.2.2.2.1 == bt427.2.2.2.1 && (bt416.2.2.2.2.1 == bt427.2.2.2.2.1 && (bt416.2.2.2.2.2.1 == bt427.2.2.2.2.2.1 && (bt416.2.2.2.2.2.2.1 == bt427.2.2.2.2.2.2.1 && (bt416.2.2.2.2.2.2.2.1 == bt427.2.2.2.2.2.2.2.1 && (bt416.2.2.2.2.2.2.2.2.1 == bt427.2.2.2.2.2.2.2.2.1 && (bt416.2.2.2.2.2.2.2.2.2.1 == bt427.2.2.2.2.2.2.2.2.2.1 && (bt416.2.2.2.2.2.2.2.2.2.2 == bt427.2.2.2.2.2.2.2.2.2.2))))))))))) = true then ((system_Age.f k a0_0 a0_1 a0_2 a0_3 a0_4 a0_5 a0_6 a0_7 a0_8 a0_9 a0_10 a2).bind fun bt438 => ((foliotref17_Age.f k a0_0 a0_1 a0_2 a0_3 a0_4 a0_5 a0_6 a0_7 a0_8 a0_9 a0_10 a2).bind fun bt449 => (if (bt438.1 == bt449.1 && (bt438.2.1 == bt449.2.1 && (bt438.2.2.1 == bt449.2.2.1 && (bt438.2.2.2.1 == bt449.2.2.2.1 && (bt438.2.2.2.2.1 == bt449.2.2.2.2.1 && (bt438.2.2.2.2.2.1 == bt449.2.2.2.2.2.1 && (bt438.2.2.2.2.2.2.1 == bt449.2.2.2.2.2.2.1 && (bt438.2.2.2.2.2.2.2.1 == bt449.2.2.2.2.2.2.2.1 && (bt438.2.2.2.2.2.2.2.2.1 == bt449.2.2.2.2.2.2.2.2.1 && (bt438.2.2.2.2.2.2.2.2.2.1 == bt449.2.2.2.2.2.2.2.2.2.1 && (bt438.2.2.2.2.2.2.2.2.2.2 == bt449.2.2.2.2.2.2.2.2.2.2))))))))))) = true then ((system_Distance.f k a0_0 a0_1 a0_2 a0_3 a0_4 a0_5 a0_6 a0_7 a0_8 a0_9 a0_10 a2).bind fun t460 => ((foliotref17_Distance.f k a0_0 a0_1 a0_2 a0_3 a0_4 a0_5 a0_6 a0_7 a0_8 a0_9 a0_10 a2).bind fun t461 => (if t460 = t461 then ((system_Synced.f a0_0 a0_1 a0_2 a0_3 a0_4 a0_5 a0_6 a0_7 a0_8 a0_9 a0_10).bind fun t462 => ((foliotref17_Synced.f a0_0 a0_1 a0_2 a0_3 a0_4 a0_5 a0_6 a0_7 a0_8 a0_9 a0_10).bind fun t463 => (some (t462 == t463)))) else (some false)))) else (some false)))) else (some false)))
def foliotlaw17_SystemAges.T1 : Bool × List (List Nat × List Nat) := (true, [([], []), ([0], [0]), ([], []), ([2, 1], [2]), ([1, 3], [1, 3]), ([4, 3], [4]), ([5], [5]), ([5], [5]), ([6, 7, 5, 5], [5, 6, 7]), ([5], [5]), ([5], [5]), ([9, 10, 8, 5], [5, 9, 10]), ([8, 11, 5], [5, 8, 11]), ([5, 12], [5, 12]), ([13, 11], [13]), ([14], [14]), ([14], [14]), ([15, 16, 14, 14], [14, 15, 16]), ([14], [14]), ([14], [14]), ([18, 19, 17, 14], [14, 18, 19]), ([17, 20, 14], [14, 17, 20]), ([14, 21], [14, 21]), ([22, 20], [22]), ([23], [23]), ([24, 23, 23], [23, 24]), ([23], [23]), ([26, 25, 23], [23, 26]), ([25, 27, 23], [23, 25, 27]), ([23, 28], [23, 28]), ([29, 27, 0, 1, 2, 3, 4, 5, 6, 7, 8, 9, 10, 11, 12, 13, 14, 15, 16, 17, 18, 19, 20, 21, 22, 23, 24, 25, 26, 27, 28, 29], [29])])
def foliotlaw17_SystemAges.B1 : List Nat := [0, 1, 0, 7, 15, 31, 63, 63, 255, 63, 63, 2047, 4095, 8191, 16383, 32767, 32767, 131071, 32767, 32767, 1048575, 2097151, 4194303, 8388607, 16777215, 33554431, 16777215, 134217727, 268435455, 536870911, 1073741823]
theorem foliotlaw17_SystemAges.tab1 : rtab .any (opsOf Try.f4 1) = foliotlaw17_SystemAges.T1 := by kernel_rfl
theorem foliotlaw17_SystemAges.bits1 : waitsOk foliotlaw17_SystemAges.T1.2 foliotlaw17_SystemAges.B1 = true := by kernel_rfl
theorem foliotlaw17_SystemAges.calls (k : Nat) (a0_0 : Int) (a0_1 : Int) (a0_2 : Int) (a0_3 : Int) (a0_4 : Int) (a0_5 : Int) (a0_6 : Int) (a0_7 : Int) (a0_8 : Int) (a0_9 : Int) (a0_10 : Int) (A1_0 : Option Addr) (c1_0 : Nat) (l1_0 : List (S130)) (A1_1 : Option Addr) (c1_1 : Nat) (l1_1 : List (S132)) (A1_2 : Option Addr) (c1_2 : Nat) (l1_2 : List Int) (a1_3 : Int) (A1_4 : Option Addr) (c1_4 : Nat) (l1_4 : List (S134)) (a1_5 : ByteArray) (A1_6 : Option Addr) (c1_6 : Nat) (l1_6 : List ByteArray) (a1_7 : Int) (a1_8 : Bool) (a1_9 : Bool) (a1_10 : Int) (a1_11 : Int) (a1_12 : Int) (a1_13 : Int) (a1_14 : Int) (a2 : Int) (r : Bool) (w : World) (hr1_0 : Kd.C k130 w A1_0 l1_0.length l1_0) (hc1_0 : l1_0.length ≤ c1_0) (hr1_1 : Kd.C k132 w A1_1 l1_1.length l1_1) (hc1_1 : l1_1.length ≤ c1_1) (hr1_2 : Kd.C (Kd.int .i64) w A1_2 l1_2.length l1_2) (hc1_2 : l1_2.length ≤ c1_2) (hr1_4 : Kd.C k134 w A1_4 l1_4.length l1_4) (hc1_4 : l1_4.length ≤ c1_4) (hr1_6 : Kd.C Kd.string w A1_6 l1_6.length l1_6) (hc1_6 : l1_6.length ≤ c1_6) (hrt_ : r = true) (h : foliotlaw17_SystemAges.f k a0_0 a0_1 a0_2 a0_3 a0_4 a0_5 a0_6 a0_7 a0_8 a0_9 a0_10 l1_0 l1_1 l1_2 a1_3 l1_4 a1_5 l1_6 a1_7 a1_8 a1_9 a1_10 a1_11 a1_12 a1_13 a1_14 a2 = some r) :
  Calls Try.prog 4 #[.agg #[.int .i64 a0_0, .int .i64 a0_1, .int .i64 a0_2, .int .i64 a0_3, .int .i64 a0_4, .int .u32 a0_5, .int .u64 a0_6, .int .i64 a0_7, .int .i64 a0_8, .int .i64 a0_9, .int .i64 a0_10], .agg #[.slice A1_0 l1_0.length c1_0, .slice A1_1 l1_1.length c1_1, .slice A1_2 l1_2.length c1_2, .int .i64 a1_3, .slice A1_4 l1_4.length c1_4, .string a1_5, .slice A1_6 l1_6.length c1_6, .int .i64 a1_7, .bool a1_8, .bool a1_9, .int .i64 a1_10, .int .i64 a1_11, .int .i64 a1_12, .int .i64 a1_13, .int .i64 a1_14], .int .u64 a2] w fun e w' => e = .returned (.bool r) ∧ Below w.heap.size w w' := by
 have hu28 := Try.underlying28
 have hu39 := Try.underlying39
 have HR1_0 := Aside0.mk hr1_0
 have HC1_0 := Aside0.mk hc1_0
 clear hr1_0 hc1_0
 have HR1_1 := Aside0.mk hr1_1
 have HC1_1 := Aside0.mk hc1_1
 clear hr1_1 hc1_1
 have HR1_2 := Aside0.mk hr1_2
 have HC1_2 := Aside0.mk hc1_2
 clear hr1_2 hc1_2
 have HR1_4 := Aside0.mk hr1_4
 have HC1_4 := Aside0.mk hc1_4
 clear hr1_4 hc1_4
 have HR1_6 := Aside0.mk hr1_6
 have HC1_6 := Aside0.mk hc1_6
 clear hr1_6 hc1_6
 have HB := Aside0.mk (Below.refl w.heap.size w)
 have H : ((system_New.f l1_0 l1_1 l1_2 a1_3 l1_4 a1_5 l1_6 a1_7 a1_8 a1_9 a1_10 a1_11 a1_12 a1_13 a1_14).bind fun bt416 => ((foliotref17_New.f l1_0 l1_1 l1_2 a1_3 l1_4 a1_5 l1_6 a1_7 a1_8 a1_9 a1_10 a1_11 a1_12 a1_13 a1_14).bind fun bt427 => (if (bt416.1 == bt427.1 && (bt416.2.1 == bt427.2.1 && (bt416.2.2.1 == bt427.2.2.1 && (bt416.2.2.2.1 == bt427.2.2.2.1 && (bt416.2.2.2.2.1 == bt427.2.2.2.2.1 && (bt416.2.2.2.2.2.1 == bt427.2.2.2.2.2.1 && (bt416.2.2.2.2.2.2.1 == bt427.2.2.2.2.2.2.1 && (bt416.2.2.2.2.2.2.2.1 == bt427.2.2.2.2.2.2.2.1 && (bt416.2.2.2.2.2.2.2.2.1 == bt427.2.2.2.2.2.2.2.2.1 && (bt416.2.2.2.2.2.2.2.2.2.1 == bt427.2.2.2.2.2.2.2.2.2.1 && (bt416.2.2.2.2.2.2.2.2.2.2 == bt427.2.2.2.2.2.2.2.2.2.2))))))))))) = true then ((system_Age.f k a0_0 a0_1 a0_2 a0_3 a0_4 a0_5 a0_6 a0_7 a0_8 a0_9 a0_10 a2).bind fun bt438 => ((foliotref17_Age.f k a0_0 a0_1 a0_2 a0_3 a0_4 a0_5 a0_6 a0_7 a0_8 a0_9 a0_10 a2).bind fun bt449 => (if (bt438.1 == bt449.1 && (bt438.2.1 == bt449.2.1 && (bt438.2.2.1 == bt449.2.2.1 && (bt438.2.2.2.1 == bt449.2.2.2.1 && (bt438.2.2.2.2.1 == bt449.2.2.2.2.1 && (bt438.2.2.2.2.2.1 == bt449.2.2.2.2.2.1 && (bt438.2.2.2.2.2.2.1 == bt449.2.2.2.2.2.2.1 && (bt438.2.2.2.2.2.2.2.1 == bt449.2.2.2.2.2.2.2.1 && (bt438.2.2.2.2.2.2.2.2.1 == bt449.2.2.2.2.2.2.2.2.1 && (bt438.2.2.2.2.2.2.2.2.2.1 == bt449.2.2.2.2.2.2.2.2.2.1 && (bt438.2.2.2.2.2.2.2.2.2.2 == bt449.2.2.2.2.2.2.2.2.2.2))))))))))) = true then ((system_Distance.f k a0_0 a0_1 a0_2 a0_3 a0_4 a0_5 a0_6 a0_7 a0_8 a0_9 a0_10 a2).bind fun t460 => ((foliotref17_Distance.f k a0_0 a0_1 a0_2 a0_3 a0_4 a0_5 a0_6 a0_7 a0_8 a0_9 a0_10 a2).bind fun t461 => (if t460 = t461 then ((system_Synced.f a0_0 a0_1 a0_2 a0_3 a0_4 a0_5 a0_6 a0_7 a0_8 a0_9 a0_10).bind fun t462 => ((foliotref17_Synced.f a0_0 a0_1 a0_2 a0_3 a0_4 a0_5 a0_6 a0_7 a0_8 a0_9 a0_10).bind fun t463 => (some (t462 == t463)))) else (some false)))) else (some false)))) else (some false)))) = some r := h
 clear h
 replace H := Option.bind_eq_some_iff.mp H
 obtain ⟨⟨t416, t417, t418, t419, t420, t421, t422, t423, t424, t425, t426⟩, A40, H⟩ := H
 replace H : ((foliotref17_New.f l1_0 l1_1 l1_2 a1_3 l1_4 a1_5 l1_6 a1_7 a1_8 a1_9 a1_10 a1_11 a1_12 a1_13 a1_14).bind fun bt427 => (if (t416 == bt427.1 && (t417 == bt427.2.1 && (t418 == bt427.2.2.1 && (t419 == bt427.2.2.2.1 && (t420 == bt427.2.2.2.2.1 && (t421 == bt427.2.2.2.2.2.1 && (t422 == bt427.2.2.2.2.2.2.1 && (t423 == bt427.2.2.2.2.2.2.2.1 && (t424 == bt427.2.2.2.2.2.2.2.2.1 && (t425 == bt427.2.2.2.2.2.2.2.2.2.1 && (t426 == bt427.2.2.2.2.2.2.2.2.2.2))))))))))) = true then ((system_Age.f k a0_0 a0_1 a0_2 a0_3 a0_4 a0_5 a0_6 a0_7 a0_8 a0_9 a0_10 a2).bind fun bt438 => ((foliotref17_Age.f k a0_0 a0_1 a0_2 a0_3 a0_4 a0_5 a0_6 a0_7 a0_8 a0_9 a0_10 a2).bind fun bt449 => (if (bt438.1 == bt449.1 && (bt438.2.1 == bt449.2.1 && (bt438.2.2.1 == bt449.2.2.1 && (bt438.2.2.2.1 == bt449.2.2.2.1 && (bt438.2.2.2.2.1 == bt449.2.2.2.2.1 && (bt438.2.2.2.2.2.1 == bt449.2.2.2.2.2.1 && (bt438.2.2.2.2.2.2.1 == bt449.2.2.2.2.2.2.1 && (bt438.2.2.2.2.2.2.2.1 == bt449.2.2.2.2.2.2.2.1 && (bt438.2.2.2.2.2.2.2.2.1 == bt449.2.2.2.2.2.2.2.2.1 && (bt438.2.2.2.2.2.2.2.2.2.1 == bt449.2.2.2.2.2.2.2.2.2.1 && (bt438.2.2.2.2.2.2.2.2.2.2 == bt449.2.2.2.2.2.2.2.2.2.2))))))))))) = true then ((system_Distance.f k a0_0 a0_1 a0_2 a0_3 a0_4 a0_5 a0_6 a0_7 a0_8 a0_9 a0_10 a2).bind fun t460 => ((foliotref17_Distance.f k a0_0 a0_1 a0_2 a0_3 a0_4 a0_5 a0_6 a0_7 a0_8 a0_9 a0_10 a2).bind fun t461 => (if t460 = t461 then ((system_Synced.f a0_0 a0_1 a0_2 a0_3 a0_4 a0_5 a0_6 a0_7 a0_8 a0_9 a0_10).bind fun t462 => ((foliotref17_Synced.f a0_0 a0_1 a0_2 a0_3 a0_4 a0_5 a0_6 a0_7 a0_8 a0_9 a0_10).bind fun t463 => (some (t462 == t463)))) else (some false)))) else (some false)))) else (some false))) = some r := H
 have A4 := Aside0.mk A40
 clear A40
 replace H := Option.bind_eq_some_iff.mp H
 obtain ⟨⟨t427, t428, t429, t430, t431, t432, t433, t434, t435, t436, t437⟩, A50, H⟩ := H
 replace H : (if (t416 == t427 && (t417 == t428 && (t418 == t429 && (t419 == t430 && (t420 == t431 && (t421 == t432 && (t422 == t433 && (t423 == t434 && (t424 == t435 && (t425 == t436 && (t426 == t437))))))))))) = true then ((system_Age.f k a0_0 a0_1 a0_2 a0_3 a0_4 a0_5 a0_6 a0_7 a0_8 a0_9 a0_10 a2).bind fun bt438 => ((foliotref17_Age.f k a0_0 a0_1 a0_2 a0_3 a0_4 a0_5 a0_6 a0_7 a0_8 a0_9 a0_10 a2).bind fun bt449 => (if (bt438.1 == bt449.1 && (bt438.2.1 == bt449.2.1 && (bt438.2.2.1 == bt449.2.2.1 && (bt438.2.2.2.1 == bt449.2.2.2.1 && (bt438.2.2.2.2.1 == bt449.2.2.2.2.1 && (bt438.2.2.2.2.2.1 == bt449.2.2.2.2.2.1 && (bt438.2.2.2.2.2.2.1 == bt449.2.2.2.2.2.2.1 && (bt438.2.2.2.2.2.2.2.1 == bt449.2.2.2.2.2.2.2.1 && (bt438.2.2.2.2.2.2.2.2.1 == bt449.2.2.2.2.2.2.2.2.1 && (bt438.2.2.2.2.2.2.2.2.2.1 == bt449.2.2.2.2.2.2.2.2.2.1 && (bt438.2.2.2.2.2.2.2.2.2.2 == bt449.2.2.2.2.2.2.2.2.2.2))))))))))) = true then ((system_Distance.f k a0_0 a0_1 a0_2 a0_3 a0_4 a0_5 a0_6 a0_7 a0_8 a0_9 a0_10 a2).bind fun t460 => ((foliotref17_Distance.f k a0_0 a0_1 a0_2 a0_3 a0_4 a0_5 a0_6 a0_7 a0_8 a0_9 a0_10 a2).bind fun t461 => (if t460 = t461 then ((system_Synced.f a0_0 a0_1 a0_2 a0_3 a0_4 a0_5 a0_6 a0_7 a0_8 a0_9 a0_10).bind fun t462 => ((foliotref17_Synced.f a0_0 a0_1 a0_2 a0_3 a0_4 a0_5 a0_6 a0_7 a0_8 a0_9 a0_10).bind fun t463 => (some (t462 == t463)))) else (some false)))) else (some false)))) else (some false)) = some r := H
 have A5 := Aside0.mk A50
 clear A50
 by_cases c6 : (t416 == t427 && (t417 == t428 && (t418 == t429 && (t419 == t430 && (t420 == t431 && (t421 == t432 && (t422 == t433 && (t423 == t434 && (t424 == t435 && (t425 == t436 && (t426 == t437))))))))))) = true
 ·rw [if_pos c6] at H
  have c6b0 : (t416 == t427 && (t417 == t428 && (t418 == t429 && (t419 == t430 && (t420 == t431 && (t421 == t432 && (t422 == t433 && (t423 == t434 && (t424 == t435 && (t425 == t436 && (t426 == t437))))))))))) = true := c6
  (try (have c6b1 : decide (t416 = t427 && (t417 == t428 && (t418 == t429 && (t419 == t430 && (t420 == t431 && (t421 == t432 && (t422 == t433 && (t423 == t434 && (t424 == t435 && (t425 == t436 && (t426 == t437))))))))))) = true := by simpa using c6))
  (try (have c6b2 : (t416 == t427 && (t417 == t428 && (t418 == t429 && (t419 == t430 && (t420 == t431 && (t421 == t432 && (t422 == t433 && (t423 == t434 && (t424 == t435 && (t425 == t436 && (t426 == t437))))))))))) = true := by simpa using c6))
  clear c6
  replace H := Option.bind_eq_some_iff.mp H
  obtain ⟨⟨t438, t439, t440, t441, t442, t443, t444, t445, t446, t447, t448⟩, A70, H⟩ := H
  replace H : ((foliotref17_Age.f k a0_0 a0_1 a0_2 a0_3 a0_4 a0_5 a0_6 a0_7 a0_8 a0_9 a0_10 a2).bind fun bt449 => (if (t438 == bt449.1 && (t439 == bt449.2.1 && (t440 == bt449.2.2.1 && (t441 == bt449.2.2.2.1 && (t442 == bt449.2.2.2.2.1 && (t443 == bt449.2.2.2.2.2.1 && (t444 == bt449.2.2.2.2.2.2.1 && (t445 == bt449.2.2.2.2.2.2.2.1 && (t446 == bt449.2.2.2.2.2.2.2.2.1 && (t447 == bt449.2.2.2.2.2.2.2.2.2.1 && (t448 == bt449.2.2.2.2.2.2.2.2.2.2))))))))))) = true then ((system_Distance.f k a0_0 a0_1 a0_2 a0_3 a0_4 a0_5 a0_6 a0_7 a0_8 a0_9 a0_10 a2).bind fun t460 => ((foliotref17_Distance.f k a0_0 a0_1 a0_2 a0_3 a0_4 a0_5 a0_6 a0_7 a0_8 a0_9 a0_10 a2).bind fun t461 => (if t460 = t461 then ((system_Synced.f a0_0 a0_1 a0_2 a0_3 a0_4 a0_5 a0_6 a0_7 a0_8 a0_9 a0_10).bind fun t462 => ((foliotref17_Synced.f a0_0 a0_1 a0_2 a0_3 a0_4 a0_5 a0_6 a0_7 a0_8 a0_9 a0_10).bind fun t463 => (some (t462 == t463)))) else (some false)))) else (some false))) = some r := H
  have A7 := Aside0.mk A70
  clear A70
  replace H := Option.bind_eq_some_iff.mp H
  obtain ⟨⟨t449, t450, t451, t452, t453, t454, t455, t456, t457, t458, t459⟩, A80, H⟩ := H
  replace H : (if (t438 == t449 && (t439 == t450 && (t440 == t451 && (t441 == t452 && (t442 == t453 && (t443 == t454 && (t444 == t455 && (t445 == t456 && (t446 == t457 && (t447 == t458 && (t448 == t459))))))))))) = true then ((system_Distance.f k a0_0 a0_1 a0_2 a0_3 a0_4 a0_5 a0_6 a0_7 a0_8 a0_9 a0_10 a2).bind fun t460 => ((foliotref17_Distance.f k a0_0 a0_1 a0_2 a0_3 a0_4 a0_5 a0_6 a0_7 a0_8 a0_9 a0_10 a2).bind fun t461 => (if t460 = t461 then ((system_Synced.f a0_0 a0_1 a0_2 a0_3 a0_4 a0_5 a0_6 a0_7 a0_8 a0_9 a0_10).bind fun t462 => ((foliotref17_Synced.f a0_0 a0_1 a0_2 a0_3 a0_4 a0_5 a0_6 a0_7 a0_8 a0_9 a0_10).bind fun t463 => (some (t462 == t463)))) else (some false)))) else (some false)) = some r := H
  have A8 := Aside0.mk A80
  clear A80
  by_cases c9 : (t438 == t449 && (t439 == t450 && (t440 == t451 && (t441 == t452 && (t442 == t453 && (t443 == t454 && (t444 == t455 && (t445 == t456 && (t446 == t457 && (t447 == t458 && (t448 == t459))))))))))) = true
  ·rw [if_pos c9] at H
   have c9b0 : (t438 == t449 && (t439 == t450 && (t440 == t451 && (t441 == t452 && (t442 == t453 && (t443 == t454 && (t444 == t455 && (t445 == t456 && (t446 == t457 && (t447 == t458 && (t448 == t459))))))))))) = true := c9
   (try (have c9b1 : decide (t438 = t449 && (t439 == t450 && (t440 == t451 && (t441 == t452 && (t442 == t453 && (t443 == t454 && (t444 == t455 && (t445 == t456 && (t446 == t457 && (t447 == t458 && (t448 == t459))))))))))) = true := by simpa using c9))
   (try (have c9b2 : (t438 == t449 && (t439 == t450 && (t440 == t451 && (t441 == t452 && (t442 == t453 && (t443 == t454 && (t444 == t455 && (t445 == t456 && (t446 == t457 && (t447 == t458 && (t448 == t459))))))))))) = true := by simpa using c9))
   clear c9
   replace H := Option.bind_eq_some_iff.mp H
   obtain ⟨t460, A100, H⟩ := H
   replace H : ((foliotref17_Distance.f k a0_0 a0_1 a0_2 a0_3 a0_4 a0_5 a0_6 a0_7 a0_8 a0_9 a0_10 a2).bind fun t461 => (if t460 = t461 then ((system_Synced.f a0_0 a0_1 a0_2 a0_3 a0_4 a0_5 a0_6 a0_7 a0_8 a0_9 a0_10).bind fun t462 => ((foliotref17_Synced.f a0_0 a0_1 a0_2 a0_3 a0_4 a0_5 a0_6 a0_7 a0_8 a0_9 a0_10).bind fun t463 => (some (t462 == t463)))) else (some false))) = some r := H
   have A10 := Aside0.mk A100
   clear A100
   replace H := Option.bind_eq_some_iff.mp H
   obtain ⟨t461, A110, H⟩ := H
   replace H : (if t460 = t461 then ((system_Synced.f a0_0 a0_1 a0_2 a0_3 a0_4 a0_5 a0_6 a0_7 a0_8 a0_9 a0_10).bind fun t462 => ((foliotref17_Synced.f a0_0 a0_1 a0_2 a0_3 a0_4 a0_5 a0_6 a0_7 a0_8 a0_9 a0_10).bind fun t463 => (some (t462 == t463)))) else (some false)) = some r := H
   have A11 := Aside0.mk A110
   clear A110
   by_cases c12 : t460 = t461
   ·rw [if_pos c12] at H
    have c12b0 : (t460 == t461) = true := beq_iff_eq.mpr c12
    have c12b1 : (t460 != t461) = false := bne_eq_false_iff_eq.mpr c12
    clear c12
    replace H := Option.bind_eq_some_iff.mp H
    obtain ⟨t462, A130, H⟩ := H
    replace H : ((foliotref17_Synced.f a0_0 a0_1 a0_2 a0_3 a0_4 a0_5 a0_6 a0_7 a0_8 a0_9 a0_10).bind fun t463 => (some (t462 == t463))) = some r := H
    have A13 := Aside0.mk A130
    clear A130
    replace H := Option.bind_eq_some_iff.mp H
    obtain ⟨t463, A140, H⟩ := H
    replace H : (some (t462 == t463)) = some r := H
    have A14 := Aside0.mk A140
    clear A140
    clear hrt_
    obtain rfl := Option.some.inj H
    go_enter Try.func4, Try.ntmps4
    try go_wp2_with (first | ((with_reducible refine gate_dst (N := 3) rfl ?_); refine box_event ?hg (N := 3) ?hd (cs := #[.int .i64 a0_0, .int .i64 a0_1, .int .i64 a0_2, .int .i64 a0_3, .int .i64 a0_4, .int .u32 a0_5, .int .u64 a0_6, .int .i64 a0_7, .int .i64 a0_8, .int .i64 a0_9, .int .i64 a0_10]) (t := 28) ?hr ?_; (case hd => rfl); (case hg => rfl); (case hr => first | (go_simp; done) | (go_simp; rfl)); intro gb414 hg w15 hbox hb; have n0_ := Aside0.mk (below_step (by repeat (first | (with_reducible first | exact HB.out | apply below_alloc | apply pw_below_drewN | apply below_drew1) | exact HB.out)) hb); have n1_ := Aside0.mk (hbox); have n2_ := Aside0.mk ((by rw [hg]; exact (below_size (by repeat (first | (with_reducible first | exact HB.out | apply below_alloc | apply pw_below_drewN | apply below_drew1) | exact HB.out))) : w.heap.size ≤ gb414)); have n3_ := Aside0.mk ((by rw [hg]; exact (below_size (by repeat (first | (with_reducible first | exact HB.out | apply below_alloc | apply pw_below_drewN | apply below_drew1) | exact HB.out))) : w.heap.size ≤ gb414)); clear HB; have HB := n0_; have BK414 := n1_; have GW414 := n2_; have GE414 := n3_; clear n0_ n1_ n2_ n3_; clear hb hbox hg) | ((with_reducible refine gate_dst (N := 4) rfl ?_); refine box_event ?hg (N := 4) ?hd (cs := #[.slice A1_0 l1_0.length c1_0, .slice A1_1 l1_1.length c1_1, .slice A1_2 l1_2.length c1_2, .int .i64 a1_3, .slice A1_4 l1_4.length c1_4, .string a1_5, .slice A1_6 l1_6.length c1_6, .int .i64 a1_7, .bool a1_8, .bool a1_9, .int .i64 a1_10, .int .i64 a1_11, .int .i64 a1_12, .int .i64 a1_13, .int .i64 a1_14]) (t := 39) ?hr ?_; (case hd => rfl); (case hg => rfl); (case hr => first | (go_simp; done) | (go_simp; rfl)); intro gb415 hg w16 hbox hb; have n0_ := Aside0.mk (blk_below (g := gb414) (o := .cells #[.int .i64 a0_0, .int .i64 a0_1, .int .i64 a0_2, .int .i64 a0_3, .int .i64 a0_4, .int .u32 a0_5, .int .u64 a0_6, .int .i64 a0_7, .int .i64 a0_8, .int .i64 a0_9, .int .i64 a0_10] 28 (0, 0)) (by (with_reducible repeat (first | refine blk_drewN ?_ _ | refine blk_drew ?_ | refine blk_alloc ?_ _)); exact BK414.out) hb); have n1_ := Aside0.mk (below_step (by repeat (first | (with_reducible first | exact HB.out | apply below_alloc | apply pw_below_drewN | apply below_drew1 | refine below_set ?_ GE414.out) | exact HB.out)) hb); have n2_ := Aside0.mk (hbox); have n3_ := Aside0.mk ((by rw [hg]; exact (below_size (by repeat (first | (with_reducible first | exact HB.out | apply below_alloc | apply pw_below_drewN | apply below_drew1 | refine below_set ?_ GE414.out) | exact HB.out))) : w.heap.size ≤ gb415)); have n4_ := Aside0.mk ((by rw [hg]; exact (below_size (by repeat (first | (with_reducible first | exact HB.out | apply below_alloc | apply pw_below_drewN | apply below_drew1 | refine below_set ?_ GE414.out) | exact HB.out))) : w.heap.size ≤ gb415)); have n5_ := Aside0.mk ((by rw [hg]; exact Nat.ne_of_lt (blk_lt (g := gb414) (o := .cells #[.int .i64 a0_0, .int .i64 a0_1, .int .i64 a0_2, .int .i64 a0_3, .int .i64 a0_4, .int .u32 a0_5, .int .u64 a0_6, .int .i64 a0_7, .int .i64 a0_8, .int .i64 a0_9, .int .i64 a0_10] 28 (0, 0)) (by (with_reducible repeat (first | refine blk_drewN ?_ _ | refine blk_drew ?_ | refine blk_alloc ?_ _)); exact BK414.out)) : gb414 ≠ gb415)); have n6_ := Aside0.mk ((by rw [hg]; exact Nat.ne_of_gt (blk_lt (g := gb414) (o := .cells #[.int .i64 a0_0, .int .i64 a0_1, .int .i64 a0_2, .int .i64 a0_3, .int .i64 a0_4, .int .u32 a0_5, .int .u64 a0_6, .int .i64 a0_7, .int .i64 a0_8, .int .i64 a0_9, .int .i64 a0_10] 28 (0, 0)) (by (with_reducible repeat (first | refine blk_drewN ?_ _ | refine blk_drew ?_ | refine blk_alloc ?_ _)); exact BK414.out)) : gb415 ≠ gb414)); clear BK414; clear HB; have BK414 := n0_; have HB := n1_; have BK415 := n2_; have GW415 := n3_; have GE415 := n4_; have NB414_415 := n5_; have NB415_414 := n6_; clear n0_ n1_ n2_ n3_ n4_ n5_ n6_; clear hb hbox hg))
    have n0_ := Aside0.mk (blk_drew BK414.out)
    have n1_ := Aside0.mk (blk_drew BK415.out)
    have n2_ := Aside0.mk (below_drew1 HB.out)
    clear BK414
    clear BK415
    clear HB
    have BK414 := n0_
    have BK415 := n1_
    have HB := n2_
    clear n0_ n1_ n2_
    refine start_ (n := 31) (S := fun w' => w'.cell? ⟨gb415, 0, none⟩ = some (.slice A1_0 l1_0.length c1_0) ∧ w'.cell? ⟨gb415, 1, none⟩ = some (.slice A1_1 l1_1.length c1_1) ∧ w'.cell? ⟨gb415, 2, none⟩ = some (.slice A1_2 l1_2.length c1_2) ∧ w'.cell? ⟨gb415, 3, none⟩ = some (.int .i64 a1_3) ∧ w'.cell? ⟨gb415, 4, none⟩ = some (.slice A1_4 l1_4.length c1_4) ∧ w'.cell? ⟨gb415, 5, none⟩ = some (.string a1_5) ∧ w'.cell? ⟨gb415, 6, none⟩ = some (.slice A1_6 l1_6.length c1_6) ∧ w'.cell? ⟨gb415, 7, none⟩ = some (.int .i64 a1_7) ∧ w'.cell? ⟨gb415, 8, none⟩ = some (.bool a1_8) ∧ w'.cell? ⟨gb415, 9, none⟩ = some (.bool a1_9) ∧ w'.cell? ⟨gb415, 10, none⟩ = some (.int .i64 a1_10) ∧ w'.cell? ⟨gb415, 11, none⟩ = some (.int .i64 a1_11) ∧ w'.cell? ⟨gb415, 12, none⟩ = some (.int .i64 a1_12) ∧ w'.cell? ⟨gb415, 13, none⟩ = some (.int .i64 a1_13) ∧ w'.cell? ⟨gb415, 14, none⟩ = some (.int .i64 a1_14) ∧ w'.cell? ⟨gb414, 0, none⟩ = some (.int .i64 a0_0) ∧ w'.cell? ⟨gb414, 1, none⟩ = some (.int .i64 a0_1) ∧ w'.cell? ⟨gb414, 2, none⟩ = some (.int .i64 a0_2) ∧ w'.cell? ⟨gb414, 3, none⟩ = some (.int .i64 a0_3) ∧ w'.cell? ⟨gb414, 4, none⟩ = some (.int .i64 a0_4) ∧ w'.cell? ⟨gb414, 5, none⟩ = some (.int .u32 a0_5) ∧ w'.cell? ⟨gb414, 6, none⟩ = some (.int .u64 a0_6) ∧ w'.cell? ⟨gb414, 7, none⟩ = some (.int .i64 a0_7) ∧ w'.cell? ⟨gb414, 8, none⟩ = some (.int .i64 a0_8) ∧ w'.cell? ⟨gb414, 9, none⟩ = some (.int .i64 a0_9) ∧ w'.cell? ⟨gb414, 10, none⟩ = some (.int .i64 a0_10)) (ds := []) #[false, false, false, false, false, false, false, false, false, false, false, false, false, false, false, false, false, false, false, false, false, false, false, false, false, false, false, false, false, false, false] (by kernel_rfl) rfl rfl ⟨(blk_cell BK415.out 0).trans rfl, (blk_cell BK415.out 1).trans rfl, (blk_cell BK415.out 2).trans rfl, (blk_cell BK415.out 3).trans rfl, (blk_cell BK415.out 4).trans rfl, (blk_cell BK415.out 5).trans rfl, (blk_cell BK415.out 6).trans rfl, (blk_cell BK415.out 7).trans rfl, (blk_cell BK415.out 8).trans rfl, (blk_cell BK415.out 9).trans rfl, (blk_cell BK415.out 10).trans rfl, (blk_cell BK415.out 11).trans rfl, (blk_cell BK415.out 12).trans rfl, (blk_cell BK415.out 13).trans rfl, (blk_cell BK415.out 14).trans rfl, (blk_cell BK414.out 0).trans rfl, (blk_cell BK414.out 1).trans rfl, (blk_cell BK414.out 2).trans rfl, (blk_cell BK414.out 3).trans rfl, (blk_cell BK414.out 4).trans rfl, (blk_cell BK414.out 5).trans rfl, (blk_cell BK414.out 6).trans rfl, (blk_cell BK414.out 7).trans rfl, (blk_cell BK414.out 8).trans rfl, (blk_cell BK414.out 9).trans rfl, (blk_cell BK414.out 10).trans rfl⟩ (fun hHeld => ?_); refine with_tabW foliotlaw17_SystemAges.tab1 foliotlaw17_SystemAges.bits1 (fun HT_ HW_ => ?_)
    generalize w16.drew = w17 at BK414 BK415 HB hHeld ⊢
    refine take_ (i := 0) (N := some 7) (v := ?_) (a' := ?_) #[true, false, false, false, false, false, false, false, false, false, false, false, false, false, false, false, false, false, false, false, false, false, false, false, false, false, false, false, false, false, false] rfl rfl (take_ofW HT_.out HW_.out (by kernel_rfl)) (fun _ _ _ h => h) (Or.inl ⟨by rfl, ?_⟩) hHeld ?_ ?_
    rotate_left
    ·rintro w' ⟨s0, s1, s2, s3, s4, s5, s6, s7, s8, s9, s10, s11, s12, s13, s14, s15, s16, s17, s18, s19, s20, s21, s22, s23, s24, s25⟩
     go_simp
     with_reducible rfl
    rotate_left
    ·simp only [Act.put, List.setIfInBounds_toArray, List.set_cons_zero, List.set_cons_succ, i64_w, i32_w]
     rfl
    refine take_ (i := 2) (N := some 9) (v := ?_) (a' := ?_) #[true, false, true, false, false, false, false, false, false, false, false, false, false, false, false, false, false, false, false, false, false, false, false, false, false, false, false, false, false, false, false] rfl rfl (take_ofW HT_.out HW_.out (by kernel_rfl)) (fun _ _ _ h => h) (Or.inl ⟨by rfl, ?_⟩) hHeld ?_ ?_
    rotate_left
    ·rintro w' ⟨s0, s1, s2, s3, s4, s5, s6, s7, s8, s9, s10, s11, s12, s13, s14, s15, s16, s17, s18, s19, s20, s21, s22, s23, s24, s25⟩
     go_simp
     with_reducible rfl
    rotate_left
    ·simp only [Act.put, List.setIfInBounds_toArray, List.set_cons_zero, List.set_cons_succ, i64_w, i32_w]
     rfl
    refine one_ (i := 1) (N := some 8) #[true, true, true, false, false, false, false, false, false, false, false, false, false, false, false, false, false, false, false, false, false, false, false, false, false, false, false, false, false, false, false] rfl rfl (one_of HT_.out (by kernel_rfl)) (by decide) (fun K hK => ?_)
    refine goes_ Try.func14 (by kernel_rfl) rfl #[.agg #[.slice A1_0 l1_0.length c1_0, .slice A1_1 l1_1.length c1_1, .slice A1_2 l1_2.length c1_2, .int .i64 a1_3, .slice A1_4 l1_4.length c1_4, .string a1_5, .slice A1_6 l1_6.length c1_6, .int .i64 a1_7, .bool a1_8, .bool a1_9, .int .i64 a1_10, .int .i64 a1_11, .int .i64 a1_12, .int .i64 a1_13, .int .i64 a1_14]] (by rfl) rfl rfl (by (try simp only [List.map_toArray, List.map_cons, List.map_nil]); first | done | rfl | (simp only [List.length_drop, List.length_take]; rfl)) ?_
    with_reducible refine (system_New.calls _ _ l1_0 _ _ l1_1 _ _ l1_2 a1_3 _ _ l1_4 a1_5 _ _ l1_6 a1_7 a1_8 a1_9 a1_10 a1_11 a1_12 a1_13 a1_14 t416 t417 t418 t419 t420 t421 t422 t423 t424 t425 t426 _ ?side1 ?side2 ?side3 ?side4 ?side5 ?side6 ?side7 ?side8 ?side9 ?side10 A4.out).mono ?_
    (case side1 => repeat (first | exact (Kd.C_below HR1_0.out HB.out) | (with_reducible refine Kd.C_alloc ?_ _) | (with_reducible refine Kd.C_drewN ?_ _) | (with_reducible refine Kd.C_drew ?_)))
    (case side2 => exact HC1_0.out)
    (case side3 => repeat (first | exact (Kd.C_below HR1_1.out HB.out) | (with_reducible refine Kd.C_alloc ?_ _) | (with_reducible refine Kd.C_drewN ?_ _) | (with_reducible refine Kd.C_drew ?_)))
    (case side4 => exact HC1_1.out)
    (case side5 => repeat (first | exact (Kd.C_below HR1_2.out HB.out) | (with_reducible refine Kd.C_alloc ?_ _) | (with_reducible refine Kd.C_drewN ?_ _) | (with_reducible refine Kd.C_drew ?_)))
    (case side6 => exact HC1_2.out)
    (case side7 => repeat (first | exact (Kd.C_below HR1_4.out HB.out) | (with_reducible refine Kd.C_alloc ?_ _) | (with_reducible refine Kd.C_drewN ?_ _) | (with_reducible refine Kd.C_drew ?_)))
    (case side8 => exact HC1_4.out)
    (case side9 => repeat (first | exact (Kd.C_below HR1_6.out HB.out) | (with_reducible refine Kd.C_alloc ?_ _) | (with_reducible refine Kd.C_drewN ?_ _) | (with_reducible refine Kd.C_drew ?_)))
    (case side10 => exact HC1_6.out)
    rintro e w18 ⟨rfl, hb⟩
    refine ⟨_, rfl, ?_⟩
    have n0_ := Aside0.mk (blk_below (g := gb414) (o := .cells #[.int .i64 a0_0, .int .i64 a0_1, .int .i64 a0_2, .int .i64 a0_3, .int .i64 a0_4, .int .u32 a0_5, .int .u64 a0_6, .int .i64 a0_7, .int .i64 a0_8, .int .i64 a0_9, .int .i64 a0_10] 28 (0, 0)) (by (with_reducible repeat (first | refine blk_drewN ?_ _ | refine blk_drew ?_ | refine blk_alloc ?_ _)); exact BK414.out) hb)
    have n1_ := Aside0.mk (blk_below (g := gb415) (o := .cells #[.slice A1_0 l1_0.length c1_0, .slice A1_1 l1_1.length c1_1, .slice A1_2 l1_2.length c1_2, .int .i64 a1_3, .slice A1_4 l1_4.length c1_4, .string a1_5, .slice A1_6 l1_6.length c1_6, .int .i64 a1_7, .bool a1_8, .bool a1_9, .int .i64 a1_10, .int .i64 a1_11, .int .i64 a1_12, .int .i64 a1_13, .int .i64 a1_14] 39 (0, 0)) (by (with_reducible repeat (first | refine blk_drewN ?_ _ | refine blk_drew ?_ | refine blk_alloc ?_ _)); exact BK415.out) hb)
    have n2_ := Aside0.mk (below_step (by repeat (first | (with_reducible first | exact HB.out | apply below_alloc | apply pw_below_drewN | apply below_drew1 | refine below_set ?_ GE414.out | refine below_set ?_ GE415.out) | exact HB.out)) hb)
    clear BK414
    clear BK415
    clear HB
    have BK414 := n0_
    have BK415 := n1_
    have HB := n2_
    clear n0_ n1_ n2_
    (try clear hb)
    (try clear hb2)
    (try clear hk)
    (try clear hi)
    refine hK.out _ _ ⟨(blk_cell BK415.out 0).trans rfl, (blk_cell BK415.out 1).trans rfl, (blk_cell BK415.out 2).trans rfl, (blk_cell BK415.out 3).trans rfl, (blk_cell BK415.out 4).trans rfl, (blk_cell BK415.out 5).trans rfl, (blk_cell BK415.out 6).trans rfl, (blk_cell BK415.out 7).trans rfl, (blk_cell BK415.out 8).trans rfl, (blk_cell BK415.out 9).trans rfl, (blk_cell BK415.out 10).trans rfl, (blk_cell BK415.out 11).trans rfl, (blk_cell BK415.out 12).trans rfl, (blk_cell BK415.out 13).trans rfl, (blk_cell BK415.out 14).trans rfl, (blk_cell BK414.out 0).trans rfl, (blk_cell BK414.out 1).trans rfl, (blk_cell BK414.out 2).trans rfl, (blk_cell BK414.out 3).trans rfl, (blk_cell BK414.out 4).trans rfl, (blk_cell BK414.out 5).trans rfl, (blk_cell BK414.out 6).trans rfl, (blk_cell BK414.out 7).trans rfl, (blk_cell BK414.out 8).trans rfl, (blk_cell BK414.out 9).trans rfl, (blk_cell BK414.out 10).trans rfl⟩ (fun hHeld => ?_)
    clear hK K
    refine norm_ (a' := ?_) ?_ ?_
    rotate_left
    ·show Act.put _ (some 8) _ = _
     simp only [Act.put, List.setIfInBounds_toArray, List.set_cons_zero, List.set_cons_succ, i64_w, i32_w]
     rfl
    refine one_ (i := 3) (N := some 10) #[true, true, true, true, false, false, false, false, false, false, false, false, false, false, false, false, false, false, false, false, false, false, false, false, false, false, false, false, false, false, false] rfl rfl (one_of HT_.out (by kernel_rfl)) (by decide) (fun K hK => ?_)
    refine goes_ Try.func15 (by kernel_rfl) rfl #[.agg #[.slice A1_0 l1_0.length c1_0, .slice A1_1 l1_1.length c1_1, .slice A1_2 l1_2.length c1_2, .int .i64 a1_3, .slice A1_4 l1_4.length c1_4, .string a1_5, .slice A1_6 l1_6.length c1_6, .int .i64 a1_7, .bool a1_8, .bool a1_9, .int .i64 a1_10, .int .i64 a1_11, .int .i64 a1_12, .int .i64 a1_13, .int .i64 a1_14]] (by rfl) rfl rfl (by (try simp only [List.map_toArray, List.map_cons, List.map_nil]); first | done | rfl | (simp only [List.length_drop, List.length_take]; rfl)) ?_
    with_reducible refine (foliotref17_New.calls _ _ l1_0 _ _ l1_1 _ _ l1_2 a1_3 _ _ l1_4 a1_5 _ _ l1_6 a1_7 a1_8 a1_9 a1_10 a1_11 a1_12 a1_13 a1_14 t427 t428 t429 t430 t431 t432 t433 t434 t435 t436 t437 _ ?side1 ?side2 ?side3 ?side4 ?side5 ?side6 ?side7 ?side8 ?side9 ?side10 A5.out).mono ?_
    (case side1 => repeat (first | exact (Kd.C_below HR1_0.out HB.out) | (with_reducible refine Kd.C_alloc ?_ _) | (with_reducible refine Kd.C_drewN ?_ _) | (with_reducible refine Kd.C_drew ?_)))
    (case side2 => exact HC1_0.out)
    (case side3 => repeat (first | exact (Kd.C_below HR1_1.out HB.out) | (with_reducible refine Kd.C_alloc ?_ _) | (with_reducible refine Kd.C_drewN ?_ _) | (with_reducible refine Kd.C_drew ?_)))
    (case side4 => exact HC1_1.out)
    (case side5 => repeat (first | exact (Kd.C_below HR1_2.out HB.out) | (with_reducible refine Kd.C_alloc ?_ _) | (with_reducible refine Kd.C_drewN ?_ _) | (with_reducible refine Kd.C_drew ?_)))
    (case side6 => exact HC1_2.out)
    (case side7 => repeat (first | exact (Kd.C_below HR1_4.out HB.out) | (with_reducible refine Kd.C_alloc ?_ _) | (with_reducible refine Kd.C_drewN ?_ _) | (with_reducible refine Kd.C_drew ?_)))
    (case side8 => exact HC1_4.out)
    (case side9 => repeat (first | exact (Kd.C_below HR1_6.out HB.out) | (with_reducible refine Kd.C_alloc ?_ _) | (with_reducible refine Kd.C_drewN ?_ _) | (with_reducible refine Kd.C_drew ?_)))
    (case side10 => exact HC1_6.out)
    rintro e w19 ⟨rfl, hb⟩
    refine ⟨_, rfl, ?_⟩
    have n0_ := Aside0.mk (blk_below (g := gb414) (o := .cells #[.int .i64 a0_0, .int .i64 a0_1, .int .i64 a0_2, .int .i64 a0_3, .int .i64 a0_4, .int .u32 a0_5, .int .u64 a0_6, .int .i64 a0_7, .int .i64 a0_8, .int .i64 a0_9, .int .i64 a0_10] 28 (0, 0)) (by (with_reducible repeat (first | refine blk_drewN ?_ _ | refine blk_drew ?_ | refine blk_alloc ?_ _)); exact BK414.out) hb)
    have n1_ := Aside0.mk (blk_below (g := gb415) (o := .cells #[.slice A1_0 l1_0.length c1_0, .slice A1_1 l1_1.length c1_1, .slice A1_2 l1_2.length c1_2, .int .i64 a1_3, .slice A1_4 l1_4.length c1_4, .string a1_5, .slice A1_6 l1_6.length c1_6, .int .i64 a1_7, .bool a1_8, .bool a1_9, .int .i64 a1_10, .int .i64 a1_11, .int .i64 a1_12, .int .i64 a1_13, .int .i64 a1_14] 39 (0, 0)) (by (with_reducible repeat (first | refine blk_drewN ?_ _ | refine blk_drew ?_ | refine blk_alloc ?_ _)); exact BK415.out) hb)
    have n2_ := Aside0.mk (below_step (by repeat (first | (with_reducible first | exact HB.out | apply below_alloc | apply pw_below_drewN | apply below_drew1 | refine below_set ?_ GE414.out | refine below_set ?_ GE415.out) | exact HB.out)) hb)
    clear BK414
    clear BK415
    clear HB
    have BK414 := n0_
    have BK415 := n1_
    have HB := n2_
    clear n0_ n1_ n2_
    (try clear hb)
    (try clear hb2)
    (try clear hk)
    (try clear hi)
    refine hK.out _ _ ⟨(blk_cell BK415.out 0).trans rfl, (blk_cell BK415.out 1).trans rfl, (blk_cell BK415.out 2).trans rfl, (blk_cell BK415.out 3).trans rfl, (blk_cell BK415.out 4).trans rfl, (blk_cell BK415.out 5).trans rfl, (blk_cell BK415.out 6).trans rfl, (blk_cell BK415.out 7).trans rfl, (blk_cell BK415.out 8).trans rfl, (blk_cell BK415.out 9).trans rfl, (blk_cell BK415.out 10).trans rfl, (blk_cell BK415.out 11).trans rfl, (blk_cell BK415.out 12).trans rfl, (blk_cell BK415.out 13).trans rfl, (blk_cell BK415.out 14).trans rfl, (blk_cell BK414.out 0).trans rfl, (blk_cell BK414.out 1).trans rfl, (blk_cell BK414.out 2).trans rfl, (blk_cell BK414.out 3).trans rfl, (blk_cell BK414.out 4).trans rfl, (blk_cell BK414.out 5).trans rfl, (blk_cell BK414.out 6).trans rfl, (blk_cell BK414.out 7).trans rfl, (blk_cell BK414.out 8).trans rfl, (blk_cell BK414.out 9).trans rfl, (blk_cell BK414.out 10).trans rfl⟩ (fun hHeld => ?_)
    clear hK K
    refine norm_ (a' := ?_) ?_ ?_
    rotate_left
    ·show Act.put _ (some 10) _ = _
     simp only [Act.put, List.setIfInBounds_toArray, List.set_cons_zero, List.set_cons_succ, i64_w, i32_w]
     rfl
    refine pure_ (i := 4) (N := some 11) (v := ?_) (a' := ?_) #[true, true, true, true, true, false, false, false, false, false, false, false, false, false, false, false, false, false, false, false, false, false, false, false, false, false, false, false, false, false, false] rfl rfl (any_of HT_.out (by kernel_rfl)) (fun _ _ _ h => h) (Or.inl ⟨by rfl, ?_⟩) ?_ ?_
    rotate_left
    ·intro w'
     go_simp
     with_reducible rfl
    rotate_left
    ·simp only [Act.put, List.setIfInBounds_toArray, List.set_cons_zero, List.set_cons_succ, i64_w, i32_w]
     rfl
    refine pure_ (i := 5) (N := some 12) (v := ?_) (a' := ?_) #[true, true, true, true, true, true, false, false, false, false, false, false, false, false, false, false, false, false, false, false, false, false, false, false, false, false, false, false, false, false, false] rfl rfl (any_of HT_.out (by kernel_rfl)) (fun _ _ _ h => h) (Or.inl ⟨by rfl, ?_⟩) ?_ ?_
    rotate_left
    ·intro w'
     go_simp
     with_reducible rfl
    rotate_left
    ·simp only [Act.put, List.setIfInBounds_toArray, List.set_cons_zero, List.set_cons_succ, i64_w, i32_w]
     rfl
    refine pure_ (i := 7) (N := some 14) (v := ?_) (a' := ?_) #[true, true, true, true, true, true, false, true, false, false, false, false, false, false, false, false, false, false, false, false, false, false, false, false, false, false, false, false, false, false, false] rfl rfl (any_of HT_.out (by kernel_rfl)) (fun _ _ _ h => h) (Or.inl ⟨by rfl, ?_⟩) ?_ ?_
    rotate_left
    ·intro w'
     go_simp
     with_reducible rfl
    rotate_left
    ·simp only [Act.put, List.setIfInBounds_toArray, List.set_cons_zero, List.set_cons_succ, i64_w, i32_w]
     rfl
    refine pure_ (i := 10) (N := some 17) (v := ?_) (a' := ?_) #[true, true, true, true, true, true, false, true, false, false, true, false, false, false, false, false, false, false, false, false, false, false, false, false, false, false, false, false, false, false, false] rfl rfl (any_of HT_.out (by kernel_rfl)) (fun _ _ _ h => h) (Or.inl ⟨by rfl, ?_⟩) ?_ ?_
    rotate_left
    ·intro w'
     go_simp
     with_reducible rfl
    rotate_left
    ·simp only [Act.put, List.setIfInBounds_toArray, List.set_cons_zero, List.set_cons_succ, i64_w, i32_w]
     rfl
    refine take_ (i := 6) (N := some 13) (v := ?_) (a' := ?_) #[true, true, true, true, true, true, true, true, false, false, true, false, false, false, false, false, false, false, false, false, false, false, false, false, false, false, false, false, false, false, false] rfl rfl (take_ofW HT_.out HW_.out (by kernel_rfl)) (fun _ _ _ h => h) (Or.inl ⟨by rfl, ?_⟩) hHeld ?_ ?_
    rotate_left
    ·rintro w' ⟨s0, s1, s2, s3, s4, s5, s6, s7, s8, s9, s10, s11, s12, s13, s14, s15, s16, s17, s18, s19, s20, s21, s22, s23, s24, s25⟩
     go_simp
     with_reducible rfl
    rotate_left
    ·simp only [Act.put, List.setIfInBounds_toArray, List.set_cons_zero, List.set_cons_succ, i64_w, i32_w]
     rfl
    refine take_ (i := 9) (N := some 16) (v := ?_) (a' := ?_) #[true, true, true, true, true, true, true, true, false, true, true, false, false, false, false, false, false, false, false, false, false, false, false, false, false, false, false, false, false, false, false] rfl rfl (take_ofW HT_.out HW_.out (by kernel_rfl)) (fun _ _ _ h => h) (Or.inl ⟨by rfl, ?_⟩) hHeld ?_ ?_
    rotate_left
    ·rintro w' ⟨s0, s1, s2, s3, s4, s5, s6, s7, s8, s9, s10, s11, s12, s13, s14, s15, s16, s17, s18, s19, s20, s21, s22, s23, s24, s25⟩
     go_simp
     with_reducible rfl
    rotate_left
    ·simp only [Act.put, List.setIfInBounds_toArray, List.set_cons_zero, List.set_cons_succ, i64_w, i32_w]
     rfl
    refine one_ (i := 8) (N := some 15) #[true, true, true, true, true, true, true, true, true, true, true, false, false, false, false, false, false, false, false, false, false, false, false, false, false, false, false, false, false, false, false] rfl rfl (one_of HT_.out (by kernel_rfl)) (by decide) (fun K hK => ?_)
    refine goes_ Try.func16 (by kernel_rfl) rfl #[.agg #[.int .i64 a0_0, .int .i64 a0_1, .int .i64 a0_2, .int .i64 a0_3, .int .i64 a0_4, .int .u32 a0_5, .int .u64 a0_6, .int .i64 a0_7, .int .i64 a0_8, .int .i64 a0_9, .int .i64 a0_10], .int .u64 a2] (by rfl) rfl rfl (by (try simp only [List.map_toArray, List.map_cons, List.map_nil]); first | done | rfl | (simp only [List.length_drop, List.length_take]; rfl)) ?_
    with_reducible refine (system_Age.calls k a0_0 a0_1 a0_2 a0_3 a0_4 a0_5 a0_6 a0_7 a0_8 a0_9 a0_10 a2 t438 t439 t440 t441 t442 t443 t444 t445 t446 t447 t448 _ A7.out).mono ?_
    rintro e w20 ⟨rfl, hb⟩
    refine ⟨_, rfl, ?_⟩
    have n0_ := Aside0.mk (blk_below (g := gb414) (o := .cells #[.int .i64 a0_0, .int .i64 a0_1, .int .i64 a0_2, .int .i64 a0_3, .int .i64 a0_4, .int .u32 a0_5, .int .u64 a0_6, .int .i64 a0_7, .int .i64 a0_8, .int .i64 a0_9, .int .i64 a0_10] 28 (0, 0)) (by (with_reducible repeat (first | refine blk_drewN ?_ _ | refine blk_drew ?_ | refine blk_alloc ?_ _)); exact BK414.out) hb)
    have n1_ := Aside0.mk (blk_below (g := gb415) (o := .cells #[.slice A1_0 l1_0.length c1_0, .slice A1_1 l1_1.length c1_1, .slice A1_2 l1_2.length c1_2, .int .i64 a1_3, .slice A1_4 l1_4.length c1_4, .string a1_5, .slice A1_6 l1_6.length c1_6, .int .i64 a1_7, .bool a1_8, .bool a1_9, .int .i64 a1_10, .int .i64 a1_11, .int .i64 a1_12, .int .i64 a1_13, .int .i64 a1_14] 39 (0, 0)) (by (with_reducible repeat (first | refine blk_drewN ?_ _ | refine blk_drew ?_ | refine blk_alloc ?_ _)); exact BK415.out) hb)
    have n2_ := Aside0.mk (below_step (by repeat (first | (with_reducible first | exact HB.out | apply below_alloc | apply pw_below_drewN | apply below_drew1 | refine below_set ?_ GE414.out | refine below_set ?_ GE415.out) | exact HB.out)) hb)
    clear BK414
    clear BK415
    clear HB
    have BK414 := n0_
    have BK415 := n1_
    have HB := n2_
    clear n0_ n1_ n2_
    (try clear hb)
    (try clear hb2)
    (try clear hk)
    (try clear hi)
    refine hK.out _ _ ⟨(blk_cell BK415.out 0).trans rfl, (blk_cell BK415.out 1).trans rfl, (blk_cell BK415.out 2).trans rfl, (blk_cell BK415.out 3).trans rfl, (blk_cell BK415.out 4).trans rfl, (blk_cell BK415.out 5).trans rfl, (blk_cell BK415.out 6).trans rfl, (blk_cell BK415.out 7).trans rfl, (blk_cell BK415.out 8).trans rfl, (blk_cell BK415.out 9).trans rfl, (blk_cell BK415.out 10).trans rfl, (blk_cell BK415.out 11).trans rfl, (blk_cell BK415.out 12).trans rfl, (blk_cell BK415.out 13).trans rfl, (blk_cell BK415.out 14).trans rfl, (blk_cell BK414.out 0).trans rfl, (blk_cell BK414.out 1).trans rfl, (blk_cell BK414.out 2).trans rfl, (blk_cell BK414.out 3).trans rfl, (blk_cell BK414.out 4).trans rfl, (blk_cell BK414.out 5).trans rfl, (blk_cell BK414.out 6).trans rfl, (blk_cell BK414.out 7).trans rfl, (blk_cell BK414.out 8).trans rfl, (blk_cell BK414.out 9).trans rfl, (blk_cell BK414.out 10).trans rfl⟩ (fun hHeld => ?_)
    clear hK K
    refine norm_ (a' := ?_) ?_ ?_
    rotate_left
    ·show Act.put _ (some 15) _ = _
     simp only [Act.put, List.setIfInBounds_toArray, List.set_cons_zero, List.set_cons_succ, i64_w, i32_w]
     rfl
    refine one_ (i := 11) (N := some 18) #[true, true, true, true, true, true, true, true, true, true, true, true, false, false, false, false, false, false, false, false, false, false, false, false, false, false, false, false, false, false, false] rfl rfl (one_of HT_.out (by kernel_rfl)) (by decide) (fun K hK => ?_)
    refine goes_ Try.func17 (by kernel_rfl) rfl #[.agg #[.int .i64 a0_0, .int .i64 a0_1, .int .i64 a0_2, .int .i64 a0_3, .int .i64 a0_4, .int .u32 a0_5, .int .u64 a0_6, .int .i64 a0_7, .int .i64 a0_8, .int .i64 a0_9, .int .i64 a0_10], .int .u64 a2] (by rfl) rfl rfl (by (try simp only [List.map_toArray, List.map_cons, List.map_nil]); first | done | rfl | (simp only [List.length_drop, List.length_take]; rfl)) ?_
    with_reducible refine (foliotref17_Age.calls k a0_0 a0_1 a0_2 a0_3 a0_4 a0_5 a0_6 a0_7 a0_8 a0_9 a0_10 a2 t449 t450 t451 t452 t453 t454 t455 t456 t457 t458 t459 _ A8.out).mono ?_
    rintro e w21 ⟨rfl, hb⟩
    refine ⟨_, rfl, ?_⟩
    have n0_ := Aside0.mk (blk_below (g := gb414) (o := .cells #[.int .i64 a0_0, .int .i64 a0_1, .int .i64 a0_2, .int .i64 a0_3, .int .i64 a0_4, .int .u32 a0_5, .int .u64 a0_6, .int .i64 a0_7, .int .i64 a0_8, .int .i64 a0_9, .int .i64 a0_10] 28 (0, 0)) (by (with_reducible repeat (first | refine blk_drewN ?_ _ | refine blk_drew ?_ | refine blk_alloc ?_ _)); exact BK414.out) hb)
    have n1_ := Aside0.mk (blk_below (g := gb415) (o := .cells #[.slice A1_0 l1_0.length c1_0, .slice A1_1 l1_1.length c1_1, .slice A1_2 l1_2.length c1_2, .int .i64 a1_3, .slice A1_4 l1_4.length c1_4, .string a1_5, .slice A1_6 l1_6.length c1_6, .int .i64 a1_7, .bool a1_8, .bool a1_9, .int .i64 a1_10, .int .i64 a1_11, .int .i64 a1_12, .int .i64 a1_13, .int .i64 a1_14] 39 (0, 0)) (by (with_reducible repeat (first | refine blk_drewN ?_ _ | refine blk_drew ?_ | refine blk_alloc ?_ _)); exact BK415.out) hb)
    have n2_ := Aside0.mk (below_step (by repeat (first | (with_reducible first | exact HB.out | apply below_alloc | apply pw_below_drewN | apply below_drew1 | refine below_set ?_ GE414.out | refine below_set ?_ GE415.out) | exact HB.out)) hb)
    clear BK414
    clear BK415
    clear HB
    have BK414 := n0_
    have BK415 := n1_
    have HB := n2_
    clear n0_ n1_ n2_
    (try clear hb)
    (try clear hb2)
    (try clear hk)
    (try clear hi)
    refine hK.out _ _ ⟨(blk_cell BK415.out 0).trans rfl, (blk_cell BK415.out 1).trans rfl, (blk_cell BK415.out 2).trans rfl, (blk_cell BK415.out 3).trans rfl, (blk_cell BK415.out 4).trans rfl, (blk_cell BK415.out 5).trans rfl, (blk_cell BK415.out 6).trans rfl, (blk_cell BK415.out 7).trans rfl, (blk_cell BK415.out 8).trans rfl, (blk_cell BK415.out 9).trans rfl, (blk_cell BK415.out 10).trans rfl, (blk_cell BK415.out 11).trans rfl, (blk_cell BK415.out 12).trans rfl, (blk_cell BK415.out 13).trans rfl, (blk_cell BK415.out 14).trans rfl, (blk_cell BK414.out 0).trans rfl, (blk_cell BK414.out 1).trans rfl, (blk_cell BK414.out 2).trans rfl, (blk_cell BK414.out 3).trans rfl, (blk_cell BK414.out 4).trans rfl, (blk_cell BK414.out 5).trans rfl, (blk_cell BK414.out 6).trans rfl, (blk_cell BK414.out 7).trans rfl, (blk_cell BK414.out 8).trans rfl, (blk_cell BK414.out 9).trans rfl, (blk_cell BK414.out 10).trans rfl⟩ (fun hHeld => ?_)
    clear hK K
    refine norm_ (a' := ?_) ?_ ?_
    rotate_left
    ·show Act.put _ (some 18) _ = _
     simp only [Act.put, List.setIfInBounds_toArray, List.set_cons_zero, List.set_cons_succ, i64_w, i32_w]
     rfl
    refine pure_ (i := 12) (N := some 19) (v := ?_) (a' := ?_) #[true, true, true, true, true, true, true, true, true, true, true, true, true, false, false, false, false, false, false, false, false, false, false, false, false, false, false, false, false, false, false] rfl rfl (any_of HT_.out (by kernel_rfl)) (fun _ _ _ h => h) (Or.inl ⟨by rfl, ?_⟩) ?_ ?_
    rotate_left
    ·intro w'
     go_simp
     with_reducible rfl
    rotate_left
    ·simp only [Act.put, List.setIfInBounds_toArray, List.set_cons_zero, List.set_cons_succ, i64_w, i32_w]
     rfl
    refine pure_ (i := 13) (N := some 20) (v := ?_) (a' := ?_) #[true, true, true, true, true, true, true, true, true, true, true, true, true, true, false, false, false, false, false, false, false, false, false, false, false, false, false, false, false, false, false] rfl rfl (any_of HT_.out (by kernel_rfl)) (fun _ _ _ h => h) (Or.inl ⟨by rfl, ?_⟩) ?_ ?_
    rotate_left
    ·intro w'
     go_simp
     with_reducible rfl
    rotate_left
    ·simp only [Act.put, List.setIfInBounds_toArray, List.set_cons_zero, List.set_cons_succ, i64_w, i32_w]
     rfl
    refine pure_ (i := 14) (N := some 21) (v := ?_) (a' := ?_) #[true, true, true, true, true, true, true, true, true, true, true, true, true, true, true, false, false, false, false, false, false, false, false, false, false, false, false, false, false, false, false] rfl rfl (any_of HT_.out (by kernel_rfl)) (fun _ _ _ h => h) (Or.inl ⟨by rfl, ?_⟩) ?_ ?_
    rotate_left
    ·intro w'
     go_simp
     with_reducible rfl
    rotate_left
    ·simp only [Act.put, List.setIfInBounds_toArray, List.set_cons_zero, List.set_cons_succ, i64_w, i32_w]
     rfl
    refine pure_ (i := 16) (N := some 23) (v := ?_) (a' := ?_) #[true, true, true, true, true, true, true, true, true, true, true, true, true, true, true, false, true, false, false, false, false, false, false, false, false, false, false, false, false, false, false] rfl rfl (any_of HT_.out (by kernel_rfl)) (fun _ _ _ h => h) (Or.inl ⟨by rfl, ?_⟩) ?_ ?_
    rotate_left
    ·intro w'
     go_simp
     with_reducible rfl
    rotate_left
    ·simp only [Act.put, List.setIfInBounds_toArray, List.set_cons_zero, List.set_cons_succ, i64_w, i32_w]
     rfl
    refine pure_ (i := 19) (N := some 26) (v := ?_) (a' := ?_) #[true, true, true, true, true, true, true, true, true, true, true, true, true, true, true, false, true, false, false, true, false, false, false, false, false, false, false, false, false, false, false] rfl rfl (any_of HT_.out (by kernel_rfl)) (fun _ _ _ h => h) (Or.inl ⟨by rfl, ?_⟩) ?_ ?_
    rotate_left
    ·intro w'
     go_simp
     with_reducible rfl
    rotate_left
    ·simp only [Act.put, List.setIfInBounds_toArray, List.set_cons_zero, List.set_cons_succ, i64_w, i32_w]
     rfl
    refine take_ (i := 15) (N := some 22) (v := ?_) (a' := ?_) #[true, true, true, true, true, true, true, true, true, true, true, true, true, true, true, true, true, false, false, true, false, false, false, false, false, false, false, false, false, false, false] rfl rfl (take_ofW HT_.out HW_.out (by kernel_rfl)) (fun _ _ _ h => h) (Or.inl ⟨by rfl, ?_⟩) hHeld ?_ ?_
    rotate_left
    ·rintro w' ⟨s0, s1, s2, s3, s4, s5, s6, s7, s8, s9, s10, s11, s12, s13, s14, s15, s16, s17, s18, s19, s20, s21, s22, s23, s24, s25⟩
     go_simp
     with_reducible rfl
    rotate_left
    ·simp only [Act.put, List.setIfInBounds_toArray, List.set_cons_zero, List.set_cons_succ, i64_w, i32_w]
     rfl
    refine take_ (i := 18) (N := some 25) (v := ?_) (a' := ?_) #[true, true, true, true, true, true, true, true, true, true, true, true, true, true, true, true, true, false, true, true, false, false, false, false, false, false, false, false, false, false, false] rfl rfl (take_ofW HT_.out HW_.out (by kernel_rfl)) (fun _ _ _ h => h) (Or.inl ⟨by rfl, ?_⟩) hHeld ?_ ?_
    rotate_left
    ·rintro w' ⟨s0, s1, s2, s3, s4, s5, s6, s7, s8, s9, s10, s11, s12, s13, s14, s15, s16, s17, s18, s19, s20, s21, s22, s23, s24, s25⟩
     go_simp
     with_reducible rfl
    rotate_left
    ·simp only [Act.put, List.setIfInBounds_toArray, List.set_cons_zero, List.set_cons_succ, i64_w, i32_w]
     rfl
    refine one_ (i := 17) (N := some 24) #[true, true, true, true, true, true, true, true, true, true, true, true, true, true, true, true, true, true, true, true, false, false, false, false, false, false, false, false, false, false, false] rfl rfl (one_of HT_.out (by kernel_rfl)) (by decide) (fun K hK => ?_)
    refine goes_ Try.func18 (by kernel_rfl) rfl #[.agg #[.int .i64 a0_0, .int .i64 a0_1, .int .i64 a0_2, .int .i64 a0_3, .int .i64 a0_4, .int .u32 a0_5, .int .u64 a0_6, .int .i64 a0_7, .int .i64 a0_8, .int .i64 a0_9, .int .i64 a0_10], .int .u64 a2] (by rfl) rfl rfl (by (try simp only [List.map_toArray, List.map_cons, List.map_nil]); first | done | rfl | (simp only [List.length_drop, List.length_take]; rfl)) ?_
    with_reducible refine (system_Distance.calls k a0_0 a0_1 a0_2 a0_3 a0_4 a0_5 a0_6 a0_7 a0_8 a0_9 a0_10 a2 t460 _ A10.out).mono ?_
    rintro e w22 ⟨rfl, hb⟩
    refine ⟨_, rfl, ?_⟩
    have n0_ := Aside0.mk (blk_below (g := gb414) (o := .cells #[.int .i64 a0_0, .int .i64 a0_1, .int .i64 a0_2, .int .i64 a0_3, .int .i64 a0_4, .int .u32 a0_5, .int .u64 a0_6, .int .i64 a0_7, .int .i64 a0_8, .int .i64 a0_9, .int .i64 a0_10] 28 (0, 0)) (by (with_reducible repeat (first | refine blk_drewN ?_ _ | refine blk_drew ?_ | refine blk_alloc ?_ _)); exact BK414.out) hb)
    have n1_ := Aside0.mk (blk_below (g := gb415) (o := .cells #[.slice A1_0 l1_0.length c1_0, .slice A1_1 l1_1.length c1_1, .slice A1_2 l1_2.length c1_2, .int .i64 a1_3, .slice A1_4 l1_4.length c1_4, .string a1_5, .slice A1_6 l1_6.length c1_6, .int .i64 a1_7, .bool a1_8, .bool a1_9, .int .i64 a1_10, .int .i64 a1_11, .int .i64 a1_12, .int .i64 a1_13, .int .i64 a1_14] 39 (0, 0)) (by (with_reducible repeat (first | refine blk_drewN ?_ _ | refine blk_drew ?_ | refine blk_alloc ?_ _)); exact BK415.out) hb)
    have n2_ := Aside0.mk (below_step (by repeat (first | (with_reducible first | exact HB.out | apply below_alloc | apply pw_below_drewN | apply below_drew1 | refine below_set ?_ GE414.out | refine below_set ?_ GE415.out) | exact HB.out)) hb)
    clear BK414
    clear BK415
    clear HB
    have BK414 := n0_
    have BK415 := n1_
    have HB := n2_
    clear n0_ n1_ n2_
    (try clear hb)
    (try clear hb2)
    (try clear hk)
    (try clear hi)
    refine hK.out _ _ ⟨(blk_cell BK415.out 0).trans rfl, (blk_cell BK415.out 1).trans rfl, (blk_cell BK415.out 2).trans rfl, (blk_cell BK415.out 3).trans rfl, (blk_cell BK415.out 4).trans rfl, (blk_cell BK415.out 5).trans rfl, (blk_cell BK415.out 6).trans rfl, (blk_cell BK415.out 7).trans rfl, (blk_cell BK415.out 8).trans rfl, (blk_cell BK415.out 9).trans rfl, (blk_cell BK415.out 10).trans rfl, (blk_cell BK415.out 11).trans rfl, (blk_cell BK415.out 12).trans rfl, (blk_cell BK415.out 13).trans rfl, (blk_cell BK415.out 14).trans rfl, (blk_cell BK414.out 0).trans rfl, (blk_cell BK414.out 1).trans rfl, (blk_cell BK414.out 2).trans rfl, (blk_cell BK414.out 3).trans rfl, (blk_cell BK414.out 4).trans rfl, (blk_cell BK414.out 5).trans rfl, (blk_cell BK414.out 6).trans rfl, (blk_cell BK414.out 7).trans rfl, (blk_cell BK414.out 8).trans rfl, (blk_cell BK414.out 9).trans rfl, (blk_cell BK414.out 10).trans rfl⟩ (fun hHeld => ?_)
    clear hK K
    refine norm_ (a' := ?_) ?_ ?_
    rotate_left
    ·show Act.put _ (some 24) _ = _
     simp only [Act.put, List.setIfInBounds_toArray, List.set_cons_zero, List.set_cons_succ, i64_w, i32_w]
     rfl
    refine one_ (i := 20) (N := some 27) #[true, true, true, true, true, true, true, true, true, true, true, true, true, true, true, true, true, true, true, true, true, false, false, false, false, false, false, false, false, false, false] rfl rfl (one_of HT_.out (by kernel_rfl)) (by decide) (fun K hK => ?_)
    refine goes_ Try.func19 (by kernel_rfl) rfl #[.agg #[.int .i64 a0_0, .int .i64 a0_1, .int .i64 a0_2, .int .i64 a0_3, .int .i64 a0_4, .int .u32 a0_5, .int .u64 a0_6, .int .i64 a0_7, .int .i64 a0_8, .int .i64 a0_9, .int .i64 a0_10], .int .u64 a2] (by rfl) rfl rfl (by (try simp only [List.map_toArray, List.map_cons, List.map_nil]); first | done | rfl | (simp only [List.length_drop, List.length_take]; rfl)) ?_
    with_reducible refine (foliotref17_Distance.calls k a0_0 a0_1 a0_2 a0_3 a0_4 a0_5 a0_6 a0_7 a0_8 a0_9 a0_10 a2 t461 _ A11.out).mono ?_
    rintro e w23 ⟨rfl, hb⟩
    refine ⟨_, rfl, ?_⟩
    have n0_ := Aside0.mk (blk_below (g := gb414) (o := .cells #[.int .i64 a0_0, .int .i64 a0_1, .int .i64 a0_2, .int .i64 a0_3, .int .i64 a0_4, .int .u32 a0_5, .int .u64 a0_6, .int .i64 a0_7, .int .i64 a0_8, .int .i64 a0_9, .int .i64 a0_10] 28 (0, 0)) (by (with_reducible repeat (first | refine blk_drewN ?_ _ | refine blk_drew ?_ | refine blk_alloc ?_ _)); exact BK414.out) hb)
    have n1_ := Aside0.mk (blk_below (g := gb415) (o := .cells #[.slice A1_0 l1_0.length c1_0, .slice A1_1 l1_1.length c1_1, .slice A1_2 l1_2.length c1_2, .int .i64 a1_3, .slice A1_4 l1_4.length c1_4, .string a1_5, .slice A1_6 l1_6.length c1_6, .int .i64 a1_7, .bool a1_8, .bool a1_9, .int .i64 a1_10, .int .i64 a1_11, .int .i64 a1_12, .int .i64 a1_13, .int .i64 a1_14] 39 (0, 0)) (by (with_reducible repeat (first | refine blk_drewN ?_ _ | refine blk_drew ?_ | refine blk_alloc ?_ _)); exact BK415.out) hb)
    have n2_ := Aside0.mk (below_step (by repeat (first | (with_reducible first | exact HB.out | apply below_alloc | apply pw_below_drewN | apply below_drew1 | refine below_set ?_ GE414.out | refine below_set ?_ GE415.out) | exact HB.out)) hb)
    clear BK414
    clear BK415
    clear HB
    have BK414 := n0_
    have BK415 := n1_
    have HB := n2_
    clear n0_ n1_ n2_
    (try clear hb)
    (try clear hb2)
    (try clear hk)
    (try clear hi)
    refine hK.out _ _ ⟨(blk_cell BK415.out 0).trans rfl, (blk_cell BK415.out 1).trans rfl, (blk_cell BK415.out 2).trans rfl, (blk_cell BK415.out 3).trans rfl, (blk_cell BK415.out 4).trans rfl, (blk_cell BK415.out 5).trans rfl, (blk_cell BK415.out 6).trans rfl, (blk_cell BK415.out 7).trans rfl, (blk_cell BK415.out 8).trans rfl, (blk_cell BK415.out 9).trans rfl, (blk_cell BK415.out 10).trans rfl, (blk_cell BK415.out 11).trans rfl, (blk_cell BK415.out 12).trans rfl, (blk_cell BK415.out 13).trans rfl, (blk_cell BK415.out 14).trans rfl, (blk_cell BK414.out 0).trans rfl, (blk_cell BK414.out 1).trans rfl, (blk_cell BK414.out 2).trans rfl, (blk_cell BK414.out 3).trans rfl, (blk_cell BK414.out 4).trans rfl, (blk_cell BK414.out 5).trans rfl, (blk_cell BK414.out 6).trans rfl, (blk_cell BK414.out 7).trans rfl, (blk_cell BK414.out 8).trans rfl, (blk_cell BK414.out 9).trans rfl, (blk_cell BK414.out 10).trans rfl⟩ (fun hHeld => ?_)
    clear hK K
    refine norm_ (a' := ?_) ?_ ?_
    rotate_left
    ·show Act.put _ (some 27) _ = _
     simp only [Act.put, List.setIfInBounds_toArray, List.set_cons_zero, List.set_cons_succ, i64_w, i32_w]
     rfl
    refine pure_ (i := 21) (N := some 28) (v := ?_) (a' := ?_) #[true, true, true, true, true, true, true, true, true, true, true, true, true, true, true, true, true, true, true, true, true, true, false, false, false, false, false, false, false, false, false] rfl rfl (any_of HT_.out (by kernel_rfl)) (fun _ _ _ h => h) (Or.inl ⟨by rfl, ?_⟩) ?_ ?_
    rotate_left
    ·intro w'
     go_simp
     with_reducible rfl
    rotate_left
    ·simp only [Act.put, List.setIfInBounds_toArray, List.set_cons_zero, List.set_cons_succ, i64_w, i32_w]
     rfl
    refine pure_ (i := 22) (N := some 29) (v := ?_) (a' := ?_) #[true, true, true, true, true, true, true, true, true, true, true, true, true, true, true, true, true, true, true, true, true, true, true, false, false, false, false, false, false, false, false] rfl rfl (any_of HT_.out (by kernel_rfl)) (fun _ _ _ h => h) (Or.inl ⟨by rfl, ?_⟩) ?_ ?_
    rotate_left
    ·intro w'
     go_simp
     with_reducible rfl
    rotate_left
    ·simp only [Act.put, List.setIfInBounds_toArray, List.set_cons_zero, List.set_cons_succ, i64_w, i32_w]
     rfl
    refine pure_ (i := 23) (N := some 30) (v := ?_) (a' := ?_) #[true, true, true, true, true, true, true, true, true, true, true, true, true, true, true, true, true, true, true, true, true, true, true, true, false, false, false, false, false, false, false] rfl rfl (any_of HT_.out (by kernel_rfl)) (fun _ _ _ h => h) (Or.inl ⟨by rfl, ?_⟩) ?_ ?_
    rotate_left
    ·intro w'
     go_simp
     with_reducible rfl
    rotate_left
    ·simp only [Act.put, List.setIfInBounds_toArray, List.set_cons_zero, List.set_cons_succ, i64_w, i32_w]
     rfl
    refine take_ (i := 24) (N := some 31) (v := ?_) (a' := ?_) #[true, true, true, true, true, true, true, true, true, true, true, true, true, true, true, true, true, true, true, true, true, true, true, true, true, false, false, false, false, false, false] rfl rfl (take_ofW HT_.out HW_.out (by kernel_rfl)) (fun _ _ _ h => h) (Or.inl ⟨by rfl, ?_⟩) hHeld ?_ ?_
    rotate_left
    ·rintro w' ⟨s0, s1, s2, s3, s4, s5, s6, s7, s8, s9, s10, s11, s12, s13, s14, s15, s16, s17, s18, s19, s20, s21, s22, s23, s24, s25⟩
     go_simp
     with_reducible rfl
    rotate_left
    ·simp only [Act.put, List.setIfInBounds_toArray, List.set_cons_zero, List.set_cons_succ, i64_w, i32_w]
     rfl
    refine take_ (i := 26) (N := some 33) (v := ?_) (a' := ?_) #[true, true, true, true, true, true, true, true, true, true, true, true, true, true, true, true, true, true, true, true, true, true, true, true, true, false, true, false, false, false, false] rfl rfl (take_ofW HT_.out HW_.out (by kernel_rfl)) (fun _ _ _ h => h) (Or.inl ⟨by rfl, ?_⟩) hHeld ?_ ?_
    rotate_left
    ·rintro w' ⟨s0, s1, s2, s3, s4, s5, s6, s7, s8, s9, s10, s11, s12, s13, s14, s15, s16, s17, s18, s19, s20, s21, s22, s23, s24, s25⟩
     go_simp
     with_reducible rfl
    rotate_left
    ·simp only [Act.put, List.setIfInBounds_toArray, List.set_cons_zero, List.set_cons_succ, i64_w, i32_w]
     rfl
    refine one_ (i := 25) (N := some 32) #[true, true, true, true, true, true, true, true, true, true, true, true, true, true, true, true, true, true, true, true, true, true, true, true, true, true, true, false, false, false, false] rfl rfl (one_of HT_.out (by kernel_rfl)) (by decide) (fun K hK => ?_)
    refine goes_ Try.func20 (by kernel_rfl) rfl #[.agg #[.int .i64 a0_0, .int .i64 a0_1, .int .i64 a0_2, .int .i64 a0_3, .int .i64 a0_4, .int .u32 a0_5, .int .u64 a0_6, .int .i64 a0_7, .int .i64 a0_8, .int .i64 a0_9, .int .i64 a0_10]] (by rfl) rfl rfl (by (try simp only [List.map_toArray, List.map_cons, List.map_nil]); first | done | rfl | (simp only [List.length_drop, List.length_take]; rfl)) ?_
    with_reducible refine (system_Synced.calls a0_0 a0_1 a0_2 a0_3 a0_4 a0_5 a0_6 a0_7 a0_8 a0_9 a0_10 t462 _ A13.out).mono ?_
    rintro e w24 ⟨rfl, hb⟩
    refine ⟨_, rfl, ?_⟩
    have n0_ := Aside0.mk (blk_below (g := gb414) (o := .cells #[.int .i64 a0_0, .int .i64 a0_1, .int .i64 a0_2, .int .i64 a0_3, .int .i64 a0_4, .int .u32 a0_5, .int .u64 a0_6, .int .i64 a0_7, .int .i64 a0_8, .int .i64 a0_9, .int .i64 a0_10] 28 (0, 0)) (by (with_reducible repeat (first | refine blk_drewN ?_ _ | refine blk_drew ?_ | refine blk_alloc ?_ _)); exact BK414.out) hb)
    have n1_ := Aside0.mk (blk_below (g := gb415) (o := .cells #[.slice A1_0 l1_0.length c1_0, .slice A1_1 l1_1.length c1_1, .slice A1_2 l1_2.length c1_2, .int .i64 a1_3, .slice A1_4 l1_4.length c1_4, .string a1_5, .slice A1_6 l1_6.length c1_6, .int .i64 a1_7, .bool a1_8, .bool a1_9, .int .i64 a1_10, .int .i64 a1_11, .int .i64 a1_12, .int .i64 a1_13, .int .i64 a1_14] 39 (0, 0)) (by (with_reducible repeat (first | refine blk_drewN ?_ _ | refine blk_drew ?_ | refine blk_alloc ?_ _)); exact BK415.out) hb)
    have n2_ := Aside0.mk (below_step (by repeat (first | (with_reducible first | exact HB.out | apply below_alloc | apply pw_below_drewN | apply below_drew1 | refine below_set ?_ GE414.out | refine below_set ?_ GE415.out) | exact HB.out)) hb)
    clear BK414
    clear BK415
    clear HB
    have BK414 := n0_
    have BK415 := n1_
    have HB := n2_
    clear n0_ n1_ n2_
    (try clear hb)
    (try clear hb2)
    (try clear hk)
    (try clear hi)
    refine hK.out _ _ ⟨(blk_cell BK415.out 0).trans rfl, (blk_cell BK415.out 1).trans rfl, (blk_cell BK415.out 2).trans rfl, (blk_cell BK415.out 3).trans rfl, (blk_cell BK415.out 4).trans rfl, (blk_cell BK415.out 5).trans rfl, (blk_cell BK415.out 6).trans rfl, (blk_cell BK415.out 7).trans rfl, (blk_cell BK415.out 8).trans rfl, (blk_cell BK415.out 9).trans rfl, (blk_cell BK415.out 10).trans rfl, (blk_cell BK415.out 11).trans rfl, (blk_cell BK415.out 12).trans rfl, (blk_cell BK415.out 13).trans rfl, (blk_cell BK415.out 14).trans rfl, (blk_cell BK414.out 0).trans rfl, (blk_cell BK414.out 1).trans rfl, (blk_cell BK414.out 2).trans rfl, (blk_cell BK414.out 3).trans rfl, (blk_cell BK414.out 4).trans rfl, (blk_cell BK414.out 5).trans rfl, (blk_cell BK414.out 6).trans rfl, (blk_cell BK414.out 7).trans rfl, (blk_cell BK414.out 8).trans rfl, (blk_cell BK414.out 9).trans rfl, (blk_cell BK414.out 10).trans rfl⟩ (fun hHeld => ?_)
    clear hK K
    refine norm_ (a' := ?_) ?_ ?_
    rotate_left
    ·show Act.put _ (some 32) _ = _
     simp only [Act.put, List.setIfInBounds_toArray, List.set_cons_zero, List.set_cons_succ, i64_w, i32_w]
     rfl
    refine one_ (i := 27) (N := some 34) #[true, true, true, true, true, true, true, true, true, true, true, true, true, true, true, true, true, true, true, true, true, true, true, true, true, true, true, true, false, false, false] rfl rfl (one_of HT_.out (by kernel_rfl)) (by decide) (fun K hK => ?_)
    refine goes_ Try.func21 (by kernel_rfl) rfl #[.agg #[.int .i64 a0_0, .int .i64 a0_1, .int .i64 a0_2, .int .i64 a0_3, .int .i64 a0_4, .int .u32 a0_5, .int .u64 a0_6, .int .i64 a0_7, .int .i64 a0_8, .int .i64 a0_9, .int .i64 a0_10]] (by rfl) rfl rfl (by (try simp only [List.map_toArray, List.map_cons, List.map_nil]); first | done | rfl | (simp only [List.length_drop, List.length_take]; rfl)) ?_
    with_reducible refine (foliotref17_Synced.calls a0_0 a0_1 a0_2 a0_3 a0_4 a0_5 a0_6 a0_7 a0_8 a0_9 a0_10 t463 _ A14.out).mono ?_
    rintro e w25 ⟨rfl, hb⟩
    refine ⟨_, rfl, ?_⟩
    have n0_ := Aside0.mk (blk_below (g := gb414) (o := .cells #[.int .i64 a0_0, .int .i64 a0_1, .int .i64 a0_2, .int .i64 a0_3, .int .i64 a0_4, .int .u32 a0_5, .int .u64 a0_6, .int .i64 a0_7, .int .i64 a0_8, .int .i64 a0_9, .int .i64 a0_10] 28 (0, 0)) (by (with_reducible repeat (first | refine blk_drewN ?_ _ | refine blk_drew ?_ | refine blk_alloc ?_ _)); exact BK414.out) hb)
    have n1_ := Aside0.mk (blk_below (g := gb415) (o := .cells #[.slice A1_0 l1_0.length c1_0, .slice A1_1 l1_1.length c1_1, .slice A1_2 l1_2.length c1_2, .int .i64 a1_3, .slice A1_4 l1_4.length c1_4, .string a1_5, .slice A1_6 l1_6.length c1_6, .int .i64 a1_7, .bool a1_8, .bool a1_9, .int .i64 a1_10, .int .i64 a1_11, .int .i64 a1_12, .int .i64 a1_13, .int .i64 a1_14] 39 (0, 0)) (by (with_reducible repeat (first | refine blk_drewN ?_ _ | refine blk_drew ?_ | refine blk_alloc ?_ _)); exact BK415.out) hb)
    have n2_ := Aside0.mk (below_step (by repeat (first | (with_reducible first | exact HB.out | apply below_alloc | apply pw_below_drewN | apply below_drew1 | refine below_set ?_ GE414.out | refine below_set ?_ GE415.out) | exact HB.out)) hb)
    clear BK414
    clear BK415
    clear HB
    have BK414 := n0_
    have BK415 := n1_
    have HB := n2_
    clear n0_ n1_ n2_
    (try clear hb)
    (try clear hb2)
    (try clear hk)
    (try clear hi)
    refine hK.out _ _ ⟨(blk_cell BK415.out 0).trans rfl, (blk_cell BK415.out 1).trans rfl, (blk_cell BK415.out 2).trans rfl, (blk_cell BK415.out 3).trans rfl, (blk_cell BK415.out 4).trans rfl, (blk_cell BK415.out 5).trans rfl, (blk_cell BK415.out 6).trans rfl, (blk_cell BK415.out 7).trans rfl, (blk_cell BK415.out 8).trans rfl, (blk_cell BK415.out 9).trans rfl, (blk_cell BK415.out 10).trans rfl, (blk_cell BK415.out 11).trans rfl, (blk_cell BK415.out 12).trans rfl, (blk_cell BK415.out 13).trans rfl, (blk_cell BK415.out 14).trans rfl, (blk_cell BK414.out 0).trans rfl, (blk_cell BK414.out 1).trans rfl, (blk_cell BK414.out 2).trans rfl, (blk_cell BK414.out 3).trans rfl, (blk_cell BK414.out 4).trans rfl, (blk_cell BK414.out 5).trans rfl, (blk_cell BK414.out 6).trans rfl, (blk_cell BK414.out 7).trans rfl, (blk_cell BK414.out 8).trans rfl, (blk_cell BK414.out 9).trans rfl, (blk_cell BK414.out 10).trans rfl⟩ (fun hHeld => ?_)
    clear hK K
    refine norm_ (a' := ?_) ?_ ?_
    rotate_left
    ·show Act.put _ (some 34) _ = _
     simp only [Act.put, List.setIfInBounds_toArray, List.set_cons_zero, List.set_cons_succ, i64_w, i32_w]
     rfl
    refine pure_ (i := 28) (N := some 35) (v := ?_) (a' := ?_) #[true, true, true, true, true, true, true, true, true, true, true, true, true, true, true, true, true, true, true, true, true, true, true, true, true, true, true, true, true, false, false] rfl rfl (any_of HT_.out (by kernel_rfl)) (fun _ _ _ h => h) (Or.inl ⟨by rfl, ?_⟩) ?_ ?_
    rotate_left
    ·intro w'
     go_simp
     with_reducible rfl
    rotate_left
    ·simp only [Act.put, List.setIfInBounds_toArray, List.set_cons_zero, List.set_cons_succ, i64_w, i32_w]
     rfl
    refine pure_ (i := 29) (N := some 36) (v := ?_) (a' := ?_) #[true, true, true, true, true, true, true, true, true, true, true, true, true, true, true, true, true, true, true, true, true, true, true, true, true, true, true, true, true, true, false] rfl rfl (any_of HT_.out (by kernel_rfl)) (fun _ _ _ h => h) (Or.inl ⟨by rfl, ?_⟩) ?_ ?_
    rotate_left
    ·intro w'
     go_simp
     with_reducible rfl
    rotate_left
    ·simp only [Act.put, List.setIfInBounds_toArray, List.set_cons_zero, List.set_cons_succ, i64_w, i32_w]
     rfl
    refine pure_ (i := 30) (N := some 6) (v := ?_) (a' := ?_) #[true, true, true, true, true, true, true, true, true, true, true, true, true, true, true, true, true, true, true, true, true, true, true, true, true, true, true, true, true, true, true] rfl rfl (any_of HT_.out (by kernel_rfl)) (fun _ _ _ h => h) (Or.inl ⟨by rfl, ?_⟩) ?_ ?_
    rotate_left
    ·intro w'
     go_simp
     with_reducible rfl
    rotate_left
    ·simp only [Act.put, List.setIfInBounds_toArray, List.set_cons_zero, List.set_cons_succ, i64_w, i32_w]
     rfl
    refine done_ (done_of HT_.out (by kernel_rfl)) ?_
    try go_wp2
    go_ret
    exact ⟨by first | rfl | (simp [errW_none, errW_some] <;> rfl) | (simp [*, errW_none, errW_some] <;> rfl), by repeat (first | (with_reducible first | exact HB.out | apply below_alloc | apply pw_below_drewN | apply below_drew1 | refine below_set ?_ GE414.out | refine below_set ?_ GE415.out) | exact HB.out)⟩
   ·rw [if_neg c12] at H
    have c12b0 : (t460 == t461) = false := beq_eq_false_iff_ne.mpr c12
    have c12b1 : (t460 != t461) = true := bne_iff_ne.mpr c12
    exact absurd ((Option.some.inj H).trans hrt_) Bool.false_ne_true
  ·rw [if_neg c9] at H
   have c9b0 : (t438 == t449 && (t439 == t450 && (t440 == t451 && (t441 == t452 && (t442 == t453 && (t443 == t454 && (t444 == t455 && (t445 == t456 && (t446 == t457 && (t447 == t458 && (t448 == t459))))))))))) = false := by simpa using c9
   (try (have c9b1 : decide (t438 = t449 && (t439 == t450 && (t440 == t451 && (t441 == t452 && (t442 == t453 && (t443 == t454 && (t444 == t455 && (t445 == t456 && (t446 == t457 && (t447 == t458 && (t448 == t459))))))))))) = false := by simpa using c9))
   (try (have c9b2 : (t438 == t449 && (t439 == t450 && (t440 == t451 && (t441 == t452 && (t442 == t453 && (t443 == t454 && (t444 == t455 && (t445 == t456 && (t446 == t457 && (t447 == t458 && (t448 == t459))))))))))) = false := by simpa using c9))
   (try (have c9b3 : ¬ (t438 = t449 && (t439 == t450 && (t440 == t451 && (t441 == t452 && (t442 == t453 && (t443 == t454 && (t444 == t455 && (t445 == t456 && (t446 == t457 && (t447 == t458 && (t448 == t459))))))))))) := by simpa using c9))
   clear c9
   exact absurd ((Option.some.inj H).trans hrt_) Bool.false_ne_true
 ·rw [if_neg c6] at H
  have c6b0 : (t416 == t427 && (t417 == t428 && (t418 == t429 && (t419 == t430 && (t420 == t431 && (t421 == t432 && (t422 == t433 && (t423 == t434 && (t424 == t435 && (t425 == t436 && (t426 == t437))))))))))) = false := by simpa using c6
  (try (have c6b1 : decide (t416 = t427 && (t417 == t428 && (t418 == t429 && (t419 == t430 && (t420 == t431 && (t421 == t432 && (t422 == t433 && (t423 == t434 && (t424 == t435 && (t425 == t436 && (t426 == t437))))))))))) = false := by simpa using c6))
  (try (have c6b2 : (t416 == t427 && (t417 == t428 && (t418 == t429 && (t419 == t430 && (t420 == t431 && (t421 == t432 && (t422 == t433 && (t423 == t434 && (t424 == t435 && (t425 == t436 && (t426 == t437))))))))))) = false := by simpa using c6))
  (try (have c6b3 : ¬ (t416 = t427 && (t417 == t428 && (t418 == t429 && (t419 == t430 && (t420 == t431 && (t421 == t432 && (t422 == t433 && (t423 == t434 && (t424 == t435 && (t425 == t436 && (t426 == t437))))))))))) := by simpa using c6))
  clear c6
  exact absurd ((Option.some.inj H).trans hrt_) Bool.false_ne_true
def okS130 (x : S130) : Prop := ((Lit.int .i64 x.f0).wf = true) ∧ ((Lit.int .u32 x.f1).wf = true) ∧ ((Lit.int .i64 x.f2).wf = true) ∧ ((Lit.int .i64 x.f3).wf = true) ∧ ((Lit.int .i64 x.f4).wf = true) ∧ ((Lit.int .i64 x.f8).wf = true) ∧ ((Lit.int .i64 x.f10).wf = true) ∧ ((Lit.int .i64 x.f11).wf = true)
def okS132 (x : S132) : Prop := ((Lit.int .i64 x.f0).wf = true) ∧ ((Lit.int .i64 x.f1).wf = true) ∧ (x.f2.length ≤ maxLen ∧ x.f2.length * 1 ≤ 140737488351232 ∧ ∀ y_xf2 ∈ x.f2, (Lit.int .u8 y_xf2).wf = true)
def okS134 (x : S134) : Prop := ((Lit.int .u32 x.f0).wf = true) ∧ ((Lit.int .i64 x.f1).wf = true) ∧ ((Lit.int .i64 x.f2).wf = true)
def foliotlaw17_SystemAges.Pure : Prop := ∀ (a0_0 : Int) (a0_1 : Int) (a0_2 : Int) (a0_3 : Int) (a0_4 : Int) (a0_5 : Int) (a0_6 : Int) (a0_7 : Int) (a0_8 : Int) (a0_9 : Int) (a0_10 : Int) (l1_0 : List (S130)) (l1_1 : List (S132)) (l1_2 : List Int) (a1_3 : Int) (l1_4 : List (S134)) (a1_5 : ByteArray) (l1_6 : List ByteArray) (a1_7 : Int) (a1_8 : Bool) (a1_9 : Bool) (a1_10 : Int) (a1_11 : Int) (a1_12 : Int) (a1_13 : Int) (a1_14 : Int) (a2 : Int), (Lit.int .i64 a0_0).wf = true → (Lit.int .i64 a0_1).wf = true → (Lit.int .i64 a0_2).wf = true → (Lit.int .i64 a0_3).wf = true → (Lit.int .i64 a0_4).wf = true → (Lit.int .u32 a0_5).wf = true → (Lit.int .u64 a0_6).wf = true → (Lit.int .i64 a0_7).wf = true → (Lit.int .i64 a0_8).wf = true → (Lit.int .i64 a0_9).wf = true → (Lit.int .i64 a0_10).wf = true → l1_0.length ≤ maxLen → l1_0.length * 80 ≤ 140737488351232 → (∀ y_l1_0 ∈ l1_0, okS130 y_l1_0) → l1_1.length ≤ maxLen → l1_1.length * 40 ≤ 140737488351232 → (∀ y_l1_1 ∈ l1_1, okS132 y_l1_1) → l1_2.length ≤ maxLen → l1_2.length * 8 ≤ 140737488351232 → (∀ y_l1_2 ∈ l1_2, (Lit.int .i64 y_l1_2).wf = true) → (Lit.int .i64 a1_3).wf = true → l1_4.length ≤ maxLen → l1_4.length * 24 ≤ 140737488351232 → (∀ y_l1_4 ∈ l1_4, okS134 y_l1_4) → a1_5.size ≤ 140737488351232 → l1_6.length ≤ maxLen → l1_6.length * 16 ≤ 140737488351232 → (∀ y_l1_6 ∈ l1_6, y_l1_6.size ≤ 140737488351232) → (Lit.int .i64 a1_7).wf = true → (Lit.int .i64 a1_10).wf = true → (Lit.int .i64 a1_11).wf = true → (Lit.int .i64 a1_12).wf = true → (Lit.int .i64 a1_13).wf = true → (Lit.int .i64 a1_14).wf = true → (Lit.int .u64 a2).wf = true → ∃ k, foliotlaw17_SystemAges.f k a0_0 a0_1 a0_2 a0_3 a0_4 a0_5 a0_6 a0_7 a0_8 a0_9 a0_10 l1_0 l1_1 l1_2 a1_3 l1_4 a1_5 l1_6 a1_7 a1_8 a1_9 a1_10 a1_11 a1_12 a1_13 a1_14 a2 = some true
end Go.Proofs.Ytbcdoncnhhjjeaa.PSystemAges
