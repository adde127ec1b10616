-- Written by a program (extend_print.py). Not trusted: Lean checks it.
import Derived.Test.YtbcdoncnhhjjeaaPSystemFollowsx0
import Derived.Test.YtbcdoncnhhjjeaaPSystemFollowsx7
namespace Go.Proofs.Ytbcdoncnhhjjeaa.PSystemFollows
open Go.RowKit Go.Proofs.YtbcdoncnhhjjeaaW.PrintWords Go.Proofs.YtbcdoncnhhjjeaaW.PrintLast Go.Proofs.YtbcdoncnhhjjeaaW.PrintMore
attribute [local go_sem] max2_int min2_int max_two min_two max_three min_three max_four min_four
set_option linter.unusedVariables false
set_option maxHeartbeats 8000000
set_option maxRecDepth 100000
set_option linter.unusedSimpArgs false
def foliotref17_Follow.f (k : Nat) (a0_0 : Int) (a0_1 : Int) (a0_2 : Int) (a0_3 : Int) (a0_4 : Int) (a0_5 : Int) (a0_6 : Int) (a0_7 : Int) (a0_8 : Int) (a0_9 : Int) (a0_10 : Int) (a0_11 : Bool) (a0_12 : Int) (a0_13 : Int) (a1 : Int) (a2 : Int) (a3 : Int) : Option (Int × Int × Int × Int × Int × Int × Int × Int × Int × Int × Int) := (foliotref01_Add.f k a0_4 a0_8).bind fun t228 => ((foliotref01_Abs.f k a0_12).bind fun t229 => ((foliotref01_Add.f k t228 t229).bind fun t230 => ((foliotref01_Add.f k t230 a0_13).bind fun t231 => (if a0_2 < 16 then ((foliotref01_Add.f k a0_3 a0_7).bind fun t232 => ((foliotref17_inside.f t232 68719476736).bind fun t233 => ((foliotref17_inside.f t231 68719476736).bind fun t234 => (some (a0_1, mx 0 (wrap64 ((mx a0_2 (-1)) + 1)), mx 3 (mn a2 10), t233, t234, a0_5, a3, a0_12, a0_13, a0_0, a1))))) else ((foliotref01_Add.f k a0_3 a0_7).bind fun t235 => ((foliotref17_inside.f t235 68719476736).bind fun t236 => ((foliotref17_inside.f t231 68719476736).bind fun t237 => (some (a0_1, 16, mx 3 (mn a2 10), t236, t237, a0_5, a3, a0_12, a0_13, a0_0, a1)))))))))
def foliotref17_Follow.T1 : Bool × List (List Nat × List Nat) := (true, [([], []), ([0], [0]), ([], []), ([2], [2]), ([3], [3]), ([1, 4], [1, 4]), ([], []), ([6], [6]), ([7, 5], [7]), ([5, 8, 8], [5, 8]), ([], []), ([10], [10]), ([9, 11, 9], [9, 11]), ([12, 12, 0, 1, 2, 3, 4, 5, 6, 7, 8, 9, 10, 11, 12], [12])])
def foliotref17_Follow.B1 : List Nat := [0, 1, 0, 4, 12, 31, 0, 64, 255, 511, 0, 1024, 4095, 8191]
theorem foliotref17_Follow.tab1 : rtab .any (opsOf Try.f9 1) = foliotref17_Follow.T1 := by kernel_rfl
theorem foliotref17_Follow.bits1 : waitsOk foliotref17_Follow.T1.2 foliotref17_Follow.B1 = true := by kernel_rfl
def foliotref17_Follow.T5 : Bool × List (List Nat × List Nat) := (true, [([], []), ([0], [0]), ([], []), ([], []), ([3], [3]), ([4], [4]), ([], []), ([6], [6]), ([], []), ([8], [8]), ([9], [9]), ([7, 10], [7, 10]), ([11, 11], [11]), ([], []), ([13, 12], [13]), ([], []), ([15], [15]), ([], []), ([17], [17]), ([], []), ([19], [19]), ([], []), ([21], [21]), ([], []), ([], []), ([1, 2, 5, 12, 14, 16, 18, 20, 22, 23, 24], [1, 2, 5, 12, 14, 16, 18, 20, 22, 23, 24]), ([25, 14, 0, 1, 2, 3, 4, 5, 6, 7, 8, 9, 10, 11, 12, 13, 14, 15, 16, 17, 18, 19, 20, 21, 22, 23, 24, 25], [25])])
def foliotref17_Follow.B5 : List Nat := [0, 1, 0, 0, 8, 24, 0, 64, 0, 256, 768, 1984, 4032, 0, 16320, 0, 32768, 0, 131072, 0, 524288, 0, 2097152, 0, 0, 33554431, 67108863]
theorem foliotref17_Follow.tab5 : rtab .any (opsOf Try.f9 5) = foliotref17_Follow.T5 := by kernel_rfl
theorem foliotref17_Follow.bits5 : waitsOk foliotref17_Follow.T5.2 foliotref17_Follow.B5 = true := by kernel_rfl
theorem foliotref17_Follow.calls (k : Nat) (a0_0 : Int) (a0_1 : Int) (a0_2 : Int) (a0_3 : Int) (a0_4 : Int) (a0_5 : Int) (a0_6 : Int) (a0_7 : Int) (a0_8 : Int) (a0_9 : Int) (a0_10 : Int) (a0_11 : Bool) (a0_12 : Int) (a0_13 : Int) (a1 : Int) (a2 : Int) (a3 : Int) (r1 : Int) (r2 : Int) (r3 : Int) (r4 : Int) (r5 : Int) (r6 : Int) (r7 : Int) (r8 : Int) (r9 : Int) (r10 : Int) (r11 : Int) (w : World) (h : foliotref17_Follow.f k a0_0 a0_1 a0_2 a0_3 a0_4 a0_5 a0_6 a0_7 a0_8 a0_9 a0_10 a0_11 a0_12 a0_13 a1 a2 a3 = some (r1, r2, r3, r4, r5, r6, r7, r8, r9, r10, r11)) :
  Calls Try.prog 9 #[.agg #[.int .i64 a0_0, .int .i64 a0_1, .int .i64 a0_2, .int .i64 a0_3, .int .i64 a0_4, .int .u32 a0_5, .int .i64 a0_6, .int .i64 a0_7, .int .i64 a0_8, .int .i64 a0_9, .int .u64 a0_10, .bool a0_11, .int .i64 a0_12, .int .i64 a0_13], .int .i64 a1, .int .i64 a2, .int .u64 a3] w fun e w' => e = .returned (.agg #[.int .i64 r1, .int .i64 r2, .int .i64 r3, .int .i64 r4, .int .i64 r5, .int .u32 r6, .int .u64 r7, .int .i64 r8, .int .i64 r9, .int .i64 r10, .int .i64 r11]) ∧ Below w.heap.size w w' := by
 have hu42 := Try.underlying42
 have hu28 := Try.underlying28
 have HB := Aside0.mk (Below.refl w.heap.size w)
 have H : ((foliotref01_Add.f k a0_4 a0_8).bind fun t228 => ((foliotref01_Abs.f k a0_12).bind fun t229 => ((foliotref01_Add.f k t228 t229).bind fun t230 => ((foliotref01_Add.f k t230 a0_13).bind fun t231 => (if a0_2 < 16 then ((foliotref01_Add.f k a0_3 a0_7).bind fun t232 => ((foliotref17_inside.f t232 68719476736).bind fun t233 => ((foliotref17_inside.f t231 68719476736).bind fun t234 => (some (a0_1, mx 0 (wrap64 ((mx a0_2 (-1)) + 1)), mx 3 (mn a2 10), t233, t234, a0_5, a3, a0_12, a0_13, a0_0, a1))))) else ((foliotref01_Add.f k a0_3 a0_7).bind fun t235 => ((foliotref17_inside.f t235 68719476736).bind fun t236 => ((foliotref17_inside.f t231 68719476736).bind fun t237 => (some (a0_1, 16, mx 3 (mn a2 10), t236, t237, a0_5, a3, a0_12, a0_13, a0_0, a1)))))))))) = some (r1, r2, r3, r4, r5, r6, r7, r8, r9, r10, r11) := h
 clear h
 replace H := Option.bind_eq_some_iff.mp H
 obtain ⟨t228, A50, H⟩ := H
 replace H : ((foliotref01_Abs.f k a0_12).bind fun t229 => ((foliotref01_Add.f k t228 t229).bind fun t230 => ((foliotref01_Add.f k t230 a0_13).bind fun t231 => (if a0_2 < 16 then ((foliotref01_Add.f k a0_3 a0_7).bind fun t232 => ((foliotref17_inside.f t232 68719476736).bind fun t233 => ((foliotref17_inside.f t231 68719476736).bind fun t234 => (some (a0_1, mx 0 (wrap64 ((mx a0_2 (-1)) + 1)), mx 3 (mn a2 10), t233, t234, a0_5, a3, a0_12, a0_13, a0_0, a1))))) else ((foliotref01_Add.f k a0_3 a0_7).bind fun t235 => ((foliotref17_inside.f t235 68719476736).bind fun t236 => ((foliotref17_inside.f t231 68719476736).bind fun t237 => (some (a0_1, 16, mx 3 (mn a2 10), t236, t237, a0_5, a3, a0_12, a0_13, a0_0, a1))))))))) = some (r1, r2, r3, r4, r5, r6, r7, r8, r9, r10, r11) := H
 have A5 := Aside0.mk A50
 clear A50
 replace H := Option.bind_eq_some_iff.mp H
 obtain ⟨t229, A60, H⟩ := H
 replace H : ((foliotref01_Add.f k t228 t229).bind fun t230 => ((foliotref01_Add.f k t230 a0_13).bind fun t231 => (if a0_2 < 16 then ((foliotref01_Add.f k a0_3 a0_7).bind fun t232 => ((foliotref17_inside.f t232 68719476736).bind fun t233 => ((foliotref17_inside.f t231 68719476736).bind fun t234 => (some (a0_1, mx 0 (wrap64 ((mx a0_2 (-1)) + 1)), mx 3 (mn a2 10), t233, t234, a0_5, a3, a0_12, a0_13, a0_0, a1))))) else ((foliotref01_Add.f k a0_3 a0_7).bind fun t235 => ((foliotref17_inside.f t235 68719476736).bind fun t236 => ((foliotref17_inside.f t231 68719476736).bind fun t237 => (some (a0_1, 16, mx 3 (mn a2 10), t236, t237, a0_5, a3, a0_12, a0_13, a0_0, a1)))))))) = some (r1, r2, r3, r4, r5, r6, r7, r8, r9, r10, r11) := H
 have A6 := Aside0.mk A60
 clear A60
 replace H := Option.bind_eq_some_iff.mp H
 obtain ⟨t230, A70, H⟩ := H
 replace H : ((foliotref01_Add.f k t230 a0_13).bind fun t231 => (if a0_2 < 16 then ((foliotref01_Add.f k a0_3 a0_7).bind fun t232 => ((foliotref17_inside.f t232 68719476736).bind fun t233 => ((foliotref17_inside.f t231 68719476736).bind fun t234 => (some (a0_1, mx 0 (wrap64 ((mx a0_2 (-1)) + 1)), mx 3 (mn a2 10), t233, t234, a0_5, a3, a0_12, a0_13, a0_0, a1))))) else ((foliotref01_Add.f k a0_3 a0_7).bind fun t235 => ((foliotref17_inside.f t235 68719476736).bind fun t236 => ((foliotref17_inside.f t231 68719476736).bind fun t237 => (some (a0_1, 16, mx 3 (mn a2 10), t236, t237, a0_5, a3, a0_12, a0_13, a0_0, a1))))))) = some (r1, r2, r3, r4, r5, r6, r7, r8, r9, r10, r11) := H
 have A7 := Aside0.mk A70
 clear A70
 replace H := Option.bind_eq_some_iff.mp H
 obtain ⟨t231, A80, H⟩ := H
 replace H : (if a0_2 < 16 then ((foliotref01_Add.f k a0_3 a0_7).bind fun t232 => ((foliotref17_inside.f t232 68719476736).bind fun t233 => ((foliotref17_inside.f t231 68719476736).bind fun t234 => (some (a0_1, mx 0 (wrap64 ((mx a0_2 (-1)) + 1)), mx 3 (mn a2 10), t233, t234, a0_5, a3, a0_12, a0_13, a0_0, a1))))) else ((foliotref01_Add.f k a0_3 a0_7).bind fun t235 => ((foliotref17_inside.f t235 68719476736).bind fun t236 => ((foliotref17_inside.f t231 68719476736).bind fun t237 => (some (a0_1, 16, mx 3 (mn a2 10), t236, t237, a0_5, a3, a0_12, a0_13, a0_0, a1)))))) = some (r1, r2, r3, r4, r5, r6, r7, r8, r9, r10, r11) := H
 have A8 := Aside0.mk A80
 clear A80
 by_cases c9 : a0_2 < 16
 ·rw [if_pos c9] at H
  have c9b0 : decide (a0_2 < 16) = true := decide_eq_true c9
  clear c9
  obtain ⟨ji10, hji10⟩ : ∃ j_ : Int, (mx a0_2 (-1)) = j_ := ⟨_, rfl⟩
  replace H : ((foliotref01_Add.f k a0_3 a0_7).bind fun t232 => ((foliotref17_inside.f t232 68719476736).bind fun t233 => ((foliotref17_inside.f t231 68719476736).bind fun t234 => (some (a0_1, mx 0 (wrap64 ((ji10) + 1)), mx 3 (mn a2 10), t233, t234, a0_5, a3, a0_12, a0_13, a0_0, a1))))) = some (r1, r2, r3, r4, r5, r6, r7, r8, r9, r10, r11) := by first | (rw [hji10] at H; exact H) | (simp only [hji10] at H ⊢; exact H)
  (try rw [hji10] at A5)
  (try rw [hji10] at A6)
  (try rw [hji10] at A7)
  (try rw [hji10] at A8)
  have hji10_ : (if a0_2 < (-1) then (-1) else a0_2) = ji10 := hji10
  obtain ⟨ji11, hji11⟩ : ∃ j_ : Int, (mx 0 (wrap64 ((ji10) + 1))) = j_ := ⟨_, rfl⟩
  replace H : ((foliotref01_Add.f k a0_3 a0_7).bind fun t232 => ((foliotref17_inside.f t232 68719476736).bind fun t233 => ((foliotref17_inside.f t231 68719476736).bind fun t234 => (some (a0_1, ji11, mx 3 (mn a2 10), t233, t234, a0_5, a3, a0_12, a0_13, a0_0, a1))))) = some (r1, r2, r3, r4, r5, r6, r7, r8, r9, r10, r11) := by first | (rw [hji11] at H; exact H) | (simp only [hji11] at H ⊢; exact H)
  (try rw [hji11] at A5)
  (try rw [hji11] at A6)
  (try rw [hji11] at A7)
  (try rw [hji11] at A8)
  have hji11_ : (if 0 < (wrap64 ((ji10) + 1)) then (wrap64 ((ji10) + 1)) else 0) = ji11 := hji11
  obtain ⟨ji12, hji12⟩ : ∃ j_ : Int, (mn a2 10) = j_ := ⟨_, rfl⟩
  replace H : ((foliotref01_Add.f k a0_3 a0_7).bind fun t232 => ((foliotref17_inside.f t232 68719476736).bind fun t233 => ((foliotref17_inside.f t231 68719476736).bind fun t234 => (some (a0_1, ji11, mx 3 (ji12), t233, t234, a0_5, a3, a0_12, a0_13, a0_0, a1))))) = some (r1, r2, r3, r4, r5, r6, r7, r8, r9, r10, r11) := by first | (rw [hji12] at H; exact H) | (simp only [hji12] at H ⊢; exact H)
  (try rw [hji12] at A5)
  (try rw [hji12] at A6)
  (try rw [hji12] at A7)
  (try rw [hji12] at A8)
  (try (have hji12h : ji12 ≤ 10 := by (rw [← hji12]; unfold mn; (repeat' split) <;> omega)))
  (try (have hji12g : ji12 ≤ 64 := by omega))
  have hji12_ : (if 10 < a2 then 10 else a2) = ji12 := hji12
  obtain ⟨ji13, hji13⟩ : ∃ j_ : Int, (mx 3 (ji12)) = j_ := ⟨_, rfl⟩
  replace H : ((foliotref01_Add.f k a0_3 a0_7).bind fun t232 => ((foliotref17_inside.f t232 68719476736).bind fun t233 => ((foliotref17_inside.f t231 68719476736).bind fun t234 => (some (a0_1, ji11, ji13, t233, t234, a0_5, a3, a0_12, a0_13, a0_0, a1))))) = some (r1, r2, r3, r4, r5, r6, r7, r8, r9, r10, r11) := by first | (rw [hji13] at H; exact H) | (simp only [hji13] at H ⊢; exact H)
  (try rw [hji13] at A5)
  (try rw [hji13] at A6)
  (try rw [hji13] at A7)
  (try rw [hji13] at A8)
  have hji13_ : (if 3 < (ji12) then (ji12) else 3) = ji13 := hji13
  replace H := Option.bind_eq_some_iff.mp H
  obtain ⟨t232, A140, H⟩ := H
  replace H : ((foliotref17_inside.f t232 68719476736).bind fun t233 => ((foliotref17_inside.f t231 68719476736).bind fun t234 => (some (a0_1, ji11, ji13, t233, t234, a0_5, a3, a0_12, a0_13, a0_0, a1)))) = some (r1, r2, r3, r4, r5, r6, r7, r8, r9, r10, r11) := H
  have A14 := Aside0.mk A140
  clear A140
  replace H := Option.bind_eq_some_iff.mp H
  obtain ⟨t233, A150, H⟩ := H
  replace H : ((foliotref17_inside.f t231 68719476736).bind fun t234 => (some (a0_1, ji11, ji13, t233, t234, a0_5, a3, a0_12, a0_13, a0_0, a1))) = some (r1, r2, r3, r4, r5, r6, r7, r8, r9, r10, r11) := H
  have A15 := Aside0.mk A150
  clear A150
  replace H := Option.bind_eq_some_iff.mp H
  obtain ⟨t234, A160, H⟩ := H
  replace H : (some (a0_1, ji11, ji13, t233, t234, a0_5, a3, a0_12, a0_13, a0_0, a1)) = some (r1, r2, r3, r4, r5, r6, r7, r8, r9, r10, r11) := H
  have A16 := Aside0.mk A160
  clear A160
  simp only [Option.some.injEq, Prod.mk.injEq] at H
  obtain ⟨rfl, rfl, rfl, rfl, rfl, rfl, rfl, rfl, rfl, rfl, rfl⟩ := H
  go_enter Try.func9, Try.ntmps9
  try go_wp2_with (first | ((with_reducible refine gate_dst (N := 4) rfl ?_); refine box_event ?hg (N := 4) ?hd (cs := #[.int .i64 a0_0, .int .i64 a0_1, .int .i64 a0_2, .int .i64 a0_3, .int .i64 a0_4, .int .u32 a0_5, .int .i64 a0_6, .int .i64 a0_7, .int .i64 a0_8, .int .i64 a0_9, .int .u64 a0_10, .bool a0_11, .int .i64 a0_12, .int .i64 a0_13]) (t := 42) ?hr ?_; (case hd => rfl); (case hg => rfl); (case hr => first | (go_simp; done) | (go_simp; rfl)); intro gb226 hg w17 hbox hb; have n0_ := Aside0.mk (below_step (by repeat (first | (with_reducible first | exact HB.out | apply below_alloc | apply pw_below_drewN | apply below_drew1) | exact HB.out)) hb); have n1_ := Aside0.mk (hbox); have n2_ := Aside0.mk ((by rw [hg]; exact (below_size (by repeat (first | (with_reducible first | exact HB.out | apply below_alloc | apply pw_below_drewN | apply below_drew1) | exact HB.out))) : w.heap.size ≤ gb226)); have n3_ := Aside0.mk ((by rw [hg]; exact (below_size (by repeat (first | (with_reducible first | exact HB.out | apply below_alloc | apply pw_below_drewN | apply below_drew1) | exact HB.out))) : w.heap.size ≤ gb226)); clear HB; have HB := n0_; have BK226 := n1_; have GW226 := n2_; have GE226 := n3_; clear n0_ n1_ n2_ n3_; clear hb hbox hg) | ((with_reducible refine gate_dst (N := 8) rfl ?_); refine box_event ?hg (N := 8) ?hd (cs := #[.int .i64 0, .int .i64 0, .int .i64 0, .int .i64 0, .int .i64 0, .int .u32 0, .int .u64 0, .int .i64 0, .int .i64 0, .int .i64 0, .int .i64 0]) (t := 28) ?hr ?_; (case hd => rfl); (case hg => rfl); (case hr => first | (go_simp; done) | (go_simp; rfl)); intro gb227 hg w18 hbox hb; have n0_ := Aside0.mk (blk_below (g := gb226) (o := .cells #[.int .i64 a0_0, .int .i64 a0_1, .int .i64 a0_2, .int .i64 a0_3, .int .i64 a0_4, .int .u32 a0_5, .int .i64 a0_6, .int .i64 a0_7, .int .i64 a0_8, .int .i64 a0_9, .int .u64 a0_10, .bool a0_11, .int .i64 a0_12, .int .i64 a0_13] 42 (0, 0)) (by (with_reducible repeat (first | refine blk_drewN ?_ _ | refine blk_drew ?_ | refine blk_alloc ?_ _)); exact BK226.out) hb); have n1_ := Aside0.mk (below_step (by repeat (first | (with_reducible first | exact HB.out | apply below_alloc | apply pw_below_drewN | apply below_drew1 | refine below_set ?_ GE226.out) | exact HB.out)) hb); have n2_ := Aside0.mk (hbox); have n3_ := Aside0.mk ((by rw [hg]; exact (below_size (by repeat (first | (with_reducible first | exact HB.out | apply below_alloc | apply pw_below_drewN | apply below_drew1 | refine below_set ?_ GE226.out) | exact HB.out))) : w.heap.size ≤ gb227)); have n4_ := Aside0.mk ((by rw [hg]; exact (below_size (by repeat (first | (with_reducible first | exact HB.out | apply below_alloc | apply pw_below_drewN | apply below_drew1 | refine below_set ?_ GE226.out) | exact HB.out))) : w.heap.size ≤ gb227)); have n5_ := Aside0.mk ((by rw [hg]; exact Nat.ne_of_lt (blk_lt (g := gb226) (o := .cells #[.int .i64 a0_0, .int .i64 a0_1, .int .i64 a0_2, .int .i64 a0_3, .int .i64 a0_4, .int .u32 a0_5, .int .i64 a0_6, .int .i64 a0_7, .int .i64 a0_8, .int .i64 a0_9, .int .u64 a0_10, .bool a0_11, .int .i64 a0_12, .int .i64 a0_13] 42 (0, 0)) (by (with_reducible repeat (first | refine blk_drewN ?_ _ | refine blk_drew ?_ | refine blk_alloc ?_ _)); exact BK226.out)) : gb226 ≠ gb227)); have n6_ := Aside0.mk ((by rw [hg]; exact Nat.ne_of_gt (blk_lt (g := gb226) (o := .cells #[.int .i64 a0_0, .int .i64 a0_1, .int .i64 a0_2, .int .i64 a0_3, .int .i64 a0_4, .int .u32 a0_5, .int .i64 a0_6, .int .i64 a0_7, .int .i64 a0_8, .int .i64 a0_9, .int .u64 a0_10, .bool a0_11, .int .i64 a0_12, .int .i64 a0_13] 42 (0, 0)) (by (with_reducible repeat (first | refine blk_drewN ?_ _ | refine blk_drew ?_ | refine blk_alloc ?_ _)); exact BK226.out)) : gb227 ≠ gb226)); clear BK226; clear HB; have BK226 := n0_; have HB := n1_; have BK227 := n2_; have GW227 := n3_; have GE227 := n4_; have NB226_227 := n5_; have NB227_226 := n6_; clear n0_ n1_ n2_ n3_ n4_ n5_ n6_; clear hb hbox hg))
  have n0_ := Aside0.mk (blk_drew BK226.out)
  have n1_ := Aside0.mk (blk_drew BK227.out)
  have n2_ := Aside0.mk (below_drew1 HB.out)
  clear BK226
  clear BK227
  clear HB
  have BK226 := n0_
  have BK227 := n1_
  have HB := n2_
  clear n0_ n1_ n2_
  refine start_ (n := 14) (S := fun w' => w'.cell? ⟨gb226, 0, none⟩ = some (.int .i64 a0_0) ∧ w'.cell? ⟨gb226, 1, none⟩ = some (.int .i64 a0_1) ∧ w'.cell? ⟨gb226, 2, none⟩ = some (.int .i64 a0_2) ∧ w'.cell? ⟨gb226, 3, none⟩ = some (.int .i64 a0_3) ∧ w'.cell? ⟨gb226, 4, none⟩ = some (.int .i64 a0_4) ∧ w'.cell? ⟨gb226, 5, none⟩ = some (.int .u32 a0_5) ∧ w'.cell? ⟨gb226, 6, none⟩ = some (.int .i64 a0_6) ∧ w'.cell? ⟨gb226, 7, none⟩ = some (.int .i64 a0_7) ∧ w'.cell? ⟨gb226, 8, none⟩ = some (.int .i64 a0_8) ∧ w'.cell? ⟨gb226, 9, none⟩ = some (.int .i64 a0_9) ∧ w'.cell? ⟨gb226, 10, none⟩ = some (.int .u64 a0_10) ∧ w'.cell? ⟨gb226, 11, none⟩ = some (.bool a0_11) ∧ w'.cell? ⟨gb226, 12, none⟩ = some (.int .i64 a0_12) ∧ w'.cell? ⟨gb226, 13, none⟩ = some (.int .i64 a0_13)) (ds := []) #[false, false, false, false, false, false, false, false, false, false, false, false, false, false] (by kernel_rfl) rfl rfl ⟨(blk_cell BK226.out 0).trans rfl, (blk_cell BK226.out 1).trans rfl, (blk_cell BK226.out 2).trans rfl, (blk_cell BK226.out 3).trans rfl, (blk_cell BK226.out 4).trans rfl, (blk_cell BK226.out 5).trans rfl, (blk_cell BK226.out 6).trans rfl, (blk_cell BK226.out 7).trans rfl, (blk_cell BK226.out 8).trans rfl, (blk_cell BK226.out 9).trans rfl, (blk_cell BK226.out 10).trans rfl, (blk_cell BK226.out 11).trans rfl, (blk_cell BK226.out 12).trans rfl, (blk_cell BK226.out 13).trans rfl⟩ (fun hHeld => ?_); refine with_tabW foliotref17_Follow.tab1 foliotref17_Follow.bits1 (fun HT_ HW_ => ?_)
  generalize w18.drew = w19 at BK226 BK227 HB hHeld ⊢
  refine pure_ (i := 0) (N := some 11) (v := ?_) (a' := ?_) #[true, false, false, false, false, false, false, false, false, false, false, false, false, false] rfl rfl (any_of HT_.out (by kernel_rfl)) (fun _ _ _ h => h) (Or.inl ⟨by rfl, ?_⟩) ?_ ?_
  rotate_left
  ·intro w'
   go_simp
   with_reducible rfl
  rotate_left
  ·simp only [Act.put, List.setIfInBounds_toArray, List.set_cons_zero, List.set_cons_succ, i64_w, i32_w]
   rfl
  refine pure_ (i := 2) (N := some 13) (v := ?_) (a' := ?_) #[true, false, true, false, false, false, false, false, false, false, false, false, false, false] rfl rfl (any_of HT_.out (by kernel_rfl)) (fun _ _ _ h => h) (Or.inl ⟨by rfl, ?_⟩) ?_ ?_
  rotate_left
  ·intro w'
   go_simp
   with_reducible rfl
  rotate_left
  ·simp only [Act.put, List.setIfInBounds_toArray, List.set_cons_zero, List.set_cons_succ, i64_w, i32_w]
   rfl
  refine pure_ (i := 3) (N := some 14) (v := ?_) (a' := ?_) #[true, false, true, true, false, false, false, false, false, false, false, false, false, false] rfl rfl (any_of HT_.out (by kernel_rfl)) (fun _ _ _ h => h) (Or.inl ⟨by rfl, ?_⟩) ?_ ?_
  rotate_left
  ·intro w'
   go_simp
   with_reducible rfl
  rotate_left
  ·simp only [Act.put, List.setIfInBounds_toArray, List.set_cons_zero, List.set_cons_succ, i64_w, i32_w]
   rfl
  refine pure_ (i := 6) (N := some 17) (v := ?_) (a' := ?_) #[true, false, true, true, false, false, true, false, false, false, false, false, false, false] rfl rfl (any_of HT_.out (by kernel_rfl)) (fun _ _ _ h => h) (Or.inl ⟨by rfl, ?_⟩) ?_ ?_
  rotate_left
  ·intro w'
   go_simp
   with_reducible rfl
  rotate_left
  ·simp only [Act.put, List.setIfInBounds_toArray, List.set_cons_zero, List.set_cons_succ, i64_w, i32_w]
   rfl
  refine pure_ (i := 10) (N := some 21) (v := ?_) (a' := ?_) #[true, false, true, true, false, false, true, false, false, false, true, false, false, false] rfl rfl (any_of HT_.out (by kernel_rfl)) (fun _ _ _ h => h) (Or.inl ⟨by rfl, ?_⟩) ?_ ?_
  rotate_left
  ·intro w'
   go_simp
   with_reducible rfl
  rotate_left
  ·simp only [Act.put, List.setIfInBounds_toArray, List.set_cons_zero, List.set_cons_succ, i64_w, i32_w]
   rfl
  refine take_ (i := 1) (N := some 12) (v := ?_) (a' := ?_) #[true, true, true, true, false, false, true, false, false, false, true, false, false, false] rfl rfl (take_ofW HT_.out HW_.out (by kernel_rfl)) (fun _ _ _ h => h) (Or.inl ⟨by rfl, ?_⟩) hHeld ?_ ?_
  rotate_left
  ·rintro w' ⟨s0, s1, s2, s3, s4, s5, s6, s7, s8, s9, s10, s11, s12, s13⟩
   go_simp
   with_reducible rfl
  rotate_left
  ·simp only [Act.put, List.setIfInBounds_toArray, List.set_cons_zero, List.set_cons_succ, i64_w, i32_w]
   rfl
  refine take_ (i := 4) (N := some 15) (v := ?_) (a' := ?_) #[true, true, true, true, true, false, true, false, false, false, true, false, false, false] rfl rfl (take_ofW HT_.out HW_.out (by kernel_rfl)) (fun _ _ _ h => h) (Or.inl ⟨by rfl, ?_⟩) hHeld ?_ ?_
  rotate_left
  ·rintro w' ⟨s0, s1, s2, s3, s4, s5, s6, s7, s8, s9, s10, s11, s12, s13⟩
   go_simp
   with_reducible rfl
  rotate_left
  ·simp only [Act.put, List.setIfInBounds_toArray, List.set_cons_zero, List.set_cons_succ, i64_w, i32_w]
   rfl
  refine take_ (i := 7) (N := some 18) (v := ?_) (a' := ?_) #[true, true, true, true, true, false, true, true, false, false, true, false, false, false] rfl rfl (take_ofW HT_.out HW_.out (by kernel_rfl)) (fun _ _ _ h => h) (Or.inl ⟨by rfl, ?_⟩) hHeld ?_ ?_
  rotate_left
  ·rintro w' ⟨s0, s1, s2, s3, s4, s5, s6, s7, s8, s9, s10, s11, s12, s13⟩
   go_simp
   with_reducible rfl
  rotate_left
  ·simp only [Act.put, List.setIfInBounds_toArray, List.set_cons_zero, List.set_cons_succ, i64_w, i32_w]
   rfl
  refine take_ (i := 11) (N := some 22) (v := ?_) (a' := ?_) #[true, true, true, true, true, false, true, true, false, false, true, true, false, false] rfl rfl (take_ofW HT_.out HW_.out (by kernel_rfl)) (fun _ _ _ h => h) (Or.inl ⟨by rfl, ?_⟩) hHeld ?_ ?_
  rotate_left
  ·rintro w' ⟨s0, s1, s2, s3, s4, s5, s6, s7, s8, s9, s10, s11, s12, s13⟩
   go_simp
   with_reducible rfl
  rotate_left
  ·simp only [Act.put, List.setIfInBounds_toArray, List.set_cons_zero, List.set_cons_succ, i64_w, i32_w]
   rfl
  refine one_ (i := 5) (N := some 16) #[true, true, true, true, true, true, true, true, false, false, true, true, false, false] rfl rfl (one_of HT_.out (by kernel_rfl)) (by decide) (fun K hK => ?_)
  refine goes_ Try.func29 (by kernel_rfl) rfl #[.int .i64 a0_4, .int .i64 a0_8] (by rfl) rfl rfl (by (try simp only [List.map_toArray, List.map_cons, List.map_nil]); first | done | rfl | (simp only [List.length_drop, List.length_take]; rfl)) ?_
  with_reducible refine (foliotref01_Add.calls k a0_4 a0_8 t228 _ A5.out).mono ?_
  rintro e w20 ⟨rfl, hb⟩
  refine ⟨_, rfl, ?_⟩
  have n0_ := Aside0.mk (blk_below (g := gb226) (o := .cells #[.int .i64 a0_0, .int .i64 a0_1, .int .i64 a0_2, .int .i64 a0_3, .int .i64 a0_4, .int .u32 a0_5, .int .i64 a0_6, .int .i64 a0_7, .int .i64 a0_8, .int .i64 a0_9, .int .u64 a0_10, .bool a0_11, .int .i64 a0_12, .int .i64 a0_13] 42 (0, 0)) (by (with_reducible repeat (first | refine blk_drewN ?_ _ | refine blk_drew ?_ | refine blk_alloc ?_ _)); exact BK226.out) hb)
  have n1_ := Aside0.mk (blk_below (g := gb227) (o := .cells #[.int .i64 0, .int .i64 0, .int .i64 0, .int .i64 0, .int .i64 0, .int .u32 0, .int .u64 0, .int .i64 0, .int .i64 0, .int .i64 0, .int .i64 0] 28 (0, 0)) (by (with_reducible repeat (first | refine blk_drewN ?_ _ | refine blk_drew ?_ | refine blk_alloc ?_ _)); exact BK227.out) hb)
  have n2_ := Aside0.mk (below_step (by repeat (first | (with_reducible first | exact HB.out | apply below_alloc | apply pw_below_drewN | apply below_drew1 | refine below_set ?_ GE226.out | refine below_set ?_ GE227.out) | exact HB.out)) hb)
  clear BK226
  clear BK227
  clear HB
  have BK226 := n0_
  have BK227 := n1_
  have HB := n2_
  clear n0_ n1_ n2_
  (try clear hb)
  (try clear hb2)
  (try clear hk)
  (try clear hi)
  refine hK.out _ _ ⟨(blk_cell BK226.out 0).trans rfl, (blk_cell BK226.out 1).trans rfl, (blk_cell BK226.out 2).trans rfl, (blk_cell BK226.out 3).trans rfl, (blk_cell BK226.out 4).trans rfl, (blk_cell BK226.out 5).trans rfl, (blk_cell BK226.out 6).trans rfl, (blk_cell BK226.out 7).trans rfl, (blk_cell BK226.out 8).trans rfl, (blk_cell BK226.out 9).trans rfl, (blk_cell BK226.out 10).trans rfl, (blk_cell BK226.out 11).trans rfl, (blk_cell BK226.out 12).trans rfl, (blk_cell BK226.out 13).trans rfl⟩ (fun hHeld => ?_)
  clear hK K
  refine norm_ (a' := ?_) ?_ ?_
  rotate_left
  ·show Act.put _ (some 16) _ = _
   simp only [Act.put, List.setIfInBounds_toArray, List.set_cons_zero, List.set_cons_succ, i64_w, i32_w]
   rfl
  refine one_ (i := 8) (N := some 19) #[true, true, true, true, true, true, true, true, true, false, true, true, false, false] rfl rfl (one_of HT_.out (by kernel_rfl)) (by decide) (fun K hK => ?_)
  refine goes_ Try.func30 (by kernel_rfl) rfl #[.int .i64 a0_12] (by rfl) rfl rfl (by (try simp only [List.map_toArray, List.map_cons, List.map_nil]); first | done | rfl | (simp only [List.length_drop, List.length_take]; rfl)) ?_
  with_reducible refine (foliotref01_Abs.calls k a0_12 t229 _ A6.out).mono ?_
  rintro e w21 ⟨rfl, hb⟩
  refine ⟨_, rfl, ?_⟩
  have n0_ := Aside0.mk (blk_below (g := gb226) (o := .cells #[.int .i64 a0_0, .int .i64 a0_1, .int .i64 a0_2, .int .i64 a0_3, .int .i64 a0_4, .int .u32 a0_5, .int .i64 a0_6, .int .i64 a0_7, .int .i64 a0_8, .int .i64 a0_9, .int .u64 a0_10, .bool a0_11, .int .i64 a0_12, .int .i64 a0_13] 42 (0, 0)) (by (with_reducible repeat (first | refine blk_drewN ?_ _ | refine blk_drew ?_ | refine blk_alloc ?_ _)); exact BK226.out) hb)
  have n1_ := Aside0.mk (blk_below (g := gb227) (o := .cells #[.int .i64 0, .int .i64 0, .int .i64 0, .int .i64 0, .int .i64 0, .int .u32 0, .int .u64 0, .int .i64 0, .int .i64 0, .int .i64 0, .int .i64 0] 28 (0, 0)) (by (with_reducible repeat (first | refine blk_drewN ?_ _ | refine blk_drew ?_ | refine blk_alloc ?_ _)); exact BK227.out) hb)
  have n2_ := Aside0.mk (below_step (by repeat (first | (with_reducible first | exact HB.out | apply below_alloc | apply pw_below_drewN | apply below_drew1 | refine below_set ?_ GE226.out | refine below_set ?_ GE227.out) | exact HB.out)) hb)
  clear BK226
  clear BK227
  clear HB
  have BK226 := n0_
  have BK227 := n1_
  have HB := n2_
  clear n0_ n1_ n2_
  (try clear hb)
  (try clear hb2)
  (try clear hk)
  (try clear hi)
  refine hK.out _ _ ⟨(blk_cell BK226.out 0).trans rfl, (blk_cell BK226.out 1).trans rfl, (blk_cell BK226.out 2).trans rfl, (blk_cell BK226.out 3).trans rfl, (blk_cell BK226.out 4).trans rfl, (blk_cell BK226.out 5).trans rfl, (blk_cell BK226.out 6).trans rfl, (blk_cell BK226.out 7).trans rfl, (blk_cell BK226.out 8).trans rfl, (blk_cell BK226.out 9).trans rfl, (blk_cell BK226.out 10).trans rfl, (blk_cell BK226.out 11).trans rfl, (blk_cell BK226.out 12).trans rfl, (blk_cell BK226.out 13).trans rfl⟩ (fun hHeld => ?_)
  clear hK K
  refine norm_ (a' := ?_) ?_ ?_
  rotate_left
  ·show Act.put _ (some 19) _ = _
   simp only [Act.put, List.setIfInBounds_toArray, List.set_cons_zero, List.set_cons_succ, i64_w, i32_w]
   rfl
  refine one_ (i := 9) (N := some 20) #[true, true, true, true, true, true, true, true, true, true, true, true, false, false] rfl rfl (one_of HT_.out (by kernel_rfl)) (by decide) (fun K hK => ?_)
  refine goes_ Try.func29 (by kernel_rfl) rfl #[.int .i64 t228, .int .i64 t229] (by rfl) rfl rfl (by (try simp only [List.map_toArray, List.map_cons, List.map_nil]); first | done | rfl | (simp only [List.length_drop, List.length_take]; rfl)) ?_
  with_reducible refine (foliotref01_Add.calls k t228 t229 t230 _ A7.out).mono ?_
  rintro e w22 ⟨rfl, hb⟩
  refine ⟨_, rfl, ?_⟩
  have n0_ := Aside0.mk (blk_below (g := gb226) (o := .cells #[.int .i64 a0_0, .int .i64 a0_1, .int .i64 a0_2, .int .i64 a0_3, .int .i64 a0_4, .int .u32 a0_5, .int .i64 a0_6, .int .i64 a0_7, .int .i64 a0_8, .int .i64 a0_9, .int .u64 a0_10, .bool a0_11, .int .i64 a0_12, .int .i64 a0_13] 42 (0, 0)) (by (with_reducible repeat (first | refine blk_drewN ?_ _ | refine blk_drew ?_ | refine blk_alloc ?_ _)); exact BK226.out) hb)
  have n1_ := Aside0.mk (blk_below (g := gb227) (o := .cells #[.int .i64 0, .int .i64 0, .int .i64 0, .int .i64 0, .int .i64 0, .int .u32 0, .int .u64 0, .int .i64 0, .int .i64 0, .int .i64 0, .int .i64 0] 28 (0, 0)) (by (with_reducible repeat (first | refine blk_drewN ?_ _ | refine blk_drew ?_ | refine blk_alloc ?_ _)); exact BK227.out) hb)
  have n2_ := Aside0.mk (below_step (by repeat (first | (with_reducible first | exact HB.out | apply below_alloc | apply pw_below_drewN | apply below_drew1 | refine below_set ?_ GE226.out | refine below_set ?_ GE227.out) | exact HB.out)) hb)
  clear BK226
  clear BK227
  clear HB
  have BK226 := n0_
  have BK227 := n1_
  have HB := n2_
  clear n0_ n1_ n2_
  (try clear hb)
  (try clear hb2)
  (try clear hk)
  (try clear hi)
  refine hK.out _ _ ⟨(blk_cell BK226.out 0).trans rfl, (blk_cell BK226.out 1).trans rfl, (blk_cell BK226.out 2).trans rfl, (blk_cell BK226.out 3).trans rfl, (blk_cell BK226.out 4).trans rfl, (blk_cell BK226.out 5).trans rfl, (blk_cell BK226.out 6).trans rfl, (blk_cell BK226.out 7).trans rfl, (blk_cell BK226.out 8).trans rfl, (blk_cell BK226.out 9).trans rfl, (blk_cell BK226.out 10).trans rfl, (blk_cell BK226.out 11).trans rfl, (blk_cell BK226.out 12).trans rfl, (blk_cell BK226.out 13).trans rfl⟩ (fun hHeld => ?_)
  clear hK K
  refine norm_ (a' := ?_) ?_ ?_
  rotate_left
  ·show Act.put _ (some 20) _ = _
   simp only [Act.put, List.setIfInBounds_toArray, List.set_cons_zero, List.set_cons_succ, i64_w, i32_w]
   rfl
  refine one_ (i := 12) (N := some 23) #[true, true, true, true, true, true, true, true, true, true, true, true, true, false] rfl rfl (one_of HT_.out (by kernel_rfl)) (by decide) (fun K hK => ?_)
  refine goes_ Try.func29 (by kernel_rfl) rfl #[.int .i64 t230, .int .i64 a0_13] (by rfl) rfl rfl (by (try simp only [List.map_toArray, List.map_cons, List.map_nil]); first | done | rfl | (simp only [List.length_drop, List.length_take]; rfl)) ?_
  with_reducible refine (foliotref01_Add.calls k t230 a0_13 t231 _ A8.out).mono ?_
  rintro e w23 ⟨rfl, hb⟩
  refine ⟨_, rfl, ?_⟩
  have n0_ := Aside0.mk (blk_below (g := gb226) (o := .cells #[.int .i64 a0_0, .int .i64 a0_1, .int .i64 a0_2, .int .i64 a0_3, .int .i64 a0_4, .int .u32 a0_5, .int .i64 a0_6, .int .i64 a0_7, .int .i64 a0_8, .int .i64 a0_9, .int .u64 a0_10, .bool a0_11, .int .i64 a0_12, .int .i64 a0_13] 42 (0, 0)) (by (with_reducible repeat (first | refine blk_drewN ?_ _ | refine blk_drew ?_ | refine blk_alloc ?_ _)); exact BK226.out) hb)
  have n1_ := Aside0.mk (blk_below (g := gb227) (o := .cells #[.int .i64 0, .int .i64 0, .int .i64 0, .int .i64 0, .int .i64 0, .int .u32 0, .int .u64 0, .int .i64 0, .int .i64 0, .int .i64 0, .int .i64 0] 28 (0, 0)) (by (with_reducible repeat (first | refine blk_drewN ?_ _ | refine blk_drew ?_ | refine blk_alloc ?_ _)); exact BK227.out) hb)
  have n2_ := Aside0.mk (below_step (by repeat (first | (with_reducible first | exact HB.out | apply below_alloc | apply pw_below_drewN | apply below_drew1 | refine below_set ?_ GE226.out | refine below_set ?_ GE227.out) | exact HB.out)) hb)
  clear BK226
  clear BK227
  clear HB
  have BK226 := n0_
  have BK227 := n1_
  have HB := n2_
  clear n0_ n1_ n2_
  (try clear hb)
  (try clear hb2)
  (try clear hk)
  (try clear hi)
  refine hK.out _ _ ⟨(blk_cell BK226.out 0).trans rfl, (blk_cell BK226.out 1).trans rfl, (blk_cell BK226.out 2).trans rfl, (blk_cell BK226.out 3).trans rfl, (blk_cell BK226.out 4).trans rfl, (blk_cell BK226.out 5).trans rfl, (blk_cell BK226.out 6).trans rfl, (blk_cell BK226.out 7).trans rfl, (blk_cell BK226.out 8).trans rfl, (blk_cell BK226.out 9).trans rfl, (blk_cell BK226.out 10).trans rfl, (blk_cell BK226.out 11).trans rfl, (blk_cell BK226.out 12).trans rfl, (blk_cell BK226.out 13).trans rfl⟩ (fun hHeld => ?_)
  clear hK K
  refine norm_ (a' := ?_) ?_ ?_
  rotate_left
  ·show Act.put _ (some 23) _ = _
   simp only [Act.put, List.setIfInBounds_toArray, List.set_cons_zero, List.set_cons_succ, i64_w, i32_w]
   rfl
  refine pure_ (i := 13) (N := some 9) (v := ?_) (a' := ?_) #[true, true, true, true, true, true, true, true, true, true, true, true, true, true] rfl rfl (any_of HT_.out (by kernel_rfl)) (fun _ _ _ h => h) (Or.inl ⟨by rfl, ?_⟩) ?_ ?_
  rotate_left
  ·intro w'
   go_simp
   with_reducible rfl
  rotate_left
  ·simp only [Act.put, List.setIfInBounds_toArray, List.set_cons_zero, List.set_cons_succ, i64_w, i32_w]
   rfl
  refine done_ (done_of HT_.out (by kernel_rfl)) ?_
  have hnb24 := NB226_227.out
  have hnc24 := NB227_226.out
  have hcz25_0 : w23.cell? ⟨gb226, 0, none⟩ = some (.int .i64 a0_0) := (blk_cell BK226.out 0).trans rfl
  have hcz25_1 : w23.cell? ⟨gb226, 1, none⟩ = some (.int .i64 a0_1) := (blk_cell BK226.out 1).trans rfl
  have hcz25_2 : w23.cell? ⟨gb226, 2, none⟩ = some (.int .i64 a0_2) := (blk_cell BK226.out 2).trans rfl
  have hcz25_3 : w23.cell? ⟨gb226, 3, none⟩ = some (.int .i64 a0_3) := (blk_cell BK226.out 3).trans rfl
  have hcz25_4 : w23.cell? ⟨gb226, 4, none⟩ = some (.int .i64 a0_4) := (blk_cell BK226.out 4).trans rfl
  have hcz25_5 : w23.cell? ⟨gb226, 5, none⟩ = some (.int .u32 a0_5) := (blk_cell BK226.out 5).trans rfl
  have hcz25_6 : w23.cell? ⟨gb226, 6, none⟩ = some (.int .i64 a0_6) := (blk_cell BK226.out 6).trans rfl
  have hcz25_7 : w23.cell? ⟨gb226, 7, none⟩ = some (.int .i64 a0_7) := (blk_cell BK226.out 7).trans rfl
  have hcz25_8 : w23.cell? ⟨gb226, 8, none⟩ = some (.int .i64 a0_8) := (blk_cell BK226.out 8).trans rfl
  have hcz25_9 : w23.cell? ⟨gb226, 9, none⟩ = some (.int .i64 a0_9) := (blk_cell BK226.out 9).trans rfl
  have hcz25_10 : w23.cell? ⟨gb226, 10, none⟩ = some (.int .u64 a0_10) := (blk_cell BK226.out 10).trans rfl
  have hcz25_11 : w23.cell? ⟨gb226, 11, none⟩ = some (.bool a0_11) := (blk_cell BK226.out 11).trans rfl
  have hcz25_12 : w23.cell? ⟨gb226, 12, none⟩ = some (.int .i64 a0_12) := (blk_cell BK226.out 12).trans rfl
  have hcz25_13 : w23.cell? ⟨gb226, 13, none⟩ = some (.int .i64 a0_13) := (blk_cell BK226.out 13).trans rfl
  have hfz25_0 := blk_frozen BK226.out 0
  have hfz25_1 := blk_frozen BK226.out 1
  have hfz25_2 := blk_frozen BK226.out 2
  have hfz25_3 := blk_frozen BK226.out 3
  have hfz25_4 := blk_frozen BK226.out 4
  have hfz25_5 := blk_frozen BK226.out 5
  have hfz25_6 := blk_frozen BK226.out 6
  have hfz25_7 := blk_frozen BK226.out 7
  have hfz25_8 := blk_frozen BK226.out 8
  have hfz25_9 := blk_frozen BK226.out 9
  have hfz25_10 := blk_frozen BK226.out 10
  have hfz25_11 := blk_frozen BK226.out 11
  have hfz25_12 := blk_frozen BK226.out 12
  have hfz25_13 := blk_frozen BK226.out 13
  try go_wp2
  have n0_ := Aside0.mk (blk_drew BK226.out)
  have n1_ := Aside0.mk (blk_drew BK227.out)
  have n2_ := Aside0.mk (below_drew1 HB.out)
  clear BK226
  clear BK227
  clear HB
  have BK226 := n0_
  have BK227 := n1_
  have HB := n2_
  clear n0_ n1_ n2_
  refine start_ (n := 27) (S := fun w' => w'.cell? ⟨gb226, 0, none⟩ = some (.int .i64 a0_0) ∧ w'.cell? ⟨gb226, 1, none⟩ = some (.int .i64 a0_1) ∧ w'.cell? ⟨gb226, 2, none⟩ = some (.int .i64 a0_2) ∧ w'.cell? ⟨gb226, 3, none⟩ = some (.int .i64 a0_3) ∧ w'.cell? ⟨gb226, 4, none⟩ = some (.int .i64 a0_4) ∧ w'.cell? ⟨gb226, 5, none⟩ = some (.int .u32 a0_5) ∧ w'.cell? ⟨gb226, 6, none⟩ = some (.int .i64 a0_6) ∧ w'.cell? ⟨gb226, 7, none⟩ = some (.int .i64 a0_7) ∧ w'.cell? ⟨gb226, 8, none⟩ = some (.int .i64 a0_8) ∧ w'.cell? ⟨gb226, 9, none⟩ = some (.int .i64 a0_9) ∧ w'.cell? ⟨gb226, 10, none⟩ = some (.int .u64 a0_10) ∧ w'.cell? ⟨gb226, 11, none⟩ = some (.bool a0_11) ∧ w'.cell? ⟨gb226, 12, none⟩ = some (.int .i64 a0_12) ∧ w'.cell? ⟨gb226, 13, none⟩ = some (.int .i64 a0_13)) (ds := []) #[false, false, false, false, false, false, false, false, false, false, false, false, false, false, false, false, false, false, false, false, false, false, false, false, false, false, false] (by kernel_rfl) rfl rfl ⟨(blk_cell BK226.out 0).trans rfl, (blk_cell BK226.out 1).trans rfl, (blk_cell BK226.out 2).trans rfl, (blk_cell BK226.out 3).trans rfl, (blk_cell BK226.out 4).trans rfl, (blk_cell BK226.out 5).trans rfl, (blk_cell BK226.out 6).trans rfl, (blk_cell BK226.out 7).trans rfl, (blk_cell BK226.out 8).trans rfl, (blk_cell BK226.out 9).trans rfl, (blk_cell BK226.out 10).trans rfl, (blk_cell BK226.out 11).trans rfl, (blk_cell BK226.out 12).trans rfl, (blk_cell BK226.out 13).trans rfl⟩ (fun hHeld => ?_); refine with_tabW foliotref17_Follow.tab5 foliotref17_Follow.bits5 (fun HT_ HW_ => ?_)
  generalize w23.drew = w26 at BK226 BK227 HB hHeld ⊢
  refine pure_ (i := 0) (N := some 32) (v := ?_) (a' := ?_) #[true, false, false, false, false, false, false, false, false, false, false, false, false, false, false, false, false, false, false, false, false, false, false, false, false, false, false] rfl rfl (any_of HT_.out (by kernel_rfl)) (fun _ _ _ h => h) (Or.inl ⟨by rfl, ?_⟩) ?_ ?_
  rotate_left
  ·intro w'
   go_simp
   with_reducible rfl
  rotate_left
  ·simp only [Act.put, List.setIfInBounds_toArray, List.set_cons_zero, List.set_cons_succ, i64_w, i32_w]
   rfl
  refine pure_ (i := 2) (N := some 34) (v := ?_) (a' := ?_) #[true, false, true, false, false, false, false, false, false, false, false, false, false, false, false, false, false, false, false, false, false, false, false, false, false, false, false] rfl rfl (any_of HT_.out (by kernel_rfl)) (fun _ _ _ h => h) (Or.inl ⟨by rfl, ?_⟩) ?_ ?_
  rotate_left
  ·intro w'
   go_simp
   with_reducible rfl
  rotate_left
  ·simp only [Act.put, List.setIfInBounds_toArray, List.set_cons_zero, List.set_cons_succ, i64_w, i32_w]
   rfl
  refine pure_ (i := 3) (N := some 35) (v := ?_) (a' := ?_) #[true, false, true, true, false, false, false, false, false, false, false, false, false, false, false, false, false, false, false, false, false, false, false, false, false, false, false] rfl rfl (any_of HT_.out (by kernel_rfl)) (fun _ _ _ h => h) (Or.inl ⟨by rfl, ?_⟩) ?_ ?_
  rotate_left
  ·intro w'
   go_simp
   with_reducible rfl
  rotate_left
  ·simp only [Act.put, List.setIfInBounds_toArray, List.set_cons_zero, List.set_cons_succ, i64_w, i32_w]
   rfl
  refine pure_ (i := 4) (N := some 36) (v := ?_) (a' := ?_) #[true, false, true, true, true, false, false, false, false, false, false, false, false, false, false, false, false, false, false, false, false, false, false, false, false, false, false] rfl rfl (any_of HT_.out (by kernel_rfl)) (fun _ _ _ h => h) (Or.inl ⟨by rfl, ?_⟩) ?_ ?_
  rotate_left
  ·intro w'
   go_simp
   with_reducible rfl
  rotate_left
  ·simp only [Act.put, List.setIfInBounds_toArray, List.set_cons_zero, List.set_cons_succ, i64_w, i32_w]
   rfl
  refine pure_ (i := 5) (N := some 37) (v := ?_) (a' := ?_) #[true, false, true, true, true, true, false, false, false, false, false, false, false, false, false, false, false, false, false, false, false, false, false, false, false, false, false] rfl rfl (any_of HT_.out (by kernel_rfl)) (fun _ _ _ h => h) (Or.inl ⟨by rfl, ?_⟩) ?_ ?_
  rotate_left
  ·intro w'
   go_simp
   with_reducible rfl
  rotate_left
  ·simp only [Act.put, List.setIfInBounds_toArray, List.set_cons_zero, List.set_cons_succ, i64_w, i32_w]
   rfl
  refine pure_ (i := 6) (N := some 38) (v := ?_) (a' := ?_) #[true, false, true, true, true, true, true, false, false, false, false, false, false, false, false, false, false, false, false, false, false, false, false, false, false, false, false] rfl rfl (any_of HT_.out (by kernel_rfl)) (fun _ _ _ h => h) (Or.inl ⟨by rfl, ?_⟩) ?_ ?_
  rotate_left
  ·intro w'
   go_simp
   with_reducible rfl
  rotate_left
  ·simp only [Act.put, List.setIfInBounds_toArray, List.set_cons_zero, List.set_cons_succ, i64_w, i32_w]
   rfl
  refine pure_ (i := 8) (N := some 40) (v := ?_) (a' := ?_) #[true, false, true, true, true, true, true, false, true, false, false, false, false, false, false, false, false, false, false, false, false, false, false, false, false, false, false] rfl rfl (any_of HT_.out (by kernel_rfl)) (fun _ _ _ h => h) (Or.inl ⟨by rfl, ?_⟩) ?_ ?_
  rotate_left
  ·intro w'
   go_simp
   with_reducible rfl
  rotate_left
  ·simp only [Act.put, List.setIfInBounds_toArray, List.set_cons_zero, List.set_cons_succ, i64_w, i32_w]
   rfl
  refine pure_ (i := 9) (N := some 41) (v := ?_) (a' := ?_) #[true, false, true, true, true, true, true, false, true, true, false, false, false, false, false, false, false, false, false, false, false, false, false, false, false, false, false] rfl rfl (any_of HT_.out (by kernel_rfl)) (fun _ _ _ h => h) (Or.inl ⟨by rfl, ?_⟩) ?_ ?_
  rotate_left
  ·intro w'
   go_simp
   with_reducible rfl
  rotate_left
  ·simp only [Act.put, List.setIfInBounds_toArray, List.set_cons_zero, List.set_cons_succ, i64_w, i32_w]
   rfl
  refine pure_ (i := 13) (N := some 45) (v := ?_) (a' := ?_) #[true, false, true, true, true, true, true, false, true, true, false, false, false, true, false, false, false, false, false, false, false, false, false, false, false, false, false] rfl rfl (any_of HT_.out (by kernel_rfl)) (fun _ _ _ h => h) (Or.inl ⟨by rfl, ?_⟩) ?_ ?_
  rotate_left
  ·intro w'
   go_simp
   with_reducible rfl
  rotate_left
  ·simp only [Act.put, List.setIfInBounds_toArray, List.set_cons_zero, List.set_cons_succ, i64_w, i32_w]
   rfl
  refine pure_ (i := 15) (N := some 47) (v := ?_) (a' := ?_) #[true, false, true, true, true, true, true, false, true, true, false, false, false, true, false, true, false, false, false, false, false, false, false, false, false, false, false] rfl rfl (any_of HT_.out (by kernel_rfl)) (fun _ _ _ h => h) (Or.inl ⟨by rfl, ?_⟩) ?_ ?_
  rotate_left
  ·intro w'
   go_simp
   with_reducible rfl
  rotate_left
  ·simp only [Act.put, List.setIfInBounds_toArray, List.set_cons_zero, List.set_cons_succ, i64_w, i32_w]
   rfl
  refine pure_ (i := 17) (N := some 49) (v := ?_) (a' := ?_) #[true, false, true, true, true, true, true, false, true, true, false, false, false, true, false, true, false, true, false, false, false, false, false, false, false, false, false] rfl rfl (any_of HT_.out (by kernel_rfl)) (fun _ _ _ h => h) (Or.inl ⟨by rfl, ?_⟩) ?_ ?_
  rotate_left
  ·intro w'
   go_simp
   with_reducible rfl
  rotate_left
  ·simp only [Act.put, List.setIfInBounds_toArray, List.set_cons_zero, List.set_cons_succ, i64_w, i32_w]
   rfl
  refine pure_ (i := 19) (N := some 51) (v := ?_) (a' := ?_) #[true, false, true, true, true, true, true, false, true, true, false, false, false, true, false, true, false, true, false, true, false, false, false, false, false, false, false] rfl rfl (any_of HT_.out (by kernel_rfl)) (fun _ _ _ h => h) (Or.inl ⟨by rfl, ?_⟩) ?_ ?_
  rotate_left
  ·intro w'
   go_simp
   with_reducible rfl
  rotate_left
  ·simp only [Act.put, List.setIfInBounds_toArray, List.set_cons_zero, List.set_cons_succ, i64_w, i32_w]
   rfl
  refine pure_ (i := 21) (N := some 53) (v := ?_) (a' := ?_) #[true, false, true, true, true, true, true, false, true, true, false, false, false, true, false, true, false, true, false, true, false, true, false, false, false, false, false] rfl rfl (any_of HT_.out (by kernel_rfl)) (fun _ _ _ h => h) (Or.inl ⟨by rfl, ?_⟩) ?_ ?_
  rotate_left
  ·intro w'
   go_simp
   with_reducible rfl
  rotate_left
  ·simp only [Act.put, List.setIfInBounds_toArray, List.set_cons_zero, List.set_cons_succ, i64_w, i32_w]
   rfl
  refine pure_ (i := 23) (N := some 55) (v := ?_) (a' := ?_) #[true, false, true, true, true, true, true, false, true, true, false, false, false, true, false, true, false, true, false, true, false, true, false, true, false, false, false] rfl rfl (any_of HT_.out (by kernel_rfl)) (fun _ _ _ h => h) (Or.inl ⟨by rfl, ?_⟩) ?_ ?_
  rotate_left
  ·intro w'
   go_simp
   with_reducible rfl
  rotate_left
  ·simp only [Act.put, List.setIfInBounds_toArray, List.set_cons_zero, List.set_cons_succ, i64_w, i32_w]
   rfl
  refine pure_ (i := 24) (N := some 56) (v := ?_) (a' := ?_) #[true, false, true, true, true, true, true, false, true, true, false, false, false, true, false, true, false, true, false, true, false, true, false, true, true, false, false] rfl rfl (any_of HT_.out (by kernel_rfl)) (fun _ _ _ h => h) (Or.inl ⟨by rfl, ?_⟩) ?_ ?_
  rotate_left
  ·intro w'
   go_simp
   with_reducible rfl
  rotate_left
  ·simp only [Act.put, List.setIfInBounds_toArray, List.set_cons_zero, List.set_cons_succ, i64_w, i32_w]
   rfl
  refine take_ (i := 1) (N := some 33) (v := ?_) (a' := ?_) #[true, true, true, true, true, true, true, false, true, true, false, false, false, true, false, true, false, true, false, true, false, true, false, true, true, false, false] rfl rfl (take_ofW HT_.out HW_.out (by kernel_rfl)) (fun _ _ _ h => h) (Or.inl ⟨by rfl, ?_⟩) hHeld ?_ ?_
  rotate_left
  ·rintro w' ⟨s0, s1, s2, s3, s4, s5, s6, s7, s8, s9, s10, s11, s12, s13⟩
   go_simp
   with_reducible rfl
  rotate_left
  ·simp only [Act.put, List.setIfInBounds_toArray, List.set_cons_zero, List.set_cons_succ, i64_w, i32_w]
   rfl
  refine take_ (i := 7) (N := some 39) (v := ?_) (a' := ?_) #[true, true, true, true, true, true, true, true, true, true, false, false, false, true, false, true, false, true, false, true, false, true, false, true, true, false, false] rfl rfl (take_ofW HT_.out HW_.out (by kernel_rfl)) (fun _ _ _ h => h) (Or.inl ⟨by rfl, ?_⟩) hHeld ?_ ?_
  rotate_left
  ·rintro w' ⟨s0, s1, s2, s3, s4, s5, s6, s7, s8, s9, s10, s11, s12, s13⟩
   go_simp
   with_reducible rfl
  rotate_left
  ·simp only [Act.put, List.setIfInBounds_toArray, List.set_cons_zero, List.set_cons_succ, i64_w, i32_w]
   rfl
  refine take_ (i := 10) (N := some 42) (v := ?_) (a' := ?_) #[true, true, true, true, true, true, true, true, true, true, true, false, false, true, false, true, false, true, false, true, false, true, false, true, true, false, false] rfl rfl (take_ofW HT_.out HW_.out (by kernel_rfl)) (fun _ _ _ h => h) (Or.inl ⟨by rfl, ?_⟩) hHeld ?_ ?_
  rotate_left
  ·rintro w' ⟨s0, s1, s2, s3, s4, s5, s6, s7, s8, s9, s10, s11, s12, s13⟩
   go_simp
   with_reducible rfl
  rotate_left
  ·simp only [Act.put, List.setIfInBounds_toArray, List.set_cons_zero, List.set_cons_succ, i64_w, i32_w]
   rfl
  refine take_ (i := 16) (N := some 48) (v := ?_) (a' := ?_) #[true, true, true, true, true, true, true, true, true, true, true, false, false, true, false, true, true, true, false, true, false, true, false, true, true, false, false] rfl rfl (take_ofW HT_.out HW_.out (by kernel_rfl)) (fun _ _ _ h => h) (Or.inl ⟨by rfl, ?_⟩) hHeld ?_ ?_
  rotate_left
  ·rintro w' ⟨s0, s1, s2, s3, s4, s5, s6, s7, s8, s9, s10, s11, s12, s13⟩
   go_simp
   with_reducible rfl
  rotate_left
  ·simp only [Act.put, List.setIfInBounds_toArray, List.set_cons_zero, List.set_cons_succ, i64_w, i32_w]
   rfl
  refine take_ (i := 18) (N := some 50) (v := ?_) (a' := ?_) #[true, true, true, true, true, true, true, true, true, true, true, false, false, true, false, true, true, true, true, true, false, true, false, true, true, false, false] rfl rfl (take_ofW HT_.out HW_.out (by kernel_rfl)) (fun _ _ _ h => h) (Or.inl ⟨by rfl, ?_⟩) hHeld ?_ ?_
  rotate_left
  ·rintro w' ⟨s0, s1, s2, s3, s4, s5, s6, s7, s8, s9, s10, s11, s12, s13⟩
   go_simp
   with_reducible rfl
  rotate_left
  ·simp only [Act.put, List.setIfInBounds_toArray, List.set_cons_zero, List.set_cons_succ, i64_w, i32_w]
   rfl
  refine take_ (i := 20) (N := some 52) (v := ?_) (a' := ?_) #[true, true, true, true, true, true, true, true, true, true, true, false, false, true, false, true, true, true, true, true, true, true, false, true, true, false, false] rfl rfl (take_ofW HT_.out HW_.out (by kernel_rfl)) (fun _ _ _ h => h) (Or.inl ⟨by rfl, ?_⟩) hHeld ?_ ?_
  rotate_left
  ·rintro w' ⟨s0, s1, s2, s3, s4, s5, s6, s7, s8, s9, s10, s11, s12, s13⟩
   go_simp
   with_reducible rfl
  rotate_left
  ·simp only [Act.put, List.setIfInBounds_toArray, List.set_cons_zero, List.set_cons_succ, i64_w, i32_w]
   rfl
  refine take_ (i := 22) (N := some 54) (v := ?_) (a' := ?_) #[true, true, true, true, true, true, true, true, true, true, true, false, false, true, false, true, true, true, true, true, true, true, true, true, true, false, false] rfl rfl (take_ofW HT_.out HW_.out (by kernel_rfl)) (fun _ _ _ h => h) (Or.inl ⟨by rfl, ?_⟩) hHeld ?_ ?_
  rotate_left
  ·rintro w' ⟨s0, s1, s2, s3, s4, s5, s6, s7, s8, s9, s10, s11, s12, s13⟩
   go_simp
   with_reducible rfl
  rotate_left
  ·simp only [Act.put, List.setIfInBounds_toArray, List.set_cons_zero, List.set_cons_succ, i64_w, i32_w]
   rfl
  refine one_ (i := 11) (N := some 43) #[true, true, true, true, true, true, true, true, true, true, true, true, false, true, false, true, true, true, true, true, true, true, true, true, true, false, false] rfl rfl (one_of HT_.out (by kernel_rfl)) (by decide) (fun K hK => ?_)
  refine goes_ Try.func29 (by kernel_rfl) rfl #[.int .i64 a0_3, .int .i64 a0_7] (by rfl) rfl rfl (by (try simp only [List.map_toArray, List.map_cons, List.map_nil]); first | done | rfl | (simp only [List.length_drop, List.length_take]; rfl)) ?_
  with_reducible refine (foliotref01_Add.calls k a0_3 a0_7 t232 _ A14.out).mono ?_
  rintro e w27 ⟨rfl, hb⟩
  refine ⟨_, rfl, ?_⟩
  have n0_ := Aside0.mk (blk_below (g := gb226) (o := .cells #[.int .i64 a0_0, .int .i64 a0_1, .int .i64 a0_2, .int .i64 a0_3, .int .i64 a0_4, .int .u32 a0_5, .int .i64 a0_6, .int .i64 a0_7, .int .i64 a0_8, .int .i64 a0_9, .int .u64 a0_10, .bool a0_11, .int .i64 a0_12, .int .i64 a0_13] 42 (0, 0)) (by (with_reducible repeat (first | refine blk_drewN ?_ _ | refine blk_drew ?_ | refine blk_alloc ?_ _)); exact BK226.out) hb)
  have n1_ := Aside0.mk (blk_below (g := gb227) (o := .cells #[.int .i64 0, .int .i64 0, .int .i64 0, .int .i64 0, .int .i64 0, .int .u32 0, .int .u64 0, .int .i64 0, .int .i64 0, .int .i64 0, .int .i64 0] 28 (0, 0)) (by (with_reducible repeat (first | refine blk_drewN ?_ _ | refine blk_drew ?_ | refine blk_alloc ?_ _)); exact BK227.out) hb)
  have n2_ := Aside0.mk (below_step (by repeat (first | (with_reducible first | exact HB.out | apply below_alloc | apply pw_below_drewN | apply below_drew1 | refine below_set ?_ GE226.out | refine below_set ?_ GE227.out) | exact HB.out)) hb)
  clear BK226
  clear BK227
  clear HB
  have BK226 := n0_
  have BK227 := n1_
  have HB := n2_
  clear n0_ n1_ n2_
  (try clear hb)
  (try clear hb2)
  (try clear hk)
  (try clear hi)
  refine hK.out _ _ ⟨(blk_cell BK226.out 0).trans rfl, (blk_cell BK226.out 1).trans rfl, (blk_cell BK226.out 2).trans rfl, (blk_cell BK226.out 3).trans rfl, (blk_cell BK226.out 4).trans rfl, (blk_cell BK226.out 5).trans rfl, (blk_cell BK226.out 6).trans rfl, (blk_cell BK226.out 7).trans rfl, (blk_cell BK226.out 8).trans rfl, (blk_cell BK226.out 9).trans rfl, (blk_cell BK226.out 10).trans rfl, (blk_cell BK226.out 11).trans rfl, (blk_cell BK226.out 12).trans rfl, (blk_cell BK226.out 13).trans rfl⟩ (fun hHeld => ?_)
  clear hK K
  refine norm_ (a' := ?_) ?_ ?_
  rotate_left
  ·show Act.put _ (some 43) _ = _
   simp only [Act.put, List.setIfInBounds_toArray, List.set_cons_zero, List.set_cons_succ, i64_w, i32_w]
   rfl
  refine one_ (i := 12) (N := some 44) #[true, true, true, true, true, true, true, true, true, true, true, true, true, true, false, true, true, true, true, true, true, true, true, true, true, false, false] rfl rfl (one_of HT_.out (by kernel_rfl)) (by decide) (fun K hK => ?_)
  refine goes_ Try.func31 (by kernel_rfl) rfl #[.int .i64 t232, .int .i64 68719476736] (by rfl) rfl rfl (by (try simp only [List.map_toArray, List.map_cons, List.map_nil]); first | done | rfl | (simp only [List.length_drop, List.length_take]; rfl)) ?_
  with_reducible refine (foliotref17_inside.calls t232 68719476736 t233 _ A15.out).mono ?_
  rintro e w28 ⟨rfl, hb⟩
  refine ⟨_, rfl, ?_⟩
  have n0_ := Aside0.mk (blk_below (g := gb226) (o := .cells #[.int .i64 a0_0, .int .i64 a0_1, .int .i64 a0_2, .int .i64 a0_3, .int .i64 a0_4, .int .u32 a0_5, .int .i64 a0_6, .int .i64 a0_7, .int .i64 a0_8, .int .i64 a0_9, .int .u64 a0_10, .bool a0_11, .int .i64 a0_12, .int .i64 a0_13] 42 (0, 0)) (by (with_reducible repeat (first | refine blk_drewN ?_ _ | refine blk_drew ?_ | refine blk_alloc ?_ _)); exact BK226.out) hb)
  have n1_ := Aside0.mk (blk_below (g := gb227) (o := .cells #[.int .i64 0, .int .i64 0, .int .i64 0, .int .i64 0, .int .i64 0, .int .u32 0, .int .u64 0, .int .i64 0, .int .i64 0, .int .i64 0, .int .i64 0] 28 (0, 0)) (by (with_reducible repeat (first | refine blk_drewN ?_ _ | refine blk_drew ?_ | refine blk_alloc ?_ _)); exact BK227.out) hb)
  have n2_ := Aside0.mk (below_step (by repeat (first | (with_reducible first | exact HB.out | apply below_alloc | apply pw_below_drewN | apply below_drew1 | refine below_set ?_ GE226.out | refine below_set ?_ GE227.out) | exact HB.out)) hb)
  clear BK226
  clear BK227
  clear HB
  have BK226 := n0_
  have BK227 := n1_
  have HB := n2_
  clear n0_ n1_ n2_
  (try clear hb)
  (try clear hb2)
  (try clear hk)
  (try clear hi)
  refine hK.out _ _ ⟨(blk_cell BK226.out 0).trans rfl, (blk_cell BK226.out 1).trans rfl, (blk_cell BK226.out 2).trans rfl, (blk_cell BK226.out 3).trans rfl, (blk_cell BK226.out 4).trans rfl, (blk_cell BK226.out 5).trans rfl, (blk_cell BK226.out 6).trans rfl, (blk_cell BK226.out 7).trans rfl, (blk_cell BK226.out 8).trans rfl, (blk_cell BK226.out 9).trans rfl, (blk_cell BK226.out 10).trans rfl, (blk_cell BK226.out 11).trans rfl, (blk_cell BK226.out 12).trans rfl, (blk_cell BK226.out 13).trans rfl⟩ (fun hHeld => ?_)
  clear hK K
  refine norm_ (a' := ?_) ?_ ?_
  rotate_left
  ·show Act.put _ (some 44) _ = _
   simp only [Act.put, List.setIfInBounds_toArray, List.set_cons_zero, List.set_cons_succ, i64_w, i32_w]
   rfl
  refine one_ (i := 14) (N := some 46) #[true, true, true, true, true, true, true, true, true, true, true, true, true, true, true, true, true, true, true, true, true, true, true, true, true, false, false] rfl rfl (one_of HT_.out (by kernel_rfl)) (by decide) (fun K hK => ?_)
  refine goes_ Try.func31 (by kernel_rfl) rfl #[.int .i64 t231, .int .i64 68719476736] (by rfl) rfl rfl (by (try simp only [List.map_toArray, List.map_cons, List.map_nil]); first | done | rfl | (simp only [List.length_drop, List.length_take]; rfl)) ?_
  with_reducible refine (foliotref17_inside.calls t231 68719476736 t234 _ A16.out).mono ?_
  rintro e w29 ⟨rfl, hb⟩
  refine ⟨_, rfl, ?_⟩
  have n0_ := Aside0.mk (blk_below (g := gb226) (o := .cells #[.int .i64 a0_0, .int .i64 a0_1, .int .i64 a0_2, .int .i64 a0_3, .int .i64 a0_4, .int .u32 a0_5, .int .i64 a0_6, .int .i64 a0_7, .int .i64 a0_8, .int .i64 a0_9, .int .u64 a0_10, .bool a0_11, .int .i64 a0_12, .int .i64 a0_13] 42 (0, 0)) (by (with_reducible repeat (first | refine blk_drewN ?_ _ | refine blk_drew ?_ | refine blk_alloc ?_ _)); exact BK226.out) hb)
  have n1_ := Aside0.mk (blk_below (g := gb227) (o := .cells #[.int .i64 0, .int .i64 0, .int .i64 0, .int .i64 0, .int .i64 0, .int .u32 0, .int .u64 0, .int .i64 0, .int .i64 0, .int .i64 0, .int .i64 0] 28 (0, 0)) (by (with_reducible repeat (first | refine blk_drewN ?_ _ | refine blk_drew ?_ | refine blk_alloc ?_ _)); exact BK227.out) hb)
  have n2_ := Aside0.mk (below_step (by repeat (first | (with_reducible first | exact HB.out | apply below_alloc | apply pw_below_drewN | apply below_drew1 | refine below_set ?_ GE226.out | refine below_set ?_ GE227.out) | exact HB.out)) hb)
  clear BK226
  clear BK227
  clear HB
  have BK226 := n0_
  have BK227 := n1_
  have HB := n2_
  clear n0_ n1_ n2_
  (try clear hb)
  (try clear hb2)
  (try clear hk)
  (try clear hi)
  refine hK.out _ _ ⟨(blk_cell BK226.out 0).trans rfl, (blk_cell BK226.out 1).trans rfl, (blk_cell BK226.out 2).trans rfl, (blk_cell BK226.out 3).trans rfl, (blk_cell BK226.out 4).trans rfl, (blk_cell BK226.out 5).trans rfl, (blk_cell BK226.out 6).trans rfl, (blk_cell BK226.out 7).trans rfl, (blk_cell BK226.out 8).trans rfl, (blk_cell BK226.out 9).trans rfl, (blk_cell BK226.out 10).trans rfl, (blk_cell BK226.out 11).trans rfl, (blk_cell BK226.out 12).trans rfl, (blk_cell BK226.out 13).trans rfl⟩ (fun hHeld => ?_)
  clear hK K
  refine norm_ (a' := ?_) ?_ ?_
  rotate_left
  ·show Act.put _ (some 46) _ = _
   simp only [Act.put, List.setIfInBounds_toArray, List.set_cons_zero, List.set_cons_succ, i64_w, i32_w]
   rfl
  refine pure_ (i := 25) (N := some 57) (v := ?_) (a' := ?_) #[true, true, true, true, true, true, true, true, true, true, true, true, true, true, true, true, true, true, true, true, true, true, true, true, true, true, false] rfl rfl (any_of HT_.out (by kernel_rfl)) (fun _ _ _ h => h) (Or.inl ⟨by rfl, ?_⟩) ?_ ?_
  rotate_left
  ·intro w'
   go_simp
   with_reducible rfl
  rotate_left
  ·simp only [Act.put, List.setIfInBounds_toArray, List.set_cons_zero, List.set_cons_succ, i64_w, i32_w]
   rfl
  refine one_ (i := 26) (N := none) #[true, true, true, true, true, true, true, true, true, true, true, true, true, true, true, true, true, true, true, true, true, true, true, true, true, true, true] rfl rfl (one_of HT_.out (by kernel_rfl)) (by decide) (fun K hK => ?_)
  have hs30 : w29.cell? ⟨gb227, 0, none⟩ = some (.int .i64 0) := (blk_cell BK227.out 0).trans rfl
  have hfs30 := blk_frozen BK227.out 0
  have hns30_0 := NB226_227.out
  have hms30_0 := NB227_226.out
  have hs31 : w29.cell? ⟨gb227, 1, none⟩ = some (.int .i64 0) := (blk_cell BK227.out 1).trans rfl
  have hfs31 := blk_frozen BK227.out 1
  have hns31_0 := NB226_227.out
  have hms31_0 := NB227_226.out
  have hs32 : w29.cell? ⟨gb227, 2, none⟩ = some (.int .i64 0) := (blk_cell BK227.out 2).trans rfl
  have hfs32 := blk_frozen BK227.out 2
  have hns32_0 := NB226_227.out
  have hms32_0 := NB227_226.out
  have hs33 : w29.cell? ⟨gb227, 3, none⟩ = some (.int .i64 0) := (blk_cell BK227.out 3).trans rfl
  have hfs33 := blk_frozen BK227.out 3
  have hns33_0 := NB226_227.out
  have hms33_0 := NB227_226.out
  have hs34 : w29.cell? ⟨gb227, 4, none⟩ = some (.int .i64 0) := (blk_cell BK227.out 4).trans rfl
  have hfs34 := blk_frozen BK227.out 4
  have hns34_0 := NB226_227.out
  have hms34_0 := NB227_226.out
  have hs35 : w29.cell? ⟨gb227, 5, none⟩ = some (.int .u32 0) := (blk_cell BK227.out 5).trans rfl
  have hfs35 := blk_frozen BK227.out 5
  have hns35_0 := NB226_227.out
  have hms35_0 := NB227_226.out
  have hs36 : w29.cell? ⟨gb227, 6, none⟩ = some (.int .u64 0) := (blk_cell BK227.out 6).trans rfl
  have hfs36 := blk_frozen BK227.out 6
  have hns36_0 := NB226_227.out
  have hms36_0 := NB227_226.out
  have hs37 : w29.cell? ⟨gb227, 7, none⟩ = some (.int .i64 0) := (blk_cell BK227.out 7).trans rfl
  have hfs37 := blk_frozen BK227.out 7
  have hns37_0 := NB226_227.out
  have hms37_0 := NB227_226.out
  have hs38 : w29.cell? ⟨gb227, 8, none⟩ = some (.int .i64 0) := (blk_cell BK227.out 8).trans rfl
  have hfs38 := blk_frozen BK227.out 8
  have hns38_0 := NB226_227.out
  have hms38_0 := NB227_226.out
  have hs39 : w29.cell? ⟨gb227, 9, none⟩ = some (.int .i64 0) := (blk_cell BK227.out 9).trans rfl
  have hfs39 := blk_frozen BK227.out 9
  have hns39_0 := NB226_227.out
  have hms39_0 := NB227_226.out
  have hs40 : w29.cell? ⟨gb227, 10, none⟩ = some (.int .i64 0) := (blk_cell BK227.out 10).trans rfl
  have hfs40 := blk_frozen BK227.out 10
  have hns40_0 := NB226_227.out
  have hms40_0 := NB227_226.out
  refine skip_ (w1 := ?_) (by rfl) rfl ?_ ?_
  rotate_left
  ·go_simp
   rfl
  refine hK.out _ _ ⟨((cell_far (p := ⟨gb227, _, none⟩) NB226_227.out _).trans (((cell_far (p := ⟨gb227, _, none⟩) NB226_227.out _).trans (((cell_far (p := ⟨gb227, _, none⟩) NB226_227.out _).trans (((cell_far (p := ⟨gb227, _, none⟩) NB226_227.out _).trans (((cell_far (p := ⟨gb227, _, none⟩) NB226_227.out _).trans (((cell_far (p := ⟨gb227, _, none⟩) NB226_227.out _).trans (((cell_far (p := ⟨gb227, _, none⟩) NB226_227.out _).trans (((cell_far (p := ⟨gb227, _, none⟩) NB226_227.out _).trans (((cell_far (p := ⟨gb227, _, none⟩) NB226_227.out _).trans (((cell_far (p := ⟨gb227, _, none⟩) NB226_227.out _).trans (((cell_far (p := ⟨gb227, _, none⟩) NB226_227.out _).trans (hHeld.1)))))))))))))))))))))), ((cell_far (p := ⟨gb227, _, none⟩) NB226_227.out _).trans (((cell_far (p := ⟨gb227, _, none⟩) NB226_227.out _).trans (((cell_far (p := ⟨gb227, _, none⟩) NB226_227.out _).trans (((cell_far (p := ⟨gb227, _, none⟩) NB226_227.out _).trans (((cell_far (p := ⟨gb227, _, none⟩) NB226_227.out _).trans (((cell_far (p := ⟨gb227, _, none⟩) NB226_227.out _).trans (((cell_far (p := ⟨gb227, _, none⟩) NB226_227.out _).trans (((cell_far (p := ⟨gb227, _, none⟩) NB226_227.out _).trans (((cell_far (p := ⟨gb227, _, none⟩) NB226_227.out _).trans (((cell_far (p := ⟨gb227, _, none⟩) NB226_227.out _).trans (((cell_far (p := ⟨gb227, _, none⟩) NB226_227.out _).trans (hHeld.2.1)))))))))))))))))))))), ((cell_far (p := ⟨gb227, _, none⟩) NB226_227.out _).trans (((cell_far (p := ⟨gb227, _, none⟩) NB226_227.out _).trans (((cell_far (p := ⟨gb227, _, none⟩) NB226_227.out _).trans (((cell_far (p := ⟨gb227, _, none⟩) NB226_227.out _).trans (((cell_far (p := ⟨gb227, _, none⟩) NB226_227.out _).trans (((cell_far (p := ⟨gb227, _, none⟩) NB226_227.out _).trans (((cell_far (p := ⟨gb227, _, none⟩) NB226_227.out _).trans (((cell_far (p := ⟨gb227, _, none⟩) NB226_227.out _).trans (((cell_far (p := ⟨gb227, _, none⟩) NB226_227.out _).trans (((cell_far (p := ⟨gb227, _, none⟩) NB226_227.out _).trans (((cell_far (p := ⟨gb227, _, none⟩) NB226_227.out _).trans (hHeld.2.2.1)))))))))))))))))))))), ((cell_far (p := ⟨gb227, _, none⟩) NB226_227.out _).trans (((cell_far (p := ⟨gb227, _, none⟩) NB226_227.out _).trans (((cell_far (p := ⟨gb227, _, none⟩) NB226_227.out _).trans (((cell_far (p := ⟨gb227, _, none⟩) NB226_227.out _).trans (((cell_far (p := ⟨gb227, _, none⟩) NB226_227.out _).trans (((cell_far (p := ⟨gb227, _, none⟩) NB226_227.out _).trans (((cell_far (p := ⟨gb227, _, none⟩) NB226_227.out _).trans (((cell_far (p := ⟨gb227, _, none⟩) NB226_227.out _).trans (((cell_far (p := ⟨gb227, _, none⟩) NB226_227.out _).trans (((cell_far (p := ⟨gb227, _, none⟩) NB226_227.out _).trans (((cell_far (p := ⟨gb227, _, none⟩) NB226_227.out _).trans (hHeld.2.2.2.1)))))))))))))))))))))), ((cell_far (p := ⟨gb227, _, none⟩) NB226_227.out _).trans (((cell_far (p := ⟨gb227, _, none⟩) NB226_227.out _).trans (((cell_far (p := ⟨gb227, _, none⟩) NB226_227.out _).trans (((cell_far (p := ⟨gb227, _, none⟩) NB226_227.out _).trans (((cell_far (p := ⟨gb227, _, none⟩) NB226_227.out _).trans (((cell_far (p := ⟨gb227, _, none⟩) NB226_227.out _).trans (((cell_far (p := ⟨gb227, _, none⟩) NB226_227.out _).trans (((cell_far (p := ⟨gb227, _, none⟩) NB226_227.out _).trans (((cell_far (p := ⟨gb227, _, none⟩) NB226_227.out _).trans (((cell_far (p := ⟨gb227, _, none⟩) NB226_227.out _).trans (((cell_far (p := ⟨gb227, _, none⟩) NB226_227.out _).trans (hHeld.2.2.2.2.1)))))))))))))))))))))), ((cell_far (p := ⟨gb227, _, none⟩) NB226_227.out _).trans (((cell_far (p := ⟨gb227, _, none⟩) NB226_227.out _).trans (((cell_far (p := ⟨gb227, _, none⟩) NB226_227.out _).trans (((cell_far (p := ⟨gb227, _, none⟩) NB226_227.out _).trans (((cell_far (p := ⟨gb227, _, none⟩) NB226_227.out _).trans (((cell_far (p := ⟨gb227, _, none⟩) NB226_227.out _).trans (((cell_far (p := ⟨gb227, _, none⟩) NB226_227.out _).trans (((cell_far (p := ⟨gb227, _, none⟩) NB226_227.out _).trans (((cell_far (p := ⟨gb227, _, none⟩) NB226_227.out _).trans (((cell_far (p := ⟨gb227, _, none⟩) NB226_227.out _).trans (((cell_far (p := ⟨gb227, _, none⟩) NB226_227.out _).trans (hHeld.2.2.2.2.2.1)))))))))))))))))))))), ((cell_far (p := ⟨gb227, _, none⟩) NB226_227.out _).trans (((cell_far (p := ⟨gb227, _, none⟩) NB226_227.out _).trans (((cell_far (p := ⟨gb227, _, none⟩) NB226_227.out _).trans (((cell_far (p := ⟨gb227, _, none⟩) NB226_227.out _).trans (((cell_far (p := ⟨gb227, _, none⟩) NB226_227.out _).trans (((cell_far (p := ⟨gb227, _, none⟩) NB226_227.out _).trans (((cell_far (p := ⟨gb227, _, none⟩) NB226_227.out _).trans (((cell_far (p := ⟨gb227, _, none⟩) NB226_227.out _).trans (((cell_far (p := ⟨gb227, _, none⟩) NB226_227.out _).trans (((cell_far (p := ⟨gb227, _, none⟩) NB226_227.out _).trans (((cell_far (p := ⟨gb227, _, none⟩) NB226_227.out _).trans (hHeld.2.2.2.2.2.2.1)))))))))))))))))))))), ((cell_far (p := ⟨gb227, _, none⟩) NB226_227.out _).trans (((cell_far (p := ⟨gb227, _, none⟩) NB226_227.out _).trans (((cell_far (p := ⟨gb227, _, none⟩) NB226_227.out _).trans (((cell_far (p := ⟨gb227, _, none⟩) NB226_227.out _).trans (((cell_far (p := ⟨gb227, _, none⟩) NB226_227.out _).trans (((cell_far (p := ⟨gb227, _, none⟩) NB226_227.out _).trans (((cell_far (p := ⟨gb227, _, none⟩) NB226_227.out _).trans (((cell_far (p := ⟨gb227, _, none⟩) NB226_227.out _).trans (((cell_far (p := ⟨gb227, _, none⟩) NB226_227.out _).trans (((cell_far (p := ⟨gb227, _, none⟩) NB226_227.out _).trans (((cell_far (p := ⟨gb227, _, none⟩) NB226_227.out _).trans (hHeld.2.2.2.2.2.2.2.1)))))))))))))))))))))), ((cell_far (p := ⟨gb227, _, none⟩) NB226_227.out _).trans (((cell_far (p := ⟨gb227, _, none⟩) NB226_227.out _).trans (((cell_far (p := ⟨gb227, _, none⟩) NB226_227.out _).trans (((cell_far (p := ⟨gb227, _, none⟩) NB226_227.out _).trans (((cell_far (p := ⟨gb227, _, none⟩) NB226_227.out _).trans (((cell_far (p := ⟨gb227, _, none⟩) NB226_227.out _).trans (((cell_far (p := ⟨gb227, _, none⟩) NB226_227.out _).trans (((cell_far (p := ⟨gb227, _, none⟩) NB226_227.out _).trans (((cell_far (p := ⟨gb227, _, none⟩) NB226_227.out _).trans (((cell_far (p := ⟨gb227, _, none⟩) NB226_227.out _).trans (((cell_far (p := ⟨gb227, _, none⟩) NB226_227.out _).trans (hHeld.2.2.2.2.2.2.2.2.1)))))))))))))))))))))), ((cell_far (p := ⟨gb227, _, none⟩) NB226_227.out _).trans (((cell_far (p := ⟨gb227, _, none⟩) NB226_227.out _).trans (((cell_far (p := ⟨gb227, _, none⟩) NB226_227.out _).trans (((cell_far (p := ⟨gb227, _, none⟩) NB226_227.out _).trans (((cell_far (p := ⟨gb227, _, none⟩) NB226_227.out _).trans (((cell_far (p := ⟨gb227, _, none⟩) NB226_227.out _).trans (((cell_far (p := ⟨gb227, _, none⟩) NB226_227.out _).trans (((cell_far (p := ⟨gb227, _, none⟩) NB226_227.out _).trans (((cell_far (p := ⟨gb227, _, none⟩) NB226_227.out _).trans (((cell_far (p := ⟨gb227, _, none⟩) NB226_227.out _).trans (((cell_far (p := ⟨gb227, _, none⟩) NB226_227.out _).trans (hHeld.2.2.2.2.2.2.2.2.2.1)))))))))))))))))))))), ((cell_far (p := ⟨gb227, _, none⟩) NB226_227.out _).trans (((cell_far (p := ⟨gb227, _, none⟩) NB226_227.out _).trans (((cell_far (p := ⟨gb227, _, none⟩) NB226_227.out _).trans (((cell_far (p := ⟨gb227, _, none⟩) NB226_227.out _).trans (((cell_far (p := ⟨gb227, _, none⟩) NB226_227.out _).trans (((cell_far (p := ⟨gb227, _, none⟩) NB226_227.out _).trans (((cell_far (p := ⟨gb227, _, none⟩) NB226_227.out _).trans (((cell_far (p := ⟨gb227, _, none⟩) NB226_227.out _).trans (((cell_far (p := ⟨gb227, _, none⟩) NB226_227.out _).trans (((cell_far (p := ⟨gb227, _, none⟩) NB226_227.out _).trans (((cell_far (p := ⟨gb227, _, none⟩) NB226_227.out _).trans (hHeld.2.2.2.2.2.2.2.2.2.2.1)))))))))))))))))))))), ((cell_far (p := ⟨gb227, _, none⟩) NB226_227.out _).trans (((cell_far (p := ⟨gb227, _, none⟩) NB226_227.out _).trans (((cell_far (p := ⟨gb227, _, none⟩) NB226_227.out _).trans (((cell_far (p := ⟨gb227, _, none⟩) NB226_227.out _).trans (((cell_far (p := ⟨gb227, _, none⟩) NB226_227.out _).trans (((cell_far (p := ⟨gb227, _, none⟩) NB226_227.out _).trans (((cell_far (p := ⟨gb227, _, none⟩) NB226_227.out _).trans (((cell_far (p := ⟨gb227, _, none⟩) NB226_227.out _).trans (((cell_far (p := ⟨gb227, _, none⟩) NB226_227.out _).trans (((cell_far (p := ⟨gb227, _, none⟩) NB226_227.out _).trans (((cell_far (p := ⟨gb227, _, none⟩) NB226_227.out _).trans (hHeld.2.2.2.2.2.2.2.2.2.2.2.1)))))))))))))))))))))), ((cell_far (p := ⟨gb227, _, none⟩) NB226_227.out _).trans (((cell_far (p := ⟨gb227, _, none⟩) NB226_227.out _).trans (((cell_far (p := ⟨gb227, _, none⟩) NB226_227.out _).trans (((cell_far (p := ⟨gb227, _, none⟩) NB226_227.out _).trans (((cell_far (p := ⟨gb227, _, none⟩) NB226_227.out _).trans (((cell_far (p := ⟨gb227, _, none⟩) NB226_227.out _).trans (((cell_far (p := ⟨gb227, _, none⟩) NB226_227.out _).trans (((cell_far (p := ⟨gb227, _, none⟩) NB226_227.out _).trans (((cell_far (p := ⟨gb227, _, none⟩) NB226_227.out _).trans (((cell_far (p := ⟨gb227, _, none⟩) NB226_227.out _).trans (((cell_far (p := ⟨gb227, _, none⟩) NB226_227.out _).trans (hHeld.2.2.2.2.2.2.2.2.2.2.2.2.1)))))))))))))))))))))), ((cell_far (p := ⟨gb227, _, none⟩) NB226_227.out _).trans (((cell_far (p := ⟨gb227, _, none⟩) NB226_227.out _).trans (((cell_far (p := ⟨gb227, _, none⟩) NB226_227.out _).trans (((cell_far (p := ⟨gb227, _, none⟩) NB226_227.out _).trans (((cell_far (p := ⟨gb227, _, none⟩) NB226_227.out _).trans (((cell_far (p := ⟨gb227, _, none⟩) NB226_227.out _).trans (((cell_far (p := ⟨gb227, _, none⟩) NB226_227.out _).trans (((cell_far (p := ⟨gb227, _, none⟩) NB226_227.out _).trans (((cell_far (p := ⟨gb227, _, none⟩) NB226_227.out _).trans (((cell_far (p := ⟨gb227, _, none⟩) NB226_227.out _).trans (((cell_far (p := ⟨gb227, _, none⟩) NB226_227.out _).trans (hHeld.2.2.2.2.2.2.2.2.2.2.2.2.2))))))))))))))))))))))⟩ (fun hHeld => ?_)
  clear hK K
  refine done_ (done_of HT_.out (by kernel_rfl)) ?_
  try go_wp2
  refine bodyPost_ret (results_cell_row rfl _ _ gb227 28 #[.int .i64 a0_1, .int .i64 ji11, .int .i64 ji13, .int .i64 t233, .int .i64 t234, .int .u32 a0_5, .int .u64 a3, .int .i64 a0_12, .int .i64 a0_13, .int .i64 a0_0, .int .i64 a1] (0, 0) _ rfl (by (with_reducible repeat (first | refine blk_drewN ?_ _ | refine blk_drew ?_ | refine blk_alloc ?_ _)); refine blk_put (cs := #[.int .i64 a0_1, .int .i64 ji11, .int .i64 ji13, .int .i64 t233, .int .i64 t234, .int .u32 a0_5, .int .u64 a3, .int .i64 a0_12, .int .i64 a0_13, .int .i64 a0_0, .int .i64 0]) ?_ 10 _ rfl; (with_reducible repeat (first | refine blk_drewN ?_ _ | refine blk_drew ?_ | refine blk_alloc ?_ _)); refine blk_put (cs := #[.int .i64 a0_1, .int .i64 ji11, .int .i64 ji13, .int .i64 t233, .int .i64 t234, .int .u32 a0_5, .int .u64 a3, .int .i64 a0_12, .int .i64 a0_13, .int .i64 0, .int .i64 0]) ?_ 9 _ rfl; (with_reducible repeat (first | refine blk_drewN ?_ _ | refine blk_drew ?_ | refine blk_alloc ?_ _)); refine blk_put (cs := #[.int .i64 a0_1, .int .i64 ji11, .int .i64 ji13, .int .i64 t233, .int .i64 t234, .int .u32 a0_5, .int .u64 a3, .int .i64 a0_12, .int .i64 0, .int .i64 0, .int .i64 0]) ?_ 8 _ rfl; (with_reducible repeat (first | refine blk_drewN ?_ _ | refine blk_drew ?_ | refine blk_alloc ?_ _)); refine blk_put (cs := #[.int .i64 a0_1, .int .i64 ji11, .int .i64 ji13, .int .i64 t233, .int .i64 t234, .int .u32 a0_5, .int .u64 a3, .int .i64 0, .int .i64 0, .int .i64 0, .int .i64 0]) ?_ 7 _ rfl; (with_reducible repeat (first | refine blk_drewN ?_ _ | refine blk_drew ?_ | refine blk_alloc ?_ _)); refine blk_put (cs := #[.int .i64 a0_1, .int .i64 ji11, .int .i64 ji13, .int .i64 t233, .int .i64 t234, .int .u32 a0_5, .int .u64 0, .int .i64 0, .int .i64 0, .int .i64 0, .int .i64 0]) ?_ 6 _ rfl; (with_reducible repeat (first | refine blk_drewN ?_ _ | refine blk_drew ?_ | refine blk_alloc ?_ _)); refine blk_put (cs := #[.int .i64 a0_1, .int .i64 ji11, .int .i64 ji13, .int .i64 t233, .int .i64 t234, .int .u32 0, .int .u64 0, .int .i64 0, .int .i64 0, .int .i64 0, .int .i64 0]) ?_ 5 _ rfl; (with_reducible repeat (first | refine blk_drewN ?_ _ | refine blk_drew ?_ | refine blk_alloc ?_ _)); refine blk_put (cs := #[.int .i64 a0_1, .int .i64 ji11, .int .i64 ji13, .int .i64 t233, .int .i64 0, .int .u32 0, .int .u64 0, .int .i64 0, .int .i64 0, .int .i64 0, .int .i64 0]) ?_ 4 _ rfl; (with_reducible repeat (first | refine blk_drewN ?_ _ | refine blk_drew ?_ | refine blk_alloc ?_ _)); refine blk_put (cs := #[.int .i64 a0_1, .int .i64 ji11, .int .i64 ji13, .int .i64 0, .int .i64 0, .int .u32 0, .int .u64 0, .int .i64 0, .int .i64 0, .int .i64 0, .int .i64 0]) ?_ 3 _ rfl; (with_reducible repeat (first | refine blk_drewN ?_ _ | refine blk_drew ?_ | refine blk_alloc ?_ _)); refine blk_put (cs := #[.int .i64 a0_1, .int .i64 ji11, .int .i64 0, .int .i64 0, .int .i64 0, .int .u32 0, .int .u64 0, .int .i64 0, .int .i64 0, .int .i64 0, .int .i64 0]) ?_ 2 _ rfl; (with_reducible repeat (first | refine blk_drewN ?_ _ | refine blk_drew ?_ | refine blk_alloc ?_ _)); refine blk_put (cs := #[.int .i64 a0_1, .int .i64 0, .int .i64 0, .int .i64 0, .int .i64 0, .int .u32 0, .int .u64 0, .int .i64 0, .int .i64 0, .int .i64 0, .int .i64 0]) ?_ 1 _ rfl; (with_reducible repeat (first | refine blk_drewN ?_ _ | refine blk_drew ?_ | refine blk_alloc ?_ _)); refine blk_put (cs := #[.int .i64 0, .int .i64 0, .int .i64 0, .int .i64 0, .int .i64 0, .int .u32 0, .int .u64 0, .int .i64 0, .int .i64 0, .int .i64 0, .int .i64 0]) ?_ 0 _ rfl; (with_reducible repeat (first | refine blk_drewN ?_ _ | refine blk_drew ?_ | refine blk_alloc ?_ _)); exact BK227.out) Try.underlying28 rfl (by kernel_rfl)) rfl ?_
  exact ⟨by first | rfl | (simp [errW_none, errW_some] <;> rfl) | (simp only [← hji10, ← hji11, ← hji12, ← hji13]; first | rfl | (simp [errW_none, errW_some] <;> rfl)) | (simp [*, errW_none, errW_some] <;> rfl), by repeat (first | (with_reducible first | exact HB.out | apply below_alloc | apply pw_below_drewN | apply below_drew1 | refine below_set ?_ GE226.out | refine below_set ?_ GE227.out) | exact HB.out)⟩
 ·rw [if_neg c9] at H
  have c9b0 : decide (a0_2 < 16) = false := decide_eq_false c9
  clear c9
  obtain ⟨ji41, hji41⟩ : ∃ j_ : Int, (mn a2 10) = j_ := ⟨_, rfl⟩
  replace H : ((foliotref01_Add.f k a0_3 a0_7).bind fun t235 => ((foliotref17_inside.f t235 68719476736).bind fun t236 => ((foliotref17_inside.f t231 68719476736).bind fun t237 => (some (a0_1, 16, mx 3 (ji41), t236, t237, a0_5, a3, a0_12, a0_13, a0_0, a1))))) = some (r1, r2, r3, r4, r5, r6, r7, r8, r9, r10, r11) := by first | (rw [hji41] at H; exact H) | (simp only [hji41] at H ⊢; exact H)
  (try rw [hji41] at A5)
  (try rw [hji41] at A6)
  (try rw [hji41] at A7)
  (try rw [hji41] at A8)
  (try (have hji41h : ji41 ≤ 10 := by (rw [← hji41]; unfold mn; (repeat' split) <;> omega)))
  (try (have hji41g : ji41 ≤ 64 := by omega))
  have hji41_ : (if 10 < a2 then 10 else a2) = ji41 := hji41
  obtain ⟨ji42, hji42⟩ : ∃ j_ : Int, (mx 3 (ji41)) = j_ := ⟨_, rfl⟩
  replace H : ((foliotref01_Add.f k a0_3 a0_7).bind fun t235 => ((foliotref17_inside.f t235 68719476736).bind fun t236 => ((foliotref17_inside.f t231 68719476736).bind fun t237 => (some (a0_1, 16, ji42, t236, t237, a0_5, a3, a0_12, a0_13, a0_0, a1))))) = some (r1, r2, r3, r4, r5, r6, r7, r8, r9, r10, r11) := by first | (rw [hji42] at H; exact H) | (simp only [hji42] at H ⊢; exact H)
  (try rw [hji42] at A5)
  (try rw [hji42] at A6)
  (try rw [hji42] at A7)
  (try rw [hji42] at A8)
  have hji42_ : (if 3 < (ji41) then (ji41) else 3) = ji42 := hji42
  replace H := Option.bind_eq_some_iff.mp H
  obtain ⟨t235, A430, H⟩ := H
  replace H : ((foliotref17_inside.f t235 68719476736).bind fun t236 => ((foliotref17_inside.f t231 68719476736).bind fun t237 => (some (a0_1, 16, ji42, t236, t237, a0_5, a3, a0_12, a0_13, a0_0, a1)))) = some (r1, r2, r3, r4, r5, r6, r7, r8, r9, r10, r11) := H
  have A43 := Aside0.mk A430
  clear A430
  replace H := Option.bind_eq_some_iff.mp H
  obtain ⟨t236, A440, H⟩ := H
  replace H : ((foliotref17_inside.f t231 68719476736).bind fun t237 => (some (a0_1, 16, ji42, t236, t237, a0_5, a3, a0_12, a0_13, a0_0, a1))) = some (r1, r2, r3, r4, r5, r6, r7, r8, r9, r10, r11) := H
  have A44 := Aside0.mk A440
  clear A440
  replace H := Option.bind_eq_some_iff.mp H
  obtain ⟨t237, A450, H⟩ := H
  replace H : (some (a0_1, 16, ji42, t236, t237, a0_5, a3, a0_12, a0_13, a0_0, a1)) = some (r1, r2, r3, r4, r5, r6, r7, r8, r9, r10, r11) := H
  have A45 := Aside0.mk A450
  clear A450
  simp only [Option.some.injEq, Prod.mk.injEq] at H
  obtain ⟨rfl, rfl, rfl, rfl, rfl, rfl, rfl, rfl, rfl, rfl, rfl⟩ := H
  go_enter Try.func9, Try.ntmps9
  try go_wp2_with (first | ((with_reducible refine gate_dst (N := 4) rfl ?_); refine box_event ?hg (N := 4) ?hd (cs := #[.int .i64 a0_0, .int .i64 a0_1, .int .i64 a0_2, .int .i64 a0_3, .int .i64 a0_4, .int .u32 a0_5, .int .i64 a0_6, .int .i64 a0_7, .int .i64 a0_8, .int .i64 a0_9, .int .u64 a0_10, .bool a0_11, .int .i64 a0_12, .int .i64 a0_13]) (t := 42) ?hr ?_; (case hd => rfl); (case hg => rfl); (case hr => first | (go_simp; done) | (go_simp; rfl)); intro gb226 hg w46 hbox hb; have n0_ := Aside0.mk (below_step (by repeat (first | (with_reducible first | exact HB.out | apply below_alloc | apply pw_below_drewN | apply below_drew1) | exact HB.out)) hb); have n1_ := Aside0.mk (hbox); have n2_ := Aside0.mk ((by rw [hg]; exact (below_size (by repeat (first | (with_reducible first | exact HB.out | apply below_alloc | apply pw_below_drewN | apply below_drew1) | exact HB.out))) : w.heap.size ≤ gb226)); have n3_ := Aside0.mk ((by rw [hg]; exact (below_size (by repeat (first | (with_reducible first | exact HB.out | apply below_alloc | apply pw_below_drewN | apply below_drew1) | exact HB.out))) : w.heap.size ≤ gb226)); clear HB; have HB := n0_; have BK226 := n1_; have GW226 := n2_; have GE226 := n3_; clear n0_ n1_ n2_ n3_; clear hb hbox hg) | ((with_reducible refine gate_dst (N := 8) rfl ?_); refine box_event ?hg (N := 8) ?hd (cs := #[.int .i64 0, .int .i64 0, .int .i64 0, .int .i64 0, .int .i64 0, .int .u32 0, .int .u64 0, .int .i64 0, .int .i64 0, .int .i64 0, .int .i64 0]) (t := 28) ?hr ?_; (case hd => rfl); (case hg => rfl); (case hr => first | (go_simp; done) | (go_simp; rfl)); intro gb227 hg w47 hbox hb; have n0_ := Aside0.mk (blk_below (g := gb226) (o := .cells #[.int .i64 a0_0, .int .i64 a0_1, .int .i64 a0_2, .int .i64 a0_3, .int .i64 a0_4, .int .u32 a0_5, .int .i64 a0_6, .int .i64 a0_7, .int .i64 a0_8, .int .i64 a0_9, .int .u64 a0_10, .bool a0_11, .int .i64 a0_12, .int .i64 a0_13] 42 (0, 0)) (by (with_reducible repeat (first | refine blk_drewN ?_ _ | refine blk_drew ?_ | refine blk_alloc ?_ _)); exact BK226.out) hb); have n1_ := Aside0.mk (below_step (by repeat (first | (with_reducible first | exact HB.out | apply below_alloc | apply pw_below_drewN | apply below_drew1 | refine below_set ?_ GE226.out) | exact HB.out)) hb); have n2_ := Aside0.mk (hbox); have n3_ := Aside0.mk ((by rw [hg]; exact (below_size (by repeat (first | (with_reducible first | exact HB.out | apply below_alloc | apply pw_below_drewN | apply below_drew1 | refine below_set ?_ GE226.out) | exact HB.out))) : w.heap.size ≤ gb227)); have n4_ := Aside0.mk ((by rw [hg]; exact (below_size (by repeat (first | (with_reducible first | exact HB.out | apply below_alloc | apply pw_below_drewN | apply below_drew1 | refine below_set ?_ GE226.out) | exact HB.out))) : w.heap.size ≤ gb227)); have n5_ := Aside0.mk ((by rw [hg]; exact Nat.ne_of_lt (blk_lt (g := gb226) (o := .cells #[.int .i64 a0_0, .int .i64 a0_1, .int .i64 a0_2, .int .i64 a0_3, .int .i64 a0_4, .int .u32 a0_5, .int .i64 a0_6, .int .i64 a0_7, .int .i64 a0_8, .int .i64 a0_9, .int .u64 a0_10, .bool a0_11, .int .i64 a0_12, .int .i64 a0_13] 42 (0, 0)) (by (with_reducible repeat (first | refine blk_drewN ?_ _ | refine blk_drew ?_ | refine blk_alloc ?_ _)); exact BK226.out)) : gb226 ≠ gb227)); have n6_ := Aside0.mk ((by rw [hg]; exact Nat.ne_of_gt (blk_lt (g := gb226) (o := .cells #[.int .i64 a0_0, .int .i64 a0_1, .int .i64 a0_2, .int .i64 a0_3, .int .i64 a0_4, .int .u32 a0_5, .int .i64 a0_6, .int .i64 a0_7, .int .i64 a0_8, .int .i64 a0_9, .int .u64 a0_10, .bool a0_11, .int .i64 a0_12, .int .i64 a0_13] 42 (0, 0)) (by (with_reducible repeat (first | refine blk_drewN ?_ _ | refine blk_drew ?_ | refine blk_alloc ?_ _)); exact BK226.out)) : gb227 ≠ gb226)); clear BK226; clear HB; have BK226 := n0_; have HB := n1_; have BK227 := n2_; have GW227 := n3_; have GE227 := n4_; have NB226_227 := n5_; have NB227_226 := n6_; clear n0_ n1_ n2_ n3_ n4_ n5_ n6_; clear hb hbox hg))
  have n0_ := Aside0.mk (blk_drew BK226.out)
  have n1_ := Aside0.mk (blk_drew BK227.out)
  have n2_ := Aside0.mk (below_drew1 HB.out)
  clear BK226
  clear BK227
  clear HB
  have BK226 := n0_
  have BK227 := n1_
  have HB := n2_
  clear n0_ n1_ n2_
  refine start_ (n := 14) (S := fun w' => w'.cell? ⟨gb226, 0, none⟩ = some (.int .i64 a0_0) ∧ w'.cell? ⟨gb226, 1, none⟩ = some (.int .i64 a0_1) ∧ w'.cell? ⟨gb226, 2, none⟩ = some (.int .i64 a0_2) ∧ w'.cell? ⟨gb226, 3, none⟩ = some (.int .i64 a0_3) ∧ w'.cell? ⟨gb226, 4, none⟩ = some (.int .i64 a0_4) ∧ w'.cell? ⟨gb226, 5, none⟩ = some (.int .u32 a0_5) ∧ w'.cell? ⟨gb226, 6, none⟩ = some (.int .i64 a0_6) ∧ w'.cell? ⟨gb226, 7, none⟩ = some (.int .i64 a0_7) ∧ w'.cell? ⟨gb226, 8, none⟩ = some (.int .i64 a0_8) ∧ w'.cell? ⟨gb226, 9, none⟩ = some (.int .i64 a0_9) ∧ w'.cell? ⟨gb226, 10, none⟩ = some (.int .u64 a0_10) ∧ w'.cell? ⟨gb226, 11, none⟩ = some (.bool a0_11) ∧ w'.cell? ⟨gb226, 12, none⟩ = some (.int .i64 a0_12) ∧ w'.cell? ⟨gb226, 13, none⟩ = some (.int .i64 a0_13)) (ds := []) #[false, false, false, false, false, false, false, false, false, false, false, false, false, false] (by kernel_rfl) rfl rfl ⟨(blk_cell BK226.out 0).trans rfl, (blk_cell BK226.out 1).trans rfl, (blk_cell BK226.out 2).trans rfl, (blk_cell BK226.out 3).trans rfl, (blk_cell BK226.out 4).trans rfl, (blk_cell BK226.out 5).trans rfl, (blk_cell BK226.out 6).trans rfl, (blk_cell BK226.out 7).trans rfl, (blk_cell BK226.out 8).trans rfl, (blk_cell BK226.out 9).trans rfl, (blk_cell BK226.out 10).trans rfl, (blk_cell BK226.out 11).trans rfl, (blk_cell BK226.out 12).trans rfl, (blk_cell BK226.out 13).trans rfl⟩ (fun hHeld => ?_); refine with_tabW foliotref17_Follow.tab1 foliotref17_Follow.bits1 (fun HT_ HW_ => ?_)
  generalize w47.drew = w48 at BK226 BK227 HB hHeld ⊢
  refine pure_ (i := 0) (N := some 11) (v := ?_) (a' := ?_) #[true, false, false, false, false, false, false, false, false, false, false, false, false, false] rfl rfl (any_of HT_.out (by kernel_rfl)) (fun _ _ _ h => h) (Or.inl ⟨by rfl, ?_⟩) ?_ ?_
  rotate_left
  ·intro w'
   go_simp
   with_reducible rfl
  rotate_left
  ·simp only [Act.put, List.setIfInBounds_toArray, List.set_cons_zero, List.set_cons_succ, i64_w, i32_w]
   rfl
  refine pure_ (i := 2) (N := some 13) (v := ?_) (a' := ?_) #[true, false, true, false, false, false, false, false, false, false, false, false, false, false] rfl rfl (any_of HT_.out (by kernel_rfl)) (fun _ _ _ h => h) (Or.inl ⟨by rfl, ?_⟩) ?_ ?_
  rotate_left
  ·intro w'
   go_simp
   with_reducible rfl
  rotate_left
  ·simp only [Act.put, List.setIfInBounds_toArray, List.set_cons_zero, List.set_cons_succ, i64_w, i32_w]
   rfl
  refine pure_ (i := 3) (N := some 14) (v := ?_) (a' := ?_) #[true, false, true, true, false, false, false, false, false, false, false, false, false, false] rfl rfl (any_of HT_.out (by kernel_rfl)) (fun _ _ _ h => h) (Or.inl ⟨by rfl, ?_⟩) ?_ ?_
  rotate_left
  ·intro w'
   go_simp
   with_reducible rfl
  rotate_left
  ·simp only [Act.put, List.setIfInBounds_toArray, List.set_cons_zero, List.set_cons_succ, i64_w, i32_w]
   rfl
  refine pure_ (i := 6) (N := some 17) (v := ?_) (a' := ?_) #[true, false, true, true, false, false, true, false, false, false, false, false, false, false] rfl rfl (any_of HT_.out (by kernel_rfl)) (fun _ _ _ h => h) (Or.inl ⟨by rfl, ?_⟩) ?_ ?_
  rotate_left
  ·intro w'
   go_simp
   with_reducible rfl
  rotate_left
  ·simp only [Act.put, List.setIfInBounds_toArray, List.set_cons_zero, List.set_cons_succ, i64_w, i32_w]
   rfl
  refine pure_ (i := 10) (N := some 21) (v := ?_) (a' := ?_) #[true, false, true, true, false, false, true, false, false, false, true, false, false, false] rfl rfl (any_of HT_.out (by kernel_rfl)) (fun _ _ _ h => h) (Or.inl ⟨by rfl, ?_⟩) ?_ ?_
  rotate_left
  ·intro w'
   go_simp
   with_reducible rfl
  rotate_left
  ·simp only [Act.put, List.setIfInBounds_toArray, List.set_cons_zero, List.set_cons_succ, i64_w, i32_w]
   rfl
  refine take_ (i := 1) (N := some 12) (v := ?_) (a' := ?_) #[true, true, true, true, false, false, true, false, false, false, true, false, false, false] rfl rfl (take_ofW HT_.out HW_.out (by kernel_rfl)) (fun _ _ _ h => h) (Or.inl ⟨by rfl, ?_⟩) hHeld ?_ ?_
  rotate_left
  ·rintro w' ⟨s0, s1, s2, s3, s4, s5, s6, s7, s8, s9, s10, s11, s12, s13⟩
   go_simp
   with_reducible rfl
  rotate_left
  ·simp only [Act.put, List.setIfInBounds_toArray, List.set_cons_zero, List.set_cons_succ, i64_w, i32_w]
   rfl
  refine take_ (i := 4) (N := some 15) (v := ?_) (a' := ?_) #[true, true, true, true, true, false, true, false, false, false, true, false, false, false] rfl rfl (take_ofW HT_.out HW_.out (by kernel_rfl)) (fun _ _ _ h => h) (Or.inl ⟨by rfl, ?_⟩) hHeld ?_ ?_
  rotate_left
  ·rintro w' ⟨s0, s1, s2, s3, s4, s5, s6, s7, s8, s9, s10, s11, s12, s13⟩
   go_simp
   with_reducible rfl
  rotate_left
  ·simp only [Act.put, List.setIfInBounds_toArray, List.set_cons_zero, List.set_cons_succ, i64_w, i32_w]
   rfl
  refine take_ (i := 7) (N := some 18) (v := ?_) (a' := ?_) #[true, true, true, true, true, false, true, true, false, false, true, false, false, false] rfl rfl (take_ofW HT_.out HW_.out (by kernel_rfl)) (fun _ _ _ h => h) (Or.inl ⟨by rfl, ?_⟩) hHeld ?_ ?_
  rotate_left
  ·rintro w' ⟨s0, s1, s2, s3, s4, s5, s6, s7, s8, s9, s10, s11, s12, s13⟩
   go_simp
   with_reducible rfl
  rotate_left
  ·simp only [Act.put, List.setIfInBounds_toArray, List.set_cons_zero, List.set_cons_succ, i64_w, i32_w]
   rfl
  refine take_ (i := 11) (N := some 22) (v := ?_) (a' := ?_) #[true, true, true, true, true, false, true, true, false, false, true, true, false, false] rfl rfl (take_ofW HT_.out HW_.out (by kernel_rfl)) (fun _ _ _ h => h) (Or.inl ⟨by rfl, ?_⟩) hHeld ?_ ?_
  rotate_left
  ·rintro w' ⟨s0, s1, s2, s3, s4, s5, s6, s7, s8, s9, s10, s11, s12, s13⟩
   go_simp
   with_reducible rfl
  rotate_left
  ·simp only [Act.put, List.setIfInBounds_toArray, List.set_cons_zero, List.set_cons_succ, i64_w, i32_w]
   rfl
  refine one_ (i := 5) (N := some 16) #[true, true, true, true, true, true, true, true, false, false, true, true, false, false] rfl rfl (one_of HT_.out (by kernel_rfl)) (by decide) (fun K hK => ?_)
  refine goes_ Try.func29 (by kernel_rfl) rfl #[.int .i64 a0_4, .int .i64 a0_8] (by rfl) rfl rfl (by (try simp only [List.map_toArray, List.map_cons, List.map_nil]); first | done | rfl | (simp only [List.length_drop, List.length_take]; rfl)) ?_
  with_reducible refine (foliotref01_Add.calls k a0_4 a0_8 t228 _ A5.out).mono ?_
  rintro e w49 ⟨rfl, hb⟩
  refine ⟨_, rfl, ?_⟩
  have n0_ := Aside0.mk (blk_below (g := gb226) (o := .cells #[.int .i64 a0_0, .int .i64 a0_1, .int .i64 a0_2, .int .i64 a0_3, .int .i64 a0_4, .int .u32 a0_5, .int .i64 a0_6, .int .i64 a0_7, .int .i64 a0_8, .int .i64 a0_9, .int .u64 a0_10, .bool a0_11, .int .i64 a0_12, .int .i64 a0_13] 42 (0, 0)) (by (with_reducible repeat (first | refine blk_drewN ?_ _ | refine blk_drew ?_ | refine blk_alloc ?_ _)); exact BK226.out) hb)
  have n1_ := Aside0.mk (blk_below (g := gb227) (o := .cells #[.int .i64 0, .int .i64 0, .int .i64 0, .int .i64 0, .int .i64 0, .int .u32 0, .int .u64 0, .int .i64 0, .int .i64 0, .int .i64 0, .int .i64 0] 28 (0, 0)) (by (with_reducible repeat (first | refine blk_drewN ?_ _ | refine blk_drew ?_ | refine blk_alloc ?_ _)); exact BK227.out) hb)
  have n2_ := Aside0.mk (below_step (by repeat (first | (with_reducible first | exact HB.out | apply below_alloc | apply pw_below_drewN | apply below_drew1 | refine below_set ?_ GE226.out | refine below_set ?_ GE227.out) | exact HB.out)) hb)
  clear BK226
  clear BK227
  clear HB
  have BK226 := n0_
  have BK227 := n1_
  have HB := n2_
  clear n0_ n1_ n2_
  (try clear hb)
  (try clear hb2)
  (try clear hk)
  (try clear hi)
  refine hK.out _ _ ⟨(blk_cell BK226.out 0).trans rfl, (blk_cell BK226.out 1).trans rfl, (blk_cell BK226.out 2).trans rfl, (blk_cell BK226.out 3).trans rfl, (blk_cell BK226.out 4).trans rfl, (blk_cell BK226.out 5).trans rfl, (blk_cell BK226.out 6).trans rfl, (blk_cell BK226.out 7).trans rfl, (blk_cell BK226.out 8).trans rfl, (blk_cell BK226.out 9).trans rfl, (blk_cell BK226.out 10).trans rfl, (blk_cell BK226.out 11).trans rfl, (blk_cell BK226.out 12).trans rfl, (blk_cell BK226.out 13).trans rfl⟩ (fun hHeld => ?_)
  clear hK K
  refine norm_ (a' := ?_) ?_ ?_
  rotate_left
  ·show Act.put _ (some 16) _ = _
   simp only [Act.put, List.setIfInBounds_toArray, List.set_cons_zero, List.set_cons_succ, i64_w, i32_w]
   rfl
  refine one_ (i := 8) (N := some 19) #[true, true, true, true, true, true, true, true, true, false, true, true, false, false] rfl rfl (one_of HT_.out (by kernel_rfl)) (by decide) (fun K hK => ?_)
  refine goes_ Try.func30 (by kernel_rfl) rfl #[.int .i64 a0_12] (by rfl) rfl rfl (by (try simp only [List.map_toArray, List.map_cons, List.map_nil]); first | done | rfl | (simp only [List.length_drop, List.length_take]; rfl)) ?_
  with_reducible refine (foliotref01_Abs.calls k a0_12 t229 _ A6.out).mono ?_
  rintro e w50 ⟨rfl, hb⟩
  refine ⟨_, rfl, ?_⟩
  have n0_ := Aside0.mk (blk_below (g := gb226) (o := .cells #[.int .i64 a0_0, .int .i64 a0_1, .int .i64 a0_2, .int .i64 a0_3, .int .i64 a0_4, .int .u32 a0_5, .int .i64 a0_6, .int .i64 a0_7, .int .i64 a0_8, .int .i64 a0_9, .int .u64 a0_10, .bool a0_11, .int .i64 a0_12, .int .i64 a0_13] 42 (0, 0)) (by (with_reducible repeat (first | refine blk_drewN ?_ _ | refine blk_drew ?_ | refine blk_alloc ?_ _)); exact BK226.out) hb)
  have n1_ := Aside0.mk (blk_below (g := gb227) (o := .cells #[.int .i64 0, .int .i64 0, .int .i64 0, .int .i64 0, .int .i64 0, .int .u32 0, .int .u64 0, .int .i64 0, .int .i64 0, .int .i64 0, .int .i64 0] 28 (0, 0)) (by (with_reducible repeat (first | refine blk_drewN ?_ _ | refine blk_drew ?_ | refine blk_alloc ?_ _)); exact BK227.out) hb)
  have n2_ := Aside0.mk (below_step (by repeat (first | (with_reducible first | exact HB.out | apply below_alloc | apply pw_below_drewN | apply below_drew1 | refine below_set ?_ GE226.out | refine below_set ?_ GE227.out) | exact HB.out)) hb)
  clear BK226
  clear BK227
  clear HB
  have BK226 := n0_
  have BK227 := n1_
  have HB := n2_
  clear n0_ n1_ n2_
  (try clear hb)
  (try clear hb2)
  (try clear hk)
  (try clear hi)
  refine hK.out _ _ ⟨(blk_cell BK226.out 0).trans rfl, (blk_cell BK226.out 1).trans rfl, (blk_cell BK226.out 2).trans rfl, (blk_cell BK226.out 3).trans rfl, (blk_cell BK226.out 4).trans rfl, (blk_cell BK226.out 5).trans rfl, (blk_cell BK226.out 6).trans rfl, (blk_cell BK226.out 7).trans rfl, (blk_cell BK226.out 8).trans rfl, (blk_cell BK226.out 9).trans rfl, (blk_cell BK226.out 10).trans rfl, (blk_cell BK226.out 11).trans rfl, (blk_cell BK226.out 12).trans rfl, (blk_cell BK226.out 13).trans rfl⟩ (fun hHeld => ?_)
  clear hK K
  refine norm_ (a' := ?_) ?_ ?_
  rotate_left
  ·show Act.put _ (some 19) _ = _
   simp only [Act.put, List.setIfInBounds_toArray, List.set_cons_zero, List.set_cons_succ, i64_w, i32_w]
   rfl
  refine one_ (i := 9) (N := some 20) #[true, true, true, true, true, true, true, true, true, true, true, true, false, false] rfl rfl (one_of HT_.out (by kernel_rfl)) (by decide) (fun K hK => ?_)
  refine goes_ Try.func29 (by kernel_rfl) rfl #[.int .i64 t228, .int .i64 t229] (by rfl) rfl rfl (by (try simp only [List.map_toArray, List.map_cons, List.map_nil]); first | done | rfl | (simp only [List.length_drop, List.length_take]; rfl)) ?_
  with_reducible refine (foliotref01_Add.calls k t228 t229 t230 _ A7.out).mono ?_
  rintro e w51 ⟨rfl, hb⟩
  refine ⟨_, rfl, ?_⟩
  have n0_ := Aside0.mk (blk_below (g := gb226) (o := .cells #[.int .i64 a0_0, .int .i64 a0_1, .int .i64 a0_2, .int .i64 a0_3, .int .i64 a0_4, .int .u32 a0_5, .int .i64 a0_6, .int .i64 a0_7, .int .i64 a0_8, .int .i64 a0_9, .int .u64 a0_10, .bool a0_11, .int .i64 a0_12, .int .i64 a0_13] 42 (0, 0)) (by (with_reducible repeat (first | refine blk_drewN ?_ _ | refine blk_drew ?_ | refine blk_alloc ?_ _)); exact BK226.out) hb)
  have n1_ := Aside0.mk (blk_below (g := gb227) (o := .cells #[.int .i64 0, .int .i64 0, .int .i64 0, .int .i64 0, .int .i64 0, .int .u32 0, .int .u64 0, .int .i64 0, .int .i64 0, .int .i64 0, .int .i64 0] 28 (0, 0)) (by (with_reducible repeat (first | refine blk_drewN ?_ _ | refine blk_drew ?_ | refine blk_alloc ?_ _)); exact BK227.out) hb)
  have n2_ := Aside0.mk (below_step (by repeat (first | (with_reducible first | exact HB.out | apply below_alloc | apply pw_below_drewN | apply below_drew1 | refine below_set ?_ GE226.out | refine below_set ?_ GE227.out) | exact HB.out)) hb)
  clear BK226
  clear BK227
  clear HB
  have BK226 := n0_
  have BK227 := n1_
  have HB := n2_
  clear n0_ n1_ n2_
  (try clear hb)
  (try clear hb2)
  (try clear hk)
  (try clear hi)
  refine hK.out _ _ ⟨(blk_cell BK226.out 0).trans rfl, (blk_cell BK226.out 1).trans rfl, (blk_cell BK226.out 2).trans rfl, (blk_cell BK226.out 3).trans rfl, (blk_cell BK226.out 4).trans rfl, (blk_cell BK226.out 5).trans rfl, (blk_cell BK226.out 6).trans rfl, (blk_cell BK226.out 7).trans rfl, (blk_cell BK226.out 8).trans rfl, (blk_cell BK226.out 9).trans rfl, (blk_cell BK226.out 10).trans rfl, (blk_cell BK226.out 11).trans rfl, (blk_cell BK226.out 12).trans rfl, (blk_cell BK226.out 13).trans rfl⟩ (fun hHeld => ?_)
  clear hK K
  refine norm_ (a' := ?_) ?_ ?_
  rotate_left
  ·show Act.put _ (some 20) _ = _
   simp only [Act.put, List.setIfInBounds_toArray, List.set_cons_zero, List.set_cons_succ, i64_w, i32_w]
   rfl
  refine one_ (i := 12) (N := some 23) #[true, true, true, true, true, true, true, true, true, true, true, true, true, false] rfl rfl (one_of HT_.out (by kernel_rfl)) (by decide) (fun K hK => ?_)
  refine goes_ Try.func29 (by kernel_rfl) rfl #[.int .i64 t230, .int .i64 a0_13] (by rfl) rfl rfl (by (try simp only [List.map_toArray, List.map_cons, List.map_nil]); first | done | rfl | (simp only [List.length_drop, List.length_take]; rfl)) ?_
  with_reducible refine (foliotref01_Add.calls k t230 a0_13 t231 _ A8.out).mono ?_
  rintro e w52 ⟨rfl, hb⟩
  refine ⟨_, rfl, ?_⟩
  have n0_ := Aside0.mk (blk_below (g := gb226) (o := .cells #[.int .i64 a0_0, .int .i64 a0_1, .int .i64 a0_2, .int .i64 a0_3, .int .i64 a0_4, .int .u32 a0_5, .int .i64 a0_6, .int .i64 a0_7, .int .i64 a0_8, .int .i64 a0_9, .int .u64 a0_10, .bool a0_11, .int .i64 a0_12, .int .i64 a0_13] 42 (0, 0)) (by (with_reducible repeat (first | refine blk_drewN ?_ _ | refine blk_drew ?_ | refine blk_alloc ?_ _)); exact BK226.out) hb)
  have n1_ := Aside0.mk (blk_below (g := gb227) (o := .cells #[.int .i64 0, .int .i64 0, .int .i64 0, .int .i64 0, .int .i64 0, .int .u32 0, .int .u64 0, .int .i64 0, .int .i64 0, .int .i64 0, .int .i64 0] 28 (0, 0)) (by (with_reducible repeat (first | refine blk_drewN ?_ _ | refine blk_drew ?_ | refine blk_alloc ?_ _)); exact BK227.out) hb)
  have n2_ := Aside0.mk (below_step (by repeat (first | (with_reducible first | exact HB.out | apply below_alloc | apply pw_below_drewN | apply below_drew1 | refine below_set ?_ GE226.out | refine below_set ?_ GE227.out) | exact HB.out)) hb)
  clear BK226
  clear BK227
  clear HB
  have BK226 := n0_
  have BK227 := n1_
  have HB := n2_
  clear n0_ n1_ n2_
  (try clear hb)
  (try clear hb2)
  (try clear hk)
  (try clear hi)
  refine hK.out _ _ ⟨(blk_cell BK226.out 0).trans rfl, (blk_cell BK226.out 1).trans rfl, (blk_cell BK226.out 2).trans rfl, (blk_cell BK226.out 3).trans rfl, (blk_cell BK226.out 4).trans rfl, (blk_cell BK226.out 5).trans rfl, (blk_cell BK226.out 6).trans rfl, (blk_cell BK226.out 7).trans rfl, (blk_cell BK226.out 8).trans rfl, (blk_cell BK226.out 9).trans rfl, (blk_cell BK226.out 10).trans rfl, (blk_cell BK226.out 11).trans rfl, (blk_cell BK226.out 12).trans rfl, (blk_cell BK226.out 13).trans rfl⟩ (fun hHeld => ?_)
  clear hK K
  refine norm_ (a' := ?_) ?_ ?_
  rotate_left
  ·show Act.put _ (some 23) _ = _
   simp only [Act.put, List.setIfInBounds_toArray, List.set_cons_zero, List.set_cons_succ, i64_w, i32_w]
   rfl
  refine pure_ (i := 13) (N := some 9) (v := ?_) (a' := ?_) #[true, true, true, true, true, true, true, true, true, true, true, true, true, true] rfl rfl (any_of HT_.out (by kernel_rfl)) (fun _ _ _ h => h) (Or.inl ⟨by rfl, ?_⟩) ?_ ?_
  rotate_left
  ·intro w'
   go_simp
   with_reducible rfl
  rotate_left
  ·simp only [Act.put, List.setIfInBounds_toArray, List.set_cons_zero, List.set_cons_succ, i64_w, i32_w]
   rfl
  refine done_ (done_of HT_.out (by kernel_rfl)) ?_
  have hnb53 := NB226_227.out
  have hnc53 := NB227_226.out
  have hcz54_0 : w52.cell? ⟨gb226, 0, none⟩ = some (.int .i64 a0_0) := (blk_cell BK226.out 0).trans rfl
  have hcz54_1 : w52.cell? ⟨gb226, 1, none⟩ = some (.int .i64 a0_1) := (blk_cell BK226.out 1).trans rfl
  have hcz54_2 : w52.cell? ⟨gb226, 2, none⟩ = some (.int .i64 a0_2) := (blk_cell BK226.out 2).trans rfl
  have hcz54_3 : w52.cell? ⟨gb226, 3, none⟩ = some (.int .i64 a0_3) := (blk_cell BK226.out 3).trans rfl
  have hcz54_4 : w52.cell? ⟨gb226, 4, none⟩ = some (.int .i64 a0_4) := (blk_cell BK226.out 4).trans rfl
  have hcz54_5 : w52.cell? ⟨gb226, 5, none⟩ = some (.int .u32 a0_5) := (blk_cell BK226.out 5).trans rfl
  have hcz54_6 : w52.cell? ⟨gb226, 6, none⟩ = some (.int .i64 a0_6) := (blk_cell BK226.out 6).trans rfl
  have hcz54_7 : w52.cell? ⟨gb226, 7, none⟩ = some (.int .i64 a0_7) := (blk_cell BK226.out 7).trans rfl
  have hcz54_8 : w52.cell? ⟨gb226, 8, none⟩ = some (.int .i64 a0_8) := (blk_cell BK226.out 8).trans rfl
  have hcz54_9 : w52.cell? ⟨gb226, 9, none⟩ = some (.int .i64 a0_9) := (blk_cell BK226.out 9).trans rfl
  have hcz54_10 : w52.cell? ⟨gb226, 10, none⟩ = some (.int .u64 a0_10) := (blk_cell BK226.out 10).trans rfl
  have hcz54_11 : w52.cell? ⟨gb226, 11, none⟩ = some (.bool a0_11) := (blk_cell BK226.out 11).trans rfl
  have hcz54_12 : w52.cell? ⟨gb226, 12, none⟩ = some (.int .i64 a0_12) := (blk_cell BK226.out 12).trans rfl
  have hcz54_13 : w52.cell? ⟨gb226, 13, none⟩ = some (.int .i64 a0_13) := (blk_cell BK226.out 13).trans rfl
  have hfz54_0 := blk_frozen BK226.out 0
  have hfz54_1 := blk_frozen BK226.out 1
  have hfz54_2 := blk_frozen BK226.out 2
  have hfz54_3 := blk_frozen BK226.out 3
  have hfz54_4 := blk_frozen BK226.out 4
  have hfz54_5 := blk_frozen BK226.out 5
  have hfz54_6 := blk_frozen BK226.out 6
  have hfz54_7 := blk_frozen BK226.out 7
  have hfz54_8 := blk_frozen BK226.out 8
  have hfz54_9 := blk_frozen BK226.out 9
  have hfz54_10 := blk_frozen BK226.out 10
  have hfz54_11 := blk_frozen BK226.out 11
  have hfz54_12 := blk_frozen BK226.out 12
  have hfz54_13 := blk_frozen BK226.out 13
  try go_wp2
  have n0_ := Aside0.mk (blk_drew BK226.out)
  have n1_ := Aside0.mk (blk_drew BK227.out)
  have n2_ := Aside0.mk (below_drew1 HB.out)
  clear BK226
  clear BK227
  clear HB
  have BK226 := n0_
  have BK227 := n1_
  have HB := n2_
  clear n0_ n1_ n2_
  refine start_ (n := 27) (S := fun w' => w'.cell? ⟨gb226, 0, none⟩ = some (.int .i64 a0_0) ∧ w'.cell? ⟨gb226, 1, none⟩ = some (.int .i64 a0_1) ∧ w'.cell? ⟨gb226, 2, none⟩ = some (.int .i64 a0_2) ∧ w'.cell? ⟨gb226, 3, none⟩ = some (.int .i64 a0_3) ∧ w'.cell? ⟨gb226, 4, none⟩ = some (.int .i64 a0_4) ∧ w'.cell? ⟨gb226, 5, none⟩ = some (.int .u32 a0_5) ∧ w'.cell? ⟨gb226, 6, none⟩ = some (.int .i64 a0_6) ∧ w'.cell? ⟨gb226, 7, none⟩ = some (.int .i64 a0_7) ∧ w'.cell? ⟨gb226, 8, none⟩ = some (.int .i64 a0_8) ∧ w'.cell? ⟨gb226, 9, none⟩ = some (.int .i64 a0_9) ∧ w'.cell? ⟨gb226, 10, none⟩ = some (.int .u64 a0_10) ∧ w'.cell? ⟨gb226, 11, none⟩ = some (.bool a0_11) ∧ w'.cell? ⟨gb226, 12, none⟩ = some (.int .i64 a0_12) ∧ w'.cell? ⟨gb226, 13, none⟩ = some (.int .i64 a0_13)) (ds := []) #[false, false, false, false, false, false, false, false, false, false, false, false, false, false, false, false, false, false, false, false, false, false, false, false, false, false, false] (by kernel_rfl) rfl rfl ⟨(blk_cell BK226.out 0).trans rfl, (blk_cell BK226.out 1).trans rfl, (blk_cell BK226.out 2).trans rfl, (blk_cell BK226.out 3).trans rfl, (blk_cell BK226.out 4).trans rfl, (blk_cell BK226.out 5).trans rfl, (blk_cell BK226.out 6).trans rfl, (blk_cell BK226.out 7).trans rfl, (blk_cell BK226.out 8).trans rfl, (blk_cell BK226.out 9).trans rfl, (blk_cell BK226.out 10).trans rfl, (blk_cell BK226.out 11).trans rfl, (blk_cell BK226.out 12).trans rfl, (blk_cell BK226.out 13).trans rfl⟩ (fun hHeld => ?_); refine with_tabW foliotref17_Follow.tab5 foliotref17_Follow.bits5 (fun HT_ HW_ => ?_)
  generalize w52.drew = w55 at BK226 BK227 HB hHeld ⊢
  refine pure_ (i := 0) (N := some 32) (v := ?_) (a' := ?_) #[true, false, false, false, false, false, false, false, false, false, false, false, false, false, false, false, false, false, false, false, false, false, false, false, false, false, false] rfl rfl (any_of HT_.out (by kernel_rfl)) (fun _ _ _ h => h) (Or.inl ⟨by rfl, ?_⟩) ?_ ?_
  rotate_left
  ·intro w'
   go_simp
   with_reducible rfl
  rotate_left
  ·simp only [Act.put, List.setIfInBounds_toArray, List.set_cons_zero, List.set_cons_succ, i64_w, i32_w]
   rfl
  refine pure_ (i := 2) (N := some 34) (v := ?_) (a' := ?_) #[true, false, true, false, false, false, false, false, false, false, false, false, false, false, false, false, false, false, false, false, false, false, false, false, false, false, false] rfl rfl (any_of HT_.out (by kernel_rfl)) (fun _ _ _ h => h) (Or.inl ⟨by rfl, ?_⟩) ?_ ?_
  rotate_left
  ·intro w'
   go_simp
   with_reducible rfl
  rotate_left
  ·simp only [Act.put, List.setIfInBounds_toArray, List.set_cons_zero, List.set_cons_succ, i64_w, i32_w]
   rfl
  refine pure_ (i := 3) (N := some 35) (v := ?_) (a' := ?_) #[true, false, true, true, false, false, false, false, false, false, false, false, false, false, false, false, false, false, false, false, false, false, false, false, false, false, false] rfl rfl (any_of HT_.out (by kernel_rfl)) (fun _ _ _ h => h) (Or.inl ⟨by rfl, ?_⟩) ?_ ?_
  rotate_left
  ·intro w'
   go_simp
   with_reducible rfl
  rotate_left
  ·simp only [Act.put, List.setIfInBounds_toArray, List.set_cons_zero, List.set_cons_succ, i64_w, i32_w]
   rfl
  refine pure_ (i := 4) (N := some 36) (v := ?_) (a' := ?_) #[true, false, true, true, true, false, false, false, false, false, false, false, false, false, false, false, false, false, false, false, false, false, false, false, false, false, false] rfl rfl (any_of HT_.out (by kernel_rfl)) (fun _ _ _ h => h) (Or.inl ⟨by rfl, ?_⟩) ?_ ?_
  rotate_left
  ·intro w'
   go_simp
   with_reducible rfl
  rotate_left
  ·simp only [Act.put, List.setIfInBounds_toArray, List.set_cons_zero, List.set_cons_succ, i64_w, i32_w]
   rfl
  refine pure_ (i := 5) (N := some 37) (v := ?_) (a' := ?_) #[true, false, true, true, true, true, false, false, false, false, false, false, false, false, false, false, false, false, false, false, false, false, false, false, false, false, false] rfl rfl (any_of HT_.out (by kernel_rfl)) (fun _ _ _ h => h) (Or.inl ⟨by rfl, ?_⟩) ?_ ?_
  rotate_left
  ·intro w'
   go_simp
   with_reducible rfl
  rotate_left
  ·simp only [Act.put, List.setIfInBounds_toArray, List.set_cons_zero, List.set_cons_succ, i64_w, i32_w]
   rfl
  refine pure_ (i := 6) (N := some 38) (v := ?_) (a' := ?_) #[true, false, true, true, true, true, true, false, false, false, false, false, false, false, false, false, false, false, false, false, false, false, false, false, false, false, false] rfl rfl (any_of HT_.out (by kernel_rfl)) (fun _ _ _ h => h) (Or.inl ⟨by rfl, ?_⟩) ?_ ?_
  rotate_left
  ·intro w'
   go_simp
   with_reducible rfl
  rotate_left
  ·simp only [Act.put, List.setIfInBounds_toArray, List.set_cons_zero, List.set_cons_succ, i64_w, i32_w]
   rfl
  refine pure_ (i := 8) (N := some 40) (v := ?_) (a' := ?_) #[true, false, true, true, true, true, true, false, true, false, false, false, false, false, false, false, false, false, false, false, false, false, false, false, false, false, false] rfl rfl (any_of HT_.out (by kernel_rfl)) (fun _ _ _ h => h) (Or.inl ⟨by rfl, ?_⟩) ?_ ?_
  rotate_left
  ·intro w'
   go_simp
   with_reducible rfl
  rotate_left
  ·simp only [Act.put, List.setIfInBounds_toArray, List.set_cons_zero, List.set_cons_succ, i64_w, i32_w]
   rfl
  refine pure_ (i := 9) (N := some 41) (v := ?_) (a' := ?_) #[true, false, true, true, true, true, true, false, true, true, false, false, false, false, false, false, false, false, false, false, false, false, false, false, false, false, false] rfl rfl (any_of HT_.out (by kernel_rfl)) (fun _ _ _ h => h) (Or.inl ⟨by rfl, ?_⟩) ?_ ?_
  rotate_left
  ·intro w'
   go_simp
   with_reducible rfl
  rotate_left
  ·simp only [Act.put, List.setIfInBounds_toArray, List.set_cons_zero, List.set_cons_succ, i64_w, i32_w]
   rfl
  refine pure_ (i := 13) (N := some 45) (v := ?_) (a' := ?_) #[true, false, true, true, true, true, true, false, true, true, false, false, false, true, false, false, false, false, false, false, false, false, false, false, false, false, false] rfl rfl (any_of HT_.out (by kernel_rfl)) (fun _ _ _ h => h) (Or.inl ⟨by rfl, ?_⟩) ?_ ?_
  rotate_left
  ·intro w'
   go_simp
   with_reducible rfl
  rotate_left
  ·simp only [Act.put, List.setIfInBounds_toArray, List.set_cons_zero, List.set_cons_succ, i64_w, i32_w]
   rfl
  refine pure_ (i := 15) (N := some 47) (v := ?_) (a' := ?_) #[true, false, true, true, true, true, true, false, true, true, false, false, false, true, false, true, false, false, false, false, false, false, false, false, false, false, false] rfl rfl (any_of HT_.out (by kernel_rfl)) (fun _ _ _ h => h) (Or.inl ⟨by rfl, ?_⟩) ?_ ?_
  rotate_left
  ·intro w'
   go_simp
   with_reducible rfl
  rotate_left
  ·simp only [Act.put, List.setIfInBounds_toArray, List.set_cons_zero, List.set_cons_succ, i64_w, i32_w]
   rfl
  refine pure_ (i := 17) (N := some 49) (v := ?_) (a' := ?_) #[true, false, true, true, true, true, true, false, true, true, false, false, false, true, false, true, false, true, false, false, false, false, false, false, false, false, false] rfl rfl (any_of HT_.out (by kernel_rfl)) (fun _ _ _ h => h) (Or.inl ⟨by rfl, ?_⟩) ?_ ?_
  rotate_left
  ·intro w'
   go_simp
   with_reducible rfl
  rotate_left
  ·simp only [Act.put, List.setIfInBounds_toArray, List.set_cons_zero, List.set_cons_succ, i64_w, i32_w]
   rfl
  refine pure_ (i := 19) (N := some 51) (v := ?_) (a' := ?_) #[true, false, true, true, true, true, true, false, true, true, false, false, false, true, false, true, false, true, false, true, false, false, false, false, false, false, false] rfl rfl (any_of HT_.out (by kernel_rfl)) (fun _ _ _ h => h) (Or.inl ⟨by rfl, ?_⟩) ?_ ?_
  rotate_left
  ·intro w'
   go_simp
   with_reducible rfl
  rotate_left
  ·simp only [Act.put, List.setIfInBounds_toArray, List.set_cons_zero, List.set_cons_succ, i64_w, i32_w]
   rfl
  refine pure_ (i := 21) (N := some 53) (v := ?_) (a' := ?_) #[true, false, true, true, true, true, true, false, true, true, false, false, false, true, false, true, false, true, false, true, false, true, false, false, false, false, false] rfl rfl (any_of HT_.out (by kernel_rfl)) (fun _ _ _ h => h) (Or.inl ⟨by rfl, ?_⟩) ?_ ?_
  rotate_left
  ·intro w'
   go_simp
   with_reducible rfl
  rotate_left
  ·simp only [Act.put, List.setIfInBounds_toArray, List.set_cons_zero, List.set_cons_succ, i64_w, i32_w]
   rfl
  refine pure_ (i := 23) (N := some 55) (v := ?_) (a' := ?_) #[true, false, true, true, true, true, true, false, true, true, false, false, false, true, false, true, false, true, false, true, false, true, false, true, false, false, false] rfl rfl (any_of HT_.out (by kernel_rfl)) (fun _ _ _ h => h) (Or.inl ⟨by rfl, ?_⟩) ?_ ?_
  rotate_left
  ·intro w'
   go_simp
   with_reducible rfl
  rotate_left
  ·simp only [Act.put, List.setIfInBounds_toArray, List.set_cons_zero, List.set_cons_succ, i64_w, i32_w]
   rfl
  refine pure_ (i := 24) (N := some 56) (v := ?_) (a' := ?_) #[true, false, true, true, true, true, true, false, true, true, false, false, false, true, false, true, false, true, false, true, false, true, false, true, true, false, false] rfl rfl (any_of HT_.out (by kernel_rfl)) (fun _ _ _ h => h) (Or.inl ⟨by rfl, ?_⟩) ?_ ?_
  rotate_left
  ·intro w'
   go_simp
   with_reducible rfl
  rotate_left
  ·simp only [Act.put, List.setIfInBounds_toArray, List.set_cons_zero, List.set_cons_succ, i64_w, i32_w]
   rfl
  refine take_ (i := 1) (N := some 33) (v := ?_) (a' := ?_) #[true, true, true, true, true, true, true, false, true, true, false, false, false, true, false, true, false, true, false, true, false, true, false, true, true, false, false] rfl rfl (take_ofW HT_.out HW_.out (by kernel_rfl)) (fun _ _ _ h => h) (Or.inl ⟨by rfl, ?_⟩) hHeld ?_ ?_
  rotate_left
  ·rintro w' ⟨s0, s1, s2, s3, s4, s5, s6, s7, s8, s9, s10, s11, s12, s13⟩
   go_simp
   with_reducible rfl
  rotate_left
  ·simp only [Act.put, List.setIfInBounds_toArray, List.set_cons_zero, List.set_cons_succ, i64_w, i32_w]
   rfl
  refine take_ (i := 7) (N := some 39) (v := ?_) (a' := ?_) #[true, true, true, true, true, true, true, true, true, true, false, false, false, true, false, true, false, true, false, true, false, true, false, true, true, false, false] rfl rfl (take_ofW HT_.out HW_.out (by kernel_rfl)) (fun _ _ _ h => h) (Or.inl ⟨by rfl, ?_⟩) hHeld ?_ ?_
  rotate_left
  ·rintro w' ⟨s0, s1, s2, s3, s4, s5, s6, s7, s8, s9, s10, s11, s12, s13⟩
   go_simp
   with_reducible rfl
  rotate_left
  ·simp only [Act.put, List.setIfInBounds_toArray, List.set_cons_zero, List.set_cons_succ, i64_w, i32_w]
   rfl
  refine take_ (i := 10) (N := some 42) (v := ?_) (a' := ?_) #[true, true, true, true, true, true, true, true, true, true, true, false, false, true, false, true, false, true, false, true, false, true, false, true, true, false, false] rfl rfl (take_ofW HT_.out HW_.out (by kernel_rfl)) (fun _ _ _ h => h) (Or.inl ⟨by rfl, ?_⟩) hHeld ?_ ?_
  rotate_left
  ·rintro w' ⟨s0, s1, s2, s3, s4, s5, s6, s7, s8, s9, s10, s11, s12, s13⟩
   go_simp
   with_reducible rfl
  rotate_left
  ·simp only [Act.put, List.setIfInBounds_toArray, List.set_cons_zero, List.set_cons_succ, i64_w, i32_w]
   rfl
  refine take_ (i := 16) (N := some 48) (v := ?_) (a' := ?_) #[true, true, true, true, true, true, true, true, true, true, true, false, false, true, false, true, true, true, false, true, false, true, false, true, true, false, false] rfl rfl (take_ofW HT_.out HW_.out (by kernel_rfl)) (fun _ _ _ h => h) (Or.inl ⟨by rfl, ?_⟩) hHeld ?_ ?_
  rotate_left
  ·rintro w' ⟨s0, s1, s2, s3, s4, s5, s6, s7, s8, s9, s10, s11, s12, s13⟩
   go_simp
   with_reducible rfl
  rotate_left
  ·simp only [Act.put, List.setIfInBounds_toArray, List.set_cons_zero, List.set_cons_succ, i64_w, i32_w]
   rfl
  refine take_ (i := 18) (N := some 50) (v := ?_) (a' := ?_) #[true, true, true, true, true, true, true, true, true, true, true, false, false, true, false, true, true, true, true, true, false, true, false, true, true, false, false] rfl rfl (take_ofW HT_.out HW_.out (by kernel_rfl)) (fun _ _ _ h => h) (Or.inl ⟨by rfl, ?_⟩) hHeld ?_ ?_
  rotate_left
  ·rintro w' ⟨s0, s1, s2, s3, s4, s5, s6, s7, s8, s9, s10, s11, s12, s13⟩
   go_simp
   with_reducible rfl
  rotate_left
  ·simp only [Act.put, List.setIfInBounds_toArray, List.set_cons_zero, List.set_cons_succ, i64_w, i32_w]
   rfl
  refine take_ (i := 20) (N := some 52) (v := ?_) (a' := ?_) #[true, true, true, true, true, true, true, true, true, true, true, false, false, true, false, true, true, true, true, true, true, true, false, true, true, false, false] rfl rfl (take_ofW HT_.out HW_.out (by kernel_rfl)) (fun _ _ _ h => h) (Or.inl ⟨by rfl, ?_⟩) hHeld ?_ ?_
  rotate_left
  ·rintro w' ⟨s0, s1, s2, s3, s4, s5, s6, s7, s8, s9, s10, s11, s12, s13⟩
   go_simp
   with_reducible rfl
  rotate_left
  ·simp only [Act.put, List.setIfInBounds_toArray, List.set_cons_zero, List.set_cons_succ, i64_w, i32_w]
   rfl
  refine take_ (i := 22) (N := some 54) (v := ?_) (a' := ?_) #[true, true, true, true, true, true, true, true, true, true, true, false, false, true, false, true, true, true, true, true, true, true, true, true, true, false, false] rfl rfl (take_ofW HT_.out HW_.out (by kernel_rfl)) (fun _ _ _ h => h) (Or.inl ⟨by rfl, ?_⟩) hHeld ?_ ?_
  rotate_left
  ·rintro w' ⟨s0, s1, s2, s3, s4, s5, s6, s7, s8, s9, s10, s11, s12, s13⟩
   go_simp
   with_reducible rfl
  rotate_left
  ·simp only [Act.put, List.setIfInBounds_toArray, List.set_cons_zero, List.set_cons_succ, i64_w, i32_w]
   rfl
  refine one_ (i := 11) (N := some 43) #[true, true, true, true, true, true, true, true, true, true, true, true, false, true, false, true, true, true, true, true, true, true, true, true, true, false, false] rfl rfl (one_of HT_.out (by kernel_rfl)) (by decide) (fun K hK => ?_)
  refine goes_ Try.func29 (by kernel_rfl) rfl #[.int .i64 a0_3, .int .i64 a0_7] (by rfl) rfl rfl (by (try simp only [List.map_toArray, List.map_cons, List.map_nil]); first | done | rfl | (simp only [List.length_drop, List.length_take]; rfl)) ?_
  with_reducible refine (foliotref01_Add.calls k a0_3 a0_7 t235 _ A43.out).mono ?_
  rintro e w56 ⟨rfl, hb⟩
  refine ⟨_, rfl, ?_⟩
  have n0_ := Aside0.mk (blk_below (g := gb226) (o := .cells #[.int .i64 a0_0, .int .i64 a0_1, .int .i64 a0_2, .int .i64 a0_3, .int .i64 a0_4, .int .u32 a0_5, .int .i64 a0_6, .int .i64 a0_7, .int .i64 a0_8, .int .i64 a0_9, .int .u64 a0_10, .bool a0_11, .int .i64 a0_12, .int .i64 a0_13] 42 (0, 0)) (by (with_reducible repeat (first | refine blk_drewN ?_ _ | refine blk_drew ?_ | refine blk_alloc ?_ _)); exact BK226.out) hb)
  have n1_ := Aside0.mk (blk_below (g := gb227) (o := .cells #[.int .i64 0, .int .i64 0, .int .i64 0, .int .i64 0, .int .i64 0, .int .u32 0, .int .u64 0, .int .i64 0, .int .i64 0, .int .i64 0, .int .i64 0] 28 (0, 0)) (by (with_reducible repeat (first | refine blk_drewN ?_ _ | refine blk_drew ?_ | refine blk_alloc ?_ _)); exact BK227.out) hb)
  have n2_ := Aside0.mk (below_step (by repeat (first | (with_reducible first | exact HB.out | apply below_alloc | apply pw_below_drewN | apply below_drew1 | refine below_set ?_ GE226.out | refine below_set ?_ GE227.out) | exact HB.out)) hb)
  clear BK226
  clear BK227
  clear HB
  have BK226 := n0_
  have BK227 := n1_
  have HB := n2_
  clear n0_ n1_ n2_
  (try clear hb)
  (try clear hb2)
  (try clear hk)
  (try clear hi)
  refine hK.out _ _ ⟨(blk_cell BK226.out 0).trans rfl, (blk_cell BK226.out 1).trans rfl, (blk_cell BK226.out 2).trans rfl, (blk_cell BK226.out 3).trans rfl, (blk_cell BK226.out 4).trans rfl, (blk_cell BK226.out 5).trans rfl, (blk_cell BK226.out 6).trans rfl, (blk_cell BK226.out 7).trans rfl, (blk_cell BK226.out 8).trans rfl, (blk_cell BK226.out 9).trans rfl, (blk_cell BK226.out 10).trans rfl, (blk_cell BK226.out 11).trans rfl, (blk_cell BK226.out 12).trans rfl, (blk_cell BK226.out 13).trans rfl⟩ (fun hHeld => ?_)
  clear hK K
  refine norm_ (a' := ?_) ?_ ?_
  rotate_left
  ·show Act.put _ (some 43) _ = _
   simp only [Act.put, List.setIfInBounds_toArray, List.set_cons_zero, List.set_cons_succ, i64_w, i32_w]
   rfl
  refine one_ (i := 12) (N := some 44) #[true, true, true, true, true, true, true, true, true, true, true, true, true, true, false, true, true, true, true, true, true, true, true, true, true, false, false] rfl rfl (one_of HT_.out (by kernel_rfl)) (by decide) (fun K hK => ?_)
  refine goes_ Try.func31 (by kernel_rfl) rfl #[.int .i64 t235, .int .i64 68719476736] (by rfl) rfl rfl (by (try simp only [List.map_toArray, List.map_cons, List.map_nil]); first | done | rfl | (simp only [List.length_drop, List.length_take]; rfl)) ?_
  with_reducible refine (foliotref17_inside.calls t235 68719476736 t236 _ A44.out).mono ?_
  rintro e w57 ⟨rfl, hb⟩
  refine ⟨_, rfl, ?_⟩
  have n0_ := Aside0.mk (blk_below (g := gb226) (o := .cells #[.int .i64 a0_0, .int .i64 a0_1, .int .i64 a0_2, .int .i64 a0_3, .int .i64 a0_4, .int .u32 a0_5, .int .i64 a0_6, .int .i64 a0_7, .int .i64 a0_8, .int .i64 a0_9, .int .u64 a0_10, .bool a0_11, .int .i64 a0_12, .int .i64 a0_13] 42 (0, 0)) (by (with_reducible repeat (first | refine blk_drewN ?_ _ | refine blk_drew ?_ | refine blk_alloc ?_ _)); exact BK226.out) hb)
  have n1_ := Aside0.mk (blk_below (g := gb227) (o := .cells #[.int .i64 0, .int .i64 0, .int .i64 0, .int .i64 0, .int .i64 0, .int .u32 0, .int .u64 0, .int .i64 0, .int .i64 0, .int .i64 0, .int .i64 0] 28 (0, 0)) (by (with_reducible repeat (first | refine blk_drewN ?_ _ | refine blk_drew ?_ | refine blk_alloc ?_ _)); exact BK227.out) hb)
  have n2_ := Aside0.mk (below_step (by repeat (first | (with_reducible first | exact HB.out | apply below_alloc | apply pw_below_drewN | apply below_drew1 | refine below_set ?_ GE226.out | refine below_set ?_ GE227.out) | exact HB.out)) hb)
  clear BK226
  clear BK227
  clear HB
  have BK226 := n0_
  have BK227 := n1_
  have HB := n2_
  clear n0_ n1_ n2_
  (try clear hb)
  (try clear hb2)
  (try clear hk)
  (try clear hi)
  refine hK.out _ _ ⟨(blk_cell BK226.out 0).trans rfl, (blk_cell BK226.out 1).trans rfl, (blk_cell BK226.out 2).trans rfl, (blk_cell BK226.out 3).trans rfl, (blk_cell BK226.out 4).trans rfl, (blk_cell BK226.out 5).trans rfl, (blk_cell BK226.out 6).trans rfl, (blk_cell BK226.out 7).trans rfl, (blk_cell BK226.out 8).trans rfl, (blk_cell BK226.out 9).trans rfl, (blk_cell BK226.out 10).trans rfl, (blk_cell BK226.out 11).trans rfl, (blk_cell BK226.out 12).trans rfl, (blk_cell BK226.out 13).trans rfl⟩ (fun hHeld => ?_)
  clear hK K
  refine norm_ (a' := ?_) ?_ ?_
  rotate_left
  ·show Act.put _ (some 44) _ = _
   simp only [Act.put, List.setIfInBounds_toArray, List.set_cons_zero, List.set_cons_succ, i64_w, i32_w]
   rfl
  refine one_ (i := 14) (N := some 46) #[true, true, true, true, true, true, true, true, true, true, true, true, true, true, true, true, true, true, true, true, true, true, true, true, true, false, false] rfl rfl (one_of HT_.out (by kernel_rfl)) (by decide) (fun K hK => ?_)
  refine goes_ Try.func31 (by kernel_rfl) rfl #[.int .i64 t231, .int .i64 68719476736] (by rfl) rfl rfl (by (try simp only [List.map_toArray, List.map_cons, List.map_nil]); first | done | rfl | (simp only [List.length_drop, List.length_take]; rfl)) ?_
  with_reducible refine (foliotref17_inside.calls t231 68719476736 t237 _ A45.out).mono ?_
  rintro e w58 ⟨rfl, hb⟩
  refine ⟨_, rfl, ?_⟩
  have n0_ := Aside0.mk (blk_below (g := gb226) (o := .cells #[.int .i64 a0_0, .int .i64 a0_1, .int .i64 a0_2, .int .i64 a0_3, .int .i64 a0_4, .int .u32 a0_5, .int .i64 a0_6, .int .i64 a0_7, .int .i64 a0_8, .int .i64 a0_9, .int .u64 a0_10, .bool a0_11, .int .i64 a0_12, .int .i64 a0_13] 42 (0, 0)) (by (with_reducible repeat (first | refine blk_drewN ?_ _ | refine blk_drew ?_ | refine blk_alloc ?_ _)); exact BK226.out) hb)
  have n1_ := Aside0.mk (blk_below (g := gb227) (o := .cells #[.int .i64 0, .int .i64 0, .int .i64 0, .int .i64 0, .int .i64 0, .int .u32 0, .int .u64 0, .int .i64 0, .int .i64 0, .int .i64 0, .int .i64 0] 28 (0, 0)) (by (with_reducible repeat (first | refine blk_drewN ?_ _ | refine blk_drew ?_ | refine blk_alloc ?_ _)); exact BK227.out) hb)
  have n2_ := Aside0.mk (below_step (by repeat (first | (with_reducible first | exact HB.out | apply below_alloc | apply pw_below_drewN | apply below_drew1 | refine below_set ?_ GE226.out | refine below_set ?_ GE227.out) | exact HB.out)) hb)
  clear BK226
  clear BK227
  clear HB
  have BK226 := n0_
  have BK227 := n1_
  have HB := n2_
  clear n0_ n1_ n2_
  (try clear hb)
  (try clear hb2)
  (try clear hk)
  (try clear hi)
  refine hK.out _ _ ⟨(blk_cell BK226.out 0).trans rfl, (blk_cell BK226.out 1).trans rfl, (blk_cell BK226.out 2).trans rfl, (blk_cell BK226.out 3).trans rfl, (blk_cell BK226.out 4).trans rfl, (blk_cell BK226.out 5).trans rfl, (blk_cell BK226.out 6).trans rfl, (blk_cell BK226.out 7).trans rfl, (blk_cell BK226.out 8).trans rfl, (blk_cell BK226.out 9).trans rfl, (blk_cell BK226.out 10).trans rfl, (blk_cell BK226.out 11).trans rfl, (blk_cell BK226.out 12).trans rfl, (blk_cell BK226.out 13).trans rfl⟩ (fun hHeld => ?_)
  clear hK K
  refine norm_ (a' := ?_) ?_ ?_
  rotate_left
  ·show Act.put _ (some 46) _ = _
   simp only [Act.put, List.setIfInBounds_toArray, List.set_cons_zero, List.set_cons_succ, i64_w, i32_w]
   rfl
  refine pure_ (i := 25) (N := some 57) (v := ?_) (a' := ?_) #[true, true, true, true, true, true, true, true, true, true, true, true, true, true, true, true, true, true, true, true, true, true, true, true, true, true, false] rfl rfl (any_of HT_.out (by kernel_rfl)) (fun _ _ _ h => h) (Or.inl ⟨by rfl, ?_⟩) ?_ ?_
  rotate_left
  ·intro w'
   go_simp
   with_reducible rfl
  rotate_left
  ·simp only [Act.put, List.setIfInBounds_toArray, List.set_cons_zero, List.set_cons_succ, i64_w, i32_w]
   rfl
  refine one_ (i := 26) (N := none) #[true, true, true, true, true, true, true, true, true, true, true, true, true, true, true, true, true, true, true, true, true, true, true, true, true, true, true] rfl rfl (one_of HT_.out (by kernel_rfl)) (by decide) (fun K hK => ?_)
  have hs59 : w58.cell? ⟨gb227, 0, none⟩ = some (.int .i64 0) := (blk_cell BK227.out 0).trans rfl
  have hfs59 := blk_frozen BK227.out 0
  have hns59_0 := NB226_227.out
  have hms59_0 := NB227_226.out
  have hs60 : w58.cell? ⟨gb227, 1, none⟩ = some (.int .i64 0) := (blk_cell BK227.out 1).trans rfl
  have hfs60 := blk_frozen BK227.out 1
  have hns60_0 := NB226_227.out
  have hms60_0 := NB227_226.out
  have hs61 : w58.cell? ⟨gb227, 2, none⟩ = some (.int .i64 0) := (blk_cell BK227.out 2).trans rfl
  have hfs61 := blk_frozen BK227.out 2
  have hns61_0 := NB226_227.out
  have hms61_0 := NB227_226.out
  have hs62 : w58.cell? ⟨gb227, 3, none⟩ = some (.int .i64 0) := (blk_cell BK227.out 3).trans rfl
  have hfs62 := blk_frozen BK227.out 3
  have hns62_0 := NB226_227.out
  have hms62_0 := NB227_226.out
  have hs63 : w58.cell? ⟨gb227, 4, none⟩ = some (.int .i64 0) := (blk_cell BK227.out 4).trans rfl
  have hfs63 := blk_frozen BK227.out 4
  have hns63_0 := NB226_227.out
  have hms63_0 := NB227_226.out
  have hs64 : w58.cell? ⟨gb227, 5, none⟩ = some (.int .u32 0) := (blk_cell BK227.out 5).trans rfl
  have hfs64 := blk_frozen BK227.out 5
  have hns64_0 := NB226_227.out
  have hms64_0 := NB227_226.out
  have hs65 : w58.cell? ⟨gb227, 6, none⟩ = some (.int .u64 0) := (blk_cell BK227.out 6).trans rfl
  have hfs65 := blk_frozen BK227.out 6
  have hns65_0 := NB226_227.out
  have hms65_0 := NB227_226.out
  have hs66 : w58.cell? ⟨gb227, 7, none⟩ = some (.int .i64 0) := (blk_cell BK227.out 7).trans rfl
  have hfs66 := blk_frozen BK227.out 7
  have hns66_0 := NB226_227.out
  have hms66_0 := NB227_226.out
  have hs67 : w58.cell? ⟨gb227, 8, none⟩ = some (.int .i64 0) := (blk_cell BK227.out 8).trans rfl
  have hfs67 := blk_frozen BK227.out 8
  have hns67_0 := NB226_227.out
  have hms67_0 := NB227_226.out
  have hs68 : w58.cell? ⟨gb227, 9, none⟩ = some (.int .i64 0) := (blk_cell BK227.out 9).trans rfl
  have hfs68 := blk_frozen BK227.out 9
  have hns68_0 := NB226_227.out
  have hms68_0 := NB227_226.out
  have hs69 : w58.cell? ⟨gb227, 10, none⟩ = some (.int .i64 0) := (blk_cell BK227.out 10).trans rfl
  have hfs69 := blk_frozen BK227.out 10
  have hns69_0 := NB226_227.out
  have hms69_0 := NB227_226.out
  refine skip_ (w1 := ?_) (by rfl) rfl ?_ ?_
  rotate_left
  ·go_simp
   rfl
  refine hK.out _ _ ⟨((cell_far (p := ⟨gb227, _, none⟩) NB226_227.out _).trans (((cell_far (p := ⟨gb227, _, none⟩) NB226_227.out _).trans (((cell_far (p := ⟨gb227, _, none⟩) NB226_227.out _).trans (((cell_far (p := ⟨gb227, _, none⟩) NB226_227.out _).trans (((cell_far (p := ⟨gb227, _, none⟩) NB226_227.out _).trans (((cell_far (p := ⟨gb227, _, none⟩) NB226_227.out _).trans (((cell_far (p := ⟨gb227, _, none⟩) NB226_227.out _).trans (((cell_far (p := ⟨gb227, _, none⟩) NB226_227.out _).trans (((cell_far (p := ⟨gb227, _, none⟩) NB226_227.out _).trans (((cell_far (p := ⟨gb227, _, none⟩) NB226_227.out _).trans (((cell_far (p := ⟨gb227, _, none⟩) NB226_227.out _).trans (hHeld.1)))))))))))))))))))))), ((cell_far (p := ⟨gb227, _, none⟩) NB226_227.out _).trans (((cell_far (p := ⟨gb227, _, none⟩) NB226_227.out _).trans (((cell_far (p := ⟨gb227, _, none⟩) NB226_227.out _).trans (((cell_far (p := ⟨gb227, _, none⟩) NB226_227.out _).trans (((cell_far (p := ⟨gb227, _, none⟩) NB226_227.out _).trans (((cell_far (p := ⟨gb227, _, none⟩) NB226_227.out _).trans (((cell_far (p := ⟨gb227, _, none⟩) NB226_227.out _).trans (((cell_far (p := ⟨gb227, _, none⟩) NB226_227.out _).trans (((cell_far (p := ⟨gb227, _, none⟩) NB226_227.out _).trans (((cell_far (p := ⟨gb227, _, none⟩) NB226_227.out _).trans (((cell_far (p := ⟨gb227, _, none⟩) NB226_227.out _).trans (hHeld.2.1)))))))))))))))))))))), ((cell_far (p := ⟨gb227, _, none⟩) NB226_227.out _).trans (((cell_far (p := ⟨gb227, _, none⟩) NB226_227.out _).trans (((cell_far (p := ⟨gb227, _, none⟩) NB226_227.out _).trans (((cell_far (p := ⟨gb227, _, none⟩) NB226_227.out _).trans (((cell_far (p := ⟨gb227, _, none⟩) NB226_227.out _).trans (((cell_far (p := ⟨gb227, _, none⟩) NB226_227.out _).trans (((cell_far (p := ⟨gb227, _, none⟩) NB226_227.out _).trans (((cell_far (p := ⟨gb227, _, none⟩) NB226_227.out _).trans (((cell_far (p := ⟨gb227, _, none⟩) NB226_227.out _).trans (((cell_far (p := ⟨gb227, _, none⟩) NB226_227.out _).trans (((cell_far (p := ⟨gb227, _, none⟩) NB226_227.out _).trans (hHeld.2.2.1)))))))))))))))))))))), ((cell_far (p := ⟨gb227, _, none⟩) NB226_227.out _).trans (((cell_far (p := ⟨gb227, _, none⟩) NB226_227.out _).trans (((cell_far (p := ⟨gb227, _, none⟩) NB226_227.out _).trans (((cell_far (p := ⟨gb227, _, none⟩) NB226_227.out _).trans (((cell_far (p := ⟨gb227, _, none⟩) NB226_227.out _).trans (((cell_far (p := ⟨gb227, _, none⟩) NB226_227.out _).trans (((cell_far (p := ⟨gb227, _, none⟩) NB226_227.out _).trans (((cell_far (p := ⟨gb227, _, none⟩) NB226_227.out _).trans (((cell_far (p := ⟨gb227, _, none⟩) NB226_227.out _).trans (((cell_far (p := ⟨gb227, _, none⟩) NB226_227.out _).trans (((cell_far (p := ⟨gb227, _, none⟩) NB226_227.out _).trans (hHeld.2.2.2.1)))))))))))))))))))))), ((cell_far (p := ⟨gb227, _, none⟩) NB226_227.out _).trans (((cell_far (p := ⟨gb227, _, none⟩) NB226_227.out _).trans (((cell_far (p := ⟨gb227, _, none⟩) NB226_227.out _).trans (((cell_far (p := ⟨gb227, _, none⟩) NB226_227.out _).trans (((cell_far (p := ⟨gb227, _, none⟩) NB226_227.out _).trans (((cell_far (p := ⟨gb227, _, none⟩) NB226_227.out _).trans (((cell_far (p := ⟨gb227, _, none⟩) NB226_227.out _).trans (((cell_far (p := ⟨gb227, _, none⟩) NB226_227.out _).trans (((cell_far (p := ⟨gb227, _, none⟩) NB226_227.out _).trans (((cell_far (p := ⟨gb227, _, none⟩) NB226_227.out _).trans (((cell_far (p := ⟨gb227, _, none⟩) NB226_227.out _).trans (hHeld.2.2.2.2.1)))))))))))))))))))))), ((cell_far (p := ⟨gb227, _, none⟩) NB226_227.out _).trans (((cell_far (p := ⟨gb227, _, none⟩) NB226_227.out _).trans (((cell_far (p := ⟨gb227, _, none⟩) NB226_227.out _).trans (((cell_far (p := ⟨gb227, _, none⟩) NB226_227.out _).trans (((cell_far (p := ⟨gb227, _, none⟩) NB226_227.out _).trans (((cell_far (p := ⟨gb227, _, none⟩) NB226_227.out _).trans (((cell_far (p := ⟨gb227, _, none⟩) NB226_227.out _).trans (((cell_far (p := ⟨gb227, _, none⟩) NB226_227.out _).trans (((cell_far (p := ⟨gb227, _, none⟩) NB226_227.out _).trans (((cell_far (p := ⟨gb227, _, none⟩) NB226_227.out _).trans (((cell_far (p := ⟨gb227, _, none⟩) NB226_227.out _).trans (hHeld.2.2.2.2.2.1)))))))))))))))))))))), ((cell_far (p := ⟨gb227, _, none⟩) NB226_227.out _).trans (((cell_far (p := ⟨gb227, _, none⟩) NB226_227.out _).trans (((cell_far (p := ⟨gb227, _, none⟩) NB226_227.out _).trans (((cell_far (p := ⟨gb227, _, none⟩) NB226_227.out _).trans (((cell_far (p := ⟨gb227, _, none⟩) NB226_227.out _).trans (((cell_far (p := ⟨gb227, _, none⟩) NB226_227.out _).trans (((cell_far (p := ⟨gb227, _, none⟩) NB226_227.out _).trans (((cell_far (p := ⟨gb227, _, none⟩) NB226_227.out _).trans (((cell_far (p := ⟨gb227, _, none⟩) NB226_227.out _).trans (((cell_far (p := ⟨gb227, _, none⟩) NB226_227.out _).trans (((cell_far (p := ⟨gb227, _, none⟩) NB226_227.out _).trans (hHeld.2.2.2.2.2.2.1)))))))))))))))))))))), ((cell_far (p := ⟨gb227, _, none⟩) NB226_227.out _).trans (((cell_far (p := ⟨gb227, _, none⟩) NB226_227.out _).trans (((cell_far (p := ⟨gb227, _, none⟩) NB226_227.out _).trans (((cell_far (p := ⟨gb227, _, none⟩) NB226_227.out _).trans (((cell_far (p := ⟨gb227, _, none⟩) NB226_227.out _).trans (((cell_far (p := ⟨gb227, _, none⟩) NB226_227.out _).trans (((cell_far (p := ⟨gb227, _, none⟩) NB226_227.out _).trans (((cell_far (p := ⟨gb227, _, none⟩) NB226_227.out _).trans (((cell_far (p := ⟨gb227, _, none⟩) NB226_227.out _).trans (((cell_far (p := ⟨gb227, _, none⟩) NB226_227.out _).trans (((cell_far (p := ⟨gb227, _, none⟩) NB226_227.out _).trans (hHeld.2.2.2.2.2.2.2.1)))))))))))))))))))))), ((cell_far (p := ⟨gb227, _, none⟩) NB226_227.out _).trans (((cell_far (p := ⟨gb227, _, none⟩) NB226_227.out _).trans (((cell_far (p := ⟨gb227, _, none⟩) NB226_227.out _).trans (((cell_far (p := ⟨gb227, _, none⟩) NB226_227.out _).trans (((cell_far (p := ⟨gb227, _, none⟩) NB226_227.out _).trans (((cell_far (p := ⟨gb227, _, none⟩) NB226_227.out _).trans (((cell_far (p := ⟨gb227, _, none⟩) NB226_227.out _).trans (((cell_far (p := ⟨gb227, _, none⟩) NB226_227.out _).trans (((cell_far (p := ⟨gb227, _, none⟩) NB226_227.out _).trans (((cell_far (p := ⟨gb227, _, none⟩) NB226_227.out _).trans (((cell_far (p := ⟨gb227, _, none⟩) NB226_227.out _).trans (hHeld.2.2.2.2.2.2.2.2.1)))))))))))))))))))))), ((cell_far (p := ⟨gb227, _, none⟩) NB226_227.out _).trans (((cell_far (p := ⟨gb227, _, none⟩) NB226_227.out _).trans (((cell_far (p := ⟨gb227, _, none⟩) NB226_227.out _).trans (((cell_far (p := ⟨gb227, _, none⟩) NB226_227.out _).trans (((cell_far (p := ⟨gb227, _, none⟩) NB226_227.out _).trans (((cell_far (p := ⟨gb227, _, none⟩) NB226_227.out _).trans (((cell_far (p := ⟨gb227, _, none⟩) NB226_227.out _).trans (((cell_far (p := ⟨gb227, _, none⟩) NB226_227.out _).trans (((cell_far (p := ⟨gb227, _, none⟩) NB226_227.out _).trans (((cell_far (p := ⟨gb227, _, none⟩) NB226_227.out _).trans (((cell_far (p := ⟨gb227, _, none⟩) NB226_227.out _).trans (hHeld.2.2.2.2.2.2.2.2.2.1)))))))))))))))))))))), ((cell_far (p := ⟨gb227, _, none⟩) NB226_227.out _).trans (((cell_far (p := ⟨gb227, _, none⟩) NB226_227.out _).trans (((cell_far (p := ⟨gb227, _, none⟩) NB226_227.out _).trans (((cell_far (p := ⟨gb227, _, none⟩) NB226_227.out _).trans (((cell_far (p := ⟨gb227, _, none⟩) NB226_227.out _).trans (((cell_far (p := ⟨gb227, _, none⟩) NB226_227.out _).trans (((cell_far (p := ⟨gb227, _, none⟩) NB226_227.out _).trans (((cell_far (p := ⟨gb227, _, none⟩) NB226_227.out _).trans (((cell_far (p := ⟨gb227, _, none⟩) NB226_227.out _).trans (((cell_far (p := ⟨gb227, _, none⟩) NB226_227.out _).trans (((cell_far (p := ⟨gb227, _, none⟩) NB226_227.out _).trans (hHeld.2.2.2.2.2.2.2.2.2.2.1)))))))))))))))))))))), ((cell_far (p := ⟨gb227, _, none⟩) NB226_227.out _).trans (((cell_far (p := ⟨gb227, _, none⟩) NB226_227.out _).trans (((cell_far (p := ⟨gb227, _, none⟩) NB226_227.out _).trans (((cell_far (p := ⟨gb227, _, none⟩) NB226_227.out _).trans (((cell_far (p := ⟨gb227, _, none⟩) NB226_227.out _).trans (((cell_far (p := ⟨gb227, _, none⟩) NB226_227.out _).trans (((cell_far (p := ⟨gb227, _, none⟩) NB226_227.out _).trans (((cell_far (p := ⟨gb227, _, none⟩) NB226_227.out _).trans (((cell_far (p := ⟨gb227, _, none⟩) NB226_227.out _).trans (((cell_far (p := ⟨gb227, _, none⟩) NB226_227.out _).trans (((cell_far (p := ⟨gb227, _, none⟩) NB226_227.out _).trans (hHeld.2.2.2.2.2.2.2.2.2.2.2.1)))))))))))))))))))))), ((cell_far (p := ⟨gb227, _, none⟩) NB226_227.out _).trans (((cell_far (p := ⟨gb227, _, none⟩) NB226_227.out _).trans (((cell_far (p := ⟨gb227, _, none⟩) NB226_227.out _).trans (((cell_far (p := ⟨gb227, _, none⟩) NB226_227.out _).trans (((cell_far (p := ⟨gb227, _, none⟩) NB226_227.out _).trans (((cell_far (p := ⟨gb227, _, none⟩) NB226_227.out _).trans (((cell_far (p := ⟨gb227, _, none⟩) NB226_227.out _).trans (((cell_far (p := ⟨gb227, _, none⟩) NB226_227.out _).trans (((cell_far (p := ⟨gb227, _, none⟩) NB226_227.out _).trans (((cell_far (p := ⟨gb227, _, none⟩) NB226_227.out _).trans (((cell_far (p := ⟨gb227, _, none⟩) NB226_227.out _).trans (hHeld.2.2.2.2.2.2.2.2.2.2.2.2.1)))))))))))))))))))))), ((cell_far (p := ⟨gb227, _, none⟩) NB226_227.out _).trans (((cell_far (p := ⟨gb227, _, none⟩) NB226_227.out _).trans (((cell_far (p := ⟨gb227, _, none⟩) NB226_227.out _).trans (((cell_far (p := ⟨gb227, _, none⟩) NB226_227.out _).trans (((cell_far (p := ⟨gb227, _, none⟩) NB226_227.out _).trans (((cell_far (p := ⟨gb227, _, none⟩) NB226_227.out _).trans (((cell_far (p := ⟨gb227, _, none⟩) NB226_227.out _).trans (((cell_far (p := ⟨gb227, _, none⟩) NB226_227.out _).trans (((cell_far (p := ⟨gb227, _, none⟩) NB226_227.out _).trans (((cell_far (p := ⟨gb227, _, none⟩) NB226_227.out _).trans (((cell_far (p := ⟨gb227, _, none⟩) NB226_227.out _).trans (hHeld.2.2.2.2.2.2.2.2.2.2.2.2.2))))))))))))))))))))))⟩ (fun hHeld => ?_)
  clear hK K
  refine done_ (done_of HT_.out (by kernel_rfl)) ?_
  try go_wp2
  refine bodyPost_ret (results_cell_row rfl _ _ gb227 28 #[.int .i64 a0_1, .int .i64 16, .int .i64 ji42, .int .i64 t236, .int .i64 t237, .int .u32 a0_5, .int .u64 a3, .int .i64 a0_12, .int .i64 a0_13, .int .i64 a0_0, .int .i64 a1] (0, 0) _ rfl (by (with_reducible repeat (first | refine blk_drewN ?_ _ | refine blk_drew ?_ | refine blk_alloc ?_ _)); refine blk_put (cs := #[.int .i64 a0_1, .int .i64 16, .int .i64 ji42, .int .i64 t236, .int .i64 t237, .int .u32 a0_5, .int .u64 a3, .int .i64 a0_12, .int .i64 a0_13, .int .i64 a0_0, .int .i64 0]) ?_ 10 _ rfl; (with_reducible repeat (first | refine blk_drewN ?_ _ | refine blk_drew ?_ | refine blk_alloc ?_ _)); refine blk_put (cs := #[.int .i64 a0_1, .int .i64 16, .int .i64 ji42, .int .i64 t236, .int .i64 t237, .int .u32 a0_5, .int .u64 a3, .int .i64 a0_12, .int .i64 a0_13, .int .i64 0, .int .i64 0]) ?_ 9 _ rfl; (with_reducible repeat (first | refine blk_drewN ?_ _ | refine blk_drew ?_ | refine blk_alloc ?_ _)); refine blk_put (cs := #[.int .i64 a0_1, .int .i64 16, .int .i64 ji42, .int .i64 t236, .int .i64 t237, .int .u32 a0_5, .int .u64 a3, .int .i64 a0_12, .int .i64 0, .int .i64 0, .int .i64 0]) ?_ 8 _ rfl; (with_reducible repeat (first | refine blk_drewN ?_ _ | refine blk_drew ?_ | refine blk_alloc ?_ _)); refine blk_put (cs := #[.int .i64 a0_1, .int .i64 16, .int .i64 ji42, .int .i64 t236, .int .i64 t237, .int .u32 a0_5, .int .u64 a3, .int .i64 0, .int .i64 0, .int .i64 0, .int .i64 0]) ?_ 7 _ rfl; (with_reducible repeat (first | refine blk_drewN ?_ _ | refine blk_drew ?_ | refine blk_alloc ?_ _)); refine blk_put (cs := #[.int .i64 a0_1, .int .i64 16, .int .i64 ji42, .int .i64 t236, .int .i64 t237, .int .u32 a0_5, .int .u64 0, .int .i64 0, .int .i64 0, .int .i64 0, .int .i64 0]) ?_ 6 _ rfl; (with_reducible repeat (first | refine blk_drewN ?_ _ | refine blk_drew ?_ | refine blk_alloc ?_ _)); refine blk_put (cs := #[.int .i64 a0_1, .int .i64 16, .int .i64 ji42, .int .i64 t236, .int .i64 t237, .int .u32 0, .int .u64 0, .int .i64 0, .int .i64 0, .int .i64 0, .int .i64 0]) ?_ 5 _ rfl; (with_reducible repeat (first | refine blk_drewN ?_ _ | refine blk_drew ?_ | refine blk_alloc ?_ _)); refine blk_put (cs := #[.int .i64 a0_1, .int .i64 16, .int .i64 ji42, .int .i64 t236, .int .i64 0, .int .u32 0, .int .u64 0, .int .i64 0, .int .i64 0, .int .i64 0, .int .i64 0]) ?_ 4 _ rfl; (with_reducible repeat (first | refine blk_drewN ?_ _ | refine blk_drew ?_ | refine blk_alloc ?_ _)); refine blk_put (cs := #[.int .i64 a0_1, .int .i64 16, .int .i64 ji42, .int .i64 0, .int .i64 0, .int .u32 0, .int .u64 0, .int .i64 0, .int .i64 0, .int .i64 0, .int .i64 0]) ?_ 3 _ rfl; (with_reducible repeat (first | refine blk_drewN ?_ _ | refine blk_drew ?_ | refine blk_alloc ?_ _)); refine blk_put (cs := #[.int .i64 a0_1, .int .i64 16, .int .i64 0, .int .i64 0, .int .i64 0, .int .u32 0, .int .u64 0, .int .i64 0, .int .i64 0, .int .i64 0, .int .i64 0]) ?_ 2 _ rfl; (with_reducible repeat (first | refine blk_drewN ?_ _ | refine blk_drew ?_ | refine blk_alloc ?_ _)); refine blk_put (cs := #[.int .i64 a0_1, .int .i64 0, .int .i64 0, .int .i64 0, .int .i64 0, .int .u32 0, .int .u64 0, .int .i64 0, .int .i64 0, .int .i64 0, .int .i64 0]) ?_ 1 _ rfl; (with_reducible repeat (first | refine blk_drewN ?_ _ | refine blk_drew ?_ | refine blk_alloc ?_ _)); refine blk_put (cs := #[.int .i64 0, .int .i64 0, .int .i64 0, .int .i64 0, .int .i64 0, .int .u32 0, .int .u64 0, .int .i64 0, .int .i64 0, .int .i64 0, .int .i64 0]) ?_ 0 _ rfl; (with_reducible repeat (first | refine blk_drewN ?_ _ | refine blk_drew ?_ | refine blk_alloc ?_ _)); exact BK227.out) Try.underlying28 rfl (by kernel_rfl)) rfl ?_
  exact ⟨by first | rfl | (simp [errW_none, errW_some] <;> rfl) | (simp only [← hji41, ← hji42]; first | rfl | (simp [errW_none, errW_some] <;> rfl)) | (simp [*, errW_none, errW_some] <;> rfl), by repeat (first | (with_reducible first | exact HB.out | apply below_alloc | apply pw_below_drewN | apply below_drew1 | refine below_set ?_ GE226.out | refine below_set ?_ GE227.out) | exact HB.out)⟩
end Go.Proofs.Ytbcdoncnhhjjeaa.PSystemFollows
