-- Written by a program (extend_print.py). Not trusted: Lean checks it.
import Derived.Test.YtbcdoncnhhjjeaaPSystemAgesx0
namespace Go.Proofs.Ytbcdoncnhhjjeaa.PSystemAges
open Go.RowKit Go.Proofs.YtbcdoncnhhjjeaaW.PrintWords Go.Proofs.YtbcdoncnhhjjeaaW.PrintLast Go.Proofs.YtbcdoncnhhjjeaaW.PrintMore
attribute [local go_sem] max2_int min2_int max_two min_two max_three min_three max_four min_four
set_option linter.unusedVariables false
set_option maxHeartbeats 8000000
set_option maxRecDepth 100000
set_option linter.unusedSimpArgs false
def system_New.f (l0_0 : List (S130)) (l0_1 : List (S132)) (l0_2 : List Int) (a0_3 : Int) (l0_4 : List (S134)) (a0_5 : ByteArray) (l0_6 : List ByteArray) (a0_7 : Int) (a0_8 : Bool) (a0_9 : Bool) (a0_10 : Int) (a0_11 : Int) (a0_12 : Int) (a0_13 : Int) (a0_14 : Int) : Option (Int × Int × Int × Int × Int × Int × Int × Int × Int × Int × Int) := some (3, 16, 3, 0, 0, 0, 0, 0, 4096, 0, 0)
theorem system_New.calls (A0_0 : Option Addr) (c0_0 : Nat) (l0_0 : List (S130)) (A0_1 : Option Addr) (c0_1 : Nat) (l0_1 : List (S132)) (A0_2 : Option Addr) (c0_2 : Nat) (l0_2 : List Int) (a0_3 : Int) (A0_4 : Option Addr) (c0_4 : Nat) (l0_4 : List (S134)) (a0_5 : ByteArray) (A0_6 : Option Addr) (c0_6 : Nat) (l0_6 : List ByteArray) (a0_7 : Int) (a0_8 : Bool) (a0_9 : Bool) (a0_10 : Int) (a0_11 : Int) (a0_12 : Int) (a0_13 : Int) (a0_14 : Int) (r1 : Int) (r2 : Int) (r3 : Int) (r4 : Int) (r5 : Int) (r6 : Int) (r7 : Int) (r8 : Int) (r9 : Int) (r10 : Int) (r11 : Int) (w : World) (hr0_0 : Kd.C k130 w A0_0 l0_0.length l0_0) (hc0_0 : l0_0.length ≤ c0_0) (hr0_1 : Kd.C k132 w A0_1 l0_1.length l0_1) (hc0_1 : l0_1.length ≤ c0_1) (hr0_2 : Kd.C (Kd.int .i64) w A0_2 l0_2.length l0_2) (hc0_2 : l0_2.length ≤ c0_2) (hr0_4 : Kd.C k134 w A0_4 l0_4.length l0_4) (hc0_4 : l0_4.length ≤ c0_4) (hr0_6 : Kd.C Kd.string w A0_6 l0_6.length l0_6) (hc0_6 : l0_6.length ≤ c0_6) (h : system_New.f l0_0 l0_1 l0_2 a0_3 l0_4 a0_5 l0_6 a0_7 a0_8 a0_9 a0_10 a0_11 a0_12 a0_13 a0_14 = some (r1, r2, r3, r4, r5, r6, r7, r8, r9, r10, r11)) :
  Calls Try.prog 14 #[.agg #[.slice A0_0 l0_0.length c0_0, .slice A0_1 l0_1.length c0_1, .slice A0_2 l0_2.length c0_2, .int .i64 a0_3, .slice A0_4 l0_4.length c0_4, .string a0_5, .slice A0_6 l0_6.length c0_6, .int .i64 a0_7, .bool a0_8, .bool a0_9, .int .i64 a0_10, .int .i64 a0_11, .int .i64 a0_12, .int .i64 a0_13, .int .i64 a0_14]] w fun e w' => e = .returned (.agg #[.int .i64 r1, .int .i64 r2, .int .i64 r3, .int .i64 r4, .int .i64 r5, .int .u32 r6, .int .u64 r7, .int .i64 r8, .int .i64 r9, .int .i64 r10, .int .i64 r11]) ∧ Below w.heap.size w w' := by
 have hu39 := Try.underlying39
 have hu28 := Try.underlying28
 have HR0_0 := Aside0.mk hr0_0
 have HC0_0 := Aside0.mk hc0_0
 clear hr0_0 hc0_0
 have HR0_1 := Aside0.mk hr0_1
 have HC0_1 := Aside0.mk hc0_1
 clear hr0_1 hc0_1
 have HR0_2 := Aside0.mk hr0_2
 have HC0_2 := Aside0.mk hc0_2
 clear hr0_2 hc0_2
 have HR0_4 := Aside0.mk hr0_4
 have HC0_4 := Aside0.mk hc0_4
 clear hr0_4 hc0_4
 have HR0_6 := Aside0.mk hr0_6
 have HC0_6 := Aside0.mk hc0_6
 clear hr0_6 hc0_6
 have HB := Aside0.mk (Below.refl w.heap.size w)
 have H : (some (3, 16, 3, 0, 0, 0, 0, 0, 4096, 0, 0)) = some (r1, r2, r3, r4, r5, r6, r7, r8, r9, r10, r11) := h
 clear h
 simp only [Option.some.injEq, Prod.mk.injEq] at H
 obtain ⟨rfl, rfl, rfl, rfl, rfl, rfl, rfl, rfl, rfl, rfl, rfl⟩ := H
 go_enter Try.func14, Try.ntmps14
 go_wp2_with (first | ((with_reducible refine gate_dst (N := 1) rfl ?_); refine box_event ?hg (N := 1) ?hd (cs := #[.slice A0_0 l0_0.length c0_0, .slice A0_1 l0_1.length c0_1, .slice A0_2 l0_2.length c0_2, .int .i64 a0_3, .slice A0_4 l0_4.length c0_4, .string a0_5, .slice A0_6 l0_6.length c0_6, .int .i64 a0_7, .bool a0_8, .bool a0_9, .int .i64 a0_10, .int .i64 a0_11, .int .i64 a0_12, .int .i64 a0_13, .int .i64 a0_14]) (t := 39) ?hr ?_; (case hd => rfl); (case hg => rfl); (case hr => first | (go_simp; done) | (go_simp; rfl)); intro gb101 hg w2 hbox hb; have n0_ := Aside0.mk (below_step (by repeat (first | (with_reducible first | exact HB.out | apply below_alloc | apply pw_below_drewN | apply below_drew1) | exact HB.out)) hb); have n1_ := Aside0.mk (hbox); have n2_ := Aside0.mk ((by rw [hg]; exact (below_size (by repeat (first | (with_reducible first | exact HB.out | apply below_alloc | apply pw_below_drewN | apply below_drew1) | exact HB.out))) : w.heap.size ≤ gb101)); have n3_ := Aside0.mk ((by rw [hg]; exact (below_size (by repeat (first | (with_reducible first | exact HB.out | apply below_alloc | apply pw_below_drewN | apply below_drew1) | exact HB.out))) : w.heap.size ≤ gb101)); clear HB; have HB := n0_; have BK101 := n1_; have GW101 := n2_; have GE101 := n3_; clear n0_ n1_ n2_ n3_; clear hb hbox hg) | ((with_reducible refine gate_dst (N := 2) rfl ?_); refine box_event ?hg (N := 2) ?hd (cs := #[.int .i64 0, .int .i64 0, .int .i64 0, .int .i64 0, .int .i64 0, .int .u32 0, .int .u64 0, .int .i64 0, .int .i64 0, .int .i64 0, .int .i64 0]) (t := 28) ?hr ?_; (case hd => rfl); (case hg => rfl); (case hr => first | (go_simp; done) | (go_simp; rfl)); intro gb102 hg w3 hbox hb; have n0_ := Aside0.mk (blk_below (g := gb101) (o := .cells #[.slice A0_0 l0_0.length c0_0, .slice A0_1 l0_1.length c0_1, .slice A0_2 l0_2.length c0_2, .int .i64 a0_3, .slice A0_4 l0_4.length c0_4, .string a0_5, .slice A0_6 l0_6.length c0_6, .int .i64 a0_7, .bool a0_8, .bool a0_9, .int .i64 a0_10, .int .i64 a0_11, .int .i64 a0_12, .int .i64 a0_13, .int .i64 a0_14] 39 (0, 0)) (by (with_reducible repeat (first | refine blk_drewN ?_ _ | refine blk_drew ?_ | refine blk_alloc ?_ _)); exact BK101.out) hb); have n1_ := Aside0.mk (below_step (by repeat (first | (with_reducible first | exact HB.out | apply below_alloc | apply pw_below_drewN | apply below_drew1 | refine below_set ?_ GE101.out) | exact HB.out)) hb); have n2_ := Aside0.mk (hbox); have n3_ := Aside0.mk ((by rw [hg]; exact (below_size (by repeat (first | (with_reducible first | exact HB.out | apply below_alloc | apply pw_below_drewN | apply below_drew1 | refine below_set ?_ GE101.out) | exact HB.out))) : w.heap.size ≤ gb102)); have n4_ := Aside0.mk ((by rw [hg]; exact (below_size (by repeat (first | (with_reducible first | exact HB.out | apply below_alloc | apply pw_below_drewN | apply below_drew1 | refine below_set ?_ GE101.out) | exact HB.out))) : w.heap.size ≤ gb102)); have n5_ := Aside0.mk ((by rw [hg]; exact Nat.ne_of_lt (blk_lt (g := gb101) (o := .cells #[.slice A0_0 l0_0.length c0_0, .slice A0_1 l0_1.length c0_1, .slice A0_2 l0_2.length c0_2, .int .i64 a0_3, .slice A0_4 l0_4.length c0_4, .string a0_5, .slice A0_6 l0_6.length c0_6, .int .i64 a0_7, .bool a0_8, .bool a0_9, .int .i64 a0_10, .int .i64 a0_11, .int .i64 a0_12, .int .i64 a0_13, .int .i64 a0_14] 39 (0, 0)) (by (with_reducible repeat (first | refine blk_drewN ?_ _ | refine blk_drew ?_ | refine blk_alloc ?_ _)); exact BK101.out)) : gb101 ≠ gb102)); have n6_ := Aside0.mk ((by rw [hg]; exact Nat.ne_of_gt (blk_lt (g := gb101) (o := .cells #[.slice A0_0 l0_0.length c0_0, .slice A0_1 l0_1.length c0_1, .slice A0_2 l0_2.length c0_2, .int .i64 a0_3, .slice A0_4 l0_4.length c0_4, .string a0_5, .slice A0_6 l0_6.length c0_6, .int .i64 a0_7, .bool a0_8, .bool a0_9, .int .i64 a0_10, .int .i64 a0_11, .int .i64 a0_12, .int .i64 a0_13, .int .i64 a0_14] 39 (0, 0)) (by (with_reducible repeat (first | refine blk_drewN ?_ _ | refine blk_drew ?_ | refine blk_alloc ?_ _)); exact BK101.out)) : gb102 ≠ gb101)); clear BK101; clear HB; have BK101 := n0_; have HB := n1_; have BK102 := n2_; have GW102 := n3_; have GE102 := n4_; have NB101_102 := n5_; have NB102_101 := n6_; clear n0_ n1_ n2_ n3_ n4_ n5_ n6_; clear hb hbox hg; have hnb4 := NB102_101.out; have hnc4 := NB101_102.out; have hcz5_0 : w3.cell? ⟨gb102, 0, none⟩ = some (.int .i64 0) := (blk_cell BK102.out 0).trans rfl; have hcz5_1 : w3.cell? ⟨gb102, 1, none⟩ = some (.int .i64 0) := (blk_cell BK102.out 1).trans rfl; have hcz5_2 : w3.cell? ⟨gb102, 2, none⟩ = some (.int .i64 0) := (blk_cell BK102.out 2).trans rfl; have hcz5_3 : w3.cell? ⟨gb102, 3, none⟩ = some (.int .i64 0) := (blk_cell BK102.out 3).trans rfl; have hcz5_4 : w3.cell? ⟨gb102, 4, none⟩ = some (.int .i64 0) := (blk_cell BK102.out 4).trans rfl; have hcz5_5 : w3.cell? ⟨gb102, 5, none⟩ = some (.int .u32 0) := (blk_cell BK102.out 5).trans rfl; have hcz5_6 : w3.cell? ⟨gb102, 6, none⟩ = some (.int .u64 0) := (blk_cell BK102.out 6).trans rfl; have hcz5_7 : w3.cell? ⟨gb102, 7, none⟩ = some (.int .i64 0) := (blk_cell BK102.out 7).trans rfl; have hcz5_8 : w3.cell? ⟨gb102, 8, none⟩ = some (.int .i64 0) := (blk_cell BK102.out 8).trans rfl; have hcz5_9 : w3.cell? ⟨gb102, 9, none⟩ = some (.int .i64 0) := (blk_cell BK102.out 9).trans rfl; have hcz5_10 : w3.cell? ⟨gb102, 10, none⟩ = some (.int .i64 0) := (blk_cell BK102.out 10).trans rfl; have hfz5_0 := blk_frozen BK102.out 0; have hfz5_1 := blk_frozen BK102.out 1; have hfz5_2 := blk_frozen BK102.out 2; have hfz5_3 := blk_frozen BK102.out 3; have hfz5_4 := blk_frozen BK102.out 4; have hfz5_5 := blk_frozen BK102.out 5; have hfz5_6 := blk_frozen BK102.out 6; have hfz5_7 := blk_frozen BK102.out 7; have hfz5_8 := blk_frozen BK102.out 8; have hfz5_9 := blk_frozen BK102.out 9; have hfz5_10 := blk_frozen BK102.out 10))
 refine bodyPost_ret (results_cell_row rfl _ _ gb102 28 #[.int .i64 3, .int .i64 16, .int .i64 3, .int .i64 0, .int .i64 0, .int .u32 0, .int .u64 0, .int .i64 0, .int .i64 4096, .int .i64 0, .int .i64 0] (0, 0) _ rfl (by (with_reducible repeat (first | refine blk_drewN ?_ _ | refine blk_drew ?_ | refine blk_alloc ?_ _)); refine blk_put (cs := #[.int .i64 3, .int .i64 16, .int .i64 3, .int .i64 0, .int .i64 0, .int .u32 0, .int .u64 0, .int .i64 0, .int .i64 4096, .int .i64 0, .int .i64 0]) ?_ 10 _ rfl; (with_reducible repeat (first | refine blk_drewN ?_ _ | refine blk_drew ?_ | refine blk_alloc ?_ _)); refine blk_put (cs := #[.int .i64 3, .int .i64 16, .int .i64 3, .int .i64 0, .int .i64 0, .int .u32 0, .int .u64 0, .int .i64 0, .int .i64 4096, .int .i64 0, .int .i64 0]) ?_ 9 _ rfl; (with_reducible repeat (first | refine blk_drewN ?_ _ | refine blk_drew ?_ | refine blk_alloc ?_ _)); refine blk_put (cs := #[.int .i64 3, .int .i64 16, .int .i64 3, .int .i64 0, .int .i64 0, .int .u32 0, .int .u64 0, .int .i64 0, .int .i64 0, .int .i64 0, .int .i64 0]) ?_ 8 _ rfl; (with_reducible repeat (first | refine blk_drewN ?_ _ | refine blk_drew ?_ | refine blk_alloc ?_ _)); refine blk_put (cs := #[.int .i64 3, .int .i64 16, .int .i64 3, .int .i64 0, .int .i64 0, .int .u32 0, .int .u64 0, .int .i64 0, .int .i64 0, .int .i64 0, .int .i64 0]) ?_ 7 _ rfl; (with_reducible repeat (first | refine blk_drewN ?_ _ | refine blk_drew ?_ | refine blk_alloc ?_ _)); refine blk_put (cs := #[.int .i64 3, .int .i64 16, .int .i64 3, .int .i64 0, .int .i64 0, .int .u32 0, .int .u64 0, .int .i64 0, .int .i64 0, .int .i64 0, .int .i64 0]) ?_ 6 _ rfl; (with_reducible repeat (first | refine blk_drewN ?_ _ | refine blk_drew ?_ | refine blk_alloc ?_ _)); refine blk_put (cs := #[.int .i64 3, .int .i64 16, .int .i64 3, .int .i64 0, .int .i64 0, .int .u32 0, .int .u64 0, .int .i64 0, .int .i64 0, .int .i64 0, .int .i64 0]) ?_ 5 _ rfl; (with_reducible repeat (first | refine blk_drewN ?_ _ | refine blk_drew ?_ | refine blk_alloc ?_ _)); refine blk_put (cs := #[.int .i64 3, .int .i64 16, .int .i64 3, .int .i64 0, .int .i64 0, .int .u32 0, .int .u64 0, .int .i64 0, .int .i64 0, .int .i64 0, .int .i64 0]) ?_ 4 _ rfl; (with_reducible repeat (first | refine blk_drewN ?_ _ | refine blk_drew ?_ | refine blk_alloc ?_ _)); refine blk_put (cs := #[.int .i64 3, .int .i64 16, .int .i64 3, .int .i64 0, .int .i64 0, .int .u32 0, .int .u64 0, .int .i64 0, .int .i64 0, .int .i64 0, .int .i64 0]) ?_ 3 _ rfl; (with_reducible repeat (first | refine blk_drewN ?_ _ | refine blk_drew ?_ | refine blk_alloc ?_ _)); refine blk_put (cs := #[.int .i64 3, .int .i64 16, .int .i64 0, .int .i64 0, .int .i64 0, .int .u32 0, .int .u64 0, .int .i64 0, .int .i64 0, .int .i64 0, .int .i64 0]) ?_ 2 _ rfl; (with_reducible repeat (first | refine blk_drewN ?_ _ | refine blk_drew ?_ | refine blk_alloc ?_ _)); refine blk_put (cs := #[.int .i64 3, .int .i64 0, .int .i64 0, .int .i64 0, .int .i64 0, .int .u32 0, .int .u64 0, .int .i64 0, .int .i64 0, .int .i64 0, .int .i64 0]) ?_ 1 _ rfl; (with_reducible repeat (first | refine blk_drewN ?_ _ | refine blk_drew ?_ | refine blk_alloc ?_ _)); refine blk_put (cs := #[.int .i64 0, .int .i64 0, .int .i64 0, .int .i64 0, .int .i64 0, .int .u32 0, .int .u64 0, .int .i64 0, .int .i64 0, .int .i64 0, .int .i64 0]) ?_ 0 _ rfl; (with_reducible repeat (first | refine blk_drewN ?_ _ | refine blk_drew ?_ | refine blk_alloc ?_ _)); exact BK102.out) Try.underlying28 rfl (by kernel_rfl)) rfl ?_
 exact ⟨by first | rfl | (simp [errW_none, errW_some] <;> rfl) | (simp [*, errW_none, errW_some] <;> rfl), by repeat (first | (with_reducible first | exact HB.out | apply below_alloc | apply pw_below_drewN | apply below_drew1 | refine below_set ?_ GE101.out | refine below_set ?_ GE102.out) | exact HB.out)⟩
def foliotref17_New.f (l0_0 : List (S130)) (l0_1 : List (S132)) (l0_2 : List Int) (a0_3 : Int) (l0_4 : List (S134)) (a0_5 : ByteArray) (l0_6 : List ByteArray) (a0_7 : Int) (a0_8 : Bool) (a0_9 : Bool) (a0_10 : Int) (a0_11 : Int) (a0_12 : Int) (a0_13 : Int) (a0_14 : Int) : Option (Int × Int × Int × Int × Int × Int × Int × Int × Int × Int × Int) := some (3, 16, 3, 0, 0, 0, 0, 0, 4096, 0, 0)
theorem foliotref17_New.calls (A0_0 : Option Addr) (c0_0 : Nat) (l0_0 : List (S130)) (A0_1 : Option Addr) (c0_1 : Nat) (l0_1 : List (S132)) (A0_2 : Option Addr) (c0_2 : Nat) (l0_2 : List Int) (a0_3 : Int) (A0_4 : Option Addr) (c0_4 : Nat) (l0_4 : List (S134)) (a0_5 : ByteArray) (A0_6 : Option Addr) (c0_6 : Nat) (l0_6 : List ByteArray) (a0_7 : Int) (a0_8 : Bool) (a0_9 : Bool) (a0_10 : Int) (a0_11 : Int) (a0_12 : Int) (a0_13 : Int) (a0_14 : Int) (r1 : Int) (r2 : Int) (r3 : Int) (r4 : Int) (r5 : Int) (r6 : Int) (r7 : Int) (r8 : Int) (r9 : Int) (r10 : Int) (r11 : Int) (w : World) (hr0_0 : Kd.C k130 w A0_0 l0_0.length l0_0) (hc0_0 : l0_0.length ≤ c0_0) (hr0_1 : Kd.C k132 w A0_1 l0_1.length l0_1) (hc0_1 : l0_1.length ≤ c0_1) (hr0_2 : Kd.C (Kd.int .i64) w A0_2 l0_2.length l0_2) (hc0_2 : l0_2.length ≤ c0_2) (hr0_4 : Kd.C k134 w A0_4 l0_4.length l0_4) (hc0_4 : l0_4.length ≤ c0_4) (hr0_6 : Kd.C Kd.string w A0_6 l0_6.length l0_6) (hc0_6 : l0_6.length ≤ c0_6) (h : foliotref17_New.f l0_0 l0_1 l0_2 a0_3 l0_4 a0_5 l0_6 a0_7 a0_8 a0_9 a0_10 a0_11 a0_12 a0_13 a0_14 = some (r1, r2, r3, r4, r5, r6, r7, r8, r9, r10, r11)) :
  Calls Try.prog 15 #[.agg #[.slice A0_0 l0_0.length c0_0, .slice A0_1 l0_1.length c0_1, .slice A0_2 l0_2.length c0_2, .int .i64 a0_3, .slice A0_4 l0_4.length c0_4, .string a0_5, .slice A0_6 l0_6.length c0_6, .int .i64 a0_7, .bool a0_8, .bool a0_9, .int .i64 a0_10, .int .i64 a0_11, .int .i64 a0_12, .int .i64 a0_13, .int .i64 a0_14]] w fun e w' => e = .returned (.agg #[.int .i64 r1, .int .i64 r2, .int .i64 r3, .int .i64 r4, .int .i64 r5, .int .u32 r6, .int .u64 r7, .int .i64 r8, .int .i64 r9, .int .i64 r10, .int .i64 r11]) ∧ Below w.heap.size w w' := by
 have hu39 := Try.underlying39
 have hu28 := Try.underlying28
 have HR0_0 := Aside0.mk hr0_0
 have HC0_0 := Aside0.mk hc0_0
 clear hr0_0 hc0_0
 have HR0_1 := Aside0.mk hr0_1
 have HC0_1 := Aside0.mk hc0_1
 clear hr0_1 hc0_1
 have HR0_2 := Aside0.mk hr0_2
 have HC0_2 := Aside0.mk hc0_2
 clear hr0_2 hc0_2
 have HR0_4 := Aside0.mk hr0_4
 have HC0_4 := Aside0.mk hc0_4
 clear hr0_4 hc0_4
 have HR0_6 := Aside0.mk hr0_6
 have HC0_6 := Aside0.mk hc0_6
 clear hr0_6 hc0_6
 have HB := Aside0.mk (Below.refl w.heap.size w)
 have H : (some (3, 16, 3, 0, 0, 0, 0, 0, 4096, 0, 0)) = some (r1, r2, r3, r4, r5, r6, r7, r8, r9, r10, r11) := h
 clear h
 simp only [Option.some.injEq, Prod.mk.injEq] at H
 obtain ⟨rfl, rfl, rfl, rfl, rfl, rfl, rfl, rfl, rfl, rfl, rfl⟩ := H
 go_enter Try.func15, Try.ntmps15
 go_wp2_with (first | ((with_reducible refine gate_dst (N := 1) rfl ?_); refine box_event ?hg (N := 1) ?hd (cs := #[.slice A0_0 l0_0.length c0_0, .slice A0_1 l0_1.length c0_1, .slice A0_2 l0_2.length c0_2, .int .i64 a0_3, .slice A0_4 l0_4.length c0_4, .string a0_5, .slice A0_6 l0_6.length c0_6, .int .i64 a0_7, .bool a0_8, .bool a0_9, .int .i64 a0_10, .int .i64 a0_11, .int .i64 a0_12, .int .i64 a0_13, .int .i64 a0_14]) (t := 39) ?hr ?_; (case hd => rfl); (case hg => rfl); (case hr => first | (go_simp; done) | (go_simp; rfl)); intro gb103 hg w2 hbox hb; have n0_ := Aside0.mk (below_step (by repeat (first | (with_reducible first | exact HB.out | apply below_alloc | apply pw_below_drewN | apply below_drew1) | exact HB.out)) hb); have n1_ := Aside0.mk (hbox); have n2_ := Aside0.mk ((by rw [hg]; exact (below_size (by repeat (first | (with_reducible first | exact HB.out | apply below_alloc | apply pw_below_drewN | apply below_drew1) | exact HB.out))) : w.heap.size ≤ gb103)); have n3_ := Aside0.mk ((by rw [hg]; exact (below_size (by repeat (first | (with_reducible first | exact HB.out | apply below_alloc | apply pw_below_drewN | apply below_drew1) | exact HB.out))) : w.heap.size ≤ gb103)); clear HB; have HB := n0_; have BK103 := n1_; have GW103 := n2_; have GE103 := n3_; clear n0_ n1_ n2_ n3_; clear hb hbox hg) | ((with_reducible refine gate_dst (N := 2) rfl ?_); refine box_event ?hg (N := 2) ?hd (cs := #[.int .i64 0, .int .i64 0, .int .i64 0, .int .i64 0, .int .i64 0, .int .u32 0, .int .u64 0, .int .i64 0, .int .i64 0, .int .i64 0, .int .i64 0]) (t := 28) ?hr ?_; (case hd => rfl); (case hg => rfl); (case hr => first | (go_simp; done) | (go_simp; rfl)); intro gb104 hg w3 hbox hb; have n0_ := Aside0.mk (blk_below (g := gb103) (o := .cells #[.slice A0_0 l0_0.length c0_0, .slice A0_1 l0_1.length c0_1, .slice A0_2 l0_2.length c0_2, .int .i64 a0_3, .slice A0_4 l0_4.length c0_4, .string a0_5, .slice A0_6 l0_6.length c0_6, .int .i64 a0_7, .bool a0_8, .bool a0_9, .int .i64 a0_10, .int .i64 a0_11, .int .i64 a0_12, .int .i64 a0_13, .int .i64 a0_14] 39 (0, 0)) (by (with_reducible repeat (first | refine blk_drewN ?_ _ | refine blk_drew ?_ | refine blk_alloc ?_ _)); exact BK103.out) hb); have n1_ := Aside0.mk (below_step (by repeat (first | (with_reducible first | exact HB.out | apply below_alloc | apply pw_below_drewN | apply below_drew1 | refine below_set ?_ GE103.out) | exact HB.out)) hb); have n2_ := Aside0.mk (hbox); have n3_ := Aside0.mk ((by rw [hg]; exact (below_size (by repeat (first | (with_reducible first | exact HB.out | apply below_alloc | apply pw_below_drewN | apply below_drew1 | refine below_set ?_ GE103.out) | exact HB.out))) : w.heap.size ≤ gb104)); have n4_ := Aside0.mk ((by rw [hg]; exact (below_size (by repeat (first | (with_reducible first | exact HB.out | apply below_alloc | apply pw_below_drewN | apply below_drew1 | refine below_set ?_ GE103.out) | exact HB.out))) : w.heap.size ≤ gb104)); have n5_ := Aside0.mk ((by rw [hg]; exact Nat.ne_of_lt (blk_lt (g := gb103) (o := .cells #[.slice A0_0 l0_0.length c0_0, .slice A0_1 l0_1.length c0_1, .slice A0_2 l0_2.length c0_2, .int .i64 a0_3, .slice A0_4 l0_4.length c0_4, .string a0_5, .slice A0_6 l0_6.length c0_6, .int .i64 a0_7, .bool a0_8, .bool a0_9, .int .i64 a0_10, .int .i64 a0_11, .int .i64 a0_12, .int .i64 a0_13, .int .i64 a0_14] 39 (0, 0)) (by (with_reducible repeat (first | refine blk_drewN ?_ _ | refine blk_drew ?_ | refine blk_alloc ?_ _)); exact BK103.out)) : gb103 ≠ gb104)); have n6_ := Aside0.mk ((by rw [hg]; exact Nat.ne_of_gt (blk_lt (g := gb103) (o := .cells #[.slice A0_0 l0_0.length c0_0, .slice A0_1 l0_1.length c0_1, .slice A0_2 l0_2.length c0_2, .int .i64 a0_3, .slice A0_4 l0_4.length c0_4, .string a0_5, .slice A0_6 l0_6.length c0_6, .int .i64 a0_7, .bool a0_8, .bool a0_9, .int .i64 a0_10, .int .i64 a0_11, .int .i64 a0_12, .int .i64 a0_13, .int .i64 a0_14] 39 (0, 0)) (by (with_reducible repeat (first | refine blk_drewN ?_ _ | refine blk_drew ?_ | refine blk_alloc ?_ _)); exact BK103.out)) : gb104 ≠ gb103)); clear BK103; clear HB; have BK103 := n0_; have HB := n1_; have BK104 := n2_; have GW104 := n3_; have GE104 := n4_; have NB103_104 := n5_; have NB104_103 := n6_; clear n0_ n1_ n2_ n3_ n4_ n5_ n6_; clear hb hbox hg; have hnb4 := NB104_103.out; have hnc4 := NB103_104.out; have hcz5_0 : w3.cell? ⟨gb104, 0, none⟩ = some (.int .i64 0) := (blk_cell BK104.out 0).trans rfl; have hcz5_1 : w3.cell? ⟨gb104, 1, none⟩ = some (.int .i64 0) := (blk_cell BK104.out 1).trans rfl; have hcz5_2 : w3.cell? ⟨gb104, 2, none⟩ = some (.int .i64 0) := (blk_cell BK104.out 2).trans rfl; have hcz5_3 : w3.cell? ⟨gb104, 3, none⟩ = some (.int .i64 0) := (blk_cell BK104.out 3).trans rfl; have hcz5_4 : w3.cell? ⟨gb104, 4, none⟩ = some (.int .i64 0) := (blk_cell BK104.out 4).trans rfl; have hcz5_5 : w3.cell? ⟨gb104, 5, none⟩ = some (.int .u32 0) := (blk_cell BK104.out 5).trans rfl; have hcz5_6 : w3.cell? ⟨gb104, 6, none⟩ = some (.int .u64 0) := (blk_cell BK104.out 6).trans rfl; have hcz5_7 : w3.cell? ⟨gb104, 7, none⟩ = some (.int .i64 0) := (blk_cell BK104.out 7).trans rfl; have hcz5_8 : w3.cell? ⟨gb104, 8, none⟩ = some (.int .i64 0) := (blk_cell BK104.out 8).trans rfl; have hcz5_9 : w3.cell? ⟨gb104, 9, none⟩ = some (.int .i64 0) := (blk_cell BK104.out 9).trans rfl; have hcz5_10 : w3.cell? ⟨gb104, 10, none⟩ = some (.int .i64 0) := (blk_cell BK104.out 10).trans rfl; have hfz5_0 := blk_frozen BK104.out 0; have hfz5_1 := blk_frozen BK104.out 1; have hfz5_2 := blk_frozen BK104.out 2; have hfz5_3 := blk_frozen BK104.out 3; have hfz5_4 := blk_frozen BK104.out 4; have hfz5_5 := blk_frozen BK104.out 5; have hfz5_6 := blk_frozen BK104.out 6; have hfz5_7 := blk_frozen BK104.out 7; have hfz5_8 := blk_frozen BK104.out 8; have hfz5_9 := blk_frozen BK104.out 9; have hfz5_10 := blk_frozen BK104.out 10))
 refine bodyPost_ret (results_cell_row rfl _ _ gb104 28 #[.int .i64 3, .int .i64 16, .int .i64 3, .int .i64 0, .int .i64 0, .int .u32 0, .int .u64 0, .int .i64 0, .int .i64 4096, .int .i64 0, .int .i64 0] (0, 0) _ rfl (by (with_reducible repeat (first | refine blk_drewN ?_ _ | refine blk_drew ?_ | refine blk_alloc ?_ _)); refine blk_put (cs := #[.int .i64 3, .int .i64 16, .int .i64 3, .int .i64 0, .int .i64 0, .int .u32 0, .int .u64 0, .int .i64 0, .int .i64 4096, .int .i64 0, .int .i64 0]) ?_ 10 _ rfl; (with_reducible repeat (first | refine blk_drewN ?_ _ | refine blk_drew ?_ | refine blk_alloc ?_ _)); refine blk_put (cs := #[.int .i64 3, .int .i64 16, .int .i64 3, .int .i64 0, .int .i64 0, .int .u32 0, .int .u64 0, .int .i64 0, .int .i64 4096, .int .i64 0, .int .i64 0]) ?_ 9 _ rfl; (with_reducible repeat (first | refine blk_drewN ?_ _ | refine blk_drew ?_ | refine blk_alloc ?_ _)); refine blk_put (cs := #[.int .i64 3, .int .i64 16, .int .i64 3, .int .i64 0, .int .i64 0, .int .u32 0, .int .u64 0, .int .i64 0, .int .i64 0, .int .i64 0, .int .i64 0]) ?_ 8 _ rfl; (with_reducible repeat (first | refine blk_drewN ?_ _ | refine blk_drew ?_ | refine blk_alloc ?_ _)); refine blk_put (cs := #[.int .i64 3, .int .i64 16, .int .i64 3, .int .i64 0, .int .i64 0, .int .u32 0, .int .u64 0, .int .i64 0, .int .i64 0, .int .i64 0, .int .i64 0]) ?_ 7 _ rfl; (with_reducible repeat (first | refine blk_drewN ?_ _ | refine blk_drew ?_ | refine blk_alloc ?_ _)); refine blk_put (cs := #[.int .i64 3, .int .i64 16, .int .i64 3, .int .i64 0, .int .i64 0, .int .u32 0, .int .u64 0, .int .i64 0, .int .i64 0, .int .i64 0, .int .i64 0]) ?_ 6 _ rfl; (with_reducible repeat (first | refine blk_drewN ?_ _ | refine blk_drew ?_ | refine blk_alloc ?_ _)); refine blk_put (cs := #[.int .i64 3, .int .i64 16, .int .i64 3, .int .i64 0, .int .i64 0, .int .u32 0, .int .u64 0, .int .i64 0, .int .i64 0, .int .i64 0, .int .i64 0]) ?_ 5 _ rfl; (with_reducible repeat (first | refine blk_drewN ?_ _ | refine blk_drew ?_ | refine blk_alloc ?_ _)); refine blk_put (cs := #[.int .i64 3, .int .i64 16, .int .i64 3, .int .i64 0, .int .i64 0, .int .u32 0, .int .u64 0, .int .i64 0, .int .i64 0, .int .i64 0, .int .i64 0]) ?_ 4 _ rfl; (with_reducible repeat (first | refine blk_drewN ?_ _ | refine blk_drew ?_ | refine blk_alloc ?_ _)); refine blk_put (cs := #[.int .i64 3, .int .i64 16, .int .i64 3, .int .i64 0, .int .i64 0, .int .u32 0, .int .u64 0, .int .i64 0, .int .i64 0, .int .i64 0, .int .i64 0]) ?_ 3 _ rfl; (with_reducible repeat (first | refine blk_drewN ?_ _ | refine blk_drew ?_ | refine blk_alloc ?_ _)); refine blk_put (cs := #[.int .i64 3, .int .i64 16, .int .i64 0, .int .i64 0, .int .i64 0, .int .u32 0, .int .u64 0, .int .i64 0, .int .i64 0, .int .i64 0, .int .i64 0]) ?_ 2 _ rfl; (with_reducible repeat (first | refine blk_drewN ?_ _ | refine blk_drew ?_ | refine blk_alloc ?_ _)); refine blk_put (cs := #[.int .i64 3, .int .i64 0, .int .i64 0, .int .i64 0, .int .i64 0, .int .u32 0, .int .u64 0, .int .i64 0, .int .i64 0, .int .i64 0, .int .i64 0]) ?_ 1 _ rfl; (with_reducible repeat (first | refine blk_drewN ?_ _ | refine blk_drew ?_ | refine blk_alloc ?_ _)); refine blk_put (cs := #[.int .i64 0, .int .i64 0, .int .i64 0, .int .i64 0, .int .i64 0, .int .u32 0, .int .u64 0, .int .i64 0, .int .i64 0, .int .i64 0, .int .i64 0]) ?_ 0 _ rfl; (with_reducible repeat (first | refine blk_drewN ?_ _ | refine blk_drew ?_ | refine blk_alloc ?_ _)); exact BK104.out) Try.underlying28 rfl (by kernel_rfl)) rfl ?_
 exact ⟨by first | rfl | (simp [errW_none, errW_some] <;> rfl) | (simp [*, errW_none, errW_some] <;> rfl), by repeat (first | (with_reducible first | exact HB.out | apply below_alloc | apply pw_below_drewN | apply below_drew1 | refine below_set ?_ GE103.out | refine below_set ?_ GE104.out) | exact HB.out)⟩
def fixed_whole_cut.j0 : Nat → Int → Bool → Int → Int → Bool → Option (Int)
 | 0, _, _, _, _, _ => none
 | k + 1, x5, x16, x106000, x106001, x106002 => if x16 = true then (if x106002 = true then (some (wrap64 (-(wrap64 (x106001))))) else (some (wrap64 (x106001)))) else (if x106002 = true then (some (wrap64 (-x5))) else (some x5))
def fixed_whole_cut.f (k : Nat) (a0_0 : Int) (a0_1 : Int) (a0_2 : Bool) (a1 : Int) : Option (Int) := if a0_0 = 0 then (fixed_whole_cut.j0 k a1 (decide (a0_1 < (IntKind.u64.wrap (a1)))) a0_0 a0_1 a0_2) else (fixed_whole_cut.j0 k a1 false a0_0 a0_1 a0_2)
theorem fixed_whole_cut.calls (k : Nat) (a0_0 : Int) (a0_1 : Int) (a0_2 : Bool) (a1 : Int) (r : Int) (w : World) (h : fixed_whole_cut.f k a0_0 a0_1 a0_2 a1 = some r) :
  Calls Try.prog 58 #[.agg #[.int .u64 a0_0, .int .u64 a0_1, .bool a0_2], .int .i64 a1] w fun e w' => e = .returned (.int .i64 r) ∧ Below w.heap.size w w' := by
 have hu78 := Try.underlying78
 have HB := Aside0.mk (Below.refl w.heap.size w)
 have H : (if a0_0 = 0 then (fixed_whole_cut.j0 k a1 (decide (a0_1 < (IntKind.u64.wrap (a1)))) a0_0 a0_1 a0_2) else (fixed_whole_cut.j0 k a1 false a0_0 a0_1 a0_2)) = some r := h
 clear h
 have HC3 := Aside0.mk H
 clear H
 go_enter Try.func58, Try.ntmps58
 go_upto_region 2 with (first | ((with_reducible refine gate_dst (N := 2) rfl ?_); refine box_event ?hg (N := 2) ?hd (cs := #[.int .u64 a0_0, .int .u64 a0_1, .bool a0_2]) (t := 78) ?hr ?_; (case hd => rfl); (case hg => rfl); (case hr => first | (go_simp; done) | (go_simp; rfl)); intro gb105 hg w4 hbox hb; have n0_ := Aside0.mk (below_step (by repeat (first | (with_reducible first | exact HB.out | apply below_alloc | apply pw_below_drewN | apply below_drew1) | exact HB.out)) hb); have n1_ := Aside0.mk (hbox); have n2_ := Aside0.mk ((by rw [hg]; exact (below_size (by repeat (first | (with_reducible first | exact HB.out | apply below_alloc | apply pw_below_drewN | apply below_drew1) | exact HB.out))) : w.heap.size ≤ gb105)); have n3_ := Aside0.mk ((by rw [hg]; exact (below_size (by repeat (first | (with_reducible first | exact HB.out | apply below_alloc | apply pw_below_drewN | apply below_drew1) | exact HB.out))) : w.heap.size ≤ gb105)); clear HB; have HB := n0_; have BK105 := n1_; have GW105 := n2_; have GE105 := n3_; clear n0_ n1_ n2_ n3_; clear hb hbox hg))
 (try simp only [Act.put, List.setIfInBounds_toArray, List.set_cons_zero, List.set_cons_succ])
 go_cut [16] (fun v16 wc => ∃ (kq : Nat) (x16_2 : Bool), v16 = .bool x16_2 ∧ Aside0 (fixed_whole_cut.j0 kq a1 x16_2 a0_0 a0_1 a0_2 = some r) ∧ Aside0 (kq ≤ k) ∧ Aside0 (wc.heap[gb105]? = some (.cells #[.int .u64 a0_0, .int .u64 a0_1, .bool a0_2] 78 (0, 0))) ∧ Aside0 (Below w.heap.size w wc))
 case first =>
  have H := HC3.out
  clear HC3
  by_cases c5 : a0_0 = 0
  ·rw [if_pos c5] at H
   have c5b0 : (a0_0 == 0) = true := beq_iff_eq.mpr c5
   have c5b1 : (a0_0 != 0) = false := bne_eq_false_iff_eq.mpr c5
   clear c5
   (first | rw [c5b0] | (simp only [i64_w, i32_w]; rw [c5b0]) | skip)
   have H' := Aside0.mk H
   clear H
   have hcz6_0 : w4.cell? ⟨gb105, 0, none⟩ = some (.int .u64 a0_0) := (blk_cell BK105.out 0).trans rfl
   have hcz6_1 : w4.cell? ⟨gb105, 1, none⟩ = some (.int .u64 a0_1) := (blk_cell BK105.out 1).trans rfl
   have hcz6_2 : w4.cell? ⟨gb105, 2, none⟩ = some (.bool a0_2) := (blk_cell BK105.out 2).trans rfl
   have hfz6_0 := blk_frozen BK105.out 0
   have hfz6_1 := blk_frozen BK105.out 1
   have hfz6_2 := blk_frozen BK105.out 2
   go_wp2
   go_meet
   case rel => first | (exact ⟨_, (decide (a0_1 < (IntKind.u64.wrap (a1)))), (by first | rfl | (simp; done) | (simp [*]; done)), H', ⟨by first | omega | exact Nat.le_refl _⟩, ⟨by (with_reducible repeat (first | refine blk_drewN ?_ _ | refine blk_drew ?_ | refine blk_alloc ?_ _)); exact BK105.out⟩, ⟨by repeat (first | (with_reducible first | exact HB.out | apply below_alloc | apply pw_below_drewN | apply below_drew1 | refine below_set ?_ GE105.out) | exact HB.out)⟩⟩) | ((try rw [c5b0] at H'); (try rw [c5b0]); exact ⟨_, (decide (a0_1 < (IntKind.u64.wrap (a1)))), (by first | rfl | (simp; done) | (simp [*]; done)), H', ⟨by first | omega | exact Nat.le_refl _⟩, ⟨by (with_reducible repeat (first | refine blk_drewN ?_ _ | refine blk_drew ?_ | refine blk_alloc ?_ _)); exact BK105.out⟩, ⟨by repeat (first | (with_reducible first | exact HB.out | apply below_alloc | apply pw_below_drewN | apply below_drew1 | refine below_set ?_ GE105.out) | exact HB.out)⟩⟩)
  ·rw [if_neg c5] at H
   have c5b0 : (a0_0 == 0) = false := beq_eq_false_iff_ne.mpr c5
   have c5b1 : (a0_0 != 0) = true := bne_iff_ne.mpr c5
   (first | rw [c5b0] | (simp only [i64_w, i32_w]; rw [c5b0]) | skip)
   have H' := Aside0.mk H
   clear H
   have hcz7_0 : w4.cell? ⟨gb105, 0, none⟩ = some (.int .u64 a0_0) := (blk_cell BK105.out 0).trans rfl
   have hcz7_1 : w4.cell? ⟨gb105, 1, none⟩ = some (.int .u64 a0_1) := (blk_cell BK105.out 1).trans rfl
   have hcz7_2 : w4.cell? ⟨gb105, 2, none⟩ = some (.bool a0_2) := (blk_cell BK105.out 2).trans rfl
   have hfz7_0 := blk_frozen BK105.out 0
   have hfz7_1 := blk_frozen BK105.out 1
   have hfz7_2 := blk_frozen BK105.out 2
   go_wp2
   go_meet
   case rel => first | (exact ⟨_, (false), (by first | rfl | (simp; done) | (simp [*]; done)), H', ⟨by first | omega | exact Nat.le_refl _⟩, ⟨by (with_reducible repeat (first | refine blk_drewN ?_ _ | refine blk_drew ?_ | refine blk_alloc ?_ _)); exact BK105.out⟩, ⟨by repeat (first | (with_reducible first | exact HB.out | apply below_alloc | apply pw_below_drewN | apply below_drew1 | refine below_set ?_ GE105.out) | exact HB.out)⟩⟩) | ((try rw [c5b0] at H'); (try rw [c5b0]); exact ⟨_, (false), (by first | rfl | (simp; done) | (simp [*]; done)), H', ⟨by first | omega | exact Nat.le_refl _⟩, ⟨by (with_reducible repeat (first | refine blk_drewN ?_ _ | refine blk_drew ?_ | refine blk_alloc ?_ _)); exact BK105.out⟩, ⟨by repeat (first | (with_reducible first | exact HB.out | apply below_alloc | apply pw_below_drewN | apply below_drew1 | refine below_set ?_ GE105.out) | exact HB.out)⟩⟩)
 case rest =>
  clear HC3
  try clear p2
  try clear c5
  try clear c5b0
  try clear c5b1
  try clear hcz6_0
  try clear hcz6_1
  try clear hcz6_2
  try clear hcz7_0
  try clear hcz7_1
  try clear hcz7_2
  try clear hfz6_0
  try clear hfz6_1
  try clear hfz6_2
  try clear hfz7_0
  try clear hfz7_1
  try clear hfz7_2
  obtain ⟨kq, x16_2, rfl, HA, HJ2, BK105, HB⟩ := hcut
  cases kq with
  | zero => exact absurd HA.out (by simp [fixed_whole_cut.j0])
  | succ kj2 =>
   have H := HA.out
   clear HA
   simp only [fixed_whole_cut.j0] at H
   by_cases c8 : x16_2 = true
   ·subst c8
    have H1 : (if a0_2 = true then (some (wrap64 (-(wrap64 (a0_1))))) else (some (wrap64 (a0_1)))) = some r := by rw [if_pos rfl] at H; exact H
    clear H
    have H := H1
    clear H1
    by_cases c9 : a0_2 = true
    ·subst c9
     have H1 : (some (wrap64 (-(wrap64 (a0_1))))) = some r := by rw [if_pos rfl] at H; exact H
     clear H
     have H := H1
     clear H1
     obtain rfl := Option.some.inj H
     have hcz10_0 : wc.cell? ⟨gb105, 0, none⟩ = some (.int .u64 a0_0) := (blk_cell BK105.out 0).trans rfl
     have hcz10_1 : wc.cell? ⟨gb105, 1, none⟩ = some (.int .u64 a0_1) := (blk_cell BK105.out 1).trans rfl
     have hcz10_2 : wc.cell? ⟨gb105, 2, none⟩ = some (.bool true) := (blk_cell BK105.out 2).trans rfl
     have hfz10_0 := blk_frozen BK105.out 0
     have hfz10_1 := blk_frozen BK105.out 1
     have hfz10_2 := blk_frozen BK105.out 2
     go_wp2
     go_ret
     exact ⟨by first | rfl | (simp [errW_none, errW_some] <;> rfl) | (simp [*, errW_none, errW_some] <;> rfl), by repeat (first | (with_reducible first | exact HB.out | apply below_alloc | apply pw_below_drewN | apply below_drew1 | refine below_set ?_ GE105.out) | exact HB.out)⟩
    ·replace c9 := Bool.eq_false_iff.mpr c9
     subst c9
     have H1 : (some (wrap64 (a0_1))) = some r := by rw [if_neg (show ¬ (false = true) by decide)] at H; exact H
     clear H
     have H := H1
     clear H1
     obtain rfl := Option.some.inj H
     have hcz11_0 : wc.cell? ⟨gb105, 0, none⟩ = some (.int .u64 a0_0) := (blk_cell BK105.out 0).trans rfl
     have hcz11_1 : wc.cell? ⟨gb105, 1, none⟩ = some (.int .u64 a0_1) := (blk_cell BK105.out 1).trans rfl
     have hcz11_2 : wc.cell? ⟨gb105, 2, none⟩ = some (.bool false) := (blk_cell BK105.out 2).trans rfl
     have hfz11_0 := blk_frozen BK105.out 0
     have hfz11_1 := blk_frozen BK105.out 1
     have hfz11_2 := blk_frozen BK105.out 2
     go_wp2
     go_ret
     exact ⟨by first | rfl | (simp [errW_none, errW_some] <;> rfl) | (simp [*, errW_none, errW_some] <;> rfl), by repeat (first | (with_reducible first | exact HB.out | apply below_alloc | apply pw_below_drewN | apply below_drew1 | refine below_set ?_ GE105.out) | exact HB.out)⟩
   ·replace c8 := Bool.eq_false_iff.mpr c8
    subst c8
    have H1 : (if a0_2 = true then (some (wrap64 (-a1))) else (some a1)) = some r := by rw [if_neg (show ¬ (false = true) by decide)] at H; exact H
    clear H
    have H := H1
    clear H1
    by_cases c12 : a0_2 = true
    ·subst c12
     have H1 : (some (wrap64 (-a1))) = some r := by rw [if_pos rfl] at H; exact H
     clear H
     have H := H1
     clear H1
     obtain rfl := Option.some.inj H
     have hcz13_0 : wc.cell? ⟨gb105, 0, none⟩ = some (.int .u64 a0_0) := (blk_cell BK105.out 0).trans rfl
     have hcz13_1 : wc.cell? ⟨gb105, 1, none⟩ = some (.int .u64 a0_1) := (blk_cell BK105.out 1).trans rfl
     have hcz13_2 : wc.cell? ⟨gb105, 2, none⟩ = some (.bool true) := (blk_cell BK105.out 2).trans rfl
     have hfz13_0 := blk_frozen BK105.out 0
     have hfz13_1 := blk_frozen BK105.out 1
     have hfz13_2 := blk_frozen BK105.out 2
     go_wp2
     go_ret
     exact ⟨by first | rfl | (simp [errW_none, errW_some] <;> rfl) | (simp [*, errW_none, errW_some] <;> rfl), by repeat (first | (with_reducible first | exact HB.out | apply below_alloc | apply pw_below_drewN | apply below_drew1 | refine below_set ?_ GE105.out) | exact HB.out)⟩
    ·replace c12 := Bool.eq_false_iff.mpr c12
     subst c12
     have H1 : (some a1) = some r := by rw [if_neg (show ¬ (false = true) by decide)] at H; exact H
     clear H
     have H := H1
     clear H1
     obtain rfl := Option.some.inj H
     have hcz14_0 : wc.cell? ⟨gb105, 0, none⟩ = some (.int .u64 a0_0) := (blk_cell BK105.out 0).trans rfl
     have hcz14_1 : wc.cell? ⟨gb105, 1, none⟩ = some (.int .u64 a0_1) := (blk_cell BK105.out 1).trans rfl
     have hcz14_2 : wc.cell? ⟨gb105, 2, none⟩ = some (.bool false) := (blk_cell BK105.out 2).trans rfl
     have hfz14_0 := blk_frozen BK105.out 0
     have hfz14_1 := blk_frozen BK105.out 1
     have hfz14_2 := blk_frozen BK105.out 2
     go_wp2
     go_ret
     exact ⟨by first | rfl | (simp [errW_none, errW_some] <;> rfl) | (simp [*, errW_none, errW_some] <;> rfl), by repeat (first | (with_reducible first | exact HB.out | apply below_alloc | apply pw_below_drewN | apply below_drew1 | refine below_set ?_ GE105.out) | exact HB.out)⟩
def fixed_whole_span.f (k : Nat) (a0_0 : Int) (a0_1 : Int) (a0_2 : Bool) : Option (Int) := (fixed_whole_cut.f k a0_0 a0_1 a0_2 4611686018427387904).bind fun t107 => (some t107)
theorem fixed_whole_span.calls (k : Nat) (a0_0 : Int) (a0_1 : Int) (a0_2 : Bool) (r : Int) (w : World) (h : fixed_whole_span.f k a0_0 a0_1 a0_2 = some r) :
  Calls Try.prog 43 #[.agg #[.int .u64 a0_0, .int .u64 a0_1, .bool a0_2]] w fun e w' => e = .returned (.int .i64 r) ∧ Below w.heap.size w w' := by
 have hu78 := Try.underlying78
 have HB := Aside0.mk (Below.refl w.heap.size w)
 have H : ((fixed_whole_cut.f k a0_0 a0_1 a0_2 4611686018427387904).bind fun t107 => (some t107)) = some r := h
 clear h
 replace H := Option.bind_eq_some_iff.mp H
 obtain ⟨t107, A20, H⟩ := H
 replace H : (some t107) = some r := H
 have A2 := Aside0.mk A20
 clear A20
 obtain rfl := Option.some.inj H
 go_enter Try.func43, Try.ntmps43
 go_wp2_with (first | ((with_reducible refine gate_dst (N := 1) rfl ?_); refine box_event ?hg (N := 1) ?hd (cs := #[.int .u64 a0_0, .int .u64 a0_1, .bool a0_2]) (t := 78) ?hr ?_; (case hd => rfl); (case hg => rfl); (case hr => first | (go_simp; done) | (go_simp; rfl)); intro gb106 hg w3 hbox hb; have n0_ := Aside0.mk (below_step (by repeat (first | (with_reducible first | exact HB.out | apply below_alloc | apply pw_below_drewN | apply below_drew1) | exact HB.out)) hb); have n1_ := Aside0.mk (hbox); have n2_ := Aside0.mk ((by rw [hg]; exact (below_size (by repeat (first | (with_reducible first | exact HB.out | apply below_alloc | apply pw_below_drewN | apply below_drew1) | exact HB.out))) : w.heap.size ≤ gb106)); have n3_ := Aside0.mk ((by rw [hg]; exact (below_size (by repeat (first | (with_reducible first | exact HB.out | apply below_alloc | apply pw_below_drewN | apply below_drew1) | exact HB.out))) : w.heap.size ≤ gb106)); clear HB; have HB := n0_; have BK106 := n1_; have GW106 := n2_; have GE106 := n3_; clear n0_ n1_ n2_ n3_; clear hb hbox hg; have hcz4_0 : w3.cell? ⟨gb106, 0, none⟩ = some (.int .u64 a0_0) := (blk_cell BK106.out 0).trans rfl; have hcz4_1 : w3.cell? ⟨gb106, 1, none⟩ = some (.int .u64 a0_1) := (blk_cell BK106.out 1).trans rfl; have hcz4_2 : w3.cell? ⟨gb106, 2, none⟩ = some (.bool a0_2) := (blk_cell BK106.out 2).trans rfl; have hfz4_0 := blk_frozen BK106.out 0; have hfz4_1 := blk_frozen BK106.out 1; have hfz4_2 := blk_frozen BK106.out 2) | ((with_reducible refine gate_callee (f := 58) rfl ?_); refine goesL_ (some 4) rfl rfl Try.func58 (by kernel_rfl) rfl #[.agg #[.int .u64 a0_0, .int .u64 a0_1, .bool a0_2], .int .i64 4611686018427387904] rfl (by (try simp only [List.map_toArray, List.map_cons, List.map_nil]); first | done | rfl | (simp only [List.length_drop, List.length_take]; rfl)) ?_; (with_reducible refine (fixed_whole_cut.calls k a0_0 a0_1 a0_2 4611686018427387904 t107 _ A2.out).mono ?_); rintro e w5 ⟨rfl, hb⟩; refine ⟨_, rfl, ?_⟩; have n0_ := Aside0.mk (blk_below (g := gb106) (o := .cells #[.int .u64 a0_0, .int .u64 a0_1, .bool a0_2] 78 (0, 0)) (by (with_reducible repeat (first | refine blk_drewN ?_ _ | refine blk_drew ?_ | refine blk_alloc ?_ _)); exact BK106.out) hb); have n1_ := Aside0.mk (below_step (by repeat (first | (with_reducible first | exact HB.out | apply below_alloc | apply pw_below_drewN | apply below_drew1 | refine below_set ?_ GE106.out) | exact HB.out)) hb); clear BK106; clear HB; have BK106 := n0_; have HB := n1_; clear n0_ n1_; (try clear hb); (try clear hb2); (try clear hk); (try clear hi)))
 go_ret
 exact ⟨by first | rfl | (simp [errW_none, errW_some] <;> rfl) | (simp [*, errW_none, errW_some] <;> rfl), by repeat (first | (with_reducible first | exact HB.out | apply below_alloc | apply pw_below_drewN | apply below_drew1 | refine below_set ?_ GE106.out) | exact HB.out)⟩
end Go.Proofs.Ytbcdoncnhhjjeaa.PSystemAges
