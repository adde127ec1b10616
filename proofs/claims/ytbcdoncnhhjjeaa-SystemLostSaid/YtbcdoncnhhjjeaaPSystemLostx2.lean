-- Written by a program (extend_print.py). Not trusted: Lean checks it.
import Derived.Test.YtbcdoncnhhjjeaaQSystemLost
import Derived.Test.YtbcdoncnhhjjeaaVSystemLostLoads
import Derived.Test.YtbcdoncnhhjjeaaVSystemLostShort
import Derived.Test.YtbcdoncnhhjjeaaPSystemLostx0
namespace Go.Proofs.Ytbcdoncnhhjjeaa.PSystemLost
open Go.RowKit Go.Proofs.YtbcdoncnhhjjeaaW.PrintWords Go.Proofs.YtbcdoncnhhjjeaaW.PrintLast Go.Proofs.YtbcdoncnhhjjeaaW.PrintMore
attribute [local go_sem] max2_int min2_int max_two min_two max_three min_three max_four min_four
set_option linter.unusedVariables false
set_option maxHeartbeats 8000000
set_option maxRecDepth 100000
set_option linter.unusedSimpArgs false
def system_Orphan.f (a0_0 : Int) (a0_1 : Int) (a0_2 : Int) (a0_3 : Int) (a0_4 : Int) (a0_5 : Int) (a0_6 : Int) (a0_7 : Int) (a0_8 : Int) (a0_9 : Int) (a0_10 : Int) (l1_0 : List (S130)) (l1_1 : List (S132)) (l1_2 : List Int) (a1_3 : Int) (l1_4 : List (S134)) (a1_5 : ByteArray) (l1_6 : List ByteArray) (a1_7 : Int) (a1_8 : Bool) (a1_9 : Bool) (a1_10 : Int) (a1_11 : Int) (a1_12 : Int) (a1_13 : Int) (a1_14 : Int) (a2 : Int) : Option (Int × Int × Int × Int × Int × Int × Int × Int × Int × Int × Int) := if a1_7 < 1 then (some (a0_0, a0_1, a0_2, a0_3, a0_4, a0_5, a0_6, a0_7, a0_8, a0_9, a0_10)) else (if a1_7 ≥ 16 then (some (a0_0, a0_1, a0_2, a0_3, a0_4, a0_5, a0_6, a0_7, a0_8, a0_9, a0_10)) else (some (0, a1_7, a0_2, 0, 4194304, 2130706433, a2, a0_7, a0_8, 0, a0_10)))
def system_Orphan.T3 : Bool × List (List Nat × List Nat) := (true, [([], []), ([0], [0]), ([], []), ([2], [2]), ([0, 1, 2, 3], []), ([4, 1, 3, 0, 1, 2, 3], [1, 4]), ([0, 1, 2, 3, 4, 5], []), ([6, 5, 0, 1, 2, 3, 4, 5], [6]), ([0, 1, 2, 3, 4, 5, 6, 7], []), ([8, 7, 0, 1, 2, 3, 4, 5, 6, 7], [8])])
def system_Orphan.B3 : List Nat := [0, 1, 0, 4, 15, 31, 63, 127, 255, 511]
theorem system_Orphan.tab3 : rtab .any (opsOf Try.f10 3) = system_Orphan.T3 := by kernel_rfl
theorem system_Orphan.bits3 : waitsOk system_Orphan.T3.2 system_Orphan.B3 = true := by kernel_rfl
theorem system_Orphan.calls (a0_0 : Int) (a0_1 : Int) (a0_2 : Int) (a0_3 : Int) (a0_4 : Int) (a0_5 : Int) (a0_6 : Int) (a0_7 : Int) (a0_8 : Int) (a0_9 : Int) (a0_10 : Int) (A1_0 : Option Addr) (c1_0 : Nat) (l1_0 : List (S130)) (A1_1 : Option Addr) (c1_1 : Nat) (l1_1 : List (S132)) (A1_2 : Option Addr) (c1_2 : Nat) (l1_2 : List Int) (a1_3 : Int) (A1_4 : Option Addr) (c1_4 : Nat) (l1_4 : List (S134)) (a1_5 : ByteArray) (A1_6 : Option Addr) (c1_6 : Nat) (l1_6 : List ByteArray) (a1_7 : Int) (a1_8 : Bool) (a1_9 : Bool) (a1_10 : Int) (a1_11 : Int) (a1_12 : Int) (a1_13 : Int) (a1_14 : Int) (a2 : Int) (r1 : Int) (r2 : Int) (r3 : Int) (r4 : Int) (r5 : Int) (r6 : Int) (r7 : Int) (r8 : Int) (r9 : Int) (r10 : Int) (r11 : Int) (w : World) (hr1_0 : Kd.C k130 w A1_0 l1_0.length l1_0) (hc1_0 : l1_0.length ≤ c1_0) (hr1_1 : Kd.C k132 w A1_1 l1_1.length l1_1) (hc1_1 : l1_1.length ≤ c1_1) (hr1_2 : Kd.C (Kd.int .i64) w A1_2 l1_2.length l1_2) (hc1_2 : l1_2.length ≤ c1_2) (hr1_4 : Kd.C k134 w A1_4 l1_4.length l1_4) (hc1_4 : l1_4.length ≤ c1_4) (hr1_6 : Kd.C Kd.string w A1_6 l1_6.length l1_6) (hc1_6 : l1_6.length ≤ c1_6) (h : system_Orphan.f a0_0 a0_1 a0_2 a0_3 a0_4 a0_5 a0_6 a0_7 a0_8 a0_9 a0_10 l1_0 l1_1 l1_2 a1_3 l1_4 a1_5 l1_6 a1_7 a1_8 a1_9 a1_10 a1_11 a1_12 a1_13 a1_14 a2 = some (r1, r2, r3, r4, r5, r6, r7, r8, r9, r10, r11)) :
  Calls Try.prog 10 #[.agg #[.int .i64 a0_0, .int .i64 a0_1, .int .i64 a0_2, .int .i64 a0_3, .int .i64 a0_4, .int .u32 a0_5, .int .u64 a0_6, .int .i64 a0_7, .int .i64 a0_8, .int .i64 a0_9, .int .i64 a0_10], .agg #[.slice A1_0 l1_0.length c1_0, .slice A1_1 l1_1.length c1_1, .slice A1_2 l1_2.length c1_2, .int .i64 a1_3, .slice A1_4 l1_4.length c1_4, .string a1_5, .slice A1_6 l1_6.length c1_6, .int .i64 a1_7, .bool a1_8, .bool a1_9, .int .i64 a1_10, .int .i64 a1_11, .int .i64 a1_12, .int .i64 a1_13, .int .i64 a1_14], .int .u64 a2] w fun e w' => e = .returned (.agg #[.int .i64 r1, .int .i64 r2, .int .i64 r3, .int .i64 r4, .int .i64 r5, .int .u32 r6, .int .u64 r7, .int .i64 r8, .int .i64 r9, .int .i64 r10, .int .i64 r11]) ∧ Below w.heap.size w w' := by
 have hu28 := Try.underlying28
 have hu39 := Try.underlying39
 have HR1_0 := Aside0.mk hr1_0
 have HC1_0 := Aside0.mk hc1_0
 clear hr1_0 hc1_0
 have HR1_1 := Aside0.mk hr1_1
 have HC1_1 := Aside0.mk hc1_1
 clear hr1_1 hc1_1
 have HR1_2 := Aside0.mk hr1_2
 have HC1_2 := Aside0.mk hc1_2
 clear hr1_2 hc1_2
 have HR1_4 := Aside0.mk hr1_4
 have HC1_4 := Aside0.mk hc1_4
 clear hr1_4 hc1_4
 have HR1_6 := Aside0.mk hr1_6
 have HC1_6 := Aside0.mk hc1_6
 clear hr1_6 hc1_6
 have HB := Aside0.mk (Below.refl w.heap.size w)
 have H : (if a1_7 < 1 then (some (a0_0, a0_1, a0_2, a0_3, a0_4, a0_5, a0_6, a0_7, a0_8, a0_9, a0_10)) else (if a1_7 ≥ 16 then (some (a0_0, a0_1, a0_2, a0_3, a0_4, a0_5, a0_6, a0_7, a0_8, a0_9, a0_10)) else (some (0, a1_7, a0_2, 0, 4194304, 2130706433, a2, a0_7, a0_8, 0, a0_10)))) = some (r1, r2, r3, r4, r5, r6, r7, r8, r9, r10, r11) := h
 clear h
 by_cases c4 : a1_7 < 1
 ·rw [if_pos c4] at H
  have c4b0 : decide (a1_7 < 1) = true := decide_eq_true c4
  clear c4
  simp only [Option.some.injEq, Prod.mk.injEq] at H
  obtain ⟨rfl, rfl, rfl, rfl, rfl, rfl, rfl, rfl, rfl, rfl, rfl⟩ := H
  go_enter Try.func10, Try.ntmps10
  go_wp2_with (first | ((with_reducible refine gate_dst (N := 3) rfl ?_); refine box_event ?hg (N := 3) ?hd (cs := #[.int .i64 a0_0, .int .i64 a0_1, .int .i64 a0_2, .int .i64 a0_3, .int .i64 a0_4, .int .u32 a0_5, .int .u64 a0_6, .int .i64 a0_7, .int .i64 a0_8, .int .i64 a0_9, .int .i64 a0_10]) (t := 28) ?hr ?_; (case hd => rfl); (case hg => rfl); (case hr => first | (go_simp; done) | (go_simp; rfl)); intro gb101 hg w5 hbox hb; have n0_ := Aside0.mk (below_step q0 hb); have n1_ := Aside0.mk (hbox); have n2_ := Aside0.mk ((by rw [hg]; exact (below_size q0) : w.heap.size ≤ gb101)); have n3_ := Aside0.mk ((by rw [hg]; exact (below_size q0) : w.heap.size ≤ gb101)); clear HB; have HB := n0_; have BK101 := n1_; have GW101 := n2_; have GE101 := n3_; clear n0_ n1_ n2_ n3_; clear hb hbox hg) | ((with_reducible refine gate_dst (N := 4) rfl ?_); refine box_event ?hg (N := 4) ?hd (cs := #[.slice A1_0 l1_0.length c1_0, .slice A1_1 l1_1.length c1_1, .slice A1_2 l1_2.length c1_2, .int .i64 a1_3, .slice A1_4 l1_4.length c1_4, .string a1_5, .slice A1_6 l1_6.length c1_6, .int .i64 a1_7, .bool a1_8, .bool a1_9, .int .i64 a1_10, .int .i64 a1_11, .int .i64 a1_12, .int .i64 a1_13, .int .i64 a1_14]) (t := 39) ?hr ?_; (case hd => rfl); (case hg => rfl); (case hr => first | (go_simp; done) | (go_simp; rfl)); intro gb102 hg w6 hbox hb; have n0_ := Aside0.mk (bBel BK101 hb); have n1_ := Aside0.mk (below_step q19 hb); have n2_ := Aside0.mk (hbox); have n3_ := Aside0.mk ((by rw [hg]; exact (below_size q19) : w.heap.size ≤ gb102)); have n4_ := Aside0.mk ((by rw [hg]; exact (below_size q19) : w.heap.size ≤ gb102)); have n5_ := Aside0.mk (nbL BK101 hg); have n6_ := Aside0.mk (Ne.symm (nbL BK101 hg)); clear BK101 HB; have BK101 := n0_; have HB := n1_; have BK102 := n2_; have GW102 := n3_; have GE102 := n4_; have NB101_102 := n5_; have NB102_101 := n6_; clear n0_ n1_ n2_ n3_ n4_ n5_ n6_; clear hb hbox hg) | ((with_reducible refine gate_dst (N := 6) rfl ?_); refine box_event ?hg (N := 6) ?hd (cs := #[.int .i64 0, .int .i64 0, .int .i64 0, .int .i64 0, .int .i64 0, .int .u32 0, .int .u64 0, .int .i64 0, .int .i64 0, .int .i64 0, .int .i64 0]) (t := 28) ?hr ?_; (case hd => rfl); (case hg => rfl); (case hr => first | (go_simp; done) | (go_simp; rfl)); intro gb103 hg w7 hbox hb; have n0_ := Aside0.mk (bBel BK101 hb); have n1_ := Aside0.mk (bBel BK102 hb); have n2_ := Aside0.mk (below_step q14 hb); have n3_ := Aside0.mk (hbox); have n4_ := Aside0.mk ((by rw [hg]; exact (below_size q14) : w.heap.size ≤ gb103)); have n5_ := Aside0.mk ((by rw [hg]; exact (below_size q14) : w.heap.size ≤ gb103)); have n6_ := Aside0.mk (nbL BK101 hg); have n7_ := Aside0.mk (Ne.symm (nbL BK101 hg)); have n8_ := Aside0.mk (nbL BK102 hg); have n9_ := Aside0.mk (Ne.symm (nbL BK102 hg)); clear BK101 BK102 HB; have BK101 := n0_; have BK102 := n1_; have HB := n2_; have BK103 := n3_; have GW103 := n4_; have GE103 := n5_; have NB101_103 := n6_; have NB103_101 := n7_; have NB102_103 := n8_; have NB103_102 := n9_; clear n0_ n1_ n2_ n3_ n4_ n5_ n6_ n7_ n8_ n9_; clear hb hbox hg; have hnb8 := NB102_101.out; have hnc8 := NB101_102.out; have hnb9 := NB102_103.out; have hnc9 := NB103_102.out; have hcz10_7 : w7.cell? ⟨gb102, 7, none⟩ = some (.int .i64 a1_7) := (blk_cell BK102.out 7).trans rfl; have hnb11 := NB101_103.out; have hnc11 := NB103_101.out; have hcz12_0 : w7.cell? ⟨gb101, 0, none⟩ = some (.int .i64 a0_0) := (blk_cell BK101.out 0).trans rfl; have hcz12_1 : w7.cell? ⟨gb101, 1, none⟩ = some (.int .i64 a0_1) := (blk_cell BK101.out 1).trans rfl; have hcz12_2 : w7.cell? ⟨gb101, 2, none⟩ = some (.int .i64 a0_2) := (blk_cell BK101.out 2).trans rfl; have hcz12_3 : w7.cell? ⟨gb101, 3, none⟩ = some (.int .i64 a0_3) := (blk_cell BK101.out 3).trans rfl; have hcz12_4 : w7.cell? ⟨gb101, 4, none⟩ = some (.int .i64 a0_4) := (blk_cell BK101.out 4).trans rfl; have hcz12_5 : w7.cell? ⟨gb101, 5, none⟩ = some (.int .u32 a0_5) := (blk_cell BK101.out 5).trans rfl; have hcz12_6 : w7.cell? ⟨gb101, 6, none⟩ = some (.int .u64 a0_6) := (blk_cell BK101.out 6).trans rfl; have hcz12_7 : w7.cell? ⟨gb101, 7, none⟩ = some (.int .i64 a0_7) := (blk_cell BK101.out 7).trans rfl; have hcz12_8 : w7.cell? ⟨gb101, 8, none⟩ = some (.int .i64 a0_8) := (blk_cell BK101.out 8).trans rfl; have hcz12_9 : w7.cell? ⟨gb101, 9, none⟩ = some (.int .i64 a0_9) := (blk_cell BK101.out 9).trans rfl; have hcz12_10 : w7.cell? ⟨gb101, 10, none⟩ = some (.int .i64 a0_10) := (blk_cell BK101.out 10).trans rfl; have hcz13_0 : w7.cell? ⟨gb103, 0, none⟩ = some (.int .i64 0) := (blk_cell BK103.out 0).trans rfl; have hcz13_1 : w7.cell? ⟨gb103, 1, none⟩ = some (.int .i64 0) := (blk_cell BK103.out 1).trans rfl; have hcz13_2 : w7.cell? ⟨gb103, 2, none⟩ = some (.int .i64 0) := (blk_cell BK103.out 2).trans rfl; have hcz13_3 : w7.cell? ⟨gb103, 3, none⟩ = some (.int .i64 0) := (blk_cell BK103.out 3).trans rfl; have hcz13_4 : w7.cell? ⟨gb103, 4, none⟩ = some (.int .i64 0) := (blk_cell BK103.out 4).trans rfl; have hcz13_5 : w7.cell? ⟨gb103, 5, none⟩ = some (.int .u32 0) := (blk_cell BK103.out 5).trans rfl; have hcz13_6 : w7.cell? ⟨gb103, 6, none⟩ = some (.int .u64 0) := (blk_cell BK103.out 6).trans rfl; have hcz13_7 : w7.cell? ⟨gb103, 7, none⟩ = some (.int .i64 0) := (blk_cell BK103.out 7).trans rfl; have hcz13_8 : w7.cell? ⟨gb103, 8, none⟩ = some (.int .i64 0) := (blk_cell BK103.out 8).trans rfl; have hcz13_9 : w7.cell? ⟨gb103, 9, none⟩ = some (.int .i64 0) := (blk_cell BK103.out 9).trans rfl; have hcz13_10 : w7.cell? ⟨gb103, 10, none⟩ = some (.int .i64 0) := (blk_cell BK103.out 10).trans rfl; have hfz13_0 := blk_frozen BK103.out 0; have hfz13_1 := blk_frozen BK103.out 1; have hfz13_2 := blk_frozen BK103.out 2; have hfz13_3 := blk_frozen BK103.out 3; have hfz13_4 := blk_frozen BK103.out 4; have hfz13_5 := blk_frozen BK103.out 5; have hfz13_6 := blk_frozen BK103.out 6; have hfz13_7 := blk_frozen BK103.out 7; have hfz13_8 := blk_frozen BK103.out 8; have hfz13_9 := blk_frozen BK103.out 9; have hfz13_10 := blk_frozen BK103.out 10) | ((with_reducible refine gate_dst (N := 15) rfl ?_); refine load_event (t' := 28) rfl rfl gb101 #[.int .i64 a0_0, .int .i64 a0_1, .int .i64 a0_2, .int .i64 a0_3, .int .i64 a0_4, .int .u32 a0_5, .int .u64 a0_6, .int .i64 a0_7, .int .i64 a0_8, .int .i64 a0_9, .int .i64 a0_10] rfl hu28 q12 (by (with_reducible repeat (first | refine blk_drewN ?_ _ | refine blk_drew ?_ | refine blk_alloc ?_ _)); exact BK101.out) ?_) | ((with_reducible refine gate_store (t := 28) (p := 6) rfl ?_); refine store_event (t := 28) (p := 6) (v := ?vo_w14) (w1 := (((((((((((w7.setCell ⟨gb103, 0, none⟩ (.int .i64 a0_0)).setCell ⟨gb103, 1, none⟩ (.int .i64 a0_1)).setCell ⟨gb103, 2, none⟩ (.int .i64 a0_2)).setCell ⟨gb103, 3, none⟩ (.int .i64 a0_3)).setCell ⟨gb103, 4, none⟩ (.int .i64 a0_4)).setCell ⟨gb103, 5, none⟩ (.int .u32 a0_5)).setCell ⟨gb103, 6, none⟩ (.int .u64 a0_6)).setCell ⟨gb103, 7, none⟩ (.int .i64 a0_7)).setCell ⟨gb103, 8, none⟩ (.int .i64 a0_8)).setCell ⟨gb103, 9, none⟩ (.int .i64 a0_9)).setCell ⟨gb103, 10, none⟩ (.int .i64 a0_10))) ?hg ?ho ?hn ?hr ?_; (case ho => rfl); (case hg => rfl); (case hn => rfl); (case hr => first | exact store_run rfl gb103 [.int .i64 a0_0, .int .i64 a0_1, .int .i64 a0_2, .int .i64 a0_3, .int .i64 a0_4, .int .u32 a0_5, .int .u64 a0_6, .int .i64 a0_7, .int .i64 a0_8, .int .i64 a0_9, .int .i64 a0_10] (cs := #[.int .i64 0, .int .i64 0, .int .i64 0, .int .i64 0, .int .i64 0, .int .u32 0, .int .u64 0, .int .i64 0, .int .i64 0, .int .i64 0, .int .i64 0]) (t' := 28) rfl rfl q12 q45 (Nat.le_refl _) rfl rfl | (go_simp; done) | (go_simp; rfl)); intro w14 hw; have n0_ : Aside0 (w14.heap[gb101]? = some (.cells #[.int .i64 a0_0, .int .i64 a0_1, .int .i64 a0_2, .int .i64 a0_3, .int .i64 a0_4, .int .u32 a0_5, .int .u64 a0_6, .int .i64 a0_7, .int .i64 a0_8, .int .i64 a0_9, .int .i64 a0_10] 28 (0, 0))) := ⟨(by rw [hw]; exact (by repeat (first | (with_reducible first | exact BK101.out | refine blk_drewN ?_ _ | refine blk_drew ?_ | refine blk_alloc ?_ _) | refine blk_far ?_ NB101_103.out _ | exact BK101.out)))⟩; have n1_ : Aside0 (w14.heap[gb102]? = some (.cells #[.slice A1_0 l1_0.length c1_0, .slice A1_1 l1_1.length c1_1, .slice A1_2 l1_2.length c1_2, .int .i64 a1_3, .slice A1_4 l1_4.length c1_4, .string a1_5, .slice A1_6 l1_6.length c1_6, .int .i64 a1_7, .bool a1_8, .bool a1_9, .int .i64 a1_10, .int .i64 a1_11, .int .i64 a1_12, .int .i64 a1_13, .int .i64 a1_14] 39 (0, 0))) := ⟨(by rw [hw]; exact (by repeat (first | (with_reducible first | exact BK102.out | refine blk_drewN ?_ _ | refine blk_drew ?_ | refine blk_alloc ?_ _) | refine blk_far ?_ NB102_103.out _ | exact BK102.out)))⟩; have n2_ : Aside0 (w14.heap[gb103]? = some (.cells #[.int .i64 a0_0, .int .i64 a0_1, .int .i64 a0_2, .int .i64 a0_3, .int .i64 a0_4, .int .u32 a0_5, .int .u64 a0_6, .int .i64 a0_7, .int .i64 a0_8, .int .i64 a0_9, .int .i64 a0_10] 28 (0, 0))) := ⟨(by rw [hw]; exact (by apply Eq.trans; (case h₁ => repeat (first | (with_reducible first | exact BK103.out | apply blk_set | apply blk_drewN | apply blk_drew | apply blk_alloc))); simp only [List.setIfInBounds_toArray, List.set_cons_zero, List.set_cons_succ]))⟩; have n3_ : Aside0 (Below w.heap.size w w14) := ⟨(by rw [hw]; exact q27)⟩; clear hw; clear BK101; clear BK102; clear BK103; clear HB; have BK101 := n0_; have BK102 := n1_; have BK103 := n2_; have HB := n3_; clear n0_ n1_ n2_ n3_))
  refine bodyPost_ret (results_cell_row rfl _ _ gb103 28 #[.int .i64 a0_0, .int .i64 a0_1, .int .i64 a0_2, .int .i64 a0_3, .int .i64 a0_4, .int .u32 a0_5, .int .u64 a0_6, .int .i64 a0_7, .int .i64 a0_8, .int .i64 a0_9, .int .i64 a0_10] (0, 0) _ rfl q45 Try.underlying28 rfl q12) rfl ?_
  exact ⟨q9, q27⟩
 ·rw [if_neg c4] at H
  have c4b0 : decide (a1_7 < 1) = false := decide_eq_false c4
  clear c4
  by_cases c15 : a1_7 ≥ 16
  ·rw [if_pos c15] at H
   have c15b0 : decide (16 ≤ a1_7) = true := decide_eq_true c15
   clear c15
   simp only [Option.some.injEq, Prod.mk.injEq] at H
   obtain ⟨rfl, rfl, rfl, rfl, rfl, rfl, rfl, rfl, rfl, rfl, rfl⟩ := H
   go_enter Try.func10, Try.ntmps10
   go_wp2_with (first | ((with_reducible refine gate_dst (N := 3) rfl ?_); refine box_event ?hg (N := 3) ?hd (cs := #[.int .i64 a0_0, .int .i64 a0_1, .int .i64 a0_2, .int .i64 a0_3, .int .i64 a0_4, .int .u32 a0_5, .int .u64 a0_6, .int .i64 a0_7, .int .i64 a0_8, .int .i64 a0_9, .int .i64 a0_10]) (t := 28) ?hr ?_; (case hd => rfl); (case hg => rfl); (case hr => first | (go_simp; done) | (go_simp; rfl)); intro gb101 hg w16 hbox hb; have n0_ := Aside0.mk (below_step q0 hb); have n1_ := Aside0.mk (hbox); have n2_ := Aside0.mk ((by rw [hg]; exact (below_size q0) : w.heap.size ≤ gb101)); have n3_ := Aside0.mk ((by rw [hg]; exact (below_size q0) : w.heap.size ≤ gb101)); clear HB; have HB := n0_; have BK101 := n1_; have GW101 := n2_; have GE101 := n3_; clear n0_ n1_ n2_ n3_; clear hb hbox hg) | ((with_reducible refine gate_dst (N := 4) rfl ?_); refine box_event ?hg (N := 4) ?hd (cs := #[.slice A1_0 l1_0.length c1_0, .slice A1_1 l1_1.length c1_1, .slice A1_2 l1_2.length c1_2, .int .i64 a1_3, .slice A1_4 l1_4.length c1_4, .string a1_5, .slice A1_6 l1_6.length c1_6, .int .i64 a1_7, .bool a1_8, .bool a1_9, .int .i64 a1_10, .int .i64 a1_11, .int .i64 a1_12, .int .i64 a1_13, .int .i64 a1_14]) (t := 39) ?hr ?_; (case hd => rfl); (case hg => rfl); (case hr => first | (go_simp; done) | (go_simp; rfl)); intro gb102 hg w17 hbox hb; have n0_ := Aside0.mk (bBel BK101 hb); have n1_ := Aside0.mk (below_step q19 hb); have n2_ := Aside0.mk (hbox); have n3_ := Aside0.mk ((by rw [hg]; exact (below_size q19) : w.heap.size ≤ gb102)); have n4_ := Aside0.mk ((by rw [hg]; exact (below_size q19) : w.heap.size ≤ gb102)); have n5_ := Aside0.mk (nbL BK101 hg); have n6_ := Aside0.mk (Ne.symm (nbL BK101 hg)); clear BK101 HB; have BK101 := n0_; have HB := n1_; have BK102 := n2_; have GW102 := n3_; have GE102 := n4_; have NB101_102 := n5_; have NB102_101 := n6_; clear n0_ n1_ n2_ n3_ n4_ n5_ n6_; clear hb hbox hg) | ((with_reducible refine gate_dst (N := 6) rfl ?_); refine box_event ?hg (N := 6) ?hd (cs := #[.int .i64 0, .int .i64 0, .int .i64 0, .int .i64 0, .int .i64 0, .int .u32 0, .int .u64 0, .int .i64 0, .int .i64 0, .int .i64 0, .int .i64 0]) (t := 28) ?hr ?_; (case hd => rfl); (case hg => rfl); (case hr => first | (go_simp; done) | (go_simp; rfl)); intro gb103 hg w18 hbox hb; have n0_ := Aside0.mk (bBel BK101 hb); have n1_ := Aside0.mk (bBel BK102 hb); have n2_ := Aside0.mk (below_step q14 hb); have n3_ := Aside0.mk (hbox); have n4_ := Aside0.mk ((by rw [hg]; exact (below_size q14) : w.heap.size ≤ gb103)); have n5_ := Aside0.mk ((by rw [hg]; exact (below_size q14) : w.heap.size ≤ gb103)); have n6_ := Aside0.mk (nbL BK101 hg); have n7_ := Aside0.mk (Ne.symm (nbL BK101 hg)); have n8_ := Aside0.mk (nbL BK102 hg); have n9_ := Aside0.mk (Ne.symm (nbL BK102 hg)); clear BK101 BK102 HB; have BK101 := n0_; have BK102 := n1_; have HB := n2_; have BK103 := n3_; have GW103 := n4_; have GE103 := n5_; have NB101_103 := n6_; have NB103_101 := n7_; have NB102_103 := n8_; have NB103_102 := n9_; clear n0_ n1_ n2_ n3_ n4_ n5_ n6_ n7_ n8_ n9_; clear hb hbox hg; have hnb19 := NB102_101.out; have hnc19 := NB101_102.out; have hnb20 := NB102_103.out; have hnc20 := NB103_102.out; have hcz21_7 : w18.cell? ⟨gb102, 7, none⟩ = some (.int .i64 a1_7) := (blk_cell BK102.out 7).trans rfl; have hnb22 := NB101_103.out; have hnc22 := NB103_101.out; have hcz23_0 : w18.cell? ⟨gb101, 0, none⟩ = some (.int .i64 a0_0) := (blk_cell BK101.out 0).trans rfl; have hcz23_1 : w18.cell? ⟨gb101, 1, none⟩ = some (.int .i64 a0_1) := (blk_cell BK101.out 1).trans rfl; have hcz23_2 : w18.cell? ⟨gb101, 2, none⟩ = some (.int .i64 a0_2) := (blk_cell BK101.out 2).trans rfl; have hcz23_3 : w18.cell? ⟨gb101, 3, none⟩ = some (.int .i64 a0_3) := (blk_cell BK101.out 3).trans rfl; have hcz23_4 : w18.cell? ⟨gb101, 4, none⟩ = some (.int .i64 a0_4) := (blk_cell BK101.out 4).trans rfl; have hcz23_5 : w18.cell? ⟨gb101, 5, none⟩ = some (.int .u32 a0_5) := (blk_cell BK101.out 5).trans rfl; have hcz23_6 : w18.cell? ⟨gb101, 6, none⟩ = some (.int .u64 a0_6) := (blk_cell BK101.out 6).trans rfl; have hcz23_7 : w18.cell? ⟨gb101, 7, none⟩ = some (.int .i64 a0_7) := (blk_cell BK101.out 7).trans rfl; have hcz23_8 : w18.cell? ⟨gb101, 8, none⟩ = some (.int .i64 a0_8) := (blk_cell BK101.out 8).trans rfl; have hcz23_9 : w18.cell? ⟨gb101, 9, none⟩ = some (.int .i64 a0_9) := (blk_cell BK101.out 9).trans rfl; have hcz23_10 : w18.cell? ⟨gb101, 10, none⟩ = some (.int .i64 a0_10) := (blk_cell BK101.out 10).trans rfl; have hcz24_0 : w18.cell? ⟨gb103, 0, none⟩ = some (.int .i64 0) := (blk_cell BK103.out 0).trans rfl; have hcz24_1 : w18.cell? ⟨gb103, 1, none⟩ = some (.int .i64 0) := (blk_cell BK103.out 1).trans rfl; have hcz24_2 : w18.cell? ⟨gb103, 2, none⟩ = some (.int .i64 0) := (blk_cell BK103.out 2).trans rfl; have hcz24_3 : w18.cell? ⟨gb103, 3, none⟩ = some (.int .i64 0) := (blk_cell BK103.out 3).trans rfl; have hcz24_4 : w18.cell? ⟨gb103, 4, none⟩ = some (.int .i64 0) := (blk_cell BK103.out 4).trans rfl; have hcz24_5 : w18.cell? ⟨gb103, 5, none⟩ = some (.int .u32 0) := (blk_cell BK103.out 5).trans rfl; have hcz24_6 : w18.cell? ⟨gb103, 6, none⟩ = some (.int .u64 0) := (blk_cell BK103.out 6).trans rfl; have hcz24_7 : w18.cell? ⟨gb103, 7, none⟩ = some (.int .i64 0) := (blk_cell BK103.out 7).trans rfl; have hcz24_8 : w18.cell? ⟨gb103, 8, none⟩ = some (.int .i64 0) := (blk_cell BK103.out 8).trans rfl; have hcz24_9 : w18.cell? ⟨gb103, 9, none⟩ = some (.int .i64 0) := (blk_cell BK103.out 9).trans rfl; have hcz24_10 : w18.cell? ⟨gb103, 10, none⟩ = some (.int .i64 0) := (blk_cell BK103.out 10).trans rfl; have hfz24_0 := blk_frozen BK103.out 0; have hfz24_1 := blk_frozen BK103.out 1; have hfz24_2 := blk_frozen BK103.out 2; have hfz24_3 := blk_frozen BK103.out 3; have hfz24_4 := blk_frozen BK103.out 4; have hfz24_5 := blk_frozen BK103.out 5; have hfz24_6 := blk_frozen BK103.out 6; have hfz24_7 := blk_frozen BK103.out 7; have hfz24_8 := blk_frozen BK103.out 8; have hfz24_9 := blk_frozen BK103.out 9; have hfz24_10 := blk_frozen BK103.out 10) | ((with_reducible refine gate_dst (N := 15) rfl ?_); refine load_event (t' := 28) rfl rfl gb101 #[.int .i64 a0_0, .int .i64 a0_1, .int .i64 a0_2, .int .i64 a0_3, .int .i64 a0_4, .int .u32 a0_5, .int .u64 a0_6, .int .i64 a0_7, .int .i64 a0_8, .int .i64 a0_9, .int .i64 a0_10] rfl hu28 q12 (by (with_reducible repeat (first | refine blk_drewN ?_ _ | refine blk_drew ?_ | refine blk_alloc ?_ _)); exact BK101.out) ?_) | ((with_reducible refine gate_store (t := 28) (p := 6) rfl ?_); refine store_event (t := 28) (p := 6) (v := ?vo_w25) (w1 := (((((((((((w18.setCell ⟨gb103, 0, none⟩ (.int .i64 a0_0)).setCell ⟨gb103, 1, none⟩ (.int .i64 a0_1)).setCell ⟨gb103, 2, none⟩ (.int .i64 a0_2)).setCell ⟨gb103, 3, none⟩ (.int .i64 a0_3)).setCell ⟨gb103, 4, none⟩ (.int .i64 a0_4)).setCell ⟨gb103, 5, none⟩ (.int .u32 a0_5)).setCell ⟨gb103, 6, none⟩ (.int .u64 a0_6)).setCell ⟨gb103, 7, none⟩ (.int .i64 a0_7)).setCell ⟨gb103, 8, none⟩ (.int .i64 a0_8)).setCell ⟨gb103, 9, none⟩ (.int .i64 a0_9)).setCell ⟨gb103, 10, none⟩ (.int .i64 a0_10))) ?hg ?ho ?hn ?hr ?_; (case ho => rfl); (case hg => rfl); (case hn => rfl); (case hr => first | exact store_run rfl gb103 [.int .i64 a0_0, .int .i64 a0_1, .int .i64 a0_2, .int .i64 a0_3, .int .i64 a0_4, .int .u32 a0_5, .int .u64 a0_6, .int .i64 a0_7, .int .i64 a0_8, .int .i64 a0_9, .int .i64 a0_10] (cs := #[.int .i64 0, .int .i64 0, .int .i64 0, .int .i64 0, .int .i64 0, .int .u32 0, .int .u64 0, .int .i64 0, .int .i64 0, .int .i64 0, .int .i64 0]) (t' := 28) rfl rfl q12 q45 (Nat.le_refl _) rfl rfl | (go_simp; done) | (go_simp; rfl)); intro w25 hw; have n0_ : Aside0 (w25.heap[gb101]? = some (.cells #[.int .i64 a0_0, .int .i64 a0_1, .int .i64 a0_2, .int .i64 a0_3, .int .i64 a0_4, .int .u32 a0_5, .int .u64 a0_6, .int .i64 a0_7, .int .i64 a0_8, .int .i64 a0_9, .int .i64 a0_10] 28 (0, 0))) := ⟨(by rw [hw]; exact (by repeat (first | (with_reducible first | exact BK101.out | refine blk_drewN ?_ _ | refine blk_drew ?_ | refine blk_alloc ?_ _) | refine blk_far ?_ NB101_103.out _ | exact BK101.out)))⟩; have n1_ : Aside0 (w25.heap[gb102]? = some (.cells #[.slice A1_0 l1_0.length c1_0, .slice A1_1 l1_1.length c1_1, .slice A1_2 l1_2.length c1_2, .int .i64 a1_3, .slice A1_4 l1_4.length c1_4, .string a1_5, .slice A1_6 l1_6.length c1_6, .int .i64 a1_7, .bool a1_8, .bool a1_9, .int .i64 a1_10, .int .i64 a1_11, .int .i64 a1_12, .int .i64 a1_13, .int .i64 a1_14] 39 (0, 0))) := ⟨(by rw [hw]; exact (by repeat (first | (with_reducible first | exact BK102.out | refine blk_drewN ?_ _ | refine blk_drew ?_ | refine blk_alloc ?_ _) | refine blk_far ?_ NB102_103.out _ | exact BK102.out)))⟩; have n2_ : Aside0 (w25.heap[gb103]? = some (.cells #[.int .i64 a0_0, .int .i64 a0_1, .int .i64 a0_2, .int .i64 a0_3, .int .i64 a0_4, .int .u32 a0_5, .int .u64 a0_6, .int .i64 a0_7, .int .i64 a0_8, .int .i64 a0_9, .int .i64 a0_10] 28 (0, 0))) := ⟨(by rw [hw]; exact (by apply Eq.trans; (case h₁ => repeat (first | (with_reducible first | exact BK103.out | apply blk_set | apply blk_drewN | apply blk_drew | apply blk_alloc))); simp only [List.setIfInBounds_toArray, List.set_cons_zero, List.set_cons_succ]))⟩; have n3_ : Aside0 (Below w.heap.size w w25) := ⟨(by rw [hw]; exact q27)⟩; clear hw; clear BK101; clear BK102; clear BK103; clear HB; have BK101 := n0_; have BK102 := n1_; have BK103 := n2_; have HB := n3_; clear n0_ n1_ n2_ n3_))
   refine bodyPost_ret (results_cell_row rfl _ _ gb103 28 #[.int .i64 a0_0, .int .i64 a0_1, .int .i64 a0_2, .int .i64 a0_3, .int .i64 a0_4, .int .u32 a0_5, .int .u64 a0_6, .int .i64 a0_7, .int .i64 a0_8, .int .i64 a0_9, .int .i64 a0_10] (0, 0) _ rfl q45 Try.underlying28 rfl q12) rfl ?_
   exact ⟨q9, q27⟩
  ·rw [if_neg c15] at H
   have c15b0 : decide (16 ≤ a1_7) = false := decide_eq_false c15
   clear c15
   simp only [Option.some.injEq, Prod.mk.injEq] at H
   obtain ⟨rfl, rfl, rfl, rfl, rfl, rfl, rfl, rfl, rfl, rfl, rfl⟩ := H
   go_enter Try.func10, Try.ntmps10
   try go_wp2_with (first | ((with_reducible refine gate_dst (N := 3) rfl ?_); refine box_event ?hg (N := 3) ?hd (cs := #[.int .i64 a0_0, .int .i64 a0_1, .int .i64 a0_2, .int .i64 a0_3, .int .i64 a0_4, .int .u32 a0_5, .int .u64 a0_6, .int .i64 a0_7, .int .i64 a0_8, .int .i64 a0_9, .int .i64 a0_10]) (t := 28) ?hr ?_; (case hd => rfl); (case hg => rfl); (case hr => first | (go_simp; done) | (go_simp; rfl)); intro gb101 hg w26 hbox hb; have n0_ := Aside0.mk (below_step q0 hb); have n1_ := Aside0.mk (hbox); have n2_ := Aside0.mk ((by rw [hg]; exact (below_size q0) : w.heap.size ≤ gb101)); have n3_ := Aside0.mk ((by rw [hg]; exact (below_size q0) : w.heap.size ≤ gb101)); clear HB; have HB := n0_; have BK101 := n1_; have GW101 := n2_; have GE101 := n3_; clear n0_ n1_ n2_ n3_; clear hb hbox hg) | ((with_reducible refine gate_dst (N := 4) rfl ?_); refine box_event ?hg (N := 4) ?hd (cs := #[.slice A1_0 l1_0.length c1_0, .slice A1_1 l1_1.length c1_1, .slice A1_2 l1_2.length c1_2, .int .i64 a1_3, .slice A1_4 l1_4.length c1_4, .string a1_5, .slice A1_6 l1_6.length c1_6, .int .i64 a1_7, .bool a1_8, .bool a1_9, .int .i64 a1_10, .int .i64 a1_11, .int .i64 a1_12, .int .i64 a1_13, .int .i64 a1_14]) (t := 39) ?hr ?_; (case hd => rfl); (case hg => rfl); (case hr => first | (go_simp; done) | (go_simp; rfl)); intro gb102 hg w27 hbox hb; have n0_ := Aside0.mk (bBel BK101 hb); have n1_ := Aside0.mk (below_step q19 hb); have n2_ := Aside0.mk (hbox); have n3_ := Aside0.mk ((by rw [hg]; exact (below_size q19) : w.heap.size ≤ gb102)); have n4_ := Aside0.mk ((by rw [hg]; exact (below_size q19) : w.heap.size ≤ gb102)); have n5_ := Aside0.mk (nbL BK101 hg); have n6_ := Aside0.mk (Ne.symm (nbL BK101 hg)); clear BK101 HB; have BK101 := n0_; have HB := n1_; have BK102 := n2_; have GW102 := n3_; have GE102 := n4_; have NB101_102 := n5_; have NB102_101 := n6_; clear n0_ n1_ n2_ n3_ n4_ n5_ n6_; clear hb hbox hg) | ((with_reducible refine gate_dst (N := 6) rfl ?_); refine box_event ?hg (N := 6) ?hd (cs := #[.int .i64 0, .int .i64 0, .int .i64 0, .int .i64 0, .int .i64 0, .int .u32 0, .int .u64 0, .int .i64 0, .int .i64 0, .int .i64 0, .int .i64 0]) (t := 28) ?hr ?_; (case hd => rfl); (case hg => rfl); (case hr => first | (go_simp; done) | (go_simp; rfl)); intro gb103 hg w28 hbox hb; have n0_ := Aside0.mk (bBel BK101 hb); have n1_ := Aside0.mk (bBel BK102 hb); have n2_ := Aside0.mk (below_step q14 hb); have n3_ := Aside0.mk (hbox); have n4_ := Aside0.mk ((by rw [hg]; exact (below_size q14) : w.heap.size ≤ gb103)); have n5_ := Aside0.mk ((by rw [hg]; exact (below_size q14) : w.heap.size ≤ gb103)); have n6_ := Aside0.mk (nbL BK101 hg); have n7_ := Aside0.mk (Ne.symm (nbL BK101 hg)); have n8_ := Aside0.mk (nbL BK102 hg); have n9_ := Aside0.mk (Ne.symm (nbL BK102 hg)); clear BK101 BK102 HB; have BK101 := n0_; have BK102 := n1_; have HB := n2_; have BK103 := n3_; have GW103 := n4_; have GE103 := n5_; have NB101_103 := n6_; have NB103_101 := n7_; have NB102_103 := n8_; have NB103_102 := n9_; clear n0_ n1_ n2_ n3_ n4_ n5_ n6_ n7_ n8_ n9_; clear hb hbox hg; have hnb29 := NB102_101.out; have hnc29 := NB101_102.out; have hnb30 := NB102_103.out; have hnc30 := NB103_102.out; have hcz31_7 : w28.cell? ⟨gb102, 7, none⟩ = some (.int .i64 a1_7) := (blk_cell BK102.out 7).trans rfl))
   have n0_ := Aside0.mk (blk_drew BK101.out)
   have n1_ := Aside0.mk (blk_drew BK102.out)
   have n2_ := Aside0.mk (blk_drew BK103.out)
   have n3_ := Aside0.mk (below_drew1 HB.out)
   clear BK101 BK102 BK103 HB
   have BK101 := n0_
   have BK102 := n1_
   have BK103 := n2_
   have HB := n3_
   clear n0_ n1_ n2_ n3_
   refine start_ (n := 10) (S := fun w' => w'.cell? ⟨gb102, 7, none⟩ = some (.int .i64 a1_7)) (ds := []) #[false, false, false, false, false, false, false, false, false, false] q12 rfl rfl ((blk_cell BK102.out 7).trans rfl) (fun hHeld => ?_); refine with_tabW system_Orphan.tab3 system_Orphan.bits3 (fun HT_ HW_ => ?_)
   generalize w28.drew = w32 at BK101 BK102 BK103 HB hHeld ⊢
   refine pure_ (i := 0) (N := some 16) (v := ?_) (a' := ?_) #[true, false, false, false, false, false, false, false, false, false] rfl rfl (any_of HT_.out q12) (fun _ _ _ h => h) (Or.inl ⟨(by rfl), ?_⟩) ?_ ?_
   rotate_left
   ·intro w'
    go_simp
    with_reducible rfl
   rotate_left
   ·simp only [Act.put, List.setIfInBounds_toArray, List.set_cons_zero, List.set_cons_succ, i64_w, i32_w]
    rfl
   refine pure_ (i := 2) (N := some 18) (v := ?_) (a' := ?_) #[true, false, true, false, false, false, false, false, false, false] rfl rfl (any_of HT_.out q12) (fun _ _ _ h => h) (Or.inl ⟨(by rfl), ?_⟩) ?_ ?_
   rotate_left
   ·intro w'
    go_simp
    with_reducible rfl
   rotate_left
   ·simp only [Act.put, List.setIfInBounds_toArray, List.set_cons_zero, List.set_cons_succ, i64_w, i32_w]
    rfl
   refine take_ (i := 1) (N := some 17) (v := ?_) (a' := ?_) #[true, true, true, false, false, false, false, false, false, false] rfl rfl (take_ofW HT_.out HW_.out q12) (fun _ _ _ h => h) (Or.inl ⟨(by rfl), ?_⟩) hHeld ?_ ?_
   rotate_left
   ·intro w' s0
    go_simp
    with_reducible rfl
   rotate_left
   ·simp only [Act.put, List.setIfInBounds_toArray, List.set_cons_zero, List.set_cons_succ, i64_w, i32_w]
    rfl
   refine one_ (i := 3) (N := none) #[true, true, true, true, false, false, false, false, false, false] rfl rfl (one_of HT_.out q12) (by decide) (fun K hK => ?_)
   have hs33 : w32.cell? ⟨gb101, 0, none⟩ = some (.int .i64 a0_0) := (blk_cell BK101.out 0).trans rfl
   have hfs33 := blk_frozen BK101.out 0
   have hns33_1 := NB102_101.out
   have hns33_2 := NB103_101.out
   have hms33_1 := NB101_102.out
   have hms33_2 := NB101_103.out
   refine skip_ (w1 := ?_) (by rfl) rfl ?_ ?_
   rotate_left
   ·go_simp
    rfl
   refine hK.out _ _ (((cell_far (p := ⟨gb101, _, none⟩) NB102_101.out _).trans (hHeld))) (fun hHeld => ?_)
   clear hK K
   refine pure_ (i := 4) (N := some 19) (v := ?_) (a' := ?_) #[true, true, true, true, true, false, false, false, false, false] rfl rfl (any_of HT_.out q12) (fun _ _ _ h => h) (Or.inl ⟨(by rfl), ?_⟩) ?_ ?_
   rotate_left
   ·intro w'
    go_simp
    with_reducible rfl
   rotate_left
   ·simp only [Act.put, List.setIfInBounds_toArray, List.set_cons_zero, List.set_cons_succ, i64_w, i32_w]
    rfl
   refine one_ (i := 5) (N := none) #[true, true, true, true, true, true, false, false, false, false] rfl rfl (one_of HT_.out q12) (by decide) (fun K hK => ?_)
   have hs34 : w32.cell? ⟨gb101, 1, none⟩ = some (.int .i64 a0_1) := (blk_cell BK101.out 1).trans rfl
   have hfs34 := blk_frozen BK101.out 1
   have hns34_1 := NB102_101.out
   have hns34_2 := NB103_101.out
   have hms34_1 := NB101_102.out
   have hms34_2 := NB101_103.out
   refine skip_ (w1 := ?_) (by rfl) rfl ?_ ?_
   rotate_left
   ·go_simp
    rfl
   refine hK.out _ _ (((cell_far (p := ⟨gb101, _, none⟩) NB102_101.out _).trans (hHeld))) (fun hHeld => ?_)
   clear hK K
   refine pure_ (i := 6) (N := some 20) (v := ?_) (a' := ?_) #[true, true, true, true, true, true, true, false, false, false] rfl rfl (any_of HT_.out q12) (fun _ _ _ h => h) (Or.inl ⟨(by rfl), ?_⟩) ?_ ?_
   rotate_left
   ·intro w'
    go_simp
    with_reducible rfl
   rotate_left
   ·simp only [Act.put, List.setIfInBounds_toArray, List.set_cons_zero, List.set_cons_succ, i64_w, i32_w]
    rfl
   refine one_ (i := 7) (N := none) #[true, true, true, true, true, true, true, true, false, false] rfl rfl (one_of HT_.out q12) (by decide) (fun K hK => ?_)
   have hs35 : w32.cell? ⟨gb101, 5, none⟩ = some (.int .u32 a0_5) := (blk_cell BK101.out 5).trans rfl
   have hfs35 := blk_frozen BK101.out 5
   have hns35_1 := NB102_101.out
   have hns35_2 := NB103_101.out
   have hms35_1 := NB101_102.out
   have hms35_2 := NB101_103.out
   refine skip_ (w1 := ?_) (by rfl) rfl ?_ ?_
   rotate_left
   ·go_simp
    rfl
   refine hK.out _ _ (((cell_far (p := ⟨gb101, _, none⟩) NB102_101.out _).trans (hHeld))) (fun hHeld => ?_)
   clear hK K
   refine pure_ (i := 8) (N := some 21) (v := ?_) (a' := ?_) #[true, true, true, true, true, true, true, true, true, false] rfl rfl (any_of HT_.out q12) (fun _ _ _ h => h) (Or.inl ⟨(by rfl), ?_⟩) ?_ ?_
   rotate_left
   ·intro w'
    go_simp
    with_reducible rfl
   rotate_left
   ·simp only [Act.put, List.setIfInBounds_toArray, List.set_cons_zero, List.set_cons_succ, i64_w, i32_w]
    rfl
   refine one_ (i := 9) (N := none) #[true, true, true, true, true, true, true, true, true, true] rfl rfl (one_of HT_.out q12) (by decide) (fun K hK => ?_)
   have hs36 : w32.cell? ⟨gb101, 9, none⟩ = some (.int .i64 a0_9) := (blk_cell BK101.out 9).trans rfl
   have hfs36 := blk_frozen BK101.out 9
   have hns36_1 := NB102_101.out
   have hns36_2 := NB103_101.out
   have hms36_1 := NB101_102.out
   have hms36_2 := NB101_103.out
   refine skip_ (w1 := ?_) (by rfl) rfl ?_ ?_
   rotate_left
   ·go_simp
    rfl
   refine hK.out _ _ (((cell_far (p := ⟨gb101, _, none⟩) NB102_101.out _).trans (hHeld))) (fun hHeld => ?_)
   clear hK K
   refine done_ (done_of HT_.out q12) ?_
   have hnb37 := NB101_103.out
   have hnc37 := NB103_101.out
   have hcz38_0 : w32.cell? ⟨gb101, 0, none⟩ = some (.int .i64 a0_0) := (blk_cell BK101.out 0).trans rfl
   have hcz38_1 : w32.cell? ⟨gb101, 1, none⟩ = some (.int .i64 a0_1) := (blk_cell BK101.out 1).trans rfl
   have hcz38_2 : w32.cell? ⟨gb101, 2, none⟩ = some (.int .i64 a0_2) := (blk_cell BK101.out 2).trans rfl
   have hcz38_3 : w32.cell? ⟨gb101, 3, none⟩ = some (.int .i64 a0_3) := (blk_cell BK101.out 3).trans rfl
   have hcz38_4 : w32.cell? ⟨gb101, 4, none⟩ = some (.int .i64 a0_4) := (blk_cell BK101.out 4).trans rfl
   have hcz38_5 : w32.cell? ⟨gb101, 5, none⟩ = some (.int .u32 a0_5) := (blk_cell BK101.out 5).trans rfl
   have hcz38_6 : w32.cell? ⟨gb101, 6, none⟩ = some (.int .u64 a0_6) := (blk_cell BK101.out 6).trans rfl
   have hcz38_7 : w32.cell? ⟨gb101, 7, none⟩ = some (.int .i64 a0_7) := (blk_cell BK101.out 7).trans rfl
   have hcz38_8 : w32.cell? ⟨gb101, 8, none⟩ = some (.int .i64 a0_8) := (blk_cell BK101.out 8).trans rfl
   have hcz38_9 : w32.cell? ⟨gb101, 9, none⟩ = some (.int .i64 a0_9) := (blk_cell BK101.out 9).trans rfl
   have hcz38_10 : w32.cell? ⟨gb101, 10, none⟩ = some (.int .i64 a0_10) := (blk_cell BK101.out 10).trans rfl
   have hfz38_0 := blk_frozen BK101.out 0
   have hfz38_1 := blk_frozen BK101.out 1
   have hfz38_2 := blk_frozen BK101.out 2
   have hfz38_3 := blk_frozen BK101.out 3
   have hfz38_4 := blk_frozen BK101.out 4
   have hfz38_5 := blk_frozen BK101.out 5
   have hfz38_6 := blk_frozen BK101.out 6
   have hfz38_7 := blk_frozen BK101.out 7
   have hfz38_8 := blk_frozen BK101.out 8
   have hfz38_9 := blk_frozen BK101.out 9
   have hfz38_10 := blk_frozen BK101.out 10
   have hcz39_0 : w32.cell? ⟨gb103, 0, none⟩ = some (.int .i64 0) := (blk_cell BK103.out 0).trans rfl
   have hcz39_1 : w32.cell? ⟨gb103, 1, none⟩ = some (.int .i64 0) := (blk_cell BK103.out 1).trans rfl
   have hcz39_2 : w32.cell? ⟨gb103, 2, none⟩ = some (.int .i64 0) := (blk_cell BK103.out 2).trans rfl
   have hcz39_3 : w32.cell? ⟨gb103, 3, none⟩ = some (.int .i64 0) := (blk_cell BK103.out 3).trans rfl
   have hcz39_4 : w32.cell? ⟨gb103, 4, none⟩ = some (.int .i64 0) := (blk_cell BK103.out 4).trans rfl
   have hcz39_5 : w32.cell? ⟨gb103, 5, none⟩ = some (.int .u32 0) := (blk_cell BK103.out 5).trans rfl
   have hcz39_6 : w32.cell? ⟨gb103, 6, none⟩ = some (.int .u64 0) := (blk_cell BK103.out 6).trans rfl
   have hcz39_7 : w32.cell? ⟨gb103, 7, none⟩ = some (.int .i64 0) := (blk_cell BK103.out 7).trans rfl
   have hcz39_8 : w32.cell? ⟨gb103, 8, none⟩ = some (.int .i64 0) := (blk_cell BK103.out 8).trans rfl
   have hcz39_9 : w32.cell? ⟨gb103, 9, none⟩ = some (.int .i64 0) := (blk_cell BK103.out 9).trans rfl
   have hcz39_10 : w32.cell? ⟨gb103, 10, none⟩ = some (.int .i64 0) := (blk_cell BK103.out 10).trans rfl
   have hfz39_0 := blk_frozen BK103.out 0
   have hfz39_1 := blk_frozen BK103.out 1
   have hfz39_2 := blk_frozen BK103.out 2
   have hfz39_3 := blk_frozen BK103.out 3
   have hfz39_4 := blk_frozen BK103.out 4
   have hfz39_5 := blk_frozen BK103.out 5
   have hfz39_6 := blk_frozen BK103.out 6
   have hfz39_7 := blk_frozen BK103.out 7
   have hfz39_8 := blk_frozen BK103.out 8
   have hfz39_9 := blk_frozen BK103.out 9
   have hfz39_10 := blk_frozen BK103.out 10
   try go_wp2_with (first | ((with_reducible refine gate_dst (N := 26) rfl ?_); refine load_event (t' := 28) rfl rfl gb101 #[.int .i64 0, .int .i64 a1_7, .int .i64 a0_2, .int .i64 0, .int .i64 4194304, .int .u32 2130706433, .int .u64 a2, .int .i64 a0_7, .int .i64 a0_8, .int .i64 0, .int .i64 a0_10] rfl hu28 q12 (by apply Eq.trans; (case h₁ => repeat (first | (with_reducible first | exact BK101.out | apply blk_set | apply blk_drewN | apply blk_drew | apply blk_alloc))); simp only [List.setIfInBounds_toArray, List.set_cons_zero, List.set_cons_succ]) ?_) | ((with_reducible refine gate_store (t := 28) (p := 6) rfl ?_); refine store_event (t := 28) (p := 6) (v := ?vo_w40) (w1 := ((((((((((((((((((w32.setCell ⟨gb101, 0, none⟩ (.int .i64 0)).setCell ⟨gb101, 1, none⟩ (.int .i64 a1_7)).setCell ⟨gb101, 5, none⟩ (.int .u32 2130706433)).setCell ⟨gb101, 9, none⟩ (.int .i64 0)).setCell ⟨gb101, 3, none⟩ (.int .i64 0)).setCell ⟨gb101, 4, none⟩ (.int .i64 4194304)).setCell ⟨gb101, 6, none⟩ (.int .u64 a2)).setCell ⟨gb103, 0, none⟩ (.int .i64 0)).setCell ⟨gb103, 1, none⟩ (.int .i64 a1_7)).setCell ⟨gb103, 2, none⟩ (.int .i64 a0_2)).setCell ⟨gb103, 3, none⟩ (.int .i64 0)).setCell ⟨gb103, 4, none⟩ (.int .i64 4194304)).setCell ⟨gb103, 5, none⟩ (.int .u32 2130706433)).setCell ⟨gb103, 6, none⟩ (.int .u64 a2)).setCell ⟨gb103, 7, none⟩ (.int .i64 a0_7)).setCell ⟨gb103, 8, none⟩ (.int .i64 a0_8)).setCell ⟨gb103, 9, none⟩ (.int .i64 0)).setCell ⟨gb103, 10, none⟩ (.int .i64 a0_10))) ?hg ?ho ?hn ?hr ?_; (case ho => rfl); (case hg => rfl); (case hn => rfl); (case hr => first | exact store_run rfl gb103 [.int .i64 0, .int .i64 a1_7, .int .i64 a0_2, .int .i64 0, .int .i64 4194304, .int .u32 2130706433, .int .u64 a2, .int .i64 a0_7, .int .i64 a0_8, .int .i64 0, .int .i64 a0_10] (cs := #[.int .i64 0, .int .i64 0, .int .i64 0, .int .i64 0, .int .i64 0, .int .u32 0, .int .u64 0, .int .i64 0, .int .i64 0, .int .i64 0, .int .i64 0]) (t' := 28) rfl rfl q12 (by repeat (first | (with_reducible first | exact BK103.out | refine blk_drewN ?_ _ | refine blk_drew ?_ | refine blk_alloc ?_ _) | refine blk_far ?_ NB103_101.out _ | exact BK103.out)) (Nat.le_refl _) rfl rfl | (go_simp; done) | (go_simp; rfl)); intro w40 hw; have n0_ : Aside0 (w40.heap[gb101]? = some (.cells #[.int .i64 0, .int .i64 a1_7, .int .i64 a0_2, .int .i64 0, .int .i64 4194304, .int .u32 2130706433, .int .u64 a2, .int .i64 a0_7, .int .i64 a0_8, .int .i64 0, .int .i64 a0_10] 28 (0, 0))) := ⟨(by rw [hw]; exact (by apply Eq.trans; (case h₁ => repeat (first | (with_reducible first | exact BK101.out | apply blk_set | apply blk_drewN | apply blk_drew | apply blk_alloc) | apply blk_far (hp := NB101_103.out))); simp only [List.setIfInBounds_toArray, List.set_cons_zero, List.set_cons_succ]))⟩; have n1_ : Aside0 (w40.heap[gb102]? = some (.cells #[.slice A1_0 l1_0.length c1_0, .slice A1_1 l1_1.length c1_1, .slice A1_2 l1_2.length c1_2, .int .i64 a1_3, .slice A1_4 l1_4.length c1_4, .string a1_5, .slice A1_6 l1_6.length c1_6, .int .i64 a1_7, .bool a1_8, .bool a1_9, .int .i64 a1_10, .int .i64 a1_11, .int .i64 a1_12, .int .i64 a1_13, .int .i64 a1_14] 39 (0, 0))) := ⟨(by rw [hw]; exact (by repeat (first | (with_reducible first | exact BK102.out | refine blk_drewN ?_ _ | refine blk_drew ?_ | refine blk_alloc ?_ _) | refine blk_far ?_ NB102_101.out _ | refine blk_far ?_ NB102_103.out _ | exact BK102.out)))⟩; have n2_ : Aside0 (w40.heap[gb103]? = some (.cells #[.int .i64 0, .int .i64 a1_7, .int .i64 a0_2, .int .i64 0, .int .i64 4194304, .int .u32 2130706433, .int .u64 a2, .int .i64 a0_7, .int .i64 a0_8, .int .i64 0, .int .i64 a0_10] 28 (0, 0))) := ⟨(by rw [hw]; exact (by apply Eq.trans; (case h₁ => repeat (first | (with_reducible first | exact BK103.out | apply blk_set | apply blk_drewN | apply blk_drew | apply blk_alloc) | apply blk_far (hp := NB103_101.out))); simp only [List.setIfInBounds_toArray, List.set_cons_zero, List.set_cons_succ]))⟩; have n3_ : Aside0 (Below w.heap.size w w40) := ⟨(by rw [hw]; exact q27)⟩; clear hw; clear BK101; clear BK102; clear BK103; clear HB; have BK101 := n0_; have BK102 := n1_; have BK103 := n2_; have HB := n3_; clear n0_ n1_ n2_ n3_))
   refine bodyPost_ret (results_cell_row rfl _ _ gb103 28 #[.int .i64 0, .int .i64 a1_7, .int .i64 a0_2, .int .i64 0, .int .i64 4194304, .int .u32 2130706433, .int .u64 a2, .int .i64 a0_7, .int .i64 a0_8, .int .i64 0, .int .i64 a0_10] (0, 0) _ rfl q45 Try.underlying28 rfl q12) rfl ?_
   exact ⟨q9, q27⟩
def system_Lose.f (a0_0 : Int) (a0_1 : Int) (a0_2 : Int) (a0_3 : Int) (a0_4 : Int) (a0_5 : Int) (a0_6 : Int) (a0_7 : Int) (a0_8 : Int) (a0_9 : Int) (a0_10 : Int) : Option (Int × Int × Int × Int × Int × Int × Int × Int × Int × Int × Int) := some (3, 16, a0_2, a0_3, a0_4, 0, a0_6, a0_7, a0_8, 0, a0_10)
theorem system_Lose.calls (a0_0 : Int) (a0_1 : Int) (a0_2 : Int) (a0_3 : Int) (a0_4 : Int) (a0_5 : Int) (a0_6 : Int) (a0_7 : Int) (a0_8 : Int) (a0_9 : Int) (a0_10 : Int) (r1 : Int) (r2 : Int) (r3 : Int) (r4 : Int) (r5 : Int) (r6 : Int) (r7 : Int) (r8 : Int) (r9 : Int) (r10 : Int) (r11 : Int) (w : World) (h : system_Lose.f a0_0 a0_1 a0_2 a0_3 a0_4 a0_5 a0_6 a0_7 a0_8 a0_9 a0_10 = some (r1, r2, r3, r4, r5, r6, r7, r8, r9, r10, r11)) :
  Calls Try.prog 12 #[.agg #[.int .i64 a0_0, .int .i64 a0_1, .int .i64 a0_2, .int .i64 a0_3, .int .i64 a0_4, .int .u32 a0_5, .int .u64 a0_6, .int .i64 a0_7, .int .i64 a0_8, .int .i64 a0_9, .int .i64 a0_10]] w fun e w' => e = .returned (.agg #[.int .i64 r1, .int .i64 r2, .int .i64 r3, .int .i64 r4, .int .i64 r5, .int .u32 r6, .int .u64 r7, .int .i64 r8, .int .i64 r9, .int .i64 r10, .int .i64 r11]) ∧ Below w.heap.size w w' := by
 have hu28 := Try.underlying28
 have HB := Aside0.mk (Below.refl w.heap.size w)
 have H : (some (3, 16, a0_2, a0_3, a0_4, 0, a0_6, a0_7, a0_8, 0, a0_10)) = some (r1, r2, r3, r4, r5, r6, r7, r8, r9, r10, r11) := h
 clear h
 simp only [Option.some.injEq, Prod.mk.injEq] at H
 obtain ⟨rfl, rfl, rfl, rfl, rfl, rfl, rfl, rfl, rfl, rfl, rfl⟩ := H
 go_enter Try.func12, Try.ntmps12
 go_wp2_with (first | ((with_reducible refine gate_dst (N := 1) rfl ?_); refine box_event ?hg (N := 1) ?hd (cs := #[.int .i64 a0_0, .int .i64 a0_1, .int .i64 a0_2, .int .i64 a0_3, .int .i64 a0_4, .int .u32 a0_5, .int .u64 a0_6, .int .i64 a0_7, .int .i64 a0_8, .int .i64 a0_9, .int .i64 a0_10]) (t := 28) ?hr ?_; (case hd => rfl); (case hg => rfl); (case hr => first | (go_simp; done) | (go_simp; rfl)); intro gb104 hg w2 hbox hb; have n0_ := Aside0.mk (below_step q0 hb); have n1_ := Aside0.mk (hbox); have n2_ := Aside0.mk ((by rw [hg]; exact (below_size q0) : w.heap.size ≤ gb104)); have n3_ := Aside0.mk ((by rw [hg]; exact (below_size q0) : w.heap.size ≤ gb104)); clear HB; have HB := n0_; have BK104 := n1_; have GW104 := n2_; have GE104 := n3_; clear n0_ n1_ n2_ n3_; clear hb hbox hg) | ((with_reducible refine gate_dst (N := 2) rfl ?_); refine box_event ?hg (N := 2) ?hd (cs := #[.int .i64 0, .int .i64 0, .int .i64 0, .int .i64 0, .int .i64 0, .int .u32 0, .int .u64 0, .int .i64 0, .int .i64 0, .int .i64 0, .int .i64 0]) (t := 28) ?hr ?_; (case hd => rfl); (case hg => rfl); (case hr => first | (go_simp; done) | (go_simp; rfl)); intro gb105 hg w3 hbox hb; have n0_ := Aside0.mk (bBel BK104 hb); have n1_ := Aside0.mk (below_step (by repeat (first | (with_reducible first | exact HB.out | apply below_alloc | apply pw_below_drewN | apply below_drew1 | refine below_set ?_ GE104.out) | exact HB.out)) hb); have n2_ := Aside0.mk (hbox); have n3_ := Aside0.mk ((by rw [hg]; exact (below_size (by repeat (first | (with_reducible first | exact HB.out | apply below_alloc | apply pw_below_drewN | apply below_drew1 | refine below_set ?_ GE104.out) | exact HB.out))) : w.heap.size ≤ gb105)); have n4_ := Aside0.mk ((by rw [hg]; exact (below_size (by repeat (first | (with_reducible first | exact HB.out | apply below_alloc | apply pw_below_drewN | apply below_drew1 | refine below_set ?_ GE104.out) | exact HB.out))) : w.heap.size ≤ gb105)); have n5_ := Aside0.mk (nbL BK104 hg); have n6_ := Aside0.mk (Ne.symm (nbL BK104 hg)); clear BK104 HB; have BK104 := n0_; have HB := n1_; have BK105 := n2_; have GW105 := n3_; have GE105 := n4_; have NB104_105 := n5_; have NB105_104 := n6_; clear n0_ n1_ n2_ n3_ n4_ n5_ n6_; clear hb hbox hg; have hnb4 := NB104_105.out; have hnc4 := NB105_104.out; have hcz5_0 : w3.cell? ⟨gb104, 0, none⟩ = some (.int .i64 a0_0) := (blk_cell BK104.out 0).trans rfl; have hfz5_0 := blk_frozen BK104.out 0; have hcz5_1 : w3.cell? ⟨gb104, 1, none⟩ = some (.int .i64 a0_1) := (blk_cell BK104.out 1).trans rfl; have hfz5_1 := blk_frozen BK104.out 1; have hcz5_5 : w3.cell? ⟨gb104, 5, none⟩ = some (.int .u32 a0_5) := (blk_cell BK104.out 5).trans rfl; have hfz5_5 := blk_frozen BK104.out 5; have hcz5_9 : w3.cell? ⟨gb104, 9, none⟩ = some (.int .i64 a0_9) := (blk_cell BK104.out 9).trans rfl; have hfz5_9 := blk_frozen BK104.out 9; have hcz6_0 : w3.cell? ⟨gb105, 0, none⟩ = some (.int .i64 0) := (blk_cell BK105.out 0).trans rfl; have hfz6_0 := blk_frozen BK105.out 0; have hcz6_1 : w3.cell? ⟨gb105, 1, none⟩ = some (.int .i64 0) := (blk_cell BK105.out 1).trans rfl; have hfz6_1 := blk_frozen BK105.out 1; have hcz6_2 : w3.cell? ⟨gb105, 2, none⟩ = some (.int .i64 0) := (blk_cell BK105.out 2).trans rfl; have hfz6_2 := blk_frozen BK105.out 2; have hcz6_3 : w3.cell? ⟨gb105, 3, none⟩ = some (.int .i64 0) := (blk_cell BK105.out 3).trans rfl; have hfz6_3 := blk_frozen BK105.out 3; have hcz6_4 : w3.cell? ⟨gb105, 4, none⟩ = some (.int .i64 0) := (blk_cell BK105.out 4).trans rfl; have hfz6_4 := blk_frozen BK105.out 4; have hcz6_5 : w3.cell? ⟨gb105, 5, none⟩ = some (.int .u32 0) := (blk_cell BK105.out 5).trans rfl; have hfz6_5 := blk_frozen BK105.out 5; have hcz6_6 : w3.cell? ⟨gb105, 6, none⟩ = some (.int .u64 0) := (blk_cell BK105.out 6).trans rfl; have hfz6_6 := blk_frozen BK105.out 6; have hcz6_7 : w3.cell? ⟨gb105, 7, none⟩ = some (.int .i64 0) := (blk_cell BK105.out 7).trans rfl; have hfz6_7 := blk_frozen BK105.out 7; have hcz6_8 : w3.cell? ⟨gb105, 8, none⟩ = some (.int .i64 0) := (blk_cell BK105.out 8).trans rfl; have hfz6_8 := blk_frozen BK105.out 8; have hcz6_9 : w3.cell? ⟨gb105, 9, none⟩ = some (.int .i64 0) := (blk_cell BK105.out 9).trans rfl; have hfz6_9 := blk_frozen BK105.out 9; have hcz6_10 : w3.cell? ⟨gb105, 10, none⟩ = some (.int .i64 0) := (blk_cell BK105.out 10).trans rfl; have hfz6_10 := blk_frozen BK105.out 10) | ((with_reducible refine gate_dst (N := 7) rfl ?_); refine load_event (t' := 28) rfl rfl gb104 #[.int .i64 3, .int .i64 16, .int .i64 a0_2, .int .i64 a0_3, .int .i64 a0_4, .int .u32 0, .int .u64 a0_6, .int .i64 a0_7, .int .i64 a0_8, .int .i64 0, .int .i64 a0_10] rfl hu28 q12 (by apply Eq.trans; (case h₁ => repeat (first | (with_reducible first | exact BK104.out | apply blk_set | apply blk_drewN | apply blk_drew | apply blk_alloc))); simp only [List.setIfInBounds_toArray, List.set_cons_zero, List.set_cons_succ]) ?_) | ((with_reducible refine gate_store (t := 28) (p := 2) rfl ?_); refine store_event (t := 28) (p := 2) (v := ?vo_w7) (w1 := (((((((((((((((w3.setCell ⟨gb104, 0, none⟩ (.int .i64 3)).setCell ⟨gb104, 1, none⟩ (.int .i64 16)).setCell ⟨gb104, 5, none⟩ (.int .u32 0)).setCell ⟨gb104, 9, none⟩ (.int .i64 0)).setCell ⟨gb105, 0, none⟩ (.int .i64 3)).setCell ⟨gb105, 1, none⟩ (.int .i64 16)).setCell ⟨gb105, 2, none⟩ (.int .i64 a0_2)).setCell ⟨gb105, 3, none⟩ (.int .i64 a0_3)).setCell ⟨gb105, 4, none⟩ (.int .i64 a0_4)).setCell ⟨gb105, 5, none⟩ (.int .u32 0)).setCell ⟨gb105, 6, none⟩ (.int .u64 a0_6)).setCell ⟨gb105, 7, none⟩ (.int .i64 a0_7)).setCell ⟨gb105, 8, none⟩ (.int .i64 a0_8)).setCell ⟨gb105, 9, none⟩ (.int .i64 0)).setCell ⟨gb105, 10, none⟩ (.int .i64 a0_10))) ?hg ?ho ?hn ?hr ?_; (case ho => rfl); (case hg => rfl); (case hn => rfl); (case hr => first | exact store_run rfl gb105 [.int .i64 3, .int .i64 16, .int .i64 a0_2, .int .i64 a0_3, .int .i64 a0_4, .int .u32 0, .int .u64 a0_6, .int .i64 a0_7, .int .i64 a0_8, .int .i64 0, .int .i64 a0_10] (cs := #[.int .i64 0, .int .i64 0, .int .i64 0, .int .i64 0, .int .i64 0, .int .u32 0, .int .u64 0, .int .i64 0, .int .i64 0, .int .i64 0, .int .i64 0]) (t' := 28) rfl rfl q12 (by repeat (first | (with_reducible first | exact BK105.out | refine blk_drewN ?_ _ | refine blk_drew ?_ | refine blk_alloc ?_ _) | refine blk_far ?_ NB105_104.out _ | exact BK105.out)) (Nat.le_refl _) rfl rfl | (go_simp; done) | (go_simp; rfl)); intro w7 hw; have n0_ : Aside0 (w7.heap[gb104]? = some (.cells #[.int .i64 3, .int .i64 16, .int .i64 a0_2, .int .i64 a0_3, .int .i64 a0_4, .int .u32 0, .int .u64 a0_6, .int .i64 a0_7, .int .i64 a0_8, .int .i64 0, .int .i64 a0_10] 28 (0, 0))) := ⟨(by rw [hw]; exact (by apply Eq.trans; (case h₁ => repeat (first | (with_reducible first | exact BK104.out | apply blk_set | apply blk_drewN | apply blk_drew | apply blk_alloc) | apply blk_far (hp := NB104_105.out))); simp only [List.setIfInBounds_toArray, List.set_cons_zero, List.set_cons_succ]))⟩; have n1_ : Aside0 (w7.heap[gb105]? = some (.cells #[.int .i64 3, .int .i64 16, .int .i64 a0_2, .int .i64 a0_3, .int .i64 a0_4, .int .u32 0, .int .u64 a0_6, .int .i64 a0_7, .int .i64 a0_8, .int .i64 0, .int .i64 a0_10] 28 (0, 0))) := ⟨(by rw [hw]; exact (by apply Eq.trans; (case h₁ => repeat (first | (with_reducible first | exact BK105.out | apply blk_set | apply blk_drewN | apply blk_drew | apply blk_alloc) | apply blk_far (hp := NB105_104.out))); simp only [List.setIfInBounds_toArray, List.set_cons_zero, List.set_cons_succ]))⟩; have n2_ : Aside0 (Below w.heap.size w w7) := ⟨(by rw [hw]; exact (by repeat (first | (with_reducible first | exact HB.out | apply below_alloc | apply pw_below_drewN | apply below_drew1 | refine below_set ?_ GE104.out | refine below_set ?_ GE105.out) | exact HB.out)))⟩; clear hw; clear BK104; clear BK105; clear HB; have BK104 := n0_; have BK105 := n1_; have HB := n2_; clear n0_ n1_ n2_))
 refine bodyPost_ret (results_cell_row rfl _ _ gb105 28 #[.int .i64 3, .int .i64 16, .int .i64 a0_2, .int .i64 a0_3, .int .i64 a0_4, .int .u32 0, .int .u64 a0_6, .int .i64 a0_7, .int .i64 a0_8, .int .i64 0, .int .i64 a0_10] (0, 0) _ rfl (by (with_reducible repeat (first | refine blk_drewN ?_ _ | refine blk_drew ?_ | refine blk_alloc ?_ _)); exact BK105.out) Try.underlying28 rfl q12) rfl ?_
 exact ⟨q9, (by repeat (first | (with_reducible first | exact HB.out | apply below_alloc | apply pw_below_drewN | apply below_drew1 | refine below_set ?_ GE104.out | refine below_set ?_ GE105.out) | exact HB.out))⟩
def system_Synced.f (a0_0 : Int) (a0_1 : Int) (a0_2 : Int) (a0_3 : Int) (a0_4 : Int) (a0_5 : Int) (a0_6 : Int) (a0_7 : Int) (a0_8 : Int) (a0_9 : Int) (a0_10 : Int) : Option (Bool) := if a0_0 = 3 then (some false) else (if 1 ≤ a0_1 then (some (decide (a0_1 < 16))) else (some false))
theorem system_Synced.calls (a0_0 : Int) (a0_1 : Int) (a0_2 : Int) (a0_3 : Int) (a0_4 : Int) (a0_5 : Int) (a0_6 : Int) (a0_7 : Int) (a0_8 : Int) (a0_9 : Int) (a0_10 : Int) (r : Bool) (w : World) (h : system_Synced.f a0_0 a0_1 a0_2 a0_3 a0_4 a0_5 a0_6 a0_7 a0_8 a0_9 a0_10 = some r) :
  Calls Try.prog 20 #[.agg #[.int .i64 a0_0, .int .i64 a0_1, .int .i64 a0_2, .int .i64 a0_3, .int .i64 a0_4, .int .u32 a0_5, .int .u64 a0_6, .int .i64 a0_7, .int .i64 a0_8, .int .i64 a0_9, .int .i64 a0_10]] w fun e w' => e = .returned (.bool r) ∧ Below w.heap.size w w' := by
 have hu28 := Try.underlying28
 have HB := Aside0.mk (Below.refl w.heap.size w)
 have H : (if a0_0 = 3 then (some false) else (if 1 ≤ a0_1 then (some (decide (a0_1 < 16))) else (some false))) = some r := h
 clear h
 by_cases c2 : a0_0 = 3
 ·rw [if_pos c2] at H
  have c2b0 : (a0_0 == 3) = true := beq_iff_eq.mpr c2
  have c2b1 : (a0_0 != 3) = false := bne_eq_false_iff_eq.mpr c2
  clear c2
  obtain rfl := Option.some.inj H
  go_enter Try.func20, Try.ntmps20
  go_wp2_with (first | ((with_reducible refine gate_dst (N := 1) rfl ?_); refine box_event ?hg (N := 1) ?hd (cs := #[.int .i64 a0_0, .int .i64 a0_1, .int .i64 a0_2, .int .i64 a0_3, .int .i64 a0_4, .int .u32 a0_5, .int .u64 a0_6, .int .i64 a0_7, .int .i64 a0_8, .int .i64 a0_9, .int .i64 a0_10]) (t := 28) ?hr ?_; (case hd => rfl); (case hg => rfl); (case hr => first | (go_simp; done) | (go_simp; rfl)); intro gb106 hg w3 hbox hb; have n0_ := Aside0.mk (below_step q0 hb); have n1_ := Aside0.mk (hbox); have n2_ := Aside0.mk ((by rw [hg]; exact (below_size q0) : w.heap.size ≤ gb106)); have n3_ := Aside0.mk ((by rw [hg]; exact (below_size q0) : w.heap.size ≤ gb106)); clear HB; have HB := n0_; have BK106 := n1_; have GW106 := n2_; have GE106 := n3_; clear n0_ n1_ n2_ n3_; clear hb hbox hg; have hcz4_0 : w3.cell? ⟨gb106, 0, none⟩ = some (.int .i64 a0_0) := (blk_cell BK106.out 0).trans rfl))
  go_ret
  exact ⟨q9, (by repeat (first | (with_reducible first | exact HB.out | apply below_alloc | apply pw_below_drewN | apply below_drew1 | refine below_set ?_ GE106.out) | exact HB.out))⟩
 ·rw [if_neg c2] at H
  have c2b0 : (a0_0 == 3) = false := beq_eq_false_iff_ne.mpr c2
  have c2b1 : (a0_0 != 3) = true := bne_iff_ne.mpr c2
  by_cases c5 : 1 ≤ a0_1
  ·rw [if_pos c5] at H
   have c5b0 : decide (1 ≤ a0_1) = true := decide_eq_true c5
   clear c5
   obtain rfl := Option.some.inj H
   go_enter Try.func20, Try.ntmps20
   go_wp2_with (first | ((with_reducible refine gate_dst (N := 1) rfl ?_); refine box_event ?hg (N := 1) ?hd (cs := #[.int .i64 a0_0, .int .i64 a0_1, .int .i64 a0_2, .int .i64 a0_3, .int .i64 a0_4, .int .u32 a0_5, .int .u64 a0_6, .int .i64 a0_7, .int .i64 a0_8, .int .i64 a0_9, .int .i64 a0_10]) (t := 28) ?hr ?_; (case hd => rfl); (case hg => rfl); (case hr => first | (go_simp; done) | (go_simp; rfl)); intro gb106 hg w6 hbox hb; have n0_ := Aside0.mk (below_step q0 hb); have n1_ := Aside0.mk (hbox); have n2_ := Aside0.mk ((by rw [hg]; exact (below_size q0) : w.heap.size ≤ gb106)); have n3_ := Aside0.mk ((by rw [hg]; exact (below_size q0) : w.heap.size ≤ gb106)); clear HB; have HB := n0_; have BK106 := n1_; have GW106 := n2_; have GE106 := n3_; clear n0_ n1_ n2_ n3_; clear hb hbox hg; have hcz7_0 : w6.cell? ⟨gb106, 0, none⟩ = some (.int .i64 a0_0) := (blk_cell BK106.out 0).trans rfl; have hcz7_1 : w6.cell? ⟨gb106, 1, none⟩ = some (.int .i64 a0_1) := (blk_cell BK106.out 1).trans rfl))
   go_ret
   exact ⟨q9, (by repeat (first | (with_reducible first | exact HB.out | apply below_alloc | apply pw_below_drewN | apply below_drew1 | refine below_set ?_ GE106.out) | exact HB.out))⟩
  ·rw [if_neg c5] at H
   have c5b0 : decide (1 ≤ a0_1) = false := decide_eq_false c5
   clear c5
   obtain rfl := Option.some.inj H
   go_enter Try.func20, Try.ntmps20
   go_wp2_with (first | ((with_reducible refine gate_dst (N := 1) rfl ?_); refine box_event ?hg (N := 1) ?hd (cs := #[.int .i64 a0_0, .int .i64 a0_1, .int .i64 a0_2, .int .i64 a0_3, .int .i64 a0_4, .int .u32 a0_5, .int .u64 a0_6, .int .i64 a0_7, .int .i64 a0_8, .int .i64 a0_9, .int .i64 a0_10]) (t := 28) ?hr ?_; (case hd => rfl); (case hg => rfl); (case hr => first | (go_simp; done) | (go_simp; rfl)); intro gb106 hg w8 hbox hb; have n0_ := Aside0.mk (below_step q0 hb); have n1_ := Aside0.mk (hbox); have n2_ := Aside0.mk ((by rw [hg]; exact (below_size q0) : w.heap.size ≤ gb106)); have n3_ := Aside0.mk ((by rw [hg]; exact (below_size q0) : w.heap.size ≤ gb106)); clear HB; have HB := n0_; have BK106 := n1_; have GW106 := n2_; have GE106 := n3_; clear n0_ n1_ n2_ n3_; clear hb hbox hg; have hcz9_0 : w8.cell? ⟨gb106, 0, none⟩ = some (.int .i64 a0_0) := (blk_cell BK106.out 0).trans rfl; have hcz9_1 : w8.cell? ⟨gb106, 1, none⟩ = some (.int .i64 a0_1) := (blk_cell BK106.out 1).trans rfl))
   go_ret
   exact ⟨q9, (by repeat (first | (with_reducible first | exact HB.out | apply below_alloc | apply pw_below_drewN | apply below_drew1 | refine below_set ?_ GE106.out) | exact HB.out))⟩
def fixed_whole_cut.j0 : Nat → Int → Bool → Int → Int → Bool → Option (Int)
 | 0, _, _, _, _, _ => none
 | k + 1, x5, x16, x108000, x108001, x108002 => if x16 = true then (if x108002 = true then (some (wrap64 (-(wrap64 (x108001))))) else (some (wrap64 (x108001)))) else (if x108002 = true then (some (wrap64 (-x5))) else (some x5))
def fixed_whole_cut.f (k : Nat) (a0_0 : Int) (a0_1 : Int) (a0_2 : Bool) (a1 : Int) : Option (Int) := if a0_0 = 0 then (fixed_whole_cut.j0 k a1 (decide (a0_1 < (IntKind.u64.wrap (a1)))) a0_0 a0_1 a0_2) else (fixed_whole_cut.j0 k a1 false a0_0 a0_1 a0_2)
theorem fixed_whole_cut.calls (k : Nat) (a0_0 : Int) (a0_1 : Int) (a0_2 : Bool) (a1 : Int) (r : Int) (w : World) (h : fixed_whole_cut.f k a0_0 a0_1 a0_2 a1 = some r) :
  Calls Try.prog 58 #[.agg #[.int .u64 a0_0, .int .u64 a0_1, .bool a0_2], .int .i64 a1] w fun e w' => e = .returned (.int .i64 r) ∧ Below w.heap.size w w' := by
 have hu78 := Try.underlying78
 have HB := Aside0.mk (Below.refl w.heap.size w)
 have H : (if a0_0 = 0 then (fixed_whole_cut.j0 k a1 (decide (a0_1 < (IntKind.u64.wrap (a1)))) a0_0 a0_1 a0_2) else (fixed_whole_cut.j0 k a1 false a0_0 a0_1 a0_2)) = some r := h
 clear h
 have HC3 := Aside0.mk H
 clear H
 go_enter Try.func58, Try.ntmps58
 go_upto_region 2 with (first | ((with_reducible refine gate_dst (N := 2) rfl ?_); refine box_event ?hg (N := 2) ?hd (cs := #[.int .u64 a0_0, .int .u64 a0_1, .bool a0_2]) (t := 78) ?hr ?_; (case hd => rfl); (case hg => rfl); (case hr => first | (go_simp; done) | (go_simp; rfl)); intro gb107 hg w4 hbox hb; have n0_ := Aside0.mk (below_step q0 hb); have n1_ := Aside0.mk (hbox); have n2_ := Aside0.mk ((by rw [hg]; exact (below_size q0) : w.heap.size ≤ gb107)); have n3_ := Aside0.mk ((by rw [hg]; exact (below_size q0) : w.heap.size ≤ gb107)); clear HB; have HB := n0_; have BK107 := n1_; have GW107 := n2_; have GE107 := n3_; clear n0_ n1_ n2_ n3_; clear hb hbox hg))
 (try simp only [Act.put, List.setIfInBounds_toArray, List.set_cons_zero, List.set_cons_succ])
 go_cut [16] (fun v16 wc => ∃ (kq : Nat) (x16_2 : Bool), v16 = .bool x16_2 ∧ Aside0 (fixed_whole_cut.j0 kq a1 x16_2 a0_0 a0_1 a0_2 = some r) ∧ Aside0 (kq ≤ k) ∧ Aside0 (wc.heap[gb107]? = some (.cells #[.int .u64 a0_0, .int .u64 a0_1, .bool a0_2] 78 (0, 0))) ∧ Aside0 (Below w.heap.size w wc))
 case first =>
  have H := HC3.out
  clear HC3
  by_cases c5 : a0_0 = 0
  ·rw [if_pos c5] at H
   have c5b0 : (a0_0 == 0) = true := beq_iff_eq.mpr c5
   have c5b1 : (a0_0 != 0) = false := bne_eq_false_iff_eq.mpr c5
   clear c5
   (first | rw [c5b0] | (simp only [i64_w, i32_w]; rw [c5b0]) | skip)
   have H' := Aside0.mk H
   clear H
   have hcz6_0 : w4.cell? ⟨gb107, 0, none⟩ = some (.int .u64 a0_0) := (blk_cell BK107.out 0).trans rfl
   have hcz6_1 : w4.cell? ⟨gb107, 1, none⟩ = some (.int .u64 a0_1) := (blk_cell BK107.out 1).trans rfl
   go_wp2
   go_meet
   case rel => first | (exact ⟨_, (decide (a0_1 < (IntKind.u64.wrap (a1)))), q30, H', ⟨(by first | omega | exact Nat.le_refl _)⟩, ⟨q61⟩, ⟨q25⟩⟩) | ((try rw [c5b0] at H'); (try rw [c5b0]); exact ⟨_, (decide (a0_1 < (IntKind.u64.wrap (a1)))), q30, H', ⟨(by first | omega | exact Nat.le_refl _)⟩, ⟨q61⟩, ⟨q25⟩⟩)
  ·rw [if_neg c5] at H
   have c5b0 : (a0_0 == 0) = false := beq_eq_false_iff_ne.mpr c5
   have c5b1 : (a0_0 != 0) = true := bne_iff_ne.mpr c5
   (first | rw [c5b0] | (simp only [i64_w, i32_w]; rw [c5b0]) | skip)
   have H' := Aside0.mk H
   clear H
   have hcz7_0 : w4.cell? ⟨gb107, 0, none⟩ = some (.int .u64 a0_0) := (blk_cell BK107.out 0).trans rfl
   go_wp2
   go_meet
   case rel => first | (exact ⟨_, (false), q30, H', ⟨(by first | omega | exact Nat.le_refl _)⟩, ⟨q61⟩, ⟨q25⟩⟩) | ((try rw [c5b0] at H'); (try rw [c5b0]); exact ⟨_, (false), q30, H', ⟨(by first | omega | exact Nat.le_refl _)⟩, ⟨q61⟩, ⟨q25⟩⟩)
 case rest =>
  clear HC3
  try clear p2
  try clear c5
  try clear c5b0
  try clear c5b1
  try clear hcz6_0
  try clear hcz6_1
  try clear hcz7_0
  obtain ⟨kq, x16_2, rfl, HA, HJ2, BK107, HB⟩ := hcut
  cases kq with
  | zero => exact absurd HA.out (by simp [fixed_whole_cut.j0])
  | succ kj2 =>
   have H := HA.out
   clear HA
   simp only [fixed_whole_cut.j0] at H
   by_cases c8 : x16_2 = true
   ·subst c8
    have H1 : (if a0_2 = true then (some (wrap64 (-(wrap64 (a0_1))))) else (some (wrap64 (a0_1)))) = some r := by rw [if_pos rfl] at H; exact H
    clear H
    have H := H1
    clear H1
    by_cases c9 : a0_2 = true
    ·subst c9
     have H1 : (some (wrap64 (-(wrap64 (a0_1))))) = some r := by rw [if_pos rfl] at H; exact H
     clear H
     have H := H1
     clear H1
     obtain rfl := Option.some.inj H
     have hcz10_1 : wc.cell? ⟨gb107, 1, none⟩ = some (.int .u64 a0_1) := (blk_cell BK107.out 1).trans rfl
     have hcz10_2 : wc.cell? ⟨gb107, 2, none⟩ = some (.bool true) := (blk_cell BK107.out 2).trans rfl
     go_wp2
     go_ret
     exact ⟨q9, q25⟩
    ·replace c9 := Bool.eq_false_iff.mpr c9
     subst c9
     have H1 : (some (wrap64 (a0_1))) = some r := by rw [if_neg (show ¬ (false = true) by decide)] at H; exact H
     clear H
     have H := H1
     clear H1
     obtain rfl := Option.some.inj H
     have hcz11_1 : wc.cell? ⟨gb107, 1, none⟩ = some (.int .u64 a0_1) := (blk_cell BK107.out 1).trans rfl
     have hcz11_2 : wc.cell? ⟨gb107, 2, none⟩ = some (.bool false) := (blk_cell BK107.out 2).trans rfl
     go_wp2
     go_ret
     exact ⟨q9, q25⟩
   ·replace c8 := Bool.eq_false_iff.mpr c8
    subst c8
    have H1 : (if a0_2 = true then (some (wrap64 (-a1))) else (some a1)) = some r := by rw [if_neg (show ¬ (false = true) by decide)] at H; exact H
    clear H
    have H := H1
    clear H1
    by_cases c12 : a0_2 = true
    ·subst c12
     have H1 : (some (wrap64 (-a1))) = some r := by rw [if_pos rfl] at H; exact H
     clear H
     have H := H1
     clear H1
     obtain rfl := Option.some.inj H
     have hcz13_2 : wc.cell? ⟨gb107, 2, none⟩ = some (.bool true) := (blk_cell BK107.out 2).trans rfl
     go_wp2
     go_ret
     exact ⟨q9, q25⟩
    ·replace c12 := Bool.eq_false_iff.mpr c12
     subst c12
     have H1 : (some a1) = some r := by rw [if_neg (show ¬ (false = true) by decide)] at H; exact H
     clear H
     have H := H1
     clear H1
     obtain rfl := Option.some.inj H
     have hcz14_2 : wc.cell? ⟨gb107, 2, none⟩ = some (.bool false) := (blk_cell BK107.out 2).trans rfl
     go_wp2
     go_ret
     exact ⟨q9, q25⟩
def fixed_whole_span.f (k : Nat) (a0_0 : Int) (a0_1 : Int) (a0_2 : Bool) : Option (Int) := (fixed_whole_cut.f k a0_0 a0_1 a0_2 4611686018427387904).bind fun t109 => (some t109)
theorem fixed_whole_span.calls (k : Nat) (a0_0 : Int) (a0_1 : Int) (a0_2 : Bool) (r : Int) (w : World) (h : fixed_whole_span.f k a0_0 a0_1 a0_2 = some r) :
  Calls Try.prog 43 #[.agg #[.int .u64 a0_0, .int .u64 a0_1, .bool a0_2]] w fun e w' => e = .returned (.int .i64 r) ∧ Below w.heap.size w w' := by
 have hu78 := Try.underlying78
 have HB := Aside0.mk (Below.refl w.heap.size w)
 have H : ((fixed_whole_cut.f k a0_0 a0_1 a0_2 4611686018427387904).bind fun t109 => (some t109)) = some r := h
 clear h
 replace H := Option.bind_eq_some_iff.mp H
 obtain ⟨t109, A20, H⟩ := H
 replace H : (some t109) = some r := H
 have A2 := Aside0.mk A20
 clear A20
 obtain rfl := Option.some.inj H
 go_enter Try.func43, Try.ntmps43
 go_wp2_with (first | ((with_reducible refine gate_dst (N := 1) rfl ?_); refine box_event ?hg (N := 1) ?hd (cs := #[.int .u64 a0_0, .int .u64 a0_1, .bool a0_2]) (t := 78) ?hr ?_; (case hd => rfl); (case hg => rfl); (case hr => first | (go_simp; done) | (go_simp; rfl)); intro gb108 hg w3 hbox hb; have n0_ := Aside0.mk (below_step q0 hb); have n1_ := Aside0.mk (hbox); have n2_ := Aside0.mk ((by rw [hg]; exact (below_size q0) : w.heap.size ≤ gb108)); have n3_ := Aside0.mk ((by rw [hg]; exact (below_size q0) : w.heap.size ≤ gb108)); clear HB; have HB := n0_; have BK108 := n1_; have GW108 := n2_; have GE108 := n3_; clear n0_ n1_ n2_ n3_; clear hb hbox hg) | ((with_reducible refine gate_dst (N := 3) rfl ?_); refine load_event (t' := 78) rfl rfl gb108 #[.int .u64 a0_0, .int .u64 a0_1, .bool a0_2] rfl hu78 q12 (by (with_reducible repeat (first | refine blk_drewN ?_ _ | refine blk_drew ?_ | refine blk_alloc ?_ _)); exact BK108.out) ?_) | ((with_reducible refine gate_callee (f := 58) rfl ?_); refine goesL_ (some 4) rfl rfl Try.func58 q12 rfl #[.agg #[.int .u64 a0_0, .int .u64 a0_1, .bool a0_2], .int .i64 4611686018427387904] rfl q3 ?_; (with_reducible refine (fixed_whole_cut.calls k a0_0 a0_1 a0_2 4611686018427387904 t109 _ A2.out).mono ?_); rintro e w4 ⟨rfl, hb⟩; refine ⟨_, rfl, ?_⟩; have n0_ := Aside0.mk (bBel BK108 hb); have n1_ := Aside0.mk (below_step (by repeat (first | (with_reducible first | exact HB.out | apply below_alloc | apply pw_below_drewN | apply below_drew1 | refine below_set ?_ GE108.out) | exact HB.out)) hb); clear BK108 HB; have BK108 := n0_; have HB := n1_; clear n0_ n1_; (try clear hb); (try clear hb2); (try clear hk); (try clear hi)))
 go_ret
 exact ⟨q9, (by repeat (first | (with_reducible first | exact HB.out | apply below_alloc | apply pw_below_drewN | apply below_drew1 | refine below_set ?_ GE108.out) | exact HB.out))⟩
end Go.Proofs.Ytbcdoncnhhjjeaa.PSystemLost
