-- Written by a program (extend_print.py). Not trusted: Lean checks it.
import Derived.Test.YtbcdoncnhhjjeaaQSystemLost
import Derived.Test.YtbcdoncnhhjjeaaVSystemLostArrs
import Derived.Test.YtbcdoncnhhjjeaaVSystemLostLoads
import Derived.Test.YtbcdoncnhhjjeaaVSystemLostShort
import Derived.Test.YtbcdoncnhhjjeaaPSystemLostx0
import Derived.Test.YtbcdoncnhhjjeaaPSystemLostx4
import Derived.Test.YtbcdoncnhhjjeaaPSystemLostx7
namespace Go.Proofs.Ytbcdoncnhhjjeaa.PSystemLost
open Go.RowKit Go.Proofs.YtbcdoncnhhjjeaaW.PrintWords Go.Proofs.YtbcdoncnhhjjeaaW.PrintLast Go.Proofs.YtbcdoncnhhjjeaaW.PrintMore
attribute [local go_sem] max2_int min2_int max_two min_two max_three min_three max_four min_four
set_option linter.unusedVariables false
set_option maxHeartbeats 8000000
set_option maxRecDepth 100000
set_option linter.unusedSimpArgs false
mutual
def system_Reply.j0 : Nat → Int → Int → Bool → Int → Int → Int → Int → Int → Int → Int → Int → Int → Int → Int → Int → Int → Int → Int → Int → Int → Int → Int → Int → Int → Int → Int → Int → List (S94) → Int → Bool → List Int → Int → Int → Int → Int → Int → Int → Option (Int × Int × Int × Int × Int × Int × Int × Int × Int × Int × Int × Int × Int × (List (S94)) × Int × Bool × List Int × Bool)
 | 0, _, _, _, _, _, _, _, _, _, _, _, _, _, _, _, _, _, _, _, _, _, _, _, _, _, _, _, _, _, _, _, _, _, _, _, _, _ => none
 | k + 1, x2, x3, x27, x150000, x150001, x150002, x150003, x150004, x150005, x150006, x150007, x150008, x150009, x150010, x151000, x151001, x151002, x151003, x151004, x151005, x151006, x151007, x151008, x151009, x151010, x151011, x151012, x151013, x151014, x151015, x151016, x153000, x153001, x153002, x153003, x153004, x153005 => if x27 = true then (some (0, 0, 0, 0, 0, 0, 0, 0, 0, 0, 0, 0, 0, ([] : List (S94)), 0, false, ([] : List Int), false)) else ((system_Age.f k x150000 x150001 x150002 x150003 x150004 x150005 x150006 x150007 x150008 x150009 x150010 x3).bind fun bt153 => ((stamp_FromShort.f 4294967295).bind fun t164 => (if bt153.2.1 < 1 then (system_Reply.j1 k x2 x3 t164 true bt153.1 bt153.2.1 bt153.2.2.1 bt153.2.2.2.1 bt153.2.2.2.2.1 bt153.2.2.2.2.2.1 bt153.2.2.2.2.2.2.1 bt153.2.2.2.2.2.2.2.1 bt153.2.2.2.2.2.2.2.2.1 bt153.2.2.2.2.2.2.2.2.2.1 bt153.2.2.2.2.2.2.2.2.2.2 x151000 x151001 x151002 x151003 x151004 x151005 x151006 x151007 x151008 x151009 x151010 x151011 x151012 x151013 x151014 x151015 x151016 x153000 x153001 x153002 x153003 x153004 x153005) else (system_Reply.j1 k x2 x3 t164 (decide (bt153.2.1 ≥ 16)) bt153.1 bt153.2.1 bt153.2.2.1 bt153.2.2.2.1 bt153.2.2.2.2.1 bt153.2.2.2.2.2.1 bt153.2.2.2.2.2.2.1 bt153.2.2.2.2.2.2.2.1 bt153.2.2.2.2.2.2.2.2.1 bt153.2.2.2.2.2.2.2.2.2.1 bt153.2.2.2.2.2.2.2.2.2.2 x151000 x151001 x151002 x151003 x151004 x151005 x151006 x151007 x151008 x151009 x151010 x151011 x151012 x151013 x151014 x151015 x151016 x153000 x153001 x153002 x153003 x153004 x153005))))
def system_Reply.j1 : Nat → Int → Int → Int → Bool → Int → Int → Int → Int → Int → Int → Int → Int → Int → Int → Int → Int → Int → Int → Int → Int → Int → Int → Int → Int → Int → Int → Int → Int → List (S94) → Int → Bool → List Int → Int → Int → Int → Int → Int → Int → Option (Int × Int × Int × Int × Int × Int × Int × Int × Int × Int × Int × Int × Int × (List (S94)) × Int × Bool × List Int × Bool)
 | 0, _, _, _, _, _, _, _, _, _, _, _, _, _, _, _, _, _, _, _, _, _, _, _, _, _, _, _, _, _, _, _, _, _, _, _, _, _, _ => none
 | k + 1, x2, x3, x11, x40, x150000, x150001, x150002, x150003, x150004, x150005, x150006, x150007, x150008, x150009, x150010, x151000, x151001, x151002, x151003, x151004, x151005, x151006, x151007, x151008, x151009, x151010, x151011, x151012, x151013, x151014, x151015, x151016, x153000, x153001, x153002, x153003, x153004, x153005 => if x40 = true then (system_Reply.j2 k x2 x3 x11 x150000 0 x150002 x150003 x150004 x150005 x150006 x150007 x150008 x150009 x150010 x151000 x151001 x151002 x151003 x151004 x151005 x151006 x151007 x151008 x151009 x151010 x151011 x151012 x151013 x151014 x151015 x151016 x153000 x153001 x153002 x153003 x153004 x153005) else (system_Reply.j2 k x2 x3 x11 x150000 x150001 x150002 x150003 x150004 x150005 x150006 x150007 x150008 x150009 x150010 x151000 x151001 x151002 x151003 x151004 x151005 x151006 x151007 x151008 x151009 x151010 x151011 x151012 x151013 x151014 x151015 x151016 x153000 x153001 x153002 x153003 x153004 x153005)
def system_Reply.j2 : Nat → Int → Int → Int → Int → Int → Int → Int → Int → Int → Int → Int → Int → Int → Int → Int → Int → Int → Int → Int → Int → Int → Int → Int → Int → Int → Int → Int → List (S94) → Int → Bool → List Int → Int → Int → Int → Int → Int → Int → Option (Int × Int × Int × Int × Int × Int × Int × Int × Int × Int × Int × Int × Int × (List (S94)) × Int × Bool × List Int × Bool)
 | 0, _, _, _, _, _, _, _, _, _, _, _, _, _, _, _, _, _, _, _, _, _, _, _, _, _, _, _, _, _, _, _, _, _, _, _, _, _ => none
 | k + 1, x2, x3, x11, x150000, x150001, x150002, x150003, x150004, x150005, x150006, x150007, x150008, x150009, x150010, x151000, x151001, x151002, x151003, x151004, x151005, x151006, x151007, x151008, x151009, x151010, x151011, x151012, x151013, x151014, x151015, x151016, x153000, x153001, x153002, x153003, x153004, x153005 => if 0 ≤ x151002 then (if x151002 < 6 then ((system_within.f x150003 x11).bind fun t165 => ((system_within.f x150004 x11).bind fun t166 => (some (Go.bits .and .i64 x150000 3, mn (mx x151001 1) 4, rd [x153000, x153001, x153002, x153003, x153004, x153005] x151002, x150001, mn (mx x151004 (-128)) 127, (-20), t165, t166, x150005, x150006, x151012, x2, mx x3 1, ([] : List (S94)), 0, false, ([] : List Int), true)))) else (none)) else (none)
end
def system_Reply.f (k : Nat) (a0_0 : Int) (a0_1 : Int) (a0_2 : Int) (a0_3 : Int) (a0_4 : Int) (a0_5 : Int) (a0_6 : Int) (a0_7 : Int) (a0_8 : Int) (a0_9 : Int) (a0_10 : Int) (a1_0 : Int) (a1_1 : Int) (a1_2 : Int) (a1_3 : Int) (a1_4 : Int) (a1_5 : Int) (a1_6 : Int) (a1_7 : Int) (a1_8 : Int) (a1_9 : Int) (a1_10 : Int) (a1_11 : Int) (a1_12 : Int) (l1_13 : List (S94)) (a1_14 : Int) (a1_15 : Bool) (l1_16 : List Int) (a2 : Int) (a3 : Int) : Option (Int × Int × Int × Int × Int × Int × Int × Int × Int × Int × Int × Int × Int × (List (S94)) × Int × Bool × List Int × Bool) := if a1_2 < 0 then (system_Reply.j0 k a2 a3 true a0_0 a0_1 a0_2 a0_3 a0_4 a0_5 a0_6 a0_7 a0_8 a0_9 a0_10 a1_0 a1_1 a1_2 a1_3 a1_4 a1_5 a1_6 a1_7 a1_8 a1_9 a1_10 a1_11 a1_12 l1_13 a1_14 a1_15 l1_16 0 2 0 4 0 0) else (if a1_2 ≥ 6 then (system_Reply.j0 k a2 a3 true a0_0 a0_1 a0_2 a0_3 a0_4 a0_5 a0_6 a0_7 a0_8 a0_9 a0_10 a1_0 a1_1 a1_2 a1_3 a1_4 a1_5 a1_6 a1_7 a1_8 a1_9 a1_10 a1_11 a1_12 l1_13 a1_14 a1_15 l1_16 0 2 0 4 0 0) else (if 0 ≤ a1_2 then (if a1_2 < 6 then (system_Reply.j0 k a2 a3 ((rd [0, 2, 0, 4, 0, 0] a1_2) == 0) a0_0 a0_1 a0_2 a0_3 a0_4 a0_5 a0_6 a0_7 a0_8 a0_9 a0_10 a1_0 a1_1 a1_2 a1_3 a1_4 a1_5 a1_6 a1_7 a1_8 a1_9 a1_10 a1_11 a1_12 l1_13 a1_14 a1_15 l1_16 0 2 0 4 0 0) else (none)) else (none)))
def system_Reply.T8 : Bool × List (List Nat × List Nat) := (true, [([], []), ([0], [0]), ([1], [1]), ([], []), ([3], [3]), ([4], [4]), ([5], [5]), ([], []), ([7], [7]), ([8], [8]), ([9], [9]), ([], []), ([11], [11]), ([], []), ([13], [13]), ([14], [14]), ([15], [15]), ([], []), ([17], [17]), ([], []), ([18, 19], [18, 19]), ([], []), ([21], [21]), ([], []), ([22, 23, 20], [22, 23]), ([], []), ([25], [25]), ([], []), ([27], [27]), ([], []), ([29], [29]), ([], []), ([], []), ([32], [32]), ([2, 6, 10, 12, 16, 20, 24, 26, 28, 30, 31, 33], [2, 6, 10, 12, 16, 20, 24, 26, 28, 30, 31, 33]), ([34, 24, 0, 1, 2, 3, 4, 5, 6, 7, 8, 9, 10, 11, 12, 13, 14, 15, 16, 17, 18, 19, 20, 21, 22, 23, 24, 25, 26, 27, 28, 29, 30, 31, 32, 33, 34], [34]), ([35, 0, 1, 2, 3, 4, 5, 6, 7, 8, 9, 10, 11, 12, 13, 14, 15, 16, 17, 18, 19, 20, 21, 22, 23, 24, 25, 26, 27, 28, 29, 30, 31, 32, 33, 34, 35], [])])
def system_Reply.B8 : List Nat := [0, 1, 3, 0, 8, 24, 56, 0, 128, 384, 896, 0, 2048, 0, 8192, 24576, 57344, 0, 131072, 0, 917504, 0, 2097152, 0, 16646144, 0, 33554432, 0, 134217728, 0, 536870912, 0, 0, 4294967296, 17179869183, 34359738367, 68719476735]
theorem system_Reply.tab8 : rtab .any (opsOf Try.f22 8) = system_Reply.T8 := by kernel_rfl
theorem system_Reply.bits8 : waitsOk system_Reply.T8.2 system_Reply.B8 = true := by kernel_rfl
theorem system_Reply.calls (k : Nat) (a0_0 : Int) (a0_1 : Int) (a0_2 : Int) (a0_3 : Int) (a0_4 : Int) (a0_5 : Int) (a0_6 : Int) (a0_7 : Int) (a0_8 : Int) (a0_9 : Int) (a0_10 : Int) (a1_0 : Int) (a1_1 : Int) (a1_2 : Int) (a1_3 : Int) (a1_4 : Int) (a1_5 : Int) (a1_6 : Int) (a1_7 : Int) (a1_8 : Int) (a1_9 : Int) (a1_10 : Int) (a1_11 : Int) (a1_12 : Int) (A1_13 : Option Addr) (c1_13 : Nat) (l1_13 : List (S94)) (a1_14 : Int) (a1_15 : Bool) (A1_16 : Option Addr) (c1_16 : Nat) (l1_16 : List Int) (a2 : Int) (a3 : Int) (r1 : Int) (r2 : Int) (r3 : Int) (r4 : Int) (r5 : Int) (r6 : Int) (r7 : Int) (r8 : Int) (r9 : Int) (r10 : Int) (r11 : Int) (r12 : Int) (r13 : Int) (r14 : List (S94)) (r15 : Int) (r16 : Bool) (r17 : List Int) (r18 : Bool) (w : World) (hr1_13 : Kd.C k94 w A1_13 l1_13.length l1_13) (hc1_13 : l1_13.length ≤ c1_13) (hr1_16 : Kd.C (Kd.int .u8) w A1_16 l1_16.length l1_16) (hc1_16 : l1_16.length ≤ c1_16) (h : system_Reply.f k a0_0 a0_1 a0_2 a0_3 a0_4 a0_5 a0_6 a0_7 a0_8 a0_9 a0_10 a1_0 a1_1 a1_2 a1_3 a1_4 a1_5 a1_6 a1_7 a1_8 a1_9 a1_10 a1_11 a1_12 l1_13 a1_14 a1_15 l1_16 a2 a3 = some (r1, r2, r3, r4, r5, r6, r7, r8, r9, r10, r11, r12, r13, r14, r15, r16, r17, r18)) :
  Calls Try.prog 22 #[.agg #[.int .i64 a0_0, .int .i64 a0_1, .int .i64 a0_2, .int .i64 a0_3, .int .i64 a0_4, .int .u32 a0_5, .int .u64 a0_6, .int .i64 a0_7, .int .i64 a0_8, .int .i64 a0_9, .int .i64 a0_10], .agg #[.int .i64 a1_0, .int .i64 a1_1, .int .i64 a1_2, .int .i64 a1_3, .int .i64 a1_4, .int .i64 a1_5, .int .i64 a1_6, .int .i64 a1_7, .int .u32 a1_8, .int .u64 a1_9, .int .u64 a1_10, .int .u64 a1_11, .int .u64 a1_12, .slice A1_13 l1_13.length c1_13, .int .i64 a1_14, .bool a1_15, .slice A1_16 l1_16.length c1_16], .int .u64 a2, .int .u64 a3] w fun e w' => ∃ v13_ v16_ : Value, e = .returned (.tuple #[.agg #[.int .i64 r1, .int .i64 r2, .int .i64 r3, .int .i64 r4, .int .i64 r5, .int .i64 r6, .int .i64 r7, .int .i64 r8, .int .u32 r9, .int .u64 r10, .int .u64 r11, .int .u64 r12, .int .u64 r13, v13_, .int .i64 r15, .bool r16, v16_], .bool r18]) ∧ Kd.S k94 94 w' w.heap.size (fun k_ => some k_ ≠ (v16_ : Value).ownBlock) v13_ r14 ∧ Kd.R (Kd.int .u8) 5 w' w.heap.size (fun _ => True) v16_ r17 ∧ Below w.heap.size w w' := by
 have hu28 := Try.underlying28
 have hu56 := Try.underlying56
 have hu71 := Try.underlying71
 have hia71 : Aside0 (∀ (g_ : Nat) (i_ : Int), 0 ≤ i_ → i_ < 6 → ∀ (w_ : World), (Instr.indexAt 71 (.pointer (some ⟨g_, 0, none⟩)) (.int .i64 i_)).run Try.prog w_ = .ok (.pointer (some ⟨g_, i_.toNat, none⟩)) w_) := Aside0.mk fun g_ i_ h0_ h1_ => arr_at (P := Try.prog) Try.underlying71 info3 i_ h0_ h1_ i_.toNat (by simp)
 have hra71 : Aside0 (∀ {w_ : World} {g_ : Nat} {x0_ x1_ x2_ x3_ x4_ x5_ i_ : Int}, w_.heap[g_]? = some (.cells #[.int .i64 x0_, .int .i64 x1_, .int .i64 x2_, .int .i64 x3_, .int .i64 x4_, .int .i64 x5_] 71 (0, 0)) → 0 ≤ i_ → i_ < 6 → w_.cell? ⟨g_, i_.toNat, none⟩ = some (.int .i64 (rd [x0_, x1_, x2_, x3_, x4_, x5_] i_))) := Aside0.mk fun {w_ g_ x0_ x1_ x2_ x3_ x4_ x5_ i_} hb_ h0_ h1_ => by
  rcases (show _ by omega : i_ = 0 ∨ i_ = 1 ∨ i_ = 2 ∨ i_ = 3 ∨ i_ = 4 ∨ i_ = 5) with rfl | rfl | rfl | rfl | rfl | rfl <;> exact (blk_cell hb_ _).trans rfl
 have HR1_13 := Aside0.mk hr1_13
 have HC1_13 := Aside0.mk hc1_13
 clear hr1_13 hc1_13
 have HR1_16 := Aside0.mk hr1_16
 have HC1_16 := Aside0.mk hc1_16
 clear hr1_16 hc1_16
 have HB := Aside0.mk (Below.refl w.heap.size w)
 have H : (if a1_2 < 0 then (system_Reply.j0 k a2 a3 true a0_0 a0_1 a0_2 a0_3 a0_4 a0_5 a0_6 a0_7 a0_8 a0_9 a0_10 a1_0 a1_1 a1_2 a1_3 a1_4 a1_5 a1_6 a1_7 a1_8 a1_9 a1_10 a1_11 a1_12 l1_13 a1_14 a1_15 l1_16 0 2 0 4 0 0) else (if a1_2 ≥ 6 then (system_Reply.j0 k a2 a3 true a0_0 a0_1 a0_2 a0_3 a0_4 a0_5 a0_6 a0_7 a0_8 a0_9 a0_10 a1_0 a1_1 a1_2 a1_3 a1_4 a1_5 a1_6 a1_7 a1_8 a1_9 a1_10 a1_11 a1_12 l1_13 a1_14 a1_15 l1_16 0 2 0 4 0 0) else (if 0 ≤ a1_2 then (if a1_2 < 6 then (system_Reply.j0 k a2 a3 ((rd [0, 2, 0, 4, 0, 0] a1_2) == 0) a0_0 a0_1 a0_2 a0_3 a0_4 a0_5 a0_6 a0_7 a0_8 a0_9 a0_10 a1_0 a1_1 a1_2 a1_3 a1_4 a1_5 a1_6 a1_7 a1_8 a1_9 a1_10 a1_11 a1_12 l1_13 a1_14 a1_15 l1_16 0 2 0 4 0 0) else (none)) else (none)))) = some (r1, r2, r3, r4, r5, r6, r7, r8, r9, r10, r11, r12, r13, r14, r15, r16, r17, r18) := h
 clear h
 have HC5 := Aside0.mk H
 clear H
 go_enter Try.func22, Try.ntmps22
 go_upto_region 2 with (first | ((with_reducible refine gate_dst (N := 4) rfl ?_); refine box_event ?hg (N := 4) ?hd (cs := #[.int .i64 a0_0, .int .i64 a0_1, .int .i64 a0_2, .int .i64 a0_3, .int .i64 a0_4, .int .u32 a0_5, .int .u64 a0_6, .int .i64 a0_7, .int .i64 a0_8, .int .i64 a0_9, .int .i64 a0_10]) (t := 28) ?hr ?_; (case hd => rfl); (case hg => rfl); (case hr => first | (go_simp; done) | (go_simp; rfl)); intro gb149 hg w6 hbox hb; have n0_ := Aside0.mk (below_step q0 hb); have n1_ := Aside0.mk (hbox); have n2_ := Aside0.mk ((by rw [hg]; exact (below_size q0) : w.heap.size ≤ gb149)); have n3_ := Aside0.mk ((by rw [hg]; exact (below_size q0) : w.heap.size ≤ gb149)); clear HB; have HB := n0_; have BK149 := n1_; have GW149 := n2_; have GE149 := n3_; clear n0_ n1_ n2_ n3_; clear hb hbox hg) | ((with_reducible refine gate_dst (N := 5) rfl ?_); refine box_event ?hg (N := 5) ?hd (cs := #[.int .i64 a1_0, .int .i64 a1_1, .int .i64 a1_2, .int .i64 a1_3, .int .i64 a1_4, .int .i64 a1_5, .int .i64 a1_6, .int .i64 a1_7, .int .u32 a1_8, .int .u64 a1_9, .int .u64 a1_10, .int .u64 a1_11, .int .u64 a1_12, .slice A1_13 l1_13.length c1_13, .int .i64 a1_14, .bool a1_15, .slice A1_16 l1_16.length c1_16]) (t := 56) ?hr ?_; (case hd => rfl); (case hg => rfl); (case hr => first | (go_simp; done) | (go_simp; rfl)); intro gb150 hg w7 hbox hb; have n0_ := Aside0.mk (bBel BK149 hb); have n1_ := Aside0.mk (below_step (by repeat (first | (with_reducible first | exact HB.out | apply below_alloc | apply pw_below_drewN | apply below_drew1 | refine below_set ?_ GE149.out) | exact HB.out)) hb); have n2_ := Aside0.mk (hbox); have n3_ := Aside0.mk ((by rw [hg]; exact (below_size (by repeat (first | (with_reducible first | exact HB.out | apply below_alloc | apply pw_below_drewN | apply below_drew1 | refine below_set ?_ GE149.out) | exact HB.out))) : w.heap.size ≤ gb150)); have n4_ := Aside0.mk ((by rw [hg]; exact (below_size (by repeat (first | (with_reducible first | exact HB.out | apply below_alloc | apply pw_below_drewN | apply below_drew1 | refine below_set ?_ GE149.out) | exact HB.out))) : w.heap.size ≤ gb150)); have n5_ := Aside0.mk (nbL BK149 hg); have n6_ := Aside0.mk (Ne.symm (nbL BK149 hg)); clear BK149 HB; have BK149 := n0_; have HB := n1_; have BK150 := n2_; have GW150 := n3_; have GE150 := n4_; have NB149_150 := n5_; have NB150_149 := n6_; clear n0_ n1_ n2_ n3_ n4_ n5_ n6_; clear hb hbox hg) | ((with_reducible refine gate_dst (N := 8) rfl ?_); refine box_event ?hg (N := 8) ?hd (cs := #[.int .i64 0, .int .i64 0, .int .i64 0, .int .i64 0, .int .i64 0, .int .i64 0, .int .i64 0, .int .i64 0, .int .u32 0, .int .u64 0, .int .u64 0, .int .u64 0, .int .u64 0, .slice none 0 0, .int .i64 0, .bool false, .slice none 0 0]) (t := 56) ?hr ?_; (case hd => rfl); (case hg => rfl); (case hr => first | (go_simp; done) | (go_simp; rfl)); intro gb151 hg w8 hbox hb; have n0_ := Aside0.mk (bBel BK149 hb); have n1_ := Aside0.mk (bBel BK150 hb); have n2_ := Aside0.mk (below_step q49 hb); have n3_ := Aside0.mk (hbox); have n4_ := Aside0.mk ((by rw [hg]; exact (below_size q49) : w.heap.size ≤ gb151)); have n5_ := Aside0.mk ((by rw [hg]; exact (below_size q49) : w.heap.size ≤ gb151)); have n6_ := Aside0.mk (nbL BK149 hg); have n7_ := Aside0.mk (Ne.symm (nbL BK149 hg)); have n8_ := Aside0.mk (nbL BK150 hg); have n9_ := Aside0.mk (Ne.symm (nbL BK150 hg)); clear BK149 BK150 HB; have BK149 := n0_; have BK150 := n1_; have HB := n2_; have BK151 := n3_; have GW151 := n4_; have GE151 := n5_; have NB149_151 := n6_; have NB151_149 := n7_; have NB150_151 := n8_; have NB151_150 := n9_; clear n0_ n1_ n2_ n3_ n4_ n5_ n6_ n7_ n8_ n9_; clear hb hbox hg) | ((with_reducible refine gate_dst (N := 10) rfl ?_); refine box_event ?hg (N := 10) ?hd (cs := #[.int .i64 0, .int .i64 0, .int .i64 0, .int .i64 0, .int .i64 0, .int .i64 0]) (t := 71) ?hr ?_; (case hd => rfl); (case hg => rfl); (case hr => first | (go_simp; done) | (go_simp; rfl)); intro gb152 hg w9 hbox hb; have n0_ := Aside0.mk (bBel BK149 hb); have n1_ := Aside0.mk (bBel BK150 hb); have n2_ := Aside0.mk (bBel BK151 hb); have n3_ := Aside0.mk (below_step q46 hb); have n4_ := Aside0.mk (hbox); have n5_ := Aside0.mk ((by rw [hg]; exact (below_size q46) : w.heap.size ≤ gb152)); have n6_ := Aside0.mk ((by rw [hg]; exact (below_size q46) : w.heap.size ≤ gb152)); have n7_ := Aside0.mk (nbL BK149 hg); have n8_ := Aside0.mk (Ne.symm (nbL BK149 hg)); have n9_ := Aside0.mk (nbL BK150 hg); have n10_ := Aside0.mk (Ne.symm (nbL BK150 hg)); have n11_ := Aside0.mk (nbL BK151 hg); have n12_ := Aside0.mk (Ne.symm (nbL BK151 hg)); clear BK149 BK150 BK151 HB; have BK149 := n0_; have BK150 := n1_; have BK151 := n2_; have HB := n3_; have BK152 := n4_; have GW152 := n5_; have GE152 := n6_; have NB149_152 := n7_; have NB152_149 := n8_; have NB150_152 := n9_; have NB152_150 := n10_; have NB151_152 := n11_; have NB152_151 := n12_; clear n0_ n1_ n2_ n3_ n4_ n5_ n6_ n7_ n8_ n9_ n10_ n11_ n12_; clear hb hbox hg; have hnb10 := NB152_149.out; have hnc10 := NB149_152.out; have hnb11 := NB152_150.out; have hnc11 := NB150_152.out; have hnb12 := NB152_151.out; have hnc12 := NB151_152.out; have hcz13_0 : w9.cell? ⟨gb152, 0, none⟩ = some (.int .i64 0) := (blk_cell BK152.out 0).trans rfl; have hcz13_1 : w9.cell? ⟨gb152, 1, none⟩ = some (.int .i64 0) := (blk_cell BK152.out 1).trans rfl; have hcz13_2 : w9.cell? ⟨gb152, 2, none⟩ = some (.int .i64 0) := (blk_cell BK152.out 2).trans rfl; have hcz13_3 : w9.cell? ⟨gb152, 3, none⟩ = some (.int .i64 0) := (blk_cell BK152.out 3).trans rfl; have hcz13_4 : w9.cell? ⟨gb152, 4, none⟩ = some (.int .i64 0) := (blk_cell BK152.out 4).trans rfl; have hcz13_5 : w9.cell? ⟨gb152, 5, none⟩ = some (.int .i64 0) := (blk_cell BK152.out 5).trans rfl; have hfz13_0 := blk_frozen BK152.out 0; have hfz13_1 := blk_frozen BK152.out 1; have hfz13_2 := blk_frozen BK152.out 2; have hfz13_3 := blk_frozen BK152.out 3; have hfz13_4 := blk_frozen BK152.out 4; have hfz13_5 := blk_frozen BK152.out 5) | ((with_reducible refine gate_store (t := 71) (p := 10) rfl ?_); refine store_event (t := 71) (p := 10) (v := ?vo_w14) (w1 := ((((((w9.setCell ⟨gb152, 0, none⟩ (.int .i64 0)).setCell ⟨gb152, 1, none⟩ (.int .i64 2)).setCell ⟨gb152, 2, none⟩ (.int .i64 0)).setCell ⟨gb152, 3, none⟩ (.int .i64 4)).setCell ⟨gb152, 4, none⟩ (.int .i64 0)).setCell ⟨gb152, 5, none⟩ (.int .i64 0))) ?hg ?ho ?hn ?hr ?_; (case ho => rfl); (case hg => rfl); (case hn => rfl); (case hr => first | exact store_run rfl gb152 [.int .i64 0, .int .i64 2, .int .i64 0, .int .i64 4, .int .i64 0, .int .i64 0] (cs := #[.int .i64 0, .int .i64 0, .int .i64 0, .int .i64 0, .int .i64 0, .int .i64 0]) (t' := 71) rfl rfl q12 q17 (Nat.le_refl _) rfl rfl | (go_simp; done) | (go_simp; rfl)); intro w14 hw; have n0_ : Aside0 (w14.heap[gb149]? = some (.cells #[.int .i64 a0_0, .int .i64 a0_1, .int .i64 a0_2, .int .i64 a0_3, .int .i64 a0_4, .int .u32 a0_5, .int .u64 a0_6, .int .i64 a0_7, .int .i64 a0_8, .int .i64 a0_9, .int .i64 a0_10] 28 (0, 0))) := ⟨(by rw [hw]; exact (by repeat (first | (with_reducible first | exact BK149.out | refine blk_drewN ?_ _ | refine blk_drew ?_ | refine blk_alloc ?_ _) | refine blk_far ?_ NB149_152.out _ | exact BK149.out)))⟩; have n1_ : Aside0 (w14.heap[gb150]? = some (.cells #[.int .i64 a1_0, .int .i64 a1_1, .int .i64 a1_2, .int .i64 a1_3, .int .i64 a1_4, .int .i64 a1_5, .int .i64 a1_6, .int .i64 a1_7, .int .u32 a1_8, .int .u64 a1_9, .int .u64 a1_10, .int .u64 a1_11, .int .u64 a1_12, .slice A1_13 l1_13.length c1_13, .int .i64 a1_14, .bool a1_15, .slice A1_16 l1_16.length c1_16] 56 (0, 0))) := ⟨(by rw [hw]; exact (by repeat (first | (with_reducible first | exact BK150.out | refine blk_drewN ?_ _ | refine blk_drew ?_ | refine blk_alloc ?_ _) | refine blk_far ?_ NB150_152.out _ | exact BK150.out)))⟩; have n2_ : Aside0 (w14.heap[gb151]? = some (.cells #[.int .i64 0, .int .i64 0, .int .i64 0, .int .i64 0, .int .i64 0, .int .i64 0, .int .i64 0, .int .i64 0, .int .u32 0, .int .u64 0, .int .u64 0, .int .u64 0, .int .u64 0, .slice none 0 0, .int .i64 0, .bool false, .slice none 0 0] 56 (0, 0))) := ⟨(by rw [hw]; exact (by repeat (first | (with_reducible first | exact BK151.out | refine blk_drewN ?_ _ | refine blk_drew ?_ | refine blk_alloc ?_ _) | refine blk_far ?_ NB151_152.out _ | exact BK151.out)))⟩; have n3_ : Aside0 (w14.heap[gb152]? = some (.cells #[.int .i64 0, .int .i64 2, .int .i64 0, .int .i64 4, .int .i64 0, .int .i64 0] 71 (0, 0))) := ⟨(by rw [hw]; exact (by apply Eq.trans; (case h₁ => repeat (first | (with_reducible first | exact BK152.out | apply blk_set | apply blk_drewN | apply blk_drew | apply blk_alloc))); simp only [List.setIfInBounds_toArray, List.set_cons_zero, List.set_cons_succ]))⟩; have n4_ : Aside0 (Below w.heap.size w w14) := ⟨(by rw [hw]; exact q2)⟩; clear hw; clear BK149; clear BK150; clear BK151; clear BK152; clear HB; have BK149 := n0_; have BK150 := n1_; have BK151 := n2_; have BK152 := n3_; have HB := n4_; clear n0_ n1_ n2_ n3_ n4_))
 (try simp only [Act.put, List.setIfInBounds_toArray, List.set_cons_zero, List.set_cons_succ])
 go_cut [27] (fun v27 wc => ∃ (kq : Nat) (x27_4 : Bool), v27 = .bool x27_4 ∧ Aside0 (system_Reply.j0 kq a2 a3 x27_4 a0_0 a0_1 a0_2 a0_3 a0_4 a0_5 a0_6 a0_7 a0_8 a0_9 a0_10 a1_0 a1_1 a1_2 a1_3 a1_4 a1_5 a1_6 a1_7 a1_8 a1_9 a1_10 a1_11 a1_12 l1_13 a1_14 a1_15 l1_16 0 2 0 4 0 0 = some (r1, r2, r3, r4, r5, r6, r7, r8, r9, r10, r11, r12, r13, r14, r15, r16, r17, r18)) ∧ Aside0 (kq ≤ k) ∧ Aside0 (wc.heap[gb149]? = some (.cells #[.int .i64 a0_0, .int .i64 a0_1, .int .i64 a0_2, .int .i64 a0_3, .int .i64 a0_4, .int .u32 a0_5, .int .u64 a0_6, .int .i64 a0_7, .int .i64 a0_8, .int .i64 a0_9, .int .i64 a0_10] 28 (0, 0))) ∧ Aside0 (wc.heap[gb150]? = some (.cells #[.int .i64 a1_0, .int .i64 a1_1, .int .i64 a1_2, .int .i64 a1_3, .int .i64 a1_4, .int .i64 a1_5, .int .i64 a1_6, .int .i64 a1_7, .int .u32 a1_8, .int .u64 a1_9, .int .u64 a1_10, .int .u64 a1_11, .int .u64 a1_12, (.slice A1_13 l1_13.length c1_13), .int .i64 a1_14, .bool a1_15, (.slice A1_16 l1_16.length c1_16)] 56 (0, 0))) ∧ Aside0 (wc.heap[gb151]? = some (.cells #[.int .i64 0, .int .i64 0, .int .i64 0, .int .i64 0, .int .i64 0, .int .i64 0, .int .i64 0, .int .i64 0, .int .u32 0, .int .u64 0, .int .u64 0, .int .u64 0, .int .u64 0, (.slice none 0 0), .int .i64 0, .bool false, (.slice none 0 0)] 56 (0, 0))) ∧ Aside0 (wc.heap[gb152]? = some (.cells #[.int .i64 0, .int .i64 2, .int .i64 0, .int .i64 4, .int .i64 0, .int .i64 0] 71 (0, 0))) ∧ Aside0 (Below w.heap.size w wc))
 case first =>
  have H := HC5.out
  clear HC5
  by_cases c15 : a1_2 < 0
  ·rw [if_pos c15] at H
   have c15b0 : decide (a1_2 < 0) = true := decide_eq_true c15
   clear c15
   (first | rw [c15b0] | (simp only [i64_w, i32_w]; rw [c15b0]) | skip)
   have H' := Aside0.mk H
   clear H
   have hnb16 := NB150_149.out
   have hnc16 := NB149_150.out
   have hnb17 := NB150_151.out
   have hnc17 := NB151_150.out
   have hnb18 := NB150_152.out
   have hnc18 := NB152_150.out
   have hcz19_2 : w14.cell? ⟨gb150, 2, none⟩ = some (.int .i64 a1_2) := (blk_cell BK150.out 2).trans rfl
   go_wp2
   go_meet
   case rel => first | (exact ⟨_, (true), q28, H', ⟨(by first | omega | exact Nat.le_refl _)⟩, ⟨q16⟩, ⟨q21⟩, ⟨q15⟩, ⟨q17⟩, ⟨q2⟩⟩) | ((try rw [c15b0] at H'); (try rw [c15b0]); exact ⟨_, (true), q28, H', ⟨(by first | omega | exact Nat.le_refl _)⟩, ⟨q16⟩, ⟨q21⟩, ⟨q15⟩, ⟨q17⟩, ⟨q2⟩⟩)
  ·rw [if_neg c15] at H
   have c15b0 : decide (a1_2 < 0) = false := decide_eq_false c15
   clear c15
   (first | rw [c15b0] | (simp only [i64_w, i32_w]; rw [c15b0]) | skip)
   by_cases c20 : a1_2 ≥ 6
   ·rw [if_pos c20] at H
    have c20b0 : decide (6 ≤ a1_2) = true := decide_eq_true c20
    clear c20
    have H' := Aside0.mk H
    clear H
    have hnb21 := NB150_149.out
    have hnc21 := NB149_150.out
    have hnb22 := NB150_151.out
    have hnc22 := NB151_150.out
    have hnb23 := NB150_152.out
    have hnc23 := NB152_150.out
    have hcz24_2 : w14.cell? ⟨gb150, 2, none⟩ = some (.int .i64 a1_2) := (blk_cell BK150.out 2).trans rfl
    go_wp2
    go_meet
    case rel => first | (exact ⟨_, (true), q28, H', ⟨(by first | omega | exact Nat.le_refl _)⟩, ⟨q16⟩, ⟨q21⟩, ⟨q15⟩, ⟨q17⟩, ⟨q2⟩⟩) | ((try rw [c15b0] at H'); (try rw [c15b0]); exact ⟨_, (true), q28, H', ⟨(by first | omega | exact Nat.le_refl _)⟩, ⟨q16⟩, ⟨q21⟩, ⟨q15⟩, ⟨q17⟩, ⟨q2⟩⟩)
   ·rw [if_neg c20] at H
    have c20b0 : decide (6 ≤ a1_2) = false := decide_eq_false c20
    clear c20
    by_cases c25 : 0 ≤ a1_2
    ·rw [if_pos c25] at H
     have c25b0 : decide (0 ≤ a1_2) = true := decide_eq_true c25
     clear c25
     by_cases c26 : a1_2 < 6
     ·rw [if_pos c26] at H
      have c26b0 : decide (a1_2 < 6) = true := decide_eq_true c26
      clear c26
      have H' := Aside0.mk H
      clear H
      have hnb28 := NB150_149.out
      have hnc28 := NB149_150.out
      have hnb29 := NB150_151.out
      have hnc29 := NB151_150.out
      have hnb30 := NB150_152.out
      have hnc30 := NB152_150.out
      have hcz31_2 : w14.cell? ⟨gb150, 2, none⟩ = some (.int .i64 a1_2) := (blk_cell BK150.out 2).trans rfl
      have hx27 : ∀ w_ : World, (Instr.indexAt 71 (.pointer (some ⟨gb152, 0, none⟩)) (.int .i64 a1_2)).run Try.prog w_ = .ok (.pointer (some ⟨gb152, (a1_2 : Int).toNat, none⟩)) w_ := (fun w_ => hia71.out _ _ (of_decide_eq_true q34) (of_decide_eq_true q34) w_)
      have hc27 : w14.cell? ⟨gb152, (a1_2 : Int).toNat, none⟩ = some (.int .i64 (rd [0, 2, 0, 4, 0, 0] a1_2)) := (hra71.out BK152.out (of_decide_eq_true q34) (of_decide_eq_true q34))
      go_wp2
      go_meet
      case rel => first | (exact ⟨_, (((rd [0, 2, 0, 4, 0, 0] a1_2) == 0)), q28, H', ⟨(by first | omega | exact Nat.le_refl _)⟩, ⟨q16⟩, ⟨q21⟩, ⟨q15⟩, ⟨q17⟩, ⟨q2⟩⟩) | ((try rw [c15b0] at H'); (try rw [c15b0]); exact ⟨_, (((rd [0, 2, 0, 4, 0, 0] a1_2) == 0)), q28, H', ⟨(by first | omega | exact Nat.le_refl _)⟩, ⟨q16⟩, ⟨q21⟩, ⟨q15⟩, ⟨q17⟩, ⟨q2⟩⟩)
     ·rw [if_neg c26] at H
      exact absurd H (by simp)
    ·rw [if_neg c25] at H
     exact absurd H (by simp)
 case rest =>
  clear HC5
  try clear c1
  try clear c2
  try clear p2
  try clear hx2
  try clear c3
  try clear c10
  try clear c11
  try clear c12
  try clear c15
  try clear c15b0
  try clear c16
  try clear c17
  try clear c18
  try clear c20
  try clear c20b0
  try clear c21
  try clear c22
  try clear c23
  try clear c25
  try clear c25b0
  try clear c26
  try clear c26b0
  try clear c27
  try clear hx27
  try clear c28
  try clear c29
  try clear c30
  try clear hcz13_0
  try clear hcz13_1
  try clear hcz13_2
  try clear hcz13_3
  try clear hcz13_4
  try clear hcz13_5
  try clear hcz19_2
  try clear hcz24_2
  try clear hcz31_2
  try clear hfz13_0
  try clear hfz13_1
  try clear hfz13_2
  try clear hfz13_3
  try clear hfz13_4
  try clear hfz13_5
  obtain ⟨kq, x27_4, rfl, HA, HJ4, BK149, BK150, BK151, BK152, HB⟩ := hcut
  cases kq with
  | zero => exact absurd HA.out (by simp [system_Reply.j0])
  | succ kj4 =>
   have H := HA.out
   clear HA
   simp only [system_Reply.j0] at H
   by_cases c32 : x27_4 = true
   ·subst c32
    have H1 : (some (0, 0, 0, 0, 0, 0, 0, 0, 0, 0, 0, 0, 0, ([] : List (S94)), 0, false, ([] : List Int), false)) = some (r1, r2, r3, r4, r5, r6, r7, r8, r9, r10, r11, r12, r13, r14, r15, r16, r17, r18) := by rw [if_pos rfl] at H; exact H
    clear H
    have H := H1
    clear H1
    simp only [Option.some.injEq, Prod.mk.injEq] at H
    obtain ⟨rfl, rfl, rfl, rfl, rfl, rfl, rfl, rfl, rfl, rfl, rfl, rfl, rfl, rfl, rfl, rfl, rfl, rfl⟩ := H
    have hnb33 := NB151_149.out
    have hnc33 := NB149_151.out
    have hnb34 := NB151_150.out
    have hnc34 := NB150_151.out
    have hnb35 := NB151_152.out
    have hnc35 := NB152_151.out
    have hcz36_0 : wc.cell? ⟨gb151, 0, none⟩ = some (.int .i64 0) := (blk_cell BK151.out 0).trans rfl
    have hcz36_1 : wc.cell? ⟨gb151, 1, none⟩ = some (.int .i64 0) := (blk_cell BK151.out 1).trans rfl
    have hcz36_2 : wc.cell? ⟨gb151, 2, none⟩ = some (.int .i64 0) := (blk_cell BK151.out 2).trans rfl
    have hcz36_3 : wc.cell? ⟨gb151, 3, none⟩ = some (.int .i64 0) := (blk_cell BK151.out 3).trans rfl
    have hcz36_4 : wc.cell? ⟨gb151, 4, none⟩ = some (.int .i64 0) := (blk_cell BK151.out 4).trans rfl
    have hcz36_5 : wc.cell? ⟨gb151, 5, none⟩ = some (.int .i64 0) := (blk_cell BK151.out 5).trans rfl
    have hcz36_6 : wc.cell? ⟨gb151, 6, none⟩ = some (.int .i64 0) := (blk_cell BK151.out 6).trans rfl
    have hcz36_7 : wc.cell? ⟨gb151, 7, none⟩ = some (.int .i64 0) := (blk_cell BK151.out 7).trans rfl
    have hcz36_8 : wc.cell? ⟨gb151, 8, none⟩ = some (.int .u32 0) := (blk_cell BK151.out 8).trans rfl
    have hcz36_9 : wc.cell? ⟨gb151, 9, none⟩ = some (.int .u64 0) := (blk_cell BK151.out 9).trans rfl
    have hcz36_10 : wc.cell? ⟨gb151, 10, none⟩ = some (.int .u64 0) := (blk_cell BK151.out 10).trans rfl
    have hcz36_11 : wc.cell? ⟨gb151, 11, none⟩ = some (.int .u64 0) := (blk_cell BK151.out 11).trans rfl
    have hcz36_12 : wc.cell? ⟨gb151, 12, none⟩ = some (.int .u64 0) := (blk_cell BK151.out 12).trans rfl
    have hcz36_13 : wc.cell? ⟨gb151, 13, none⟩ = some (.slice none 0 0) := (blk_cell BK151.out 13).trans rfl
    have hcz36_14 : wc.cell? ⟨gb151, 14, none⟩ = some (.int .i64 0) := (blk_cell BK151.out 14).trans rfl
    have hcz36_15 : wc.cell? ⟨gb151, 15, none⟩ = some (.bool false) := (blk_cell BK151.out 15).trans rfl
    have hcz36_16 : wc.cell? ⟨gb151, 16, none⟩ = some (.slice none 0 0) := (blk_cell BK151.out 16).trans rfl
    have hfz36_0 := blk_frozen BK151.out 0
    have hfz36_1 := blk_frozen BK151.out 1
    have hfz36_2 := blk_frozen BK151.out 2
    have hfz36_3 := blk_frozen BK151.out 3
    have hfz36_4 := blk_frozen BK151.out 4
    have hfz36_5 := blk_frozen BK151.out 5
    have hfz36_6 := blk_frozen BK151.out 6
    have hfz36_7 := blk_frozen BK151.out 7
    have hfz36_8 := blk_frozen BK151.out 8
    have hfz36_9 := blk_frozen BK151.out 9
    have hfz36_10 := blk_frozen BK151.out 10
    have hfz36_11 := blk_frozen BK151.out 11
    have hfz36_12 := blk_frozen BK151.out 12
    have hfz36_13 := blk_frozen BK151.out 13
    have hfz36_14 := blk_frozen BK151.out 14
    have hfz36_15 := blk_frozen BK151.out 15
    have hfz36_16 := blk_frozen BK151.out 16
    go_wp2_with (first | ((with_reducible refine gate_store (t := 56) (p := 8) rfl ?_); refine store_event (t := 56) (p := 8) (v := ?vo_w37) (w1 := (((((((((((((((((wc.setCell ⟨gb151, 0, none⟩ (.int .i64 0)).setCell ⟨gb151, 1, none⟩ (.int .i64 0)).setCell ⟨gb151, 2, none⟩ (.int .i64 0)).setCell ⟨gb151, 3, none⟩ (.int .i64 0)).setCell ⟨gb151, 4, none⟩ (.int .i64 0)).setCell ⟨gb151, 5, none⟩ (.int .i64 0)).setCell ⟨gb151, 6, none⟩ (.int .i64 0)).setCell ⟨gb151, 7, none⟩ (.int .i64 0)).setCell ⟨gb151, 8, none⟩ (.int .u32 0)).setCell ⟨gb151, 9, none⟩ (.int .u64 0)).setCell ⟨gb151, 10, none⟩ (.int .u64 0)).setCell ⟨gb151, 11, none⟩ (.int .u64 0)).setCell ⟨gb151, 12, none⟩ (.int .u64 0)).setCell ⟨gb151, 13, none⟩ (.slice none 0 0)).setCell ⟨gb151, 14, none⟩ (.int .i64 0)).setCell ⟨gb151, 15, none⟩ (.bool false)).setCell ⟨gb151, 16, none⟩ (.slice none 0 0))) ?hg ?ho ?hn ?hr ?_; (case ho => rfl); (case hg => rfl); (case hn => rfl); (case hr => first | exact store_run rfl gb151 [.int .i64 0, .int .i64 0, .int .i64 0, .int .i64 0, .int .i64 0, .int .i64 0, .int .i64 0, .int .i64 0, .int .u32 0, .int .u64 0, .int .u64 0, .int .u64 0, .int .u64 0, .slice none 0 0, .int .i64 0, .bool false, .slice none 0 0] (cs := #[.int .i64 0, .int .i64 0, .int .i64 0, .int .i64 0, .int .i64 0, .int .i64 0, .int .i64 0, .int .i64 0, .int .u32 0, .int .u64 0, .int .u64 0, .int .u64 0, .int .u64 0, .slice none 0 0, .int .i64 0, .bool false, .slice none 0 0]) (t' := 56) rfl rfl q12 q15 (Nat.le_refl _) rfl rfl | (go_simp; done) | (go_simp; rfl)); intro w37 hw; have n0_ : Aside0 (w37.heap[gb149]? = some (.cells #[.int .i64 a0_0, .int .i64 a0_1, .int .i64 a0_2, .int .i64 a0_3, .int .i64 a0_4, .int .u32 a0_5, .int .u64 a0_6, .int .i64 a0_7, .int .i64 a0_8, .int .i64 a0_9, .int .i64 a0_10] 28 (0, 0))) := ⟨(by rw [hw]; exact (by repeat (first | (with_reducible first | exact BK149.out | refine blk_drewN ?_ _ | refine blk_drew ?_ | refine blk_alloc ?_ _) | refine blk_far ?_ NB149_151.out _ | exact BK149.out)))⟩; have n1_ : Aside0 (w37.heap[gb150]? = some (.cells #[.int .i64 a1_0, .int .i64 a1_1, .int .i64 a1_2, .int .i64 a1_3, .int .i64 a1_4, .int .i64 a1_5, .int .i64 a1_6, .int .i64 a1_7, .int .u32 a1_8, .int .u64 a1_9, .int .u64 a1_10, .int .u64 a1_11, .int .u64 a1_12, .slice A1_13 l1_13.length c1_13, .int .i64 a1_14, .bool a1_15, .slice A1_16 l1_16.length c1_16] 56 (0, 0))) := ⟨(by rw [hw]; exact (by repeat (first | (with_reducible first | exact BK150.out | refine blk_drewN ?_ _ | refine blk_drew ?_ | refine blk_alloc ?_ _) | refine blk_far ?_ NB150_151.out _ | exact BK150.out)))⟩; have n2_ : Aside0 (w37.heap[gb151]? = some (.cells #[.int .i64 0, .int .i64 0, .int .i64 0, .int .i64 0, .int .i64 0, .int .i64 0, .int .i64 0, .int .i64 0, .int .u32 0, .int .u64 0, .int .u64 0, .int .u64 0, .int .u64 0, .slice none 0 0, .int .i64 0, .bool false, .slice none 0 0] 56 (0, 0))) := ⟨(by rw [hw]; exact (by apply Eq.trans; (case h₁ => repeat (first | (with_reducible first | exact BK151.out | apply blk_set | apply blk_drewN | apply blk_drew | apply blk_alloc))); simp only [List.setIfInBounds_toArray, List.set_cons_zero, List.set_cons_succ]))⟩; have n3_ : Aside0 (w37.heap[gb152]? = some (.cells #[.int .i64 0, .int .i64 2, .int .i64 0, .int .i64 4, .int .i64 0, .int .i64 0] 71 (0, 0))) := ⟨(by rw [hw]; exact (by repeat (first | (with_reducible first | exact BK152.out | refine blk_drewN ?_ _ | refine blk_drew ?_ | refine blk_alloc ?_ _) | refine blk_far ?_ NB152_151.out _ | exact BK152.out)))⟩; have n4_ : Aside0 (Below w.heap.size w w37) := ⟨(by rw [hw]; exact q2)⟩; clear hw; clear BK149; clear BK150; clear BK151; clear BK152; clear HB; have BK149 := n0_; have BK150 := n1_; have BK151 := n2_; have BK152 := n3_; have HB := n4_; clear n0_ n1_ n2_ n3_ n4_))
    refine bodyPost_ret (results_ct rfl _ _ gb151 56 #[.int .i64 0, .int .i64 0, .int .i64 0, .int .i64 0, .int .i64 0, .int .i64 0, .int .i64 0, .int .i64 0, .int .u32 0, .int .u64 0, .int .u64 0, .int .u64 0, .int .u64 0, .slice none 0 0, .int .i64 0, .bool false, .slice none 0 0] (0, 0) _ rfl q15 Try.underlying56 rfl q12) rfl ?_
    exact ⟨_, _, q9, (by first | exact Kd.S_nil _ _ _ _ _ | exact Kd.N_nil _ _ _ _ _ | exact Kd.V_nil _ _ _ _ _ | exact Kd.Q_nil _ _ _ _ _ | exact Kd.R_nil _ _ _ _ _), (by first | exact Kd.R_nil _ _ _ _ _ | exact Kd.N_nil _ _ _ _ _ | exact Kd.V_nil _ _ _ _ _ | exact Kd.Q_nil _ _ _ _ _ | exact Kd.S_nil _ _ _ _ _), q2⟩
   ·replace c32 := Bool.eq_false_iff.mpr c32
    subst c32
    have H1 : ((system_Age.f kj4 a0_0 a0_1 a0_2 a0_3 a0_4 a0_5 a0_6 a0_7 a0_8 a0_9 a0_10 a3).bind fun bt153 => ((stamp_FromShort.f 4294967295).bind fun t164 => (if bt153.2.1 < 1 then (system_Reply.j1 kj4 a2 a3 t164 true bt153.1 bt153.2.1 bt153.2.2.1 bt153.2.2.2.1 bt153.2.2.2.2.1 bt153.2.2.2.2.2.1 bt153.2.2.2.2.2.2.1 bt153.2.2.2.2.2.2.2.1 bt153.2.2.2.2.2.2.2.2.1 bt153.2.2.2.2.2.2.2.2.2.1 bt153.2.2.2.2.2.2.2.2.2.2 a1_0 a1_1 a1_2 a1_3 a1_4 a1_5 a1_6 a1_7 a1_8 a1_9 a1_10 a1_11 a1_12 l1_13 a1_14 a1_15 l1_16 0 2 0 4 0 0) else (system_Reply.j1 kj4 a2 a3 t164 (decide (bt153.2.1 ≥ 16)) bt153.1 bt153.2.1 bt153.2.2.1 bt153.2.2.2.1 bt153.2.2.2.2.1 bt153.2.2.2.2.2.1 bt153.2.2.2.2.2.2.1 bt153.2.2.2.2.2.2.2.1 bt153.2.2.2.2.2.2.2.2.1 bt153.2.2.2.2.2.2.2.2.2.1 bt153.2.2.2.2.2.2.2.2.2.2 a1_0 a1_1 a1_2 a1_3 a1_4 a1_5 a1_6 a1_7 a1_8 a1_9 a1_10 a1_11 a1_12 l1_13 a1_14 a1_15 l1_16 0 2 0 4 0 0)))) = some (r1, r2, r3, r4, r5, r6, r7, r8, r9, r10, r11, r12, r13, r14, r15, r16, r17, r18) := by rw [if_neg (show ¬ (false = true) by decide)] at H; exact H
    clear H
    have H := H1
    clear H1
    replace H := Option.bind_eq_some_iff.mp H
    obtain ⟨⟨t153, t154, t155, t156, t157, t158, t159, t160, t161, t162, t163⟩, A380, H⟩ := H
    replace H : ((stamp_FromShort.f 4294967295).bind fun t164 => (if t154 < 1 then (system_Reply.j1 kj4 a2 a3 t164 true t153 t154 t155 t156 t157 t158 t159 t160 t161 t162 t163 a1_0 a1_1 a1_2 a1_3 a1_4 a1_5 a1_6 a1_7 a1_8 a1_9 a1_10 a1_11 a1_12 l1_13 a1_14 a1_15 l1_16 0 2 0 4 0 0) else (system_Reply.j1 kj4 a2 a3 t164 (decide (t154 ≥ 16)) t153 t154 t155 t156 t157 t158 t159 t160 t161 t162 t163 a1_0 a1_1 a1_2 a1_3 a1_4 a1_5 a1_6 a1_7 a1_8 a1_9 a1_10 a1_11 a1_12 l1_13 a1_14 a1_15 l1_16 0 2 0 4 0 0))) = some (r1, r2, r3, r4, r5, r6, r7, r8, r9, r10, r11, r12, r13, r14, r15, r16, r17, r18) := H
    have A38 := Aside0.mk A380
    clear A380
    replace H := Option.bind_eq_some_iff.mp H
    obtain ⟨t164, A390, H⟩ := H
    replace H : (if t154 < 1 then (system_Reply.j1 kj4 a2 a3 t164 true t153 t154 t155 t156 t157 t158 t159 t160 t161 t162 t163 a1_0 a1_1 a1_2 a1_3 a1_4 a1_5 a1_6 a1_7 a1_8 a1_9 a1_10 a1_11 a1_12 l1_13 a1_14 a1_15 l1_16 0 2 0 4 0 0) else (system_Reply.j1 kj4 a2 a3 t164 (decide (t154 ≥ 16)) t153 t154 t155 t156 t157 t158 t159 t160 t161 t162 t163 a1_0 a1_1 a1_2 a1_3 a1_4 a1_5 a1_6 a1_7 a1_8 a1_9 a1_10 a1_11 a1_12 l1_13 a1_14 a1_15 l1_16 0 2 0 4 0 0)) = some (r1, r2, r3, r4, r5, r6, r7, r8, r9, r10, r11, r12, r13, r14, r15, r16, r17, r18) := H
    have A39 := Aside0.mk A390
    clear A390
    have HC40 := Aside0.mk H
    clear H
    have hnb41 := NB149_150.out
    have hnc41 := NB150_149.out
    have hnb42 := NB149_151.out
    have hnc42 := NB151_149.out
    have hnb43 := NB149_152.out
    have hnc43 := NB152_149.out
    have hcz44_0 : wc.cell? ⟨gb149, 0, none⟩ = some (.int .i64 a0_0) := (blk_cell BK149.out 0).trans rfl
    have hcz44_1 : wc.cell? ⟨gb149, 1, none⟩ = some (.int .i64 a0_1) := (blk_cell BK149.out 1).trans rfl
    have hcz44_2 : wc.cell? ⟨gb149, 2, none⟩ = some (.int .i64 a0_2) := (blk_cell BK149.out 2).trans rfl
    have hcz44_3 : wc.cell? ⟨gb149, 3, none⟩ = some (.int .i64 a0_3) := (blk_cell BK149.out 3).trans rfl
    have hcz44_4 : wc.cell? ⟨gb149, 4, none⟩ = some (.int .i64 a0_4) := (blk_cell BK149.out 4).trans rfl
    have hcz44_5 : wc.cell? ⟨gb149, 5, none⟩ = some (.int .u32 a0_5) := (blk_cell BK149.out 5).trans rfl
    have hcz44_6 : wc.cell? ⟨gb149, 6, none⟩ = some (.int .u64 a0_6) := (blk_cell BK149.out 6).trans rfl
    have hcz44_7 : wc.cell? ⟨gb149, 7, none⟩ = some (.int .i64 a0_7) := (blk_cell BK149.out 7).trans rfl
    have hcz44_8 : wc.cell? ⟨gb149, 8, none⟩ = some (.int .i64 a0_8) := (blk_cell BK149.out 8).trans rfl
    have hcz44_9 : wc.cell? ⟨gb149, 9, none⟩ = some (.int .i64 a0_9) := (blk_cell BK149.out 9).trans rfl
    have hcz44_10 : wc.cell? ⟨gb149, 10, none⟩ = some (.int .i64 a0_10) := (blk_cell BK149.out 10).trans rfl
    go_upto_region 6 with (first | ((with_reducible refine gate_dst (N := 29) rfl ?_); refine load_event (t' := 28) rfl rfl gb149 #[.int .i64 a0_0, .int .i64 a0_1, .int .i64 a0_2, .int .i64 a0_3, .int .i64 a0_4, .int .u32 a0_5, .int .u64 a0_6, .int .i64 a0_7, .int .i64 a0_8, .int .i64 a0_9, .int .i64 a0_10] rfl hu28 q12 q16 ?_) | ((with_reducible refine gate_callee (f := 16) rfl ?_); refine goesL_ (some 31) rfl rfl Try.func16 q12 rfl #[.agg #[.int .i64 a0_0, .int .i64 a0_1, .int .i64 a0_2, .int .i64 a0_3, .int .i64 a0_4, .int .u32 a0_5, .int .u64 a0_6, .int .i64 a0_7, .int .i64 a0_8, .int .i64 a0_9, .int .i64 a0_10], .int .u64 a3] rfl q3 ?_; (with_reducible refine (system_Age.calls kj4 a0_0 a0_1 a0_2 a0_3 a0_4 a0_5 a0_6 a0_7 a0_8 a0_9 a0_10 a3 t153 t154 t155 t156 t157 t158 t159 t160 t161 t162 t163 _ A38.out).mono ?_); rintro e w45 ⟨rfl, hb⟩; refine ⟨_, rfl, ?_⟩; have n0_ := Aside0.mk (bBel BK149 hb); have n1_ := Aside0.mk (bBel BK150 hb); have n2_ := Aside0.mk (bBel BK151 hb); have n3_ := Aside0.mk (bBel BK152 hb); have n4_ := Aside0.mk (below_step q2 hb); clear BK149 BK150 BK151 BK152 HB; have BK149 := n0_; have BK150 := n1_; have BK151 := n2_; have BK152 := n3_; have HB := n4_; clear n0_ n1_ n2_ n3_ n4_; (try clear hb); (try clear hb2); (try clear hk); (try clear hi); have hcz46_0 : w45.cell? ⟨gb149, 0, none⟩ = some (.int .i64 a0_0) := (blk_cell BK149.out 0).trans rfl; have hcz46_1 : w45.cell? ⟨gb149, 1, none⟩ = some (.int .i64 a0_1) := (blk_cell BK149.out 1).trans rfl; have hcz46_2 : w45.cell? ⟨gb149, 2, none⟩ = some (.int .i64 a0_2) := (blk_cell BK149.out 2).trans rfl; have hcz46_3 : w45.cell? ⟨gb149, 3, none⟩ = some (.int .i64 a0_3) := (blk_cell BK149.out 3).trans rfl; have hcz46_4 : w45.cell? ⟨gb149, 4, none⟩ = some (.int .i64 a0_4) := (blk_cell BK149.out 4).trans rfl; have hcz46_5 : w45.cell? ⟨gb149, 5, none⟩ = some (.int .u32 a0_5) := (blk_cell BK149.out 5).trans rfl; have hcz46_6 : w45.cell? ⟨gb149, 6, none⟩ = some (.int .u64 a0_6) := (blk_cell BK149.out 6).trans rfl; have hcz46_7 : w45.cell? ⟨gb149, 7, none⟩ = some (.int .i64 a0_7) := (blk_cell BK149.out 7).trans rfl; have hcz46_8 : w45.cell? ⟨gb149, 8, none⟩ = some (.int .i64 a0_8) := (blk_cell BK149.out 8).trans rfl; have hcz46_9 : w45.cell? ⟨gb149, 9, none⟩ = some (.int .i64 a0_9) := (blk_cell BK149.out 9).trans rfl; have hcz46_10 : w45.cell? ⟨gb149, 10, none⟩ = some (.int .i64 a0_10) := (blk_cell BK149.out 10).trans rfl; have hfz46_0 := blk_frozen BK149.out 0; have hfz46_1 := blk_frozen BK149.out 1; have hfz46_2 := blk_frozen BK149.out 2; have hfz46_3 := blk_frozen BK149.out 3; have hfz46_4 := blk_frozen BK149.out 4; have hfz46_5 := blk_frozen BK149.out 5; have hfz46_6 := blk_frozen BK149.out 6; have hfz46_7 := blk_frozen BK149.out 7; have hfz46_8 := blk_frozen BK149.out 8; have hfz46_9 := blk_frozen BK149.out 9; have hfz46_10 := blk_frozen BK149.out 10) | ((with_reducible refine gate_store (t := 28) (p := 4) rfl ?_); refine store_event (t := 28) (p := 4) (v := ?vo_w47) (w1 := (((((((((((w45.setCell ⟨gb149, 0, none⟩ (.int .i64 t153)).setCell ⟨gb149, 1, none⟩ (.int .i64 t154)).setCell ⟨gb149, 2, none⟩ (.int .i64 t155)).setCell ⟨gb149, 3, none⟩ (.int .i64 t156)).setCell ⟨gb149, 4, none⟩ (.int .i64 t157)).setCell ⟨gb149, 5, none⟩ (.int .u32 t158)).setCell ⟨gb149, 6, none⟩ (.int .u64 t159)).setCell ⟨gb149, 7, none⟩ (.int .i64 t160)).setCell ⟨gb149, 8, none⟩ (.int .i64 t161)).setCell ⟨gb149, 9, none⟩ (.int .i64 t162)).setCell ⟨gb149, 10, none⟩ (.int .i64 t163))) ?hg ?ho ?hn ?hr ?_; (case ho => rfl); (case hg => rfl); (case hn => rfl); (case hr => first | exact store_run rfl gb149 [.int .i64 t153, .int .i64 t154, .int .i64 t155, .int .i64 t156, .int .i64 t157, .int .u32 t158, .int .u64 t159, .int .i64 t160, .int .i64 t161, .int .i64 t162, .int .i64 t163] (cs := #[.int .i64 a0_0, .int .i64 a0_1, .int .i64 a0_2, .int .i64 a0_3, .int .i64 a0_4, .int .u32 a0_5, .int .u64 a0_6, .int .i64 a0_7, .int .i64 a0_8, .int .i64 a0_9, .int .i64 a0_10]) (t' := 28) rfl rfl q12 q16 (Nat.le_refl _) rfl rfl | (go_simp; done) | (go_simp; rfl)); intro w47 hw; have n0_ : Aside0 (w47.heap[gb149]? = some (.cells #[.int .i64 t153, .int .i64 t154, .int .i64 t155, .int .i64 t156, .int .i64 t157, .int .u32 t158, .int .u64 t159, .int .i64 t160, .int .i64 t161, .int .i64 t162, .int .i64 t163] 28 (0, 0))) := ⟨(by rw [hw]; exact (by apply Eq.trans; (case h₁ => repeat (first | (with_reducible first | exact BK149.out | apply blk_set | apply blk_drewN | apply blk_drew | apply blk_alloc))); simp only [List.setIfInBounds_toArray, List.set_cons_zero, List.set_cons_succ]))⟩; have n1_ : Aside0 (w47.heap[gb150]? = some (.cells #[.int .i64 a1_0, .int .i64 a1_1, .int .i64 a1_2, .int .i64 a1_3, .int .i64 a1_4, .int .i64 a1_5, .int .i64 a1_6, .int .i64 a1_7, .int .u32 a1_8, .int .u64 a1_9, .int .u64 a1_10, .int .u64 a1_11, .int .u64 a1_12, .slice A1_13 l1_13.length c1_13, .int .i64 a1_14, .bool a1_15, .slice A1_16 l1_16.length c1_16] 56 (0, 0))) := ⟨(by rw [hw]; exact (by repeat (first | (with_reducible first | exact BK150.out | refine blk_drewN ?_ _ | refine blk_drew ?_ | refine blk_alloc ?_ _) | refine blk_far ?_ NB150_149.out _ | exact BK150.out)))⟩; have n2_ : Aside0 (w47.heap[gb151]? = some (.cells #[.int .i64 0, .int .i64 0, .int .i64 0, .int .i64 0, .int .i64 0, .int .i64 0, .int .i64 0, .int .i64 0, .int .u32 0, .int .u64 0, .int .u64 0, .int .u64 0, .int .u64 0, .slice none 0 0, .int .i64 0, .bool false, .slice none 0 0] 56 (0, 0))) := ⟨(by rw [hw]; exact (by repeat (first | (with_reducible first | exact BK151.out | refine blk_drewN ?_ _ | refine blk_drew ?_ | refine blk_alloc ?_ _) | refine blk_far ?_ NB151_149.out _ | exact BK151.out)))⟩; have n3_ : Aside0 (w47.heap[gb152]? = some (.cells #[.int .i64 0, .int .i64 2, .int .i64 0, .int .i64 4, .int .i64 0, .int .i64 0] 71 (0, 0))) := ⟨(by rw [hw]; exact (by repeat (first | (with_reducible first | exact BK152.out | refine blk_drewN ?_ _ | refine blk_drew ?_ | refine blk_alloc ?_ _) | refine blk_far ?_ NB152_149.out _ | exact BK152.out)))⟩; have n4_ : Aside0 (Below w.heap.size w w47) := ⟨(by rw [hw]; exact q2)⟩; clear hw; clear BK149; clear BK150; clear BK151; clear BK152; clear HB; have BK149 := n0_; have BK150 := n1_; have BK151 := n2_; have BK152 := n3_; have HB := n4_; clear n0_ n1_ n2_ n3_ n4_) | ((with_reducible refine gate_callee (f := 38) rfl ?_); refine goesL_ (some 32) rfl rfl Try.func38 q12 rfl #[.int .u32 4294967295] rfl q3 ?_; (with_reducible refine (stamp_FromShort.calls 4294967295 t164 _ A39.out).mono ?_); rintro e w' ⟨rfl, ⟨nd, rfl⟩⟩; refine ⟨_, rfl, ?_⟩))
    (try simp only [Act.put, List.setIfInBounds_toArray, List.set_cons_zero, List.set_cons_succ])
    go_cut [40] (fun v40 wc => ∃ (kq : Nat) (x40_39 : Bool), v40 = .bool x40_39 ∧ Aside0 (system_Reply.j1 kq a2 a3 t164 x40_39 t153 t154 t155 t156 t157 t158 t159 t160 t161 t162 t163 a1_0 a1_1 a1_2 a1_3 a1_4 a1_5 a1_6 a1_7 a1_8 a1_9 a1_10 a1_11 a1_12 l1_13 a1_14 a1_15 l1_16 0 2 0 4 0 0 = some (r1, r2, r3, r4, r5, r6, r7, r8, r9, r10, r11, r12, r13, r14, r15, r16, r17, r18)) ∧ Aside0 (kq ≤ kj4) ∧ Aside0 (wc.heap[gb149]? = some (.cells #[.int .i64 t153, .int .i64 t154, .int .i64 t155, .int .i64 t156, .int .i64 t157, .int .u32 t158, .int .u64 t159, .int .i64 t160, .int .i64 t161, .int .i64 t162, .int .i64 t163] 28 (0, 0))) ∧ Aside0 (wc.heap[gb150]? = some (.cells #[.int .i64 a1_0, .int .i64 a1_1, .int .i64 a1_2, .int .i64 a1_3, .int .i64 a1_4, .int .i64 a1_5, .int .i64 a1_6, .int .i64 a1_7, .int .u32 a1_8, .int .u64 a1_9, .int .u64 a1_10, .int .u64 a1_11, .int .u64 a1_12, (.slice A1_13 l1_13.length c1_13), .int .i64 a1_14, .bool a1_15, (.slice A1_16 l1_16.length c1_16)] 56 (0, 0))) ∧ Aside0 (wc.heap[gb151]? = some (.cells #[.int .i64 0, .int .i64 0, .int .i64 0, .int .i64 0, .int .i64 0, .int .i64 0, .int .i64 0, .int .i64 0, .int .u32 0, .int .u64 0, .int .u64 0, .int .u64 0, .int .u64 0, (.slice none 0 0), .int .i64 0, .bool false, (.slice none 0 0)] 56 (0, 0))) ∧ Aside0 (wc.heap[gb152]? = some (.cells #[.int .i64 0, .int .i64 2, .int .i64 0, .int .i64 4, .int .i64 0, .int .i64 0] 71 (0, 0))) ∧ Aside0 (Below w.heap.size w wc))
    case first =>
     have H := HC40.out
     clear HC40
     by_cases c48 : t154 < 1
     ·rw [if_pos c48] at H
      have c48b0 : decide (t154 < 1) = true := decide_eq_true c48
      clear c48
      (first | rw [c48b0] | (simp only [i64_w, i32_w]; rw [c48b0]) | skip)
      have H' := Aside0.mk H
      clear H
      have hnb49 := NB149_150.out
      have hnc49 := NB150_149.out
      have hnb50 := NB149_151.out
      have hnc50 := NB151_149.out
      have hnb51 := NB149_152.out
      have hnc51 := NB152_149.out
      have hcz52_1 : w47.cell? ⟨gb149, 1, none⟩ = some (.int .i64 t154) := (blk_cell BK149.out 1).trans rfl
      go_wp2
      go_meet
      case rel => first | (exact ⟨_, (true), q28, H', ⟨(by have := HJ4.out; first | omega | exact Nat.le_refl _)⟩, ⟨q16⟩, ⟨q21⟩, ⟨q15⟩, ⟨q17⟩, ⟨q2⟩⟩) | ((try rw [c15b0] at H'); (try rw [c15b0]); (try rw [c48b0] at H'); (try rw [c48b0]); exact ⟨_, (true), q28, H', ⟨(by have := HJ4.out; first | omega | exact Nat.le_refl _)⟩, ⟨q16⟩, ⟨q21⟩, ⟨q15⟩, ⟨q17⟩, ⟨q2⟩⟩)
     ·rw [if_neg c48] at H
      have c48b0 : decide (t154 < 1) = false := decide_eq_false c48
      clear c48
      (first | rw [c48b0] | (simp only [i64_w, i32_w]; rw [c48b0]) | skip)
      have H' := Aside0.mk H
      clear H
      have hnb53 := NB149_150.out
      have hnc53 := NB150_149.out
      have hnb54 := NB149_151.out
      have hnc54 := NB151_149.out
      have hnb55 := NB149_152.out
      have hnc55 := NB152_149.out
      have hcz56_1 : w47.cell? ⟨gb149, 1, none⟩ = some (.int .i64 t154) := (blk_cell BK149.out 1).trans rfl
      go_wp2
      go_meet
      case rel => first | (exact ⟨_, (decide (t154 ≥ 16)), q28, H', ⟨(by have := HJ4.out; first | omega | exact Nat.le_refl _)⟩, ⟨q16⟩, ⟨q21⟩, ⟨q15⟩, ⟨q17⟩, ⟨q2⟩⟩) | ((try rw [c15b0] at H'); (try rw [c15b0]); (try rw [c48b0] at H'); (try rw [c48b0]); exact ⟨_, (decide (t154 ≥ 16)), q28, H', ⟨(by have := HJ4.out; first | omega | exact Nat.le_refl _)⟩, ⟨q16⟩, ⟨q21⟩, ⟨q15⟩, ⟨q17⟩, ⟨q2⟩⟩)
    case rest =>
     clear HC40
     try clear c1
     try clear c2
     try clear p2
     try clear hx2
     try clear c3
     try clear c4
     try clear c5
     try clear c10
     try clear c11
     try clear c12
     try clear c15
     try clear c15b0
     try clear c16
     try clear c17
     try clear c18
     try clear c20
     try clear c20b0
     try clear c21
     try clear c22
     try clear c23
     try clear c25
     try clear c25b0
     try clear c26
     try clear c26b0
     try clear c27
     try clear hx27
     try clear c28
     try clear c29
     try clear c30
     try clear c32
     try clear c33
     try clear c34
     try clear c35
     try clear c38
     try clear c41
     try clear c42
     try clear c43
     try clear c48
     try clear c48b0
     try clear c49
     try clear c50
     try clear c51
     try clear c53
     try clear c54
     try clear c55
     try clear hcz13_0
     try clear hcz13_1
     try clear hcz13_2
     try clear hcz13_3
     try clear hcz13_4
     try clear hcz13_5
     try clear hcz19_2
     try clear hcz24_2
     try clear hcz31_2
     try clear hcz36_0
     try clear hcz36_1
     try clear hcz36_10
     try clear hcz36_11
     try clear hcz36_12
     try clear hcz36_13
     try clear hcz36_14
     try clear hcz36_15
     try clear hcz36_16
     try clear hcz36_2
     try clear hcz36_3
     try clear hcz36_4
     try clear hcz36_5
     try clear hcz36_6
     try clear hcz36_7
     try clear hcz36_8
     try clear hcz36_9
     try clear hcz44_0
     try clear hcz44_1
     try clear hcz44_10
     try clear hcz44_2
     try clear hcz44_3
     try clear hcz44_4
     try clear hcz44_5
     try clear hcz44_6
     try clear hcz44_7
     try clear hcz44_8
     try clear hcz44_9
     try clear hcz46_0
     try clear hcz46_1
     try clear hcz46_10
     try clear hcz46_2
     try clear hcz46_3
     try clear hcz46_4
     try clear hcz46_5
     try clear hcz46_6
     try clear hcz46_7
     try clear hcz46_8
     try clear hcz46_9
     try clear hcz52_1
     try clear hcz56_1
     try clear hfz13_0
     try clear hfz13_1
     try clear hfz13_2
     try clear hfz13_3
     try clear hfz13_4
     try clear hfz13_5
     try clear hfz36_0
     try clear hfz36_1
     try clear hfz36_10
     try clear hfz36_11
     try clear hfz36_12
     try clear hfz36_13
     try clear hfz36_14
     try clear hfz36_15
     try clear hfz36_16
     try clear hfz36_2
     try clear hfz36_3
     try clear hfz36_4
     try clear hfz36_5
     try clear hfz36_6
     try clear hfz36_7
     try clear hfz36_8
     try clear hfz36_9
     try clear hfz46_0
     try clear hfz46_1
     try clear hfz46_10
     try clear hfz46_2
     try clear hfz46_3
     try clear hfz46_4
     try clear hfz46_5
     try clear hfz46_6
     try clear hfz46_7
     try clear hfz46_8
     try clear hfz46_9
     try clear p2
     obtain ⟨kq, x40_39, rfl, HA, HJ39, BK149, BK150, BK151, BK152, HB⟩ := hcut
     cases kq with
     | zero => exact absurd HA.out (by simp [system_Reply.j1])
     | succ kj39 =>
      have H := HA.out
      clear HA
      simp only [system_Reply.j1] at H
      have HC57 := Aside0.mk H
      clear H
      go_upto_if 40 with (fail)
      go_cut [] (fun wc => ∃ (kq : Nat) (x150001_56 : Int), Aside0 (system_Reply.j2 kq a2 a3 t164 t153 x150001_56 t155 t156 t157 t158 t159 t160 t161 t162 t163 a1_0 a1_1 a1_2 a1_3 a1_4 a1_5 a1_6 a1_7 a1_8 a1_9 a1_10 a1_11 a1_12 l1_13 a1_14 a1_15 l1_16 0 2 0 4 0 0 = some (r1, r2, r3, r4, r5, r6, r7, r8, r9, r10, r11, r12, r13, r14, r15, r16, r17, r18)) ∧ Aside0 (kq ≤ kj39) ∧ Aside0 (wc.heap[gb149]? = some (.cells #[.int .i64 t153, .int .i64 x150001_56, .int .i64 t155, .int .i64 t156, .int .i64 t157, .int .u32 t158, .int .u64 t159, .int .i64 t160, .int .i64 t161, .int .i64 t162, .int .i64 t163] 28 (0, 0))) ∧ Aside0 (wc.heap[gb150]? = some (.cells #[.int .i64 a1_0, .int .i64 a1_1, .int .i64 a1_2, .int .i64 a1_3, .int .i64 a1_4, .int .i64 a1_5, .int .i64 a1_6, .int .i64 a1_7, .int .u32 a1_8, .int .u64 a1_9, .int .u64 a1_10, .int .u64 a1_11, .int .u64 a1_12, (.slice A1_13 l1_13.length c1_13), .int .i64 a1_14, .bool a1_15, (.slice A1_16 l1_16.length c1_16)] 56 (0, 0))) ∧ Aside0 (wc.heap[gb151]? = some (.cells #[.int .i64 0, .int .i64 0, .int .i64 0, .int .i64 0, .int .i64 0, .int .i64 0, .int .i64 0, .int .i64 0, .int .u32 0, .int .u64 0, .int .u64 0, .int .u64 0, .int .u64 0, (.slice none 0 0), .int .i64 0, .bool false, (.slice none 0 0)] 56 (0, 0))) ∧ Aside0 (wc.heap[gb152]? = some (.cells #[.int .i64 0, .int .i64 2, .int .i64 0, .int .i64 4, .int .i64 0, .int .i64 0] 71 (0, 0))) ∧ Aside0 (Below w.heap.size w wc))
      case first =>
       have H := HC57.out
       clear HC57
       by_cases c58 : x40_39 = true
       ·subst c58
        have H1 : (system_Reply.j2 kj39 a2 a3 t164 t153 0 t155 t156 t157 t158 t159 t160 t161 t162 t163 a1_0 a1_1 a1_2 a1_3 a1_4 a1_5 a1_6 a1_7 a1_8 a1_9 a1_10 a1_11 a1_12 l1_13 a1_14 a1_15 l1_16 0 2 0 4 0 0) = some (r1, r2, r3, r4, r5, r6, r7, r8, r9, r10, r11, r12, r13, r14, r15, r16, r17, r18) := by rw [if_pos rfl] at H; exact H
        clear H
        have H := H1
        clear H1
        have H' := Aside0.mk H
        clear H
        have hnb59 := NB149_150.out
        have hnc59 := NB150_149.out
        have hnb60 := NB149_151.out
        have hnc60 := NB151_149.out
        have hnb61 := NB149_152.out
        have hnc61 := NB152_149.out
        have hcz62_1 : wc.cell? ⟨gb149, 1, none⟩ = some (.int .i64 t154) := (blk_cell BK149.out 1).trans rfl
        have hfz62_1 := blk_frozen BK149.out 1
        go_wp2
        go_meet
        case rel => first | (exact ⟨_, (0), H', ⟨(by have := HJ4.out; have := HJ39.out; first | omega | exact Nat.le_refl _)⟩, ⟨q47⟩, ⟨(by (with_reducible repeat (first | refine blk_drewN ?_ _ | refine blk_drew ?_ | refine blk_alloc ?_ _)); refine blk_far ?_ NB150_149.out _; (with_reducible repeat (first | refine blk_drewN ?_ _ | refine blk_drew ?_ | refine blk_alloc ?_ _)); exact BK150.out)⟩, ⟨(by (with_reducible repeat (first | refine blk_drewN ?_ _ | refine blk_drew ?_ | refine blk_alloc ?_ _)); refine blk_far ?_ NB151_149.out _; (with_reducible repeat (first | refine blk_drewN ?_ _ | refine blk_drew ?_ | refine blk_alloc ?_ _)); exact BK151.out)⟩, ⟨(by (with_reducible repeat (first | refine blk_drewN ?_ _ | refine blk_drew ?_ | refine blk_alloc ?_ _)); refine blk_far ?_ NB152_149.out _; (with_reducible repeat (first | refine blk_drewN ?_ _ | refine blk_drew ?_ | refine blk_alloc ?_ _)); exact BK152.out)⟩, ⟨q2⟩⟩) | ((try rw [c15b0] at H'); (try rw [c15b0]); (try rw [c48b0] at H'); (try rw [c48b0]); exact ⟨_, (0), H', ⟨(by have := HJ4.out; have := HJ39.out; first | omega | exact Nat.le_refl _)⟩, ⟨q47⟩, ⟨(by (with_reducible repeat (first | refine blk_drewN ?_ _ | refine blk_drew ?_ | refine blk_alloc ?_ _)); refine blk_far ?_ NB150_149.out _; (with_reducible repeat (first | refine blk_drewN ?_ _ | refine blk_drew ?_ | refine blk_alloc ?_ _)); exact BK150.out)⟩, ⟨(by (with_reducible repeat (first | refine blk_drewN ?_ _ | refine blk_drew ?_ | refine blk_alloc ?_ _)); refine blk_far ?_ NB151_149.out _; (with_reducible repeat (first | refine blk_drewN ?_ _ | refine blk_drew ?_ | refine blk_alloc ?_ _)); exact BK151.out)⟩, ⟨(by (with_reducible repeat (first | refine blk_drewN ?_ _ | refine blk_drew ?_ | refine blk_alloc ?_ _)); refine blk_far ?_ NB152_149.out _; (with_reducible repeat (first | refine blk_drewN ?_ _ | refine blk_drew ?_ | refine blk_alloc ?_ _)); exact BK152.out)⟩, ⟨q2⟩⟩)
       ·replace c58 := Bool.eq_false_iff.mpr c58
        subst c58
        have H1 : (system_Reply.j2 kj39 a2 a3 t164 t153 t154 t155 t156 t157 t158 t159 t160 t161 t162 t163 a1_0 a1_1 a1_2 a1_3 a1_4 a1_5 a1_6 a1_7 a1_8 a1_9 a1_10 a1_11 a1_12 l1_13 a1_14 a1_15 l1_16 0 2 0 4 0 0) = some (r1, r2, r3, r4, r5, r6, r7, r8, r9, r10, r11, r12, r13, r14, r15, r16, r17, r18) := by rw [if_neg (show ¬ (false = true) by decide)] at H; exact H
        clear H
        have H := H1
        clear H1
        have H' := Aside0.mk H
        clear H
        go_wp2
        go_meet
        case rel => first | (exact ⟨_, (t154), H', ⟨(by have := HJ4.out; have := HJ39.out; first | omega | exact Nat.le_refl _)⟩, ⟨q16⟩, ⟨q21⟩, ⟨q15⟩, ⟨q17⟩, ⟨q2⟩⟩) | ((try rw [c15b0] at H'); (try rw [c15b0]); (try rw [c48b0] at H'); (try rw [c48b0]); exact ⟨_, (t154), H', ⟨(by have := HJ4.out; have := HJ39.out; first | omega | exact Nat.le_refl _)⟩, ⟨q16⟩, ⟨q21⟩, ⟨q15⟩, ⟨q17⟩, ⟨q2⟩⟩)
      case rest =>
       clear HC57
       try clear c1
       try clear c2
       try clear p2
       try clear hx2
       try clear c3
       try clear c4
       try clear c5
       try clear c6
       try clear c10
       try clear c11
       try clear c12
       try clear c15
       try clear c15b0
       try clear c16
       try clear c17
       try clear c18
       try clear c20
       try clear c20b0
       try clear c21
       try clear c22
       try clear c23
       try clear c25
       try clear c25b0
       try clear c26
       try clear c26b0
       try clear c27
       try clear hx27
       try clear c28
       try clear c29
       try clear c30
       try clear c32
       try clear c33
       try clear c34
       try clear c35
       try clear c38
       try clear c41
       try clear c42
       try clear c43
       try clear c48
       try clear c48b0
       try clear c49
       try clear c50
       try clear c51
       try clear c53
       try clear c54
       try clear c55
       try clear c58
       try clear c59
       try clear c60
       try clear c61
       try clear hcz13_0
       try clear hcz13_1
       try clear hcz13_2
       try clear hcz13_3
       try clear hcz13_4
       try clear hcz13_5
       try clear hcz19_2
       try clear hcz24_2
       try clear hcz31_2
       try clear hcz36_0
       try clear hcz36_1
       try clear hcz36_10
       try clear hcz36_11
       try clear hcz36_12
       try clear hcz36_13
       try clear hcz36_14
       try clear hcz36_15
       try clear hcz36_16
       try clear hcz36_2
       try clear hcz36_3
       try clear hcz36_4
       try clear hcz36_5
       try clear hcz36_6
       try clear hcz36_7
       try clear hcz36_8
       try clear hcz36_9
       try clear hcz44_0
       try clear hcz44_1
       try clear hcz44_10
       try clear hcz44_2
       try clear hcz44_3
       try clear hcz44_4
       try clear hcz44_5
       try clear hcz44_6
       try clear hcz44_7
       try clear hcz44_8
       try clear hcz44_9
       try clear hcz46_0
       try clear hcz46_1
       try clear hcz46_10
       try clear hcz46_2
       try clear hcz46_3
       try clear hcz46_4
       try clear hcz46_5
       try clear hcz46_6
       try clear hcz46_7
       try clear hcz46_8
       try clear hcz46_9
       try clear hcz52_1
       try clear hcz56_1
       try clear hcz62_1
       try clear hfz13_0
       try clear hfz13_1
       try clear hfz13_2
       try clear hfz13_3
       try clear hfz13_4
       try clear hfz13_5
       try clear hfz36_0
       try clear hfz36_1
       try clear hfz36_10
       try clear hfz36_11
       try clear hfz36_12
       try clear hfz36_13
       try clear hfz36_14
       try clear hfz36_15
       try clear hfz36_16
       try clear hfz36_2
       try clear hfz36_3
       try clear hfz36_4
       try clear hfz36_5
       try clear hfz36_6
       try clear hfz36_7
       try clear hfz36_8
       try clear hfz36_9
       try clear hfz46_0
       try clear hfz46_1
       try clear hfz46_10
       try clear hfz46_2
       try clear hfz46_3
       try clear hfz46_4
       try clear hfz46_5
       try clear hfz46_6
       try clear hfz46_7
       try clear hfz46_8
       try clear hfz46_9
       try clear hfz62_1
       try clear p2
       obtain ⟨kq, x150001_56, HA, HJ56, BK149, BK150, BK151, BK152, HB⟩ := hcut
       cases kq with
       | zero => exact absurd HA.out (by simp [system_Reply.j2])
       | succ kj56 =>
        have H := HA.out
        clear HA
        simp only [system_Reply.j2] at H
        obtain ⟨ji63, hji63⟩ : ∃ j_ : Int, (mx a1_1 1) = j_ := ⟨_, rfl⟩
        replace H : (if 0 ≤ a1_2 then (if a1_2 < 6 then ((system_within.f t156 t164).bind fun t165 => ((system_within.f t157 t164).bind fun t166 => (some (Go.bits .and .i64 t153 3, mn (ji63) 4, rd [0, 2, 0, 4, 0, 0] a1_2, x150001_56, mn (mx a1_4 (-128)) 127, (-20), t165, t166, t158, t159, a1_12, a2, mx a3 1, ([] : List (S94)), 0, false, ([] : List Int), true)))) else (none)) else (none)) = some (r1, r2, r3, r4, r5, r6, r7, r8, r9, r10, r11, r12, r13, r14, r15, r16, r17, r18) := by first | (rw [hji63] at H; exact H) | (simp only [hji63] at H ⊢; exact H)
        have hji63_ : (if a1_1 < 1 then 1 else a1_1) = ji63 := hji63
        obtain ⟨ji64, hji64⟩ : ∃ j_ : Int, (mn (ji63) 4) = j_ := ⟨_, rfl⟩
        replace H : (if 0 ≤ a1_2 then (if a1_2 < 6 then ((system_within.f t156 t164).bind fun t165 => ((system_within.f t157 t164).bind fun t166 => (some (Go.bits .and .i64 t153 3, ji64, rd [0, 2, 0, 4, 0, 0] a1_2, x150001_56, mn (mx a1_4 (-128)) 127, (-20), t165, t166, t158, t159, a1_12, a2, mx a3 1, ([] : List (S94)), 0, false, ([] : List Int), true)))) else (none)) else (none)) = some (r1, r2, r3, r4, r5, r6, r7, r8, r9, r10, r11, r12, r13, r14, r15, r16, r17, r18) := by first | (rw [hji64] at H; exact H) | (simp only [hji64] at H ⊢; exact H)
        have hji64_ : (if 4 < (ji63) then 4 else (ji63)) = ji64 := hji64
        by_cases c65 : 0 ≤ a1_2
        ·rw [if_pos c65] at H
         have c65b0 : decide (0 ≤ a1_2) = true := decide_eq_true c65
         clear c65
         by_cases c66 : a1_2 < 6
         ·rw [if_pos c66] at H
          have c66b0 : decide (a1_2 < 6) = true := decide_eq_true c66
          clear c66
          obtain ⟨ji68, hji68⟩ : ∃ j_ : Int, (mx a1_4 (-128)) = j_ := ⟨_, rfl⟩
          replace H : ((system_within.f t156 t164).bind fun t165 => ((system_within.f t157 t164).bind fun t166 => (some (Go.bits .and .i64 t153 3, ji64, rd [0, 2, 0, 4, 0, 0] a1_2, x150001_56, mn (ji68) 127, (-20), t165, t166, t158, t159, a1_12, a2, mx a3 1, ([] : List (S94)), 0, false, ([] : List Int), true)))) = some (r1, r2, r3, r4, r5, r6, r7, r8, r9, r10, r11, r12, r13, r14, r15, r16, r17, r18) := by first | (rw [hji68] at H; exact H) | (simp only [hji68] at H ⊢; exact H)
          have hji68_ : (if a1_4 < (-128) then (-128) else a1_4) = ji68 := hji68
          obtain ⟨ji69, hji69⟩ : ∃ j_ : Int, (mn (ji68) 127) = j_ := ⟨_, rfl⟩
          replace H : ((system_within.f t156 t164).bind fun t165 => ((system_within.f t157 t164).bind fun t166 => (some (Go.bits .and .i64 t153 3, ji64, rd [0, 2, 0, 4, 0, 0] a1_2, x150001_56, ji69, (-20), t165, t166, t158, t159, a1_12, a2, mx a3 1, ([] : List (S94)), 0, false, ([] : List Int), true)))) = some (r1, r2, r3, r4, r5, r6, r7, r8, r9, r10, r11, r12, r13, r14, r15, r16, r17, r18) := by first | (rw [hji69] at H; exact H) | (simp only [hji69] at H ⊢; exact H)
          have hji69_ : (if 127 < (ji68) then 127 else (ji68)) = ji69 := hji69
          replace H := Option.bind_eq_some_iff.mp H
          obtain ⟨t165, A700, H⟩ := H
          replace H : ((system_within.f t157 t164).bind fun t166 => (some (Go.bits .and .i64 t153 3, ji64, rd [0, 2, 0, 4, 0, 0] a1_2, x150001_56, ji69, (-20), t165, t166, t158, t159, a1_12, a2, mx a3 1, ([] : List (S94)), 0, false, ([] : List Int), true))) = some (r1, r2, r3, r4, r5, r6, r7, r8, r9, r10, r11, r12, r13, r14, r15, r16, r17, r18) := H
          have A70 := Aside0.mk A700
          clear A700
          replace H := Option.bind_eq_some_iff.mp H
          obtain ⟨t166, A710, H⟩ := H
          replace H : (some (Go.bits .and .i64 t153 3, ji64, rd [0, 2, 0, 4, 0, 0] a1_2, x150001_56, ji69, (-20), t165, t166, t158, t159, a1_12, a2, mx a3 1, ([] : List (S94)), 0, false, ([] : List Int), true)) = some (r1, r2, r3, r4, r5, r6, r7, r8, r9, r10, r11, r12, r13, r14, r15, r16, r17, r18) := H
          have A71 := Aside0.mk A710
          clear A710
          obtain ⟨ji72, hji72⟩ : ∃ j_ : Int, (mx a3 1) = j_ := ⟨_, rfl⟩
          replace H : (some (Go.bits .and .i64 t153 3, ji64, rd [0, 2, 0, 4, 0, 0] a1_2, x150001_56, ji69, (-20), t165, t166, t158, t159, a1_12, a2, ji72, ([] : List (S94)), 0, false, ([] : List Int), true)) = some (r1, r2, r3, r4, r5, r6, r7, r8, r9, r10, r11, r12, r13, r14, r15, r16, r17, r18) := by first | (rw [hji72] at H; exact H) | (simp only [hji72] at H ⊢; exact H)
          (try rw [hji72] at A70)
          (try rw [hji72] at A71)
          have hji72_ : (if a3 < 1 then 1 else a3) = ji72 := hji72
          simp only [Option.some.injEq, Prod.mk.injEq] at H
          obtain ⟨rfl, rfl, rfl, rfl, rfl, rfl, rfl, rfl, rfl, rfl, rfl, rfl, rfl, rfl, rfl, rfl, rfl, rfl⟩ := H
          try go_wp2
          have n0_ := Aside0.mk (blk_drew BK149.out)
          have n1_ := Aside0.mk (blk_drew BK150.out)
          have n2_ := Aside0.mk (blk_drew BK151.out)
          have n3_ := Aside0.mk (blk_drew BK152.out)
          have n4_ := Aside0.mk (below_drew1 HB.out)
          clear BK149 BK150 BK151 BK152 HB
          have BK149 := n0_
          have BK150 := n1_
          have BK151 := n2_
          have BK152 := n3_
          have HB := n4_
          clear n0_ n1_ n2_ n3_ n4_
          have hx67 : ∀ w_ : World, (Instr.indexAt 71 (.pointer (some ⟨gb152, 0, none⟩)) (.int .i64 a1_2)).run Try.prog w_ = .ok (.pointer (some ⟨gb152, (a1_2 : Int).toNat, none⟩)) w_ := (fun w_ => hia71.out _ _ (of_decide_eq_true q34) (of_decide_eq_true q34) w_)
          refine start_ (n := 37) (S := fun w' => w'.cell? ⟨gb149, 0, none⟩ = some (.int .i64 t153) ∧ w'.cell? ⟨gb149, 1, none⟩ = some (.int .i64 x150001_56) ∧ w'.cell? ⟨gb149, 3, none⟩ = some (.int .i64 t156) ∧ w'.cell? ⟨gb149, 4, none⟩ = some (.int .i64 t157) ∧ w'.cell? ⟨gb149, 5, none⟩ = some (.int .u32 t158) ∧ w'.cell? ⟨gb149, 6, none⟩ = some (.int .u64 t159) ∧ w'.cell? ⟨gb150, 1, none⟩ = some (.int .i64 a1_1) ∧ w'.cell? ⟨gb150, 2, none⟩ = some (.int .i64 a1_2) ∧ w'.cell? ⟨gb150, 4, none⟩ = some (.int .i64 a1_4) ∧ w'.cell? ⟨gb150, 12, none⟩ = some (.int .u64 a1_12) ∧ w'.cell? ⟨gb152, (a1_2 : Int).toNat, none⟩ = some (.int .i64 (rd [0, 2, 0, 4, 0, 0] a1_2))) (ds := []) #[false, false, false, false, false, false, false, false, false, false, false, false, false, false, false, false, false, false, false, false, false, false, false, false, false, false, false, false, false, false, false, false, false, false, false, false, false] q12 rfl rfl ⟨(blk_cell BK149.out 0).trans rfl, (blk_cell BK149.out 1).trans rfl, (blk_cell BK149.out 3).trans rfl, (blk_cell BK149.out 4).trans rfl, (blk_cell BK149.out 5).trans rfl, (blk_cell BK149.out 6).trans rfl, (blk_cell BK150.out 1).trans rfl, (blk_cell BK150.out 2).trans rfl, (blk_cell BK150.out 4).trans rfl, (blk_cell BK150.out 12).trans rfl, (hra71.out BK152.out (of_decide_eq_true q34) (of_decide_eq_true q34))⟩ (fun hHeld => ?_); refine with_tabW system_Reply.tab8 system_Reply.bits8 (fun HT_ HW_ => ?_)
          generalize wc.drew = w73 at BK149 BK150 BK151 BK152 HB hHeld ⊢
          refine pure_ (i := 0) (N := some 42) (v := ?_) (a' := ?_) #[true, false, false, false, false, false, false, false, false, false, false, false, false, false, false, false, false, false, false, false, false, false, false, false, false, false, false, false, false, false, false, false, false, false, false, false, false] rfl rfl (any_of HT_.out q12) (fun _ _ _ h => h) (Or.inl ⟨(by rfl), ?_⟩) ?_ ?_
          rotate_left
          ·intro w'
           go_simp
           with_reducible rfl
          rotate_left
          ·simp only [Act.put, List.setIfInBounds_toArray, List.set_cons_zero, List.set_cons_succ, i64_w, i32_w]
           rfl
          refine pure_ (i := 3) (N := some 45) (v := ?_) (a' := ?_) #[true, false, false, true, false, false, false, false, false, false, false, false, false, false, false, false, false, false, false, false, false, false, false, false, false, false, false, false, false, false, false, false, false, false, false, false, false] rfl rfl (any_of HT_.out q12) (fun _ _ _ h => h) (Or.inl ⟨(by rfl), ?_⟩) ?_ ?_
          rotate_left
          ·intro w'
           go_simp
           with_reducible rfl
          rotate_left
          ·simp only [Act.put, List.setIfInBounds_toArray, List.set_cons_zero, List.set_cons_succ, i64_w, i32_w]
           rfl
          refine pure_ (i := 7) (N := some 49) (v := ?_) (a' := ?_) #[true, false, false, true, false, false, false, true, false, false, false, false, false, false, false, false, false, false, false, false, false, false, false, false, false, false, false, false, false, false, false, false, false, false, false, false, false] rfl rfl (any_of HT_.out q12) (fun _ _ _ h => h) (Or.inl ⟨(by rfl), ?_⟩) ?_ ?_
          rotate_left
          ·intro w'
           go_simp
           with_reducible rfl
          rotate_left
          ·simp only [Act.put, List.setIfInBounds_toArray, List.set_cons_zero, List.set_cons_succ, i64_w, i32_w]
           rfl
          refine pure_ (i := 11) (N := some 53) (v := ?_) (a' := ?_) #[true, false, false, true, false, false, false, true, false, false, false, true, false, false, false, false, false, false, false, false, false, false, false, false, false, false, false, false, false, false, false, false, false, false, false, false, false] rfl rfl (any_of HT_.out q12) (fun _ _ _ h => h) (Or.inl ⟨(by rfl), ?_⟩) ?_ ?_
          rotate_left
          ·intro w'
           go_simp
           with_reducible rfl
          rotate_left
          ·simp only [Act.put, List.setIfInBounds_toArray, List.set_cons_zero, List.set_cons_succ, i64_w, i32_w]
           rfl
          refine pure_ (i := 13) (N := some 55) (v := ?_) (a' := ?_) #[true, false, false, true, false, false, false, true, false, false, false, true, false, true, false, false, false, false, false, false, false, false, false, false, false, false, false, false, false, false, false, false, false, false, false, false, false] rfl rfl (any_of HT_.out q12) (fun _ _ _ h => h) (Or.inl ⟨(by rfl), ?_⟩) ?_ ?_
          rotate_left
          ·intro w'
           go_simp
           with_reducible rfl
          rotate_left
          ·simp only [Act.put, List.setIfInBounds_toArray, List.set_cons_zero, List.set_cons_succ, i64_w, i32_w]
           rfl
          refine pure_ (i := 17) (N := some 59) (v := ?_) (a' := ?_) #[true, false, false, true, false, false, false, true, false, false, false, true, false, true, false, false, false, true, false, false, false, false, false, false, false, false, false, false, false, false, false, false, false, false, false, false, false] rfl rfl (any_of HT_.out q12) (fun _ _ _ h => h) (Or.inl ⟨(by rfl), ?_⟩) ?_ ?_
          rotate_left
          ·intro w'
           go_simp
           with_reducible rfl
          rotate_left
          ·simp only [Act.put, List.setIfInBounds_toArray, List.set_cons_zero, List.set_cons_succ, i64_w, i32_w]
           rfl
          refine pure_ (i := 19) (N := some 61) (v := ?_) (a' := ?_) #[true, false, false, true, false, false, false, true, false, false, false, true, false, true, false, false, false, true, false, true, false, false, false, false, false, false, false, false, false, false, false, false, false, false, false, false, false] rfl rfl (any_of HT_.out q12) (fun _ _ _ h => h) (Or.inl ⟨(by rfl), ?_⟩) ?_ ?_
          rotate_left
          ·intro w'
           go_simp
           with_reducible rfl
          rotate_left
          ·simp only [Act.put, List.setIfInBounds_toArray, List.set_cons_zero, List.set_cons_succ, i64_w, i32_w]
           rfl
          refine pure_ (i := 21) (N := some 63) (v := ?_) (a' := ?_) #[true, false, false, true, false, false, false, true, false, false, false, true, false, true, false, false, false, true, false, true, false, true, false, false, false, false, false, false, false, false, false, false, false, false, false, false, false] rfl rfl (any_of HT_.out q12) (fun _ _ _ h => h) (Or.inl ⟨(by rfl), ?_⟩) ?_ ?_
          rotate_left
          ·intro w'
           go_simp
           with_reducible rfl
          rotate_left
          ·simp only [Act.put, List.setIfInBounds_toArray, List.set_cons_zero, List.set_cons_succ, i64_w, i32_w]
           rfl
          refine pure_ (i := 23) (N := some 65) (v := ?_) (a' := ?_) #[true, false, false, true, false, false, false, true, false, false, false, true, false, true, false, false, false, true, false, true, false, true, false, true, false, false, false, false, false, false, false, false, false, false, false, false, false] rfl rfl (any_of HT_.out q12) (fun _ _ _ h => h) (Or.inl ⟨(by rfl), ?_⟩) ?_ ?_
          rotate_left
          ·intro w'
           go_simp
           with_reducible rfl
          rotate_left
          ·simp only [Act.put, List.setIfInBounds_toArray, List.set_cons_zero, List.set_cons_succ, i64_w, i32_w]
           rfl
          refine pure_ (i := 25) (N := some 67) (v := ?_) (a' := ?_) #[true, false, false, true, false, false, false, true, false, false, false, true, false, true, false, false, false, true, false, true, false, true, false, true, false, true, false, false, false, false, false, false, false, false, false, false, false] rfl rfl (any_of HT_.out q12) (fun _ _ _ h => h) (Or.inl ⟨(by rfl), ?_⟩) ?_ ?_
          rotate_left
          ·intro w'
           go_simp
           with_reducible rfl
          rotate_left
          ·simp only [Act.put, List.setIfInBounds_toArray, List.set_cons_zero, List.set_cons_succ, i64_w, i32_w]
           rfl
          refine pure_ (i := 27) (N := some 69) (v := ?_) (a' := ?_) #[true, false, false, true, false, false, false, true, false, false, false, true, false, true, false, false, false, true, false, true, false, true, false, true, false, true, false, true, false, false, false, false, false, false, false, false, false] rfl rfl (any_of HT_.out q12) (fun _ _ _ h => h) (Or.inl ⟨(by rfl), ?_⟩) ?_ ?_
          rotate_left
          ·intro w'
           go_simp
           with_reducible rfl
          rotate_left
          ·simp only [Act.put, List.setIfInBounds_toArray, List.set_cons_zero, List.set_cons_succ, i64_w, i32_w]
           rfl
          refine pure_ (i := 29) (N := some 71) (v := ?_) (a' := ?_) #[true, false, false, true, false, false, false, true, false, false, false, true, false, true, false, false, false, true, false, true, false, true, false, true, false, true, false, true, false, true, false, false, false, false, false, false, false] rfl rfl (any_of HT_.out q12) (fun _ _ _ h => h) (Or.inl ⟨(by rfl), ?_⟩) ?_ ?_
          rotate_left
          ·intro w'
           go_simp
           with_reducible rfl
          rotate_left
          ·simp only [Act.put, List.setIfInBounds_toArray, List.set_cons_zero, List.set_cons_succ, i64_w, i32_w]
           rfl
          refine pure_ (i := 31) (N := some 73) (v := ?_) (a' := ?_) #[true, false, false, true, false, false, false, true, false, false, false, true, false, true, false, false, false, true, false, true, false, true, false, true, false, true, false, true, false, true, false, true, false, false, false, false, false] rfl rfl (any_of HT_.out q12) (fun _ _ _ h => h) (Or.inl ⟨(by rfl), ?_⟩) ?_ ?_
          rotate_left
          ·intro w'
           go_simp
           with_reducible rfl
          rotate_left
          ·simp only [Act.put, List.setIfInBounds_toArray, List.set_cons_zero, List.set_cons_succ, i64_w, i32_w]
           rfl
          refine pure_ (i := 32) (N := some 74) (v := ?_) (a' := ?_) #[true, false, false, true, false, false, false, true, false, false, false, true, false, true, false, false, false, true, false, true, false, true, false, true, false, true, false, true, false, true, false, true, true, false, false, false, false] rfl rfl (any_of HT_.out q12) (fun _ _ _ h => h) (Or.inl ⟨(by rfl), ?_⟩) ?_ ?_
          rotate_left
          ·intro w'
           go_simp
           with_reducible rfl
          rotate_left
          ·simp only [Act.put, List.setIfInBounds_toArray, List.set_cons_zero, List.set_cons_succ, i64_w, i32_w]
           rfl
          refine pure_ (i := 33) (N := some 75) (v := ?_) (a' := ?_) #[true, false, false, true, false, false, false, true, false, false, false, true, false, true, false, false, false, true, false, true, false, true, false, true, false, true, false, true, false, true, false, true, true, true, false, false, false] rfl rfl (any_of HT_.out q12) (fun _ _ _ h => h) (Or.inl ⟨(by rfl), ?_⟩) ?_ ?_
          rotate_left
          ·intro w'
           go_simp
           with_reducible rfl
          rotate_left
          ·simp only [Act.put, List.setIfInBounds_toArray, List.set_cons_zero, List.set_cons_succ, i64_w, i32_w]
           rfl
          refine take_ (i := 1) (N := some 43) (v := ?_) (a' := ?_) #[true, true, false, true, false, false, false, true, false, false, false, true, false, true, false, false, false, true, false, true, false, true, false, true, false, true, false, true, false, true, false, true, true, true, false, false, false] rfl rfl (take_ofW HT_.out HW_.out q12) (fun _ _ _ h => h) (Or.inl ⟨(by rfl), ?_⟩) hHeld ?_ ?_
          rotate_left
          ·rintro w' ⟨s0, s1, s2, s3, s4, s5, s6, s7, s8, s9, s10⟩
           go_simp
           with_reducible rfl
          rotate_left
          ·simp only [Act.put, List.setIfInBounds_toArray, List.set_cons_zero, List.set_cons_succ, i64_w, i32_w]
           rfl
          refine pure_ (i := 2) (N := some 44) (v := ?_) (a' := ?_) #[true, true, true, true, false, false, false, true, false, false, false, true, false, true, false, false, false, true, false, true, false, true, false, true, false, true, false, true, false, true, false, true, true, true, false, false, false] rfl rfl (any_of HT_.out q12) (fun _ _ _ h => h) (Or.inl ⟨(by rfl), ?_⟩) ?_ ?_
          rotate_left
          ·intro w'
           go_simp
           with_reducible rfl
          rotate_left
          ·simp only [Act.put, List.setIfInBounds_toArray, List.set_cons_zero, List.set_cons_succ, i64_w, i32_w]
           rfl
          refine take_ (i := 4) (N := some 46) (v := ?_) (a' := ?_) #[true, true, true, true, true, false, false, true, false, false, false, true, false, true, false, false, false, true, false, true, false, true, false, true, false, true, false, true, false, true, false, true, true, true, false, false, false] rfl rfl (take_ofW HT_.out HW_.out q12) (fun _ _ _ h => h) (Or.inl ⟨(by rfl), ?_⟩) hHeld ?_ ?_
          rotate_left
          ·rintro w' ⟨s0, s1, s2, s3, s4, s5, s6, s7, s8, s9, s10⟩
           go_simp
           with_reducible rfl
          rotate_left
          ·simp only [Act.put, List.setIfInBounds_toArray, List.set_cons_zero, List.set_cons_succ, i64_w, i32_w]
           rfl
          refine pure_ (i := 5) (N := some 47) (v := ?_) (a' := ?_) #[true, true, true, true, true, true, false, true, false, false, false, true, false, true, false, false, false, true, false, true, false, true, false, true, false, true, false, true, false, true, false, true, true, true, false, false, false] rfl rfl (any_of HT_.out q12) (fun _ _ _ h => h) (Or.inl ⟨(by rfl), ?_⟩) ?_ ?_
          rotate_left
          ·intro w'
           go_simp
           with_reducible rfl
          rotate_left
          ·simp only [Act.put, List.setIfInBounds_toArray, List.set_cons_zero, List.set_cons_succ, i64_w, i32_w]
           rfl
          refine pure_ (i := 6) (N := some 48) (v := ?_) (a' := ?_) #[true, true, true, true, true, true, true, true, false, false, false, true, false, true, false, false, false, true, false, true, false, true, false, true, false, true, false, true, false, true, false, true, true, true, false, false, false] rfl rfl (any_of HT_.out q12) (fun _ _ _ h => h) (Or.inl ⟨(by rfl), ?_⟩) ?_ ?_
          rotate_left
          ·intro w'
           go_simp
           with_reducible rfl
          rotate_left
          ·simp only [Act.put, List.setIfInBounds_toArray, List.set_cons_zero, List.set_cons_succ, i64_w, i32_w]
           rfl
          refine take_ (i := 8) (N := some 50) (v := ?_) (a' := ?_) #[true, true, true, true, true, true, true, true, true, false, false, true, false, true, false, false, false, true, false, true, false, true, false, true, false, true, false, true, false, true, false, true, true, true, false, false, false] rfl rfl (take_ofW HT_.out HW_.out q12) (fun _ _ _ h => h) (Or.inl ⟨(by rfl), ?_⟩) hHeld ?_ ?_
          rotate_left
          ·rintro w' ⟨s0, s1, s2, s3, s4, s5, s6, s7, s8, s9, s10⟩
           go_simp
           with_reducible rfl
          rotate_left
          ·simp only [Act.put, List.setIfInBounds_toArray, List.set_cons_zero, List.set_cons_succ, i64_w, i32_w]
           rfl
          refine pure_ (i := 9) (N := some 51) (v := ?_) (a' := ?_) #[true, true, true, true, true, true, true, true, true, true, false, true, false, true, false, false, false, true, false, true, false, true, false, true, false, true, false, true, false, true, false, true, true, true, false, false, false] rfl rfl (any_of HT_.out q12) (fun _ _ _ h => h) (Or.inl ⟨(by rfl), ?_⟩) ?_ ?_
          rotate_left
          ·intro w'
           go_simp
           with_reducible rfl
          rotate_left
          ·simp only [Act.put, List.setIfInBounds_toArray, List.set_cons_zero, List.set_cons_succ, i64_w, i32_w]
           rfl
          refine take_ (i := 10) (N := some 52) (v := ?_) (a' := ?_) #[true, true, true, true, true, true, true, true, true, true, true, true, false, true, false, false, false, true, false, true, false, true, false, true, false, true, false, true, false, true, false, true, true, true, false, false, false] rfl rfl (take_ofW HT_.out HW_.out q12) (fun _ _ _ h => h) (Or.inl ⟨(by rfl), ?_⟩) hHeld ?_ ?_
          rotate_left
          ·rintro w' ⟨s0, s1, s2, s3, s4, s5, s6, s7, s8, s9, s10⟩
           go_simp
           with_reducible rfl
          rotate_left
          ·simp only [Act.put, List.setIfInBounds_toArray, List.set_cons_zero, List.set_cons_succ, i64_w, i32_w]
           rfl
          refine take_ (i := 12) (N := some 54) (v := ?_) (a' := ?_) #[true, true, true, true, true, true, true, true, true, true, true, true, true, true, false, false, false, true, false, true, false, true, false, true, false, true, false, true, false, true, false, true, true, true, false, false, false] rfl rfl (take_ofW HT_.out HW_.out q12) (fun _ _ _ h => h) (Or.inl ⟨(by rfl), ?_⟩) hHeld ?_ ?_
          rotate_left
          ·rintro w' ⟨s0, s1, s2, s3, s4, s5, s6, s7, s8, s9, s10⟩
           go_simp
           with_reducible rfl
          rotate_left
          ·simp only [Act.put, List.setIfInBounds_toArray, List.set_cons_zero, List.set_cons_succ, i64_w, i32_w]
           rfl
          refine take_ (i := 14) (N := some 56) (v := ?_) (a' := ?_) #[true, true, true, true, true, true, true, true, true, true, true, true, true, true, true, false, false, true, false, true, false, true, false, true, false, true, false, true, false, true, false, true, true, true, false, false, false] rfl rfl (take_ofW HT_.out HW_.out q12) (fun _ _ _ h => h) (Or.inl ⟨(by rfl), ?_⟩) hHeld ?_ ?_
          rotate_left
          ·rintro w' ⟨s0, s1, s2, s3, s4, s5, s6, s7, s8, s9, s10⟩
           go_simp
           with_reducible rfl
          rotate_left
          ·simp only [Act.put, List.setIfInBounds_toArray, List.set_cons_zero, List.set_cons_succ, i64_w, i32_w]
           rfl
          refine pure_ (i := 15) (N := some 57) (v := ?_) (a' := ?_) #[true, true, true, true, true, true, true, true, true, true, true, true, true, true, true, true, false, true, false, true, false, true, false, true, false, true, false, true, false, true, false, true, true, true, false, false, false] rfl rfl (any_of HT_.out q12) (fun _ _ _ h => h) (Or.inl ⟨(by rfl), ?_⟩) ?_ ?_
          rotate_left
          ·intro w'
           go_simp
           with_reducible rfl
          rotate_left
          ·simp only [Act.put, List.setIfInBounds_toArray, List.set_cons_zero, List.set_cons_succ, i64_w, i32_w]
           rfl
          refine pure_ (i := 16) (N := some 58) (v := ?_) (a' := ?_) #[true, true, true, true, true, true, true, true, true, true, true, true, true, true, true, true, true, true, false, true, false, true, false, true, false, true, false, true, false, true, false, true, true, true, false, false, false] rfl rfl (any_of HT_.out q12) (fun _ _ _ h => h) (Or.inl ⟨(by rfl), ?_⟩) ?_ ?_
          rotate_left
          ·intro w'
           go_simp
           with_reducible rfl
          rotate_left
          ·simp only [Act.put, List.setIfInBounds_toArray, List.set_cons_zero, List.set_cons_succ, i64_w, i32_w]
           rfl
          refine take_ (i := 18) (N := some 60) (v := ?_) (a' := ?_) #[true, true, true, true, true, true, true, true, true, true, true, true, true, true, true, true, true, true, true, true, false, true, false, true, false, true, false, true, false, true, false, true, true, true, false, false, false] rfl rfl (take_ofW HT_.out HW_.out q12) (fun _ _ _ h => h) (Or.inl ⟨(by rfl), ?_⟩) hHeld ?_ ?_
          rotate_left
          ·rintro w' ⟨s0, s1, s2, s3, s4, s5, s6, s7, s8, s9, s10⟩
           go_simp
           with_reducible rfl
          rotate_left
          ·simp only [Act.put, List.setIfInBounds_toArray, List.set_cons_zero, List.set_cons_succ, i64_w, i32_w]
           rfl
          refine take_ (i := 22) (N := some 64) (v := ?_) (a' := ?_) #[true, true, true, true, true, true, true, true, true, true, true, true, true, true, true, true, true, true, true, true, false, true, true, true, false, true, false, true, false, true, false, true, true, true, false, false, false] rfl rfl (take_ofW HT_.out HW_.out q12) (fun _ _ _ h => h) (Or.inl ⟨(by rfl), ?_⟩) hHeld ?_ ?_
          rotate_left
          ·rintro w' ⟨s0, s1, s2, s3, s4, s5, s6, s7, s8, s9, s10⟩
           go_simp
           with_reducible rfl
          rotate_left
          ·simp only [Act.put, List.setIfInBounds_toArray, List.set_cons_zero, List.set_cons_succ, i64_w, i32_w]
           rfl
          refine take_ (i := 26) (N := some 68) (v := ?_) (a' := ?_) #[true, true, true, true, true, true, true, true, true, true, true, true, true, true, true, true, true, true, true, true, false, true, true, true, false, true, true, true, false, true, false, true, true, true, false, false, false] rfl rfl (take_ofW HT_.out HW_.out q12) (fun _ _ _ h => h) (Or.inl ⟨(by rfl), ?_⟩) hHeld ?_ ?_
          rotate_left
          ·rintro w' ⟨s0, s1, s2, s3, s4, s5, s6, s7, s8, s9, s10⟩
           go_simp
           with_reducible rfl
          rotate_left
          ·simp only [Act.put, List.setIfInBounds_toArray, List.set_cons_zero, List.set_cons_succ, i64_w, i32_w]
           rfl
          refine take_ (i := 28) (N := some 70) (v := ?_) (a' := ?_) #[true, true, true, true, true, true, true, true, true, true, true, true, true, true, true, true, true, true, true, true, false, true, true, true, false, true, true, true, true, true, false, true, true, true, false, false, false] rfl rfl (take_ofW HT_.out HW_.out q12) (fun _ _ _ h => h) (Or.inl ⟨(by rfl), ?_⟩) hHeld ?_ ?_
          rotate_left
          ·rintro w' ⟨s0, s1, s2, s3, s4, s5, s6, s7, s8, s9, s10⟩
           go_simp
           with_reducible rfl
          rotate_left
          ·simp only [Act.put, List.setIfInBounds_toArray, List.set_cons_zero, List.set_cons_succ, i64_w, i32_w]
           rfl
          refine take_ (i := 30) (N := some 72) (v := ?_) (a' := ?_) #[true, true, true, true, true, true, true, true, true, true, true, true, true, true, true, true, true, true, true, true, false, true, true, true, false, true, true, true, true, true, true, true, true, true, false, false, false] rfl rfl (take_ofW HT_.out HW_.out q12) (fun _ _ _ h => h) (Or.inl ⟨(by rfl), ?_⟩) hHeld ?_ ?_
          rotate_left
          ·rintro w' ⟨s0, s1, s2, s3, s4, s5, s6, s7, s8, s9, s10⟩
           go_simp
           with_reducible rfl
          rotate_left
          ·simp only [Act.put, List.setIfInBounds_toArray, List.set_cons_zero, List.set_cons_succ, i64_w, i32_w]
           rfl
          refine one_ (i := 20) (N := some 62) #[true, true, true, true, true, true, true, true, true, true, true, true, true, true, true, true, true, true, true, true, true, true, true, true, false, true, true, true, true, true, true, true, true, true, false, false, false] rfl rfl (one_of HT_.out q12) (by decide) (fun K hK => ?_)
          refine goes_ Try.func28 q12 rfl #[.int .i64 t156, .int .i64 t164] (by rfl) rfl rfl q3 ?_
          with_reducible refine (system_within.calls t156 t164 t165 _ A70.out).mono ?_
          rintro e w74 ⟨rfl, hb⟩
          refine ⟨_, rfl, ?_⟩
          have n0_ := Aside0.mk (bBel BK149 hb)
          have n1_ := Aside0.mk (bBel BK150 hb)
          have n2_ := Aside0.mk (bBel BK151 hb)
          have n3_ := Aside0.mk (bBel BK152 hb)
          have n4_ := Aside0.mk (below_step q2 hb)
          clear BK149 BK150 BK151 BK152 HB
          have BK149 := n0_
          have BK150 := n1_
          have BK151 := n2_
          have BK152 := n3_
          have HB := n4_
          clear n0_ n1_ n2_ n3_ n4_
          (try clear hb)
          (try clear hb2)
          (try clear hk)
          (try clear hi)
          refine hK.out _ _ ⟨(blk_cell BK149.out 0).trans rfl, (blk_cell BK149.out 1).trans rfl, (blk_cell BK149.out 3).trans rfl, (blk_cell BK149.out 4).trans rfl, (blk_cell BK149.out 5).trans rfl, (blk_cell BK149.out 6).trans rfl, (blk_cell BK150.out 1).trans rfl, (blk_cell BK150.out 2).trans rfl, (blk_cell BK150.out 4).trans rfl, (blk_cell BK150.out 12).trans rfl, (hra71.out BK152.out (of_decide_eq_true q34) (of_decide_eq_true q34))⟩ (fun hHeld => ?_)
          clear hK K
          refine norm_ (a' := ?_) ?_ ?_
          rotate_left
          ·show Act.put _ (some 62) _ = _
           simp only [Act.put, List.setIfInBounds_toArray, List.set_cons_zero, List.set_cons_succ, i64_w, i32_w]
           rfl
          refine one_ (i := 24) (N := some 66) #[true, true, true, true, true, true, true, true, true, true, true, true, true, true, true, true, true, true, true, true, true, true, true, true, true, true, true, true, true, true, true, true, true, true, false, false, false] rfl rfl (one_of HT_.out q12) (by decide) (fun K hK => ?_)
          refine goes_ Try.func28 q12 rfl #[.int .i64 t157, .int .i64 t164] (by rfl) rfl rfl q3 ?_
          with_reducible refine (system_within.calls t157 t164 t166 _ A71.out).mono ?_
          rintro e w75 ⟨rfl, hb⟩
          refine ⟨_, rfl, ?_⟩
          have n0_ := Aside0.mk (bBel BK149 hb)
          have n1_ := Aside0.mk (bBel BK150 hb)
          have n2_ := Aside0.mk (bBel BK151 hb)
          have n3_ := Aside0.mk (bBel BK152 hb)
          have n4_ := Aside0.mk (below_step q2 hb)
          clear BK149 BK150 BK151 BK152 HB
          have BK149 := n0_
          have BK150 := n1_
          have BK151 := n2_
          have BK152 := n3_
          have HB := n4_
          clear n0_ n1_ n2_ n3_ n4_
          (try clear hb)
          (try clear hb2)
          (try clear hk)
          (try clear hi)
          refine hK.out _ _ ⟨(blk_cell BK149.out 0).trans rfl, (blk_cell BK149.out 1).trans rfl, (blk_cell BK149.out 3).trans rfl, (blk_cell BK149.out 4).trans rfl, (blk_cell BK149.out 5).trans rfl, (blk_cell BK149.out 6).trans rfl, (blk_cell BK150.out 1).trans rfl, (blk_cell BK150.out 2).trans rfl, (blk_cell BK150.out 4).trans rfl, (blk_cell BK150.out 12).trans rfl, (hra71.out BK152.out (of_decide_eq_true q34) (of_decide_eq_true q34))⟩ (fun hHeld => ?_)
          clear hK K
          refine norm_ (a' := ?_) ?_ ?_
          rotate_left
          ·show Act.put _ (some 66) _ = _
           simp only [Act.put, List.setIfInBounds_toArray, List.set_cons_zero, List.set_cons_succ, i64_w, i32_w]
           rfl
          refine pure_ (i := 34) (N := some 76) (v := ?_) (a' := ?_) #[true, true, true, true, true, true, true, true, true, true, true, true, true, true, true, true, true, true, true, true, true, true, true, true, true, true, true, true, true, true, true, true, true, true, true, false, false] rfl rfl (any_of HT_.out q12) (fun _ _ _ h => h) (Or.inl ⟨(by rfl), ?_⟩) ?_ ?_
          rotate_left
          ·intro w'
           go_simp
           with_reducible rfl
          rotate_left
          ·simp only [Act.put, List.setIfInBounds_toArray, List.set_cons_zero, List.set_cons_succ, i64_w, i32_w]
           rfl
          refine one_ (i := 35) (N := none) #[true, true, true, true, true, true, true, true, true, true, true, true, true, true, true, true, true, true, true, true, true, true, true, true, true, true, true, true, true, true, true, true, true, true, true, true, false] rfl rfl (one_of HT_.out q12) (by decide) (fun K hK => ?_)
          have hs76 : w75.cell? ⟨gb151, 0, none⟩ = some (.int .i64 0) := (blk_cell BK151.out 0).trans rfl
          have hfs76 := blk_frozen BK151.out 0
          have hns76_0 := NB149_151.out
          have hns76_1 := NB150_151.out
          have hns76_3 := NB152_151.out
          have hms76_0 := NB151_149.out
          have hms76_1 := NB151_150.out
          have hms76_3 := NB151_152.out
          have hs77 : w75.cell? ⟨gb151, 1, none⟩ = some (.int .i64 0) := (blk_cell BK151.out 1).trans rfl
          have hfs77 := blk_frozen BK151.out 1
          have hns77_0 := NB149_151.out
          have hns77_1 := NB150_151.out
          have hns77_3 := NB152_151.out
          have hms77_0 := NB151_149.out
          have hms77_1 := NB151_150.out
          have hms77_3 := NB151_152.out
          have hs78 : w75.cell? ⟨gb151, 2, none⟩ = some (.int .i64 0) := (blk_cell BK151.out 2).trans rfl
          have hfs78 := blk_frozen BK151.out 2
          have hns78_0 := NB149_151.out
          have hns78_1 := NB150_151.out
          have hns78_3 := NB152_151.out
          have hms78_0 := NB151_149.out
          have hms78_1 := NB151_150.out
          have hms78_3 := NB151_152.out
          have hs79 : w75.cell? ⟨gb151, 3, none⟩ = some (.int .i64 0) := (blk_cell BK151.out 3).trans rfl
          have hfs79 := blk_frozen BK151.out 3
          have hns79_0 := NB149_151.out
          have hns79_1 := NB150_151.out
          have hns79_3 := NB152_151.out
          have hms79_0 := NB151_149.out
          have hms79_1 := NB151_150.out
          have hms79_3 := NB151_152.out
          have hs80 : w75.cell? ⟨gb151, 4, none⟩ = some (.int .i64 0) := (blk_cell BK151.out 4).trans rfl
          have hfs80 := blk_frozen BK151.out 4
          have hns80_0 := NB149_151.out
          have hns80_1 := NB150_151.out
          have hns80_3 := NB152_151.out
          have hms80_0 := NB151_149.out
          have hms80_1 := NB151_150.out
          have hms80_3 := NB151_152.out
          have hs81 : w75.cell? ⟨gb151, 5, none⟩ = some (.int .i64 0) := (blk_cell BK151.out 5).trans rfl
          have hfs81 := blk_frozen BK151.out 5
          have hns81_0 := NB149_151.out
          have hns81_1 := NB150_151.out
          have hns81_3 := NB152_151.out
          have hms81_0 := NB151_149.out
          have hms81_1 := NB151_150.out
          have hms81_3 := NB151_152.out
          have hs82 : w75.cell? ⟨gb151, 6, none⟩ = some (.int .i64 0) := (blk_cell BK151.out 6).trans rfl
          have hfs82 := blk_frozen BK151.out 6
          have hns82_0 := NB149_151.out
          have hns82_1 := NB150_151.out
          have hns82_3 := NB152_151.out
          have hms82_0 := NB151_149.out
          have hms82_1 := NB151_150.out
          have hms82_3 := NB151_152.out
          have hs83 : w75.cell? ⟨gb151, 7, none⟩ = some (.int .i64 0) := (blk_cell BK151.out 7).trans rfl
          have hfs83 := blk_frozen BK151.out 7
          have hns83_0 := NB149_151.out
          have hns83_1 := NB150_151.out
          have hns83_3 := NB152_151.out
          have hms83_0 := NB151_149.out
          have hms83_1 := NB151_150.out
          have hms83_3 := NB151_152.out
          have hs84 : w75.cell? ⟨gb151, 8, none⟩ = some (.int .u32 0) := (blk_cell BK151.out 8).trans rfl
          have hfs84 := blk_frozen BK151.out 8
          have hns84_0 := NB149_151.out
          have hns84_1 := NB150_151.out
          have hns84_3 := NB152_151.out
          have hms84_0 := NB151_149.out
          have hms84_1 := NB151_150.out
          have hms84_3 := NB151_152.out
          have hs85 : w75.cell? ⟨gb151, 9, none⟩ = some (.int .u64 0) := (blk_cell BK151.out 9).trans rfl
          have hfs85 := blk_frozen BK151.out 9
          have hns85_0 := NB149_151.out
          have hns85_1 := NB150_151.out
          have hns85_3 := NB152_151.out
          have hms85_0 := NB151_149.out
          have hms85_1 := NB151_150.out
          have hms85_3 := NB151_152.out
          have hs86 : w75.cell? ⟨gb151, 10, none⟩ = some (.int .u64 0) := (blk_cell BK151.out 10).trans rfl
          have hfs86 := blk_frozen BK151.out 10
          have hns86_0 := NB149_151.out
          have hns86_1 := NB150_151.out
          have hns86_3 := NB152_151.out
          have hms86_0 := NB151_149.out
          have hms86_1 := NB151_150.out
          have hms86_3 := NB151_152.out
          have hs87 : w75.cell? ⟨gb151, 11, none⟩ = some (.int .u64 0) := (blk_cell BK151.out 11).trans rfl
          have hfs87 := blk_frozen BK151.out 11
          have hns87_0 := NB149_151.out
          have hns87_1 := NB150_151.out
          have hns87_3 := NB152_151.out
          have hms87_0 := NB151_149.out
          have hms87_1 := NB151_150.out
          have hms87_3 := NB151_152.out
          have hs88 : w75.cell? ⟨gb151, 12, none⟩ = some (.int .u64 0) := (blk_cell BK151.out 12).trans rfl
          have hfs88 := blk_frozen BK151.out 12
          have hns88_0 := NB149_151.out
          have hns88_1 := NB150_151.out
          have hns88_3 := NB152_151.out
          have hms88_0 := NB151_149.out
          have hms88_1 := NB151_150.out
          have hms88_3 := NB151_152.out
          have hs89 : w75.cell? ⟨gb151, 13, none⟩ = some (.slice none 0 0) := (blk_cell BK151.out 13).trans rfl
          have hfs89 := blk_frozen BK151.out 13
          have hns89_0 := NB149_151.out
          have hns89_1 := NB150_151.out
          have hns89_3 := NB152_151.out
          have hms89_0 := NB151_149.out
          have hms89_1 := NB151_150.out
          have hms89_3 := NB151_152.out
          have hs90 : w75.cell? ⟨gb151, 14, none⟩ = some (.int .i64 0) := (blk_cell BK151.out 14).trans rfl
          have hfs90 := blk_frozen BK151.out 14
          have hns90_0 := NB149_151.out
          have hns90_1 := NB150_151.out
          have hns90_3 := NB152_151.out
          have hms90_0 := NB151_149.out
          have hms90_1 := NB151_150.out
          have hms90_3 := NB151_152.out
          have hs91 : w75.cell? ⟨gb151, 15, none⟩ = some (.bool false) := (blk_cell BK151.out 15).trans rfl
          have hfs91 := blk_frozen BK151.out 15
          have hns91_0 := NB149_151.out
          have hns91_1 := NB150_151.out
          have hns91_3 := NB152_151.out
          have hms91_0 := NB151_149.out
          have hms91_1 := NB151_150.out
          have hms91_3 := NB151_152.out
          have hs92 : w75.cell? ⟨gb151, 16, none⟩ = some (.slice none 0 0) := (blk_cell BK151.out 16).trans rfl
          have hfs92 := blk_frozen BK151.out 16
          have hns92_0 := NB149_151.out
          have hns92_1 := NB150_151.out
          have hns92_3 := NB152_151.out
          have hms92_0 := NB151_149.out
          have hms92_1 := NB151_150.out
          have hms92_3 := NB151_152.out
          refine skip_ (w1 := ?_) (by rfl) rfl ?_ ?_
          rotate_left
          ·go_simp
           rfl
          refine hK.out _ _ ⟨((cell_far (p := ⟨gb151, _, none⟩) NB149_151.out _).trans (((cell_far (p := ⟨gb151, _, none⟩) NB149_151.out _).trans (((cell_far (p := ⟨gb151, _, none⟩) NB149_151.out _).trans (((cell_far (p := ⟨gb151, _, none⟩) NB149_151.out _).trans (((cell_far (p := ⟨gb151, _, none⟩) NB149_151.out _).trans (((cell_far (p := ⟨gb151, _, none⟩) NB149_151.out _).trans (((cell_far (p := ⟨gb151, _, none⟩) NB149_151.out _).trans (((cell_far (p := ⟨gb151, _, none⟩) NB149_151.out _).trans (((cell_far (p := ⟨gb151, _, none⟩) NB149_151.out _).trans (((cell_far (p := ⟨gb151, _, none⟩) NB149_151.out _).trans (((cell_far (p := ⟨gb151, _, none⟩) NB149_151.out _).trans (((cell_far (p := ⟨gb151, _, none⟩) NB149_151.out _).trans (((cell_far (p := ⟨gb151, _, none⟩) NB149_151.out _).trans (((cell_far (p := ⟨gb151, _, none⟩) NB149_151.out _).trans (((cell_far (p := ⟨gb151, _, none⟩) NB149_151.out _).trans (((cell_far (p := ⟨gb151, _, none⟩) NB149_151.out _).trans (((cell_far (p := ⟨gb151, _, none⟩) NB149_151.out _).trans (hHeld.1)))))))))))))))))))))))))))))))))), ((cell_far (p := ⟨gb151, _, none⟩) NB149_151.out _).trans (((cell_far (p := ⟨gb151, _, none⟩) NB149_151.out _).trans (((cell_far (p := ⟨gb151, _, none⟩) NB149_151.out _).trans (((cell_far (p := ⟨gb151, _, none⟩) NB149_151.out _).trans (((cell_far (p := ⟨gb151, _, none⟩) NB149_151.out _).trans (((cell_far (p := ⟨gb151, _, none⟩) NB149_151.out _).trans (((cell_far (p := ⟨gb151, _, none⟩) NB149_151.out _).trans (((cell_far (p := ⟨gb151, _, none⟩) NB149_151.out _).trans (((cell_far (p := ⟨gb151, _, none⟩) NB149_151.out _).trans (((cell_far (p := ⟨gb151, _, none⟩) NB149_151.out _).trans (((cell_far (p := ⟨gb151, _, none⟩) NB149_151.out _).trans (((cell_far (p := ⟨gb151, _, none⟩) NB149_151.out _).trans (((cell_far (p := ⟨gb151, _, none⟩) NB149_151.out _).trans (((cell_far (p := ⟨gb151, _, none⟩) NB149_151.out _).trans (((cell_far (p := ⟨gb151, _, none⟩) NB149_151.out _).trans (((cell_far (p := ⟨gb151, _, none⟩) NB149_151.out _).trans (((cell_far (p := ⟨gb151, _, none⟩) NB149_151.out _).trans (hHeld.2.1)))))))))))))))))))))))))))))))))), ((cell_far (p := ⟨gb151, _, none⟩) NB149_151.out _).trans (((cell_far (p := ⟨gb151, _, none⟩) NB149_151.out _).trans (((cell_far (p := ⟨gb151, _, none⟩) NB149_151.out _).trans (((cell_far (p := ⟨gb151, _, none⟩) NB149_151.out _).trans (((cell_far (p := ⟨gb151, _, none⟩) NB149_151.out _).trans (((cell_far (p := ⟨gb151, _, none⟩) NB149_151.out _).trans (((cell_far (p := ⟨gb151, _, none⟩) NB149_151.out _).trans (((cell_far (p := ⟨gb151, _, none⟩) NB149_151.out _).trans (((cell_far (p := ⟨gb151, _, none⟩) NB149_151.out _).trans (((cell_far (p := ⟨gb151, _, none⟩) NB149_151.out _).trans (((cell_far (p := ⟨gb151, _, none⟩) NB149_151.out _).trans (((cell_far (p := ⟨gb151, _, none⟩) NB149_151.out _).trans (((cell_far (p := ⟨gb151, _, none⟩) NB149_151.out _).trans (((cell_far (p := ⟨gb151, _, none⟩) NB149_151.out _).trans (((cell_far (p := ⟨gb151, _, none⟩) NB149_151.out _).trans (((cell_far (p := ⟨gb151, _, none⟩) NB149_151.out _).trans (((cell_far (p := ⟨gb151, _, none⟩) NB149_151.out _).trans (hHeld.2.2.1)))))))))))))))))))))))))))))))))), ((cell_far (p := ⟨gb151, _, none⟩) NB149_151.out _).trans (((cell_far (p := ⟨gb151, _, none⟩) NB149_151.out _).trans (((cell_far (p := ⟨gb151, _, none⟩) NB149_151.out _).trans (((cell_far (p := ⟨gb151, _, none⟩) NB149_151.out _).trans (((cell_far (p := ⟨gb151, _, none⟩) NB149_151.out _).trans (((cell_far (p := ⟨gb151, _, none⟩) NB149_151.out _).trans (((cell_far (p := ⟨gb151, _, none⟩) NB149_151.out _).trans (((cell_far (p := ⟨gb151, _, none⟩) NB149_151.out _).trans (((cell_far (p := ⟨gb151, _, none⟩) NB149_151.out _).trans (((cell_far (p := ⟨gb151, _, none⟩) NB149_151.out _).trans (((cell_far (p := ⟨gb151, _, none⟩) NB149_151.out _).trans (((cell_far (p := ⟨gb151, _, none⟩) NB149_151.out _).trans (((cell_far (p := ⟨gb151, _, none⟩) NB149_151.out _).trans (((cell_far (p := ⟨gb151, _, none⟩) NB149_151.out _).trans (((cell_far (p := ⟨gb151, _, none⟩) NB149_151.out _).trans (((cell_far (p := ⟨gb151, _, none⟩) NB149_151.out _).trans (((cell_far (p := ⟨gb151, _, none⟩) NB149_151.out _).trans (hHeld.2.2.2.1)))))))))))))))))))))))))))))))))), ((cell_far (p := ⟨gb151, _, none⟩) NB149_151.out _).trans (((cell_far (p := ⟨gb151, _, none⟩) NB149_151.out _).trans (((cell_far (p := ⟨gb151, _, none⟩) NB149_151.out _).trans (((cell_far (p := ⟨gb151, _, none⟩) NB149_151.out _).trans (((cell_far (p := ⟨gb151, _, none⟩) NB149_151.out _).trans (((cell_far (p := ⟨gb151, _, none⟩) NB149_151.out _).trans (((cell_far (p := ⟨gb151, _, none⟩) NB149_151.out _).trans (((cell_far (p := ⟨gb151, _, none⟩) NB149_151.out _).trans (((cell_far (p := ⟨gb151, _, none⟩) NB149_151.out _).trans (((cell_far (p := ⟨gb151, _, none⟩) NB149_151.out _).trans (((cell_far (p := ⟨gb151, _, none⟩) NB149_151.out _).trans (((cell_far (p := ⟨gb151, _, none⟩) NB149_151.out _).trans (((cell_far (p := ⟨gb151, _, none⟩) NB149_151.out _).trans (((cell_far (p := ⟨gb151, _, none⟩) NB149_151.out _).trans (((cell_far (p := ⟨gb151, _, none⟩) NB149_151.out _).trans (((cell_far (p := ⟨gb151, _, none⟩) NB149_151.out _).trans (((cell_far (p := ⟨gb151, _, none⟩) NB149_151.out _).trans (hHeld.2.2.2.2.1)))))))))))))))))))))))))))))))))), ((cell_far (p := ⟨gb151, _, none⟩) NB149_151.out _).trans (((cell_far (p := ⟨gb151, _, none⟩) NB149_151.out _).trans (((cell_far (p := ⟨gb151, _, none⟩) NB149_151.out _).trans (((cell_far (p := ⟨gb151, _, none⟩) NB149_151.out _).trans (((cell_far (p := ⟨gb151, _, none⟩) NB149_151.out _).trans (((cell_far (p := ⟨gb151, _, none⟩) NB149_151.out _).trans (((cell_far (p := ⟨gb151, _, none⟩) NB149_151.out _).trans (((cell_far (p := ⟨gb151, _, none⟩) NB149_151.out _).trans (((cell_far (p := ⟨gb151, _, none⟩) NB149_151.out _).trans (((cell_far (p := ⟨gb151, _, none⟩) NB149_151.out _).trans (((cell_far (p := ⟨gb151, _, none⟩) NB149_151.out _).trans (((cell_far (p := ⟨gb151, _, none⟩) NB149_151.out _).trans (((cell_far (p := ⟨gb151, _, none⟩) NB149_151.out _).trans (((cell_far (p := ⟨gb151, _, none⟩) NB149_151.out _).trans (((cell_far (p := ⟨gb151, _, none⟩) NB149_151.out _).trans (((cell_far (p := ⟨gb151, _, none⟩) NB149_151.out _).trans (((cell_far (p := ⟨gb151, _, none⟩) NB149_151.out _).trans (hHeld.2.2.2.2.2.1)))))))))))))))))))))))))))))))))), ((cell_far (p := ⟨gb151, _, none⟩) NB150_151.out _).trans (((cell_far (p := ⟨gb151, _, none⟩) NB150_151.out _).trans (((cell_far (p := ⟨gb151, _, none⟩) NB150_151.out _).trans (((cell_far (p := ⟨gb151, _, none⟩) NB150_151.out _).trans (((cell_far (p := ⟨gb151, _, none⟩) NB150_151.out _).trans (((cell_far (p := ⟨gb151, _, none⟩) NB150_151.out _).trans (((cell_far (p := ⟨gb151, _, none⟩) NB150_151.out _).trans (((cell_far (p := ⟨gb151, _, none⟩) NB150_151.out _).trans (((cell_far (p := ⟨gb151, _, none⟩) NB150_151.out _).trans (((cell_far (p := ⟨gb151, _, none⟩) NB150_151.out _).trans (((cell_far (p := ⟨gb151, _, none⟩) NB150_151.out _).trans (((cell_far (p := ⟨gb151, _, none⟩) NB150_151.out _).trans (((cell_far (p := ⟨gb151, _, none⟩) NB150_151.out _).trans (((cell_far (p := ⟨gb151, _, none⟩) NB150_151.out _).trans (((cell_far (p := ⟨gb151, _, none⟩) NB150_151.out _).trans (((cell_far (p := ⟨gb151, _, none⟩) NB150_151.out _).trans (((cell_far (p := ⟨gb151, _, none⟩) NB150_151.out _).trans (hHeld.2.2.2.2.2.2.1)))))))))))))))))))))))))))))))))), ((cell_far (p := ⟨gb151, _, none⟩) NB150_151.out _).trans (((cell_far (p := ⟨gb151, _, none⟩) NB150_151.out _).trans (((cell_far (p := ⟨gb151, _, none⟩) NB150_151.out _).trans (((cell_far (p := ⟨gb151, _, none⟩) NB150_151.out _).trans (((cell_far (p := ⟨gb151, _, none⟩) NB150_151.out _).trans (((cell_far (p := ⟨gb151, _, none⟩) NB150_151.out _).trans (((cell_far (p := ⟨gb151, _, none⟩) NB150_151.out _).trans (((cell_far (p := ⟨gb151, _, none⟩) NB150_151.out _).trans (((cell_far (p := ⟨gb151, _, none⟩) NB150_151.out _).trans (((cell_far (p := ⟨gb151, _, none⟩) NB150_151.out _).trans (((cell_far (p := ⟨gb151, _, none⟩) NB150_151.out _).trans (((cell_far (p := ⟨gb151, _, none⟩) NB150_151.out _).trans (((cell_far (p := ⟨gb151, _, none⟩) NB150_151.out _).trans (((cell_far (p := ⟨gb151, _, none⟩) NB150_151.out _).trans (((cell_far (p := ⟨gb151, _, none⟩) NB150_151.out _).trans (((cell_far (p := ⟨gb151, _, none⟩) NB150_151.out _).trans (((cell_far (p := ⟨gb151, _, none⟩) NB150_151.out _).trans (hHeld.2.2.2.2.2.2.2.1)))))))))))))))))))))))))))))))))), ((cell_far (p := ⟨gb151, _, none⟩) NB150_151.out _).trans (((cell_far (p := ⟨gb151, _, none⟩) NB150_151.out _).trans (((cell_far (p := ⟨gb151, _, none⟩) NB150_151.out _).trans (((cell_far (p := ⟨gb151, _, none⟩) NB150_151.out _).trans (((cell_far (p := ⟨gb151, _, none⟩) NB150_151.out _).trans (((cell_far (p := ⟨gb151, _, none⟩) NB150_151.out _).trans (((cell_far (p := ⟨gb151, _, none⟩) NB150_151.out _).trans (((cell_far (p := ⟨gb151, _, none⟩) NB150_151.out _).trans (((cell_far (p := ⟨gb151, _, none⟩) NB150_151.out _).trans (((cell_far (p := ⟨gb151, _, none⟩) NB150_151.out _).trans (((cell_far (p := ⟨gb151, _, none⟩) NB150_151.out _).trans (((cell_far (p := ⟨gb151, _, none⟩) NB150_151.out _).trans (((cell_far (p := ⟨gb151, _, none⟩) NB150_151.out _).trans (((cell_far (p := ⟨gb151, _, none⟩) NB150_151.out _).trans (((cell_far (p := ⟨gb151, _, none⟩) NB150_151.out _).trans (((cell_far (p := ⟨gb151, _, none⟩) NB150_151.out _).trans (((cell_far (p := ⟨gb151, _, none⟩) NB150_151.out _).trans (hHeld.2.2.2.2.2.2.2.2.1)))))))))))))))))))))))))))))))))), ((cell_far (p := ⟨gb151, _, none⟩) NB150_151.out _).trans (((cell_far (p := ⟨gb151, _, none⟩) NB150_151.out _).trans (((cell_far (p := ⟨gb151, _, none⟩) NB150_151.out _).trans (((cell_far (p := ⟨gb151, _, none⟩) NB150_151.out _).trans (((cell_far (p := ⟨gb151, _, none⟩) NB150_151.out _).trans (((cell_far (p := ⟨gb151, _, none⟩) NB150_151.out _).trans (((cell_far (p := ⟨gb151, _, none⟩) NB150_151.out _).trans (((cell_far (p := ⟨gb151, _, none⟩) NB150_151.out _).trans (((cell_far (p := ⟨gb151, _, none⟩) NB150_151.out _).trans (((cell_far (p := ⟨gb151, _, none⟩) NB150_151.out _).trans (((cell_far (p := ⟨gb151, _, none⟩) NB150_151.out _).trans (((cell_far (p := ⟨gb151, _, none⟩) NB150_151.out _).trans (((cell_far (p := ⟨gb151, _, none⟩) NB150_151.out _).trans (((cell_far (p := ⟨gb151, _, none⟩) NB150_151.out _).trans (((cell_far (p := ⟨gb151, _, none⟩) NB150_151.out _).trans (((cell_far (p := ⟨gb151, _, none⟩) NB150_151.out _).trans (((cell_far (p := ⟨gb151, _, none⟩) NB150_151.out _).trans (hHeld.2.2.2.2.2.2.2.2.2.1)))))))))))))))))))))))))))))))))), ((cell_far (p := ⟨gb151, _, none⟩) NB152_151.out _).trans (((cell_far (p := ⟨gb151, _, none⟩) NB152_151.out _).trans (((cell_far (p := ⟨gb151, _, none⟩) NB152_151.out _).trans (((cell_far (p := ⟨gb151, _, none⟩) NB152_151.out _).trans (((cell_far (p := ⟨gb151, _, none⟩) NB152_151.out _).trans (((cell_far (p := ⟨gb151, _, none⟩) NB152_151.out _).trans (((cell_far (p := ⟨gb151, _, none⟩) NB152_151.out _).trans (((cell_far (p := ⟨gb151, _, none⟩) NB152_151.out _).trans (((cell_far (p := ⟨gb151, _, none⟩) NB152_151.out _).trans (((cell_far (p := ⟨gb151, _, none⟩) NB152_151.out _).trans (((cell_far (p := ⟨gb151, _, none⟩) NB152_151.out _).trans (((cell_far (p := ⟨gb151, _, none⟩) NB152_151.out _).trans (((cell_far (p := ⟨gb151, _, none⟩) NB152_151.out _).trans (((cell_far (p := ⟨gb151, _, none⟩) NB152_151.out _).trans (((cell_far (p := ⟨gb151, _, none⟩) NB152_151.out _).trans (((cell_far (p := ⟨gb151, _, none⟩) NB152_151.out _).trans (((cell_far (p := ⟨gb151, _, none⟩) NB152_151.out _).trans (hHeld.2.2.2.2.2.2.2.2.2.2))))))))))))))))))))))))))))))))))⟩ (fun hHeld => ?_)
          clear hK K
          refine pure_ (i := 36) (N := some 9) (v := ?_) (a' := ?_) #[true, true, true, true, true, true, true, true, true, true, true, true, true, true, true, true, true, true, true, true, true, true, true, true, true, true, true, true, true, true, true, true, true, true, true, true, true] rfl rfl (any_of HT_.out q12) (fun _ _ _ h => h) (Or.inl ⟨(by rfl), ?_⟩) ?_ ?_
          rotate_left
          ·intro w'
           go_simp
           with_reducible rfl
          rotate_left
          ·simp only [Act.put, List.setIfInBounds_toArray, List.set_cons_zero, List.set_cons_succ, i64_w, i32_w]
           rfl
          refine done_ (done_of HT_.out q12) ?_
          try go_wp2
          refine bodyPost_ret (results_ct rfl _ _ gb151 56 #[.int .i64 (Go.bits .and .i64 t153 3), .int .i64 ji64, .int .i64 (rd [0, 2, 0, 4, 0, 0] a1_2), .int .i64 x150001_56, .int .i64 ji69, .int .i64 (-20), .int .i64 t165, .int .i64 t166, .int .u32 t158, .int .u64 t159, .int .u64 a1_12, .int .u64 a2, .int .u64 ji72, .slice none 0 0, .int .i64 0, .bool false, .slice none 0 0] (0, 0) _ rfl (by apply Eq.trans; (case h₁ => repeat (first | (with_reducible first | exact BK151.out | apply blk_set | apply blk_drewN | apply blk_drew | apply blk_alloc))); simp only [List.setIfInBounds_toArray, List.set_cons_zero, List.set_cons_succ]) Try.underlying56 rfl q12) rfl ?_
          exact ⟨_, _, (by first | rfl | (simp [errW_none, errW_some] <;> rfl) | (simp only [← hji63, ← hji64, ← hji68, ← hji69, ← hji72]; first | rfl | (simp [errW_none, errW_some] <;> rfl)) | (simp [*, errW_none, errW_some] <;> rfl)), (by first | exact Kd.S_nil _ _ _ _ _ | exact Kd.N_nil _ _ _ _ _ | exact Kd.V_nil _ _ _ _ _ | exact Kd.Q_nil _ _ _ _ _ | exact Kd.R_nil _ _ _ _ _), (by first | exact Kd.R_nil _ _ _ _ _ | exact Kd.N_nil _ _ _ _ _ | exact Kd.V_nil _ _ _ _ _ | exact Kd.Q_nil _ _ _ _ _ | exact Kd.S_nil _ _ _ _ _), q2⟩
         ·rw [if_neg c66] at H
          exact absurd H (by simp)
        ·rw [if_neg c65] at H
         exact absurd H (by simp)
end Go.Proofs.Ytbcdoncnhhjjeaa.PSystemLost
