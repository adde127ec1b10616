-- Written by a program (extend_print.py). Not trusted: Lean checks it.
import Derived.Test.YtbcdoncnhhjjeaaQSystemLost
import Derived.Test.YtbcdoncnhhjjeaaVSystemLostLoads
import Derived.Test.YtbcdoncnhhjjeaaVSystemLostShort
import Derived.Test.YtbcdoncnhhjjeaaPSystemLostx0
import Derived.Test.YtbcdoncnhhjjeaaPSystemLostx4
import Derived.Test.YtbcdoncnhhjjeaaPSystemLostx6
namespace Go.Proofs.Ytbcdoncnhhjjeaa.PSystemLost
open Go.RowKit Go.Proofs.YtbcdoncnhhjjeaaW.PrintWords Go.Proofs.YtbcdoncnhhjjeaaW.PrintLast Go.Proofs.YtbcdoncnhhjjeaaW.PrintMore
attribute [local go_sem] max2_int min2_int max_two min_two max_three min_three max_four min_four
set_option linter.unusedVariables false
set_option maxHeartbeats 8000000
set_option maxRecDepth 100000
set_option linter.unusedSimpArgs false
def system_Age.f (k : Nat) (a0_0 : Int) (a0_1 : Int) (a0_2 : Int) (a0_3 : Int) (a0_4 : Int) (a0_5 : Int) (a0_6 : Int) (a0_7 : Int) (a0_8 : Int) (a0_9 : Int) (a0_10 : Int) (a1 : Int) : Option (Int × Int × Int × Int × Int × Int × Int × Int × Int × Int × Int) := (stamp_Since.f k a1 a0_6).bind fun t145 => ((fixed_Drift.f k 4222124650 (mx t145 0)).bind fun t146 => ((fixed_Add.f k a0_4 t146).bind fun t147 => ((system_within.f t147 68719476736).bind fun t148 => (some (a0_0, a0_1, a0_2, a0_3, t148, a0_5, a0_6, a0_7, a0_8, a0_9, a0_10)))))
def system_Age.T2 : Bool × List (List Nat × List Nat) := (true, [([], []), ([0], [0]), ([], []), ([2], [2]), ([1, 3, 3], [1, 3]), ([4, 4], [4]), ([0, 1, 2, 3, 4, 5], []), ([6, 5, 5, 0, 1, 2, 3, 4, 5], [5, 6])])
def system_Age.B2 : List Nat := [0, 1, 0, 4, 15, 31, 63, 127]
theorem system_Age.tab2 : rtab .any (opsOf Try.f16 2) = system_Age.T2 := by kernel_rfl
theorem system_Age.bits2 : waitsOk system_Age.T2.2 system_Age.B2 = true := by kernel_rfl
theorem system_Age.calls (k : Nat) (a0_0 : Int) (a0_1 : Int) (a0_2 : Int) (a0_3 : Int) (a0_4 : Int) (a0_5 : Int) (a0_6 : Int) (a0_7 : Int) (a0_8 : Int) (a0_9 : Int) (a0_10 : Int) (a1 : Int) (r1 : Int) (r2 : Int) (r3 : Int) (r4 : Int) (r5 : Int) (r6 : Int) (r7 : Int) (r8 : Int) (r9 : Int) (r10 : Int) (r11 : Int) (w : World) (h : system_Age.f k a0_0 a0_1 a0_2 a0_3 a0_4 a0_5 a0_6 a0_7 a0_8 a0_9 a0_10 a1 = some (r1, r2, r3, r4, r5, r6, r7, r8, r9, r10, r11)) :
  Calls Try.prog 16 #[.agg #[.int .i64 a0_0, .int .i64 a0_1, .int .i64 a0_2, .int .i64 a0_3, .int .i64 a0_4, .int .u32 a0_5, .int .u64 a0_6, .int .i64 a0_7, .int .i64 a0_8, .int .i64 a0_9, .int .i64 a0_10], .int .u64 a1] w fun e w' => e = .returned (.agg #[.int .i64 r1, .int .i64 r2, .int .i64 r3, .int .i64 r4, .int .i64 r5, .int .u32 r6, .int .u64 r7, .int .i64 r8, .int .i64 r9, .int .i64 r10, .int .i64 r11]) ∧ Below w.heap.size w w' := by
 have hu28 := Try.underlying28
 have HB := Aside0.mk (Below.refl w.heap.size w)
 have H : ((stamp_Since.f k a1 a0_6).bind fun t145 => ((fixed_Drift.f k 4222124650 (mx t145 0)).bind fun t146 => ((fixed_Add.f k a0_4 t146).bind fun t147 => ((system_within.f t147 68719476736).bind fun t148 => (some (a0_0, a0_1, a0_2, a0_3, t148, a0_5, a0_6, a0_7, a0_8, a0_9, a0_10)))))) = some (r1, r2, r3, r4, r5, r6, r7, r8, r9, r10, r11) := h
 clear h
 replace H := Option.bind_eq_some_iff.mp H
 obtain ⟨t145, A30, H⟩ := H
 replace H : ((fixed_Drift.f k 4222124650 (mx t145 0)).bind fun t146 => ((fixed_Add.f k a0_4 t146).bind fun t147 => ((system_within.f t147 68719476736).bind fun t148 => (some (a0_0, a0_1, a0_2, a0_3, t148, a0_5, a0_6, a0_7, a0_8, a0_9, a0_10))))) = some (r1, r2, r3, r4, r5, r6, r7, r8, r9, r10, r11) := H
 have A3 := Aside0.mk A30
 clear A30
 obtain ⟨ji4, hji4⟩ : ∃ j_ : Int, (mx t145 0) = j_ := ⟨_, rfl⟩
 replace H : ((fixed_Drift.f k 4222124650 (ji4)).bind fun t146 => ((fixed_Add.f k a0_4 t146).bind fun t147 => ((system_within.f t147 68719476736).bind fun t148 => (some (a0_0, a0_1, a0_2, a0_3, t148, a0_5, a0_6, a0_7, a0_8, a0_9, a0_10))))) = some (r1, r2, r3, r4, r5, r6, r7, r8, r9, r10, r11) := by first | (rw [hji4] at H; exact H) | (simp only [hji4] at H ⊢; exact H)
 (try rw [hji4] at A3)
 (try (have hji4l : 0 ≤ ji4 := by (rw [← hji4]; unfold mx; (repeat' split) <;> omega)))
 (try (have hji4m : 0 ≤ ji4 := by omega))
 have hji4_ : (if t145 < 0 then 0 else t145) = ji4 := hji4
 replace H := Option.bind_eq_some_iff.mp H
 obtain ⟨t146, A50, H⟩ := H
 replace H : ((fixed_Add.f k a0_4 t146).bind fun t147 => ((system_within.f t147 68719476736).bind fun t148 => (some (a0_0, a0_1, a0_2, a0_3, t148, a0_5, a0_6, a0_7, a0_8, a0_9, a0_10)))) = some (r1, r2, r3, r4, r5, r6, r7, r8, r9, r10, r11) := H
 have A5 := Aside0.mk A50
 clear A50
 replace H := Option.bind_eq_some_iff.mp H
 obtain ⟨t147, A60, H⟩ := H
 replace H : ((system_within.f t147 68719476736).bind fun t148 => (some (a0_0, a0_1, a0_2, a0_3, t148, a0_5, a0_6, a0_7, a0_8, a0_9, a0_10))) = some (r1, r2, r3, r4, r5, r6, r7, r8, r9, r10, r11) := H
 have A6 := Aside0.mk A60
 clear A60
 replace H := Option.bind_eq_some_iff.mp H
 obtain ⟨t148, A70, H⟩ := H
 replace H : (some (a0_0, a0_1, a0_2, a0_3, t148, a0_5, a0_6, a0_7, a0_8, a0_9, a0_10)) = some (r1, r2, r3, r4, r5, r6, r7, r8, r9, r10, r11) := H
 have A7 := Aside0.mk A70
 clear A70
 simp only [Option.some.injEq, Prod.mk.injEq] at H
 obtain ⟨rfl, rfl, rfl, rfl, rfl, rfl, rfl, rfl, rfl, rfl, rfl⟩ := H
 go_enter Try.func16, Try.ntmps16
 try go_wp2_with (first | ((with_reducible refine gate_dst (N := 2) rfl ?_); refine box_event ?hg (N := 2) ?hd (cs := #[.int .i64 a0_0, .int .i64 a0_1, .int .i64 a0_2, .int .i64 a0_3, .int .i64 a0_4, .int .u32 a0_5, .int .u64 a0_6, .int .i64 a0_7, .int .i64 a0_8, .int .i64 a0_9, .int .i64 a0_10]) (t := 28) ?hr ?_; (case hd => rfl); (case hg => rfl); (case hr => first | (go_simp; done) | (go_simp; rfl)); intro gb143 hg w8 hbox hb; have n0_ := Aside0.mk (below_step q0 hb); have n1_ := Aside0.mk (hbox); have n2_ := Aside0.mk ((by rw [hg]; exact (below_size q0) : w.heap.size ≤ gb143)); have n3_ := Aside0.mk ((by rw [hg]; exact (below_size q0) : w.heap.size ≤ gb143)); clear HB; have HB := n0_; have BK143 := n1_; have GW143 := n2_; have GE143 := n3_; clear n0_ n1_ n2_ n3_; clear hb hbox hg) | ((with_reducible refine gate_dst (N := 4) rfl ?_); refine box_event ?hg (N := 4) ?hd (cs := #[.int .i64 0, .int .i64 0, .int .i64 0, .int .i64 0, .int .i64 0, .int .u32 0, .int .u64 0, .int .i64 0, .int .i64 0, .int .i64 0, .int .i64 0]) (t := 28) ?hr ?_; (case hd => rfl); (case hg => rfl); (case hr => first | (go_simp; done) | (go_simp; rfl)); intro gb144 hg w9 hbox hb; have n0_ := Aside0.mk (bBel BK143 hb); have n1_ := Aside0.mk (below_step (by repeat (first | (with_reducible first | exact HB.out | apply below_alloc | apply pw_below_drewN | apply below_drew1 | refine below_set ?_ GE143.out) | exact HB.out)) hb); have n2_ := Aside0.mk (hbox); have n3_ := Aside0.mk ((by rw [hg]; exact (below_size (by repeat (first | (with_reducible first | exact HB.out | apply below_alloc | apply pw_below_drewN | apply below_drew1 | refine below_set ?_ GE143.out) | exact HB.out))) : w.heap.size ≤ gb144)); have n4_ := Aside0.mk ((by rw [hg]; exact (below_size (by repeat (first | (with_reducible first | exact HB.out | apply below_alloc | apply pw_below_drewN | apply below_drew1 | refine below_set ?_ GE143.out) | exact HB.out))) : w.heap.size ≤ gb144)); have n5_ := Aside0.mk (nbL BK143 hg); have n6_ := Aside0.mk (Ne.symm (nbL BK143 hg)); clear BK143 HB; have BK143 := n0_; have HB := n1_; have BK144 := n2_; have GW144 := n3_; have GE144 := n4_; have NB143_144 := n5_; have NB144_143 := n6_; clear n0_ n1_ n2_ n3_ n4_ n5_ n6_; clear hb hbox hg; have hnb10 := NB143_144.out; have hnc10 := NB144_143.out; have hcz11_0 : w9.cell? ⟨gb143, 0, none⟩ = some (.int .i64 a0_0) := (blk_cell BK143.out 0).trans rfl; have hcz11_1 : w9.cell? ⟨gb143, 1, none⟩ = some (.int .i64 a0_1) := (blk_cell BK143.out 1).trans rfl; have hcz11_2 : w9.cell? ⟨gb143, 2, none⟩ = some (.int .i64 a0_2) := (blk_cell BK143.out 2).trans rfl; have hcz11_3 : w9.cell? ⟨gb143, 3, none⟩ = some (.int .i64 a0_3) := (blk_cell BK143.out 3).trans rfl; have hcz11_4 : w9.cell? ⟨gb143, 4, none⟩ = some (.int .i64 a0_4) := (blk_cell BK143.out 4).trans rfl; have hcz11_5 : w9.cell? ⟨gb143, 5, none⟩ = some (.int .u32 a0_5) := (blk_cell BK143.out 5).trans rfl; have hcz11_6 : w9.cell? ⟨gb143, 6, none⟩ = some (.int .u64 a0_6) := (blk_cell BK143.out 6).trans rfl; have hcz11_7 : w9.cell? ⟨gb143, 7, none⟩ = some (.int .i64 a0_7) := (blk_cell BK143.out 7).trans rfl; have hcz11_8 : w9.cell? ⟨gb143, 8, none⟩ = some (.int .i64 a0_8) := (blk_cell BK143.out 8).trans rfl; have hcz11_9 : w9.cell? ⟨gb143, 9, none⟩ = some (.int .i64 a0_9) := (blk_cell BK143.out 9).trans rfl; have hcz11_10 : w9.cell? ⟨gb143, 10, none⟩ = some (.int .i64 a0_10) := (blk_cell BK143.out 10).trans rfl) | ((with_reducible refine gate_callee (f := 32) rfl ?_); refine goesL_ (some 9) rfl rfl Try.func32 q12 rfl #[.int .u64 a1, .int .u64 a0_6] rfl q3 ?_; (with_reducible refine (stamp_Since.calls k a1 a0_6 t145 _ A3.out).mono ?_); rintro e w12 ⟨rfl, hb⟩; refine ⟨_, rfl, ?_⟩; have n0_ := Aside0.mk (bBel BK143 hb); have n1_ := Aside0.mk (bBel BK144 hb); have n2_ := Aside0.mk (below_step q29 hb); clear BK143 BK144 HB; have BK143 := n0_; have BK144 := n1_; have HB := n2_; clear n0_ n1_ n2_; (try clear hb); (try clear hb2); (try clear hk); (try clear hi)))
 have n0_ := Aside0.mk (blk_drew BK143.out)
 have n1_ := Aside0.mk (blk_drew BK144.out)
 have n2_ := Aside0.mk (below_drew1 HB.out)
 clear BK143 BK144 HB
 have BK143 := n0_
 have BK144 := n1_
 have HB := n2_
 clear n0_ n1_ n2_
 refine start_ (n := 8) (S := fun w' => w'.cell? ⟨gb143, 4, none⟩ = some (.int .i64 a0_4)) (ds := [7]) #[false, false, false, false, false, false, false, false] q12 rfl rfl ((blk_cell BK143.out 4).trans rfl) (fun hHeld => ?_); refine with_tabW system_Age.tab2 system_Age.bits2 (fun HT_ HW_ => ?_)
 generalize w12.drew = w13 at BK143 BK144 HB hHeld ⊢
 refine pure_ (i := 0) (N := some 11) (v := ?_) (a' := ?_) #[true, false, false, false, false, false, false, false] rfl rfl (any_of HT_.out q12) (fun _ _ _ h => h) (Or.inl ⟨(by rfl), ?_⟩) ?_ ?_
 rotate_left
 ·intro w'
  go_simp
  with_reducible rfl
 rotate_left
 ·simp only [Act.put, List.setIfInBounds_toArray, List.set_cons_zero, List.set_cons_succ, i64_w, i32_w]
  rfl
 refine pure_ (i := 2) (N := some 13) (v := ?_) (a' := ?_) #[true, false, true, false, false, false, false, false] rfl rfl (any_of HT_.out q12) (fun _ _ _ h => h) (Or.inl ⟨(by rfl), ?_⟩) ?_ ?_
 rotate_left
 ·intro w'
  go_simp
  with_reducible rfl
 rotate_left
 ·simp only [Act.put, List.setIfInBounds_toArray, List.set_cons_zero, List.set_cons_succ, i64_w, i32_w]
  rfl
 refine take_ (i := 1) (N := some 12) (v := ?_) (a' := ?_) #[true, true, true, false, false, false, false, false] rfl rfl (take_ofW HT_.out HW_.out q12) (fun _ _ _ h => h) (Or.inl ⟨(by rfl), ?_⟩) hHeld ?_ ?_
 rotate_left
 ·intro w' s0
  go_simp
  with_reducible rfl
 rotate_left
 ·simp only [Act.put, List.setIfInBounds_toArray, List.set_cons_zero, List.set_cons_succ, i64_w, i32_w]
  rfl
 refine one_ (i := 3) (N := some 14) #[true, true, true, true, false, false, false, false] rfl rfl (one_of HT_.out q12) (by decide) (fun K hK => ?_)
 refine goes_ Try.func33 q12 rfl #[.int .i64 4222124650, .int .i64 ji4] (by rfl) rfl rfl (by (try simp only [List.map_toArray, List.map_cons, List.map_nil]); first | done | (simp only [hji4]; rfl) | rfl | (simp only [List.length_drop, List.length_take]; rfl)) ?_
 with_reducible refine (fixed_Drift.calls k 4222124650 ji4 t146 _ A5.out).mono ?_
 rintro e w14 ⟨rfl, hb⟩
 refine ⟨_, rfl, ?_⟩
 have n0_ := Aside0.mk (bBel BK143 hb)
 have n1_ := Aside0.mk (bBel BK144 hb)
 have n2_ := Aside0.mk (below_step q29 hb)
 clear BK143 BK144 HB
 have BK143 := n0_
 have BK144 := n1_
 have HB := n2_
 clear n0_ n1_ n2_
 (try clear hb)
 (try clear hb2)
 (try clear hk)
 (try clear hi)
 refine hK.out _ _ ((blk_cell BK143.out 4).trans rfl) (fun hHeld => ?_)
 clear hK K
 refine norm_ (a' := ?_) ?_ ?_
 rotate_left
 ·show Act.put _ (some 14) _ = _
  simp only [Act.put, List.setIfInBounds_toArray, List.set_cons_zero, List.set_cons_succ, i64_w, i32_w]
  rfl
 refine one_ (i := 4) (N := some 15) #[true, true, true, true, true, false, false, false] rfl rfl (one_of HT_.out q12) (by decide) (fun K hK => ?_)
 refine goes_ Try.func27 q12 rfl #[.int .i64 a0_4, .int .i64 t146] (by rfl) rfl rfl q3 ?_
 with_reducible refine (fixed_Add.calls k a0_4 t146 t147 _ A6.out).mono ?_
 rintro e w15 ⟨rfl, hb⟩
 refine ⟨_, rfl, ?_⟩
 have n0_ := Aside0.mk (bBel BK143 hb)
 have n1_ := Aside0.mk (bBel BK144 hb)
 have n2_ := Aside0.mk (below_step q29 hb)
 clear BK143 BK144 HB
 have BK143 := n0_
 have BK144 := n1_
 have HB := n2_
 clear n0_ n1_ n2_
 (try clear hb)
 (try clear hb2)
 (try clear hk)
 (try clear hi)
 refine hK.out _ _ ((blk_cell BK143.out 4).trans rfl) (fun hHeld => ?_)
 clear hK K
 refine norm_ (a' := ?_) ?_ ?_
 rotate_left
 ·show Act.put _ (some 15) _ = _
  simp only [Act.put, List.setIfInBounds_toArray, List.set_cons_zero, List.set_cons_succ, i64_w, i32_w]
  rfl
 refine one_ (i := 5) (N := some 16) #[true, true, true, true, true, true, false, false] rfl rfl (one_of HT_.out q12) (by decide) (fun K hK => ?_)
 refine goes_ Try.func28 q12 rfl #[.int .i64 t147, .int .i64 68719476736] (by rfl) rfl rfl q3 ?_
 with_reducible refine (system_within.calls t147 68719476736 t148 _ A7.out).mono ?_
 rintro e w16 ⟨rfl, hb⟩
 refine ⟨_, rfl, ?_⟩
 have n0_ := Aside0.mk (bBel BK143 hb)
 have n1_ := Aside0.mk (bBel BK144 hb)
 have n2_ := Aside0.mk (below_step q29 hb)
 clear BK143 BK144 HB
 have BK143 := n0_
 have BK144 := n1_
 have HB := n2_
 clear n0_ n1_ n2_
 (try clear hb)
 (try clear hb2)
 (try clear hk)
 (try clear hi)
 refine hK.out _ _ ((blk_cell BK143.out 4).trans rfl) (fun hHeld => ?_)
 clear hK K
 refine norm_ (a' := ?_) ?_ ?_
 rotate_left
 ·show Act.put _ (some 16) _ = _
  simp only [Act.put, List.setIfInBounds_toArray, List.set_cons_zero, List.set_cons_succ, i64_w, i32_w]
  rfl
 refine pure_ (i := 6) (N := some 17) (v := ?_) (a' := ?_) #[true, true, true, true, true, true, true, false] rfl rfl (any_of HT_.out q12) (fun _ _ _ h => h) (Or.inl ⟨(by rfl), ?_⟩) ?_ ?_
 rotate_left
 ·intro w'
  go_simp
  with_reducible rfl
 rotate_left
 ·simp only [Act.put, List.setIfInBounds_toArray, List.set_cons_zero, List.set_cons_succ, i64_w, i32_w]
  rfl
 refine last_ (i := 7) (N := none) #[true, true, true, true, true, true, true, true] rfl rfl (one_of HT_.out q12) (by decide) (fun K hK => ?_)
 have hs17 : w16.cell? ⟨gb143, 4, none⟩ = some (.int .i64 a0_4) := (blk_cell BK143.out 4).trans rfl
 have hfs17 := blk_frozen BK143.out 4
 have hns17_1 := NB144_143.out
 have hms17_1 := NB143_144.out
 refine skip_ (w1 := ?_) (by rfl) rfl ?_ ?_
 rotate_left
 ·go_simp
  rfl
 refine hK.out _ _ ?_
 clear hK K
 refine done_ (done_of HT_.out q12) ?_
 have hcz18_0 : w16.cell? ⟨gb143, 0, none⟩ = some (.int .i64 a0_0) := (blk_cell BK143.out 0).trans rfl
 have hcz18_1 : w16.cell? ⟨gb143, 1, none⟩ = some (.int .i64 a0_1) := (blk_cell BK143.out 1).trans rfl
 have hcz18_2 : w16.cell? ⟨gb143, 2, none⟩ = some (.int .i64 a0_2) := (blk_cell BK143.out 2).trans rfl
 have hcz18_3 : w16.cell? ⟨gb143, 3, none⟩ = some (.int .i64 a0_3) := (blk_cell BK143.out 3).trans rfl
 have hcz18_4 : w16.cell? ⟨gb143, 4, none⟩ = some (.int .i64 a0_4) := (blk_cell BK143.out 4).trans rfl
 have hcz18_5 : w16.cell? ⟨gb143, 5, none⟩ = some (.int .u32 a0_5) := (blk_cell BK143.out 5).trans rfl
 have hcz18_6 : w16.cell? ⟨gb143, 6, none⟩ = some (.int .u64 a0_6) := (blk_cell BK143.out 6).trans rfl
 have hcz18_7 : w16.cell? ⟨gb143, 7, none⟩ = some (.int .i64 a0_7) := (blk_cell BK143.out 7).trans rfl
 have hcz18_8 : w16.cell? ⟨gb143, 8, none⟩ = some (.int .i64 a0_8) := (blk_cell BK143.out 8).trans rfl
 have hcz18_9 : w16.cell? ⟨gb143, 9, none⟩ = some (.int .i64 a0_9) := (blk_cell BK143.out 9).trans rfl
 have hcz18_10 : w16.cell? ⟨gb143, 10, none⟩ = some (.int .i64 a0_10) := (blk_cell BK143.out 10).trans rfl
 have hcz19_0 : w16.cell? ⟨gb144, 0, none⟩ = some (.int .i64 0) := (blk_cell BK144.out 0).trans rfl
 have hcz19_1 : w16.cell? ⟨gb144, 1, none⟩ = some (.int .i64 0) := (blk_cell BK144.out 1).trans rfl
 have hcz19_2 : w16.cell? ⟨gb144, 2, none⟩ = some (.int .i64 0) := (blk_cell BK144.out 2).trans rfl
 have hcz19_3 : w16.cell? ⟨gb144, 3, none⟩ = some (.int .i64 0) := (blk_cell BK144.out 3).trans rfl
 have hcz19_4 : w16.cell? ⟨gb144, 4, none⟩ = some (.int .i64 0) := (blk_cell BK144.out 4).trans rfl
 have hcz19_5 : w16.cell? ⟨gb144, 5, none⟩ = some (.int .u32 0) := (blk_cell BK144.out 5).trans rfl
 have hcz19_6 : w16.cell? ⟨gb144, 6, none⟩ = some (.int .u64 0) := (blk_cell BK144.out 6).trans rfl
 have hcz19_7 : w16.cell? ⟨gb144, 7, none⟩ = some (.int .i64 0) := (blk_cell BK144.out 7).trans rfl
 have hcz19_8 : w16.cell? ⟨gb144, 8, none⟩ = some (.int .i64 0) := (blk_cell BK144.out 8).trans rfl
 have hcz19_9 : w16.cell? ⟨gb144, 9, none⟩ = some (.int .i64 0) := (blk_cell BK144.out 9).trans rfl
 have hcz19_10 : w16.cell? ⟨gb144, 10, none⟩ = some (.int .i64 0) := (blk_cell BK144.out 10).trans rfl
 have hfz19_0 := blk_frozen BK144.out 0
 have hfz19_1 := blk_frozen BK144.out 1
 have hfz19_2 := blk_frozen BK144.out 2
 have hfz19_3 := blk_frozen BK144.out 3
 have hfz19_4 := blk_frozen BK144.out 4
 have hfz19_5 := blk_frozen BK144.out 5
 have hfz19_6 := blk_frozen BK144.out 6
 have hfz19_7 := blk_frozen BK144.out 7
 have hfz19_8 := blk_frozen BK144.out 8
 have hfz19_9 := blk_frozen BK144.out 9
 have hfz19_10 := blk_frozen BK144.out 10
 try go_wp2_with (first | ((with_reducible refine gate_dst (N := 18) rfl ?_); refine load_event (t' := 28) rfl rfl gb143 #[.int .i64 a0_0, .int .i64 a0_1, .int .i64 a0_2, .int .i64 a0_3, .int .i64 t148, .int .u32 a0_5, .int .u64 a0_6, .int .i64 a0_7, .int .i64 a0_8, .int .i64 a0_9, .int .i64 a0_10] rfl hu28 q12 (by (with_reducible repeat (first | refine blk_drewN ?_ _ | refine blk_drew ?_ | refine blk_alloc ?_ _)); refine blk_put (cs := #[.int .i64 a0_0, .int .i64 a0_1, .int .i64 a0_2, .int .i64 a0_3, .int .i64 a0_4, .int .u32 a0_5, .int .u64 a0_6, .int .i64 a0_7, .int .i64 a0_8, .int .i64 a0_9, .int .i64 a0_10]) ?_ 4 _ rfl; (with_reducible repeat (first | refine blk_drewN ?_ _ | refine blk_drew ?_ | refine blk_alloc ?_ _)); exact BK143.out) ?_) | ((with_reducible refine gate_store (t := 28) (p := 4) rfl ?_); refine store_event (t := 28) (p := 4) (v := ?vo_w20) (w1 := ((((((((((((w16.setCell ⟨gb143, 4, none⟩ (.int .i64 t148)).setCell ⟨gb144, 0, none⟩ (.int .i64 a0_0)).setCell ⟨gb144, 1, none⟩ (.int .i64 a0_1)).setCell ⟨gb144, 2, none⟩ (.int .i64 a0_2)).setCell ⟨gb144, 3, none⟩ (.int .i64 a0_3)).setCell ⟨gb144, 4, none⟩ (.int .i64 t148)).setCell ⟨gb144, 5, none⟩ (.int .u32 a0_5)).setCell ⟨gb144, 6, none⟩ (.int .u64 a0_6)).setCell ⟨gb144, 7, none⟩ (.int .i64 a0_7)).setCell ⟨gb144, 8, none⟩ (.int .i64 a0_8)).setCell ⟨gb144, 9, none⟩ (.int .i64 a0_9)).setCell ⟨gb144, 10, none⟩ (.int .i64 a0_10))) ?hg ?ho ?hn ?hr ?_; (case ho => rfl); (case hg => rfl); (case hn => rfl); (case hr => first | exact store_run rfl gb144 [.int .i64 a0_0, .int .i64 a0_1, .int .i64 a0_2, .int .i64 a0_3, .int .i64 t148, .int .u32 a0_5, .int .u64 a0_6, .int .i64 a0_7, .int .i64 a0_8, .int .i64 a0_9, .int .i64 a0_10] (cs := #[.int .i64 0, .int .i64 0, .int .i64 0, .int .i64 0, .int .i64 0, .int .u32 0, .int .u64 0, .int .i64 0, .int .i64 0, .int .i64 0, .int .i64 0]) (t' := 28) rfl rfl q12 (by (with_reducible repeat (first | refine blk_drewN ?_ _ | refine blk_drew ?_ | refine blk_alloc ?_ _)); refine blk_far ?_ NB144_143.out _; (with_reducible repeat (first | refine blk_drewN ?_ _ | refine blk_drew ?_ | refine blk_alloc ?_ _)); exact BK144.out) (Nat.le_refl _) rfl rfl | (go_simp; done) | (go_simp; rfl)); intro w20 hw; have n0_ : Aside0 (w20.heap[gb143]? = some (.cells #[.int .i64 a0_0, .int .i64 a0_1, .int .i64 a0_2, .int .i64 a0_3, .int .i64 t148, .int .u32 a0_5, .int .u64 a0_6, .int .i64 a0_7, .int .i64 a0_8, .int .i64 a0_9, .int .i64 a0_10] 28 (0, 0))) := ⟨(by rw [hw]; exact (by apply Eq.trans; (case h₁ => repeat (first | (with_reducible first | exact BK143.out | apply blk_set | apply blk_drewN | apply blk_drew | apply blk_alloc) | apply blk_far (hp := NB143_144.out))); simp only [List.setIfInBounds_toArray, List.set_cons_zero, List.set_cons_succ]))⟩; have n1_ : Aside0 (w20.heap[gb144]? = some (.cells #[.int .i64 a0_0, .int .i64 a0_1, .int .i64 a0_2, .int .i64 a0_3, .int .i64 t148, .int .u32 a0_5, .int .u64 a0_6, .int .i64 a0_7, .int .i64 a0_8, .int .i64 a0_9, .int .i64 a0_10] 28 (0, 0))) := ⟨(by rw [hw]; exact (by apply Eq.trans; (case h₁ => repeat (first | (with_reducible first | exact BK144.out | apply blk_set | apply blk_drewN | apply blk_drew | apply blk_alloc) | apply blk_far (hp := NB144_143.out))); simp only [List.setIfInBounds_toArray, List.set_cons_zero, List.set_cons_succ]))⟩; have n2_ : Aside0 (Below w.heap.size w w20) := ⟨(by rw [hw]; exact q29)⟩; clear hw; clear BK143; clear BK144; clear HB; have BK143 := n0_; have BK144 := n1_; have HB := n2_; clear n0_ n1_ n2_))
 refine bodyPost_ret (results_cell_row rfl _ _ gb144 28 #[.int .i64 a0_0, .int .i64 a0_1, .int .i64 a0_2, .int .i64 a0_3, .int .i64 t148, .int .u32 a0_5, .int .u64 a0_6, .int .i64 a0_7, .int .i64 a0_8, .int .i64 a0_9, .int .i64 a0_10] (0, 0) _ rfl (by (with_reducible repeat (first | refine blk_drewN ?_ _ | refine blk_drew ?_ | refine blk_alloc ?_ _)); exact BK144.out) Try.underlying28 rfl q12) rfl ?_
 exact ⟨(by first | rfl | (simp [errW_none, errW_some] <;> rfl) | (simp only [← hji4]; first | rfl | (simp [errW_none, errW_some] <;> rfl)) | (simp [*, errW_none, errW_some] <;> rfl)), q29⟩
def stamp_FromShort.f (a0 : Int) : Option (Int) := some (wrap64 ((wrap64 (a0)) * 65536))
theorem stamp_FromShort.calls (a0 : Int) (r : Int) (w : World) (h : stamp_FromShort.f a0 = some r) :
  Calls Try.prog 38 #[.int .u32 a0] w fun e w' => e = .returned (.int .i64 r) ∧ Drawn0 w w' := by
 have H : (some (wrap64 ((wrap64 (a0)) * 65536))) = some r := h
 clear h
 obtain rfl := Option.some.inj H
 go_enter Try.func38, Try.ntmps38
 go_wp2
 go_ret
 exact ⟨q30, q20⟩
end Go.Proofs.Ytbcdoncnhhjjeaa.PSystemLost
