-- Written by a program (extend_print.py). Not trusted: Lean checks it.
import Derived.Test.YtbcdoncnhhjjeaaQSystemLost
import Derived.Test.YtbcdoncnhhjjeaaPSystemLostx0
import Derived.Test.YtbcdoncnhhjjeaaPSystemLostx2
import Derived.Test.YtbcdoncnhhjjeaaPSystemLostx3
namespace Go.Proofs.Ytbcdoncnhhjjeaa.PSystemLost
open Go.RowKit Go.Proofs.YtbcdoncnhhjjeaaW.PrintWords Go.Proofs.YtbcdoncnhhjjeaaW.PrintLast Go.Proofs.YtbcdoncnhhjjeaaW.PrintMore
attribute [local go_sem] max2_int min2_int max_two min_two max_three min_three max_four min_four
set_option linter.unusedVariables false
set_option maxHeartbeats 8000000
set_option maxRecDepth 100000
set_option linter.unusedSimpArgs false
def fixed_sum.f (a0 : Int) (a1 : Int) : Option (Int × Int × Bool) := (bits_Add64.f (IntKind.u64.wrap (a0)) (IntKind.u64.wrap (a1)) 0).bind fun bt111 => (if (wrap64 (IntKind.u64.wrap ((IntKind.u64.wrap ((IntKind.u64.wrap (a0 / 9223372036854775808)) + (IntKind.u64.wrap (a1 / 9223372036854775808)))) + bt111.2))) < 0 then ((bits_Add64.f (Go.bits .xor .u64 18446744073709551615 bt111.1) 1 0).bind fun bt113 => (some (IntKind.u64.wrap ((Go.bits .xor .u64 18446744073709551615 (IntKind.u64.wrap ((IntKind.u64.wrap ((IntKind.u64.wrap (a0 / 9223372036854775808)) + (IntKind.u64.wrap (a1 / 9223372036854775808)))) + bt111.2))) + bt113.2), bt113.1, true))) else (some (IntKind.u64.wrap ((IntKind.u64.wrap ((IntKind.u64.wrap (a0 / 9223372036854775808)) + (IntKind.u64.wrap (a1 / 9223372036854775808)))) + bt111.2), bt111.1, false)))
theorem fixed_sum.calls (a0 : Int) (a1 : Int) (r1 : Int) (r2 : Int) (r3 : Bool) (w : World) (h : fixed_sum.f a0 a1 = some (r1, r2, r3)) :
  Calls Try.prog 44 #[.int .i64 a0, .int .i64 a1] w fun e w' => e = .returned (.agg #[.int .u64 r1, .int .u64 r2, .bool r3]) ∧ Below w.heap.size w w' := by
 have hu78 := Try.underlying78
 have HB := Aside0.mk (Below.refl w.heap.size w)
 have H : ((bits_Add64.f (IntKind.u64.wrap (a0)) (IntKind.u64.wrap (a1)) 0).bind fun bt111 => (if (wrap64 (IntKind.u64.wrap ((IntKind.u64.wrap ((IntKind.u64.wrap (a0 / 9223372036854775808)) + (IntKind.u64.wrap (a1 / 9223372036854775808)))) + bt111.2))) < 0 then ((bits_Add64.f (Go.bits .xor .u64 18446744073709551615 bt111.1) 1 0).bind fun bt113 => (some (IntKind.u64.wrap ((Go.bits .xor .u64 18446744073709551615 (IntKind.u64.wrap ((IntKind.u64.wrap ((IntKind.u64.wrap (a0 / 9223372036854775808)) + (IntKind.u64.wrap (a1 / 9223372036854775808)))) + bt111.2))) + bt113.2), bt113.1, true))) else (some (IntKind.u64.wrap ((IntKind.u64.wrap ((IntKind.u64.wrap (a0 / 9223372036854775808)) + (IntKind.u64.wrap (a1 / 9223372036854775808)))) + bt111.2), bt111.1, false)))) = some (r1, r2, r3) := h
 clear h
 replace H := Option.bind_eq_some_iff.mp H
 obtain ⟨⟨t111, t112⟩, A30, H⟩ := H
 replace H : (if (wrap64 (IntKind.u64.wrap ((IntKind.u64.wrap ((IntKind.u64.wrap (a0 / 9223372036854775808)) + (IntKind.u64.wrap (a1 / 9223372036854775808)))) + t112))) < 0 then ((bits_Add64.f (Go.bits .xor .u64 18446744073709551615 t111) 1 0).bind fun bt113 => (some (IntKind.u64.wrap ((Go.bits .xor .u64 18446744073709551615 (IntKind.u64.wrap ((IntKind.u64.wrap ((IntKind.u64.wrap (a0 / 9223372036854775808)) + (IntKind.u64.wrap (a1 / 9223372036854775808)))) + t112))) + bt113.2), bt113.1, true))) else (some (IntKind.u64.wrap ((IntKind.u64.wrap ((IntKind.u64.wrap (a0 / 9223372036854775808)) + (IntKind.u64.wrap (a1 / 9223372036854775808)))) + t112), t111, false))) = some (r1, r2, r3) := H
 have A3 := Aside0.mk A30
 clear A30
 by_cases c4 : (wrap64 (IntKind.u64.wrap ((IntKind.u64.wrap ((IntKind.u64.wrap (a0 / 9223372036854775808)) + (IntKind.u64.wrap (a1 / 9223372036854775808)))) + t112))) < 0
 ·rw [if_pos c4] at H
  have c4b0 : decide ((wrap64 (IntKind.u64.wrap ((IntKind.u64.wrap ((IntKind.u64.wrap (a0 / 9223372036854775808)) + (IntKind.u64.wrap (a1 / 9223372036854775808)))) + t112))) < 0) = true := decide_eq_true c4
  clear c4
  replace H := Option.bind_eq_some_iff.mp H
  obtain ⟨⟨t113, t114⟩, A50, H⟩ := H
  replace H : (some (IntKind.u64.wrap ((Go.bits .xor .u64 18446744073709551615 (IntKind.u64.wrap ((IntKind.u64.wrap ((IntKind.u64.wrap (a0 / 9223372036854775808)) + (IntKind.u64.wrap (a1 / 9223372036854775808)))) + t112))) + t114), t113, true)) = some (r1, r2, r3) := H
  have A5 := Aside0.mk A50
  clear A50
  simp only [Option.some.injEq, Prod.mk.injEq] at H
  obtain ⟨rfl, rfl, rfl⟩ := H
  go_enter Try.func44, Try.ntmps44
  go_wp2_with (first | ((with_reducible refine gate_dst (N := 4) rfl ?_); refine box_event ?hg (N := 4) ?hd (cs := #[.int .u64 0, .int .u64 0, .bool false]) (t := 78) ?hr ?_; (case hd => rfl); (case hg => rfl); (case hr => first | (go_simp; done) | (go_simp; rfl)); intro gb110 hg w6 hbox hb; have n0_ := Aside0.mk (below_step q0 hb); have n1_ := Aside0.mk (hbox); have n2_ := Aside0.mk ((by rw [hg]; exact (below_size q0) : w.heap.size ≤ gb110)); have n3_ := Aside0.mk ((by rw [hg]; exact (below_size q0) : w.heap.size ≤ gb110)); clear HB; have HB := n0_; have BK110 := n1_; have GW110 := n2_; have GE110 := n3_; clear n0_ n1_ n2_ n3_; clear hb hbox hg) | ((with_reducible refine gate_callee (f := 59) rfl ?_); refine goesX_ (some 13) rfl rfl #[.int .u64 (IntKind.u64.wrap (a0)), .int .u64 (IntKind.u64.wrap (a1)), .int .u64 0] rfl q3 ?_; (with_reducible refine (bits_Add64.calls (IntKind.u64.wrap (a0)) (IntKind.u64.wrap (a1)) 0 t111 t112 _ A3.out).mono ?_); rintro e w' ⟨rfl, ⟨nd, rfl⟩⟩; refine ⟨_, rfl, ?_⟩; (try (rw [drewN_self w6]; generalize hq_ : World.drewN w6 _ = w6; have n0_ : Aside0 (w6.heap[gb110]? = some (.cells #[.int .u64 0, .int .u64 0, .bool false] 78 (0, 0))) := ⟨(by rw [← hq_]; exact (by (with_reducible repeat (first | refine blk_drewN ?_ _ | refine blk_drew ?_ | refine blk_alloc ?_ _)); exact BK110.out))⟩; have n1_ : Aside0 (Below w.heap.size w w6) := ⟨(by rw [← hq_]; exact q33)⟩; clear BK110 HB hq_; have BK110 := n0_; have HB := n1_; clear n0_ n1_))) | ((with_reducible refine gate_callee (f := 59) rfl ?_); refine goesX_ (some 31) rfl rfl #[.int .u64 (Go.bits .xor .u64 18446744073709551615 t111), .int .u64 1, .int .u64 0] rfl q3 ?_; (with_reducible refine (bits_Add64.calls (Go.bits .xor .u64 18446744073709551615 t111) 1 0 t113 t114 _ A5.out).mono ?_); rintro e w' ⟨rfl, ⟨nd, rfl⟩⟩; refine ⟨_, rfl, ?_⟩; (try (rw [drewN_self w6]; generalize hq_ : World.drewN w6 _ = w6; have n0_ : Aside0 (w6.heap[gb110]? = some (.cells #[.int .u64 0, .int .u64 0, .bool false] 78 (0, 0))) := ⟨(by rw [← hq_]; exact (by (with_reducible repeat (first | refine blk_drewN ?_ _ | refine blk_drew ?_ | refine blk_alloc ?_ _)); exact BK110.out))⟩; have n1_ : Aside0 (Below w.heap.size w w6) := ⟨(by rw [← hq_]; exact q33)⟩; clear BK110 HB hq_; have BK110 := n0_; have HB := n1_; clear n0_ n1_)); have hcz7_0 : w6.cell? ⟨gb110, 0, none⟩ = some (.int .u64 0) := (blk_cell BK110.out 0).trans rfl; have hfz7_0 := blk_frozen BK110.out 0; have hcz7_1 : w6.cell? ⟨gb110, 1, none⟩ = some (.int .u64 0) := (blk_cell BK110.out 1).trans rfl; have hfz7_1 := blk_frozen BK110.out 1; have hcz7_2 : w6.cell? ⟨gb110, 2, none⟩ = some (.bool false) := (blk_cell BK110.out 2).trans rfl; have hfz7_2 := blk_frozen BK110.out 2))
  refine bodyPost_ret (results_cell_row rfl _ _ gb110 78 #[.int .u64 (IntKind.u64.wrap ((Go.bits .xor .u64 18446744073709551615 (IntKind.u64.wrap ((IntKind.u64.wrap ((IntKind.u64.wrap (a0 / 9223372036854775808)) + (IntKind.u64.wrap (a1 / 9223372036854775808)))) + t112))) + t114)), .int .u64 t113, .bool true] (0, 0) _ rfl (by (with_reducible repeat (first | refine blk_drewN ?_ _ | refine blk_drew ?_ | refine blk_alloc ?_ _)); refine blk_put (cs := #[.int .u64 (IntKind.u64.wrap ((Go.bits .xor .u64 18446744073709551615 (IntKind.u64.wrap ((IntKind.u64.wrap ((IntKind.u64.wrap (a0 / 9223372036854775808)) + (IntKind.u64.wrap (a1 / 9223372036854775808)))) + t112))) + t114)), .int .u64 t113, .bool false]) ?_ 2 _ rfl; (with_reducible repeat (first | refine blk_drewN ?_ _ | refine blk_drew ?_ | refine blk_alloc ?_ _)); refine blk_put (cs := #[.int .u64 (IntKind.u64.wrap ((Go.bits .xor .u64 18446744073709551615 (IntKind.u64.wrap ((IntKind.u64.wrap ((IntKind.u64.wrap (a0 / 9223372036854775808)) + (IntKind.u64.wrap (a1 / 9223372036854775808)))) + t112))) + t114)), .int .u64 0, .bool false]) ?_ 1 _ rfl; (with_reducible repeat (first | refine blk_drewN ?_ _ | refine blk_drew ?_ | refine blk_alloc ?_ _)); refine blk_put (cs := #[.int .u64 0, .int .u64 0, .bool false]) ?_ 0 _ rfl; (with_reducible repeat (first | refine blk_drewN ?_ _ | refine blk_drew ?_ | refine blk_alloc ?_ _)); exact BK110.out) Try.underlying78 rfl q12) rfl ?_
  exact ⟨q9, q33⟩
 ·rw [if_neg c4] at H
  have c4b0 : decide ((wrap64 (IntKind.u64.wrap ((IntKind.u64.wrap ((IntKind.u64.wrap (a0 / 9223372036854775808)) + (IntKind.u64.wrap (a1 / 9223372036854775808)))) + t112))) < 0) = false := decide_eq_false c4
  clear c4
  simp only [Option.some.injEq, Prod.mk.injEq] at H
  obtain ⟨rfl, rfl, rfl⟩ := H
  go_enter Try.func44, Try.ntmps44
  go_wp2_with (first | ((with_reducible refine gate_dst (N := 4) rfl ?_); refine box_event ?hg (N := 4) ?hd (cs := #[.int .u64 0, .int .u64 0, .bool false]) (t := 78) ?hr ?_; (case hd => rfl); (case hg => rfl); (case hr => first | (go_simp; done) | (go_simp; rfl)); intro gb110 hg w8 hbox hb; have n0_ := Aside0.mk (below_step q0 hb); have n1_ := Aside0.mk (hbox); have n2_ := Aside0.mk ((by rw [hg]; exact (below_size q0) : w.heap.size ≤ gb110)); have n3_ := Aside0.mk ((by rw [hg]; exact (below_size q0) : w.heap.size ≤ gb110)); clear HB; have HB := n0_; have BK110 := n1_; have GW110 := n2_; have GE110 := n3_; clear n0_ n1_ n2_ n3_; clear hb hbox hg) | ((with_reducible refine gate_callee (f := 59) rfl ?_); refine goesX_ (some 13) rfl rfl #[.int .u64 (IntKind.u64.wrap (a0)), .int .u64 (IntKind.u64.wrap (a1)), .int .u64 0] rfl q3 ?_; (with_reducible refine (bits_Add64.calls (IntKind.u64.wrap (a0)) (IntKind.u64.wrap (a1)) 0 t111 t112 _ A3.out).mono ?_); rintro e w' ⟨rfl, ⟨nd, rfl⟩⟩; refine ⟨_, rfl, ?_⟩; (try (rw [drewN_self w8]; generalize hq_ : World.drewN w8 _ = w8; have n0_ : Aside0 (w8.heap[gb110]? = some (.cells #[.int .u64 0, .int .u64 0, .bool false] 78 (0, 0))) := ⟨(by rw [← hq_]; exact (by (with_reducible repeat (first | refine blk_drewN ?_ _ | refine blk_drew ?_ | refine blk_alloc ?_ _)); exact BK110.out))⟩; have n1_ : Aside0 (Below w.heap.size w w8) := ⟨(by rw [← hq_]; exact q33)⟩; clear BK110 HB hq_; have BK110 := n0_; have HB := n1_; clear n0_ n1_)); have hcz9_0 : w8.cell? ⟨gb110, 0, none⟩ = some (.int .u64 0) := (blk_cell BK110.out 0).trans rfl; have hfz9_0 := blk_frozen BK110.out 0; have hcz9_1 : w8.cell? ⟨gb110, 1, none⟩ = some (.int .u64 0) := (blk_cell BK110.out 1).trans rfl; have hfz9_1 := blk_frozen BK110.out 1; have hcz9_2 : w8.cell? ⟨gb110, 2, none⟩ = some (.bool false) := (blk_cell BK110.out 2).trans rfl; have hfz9_2 := blk_frozen BK110.out 2))
  refine bodyPost_ret (results_cell_row rfl _ _ gb110 78 #[.int .u64 (IntKind.u64.wrap ((IntKind.u64.wrap ((IntKind.u64.wrap (a0 / 9223372036854775808)) + (IntKind.u64.wrap (a1 / 9223372036854775808)))) + t112)), .int .u64 t111, .bool false] (0, 0) _ rfl (by (with_reducible repeat (first | refine blk_drewN ?_ _ | refine blk_drew ?_ | refine blk_alloc ?_ _)); refine blk_put (cs := #[.int .u64 (IntKind.u64.wrap ((IntKind.u64.wrap ((IntKind.u64.wrap (a0 / 9223372036854775808)) + (IntKind.u64.wrap (a1 / 9223372036854775808)))) + t112)), .int .u64 t111, .bool false]) ?_ 2 _ rfl; (with_reducible repeat (first | refine blk_drewN ?_ _ | refine blk_drew ?_ | refine blk_alloc ?_ _)); refine blk_put (cs := #[.int .u64 (IntKind.u64.wrap ((IntKind.u64.wrap ((IntKind.u64.wrap (a0 / 9223372036854775808)) + (IntKind.u64.wrap (a1 / 9223372036854775808)))) + t112)), .int .u64 0, .bool false]) ?_ 1 _ rfl; (with_reducible repeat (first | refine blk_drewN ?_ _ | refine blk_drew ?_ | refine blk_alloc ?_ _)); refine blk_put (cs := #[.int .u64 0, .int .u64 0, .bool false]) ?_ 0 _ rfl; (with_reducible repeat (first | refine blk_drewN ?_ _ | refine blk_drew ?_ | refine blk_alloc ?_ _)); exact BK110.out) Try.underlying78 rfl q12) rfl ?_
  exact ⟨q9, q33⟩
def fixed_Add.f (k : Nat) (a0 : Int) (a1 : Int) : Option (Int) := (fixed_sum.f a0 a1).bind fun bt115 => ((fixed_whole_span.f k bt115.1 bt115.2.1 bt115.2.2).bind fun t118 => (some t118))
theorem fixed_Add.calls (k : Nat) (a0 : Int) (a1 : Int) (r : Int) (w : World) (h : fixed_Add.f k a0 a1 = some r) :
  Calls Try.prog 27 #[.int .i64 a0, .int .i64 a1] w fun e w' => e = .returned (.int .i64 r) ∧ Below w.heap.size w w' := by
 have HB := Aside0.mk (Below.refl w.heap.size w)
 have H : ((fixed_sum.f a0 a1).bind fun bt115 => ((fixed_whole_span.f k bt115.1 bt115.2.1 bt115.2.2).bind fun t118 => (some t118))) = some r := h
 clear h
 replace H := Option.bind_eq_some_iff.mp H
 obtain ⟨⟨t115, t116, t117⟩, A30, H⟩ := H
 replace H : ((fixed_whole_span.f k t115 t116 t117).bind fun t118 => (some t118)) = some r := H
 have A3 := Aside0.mk A30
 clear A30
 replace H := Option.bind_eq_some_iff.mp H
 obtain ⟨t118, A40, H⟩ := H
 replace H : (some t118) = some r := H
 have A4 := Aside0.mk A40
 clear A40
 obtain rfl := Option.some.inj H
 go_enter Try.func27, Try.ntmps27
 go_wp2_with (first | ((with_reducible refine gate_callee (f := 44) rfl ?_); refine goesL_ (some 7) rfl rfl Try.func44 q12 rfl #[.int .i64 a0, .int .i64 a1] rfl q3 ?_; (with_reducible refine (fixed_sum.calls a0 a1 t115 t116 t117 _ A3.out).mono ?_); rintro e w5 ⟨rfl, hb⟩; refine ⟨_, rfl, ?_⟩; have n0_ := Aside0.mk (below_step q0 hb); clear HB; have HB := n0_; clear n0_; (try clear hb); (try clear hb2); (try clear hk); (try clear hi)) | ((with_reducible refine gate_callee (f := 43) rfl ?_); refine goesL_ (some 8) rfl rfl Try.func43 q12 rfl #[.agg #[.int .u64 t115, .int .u64 t116, .bool t117]] rfl q3 ?_; (with_reducible refine (fixed_whole_span.calls k t115 t116 t117 t118 _ A4.out).mono ?_); rintro e w6 ⟨rfl, hb⟩; refine ⟨_, rfl, ?_⟩; have n0_ := Aside0.mk (below_step q0 hb); clear HB; have HB := n0_; clear n0_; (try clear hb); (try clear hb2); (try clear hk); (try clear hi)))
 go_ret
 exact ⟨q9, q0⟩
def system_within.f (a0 : Int) (a1 : Int) : Option (Int) := some (mx (mn a0 a1) 0)
theorem system_within.calls (a0 : Int) (a1 : Int) (r : Int) (w : World) (h : system_within.f a0 a1 = some r) :
  Calls Try.prog 28 #[.int .i64 a0, .int .i64 a1] w fun e w' => e = .returned (.int .i64 r) ∧ Below w.heap.size w w' := by
 have HB := Aside0.mk (Below.refl w.heap.size w)
 have H : (some (mx (mn a0 a1) 0)) = some r := h
 clear h
 obtain ⟨ji3, hji3⟩ : ∃ j_ : Int, (mn a0 a1) = j_ := ⟨_, rfl⟩
 replace H : (some (mx (ji3) 0)) = some r := by first | (rw [hji3] at H; exact H) | (simp only [hji3] at H ⊢; exact H)
 have hji3_ : (if a1 < a0 then a1 else a0) = ji3 := hji3
 obtain ⟨ji4, hji4⟩ : ∃ j_ : Int, (mx (ji3) 0) = j_ := ⟨_, rfl⟩
 replace H : (some ji4) = some r := by first | (rw [hji4] at H; exact H) | (simp only [hji4] at H ⊢; exact H)
 have hji4_ : (if (ji3) < 0 then 0 else (ji3)) = ji4 := hji4
 obtain rfl := Option.some.inj H
 go_enter Try.func28, Try.ntmps28
 go_wp2
 go_ret
 exact ⟨(by first | rfl | (simp [errW_none, errW_some] <;> rfl) | (simp only [← hji3, ← hji4]; first | rfl | (simp [errW_none, errW_some] <;> rfl)) | (simp [*, errW_none, errW_some] <;> rfl)), q0⟩
def fixed_Clamp.f (k : Nat) (a0 : Int) (a1 : Int) : Option (Int) := if a1 < 0 then (some 0) else ((fixed_Add.f k (mx (mn a0 a1) (wrap64 (-a1))) 0).bind fun t119 => (some t119))
theorem fixed_Clamp.calls (k : Nat) (a0 : Int) (a1 : Int) (r : Int) (w : World) (h : fixed_Clamp.f k a0 a1 = some r) :
  Calls Try.prog 48 #[.int .i64 a0, .int .i64 a1] w fun e w' => e = .returned (.int .i64 r) ∧ Below w.heap.size w w' := by
 have HB := Aside0.mk (Below.refl w.heap.size w)
 have H : (if a1 < 0 then (some 0) else ((fixed_Add.f k (mx (mn a0 a1) (wrap64 (-a1))) 0).bind fun t119 => (some t119))) = some r := h
 clear h
 by_cases c3 : a1 < 0
 ·rw [if_pos c3] at H
  have c3b0 : decide (a1 < 0) = true := decide_eq_true c3
  clear c3
  obtain rfl := Option.some.inj H
  go_enter Try.func48, Try.ntmps48
  go_wp2
  go_ret
  exact ⟨q9, q0⟩
 ·rw [if_neg c3] at H
  have c3b0 : decide (a1 < 0) = false := decide_eq_false c3
  clear c3
  obtain ⟨ji4, hji4⟩ : ∃ j_ : Int, (mn a0 a1) = j_ := ⟨_, rfl⟩
  replace H : ((fixed_Add.f k (mx (ji4) (wrap64 (-a1))) 0).bind fun t119 => (some t119)) = some r := by first | (rw [hji4] at H; exact H) | (simp only [hji4] at H ⊢; exact H)
  have hji4_ : (if a1 < a0 then a1 else a0) = ji4 := hji4
  obtain ⟨ji5, hji5⟩ : ∃ j_ : Int, (mx (ji4) (wrap64 (-a1))) = j_ := ⟨_, rfl⟩
  replace H : ((fixed_Add.f k (ji5) 0).bind fun t119 => (some t119)) = some r := by first | (rw [hji5] at H; exact H) | (simp only [hji5] at H ⊢; exact H)
  have hji5_ : (if (ji4) < (wrap64 (-a1)) then (wrap64 (-a1)) else (ji4)) = ji5 := hji5
  replace H := Option.bind_eq_some_iff.mp H
  obtain ⟨t119, A60, H⟩ := H
  replace H : (some t119) = some r := H
  have A6 := Aside0.mk A60
  clear A60
  obtain rfl := Option.some.inj H
  go_enter Try.func48, Try.ntmps48
  go_wp2_with (first | ((with_reducible refine gate_callee (f := 27) rfl ?_); refine goesL_ (some 13) rfl rfl Try.func27 q12 rfl #[.int .i64 ji5, .int .i64 0] rfl (by (try simp only [List.map_toArray, List.map_cons, List.map_nil]); first | done | (simp only [hji5]; rfl) | rfl | (simp only [List.length_drop, List.length_take]; rfl)) ?_; (with_reducible refine (fixed_Add.calls k ji5 0 t119 _ A6.out).mono ?_); rintro e w7 ⟨rfl, hb⟩; refine ⟨_, rfl, ?_⟩; have n0_ := Aside0.mk (below_step q0 hb); clear HB; have HB := n0_; clear n0_; (try clear hb); (try clear hb2); (try clear hk); (try clear hi)))
  go_ret
  exact ⟨(by first | rfl | (simp [errW_none, errW_some] <;> rfl) | (simp only [← hji4, ← hji5]; first | rfl | (simp [errW_none, errW_some] <;> rfl)) | (simp [*, errW_none, errW_some] <;> rfl)), q0⟩
def stamp_Since.f (k : Nat) (a0 : Int) (a1 : Int) : Option (Int) := (fixed_Clamp.f k (wrap64 (IntKind.u64.wrap (a0 - a1))) 4611686018427387904).bind fun t120 => (some t120)
theorem stamp_Since.calls (k : Nat) (a0 : Int) (a1 : Int) (r : Int) (w : World) (h : stamp_Since.f k a0 a1 = some r) :
  Calls Try.prog 32 #[.int .u64 a0, .int .u64 a1] w fun e w' => e = .returned (.int .i64 r) ∧ Below w.heap.size w w' := by
 have HB := Aside0.mk (Below.refl w.heap.size w)
 have H : ((fixed_Clamp.f k (wrap64 (IntKind.u64.wrap (a0 - a1))) 4611686018427387904).bind fun t120 => (some t120)) = some r := h
 clear h
 replace H := Option.bind_eq_some_iff.mp H
 obtain ⟨t120, A30, H⟩ := H
 replace H : (some t120) = some r := H
 have A3 := Aside0.mk A30
 clear A30
 obtain rfl := Option.some.inj H
 go_enter Try.func32, Try.ntmps32
 go_wp2_with (first | ((with_reducible refine gate_callee (f := 48) rfl ?_); refine goesL_ (some 9) rfl rfl Try.func48 q12 rfl #[.int .i64 (wrap64 (IntKind.u64.wrap (a0 - a1))), .int .i64 4611686018427387904] rfl q3 ?_; (with_reducible refine (fixed_Clamp.calls k (wrap64 (IntKind.u64.wrap (a0 - a1))) 4611686018427387904 t120 _ A3.out).mono ?_); rintro e w4 ⟨rfl, hb⟩; refine ⟨_, rfl, ?_⟩; have n0_ := Aside0.mk (below_step q0 hb); clear HB; have HB := n0_; clear n0_; (try clear hb); (try clear hb2); (try clear hk); (try clear hi)))
 go_ret
 exact ⟨q9, q0⟩
def fixed_size.f (a0 : Int) : Option (Int × Bool) := if a0 < 0 then (some (IntKind.u64.wrap (-(IntKind.u64.wrap (a0))), true)) else (some (IntKind.u64.wrap (a0), false))
theorem fixed_size.calls (a0 : Int) (r1 : Int) (r2 : Bool) (w : World) (h : fixed_size.f a0 = some (r1, r2)) :
  Calls Try.prog 42 #[.int .i64 a0] w fun e w' => e = .returned (.tuple #[.int .u64 r1, .bool r2]) ∧ Drawn0 w w' := by
 have H : (if a0 < 0 then (some (IntKind.u64.wrap (-(IntKind.u64.wrap (a0))), true)) else (some (IntKind.u64.wrap (a0), false))) = some (r1, r2) := h
 clear h
 by_cases c2 : a0 < 0
 ·rw [if_pos c2] at H
  have c2b0 : decide (a0 < 0) = true := decide_eq_true c2
  clear c2
  simp only [Option.some.injEq, Prod.mk.injEq] at H
  obtain ⟨rfl, rfl⟩ := H
  go_enter Try.func42, Try.ntmps42
  go_wp2
  go_ret2
  exact ⟨q30, q20⟩
 ·rw [if_neg c2] at H
  have c2b0 : decide (a0 < 0) = false := decide_eq_false c2
  clear c2
  simp only [Option.some.injEq, Prod.mk.injEq] at H
  obtain ⟨rfl, rfl⟩ := H
  go_enter Try.func42, Try.ntmps42
  go_wp2
  go_ret2
  exact ⟨q30, q20⟩
def bits_Mul64.f (a0 : Int) (a1 : Int) : Option (Int × Int) := some (IntKind.u64.wrap ((IntKind.u64.wrap ((IntKind.u64.wrap ((a0 / 4294967296) * (a1 / 4294967296))) + ((IntKind.u64.wrap ((IntKind.u64.wrap ((a0 / 4294967296) * (Go.bits .and .u64 a1 4294967295))) + ((IntKind.u64.wrap ((Go.bits .and .u64 a0 4294967295) * (Go.bits .and .u64 a1 4294967295))) / 4294967296))) / 4294967296))) + ((IntKind.u64.wrap ((Go.bits .and .u64 (IntKind.u64.wrap ((IntKind.u64.wrap ((a0 / 4294967296) * (Go.bits .and .u64 a1 4294967295))) + ((IntKind.u64.wrap ((Go.bits .and .u64 a0 4294967295) * (Go.bits .and .u64 a1 4294967295))) / 4294967296))) 4294967295) + (IntKind.u64.wrap ((Go.bits .and .u64 a0 4294967295) * (a1 / 4294967296))))) / 4294967296)), IntKind.u64.wrap (a0 * a1))
theorem bits_Mul64.calls (a0 : Int) (a1 : Int) (r1 : Int) (r2 : Int) (w : World) (h : bits_Mul64.f a0 a1 = some (r1, r2)) :
  Calls Try.prog 64 #[.int .u64 a0, .int .u64 a1] w fun e w' => e = .returned (.tuple #[.int .u64 r1, .int .u64 r2]) ∧ Drawn0 w w' := by
 have H : (some (IntKind.u64.wrap ((IntKind.u64.wrap ((IntKind.u64.wrap ((a0 / 4294967296) * (a1 / 4294967296))) + ((IntKind.u64.wrap ((IntKind.u64.wrap ((a0 / 4294967296) * (Go.bits .and .u64 a1 4294967295))) + ((IntKind.u64.wrap ((Go.bits .and .u64 a0 4294967295) * (Go.bits .and .u64 a1 4294967295))) / 4294967296))) / 4294967296))) + ((IntKind.u64.wrap ((Go.bits .and .u64 (IntKind.u64.wrap ((IntKind.u64.wrap ((a0 / 4294967296) * (Go.bits .and .u64 a1 4294967295))) + ((IntKind.u64.wrap ((Go.bits .and .u64 a0 4294967295) * (Go.bits .and .u64 a1 4294967295))) / 4294967296))) 4294967295) + (IntKind.u64.wrap ((Go.bits .and .u64 a0 4294967295) * (a1 / 4294967296))))) / 4294967296)), IntKind.u64.wrap (a0 * a1))) = some (r1, r2) := h
 clear h
 simp only [Option.some.injEq, Prod.mk.injEq] at H
 obtain ⟨rfl, rfl⟩ := H
 go_enter Try.func64, Try.ntmps64
 go_wp2
 go_ret2
 exact ⟨q30, q20⟩
def fixed_product.f (a0 : Int) (a1 : Int) : Option (Int × Int × Bool) := (fixed_size.f a0).bind fun bt122 => ((fixed_size.f a1).bind fun bt124 => ((bits_Mul64.f bt122.1 bt124.1).bind fun bt126 => (some (bt126.1, bt126.2, (bt122.2 != bt124.2)))))
theorem fixed_product.calls (a0 : Int) (a1 : Int) (r1 : Int) (r2 : Int) (r3 : Bool) (w : World) (h : fixed_product.f a0 a1 = some (r1, r2, r3)) :
  Calls Try.prog 49 #[.int .i64 a0, .int .i64 a1] w fun e w' => e = .returned (.agg #[.int .u64 r1, .int .u64 r2, .bool r3]) ∧ Below w.heap.size w w' := by
 have hu78 := Try.underlying78
 have HB := Aside0.mk (Below.refl w.heap.size w)
 have H : ((fixed_size.f a0).bind fun bt122 => ((fixed_size.f a1).bind fun bt124 => ((bits_Mul64.f bt122.1 bt124.1).bind fun bt126 => (some (bt126.1, bt126.2, (bt122.2 != bt124.2)))))) = some (r1, r2, r3) := h
 clear h
 replace H := Option.bind_eq_some_iff.mp H
 obtain ⟨⟨t122, t123⟩, A30, H⟩ := H
 replace H : ((fixed_size.f a1).bind fun bt124 => ((bits_Mul64.f t122 bt124.1).bind fun bt126 => (some (bt126.1, bt126.2, (t123 != bt124.2))))) = some (r1, r2, r3) := H
 have A3 := Aside0.mk A30
 clear A30
 replace H := Option.bind_eq_some_iff.mp H
 obtain ⟨⟨t124, t125⟩, A40, H⟩ := H
 replace H : ((bits_Mul64.f t122 t124).bind fun bt126 => (some (bt126.1, bt126.2, (t123 != t125)))) = some (r1, r2, r3) := H
 have A4 := Aside0.mk A40
 clear A40
 replace H := Option.bind_eq_some_iff.mp H
 obtain ⟨⟨t126, t127⟩, A50, H⟩ := H
 replace H : (some (t126, t127, (t123 != t125))) = some (r1, r2, r3) := H
 have A5 := Aside0.mk A50
 clear A50
 simp only [Option.some.injEq, Prod.mk.injEq] at H
 obtain ⟨rfl, rfl, rfl⟩ := H
 go_enter Try.func49, Try.ntmps49
 go_wp2_with (first | ((with_reducible refine gate_dst (N := 4) rfl ?_); refine box_event ?hg (N := 4) ?hd (cs := #[.int .u64 0, .int .u64 0, .bool false]) (t := 78) ?hr ?_; (case hd => rfl); (case hg => rfl); (case hr => first | (go_simp; done) | (go_simp; rfl)); intro gb121 hg w6 hbox hb; have n0_ := Aside0.mk (below_step q0 hb); have n1_ := Aside0.mk (hbox); have n2_ := Aside0.mk ((by rw [hg]; exact (below_size q0) : w.heap.size ≤ gb121)); have n3_ := Aside0.mk ((by rw [hg]; exact (below_size q0) : w.heap.size ≤ gb121)); clear HB; have HB := n0_; have BK121 := n1_; have GW121 := n2_; have GE121 := n3_; clear n0_ n1_ n2_ n3_; clear hb hbox hg) | ((with_reducible refine gate_callee (f := 42) rfl ?_); refine goesL_ (some 13) rfl rfl Try.func42 q12 rfl #[.int .i64 a0] rfl q3 ?_; (with_reducible refine (fixed_size.calls a0 t122 t123 _ A3.out).mono ?_); rintro e w' ⟨rfl, ⟨nd, rfl⟩⟩; refine ⟨_, rfl, ?_⟩; (try (rw [drewN_self w6]; generalize hq_ : World.drewN w6 _ = w6; have n0_ : Aside0 (w6.heap[gb121]? = some (.cells #[.int .u64 0, .int .u64 0, .bool false] 78 (0, 0))) := ⟨(by rw [← hq_]; exact (by (with_reducible repeat (first | refine blk_drewN ?_ _ | refine blk_drew ?_ | refine blk_alloc ?_ _)); exact BK121.out))⟩; have n1_ : Aside0 (Below w.heap.size w w6) := ⟨(by rw [← hq_]; exact q44)⟩; clear BK121 HB hq_; have BK121 := n0_; have HB := n1_; clear n0_ n1_))) | ((with_reducible refine gate_callee (f := 42) rfl ?_); refine goesL_ (some 18) rfl rfl Try.func42 q12 rfl #[.int .i64 a1] rfl q3 ?_; (with_reducible refine (fixed_size.calls a1 t124 t125 _ A4.out).mono ?_); rintro e w' ⟨rfl, ⟨nd, rfl⟩⟩; refine ⟨_, rfl, ?_⟩; (try (rw [drewN_self w6]; generalize hq_ : World.drewN w6 _ = w6; have n0_ : Aside0 (w6.heap[gb121]? = some (.cells #[.int .u64 0, .int .u64 0, .bool false] 78 (0, 0))) := ⟨(by rw [← hq_]; exact (by (with_reducible repeat (first | refine blk_drewN ?_ _ | refine blk_drew ?_ | refine blk_alloc ?_ _)); exact BK121.out))⟩; have n1_ : Aside0 (Below w.heap.size w w6) := ⟨(by rw [← hq_]; exact q44)⟩; clear BK121 HB hq_; have BK121 := n0_; have HB := n1_; clear n0_ n1_))) | ((with_reducible refine gate_callee (f := 64) rfl ?_); refine goesL_ (some 24) rfl rfl Try.func64 q12 rfl #[.int .u64 t122, .int .u64 t124] rfl q3 ?_; (with_reducible refine (bits_Mul64.calls t122 t124 t126 t127 _ A5.out).mono ?_); rintro e w' ⟨rfl, ⟨nd, rfl⟩⟩; refine ⟨_, rfl, ?_⟩; (try (rw [drewN_self w6]; generalize hq_ : World.drewN w6 _ = w6; have n0_ : Aside0 (w6.heap[gb121]? = some (.cells #[.int .u64 0, .int .u64 0, .bool false] 78 (0, 0))) := ⟨(by rw [← hq_]; exact (by (with_reducible repeat (first | refine blk_drewN ?_ _ | refine blk_drew ?_ | refine blk_alloc ?_ _)); exact BK121.out))⟩; have n1_ : Aside0 (Below w.heap.size w w6) := ⟨(by rw [← hq_]; exact q44)⟩; clear BK121 HB hq_; have BK121 := n0_; have HB := n1_; clear n0_ n1_)); have hcz7_0 : w6.cell? ⟨gb121, 0, none⟩ = some (.int .u64 0) := (blk_cell BK121.out 0).trans rfl; have hfz7_0 := blk_frozen BK121.out 0; have hcz7_1 : w6.cell? ⟨gb121, 1, none⟩ = some (.int .u64 0) := (blk_cell BK121.out 1).trans rfl; have hfz7_1 := blk_frozen BK121.out 1; have hcz7_2 : w6.cell? ⟨gb121, 2, none⟩ = some (.bool false) := (blk_cell BK121.out 2).trans rfl; have hfz7_2 := blk_frozen BK121.out 2))
 refine bodyPost_ret (results_cell_row rfl _ _ gb121 78 #[.int .u64 t126, .int .u64 t127, .bool (t123 != t125)] (0, 0) _ rfl (by (with_reducible repeat (first | refine blk_drewN ?_ _ | refine blk_drew ?_ | refine blk_alloc ?_ _)); refine blk_put (cs := #[.int .u64 t126, .int .u64 t127, .bool false]) ?_ 2 _ rfl; (with_reducible repeat (first | refine blk_drewN ?_ _ | refine blk_drew ?_ | refine blk_alloc ?_ _)); refine blk_put (cs := #[.int .u64 t126, .int .u64 0, .bool false]) ?_ 1 _ rfl; (with_reducible repeat (first | refine blk_drewN ?_ _ | refine blk_drew ?_ | refine blk_alloc ?_ _)); refine blk_put (cs := #[.int .u64 0, .int .u64 0, .bool false]) ?_ 0 _ rfl; (with_reducible repeat (first | refine blk_drewN ?_ _ | refine blk_drew ?_ | refine blk_alloc ?_ _)); exact BK121.out) Try.underlying78 rfl q12) rfl ?_
 exact ⟨q9, q44⟩
end Go.Proofs.Ytbcdoncnhhjjeaa.PSystemLost
