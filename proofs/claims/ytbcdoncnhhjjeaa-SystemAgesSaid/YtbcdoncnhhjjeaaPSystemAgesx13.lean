-- Written by a program (extend_print.py). Not trusted: Lean checks it.
import Derived.Test.YtbcdoncnhhjjeaaPSystemAgesx0
import Derived.Test.YtbcdoncnhhjjeaaPSystemAgesx2
import Derived.Test.YtbcdoncnhhjjeaaPSystemAgesx4
import Derived.Test.YtbcdoncnhhjjeaaPSystemAgesx7
import Derived.Test.YtbcdoncnhhjjeaaPSystemAgesx8
import Derived.Test.YtbcdoncnhhjjeaaPSystemAgesx10
import Derived.Test.YtbcdoncnhhjjeaaPSystemAgesx11
import Derived.Test.YtbcdoncnhhjjeaaPSystemAgesx12
namespace Go.Proofs.Ytbcdoncnhhjjeaa.PSystemAges
open Go.RowKit Go.Proofs.YtbcdoncnhhjjeaaW.PrintWords Go.Proofs.YtbcdoncnhhjjeaaW.PrintLast Go.Proofs.YtbcdoncnhhjjeaaW.PrintMore
attribute [local go_sem] max2_int min2_int max_two min_two max_three min_three max_four min_four
set_option linter.unusedVariables false
set_option maxHeartbeats 8000000
set_option maxRecDepth 100000
set_option linter.unusedSimpArgs false
def fixed_Shift.f (k : Nat) (a0 : Int) (a1 : Int) : Option (Int) := if a1 < 0 then (if 0 ≤ (IntKind.u64.wrap (wrap64 (-(mx a1 (-63))))) then ((fixed_Add.f k (shr .i64 a0 (IntKind.u64.wrap (wrap64 (-(mx a1 (-63)))))) 0).bind fun t348 => (some t348)) else (none)) else (if a1 ≤ 62 then (if 0 ≤ (IntKind.u64.wrap (a1)) then ((fixed_product.f a0 (shl .i64 1 (IntKind.u64.wrap (a1)))).bind fun bt349 => ((fixed_whole_span.f k bt349.1 bt349.2.1 bt349.2.2).bind fun t352 => (some t352))) else (none)) else ((fixed_product.f a0 4611686018427387904).bind fun bt353 => ((fixed_whole_span.f k bt353.1 bt353.2.1 bt353.2.2).bind fun t356 => ((fixed_Clamp.f k t356 4611686018427387904).bind fun t357 => (some t357)))))
theorem fixed_Shift.calls (k : Nat) (a0 : Int) (a1 : Int) (r : Int) (w : World) (h : fixed_Shift.f k a0 a1 = some r) :
  Calls Try.prog 36 #[.int .i64 a0, .int .i64 a1] w fun e w' => e = .returned (.int .i64 r) ∧ Below w.heap.size w w' := by
 have HB := Aside0.mk (Below.refl w.heap.size w)
 have H : (if a1 < 0 then (if 0 ≤ (IntKind.u64.wrap (wrap64 (-(mx a1 (-63))))) then ((fixed_Add.f k (shr .i64 a0 (IntKind.u64.wrap (wrap64 (-(mx a1 (-63)))))) 0).bind fun t348 => (some t348)) else (none)) else (if a1 ≤ 62 then (if 0 ≤ (IntKind.u64.wrap (a1)) then ((fixed_product.f a0 (shl .i64 1 (IntKind.u64.wrap (a1)))).bind fun bt349 => ((fixed_whole_span.f k bt349.1 bt349.2.1 bt349.2.2).bind fun t352 => (some t352))) else (none)) else ((fixed_product.f a0 4611686018427387904).bind fun bt353 => ((fixed_whole_span.f k bt353.1 bt353.2.1 bt353.2.2).bind fun t356 => ((fixed_Clamp.f k t356 4611686018427387904).bind fun t357 => (some t357)))))) = some r := h
 clear h
 by_cases c3 : a1 < 0
 ·rw [if_pos c3] at H
  have c3b0 : decide (a1 < 0) = true := decide_eq_true c3
  clear c3
  obtain ⟨ji4, hji4⟩ : ∃ j_ : Int, (mx a1 (-63)) = j_ := ⟨_, rfl⟩
  replace H : (if 0 ≤ (IntKind.u64.wrap (wrap64 (-(ji4)))) then ((fixed_Add.f k (shr .i64 a0 (IntKind.u64.wrap (wrap64 (-(ji4))))) 0).bind fun t348 => (some t348)) else (none)) = some r := by first | (rw [hji4] at H; exact H) | (simp only [hji4] at H ⊢; exact H)
  have hji4_ : (if a1 < (-63) then (-63) else a1) = ji4 := hji4
  obtain ⟨ji5, hji5⟩ : ∃ j_ : Int, (IntKind.u64.wrap (wrap64 (-(ji4)))) = j_ := ⟨_, rfl⟩
  replace H : (if 0 ≤ (ji5) then ((fixed_Add.f k (shr .i64 a0 (ji5)) 0).bind fun t348 => (some t348)) else (none)) = some r := by first | (rw [hji5] at H; exact H) | (simp only [hji5] at H ⊢; exact H)
  by_cases c6 : 0 ≤ (ji5)
  ·rw [if_pos c6] at H
   have c6b0 := eq_true c6
   have c6b1 : decide (0 ≤ (ji5)) = true := decide_eq_true c6
   clear c6
   obtain ⟨ji7, hji7⟩ : ∃ j_ : Int, (shr .i64 a0 (ji5)) = j_ := ⟨_, rfl⟩
   replace H : ((fixed_Add.f k (ji7) 0).bind fun t348 => (some t348)) = some r := by first | (rw [hji7] at H; exact H) | (simp only [hji7] at H ⊢; exact H)
   have hji7_ : (a0 / 2 ^ min (ji5).toNat 64) = ji7 := hji7
   have hji7z : (ji5) ≤ 64 → (a0 / 2 ^ (ji5).toNat) = ji7 := shr_small hji7
   replace H := Option.bind_eq_some_iff.mp H
   obtain ⟨t348, A80, H⟩ := H
   replace H : (some t348) = some r := H
   have A8 := Aside0.mk A80
   clear A80
   obtain rfl := Option.some.inj H
   go_enter Try.func36, Try.ntmps36
   go_wp2_with (first | ((with_reducible refine gate_callee (f := 27) rfl ?_); refine goesL_ (some 14) rfl rfl Try.func27 (by kernel_rfl) rfl #[.int .i64 ji7, .int .i64 0] rfl (by (try simp only [List.map_toArray, List.map_cons, List.map_nil]); first | done | (simp only [hji7]; rfl) | rfl | (simp only [List.length_drop, List.length_take]; rfl)) ?_; (with_reducible refine (fixed_Add.calls k ji7 0 t348 _ A8.out).mono ?_); rintro e w9 ⟨rfl, hb⟩; refine ⟨_, rfl, ?_⟩; have n0_ := Aside0.mk (below_step (by repeat (first | (with_reducible first | exact HB.out | apply below_alloc | apply pw_below_drewN | apply below_drew1) | exact HB.out)) hb); clear HB; have HB := n0_; clear n0_; (try clear hb); (try clear hb2); (try clear hk); (try clear hi)))
   go_ret
   exact ⟨by first | rfl | (simp [errW_none, errW_some] <;> rfl) | (simp only [← hji4, ← hji5, ← hji7]; first | rfl | (simp [errW_none, errW_some] <;> rfl)) | (simp [*, errW_none, errW_some] <;> rfl), by repeat (first | (with_reducible first | exact HB.out | apply below_alloc | apply pw_below_drewN | apply below_drew1) | exact HB.out)⟩
  ·rw [if_neg c6] at H
   exact absurd H (by simp)
 ·rw [if_neg c3] at H
  have c3b0 : decide (a1 < 0) = false := decide_eq_false c3
  clear c3
  by_cases c10 : a1 ≤ 62
  ·rw [if_pos c10] at H
   have c10b0 : decide (a1 ≤ 62) = true := decide_eq_true c10
   clear c10
   obtain ⟨ji11, hji11⟩ : ∃ j_ : Int, (IntKind.u64.wrap (a1)) = j_ := ⟨_, rfl⟩
   replace H : (if 0 ≤ (ji11) then ((fixed_product.f a0 (shl .i64 1 (ji11))).bind fun bt349 => ((fixed_whole_span.f k bt349.1 bt349.2.1 bt349.2.2).bind fun t352 => (some t352))) else (none)) = some r := by first | (rw [hji11] at H; exact H) | (simp only [hji11] at H ⊢; exact H)
   by_cases c12 : 0 ≤ (ji11)
   ·rw [if_pos c12] at H
    have c12b0 := eq_true c12
    have c12b1 : decide (0 ≤ (ji11)) = true := decide_eq_true c12
    clear c12
    obtain ⟨ji13, hji13⟩ : ∃ j_ : Int, (shl .i64 1 (ji11)) = j_ := ⟨_, rfl⟩
    replace H : ((fixed_product.f a0 (ji13)).bind fun bt349 => ((fixed_whole_span.f k bt349.1 bt349.2.1 bt349.2.2).bind fun t352 => (some t352))) = some r := by first | (rw [hji13] at H; exact H) | (simp only [hji13] at H ⊢; exact H)
    have hji13_ : (IntKind.i64.wrap (1 * 2 ^ min (ji11).toNat 64)) = ji13 := hji13
    have hji13z : (ji11) ≤ 64 → (IntKind.i64.wrap (1 * 2 ^ (ji11).toNat)) = ji13 := shl_small hji13
    have hji13u : (IntKind.i64.wrap (2 ^ min (ji11).toNat 64)) = ji13 := by have h_ := hji13_; rw [Int.one_mul] at h_; exact h_
    have hji13v : (ji11) ≤ 64 → (IntKind.i64.wrap (2 ^ (ji11).toNat)) = ji13 := fun hle_ => by have h_ := hji13z hle_; rw [Int.one_mul] at h_; exact h_
    have hji13y : (wrap64 (1 * 2 ^ min (ji11).toNat 64)) = ji13 := (i64_w _).symm.trans hji13_
    have hji13x : (ji11) ≤ 64 → (wrap64 (1 * 2 ^ (ji11).toNat)) = ji13 := fun h_ => (i64_w _).symm.trans (hji13z h_)
    replace H := Option.bind_eq_some_iff.mp H
    obtain ⟨⟨t349, t350, t351⟩, A140, H⟩ := H
    replace H : ((fixed_whole_span.f k t349 t350 t351).bind fun t352 => (some t352)) = some r := H
    have A14 := Aside0.mk A140
    clear A140
    replace H := Option.bind_eq_some_iff.mp H
    obtain ⟨t352, A150, H⟩ := H
    replace H : (some t352) = some r := H
    have A15 := Aside0.mk A150
    clear A150
    obtain rfl := Option.some.inj H
    go_enter Try.func36, Try.ntmps36
    go_wp2_with (first | ((with_reducible refine gate_callee (f := 49) rfl ?_); refine goesL_ (some 22) rfl rfl Try.func49 (by kernel_rfl) rfl #[.int .i64 a0, .int .i64 ji13] rfl (by (try simp only [List.map_toArray, List.map_cons, List.map_nil]); first | done | (simp only [hji13]; rfl) | rfl | (simp only [List.length_drop, List.length_take]; rfl)) ?_; (with_reducible refine (fixed_product.calls a0 ji13 t349 t350 t351 _ A14.out).mono ?_); rintro e w16 ⟨rfl, hb⟩; refine ⟨_, rfl, ?_⟩; have n0_ := Aside0.mk (below_step (by repeat (first | (with_reducible first | exact HB.out | apply below_alloc | apply pw_below_drewN | apply below_drew1) | exact HB.out)) hb); clear HB; have HB := n0_; clear n0_; (try clear hb); (try clear hb2); (try clear hk); (try clear hi)) | ((with_reducible refine gate_callee (f := 43) rfl ?_); refine goesL_ (some 23) rfl rfl Try.func43 (by kernel_rfl) rfl #[.agg #[.int .u64 t349, .int .u64 t350, .bool t351]] rfl (by (try simp only [List.map_toArray, List.map_cons, List.map_nil]); first | done | rfl | (simp only [List.length_drop, List.length_take]; rfl)) ?_; (with_reducible refine (fixed_whole_span.calls k t349 t350 t351 t352 _ A15.out).mono ?_); rintro e w17 ⟨rfl, hb⟩; refine ⟨_, rfl, ?_⟩; have n0_ := Aside0.mk (below_step (by repeat (first | (with_reducible first | exact HB.out | apply below_alloc | apply pw_below_drewN | apply below_drew1) | exact HB.out)) hb); clear HB; have HB := n0_; clear n0_; (try clear hb); (try clear hb2); (try clear hk); (try clear hi)))
    go_ret
    exact ⟨by first | rfl | (simp [errW_none, errW_some] <;> rfl) | (simp only [← hji11, ← hji13]; first | rfl | (simp [errW_none, errW_some] <;> rfl)) | (simp [*, errW_none, errW_some] <;> rfl), by repeat (first | (with_reducible first | exact HB.out | apply below_alloc | apply pw_below_drewN | apply below_drew1) | exact HB.out)⟩
   ·rw [if_neg c12] at H
    exact absurd H (by simp)
  ·rw [if_neg c10] at H
   have c10b0 : decide (a1 ≤ 62) = false := decide_eq_false c10
   clear c10
   replace H := Option.bind_eq_some_iff.mp H
   obtain ⟨⟨t353, t354, t355⟩, A180, H⟩ := H
   replace H : ((fixed_whole_span.f k t353 t354 t355).bind fun t356 => ((fixed_Clamp.f k t356 4611686018427387904).bind fun t357 => (some t357))) = some r := H
   have A18 := Aside0.mk A180
   clear A180
   replace H := Option.bind_eq_some_iff.mp H
   obtain ⟨t356, A190, H⟩ := H
   replace H : ((fixed_Clamp.f k t356 4611686018427387904).bind fun t357 => (some t357)) = some r := H
   have A19 := Aside0.mk A190
   clear A190
   replace H := Option.bind_eq_some_iff.mp H
   obtain ⟨t357, A200, H⟩ := H
   replace H : (some t357) = some r := H
   have A20 := Aside0.mk A200
   clear A200
   obtain rfl := Option.some.inj H
   go_enter Try.func36, Try.ntmps36
   go_wp2_with (first | ((with_reducible refine gate_callee (f := 49) rfl ?_); refine goesL_ (some 25) rfl rfl Try.func49 (by kernel_rfl) rfl #[.int .i64 a0, .int .i64 4611686018427387904] rfl (by (try simp only [List.map_toArray, List.map_cons, List.map_nil]); first | done | rfl | (simp only [List.length_drop, List.length_take]; rfl)) ?_; (with_reducible refine (fixed_product.calls a0 4611686018427387904 t353 t354 t355 _ A18.out).mono ?_); rintro e w21 ⟨rfl, hb⟩; refine ⟨_, rfl, ?_⟩; have n0_ := Aside0.mk (below_step (by repeat (first | (with_reducible first | exact HB.out | apply below_alloc | apply pw_below_drewN | apply below_drew1) | exact HB.out)) hb); clear HB; have HB := n0_; clear n0_; (try clear hb); (try clear hb2); (try clear hk); (try clear hi)) | ((with_reducible refine gate_callee (f := 43) rfl ?_); refine goesL_ (some 26) rfl rfl Try.func43 (by kernel_rfl) rfl #[.agg #[.int .u64 t353, .int .u64 t354, .bool t355]] rfl (by (try simp only [List.map_toArray, List.map_cons, List.map_nil]); first | done | rfl | (simp only [List.length_drop, List.length_take]; rfl)) ?_; (with_reducible refine (fixed_whole_span.calls k t353 t354 t355 t356 _ A19.out).mono ?_); rintro e w22 ⟨rfl, hb⟩; refine ⟨_, rfl, ?_⟩; have n0_ := Aside0.mk (below_step (by repeat (first | (with_reducible first | exact HB.out | apply below_alloc | apply pw_below_drewN | apply below_drew1) | exact HB.out)) hb); clear HB; have HB := n0_; clear n0_; (try clear hb); (try clear hb2); (try clear hk); (try clear hi)) | ((with_reducible refine gate_callee (f := 48) rfl ?_); refine goesL_ (some 27) rfl rfl Try.func48 (by kernel_rfl) rfl #[.int .i64 t356, .int .i64 4611686018427387904] rfl (by (try simp only [List.map_toArray, List.map_cons, List.map_nil]); first | done | rfl | (simp only [List.length_drop, List.length_take]; rfl)) ?_; (with_reducible refine (fixed_Clamp.calls k t356 4611686018427387904 t357 _ A20.out).mono ?_); rintro e w23 ⟨rfl, hb⟩; refine ⟨_, rfl, ?_⟩; have n0_ := Aside0.mk (below_step (by repeat (first | (with_reducible first | exact HB.out | apply below_alloc | apply pw_below_drewN | apply below_drew1) | exact HB.out)) hb); clear HB; have HB := n0_; clear n0_; (try clear hb); (try clear hb2); (try clear hk); (try clear hi)))
   go_ret
   exact ⟨by first | rfl | (simp [errW_none, errW_some] <;> rfl) | (simp [*, errW_none, errW_some] <;> rfl), by repeat (first | (with_reducible first | exact HB.out | apply below_alloc | apply pw_below_drewN | apply below_drew1) | exact HB.out)⟩
def system_Distance.f (k : Nat) (a0_0 : Int) (a0_1 : Int) (a0_2 : Int) (a0_3 : Int) (a0_4 : Int) (a0_5 : Int) (a0_6 : Int) (a0_7 : Int) (a0_8 : Int) (a0_9 : Int) (a0_10 : Int) (a1 : Int) : Option (Int) := (fixed_Shift.f k a0_3 (-1)).bind fun t359 => ((system_Age.f k a0_0 a0_1 a0_2 a0_3 a0_4 a0_5 a0_6 a0_7 a0_8 a0_9 a0_10 a1).bind fun bt360 => ((fixed_Add.f k t359 bt360.2.2.2.2.1).bind fun t371 => (some t371)))
def system_Distance.T1 : Bool × List (List Nat × List Nat) := (true, [([], []), ([0], [0]), ([1], [1]), ([], []), ([], []), ([3, 4, 2], [3, 4]), ([5], [5]), ([2, 6, 5], [2, 6]), ([7, 7, 0, 1, 2, 3, 4, 5, 6, 7], [7])])
def system_Distance.B1 : List Nat := [0, 1, 3, 0, 0, 31, 63, 127, 255]
theorem system_Distance.tab1 : rtab .any (opsOf Try.f18 1) = system_Distance.T1 := by kernel_rfl
theorem system_Distance.bits1 : waitsOk system_Distance.T1.2 system_Distance.B1 = true := by kernel_rfl
theorem system_Distance.calls (k : Nat) (a0_0 : Int) (a0_1 : Int) (a0_2 : Int) (a0_3 : Int) (a0_4 : Int) (a0_5 : Int) (a0_6 : Int) (a0_7 : Int) (a0_8 : Int) (a0_9 : Int) (a0_10 : Int) (a1 : Int) (r : Int) (w : World) (h : system_Distance.f k a0_0 a0_1 a0_2 a0_3 a0_4 a0_5 a0_6 a0_7 a0_8 a0_9 a0_10 a1 = some r) :
  Calls Try.prog 18 #[.agg #[.int .i64 a0_0, .int .i64 a0_1, .int .i64 a0_2, .int .i64 a0_3, .int .i64 a0_4, .int .u32 a0_5, .int .u64 a0_6, .int .i64 a0_7, .int .i64 a0_8, .int .i64 a0_9, .int .i64 a0_10], .int .u64 a1] w fun e w' => e = .returned (.int .i64 r) ∧ Below w.heap.size w w' := by
 have hu28 := Try.underlying28
 have hfd28_4 : ∀ (w_ : World) (x0_ x1_ x2_ x3_ x4_ x5_ x6_ x7_ x8_ x9_ x10_ : Value), (Instr.field 28 (.agg #[x0_, x1_, x2_, x3_, x4_, x5_, x6_, x7_, x8_, x9_, x10_]) 4).run Try.prog w_ = .ok (x4_) w_ := fun _ _ _ _ _ _ _ _ _ _ _ _ => by kernel_rfl
 have HB := Aside0.mk (Below.refl w.heap.size w)
 have H : ((fixed_Shift.f k a0_3 (-1)).bind fun t359 => ((system_Age.f k a0_0 a0_1 a0_2 a0_3 a0_4 a0_5 a0_6 a0_7 a0_8 a0_9 a0_10 a1).bind fun bt360 => ((fixed_Add.f k t359 bt360.2.2.2.2.1).bind fun t371 => (some t371)))) = some r := h
 clear h
 replace H := Option.bind_eq_some_iff.mp H
 obtain ⟨t359, A30, H⟩ := H
 replace H : ((system_Age.f k a0_0 a0_1 a0_2 a0_3 a0_4 a0_5 a0_6 a0_7 a0_8 a0_9 a0_10 a1).bind fun bt360 => ((fixed_Add.f k t359 bt360.2.2.2.2.1).bind fun t371 => (some t371))) = some r := H
 have A3 := Aside0.mk A30
 clear A30
 replace H := Option.bind_eq_some_iff.mp H
 obtain ⟨⟨t360, t361, t362, t363, t364, t365, t366, t367, t368, t369, t370⟩, A40, H⟩ := H
 replace H : ((fixed_Add.f k t359 t364).bind fun t371 => (some t371)) = some r := H
 have A4 := Aside0.mk A40
 clear A40
 replace H := Option.bind_eq_some_iff.mp H
 obtain ⟨t371, A50, H⟩ := H
 replace H : (some t371) = some r := H
 have A5 := Aside0.mk A50
 clear A50
 obtain rfl := Option.some.inj H
 go_enter Try.func18, Try.ntmps18
 try go_wp2_with (first | ((with_reducible refine gate_dst (N := 2) rfl ?_); refine box_event ?hg (N := 2) ?hd (cs := #[.int .i64 a0_0, .int .i64 a0_1, .int .i64 a0_2, .int .i64 a0_3, .int .i64 a0_4, .int .u32 a0_5, .int .u64 a0_6, .int .i64 a0_7, .int .i64 a0_8, .int .i64 a0_9, .int .i64 a0_10]) (t := 28) ?hr ?_; (case hd => rfl); (case hg => rfl); (case hr => first | (go_simp; done) | (go_simp; rfl)); intro gb358 hg w6 hbox hb; have n0_ := Aside0.mk (below_step (by repeat (first | (with_reducible first | exact HB.out | apply below_alloc | apply pw_below_drewN | apply below_drew1) | exact HB.out)) hb); have n1_ := Aside0.mk (hbox); have n2_ := Aside0.mk ((by rw [hg]; exact (below_size (by repeat (first | (with_reducible first | exact HB.out | apply below_alloc | apply pw_below_drewN | apply below_drew1) | exact HB.out))) : w.heap.size ≤ gb358)); have n3_ := Aside0.mk ((by rw [hg]; exact (below_size (by repeat (first | (with_reducible first | exact HB.out | apply below_alloc | apply pw_below_drewN | apply below_drew1) | exact HB.out))) : w.heap.size ≤ gb358)); clear HB; have HB := n0_; have BK358 := n1_; have GW358 := n2_; have GE358 := n3_; clear n0_ n1_ n2_ n3_; clear hb hbox hg))
 have n0_ := Aside0.mk (blk_drew BK358.out)
 have n1_ := Aside0.mk (below_drew1 HB.out)
 clear BK358
 clear HB
 have BK358 := n0_
 have HB := n1_
 clear n0_ n1_
 refine start_ (n := 9) (S := fun w' => w'.cell? ⟨gb358, 0, none⟩ = some (.int .i64 a0_0) ∧ w'.cell? ⟨gb358, 1, none⟩ = some (.int .i64 a0_1) ∧ w'.cell? ⟨gb358, 2, none⟩ = some (.int .i64 a0_2) ∧ w'.cell? ⟨gb358, 3, none⟩ = some (.int .i64 a0_3) ∧ w'.cell? ⟨gb358, 4, none⟩ = some (.int .i64 a0_4) ∧ w'.cell? ⟨gb358, 5, none⟩ = some (.int .u32 a0_5) ∧ w'.cell? ⟨gb358, 6, none⟩ = some (.int .u64 a0_6) ∧ w'.cell? ⟨gb358, 7, none⟩ = some (.int .i64 a0_7) ∧ w'.cell? ⟨gb358, 8, none⟩ = some (.int .i64 a0_8) ∧ w'.cell? ⟨gb358, 9, none⟩ = some (.int .i64 a0_9) ∧ w'.cell? ⟨gb358, 10, none⟩ = some (.int .i64 a0_10)) (ds := []) #[false, false, false, false, false, false, false, false, false] (by kernel_rfl) rfl rfl ⟨(blk_cell BK358.out 0).trans rfl, (blk_cell BK358.out 1).trans rfl, (blk_cell BK358.out 2).trans rfl, (blk_cell BK358.out 3).trans rfl, (blk_cell BK358.out 4).trans rfl, (blk_cell BK358.out 5).trans rfl, (blk_cell BK358.out 6).trans rfl, (blk_cell BK358.out 7).trans rfl, (blk_cell BK358.out 8).trans rfl, (blk_cell BK358.out 9).trans rfl, (blk_cell BK358.out 10).trans rfl⟩ (fun hHeld => ?_); refine with_tabW system_Distance.tab1 system_Distance.bits1 (fun HT_ HW_ => ?_)
 generalize w6.drew = w7 at BK358 HB hHeld ⊢
 refine pure_ (i := 0) (N := some 5) (v := ?_) (a' := ?_) #[true, false, false, false, false, false, false, false, false] rfl rfl (any_of HT_.out (by kernel_rfl)) (fun _ _ _ h => h) (Or.inl ⟨by rfl, ?_⟩) ?_ ?_
 rotate_left
 ·intro w'
  go_simp
  with_reducible rfl
 rotate_left
 ·simp only [Act.put, List.setIfInBounds_toArray, List.set_cons_zero, List.set_cons_succ, i64_w, i32_w]
  rfl
 refine pure_ (i := 4) (N := some 9) (v := ?_) (a' := ?_) #[true, false, false, false, true, false, false, false, false] rfl rfl (any_of HT_.out (by kernel_rfl)) (fun _ _ _ h => h) (Or.inl ⟨by rfl, ?_⟩) ?_ ?_
 rotate_left
 ·intro w'
  go_simp
  with_reducible rfl
 rotate_left
 ·simp only [Act.put, List.setIfInBounds_toArray, List.set_cons_zero, List.set_cons_succ, i64_w, i32_w]
  rfl
 refine take_ (i := 1) (N := some 6) (v := ?_) (a' := ?_) #[true, true, false, false, true, false, false, false, false] rfl rfl (take_ofW HT_.out HW_.out (by kernel_rfl)) (fun _ _ _ h => h) (Or.inl ⟨by rfl, ?_⟩) hHeld ?_ ?_
 rotate_left
 ·rintro w' ⟨s0, s1, s2, s3, s4, s5, s6, s7, s8, s9, s10⟩
  go_simp
  with_reducible rfl
 rotate_left
 ·simp only [Act.put, List.setIfInBounds_toArray, List.set_cons_zero, List.set_cons_succ, i64_w, i32_w]
  rfl
 refine take_ (i := 3) (N := some 8) (v := ?_) (a' := ?_) #[true, true, false, true, true, false, false, false, false] rfl rfl (take_ofW HT_.out HW_.out (by kernel_rfl)) (fun _ _ _ h => h) (Or.inl ⟨by rfl, ?_⟩) hHeld ?_ ?_
 rotate_left
 ·rintro w' ⟨s0, s1, s2, s3, s4, s5, s6, s7, s8, s9, s10⟩
  go_simp
  with_reducible rfl
 rotate_left
 ·simp only [Act.put, List.setIfInBounds_toArray, List.set_cons_zero, List.set_cons_succ, i64_w, i32_w]
  rfl
 refine one_ (i := 2) (N := some 7) #[true, true, true, true, true, false, false, false, false] rfl rfl (one_of HT_.out (by kernel_rfl)) (by decide) (fun K hK => ?_)
 refine goes_ Try.func36 (by kernel_rfl) rfl #[.int .i64 a0_3, .int .i64 (-1)] (by rfl) rfl rfl (by (try simp only [List.map_toArray, List.map_cons, List.map_nil]); first | done | rfl | (simp only [List.length_drop, List.length_take]; rfl)) ?_
 with_reducible refine (fixed_Shift.calls k a0_3 (-1) t359 _ A3.out).mono ?_
 rintro e w8 ⟨rfl, hb⟩
 refine ⟨_, rfl, ?_⟩
 have n0_ := Aside0.mk (blk_below (g := gb358) (o := .cells #[.int .i64 a0_0, .int .i64 a0_1, .int .i64 a0_2, .int .i64 a0_3, .int .i64 a0_4, .int .u32 a0_5, .int .u64 a0_6, .int .i64 a0_7, .int .i64 a0_8, .int .i64 a0_9, .int .i64 a0_10] 28 (0, 0)) (by (with_reducible repeat (first | refine blk_drewN ?_ _ | refine blk_drew ?_ | refine blk_alloc ?_ _)); exact BK358.out) hb)
 have n1_ := Aside0.mk (below_step (by repeat (first | (with_reducible first | exact HB.out | apply below_alloc | apply pw_below_drewN | apply below_drew1 | refine below_set ?_ GE358.out) | exact HB.out)) hb)
 clear BK358
 clear HB
 have BK358 := n0_
 have HB := n1_
 clear n0_ n1_
 (try clear hb)
 (try clear hb2)
 (try clear hk)
 (try clear hi)
 refine hK.out _ _ ⟨(blk_cell BK358.out 0).trans rfl, (blk_cell BK358.out 1).trans rfl, (blk_cell BK358.out 2).trans rfl, (blk_cell BK358.out 3).trans rfl, (blk_cell BK358.out 4).trans rfl, (blk_cell BK358.out 5).trans rfl, (blk_cell BK358.out 6).trans rfl, (blk_cell BK358.out 7).trans rfl, (blk_cell BK358.out 8).trans rfl, (blk_cell BK358.out 9).trans rfl, (blk_cell BK358.out 10).trans rfl⟩ (fun hHeld => ?_)
 clear hK K
 refine norm_ (a' := ?_) ?_ ?_
 rotate_left
 ·show Act.put _ (some 7) _ = _
  simp only [Act.put, List.setIfInBounds_toArray, List.set_cons_zero, List.set_cons_succ, i64_w, i32_w]
  rfl
 refine one_ (i := 5) (N := some 10) #[true, true, true, true, true, true, false, false, false] rfl rfl (one_of HT_.out (by kernel_rfl)) (by decide) (fun K hK => ?_)
 refine goes_ Try.func16 (by kernel_rfl) rfl #[.agg #[.int .i64 a0_0, .int .i64 a0_1, .int .i64 a0_2, .int .i64 a0_3, .int .i64 a0_4, .int .u32 a0_5, .int .u64 a0_6, .int .i64 a0_7, .int .i64 a0_8, .int .i64 a0_9, .int .i64 a0_10], .int .u64 a1] (by rfl) rfl rfl (by (try simp only [List.map_toArray, List.map_cons, List.map_nil]); first | done | rfl | (simp only [List.length_drop, List.length_take]; rfl)) ?_
 with_reducible refine (system_Age.calls k a0_0 a0_1 a0_2 a0_3 a0_4 a0_5 a0_6 a0_7 a0_8 a0_9 a0_10 a1 t360 t361 t362 t363 t364 t365 t366 t367 t368 t369 t370 _ A4.out).mono ?_
 rintro e w9 ⟨rfl, hb⟩
 refine ⟨_, rfl, ?_⟩
 have n0_ := Aside0.mk (blk_below (g := gb358) (o := .cells #[.int .i64 a0_0, .int .i64 a0_1, .int .i64 a0_2, .int .i64 a0_3, .int .i64 a0_4, .int .u32 a0_5, .int .u64 a0_6, .int .i64 a0_7, .int .i64 a0_8, .int .i64 a0_9, .int .i64 a0_10] 28 (0, 0)) (by (with_reducible repeat (first | refine blk_drewN ?_ _ | refine blk_drew ?_ | refine blk_alloc ?_ _)); exact BK358.out) hb)
 have n1_ := Aside0.mk (below_step (by repeat (first | (with_reducible first | exact HB.out | apply below_alloc | apply pw_below_drewN | apply below_drew1 | refine below_set ?_ GE358.out) | exact HB.out)) hb)
 clear BK358
 clear HB
 have BK358 := n0_
 have HB := n1_
 clear n0_ n1_
 (try clear hb)
 (try clear hb2)
 (try clear hk)
 (try clear hi)
 refine hK.out _ _ ⟨(blk_cell BK358.out 0).trans rfl, (blk_cell BK358.out 1).trans rfl, (blk_cell BK358.out 2).trans rfl, (blk_cell BK358.out 3).trans rfl, (blk_cell BK358.out 4).trans rfl, (blk_cell BK358.out 5).trans rfl, (blk_cell BK358.out 6).trans rfl, (blk_cell BK358.out 7).trans rfl, (blk_cell BK358.out 8).trans rfl, (blk_cell BK358.out 9).trans rfl, (blk_cell BK358.out 10).trans rfl⟩ (fun hHeld => ?_)
 clear hK K
 refine norm_ (a' := ?_) ?_ ?_
 rotate_left
 ·show Act.put _ (some 10) _ = _
  simp only [Act.put, List.setIfInBounds_toArray, List.set_cons_zero, List.set_cons_succ, i64_w, i32_w]
  rfl
 refine pure_ (i := 6) (N := some 11) (v := ?_) (a' := ?_) #[true, true, true, true, true, true, true, false, false] rfl rfl (any_of HT_.out (by kernel_rfl)) (fun _ _ _ h => h) (Or.inl ⟨by rfl, ?_⟩) ?_ ?_
 rotate_left
 ·intro w'
  go_simp
  with_reducible rfl
 rotate_left
 ·simp only [Act.put, List.setIfInBounds_toArray, List.set_cons_zero, List.set_cons_succ, i64_w, i32_w]
  rfl
 refine one_ (i := 7) (N := some 12) #[true, true, true, true, true, true, true, true, false] rfl rfl (one_of HT_.out (by kernel_rfl)) (by decide) (fun K hK => ?_)
 refine goes_ Try.func27 (by kernel_rfl) rfl #[.int .i64 t359, .int .i64 t364] (by rfl) rfl rfl (by (try simp only [List.map_toArray, List.map_cons, List.map_nil]); first | done | rfl | (simp only [List.length_drop, List.length_take]; rfl)) ?_
 with_reducible refine (fixed_Add.calls k t359 t364 t371 _ A5.out).mono ?_
 rintro e w10 ⟨rfl, hb⟩
 refine ⟨_, rfl, ?_⟩
 have n0_ := Aside0.mk (blk_below (g := gb358) (o := .cells #[.int .i64 a0_0, .int .i64 a0_1, .int .i64 a0_2, .int .i64 a0_3, .int .i64 a0_4, .int .u32 a0_5, .int .u64 a0_6, .int .i64 a0_7, .int .i64 a0_8, .int .i64 a0_9, .int .i64 a0_10] 28 (0, 0)) (by (with_reducible repeat (first | refine blk_drewN ?_ _ | refine blk_drew ?_ | refine blk_alloc ?_ _)); exact BK358.out) hb)
 have n1_ := Aside0.mk (below_step (by repeat (first | (with_reducible first | exact HB.out | apply below_alloc | apply pw_below_drewN | apply below_drew1 | refine below_set ?_ GE358.out) | exact HB.out)) hb)
 clear BK358
 clear HB
 have BK358 := n0_
 have HB := n1_
 clear n0_ n1_
 (try clear hb)
 (try clear hb2)
 (try clear hk)
 (try clear hi)
 refine hK.out _ _ ⟨(blk_cell BK358.out 0).trans rfl, (blk_cell BK358.out 1).trans rfl, (blk_cell BK358.out 2).trans rfl, (blk_cell BK358.out 3).trans rfl, (blk_cell BK358.out 4).trans rfl, (blk_cell BK358.out 5).trans rfl, (blk_cell BK358.out 6).trans rfl, (blk_cell BK358.out 7).trans rfl, (blk_cell BK358.out 8).trans rfl, (blk_cell BK358.out 9).trans rfl, (blk_cell BK358.out 10).trans rfl⟩ (fun hHeld => ?_)
 clear hK K
 refine norm_ (a' := ?_) ?_ ?_
 rotate_left
 ·show Act.put _ (some 12) _ = _
  simp only [Act.put, List.setIfInBounds_toArray, List.set_cons_zero, List.set_cons_succ, i64_w, i32_w]
  rfl
 refine pure_ (i := 8) (N := some 4) (v := ?_) (a' := ?_) #[true, true, true, true, true, true, true, true, true] rfl rfl (any_of HT_.out (by kernel_rfl)) (fun _ _ _ h => h) (Or.inl ⟨by rfl, ?_⟩) ?_ ?_
 rotate_left
 ·intro w'
  go_simp
  with_reducible rfl
 rotate_left
 ·simp only [Act.put, List.setIfInBounds_toArray, List.set_cons_zero, List.set_cons_succ, i64_w, i32_w]
  rfl
 refine done_ (done_of HT_.out (by kernel_rfl)) ?_
 try go_wp2
 go_ret
 exact ⟨by first | rfl | (simp [errW_none, errW_some] <;> rfl) | (simp [*, errW_none, errW_some] <;> rfl), by repeat (first | (with_reducible first | exact HB.out | apply below_alloc | apply pw_below_drewN | apply below_drew1 | refine below_set ?_ GE358.out) | exact HB.out)⟩
def foliotref01_Shift.j0 : Nat → Int → Int → Option (Int)
 | 0, _, _ => none
 | k + 1, x0, x1 => (foliotref01_s.f k x0).bind fun bt385 => ((foliotref01_two.f k (wrap64 (-x1))).bind fun bt389 => ((foliotref01_down.f k bt385.1 bt385.2 bt389.1 bt389.2).bind fun bt393 => ((foliotref01_span.f k bt393.1 bt393.2).bind fun t397 => (some t397))))
def foliotref01_Shift.f (k : Nat) (a0 : Int) (a1 : Int) : Option (Int) := if a1 ≥ 0 then ((foliotref01_s.f k a0).bind fun bt372 => ((foliotref01_two.f k (mn a1 200)).bind fun bt376 => ((foliotref01_product.f k bt372.1 bt372.2 bt376.1 bt376.2).bind fun bt380 => ((foliotref01_span.f k bt380.1 bt380.2).bind fun t384 => (some t384))))) else (if a1 < (-200) then (foliotref01_Shift.j0 k a0 (-200)) else (foliotref01_Shift.j0 k a0 a1))
theorem foliotref01_Shift.calls (k : Nat) (a0 : Int) (a1 : Int) (r : Int) (w : World) (h : foliotref01_Shift.f k a0 a1 = some r) :
  Calls Try.prog 37 #[.int .i64 a0, .int .i64 a1] w fun e w' => e = .returned (.int .i64 r) ∧ Below w.heap.size w w' := by
 have HB := Aside0.mk (Below.refl w.heap.size w)
 have H : (if a1 ≥ 0 then ((foliotref01_s.f k a0).bind fun bt372 => ((foliotref01_two.f k (mn a1 200)).bind fun bt376 => ((foliotref01_product.f k bt372.1 bt372.2 bt376.1 bt376.2).bind fun bt380 => ((foliotref01_span.f k bt380.1 bt380.2).bind fun t384 => (some t384))))) else (if a1 < (-200) then (foliotref01_Shift.j0 k a0 (-200)) else (foliotref01_Shift.j0 k a0 a1))) = some r := h
 clear h
 by_cases c3 : a1 ≥ 0
 ·rw [if_pos c3] at H
  have c3b0 : decide (0 ≤ a1) = true := decide_eq_true c3
  clear c3
  replace H := Option.bind_eq_some_iff.mp H
  obtain ⟨⟨t372, t375⟩, A40, H⟩ := H
  replace H : ((foliotref01_two.f k (mn a1 200)).bind fun bt376 => ((foliotref01_product.f k t372 t375 bt376.1 bt376.2).bind fun bt380 => ((foliotref01_span.f k bt380.1 bt380.2).bind fun t384 => (some t384)))) = some r := H
  have A4 := Aside0.mk A40
  clear A40
  obtain ⟨ji5, hji5⟩ : ∃ j_ : Int, (mn a1 200) = j_ := ⟨_, rfl⟩
  replace H : ((foliotref01_two.f k (ji5)).bind fun bt376 => ((foliotref01_product.f k t372 t375 bt376.1 bt376.2).bind fun bt380 => ((foliotref01_span.f k bt380.1 bt380.2).bind fun t384 => (some t384)))) = some r := by first | (rw [hji5] at H; exact H) | (simp only [hji5] at H ⊢; exact H)
  (try rw [hji5] at A4)
  (try (have hji5h : ji5 ≤ 200 := by (rw [← hji5]; unfold mn; (repeat' split) <;> omega)))
  (try (have hji5g : ji5 ≤ 64 := by omega))
  have hji5_ : (if 200 < a1 then 200 else a1) = ji5 := hji5
  replace H := Option.bind_eq_some_iff.mp H
  obtain ⟨⟨t376, t379⟩, A60, H⟩ := H
  replace H : ((foliotref01_product.f k t372 t375 t376 t379).bind fun bt380 => ((foliotref01_span.f k bt380.1 bt380.2).bind fun t384 => (some t384))) = some r := H
  have A6 := Aside0.mk A60
  clear A60
  replace H := Option.bind_eq_some_iff.mp H
  obtain ⟨⟨t380, t383⟩, A70, H⟩ := H
  replace H : ((foliotref01_span.f k t380 t383).bind fun t384 => (some t384)) = some r := H
  have A7 := Aside0.mk A70
  clear A70
  replace H := Option.bind_eq_some_iff.mp H
  obtain ⟨t384, A80, H⟩ := H
  replace H : (some t384) = some r := H
  have A8 := Aside0.mk A80
  clear A80
  obtain rfl := Option.some.inj H
  go_enter Try.func37, Try.ntmps37
  go_wp2_with (first | ((with_reducible refine gate_callee (f := 47) rfl ?_); refine goesL_ (some 8) rfl rfl Try.func47 (by kernel_rfl) rfl #[.int .i64 a0] rfl (by (try simp only [List.map_toArray, List.map_cons, List.map_nil]); first | done | rfl | (simp only [List.length_drop, List.length_take]; rfl)) ?_; (with_reducible refine (foliotref01_s.calls k a0 t372 t375 _ A4.out).mono ?_); rintro e w9 ⟨v373, rfl, ho0, hb⟩; refine ⟨_, rfl, ?_⟩; have n0_ := Aside0.mk (Kd.R_lower ho0 (below_size (by repeat (first | (with_reducible first | exact HB.out | apply below_alloc | apply pw_below_drewN | apply below_drew1) | exact HB.out)))); have n1_ := Aside0.mk (below_step (by repeat (first | (with_reducible first | exact HB.out | apply below_alloc | apply pw_below_drewN | apply below_drew1) | exact HB.out)) hb); clear HB; have HO374 := n0_; have HB := n1_; clear n0_ n1_; (try clear hb); (try clear hb2); (try clear hk); (try clear hi); (try clear ho0)) | ((with_reducible refine gate_callee (f := 55) rfl ?_); refine goesL_ (some 11) rfl rfl Try.func55 (by kernel_rfl) rfl #[.int .i64 ji5] rfl (by (try simp only [List.map_toArray, List.map_cons, List.map_nil]); first | done | (simp only [hji5]; rfl) | rfl | (simp only [List.length_drop, List.length_take]; rfl)) ?_; (with_reducible refine (foliotref01_two.calls k ji5 t376 t379 _ A6.out).mono ?_); rintro e w10 ⟨v377, rfl, ho0, hb⟩; refine ⟨_, rfl, ?_⟩; have n0_ := Aside0.mk (Kd.R_elder' (by (with_reducible repeat (first | apply Kd.R_alloc | apply Kd.R_drewN | apply Kd.R_drew)); exact HO374.out) (Kd.R_base ho0) hb); have n1_ := Aside0.mk (Kd.R_lower (Kd.R_new' ho0 (Kd.R_lt (by (with_reducible repeat (first | apply Kd.R_alloc | apply Kd.R_drewN | apply Kd.R_drew)); exact HO374.out))) (below_size (by repeat (first | (with_reducible first | exact HB.out | apply below_alloc | apply pw_below_drewN | apply below_drew1) | exact HB.out)))); have n2_ := Aside0.mk (below_step (by repeat (first | (with_reducible first | exact HB.out | apply below_alloc | apply pw_below_drewN | apply below_drew1) | exact HB.out)) hb); clear HO374; clear HB; have HO374 := n0_; have HO378 := n1_; have HB := n2_; clear n0_ n1_ n2_; (try clear hb); (try clear hb2); (try clear hk); (try clear hi); (try clear ho0); obtain ⟨Ao11, co11, eo11⟩ := Kd.R_slice HO374.out; subst eo11; obtain ⟨Ao12, co12, eo12⟩ := Kd.R_slice HO378.out; subst eo12) | ((with_reducible refine gate_callee (f := 53) rfl ?_); refine goesL_ (some 12) rfl rfl Try.func53 (by kernel_rfl) rfl #[.agg #[.slice Ao11 t372.length co11, .bool t375], .agg #[.slice Ao12 t376.length co12, .bool t379]] rfl (by (try simp only [List.map_toArray, List.map_cons, List.map_nil]); first | done | rfl | (simp only [List.length_drop, List.length_take]; rfl)) ?_; (with_reducible refine (foliotref01_product.calls k _ _ t372 t375 _ _ t376 t379 t380 t383 _ ?side1 ?side2 ?side3 ?side4 A7.out).mono ?_); (case side1 => repeat (first | exact (Kd.R_reads' HO374.out).2.2 | (with_reducible refine Kd.C_alloc ?_ _) | (with_reducible refine Kd.C_drewN ?_ _) | (with_reducible refine Kd.C_drew ?_))); (case side2 => exact (Kd.R_reads' HO374.out).2.1); (case side3 => repeat (first | exact (Kd.R_reads' HO378.out).2.2 | (with_reducible refine Kd.C_alloc ?_ _) | (with_reducible refine Kd.C_drewN ?_ _) | (with_reducible refine Kd.C_drew ?_))); (case side4 => exact (Kd.R_reads' HO378.out).2.1); rintro e w13 ⟨v381, rfl, ho0, hb⟩; refine ⟨_, rfl, ?_⟩; have n0_ := Aside0.mk (Kd.R_elder' (by (with_reducible repeat (first | apply Kd.R_alloc | apply Kd.R_drewN | apply Kd.R_drew)); exact HO374.out) (Kd.R_base ho0) hb); have n1_ := Aside0.mk (Kd.R_elder' (by (with_reducible repeat (first | apply Kd.R_alloc | apply Kd.R_drewN | apply Kd.R_drew)); exact HO378.out) (Kd.R_base ho0) hb); have n2_ := Aside0.mk (Kd.R_lower (Kd.R_new' (Kd.R_new' ho0 (Kd.R_lt (by (with_reducible repeat (first | apply Kd.R_alloc | apply Kd.R_drewN | apply Kd.R_drew)); exact HO374.out))) (Kd.R_lt (by (with_reducible repeat (first | apply Kd.R_alloc | apply Kd.R_drewN | apply Kd.R_drew)); exact HO378.out))) (below_size (by repeat (first | (with_reducible first | exact HB.out | apply below_alloc | apply pw_below_drewN | apply below_drew1) | exact HB.out)))); have n3_ := Aside0.mk (below_step (by repeat (first | (with_reducible first | exact HB.out | apply below_alloc | apply pw_below_drewN | apply below_drew1) | exact HB.out)) hb); clear HO374; clear HO378; clear HB; have HO374 := n0_; have HO378 := n1_; have HO382 := n2_; have HB := n3_; clear n0_ n1_ n2_ n3_; (try clear hb); (try clear hb2); (try clear hk); (try clear hi); (try clear ho0); obtain ⟨Ao14, co14, eo14⟩ := Kd.R_slice HO382.out; subst eo14) | ((with_reducible refine gate_callee (f := 45) rfl ?_); refine goesL_ (some 13) rfl rfl Try.func45 (by kernel_rfl) rfl #[.agg #[.slice Ao14 t380.length co14, .bool t383]] rfl (by (try simp only [List.map_toArray, List.map_cons, List.map_nil]); first | done | rfl | (simp only [List.length_drop, List.length_take]; rfl)) ?_; (with_reducible refine (foliotref01_span.calls k _ _ t380 t383 t384 _ ?side1 ?side2 A8.out).mono ?_); (case side1 => repeat (first | exact (Kd.R_reads' HO382.out).2.2 | (with_reducible refine Kd.C_alloc ?_ _) | (with_reducible refine Kd.C_drewN ?_ _) | (with_reducible refine Kd.C_drew ?_))); (case side2 => exact (Kd.R_reads' HO382.out).2.1); rintro e w15 ⟨rfl, hb⟩; refine ⟨_, rfl, ?_⟩; have n0_ := Aside0.mk (Kd.R_below (by (with_reducible repeat (first | apply Kd.R_alloc | apply Kd.R_drewN | apply Kd.R_drew)); exact HO374.out) hb); have n1_ := Aside0.mk (Kd.R_below (by (with_reducible repeat (first | apply Kd.R_alloc | apply Kd.R_drewN | apply Kd.R_drew)); exact HO378.out) hb); have n2_ := Aside0.mk (Kd.R_below (by (with_reducible repeat (first | apply Kd.R_alloc | apply Kd.R_drewN | apply Kd.R_drew)); exact HO382.out) hb); have n3_ := Aside0.mk (below_step (by repeat (first | (with_reducible first | exact HB.out | apply below_alloc | apply pw_below_drewN | apply below_drew1) | exact HB.out)) hb); clear HO374; clear HO378; clear HO382; clear HB; have HO374 := n0_; have HO378 := n1_; have HO382 := n2_; have HB := n3_; clear n0_ n1_ n2_ n3_; (try clear hb); (try clear hb2); (try clear hk); (try clear hi)))
  go_ret
  exact ⟨by first | rfl | (simp [errW_none, errW_some] <;> rfl) | (simp only [← hji5]; first | rfl | (simp [errW_none, errW_some] <;> rfl)) | (simp [*, errW_none, errW_some] <;> rfl), by repeat (first | (with_reducible first | exact HB.out | apply below_alloc | apply pw_below_drewN | apply below_drew1) | exact HB.out)⟩
 ·rw [if_neg c3] at H
  have c3b0 : decide (0 ≤ a1) = false := decide_eq_false c3
  clear c3
  have HC16 := Aside0.mk H
  clear H
  go_enter Try.func37, Try.ntmps37
  go_upto_if 15 with (fail)
  go_cut [1] (fun v1 wc => ∃ (kq : Nat) (x1_15 : Int), v1 = .int .i64 x1_15 ∧ Aside0 (foliotref01_Shift.j0 kq a0 x1_15 = some r) ∧ Aside0 (kq ≤ k) ∧ Aside0 (Below w.heap.size w wc))
  case first =>
   have H := HC16.out
   clear HC16
   by_cases c17 : a1 < (-200)
   ·rw [if_pos c17] at H
    have c17b0 : decide (a1 < (-200)) = true := decide_eq_true c17
    clear c17
    (first | rw [c17b0] | (simp only [i64_w, i32_w]; rw [c17b0]) | skip)
    have H' := Aside0.mk H
    clear H
    go_wp2
    go_meet
    case rel => first | (exact ⟨_, ((-200)), (by first | rfl | (simp; done) | (simp [*]; done)), H', ⟨by first | omega | exact Nat.le_refl _⟩, ⟨by repeat (first | (with_reducible first | exact HB.out | apply below_alloc | apply pw_below_drewN | apply below_drew1) | exact HB.out)⟩⟩) | ((try rw [c17b0] at H'); (try rw [c17b0]); exact ⟨_, ((-200)), (by first | rfl | (simp; done) | (simp [*]; done)), H', ⟨by first | omega | exact Nat.le_refl _⟩, ⟨by repeat (first | (with_reducible first | exact HB.out | apply below_alloc | apply pw_below_drewN | apply below_drew1) | exact HB.out)⟩⟩)
   ·rw [if_neg c17] at H
    have c17b0 : decide (a1 < (-200)) = false := decide_eq_false c17
    clear c17
    (first | rw [c17b0] | (simp only [i64_w, i32_w]; rw [c17b0]) | skip)
    have H' := Aside0.mk H
    clear H
    go_wp2
    go_meet
    case rel => first | (exact ⟨_, (a1), (by first | rfl | (simp; done) | (simp [*]; done)), H', ⟨by first | omega | exact Nat.le_refl _⟩, ⟨by repeat (first | (with_reducible first | exact HB.out | apply below_alloc | apply pw_below_drewN | apply below_drew1) | exact HB.out)⟩⟩) | ((try rw [c17b0] at H'); (try rw [c17b0]); exact ⟨_, (a1), (by first | rfl | (simp; done) | (simp [*]; done)), H', ⟨by first | omega | exact Nat.le_refl _⟩, ⟨by repeat (first | (with_reducible first | exact HB.out | apply below_alloc | apply pw_below_drewN | apply below_drew1) | exact HB.out)⟩⟩)
  case rest =>
   clear HC16
   try clear c1
   try clear p2
   try clear c3
   try clear c3b0
   try clear c4
   try clear c5
   try clear c17
   try clear c17b0
   obtain ⟨kq, x1_15, rfl, HA, HJ15, HB⟩ := hcut
   cases kq with
   | zero => exact absurd HA.out (by simp [foliotref01_Shift.j0])
   | succ kj15 =>
    have H := HA.out
    clear HA
    simp only [foliotref01_Shift.j0] at H
    replace H := Option.bind_eq_some_iff.mp H
    obtain ⟨⟨t385, t388⟩, A180, H⟩ := H
    replace H : ((foliotref01_two.f kj15 (wrap64 (-x1_15))).bind fun bt389 => ((foliotref01_down.f kj15 t385 t388 bt389.1 bt389.2).bind fun bt393 => ((foliotref01_span.f kj15 bt393.1 bt393.2).bind fun t397 => (some t397)))) = some r := H
    have A18 := Aside0.mk A180
    clear A180
    replace H := Option.bind_eq_some_iff.mp H
    obtain ⟨⟨t389, t392⟩, A190, H⟩ := H
    replace H : ((foliotref01_down.f kj15 t385 t388 t389 t392).bind fun bt393 => ((foliotref01_span.f kj15 bt393.1 bt393.2).bind fun t397 => (some t397))) = some r := H
    have A19 := Aside0.mk A190
    clear A190
    replace H := Option.bind_eq_some_iff.mp H
    obtain ⟨⟨t393, t396⟩, A200, H⟩ := H
    replace H : ((foliotref01_span.f kj15 t393 t396).bind fun t397 => (some t397)) = some r := H
    have A20 := Aside0.mk A200
    clear A200
    replace H := Option.bind_eq_some_iff.mp H
    obtain ⟨t397, A210, H⟩ := H
    replace H : (some t397) = some r := H
    have A21 := Aside0.mk A210
    clear A210
    obtain rfl := Option.some.inj H
    go_wp2_with (first | ((with_reducible refine gate_callee (f := 47) rfl ?_); refine goesL_ (some 17) rfl rfl Try.func47 (by kernel_rfl) rfl #[.int .i64 a0] rfl (by (try simp only [List.map_toArray, List.map_cons, List.map_nil]); first | done | rfl | (simp only [List.length_drop, List.length_take]; rfl)) ?_; (with_reducible refine (foliotref01_s.calls kj15 a0 t385 t388 _ A18.out).mono ?_); rintro e w22 ⟨v386, rfl, ho0, hb⟩; refine ⟨_, rfl, ?_⟩; have n0_ := Aside0.mk (Kd.R_lower ho0 (below_size (by repeat (first | (with_reducible first | exact HB.out | apply below_alloc | apply pw_below_drewN | apply below_drew1) | exact HB.out)))); have n1_ := Aside0.mk (below_step (by repeat (first | (with_reducible first | exact HB.out | apply below_alloc | apply pw_below_drewN | apply below_drew1) | exact HB.out)) hb); clear HB; have HO387 := n0_; have HB := n1_; clear n0_ n1_; (try clear hb); (try clear hb2); (try clear hk); (try clear hi); (try clear ho0)) | ((with_reducible refine gate_callee (f := 55) rfl ?_); refine goesL_ (some 20) rfl rfl Try.func55 (by kernel_rfl) rfl #[.int .i64 (wrap64 (-x1_15))] rfl (by (try simp only [List.map_toArray, List.map_cons, List.map_nil]); first | done | rfl | (simp only [List.length_drop, List.length_take]; rfl)) ?_; (with_reducible refine (foliotref01_two.calls kj15 (wrap64 (-x1_15)) t389 t392 _ A19.out).mono ?_); rintro e w23 ⟨v390, rfl, ho0, hb⟩; refine ⟨_, rfl, ?_⟩; have n0_ := Aside0.mk (Kd.R_elder' (by (with_reducible repeat (first | apply Kd.R_alloc | apply Kd.R_drewN | apply Kd.R_drew)); exact HO387.out) (Kd.R_base ho0) hb); have n1_ := Aside0.mk (Kd.R_lower (Kd.R_new' ho0 (Kd.R_lt (by (with_reducible repeat (first | apply Kd.R_alloc | apply Kd.R_drewN | apply Kd.R_drew)); exact HO387.out))) (below_size (by repeat (first | (with_reducible first | exact HB.out | apply below_alloc | apply pw_below_drewN | apply below_drew1) | exact HB.out)))); have n2_ := Aside0.mk (below_step (by repeat (first | (with_reducible first | exact HB.out | apply below_alloc | apply pw_below_drewN | apply below_drew1) | exact HB.out)) hb); clear HO387; clear HB; have HO387 := n0_; have HO391 := n1_; have HB := n2_; clear n0_ n1_ n2_; (try clear hb); (try clear hb2); (try clear hk); (try clear hi); (try clear ho0); obtain ⟨Ao24, co24, eo24⟩ := Kd.R_slice HO387.out; subst eo24; obtain ⟨Ao25, co25, eo25⟩ := Kd.R_slice HO391.out; subst eo25) | ((with_reducible refine gate_callee (f := 52) rfl ?_); refine goesL_ (some 21) rfl rfl Try.func52 (by kernel_rfl) rfl #[.agg #[.slice Ao24 t385.length co24, .bool t388], .agg #[.slice Ao25 t389.length co25, .bool t392]] rfl (by (try simp only [List.map_toArray, List.map_cons, List.map_nil]); first | done | rfl | (simp only [List.length_drop, List.length_take]; rfl)) ?_; (with_reducible refine (foliotref01_down.calls kj15 _ _ t385 t388 _ _ t389 t392 t393 t396 _ ?side1 ?side2 ?side3 ?side4 A20.out).mono ?_); (case side1 => repeat (first | exact (Kd.R_reads' HO387.out).2.2 | (with_reducible refine Kd.C_alloc ?_ _) | (with_reducible refine Kd.C_drewN ?_ _) | (with_reducible refine Kd.C_drew ?_))); (case side2 => exact (Kd.R_reads' HO387.out).2.1); (case side3 => repeat (first | exact (Kd.R_reads' HO391.out).2.2 | (with_reducible refine Kd.C_alloc ?_ _) | (with_reducible refine Kd.C_drewN ?_ _) | (with_reducible refine Kd.C_drew ?_))); (case side4 => exact (Kd.R_reads' HO391.out).2.1); rintro e w26 ⟨v394, rfl, ho0, hb⟩; refine ⟨_, rfl, ?_⟩; have n0_ := Aside0.mk (Kd.R_elder' (by (with_reducible repeat (first | apply Kd.R_alloc | apply Kd.R_drewN | apply Kd.R_drew)); exact HO387.out) (Kd.R_base ho0) hb); have n1_ := Aside0.mk (Kd.R_elder' (by (with_reducible repeat (first | apply Kd.R_alloc | apply Kd.R_drewN | apply Kd.R_drew)); exact HO391.out) (Kd.R_base ho0) hb); have n2_ := Aside0.mk (Kd.R_lower (Kd.R_new' (Kd.R_new' ho0 (Kd.R_lt (by (with_reducible repeat (first | apply Kd.R_alloc | apply Kd.R_drewN | apply Kd.R_drew)); exact HO387.out))) (Kd.R_lt (by (with_reducible repeat (first | apply Kd.R_alloc | apply Kd.R_drewN | apply Kd.R_drew)); exact HO391.out))) (below_size (by repeat (first | (with_reducible first | exact HB.out | apply below_alloc | apply pw_below_drewN | apply below_drew1) | exact HB.out)))); have n3_ := Aside0.mk (below_step (by repeat (first | (with_reducible first | exact HB.out | apply below_alloc | apply pw_below_drewN | apply below_drew1) | exact HB.out)) hb); clear HO387; clear HO391; clear HB; have HO387 := n0_; have HO391 := n1_; have HO395 := n2_; have HB := n3_; clear n0_ n1_ n2_ n3_; (try clear hb); (try clear hb2); (try clear hk); (try clear hi); (try clear ho0); obtain ⟨Ao27, co27, eo27⟩ := Kd.R_slice HO395.out; subst eo27) | ((with_reducible refine gate_callee (f := 45) rfl ?_); refine goesL_ (some 22) rfl rfl Try.func45 (by kernel_rfl) rfl #[.agg #[.slice Ao27 t393.length co27, .bool t396]] rfl (by (try simp only [List.map_toArray, List.map_cons, List.map_nil]); first | done | rfl | (simp only [List.length_drop, List.length_take]; rfl)) ?_; (with_reducible refine (foliotref01_span.calls kj15 _ _ t393 t396 t397 _ ?side1 ?side2 A21.out).mono ?_); (case side1 => repeat (first | exact (Kd.R_reads' HO395.out).2.2 | (with_reducible refine Kd.C_alloc ?_ _) | (with_reducible refine Kd.C_drewN ?_ _) | (with_reducible refine Kd.C_drew ?_))); (case side2 => exact (Kd.R_reads' HO395.out).2.1); rintro e w28 ⟨rfl, hb⟩; refine ⟨_, rfl, ?_⟩; have n0_ := Aside0.mk (Kd.R_below (by (with_reducible repeat (first | apply Kd.R_alloc | apply Kd.R_drewN | apply Kd.R_drew)); exact HO387.out) hb); have n1_ := Aside0.mk (Kd.R_below (by (with_reducible repeat (first | apply Kd.R_alloc | apply Kd.R_drewN | apply Kd.R_drew)); exact HO391.out) hb); have n2_ := Aside0.mk (Kd.R_below (by (with_reducible repeat (first | apply Kd.R_alloc | apply Kd.R_drewN | apply Kd.R_drew)); exact HO395.out) hb); have n3_ := Aside0.mk (below_step (by repeat (first | (with_reducible first | exact HB.out | apply below_alloc | apply pw_below_drewN | apply below_drew1) | exact HB.out)) hb); clear HO387; clear HO391; clear HO395; clear HB; have HO387 := n0_; have HO391 := n1_; have HO395 := n2_; have HB := n3_; clear n0_ n1_ n2_ n3_; (try clear hb); (try clear hb2); (try clear hk); (try clear hi)))
    go_ret
    exact ⟨by first | rfl | (simp [errW_none, errW_some] <;> rfl) | (simp [*, errW_none, errW_some] <;> rfl), by repeat (first | (with_reducible first | exact HB.out | apply below_alloc | apply pw_below_drewN | apply below_drew1) | exact HB.out)⟩
def foliotref17_Distance.f (k : Nat) (a0_0 : Int) (a0_1 : Int) (a0_2 : Int) (a0_3 : Int) (a0_4 : Int) (a0_5 : Int) (a0_6 : Int) (a0_7 : Int) (a0_8 : Int) (a0_9 : Int) (a0_10 : Int) (a1 : Int) : Option (Int) := (foliotref01_Shift.f k a0_3 (-1)).bind fun t399 => ((foliotref17_Age.f k a0_0 a0_1 a0_2 a0_3 a0_4 a0_5 a0_6 a0_7 a0_8 a0_9 a0_10 a1).bind fun bt400 => ((foliotref01_Add.f k t399 bt400.2.2.2.2.1).bind fun t411 => (some t411)))
def foliotref17_Distance.T1 : Bool × List (List Nat × List Nat) := (true, [([], []), ([0], [0]), ([1], [1]), ([], []), ([], []), ([3, 4, 2], [3, 4]), ([5], [5]), ([2, 6, 5], [2, 6]), ([7, 7, 0, 1, 2, 3, 4, 5, 6, 7], [7])])
def foliotref17_Distance.B1 : List Nat := [0, 1, 3, 0, 0, 31, 63, 127, 255]
theorem foliotref17_Distance.tab1 : rtab .any (opsOf Try.f19 1) = foliotref17_Distance.T1 := by kernel_rfl
theorem foliotref17_Distance.bits1 : waitsOk foliotref17_Distance.T1.2 foliotref17_Distance.B1 = true := by kernel_rfl
theorem foliotref17_Distance.calls (k : Nat) (a0_0 : Int) (a0_1 : Int) (a0_2 : Int) (a0_3 : Int) (a0_4 : Int) (a0_5 : Int) (a0_6 : Int) (a0_7 : Int) (a0_8 : Int) (a0_9 : Int) (a0_10 : Int) (a1 : Int) (r : Int) (w : World) (h : foliotref17_Distance.f k a0_0 a0_1 a0_2 a0_3 a0_4 a0_5 a0_6 a0_7 a0_8 a0_9 a0_10 a1 = some r) :
  Calls Try.prog 19 #[.agg #[.int .i64 a0_0, .int .i64 a0_1, .int .i64 a0_2, .int .i64 a0_3, .int .i64 a0_4, .int .u32 a0_5, .int .u64 a0_6, .int .i64 a0_7, .int .i64 a0_8, .int .i64 a0_9, .int .i64 a0_10], .int .u64 a1] w fun e w' => e = .returned (.int .i64 r) ∧ Below w.heap.size w w' := by
 have hu28 := Try.underlying28
 have hfd28_4 : ∀ (w_ : World) (x0_ x1_ x2_ x3_ x4_ x5_ x6_ x7_ x8_ x9_ x10_ : Value), (Instr.field 28 (.agg #[x0_, x1_, x2_, x3_, x4_, x5_, x6_, x7_, x8_, x9_, x10_]) 4).run Try.prog w_ = .ok (x4_) w_ := fun _ _ _ _ _ _ _ _ _ _ _ _ => by kernel_rfl
 have HB := Aside0.mk (Below.refl w.heap.size w)
 have H : ((foliotref01_Shift.f k a0_3 (-1)).bind fun t399 => ((foliotref17_Age.f k a0_0 a0_1 a0_2 a0_3 a0_4 a0_5 a0_6 a0_7 a0_8 a0_9 a0_10 a1).bind fun bt400 => ((foliotref01_Add.f k t399 bt400.2.2.2.2.1).bind fun t411 => (some t411)))) = some r := h
 clear h
 replace H := Option.bind_eq_some_iff.mp H
 obtain ⟨t399, A30, H⟩ := H
 replace H : ((foliotref17_Age.f k a0_0 a0_1 a0_2 a0_3 a0_4 a0_5 a0_6 a0_7 a0_8 a0_9 a0_10 a1).bind fun bt400 => ((foliotref01_Add.f k t399 bt400.2.2.2.2.1).bind fun t411 => (some t411))) = some r := H
 have A3 := Aside0.mk A30
 clear A30
 replace H := Option.bind_eq_some_iff.mp H
 obtain ⟨⟨t400, t401, t402, t403, t404, t405, t406, t407, t408, t409, t410⟩, A40, H⟩ := H
 replace H : ((foliotref01_Add.f k t399 t404).bind fun t411 => (some t411)) = some r := H
 have A4 := Aside0.mk A40
 clear A40
 replace H := Option.bind_eq_some_iff.mp H
 obtain ⟨t411, A50, H⟩ := H
 replace H : (some t411) = some r := H
 have A5 := Aside0.mk A50
 clear A50
 obtain rfl := Option.some.inj H
 go_enter Try.func19, Try.ntmps19
 try go_wp2_with (first | ((with_reducible refine gate_dst (N := 2) rfl ?_); refine box_event ?hg (N := 2) ?hd (cs := #[.int .i64 a0_0, .int .i64 a0_1, .int .i64 a0_2, .int .i64 a0_3, .int .i64 a0_4, .int .u32 a0_5, .int .u64 a0_6, .int .i64 a0_7, .int .i64 a0_8, .int .i64 a0_9, .int .i64 a0_10]) (t := 28) ?hr ?_; (case hd => rfl); (case hg => rfl); (case hr => first | (go_simp; done) | (go_simp; rfl)); intro gb398 hg w6 hbox hb; have n0_ := Aside0.mk (below_step (by repeat (first | (with_reducible first | exact HB.out | apply below_alloc | apply pw_below_drewN | apply below_drew1) | exact HB.out)) hb); have n1_ := Aside0.mk (hbox); have n2_ := Aside0.mk ((by rw [hg]; exact (below_size (by repeat (first | (with_reducible first | exact HB.out | apply below_alloc | apply pw_below_drewN | apply below_drew1) | exact HB.out))) : w.heap.size ≤ gb398)); have n3_ := Aside0.mk ((by rw [hg]; exact (below_size (by repeat (first | (with_reducible first | exact HB.out | apply below_alloc | apply pw_below_drewN | apply below_drew1) | exact HB.out))) : w.heap.size ≤ gb398)); clear HB; have HB := n0_; have BK398 := n1_; have GW398 := n2_; have GE398 := n3_; clear n0_ n1_ n2_ n3_; clear hb hbox hg))
 have n0_ := Aside0.mk (blk_drew BK398.out)
 have n1_ := Aside0.mk (below_drew1 HB.out)
 clear BK398
 clear HB
 have BK398 := n0_
 have HB := n1_
 clear n0_ n1_
 refine start_ (n := 9) (S := fun w' => w'.cell? ⟨gb398, 0, none⟩ = some (.int .i64 a0_0) ∧ w'.cell? ⟨gb398, 1, none⟩ = some (.int .i64 a0_1) ∧ w'.cell? ⟨gb398, 2, none⟩ = some (.int .i64 a0_2) ∧ w'.cell? ⟨gb398, 3, none⟩ = some (.int .i64 a0_3) ∧ w'.cell? ⟨gb398, 4, none⟩ = some (.int .i64 a0_4) ∧ w'.cell? ⟨gb398, 5, none⟩ = some (.int .u32 a0_5) ∧ w'.cell? ⟨gb398, 6, none⟩ = some (.int .u64 a0_6) ∧ w'.cell? ⟨gb398, 7, none⟩ = some (.int .i64 a0_7) ∧ w'.cell? ⟨gb398, 8, none⟩ = some (.int .i64 a0_8) ∧ w'.cell? ⟨gb398, 9, none⟩ = some (.int .i64 a0_9) ∧ w'.cell? ⟨gb398, 10, none⟩ = some (.int .i64 a0_10)) (ds := []) #[false, false, false, false, false, false, false, false, false] (by kernel_rfl) rfl rfl ⟨(blk_cell BK398.out 0).trans rfl, (blk_cell BK398.out 1).trans rfl, (blk_cell BK398.out 2).trans rfl, (blk_cell BK398.out 3).trans rfl, (blk_cell BK398.out 4).trans rfl, (blk_cell BK398.out 5).trans rfl, (blk_cell BK398.out 6).trans rfl, (blk_cell BK398.out 7).trans rfl, (blk_cell BK398.out 8).trans rfl, (blk_cell BK398.out 9).trans rfl, (blk_cell BK398.out 10).trans rfl⟩ (fun hHeld => ?_); refine with_tabW foliotref17_Distance.tab1 foliotref17_Distance.bits1 (fun HT_ HW_ => ?_)
 generalize w6.drew = w7 at BK398 HB hHeld ⊢
 refine pure_ (i := 0) (N := some 5) (v := ?_) (a' := ?_) #[true, false, false, false, false, false, false, false, false] rfl rfl (any_of HT_.out (by kernel_rfl)) (fun _ _ _ h => h) (Or.inl ⟨by rfl, ?_⟩) ?_ ?_
 rotate_left
 ·intro w'
  go_simp
  with_reducible rfl
 rotate_left
 ·simp only [Act.put, List.setIfInBounds_toArray, List.set_cons_zero, List.set_cons_succ, i64_w, i32_w]
  rfl
 refine pure_ (i := 4) (N := some 9) (v := ?_) (a' := ?_) #[true, false, false, false, true, false, false, false, false] rfl rfl (any_of HT_.out (by kernel_rfl)) (fun _ _ _ h => h) (Or.inl ⟨by rfl, ?_⟩) ?_ ?_
 rotate_left
 ·intro w'
  go_simp
  with_reducible rfl
 rotate_left
 ·simp only [Act.put, List.setIfInBounds_toArray, List.set_cons_zero, List.set_cons_succ, i64_w, i32_w]
  rfl
 refine take_ (i := 1) (N := some 6) (v := ?_) (a' := ?_) #[true, true, false, false, true, false, false, false, false] rfl rfl (take_ofW HT_.out HW_.out (by kernel_rfl)) (fun _ _ _ h => h) (Or.inl ⟨by rfl, ?_⟩) hHeld ?_ ?_
 rotate_left
 ·rintro w' ⟨s0, s1, s2, s3, s4, s5, s6, s7, s8, s9, s10⟩
  go_simp
  with_reducible rfl
 rotate_left
 ·simp only [Act.put, List.setIfInBounds_toArray, List.set_cons_zero, List.set_cons_succ, i64_w, i32_w]
  rfl
 refine take_ (i := 3) (N := some 8) (v := ?_) (a' := ?_) #[true, true, false, true, true, false, false, false, false] rfl rfl (take_ofW HT_.out HW_.out (by kernel_rfl)) (fun _ _ _ h => h) (Or.inl ⟨by rfl, ?_⟩) hHeld ?_ ?_
 rotate_left
 ·rintro w' ⟨s0, s1, s2, s3, s4, s5, s6, s7, s8, s9, s10⟩
  go_simp
  with_reducible rfl
 rotate_left
 ·simp only [Act.put, List.setIfInBounds_toArray, List.set_cons_zero, List.set_cons_succ, i64_w, i32_w]
  rfl
 refine one_ (i := 2) (N := some 7) #[true, true, true, true, true, false, false, false, false] rfl rfl (one_of HT_.out (by kernel_rfl)) (by decide) (fun K hK => ?_)
 refine goes_ Try.func37 (by kernel_rfl) rfl #[.int .i64 a0_3, .int .i64 (-1)] (by rfl) rfl rfl (by (try simp only [List.map_toArray, List.map_cons, List.map_nil]); first | done | rfl | (simp only [List.length_drop, List.length_take]; rfl)) ?_
 with_reducible refine (foliotref01_Shift.calls k a0_3 (-1) t399 _ A3.out).mono ?_
 rintro e w8 ⟨rfl, hb⟩
 refine ⟨_, rfl, ?_⟩
 have n0_ := Aside0.mk (blk_below (g := gb398) (o := .cells #[.int .i64 a0_0, .int .i64 a0_1, .int .i64 a0_2, .int .i64 a0_3, .int .i64 a0_4, .int .u32 a0_5, .int .u64 a0_6, .int .i64 a0_7, .int .i64 a0_8, .int .i64 a0_9, .int .i64 a0_10] 28 (0, 0)) (by (with_reducible repeat (first | refine blk_drewN ?_ _ | refine blk_drew ?_ | refine blk_alloc ?_ _)); exact BK398.out) hb)
 have n1_ := Aside0.mk (below_step (by repeat (first | (with_reducible first | exact HB.out | apply below_alloc | apply pw_below_drewN | apply below_drew1 | refine below_set ?_ GE398.out) | exact HB.out)) hb)
 clear BK398
 clear HB
 have BK398 := n0_
 have HB := n1_
 clear n0_ n1_
 (try clear hb)
 (try clear hb2)
 (try clear hk)
 (try clear hi)
 refine hK.out _ _ ⟨(blk_cell BK398.out 0).trans rfl, (blk_cell BK398.out 1).trans rfl, (blk_cell BK398.out 2).trans rfl, (blk_cell BK398.out 3).trans rfl, (blk_cell BK398.out 4).trans rfl, (blk_cell BK398.out 5).trans rfl, (blk_cell BK398.out 6).trans rfl, (blk_cell BK398.out 7).trans rfl, (blk_cell BK398.out 8).trans rfl, (blk_cell BK398.out 9).trans rfl, (blk_cell BK398.out 10).trans rfl⟩ (fun hHeld => ?_)
 clear hK K
 refine norm_ (a' := ?_) ?_ ?_
 rotate_left
 ·show Act.put _ (some 7) _ = _
  simp only [Act.put, List.setIfInBounds_toArray, List.set_cons_zero, List.set_cons_succ, i64_w, i32_w]
  rfl
 refine one_ (i := 5) (N := some 10) #[true, true, true, true, true, true, false, false, false] rfl rfl (one_of HT_.out (by kernel_rfl)) (by decide) (fun K hK => ?_)
 refine goes_ Try.func17 (by kernel_rfl) rfl #[.agg #[.int .i64 a0_0, .int .i64 a0_1, .int .i64 a0_2, .int .i64 a0_3, .int .i64 a0_4, .int .u32 a0_5, .int .u64 a0_6, .int .i64 a0_7, .int .i64 a0_8, .int .i64 a0_9, .int .i64 a0_10], .int .u64 a1] (by rfl) rfl rfl (by (try simp only [List.map_toArray, List.map_cons, List.map_nil]); first | done | rfl | (simp only [List.length_drop, List.length_take]; rfl)) ?_
 with_reducible refine (foliotref17_Age.calls k a0_0 a0_1 a0_2 a0_3 a0_4 a0_5 a0_6 a0_7 a0_8 a0_9 a0_10 a1 t400 t401 t402 t403 t404 t405 t406 t407 t408 t409 t410 _ A4.out).mono ?_
 rintro e w9 ⟨rfl, hb⟩
 refine ⟨_, rfl, ?_⟩
 have n0_ := Aside0.mk (blk_below (g := gb398) (o := .cells #[.int .i64 a0_0, .int .i64 a0_1, .int .i64 a0_2, .int .i64 a0_3, .int .i64 a0_4, .int .u32 a0_5, .int .u64 a0_6, .int .i64 a0_7, .int .i64 a0_8, .int .i64 a0_9, .int .i64 a0_10] 28 (0, 0)) (by (with_reducible repeat (first | refine blk_drewN ?_ _ | refine blk_drew ?_ | refine blk_alloc ?_ _)); exact BK398.out) hb)
 have n1_ := Aside0.mk (below_step (by repeat (first | (with_reducible first | exact HB.out | apply below_alloc | apply pw_below_drewN | apply below_drew1 | refine below_set ?_ GE398.out) | exact HB.out)) hb)
 clear BK398
 clear HB
 have BK398 := n0_
 have HB := n1_
 clear n0_ n1_
 (try clear hb)
 (try clear hb2)
 (try clear hk)
 (try clear hi)
 refine hK.out _ _ ⟨(blk_cell BK398.out 0).trans rfl, (blk_cell BK398.out 1).trans rfl, (blk_cell BK398.out 2).trans rfl, (blk_cell BK398.out 3).trans rfl, (blk_cell BK398.out 4).trans rfl, (blk_cell BK398.out 5).trans rfl, (blk_cell BK398.out 6).trans rfl, (blk_cell BK398.out 7).trans rfl, (blk_cell BK398.out 8).trans rfl, (blk_cell BK398.out 9).trans rfl, (blk_cell BK398.out 10).trans rfl⟩ (fun hHeld => ?_)
 clear hK K
 refine norm_ (a' := ?_) ?_ ?_
 rotate_left
 ·show Act.put _ (some 10) _ = _
  simp only [Act.put, List.setIfInBounds_toArray, List.set_cons_zero, List.set_cons_succ, i64_w, i32_w]
  rfl
 refine pure_ (i := 6) (N := some 11) (v := ?_) (a' := ?_) #[true, true, true, true, true, true, true, false, false] rfl rfl (any_of HT_.out (by kernel_rfl)) (fun _ _ _ h => h) (Or.inl ⟨by rfl, ?_⟩) ?_ ?_
 rotate_left
 ·intro w'
  go_simp
  with_reducible rfl
 rotate_left
 ·simp only [Act.put, List.setIfInBounds_toArray, List.set_cons_zero, List.set_cons_succ, i64_w, i32_w]
  rfl
 refine one_ (i := 7) (N := some 12) #[true, true, true, true, true, true, true, true, false] rfl rfl (one_of HT_.out (by kernel_rfl)) (by decide) (fun K hK => ?_)
 refine goes_ Try.func29 (by kernel_rfl) rfl #[.int .i64 t399, .int .i64 t404] (by rfl) rfl rfl (by (try simp only [List.map_toArray, List.map_cons, List.map_nil]); first | done | rfl | (simp only [List.length_drop, List.length_take]; rfl)) ?_
 with_reducible refine (foliotref01_Add.calls k t399 t404 t411 _ A5.out).mono ?_
 rintro e w10 ⟨rfl, hb⟩
 refine ⟨_, rfl, ?_⟩
 have n0_ := Aside0.mk (blk_below (g := gb398) (o := .cells #[.int .i64 a0_0, .int .i64 a0_1, .int .i64 a0_2, .int .i64 a0_3, .int .i64 a0_4, .int .u32 a0_5, .int .u64 a0_6, .int .i64 a0_7, .int .i64 a0_8, .int .i64 a0_9, .int .i64 a0_10] 28 (0, 0)) (by (with_reducible repeat (first | refine blk_drewN ?_ _ | refine blk_drew ?_ | refine blk_alloc ?_ _)); exact BK398.out) hb)
 have n1_ := Aside0.mk (below_step (by repeat (first | (with_reducible first | exact HB.out | apply below_alloc | apply pw_below_drewN | apply below_drew1 | refine below_set ?_ GE398.out) | exact HB.out)) hb)
 clear BK398
 clear HB
 have BK398 := n0_
 have HB := n1_
 clear n0_ n1_
 (try clear hb)
 (try clear hb2)
 (try clear hk)
 (try clear hi)
 refine hK.out _ _ ⟨(blk_cell BK398.out 0).trans rfl, (blk_cell BK398.out 1).trans rfl, (blk_cell BK398.out 2).trans rfl, (blk_cell BK398.out 3).trans rfl, (blk_cell BK398.out 4).trans rfl, (blk_cell BK398.out 5).trans rfl, (blk_cell BK398.out 6).trans rfl, (blk_cell BK398.out 7).trans rfl, (blk_cell BK398.out 8).trans rfl, (blk_cell BK398.out 9).trans rfl, (blk_cell BK398.out 10).trans rfl⟩ (fun hHeld => ?_)
 clear hK K
 refine norm_ (a' := ?_) ?_ ?_
 rotate_left
 ·show Act.put _ (some 12) _ = _
  simp only [Act.put, List.setIfInBounds_toArray, List.set_cons_zero, List.set_cons_succ, i64_w, i32_w]
  rfl
 refine pure_ (i := 8) (N := some 4) (v := ?_) (a' := ?_) #[true, true, true, true, true, true, true, true, true] rfl rfl (any_of HT_.out (by kernel_rfl)) (fun _ _ _ h => h) (Or.inl ⟨by rfl, ?_⟩) ?_ ?_
 rotate_left
 ·intro w'
  go_simp
  with_reducible rfl
 rotate_left
 ·simp only [Act.put, List.setIfInBounds_toArray, List.set_cons_zero, List.set_cons_succ, i64_w, i32_w]
  rfl
 refine done_ (done_of HT_.out (by kernel_rfl)) ?_
 try go_wp2
 go_ret
 exact ⟨by first | rfl | (simp [errW_none, errW_some] <;> rfl) | (simp [*, errW_none, errW_some] <;> rfl), by repeat (first | (with_reducible first | exact HB.out | apply below_alloc | apply pw_below_drewN | apply below_drew1 | refine below_set ?_ GE398.out) | exact HB.out)⟩
def system_Synced.f (a0_0 : Int) (a0_1 : Int) (a0_2 : Int) (a0_3 : Int) (a0_4 : Int) (a0_5 : Int) (a0_6 : Int) (a0_7 : Int) (a0_8 : Int) (a0_9 : Int) (a0_10 : Int) : Option (Bool) := if a0_0 = 3 then (some false) else (if 1 ≤ a0_1 then (some (decide (a0_1 < 16))) else (some false))
theorem system_Synced.calls (a0_0 : Int) (a0_1 : Int) (a0_2 : Int) (a0_3 : Int) (a0_4 : Int) (a0_5 : Int) (a0_6 : Int) (a0_7 : Int) (a0_8 : Int) (a0_9 : Int) (a0_10 : Int) (r : Bool) (w : World) (h : system_Synced.f a0_0 a0_1 a0_2 a0_3 a0_4 a0_5 a0_6 a0_7 a0_8 a0_9 a0_10 = some r) :
  Calls Try.prog 20 #[.agg #[.int .i64 a0_0, .int .i64 a0_1, .int .i64 a0_2, .int .i64 a0_3, .int .i64 a0_4, .int .u32 a0_5, .int .u64 a0_6, .int .i64 a0_7, .int .i64 a0_8, .int .i64 a0_9, .int .i64 a0_10]] w fun e w' => e = .returned (.bool r) ∧ Below w.heap.size w w' := by
 have hu28 := Try.underlying28
 have HB := Aside0.mk (Below.refl w.heap.size w)
 have H : (if a0_0 = 3 then (some false) else (if 1 ≤ a0_1 then (some (decide (a0_1 < 16))) else (some false))) = some r := h
 clear h
 by_cases c2 : a0_0 = 3
 ·rw [if_pos c2] at H
  have c2b0 : (a0_0 == 3) = true := beq_iff_eq.mpr c2
  have c2b1 : (a0_0 != 3) = false := bne_eq_false_iff_eq.mpr c2
  clear c2
  obtain rfl := Option.some.inj H
  go_enter Try.func20, Try.ntmps20
  go_wp2_with (first | ((with_reducible refine gate_dst (N := 1) rfl ?_); refine box_event ?hg (N := 1) ?hd (cs := #[.int .i64 a0_0, .int .i64 a0_1, .int .i64 a0_2, .int .i64 a0_3, .int .i64 a0_4, .int .u32 a0_5, .int .u64 a0_6, .int .i64 a0_7, .int .i64 a0_8, .int .i64 a0_9, .int .i64 a0_10]) (t := 28) ?hr ?_; (case hd => rfl); (case hg => rfl); (case hr => first | (go_simp; done) | (go_simp; rfl)); intro gb412 hg w3 hbox hb; have n0_ := Aside0.mk (below_step (by repeat (first | (with_reducible first | exact HB.out | apply below_alloc | apply pw_below_drewN | apply below_drew1) | exact HB.out)) hb); have n1_ := Aside0.mk (hbox); have n2_ := Aside0.mk ((by rw [hg]; exact (below_size (by repeat (first | (with_reducible first | exact HB.out | apply below_alloc | apply pw_below_drewN | apply below_drew1) | exact HB.out))) : w.heap.size ≤ gb412)); have n3_ := Aside0.mk ((by rw [hg]; exact (below_size (by repeat (first | (with_reducible first | exact HB.out | apply below_alloc | apply pw_below_drewN | apply below_drew1) | exact HB.out))) : w.heap.size ≤ gb412)); clear HB; have HB := n0_; have BK412 := n1_; have GW412 := n2_; have GE412 := n3_; clear n0_ n1_ n2_ n3_; clear hb hbox hg; have hcz4_0 : w3.cell? ⟨gb412, 0, none⟩ = some (.int .i64 a0_0) := (blk_cell BK412.out 0).trans rfl; have hcz4_1 : w3.cell? ⟨gb412, 1, none⟩ = some (.int .i64 a0_1) := (blk_cell BK412.out 1).trans rfl; have hcz4_2 : w3.cell? ⟨gb412, 2, none⟩ = some (.int .i64 a0_2) := (blk_cell BK412.out 2).trans rfl; have hcz4_3 : w3.cell? ⟨gb412, 3, none⟩ = some (.int .i64 a0_3) := (blk_cell BK412.out 3).trans rfl; have hcz4_4 : w3.cell? ⟨gb412, 4, none⟩ = some (.int .i64 a0_4) := (blk_cell BK412.out 4).trans rfl; have hcz4_5 : w3.cell? ⟨gb412, 5, none⟩ = some (.int .u32 a0_5) := (blk_cell BK412.out 5).trans rfl; have hcz4_6 : w3.cell? ⟨gb412, 6, none⟩ = some (.int .u64 a0_6) := (blk_cell BK412.out 6).trans rfl; have hcz4_7 : w3.cell? ⟨gb412, 7, none⟩ = some (.int .i64 a0_7) := (blk_cell BK412.out 7).trans rfl; have hcz4_8 : w3.cell? ⟨gb412, 8, none⟩ = some (.int .i64 a0_8) := (blk_cell BK412.out 8).trans rfl; have hcz4_9 : w3.cell? ⟨gb412, 9, none⟩ = some (.int .i64 a0_9) := (blk_cell BK412.out 9).trans rfl; have hcz4_10 : w3.cell? ⟨gb412, 10, none⟩ = some (.int .i64 a0_10) := (blk_cell BK412.out 10).trans rfl; have hfz4_0 := blk_frozen BK412.out 0; have hfz4_1 := blk_frozen BK412.out 1; have hfz4_2 := blk_frozen BK412.out 2; have hfz4_3 := blk_frozen BK412.out 3; have hfz4_4 := blk_frozen BK412.out 4; have hfz4_5 := blk_frozen BK412.out 5; have hfz4_6 := blk_frozen BK412.out 6; have hfz4_7 := blk_frozen BK412.out 7; have hfz4_8 := blk_frozen BK412.out 8; have hfz4_9 := blk_frozen BK412.out 9; have hfz4_10 := blk_frozen BK412.out 10))
  go_ret
  exact ⟨by first | rfl | (simp [errW_none, errW_some] <;> rfl) | (simp [*, errW_none, errW_some] <;> rfl), by repeat (first | (with_reducible first | exact HB.out | apply below_alloc | apply pw_below_drewN | apply below_drew1 | refine below_set ?_ GE412.out) | exact HB.out)⟩
 ·rw [if_neg c2] at H
  have c2b0 : (a0_0 == 3) = false := beq_eq_false_iff_ne.mpr c2
  have c2b1 : (a0_0 != 3) = true := bne_iff_ne.mpr c2
  by_cases c5 : 1 ≤ a0_1
  ·rw [if_pos c5] at H
   have c5b0 : decide (1 ≤ a0_1) = true := decide_eq_true c5
   clear c5
   obtain rfl := Option.some.inj H
   go_enter Try.func20, Try.ntmps20
   go_wp2_with (first | ((with_reducible refine gate_dst (N := 1) rfl ?_); refine box_event ?hg (N := 1) ?hd (cs := #[.int .i64 a0_0, .int .i64 a0_1, .int .i64 a0_2, .int .i64 a0_3, .int .i64 a0_4, .int .u32 a0_5, .int .u64 a0_6, .int .i64 a0_7, .int .i64 a0_8, .int .i64 a0_9, .int .i64 a0_10]) (t := 28) ?hr ?_; (case hd => rfl); (case hg => rfl); (case hr => first | (go_simp; done) | (go_simp; rfl)); intro gb412 hg w6 hbox hb; have n0_ := Aside0.mk (below_step (by repeat (first | (with_reducible first | exact HB.out | apply below_alloc | apply pw_below_drewN | apply below_drew1) | exact HB.out)) hb); have n1_ := Aside0.mk (hbox); have n2_ := Aside0.mk ((by rw [hg]; exact (below_size (by repeat (first | (with_reducible first | exact HB.out | apply below_alloc | apply pw_below_drewN | apply below_drew1) | exact HB.out))) : w.heap.size ≤ gb412)); have n3_ := Aside0.mk ((by rw [hg]; exact (below_size (by repeat (first | (with_reducible first | exact HB.out | apply below_alloc | apply pw_below_drewN | apply below_drew1) | exact HB.out))) : w.heap.size ≤ gb412)); clear HB; have HB := n0_; have BK412 := n1_; have GW412 := n2_; have GE412 := n3_; clear n0_ n1_ n2_ n3_; clear hb hbox hg; have hcz7_0 : w6.cell? ⟨gb412, 0, none⟩ = some (.int .i64 a0_0) := (blk_cell BK412.out 0).trans rfl; have hcz7_1 : w6.cell? ⟨gb412, 1, none⟩ = some (.int .i64 a0_1) := (blk_cell BK412.out 1).trans rfl; have hcz7_2 : w6.cell? ⟨gb412, 2, none⟩ = some (.int .i64 a0_2) := (blk_cell BK412.out 2).trans rfl; have hcz7_3 : w6.cell? ⟨gb412, 3, none⟩ = some (.int .i64 a0_3) := (blk_cell BK412.out 3).trans rfl; have hcz7_4 : w6.cell? ⟨gb412, 4, none⟩ = some (.int .i64 a0_4) := (blk_cell BK412.out 4).trans rfl; have hcz7_5 : w6.cell? ⟨gb412, 5, none⟩ = some (.int .u32 a0_5) := (blk_cell BK412.out 5).trans rfl; have hcz7_6 : w6.cell? ⟨gb412, 6, none⟩ = some (.int .u64 a0_6) := (blk_cell BK412.out 6).trans rfl; have hcz7_7 : w6.cell? ⟨gb412, 7, none⟩ = some (.int .i64 a0_7) := (blk_cell BK412.out 7).trans rfl; have hcz7_8 : w6.cell? ⟨gb412, 8, none⟩ = some (.int .i64 a0_8) := (blk_cell BK412.out 8).trans rfl; have hcz7_9 : w6.cell? ⟨gb412, 9, none⟩ = some (.int .i64 a0_9) := (blk_cell BK412.out 9).trans rfl; have hcz7_10 : w6.cell? ⟨gb412, 10, none⟩ = some (.int .i64 a0_10) := (blk_cell BK412.out 10).trans rfl; have hfz7_0 := blk_frozen BK412.out 0; have hfz7_1 := blk_frozen BK412.out 1; have hfz7_2 := blk_frozen BK412.out 2; have hfz7_3 := blk_frozen BK412.out 3; have hfz7_4 := blk_frozen BK412.out 4; have hfz7_5 := blk_frozen BK412.out 5; have hfz7_6 := blk_frozen BK412.out 6; have hfz7_7 := blk_frozen BK412.out 7; have hfz7_8 := blk_frozen BK412.out 8; have hfz7_9 := blk_frozen BK412.out 9; have hfz7_10 := blk_frozen BK412.out 10))
   go_ret
   exact ⟨by first | rfl | (simp [errW_none, errW_some] <;> rfl) | (simp [*, errW_none, errW_some] <;> rfl), by repeat (first | (with_reducible first | exact HB.out | apply below_alloc | apply pw_below_drewN | apply below_drew1 | refine below_set ?_ GE412.out) | exact HB.out)⟩
  ·rw [if_neg c5] at H
   have c5b0 : decide (1 ≤ a0_1) = false := decide_eq_false c5
   clear c5
   obtain rfl := Option.some.inj H
   go_enter Try.func20, Try.ntmps20
   go_wp2_with (first | ((with_reducible refine gate_dst (N := 1) rfl ?_); refine box_event ?hg (N := 1) ?hd (cs := #[.int .i64 a0_0, .int .i64 a0_1, .int .i64 a0_2, .int .i64 a0_3, .int .i64 a0_4, .int .u32 a0_5, .int .u64 a0_6, .int .i64 a0_7, .int .i64 a0_8, .int .i64 a0_9, .int .i64 a0_10]) (t := 28) ?hr ?_; (case hd => rfl); (case hg => rfl); (case hr => first | (go_simp; done) | (go_simp; rfl)); intro gb412 hg w8 hbox hb; have n0_ := Aside0.mk (below_step (by repeat (first | (with_reducible first | exact HB.out | apply below_alloc | apply pw_below_drewN | apply below_drew1) | exact HB.out)) hb); have n1_ := Aside0.mk (hbox); have n2_ := Aside0.mk ((by rw [hg]; exact (below_size (by repeat (first | (with_reducible first | exact HB.out | apply below_alloc | apply pw_below_drewN | apply below_drew1) | exact HB.out))) : w.heap.size ≤ gb412)); have n3_ := Aside0.mk ((by rw [hg]; exact (below_size (by repeat (first | (with_reducible first | exact HB.out | apply below_alloc | apply pw_below_drewN | apply below_drew1) | exact HB.out))) : w.heap.size ≤ gb412)); clear HB; have HB := n0_; have BK412 := n1_; have GW412 := n2_; have GE412 := n3_; clear n0_ n1_ n2_ n3_; clear hb hbox hg; have hcz9_0 : w8.cell? ⟨gb412, 0, none⟩ = some (.int .i64 a0_0) := (blk_cell BK412.out 0).trans rfl; have hcz9_1 : w8.cell? ⟨gb412, 1, none⟩ = some (.int .i64 a0_1) := (blk_cell BK412.out 1).trans rfl; have hcz9_2 : w8.cell? ⟨gb412, 2, none⟩ = some (.int .i64 a0_2) := (blk_cell BK412.out 2).trans rfl; have hcz9_3 : w8.cell? ⟨gb412, 3, none⟩ = some (.int .i64 a0_3) := (blk_cell BK412.out 3).trans rfl; have hcz9_4 : w8.cell? ⟨gb412, 4, none⟩ = some (.int .i64 a0_4) := (blk_cell BK412.out 4).trans rfl; have hcz9_5 : w8.cell? ⟨gb412, 5, none⟩ = some (.int .u32 a0_5) := (blk_cell BK412.out 5).trans rfl; have hcz9_6 : w8.cell? ⟨gb412, 6, none⟩ = some (.int .u64 a0_6) := (blk_cell BK412.out 6).trans rfl; have hcz9_7 : w8.cell? ⟨gb412, 7, none⟩ = some (.int .i64 a0_7) := (blk_cell BK412.out 7).trans rfl; have hcz9_8 : w8.cell? ⟨gb412, 8, none⟩ = some (.int .i64 a0_8) := (blk_cell BK412.out 8).trans rfl; have hcz9_9 : w8.cell? ⟨gb412, 9, none⟩ = some (.int .i64 a0_9) := (blk_cell BK412.out 9).trans rfl; have hcz9_10 : w8.cell? ⟨gb412, 10, none⟩ = some (.int .i64 a0_10) := (blk_cell BK412.out 10).trans rfl; have hfz9_0 := blk_frozen BK412.out 0; have hfz9_1 := blk_frozen BK412.out 1; have hfz9_2 := blk_frozen BK412.out 2; have hfz9_3 := blk_frozen BK412.out 3; have hfz9_4 := blk_frozen BK412.out 4; have hfz9_5 := blk_frozen BK412.out 5; have hfz9_6 := blk_frozen BK412.out 6; have hfz9_7 := blk_frozen BK412.out 7; have hfz9_8 := blk_frozen BK412.out 8; have hfz9_9 := blk_frozen BK412.out 9; have hfz9_10 := blk_frozen BK412.out 10))
   go_ret
   exact ⟨by first | rfl | (simp [errW_none, errW_some] <;> rfl) | (simp [*, errW_none, errW_some] <;> rfl), by repeat (first | (with_reducible first | exact HB.out | apply below_alloc | apply pw_below_drewN | apply below_drew1 | refine below_set ?_ GE412.out) | exact HB.out)⟩
def foliotref17_Synced.f (a0_0 : Int) (a0_1 : Int) (a0_2 : Int) (a0_3 : Int) (a0_4 : Int) (a0_5 : Int) (a0_6 : Int) (a0_7 : Int) (a0_8 : Int) (a0_9 : Int) (a0_10 : Int) : Option (Bool) := if a0_0 = 3 then (some false) else (if a0_1 ≥ 1 then (some (decide (a0_1 < 16))) else (some false))
theorem foliotref17_Synced.calls (a0_0 : Int) (a0_1 : Int) (a0_2 : Int) (a0_3 : Int) (a0_4 : Int) (a0_5 : Int) (a0_6 : Int) (a0_7 : Int) (a0_8 : Int) (a0_9 : Int) (a0_10 : Int) (r : Bool) (w : World) (h : foliotref17_Synced.f a0_0 a0_1 a0_2 a0_3 a0_4 a0_5 a0_6 a0_7 a0_8 a0_9 a0_10 = some r) :
  Calls Try.prog 21 #[.agg #[.int .i64 a0_0, .int .i64 a0_1, .int .i64 a0_2, .int .i64 a0_3, .int .i64 a0_4, .int .u32 a0_5, .int .u64 a0_6, .int .i64 a0_7, .int .i64 a0_8, .int .i64 a0_9, .int .i64 a0_10]] w fun e w' => e = .returned (.bool r) ∧ Below w.heap.size w w' := by
 have hu28 := Try.underlying28
 have HB := Aside0.mk (Below.refl w.heap.size w)
 have H : (if a0_0 = 3 then (some false) else (if a0_1 ≥ 1 then (some (decide (a0_1 < 16))) else (some false))) = some r := h
 clear h
 by_cases c2 : a0_0 = 3
 ·rw [if_pos c2] at H
  have c2b0 : (a0_0 == 3) = true := beq_iff_eq.mpr c2
  have c2b1 : (a0_0 != 3) = false := bne_eq_false_iff_eq.mpr c2
  clear c2
  obtain rfl := Option.some.inj H
  go_enter Try.func21, Try.ntmps21
  go_wp2_with (first | ((with_reducible refine gate_dst (N := 1) rfl ?_); refine box_event ?hg (N := 1) ?hd (cs := #[.int .i64 a0_0, .int .i64 a0_1, .int .i64 a0_2, .int .i64 a0_3, .int .i64 a0_4, .int .u32 a0_5, .int .u64 a0_6, .int .i64 a0_7, .int .i64 a0_8, .int .i64 a0_9, .int .i64 a0_10]) (t := 28) ?hr ?_; (case hd => rfl); (case hg => rfl); (case hr => first | (go_simp; done) | (go_simp; rfl)); intro gb413 hg w3 hbox hb; have n0_ := Aside0.mk (below_step (by repeat (first | (with_reducible first | exact HB.out | apply below_alloc | apply pw_below_drewN | apply below_drew1) | exact HB.out)) hb); have n1_ := Aside0.mk (hbox); have n2_ := Aside0.mk ((by rw [hg]; exact (below_size (by repeat (first | (with_reducible first | exact HB.out | apply below_alloc | apply pw_below_drewN | apply below_drew1) | exact HB.out))) : w.heap.size ≤ gb413)); have n3_ := Aside0.mk ((by rw [hg]; exact (below_size (by repeat (first | (with_reducible first | exact HB.out | apply below_alloc | apply pw_below_drewN | apply below_drew1) | exact HB.out))) : w.heap.size ≤ gb413)); clear HB; have HB := n0_; have BK413 := n1_; have GW413 := n2_; have GE413 := n3_; clear n0_ n1_ n2_ n3_; clear hb hbox hg; have hcz4_0 : w3.cell? ⟨gb413, 0, none⟩ = some (.int .i64 a0_0) := (blk_cell BK413.out 0).trans rfl; have hcz4_1 : w3.cell? ⟨gb413, 1, none⟩ = some (.int .i64 a0_1) := (blk_cell BK413.out 1).trans rfl; have hcz4_2 : w3.cell? ⟨gb413, 2, none⟩ = some (.int .i64 a0_2) := (blk_cell BK413.out 2).trans rfl; have hcz4_3 : w3.cell? ⟨gb413, 3, none⟩ = some (.int .i64 a0_3) := (blk_cell BK413.out 3).trans rfl; have hcz4_4 : w3.cell? ⟨gb413, 4, none⟩ = some (.int .i64 a0_4) := (blk_cell BK413.out 4).trans rfl; have hcz4_5 : w3.cell? ⟨gb413, 5, none⟩ = some (.int .u32 a0_5) := (blk_cell BK413.out 5).trans rfl; have hcz4_6 : w3.cell? ⟨gb413, 6, none⟩ = some (.int .u64 a0_6) := (blk_cell BK413.out 6).trans rfl; have hcz4_7 : w3.cell? ⟨gb413, 7, none⟩ = some (.int .i64 a0_7) := (blk_cell BK413.out 7).trans rfl; have hcz4_8 : w3.cell? ⟨gb413, 8, none⟩ = some (.int .i64 a0_8) := (blk_cell BK413.out 8).trans rfl; have hcz4_9 : w3.cell? ⟨gb413, 9, none⟩ = some (.int .i64 a0_9) := (blk_cell BK413.out 9).trans rfl; have hcz4_10 : w3.cell? ⟨gb413, 10, none⟩ = some (.int .i64 a0_10) := (blk_cell BK413.out 10).trans rfl; have hfz4_0 := blk_frozen BK413.out 0; have hfz4_1 := blk_frozen BK413.out 1; have hfz4_2 := blk_frozen BK413.out 2; have hfz4_3 := blk_frozen BK413.out 3; have hfz4_4 := blk_frozen BK413.out 4; have hfz4_5 := blk_frozen BK413.out 5; have hfz4_6 := blk_frozen BK413.out 6; have hfz4_7 := blk_frozen BK413.out 7; have hfz4_8 := blk_frozen BK413.out 8; have hfz4_9 := blk_frozen BK413.out 9; have hfz4_10 := blk_frozen BK413.out 10))
  go_ret
  exact ⟨by first | rfl | (simp [errW_none, errW_some] <;> rfl) | (simp [*, errW_none, errW_some] <;> rfl), by repeat (first | (with_reducible first | exact HB.out | apply below_alloc | apply pw_below_drewN | apply below_drew1 | refine below_set ?_ GE413.out) | exact HB.out)⟩
 ·rw [if_neg c2] at H
  have c2b0 : (a0_0 == 3) = false := beq_eq_false_iff_ne.mpr c2
  have c2b1 : (a0_0 != 3) = true := bne_iff_ne.mpr c2
  by_cases c5 : a0_1 ≥ 1
  ·rw [if_pos c5] at H
   have c5b0 : decide (1 ≤ a0_1) = true := decide_eq_true c5
   clear c5
   obtain rfl := Option.some.inj H
   go_enter Try.func21, Try.ntmps21
   go_wp2_with (first | ((with_reducible refine gate_dst (N := 1) rfl ?_); refine box_event ?hg (N := 1) ?hd (cs := #[.int .i64 a0_0, .int .i64 a0_1, .int .i64 a0_2, .int .i64 a0_3, .int .i64 a0_4, .int .u32 a0_5, .int .u64 a0_6, .int .i64 a0_7, .int .i64 a0_8, .int .i64 a0_9, .int .i64 a0_10]) (t := 28) ?hr ?_; (case hd => rfl); (case hg => rfl); (case hr => first | (go_simp; done) | (go_simp; rfl)); intro gb413 hg w6 hbox hb; have n0_ := Aside0.mk (below_step (by repeat (first | (with_reducible first | exact HB.out | apply below_alloc | apply pw_below_drewN | apply below_drew1) | exact HB.out)) hb); have n1_ := Aside0.mk (hbox); have n2_ := Aside0.mk ((by rw [hg]; exact (below_size (by repeat (first | (with_reducible first | exact HB.out | apply below_alloc | apply pw_below_drewN | apply below_drew1) | exact HB.out))) : w.heap.size ≤ gb413)); have n3_ := Aside0.mk ((by rw [hg]; exact (below_size (by repeat (first | (with_reducible first | exact HB.out | apply below_alloc | apply pw_below_drewN | apply below_drew1) | exact HB.out))) : w.heap.size ≤ gb413)); clear HB; have HB := n0_; have BK413 := n1_; have GW413 := n2_; have GE413 := n3_; clear n0_ n1_ n2_ n3_; clear hb hbox hg; have hcz7_0 : w6.cell? ⟨gb413, 0, none⟩ = some (.int .i64 a0_0) := (blk_cell BK413.out 0).trans rfl; have hcz7_1 : w6.cell? ⟨gb413, 1, none⟩ = some (.int .i64 a0_1) := (blk_cell BK413.out 1).trans rfl; have hcz7_2 : w6.cell? ⟨gb413, 2, none⟩ = some (.int .i64 a0_2) := (blk_cell BK413.out 2).trans rfl; have hcz7_3 : w6.cell? ⟨gb413, 3, none⟩ = some (.int .i64 a0_3) := (blk_cell BK413.out 3).trans rfl; have hcz7_4 : w6.cell? ⟨gb413, 4, none⟩ = some (.int .i64 a0_4) := (blk_cell BK413.out 4).trans rfl; have hcz7_5 : w6.cell? ⟨gb413, 5, none⟩ = some (.int .u32 a0_5) := (blk_cell BK413.out 5).trans rfl; have hcz7_6 : w6.cell? ⟨gb413, 6, none⟩ = some (.int .u64 a0_6) := (blk_cell BK413.out 6).trans rfl; have hcz7_7 : w6.cell? ⟨gb413, 7, none⟩ = some (.int .i64 a0_7) := (blk_cell BK413.out 7).trans rfl; have hcz7_8 : w6.cell? ⟨gb413, 8, none⟩ = some (.int .i64 a0_8) := (blk_cell BK413.out 8).trans rfl; have hcz7_9 : w6.cell? ⟨gb413, 9, none⟩ = some (.int .i64 a0_9) := (blk_cell BK413.out 9).trans rfl; have hcz7_10 : w6.cell? ⟨gb413, 10, none⟩ = some (.int .i64 a0_10) := (blk_cell BK413.out 10).trans rfl; have hfz7_0 := blk_frozen BK413.out 0; have hfz7_1 := blk_frozen BK413.out 1; have hfz7_2 := blk_frozen BK413.out 2; have hfz7_3 := blk_frozen BK413.out 3; have hfz7_4 := blk_frozen BK413.out 4; have hfz7_5 := blk_frozen BK413.out 5; have hfz7_6 := blk_frozen BK413.out 6; have hfz7_7 := blk_frozen BK413.out 7; have hfz7_8 := blk_frozen BK413.out 8; have hfz7_9 := blk_frozen BK413.out 9; have hfz7_10 := blk_frozen BK413.out 10))
   go_ret
   exact ⟨by first | rfl | (simp [errW_none, errW_some] <;> rfl) | (simp [*, errW_none, errW_some] <;> rfl), by repeat (first | (with_reducible first | exact HB.out | apply below_alloc | apply pw_below_drewN | apply below_drew1 | refine below_set ?_ GE413.out) | exact HB.out)⟩
  ·rw [if_neg c5] at H
   have c5b0 : decide (1 ≤ a0_1) = false := decide_eq_false c5
   clear c5
   obtain rfl := Option.some.inj H
   go_enter Try.func21, Try.ntmps21
   go_wp2_with (first | ((with_reducible refine gate_dst (N := 1) rfl ?_); refine box_event ?hg (N := 1) ?hd (cs := #[.int .i64 a0_0, .int .i64 a0_1, .int .i64 a0_2, .int .i64 a0_3, .int .i64 a0_4, .int .u32 a0_5, .int .u64 a0_6, .int .i64 a0_7, .int .i64 a0_8, .int .i64 a0_9, .int .i64 a0_10]) (t := 28) ?hr ?_; (case hd => rfl); (case hg => rfl); (case hr => first | (go_simp; done) | (go_simp; rfl)); intro gb413 hg w8 hbox hb; have n0_ := Aside0.mk (below_step (by repeat (first | (with_reducible first | exact HB.out | apply below_alloc | apply pw_below_drewN | apply below_drew1) | exact HB.out)) hb); have n1_ := Aside0.mk (hbox); have n2_ := Aside0.mk ((by rw [hg]; exact (below_size (by repeat (first | (with_reducible first | exact HB.out | apply below_alloc | apply pw_below_drewN | apply below_drew1) | exact HB.out))) : w.heap.size ≤ gb413)); have n3_ := Aside0.mk ((by rw [hg]; exact (below_size (by repeat (first | (with_reducible first | exact HB.out | apply below_alloc | apply pw_below_drewN | apply below_drew1) | exact HB.out))) : w.heap.size ≤ gb413)); clear HB; have HB := n0_; have BK413 := n1_; have GW413 := n2_; have GE413 := n3_; clear n0_ n1_ n2_ n3_; clear hb hbox hg; have hcz9_0 : w8.cell? ⟨gb413, 0, none⟩ = some (.int .i64 a0_0) := (blk_cell BK413.out 0).trans rfl; have hcz9_1 : w8.cell? ⟨gb413, 1, none⟩ = some (.int .i64 a0_1) := (blk_cell BK413.out 1).trans rfl; have hcz9_2 : w8.cell? ⟨gb413, 2, none⟩ = some (.int .i64 a0_2) := (blk_cell BK413.out 2).trans rfl; have hcz9_3 : w8.cell? ⟨gb413, 3, none⟩ = some (.int .i64 a0_3) := (blk_cell BK413.out 3).trans rfl; have hcz9_4 : w8.cell? ⟨gb413, 4, none⟩ = some (.int .i64 a0_4) := (blk_cell BK413.out 4).trans rfl; have hcz9_5 : w8.cell? ⟨gb413, 5, none⟩ = some (.int .u32 a0_5) := (blk_cell BK413.out 5).trans rfl; have hcz9_6 : w8.cell? ⟨gb413, 6, none⟩ = some (.int .u64 a0_6) := (blk_cell BK413.out 6).trans rfl; have hcz9_7 : w8.cell? ⟨gb413, 7, none⟩ = some (.int .i64 a0_7) := (blk_cell BK413.out 7).trans rfl; have hcz9_8 : w8.cell? ⟨gb413, 8, none⟩ = some (.int .i64 a0_8) := (blk_cell BK413.out 8).trans rfl; have hcz9_9 : w8.cell? ⟨gb413, 9, none⟩ = some (.int .i64 a0_9) := (blk_cell BK413.out 9).trans rfl; have hcz9_10 : w8.cell? ⟨gb413, 10, none⟩ = some (.int .i64 a0_10) := (blk_cell BK413.out 10).trans rfl; have hfz9_0 := blk_frozen BK413.out 0; have hfz9_1 := blk_frozen BK413.out 1; have hfz9_2 := blk_frozen BK413.out 2; have hfz9_3 := blk_frozen BK413.out 3; have hfz9_4 := blk_frozen BK413.out 4; have hfz9_5 := blk_frozen BK413.out 5; have hfz9_6 := blk_frozen BK413.out 6; have hfz9_7 := blk_frozen BK413.out 7; have hfz9_8 := blk_frozen BK413.out 8; have hfz9_9 := blk_frozen BK413.out 9; have hfz9_10 := blk_frozen BK413.out 10))
   go_ret
   exact ⟨by first | rfl | (simp [errW_none, errW_some] <;> rfl) | (simp [*, errW_none, errW_some] <;> rfl), by repeat (first | (with_reducible first | exact HB.out | apply below_alloc | apply pw_below_drewN | apply below_drew1 | refine below_set ?_ GE413.out) | exact HB.out)⟩
end Go.Proofs.Ytbcdoncnhhjjeaa.PSystemAges
