-- Written by a program of this session (the kit's print, extended: wip/extend_print.py). Not trusted: Lean checks it.
import Derived.Test.YtkcnibpjnhdfdaaPFixedInsidex0
import Derived.Test.YtkcnibpjnhdfdaaPFixedInsidex2
import Derived.Test.YtkcnibpjnhdfdaaPFixedInsidex4
namespace Go.Proofs.Ytkcnibpjnhdfdaa.PFixedInside
open Go.RowKit Go.Proofs.YtkcnibpjnhdfdaaW.PrintWords Go.Proofs.YtkcnibpjnhdfdaaW.PrintLast Go.Proofs.YtkcnibpjnhdfdaaW.PrintMore
attribute [local go_sem] max2_int min2_int max_two min_two max_three min_three max_four min_four   -- for this text's walks alone
set_option linter.unusedVariables false
set_option linter.unusedSimpArgs false

/-! ### fixed_Root: function 26 -/
def fixed_Root.f (k : Nat) (a0 : Int) : Option (Int) := if a0 ≤ 0 then (some 0) else ((fixed_root.f k ((IntKind.u64.wrap (a0)) / 4294967296) (IntKind.u64.wrap ((IntKind.u64.wrap (a0)) * 4294967296))).bind fun t153 => ((fixed_whole_span.f k 0 t153 false).bind fun t154 => (some t154)))
theorem fixed_Root.mono : ∀ a0 k, LeO (fixed_Root.f k a0) (fixed_Root.f (k + 1) a0) := by
  intro a0 k
  unfold fixed_Root.f
  repeat' first
      | (with_reducible exact fixed_root.mono _ _ _)
      | (with_reducible exact fixed_whole_span.mono _ _ _ _)
      | (with_reducible exact LeO.refl _)
      | (with_reducible exact LeO.none _)
      | (with_reducible refine LeO.ite ?_ ?_)
      | (with_reducible refine LeO.bind ?_ (fun _ => ?_))
      | exact fixed_root.mono _ _ _
      | exact fixed_whole_span.mono _ _ _ _
      | exact LeO.none _
      | refine LeO.ite ?_ ?_
      | refine LeO.bind ?_ (fun _ => ?_)
set_option maxHeartbeats 8000000 in
set_option maxRecDepth 100000 in
theorem fixed_Root.calls (k : Nat) (a0 : Int) (r : Int) (w : World) (h : fixed_Root.f k a0 = some r) :
    Calls Try.prog 26 #[.int .i64 a0] w fun e w' => e = .returned (.int .i64 r) ∧ Below w.heap.size w w' := by
  have hu51 := Try.underlying51
  have HB := Aside0.mk (Below.refl w.heap.size w)
  have H : (if a0 ≤ 0 then (some 0) else ((fixed_root.f k ((IntKind.u64.wrap (a0)) / 4294967296) (IntKind.u64.wrap ((IntKind.u64.wrap (a0)) * 4294967296))).bind fun t153 => ((fixed_whole_span.f k 0 t153 false).bind fun t154 => (some t154)))) = some r := h
  clear h
  by_cases c2 : a0 ≤ 0
  · rw [if_pos c2] at H
    have c2b0 : decide (a0 ≤ 0) = true := decide_eq_true c2
    clear c2
    obtain rfl := Option.some.inj H
    go_enter Try.func26, Try.ntmps26
    go_wp2
    go_ret
    exact ⟨by first | rfl | (simp [errW_none, errW_some] <;> rfl) | (simp [*, errW_none, errW_some] <;> rfl), by repeat (first | (with_reducible first | exact HB.out | apply below_alloc | apply pw_below_drewN | apply below_drew1) | exact HB.out)⟩
  · rw [if_neg c2] at H
    have c2b0 : decide (a0 ≤ 0) = false := decide_eq_false c2
    clear c2
    replace H := Option.bind_eq_some_iff.mp H
    obtain ⟨t153, A30, H⟩ := H
    replace H : ((fixed_whole_span.f k 0 t153 false).bind fun t154 => (some t154)) = some r := H
    have A3 := Aside0.mk A30
    clear A30
    replace H := Option.bind_eq_some_iff.mp H
    obtain ⟨t154, A40, H⟩ := H
    replace H : (some t154) = some r := H
    have A4 := Aside0.mk A40
    clear A40
    obtain rfl := Option.some.inj H
    go_enter Try.func26, Try.ntmps26
    go_wp2_with (first | ((with_reducible refine gate_callee (f := 57) rfl ?_); refine goesL_ (some 11) rfl rfl Try.func57 (by kernel_rfl) rfl #[.int .u64 ((IntKind.u64.wrap (a0)) / 4294967296), .int .u64 (IntKind.u64.wrap ((IntKind.u64.wrap (a0)) * 4294967296))] rfl (by (try simp only [List.map_toArray, List.map_cons, List.map_nil]); first | done | rfl | (simp only [List.length_drop, List.length_take]; rfl)) ?_; (with_reducible refine (fixed_root.calls k ((IntKind.u64.wrap (a0)) / 4294967296) (IntKind.u64.wrap ((IntKind.u64.wrap (a0)) * 4294967296)) t153 _ A3.out).mono ?_); rintro e w' ⟨rfl, ⟨nd, rfl⟩⟩; refine ⟨_, rfl, ?_⟩) | ((with_reducible refine gate_callee (f := 49) rfl ?_); refine goesL_ (some 13) rfl rfl Try.func49 (by kernel_rfl) rfl #[.agg #[.int .u64 0, .int .u64 t153, .bool false]] rfl (by (try simp only [List.map_toArray, List.map_cons, List.map_nil]); first | done | rfl | (simp only [List.length_drop, List.length_take]; rfl)) ?_; (with_reducible refine (fixed_whole_span.calls k 0 t153 false t154 _ A4.out).mono ?_); rintro e w5 ⟨rfl, hb⟩; refine ⟨_, rfl, ?_⟩; have n0_ := Aside0.mk (below_step (by repeat (first | (with_reducible first | exact HB.out | apply below_alloc | apply pw_below_drewN | apply below_drew1) | exact HB.out)) hb); clear HB; have HB := n0_; clear n0_; (try clear hb); (try clear hb2); (try clear hk); (try clear hi)))
    go_ret
    exact ⟨by first | rfl | (simp [errW_none, errW_some] <;> rfl) | (simp [*, errW_none, errW_some] <;> rfl), by repeat (first | (with_reducible first | exact HB.out | apply below_alloc | apply pw_below_drewN | apply below_drew1) | exact HB.out)⟩

/-! ### fixed_Mul: function 27 -/
def fixed_Mul.f (k : Nat) (a0 : Int) (a1 : Int) : Option (Int) := (fixed_product.f a0 a1).bind fun bt155 => ((fixed_whole_over.f k bt155.1 bt155.2.1 bt155.2.2 4294967296).bind fun bt158 => ((fixed_whole_span.f k bt158.1 bt158.2.1 bt158.2.2).bind fun t161 => (some t161)))
theorem fixed_Mul.mono : ∀ a0 a1 k, LeO (fixed_Mul.f k a0 a1) (fixed_Mul.f (k + 1) a0 a1) := by
  intro a0 a1 k
  unfold fixed_Mul.f
  repeat' first
      | (with_reducible exact fixed_whole_over.mono _ _ _ _ _)
      | (with_reducible exact fixed_whole_span.mono _ _ _ _)
      | (with_reducible exact LeO.refl _)
      | (with_reducible exact LeO.none _)
      | (with_reducible refine LeO.ite ?_ ?_)
      | (with_reducible refine LeO.bind ?_ (fun _ => ?_))
      | exact fixed_whole_over.mono _ _ _ _ _
      | exact fixed_whole_span.mono _ _ _ _
      | exact LeO.none _
      | refine LeO.ite ?_ ?_
      | refine LeO.bind ?_ (fun _ => ?_)
set_option maxHeartbeats 8000000 in
set_option maxRecDepth 100000 in
theorem fixed_Mul.calls (k : Nat) (a0 : Int) (a1 : Int) (r : Int) (w : World) (h : fixed_Mul.f k a0 a1 = some r) :
    Calls Try.prog 27 #[.int .i64 a0, .int .i64 a1] w fun e w' => e = .returned (.int .i64 r) ∧ Below w.heap.size w w' := by
  have HB := Aside0.mk (Below.refl w.heap.size w)
  have H : ((fixed_product.f a0 a1).bind fun bt155 => ((fixed_whole_over.f k bt155.1 bt155.2.1 bt155.2.2 4294967296).bind fun bt158 => ((fixed_whole_span.f k bt158.1 bt158.2.1 bt158.2.2).bind fun t161 => (some t161)))) = some r := h
  clear h
  replace H := Option.bind_eq_some_iff.mp H
  obtain ⟨⟨t155, t156, t157⟩, A30, H⟩ := H
  replace H : ((fixed_whole_over.f k t155 t156 t157 4294967296).bind fun bt158 => ((fixed_whole_span.f k bt158.1 bt158.2.1 bt158.2.2).bind fun t161 => (some t161))) = some r := H
  have A3 := Aside0.mk A30
  clear A30
  replace H := Option.bind_eq_some_iff.mp H
  obtain ⟨⟨t158, t159, t160⟩, A40, H⟩ := H
  replace H : ((fixed_whole_span.f k t158 t159 t160).bind fun t161 => (some t161)) = some r := H
  have A4 := Aside0.mk A40
  clear A40
  replace H := Option.bind_eq_some_iff.mp H
  obtain ⟨t161, A50, H⟩ := H
  replace H : (some t161) = some r := H
  have A5 := Aside0.mk A50
  clear A50
  obtain rfl := Option.some.inj H
  go_enter Try.func27, Try.ntmps27
  go_wp2_with (first | ((with_reducible refine gate_callee (f := 58) rfl ?_); refine goesL_ (some 7) rfl rfl Try.func58 (by kernel_rfl) rfl #[.int .i64 a0, .int .i64 a1] rfl (by (try simp only [List.map_toArray, List.map_cons, List.map_nil]); first | done | rfl | (simp only [List.length_drop, List.length_take]; rfl)) ?_; (with_reducible refine (fixed_product.calls a0 a1 t155 t156 t157 _ A3.out).mono ?_); rintro e w6 ⟨rfl, hb⟩; refine ⟨_, rfl, ?_⟩; have n0_ := Aside0.mk (below_step (by repeat (first | (with_reducible first | exact HB.out | apply below_alloc | apply pw_below_drewN | apply below_drew1) | exact HB.out)) hb); clear HB; have HB := n0_; clear n0_; (try clear hb); (try clear hb2); (try clear hk); (try clear hi)) | ((with_reducible refine gate_callee (f := 54) rfl ?_); refine goesL_ (some 8) rfl rfl Try.func54 (by kernel_rfl) rfl #[.agg #[.int .u64 t155, .int .u64 t156, .bool t157], .int .u64 4294967296] rfl (by (try simp only [List.map_toArray, List.map_cons, List.map_nil]); first | done | rfl | (simp only [List.length_drop, List.length_take]; rfl)) ?_; (with_reducible refine (fixed_whole_over.calls k t155 t156 t157 4294967296 t158 t159 t160 _ A4.out).mono ?_); rintro e w7 ⟨rfl, hb⟩; refine ⟨_, rfl, ?_⟩; have n0_ := Aside0.mk (below_step (by repeat (first | (with_reducible first | exact HB.out | apply below_alloc | apply pw_below_drewN | apply below_drew1) | exact HB.out)) hb); clear HB; have HB := n0_; clear n0_; (try clear hb); (try clear hb2); (try clear hk); (try clear hi)) | ((with_reducible refine gate_callee (f := 49) rfl ?_); refine goesL_ (some 9) rfl rfl Try.func49 (by kernel_rfl) rfl #[.agg #[.int .u64 t158, .int .u64 t159, .bool t160]] rfl (by (try simp only [List.map_toArray, List.map_cons, List.map_nil]); first | done | rfl | (simp only [List.length_drop, List.length_take]; rfl)) ?_; (with_reducible refine (fixed_whole_span.calls k t158 t159 t160 t161 _ A5.out).mono ?_); rintro e w8 ⟨rfl, hb⟩; refine ⟨_, rfl, ?_⟩; have n0_ := Aside0.mk (below_step (by repeat (first | (with_reducible first | exact HB.out | apply below_alloc | apply pw_below_drewN | apply below_drew1) | exact HB.out)) hb); clear HB; have HB := n0_; clear n0_; (try clear hb); (try clear hb2); (try clear hk); (try clear hi)))
  go_ret
  exact ⟨by first | rfl | (simp [errW_none, errW_some] <;> rfl) | (simp [*, errW_none, errW_some] <;> rfl), by repeat (first | (with_reducible first | exact HB.out | apply below_alloc | apply pw_below_drewN | apply below_drew1) | exact HB.out)⟩

/-! ### fixed_Rate: function 28 -/
def fixed_Rate.f (k : Nat) (a0 : Int) (a1 : Int) : Option (Int) := if a1 ≤ 0 then (some 0) else ((fixed_product.f a0 281474976710656).bind fun bt162 => ((fixed_whole_over.f k bt162.1 bt162.2.1 bt162.2.2 (IntKind.u64.wrap (a1))).bind fun bt165 => ((fixed_whole_cut.f k bt165.1 bt165.2.1 bt165.2.2 140737488355).bind fun t168 => (some t168))))
theorem fixed_Rate.mono : ∀ a0 a1 k, LeO (fixed_Rate.f k a0 a1) (fixed_Rate.f (k + 1) a0 a1) := by
  intro a0 a1 k
  unfold fixed_Rate.f
  repeat' first
      | (with_reducible exact fixed_whole_cut.mono _ _ _ _ _)
      | (with_reducible exact fixed_whole_over.mono _ _ _ _ _)
      | (with_reducible exact LeO.refl _)
      | (with_reducible exact LeO.none _)
      | (with_reducible refine LeO.ite ?_ ?_)
      | (with_reducible refine LeO.bind ?_ (fun _ => ?_))
      | exact fixed_whole_cut.mono _ _ _ _ _
      | exact fixed_whole_over.mono _ _ _ _ _
      | exact LeO.none _
      | refine LeO.ite ?_ ?_
      | refine LeO.bind ?_ (fun _ => ?_)
set_option maxHeartbeats 8000000 in
set_option maxRecDepth 100000 in
theorem fixed_Rate.calls (k : Nat) (a0 : Int) (a1 : Int) (r : Int) (w : World) (h : fixed_Rate.f k a0 a1 = some r) :
    Calls Try.prog 28 #[.int .i64 a0, .int .i64 a1] w fun e w' => e = .returned (.int .i64 r) ∧ Below w.heap.size w w' := by
  have HB := Aside0.mk (Below.refl w.heap.size w)
  have H : (if a1 ≤ 0 then (some 0) else ((fixed_product.f a0 281474976710656).bind fun bt162 => ((fixed_whole_over.f k bt162.1 bt162.2.1 bt162.2.2 (IntKind.u64.wrap (a1))).bind fun bt165 => ((fixed_whole_cut.f k bt165.1 bt165.2.1 bt165.2.2 140737488355).bind fun t168 => (some t168))))) = some r := h
  clear h
  by_cases c3 : a1 ≤ 0
  · rw [if_pos c3] at H
    have c3b0 : decide (a1 ≤ 0) = true := decide_eq_true c3
    clear c3
    obtain rfl := Option.some.inj H
    go_enter Try.func28, Try.ntmps28
    go_wp2
    go_ret
    exact ⟨by first | rfl | (simp [errW_none, errW_some] <;> rfl) | (simp [*, errW_none, errW_some] <;> rfl), by repeat (first | (with_reducible first | exact HB.out | apply below_alloc | apply pw_below_drewN | apply below_drew1) | exact HB.out)⟩
  · rw [if_neg c3] at H
    have c3b0 : decide (a1 ≤ 0) = false := decide_eq_false c3
    clear c3
    replace H := Option.bind_eq_some_iff.mp H
    obtain ⟨⟨t162, t163, t164⟩, A40, H⟩ := H
    replace H : ((fixed_whole_over.f k t162 t163 t164 (IntKind.u64.wrap (a1))).bind fun bt165 => ((fixed_whole_cut.f k bt165.1 bt165.2.1 bt165.2.2 140737488355).bind fun t168 => (some t168))) = some r := H
    have A4 := Aside0.mk A40
    clear A40
    replace H := Option.bind_eq_some_iff.mp H
    obtain ⟨⟨t165, t166, t167⟩, A50, H⟩ := H
    replace H : ((fixed_whole_cut.f k t165 t166 t167 140737488355).bind fun t168 => (some t168)) = some r := H
    have A5 := Aside0.mk A50
    clear A50
    replace H := Option.bind_eq_some_iff.mp H
    obtain ⟨t168, A60, H⟩ := H
    replace H : (some t168) = some r := H
    have A6 := Aside0.mk A60
    clear A60
    obtain rfl := Option.some.inj H
    go_enter Try.func28, Try.ntmps28
    go_wp2_with (first | ((with_reducible refine gate_callee (f := 58) rfl ?_); refine goesL_ (some 8) rfl rfl Try.func58 (by kernel_rfl) rfl #[.int .i64 a0, .int .i64 281474976710656] rfl (by (try simp only [List.map_toArray, List.map_cons, List.map_nil]); first | done | rfl | (simp only [List.length_drop, List.length_take]; rfl)) ?_; (with_reducible refine (fixed_product.calls a0 281474976710656 t162 t163 t164 _ A4.out).mono ?_); rintro e w7 ⟨rfl, hb⟩; refine ⟨_, rfl, ?_⟩; have n0_ := Aside0.mk (below_step (by repeat (first | (with_reducible first | exact HB.out | apply below_alloc | apply pw_below_drewN | apply below_drew1) | exact HB.out)) hb); clear HB; have HB := n0_; clear n0_; (try clear hb); (try clear hb2); (try clear hk); (try clear hi)) | ((with_reducible refine gate_callee (f := 54) rfl ?_); refine goesL_ (some 11) rfl rfl Try.func54 (by kernel_rfl) rfl #[.agg #[.int .u64 t162, .int .u64 t163, .bool t164], .int .u64 (IntKind.u64.wrap (a1))] rfl (by (try simp only [List.map_toArray, List.map_cons, List.map_nil]); first | done | rfl | (simp only [List.length_drop, List.length_take]; rfl)) ?_; (with_reducible refine (fixed_whole_over.calls k t162 t163 t164 (IntKind.u64.wrap (a1)) t165 t166 t167 _ A5.out).mono ?_); rintro e w8 ⟨rfl, hb⟩; refine ⟨_, rfl, ?_⟩; have n0_ := Aside0.mk (below_step (by repeat (first | (with_reducible first | exact HB.out | apply below_alloc | apply pw_below_drewN | apply below_drew1) | exact HB.out)) hb); clear HB; have HB := n0_; clear n0_; (try clear hb); (try clear hb2); (try clear hk); (try clear hi)) | ((with_reducible refine gate_callee (f := 59) rfl ?_); refine goesL_ (some 12) rfl rfl Try.func59 (by kernel_rfl) rfl #[.agg #[.int .u64 t165, .int .u64 t166, .bool t167], .int .i64 140737488355] rfl (by (try simp only [List.map_toArray, List.map_cons, List.map_nil]); first | done | rfl | (simp only [List.length_drop, List.length_take]; rfl)) ?_; (with_reducible refine (fixed_whole_cut.calls k t165 t166 t167 140737488355 t168 _ A6.out).mono ?_); rintro e w9 ⟨rfl, hb⟩; refine ⟨_, rfl, ?_⟩; have n0_ := Aside0.mk (below_step (by repeat (first | (with_reducible first | exact HB.out | apply below_alloc | apply pw_below_drewN | apply below_drew1) | exact HB.out)) hb); clear HB; have HB := n0_; clear n0_; (try clear hb); (try clear hb2); (try clear hk); (try clear hi)))
    go_ret
    exact ⟨by first | rfl | (simp [errW_none, errW_some] <;> rfl) | (simp [*, errW_none, errW_some] <;> rfl), by repeat (first | (with_reducible first | exact HB.out | apply below_alloc | apply pw_below_drewN | apply below_drew1) | exact HB.out)⟩

/-! ### fixed_Drift: function 29 -/
def fixed_Drift.f (k : Nat) (a0 : Int) (a1 : Int) : Option (Int) := (fixed_product.f a0 a1).bind fun bt169 => ((fixed_whole_over.f k bt169.1 bt169.2.1 bt169.2.2 281474976710656).bind fun bt172 => ((fixed_whole_span.f k bt172.1 bt172.2.1 bt172.2.2).bind fun t175 => (some t175)))
theorem fixed_Drift.mono : ∀ a0 a1 k, LeO (fixed_Drift.f k a0 a1) (fixed_Drift.f (k + 1) a0 a1) := by
  intro a0 a1 k
  unfold fixed_Drift.f
  repeat' first
      | (with_reducible exact fixed_whole_over.mono _ _ _ _ _)
      | (with_reducible exact fixed_whole_span.mono _ _ _ _)
      | (with_reducible exact LeO.refl _)
      | (with_reducible exact LeO.none _)
      | (with_reducible refine LeO.ite ?_ ?_)
      | (with_reducible refine LeO.bind ?_ (fun _ => ?_))
      | exact fixed_whole_over.mono _ _ _ _ _
      | exact fixed_whole_span.mono _ _ _ _
      | exact LeO.none _
      | refine LeO.ite ?_ ?_
      | refine LeO.bind ?_ (fun _ => ?_)
set_option maxHeartbeats 8000000 in
set_option maxRecDepth 100000 in
theorem fixed_Drift.calls (k : Nat) (a0 : Int) (a1 : Int) (r : Int) (w : World) (h : fixed_Drift.f k a0 a1 = some r) :
    Calls Try.prog 29 #[.int .i64 a0, .int .i64 a1] w fun e w' => e = .returned (.int .i64 r) ∧ Below w.heap.size w w' := by
  have HB := Aside0.mk (Below.refl w.heap.size w)
  have H : ((fixed_product.f a0 a1).bind fun bt169 => ((fixed_whole_over.f k bt169.1 bt169.2.1 bt169.2.2 281474976710656).bind fun bt172 => ((fixed_whole_span.f k bt172.1 bt172.2.1 bt172.2.2).bind fun t175 => (some t175)))) = some r := h
  clear h
  replace H := Option.bind_eq_some_iff.mp H
  obtain ⟨⟨t169, t170, t171⟩, A30, H⟩ := H
  replace H : ((fixed_whole_over.f k t169 t170 t171 281474976710656).bind fun bt172 => ((fixed_whole_span.f k bt172.1 bt172.2.1 bt172.2.2).bind fun t175 => (some t175))) = some r := H
  have A3 := Aside0.mk A30
  clear A30
  replace H := Option.bind_eq_some_iff.mp H
  obtain ⟨⟨t172, t173, t174⟩, A40, H⟩ := H
  replace H : ((fixed_whole_span.f k t172 t173 t174).bind fun t175 => (some t175)) = some r := H
  have A4 := Aside0.mk A40
  clear A40
  replace H := Option.bind_eq_some_iff.mp H
  obtain ⟨t175, A50, H⟩ := H
  replace H : (some t175) = some r := H
  have A5 := Aside0.mk A50
  clear A50
  obtain rfl := Option.some.inj H
  go_enter Try.func29, Try.ntmps29
  go_wp2_with (first | ((with_reducible refine gate_callee (f := 58) rfl ?_); refine goesL_ (some 7) rfl rfl Try.func58 (by kernel_rfl) rfl #[.int .i64 a0, .int .i64 a1] rfl (by (try simp only [List.map_toArray, List.map_cons, List.map_nil]); first | done | rfl | (simp only [List.length_drop, List.length_take]; rfl)) ?_; (with_reducible refine (fixed_product.calls a0 a1 t169 t170 t171 _ A3.out).mono ?_); rintro e w6 ⟨rfl, hb⟩; refine ⟨_, rfl, ?_⟩; have n0_ := Aside0.mk (below_step (by repeat (first | (with_reducible first | exact HB.out | apply below_alloc | apply pw_below_drewN | apply below_drew1) | exact HB.out)) hb); clear HB; have HB := n0_; clear n0_; (try clear hb); (try clear hb2); (try clear hk); (try clear hi)) | ((with_reducible refine gate_callee (f := 54) rfl ?_); refine goesL_ (some 8) rfl rfl Try.func54 (by kernel_rfl) rfl #[.agg #[.int .u64 t169, .int .u64 t170, .bool t171], .int .u64 281474976710656] rfl (by (try simp only [List.map_toArray, List.map_cons, List.map_nil]); first | done | rfl | (simp only [List.length_drop, List.length_take]; rfl)) ?_; (with_reducible refine (fixed_whole_over.calls k t169 t170 t171 281474976710656 t172 t173 t174 _ A4.out).mono ?_); rintro e w7 ⟨rfl, hb⟩; refine ⟨_, rfl, ?_⟩; have n0_ := Aside0.mk (below_step (by repeat (first | (with_reducible first | exact HB.out | apply below_alloc | apply pw_below_drewN | apply below_drew1) | exact HB.out)) hb); clear HB; have HB := n0_; clear n0_; (try clear hb); (try clear hb2); (try clear hk); (try clear hi)) | ((with_reducible refine gate_callee (f := 49) rfl ?_); refine goesL_ (some 9) rfl rfl Try.func49 (by kernel_rfl) rfl #[.agg #[.int .u64 t172, .int .u64 t173, .bool t174]] rfl (by (try simp only [List.map_toArray, List.map_cons, List.map_nil]); first | done | rfl | (simp only [List.length_drop, List.length_take]; rfl)) ?_; (with_reducible refine (fixed_whole_span.calls k t172 t173 t174 t175 _ A5.out).mono ?_); rintro e w8 ⟨rfl, hb⟩; refine ⟨_, rfl, ?_⟩; have n0_ := Aside0.mk (below_step (by repeat (first | (with_reducible first | exact HB.out | apply below_alloc | apply pw_below_drewN | apply below_drew1) | exact HB.out)) hb); clear HB; have HB := n0_; clear n0_; (try clear hb); (try clear hb2); (try clear hk); (try clear hi)))
  go_ret
  exact ⟨by first | rfl | (simp [errW_none, errW_some] <;> rfl) | (simp [*, errW_none, errW_some] <;> rfl), by repeat (first | (with_reducible first | exact HB.out | apply below_alloc | apply pw_below_drewN | apply below_drew1) | exact HB.out)⟩

/-! ### fixed_Scale: function 31 -/
def fixed_Scale.f (k : Nat) (a0 : Int) (a1 : Int) (a2 : Int) : Option (Int) := if a2 ≤ 0 then (some 0) else ((fixed_product.f a0 a1).bind fun bt176 => ((fixed_whole_over.f k bt176.1 bt176.2.1 bt176.2.2 (IntKind.u64.wrap (a2))).bind fun bt179 => ((fixed_whole_span.f k bt179.1 bt179.2.1 bt179.2.2).bind fun t182 => (some t182))))
theorem fixed_Scale.mono : ∀ a0 a1 a2 k, LeO (fixed_Scale.f k a0 a1 a2) (fixed_Scale.f (k + 1) a0 a1 a2) := by
  intro a0 a1 a2 k
  unfold fixed_Scale.f
  repeat' first
      | (with_reducible exact fixed_whole_over.mono _ _ _ _ _)
      | (with_reducible exact fixed_whole_span.mono _ _ _ _)
      | (with_reducible exact LeO.refl _)
      | (with_reducible exact LeO.none _)
      | (with_reducible refine LeO.ite ?_ ?_)
      | (with_reducible refine LeO.bind ?_ (fun _ => ?_))
      | exact fixed_whole_over.mono _ _ _ _ _
      | exact fixed_whole_span.mono _ _ _ _
      | exact LeO.none _
      | refine LeO.ite ?_ ?_
      | refine LeO.bind ?_ (fun _ => ?_)
set_option maxHeartbeats 8000000 in
set_option maxRecDepth 100000 in
theorem fixed_Scale.calls (k : Nat) (a0 : Int) (a1 : Int) (a2 : Int) (r : Int) (w : World) (h : fixed_Scale.f k a0 a1 a2 = some r) :
    Calls Try.prog 31 #[.int .i64 a0, .int .i64 a1, .int .i64 a2] w fun e w' => e = .returned (.int .i64 r) ∧ Below w.heap.size w w' := by
  have HB := Aside0.mk (Below.refl w.heap.size w)
  have H : (if a2 ≤ 0 then (some 0) else ((fixed_product.f a0 a1).bind fun bt176 => ((fixed_whole_over.f k bt176.1 bt176.2.1 bt176.2.2 (IntKind.u64.wrap (a2))).bind fun bt179 => ((fixed_whole_span.f k bt179.1 bt179.2.1 bt179.2.2).bind fun t182 => (some t182))))) = some r := h
  clear h
  by_cases c4 : a2 ≤ 0
  · rw [if_pos c4] at H
    have c4b0 : decide (a2 ≤ 0) = true := decide_eq_true c4
    clear c4
    obtain rfl := Option.some.inj H
    go_enter Try.func31, Try.ntmps31
    go_wp2
    go_ret
    exact ⟨by first | rfl | (simp [errW_none, errW_some] <;> rfl) | (simp [*, errW_none, errW_some] <;> rfl), by repeat (first | (with_reducible first | exact HB.out | apply below_alloc | apply pw_below_drewN | apply below_drew1) | exact HB.out)⟩
  · rw [if_neg c4] at H
    have c4b0 : decide (a2 ≤ 0) = false := decide_eq_false c4
    clear c4
    replace H := Option.bind_eq_some_iff.mp H
    obtain ⟨⟨t176, t177, t178⟩, A50, H⟩ := H
    replace H : ((fixed_whole_over.f k t176 t177 t178 (IntKind.u64.wrap (a2))).bind fun bt179 => ((fixed_whole_span.f k bt179.1 bt179.2.1 bt179.2.2).bind fun t182 => (some t182))) = some r := H
    have A5 := Aside0.mk A50
    clear A50
    replace H := Option.bind_eq_some_iff.mp H
    obtain ⟨⟨t179, t180, t181⟩, A60, H⟩ := H
    replace H : ((fixed_whole_span.f k t179 t180 t181).bind fun t182 => (some t182)) = some r := H
    have A6 := Aside0.mk A60
    clear A60
    replace H := Option.bind_eq_some_iff.mp H
    obtain ⟨t182, A70, H⟩ := H
    replace H : (some t182) = some r := H
    have A7 := Aside0.mk A70
    clear A70
    obtain rfl := Option.some.inj H
    go_enter Try.func31, Try.ntmps31
    go_wp2_with (first | ((with_reducible refine gate_callee (f := 58) rfl ?_); refine goesL_ (some 11) rfl rfl Try.func58 (by kernel_rfl) rfl #[.int .i64 a0, .int .i64 a1] rfl (by (try simp only [List.map_toArray, List.map_cons, List.map_nil]); first | done | rfl | (simp only [List.length_drop, List.length_take]; rfl)) ?_; (with_reducible refine (fixed_product.calls a0 a1 t176 t177 t178 _ A5.out).mono ?_); rintro e w8 ⟨rfl, hb⟩; refine ⟨_, rfl, ?_⟩; have n0_ := Aside0.mk (below_step (by repeat (first | (with_reducible first | exact HB.out | apply below_alloc | apply pw_below_drewN | apply below_drew1) | exact HB.out)) hb); clear HB; have HB := n0_; clear n0_; (try clear hb); (try clear hb2); (try clear hk); (try clear hi)) | ((with_reducible refine gate_callee (f := 54) rfl ?_); refine goesL_ (some 14) rfl rfl Try.func54 (by kernel_rfl) rfl #[.agg #[.int .u64 t176, .int .u64 t177, .bool t178], .int .u64 (IntKind.u64.wrap (a2))] rfl (by (try simp only [List.map_toArray, List.map_cons, List.map_nil]); first | done | rfl | (simp only [List.length_drop, List.length_take]; rfl)) ?_; (with_reducible refine (fixed_whole_over.calls k t176 t177 t178 (IntKind.u64.wrap (a2)) t179 t180 t181 _ A6.out).mono ?_); rintro e w9 ⟨rfl, hb⟩; refine ⟨_, rfl, ?_⟩; have n0_ := Aside0.mk (below_step (by repeat (first | (with_reducible first | exact HB.out | apply below_alloc | apply pw_below_drewN | apply below_drew1) | exact HB.out)) hb); clear HB; have HB := n0_; clear n0_; (try clear hb); (try clear hb2); (try clear hk); (try clear hi)) | ((with_reducible refine gate_callee (f := 49) rfl ?_); refine goesL_ (some 15) rfl rfl Try.func49 (by kernel_rfl) rfl #[.agg #[.int .u64 t179, .int .u64 t180, .bool t181]] rfl (by (try simp only [List.map_toArray, List.map_cons, List.map_nil]); first | done | rfl | (simp only [List.length_drop, List.length_take]; rfl)) ?_; (with_reducible refine (fixed_whole_span.calls k t179 t180 t181 t182 _ A7.out).mono ?_); rintro e w10 ⟨rfl, hb⟩; refine ⟨_, rfl, ?_⟩; have n0_ := Aside0.mk (below_step (by repeat (first | (with_reducible first | exact HB.out | apply below_alloc | apply pw_below_drewN | apply below_drew1) | exact HB.out)) hb); clear HB; have HB := n0_; clear n0_; (try clear hb); (try clear hb2); (try clear hk); (try clear hi)))
    go_ret
    exact ⟨by first | rfl | (simp [errW_none, errW_some] <;> rfl) | (simp [*, errW_none, errW_some] <;> rfl), by repeat (first | (with_reducible first | exact HB.out | apply below_alloc | apply pw_below_drewN | apply below_drew1) | exact HB.out)⟩

/-! ### fixed_Cut: function 41 -/
def fixed_Cut.f (k : Nat) (a0 : Int) : Option (Int) := (fixed_size.f a0).bind fun bt183 => ((fixed_whole_cut.f k 0 bt183.1 bt183.2 140737488355).bind fun t185 => (some t185))
theorem fixed_Cut.mono : ∀ a0 k, LeO (fixed_Cut.f k a0) (fixed_Cut.f (k + 1) a0) := by
  intro a0 k
  unfold fixed_Cut.f
  repeat' first
      | (with_reducible exact fixed_whole_cut.mono _ _ _ _ _)
      | (with_reducible exact LeO.refl _)
      | (with_reducible exact LeO.none _)
      | (with_reducible refine LeO.ite ?_ ?_)
      | (with_reducible refine LeO.bind ?_ (fun _ => ?_))
      | exact fixed_whole_cut.mono _ _ _ _ _
      | exact LeO.none _
      | refine LeO.ite ?_ ?_
      | refine LeO.bind ?_ (fun _ => ?_)
set_option maxHeartbeats 8000000 in
set_option maxRecDepth 100000 in
theorem fixed_Cut.calls (k : Nat) (a0 : Int) (r : Int) (w : World) (h : fixed_Cut.f k a0 = some r) :
    Calls Try.prog 41 #[.int .i64 a0] w fun e w' => e = .returned (.int .i64 r) ∧ Below w.heap.size w w' := by
  have hu51 := Try.underlying51
  have HB := Aside0.mk (Below.refl w.heap.size w)
  have H : ((fixed_size.f a0).bind fun bt183 => ((fixed_whole_cut.f k 0 bt183.1 bt183.2 140737488355).bind fun t185 => (some t185))) = some r := h
  clear h
  replace H := Option.bind_eq_some_iff.mp H
  obtain ⟨⟨t183, t184⟩, A20, H⟩ := H
  replace H : ((fixed_whole_cut.f k 0 t183 t184 140737488355).bind fun t185 => (some t185)) = some r := H
  have A2 := Aside0.mk A20
  clear A20
  replace H := Option.bind_eq_some_iff.mp H
  obtain ⟨t185, A30, H⟩ := H
  replace H : (some t185) = some r := H
  have A3 := Aside0.mk A30
  clear A30
  obtain rfl := Option.some.inj H
  go_enter Try.func41, Try.ntmps41
  go_wp2_with (first | ((with_reducible refine gate_callee (f := 53) rfl ?_); refine goesL_ (some 7) rfl rfl Try.func53 (by kernel_rfl) rfl #[.int .i64 a0] rfl (by (try simp only [List.map_toArray, List.map_cons, List.map_nil]); first | done | rfl | (simp only [List.length_drop, List.length_take]; rfl)) ?_; (with_reducible refine (fixed_size.calls a0 t183 t184 _ A2.out).mono ?_); rintro e w' ⟨rfl, ⟨nd, rfl⟩⟩; refine ⟨_, rfl, ?_⟩) | ((with_reducible refine gate_callee (f := 59) rfl ?_); refine goesL_ (some 13) rfl rfl Try.func59 (by kernel_rfl) rfl #[.agg #[.int .u64 0, .int .u64 t183, .bool t184], .int .i64 140737488355] rfl (by (try simp only [List.map_toArray, List.map_cons, List.map_nil]); first | done | rfl | (simp only [List.length_drop, List.length_take]; rfl)) ?_; (with_reducible refine (fixed_whole_cut.calls k 0 t183 t184 140737488355 t185 _ A3.out).mono ?_); rintro e w4 ⟨rfl, hb⟩; refine ⟨_, rfl, ?_⟩; have n0_ := Aside0.mk (below_step (by repeat (first | (with_reducible first | exact HB.out | apply below_alloc | apply pw_below_drewN | apply below_drew1) | exact HB.out)) hb); clear HB; have HB := n0_; clear n0_; (try clear hb); (try clear hb2); (try clear hk); (try clear hi)))
  go_ret
  exact ⟨by first | rfl | (simp [errW_none, errW_some] <;> rfl) | (simp [*, errW_none, errW_some] <;> rfl), by repeat (first | (with_reducible first | exact HB.out | apply below_alloc | apply pw_below_drewN | apply below_drew1) | exact HB.out)⟩

/-! ### foliotlaw01_spans: function 43 -/
def foliotlaw01_spans.f (a0 : Int) : Option (Bool) := if a0 ≤ 4611686018427387904 then (some (decide (a0 ≥ (-4611686018427387904)))) else (some false)
set_option maxHeartbeats 8000000 in
set_option maxRecDepth 100000 in
theorem foliotlaw01_spans.calls (a0 : Int) (r : Bool) (w : World) (h : foliotlaw01_spans.f a0 = some r) :
    Calls Try.prog 43 #[.int .i64 a0] w fun e w' => e = .returned (.bool r) ∧ Drawn0 w w' := by
  have H : (if a0 ≤ 4611686018427387904 then (some (decide (a0 ≥ (-4611686018427387904)))) else (some false)) = some r := h
  clear h
  by_cases c2 : a0 ≤ 4611686018427387904
  · rw [if_pos c2] at H
    have c2b0 : decide (a0 ≤ 4611686018427387904) = true := decide_eq_true c2
    clear c2
    obtain rfl := Option.some.inj H
    go_enter Try.func43, Try.ntmps43
    go_wp2
    go_ret
    exact ⟨by first | rfl | (simp; done) | (simp [*]; done), by repeat (first | exact Drawn0.refl _ | apply Drawn0.step)⟩
  · rw [if_neg c2] at H
    have c2b0 : decide (a0 ≤ 4611686018427387904) = false := decide_eq_false c2
    clear c2
    obtain rfl := Option.some.inj H
    go_enter Try.func43, Try.ntmps43
    go_wp2
    go_ret
    exact ⟨by first | rfl | (simp; done) | (simp [*]; done), by repeat (first | exact Drawn0.refl _ | apply Drawn0.step)⟩

/-! ### foliotlaw01_FixedInside: function 10 -/
mutual
def foliotlaw01_FixedInside.l0 : Nat → Int → Int → List Int → Int → Option (Bool)
  | 0, _, _, _, _ => none
  | k + 1, x0, x1, x9, x10 => if x10 < (x9.length : Int) then (if 0 ≤ x10 then ((foliotlaw01_spans.f (rd x9 x10)).bind fun t200 => (if t200 = true then (foliotlaw01_FixedInside.l0 k x0 x1 x9 (wrap64 (x10 + 1))) else (some false))) else (none)) else ((fixed_Rate.f k x0 x1).bind fun t201 => (if t201 > 140737488355 then (foliotlaw01_FixedInside.j1 k x0 true) else (if t201 < (-140737488355) then (foliotlaw01_FixedInside.j1 k x0 true) else ((fixed_Cut.f k t201).bind fun t202 => (foliotlaw01_FixedInside.j1 k x0 (t202 != t201))))))
def foliotlaw01_FixedInside.j1 : Nat → Int → Bool → Option (Bool)
  | 0, _, _ => none
  | k + 1, x0, x69 => if x69 = true then (some false) else ((foliotlaw01_spans.f x0).bind fun t203 => (if t203 = true then ((fixed_Add.f k x0 0).bind fun t204 => (if t204 = x0 then ((fixed_Clamp.f k x0 4611686018427387904).bind fun t205 => (if t205 = x0 then ((fixed_Neg.f k x0).bind fun t206 => ((fixed_Neg.f k t206).bind fun t207 => (if t207 = x0 then ((fixed_Shift.f k x0 0).bind fun t208 => (if t208 = x0 then ((fixed_Mul.f k x0 4294967296).bind fun t209 => (some (t209 == x0))) else (some false))) else (some false)))) else (some false))) else (some false))) else (some true)))
end
def foliotlaw01_FixedInside.f (k : Nat) (a0 : Int) (a1 : Int) (a2 : Int) (a3 : Int) : Option (Bool) := (fixed_Add.f k a0 a1).bind fun t186 => ((fixed_Sub.f k a0 a1).bind fun t187 => ((fixed_Mean.f k a0 a1).bind fun t188 => ((fixed_Mul.f k a0 a1).bind fun t189 => ((fixed_Scale.f k a0 a2 (wrap64 (a2 + 1))).bind fun t190 => ((fixed_Shift.f k a0 a2).bind fun t191 => ((fixed_Root.f k a0).bind fun t192 => ((fixed_Power.f k a2).bind fun t193 => ((fixed_Drift.f k a3 a0).bind fun t194 => ((fixed_Clamp.f k a0 a1).bind fun t195 => (foliotlaw01_FixedInside.l0 k a0 a1 (([t186, t187, t188, t189, t190, t191, t192, t193, t194, t195] : List Int)) 0))))))))))
theorem foliotlaw01_FixedInside.mono_l : ∀ k, (∀ y0 y1 y2 y3, LeO (foliotlaw01_FixedInside.l0 k y0 y1 y2 y3) (foliotlaw01_FixedInside.l0 (k + 1) y0 y1 y2 y3)) ∧ (∀ y0 y1, LeO (foliotlaw01_FixedInside.j1 k y0 y1) (foliotlaw01_FixedInside.j1 (k + 1) y0 y1))
  | 0 => ⟨fun _ _ _ _ r h => by simp [foliotlaw01_FixedInside.l0] at h, fun _ _ r h => by simp [foliotlaw01_FixedInside.j1] at h⟩
  | k + 1 => by
    obtain ⟨ih0, ih1⟩ := foliotlaw01_FixedInside.mono_l k
    refine ⟨?_, ?_⟩
    · intro y0 y1 y2 y3
      unfold foliotlaw01_FixedInside.l0
      repeat' first
      | (with_reducible exact ih0 _ _ _ _)
      | (with_reducible exact ih1 _ _)
      | (with_reducible exact fixed_Add.mono _ _ _)
      | (with_reducible exact fixed_Clamp.mono _ _ _)
      | (with_reducible exact fixed_Cut.mono _ _)
      | (with_reducible exact fixed_Drift.mono _ _ _)
      | (with_reducible exact fixed_Mean.mono _ _ _)
      | (with_reducible exact fixed_Mul.mono _ _ _)
      | (with_reducible exact fixed_Neg.mono _ _)
      | (with_reducible exact fixed_Power.mono _ _)
      | (with_reducible exact fixed_Rate.mono _ _ _)
      | (with_reducible exact fixed_Root.mono _ _)
      | (with_reducible exact fixed_Scale.mono _ _ _ _)
      | (with_reducible exact fixed_Shift.mono _ _ _)
      | (with_reducible exact fixed_Sub.mono _ _ _)
      | (with_reducible exact LeO.refl _)
      | (with_reducible exact LeO.none _)
      | (with_reducible refine LeO.ite ?_ ?_)
      | (with_reducible refine LeO.bind ?_ (fun _ => ?_))
      | exact ih0 _ _ _ _
      | exact ih1 _ _
      | exact fixed_Add.mono _ _ _
      | exact fixed_Clamp.mono _ _ _
      | exact fixed_Cut.mono _ _
      | exact fixed_Drift.mono _ _ _
      | exact fixed_Mean.mono _ _ _
      | exact fixed_Mul.mono _ _ _
      | exact fixed_Neg.mono _ _
      | exact fixed_Power.mono _ _
      | exact fixed_Rate.mono _ _ _
      | exact fixed_Root.mono _ _
      | exact fixed_Scale.mono _ _ _ _
      | exact fixed_Shift.mono _ _ _
      | exact fixed_Sub.mono _ _ _
      | exact LeO.none _
      | refine LeO.ite ?_ ?_
      | refine LeO.bind ?_ (fun _ => ?_)
    · intro y0 y1
      unfold foliotlaw01_FixedInside.j1
      repeat' first
      | (with_reducible exact ih0 _ _ _ _)
      | (with_reducible exact ih1 _ _)
      | (with_reducible exact fixed_Add.mono _ _ _)
      | (with_reducible exact fixed_Clamp.mono _ _ _)
      | (with_reducible exact fixed_Cut.mono _ _)
      | (with_reducible exact fixed_Drift.mono _ _ _)
      | (with_reducible exact fixed_Mean.mono _ _ _)
      | (with_reducible exact fixed_Mul.mono _ _ _)
      | (with_reducible exact fixed_Neg.mono _ _)
      | (with_reducible exact fixed_Power.mono _ _)
      | (with_reducible exact fixed_Rate.mono _ _ _)
      | (with_reducible exact fixed_Root.mono _ _)
      | (with_reducible exact fixed_Scale.mono _ _ _ _)
      | (with_reducible exact fixed_Shift.mono _ _ _)
      | (with_reducible exact fixed_Sub.mono _ _ _)
      | (with_reducible exact LeO.refl _)
      | (with_reducible exact LeO.none _)
      | (with_reducible refine LeO.ite ?_ ?_)
      | (with_reducible refine LeO.bind ?_ (fun _ => ?_))
      | exact ih0 _ _ _ _
      | exact ih1 _ _
      | exact fixed_Add.mono _ _ _
      | exact fixed_Clamp.mono _ _ _
      | exact fixed_Cut.mono _ _
      | exact fixed_Drift.mono _ _ _
      | exact fixed_Mean.mono _ _ _
      | exact fixed_Mul.mono _ _ _
      | exact fixed_Neg.mono _ _
      | exact fixed_Power.mono _ _
      | exact fixed_Rate.mono _ _ _
      | exact fixed_Root.mono _ _
      | exact fixed_Scale.mono _ _ _ _
      | exact fixed_Shift.mono _ _ _
      | exact fixed_Sub.mono _ _ _
      | exact LeO.none _
      | refine LeO.ite ?_ ?_
      | refine LeO.bind ?_ (fun _ => ?_)
theorem foliotlaw01_FixedInside.mono : ∀ a0 a1 a2 a3 k, LeO (foliotlaw01_FixedInside.f k a0 a1 a2 a3) (foliotlaw01_FixedInside.f (k + 1) a0 a1 a2 a3) := by
  intro a0 a1 a2 a3 k
  obtain ⟨ih0, ih1⟩ := foliotlaw01_FixedInside.mono_l k
  unfold foliotlaw01_FixedInside.f
  repeat' first
      | (with_reducible exact ih0 _ _ _ _)
      | (with_reducible exact ih1 _ _)
      | (with_reducible exact fixed_Add.mono _ _ _)
      | (with_reducible exact fixed_Clamp.mono _ _ _)
      | (with_reducible exact fixed_Cut.mono _ _)
      | (with_reducible exact fixed_Drift.mono _ _ _)
      | (with_reducible exact fixed_Mean.mono _ _ _)
      | (with_reducible exact fixed_Mul.mono _ _ _)
      | (with_reducible exact fixed_Neg.mono _ _)
      | (with_reducible exact fixed_Power.mono _ _)
      | (with_reducible exact fixed_Rate.mono _ _ _)
      | (with_reducible exact fixed_Root.mono _ _)
      | (with_reducible exact fixed_Scale.mono _ _ _ _)
      | (with_reducible exact fixed_Shift.mono _ _ _)
      | (with_reducible exact fixed_Sub.mono _ _ _)
      | (with_reducible exact LeO.refl _)
      | (with_reducible exact LeO.none _)
      | (with_reducible refine LeO.ite ?_ ?_)
      | (with_reducible refine LeO.bind ?_ (fun _ => ?_))
      | exact ih0 _ _ _ _
      | exact ih1 _ _
      | exact fixed_Add.mono _ _ _
      | exact fixed_Clamp.mono _ _ _
      | exact fixed_Cut.mono _ _
      | exact fixed_Drift.mono _ _ _
      | exact fixed_Mean.mono _ _ _
      | exact fixed_Mul.mono _ _ _
      | exact fixed_Neg.mono _ _
      | exact fixed_Power.mono _ _
      | exact fixed_Rate.mono _ _ _
      | exact fixed_Root.mono _ _
      | exact fixed_Scale.mono _ _ _ _
      | exact fixed_Shift.mono _ _ _
      | exact fixed_Sub.mono _ _ _
      | exact LeO.none _
      | refine LeO.ite ?_ ?_
      | refine LeO.bind ?_ (fun _ => ?_)
set_option maxHeartbeats 8000000 in
set_option maxRecDepth 100000 in
theorem foliotlaw01_FixedInside.calls (k : Nat) (a0 : Int) (a1 : Int) (a2 : Int) (a3 : Int) (r : Bool) (w : World) (h : foliotlaw01_FixedInside.f k a0 a1 a2 a3 = some r) :
    Calls Try.prog 10 #[.int .i64 a0, .int .i64 a1, .int .i64 a2, .int .i64 a3] w fun e w' => e = .returned (.bool r) ∧ Below w.heap.size w w' := by
  have HB := Aside0.mk (Below.refl w.heap.size w)
  have H : ((fixed_Add.f k a0 a1).bind fun t186 => ((fixed_Sub.f k a0 a1).bind fun t187 => ((fixed_Mean.f k a0 a1).bind fun t188 => ((fixed_Mul.f k a0 a1).bind fun t189 => ((fixed_Scale.f k a0 a2 (wrap64 (a2 + 1))).bind fun t190 => ((fixed_Shift.f k a0 a2).bind fun t191 => ((fixed_Root.f k a0).bind fun t192 => ((fixed_Power.f k a2).bind fun t193 => ((fixed_Drift.f k a3 a0).bind fun t194 => ((fixed_Clamp.f k a0 a1).bind fun t195 => (foliotlaw01_FixedInside.l0 k a0 a1 (([t186, t187, t188, t189, t190, t191, t192, t193, t194, t195] : List Int)) 0))))))))))) = some r := h
  clear h
  replace H := Option.bind_eq_some_iff.mp H
  obtain ⟨t186, A50, H⟩ := H
  replace H : ((fixed_Sub.f k a0 a1).bind fun t187 => ((fixed_Mean.f k a0 a1).bind fun t188 => ((fixed_Mul.f k a0 a1).bind fun t189 => ((fixed_Scale.f k a0 a2 (wrap64 (a2 + 1))).bind fun t190 => ((fixed_Shift.f k a0 a2).bind fun t191 => ((fixed_Root.f k a0).bind fun t192 => ((fixed_Power.f k a2).bind fun t193 => ((fixed_Drift.f k a3 a0).bind fun t194 => ((fixed_Clamp.f k a0 a1).bind fun t195 => (foliotlaw01_FixedInside.l0 k a0 a1 (([t186, t187, t188, t189, t190, t191, t192, t193, t194, t195] : List Int)) 0)))))))))) = some r := H
  have A5 := Aside0.mk A50
  clear A50
  replace H := Option.bind_eq_some_iff.mp H
  obtain ⟨t187, A60, H⟩ := H
  replace H : ((fixed_Mean.f k a0 a1).bind fun t188 => ((fixed_Mul.f k a0 a1).bind fun t189 => ((fixed_Scale.f k a0 a2 (wrap64 (a2 + 1))).bind fun t190 => ((fixed_Shift.f k a0 a2).bind fun t191 => ((fixed_Root.f k a0).bind fun t192 => ((fixed_Power.f k a2).bind fun t193 => ((fixed_Drift.f k a3 a0).bind fun t194 => ((fixed_Clamp.f k a0 a1).bind fun t195 => (foliotlaw01_FixedInside.l0 k a0 a1 (([t186, t187, t188, t189, t190, t191, t192, t193, t194, t195] : List Int)) 0))))))))) = some r := H
  have A6 := Aside0.mk A60
  clear A60
  replace H := Option.bind_eq_some_iff.mp H
  obtain ⟨t188, A70, H⟩ := H
  replace H : ((fixed_Mul.f k a0 a1).bind fun t189 => ((fixed_Scale.f k a0 a2 (wrap64 (a2 + 1))).bind fun t190 => ((fixed_Shift.f k a0 a2).bind fun t191 => ((fixed_Root.f k a0).bind fun t192 => ((fixed_Power.f k a2).bind fun t193 => ((fixed_Drift.f k a3 a0).bind fun t194 => ((fixed_Clamp.f k a0 a1).bind fun t195 => (foliotlaw01_FixedInside.l0 k a0 a1 (([t186, t187, t188, t189, t190, t191, t192, t193, t194, t195] : List Int)) 0)))))))) = some r := H
  have A7 := Aside0.mk A70
  clear A70
  replace H := Option.bind_eq_some_iff.mp H
  obtain ⟨t189, A80, H⟩ := H
  replace H : ((fixed_Scale.f k a0 a2 (wrap64 (a2 + 1))).bind fun t190 => ((fixed_Shift.f k a0 a2).bind fun t191 => ((fixed_Root.f k a0).bind fun t192 => ((fixed_Power.f k a2).bind fun t193 => ((fixed_Drift.f k a3 a0).bind fun t194 => ((fixed_Clamp.f k a0 a1).bind fun t195 => (foliotlaw01_FixedInside.l0 k a0 a1 (([t186, t187, t188, t189, t190, t191, t192, t193, t194, t195] : List Int)) 0))))))) = some r := H
  have A8 := Aside0.mk A80
  clear A80
  replace H := Option.bind_eq_some_iff.mp H
  obtain ⟨t190, A90, H⟩ := H
  replace H : ((fixed_Shift.f k a0 a2).bind fun t191 => ((fixed_Root.f k a0).bind fun t192 => ((fixed_Power.f k a2).bind fun t193 => ((fixed_Drift.f k a3 a0).bind fun t194 => ((fixed_Clamp.f k a0 a1).bind fun t195 => (foliotlaw01_FixedInside.l0 k a0 a1 (([t186, t187, t188, t189, t190, t191, t192, t193, t194, t195] : List Int)) 0)))))) = some r := H
  have A9 := Aside0.mk A90
  clear A90
  replace H := Option.bind_eq_some_iff.mp H
  obtain ⟨t191, A100, H⟩ := H
  replace H : ((fixed_Root.f k a0).bind fun t192 => ((fixed_Power.f k a2).bind fun t193 => ((fixed_Drift.f k a3 a0).bind fun t194 => ((fixed_Clamp.f k a0 a1).bind fun t195 => (foliotlaw01_FixedInside.l0 k a0 a1 (([t186, t187, t188, t189, t190, t191, t192, t193, t194, t195] : List Int)) 0))))) = some r := H
  have A10 := Aside0.mk A100
  clear A100
  replace H := Option.bind_eq_some_iff.mp H
  obtain ⟨t192, A110, H⟩ := H
  replace H : ((fixed_Power.f k a2).bind fun t193 => ((fixed_Drift.f k a3 a0).bind fun t194 => ((fixed_Clamp.f k a0 a1).bind fun t195 => (foliotlaw01_FixedInside.l0 k a0 a1 (([t186, t187, t188, t189, t190, t191, t192, t193, t194, t195] : List Int)) 0)))) = some r := H
  have A11 := Aside0.mk A110
  clear A110
  replace H := Option.bind_eq_some_iff.mp H
  obtain ⟨t193, A120, H⟩ := H
  replace H : ((fixed_Drift.f k a3 a0).bind fun t194 => ((fixed_Clamp.f k a0 a1).bind fun t195 => (foliotlaw01_FixedInside.l0 k a0 a1 (([t186, t187, t188, t189, t190, t191, t192, t193, t194, t195] : List Int)) 0))) = some r := H
  have A12 := Aside0.mk A120
  clear A120
  replace H := Option.bind_eq_some_iff.mp H
  obtain ⟨t194, A130, H⟩ := H
  replace H : ((fixed_Clamp.f k a0 a1).bind fun t195 => (foliotlaw01_FixedInside.l0 k a0 a1 (([t186, t187, t188, t189, t190, t191, t192, t193, t194, t195] : List Int)) 0)) = some r := H
  have A13 := Aside0.mk A130
  clear A130
  replace H := Option.bind_eq_some_iff.mp H
  obtain ⟨t195, A140, H⟩ := H
  replace H : (foliotlaw01_FixedInside.l0 k a0 a1 (([t186, t187, t188, t189, t190, t191, t192, t193, t194, t195] : List Int)) 0) = some r := H
  have A14 := Aside0.mk A140
  clear A140
  obtain ⟨y196, hy196⟩ : ∃ y_ : List Int, y_ = (([t186, t187, t188, t189, t190, t191, t192, t193, t194, t195] : List Int)) := ⟨_, rfl⟩
  replace H : (foliotlaw01_FixedInside.l0 k a0 a1 y196 0) = some r := by first | (rw [hy196]; with_reducible exact H) | (have H2_ := (Option.bind_some _ _).symm.trans H; rw [hy196]; with_reducible exact H2_) | (have H2_ := (Option.bind_some _ _).symm.trans H; with_reducible exact H2_) | with_reducible exact H | (rw [hy196]; exact H) | exact H
  have Ny196 := Aside0.mk hy196
  clear hy196
  have H' := Aside0.mk H
  clear H
  go_enter Try.func10, Try.ntmps10
  go_wp2_with (first | ((with_reducible refine gate_callee (f := 14) rfl ?_); refine goesL_ (some 14) rfl rfl Try.func14 (by kernel_rfl) rfl #[.int .i64 a0, .int .i64 a1] rfl (by (try simp only [List.map_toArray, List.map_cons, List.map_nil]); first | done | rfl | (simp only [List.length_drop, List.length_take]; rfl)) ?_; (with_reducible refine (fixed_Add.calls k a0 a1 t186 _ A5.out).mono ?_); rintro e w15 ⟨rfl, hb⟩; refine ⟨_, rfl, ?_⟩; have n0_ := Aside0.mk (below_step (by repeat (first | (with_reducible first | exact HB.out | apply below_alloc | apply pw_below_drewN | apply below_drew1) | exact HB.out)) hb); clear HB; have HB := n0_; clear n0_; (try clear hb); (try clear hb2); (try clear hk); (try clear hi)) | ((with_reducible refine gate_callee (f := 16) rfl ?_); refine goesL_ (some 17) rfl rfl Try.func16 (by kernel_rfl) rfl #[.int .i64 a0, .int .i64 a1] rfl (by (try simp only [List.map_toArray, List.map_cons, List.map_nil]); first | done | rfl | (simp only [List.length_drop, List.length_take]; rfl)) ?_; (with_reducible refine (fixed_Sub.calls k a0 a1 t187 _ A6.out).mono ?_); rintro e w16 ⟨rfl, hb⟩; refine ⟨_, rfl, ?_⟩; have n0_ := Aside0.mk (below_step (by repeat (first | (with_reducible first | exact HB.out | apply below_alloc | apply pw_below_drewN | apply below_drew1) | exact HB.out)) hb); clear HB; have HB := n0_; clear n0_; (try clear hb); (try clear hb2); (try clear hk); (try clear hi)) | ((with_reducible refine gate_callee (f := 22) rfl ?_); refine goesL_ (some 20) rfl rfl Try.func22 (by kernel_rfl) rfl #[.int .i64 a0, .int .i64 a1] rfl (by (try simp only [List.map_toArray, List.map_cons, List.map_nil]); first | done | rfl | (simp only [List.length_drop, List.length_take]; rfl)) ?_; (with_reducible refine (fixed_Mean.calls k a0 a1 t188 _ A7.out).mono ?_); rintro e w17 ⟨rfl, hb⟩; refine ⟨_, rfl, ?_⟩; have n0_ := Aside0.mk (below_step (by repeat (first | (with_reducible first | exact HB.out | apply below_alloc | apply pw_below_drewN | apply below_drew1) | exact HB.out)) hb); clear HB; have HB := n0_; clear n0_; (try clear hb); (try clear hb2); (try clear hk); (try clear hi)) | ((with_reducible refine gate_callee (f := 27) rfl ?_); refine goesL_ (some 23) rfl rfl Try.func27 (by kernel_rfl) rfl #[.int .i64 a0, .int .i64 a1] rfl (by (try simp only [List.map_toArray, List.map_cons, List.map_nil]); first | done | rfl | (simp only [List.length_drop, List.length_take]; rfl)) ?_; (with_reducible refine (fixed_Mul.calls k a0 a1 t189 _ A8.out).mono ?_); rintro e w18 ⟨rfl, hb⟩; refine ⟨_, rfl, ?_⟩; have n0_ := Aside0.mk (below_step (by repeat (first | (with_reducible first | exact HB.out | apply below_alloc | apply pw_below_drewN | apply below_drew1) | exact HB.out)) hb); clear HB; have HB := n0_; clear n0_; (try clear hb); (try clear hb2); (try clear hk); (try clear hi)) | ((with_reducible refine gate_callee (f := 31) rfl ?_); refine goesL_ (some 28) rfl rfl Try.func31 (by kernel_rfl) rfl #[.int .i64 a0, .int .i64 a2, .int .i64 (wrap64 (a2 + 1))] rfl (by (try simp only [List.map_toArray, List.map_cons, List.map_nil]); first | done | rfl | (simp only [List.length_drop, List.length_take]; rfl)) ?_; (with_reducible refine (fixed_Scale.calls k a0 a2 (wrap64 (a2 + 1)) t190 _ A9.out).mono ?_); rintro e w19 ⟨rfl, hb⟩; refine ⟨_, rfl, ?_⟩; have n0_ := Aside0.mk (below_step (by repeat (first | (with_reducible first | exact HB.out | apply below_alloc | apply pw_below_drewN | apply below_drew1) | exact HB.out)) hb); clear HB; have HB := n0_; clear n0_; (try clear hb); (try clear hb2); (try clear hk); (try clear hi)) | ((with_reducible refine gate_callee (f := 33) rfl ?_); refine goesL_ (some 31) rfl rfl Try.func33 (by kernel_rfl) rfl #[.int .i64 a0, .int .i64 a2] rfl (by (try simp only [List.map_toArray, List.map_cons, List.map_nil]); first | done | rfl | (simp only [List.length_drop, List.length_take]; rfl)) ?_; (with_reducible refine (fixed_Shift.calls k a0 a2 t191 _ A10.out).mono ?_); rintro e w20 ⟨rfl, hb⟩; refine ⟨_, rfl, ?_⟩; have n0_ := Aside0.mk (below_step (by repeat (first | (with_reducible first | exact HB.out | apply below_alloc | apply pw_below_drewN | apply below_drew1) | exact HB.out)) hb); clear HB; have HB := n0_; clear n0_; (try clear hb); (try clear hb2); (try clear hk); (try clear hi)) | ((with_reducible refine gate_callee (f := 26) rfl ?_); refine goesL_ (some 33) rfl rfl Try.func26 (by kernel_rfl) rfl #[.int .i64 a0] rfl (by (try simp only [List.map_toArray, List.map_cons, List.map_nil]); first | done | rfl | (simp only [List.length_drop, List.length_take]; rfl)) ?_; (with_reducible refine (fixed_Root.calls k a0 t192 _ A11.out).mono ?_); rintro e w21 ⟨rfl, hb⟩; refine ⟨_, rfl, ?_⟩; have n0_ := Aside0.mk (below_step (by repeat (first | (with_reducible first | exact HB.out | apply below_alloc | apply pw_below_drewN | apply below_drew1) | exact HB.out)) hb); clear HB; have HB := n0_; clear n0_; (try clear hb); (try clear hb2); (try clear hk); (try clear hi)) | ((with_reducible refine gate_callee (f := 13) rfl ?_); refine goesL_ (some 35) rfl rfl Try.func13 (by kernel_rfl) rfl #[.int .i64 a2] rfl (by (try simp only [List.map_toArray, List.map_cons, List.map_nil]); first | done | rfl | (simp only [List.length_drop, List.length_take]; rfl)) ?_; (with_reducible refine (fixed_Power.calls k a2 t193 _ A12.out).mono ?_); rintro e w22 ⟨rfl, hb⟩; refine ⟨_, rfl, ?_⟩; have n0_ := Aside0.mk (below_step (by repeat (first | (with_reducible first | exact HB.out | apply below_alloc | apply pw_below_drewN | apply below_drew1) | exact HB.out)) hb); clear HB; have HB := n0_; clear n0_; (try clear hb); (try clear hb2); (try clear hk); (try clear hi)) | ((with_reducible refine gate_callee (f := 29) rfl ?_); refine goesL_ (some 38) rfl rfl Try.func29 (by kernel_rfl) rfl #[.int .i64 a3, .int .i64 a0] rfl (by (try simp only [List.map_toArray, List.map_cons, List.map_nil]); first | done | rfl | (simp only [List.length_drop, List.length_take]; rfl)) ?_; (with_reducible refine (fixed_Drift.calls k a3 a0 t194 _ A13.out).mono ?_); rintro e w23 ⟨rfl, hb⟩; refine ⟨_, rfl, ?_⟩; have n0_ := Aside0.mk (below_step (by repeat (first | (with_reducible first | exact HB.out | apply below_alloc | apply pw_below_drewN | apply below_drew1) | exact HB.out)) hb); clear HB; have HB := n0_; clear n0_; (try clear hb); (try clear hb2); (try clear hk); (try clear hi)) | ((with_reducible refine gate_callee (f := 24) rfl ?_); refine goesL_ (some 41) rfl rfl Try.func24 (by kernel_rfl) rfl #[.int .i64 a0, .int .i64 a1] rfl (by (try simp only [List.map_toArray, List.map_cons, List.map_nil]); first | done | rfl | (simp only [List.length_drop, List.length_take]; rfl)) ?_; (with_reducible refine (fixed_Clamp.calls k a0 a1 t195 _ A14.out).mono ?_); rintro e w24 ⟨rfl, hb⟩; refine ⟨_, rfl, ?_⟩; have n0_ := Aside0.mk (below_step (by repeat (first | (with_reducible first | exact HB.out | apply below_alloc | apply pw_below_drewN | apply below_drew1) | exact HB.out)) hb); clear HB; have HB := n0_; clear n0_; (try clear hb); (try clear hb2); (try clear hk); (try clear hi)) | ((with_reducible refine gate_dst (N := 42) rfl ?_); refine Kd.R_lit (Kd.int .i64) _ 22 ?hg (N := 42) ?hd (xs := ([t186, t187, t188, t189, t190, t191, t192, t193, t194, t195] : List Int)) (inner := [.int .i64 t186, .int .i64 t187, .int .i64 t188, .int .i64 t189, .int .i64 t190, .int .i64 t191, .int .i64 t192, .int .i64 t193, .int .i64 t194, .int .i64 t195]) (ok := fun _ => True) (okp := fun _ => True) ?hr ?hp (fun _ hk => hk) trivial (Below.refl _ _) (Nat.le_refl _) (by simp) ?_; (case hd => rfl); (case hg => rfl); (case hr => first | (go_simp; done) | (go_simp; rfl)); (case hp => exact (Reps.one (show Kd.M (Kd.int .i64) _ _ _ t186 [.int .i64 t186] from rfl) (Reps.one (show Kd.M (Kd.int .i64) _ _ _ t187 [.int .i64 t187] from rfl) (Reps.one (show Kd.M (Kd.int .i64) _ _ _ t188 [.int .i64 t188] from rfl) (Reps.one (show Kd.M (Kd.int .i64) _ _ _ t189 [.int .i64 t189] from rfl) (Reps.one (show Kd.M (Kd.int .i64) _ _ _ t190 [.int .i64 t190] from rfl) (Reps.one (show Kd.M (Kd.int .i64) _ _ _ t191 [.int .i64 t191] from rfl) (Reps.one (show Kd.M (Kd.int .i64) _ _ _ t192 [.int .i64 t192] from rfl) (Reps.one (show Kd.M (Kd.int .i64) _ _ _ t193 [.int .i64 t193] from rfl) (Reps.one (show Kd.M (Kd.int .i64) _ _ _ t194 [.int .i64 t194] from rfl) (Reps.one (show Kd.M (Kd.int .i64) _ _ _ t195 [.int .i64 t195] from rfl) (Reps.none _ _)))))))))))); intro v197 w25 ho26 hb hg_ hnew_; clear hg_ hnew_; (first | rw [← Ny196.out] at ho26 | (simp only [Int.reduceToNat] at ho26; rw [← Ny196.out] at ho26)); have n0_ := Aside0.mk (Kd.R_lower ho26 (below_size (by repeat (first | (with_reducible first | exact HB.out | apply below_alloc | apply pw_below_drewN | apply below_drew1) | exact HB.out)))); have n1_ := Aside0.mk (below_step (by repeat (first | (with_reducible first | exact HB.out | apply below_alloc | apply pw_below_drewN | apply below_drew1) | exact HB.out)) hb); clear HB; have HO198 := n0_; have HB := n1_; clear n0_ n1_; clear hb ho26))
  go_loopg [10] k (fun kq v10 w' => ∃ (x10_1 : Int), v10 = .int .i64 x10_1 ∧ Aside0 (foliotlaw01_FixedInside.l0 kq a0 a1 y196 x10_1 = some r) ∧ Aside0 (kq ≤ k) ∧ Aside0 (Kd.R (Kd.int .i64) 22 w' w.heap.size (fun _ => True) v197 y196) ∧ Aside0 (Below w.heap.size w w'))
  case atStart => exact ⟨(0), (by first | rfl | (simp; done) | (simp [*]; done)), H', ⟨Nat.le_refl _⟩, ⟨by (with_reducible repeat (first | apply Kd.R_alloc | apply Kd.R_drewN | apply Kd.R_drew)); exact HO198.out⟩, ⟨by repeat (first | (with_reducible first | exact HB.out | apply below_alloc | apply pw_below_drewN | apply below_drew1) | exact HB.out)⟩⟩
  case round =>
    clear H'
    try clear c1
    try clear c2
    try clear p2
    try clear c3
    try clear p6
    try clear c10
    try clear c13
    try clear c14
    try clear c16
    try clear c22
    try clear c24
    try clear c26
    obtain ⟨x10_1, rfl, HA, HK1, HO_9, HB⟩ := hrel
    cases gk with
    | zero => exact absurd HA.out (by simp [foliotlaw01_FixedInside.l0])
    | succ k1 =>
      have H := HA.out
      clear HA
      simp only [foliotlaw01_FixedInside.l0] at H
      by_cases c27 : x10_1 < (y196.length : Int)
      · rw [if_pos c27] at H
        have c27b0 : decide (x10_1 < (y196.length : Int)) = true := decide_eq_true c27
        clear c27
        by_cases c28 : 0 ≤ x10_1
        · rw [if_pos c28] at H
          have c28b0 : decide (0 ≤ x10_1) = true := decide_eq_true c28
          clear c28
          replace H := Option.bind_eq_some_iff.mp H
          obtain ⟨t200, A290, H⟩ := H
          replace H : (if t200 = true then (foliotlaw01_FixedInside.l0 k1 a0 a1 y196 (wrap64 (x10_1 + 1))) else (some false)) = some r := H
          have A29 := Aside0.mk A290
          clear A290
          by_cases c30 : t200 = true
          · subst c30
            have H1 : (foliotlaw01_FixedInside.l0 k1 a0 a1 y196 (wrap64 (x10_1 + 1))) = some r := by rw [if_pos rfl] at H; exact H
            clear H
            have H := H1
            clear H1
            have H' := Aside0.mk H
            clear H
            obtain ⟨Ao31, co31, eo31⟩ := Kd.R_slice HO_9.out
            subst eo31
            have p199 : 0 ≤ (x10_1 : Int) := of_decide_eq_true (by first | (with_reducible assumption) | assumption)
            have q199 : x10_1 < (y196.length : Int) := of_decide_eq_true (by first | (with_reducible assumption) | assumption)
            obtain ⟨ad199, e199, hx199_0⟩ := Kd.at_int (Kd.R_reads' HO_9.out).2.2 x10_1 p199 q199
            cases e199
            replace p199 := eq_true p199
            replace q199 := eq_true q199
            go_wp2_with (first | ((with_reducible refine gate_callee (f := 43) rfl ?_); refine goesL_ (some 53) rfl rfl Try.func43 (by kernel_rfl) rfl #[.int .i64 (rd y196 x10_1)] rfl (by (try simp only [List.map_toArray, List.map_cons, List.map_nil]); first | done | rfl | (simp only [List.length_drop, List.length_take]; rfl)) ?_; (with_reducible refine (foliotlaw01_spans.calls (rd y196 x10_1) true _ A29.out).mono ?_); rintro e w' ⟨rfl, ⟨nd, rfl⟩⟩; refine ⟨_, rfl, ?_⟩))
            go_roundg k1
            case measure => have := HK1.out; omega
            case rel => exact ⟨(wrap64 (x10_1 + 1)), (by first | rfl | (simp; done) | (simp [*]; done)), H', ⟨by have := HK1.out; omega⟩, ⟨by (with_reducible repeat (first | apply Kd.R_alloc | apply Kd.R_drewN | apply Kd.R_drew)); exact HO_9.out⟩, ⟨by repeat (first | (with_reducible first | exact HB.out | apply below_alloc | apply pw_below_drewN | apply below_drew1) | exact HB.out)⟩⟩
          · replace c30 := Bool.eq_false_iff.mpr c30
            subst c30
            have H1 : (some false) = some r := by rw [if_neg (show ¬ (false = true) by decide)] at H; exact H
            clear H
            have H := H1
            clear H1
            obtain rfl := Option.some.inj H
            obtain ⟨Ao32, co32, eo32⟩ := Kd.R_slice HO_9.out
            subst eo32
            have p199 : 0 ≤ (x10_1 : Int) := of_decide_eq_true (by first | (with_reducible assumption) | assumption)
            have q199 : x10_1 < (y196.length : Int) := of_decide_eq_true (by first | (with_reducible assumption) | assumption)
            obtain ⟨ad199, e199, hx199_0⟩ := Kd.at_int (Kd.R_reads' HO_9.out).2.2 x10_1 p199 q199
            cases e199
            replace p199 := eq_true p199
            replace q199 := eq_true q199
            go_wp2_with (first | ((with_reducible refine gate_callee (f := 43) rfl ?_); refine goesL_ (some 53) rfl rfl Try.func43 (by kernel_rfl) rfl #[.int .i64 (rd y196 x10_1)] rfl (by (try simp only [List.map_toArray, List.map_cons, List.map_nil]); first | done | rfl | (simp only [List.length_drop, List.length_take]; rfl)) ?_; (with_reducible refine (foliotlaw01_spans.calls (rd y196 x10_1) false _ A29.out).mono ?_); rintro e w' ⟨rfl, ⟨nd, rfl⟩⟩; refine ⟨_, rfl, ?_⟩))
            go_ret
            exact ⟨by first | rfl | (simp [errW_none, errW_some] <;> rfl) | (simp [*, errW_none, errW_some] <;> rfl), by repeat (first | (with_reducible first | exact HB.out | apply below_alloc | apply pw_below_drewN | apply below_drew1) | exact HB.out)⟩
        · rw [if_neg c28] at H
          exact absurd H (by simp)
      · rw [if_neg c27] at H
        have c27b0 : decide (x10_1 < (y196.length : Int)) = false := decide_eq_false c27
        clear c27
        replace H := Option.bind_eq_some_iff.mp H
        obtain ⟨t201, A330, H⟩ := H
        replace H : (if t201 > 140737488355 then (foliotlaw01_FixedInside.j1 k1 a0 true) else (if t201 < (-140737488355) then (foliotlaw01_FixedInside.j1 k1 a0 true) else ((fixed_Cut.f k1 t201).bind fun t202 => (foliotlaw01_FixedInside.j1 k1 a0 (t202 != t201))))) = some r := H
        have A33 := Aside0.mk A330
        clear A330
        have HC34 := Aside0.mk H
        clear H
        obtain ⟨Ao35, co35, eo35⟩ := Kd.R_slice HO_9.out
        subst eo35
        go_upto_region 8 with (first | ((with_reducible refine gate_callee (f := 28) rfl ?_); refine goesL_ (some 57) rfl rfl Try.func28 (by kernel_rfl) rfl #[.int .i64 a0, .int .i64 a1] rfl (by (try simp only [List.map_toArray, List.map_cons, List.map_nil]); first | done | rfl | (simp only [List.length_drop, List.length_take]; rfl)) ?_; (with_reducible refine (fixed_Rate.calls k1 a0 a1 t201 _ A33.out).mono ?_); rintro e w36 ⟨rfl, hb⟩; refine ⟨_, rfl, ?_⟩; have n0_ := Aside0.mk (Kd.R_below (by (with_reducible repeat (first | apply Kd.R_alloc | apply Kd.R_drewN | apply Kd.R_drew)); exact HO_9.out) hb); have n1_ := Aside0.mk (below_step (by repeat (first | (with_reducible first | exact HB.out | apply below_alloc | apply pw_below_drewN | apply below_drew1) | exact HB.out)) hb); clear HO_9; clear HB; have HO_9 := n0_; have HB := n1_; clear n0_ n1_; (try clear hb); (try clear hb2); (try clear hk); (try clear hi)))
        (try simp only [Act.put, List.setIfInBounds_toArray, List.set_cons_zero, List.set_cons_succ])
        go_cut [69] (fun v69 wc => ∃ (kq : Nat) (x69_33 : Bool), v69 = .bool x69_33 ∧ Aside0 (foliotlaw01_FixedInside.j1 kq a0 x69_33 = some r) ∧ Aside0 (kq ≤ k1) ∧ Aside0 (Below w.heap.size w wc))
        case first =>
          have H := HC34.out
          clear HC34
          by_cases c37 : t201 > 140737488355
          · rw [if_pos c37] at H
            have c37b0 : decide (140737488355 < t201) = true := decide_eq_true c37
            clear c37
            (first | rw [c37b0] | (simp only [i64_w, i32_w]; rw [c37b0]) | skip)
            have H' := Aside0.mk H
            clear H
            go_wp2
            go_meet
            case rel => first | (exact ⟨_, (true), (by first | rfl | (simp; done) | (simp [*]; done)), H', ⟨by have := HK1.out; first | omega | exact Nat.le_refl _⟩, ⟨by repeat (first | (with_reducible first | exact HB.out | apply below_alloc | apply pw_below_drewN | apply below_drew1) | exact HB.out)⟩⟩) | ((try rw [c37b0] at H'); (try rw [c37b0]); exact ⟨_, (true), (by first | rfl | (simp; done) | (simp [*]; done)), H', ⟨by have := HK1.out; first | omega | exact Nat.le_refl _⟩, ⟨by repeat (first | (with_reducible first | exact HB.out | apply below_alloc | apply pw_below_drewN | apply below_drew1) | exact HB.out)⟩⟩)
          · rw [if_neg c37] at H
            have c37b0 : decide (140737488355 < t201) = false := decide_eq_false c37
            clear c37
            (first | rw [c37b0] | (simp only [i64_w, i32_w]; rw [c37b0]) | skip)
            by_cases c38 : t201 < (-140737488355)
            · rw [if_pos c38] at H
              have c38b0 : decide (t201 < (-140737488355)) = true := decide_eq_true c38
              clear c38
              have H' := Aside0.mk H
              clear H
              go_wp2
              go_meet
              case rel => first | (exact ⟨_, (true), (by first | rfl | (simp; done) | (simp [*]; done)), H', ⟨by have := HK1.out; first | omega | exact Nat.le_refl _⟩, ⟨by repeat (first | (with_reducible first | exact HB.out | apply below_alloc | apply pw_below_drewN | apply below_drew1) | exact HB.out)⟩⟩) | ((try rw [c37b0] at H'); (try rw [c37b0]); exact ⟨_, (true), (by first | rfl | (simp; done) | (simp [*]; done)), H', ⟨by have := HK1.out; first | omega | exact Nat.le_refl _⟩, ⟨by repeat (first | (with_reducible first | exact HB.out | apply below_alloc | apply pw_below_drewN | apply below_drew1) | exact HB.out)⟩⟩)
            · rw [if_neg c38] at H
              have c38b0 : decide (t201 < (-140737488355)) = false := decide_eq_false c38
              clear c38
              replace H := Option.bind_eq_some_iff.mp H
              obtain ⟨t202, A390, H⟩ := H
              replace H : (foliotlaw01_FixedInside.j1 k1 a0 (t202 != t201)) = some r := H
              have A39 := Aside0.mk A390
              clear A390
              have H' := Aside0.mk H
              clear H
              go_wp2_with (first | (go_at_call 41; (with_reducible refine (fixed_Cut.calls k1 t201 t202 _ A39.out).mono ?_); rintro e w40 ⟨rfl, hb⟩; have n0_ := Aside0.mk (Kd.R_below (by (with_reducible repeat (first | apply Kd.R_alloc | apply Kd.R_drewN | apply Kd.R_drew)); exact HO_9.out) hb); have n1_ := Aside0.mk (below_step (by repeat (first | (with_reducible first | exact HB.out | apply below_alloc | apply pw_below_drewN | apply below_drew1) | exact HB.out)) hb); clear HO_9; clear HB; have HO_9 := n0_; have HB := n1_; clear n0_ n1_; (try clear hb); (try clear hb2); (try clear hk); (try clear hi)))
              go_meet
              case rel => first | (exact ⟨_, ((t202 != t201)), (by first | rfl | (simp; done) | (simp [*]; done)), H', ⟨by have := HK1.out; first | omega | exact Nat.le_refl _⟩, ⟨by repeat (first | (with_reducible first | exact HB.out | apply below_alloc | apply pw_below_drewN | apply below_drew1) | exact HB.out)⟩⟩) | ((try rw [c37b0] at H'); (try rw [c37b0]); exact ⟨_, ((t202 != t201)), (by first | rfl | (simp; done) | (simp [*]; done)), H', ⟨by have := HK1.out; first | omega | exact Nat.le_refl _⟩, ⟨by repeat (first | (with_reducible first | exact HB.out | apply below_alloc | apply pw_below_drewN | apply below_drew1) | exact HB.out)⟩⟩)
        case rest =>
          clear HC34
          try clear c1
          try clear p1
          try clear q1
          try clear hx1
          try clear c2
          try clear p2
          try clear c3
          try clear c4
          try clear p6
          try clear c10
          try clear c13
          try clear c14
          try clear c16
          try clear p19
          try clear q19
          try clear hx19
          try clear c22
          try clear c24
          try clear c26
          try clear c27
          try clear c27b0
          try clear c28
          try clear c28b0
          try clear c29
          try clear c30
          try clear c31
          try clear c33
          try clear c37
          try clear c37b0
          try clear c38
          try clear c38b0
          try clear hx199_0
          try clear p199
          try clear p2
          try clear p6
          try clear q199
          obtain ⟨kq, x69_33, rfl, HA, HJ33, HB⟩ := hcut
          cases kq with
          | zero => exact absurd HA.out (by simp [foliotlaw01_FixedInside.j1])
          | succ kj33 =>
            have H := HA.out
            clear HA
            simp only [foliotlaw01_FixedInside.j1] at H
            by_cases c41 : x69_33 = true
            · subst c41
              have H1 : (some false) = some r := by rw [if_pos rfl] at H; exact H
              clear H
              have H := H1
              clear H1
              obtain rfl := Option.some.inj H
              go_wp2
              go_ret
              exact ⟨by first | rfl | (simp [errW_none, errW_some] <;> rfl) | (simp [*, errW_none, errW_some] <;> rfl), by repeat (first | (with_reducible first | exact HB.out | apply below_alloc | apply pw_below_drewN | apply below_drew1) | exact HB.out)⟩
            · replace c41 := Bool.eq_false_iff.mpr c41
              subst c41
              have H1 : ((foliotlaw01_spans.f a0).bind fun t203 => (if t203 = true then ((fixed_Add.f kj33 a0 0).bind fun t204 => (if t204 = a0 then ((fixed_Clamp.f kj33 a0 4611686018427387904).bind fun t205 => (if t205 = a0 then ((fixed_Neg.f kj33 a0).bind fun t206 => ((fixed_Neg.f kj33 t206).bind fun t207 => (if t207 = a0 then ((fixed_Shift.f kj33 a0 0).bind fun t208 => (if t208 = a0 then ((fixed_Mul.f kj33 a0 4294967296).bind fun t209 => (some (t209 == a0))) else (some false))) else (some false)))) else (some false))) else (some false))) else (some true))) = some r := by rw [if_neg (show ¬ (false = true) by decide)] at H; exact H
              clear H
              have H := H1
              clear H1
              replace H := Option.bind_eq_some_iff.mp H
              obtain ⟨t203, A420, H⟩ := H
              replace H : (if t203 = true then ((fixed_Add.f kj33 a0 0).bind fun t204 => (if t204 = a0 then ((fixed_Clamp.f kj33 a0 4611686018427387904).bind fun t205 => (if t205 = a0 then ((fixed_Neg.f kj33 a0).bind fun t206 => ((fixed_Neg.f kj33 t206).bind fun t207 => (if t207 = a0 then ((fixed_Shift.f kj33 a0 0).bind fun t208 => (if t208 = a0 then ((fixed_Mul.f kj33 a0 4294967296).bind fun t209 => (some (t209 == a0))) else (some false))) else (some false)))) else (some false))) else (some false))) else (some true)) = some r := H
              have A42 := Aside0.mk A420
              clear A420
              by_cases c43 : t203 = true
              · subst c43
                have H1 : ((fixed_Add.f kj33 a0 0).bind fun t204 => (if t204 = a0 then ((fixed_Clamp.f kj33 a0 4611686018427387904).bind fun t205 => (if t205 = a0 then ((fixed_Neg.f kj33 a0).bind fun t206 => ((fixed_Neg.f kj33 t206).bind fun t207 => (if t207 = a0 then ((fixed_Shift.f kj33 a0 0).bind fun t208 => (if t208 = a0 then ((fixed_Mul.f kj33 a0 4294967296).bind fun t209 => (some (t209 == a0))) else (some false))) else (some false)))) else (some false))) else (some false))) = some r := by rw [if_pos rfl] at H; exact H
                clear H
                have H := H1
                clear H1
                replace H := Option.bind_eq_some_iff.mp H
                obtain ⟨t204, A440, H⟩ := H
                replace H : (if t204 = a0 then ((fixed_Clamp.f kj33 a0 4611686018427387904).bind fun t205 => (if t205 = a0 then ((fixed_Neg.f kj33 a0).bind fun t206 => ((fixed_Neg.f kj33 t206).bind fun t207 => (if t207 = a0 then ((fixed_Shift.f kj33 a0 0).bind fun t208 => (if t208 = a0 then ((fixed_Mul.f kj33 a0 4294967296).bind fun t209 => (some (t209 == a0))) else (some false))) else (some false)))) else (some false))) else (some false)) = some r := H
                have A44 := Aside0.mk A440
                clear A440
                by_cases c45 : t204 = a0
                · rw [if_pos c45] at H
                  have c45b0 : (t204 == a0) = true := beq_iff_eq.mpr c45
                  have c45b1 : (t204 != a0) = false := bne_eq_false_iff_eq.mpr c45
                  clear c45
                  replace H := Option.bind_eq_some_iff.mp H
                  obtain ⟨t205, A460, H⟩ := H
                  replace H : (if t205 = a0 then ((fixed_Neg.f kj33 a0).bind fun t206 => ((fixed_Neg.f kj33 t206).bind fun t207 => (if t207 = a0 then ((fixed_Shift.f kj33 a0 0).bind fun t208 => (if t208 = a0 then ((fixed_Mul.f kj33 a0 4294967296).bind fun t209 => (some (t209 == a0))) else (some false))) else (some false)))) else (some false)) = some r := H
                  have A46 := Aside0.mk A460
                  clear A460
                  by_cases c47 : t205 = a0
                  · rw [if_pos c47] at H
                    have c47b0 : (t205 == a0) = true := beq_iff_eq.mpr c47
                    have c47b1 : (t205 != a0) = false := bne_eq_false_iff_eq.mpr c47
                    clear c47
                    replace H := Option.bind_eq_some_iff.mp H
                    obtain ⟨t206, A480, H⟩ := H
                    replace H : ((fixed_Neg.f kj33 t206).bind fun t207 => (if t207 = a0 then ((fixed_Shift.f kj33 a0 0).bind fun t208 => (if t208 = a0 then ((fixed_Mul.f kj33 a0 4294967296).bind fun t209 => (some (t209 == a0))) else (some false))) else (some false))) = some r := H
                    have A48 := Aside0.mk A480
                    clear A480
                    replace H := Option.bind_eq_some_iff.mp H
                    obtain ⟨t207, A490, H⟩ := H
                    replace H : (if t207 = a0 then ((fixed_Shift.f kj33 a0 0).bind fun t208 => (if t208 = a0 then ((fixed_Mul.f kj33 a0 4294967296).bind fun t209 => (some (t209 == a0))) else (some false))) else (some false)) = some r := H
                    have A49 := Aside0.mk A490
                    clear A490
                    by_cases c50 : t207 = a0
                    · rw [if_pos c50] at H
                      have c50b0 : (t207 == a0) = true := beq_iff_eq.mpr c50
                      have c50b1 : (t207 != a0) = false := bne_eq_false_iff_eq.mpr c50
                      clear c50
                      replace H := Option.bind_eq_some_iff.mp H
                      obtain ⟨t208, A510, H⟩ := H
                      replace H : (if t208 = a0 then ((fixed_Mul.f kj33 a0 4294967296).bind fun t209 => (some (t209 == a0))) else (some false)) = some r := H
                      have A51 := Aside0.mk A510
                      clear A510
                      by_cases c52 : t208 = a0
                      · rw [if_pos c52] at H
                        have c52b0 : (t208 == a0) = true := beq_iff_eq.mpr c52
                        have c52b1 : (t208 != a0) = false := bne_eq_false_iff_eq.mpr c52
                        clear c52
                        replace H := Option.bind_eq_some_iff.mp H
                        obtain ⟨t209, A530, H⟩ := H
                        replace H : (some (t209 == a0)) = some r := H
                        have A53 := Aside0.mk A530
                        clear A530
                        obtain rfl := Option.some.inj H
                        go_wp2_with (first | ((with_reducible refine gate_callee (f := 43) rfl ?_); refine goesL_ (some 71) rfl rfl Try.func43 (by kernel_rfl) rfl #[.int .i64 a0] rfl (by (try simp only [List.map_toArray, List.map_cons, List.map_nil]); first | done | rfl | (simp only [List.length_drop, List.length_take]; rfl)) ?_; (with_reducible refine (foliotlaw01_spans.calls a0 true _ A42.out).mono ?_); rintro e w' ⟨rfl, ⟨nd, rfl⟩⟩; refine ⟨_, rfl, ?_⟩) | (go_at_call 14; (with_reducible refine (fixed_Add.calls kj33 a0 0 t204 _ A44.out).mono ?_); rintro e w54 ⟨rfl, hb⟩; have n0_ := Aside0.mk (below_step (by repeat (first | (with_reducible first | exact HB.out | apply below_alloc | apply pw_below_drewN | apply below_drew1) | exact HB.out)) hb); clear HB; have HB := n0_; clear n0_; (try clear hb); (try clear hb2); (try clear hk); (try clear hi)) | (go_at_call 24; (with_reducible refine (fixed_Clamp.calls kj33 a0 4611686018427387904 t205 _ A46.out).mono ?_); rintro e w55 ⟨rfl, hb⟩; have n0_ := Aside0.mk (below_step (by repeat (first | (with_reducible first | exact HB.out | apply below_alloc | apply pw_below_drewN | apply below_drew1) | exact HB.out)) hb); clear HB; have HB := n0_; clear n0_; (try clear hb); (try clear hb2); (try clear hk); (try clear hi)) | (go_at_call 18; (with_reducible refine (fixed_Neg.calls kj33 a0 t206 _ A48.out).mono ?_); rintro e w56 ⟨rfl, hb⟩; have n0_ := Aside0.mk (below_step (by repeat (first | (with_reducible first | exact HB.out | apply below_alloc | apply pw_below_drewN | apply below_drew1) | exact HB.out)) hb); clear HB; have HB := n0_; clear n0_; (try clear hb); (try clear hb2); (try clear hk); (try clear hi)) | (go_at_call 18; (with_reducible refine (fixed_Neg.calls kj33 t206 t207 _ A49.out).mono ?_); rintro e w57 ⟨rfl, hb⟩; have n0_ := Aside0.mk (below_step (by repeat (first | (with_reducible first | exact HB.out | apply below_alloc | apply pw_below_drewN | apply below_drew1) | exact HB.out)) hb); clear HB; have HB := n0_; clear n0_; (try clear hb); (try clear hb2); (try clear hk); (try clear hi)) | (go_at_call 33; (with_reducible refine (fixed_Shift.calls kj33 a0 0 t208 _ A51.out).mono ?_); rintro e w58 ⟨rfl, hb⟩; have n0_ := Aside0.mk (below_step (by repeat (first | (with_reducible first | exact HB.out | apply below_alloc | apply pw_below_drewN | apply below_drew1) | exact HB.out)) hb); clear HB; have HB := n0_; clear n0_; (try clear hb); (try clear hb2); (try clear hk); (try clear hi)) | (go_at_call 27; (with_reducible refine (fixed_Mul.calls kj33 a0 4294967296 t209 _ A53.out).mono ?_); rintro e w59 ⟨rfl, hb⟩; have n0_ := Aside0.mk (below_step (by repeat (first | (with_reducible first | exact HB.out | apply below_alloc | apply pw_below_drewN | apply below_drew1) | exact HB.out)) hb); clear HB; have HB := n0_; clear n0_; (try clear hb); (try clear hb2); (try clear hk); (try clear hi)))
                        go_ret
                        exact ⟨by first | rfl | (simp [errW_none, errW_some] <;> rfl) | (simp [*, errW_none, errW_some] <;> rfl), by repeat (first | (with_reducible first | exact HB.out | apply below_alloc | apply pw_below_drewN | apply below_drew1) | exact HB.out)⟩
                      · rw [if_neg c52] at H
                        have c52b0 : (t208 == a0) = false := beq_eq_false_iff_ne.mpr c52
                        have c52b1 : (t208 != a0) = true := bne_iff_ne.mpr c52
                        obtain rfl := Option.some.inj H
                        go_wp2_with (first | ((with_reducible refine gate_callee (f := 43) rfl ?_); refine goesL_ (some 71) rfl rfl Try.func43 (by kernel_rfl) rfl #[.int .i64 a0] rfl (by (try simp only [List.map_toArray, List.map_cons, List.map_nil]); first | done | rfl | (simp only [List.length_drop, List.length_take]; rfl)) ?_; (with_reducible refine (foliotlaw01_spans.calls a0 true _ A42.out).mono ?_); rintro e w' ⟨rfl, ⟨nd, rfl⟩⟩; refine ⟨_, rfl, ?_⟩) | (go_at_call 14; (with_reducible refine (fixed_Add.calls kj33 a0 0 t204 _ A44.out).mono ?_); rintro e w60 ⟨rfl, hb⟩; have n0_ := Aside0.mk (below_step (by repeat (first | (with_reducible first | exact HB.out | apply below_alloc | apply pw_below_drewN | apply below_drew1) | exact HB.out)) hb); clear HB; have HB := n0_; clear n0_; (try clear hb); (try clear hb2); (try clear hk); (try clear hi)) | (go_at_call 24; (with_reducible refine (fixed_Clamp.calls kj33 a0 4611686018427387904 t205 _ A46.out).mono ?_); rintro e w61 ⟨rfl, hb⟩; have n0_ := Aside0.mk (below_step (by repeat (first | (with_reducible first | exact HB.out | apply below_alloc | apply pw_below_drewN | apply below_drew1) | exact HB.out)) hb); clear HB; have HB := n0_; clear n0_; (try clear hb); (try clear hb2); (try clear hk); (try clear hi)) | (go_at_call 18; (with_reducible refine (fixed_Neg.calls kj33 a0 t206 _ A48.out).mono ?_); rintro e w62 ⟨rfl, hb⟩; have n0_ := Aside0.mk (below_step (by repeat (first | (with_reducible first | exact HB.out | apply below_alloc | apply pw_below_drewN | apply below_drew1) | exact HB.out)) hb); clear HB; have HB := n0_; clear n0_; (try clear hb); (try clear hb2); (try clear hk); (try clear hi)) | (go_at_call 18; (with_reducible refine (fixed_Neg.calls kj33 t206 t207 _ A49.out).mono ?_); rintro e w63 ⟨rfl, hb⟩; have n0_ := Aside0.mk (below_step (by repeat (first | (with_reducible first | exact HB.out | apply below_alloc | apply pw_below_drewN | apply below_drew1) | exact HB.out)) hb); clear HB; have HB := n0_; clear n0_; (try clear hb); (try clear hb2); (try clear hk); (try clear hi)) | (go_at_call 33; (with_reducible refine (fixed_Shift.calls kj33 a0 0 t208 _ A51.out).mono ?_); rintro e w64 ⟨rfl, hb⟩; have n0_ := Aside0.mk (below_step (by repeat (first | (with_reducible first | exact HB.out | apply below_alloc | apply pw_below_drewN | apply below_drew1) | exact HB.out)) hb); clear HB; have HB := n0_; clear n0_; (try clear hb); (try clear hb2); (try clear hk); (try clear hi)))
                        go_ret
                        exact ⟨by first | rfl | (simp [errW_none, errW_some] <;> rfl) | (simp [*, errW_none, errW_some] <;> rfl), by repeat (first | (with_reducible first | exact HB.out | apply below_alloc | apply pw_below_drewN | apply below_drew1) | exact HB.out)⟩
                    · rw [if_neg c50] at H
                      have c50b0 : (t207 == a0) = false := beq_eq_false_iff_ne.mpr c50
                      have c50b1 : (t207 != a0) = true := bne_iff_ne.mpr c50
                      obtain rfl := Option.some.inj H
                      go_wp2_with (first | ((with_reducible refine gate_callee (f := 43) rfl ?_); refine goesL_ (some 71) rfl rfl Try.func43 (by kernel_rfl) rfl #[.int .i64 a0] rfl (by (try simp only [List.map_toArray, List.map_cons, List.map_nil]); first | done | rfl | (simp only [List.length_drop, List.length_take]; rfl)) ?_; (with_reducible refine (foliotlaw01_spans.calls a0 true _ A42.out).mono ?_); rintro e w' ⟨rfl, ⟨nd, rfl⟩⟩; refine ⟨_, rfl, ?_⟩) | (go_at_call 14; (with_reducible refine (fixed_Add.calls kj33 a0 0 t204 _ A44.out).mono ?_); rintro e w65 ⟨rfl, hb⟩; have n0_ := Aside0.mk (below_step (by repeat (first | (with_reducible first | exact HB.out | apply below_alloc | apply pw_below_drewN | apply below_drew1) | exact HB.out)) hb); clear HB; have HB := n0_; clear n0_; (try clear hb); (try clear hb2); (try clear hk); (try clear hi)) | (go_at_call 24; (with_reducible refine (fixed_Clamp.calls kj33 a0 4611686018427387904 t205 _ A46.out).mono ?_); rintro e w66 ⟨rfl, hb⟩; have n0_ := Aside0.mk (below_step (by repeat (first | (with_reducible first | exact HB.out | apply below_alloc | apply pw_below_drewN | apply below_drew1) | exact HB.out)) hb); clear HB; have HB := n0_; clear n0_; (try clear hb); (try clear hb2); (try clear hk); (try clear hi)) | (go_at_call 18; (with_reducible refine (fixed_Neg.calls kj33 a0 t206 _ A48.out).mono ?_); rintro e w67 ⟨rfl, hb⟩; have n0_ := Aside0.mk (below_step (by repeat (first | (with_reducible first | exact HB.out | apply below_alloc | apply pw_below_drewN | apply below_drew1) | exact HB.out)) hb); clear HB; have HB := n0_; clear n0_; (try clear hb); (try clear hb2); (try clear hk); (try clear hi)) | (go_at_call 18; (with_reducible refine (fixed_Neg.calls kj33 t206 t207 _ A49.out).mono ?_); rintro e w68 ⟨rfl, hb⟩; have n0_ := Aside0.mk (below_step (by repeat (first | (with_reducible first | exact HB.out | apply below_alloc | apply pw_below_drewN | apply below_drew1) | exact HB.out)) hb); clear HB; have HB := n0_; clear n0_; (try clear hb); (try clear hb2); (try clear hk); (try clear hi)))
                      go_ret
                      exact ⟨by first | rfl | (simp [errW_none, errW_some] <;> rfl) | (simp [*, errW_none, errW_some] <;> rfl), by repeat (first | (with_reducible first | exact HB.out | apply below_alloc | apply pw_below_drewN | apply below_drew1) | exact HB.out)⟩
                  · rw [if_neg c47] at H
                    have c47b0 : (t205 == a0) = false := beq_eq_false_iff_ne.mpr c47
                    have c47b1 : (t205 != a0) = true := bne_iff_ne.mpr c47
                    obtain rfl := Option.some.inj H
                    go_wp2_with (first | ((with_reducible refine gate_callee (f := 43) rfl ?_); refine goesL_ (some 71) rfl rfl Try.func43 (by kernel_rfl) rfl #[.int .i64 a0] rfl (by (try simp only [List.map_toArray, List.map_cons, List.map_nil]); first | done | rfl | (simp only [List.length_drop, List.length_take]; rfl)) ?_; (with_reducible refine (foliotlaw01_spans.calls a0 true _ A42.out).mono ?_); rintro e w' ⟨rfl, ⟨nd, rfl⟩⟩; refine ⟨_, rfl, ?_⟩) | (go_at_call 14; (with_reducible refine (fixed_Add.calls kj33 a0 0 t204 _ A44.out).mono ?_); rintro e w69 ⟨rfl, hb⟩; have n0_ := Aside0.mk (below_step (by repeat (first | (with_reducible first | exact HB.out | apply below_alloc | apply pw_below_drewN | apply below_drew1) | exact HB.out)) hb); clear HB; have HB := n0_; clear n0_; (try clear hb); (try clear hb2); (try clear hk); (try clear hi)) | (go_at_call 24; (with_reducible refine (fixed_Clamp.calls kj33 a0 4611686018427387904 t205 _ A46.out).mono ?_); rintro e w70 ⟨rfl, hb⟩; have n0_ := Aside0.mk (below_step (by repeat (first | (with_reducible first | exact HB.out | apply below_alloc | apply pw_below_drewN | apply below_drew1) | exact HB.out)) hb); clear HB; have HB := n0_; clear n0_; (try clear hb); (try clear hb2); (try clear hk); (try clear hi)))
                    go_ret
                    exact ⟨by first | rfl | (simp [errW_none, errW_some] <;> rfl) | (simp [*, errW_none, errW_some] <;> rfl), by repeat (first | (with_reducible first | exact HB.out | apply below_alloc | apply pw_below_drewN | apply below_drew1) | exact HB.out)⟩
                · rw [if_neg c45] at H
                  have c45b0 : (t204 == a0) = false := beq_eq_false_iff_ne.mpr c45
                  have c45b1 : (t204 != a0) = true := bne_iff_ne.mpr c45
                  obtain rfl := Option.some.inj H
                  go_wp2_with (first | ((with_reducible refine gate_callee (f := 43) rfl ?_); refine goesL_ (some 71) rfl rfl Try.func43 (by kernel_rfl) rfl #[.int .i64 a0] rfl (by (try simp only [List.map_toArray, List.map_cons, List.map_nil]); first | done | rfl | (simp only [List.length_drop, List.length_take]; rfl)) ?_; (with_reducible refine (foliotlaw01_spans.calls a0 true _ A42.out).mono ?_); rintro e w' ⟨rfl, ⟨nd, rfl⟩⟩; refine ⟨_, rfl, ?_⟩) | (go_at_call 14; (with_reducible refine (fixed_Add.calls kj33 a0 0 t204 _ A44.out).mono ?_); rintro e w71 ⟨rfl, hb⟩; have n0_ := Aside0.mk (below_step (by repeat (first | (with_reducible first | exact HB.out | apply below_alloc | apply pw_below_drewN | apply below_drew1) | exact HB.out)) hb); clear HB; have HB := n0_; clear n0_; (try clear hb); (try clear hb2); (try clear hk); (try clear hi)))
                  go_ret
                  exact ⟨by first | rfl | (simp [errW_none, errW_some] <;> rfl) | (simp [*, errW_none, errW_some] <;> rfl), by repeat (first | (with_reducible first | exact HB.out | apply below_alloc | apply pw_below_drewN | apply below_drew1) | exact HB.out)⟩
              · replace c43 := Bool.eq_false_iff.mpr c43
                subst c43
                have H1 : (some true) = some r := by rw [if_neg (show ¬ (false = true) by decide)] at H; exact H
                clear H
                have H := H1
                clear H1
                obtain rfl := Option.some.inj H
                go_wp2_with (first | ((with_reducible refine gate_callee (f := 43) rfl ?_); refine goesL_ (some 71) rfl rfl Try.func43 (by kernel_rfl) rfl #[.int .i64 a0] rfl (by (try simp only [List.map_toArray, List.map_cons, List.map_nil]); first | done | rfl | (simp only [List.length_drop, List.length_take]; rfl)) ?_; (with_reducible refine (foliotlaw01_spans.calls a0 false _ A42.out).mono ?_); rintro e w' ⟨rfl, ⟨nd, rfl⟩⟩; refine ⟨_, rfl, ?_⟩))
                go_ret
                exact ⟨by first | rfl | (simp [errW_none, errW_some] <;> rfl) | (simp [*, errW_none, errW_some] <;> rfl), by repeat (first | (with_reducible first | exact HB.out | apply below_alloc | apply pw_below_drewN | apply below_drew1) | exact HB.out)⟩

/-- THE ONE PURE STATEMENT of foliotlaw01_FixedInside: yours. -/
def foliotlaw01_FixedInside.Pure : Prop := ∀ (a0 : Int) (a1 : Int) (a2 : Int) (a3 : Int), (Lit.int .i64 a0).wf = true → (Lit.int .i64 a1).wf = true → (Lit.int .i64 a2).wf = true → (Lit.int .i64 a3).wf = true → ∃ k, foliotlaw01_FixedInside.f k a0 a1 a2 a3 = some true
theorem foliotlaw01_FixedInside.walk (P : foliotlaw01_FixedInside.Pure) (a0 : Int) (a1 : Int) (a2 : Int) (a3 : Int) (w : World) (w0 : (Lit.int .i64 a0).wf = true) (w1 : (Lit.int .i64 a1).wf = true) (w2 : (Lit.int .i64 a2).wf = true) (w3 : (Lit.int .i64 a3).wf = true) :
    Calls Try.prog 10 #[.int .i64 a0, .int .i64 a1, .int .i64 a2, .int .i64 a3] w fun e w' => e = .returned (.bool true) ∧ Below w.heap.size w w' := by
  obtain ⟨k, h⟩ := P a0 a1 a2 a3 w0 w1 w2 w3
  refine (foliotlaw01_FixedInside.calls k a0 a1 a2 a3 true w h).mono ?_
  rintro e w' ⟨rfl, hd⟩
  exact ⟨rfl, hd⟩

end Go.Proofs.Ytkcnibpjnhdfdaa.PFixedInside
