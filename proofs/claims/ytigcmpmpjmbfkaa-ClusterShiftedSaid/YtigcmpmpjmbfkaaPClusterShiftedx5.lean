-- Written by a program (extend_print.py). Not trusted: Lean checks it.
import Derived.Test.YtigcmpmpjmbfkaaPClusterShiftedx0
import Derived.Test.YtigcmpmpjmbfkaaPClusterShiftedx1
import Derived.Test.YtigcmpmpjmbfkaaPClusterShiftedx2
import Derived.Test.YtigcmpmpjmbfkaaPClusterShiftedx4
namespace Go.Proofs.Ytigcmpmpjmbfkaa.PClusterShifted
open Go.RowKit Go.Proofs.YtigcmpmpjmbfkaaW.PrintWords Go.Proofs.YtigcmpmpjmbfkaaW.PrintLast Go.Proofs.YtigcmpmpjmbfkaaW.PrintMore
attribute [local go_sem] max2_int min2_int max_two min_two max_three min_three max_four min_four
set_option linter.unusedVariables false
set_option maxHeartbeats 8000000
set_option maxRecDepth 100000
set_option linter.unusedSimpArgs false
def fixed_root.l0 : Nat → Int → Int → Int → Int → Option (Int)
 | 0, _, _, _, _ => none
 | k + 1, x0, x1, x5, x6 => if x6 ≥ 0 then (if 0 ≤ (IntKind.u64.wrap (x6)) then ((bits_Mul64.f (Go.bits .or .u64 x5 (shl .u64 1 (IntKind.u64.wrap (x6)))) (Go.bits .or .u64 x5 (shl .u64 1 (IntKind.u64.wrap (x6))))).bind fun bt151 => (if bt151.1 > x0 then (fixed_root.l0 k x0 x1 x5 (wrap64 (x6 - 1))) else (if bt151.1 = x0 then (if bt151.2 > x1 then (fixed_root.l0 k x0 x1 x5 (wrap64 (x6 - 1))) else (fixed_root.l0 k x0 x1 (Go.bits .or .u64 x5 (shl .u64 1 (IntKind.u64.wrap (x6)))) (wrap64 (x6 - 1)))) else (fixed_root.l0 k x0 x1 (Go.bits .or .u64 x5 (shl .u64 1 (IntKind.u64.wrap (x6)))) (wrap64 (x6 - 1)))))) else (none)) else (some x5)
def fixed_root.f (k : Nat) (a0 : Int) (a1 : Int) : Option (Int) := fixed_root.l0 k a0 a1 0 63
theorem fixed_root.mono_l : ∀ k, (∀ y0 y1 y2 y3, LeO (fixed_root.l0 k y0 y1 y2 y3) (fixed_root.l0 (k + 1) y0 y1 y2 y3))
 | 0 => fun _ _ _ _ r h => by simp [fixed_root.l0] at h
 | k + 1 => by
  have ih0 := fixed_root.mono_l k
  ·intro y0 y1 y2 y3
   unfold fixed_root.l0
   repeat' first
   | (with_reducible exact ih0 _ _ _ _)
   | (with_reducible exact LeO.refl _)
   | (with_reducible exact LeO.none _)
   | (with_reducible refine LeO.ite ?_ ?_)
   | (with_reducible refine LeO.bind ?_ (fun _ => ?_))
   | exact ih0 _ _ _ _
   | exact LeO.none _
   | refine LeO.ite ?_ ?_
   | refine LeO.bind ?_ (fun _ => ?_)
theorem fixed_root.mono : ∀ a0 a1 k, LeO (fixed_root.f k a0 a1) (fixed_root.f (k + 1) a0 a1) := by
 intro a0 a1 k
 have ih0 := fixed_root.mono_l k
 unfold fixed_root.f
 repeat' first
   | (with_reducible exact ih0 _ _ _ _)
   | (with_reducible exact LeO.refl _)
   | (with_reducible exact LeO.none _)
   | (with_reducible refine LeO.ite ?_ ?_)
   | (with_reducible refine LeO.bind ?_ (fun _ => ?_))
   | exact ih0 _ _ _ _
   | exact LeO.none _
   | refine LeO.ite ?_ ?_
   | refine LeO.bind ?_ (fun _ => ?_)
theorem fixed_root.calls (k : Nat) (a0 : Int) (a1 : Int) (r : Int) (w : World) (h : fixed_root.f k a0 a1 = some r) :
  Calls Try.prog 75 #[.int .u64 a0, .int .u64 a1] w fun e w' => e = .returned (.int .u64 r) ∧ Drawn0 w w' := by
 have H : (fixed_root.l0 k a0 a1 0 63) = some r := h
 clear h
 have H' := Aside0.mk H
 clear H
 go_enter Try.func75, Try.ntmps75
 go_wp2
 repeat (go_step3; go_wp2)
 go_loopg [5, 6] k (fun kq v5 v6 w' => ∃ (x5_1 : Int) (x6_1 : Int), v5 = .int .u64 x5_1 ∧ v6 = .int .i64 x6_1 ∧ Aside0 (fixed_root.l0 kq a0 a1 x5_1 x6_1 = some r) ∧ Aside0 (kq ≤ k) ∧ Drawn0 w w')
 case atStart => exact ⟨(0), (63), (by first | rfl | (simp; done) | (simp [*]; done)), (by first | rfl | (simp; done) | (simp [*]; done)), H', ⟨Nat.le_refl _⟩, by repeat (first | exact Drawn0.refl _ | apply Drawn0.step)⟩
 case round =>
  clear H'
  try clear p2
  obtain ⟨x5_1, x6_1, rfl, rfl, HA, HK1, ⟨m1, rfl⟩⟩ := hrel
  cases gk with
  | zero => exact absurd HA.out (by simp [fixed_root.l0])
  | succ k1 =>
   have H := HA.out
   clear HA
   simp only [fixed_root.l0] at H
   by_cases c3 : x6_1 ≥ 0
   ·rw [if_pos c3] at H
    have c3b0 : decide (0 ≤ x6_1) = true := decide_eq_true c3
    clear c3
    obtain ⟨ji4, hji4⟩ : ∃ j_ : Int, (IntKind.u64.wrap (x6_1)) = j_ := ⟨_, rfl⟩
    replace H : (if 0 ≤ (ji4) then ((bits_Mul64.f (Go.bits .or .u64 x5_1 (shl .u64 1 (ji4))) (Go.bits .or .u64 x5_1 (shl .u64 1 (ji4)))).bind fun bt151 => (if bt151.1 > a0 then (fixed_root.l0 k1 a0 a1 x5_1 (wrap64 (x6_1 - 1))) else (if bt151.1 = a0 then (if bt151.2 > a1 then (fixed_root.l0 k1 a0 a1 x5_1 (wrap64 (x6_1 - 1))) else (fixed_root.l0 k1 a0 a1 (Go.bits .or .u64 x5_1 (shl .u64 1 (ji4))) (wrap64 (x6_1 - 1)))) else (fixed_root.l0 k1 a0 a1 (Go.bits .or .u64 x5_1 (shl .u64 1 (ji4))) (wrap64 (x6_1 - 1)))))) else (none)) = some r := by first | (rw [hji4] at H; exact H) | (simp only [hji4] at H ⊢; exact H)
    by_cases c5 : 0 ≤ (ji4)
    ·rw [if_pos c5] at H
     have c5b0 := eq_true c5
     have c5b1 : decide (0 ≤ (ji4)) = true := decide_eq_true c5
     clear c5
     obtain ⟨ji6, hji6⟩ : ∃ j_ : Int, (shl .u64 1 (ji4)) = j_ := ⟨_, rfl⟩
     replace H : ((bits_Mul64.f (Go.bits .or .u64 x5_1 (ji6)) (Go.bits .or .u64 x5_1 (ji6))).bind fun bt151 => (if bt151.1 > a0 then (fixed_root.l0 k1 a0 a1 x5_1 (wrap64 (x6_1 - 1))) else (if bt151.1 = a0 then (if bt151.2 > a1 then (fixed_root.l0 k1 a0 a1 x5_1 (wrap64 (x6_1 - 1))) else (fixed_root.l0 k1 a0 a1 (Go.bits .or .u64 x5_1 (ji6)) (wrap64 (x6_1 - 1)))) else (fixed_root.l0 k1 a0 a1 (Go.bits .or .u64 x5_1 (ji6)) (wrap64 (x6_1 - 1)))))) = some r := by first | (rw [hji6] at H; exact H) | (simp only [hji6] at H ⊢; exact H)
     have hji6_ : (IntKind.u64.wrap (1 * 2 ^ min (ji4).toNat 64)) = ji6 := hji6
     have hji6z : (ji4) ≤ 64 → (IntKind.u64.wrap (1 * 2 ^ (ji4).toNat)) = ji6 := shl_small hji6
     have hji6u : (IntKind.u64.wrap (2 ^ min (ji4).toNat 64)) = ji6 := by have h_ := hji6_; rw [Int.one_mul] at h_; exact h_
     have hji6v : (ji4) ≤ 64 → (IntKind.u64.wrap (2 ^ (ji4).toNat)) = ji6 := fun hle_ => by have h_ := hji6z hle_; rw [Int.one_mul] at h_; exact h_
     replace H := Option.bind_eq_some_iff.mp H
     obtain ⟨⟨t151, t152⟩, A70, H⟩ := H
     replace H : (if t151 > a0 then (fixed_root.l0 k1 a0 a1 x5_1 (wrap64 (x6_1 - 1))) else (if t151 = a0 then (if t152 > a1 then (fixed_root.l0 k1 a0 a1 x5_1 (wrap64 (x6_1 - 1))) else (fixed_root.l0 k1 a0 a1 (Go.bits .or .u64 x5_1 (ji6)) (wrap64 (x6_1 - 1)))) else (fixed_root.l0 k1 a0 a1 (Go.bits .or .u64 x5_1 (ji6)) (wrap64 (x6_1 - 1))))) = some r := H
     have A7 := Aside0.mk A70
     clear A70
     by_cases c8 : t151 > a0
     ·rw [if_pos c8] at H
      have c8b0 : decide (a0 < t151) = true := decide_eq_true c8
      clear c8
      have H' := Aside0.mk H
      clear H
      go_wp2_with (first | ((with_reducible refine gate_callee (f := 73) rfl ?_); refine goesL_ (some 22) rfl rfl Try.func73 (by kernel_rfl) rfl #[.int .u64 (Go.bits .or .u64 x5_1 (ji6)), .int .u64 (Go.bits .or .u64 x5_1 (ji6))] rfl (by (try simp only [List.map_toArray, List.map_cons, List.map_nil]); first | done | (simp only [hji6]; rfl) | rfl | (simp only [List.length_drop, List.length_take]; rfl)) ?_; (with_reducible refine (bits_Mul64.calls (Go.bits .or .u64 x5_1 (ji6)) (Go.bits .or .u64 x5_1 (ji6)) t151 t152 _ A7.out).mono ?_); rintro e w' ⟨rfl, ⟨nd, rfl⟩⟩; refine ⟨_, rfl, ?_⟩))
      repeat (go_step3; go_wp2_with (first | ((with_reducible refine gate_callee (f := 73) rfl ?_); refine goesL_ (some 22) rfl rfl Try.func73 (by kernel_rfl) rfl #[.int .u64 (Go.bits .or .u64 x5_1 (ji6)), .int .u64 (Go.bits .or .u64 x5_1 (ji6))] rfl (by (try simp only [List.map_toArray, List.map_cons, List.map_nil]); first | done | (simp only [hji6]; rfl) | rfl | (simp only [List.length_drop, List.length_take]; rfl)) ?_; (with_reducible refine (bits_Mul64.calls (Go.bits .or .u64 x5_1 (ji6)) (Go.bits .or .u64 x5_1 (ji6)) t151 t152 _ A7.out).mono ?_); rintro e w' ⟨rfl, ⟨nd, rfl⟩⟩; refine ⟨_, rfl, ?_⟩)))
      go_roundg k1
      case measure => have := HK1.out; omega
      case rel => exact ⟨(x5_1), (wrap64 (x6_1 - 1)), (by first | rfl | (simp; done) | (simp [*]; done)), (by first | rfl | (simp; done) | (simp [*]; done)), H', ⟨by have := HK1.out; omega⟩, by repeat (first | exact Drawn0.refl _ | apply Drawn0.step)⟩
     ·rw [if_neg c8] at H
      have c8b0 : decide (a0 < t151) = false := decide_eq_false c8
      clear c8
      by_cases c9 : t151 = a0
      ·rw [if_pos c9] at H
       have c9b0 : (t151 == a0) = true := beq_iff_eq.mpr c9
       have c9b1 : (t151 != a0) = false := bne_eq_false_iff_eq.mpr c9
       clear c9
       by_cases c10 : t152 > a1
       ·rw [if_pos c10] at H
        have c10b0 : decide (a1 < t152) = true := decide_eq_true c10
        clear c10
        have H' := Aside0.mk H
        clear H
        go_wp2_with (first | ((with_reducible refine gate_callee (f := 73) rfl ?_); refine goesL_ (some 22) rfl rfl Try.func73 (by kernel_rfl) rfl #[.int .u64 (Go.bits .or .u64 x5_1 (ji6)), .int .u64 (Go.bits .or .u64 x5_1 (ji6))] rfl (by (try simp only [List.map_toArray, List.map_cons, List.map_nil]); first | done | (simp only [hji6]; rfl) | rfl | (simp only [List.length_drop, List.length_take]; rfl)) ?_; (with_reducible refine (bits_Mul64.calls (Go.bits .or .u64 x5_1 (ji6)) (Go.bits .or .u64 x5_1 (ji6)) t151 t152 _ A7.out).mono ?_); rintro e w' ⟨rfl, ⟨nd, rfl⟩⟩; refine ⟨_, rfl, ?_⟩))
        repeat (go_step3; go_wp2_with (first | ((with_reducible refine gate_callee (f := 73) rfl ?_); refine goesL_ (some 22) rfl rfl Try.func73 (by kernel_rfl) rfl #[.int .u64 (Go.bits .or .u64 x5_1 (ji6)), .int .u64 (Go.bits .or .u64 x5_1 (ji6))] rfl (by (try simp only [List.map_toArray, List.map_cons, List.map_nil]); first | done | (simp only [hji6]; rfl) | rfl | (simp only [List.length_drop, List.length_take]; rfl)) ?_; (with_reducible refine (bits_Mul64.calls (Go.bits .or .u64 x5_1 (ji6)) (Go.bits .or .u64 x5_1 (ji6)) t151 t152 _ A7.out).mono ?_); rintro e w' ⟨rfl, ⟨nd, rfl⟩⟩; refine ⟨_, rfl, ?_⟩)))
        go_roundg k1
        case measure => have := HK1.out; omega
        case rel => exact ⟨(x5_1), (wrap64 (x6_1 - 1)), (by first | rfl | (simp; done) | (simp [*]; done)), (by first | rfl | (simp; done) | (simp [*]; done)), H', ⟨by have := HK1.out; omega⟩, by repeat (first | exact Drawn0.refl _ | apply Drawn0.step)⟩
       ·rw [if_neg c10] at H
        have c10b0 : decide (a1 < t152) = false := decide_eq_false c10
        clear c10
        have H' := Aside0.mk H
        clear H
        go_wp2_with (first | ((with_reducible refine gate_callee (f := 73) rfl ?_); refine goesL_ (some 22) rfl rfl Try.func73 (by kernel_rfl) rfl #[.int .u64 (Go.bits .or .u64 x5_1 (ji6)), .int .u64 (Go.bits .or .u64 x5_1 (ji6))] rfl (by (try simp only [List.map_toArray, List.map_cons, List.map_nil]); first | done | (simp only [hji6]; rfl) | rfl | (simp only [List.length_drop, List.length_take]; rfl)) ?_; (with_reducible refine (bits_Mul64.calls (Go.bits .or .u64 x5_1 (ji6)) (Go.bits .or .u64 x5_1 (ji6)) t151 t152 _ A7.out).mono ?_); rintro e w' ⟨rfl, ⟨nd, rfl⟩⟩; refine ⟨_, rfl, ?_⟩))
        repeat (go_step3; go_wp2_with (first | ((with_reducible refine gate_callee (f := 73) rfl ?_); refine goesL_ (some 22) rfl rfl Try.func73 (by kernel_rfl) rfl #[.int .u64 (Go.bits .or .u64 x5_1 (ji6)), .int .u64 (Go.bits .or .u64 x5_1 (ji6))] rfl (by (try simp only [List.map_toArray, List.map_cons, List.map_nil]); first | done | (simp only [hji6]; rfl) | rfl | (simp only [List.length_drop, List.length_take]; rfl)) ?_; (with_reducible refine (bits_Mul64.calls (Go.bits .or .u64 x5_1 (ji6)) (Go.bits .or .u64 x5_1 (ji6)) t151 t152 _ A7.out).mono ?_); rintro e w' ⟨rfl, ⟨nd, rfl⟩⟩; refine ⟨_, rfl, ?_⟩)))
        go_roundg k1
        case measure => have := HK1.out; omega
        case rel => exact ⟨(Go.bits .or .u64 x5_1 (ji6)), (wrap64 (x6_1 - 1)), (by first | rfl | (simp; done) | (simp only [← hji6] <;> (first | rfl | simp)) | (simp [*]; done)), (by first | rfl | (simp; done) | (simp [*]; done)), H', ⟨by have := HK1.out; omega⟩, by repeat (first | exact Drawn0.refl _ | apply Drawn0.step)⟩
      ·rw [if_neg c9] at H
       have c9b0 : (t151 == a0) = false := beq_eq_false_iff_ne.mpr c9
       have c9b1 : (t151 != a0) = true := bne_iff_ne.mpr c9
       have H' := Aside0.mk H
       clear H
       go_wp2_with (first | ((with_reducible refine gate_callee (f := 73) rfl ?_); refine goesL_ (some 22) rfl rfl Try.func73 (by kernel_rfl) rfl #[.int .u64 (Go.bits .or .u64 x5_1 (ji6)), .int .u64 (Go.bits .or .u64 x5_1 (ji6))] rfl (by (try simp only [List.map_toArray, List.map_cons, List.map_nil]); first | done | (simp only [hji6]; rfl) | rfl | (simp only [List.length_drop, List.length_take]; rfl)) ?_; (with_reducible refine (bits_Mul64.calls (Go.bits .or .u64 x5_1 (ji6)) (Go.bits .or .u64 x5_1 (ji6)) t151 t152 _ A7.out).mono ?_); rintro e w' ⟨rfl, ⟨nd, rfl⟩⟩; refine ⟨_, rfl, ?_⟩))
       repeat (go_step3; go_wp2_with (first | ((with_reducible refine gate_callee (f := 73) rfl ?_); refine goesL_ (some 22) rfl rfl Try.func73 (by kernel_rfl) rfl #[.int .u64 (Go.bits .or .u64 x5_1 (ji6)), .int .u64 (Go.bits .or .u64 x5_1 (ji6))] rfl (by (try simp only [List.map_toArray, List.map_cons, List.map_nil]); first | done | (simp only [hji6]; rfl) | rfl | (simp only [List.length_drop, List.length_take]; rfl)) ?_; (with_reducible refine (bits_Mul64.calls (Go.bits .or .u64 x5_1 (ji6)) (Go.bits .or .u64 x5_1 (ji6)) t151 t152 _ A7.out).mono ?_); rintro e w' ⟨rfl, ⟨nd, rfl⟩⟩; refine ⟨_, rfl, ?_⟩)))
       go_roundg k1
       case measure => have := HK1.out; omega
       case rel => exact ⟨(Go.bits .or .u64 x5_1 (ji6)), (wrap64 (x6_1 - 1)), (by first | rfl | (simp; done) | (simp only [← hji6] <;> (first | rfl | simp)) | (simp [*]; done)), (by first | rfl | (simp; done) | (simp [*]; done)), H', ⟨by have := HK1.out; omega⟩, by repeat (first | exact Drawn0.refl _ | apply Drawn0.step)⟩
    ·rw [if_neg c5] at H
     exact absurd H (by simp)
   ·rw [if_neg c3] at H
    have c3b0 : decide (0 ≤ x6_1) = false := decide_eq_false c3
    clear c3
    obtain rfl := Option.some.inj H
    go_wp2
    repeat (go_step3; go_wp2)
    go_ret
    exact ⟨by first | rfl | (simp; done) | (simp [*]; done), by repeat (first | exact Drawn0.refl _ | apply Drawn0.step)⟩
def fixed_RMS.l0 : Nat → List Int → Int → Int → Int → List Int → Int → Int → Option (Int)
 | 0, _, _, _, _, _, _, _ => none
 | k + 1, x0, x3, x4, x5, x23, x24, x25 => if x25 < x24 then (if 0 ≤ x25 then (if x25 < (x23.length : Int) then ((fixed_Add.f k (rd x23 x25) 0).bind fun t155 => ((fixed_size.f t155).bind fun bt156 => ((bits_Mul64.f bt156.1 bt156.1).bind fun bt158 => ((bits_Add64.f x4 bt158.2 0).bind fun bt160 => ((bits_Add64.f x3 bt158.1 bt160.2).bind fun bt162 => (fixed_RMS.l0 k x0 bt162.1 bt160.1 (IntKind.u64.wrap (x5 + bt162.2)) x23 x24 (wrap64 (x25 + 1)))))))) else (none)) else (none)) else ((bits_Div64.f k x5 x3 (IntKind.u64.wrap ((x0.length : Int)))).bind fun bt164 => ((bits_Div64.f k bt164.2 x4 (IntKind.u64.wrap ((x0.length : Int)))).bind fun bt166 => ((fixed_root.f k bt164.1 bt166.1).bind fun t168 => ((fixed_whole_span.f k 0 t168 false).bind fun t169 => (some t169)))))
def fixed_RMS.f (k : Nat) (l0 : List Int) : Option (Int) := if 0 ≤ (mn (l0.length : Int) 64) then (if (mn (l0.length : Int) 64) ≤ (l0.length : Int) then (if ((l0.take ((mn (l0.length : Int) 64) : Int).toNat).length : Int) = 0 then (some 0) else (fixed_RMS.l0 k (l0.take ((mn (l0.length : Int) 64) : Int).toNat) 0 0 0 (l0.take ((mn (l0.length : Int) 64) : Int).toNat) ((l0.take ((mn (l0.length : Int) 64) : Int).toNat).length : Int) 0)) else (none)) else (none)
theorem fixed_RMS.mono_l : ∀ k, (∀ y0 y1 y2 y3 y4 y5 y6, LeO (fixed_RMS.l0 k y0 y1 y2 y3 y4 y5 y6) (fixed_RMS.l0 (k + 1) y0 y1 y2 y3 y4 y5 y6))
 | 0 => fun _ _ _ _ _ _ _ r h => by simp [fixed_RMS.l0] at h
 | k + 1 => by
  have ih0 := fixed_RMS.mono_l k
  ·intro y0 y1 y2 y3 y4 y5 y6
   unfold fixed_RMS.l0
   repeat' first
   | (with_reducible exact ih0 _ _ _ _ _ _ _)
   | (with_reducible exact bits_Div64.mono _ _ _ _)
   | (with_reducible exact fixed_Add.mono _ _ _)
   | (with_reducible exact fixed_root.mono _ _ _)
   | (with_reducible exact fixed_whole_span.mono _ _ _ _)
   | (with_reducible exact LeO.refl _)
   | (with_reducible exact LeO.none _)
   | (with_reducible refine LeO.ite ?_ ?_)
   | (with_reducible refine LeO.bind ?_ (fun _ => ?_))
   | exact ih0 _ _ _ _ _ _ _
   | exact bits_Div64.mono _ _ _ _
   | exact fixed_Add.mono _ _ _
   | exact fixed_root.mono _ _ _
   | exact fixed_whole_span.mono _ _ _ _
   | exact LeO.none _
   | refine LeO.ite ?_ ?_
   | refine LeO.bind ?_ (fun _ => ?_)
theorem fixed_RMS.mono : ∀ a0 k, LeO (fixed_RMS.f k a0) (fixed_RMS.f (k + 1) a0) := by
 intro a0 k
 have ih0 := fixed_RMS.mono_l k
 unfold fixed_RMS.f
 repeat' first
   | (with_reducible exact ih0 _ _ _ _ _ _ _)
   | (with_reducible exact bits_Div64.mono _ _ _ _)
   | (with_reducible exact fixed_Add.mono _ _ _)
   | (with_reducible exact fixed_root.mono _ _ _)
   | (with_reducible exact fixed_whole_span.mono _ _ _ _)
   | (with_reducible exact LeO.refl _)
   | (with_reducible exact LeO.none _)
   | (with_reducible refine LeO.ite ?_ ?_)
   | (with_reducible refine LeO.bind ?_ (fun _ => ?_))
   | exact ih0 _ _ _ _ _ _ _
   | exact bits_Div64.mono _ _ _ _
   | exact fixed_Add.mono _ _ _
   | exact fixed_root.mono _ _ _
   | exact fixed_whole_span.mono _ _ _ _
   | exact LeO.none _
   | refine LeO.ite ?_ ?_
   | refine LeO.bind ?_ (fun _ => ?_)
theorem fixed_RMS.calls (k : Nat) (A0 : Option Addr) (c0 : Nat) (l0 : List Int) (r : Int) (w : World) (hr0 : Kd.C (Kd.int .i64) w A0 l0.length l0) (hc0 : l0.length ≤ c0) (h : fixed_RMS.f k l0 = some r) :
  Calls Try.prog 52 #[.slice A0 l0.length c0] w fun e w' => e = .returned (.int .i64 r) ∧ Below w.heap.size w w' := by
 have hu67 := Try.underlying67
 have HR0 := Aside0.mk hr0
 have HC0 := Aside0.mk hc0
 clear hr0 hc0
 have HB := Aside0.mk (Below.refl w.heap.size w)
 have H : (if 0 ≤ (mn (l0.length : Int) 64) then (if (mn (l0.length : Int) 64) ≤ (l0.length : Int) then (if ((l0.take ((mn (l0.length : Int) 64) : Int).toNat).length : Int) = 0 then (some 0) else (fixed_RMS.l0 k (l0.take ((mn (l0.length : Int) 64) : Int).toNat) 0 0 0 (l0.take ((mn (l0.length : Int) 64) : Int).toNat) ((l0.take ((mn (l0.length : Int) 64) : Int).toNat).length : Int) 0)) else (none)) else (none)) = some r := h
 clear h
 obtain ⟨ji2, hji2⟩ : ∃ j_ : Int, (mn (l0.length : Int) 64) = j_ := ⟨_, rfl⟩
 replace H : (if 0 ≤ (ji2) then (if (ji2) ≤ (l0.length : Int) then (if ((l0.take ((ji2) : Int).toNat).length : Int) = 0 then (some 0) else (fixed_RMS.l0 k (l0.take ((ji2) : Int).toNat) 0 0 0 (l0.take ((ji2) : Int).toNat) ((l0.take ((ji2) : Int).toNat).length : Int) 0)) else (none)) else (none)) = some r := by first | (rw [hji2] at H; exact H) | (simp only [hji2] at H ⊢; exact H)
 (try (have hji2h : ji2 ≤ 64 := by (rw [← hji2]; unfold mn; (repeat' split) <;> omega)))
 (try (have hji2g : ji2 ≤ 64 := by omega))
 (try (have hji2l : 0 ≤ ji2 := by (rw [← hji2]; unfold mn; (repeat' split) <;> omega)))
 (try (have hji2m : 0 ≤ ji2 := by omega))
 have hji2_ : (if 64 < (l0.length : Int) then 64 else (l0.length : Int)) = ji2 := hji2
 by_cases c3 : 0 ≤ (ji2)
 ·rw [if_pos c3] at H
  have c3b0 := eq_true c3
  have c3b1 : decide (0 ≤ (ji2)) = true := decide_eq_true c3
  clear c3
  by_cases c4 : (ji2) ≤ (l0.length : Int)
  ·rw [if_pos c4] at H
   have c4b0 := eq_true c4
   have c4b1 : decide ((ji2) ≤ (l0.length : Int)) = true := decide_eq_true c4
   clear c4
   by_cases c5 : ((l0.take ((ji2) : Int).toNat).length : Int) = 0
   ·rw [if_pos c5] at H
    have c5b0 : (((l0.take ((ji2) : Int).toNat).length : Int) == 0) = true := beq_iff_eq.mpr c5
    have c5b1 : (((l0.take ((ji2) : Int).toNat).length : Int) != 0) = false := bne_eq_false_iff_eq.mpr c5
    clear c5
    obtain rfl := Option.some.inj H
    obtain ⟨i06, hi06, _, hsz6, _⟩ := info_parts info23
    obtain ⟨hcut6, hA6, hC6⟩ := print_take_of (P := Try.prog) (Value.int .i64) 0 71 23 .i64 Try.underlying71 hi06 hsz6 A0 c0 l0 (ji2) (of_decide_eq_true (by first | (with_reducible assumption) | assumption)) (of_decide_eq_true (by first | (with_reducible assumption) | assumption)) HC0.out
    have HR153 := Aside0.mk (Kd.C_of_reads (h1 := fun _ => rfl) (hA6 _ (Kd.reads_of_C HR0.out)))
    have HC153 := Aside0.mk hC6
    clear hA6 hC6 hi06 hsz6
    generalize hyl_ : List.take (Int.toNat ji2) l0 = yl_ at *
    clear hyl_
    go_enter Try.func52, Try.ntmps52
    go_wp2
    go_ret
    exact ⟨by first | rfl | (simp [errW_none, errW_some] <;> rfl) | (simp only [← hji2]; first | rfl | (simp [errW_none, errW_some] <;> rfl)) | (simp [*, errW_none, errW_some] <;> rfl), by repeat (first | (with_reducible first | exact HB.out | apply below_alloc | apply pw_below_drewN | apply below_drew1) | exact HB.out)⟩
   ·rw [if_neg c5] at H
    have c5b0 : (((l0.take ((ji2) : Int).toNat).length : Int) == 0) = false := beq_eq_false_iff_ne.mpr c5
    have c5b1 : (((l0.take ((ji2) : Int).toNat).length : Int) != 0) = true := bne_iff_ne.mpr c5
    have c5b2 : ¬ ((l0.take ((ji2) : Int).toNat) = []) := fun h_ => c5 (by rw [h_]; rfl)
    have H' := Aside0.mk H
    clear H
    obtain ⟨i07, hi07, _, hsz7, _⟩ := info_parts info23
    obtain ⟨hcut7, hA7, hC7⟩ := print_take_of (P := Try.prog) (Value.int .i64) 0 71 23 .i64 Try.underlying71 hi07 hsz7 A0 c0 l0 (ji2) (of_decide_eq_true (by first | (with_reducible assumption) | assumption)) (of_decide_eq_true (by first | (with_reducible assumption) | assumption)) HC0.out
    have HR153 := Aside0.mk (Kd.C_of_reads (h1 := fun _ => rfl) (hA7 _ (Kd.reads_of_C HR0.out)))
    have HC153 := Aside0.mk hC7
    clear hA7 hC7 hi07 hsz7
    generalize hyl_ : List.take (Int.toNat ji2) l0 = yl_ at *
    clear hyl_
    go_enter Try.func52, Try.ntmps52
    go_wp2
    go_loopg [3, 4, 5, 25] k (fun kq v3 v4 v5 v25 w' => ∃ (x3_1 : Int) (x4_1 : Int) (x5_1 : Int) (x25_1 : Int), v3 = .int .u64 x3_1 ∧ v4 = .int .u64 x4_1 ∧ v5 = .int .u64 x5_1 ∧ v25 = .int .i64 x25_1 ∧ Aside0 (fixed_RMS.l0 kq yl_ x3_1 x4_1 x5_1 yl_ (yl_.length : Int) x25_1 = some r) ∧ Aside0 (kq ≤ k) ∧ Aside0 (Below w.heap.size w w'))
    case atStart => exact ⟨(0), (0), (0), (0), (by first | rfl | (simp; done) | (simp [*]; done)), (by first | rfl | (simp; done) | (simp [*]; done)), (by first | rfl | (simp; done) | (simp [*]; done)), (by first | rfl | (simp; done) | (simp [*]; done)), H', ⟨Nat.le_refl _⟩, ⟨by repeat (first | (with_reducible first | exact HB.out | apply below_alloc | apply pw_below_drewN | apply below_drew1) | exact HB.out)⟩⟩
    case round =>
     clear H'
     try clear p2
     try clear c3
     try clear c3b0
     try clear c3b1
     try clear c4
     try clear c4b0
     try clear c4b1
     try clear c5
     try clear c5b0
     try clear c5b1
     try clear c5b2
     obtain ⟨x3_1, x4_1, x5_1, x25_1, rfl, rfl, rfl, rfl, HA, HK1, HB⟩ := hrel
     cases gk with
     | zero => exact absurd HA.out (by simp [fixed_RMS.l0])
     | succ k1 =>
      have H := HA.out
      clear HA
      simp only [fixed_RMS.l0] at H
      by_cases c8 : x25_1 < (yl_.length : Int)
      ·rw [if_pos c8] at H
       have c8b0 : decide (x25_1 < (yl_.length : Int)) = true := decide_eq_true c8
       clear c8
       by_cases c9 : 0 ≤ x25_1
       ·rw [if_pos c9] at H
        have c9b0 : decide (0 ≤ x25_1) = true := decide_eq_true c9
        clear c9
        by_cases c10 : x25_1 < (yl_.length : Int)
        ·rw [if_pos c10] at H
         have c10b0 : decide (x25_1 < (yl_.length : Int)) = true := decide_eq_true c10
         clear c10
         replace H := Option.bind_eq_some_iff.mp H
         obtain ⟨t155, A110, H⟩ := H
         replace H : ((fixed_size.f t155).bind fun bt156 => ((bits_Mul64.f bt156.1 bt156.1).bind fun bt158 => ((bits_Add64.f x4_1 bt158.2 0).bind fun bt160 => ((bits_Add64.f x3_1 bt158.1 bt160.2).bind fun bt162 => (fixed_RMS.l0 k1 yl_ bt162.1 bt160.1 (IntKind.u64.wrap (x5_1 + bt162.2)) yl_ (yl_.length : Int) (wrap64 (x25_1 + 1))))))) = some r := H
         have A11 := Aside0.mk A110
         clear A110
         replace H := Option.bind_eq_some_iff.mp H
         obtain ⟨⟨t156, t157⟩, A120, H⟩ := H
         replace H : ((bits_Mul64.f t156 t156).bind fun bt158 => ((bits_Add64.f x4_1 bt158.2 0).bind fun bt160 => ((bits_Add64.f x3_1 bt158.1 bt160.2).bind fun bt162 => (fixed_RMS.l0 k1 yl_ bt162.1 bt160.1 (IntKind.u64.wrap (x5_1 + bt162.2)) yl_ (yl_.length : Int) (wrap64 (x25_1 + 1)))))) = some r := H
         have A12 := Aside0.mk A120
         clear A120
         replace H := Option.bind_eq_some_iff.mp H
         obtain ⟨⟨t158, t159⟩, A130, H⟩ := H
         replace H : ((bits_Add64.f x4_1 t159 0).bind fun bt160 => ((bits_Add64.f x3_1 t158 bt160.2).bind fun bt162 => (fixed_RMS.l0 k1 yl_ bt162.1 bt160.1 (IntKind.u64.wrap (x5_1 + bt162.2)) yl_ (yl_.length : Int) (wrap64 (x25_1 + 1))))) = some r := H
         have A13 := Aside0.mk A130
         clear A130
         replace H := Option.bind_eq_some_iff.mp H
         obtain ⟨⟨t160, t161⟩, A140, H⟩ := H
         replace H : ((bits_Add64.f x3_1 t158 t161).bind fun bt162 => (fixed_RMS.l0 k1 yl_ bt162.1 t160 (IntKind.u64.wrap (x5_1 + bt162.2)) yl_ (yl_.length : Int) (wrap64 (x25_1 + 1)))) = some r := H
         have A14 := Aside0.mk A140
         clear A140
         replace H := Option.bind_eq_some_iff.mp H
         obtain ⟨⟨t162, t163⟩, A150, H⟩ := H
         replace H : (fixed_RMS.l0 k1 yl_ t162 t160 (IntKind.u64.wrap (x5_1 + t163)) yl_ (yl_.length : Int) (wrap64 (x25_1 + 1))) = some r := H
         have A15 := Aside0.mk A150
         clear A150
         have H' := Aside0.mk H
         clear H
         have p154 : 0 ≤ (x25_1 : Int) := of_decide_eq_true (by first | (with_reducible assumption) | assumption)
         have q154 : x25_1 < (yl_.length : Int) := of_decide_eq_true (by first | (with_reducible assumption) | assumption)
         obtain ⟨ad154, e154, hx154_0⟩ := Kd.at_int HR153.out x25_1 p154 q154
         cases e154
         replace hx154_0 := (HB.out.cell (World.block_lt_of_cell? w _ hx154_0)).trans hx154_0
         replace p154 := eq_true p154
         replace q154 := eq_true q154
         go_wp2_with (first | ((with_reducible refine gate_callee (f := 25) rfl ?_); refine goesL_ (some 31) rfl rfl Try.func25 (by kernel_rfl) rfl #[.int .i64 (rd yl_ x25_1), .int .i64 0] rfl (by (try simp only [List.map_toArray, List.map_cons, List.map_nil]); first | done | (simp only [hji2]; rfl) | rfl | (simp only [List.length_drop, List.length_take]; rfl)) ?_; (with_reducible refine (fixed_Add.calls k1 (rd yl_ x25_1) 0 t155 _ A11.out).mono ?_); rintro e w16 ⟨rfl, hb⟩; refine ⟨_, rfl, ?_⟩; have n0_ := Aside0.mk (below_step (by repeat (first | (with_reducible first | exact HB.out | apply below_alloc | apply pw_below_drewN | apply below_drew1) | exact HB.out)) hb); clear HB; have HB := n0_; clear n0_; (try clear hb); (try clear hb2); (try clear hk); (try clear hi)) | ((with_reducible refine gate_callee (f := 72) rfl ?_); refine goesL_ (some 32) rfl rfl Try.func72 (by kernel_rfl) rfl #[.int .i64 t155] rfl (by (try simp only [List.map_toArray, List.map_cons, List.map_nil]); first | done | rfl | (simp only [List.length_drop, List.length_take]; rfl)) ?_; (with_reducible refine (fixed_size.calls t155 t156 t157 _ A12.out).mono ?_); rintro e w' ⟨rfl, ⟨nd, rfl⟩⟩; refine ⟨_, rfl, ?_⟩) | ((with_reducible refine gate_callee (f := 73) rfl ?_); refine goesL_ (some 38) rfl rfl Try.func73 (by kernel_rfl) rfl #[.int .u64 t156, .int .u64 t156] rfl (by (try simp only [List.map_toArray, List.map_cons, List.map_nil]); first | done | rfl | (simp only [List.length_drop, List.length_take]; rfl)) ?_; (with_reducible refine (bits_Mul64.calls t156 t156 t158 t159 _ A13.out).mono ?_); rintro e w' ⟨rfl, ⟨nd, rfl⟩⟩; refine ⟨_, rfl, ?_⟩) | ((with_reducible refine gate_callee (f := 70) rfl ?_); refine goesX_ (some 44) rfl rfl #[.int .u64 x4_1, .int .u64 t159, .int .u64 0] rfl (by (try simp only [List.map_toArray, List.map_cons, List.map_nil]); first | done | rfl | (simp only [List.length_drop, List.length_take]; rfl)) ?_; (with_reducible refine (bits_Add64.calls x4_1 t159 0 t160 t161 _ A14.out).mono ?_); rintro e w' ⟨rfl, ⟨nd, rfl⟩⟩; refine ⟨_, rfl, ?_⟩) | ((with_reducible refine gate_callee (f := 70) rfl ?_); refine goesX_ (some 51) rfl rfl #[.int .u64 x3_1, .int .u64 t158, .int .u64 t161] rfl (by (try simp only [List.map_toArray, List.map_cons, List.map_nil]); first | done | rfl | (simp only [List.length_drop, List.length_take]; rfl)) ?_; (with_reducible refine (bits_Add64.calls x3_1 t158 t161 t162 t163 _ A15.out).mono ?_); rintro e w' ⟨rfl, ⟨nd, rfl⟩⟩; refine ⟨_, rfl, ?_⟩))
         go_roundg k1
         case measure => have := HK1.out; omega
         case rel => exact ⟨(t162), (t160), (IntKind.u64.wrap (x5_1 + t163)), (wrap64 (x25_1 + 1)), (by first | rfl | (simp; done) | (simp [*]; done)), (by first | rfl | (simp; done) | (simp [*]; done)), (by first | rfl | (simp; done) | (simp [*]; done)), (by first | rfl | (simp; done) | (simp [*]; done)), H', ⟨by have := HK1.out; omega⟩, ⟨by repeat (first | (with_reducible first | exact HB.out | apply below_alloc | apply pw_below_drewN | apply below_drew1) | exact HB.out)⟩⟩
        ·rw [if_neg c10] at H
         exact absurd H (by simp)
       ·rw [if_neg c9] at H
        exact absurd H (by simp)
      ·rw [if_neg c8] at H
       have c8b0 : decide (x25_1 < (yl_.length : Int)) = false := decide_eq_false c8
       clear c8
       replace H := Option.bind_eq_some_iff.mp H
       obtain ⟨⟨t164, t165⟩, A170, H⟩ := H
       replace H : ((bits_Div64.f k1 t165 x4_1 (IntKind.u64.wrap ((yl_.length : Int)))).bind fun bt166 => ((fixed_root.f k1 t164 bt166.1).bind fun t168 => ((fixed_whole_span.f k1 0 t168 false).bind fun t169 => (some t169)))) = some r := H
       have A17 := Aside0.mk A170
       clear A170
       replace H := Option.bind_eq_some_iff.mp H
       obtain ⟨⟨t166, t167⟩, A180, H⟩ := H
       replace H : ((fixed_root.f k1 t164 t166).bind fun t168 => ((fixed_whole_span.f k1 0 t168 false).bind fun t169 => (some t169))) = some r := H
       have A18 := Aside0.mk A180
       clear A180
       replace H := Option.bind_eq_some_iff.mp H
       obtain ⟨t168, A190, H⟩ := H
       replace H : ((fixed_whole_span.f k1 0 t168 false).bind fun t169 => (some t169)) = some r := H
       have A19 := Aside0.mk A190
       clear A190
       replace H := Option.bind_eq_some_iff.mp H
       obtain ⟨t169, A200, H⟩ := H
       replace H : (some t169) = some r := H
       have A20 := Aside0.mk A200
       clear A200
       obtain rfl := Option.some.inj H
       go_wp2_with (first | ((with_reducible refine gate_callee (f := 74) rfl ?_); refine goesL_ (some 65) rfl rfl Try.func74 (by kernel_rfl) rfl #[.int .u64 x5_1, .int .u64 x3_1, .int .u64 (IntKind.u64.wrap ((yl_.length : Int)))] rfl (by (try simp only [List.map_toArray, List.map_cons, List.map_nil]); first | done | (simp only [hji2]; rfl) | rfl | (simp only [List.length_drop, List.length_take]; rfl)) ?_; (with_reducible refine (bits_Div64.calls k1 x5_1 x3_1 (IntKind.u64.wrap ((yl_.length : Int))) t164 t165 _ A17.out).mono ?_); rintro e w' ⟨rfl, ⟨nd, rfl⟩⟩; refine ⟨_, rfl, ?_⟩) | ((with_reducible refine gate_callee (f := 74) rfl ?_); refine goesL_ (some 72) rfl rfl Try.func74 (by kernel_rfl) rfl #[.int .u64 t165, .int .u64 x4_1, .int .u64 (IntKind.u64.wrap ((yl_.length : Int)))] rfl (by (try simp only [List.map_toArray, List.map_cons, List.map_nil]); first | done | (simp only [hji2]; rfl) | rfl | (simp only [List.length_drop, List.length_take]; rfl)) ?_; (with_reducible refine (bits_Div64.calls k1 t165 x4_1 (IntKind.u64.wrap ((yl_.length : Int))) t166 t167 _ A18.out).mono ?_); rintro e w' ⟨rfl, ⟨nd, rfl⟩⟩; refine ⟨_, rfl, ?_⟩) | ((with_reducible refine gate_callee (f := 75) rfl ?_); refine goesL_ (some 77) rfl rfl Try.func75 (by kernel_rfl) rfl #[.int .u64 t164, .int .u64 t166] rfl (by (try simp only [List.map_toArray, List.map_cons, List.map_nil]); first | done | rfl | (simp only [List.length_drop, List.length_take]; rfl)) ?_; (with_reducible refine (fixed_root.calls k1 t164 t166 t168 _ A19.out).mono ?_); rintro e w' ⟨rfl, ⟨nd, rfl⟩⟩; refine ⟨_, rfl, ?_⟩) | ((with_reducible refine gate_callee (f := 49) rfl ?_); refine goesL_ (some 79) rfl rfl Try.func49 (by kernel_rfl) rfl #[.agg #[.int .u64 0, .int .u64 t168, .bool false]] rfl (by (try simp only [List.map_toArray, List.map_cons, List.map_nil]); first | done | rfl | (simp only [List.length_drop, List.length_take]; rfl)) ?_; (with_reducible refine (fixed_whole_span.calls k1 0 t168 false t169 _ A20.out).mono ?_); rintro e w21 ⟨rfl, hb⟩; refine ⟨_, rfl, ?_⟩; have n0_ := Aside0.mk (below_step (by repeat (first | (with_reducible first | exact HB.out | apply below_alloc | apply pw_below_drewN | apply below_drew1) | exact HB.out)) hb); clear HB; have HB := n0_; clear n0_; (try clear hb); (try clear hb2); (try clear hk); (try clear hi)))
       go_ret
       exact ⟨by first | rfl | (simp [errW_none, errW_some] <;> rfl) | (simp only [← hji2]; first | rfl | (simp [errW_none, errW_some] <;> rfl)) | (simp [*, errW_none, errW_some] <;> rfl), by repeat (first | (with_reducible first | exact HB.out | apply below_alloc | apply pw_below_drewN | apply below_drew1) | exact HB.out)⟩
  ·rw [if_neg c4] at H
   exact absurd H (by simp)
 ·rw [if_neg c3] at H
  exact absurd H (by simp)
def cluster_apart.l0 : Nat → List (S25) → Int → List Int → List (S25) → Int → Int → Option (Int)
 | 0, _, _, _, _, _, _ => none
 | k + 1, x0, x1, x5, x8, x9, x10 => if x10 < x9 then (if 0 ≤ x10 then (if x10 < (x8.length : Int) then (if x10 = x1 then (cluster_apart.l0 k x0 x1 x5 x8 x9 (wrap64 (x10 + 1))) else (if 0 ≤ x1 then (if x1 < (x0.length : Int) then ((fixed_Sub.f k ((rd_T25 x0 x1).f1) ((rd_T25 x8 x10).f1)).bind fun t173 => (if x5.length < 17592186044416 then (cluster_apart.l0 k x0 x1 (x5 ++ [t173]) x8 x9 (wrap64 (x10 + 1))) else (none))) else (none)) else (none))) else (none)) else (none)) else ((fixed_RMS.f k x5).bind fun t177 => (some t177))
def cluster_apart.f (k : Nat) (l0 : List (S25)) (a1 : Int) : Option (Int) := cluster_apart.l0 k l0 a1 ([] : List Int) l0 (l0.length : Int) 0
theorem cluster_apart.mono_l : ∀ k, (∀ y0 y1 y2 y3 y4 y5, LeO (cluster_apart.l0 k y0 y1 y2 y3 y4 y5) (cluster_apart.l0 (k + 1) y0 y1 y2 y3 y4 y5))
 | 0 => fun _ _ _ _ _ _ r h => by simp [cluster_apart.l0] at h
 | k + 1 => by
  have ih0 := cluster_apart.mono_l k
  ·intro y0 y1 y2 y3 y4 y5
   unfold cluster_apart.l0
   repeat' first
   | (with_reducible exact ih0 _ _ _ _ _ _)
   | (with_reducible exact fixed_RMS.mono _ _)
   | (with_reducible exact fixed_Sub.mono _ _ _)
   | (with_reducible exact LeO.refl _)
   | (with_reducible exact LeO.none _)
   | (with_reducible refine LeO.ite ?_ ?_)
   | (with_reducible refine LeO.bind ?_ (fun _ => ?_))
   | exact ih0 _ _ _ _ _ _
   | exact fixed_RMS.mono _ _
   | exact fixed_Sub.mono _ _ _
   | exact LeO.none _
   | refine LeO.ite ?_ ?_
   | refine LeO.bind ?_ (fun _ => ?_)
theorem cluster_apart.mono : ∀ a0 a1 k, LeO (cluster_apart.f k a0 a1) (cluster_apart.f (k + 1) a0 a1) := by
 intro a0 a1 k
 have ih0 := cluster_apart.mono_l k
 unfold cluster_apart.f
 repeat' first
   | (with_reducible exact ih0 _ _ _ _ _ _)
   | (with_reducible exact fixed_RMS.mono _ _)
   | (with_reducible exact fixed_Sub.mono _ _ _)
   | (with_reducible exact LeO.refl _)
   | (with_reducible exact LeO.none _)
   | (with_reducible refine LeO.ite ?_ ?_)
   | (with_reducible refine LeO.bind ?_ (fun _ => ?_))
   | exact ih0 _ _ _ _ _ _
   | exact fixed_RMS.mono _ _
   | exact fixed_Sub.mono _ _ _
   | exact LeO.none _
   | refine LeO.ite ?_ ?_
   | refine LeO.bind ?_ (fun _ => ?_)
def cluster_apart.T6 : Bool × List (List Nat × List Nat) := (true, [([], []), ([], []), ([], []), ([1, 2], [1, 2]), ([3], [3]), ([4], [4]), ([], []), ([6], [6]), ([5, 7], [5, 7]), ([8], [8]), ([0, 9, 8], [0, 9]), ([10, 10, 0, 1, 2, 3, 4, 5, 6, 7, 8, 9, 10], [0, 10])])
def cluster_apart.B6 : List Nat := [0, 0, 0, 6, 14, 30, 0, 64, 254, 510, 1023, 2047]
theorem cluster_apart.tab6 : rtab .any (opsOf Try.f28 6) = cluster_apart.T6 := by kernel_rfl
theorem cluster_apart.bits6 : waitsOk cluster_apart.T6.2 cluster_apart.B6 = true := by kernel_rfl
theorem cluster_apart.calls (k : Nat) (A0 : Option Addr) (c0 : Nat) (l0 : List (S25)) (a1 : Int) (r : Int) (w : World) (hr0 : Kd.C k25 w A0 l0.length l0) (hc0 : l0.length ≤ c0) (h : cluster_apart.f k l0 a1 = some r) :
  Calls Try.prog 28 #[.slice A0 l0.length c0, .int .i64 a1] w fun e w' => e = .returned (.int .i64 r) ∧ Below w.heap.size w w' := by
 have hu25 := Try.underlying25
 have HR0 := Aside0.mk hr0
 have HC0 := Aside0.mk hc0
 clear hr0 hc0
 have HB := Aside0.mk (Below.refl w.heap.size w)
 have H : (cluster_apart.l0 k l0 a1 ([] : List Int) l0 (l0.length : Int) 0) = some r := h
 clear h
 have H' := Aside0.mk H
 clear H
 go_enter Try.func28, Try.ntmps28
 go_wp2
 go_loopg [5, 10] k (fun kq v5 v10 w' => ∃ (x5_1 : List Int) (x10_1 : Int), v10 = .int .i64 x10_1 ∧ Aside0 (cluster_apart.l0 kq l0 a1 x5_1 l0 (l0.length : Int) x10_1 = some r) ∧ Aside0 (kq ≤ k) ∧ Aside0 (Kd.R (Kd.int .i64) 23 w' w.heap.size (fun _ => True) v5 x5_1) ∧ Aside0 (Below w.heap.size w w'))
 case atStart => exact ⟨(([] : List Int)), (0), (by first | rfl | (simp; done) | (simp [*]; done)), H', ⟨Nat.le_refl _⟩, ⟨by first | exact Kd.R_nil _ _ _ _ _ | exact Kd.N_nil _ _ _ _ _ | exact Kd.V_nil _ _ _ _ _ | exact Kd.Q_nil _ _ _ _ _ | exact Kd.S_nil _ _ _ _ _⟩, ⟨by repeat (first | (with_reducible first | exact HB.out | apply below_alloc | apply pw_below_drewN | apply below_drew1) | exact HB.out)⟩⟩
 case round =>
  clear H'
  try clear c2
  try clear p2
  obtain ⟨x5_1, x10_1, rfl, HA, HK1, HO_5, HB⟩ := hrel
  cases gk with
  | zero => exact absurd HA.out (by simp [cluster_apart.l0])
  | succ k1 =>
   have H := HA.out
   clear HA
   simp only [cluster_apart.l0] at H
   by_cases c3 : x10_1 < (l0.length : Int)
   ·rw [if_pos c3] at H
    have c3b0 : decide (x10_1 < (l0.length : Int)) = true := decide_eq_true c3
    clear c3
    by_cases c4 : 0 ≤ x10_1
    ·rw [if_pos c4] at H
     have c4b0 : decide (0 ≤ x10_1) = true := decide_eq_true c4
     clear c4
     by_cases c5 : x10_1 < (l0.length : Int)
     ·rw [if_pos c5] at H
      have c5b0 : decide (x10_1 < (l0.length : Int)) = true := decide_eq_true c5
      clear c5
      by_cases c6 : x10_1 = a1
      ·rw [if_pos c6] at H
       have c6b0 : (x10_1 == a1) = true := beq_iff_eq.mpr c6
       have c6b1 : (x10_1 != a1) = false := bne_eq_false_iff_eq.mpr c6
       clear c6
       have H' := Aside0.mk H
       clear H
       have p170 : 0 ≤ (x10_1 : Int) := of_decide_eq_true (by first | (with_reducible assumption) | assumption)
       have q170 : x10_1 < (l0.length : Int) := of_decide_eq_true (by first | (with_reducible assumption) | assumption)
       obtain ⟨ad170, e170, hx170_0, hx170_1, hx170_2, hx170_3, hx170_4, hx170_5, hx170_6⟩ := at_T25 HR0.out x10_1 p170 q170
       cases e170
       replace hx170_0 := (HB.out.cell (World.block_lt_of_cell? w _ hx170_0)).trans hx170_0
       replace hx170_1 := (HB.out.cell (World.block_lt_of_cell? w _ hx170_1)).trans hx170_1
       replace hx170_2 := (HB.out.cell (World.block_lt_of_cell? w _ hx170_2)).trans hx170_2
       replace hx170_3 := (HB.out.cell (World.block_lt_of_cell? w _ hx170_3)).trans hx170_3
       replace hx170_4 := (HB.out.cell (World.block_lt_of_cell? w _ hx170_4)).trans hx170_4
       replace hx170_5 := (HB.out.cell (World.block_lt_of_cell? w _ hx170_5)).trans hx170_5
       replace hx170_6 := (HB.out.cell (World.block_lt_of_cell? w _ hx170_6)).trans hx170_6
       replace p170 := eq_true p170
       replace q170 := eq_true q170
       go_wp2_with (first | ((with_reducible refine gate_dst (N := 7) rfl ?_); refine box_event ?hg (N := 7) ?hd (cs := #[.int .i64 0, .int .i64 0, .int .i64 0, .int .i64 0, .int .i64 0, .bool false, .bool false]) (t := 25) ?hr ?_; (case hd => rfl); (case hg => rfl); (case hr => first | (go_simp; done) | (go_simp; rfl)); intro gb171 hg w7 hbox hb; have n0_ := Aside0.mk (Kd.R_below (by (with_reducible repeat (first | apply Kd.R_alloc | apply Kd.R_drewN | apply Kd.R_drew)); exact HO_5.out) hb); have n1_ := Aside0.mk (below_step (by repeat (first | (with_reducible first | exact HB.out | apply below_alloc | apply pw_below_drewN | apply below_drew1) | exact HB.out)) hb); have n2_ := Aside0.mk (hbox); have n3_ := Aside0.mk ((by rw [hg]; exact (below_size (by repeat (first | (with_reducible first | exact HB.out | apply below_alloc | apply pw_below_drewN | apply below_drew1) | exact HB.out))) : w.heap.size ≤ gb171)); have n4_ := Aside0.mk ((by rw [hg]; exact (below_size (by repeat (first | (with_reducible first | exact HB.out | apply below_alloc | apply pw_below_drewN | apply below_drew1) | exact HB.out))) : w.heap.size ≤ gb171)); clear HO_5; clear HB; have HO_5 := n0_; have HB := n1_; have BK171 := n2_; have GW171 := n3_; have GE171 := n4_; clear n0_ n1_ n2_ n3_ n4_; clear hb hbox hg; have hcz8_0 : w7.cell? ⟨gb171, 0, none⟩ = some (.int .i64 0) := (blk_cell BK171.out 0).trans rfl; have hcz8_1 : w7.cell? ⟨gb171, 1, none⟩ = some (.int .i64 0) := (blk_cell BK171.out 1).trans rfl; have hcz8_2 : w7.cell? ⟨gb171, 2, none⟩ = some (.int .i64 0) := (blk_cell BK171.out 2).trans rfl; have hcz8_3 : w7.cell? ⟨gb171, 3, none⟩ = some (.int .i64 0) := (blk_cell BK171.out 3).trans rfl; have hcz8_4 : w7.cell? ⟨gb171, 4, none⟩ = some (.int .i64 0) := (blk_cell BK171.out 4).trans rfl; have hcz8_5 : w7.cell? ⟨gb171, 5, none⟩ = some (.bool false) := (blk_cell BK171.out 5).trans rfl; have hcz8_6 : w7.cell? ⟨gb171, 6, none⟩ = some (.bool false) := (blk_cell BK171.out 6).trans rfl; have hfz8_0 := blk_frozen BK171.out 0; have hfz8_1 := blk_frozen BK171.out 1; have hfz8_2 := blk_frozen BK171.out 2; have hfz8_3 := blk_frozen BK171.out 3; have hfz8_4 := blk_frozen BK171.out 4; have hfz8_5 := blk_frozen BK171.out 5; have hfz8_6 := blk_frozen BK171.out 6))
       go_roundg k1
       case measure => have := HK1.out; omega
       case rel => exact ⟨(x5_1), (wrap64 (x10_1 + 1)), (by first | rfl | (simp; done) | (simp [*]; done)), H', ⟨by have := HK1.out; omega⟩, ⟨by (with_reducible repeat (first | apply Kd.R_alloc | apply Kd.R_drewN | apply Kd.R_drew)); exact Kd.R_mono (Kd.R_far (p := ⟨gb171, 6, none⟩) (Kd.R_far (p := ⟨gb171, 5, none⟩) (Kd.R_far (p := ⟨gb171, 4, none⟩) (Kd.R_far (p := ⟨gb171, 3, none⟩) (Kd.R_far (p := ⟨gb171, 2, none⟩) (Kd.R_far (p := ⟨gb171, 1, none⟩) (Kd.R_far (p := ⟨gb171, 0, none⟩) (Kd.R_types HO_5.out BK171.out (by decide)) (fun _ hk => hk.2) (.int .i64 ((rd_T25 l0 x10_1).f0))) (fun _ hk => hk.2) (.int .i64 ((rd_T25 l0 x10_1).f1))) (fun _ hk => hk.2) (.int .i64 ((rd_T25 l0 x10_1).f2))) (fun _ hk => hk.2) (.int .i64 ((rd_T25 l0 x10_1).f3))) (fun _ hk => hk.2) (.int .i64 ((rd_T25 l0 x10_1).f4))) (fun _ hk => hk.2) (.bool ((rd_T25 l0 x10_1).f5))) (fun _ hk => hk.2) (.bool ((rd_T25 l0 x10_1).f6))) (fun _ hk => trivial)⟩, ⟨by repeat (first | (with_reducible first | exact HB.out | apply below_alloc | apply pw_below_drewN | apply below_drew1 | refine below_set ?_ GE171.out) | exact HB.out)⟩⟩
      ·rw [if_neg c6] at H
       have c6b0 : (x10_1 == a1) = false := beq_eq_false_iff_ne.mpr c6
       have c6b1 : (x10_1 != a1) = true := bne_iff_ne.mpr c6
       by_cases c9 : 0 ≤ a1
       ·rw [if_pos c9] at H
        have c9b0 : decide (0 ≤ a1) = true := decide_eq_true c9
        clear c9
        by_cases c10 : a1 < (l0.length : Int)
        ·rw [if_pos c10] at H
         have c10b0 : decide (a1 < (l0.length : Int)) = true := decide_eq_true c10
         clear c10
         replace H := Option.bind_eq_some_iff.mp H
         obtain ⟨t173, A110, H⟩ := H
         replace H : (if x5_1.length < 17592186044416 then (cluster_apart.l0 k1 l0 a1 (x5_1 ++ [t173]) l0 (l0.length : Int) (wrap64 (x10_1 + 1))) else (none)) = some r := H
         have A11 := Aside0.mk A110
         clear A110
         by_cases c12 : x5_1.length < 17592186044416
         ·rw [if_pos c12] at H
          have LMc12 := Aside0.mk c12
          clear c12
          obtain ⟨y174, hy174⟩ : ∃ y_ : List Int, y_ = (x5_1 ++ [t173]) := ⟨_, rfl⟩
          replace H : (cluster_apart.l0 k1 l0 a1 y174 l0 (l0.length : Int) (wrap64 (x10_1 + 1))) = some r := by first | (rw [hy174]; with_reducible exact H) | (have H2_ := (Option.bind_some _ _).symm.trans H; rw [hy174]; with_reducible exact H2_) | (have H2_ := (Option.bind_some _ _).symm.trans H; with_reducible exact H2_) | with_reducible exact H | (rw [hy174]; exact H) | exact H
          have Ny174 := Aside0.mk hy174
          clear hy174
          have H' := Aside0.mk H
          clear H
          have p170 : 0 ≤ (x10_1 : Int) := of_decide_eq_true (by first | (with_reducible assumption) | assumption)
          have q170 : x10_1 < (l0.length : Int) := of_decide_eq_true (by first | (with_reducible assumption) | assumption)
          obtain ⟨ad170, e170, hx170_0, hx170_1, hx170_2, hx170_3, hx170_4, hx170_5, hx170_6⟩ := at_T25 HR0.out x10_1 p170 q170
          cases e170
          replace hx170_0 := (HB.out.cell (World.block_lt_of_cell? w _ hx170_0)).trans hx170_0
          replace hx170_1 := (HB.out.cell (World.block_lt_of_cell? w _ hx170_1)).trans hx170_1
          replace hx170_2 := (HB.out.cell (World.block_lt_of_cell? w _ hx170_2)).trans hx170_2
          replace hx170_3 := (HB.out.cell (World.block_lt_of_cell? w _ hx170_3)).trans hx170_3
          replace hx170_4 := (HB.out.cell (World.block_lt_of_cell? w _ hx170_4)).trans hx170_4
          replace hx170_5 := (HB.out.cell (World.block_lt_of_cell? w _ hx170_5)).trans hx170_5
          replace hx170_6 := (HB.out.cell (World.block_lt_of_cell? w _ hx170_6)).trans hx170_6
          replace p170 := eq_true p170
          replace q170 := eq_true q170
          try go_wp2_with (first | ((with_reducible refine gate_dst (N := 7) rfl ?_); refine box_event ?hg (N := 7) ?hd (cs := #[.int .i64 0, .int .i64 0, .int .i64 0, .int .i64 0, .int .i64 0, .bool false, .bool false]) (t := 25) ?hr ?_; (case hd => rfl); (case hg => rfl); (case hr => first | (go_simp; done) | (go_simp; rfl)); intro gb171 hg w13 hbox hb; have n0_ := Aside0.mk (Kd.R_below (by (with_reducible repeat (first | apply Kd.R_alloc | apply Kd.R_drewN | apply Kd.R_drew)); exact HO_5.out) hb); have n1_ := Aside0.mk (below_step (by repeat (first | (with_reducible first | exact HB.out | apply below_alloc | apply pw_below_drewN | apply below_drew1) | exact HB.out)) hb); have n2_ := Aside0.mk (hbox); have n3_ := Aside0.mk ((by rw [hg]; exact (below_size (by repeat (first | (with_reducible first | exact HB.out | apply below_alloc | apply pw_below_drewN | apply below_drew1) | exact HB.out))) : w.heap.size ≤ gb171)); have n4_ := Aside0.mk ((by rw [hg]; exact (below_size (by repeat (first | (with_reducible first | exact HB.out | apply below_alloc | apply pw_below_drewN | apply below_drew1) | exact HB.out))) : w.heap.size ≤ gb171)); clear HO_5; clear HB; have HO_5 := n0_; have HB := n1_; have BK171 := n2_; have GW171 := n3_; have GE171 := n4_; clear n0_ n1_ n2_ n3_ n4_; clear hb hbox hg; have hcz14_0 : w13.cell? ⟨gb171, 0, none⟩ = some (.int .i64 0) := (blk_cell BK171.out 0).trans rfl; have hcz14_1 : w13.cell? ⟨gb171, 1, none⟩ = some (.int .i64 0) := (blk_cell BK171.out 1).trans rfl; have hcz14_2 : w13.cell? ⟨gb171, 2, none⟩ = some (.int .i64 0) := (blk_cell BK171.out 2).trans rfl; have hcz14_3 : w13.cell? ⟨gb171, 3, none⟩ = some (.int .i64 0) := (blk_cell BK171.out 3).trans rfl; have hcz14_4 : w13.cell? ⟨gb171, 4, none⟩ = some (.int .i64 0) := (blk_cell BK171.out 4).trans rfl; have hcz14_5 : w13.cell? ⟨gb171, 5, none⟩ = some (.bool false) := (blk_cell BK171.out 5).trans rfl; have hcz14_6 : w13.cell? ⟨gb171, 6, none⟩ = some (.bool false) := (blk_cell BK171.out 6).trans rfl; have hfz14_0 := blk_frozen BK171.out 0; have hfz14_1 := blk_frozen BK171.out 1; have hfz14_2 := blk_frozen BK171.out 2; have hfz14_3 := blk_frozen BK171.out 3; have hfz14_4 := blk_frozen BK171.out 4; have hfz14_5 := blk_frozen BK171.out 5; have hfz14_6 := blk_frozen BK171.out 6))
          have n0_ : Aside0 (Kd.R (Kd.int .i64) 23 (((((((w13.setCell ⟨gb171, 0, none⟩ (.int .i64 ((rd_T25 l0 x10_1).f0))).setCell ⟨gb171, 1, none⟩ (.int .i64 ((rd_T25 l0 x10_1).f1))).setCell ⟨gb171, 2, none⟩ (.int .i64 ((rd_T25 l0 x10_1).f2))).setCell ⟨gb171, 3, none⟩ (.int .i64 ((rd_T25 l0 x10_1).f3))).setCell ⟨gb171, 4, none⟩ (.int .i64 ((rd_T25 l0 x10_1).f4))).setCell ⟨gb171, 5, none⟩ (.bool ((rd_T25 l0 x10_1).f5))).setCell ⟨gb171, 6, none⟩ (.bool ((rd_T25 l0 x10_1).f6))) w.heap.size (fun _ => True) u5 x5_1) := ⟨by (with_reducible repeat (first | apply Kd.R_alloc | apply Kd.R_drewN | apply Kd.R_drew)); exact Kd.R_mono (Kd.R_far (p := ⟨gb171, 6, none⟩) (Kd.R_far (p := ⟨gb171, 5, none⟩) (Kd.R_far (p := ⟨gb171, 4, none⟩) (Kd.R_far (p := ⟨gb171, 3, none⟩) (Kd.R_far (p := ⟨gb171, 2, none⟩) (Kd.R_far (p := ⟨gb171, 1, none⟩) (Kd.R_far (p := ⟨gb171, 0, none⟩) (Kd.R_types HO_5.out BK171.out (by decide)) (fun _ hk => hk.2) (.int .i64 ((rd_T25 l0 x10_1).f0))) (fun _ hk => hk.2) (.int .i64 ((rd_T25 l0 x10_1).f1))) (fun _ hk => hk.2) (.int .i64 ((rd_T25 l0 x10_1).f2))) (fun _ hk => hk.2) (.int .i64 ((rd_T25 l0 x10_1).f3))) (fun _ hk => hk.2) (.int .i64 ((rd_T25 l0 x10_1).f4))) (fun _ hk => hk.2) (.bool ((rd_T25 l0 x10_1).f5))) (fun _ hk => hk.2) (.bool ((rd_T25 l0 x10_1).f6))) (fun _ hk => trivial)⟩
          have n1_ : Aside0 ((((((((w13.setCell ⟨gb171, 0, none⟩ (.int .i64 ((rd_T25 l0 x10_1).f0))).setCell ⟨gb171, 1, none⟩ (.int .i64 ((rd_T25 l0 x10_1).f1))).setCell ⟨gb171, 2, none⟩ (.int .i64 ((rd_T25 l0 x10_1).f2))).setCell ⟨gb171, 3, none⟩ (.int .i64 ((rd_T25 l0 x10_1).f3))).setCell ⟨gb171, 4, none⟩ (.int .i64 ((rd_T25 l0 x10_1).f4))).setCell ⟨gb171, 5, none⟩ (.bool ((rd_T25 l0 x10_1).f5))).setCell ⟨gb171, 6, none⟩ (.bool ((rd_T25 l0 x10_1).f6))).heap[gb171]? = some (.cells #[.int .i64 ((rd_T25 l0 x10_1).f0), .int .i64 ((rd_T25 l0 x10_1).f1), .int .i64 ((rd_T25 l0 x10_1).f2), .int .i64 ((rd_T25 l0 x10_1).f3), .int .i64 ((rd_T25 l0 x10_1).f4), .bool ((rd_T25 l0 x10_1).f5), .bool ((rd_T25 l0 x10_1).f6)] 25 (0, 0))) := ⟨by (with_reducible repeat (first | refine blk_drewN ?_ _ | refine blk_drew ?_ | refine blk_alloc ?_ _)); refine blk_put (cs := #[.int .i64 ((rd_T25 l0 x10_1).f0), .int .i64 ((rd_T25 l0 x10_1).f1), .int .i64 ((rd_T25 l0 x10_1).f2), .int .i64 ((rd_T25 l0 x10_1).f3), .int .i64 ((rd_T25 l0 x10_1).f4), .bool ((rd_T25 l0 x10_1).f5), .bool false]) ?_ 6 _ rfl; (with_reducible repeat (first | refine blk_drewN ?_ _ | refine blk_drew ?_ | refine blk_alloc ?_ _)); refine blk_put (cs := #[.int .i64 ((rd_T25 l0 x10_1).f0), .int .i64 ((rd_T25 l0 x10_1).f1), .int .i64 ((rd_T25 l0 x10_1).f2), .int .i64 ((rd_T25 l0 x10_1).f3), .int .i64 ((rd_T25 l0 x10_1).f4), .bool false, .bool false]) ?_ 5 _ rfl; (with_reducible repeat (first | refine blk_drewN ?_ _ | refine blk_drew ?_ | refine blk_alloc ?_ _)); refine blk_put (cs := #[.int .i64 ((rd_T25 l0 x10_1).f0), .int .i64 ((rd_T25 l0 x10_1).f1), .int .i64 ((rd_T25 l0 x10_1).f2), .int .i64 ((rd_T25 l0 x10_1).f3), .int .i64 0, .bool false, .bool false]) ?_ 4 _ rfl; (with_reducible repeat (first | refine blk_drewN ?_ _ | refine blk_drew ?_ | refine blk_alloc ?_ _)); refine blk_put (cs := #[.int .i64 ((rd_T25 l0 x10_1).f0), .int .i64 ((rd_T25 l0 x10_1).f1), .int .i64 ((rd_T25 l0 x10_1).f2), .int .i64 0, .int .i64 0, .bool false, .bool false]) ?_ 3 _ rfl; (with_reducible repeat (first | refine blk_drewN ?_ _ | refine blk_drew ?_ | refine blk_alloc ?_ _)); refine blk_put (cs := #[.int .i64 ((rd_T25 l0 x10_1).f0), .int .i64 ((rd_T25 l0 x10_1).f1), .int .i64 0, .int .i64 0, .int .i64 0, .bool false, .bool false]) ?_ 2 _ rfl; (with_reducible repeat (first | refine blk_drewN ?_ _ | refine blk_drew ?_ | refine blk_alloc ?_ _)); refine blk_put (cs := #[.int .i64 ((rd_T25 l0 x10_1).f0), .int .i64 0, .int .i64 0, .int .i64 0, .int .i64 0, .bool false, .bool false]) ?_ 1 _ rfl; (with_reducible repeat (first | refine blk_drewN ?_ _ | refine blk_drew ?_ | refine blk_alloc ?_ _)); refine blk_put (cs := #[.int .i64 0, .int .i64 0, .int .i64 0, .int .i64 0, .int .i64 0, .bool false, .bool false]) ?_ 0 _ rfl; (with_reducible repeat (first | refine blk_drewN ?_ _ | refine blk_drew ?_ | refine blk_alloc ?_ _)); exact BK171.out⟩
          have n2_ : Aside0 (Below w.heap.size w (((((((w13.setCell ⟨gb171, 0, none⟩ (.int .i64 ((rd_T25 l0 x10_1).f0))).setCell ⟨gb171, 1, none⟩ (.int .i64 ((rd_T25 l0 x10_1).f1))).setCell ⟨gb171, 2, none⟩ (.int .i64 ((rd_T25 l0 x10_1).f2))).setCell ⟨gb171, 3, none⟩ (.int .i64 ((rd_T25 l0 x10_1).f3))).setCell ⟨gb171, 4, none⟩ (.int .i64 ((rd_T25 l0 x10_1).f4))).setCell ⟨gb171, 5, none⟩ (.bool ((rd_T25 l0 x10_1).f5))).setCell ⟨gb171, 6, none⟩ (.bool ((rd_T25 l0 x10_1).f6)))) := ⟨by repeat (first | (with_reducible first | exact HB.out | apply below_alloc | apply pw_below_drewN | apply below_drew1 | refine below_set ?_ GE171.out) | exact HB.out)⟩
          (try clear HO_5)
          (try clear BK171)
          (try clear HB)
          generalize (((((((w13.setCell ⟨gb171, 0, none⟩ (.int .i64 ((rd_T25 l0 x10_1).f0))).setCell ⟨gb171, 1, none⟩ (.int .i64 ((rd_T25 l0 x10_1).f1))).setCell ⟨gb171, 2, none⟩ (.int .i64 ((rd_T25 l0 x10_1).f2))).setCell ⟨gb171, 3, none⟩ (.int .i64 ((rd_T25 l0 x10_1).f3))).setCell ⟨gb171, 4, none⟩ (.int .i64 ((rd_T25 l0 x10_1).f4))).setCell ⟨gb171, 5, none⟩ (.bool ((rd_T25 l0 x10_1).f5))).setCell ⟨gb171, 6, none⟩ (.bool ((rd_T25 l0 x10_1).f6))) = w15 at n0_ n1_ n2_ ⊢
          have HO_5 := n0_
          have BK171 := n1_
          have HB := n2_
          clear n0_ n1_ n2_
          have n0_ := Aside0.mk (Kd.R_drew HO_5.out)
          have n1_ := Aside0.mk (blk_drew BK171.out)
          have n2_ := Aside0.mk (below_drew1 HB.out)
          clear HO_5
          clear BK171
          clear HB
          have HO_5 := n0_
          have BK171 := n1_
          have HB := n2_
          clear n0_ n1_ n2_
          have p172 : 0 ≤ (a1 : Int) := of_decide_eq_true (by first | (with_reducible assumption) | assumption)
          have q172 : a1 < (l0.length : Int) := of_decide_eq_true (by first | (with_reducible assumption) | assumption)
          obtain ⟨ad172, e172, hx172_0, hx172_1, hx172_2, hx172_3, hx172_4, hx172_5, hx172_6⟩ := at_T25 HR0.out a1 p172 q172
          have hw172_6 := hx172_6
          have hw172_5 := hx172_5
          have hw172_4 := hx172_4
          have hw172_3 := hx172_3
          have hw172_2 := hx172_2
          have hw172_1 := hx172_1
          have hw172_0 := hx172_0
          obtain rfl : ad170 = ad172 := (by injection e172)
          replace hx172_0 := (HB.out.cell (World.block_lt_of_cell? w _ hx172_0)).trans hx172_0
          replace hx172_1 := (HB.out.cell (World.block_lt_of_cell? w _ hx172_1)).trans hx172_1
          replace hx172_2 := (HB.out.cell (World.block_lt_of_cell? w _ hx172_2)).trans hx172_2
          replace hx172_3 := (HB.out.cell (World.block_lt_of_cell? w _ hx172_3)).trans hx172_3
          replace hx172_4 := (HB.out.cell (World.block_lt_of_cell? w _ hx172_4)).trans hx172_4
          replace hx172_5 := (HB.out.cell (World.block_lt_of_cell? w _ hx172_5)).trans hx172_5
          replace hx172_6 := (HB.out.cell (World.block_lt_of_cell? w _ hx172_6)).trans hx172_6
          replace p172 := eq_true p172
          replace q172 := eq_true q172
          refine start_ (n := 12) (S := fun w' => w'.cell? ⟨gb171, 0, none⟩ = some (.int .i64 ((rd_T25 l0 x10_1).f0)) ∧ w'.cell? ⟨gb171, 1, none⟩ = some (.int .i64 ((rd_T25 l0 x10_1).f1)) ∧ w'.cell? ⟨gb171, 2, none⟩ = some (.int .i64 ((rd_T25 l0 x10_1).f2)) ∧ w'.cell? ⟨gb171, 3, none⟩ = some (.int .i64 ((rd_T25 l0 x10_1).f3)) ∧ w'.cell? ⟨gb171, 4, none⟩ = some (.int .i64 ((rd_T25 l0 x10_1).f4)) ∧ w'.cell? ⟨gb171, 5, none⟩ = some (.bool ((rd_T25 l0 x10_1).f5)) ∧ w'.cell? ⟨gb171, 6, none⟩ = some (.bool ((rd_T25 l0 x10_1).f6)) ∧ w'.cell? (ad170.add ((a1).toNat * 7)) = some (.int .i64 ((rd_T25 l0 a1).f0)) ∧ w'.cell? ⟨(ad170.add ((a1).toNat * 7)).block, (ad170.add ((a1).toNat * 7)).off + 1, none⟩ = some (.int .i64 ((rd_T25 l0 a1).f1)) ∧ w'.cell? ⟨(ad170.add ((a1).toNat * 7)).block, (ad170.add ((a1).toNat * 7)).off + 2, none⟩ = some (.int .i64 ((rd_T25 l0 a1).f2)) ∧ w'.cell? ⟨(ad170.add ((a1).toNat * 7)).block, (ad170.add ((a1).toNat * 7)).off + 3, none⟩ = some (.int .i64 ((rd_T25 l0 a1).f3)) ∧ w'.cell? ⟨(ad170.add ((a1).toNat * 7)).block, (ad170.add ((a1).toNat * 7)).off + 4, none⟩ = some (.int .i64 ((rd_T25 l0 a1).f4)) ∧ w'.cell? ⟨(ad170.add ((a1).toNat * 7)).block, (ad170.add ((a1).toNat * 7)).off + 5, none⟩ = some (.bool ((rd_T25 l0 a1).f5)) ∧ w'.cell? ⟨(ad170.add ((a1).toNat * 7)).block, (ad170.add ((a1).toNat * 7)).off + 6, none⟩ = some (.bool ((rd_T25 l0 a1).f6))) (ds := []) #[false, false, false, false, false, false, false, false, false, false, false, false] (by kernel_rfl) rfl rfl ⟨(blk_cell BK171.out 0).trans rfl, (blk_cell BK171.out 1).trans rfl, (blk_cell BK171.out 2).trans rfl, (blk_cell BK171.out 3).trans rfl, (blk_cell BK171.out 4).trans rfl, (blk_cell BK171.out 5).trans rfl, (blk_cell BK171.out 6).trans rfl, ((HB.out.cell (World.block_lt_of_cell? w _ hw172_0)).trans hw172_0), ((HB.out.cell (World.block_lt_of_cell? w _ hw172_1)).trans hw172_1), ((HB.out.cell (World.block_lt_of_cell? w _ hw172_2)).trans hw172_2), ((HB.out.cell (World.block_lt_of_cell? w _ hw172_3)).trans hw172_3), ((HB.out.cell (World.block_lt_of_cell? w _ hw172_4)).trans hw172_4), ((HB.out.cell (World.block_lt_of_cell? w _ hw172_5)).trans hw172_5), ((HB.out.cell (World.block_lt_of_cell? w _ hw172_6)).trans hw172_6)⟩ (fun hHeld => ?_); refine with_tabW cluster_apart.tab6 cluster_apart.bits6 (fun HT_ HW_ => ?_)
          generalize w15.drew = w16 at HO_5 BK171 HB hx172_0 hx172_1 hx172_2 hx172_3 hx172_4 hx172_5 hx172_6 hHeld ⊢
          refine pure_ (i := 0) (N := some 18) (v := ?_) (a' := ?_) #[true, false, false, false, false, false, false, false, false, false, false, false] rfl rfl (any_of HT_.out (by kernel_rfl)) (fun _ _ _ h => h) (Or.inl ⟨by rfl, ?_⟩) ?_ ?_
          rotate_left
          ·intro w'
           go_simp
           with_reducible rfl
          rotate_left
          ·simp only [Act.put, List.setIfInBounds_toArray, List.set_cons_zero, List.set_cons_succ, i64_w, i32_w]
           rfl
          refine pure_ (i := 1) (N := some 19) (v := ?_) (a' := ?_) #[true, true, false, false, false, false, false, false, false, false, false, false] rfl rfl (any_of HT_.out (by kernel_rfl)) (fun _ _ _ h => h) (Or.inl ⟨by rfl, ?_⟩) ?_ ?_
          rotate_left
          ·intro w'
           go_simp
           with_reducible rfl
          rotate_left
          ·simp only [Act.put, List.setIfInBounds_toArray, List.set_cons_zero, List.set_cons_succ, i64_w, i32_w]
           rfl
          refine pure_ (i := 2) (N := some 20) (v := ?_) (a' := ?_) #[true, true, true, false, false, false, false, false, false, false, false, false] rfl rfl (any_of HT_.out (by kernel_rfl)) (fun _ _ _ h => h) (Or.inl ⟨by rfl, ?_⟩) ?_ ?_
          rotate_left
          ·intro w'
           go_simp
           with_reducible rfl
          rotate_left
          ·simp only [Act.put, List.setIfInBounds_toArray, List.set_cons_zero, List.set_cons_succ, i64_w, i32_w]
           rfl
          refine pure_ (i := 3) (N := some 21) (v := ?_) (a' := ?_) #[true, true, true, true, false, false, false, false, false, false, false, false] rfl rfl (any_of HT_.out (by kernel_rfl)) (fun _ _ _ h => h) (Or.inl ⟨by rfl, ?_⟩) ?_ ?_
          rotate_left
          ·intro w'
           go_simp
           with_reducible rfl
          rotate_left
          ·simp only [Act.put, List.setIfInBounds_toArray, List.set_cons_zero, List.set_cons_succ, i64_w, i32_w]
           rfl
          refine pure_ (i := 4) (N := some 22) (v := ?_) (a' := ?_) #[true, true, true, true, true, false, false, false, false, false, false, false] rfl rfl (any_of HT_.out (by kernel_rfl)) (fun _ _ _ h => h) (Or.inl ⟨by rfl, ?_⟩) ?_ ?_
          rotate_left
          ·intro w'
           go_simp
           with_reducible rfl
          rotate_left
          ·simp only [Act.put, List.setIfInBounds_toArray, List.set_cons_zero, List.set_cons_succ, i64_w, i32_w]
           rfl
          refine pure_ (i := 6) (N := some 24) (v := ?_) (a' := ?_) #[true, true, true, true, true, false, true, false, false, false, false, false] rfl rfl (any_of HT_.out (by kernel_rfl)) (fun _ _ _ h => h) (Or.inl ⟨by rfl, ?_⟩) ?_ ?_
          rotate_left
          ·intro w'
           go_simp
           with_reducible rfl
          rotate_left
          ·simp only [Act.put, List.setIfInBounds_toArray, List.set_cons_zero, List.set_cons_succ, i64_w, i32_w]
           rfl
          refine take_ (i := 5) (N := some 23) (v := ?_) (a' := ?_) #[true, true, true, true, true, true, true, false, false, false, false, false] rfl rfl (take_ofW HT_.out HW_.out (by kernel_rfl)) (fun _ _ _ h => h) (Or.inl ⟨by rfl, ?_⟩) hHeld ?_ ?_
          rotate_left
          ·rintro w' ⟨s0, s1, s2, s3, s4, s5, s6, s7, s8, s9, s10, s11, s12, s13⟩
           go_simp
           with_reducible rfl
          rotate_left
          ·simp only [Act.put, List.setIfInBounds_toArray, List.set_cons_zero, List.set_cons_succ, i64_w, i32_w]
           rfl
          refine take_ (i := 7) (N := some 25) (v := ?_) (a' := ?_) #[true, true, true, true, true, true, true, true, false, false, false, false] rfl rfl (take_ofW HT_.out HW_.out (by kernel_rfl)) (fun _ _ _ h => h) (Or.inl ⟨by rfl, ?_⟩) hHeld ?_ ?_
          rotate_left
          ·rintro w' ⟨s0, s1, s2, s3, s4, s5, s6, s7, s8, s9, s10, s11, s12, s13⟩
           go_simp
           with_reducible rfl
          rotate_left
          ·simp only [Act.put, List.setIfInBounds_toArray, List.set_cons_zero, List.set_cons_succ, i64_w, i32_w]
           rfl
          refine one_ (i := 8) (N := some 26) #[true, true, true, true, true, true, true, true, true, false, false, false] rfl rfl (one_of HT_.out (by kernel_rfl)) (by decide) (fun K hK => ?_)
          refine goes_ Try.func27 (by kernel_rfl) rfl #[.int .i64 ((rd_T25 l0 a1).f1), .int .i64 ((rd_T25 l0 x10_1).f1)] (by rfl) rfl rfl (by (try simp only [List.map_toArray, List.map_cons, List.map_nil]); first | done | rfl | (simp only [List.length_drop, List.length_take]; rfl)) ?_
          with_reducible refine (fixed_Sub.calls k1 ((rd_T25 l0 a1).f1) ((rd_T25 l0 x10_1).f1) t173 _ A11.out).mono ?_
          rintro e w17 ⟨rfl, hb⟩
          refine ⟨_, rfl, ?_⟩
          have n0_ := Aside0.mk (Kd.R_below (by (with_reducible repeat (first | apply Kd.R_alloc | apply Kd.R_drewN | apply Kd.R_drew)); exact HO_5.out) hb)
          have n1_ := Aside0.mk (blk_below (g := gb171) (o := .cells #[.int .i64 ((rd_T25 l0 x10_1).f0), .int .i64 ((rd_T25 l0 x10_1).f1), .int .i64 ((rd_T25 l0 x10_1).f2), .int .i64 ((rd_T25 l0 x10_1).f3), .int .i64 ((rd_T25 l0 x10_1).f4), .bool ((rd_T25 l0 x10_1).f5), .bool ((rd_T25 l0 x10_1).f6)] 25 (0, 0)) (by (with_reducible repeat (first | refine blk_drewN ?_ _ | refine blk_drew ?_ | refine blk_alloc ?_ _)); exact BK171.out) hb)
          have n2_ := Aside0.mk (below_step (by repeat (first | (with_reducible first | exact HB.out | apply below_alloc | apply pw_below_drewN | apply below_drew1 | refine below_set ?_ GE171.out) | exact HB.out)) hb)
          clear HO_5
          clear BK171
          clear HB
          have HO_5 := n0_
          have BK171 := n1_
          have HB := n2_
          clear n0_ n1_ n2_
          (try clear hb)
          (try clear hb2)
          (try clear hk)
          (try clear hi)
          refine hK.out _ _ ⟨(blk_cell BK171.out 0).trans rfl, (blk_cell BK171.out 1).trans rfl, (blk_cell BK171.out 2).trans rfl, (blk_cell BK171.out 3).trans rfl, (blk_cell BK171.out 4).trans rfl, (blk_cell BK171.out 5).trans rfl, (blk_cell BK171.out 6).trans rfl, ((HB.out.cell (World.block_lt_of_cell? w _ hw172_0)).trans hw172_0), ((HB.out.cell (World.block_lt_of_cell? w _ hw172_1)).trans hw172_1), ((HB.out.cell (World.block_lt_of_cell? w _ hw172_2)).trans hw172_2), ((HB.out.cell (World.block_lt_of_cell? w _ hw172_3)).trans hw172_3), ((HB.out.cell (World.block_lt_of_cell? w _ hw172_4)).trans hw172_4), ((HB.out.cell (World.block_lt_of_cell? w _ hw172_5)).trans hw172_5), ((HB.out.cell (World.block_lt_of_cell? w _ hw172_6)).trans hw172_6)⟩ (fun hHeld => ?_)
          clear hK K
          refine norm_ (a' := ?_) ?_ ?_
          rotate_left
          ·show Act.put _ (some 26) _ = _
           simp only [Act.put, List.setIfInBounds_toArray, List.set_cons_zero, List.set_cons_succ, i64_w, i32_w]
           rfl
          refine one_ (i := 9) (N := some 27) #[true, true, true, true, true, true, true, true, true, true, false, false] rfl rfl (one_of HT_.out (by kernel_rfl)) (by decide) (fun K hK => ?_)
          refine value_ (w1 := ?_) (v := ?_) (by rfl) rfl ?_ ?_
          rotate_left 2
          ·go_simp
           constructor
           ·rfl
           ·rfl
          refine hK.out _ _ ⟨(blk_cell (blk_alloc BK171.out _) 0).trans rfl, (blk_cell (blk_alloc BK171.out _) 1).trans rfl, (blk_cell (blk_alloc BK171.out _) 2).trans rfl, (blk_cell (blk_alloc BK171.out _) 3).trans rfl, (blk_cell (blk_alloc BK171.out _) 4).trans rfl, (blk_cell (blk_alloc BK171.out _) 5).trans rfl, (blk_cell (blk_alloc BK171.out _) 6).trans rfl, (World.cell?_alloc_lt _ _ _ (World.block_lt_of_cell? _ _ (((HB.out.cell (World.block_lt_of_cell? w _ hw172_0)).trans hw172_0)))).trans (((HB.out.cell (World.block_lt_of_cell? w _ hw172_0)).trans hw172_0)), (World.cell?_alloc_lt _ _ _ (World.block_lt_of_cell? _ _ (((HB.out.cell (World.block_lt_of_cell? w _ hw172_1)).trans hw172_1)))).trans (((HB.out.cell (World.block_lt_of_cell? w _ hw172_1)).trans hw172_1)), (World.cell?_alloc_lt _ _ _ (World.block_lt_of_cell? _ _ (((HB.out.cell (World.block_lt_of_cell? w _ hw172_2)).trans hw172_2)))).trans (((HB.out.cell (World.block_lt_of_cell? w _ hw172_2)).trans hw172_2)), (World.cell?_alloc_lt _ _ _ (World.block_lt_of_cell? _ _ (((HB.out.cell (World.block_lt_of_cell? w _ hw172_3)).trans hw172_3)))).trans (((HB.out.cell (World.block_lt_of_cell? w _ hw172_3)).trans hw172_3)), (World.cell?_alloc_lt _ _ _ (World.block_lt_of_cell? _ _ (((HB.out.cell (World.block_lt_of_cell? w _ hw172_4)).trans hw172_4)))).trans (((HB.out.cell (World.block_lt_of_cell? w _ hw172_4)).trans hw172_4)), (World.cell?_alloc_lt _ _ _ (World.block_lt_of_cell? _ _ (((HB.out.cell (World.block_lt_of_cell? w _ hw172_5)).trans hw172_5)))).trans (((HB.out.cell (World.block_lt_of_cell? w _ hw172_5)).trans hw172_5)), (World.cell?_alloc_lt _ _ _ (World.block_lt_of_cell? _ _ (((HB.out.cell (World.block_lt_of_cell? w _ hw172_6)).trans hw172_6)))).trans (((HB.out.cell (World.block_lt_of_cell? w _ hw172_6)).trans hw172_6))⟩ (fun hHeld => ?_)
          clear hK K
          refine norm_ (a' := ?_) ?_ ?_
          rotate_left
          ·show Act.put _ (some 27) _ = _
           simp only [Act.put, List.setIfInBounds_toArray, List.set_cons_zero, List.set_cons_succ, i64_w, i32_w]
           rfl
          refine one_ (i := 10) (N := some 28) #[true, true, true, true, true, true, true, true, true, true, true, false] rfl rfl (one_of HT_.out (by kernel_rfl)) (by decide) (fun K hK => ?_)
          refine Kd.R_append_step (Kd.int .i64) (w0 := w) w.heap.size (by rfl) (.tmp 18) (.tmp 27) 71 23 (.int .i64 0) 8 rfl Try.underlying71 info23 rfl (by decide) (by omega) u5 x5_1 t173 [.int .i64 t173] (fun _ => True) (fun _ => False) rfl rfl ?aP (fun _ hk => hk.elim) ?aF ?aO ?aB ?aS ?aL ?_
          (case aP => exact rfl)
          (case aB => exact (by repeat (first | (with_reducible first | exact HB.out | apply below_alloc | apply pw_below_drewN | apply below_drew1 | refine below_set ?_ GE171.out) | exact HB.out)))
          (case aF => exact (fun _ _ => trivial))
          (case aO => exact (by (with_reducible repeat (first | apply Kd.R_alloc | apply Kd.R_drewN | apply Kd.R_drew)); exact HO_5.out))
          (case aS => exact (below_size (by repeat (first | (with_reducible first | exact HB.out | apply below_alloc | apply pw_below_drewN | apply below_drew1 | refine below_set ?_ GE171.out) | exact HB.out))))
          (case aL => have := LMc12.out; omega)
          intro v175 w18 ho hb hg hat
          rw [← Ny174.out] at ho
          have n0_ := Aside0.mk (blk_grown (g := gb171) (o := .cells #[.int .i64 ((rd_T25 l0 x10_1).f0), .int .i64 ((rd_T25 l0 x10_1).f1), .int .i64 ((rd_T25 l0 x10_1).f2), .int .i64 ((rd_T25 l0 x10_1).f3), .int .i64 ((rd_T25 l0 x10_1).f4), .bool ((rd_T25 l0 x10_1).f5), .bool ((rd_T25 l0 x10_1).f6)] 25 (0, 0)) (by (with_reducible repeat (first | refine blk_drewN ?_ _ | refine blk_drew ?_ | refine blk_alloc ?_ _)); exact BK171.out) hg (Kd.R_ne HO_5.out BK171.out (by decide)))
          have n1_ := Aside0.mk (hb)
          have n2_ := Aside0.mk (ho)
          clear BK171
          clear HB
          clear HO_5
          have BK171 := n0_
          have HB := n1_
          have HO176 := n2_
          clear n0_ n1_ n2_
          clear ho hb hg hat
          refine hK.out _ _ ⟨(blk_cell BK171.out 0).trans rfl, (blk_cell BK171.out 1).trans rfl, (blk_cell BK171.out 2).trans rfl, (blk_cell BK171.out 3).trans rfl, (blk_cell BK171.out 4).trans rfl, (blk_cell BK171.out 5).trans rfl, (blk_cell BK171.out 6).trans rfl, ((HB.out.cell (World.block_lt_of_cell? w _ hw172_0)).trans hw172_0), ((HB.out.cell (World.block_lt_of_cell? w _ hw172_1)).trans hw172_1), ((HB.out.cell (World.block_lt_of_cell? w _ hw172_2)).trans hw172_2), ((HB.out.cell (World.block_lt_of_cell? w _ hw172_3)).trans hw172_3), ((HB.out.cell (World.block_lt_of_cell? w _ hw172_4)).trans hw172_4), ((HB.out.cell (World.block_lt_of_cell? w _ hw172_5)).trans hw172_5), ((HB.out.cell (World.block_lt_of_cell? w _ hw172_6)).trans hw172_6)⟩ (fun hHeld => ?_)
          clear hK K
          refine norm_ (a' := ?_) ?_ ?_
          rotate_left
          ·show Act.put _ (some 28) _ = _
           simp only [Act.put, List.setIfInBounds_toArray, List.set_cons_zero, List.set_cons_succ, i64_w, i32_w]
           rfl
          refine pure_ (i := 11) (N := some 5) (v := ?_) (a' := ?_) #[true, true, true, true, true, true, true, true, true, true, true, true] rfl rfl (any_of HT_.out (by kernel_rfl)) (fun _ _ _ h => h) (Or.inl ⟨by rfl, ?_⟩) ?_ ?_
          rotate_left
          ·intro w'
           go_simp
           with_reducible rfl
          rotate_left
          ·simp only [Act.put, List.setIfInBounds_toArray, List.set_cons_zero, List.set_cons_succ, i64_w, i32_w]
           rfl
          refine done_ (done_of HT_.out (by kernel_rfl)) ?_
          try go_wp2
          go_roundg k1
          case measure => have := HK1.out; omega
          case rel => exact ⟨(y174), (wrap64 (x10_1 + 1)), (by first | rfl | (simp; done) | (simp [*]; done)), H', ⟨by have := HK1.out; omega⟩, ⟨by (with_reducible repeat (first | apply Kd.R_alloc | apply Kd.R_drewN | apply Kd.R_drew)); exact HO176.out⟩, ⟨by repeat (first | (with_reducible first | exact HB.out | apply below_alloc | apply pw_below_drewN | apply below_drew1 | refine below_set ?_ GE171.out) | exact HB.out)⟩⟩
         ·rw [if_neg c12] at H
          exact absurd H (by simp)
        ·rw [if_neg c10] at H
         exact absurd H (by simp)
       ·rw [if_neg c9] at H
        exact absurd H (by simp)
     ·rw [if_neg c5] at H
      exact absurd H (by simp)
    ·rw [if_neg c4] at H
     exact absurd H (by simp)
   ·rw [if_neg c3] at H
    have c3b0 : decide (x10_1 < (l0.length : Int)) = false := decide_eq_false c3
    clear c3
    replace H := Option.bind_eq_some_iff.mp H
    obtain ⟨t177, A190, H⟩ := H
    replace H : (some t177) = some r := H
    have A19 := Aside0.mk A190
    clear A190
    obtain rfl := Option.some.inj H
    obtain ⟨Ao20, co20, eo20⟩ := Kd.R_slice HO_5.out
    subst eo20
    go_wp2_with (first | ((with_reducible refine gate_callee (f := 52) rfl ?_); refine goesL_ (some 31) rfl rfl Try.func52 (by kernel_rfl) rfl #[.slice Ao20 x5_1.length co20] rfl (by (try simp only [List.map_toArray, List.map_cons, List.map_nil]); first | done | rfl | (simp only [List.length_drop, List.length_take]; rfl)) ?_; (with_reducible refine (fixed_RMS.calls k1 _ _ x5_1 t177 _ ?side1 ?side2 A19.out).mono ?_); (case side1 => repeat (first | exact (Kd.R_reads' HO_5.out).2.2 | (with_reducible refine Kd.C_alloc ?_ _) | (with_reducible refine Kd.C_drewN ?_ _) | (with_reducible refine Kd.C_drew ?_))); (case side2 => exact (Kd.R_reads' HO_5.out).2.1); rintro e w21 ⟨rfl, hb⟩; refine ⟨_, rfl, ?_⟩; have n0_ := Aside0.mk (Kd.R_below (by (with_reducible repeat (first | apply Kd.R_alloc | apply Kd.R_drewN | apply Kd.R_drew)); exact HO_5.out) hb); have n1_ := Aside0.mk (below_step (by repeat (first | (with_reducible first | exact HB.out | apply below_alloc | apply pw_below_drewN | apply below_drew1) | exact HB.out)) hb); clear HO_5; clear HB; have HO_5 := n0_; have HB := n1_; clear n0_ n1_; (try clear hb); (try clear hb2); (try clear hk); (try clear hi)))
    go_ret
    exact ⟨by first | rfl | (simp [errW_none, errW_some] <;> rfl) | (simp [*, errW_none, errW_some] <;> rfl), by repeat (first | (with_reducible first | exact HB.out | apply below_alloc | apply pw_below_drewN | apply below_drew1) | exact HB.out)⟩
end Go.Proofs.Ytigcmpmpjmbfkaa.PClusterShifted
