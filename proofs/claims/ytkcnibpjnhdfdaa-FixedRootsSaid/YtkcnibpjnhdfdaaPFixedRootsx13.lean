-- Written by a program of this session (the kit's print, extended: wip/extend_print.py). Not trusted: Lean checks it.
import Derived.Test.YtkcnibpjnhdfdaaPFixedRootsx0
import Derived.Test.YtkcnibpjnhdfdaaPFixedRootsx1
import Derived.Test.YtkcnibpjnhdfdaaPFixedRootsx5
import Derived.Test.YtkcnibpjnhdfdaaPFixedRootsx9
import Derived.Test.YtkcnibpjnhdfdaaPFixedRootsx12
namespace Go.Proofs.Ytkcnibpjnhdfdaa.PFixedRoots
open Go.RowKit Go.Proofs.YtkcnibpjnhdfdaaW.PrintWords Go.Proofs.YtkcnibpjnhdfdaaW.PrintLast Go.Proofs.YtkcnibpjnhdfdaaW.PrintMore
attribute [local go_sem] max2_int min2_int max_two min_two max_three min_three max_four min_four   -- for this text's walks alone
set_option linter.unusedVariables false
set_option linter.unusedSimpArgs false

/-! ### foliotlaw01_FixedRoots: function 7 -/
mutual
def foliotlaw01_FixedRoots.j0 : Nat → List Int → List Int → Bool → Option (Bool)
  | 0, _, _, _ => none
  | k + 1, x1, x5, x39 => if x39 = true then (some false) else (foliotlaw01_FixedRoots.l0 k x1 x5 0)
def foliotlaw01_FixedRoots.l0 : Nat → List Int → List Int → Int → Option (Bool)
  | 0, _, _, _ => none
  | k + 1, x1, x5, x6 => if x6 < (x1.length : Int) then (if 0 ≤ x6 then (if x6 < (x5.length : Int) then (if (rd x5 x6) = (rd x1 x6) then (foliotlaw01_FixedRoots.l0 k x1 x5 (wrap64 (x6 + 1))) else (some false)) else (none)) else (none)) else (some true)
end
def foliotlaw01_FixedRoots.f (k : Nat) (a0 : Int) (l1 : List Int) : Option (Bool) := if (l1.length : Int) > 65536 then (some true) else ((some (([] : List Int) : List Int)).bind fun y361 => (if y361.length + l1.length < 17592186044416 then ((some (y361 ++ l1 : List Int)).bind fun y364 => (if y364.length < 17592186044416 then ((some (y364 ++ [77] : List Int)).bind fun y367 => ((fixed_Root.f k a0).bind fun t370 => ((foliotref01_Root.f k a0).bind fun t371 => (if t370 = t371 then (if 0 ≤ (l1.length : Int) then (if (l1.length : Int) ≤ (y367.length : Int) then ((fixed_RMS.f k (y367.take ((l1.length : Int) : Int).toNat)).bind fun t376 => ((foliotref01_RMS.f k l1).bind fun t377 => (if t376 = t377 then (if (l1.length : Int) < (y367.length : Int) then (foliotlaw01_FixedRoots.j0 k l1 y367 ((rd y367 (l1.length : Int)) != 77)) else (none)) else (foliotlaw01_FixedRoots.j0 k l1 y367 true)))) else (none)) else (none)) else (foliotlaw01_FixedRoots.j0 k l1 y367 true))))) else (none))) else (none)))
theorem foliotlaw01_FixedRoots.mono_l : ∀ k, (∀ y0 y1 y2, LeO (foliotlaw01_FixedRoots.j0 k y0 y1 y2) (foliotlaw01_FixedRoots.j0 (k + 1) y0 y1 y2)) ∧ (∀ y0 y1 y2, LeO (foliotlaw01_FixedRoots.l0 k y0 y1 y2) (foliotlaw01_FixedRoots.l0 (k + 1) y0 y1 y2))
  | 0 => ⟨fun _ _ _ r h => by simp [foliotlaw01_FixedRoots.j0] at h, fun _ _ _ r h => by simp [foliotlaw01_FixedRoots.l0] at h⟩
  | k + 1 => by
    obtain ⟨ih0, ih1⟩ := foliotlaw01_FixedRoots.mono_l k
    refine ⟨?_, ?_⟩
    · intro y0 y1 y2
      unfold foliotlaw01_FixedRoots.j0
      repeat' first
      | (with_reducible exact ih0 _ _ _)
      | (with_reducible exact ih1 _ _ _)
      | (with_reducible exact fixed_RMS.mono _ _)
      | (with_reducible exact fixed_Root.mono _ _)
      | (with_reducible exact foliotref01_RMS.mono _ _)
      | (with_reducible exact foliotref01_Root.mono _ _)
      | (with_reducible exact LeO.refl _)
      | (with_reducible exact LeO.none _)
      | (with_reducible refine LeO.ite ?_ ?_)
      | (with_reducible refine LeO.bind ?_ (fun _ => ?_))
      | exact ih0 _ _ _
      | exact ih1 _ _ _
      | exact fixed_RMS.mono _ _
      | exact fixed_Root.mono _ _
      | exact foliotref01_RMS.mono _ _
      | exact foliotref01_Root.mono _ _
      | exact LeO.none _
      | refine LeO.ite ?_ ?_
      | refine LeO.bind ?_ (fun _ => ?_)
    · intro y0 y1 y2
      unfold foliotlaw01_FixedRoots.l0
      repeat' first
      | (with_reducible exact ih0 _ _ _)
      | (with_reducible exact ih1 _ _ _)
      | (with_reducible exact fixed_RMS.mono _ _)
      | (with_reducible exact fixed_Root.mono _ _)
      | (with_reducible exact foliotref01_RMS.mono _ _)
      | (with_reducible exact foliotref01_Root.mono _ _)
      | (with_reducible exact LeO.refl _)
      | (with_reducible exact LeO.none _)
      | (with_reducible refine LeO.ite ?_ ?_)
      | (with_reducible refine LeO.bind ?_ (fun _ => ?_))
      | exact ih0 _ _ _
      | exact ih1 _ _ _
      | exact fixed_RMS.mono _ _
      | exact fixed_Root.mono _ _
      | exact foliotref01_RMS.mono _ _
      | exact foliotref01_Root.mono _ _
      | exact LeO.none _
      | refine LeO.ite ?_ ?_
      | refine LeO.bind ?_ (fun _ => ?_)
theorem foliotlaw01_FixedRoots.mono : ∀ a0 a1 k, LeO (foliotlaw01_FixedRoots.f k a0 a1) (foliotlaw01_FixedRoots.f (k + 1) a0 a1) := by
  intro a0 a1 k
  obtain ⟨ih0, ih1⟩ := foliotlaw01_FixedRoots.mono_l k
  unfold foliotlaw01_FixedRoots.f
  repeat' first
      | (with_reducible exact ih0 _ _ _)
      | (with_reducible exact ih1 _ _ _)
      | (with_reducible exact fixed_RMS.mono _ _)
      | (with_reducible exact fixed_Root.mono _ _)
      | (with_reducible exact foliotref01_RMS.mono _ _)
      | (with_reducible exact foliotref01_Root.mono _ _)
      | (with_reducible exact LeO.refl _)
      | (with_reducible exact LeO.none _)
      | (with_reducible refine LeO.ite ?_ ?_)
      | (with_reducible refine LeO.bind ?_ (fun _ => ?_))
      | exact ih0 _ _ _
      | exact ih1 _ _ _
      | exact fixed_RMS.mono _ _
      | exact fixed_Root.mono _ _
      | exact foliotref01_RMS.mono _ _
      | exact foliotref01_Root.mono _ _
      | exact LeO.none _
      | refine LeO.ite ?_ ?_
      | refine LeO.bind ?_ (fun _ => ?_)
set_option maxHeartbeats 8000000 in
set_option maxRecDepth 100000 in
theorem foliotlaw01_FixedRoots.calls (k : Nat) (a0 : Int) (A1 : Option Addr) (c1 : Nat) (l1 : List Int) (r : Bool) (w : World) (hr1 : Kd.C (Kd.int .i64) w A1 l1.length l1) (hc1 : l1.length ≤ c1) (h : foliotlaw01_FixedRoots.f k a0 l1 = some r) :
    Calls Try.prog 7 #[.int .i64 a0, .slice A1 l1.length c1] w fun e w' => e = .returned (.bool r) ∧ Below w.heap.size w w' := by
  have HR1 := Aside0.mk hr1
  have HC1 := Aside0.mk hc1
  clear hr1 hc1
  have HB := Aside0.mk (Below.refl w.heap.size w)
  have H : (if (l1.length : Int) > 65536 then (some true) else ((some (([] : List Int) : List Int)).bind fun y361 => (if y361.length + l1.length < 17592186044416 then ((some (y361 ++ l1 : List Int)).bind fun y364 => (if y364.length < 17592186044416 then ((some (y364 ++ [77] : List Int)).bind fun y367 => ((fixed_Root.f k a0).bind fun t370 => ((foliotref01_Root.f k a0).bind fun t371 => (if t370 = t371 then (if 0 ≤ (l1.length : Int) then (if (l1.length : Int) ≤ (y367.length : Int) then ((fixed_RMS.f k (y367.take ((l1.length : Int) : Int).toNat)).bind fun t376 => ((foliotref01_RMS.f k l1).bind fun t377 => (if t376 = t377 then (if (l1.length : Int) < (y367.length : Int) then (foliotlaw01_FixedRoots.j0 k l1 y367 ((rd y367 (l1.length : Int)) != 77)) else (none)) else (foliotlaw01_FixedRoots.j0 k l1 y367 true)))) else (none)) else (none)) else (foliotlaw01_FixedRoots.j0 k l1 y367 true))))) else (none))) else (none)))) = some r := h
  clear h
  by_cases c3 : (l1.length : Int) > 65536
  · rw [if_pos c3] at H
    have c3b0 : decide (65536 < (l1.length : Int)) = true := decide_eq_true c3
    have c3b1 : decide (65536 < l1.length) = true := decide_eq_true (by omega)
    clear c3
    obtain rfl := Option.some.inj H
    go_enter Try.func7, Try.ntmps7
    go_wp2
    repeat (go_quiet (fail); try go_wp2)
    go_ret
    exact ⟨by first | rfl | (simp [errW_none, errW_some] <;> rfl) | (simp [*, errW_none, errW_some] <;> rfl), by repeat (first | (with_reducible first | exact HB.out | apply below_alloc | apply pw_below_drewN | apply below_drew1) | exact HB.out)⟩
  · rw [if_neg c3] at H
    have c3b0 : decide (65536 < (l1.length : Int)) = false := decide_eq_false c3
    have c3b1 : decide (65536 < l1.length) = false := decide_eq_false (by omega)
    clear c3
    obtain ⟨y361, hy361⟩ : ∃ y_ : List Int, y_ = (([] : List Int)) := ⟨_, rfl⟩
    replace H : (if y361.length + l1.length < 17592186044416 then ((some (y361 ++ l1 : List Int)).bind fun y364 => (if y364.length < 17592186044416 then ((some (y364 ++ [77] : List Int)).bind fun y367 => ((fixed_Root.f k a0).bind fun t370 => ((foliotref01_Root.f k a0).bind fun t371 => (if t370 = t371 then (if 0 ≤ (l1.length : Int) then (if (l1.length : Int) ≤ (y367.length : Int) then ((fixed_RMS.f k (y367.take ((l1.length : Int) : Int).toNat)).bind fun t376 => ((foliotref01_RMS.f k l1).bind fun t377 => (if t376 = t377 then (if (l1.length : Int) < (y367.length : Int) then (foliotlaw01_FixedRoots.j0 k l1 y367 ((rd y367 (l1.length : Int)) != 77)) else (none)) else (foliotlaw01_FixedRoots.j0 k l1 y367 true)))) else (none)) else (none)) else (foliotlaw01_FixedRoots.j0 k l1 y367 true))))) else (none))) else (none)) = some r := by first | (rw [hy361]; with_reducible exact H) | (have H2_ := (Option.bind_some _ _).symm.trans H; rw [hy361]; with_reducible exact H2_) | (have H2_ := (Option.bind_some _ _).symm.trans H; with_reducible exact H2_) | with_reducible exact H | (rw [hy361]; exact H) | exact H
    have Ny361 := Aside0.mk hy361
    clear hy361
    by_cases c4 : y361.length + l1.length < 17592186044416
    · rw [if_pos c4] at H
      have LMc4 := Aside0.mk c4
      clear c4
      obtain ⟨y364, hy364⟩ : ∃ y_ : List Int, y_ = (y361 ++ l1) := ⟨_, rfl⟩
      replace H : (if y364.length < 17592186044416 then ((some (y364 ++ [77] : List Int)).bind fun y367 => ((fixed_Root.f k a0).bind fun t370 => ((foliotref01_Root.f k a0).bind fun t371 => (if t370 = t371 then (if 0 ≤ (l1.length : Int) then (if (l1.length : Int) ≤ (y367.length : Int) then ((fixed_RMS.f k (y367.take ((l1.length : Int) : Int).toNat)).bind fun t376 => ((foliotref01_RMS.f k l1).bind fun t377 => (if t376 = t377 then (if (l1.length : Int) < (y367.length : Int) then (foliotlaw01_FixedRoots.j0 k l1 y367 ((rd y367 (l1.length : Int)) != 77)) else (none)) else (foliotlaw01_FixedRoots.j0 k l1 y367 true)))) else (none)) else (none)) else (foliotlaw01_FixedRoots.j0 k l1 y367 true))))) else (none)) = some r := by first | (rw [hy364]; with_reducible exact H) | (have H2_ := (Option.bind_some _ _).symm.trans H; rw [hy364]; with_reducible exact H2_) | (have H2_ := (Option.bind_some _ _).symm.trans H; with_reducible exact H2_) | with_reducible exact H | (rw [hy364]; exact H) | exact H
      have Ny364 := Aside0.mk hy364
      clear hy364
      by_cases c5 : y364.length < 17592186044416
      · rw [if_pos c5] at H
        have LMc5 := Aside0.mk c5
        clear c5
        obtain ⟨y367, hy367⟩ : ∃ y_ : List Int, y_ = (y364 ++ [77]) := ⟨_, rfl⟩
        replace H : ((fixed_Root.f k a0).bind fun t370 => ((foliotref01_Root.f k a0).bind fun t371 => (if t370 = t371 then (if 0 ≤ (l1.length : Int) then (if (l1.length : Int) ≤ (y367.length : Int) then ((fixed_RMS.f k (y367.take ((l1.length : Int) : Int).toNat)).bind fun t376 => ((foliotref01_RMS.f k l1).bind fun t377 => (if t376 = t377 then (if (l1.length : Int) < (y367.length : Int) then (foliotlaw01_FixedRoots.j0 k l1 y367 ((rd y367 (l1.length : Int)) != 77)) else (none)) else (foliotlaw01_FixedRoots.j0 k l1 y367 true)))) else (none)) else (none)) else (foliotlaw01_FixedRoots.j0 k l1 y367 true)))) = some r := by first | (rw [hy367]; with_reducible exact H) | (have H2_ := (Option.bind_some _ _).symm.trans H; rw [hy367]; with_reducible exact H2_) | (have H2_ := (Option.bind_some _ _).symm.trans H; with_reducible exact H2_) | with_reducible exact H | (rw [hy367]; exact H) | exact H
        have Ny367 := Aside0.mk hy367
        clear hy367
        have HC6 := Aside0.mk H
        clear H
        go_enter Try.func7, Try.ntmps7
        go_upto_region 6 with (first | ((with_reducible refine gate_dst (N := 10) rfl ?_); (try (refine gate_guard (by rfl) ?_; dsimp only)); refine Kd.R_lit (Kd.int .i64) _ 22 ?hg (N := 10) ?hd (xs := ([] : List Int)) (inner := []) (ok := fun _ => True) (okp := fun _ => True) ?hr ?hp (fun _ hk => hk) trivial (Below.refl _ _) (Nat.le_refl _) (by simp) ?_; (case hd => rfl); (case hg => rfl); (case hr => first | (go_simp; done) | (go_simp; rfl)); (case hp => exact (Reps.none _ _)); intro v362 w7 ho8 hb hg_ hnew_; clear hg_ hnew_; (first | rw [← Ny361.out] at ho8 | (simp only [Int.reduceToNat] at ho8; rw [← Ny361.out] at ho8)); have n0_ := Aside0.mk (Kd.R_lower ho8 (below_size (by repeat (first | (with_reducible first | exact HB.out | apply below_alloc | apply pw_below_drewN | apply below_drew1) | exact HB.out)))); have n1_ := Aside0.mk (below_step (by repeat (first | (with_reducible first | exact HB.out | apply below_alloc | apply pw_below_drewN | apply below_drew1) | exact HB.out)) hb); clear HB; have HO363 := n0_; have HB := n1_; clear n0_ n1_; clear hb ho8) | ((with_reducible refine gate_builtin (b := .append) (xs := #[.tmp 11, .tmp 12]) rfl ?_); (try (refine gate_guard (by rfl) ?_; dsimp only)); at_builtin; refine Kd.R_append_rows (Kd.int .i64) (w0 := w) w.heap.size rfl (.tmp 11) (.tmp 12) 36 22 (.int .i64 0) 8 rfl Try.underlying36 info22 rfl (by decide) (by omega) v362 y361 l1 _ _ _ (fun _ => True) (fun _ => False) rfl rfl ?aO ?aR (fun _ _ h => h) (fun _ h => h.elim) ?aF ?aB ?aS ?aL ?_; (case aR => repeat (first | exact (Kd.C_below HR1.out HB.out) | (with_reducible refine Kd.C_alloc ?_ _) | (with_reducible refine Kd.C_drewN ?_ _) | (with_reducible refine Kd.C_drew ?_))); (case aB => exact (by repeat (first | (with_reducible first | exact HB.out | apply below_alloc | apply pw_below_drewN | apply below_drew1) | exact HB.out))); (case aF => exact (fun _ _ => trivial)); (case aO => exact (by (with_reducible repeat (first | apply Kd.R_alloc | apply Kd.R_drewN | apply Kd.R_drew)); exact HO363.out)); (case aS => exact (below_size (by repeat (first | (with_reducible first | exact HB.out | apply below_alloc | apply pw_below_drewN | apply below_drew1) | exact HB.out)))); (case aL => have := LMc4.out; omega); intro v365 w9 ho hb hg hat; rw [← Ny364.out] at ho; have n0_ := Aside0.mk (hb); have n1_ := Aside0.mk (ho); clear HB; clear HO363; have HB := n0_; have HO366 := n1_; clear n0_ n1_; clear ho hb hg hat) | ((with_reducible refine gate_builtin (b := .append) (xs := #[.tmp 14, .tmp 15]) rfl ?_); (try (refine gate_guard (by rfl) ?_; dsimp only)); at_builtin; refine Kd.R_append (Kd.int .i64) (w0 := w) w.heap.size rfl (.tmp 14) (.tmp 15) 36 22 (.int .i64 0) 8 rfl Try.underlying36 info22 rfl (by decide) (by omega) v365 y364 77 [.int .i64 77] (fun _ => True) (fun _ => False) rfl rfl ?aP (fun _ hk => hk.elim) ?aF ?aO ?aB ?aS ?aL ?_; (case aP => exact rfl); (case aB => exact (by repeat (first | (with_reducible first | exact HB.out | apply below_alloc | apply pw_below_drewN | apply below_drew1) | exact HB.out))); (case aF => exact (fun _ _ => trivial)); (case aO => exact (by (with_reducible repeat (first | apply Kd.R_alloc | apply Kd.R_drewN | apply Kd.R_drew)); exact HO366.out)); (case aS => exact (below_size (by repeat (first | (with_reducible first | exact HB.out | apply below_alloc | apply pw_below_drewN | apply below_drew1) | exact HB.out)))); (case aL => have := LMc5.out; omega); intro v368 w10 ho hb hg hat; rw [← Ny367.out] at ho; have n0_ := Aside0.mk (hb); have n1_ := Aside0.mk (ho); clear HB; clear HO366; have HB := n0_; have HO369 := n1_; clear n0_ n1_; clear ho hb hg hat))
        repeat (go_quiet (first | ((with_reducible refine gate_dst (N := 10) rfl ?_); (try (refine gate_guard (by rfl) ?_; dsimp only)); refine Kd.R_lit (Kd.int .i64) _ 22 ?hg (N := 10) ?hd (xs := ([] : List Int)) (inner := []) (ok := fun _ => True) (okp := fun _ => True) ?hr ?hp (fun _ hk => hk) trivial (Below.refl _ _) (Nat.le_refl _) (by simp) ?_; (case hd => rfl); (case hg => rfl); (case hr => first | (go_simp; done) | (go_simp; rfl)); (case hp => exact (Reps.none _ _)); intro v362 w7 ho8 hb hg_ hnew_; clear hg_ hnew_; (first | rw [← Ny361.out] at ho8 | (simp only [Int.reduceToNat] at ho8; rw [← Ny361.out] at ho8)); have n0_ := Aside0.mk (Kd.R_lower ho8 (below_size (by repeat (first | (with_reducible first | exact HB.out | apply below_alloc | apply pw_below_drewN | apply below_drew1) | exact HB.out)))); have n1_ := Aside0.mk (below_step (by repeat (first | (with_reducible first | exact HB.out | apply below_alloc | apply pw_below_drewN | apply below_drew1) | exact HB.out)) hb); clear HB; have HO363 := n0_; have HB := n1_; clear n0_ n1_; clear hb ho8) | ((with_reducible refine gate_builtin (b := .append) (xs := #[.tmp 11, .tmp 12]) rfl ?_); (try (refine gate_guard (by rfl) ?_; dsimp only)); at_builtin; refine Kd.R_append_rows (Kd.int .i64) (w0 := w) w.heap.size rfl (.tmp 11) (.tmp 12) 36 22 (.int .i64 0) 8 rfl Try.underlying36 info22 rfl (by decide) (by omega) v362 y361 l1 _ _ _ (fun _ => True) (fun _ => False) rfl rfl ?aO ?aR (fun _ _ h => h) (fun _ h => h.elim) ?aF ?aB ?aS ?aL ?_; (case aR => repeat (first | exact (Kd.C_below HR1.out HB.out) | (with_reducible refine Kd.C_alloc ?_ _) | (with_reducible refine Kd.C_drewN ?_ _) | (with_reducible refine Kd.C_drew ?_))); (case aB => exact (by repeat (first | (with_reducible first | exact HB.out | apply below_alloc | apply pw_below_drewN | apply below_drew1) | exact HB.out))); (case aF => exact (fun _ _ => trivial)); (case aO => exact (by (with_reducible repeat (first | apply Kd.R_alloc | apply Kd.R_drewN | apply Kd.R_drew)); exact HO363.out)); (case aS => exact (below_size (by repeat (first | (with_reducible first | exact HB.out | apply below_alloc | apply pw_below_drewN | apply below_drew1) | exact HB.out)))); (case aL => have := LMc4.out; omega); intro v365 w9 ho hb hg hat; rw [← Ny364.out] at ho; have n0_ := Aside0.mk (hb); have n1_ := Aside0.mk (ho); clear HB; clear HO363; have HB := n0_; have HO366 := n1_; clear n0_ n1_; clear ho hb hg hat) | ((with_reducible refine gate_builtin (b := .append) (xs := #[.tmp 14, .tmp 15]) rfl ?_); (try (refine gate_guard (by rfl) ?_; dsimp only)); at_builtin; refine Kd.R_append (Kd.int .i64) (w0 := w) w.heap.size rfl (.tmp 14) (.tmp 15) 36 22 (.int .i64 0) 8 rfl Try.underlying36 info22 rfl (by decide) (by omega) v365 y364 77 [.int .i64 77] (fun _ => True) (fun _ => False) rfl rfl ?aP (fun _ hk => hk.elim) ?aF ?aO ?aB ?aS ?aL ?_; (case aP => exact rfl); (case aB => exact (by repeat (first | (with_reducible first | exact HB.out | apply below_alloc | apply pw_below_drewN | apply below_drew1) | exact HB.out))); (case aF => exact (fun _ _ => trivial)); (case aO => exact (by (with_reducible repeat (first | apply Kd.R_alloc | apply Kd.R_drewN | apply Kd.R_drew)); exact HO366.out)); (case aS => exact (below_size (by repeat (first | (with_reducible first | exact HB.out | apply below_alloc | apply pw_below_drewN | apply below_drew1) | exact HB.out)))); (case aL => have := LMc5.out; omega); intro v368 w10 ho hb hg hat; rw [← Ny367.out] at ho; have n0_ := Aside0.mk (hb); have n1_ := Aside0.mk (ho); clear HB; clear HO366; have HB := n0_; have HO369 := n1_; clear n0_ n1_; clear ho hb hg hat)); go_upto_region 6 with (first | ((with_reducible refine gate_dst (N := 10) rfl ?_); (try (refine gate_guard (by rfl) ?_; dsimp only)); refine Kd.R_lit (Kd.int .i64) _ 22 ?hg (N := 10) ?hd (xs := ([] : List Int)) (inner := []) (ok := fun _ => True) (okp := fun _ => True) ?hr ?hp (fun _ hk => hk) trivial (Below.refl _ _) (Nat.le_refl _) (by simp) ?_; (case hd => rfl); (case hg => rfl); (case hr => first | (go_simp; done) | (go_simp; rfl)); (case hp => exact (Reps.none _ _)); intro v362 w7 ho8 hb hg_ hnew_; clear hg_ hnew_; (first | rw [← Ny361.out] at ho8 | (simp only [Int.reduceToNat] at ho8; rw [← Ny361.out] at ho8)); have n0_ := Aside0.mk (Kd.R_lower ho8 (below_size (by repeat (first | (with_reducible first | exact HB.out | apply below_alloc | apply pw_below_drewN | apply below_drew1) | exact HB.out)))); have n1_ := Aside0.mk (below_step (by repeat (first | (with_reducible first | exact HB.out | apply below_alloc | apply pw_below_drewN | apply below_drew1) | exact HB.out)) hb); clear HB; have HO363 := n0_; have HB := n1_; clear n0_ n1_; clear hb ho8) | ((with_reducible refine gate_builtin (b := .append) (xs := #[.tmp 11, .tmp 12]) rfl ?_); (try (refine gate_guard (by rfl) ?_; dsimp only)); at_builtin; refine Kd.R_append_rows (Kd.int .i64) (w0 := w) w.heap.size rfl (.tmp 11) (.tmp 12) 36 22 (.int .i64 0) 8 rfl Try.underlying36 info22 rfl (by decide) (by omega) v362 y361 l1 _ _ _ (fun _ => True) (fun _ => False) rfl rfl ?aO ?aR (fun _ _ h => h) (fun _ h => h.elim) ?aF ?aB ?aS ?aL ?_; (case aR => repeat (first | exact (Kd.C_below HR1.out HB.out) | (with_reducible refine Kd.C_alloc ?_ _) | (with_reducible refine Kd.C_drewN ?_ _) | (with_reducible refine Kd.C_drew ?_))); (case aB => exact (by repeat (first | (with_reducible first | exact HB.out | apply below_alloc | apply pw_below_drewN | apply below_drew1) | exact HB.out))); (case aF => exact (fun _ _ => trivial)); (case aO => exact (by (with_reducible repeat (first | apply Kd.R_alloc | apply Kd.R_drewN | apply Kd.R_drew)); exact HO363.out)); (case aS => exact (below_size (by repeat (first | (with_reducible first | exact HB.out | apply below_alloc | apply pw_below_drewN | apply below_drew1) | exact HB.out)))); (case aL => have := LMc4.out; omega); intro v365 w9 ho hb hg hat; rw [← Ny364.out] at ho; have n0_ := Aside0.mk (hb); have n1_ := Aside0.mk (ho); clear HB; clear HO363; have HB := n0_; have HO366 := n1_; clear n0_ n1_; clear ho hb hg hat) | ((with_reducible refine gate_builtin (b := .append) (xs := #[.tmp 14, .tmp 15]) rfl ?_); (try (refine gate_guard (by rfl) ?_; dsimp only)); at_builtin; refine Kd.R_append (Kd.int .i64) (w0 := w) w.heap.size rfl (.tmp 14) (.tmp 15) 36 22 (.int .i64 0) 8 rfl Try.underlying36 info22 rfl (by decide) (by omega) v365 y364 77 [.int .i64 77] (fun _ => True) (fun _ => False) rfl rfl ?aP (fun _ hk => hk.elim) ?aF ?aO ?aB ?aS ?aL ?_; (case aP => exact rfl); (case aB => exact (by repeat (first | (with_reducible first | exact HB.out | apply below_alloc | apply pw_below_drewN | apply below_drew1) | exact HB.out))); (case aF => exact (fun _ _ => trivial)); (case aO => exact (by (with_reducible repeat (first | apply Kd.R_alloc | apply Kd.R_drewN | apply Kd.R_drew)); exact HO366.out)); (case aS => exact (below_size (by repeat (first | (with_reducible first | exact HB.out | apply below_alloc | apply pw_below_drewN | apply below_drew1) | exact HB.out)))); (case aL => have := LMc5.out; omega); intro v368 w10 ho hb hg hat; rw [← Ny367.out] at ho; have n0_ := Aside0.mk (hb); have n1_ := Aside0.mk (ho); clear HB; clear HO366; have HB := n0_; have HO369 := n1_; clear n0_ n1_; clear ho hb hg hat)))
        (try simp only [Act.put, List.setIfInBounds_toArray, List.set_cons_zero, List.set_cons_succ])
        go_cut [39] (fun v39 wc => ∃ (kq : Nat) (x39_5 : Bool), v39 = .bool x39_5 ∧ Aside0 (foliotlaw01_FixedRoots.j0 kq l1 y367 x39_5 = some r) ∧ Aside0 (kq ≤ k) ∧ Aside0 (Kd.R (Kd.int .i64) 22 wc w.heap.size (fun _ => True) v368 y367) ∧ Aside0 (Below w.heap.size w wc))
        case first =>
          have H := HC6.out
          clear HC6
          replace H := Option.bind_eq_some_iff.mp H
          obtain ⟨t370, A110, H⟩ := H
          replace H : ((foliotref01_Root.f k a0).bind fun t371 => (if t370 = t371 then (if 0 ≤ (l1.length : Int) then (if (l1.length : Int) ≤ (y367.length : Int) then ((fixed_RMS.f k (y367.take ((l1.length : Int) : Int).toNat)).bind fun t376 => ((foliotref01_RMS.f k l1).bind fun t377 => (if t376 = t377 then (if (l1.length : Int) < (y367.length : Int) then (foliotlaw01_FixedRoots.j0 k l1 y367 ((rd y367 (l1.length : Int)) != 77)) else (none)) else (foliotlaw01_FixedRoots.j0 k l1 y367 true)))) else (none)) else (none)) else (foliotlaw01_FixedRoots.j0 k l1 y367 true))) = some r := H
          have A11 := Aside0.mk A110
          clear A110
          replace H := Option.bind_eq_some_iff.mp H
          obtain ⟨t371, A120, H⟩ := H
          replace H : (if t370 = t371 then (if 0 ≤ (l1.length : Int) then (if (l1.length : Int) ≤ (y367.length : Int) then ((fixed_RMS.f k (y367.take ((l1.length : Int) : Int).toNat)).bind fun t376 => ((foliotref01_RMS.f k l1).bind fun t377 => (if t376 = t377 then (if (l1.length : Int) < (y367.length : Int) then (foliotlaw01_FixedRoots.j0 k l1 y367 ((rd y367 (l1.length : Int)) != 77)) else (none)) else (foliotlaw01_FixedRoots.j0 k l1 y367 true)))) else (none)) else (none)) else (foliotlaw01_FixedRoots.j0 k l1 y367 true)) = some r := H
          have A12 := Aside0.mk A120
          clear A120
          by_cases c13 : t370 = t371
          · rw [if_pos c13] at H
            have c13b0 : (t370 == t371) = true := beq_iff_eq.mpr c13
            have c13b1 : (t370 != t371) = false := bne_eq_false_iff_eq.mpr c13
            clear c13
            (first | rw [c13b0] | (simp only [i64_w, i32_w]; rw [c13b0]) | skip)
            by_cases c14 : 0 ≤ (l1.length : Int)
            · rw [if_pos c14] at H
              have c14b0 := eq_true c14
              have c14b1 : decide (0 ≤ (l1.length : Int)) = true := decide_eq_true c14
              clear c14
              by_cases c15 : (l1.length : Int) ≤ (y367.length : Int)
              · rw [if_pos c15] at H
                have c15b0 := eq_true c15
                have c15b1 : decide ((l1.length : Int) ≤ (y367.length : Int)) = true := decide_eq_true c15
                clear c15
                obtain ⟨y372, hy372⟩ : ∃ y_ : List Int, y_ = (y367.take ((l1.length : Int) : Int).toNat) := ⟨_, rfl⟩
                replace H : ((fixed_RMS.f k y372).bind fun t376 => ((foliotref01_RMS.f k l1).bind fun t377 => (if t376 = t377 then (if (l1.length : Int) < (y367.length : Int) then (foliotlaw01_FixedRoots.j0 k l1 y367 ((rd y367 (l1.length : Int)) != 77)) else (none)) else (foliotlaw01_FixedRoots.j0 k l1 y367 true)))) = some r := by first | (rw [hy372]; with_reducible exact H) | (have H2_ := (Option.bind_some _ _).symm.trans H; rw [hy372]; with_reducible exact H2_) | (have H2_ := (Option.bind_some _ _).symm.trans H; with_reducible exact H2_) | with_reducible exact H | (rw [hy372]; exact H) | exact H
                have Ny372 := Aside0.mk hy372
                clear hy372
                replace H := Option.bind_eq_some_iff.mp H
                obtain ⟨t376, A160, H⟩ := H
                replace H : ((foliotref01_RMS.f k l1).bind fun t377 => (if t376 = t377 then (if (l1.length : Int) < (y367.length : Int) then (foliotlaw01_FixedRoots.j0 k l1 y367 ((rd y367 (l1.length : Int)) != 77)) else (none)) else (foliotlaw01_FixedRoots.j0 k l1 y367 true))) = some r := H
                have A16 := Aside0.mk A160
                clear A160
                replace H := Option.bind_eq_some_iff.mp H
                obtain ⟨t377, A170, H⟩ := H
                replace H : (if t376 = t377 then (if (l1.length : Int) < (y367.length : Int) then (foliotlaw01_FixedRoots.j0 k l1 y367 ((rd y367 (l1.length : Int)) != 77)) else (none)) else (foliotlaw01_FixedRoots.j0 k l1 y367 true)) = some r := H
                have A17 := Aside0.mk A170
                clear A170
                by_cases c18 : t376 = t377
                · rw [if_pos c18] at H
                  have c18b0 : (t376 == t377) = true := beq_iff_eq.mpr c18
                  have c18b1 : (t376 != t377) = false := bne_eq_false_iff_eq.mpr c18
                  clear c18
                  by_cases c19 : (l1.length : Int) < (y367.length : Int)
                  · rw [if_pos c19] at H
                    have c19b0 : decide ((l1.length : Int) < (y367.length : Int)) = true := decide_eq_true c19
                    have c19b1 : decide (l1.length < y367.length) = true := decide_eq_true (Int.ofNat_lt.mp c19)
                    clear c19
                    have H' := Aside0.mk H
                    clear H
                    go_wp2_with (first | (go_at_call 26; (with_reducible refine (fixed_Root.calls k a0 t370 _ A11.out).mono ?_); rintro e w20 ⟨rfl, hb⟩; have n0_ := Aside0.mk (Kd.R_below (by (with_reducible repeat (first | apply Kd.R_alloc | apply Kd.R_drewN | apply Kd.R_drew)); exact HO369.out) hb); have n1_ := Aside0.mk (below_step (by repeat (first | (with_reducible first | exact HB.out | apply below_alloc | apply pw_below_drewN | apply below_drew1) | exact HB.out)) hb); clear HO369; clear HB; have HO369 := n0_; have HB := n1_; clear n0_ n1_; (try clear hb); (try clear hb2); (try clear hk); (try clear hi)) | (go_at_call 35; (with_reducible refine (foliotref01_Root.calls k a0 t371 _ A12.out).mono ?_); rintro e w21 ⟨rfl, hb⟩; have n0_ := Aside0.mk (Kd.R_below (by (with_reducible repeat (first | apply Kd.R_alloc | apply Kd.R_drewN | apply Kd.R_drew)); exact HO369.out) hb); have n1_ := Aside0.mk (below_step (by repeat (first | (with_reducible first | exact HB.out | apply below_alloc | apply pw_below_drewN | apply below_drew1) | exact HB.out)) hb); clear HO369; clear HB; have HO369 := n0_; have HB := n1_; clear n0_ n1_; (try clear hb); (try clear hb2); (try clear hk); (try clear hi); obtain ⟨Ao23, co23, eo23⟩ := Kd.R_slice HO369.out; subst eo23; have q22 : ((l1.length : Int) : Int) ≤ ((y367.length : Int) : Int) := of_decide_eq_true (by first | (with_reducible assumption) | assumption); obtain ⟨i022, hi022, _, hsz22, _⟩ := info_parts info22; have hroom22 : y367.length ≤ co23 := (Kd.R_reads' HO369.out).2.1; have hC22 : Kd.C (Kd.int .i64) _ Ao23 y367.length y367 := (Kd.R_reads' HO369.out).2.2; have hcut22 := cut_to (P := Try.prog) 36 22 .i64 Try.underlying36 hi022 Ao23 y367.length co23 (l1.length : Int) (of_decide_eq_true (by first | (with_reducible assumption) | assumption)) q22 hroom22; have hr22 := Kd.C_take (m := ((l1.length : Int) : Int).toNat) hC22 (by omega); have hy22 : y372.length = ((l1.length : Int) : Int).toNat := (by rw [Ny372.out, List.length_take]; omega); rw [← Ny372.out] at hr22; rw [← hy22] at hcut22; have HR375 := Aside0.mk hr22; have HC375 := Aside0.mk (show y372.length ≤ co23 from by omega); clear hr22 hC22 hroom22 hi022 hsz22; have KY22 := Aside0.mk hy22; clear hy22; have KL22 := Aside0.mk (show ((l1.length : Int) : Int).toNat ≤ y367.length from by omega); replace q22 := eq_true q22) | (go_at_call 36; (with_reducible refine (fixed_RMS.calls k _ _ y372 t376 _ ?side1 ?side2 A16.out).mono ?_); (case side1 => repeat (first | exact (by repeat (first | (with_reducible exact HR375.out) | (with_reducible refine Kd.C_alloc ?_ _) | (with_reducible refine Kd.C_drewN ?_ _) | (with_reducible refine Kd.C_drew ?_) | exact HR375.out)) | (with_reducible refine Kd.C_alloc ?_ _) | (with_reducible refine Kd.C_drewN ?_ _) | (with_reducible refine Kd.C_drew ?_))); (case side2 => exact HC375.out); rintro e w24 ⟨rfl, hb⟩; have n0_ := Aside0.mk (Kd.R_below (by (with_reducible repeat (first | apply Kd.R_alloc | apply Kd.R_drewN | apply Kd.R_drew)); exact HO369.out) hb); have n1_ := Aside0.mk (Kd.C_below (by repeat (first | (with_reducible exact HR375.out) | (with_reducible refine Kd.C_alloc ?_ _) | (with_reducible refine Kd.C_drewN ?_ _) | (with_reducible refine Kd.C_drew ?_) | exact HR375.out)) hb); have n2_ := Aside0.mk (below_step (by repeat (first | (with_reducible first | exact HB.out | apply below_alloc | apply pw_below_drewN | apply below_drew1) | exact HB.out)) hb); clear HO369; clear HR375; clear HB; have HO369 := n0_; have HR375 := n1_; have HB := n2_; clear n0_ n1_ n2_; (try clear hb); (try clear hb2); (try clear hk); (try clear hi)) | (go_at_call 37; (with_reducible refine (foliotref01_RMS.calls k _ _ l1 t377 _ ?side1 ?side2 A17.out).mono ?_); (case side1 => repeat (first | exact (Kd.C_below HR1.out HB.out) | (with_reducible refine Kd.C_alloc ?_ _) | (with_reducible refine Kd.C_drewN ?_ _) | (with_reducible refine Kd.C_drew ?_))); (case side2 => exact HC1.out); rintro e w25 ⟨rfl, hb⟩; have n0_ := Aside0.mk (Kd.R_below (by (with_reducible repeat (first | apply Kd.R_alloc | apply Kd.R_drewN | apply Kd.R_drew)); exact HO369.out) hb); have n1_ := Aside0.mk (Kd.C_below (by repeat (first | (with_reducible exact HR375.out) | (with_reducible refine Kd.C_alloc ?_ _) | (with_reducible refine Kd.C_drewN ?_ _) | (with_reducible refine Kd.C_drew ?_) | exact HR375.out)) hb); have n2_ := Aside0.mk (below_step (by repeat (first | (with_reducible first | exact HB.out | apply below_alloc | apply pw_below_drewN | apply below_drew1) | exact HB.out)) hb); clear HO369; clear HR375; clear HB; have HO369 := n0_; have HR375 := n1_; have HB := n2_; clear n0_ n1_ n2_; (try clear hb); (try clear hb2); (try clear hk); (try clear hi); have p378 : 0 ≤ ((l1.length : Int) : Int) := of_decide_eq_true (by first | (with_reducible assumption) | assumption); have q378 : (l1.length : Int) < (y367.length : Int) := of_decide_eq_true (by first | (with_reducible assumption) | assumption); obtain ⟨ad378, e378, hx378_0⟩ := Kd.at_int (Kd.R_reads' HO369.out).2.2 (l1.length : Int) p378 q378; cases e378; (try simp only [Go.IntWalk.toNatUp] at hx378_0); replace p378 := eq_true p378; replace q378 := eq_true q378))
                    repeat (go_quiet (first | (go_at_call 26; (with_reducible refine (fixed_Root.calls k a0 t370 _ A11.out).mono ?_); rintro e w20 ⟨rfl, hb⟩; have n0_ := Aside0.mk (Kd.R_below (by (with_reducible repeat (first | apply Kd.R_alloc | apply Kd.R_drewN | apply Kd.R_drew)); exact HO369.out) hb); have n1_ := Aside0.mk (below_step (by repeat (first | (with_reducible first | exact HB.out | apply below_alloc | apply pw_below_drewN | apply below_drew1) | exact HB.out)) hb); clear HO369; clear HB; have HO369 := n0_; have HB := n1_; clear n0_ n1_; (try clear hb); (try clear hb2); (try clear hk); (try clear hi)) | (go_at_call 35; (with_reducible refine (foliotref01_Root.calls k a0 t371 _ A12.out).mono ?_); rintro e w21 ⟨rfl, hb⟩; have n0_ := Aside0.mk (Kd.R_below (by (with_reducible repeat (first | apply Kd.R_alloc | apply Kd.R_drewN | apply Kd.R_drew)); exact HO369.out) hb); have n1_ := Aside0.mk (below_step (by repeat (first | (with_reducible first | exact HB.out | apply below_alloc | apply pw_below_drewN | apply below_drew1) | exact HB.out)) hb); clear HO369; clear HB; have HO369 := n0_; have HB := n1_; clear n0_ n1_; (try clear hb); (try clear hb2); (try clear hk); (try clear hi); obtain ⟨Ao23, co23, eo23⟩ := Kd.R_slice HO369.out; subst eo23; have q22 : ((l1.length : Int) : Int) ≤ ((y367.length : Int) : Int) := of_decide_eq_true (by first | (with_reducible assumption) | assumption); obtain ⟨i022, hi022, _, hsz22, _⟩ := info_parts info22; have hroom22 : y367.length ≤ co23 := (Kd.R_reads' HO369.out).2.1; have hC22 : Kd.C (Kd.int .i64) _ Ao23 y367.length y367 := (Kd.R_reads' HO369.out).2.2; have hcut22 := cut_to (P := Try.prog) 36 22 .i64 Try.underlying36 hi022 Ao23 y367.length co23 (l1.length : Int) (of_decide_eq_true (by first | (with_reducible assumption) | assumption)) q22 hroom22; have hr22 := Kd.C_take (m := ((l1.length : Int) : Int).toNat) hC22 (by omega); have hy22 : y372.length = ((l1.length : Int) : Int).toNat := (by rw [Ny372.out, List.length_take]; omega); rw [← Ny372.out] at hr22; rw [← hy22] at hcut22; have HR375 := Aside0.mk hr22; have HC375 := Aside0.mk (show y372.length ≤ co23 from by omega); clear hr22 hC22 hroom22 hi022 hsz22; have KY22 := Aside0.mk hy22; clear hy22; have KL22 := Aside0.mk (show ((l1.length : Int) : Int).toNat ≤ y367.length from by omega); replace q22 := eq_true q22) | (go_at_call 36; (with_reducible refine (fixed_RMS.calls k _ _ y372 t376 _ ?side1 ?side2 A16.out).mono ?_); (case side1 => repeat (first | exact (by repeat (first | (with_reducible exact HR375.out) | (with_reducible refine Kd.C_alloc ?_ _) | (with_reducible refine Kd.C_drewN ?_ _) | (with_reducible refine Kd.C_drew ?_) | exact HR375.out)) | (with_reducible refine Kd.C_alloc ?_ _) | (with_reducible refine Kd.C_drewN ?_ _) | (with_reducible refine Kd.C_drew ?_))); (case side2 => exact HC375.out); rintro e w24 ⟨rfl, hb⟩; have n0_ := Aside0.mk (Kd.R_below (by (with_reducible repeat (first | apply Kd.R_alloc | apply Kd.R_drewN | apply Kd.R_drew)); exact HO369.out) hb); have n1_ := Aside0.mk (Kd.C_below (by repeat (first | (with_reducible exact HR375.out) | (with_reducible refine Kd.C_alloc ?_ _) | (with_reducible refine Kd.C_drewN ?_ _) | (with_reducible refine Kd.C_drew ?_) | exact HR375.out)) hb); have n2_ := Aside0.mk (below_step (by repeat (first | (with_reducible first | exact HB.out | apply below_alloc | apply pw_below_drewN | apply below_drew1) | exact HB.out)) hb); clear HO369; clear HR375; clear HB; have HO369 := n0_; have HR375 := n1_; have HB := n2_; clear n0_ n1_ n2_; (try clear hb); (try clear hb2); (try clear hk); (try clear hi)) | (go_at_call 37; (with_reducible refine (foliotref01_RMS.calls k _ _ l1 t377 _ ?side1 ?side2 A17.out).mono ?_); (case side1 => repeat (first | exact (Kd.C_below HR1.out HB.out) | (with_reducible refine Kd.C_alloc ?_ _) | (with_reducible refine Kd.C_drewN ?_ _) | (with_reducible refine Kd.C_drew ?_))); (case side2 => exact HC1.out); rintro e w25 ⟨rfl, hb⟩; have n0_ := Aside0.mk (Kd.R_below (by (with_reducible repeat (first | apply Kd.R_alloc | apply Kd.R_drewN | apply Kd.R_drew)); exact HO369.out) hb); have n1_ := Aside0.mk (Kd.C_below (by repeat (first | (with_reducible exact HR375.out) | (with_reducible refine Kd.C_alloc ?_ _) | (with_reducible refine Kd.C_drewN ?_ _) | (with_reducible refine Kd.C_drew ?_) | exact HR375.out)) hb); have n2_ := Aside0.mk (below_step (by repeat (first | (with_reducible first | exact HB.out | apply below_alloc | apply pw_below_drewN | apply below_drew1) | exact HB.out)) hb); clear HO369; clear HR375; clear HB; have HO369 := n0_; have HR375 := n1_; have HB := n2_; clear n0_ n1_ n2_; (try clear hb); (try clear hb2); (try clear hk); (try clear hi); have p378 : 0 ≤ ((l1.length : Int) : Int) := of_decide_eq_true (by first | (with_reducible assumption) | assumption); have q378 : (l1.length : Int) < (y367.length : Int) := of_decide_eq_true (by first | (with_reducible assumption) | assumption); obtain ⟨ad378, e378, hx378_0⟩ := Kd.at_int (Kd.R_reads' HO369.out).2.2 (l1.length : Int) p378 q378; cases e378; (try simp only [Go.IntWalk.toNatUp] at hx378_0); replace p378 := eq_true p378; replace q378 := eq_true q378)); try go_wp2_with (first | (go_at_call 26; (with_reducible refine (fixed_Root.calls k a0 t370 _ A11.out).mono ?_); rintro e w20 ⟨rfl, hb⟩; have n0_ := Aside0.mk (Kd.R_below (by (with_reducible repeat (first | apply Kd.R_alloc | apply Kd.R_drewN | apply Kd.R_drew)); exact HO369.out) hb); have n1_ := Aside0.mk (below_step (by repeat (first | (with_reducible first | exact HB.out | apply below_alloc | apply pw_below_drewN | apply below_drew1) | exact HB.out)) hb); clear HO369; clear HB; have HO369 := n0_; have HB := n1_; clear n0_ n1_; (try clear hb); (try clear hb2); (try clear hk); (try clear hi)) | (go_at_call 35; (with_reducible refine (foliotref01_Root.calls k a0 t371 _ A12.out).mono ?_); rintro e w21 ⟨rfl, hb⟩; have n0_ := Aside0.mk (Kd.R_below (by (with_reducible repeat (first | apply Kd.R_alloc | apply Kd.R_drewN | apply Kd.R_drew)); exact HO369.out) hb); have n1_ := Aside0.mk (below_step (by repeat (first | (with_reducible first | exact HB.out | apply below_alloc | apply pw_below_drewN | apply below_drew1) | exact HB.out)) hb); clear HO369; clear HB; have HO369 := n0_; have HB := n1_; clear n0_ n1_; (try clear hb); (try clear hb2); (try clear hk); (try clear hi); obtain ⟨Ao23, co23, eo23⟩ := Kd.R_slice HO369.out; subst eo23; have q22 : ((l1.length : Int) : Int) ≤ ((y367.length : Int) : Int) := of_decide_eq_true (by first | (with_reducible assumption) | assumption); obtain ⟨i022, hi022, _, hsz22, _⟩ := info_parts info22; have hroom22 : y367.length ≤ co23 := (Kd.R_reads' HO369.out).2.1; have hC22 : Kd.C (Kd.int .i64) _ Ao23 y367.length y367 := (Kd.R_reads' HO369.out).2.2; have hcut22 := cut_to (P := Try.prog) 36 22 .i64 Try.underlying36 hi022 Ao23 y367.length co23 (l1.length : Int) (of_decide_eq_true (by first | (with_reducible assumption) | assumption)) q22 hroom22; have hr22 := Kd.C_take (m := ((l1.length : Int) : Int).toNat) hC22 (by omega); have hy22 : y372.length = ((l1.length : Int) : Int).toNat := (by rw [Ny372.out, List.length_take]; omega); rw [← Ny372.out] at hr22; rw [← hy22] at hcut22; have HR375 := Aside0.mk hr22; have HC375 := Aside0.mk (show y372.length ≤ co23 from by omega); clear hr22 hC22 hroom22 hi022 hsz22; have KY22 := Aside0.mk hy22; clear hy22; have KL22 := Aside0.mk (show ((l1.length : Int) : Int).toNat ≤ y367.length from by omega); replace q22 := eq_true q22) | (go_at_call 36; (with_reducible refine (fixed_RMS.calls k _ _ y372 t376 _ ?side1 ?side2 A16.out).mono ?_); (case side1 => repeat (first | exact (by repeat (first | (with_reducible exact HR375.out) | (with_reducible refine Kd.C_alloc ?_ _) | (with_reducible refine Kd.C_drewN ?_ _) | (with_reducible refine Kd.C_drew ?_) | exact HR375.out)) | (with_reducible refine Kd.C_alloc ?_ _) | (with_reducible refine Kd.C_drewN ?_ _) | (with_reducible refine Kd.C_drew ?_))); (case side2 => exact HC375.out); rintro e w24 ⟨rfl, hb⟩; have n0_ := Aside0.mk (Kd.R_below (by (with_reducible repeat (first | apply Kd.R_alloc | apply Kd.R_drewN | apply Kd.R_drew)); exact HO369.out) hb); have n1_ := Aside0.mk (Kd.C_below (by repeat (first | (with_reducible exact HR375.out) | (with_reducible refine Kd.C_alloc ?_ _) | (with_reducible refine Kd.C_drewN ?_ _) | (with_reducible refine Kd.C_drew ?_) | exact HR375.out)) hb); have n2_ := Aside0.mk (below_step (by repeat (first | (with_reducible first | exact HB.out | apply below_alloc | apply pw_below_drewN | apply below_drew1) | exact HB.out)) hb); clear HO369; clear HR375; clear HB; have HO369 := n0_; have HR375 := n1_; have HB := n2_; clear n0_ n1_ n2_; (try clear hb); (try clear hb2); (try clear hk); (try clear hi)) | (go_at_call 37; (with_reducible refine (foliotref01_RMS.calls k _ _ l1 t377 _ ?side1 ?side2 A17.out).mono ?_); (case side1 => repeat (first | exact (Kd.C_below HR1.out HB.out) | (with_reducible refine Kd.C_alloc ?_ _) | (with_reducible refine Kd.C_drewN ?_ _) | (with_reducible refine Kd.C_drew ?_))); (case side2 => exact HC1.out); rintro e w25 ⟨rfl, hb⟩; have n0_ := Aside0.mk (Kd.R_below (by (with_reducible repeat (first | apply Kd.R_alloc | apply Kd.R_drewN | apply Kd.R_drew)); exact HO369.out) hb); have n1_ := Aside0.mk (Kd.C_below (by repeat (first | (with_reducible exact HR375.out) | (with_reducible refine Kd.C_alloc ?_ _) | (with_reducible refine Kd.C_drewN ?_ _) | (with_reducible refine Kd.C_drew ?_) | exact HR375.out)) hb); have n2_ := Aside0.mk (below_step (by repeat (first | (with_reducible first | exact HB.out | apply below_alloc | apply pw_below_drewN | apply below_drew1) | exact HB.out)) hb); clear HO369; clear HR375; clear HB; have HO369 := n0_; have HR375 := n1_; have HB := n2_; clear n0_ n1_ n2_; (try clear hb); (try clear hb2); (try clear hk); (try clear hi); have p378 : 0 ≤ ((l1.length : Int) : Int) := of_decide_eq_true (by first | (with_reducible assumption) | assumption); have q378 : (l1.length : Int) < (y367.length : Int) := of_decide_eq_true (by first | (with_reducible assumption) | assumption); obtain ⟨ad378, e378, hx378_0⟩ := Kd.at_int (Kd.R_reads' HO369.out).2.2 (l1.length : Int) p378 q378; cases e378; (try simp only [Go.IntWalk.toNatUp] at hx378_0); replace p378 := eq_true p378; replace q378 := eq_true q378)))
                    go_meet
                    case rel => first | (exact ⟨_, (((rd y367 (l1.length : Int)) != 77)), (by first | rfl | (simp; done) | (simp [*]; done)), H', ⟨by first | omega | exact Nat.le_refl _⟩, ⟨by (with_reducible repeat (first | apply Kd.R_alloc | apply Kd.R_drewN | apply Kd.R_drew)); exact HO369.out⟩, ⟨by repeat (first | (with_reducible first | exact HB.out | apply below_alloc | apply pw_below_drewN | apply below_drew1) | exact HB.out)⟩⟩) | ((try rw [c13b0] at H'); (try rw [c13b0]); exact ⟨_, (((rd y367 (l1.length : Int)) != 77)), (by first | rfl | (simp; done) | (simp [*]; done)), H', ⟨by first | omega | exact Nat.le_refl _⟩, ⟨by (with_reducible repeat (first | apply Kd.R_alloc | apply Kd.R_drewN | apply Kd.R_drew)); exact HO369.out⟩, ⟨by repeat (first | (with_reducible first | exact HB.out | apply below_alloc | apply pw_below_drewN | apply below_drew1) | exact HB.out)⟩⟩)
                  · rw [if_neg c19] at H
                    exact absurd H (by simp)
                · rw [if_neg c18] at H
                  have c18b0 : (t376 == t377) = false := beq_eq_false_iff_ne.mpr c18
                  have c18b1 : (t376 != t377) = true := bne_iff_ne.mpr c18
                  have H' := Aside0.mk H
                  clear H
                  go_wp2_with (first | (go_at_call 26; (with_reducible refine (fixed_Root.calls k a0 t370 _ A11.out).mono ?_); rintro e w26 ⟨rfl, hb⟩; have n0_ := Aside0.mk (Kd.R_below (by (with_reducible repeat (first | apply Kd.R_alloc | apply Kd.R_drewN | apply Kd.R_drew)); exact HO369.out) hb); have n1_ := Aside0.mk (below_step (by repeat (first | (with_reducible first | exact HB.out | apply below_alloc | apply pw_below_drewN | apply below_drew1) | exact HB.out)) hb); clear HO369; clear HB; have HO369 := n0_; have HB := n1_; clear n0_ n1_; (try clear hb); (try clear hb2); (try clear hk); (try clear hi)) | (go_at_call 35; (with_reducible refine (foliotref01_Root.calls k a0 t371 _ A12.out).mono ?_); rintro e w27 ⟨rfl, hb⟩; have n0_ := Aside0.mk (Kd.R_below (by (with_reducible repeat (first | apply Kd.R_alloc | apply Kd.R_drewN | apply Kd.R_drew)); exact HO369.out) hb); have n1_ := Aside0.mk (below_step (by repeat (first | (with_reducible first | exact HB.out | apply below_alloc | apply pw_below_drewN | apply below_drew1) | exact HB.out)) hb); clear HO369; clear HB; have HO369 := n0_; have HB := n1_; clear n0_ n1_; (try clear hb); (try clear hb2); (try clear hk); (try clear hi); obtain ⟨Ao29, co29, eo29⟩ := Kd.R_slice HO369.out; subst eo29; have q28 : ((l1.length : Int) : Int) ≤ ((y367.length : Int) : Int) := of_decide_eq_true (by first | (with_reducible assumption) | assumption); obtain ⟨i028, hi028, _, hsz28, _⟩ := info_parts info22; have hroom28 : y367.length ≤ co29 := (Kd.R_reads' HO369.out).2.1; have hC28 : Kd.C (Kd.int .i64) _ Ao29 y367.length y367 := (Kd.R_reads' HO369.out).2.2; have hcut28 := cut_to (P := Try.prog) 36 22 .i64 Try.underlying36 hi028 Ao29 y367.length co29 (l1.length : Int) (of_decide_eq_true (by first | (with_reducible assumption) | assumption)) q28 hroom28; have hr28 := Kd.C_take (m := ((l1.length : Int) : Int).toNat) hC28 (by omega); have hy28 : y372.length = ((l1.length : Int) : Int).toNat := (by rw [Ny372.out, List.length_take]; omega); rw [← Ny372.out] at hr28; rw [← hy28] at hcut28; have HR375 := Aside0.mk hr28; have HC375 := Aside0.mk (show y372.length ≤ co29 from by omega); clear hr28 hC28 hroom28 hi028 hsz28; have KY28 := Aside0.mk hy28; clear hy28; have KL28 := Aside0.mk (show ((l1.length : Int) : Int).toNat ≤ y367.length from by omega); replace q28 := eq_true q28) | (go_at_call 36; (with_reducible refine (fixed_RMS.calls k _ _ y372 t376 _ ?side1 ?side2 A16.out).mono ?_); (case side1 => repeat (first | exact (by repeat (first | (with_reducible exact HR375.out) | (with_reducible refine Kd.C_alloc ?_ _) | (with_reducible refine Kd.C_drewN ?_ _) | (with_reducible refine Kd.C_drew ?_) | exact HR375.out)) | (with_reducible refine Kd.C_alloc ?_ _) | (with_reducible refine Kd.C_drewN ?_ _) | (with_reducible refine Kd.C_drew ?_))); (case side2 => exact HC375.out); rintro e w30 ⟨rfl, hb⟩; have n0_ := Aside0.mk (Kd.R_below (by (with_reducible repeat (first | apply Kd.R_alloc | apply Kd.R_drewN | apply Kd.R_drew)); exact HO369.out) hb); have n1_ := Aside0.mk (Kd.C_below (by repeat (first | (with_reducible exact HR375.out) | (with_reducible refine Kd.C_alloc ?_ _) | (with_reducible refine Kd.C_drewN ?_ _) | (with_reducible refine Kd.C_drew ?_) | exact HR375.out)) hb); have n2_ := Aside0.mk (below_step (by repeat (first | (with_reducible first | exact HB.out | apply below_alloc | apply pw_below_drewN | apply below_drew1) | exact HB.out)) hb); clear HO369; clear HR375; clear HB; have HO369 := n0_; have HR375 := n1_; have HB := n2_; clear n0_ n1_ n2_; (try clear hb); (try clear hb2); (try clear hk); (try clear hi)) | (go_at_call 37; (with_reducible refine (foliotref01_RMS.calls k _ _ l1 t377 _ ?side1 ?side2 A17.out).mono ?_); (case side1 => repeat (first | exact (Kd.C_below HR1.out HB.out) | (with_reducible refine Kd.C_alloc ?_ _) | (with_reducible refine Kd.C_drewN ?_ _) | (with_reducible refine Kd.C_drew ?_))); (case side2 => exact HC1.out); rintro e w31 ⟨rfl, hb⟩; have n0_ := Aside0.mk (Kd.R_below (by (with_reducible repeat (first | apply Kd.R_alloc | apply Kd.R_drewN | apply Kd.R_drew)); exact HO369.out) hb); have n1_ := Aside0.mk (Kd.C_below (by repeat (first | (with_reducible exact HR375.out) | (with_reducible refine Kd.C_alloc ?_ _) | (with_reducible refine Kd.C_drewN ?_ _) | (with_reducible refine Kd.C_drew ?_) | exact HR375.out)) hb); have n2_ := Aside0.mk (below_step (by repeat (first | (with_reducible first | exact HB.out | apply below_alloc | apply pw_below_drewN | apply below_drew1) | exact HB.out)) hb); clear HO369; clear HR375; clear HB; have HO369 := n0_; have HR375 := n1_; have HB := n2_; clear n0_ n1_ n2_; (try clear hb); (try clear hb2); (try clear hk); (try clear hi)))
                  repeat (go_quiet (first | (go_at_call 26; (with_reducible refine (fixed_Root.calls k a0 t370 _ A11.out).mono ?_); rintro e w26 ⟨rfl, hb⟩; have n0_ := Aside0.mk (Kd.R_below (by (with_reducible repeat (first | apply Kd.R_alloc | apply Kd.R_drewN | apply Kd.R_drew)); exact HO369.out) hb); have n1_ := Aside0.mk (below_step (by repeat (first | (with_reducible first | exact HB.out | apply below_alloc | apply pw_below_drewN | apply below_drew1) | exact HB.out)) hb); clear HO369; clear HB; have HO369 := n0_; have HB := n1_; clear n0_ n1_; (try clear hb); (try clear hb2); (try clear hk); (try clear hi)) | (go_at_call 35; (with_reducible refine (foliotref01_Root.calls k a0 t371 _ A12.out).mono ?_); rintro e w27 ⟨rfl, hb⟩; have n0_ := Aside0.mk (Kd.R_below (by (with_reducible repeat (first | apply Kd.R_alloc | apply Kd.R_drewN | apply Kd.R_drew)); exact HO369.out) hb); have n1_ := Aside0.mk (below_step (by repeat (first | (with_reducible first | exact HB.out | apply below_alloc | apply pw_below_drewN | apply below_drew1) | exact HB.out)) hb); clear HO369; clear HB; have HO369 := n0_; have HB := n1_; clear n0_ n1_; (try clear hb); (try clear hb2); (try clear hk); (try clear hi); obtain ⟨Ao29, co29, eo29⟩ := Kd.R_slice HO369.out; subst eo29; have q28 : ((l1.length : Int) : Int) ≤ ((y367.length : Int) : Int) := of_decide_eq_true (by first | (with_reducible assumption) | assumption); obtain ⟨i028, hi028, _, hsz28, _⟩ := info_parts info22; have hroom28 : y367.length ≤ co29 := (Kd.R_reads' HO369.out).2.1; have hC28 : Kd.C (Kd.int .i64) _ Ao29 y367.length y367 := (Kd.R_reads' HO369.out).2.2; have hcut28 := cut_to (P := Try.prog) 36 22 .i64 Try.underlying36 hi028 Ao29 y367.length co29 (l1.length : Int) (of_decide_eq_true (by first | (with_reducible assumption) | assumption)) q28 hroom28; have hr28 := Kd.C_take (m := ((l1.length : Int) : Int).toNat) hC28 (by omega); have hy28 : y372.length = ((l1.length : Int) : Int).toNat := (by rw [Ny372.out, List.length_take]; omega); rw [← Ny372.out] at hr28; rw [← hy28] at hcut28; have HR375 := Aside0.mk hr28; have HC375 := Aside0.mk (show y372.length ≤ co29 from by omega); clear hr28 hC28 hroom28 hi028 hsz28; have KY28 := Aside0.mk hy28; clear hy28; have KL28 := Aside0.mk (show ((l1.length : Int) : Int).toNat ≤ y367.length from by omega); replace q28 := eq_true q28) | (go_at_call 36; (with_reducible refine (fixed_RMS.calls k _ _ y372 t376 _ ?side1 ?side2 A16.out).mono ?_); (case side1 => repeat (first | exact (by repeat (first | (with_reducible exact HR375.out) | (with_reducible refine Kd.C_alloc ?_ _) | (with_reducible refine Kd.C_drewN ?_ _) | (with_reducible refine Kd.C_drew ?_) | exact HR375.out)) | (with_reducible refine Kd.C_alloc ?_ _) | (with_reducible refine Kd.C_drewN ?_ _) | (with_reducible refine Kd.C_drew ?_))); (case side2 => exact HC375.out); rintro e w30 ⟨rfl, hb⟩; have n0_ := Aside0.mk (Kd.R_below (by (with_reducible repeat (first | apply Kd.R_alloc | apply Kd.R_drewN | apply Kd.R_drew)); exact HO369.out) hb); have n1_ := Aside0.mk (Kd.C_below (by repeat (first | (with_reducible exact HR375.out) | (with_reducible refine Kd.C_alloc ?_ _) | (with_reducible refine Kd.C_drewN ?_ _) | (with_reducible refine Kd.C_drew ?_) | exact HR375.out)) hb); have n2_ := Aside0.mk (below_step (by repeat (first | (with_reducible first | exact HB.out | apply below_alloc | apply pw_below_drewN | apply below_drew1) | exact HB.out)) hb); clear HO369; clear HR375; clear HB; have HO369 := n0_; have HR375 := n1_; have HB := n2_; clear n0_ n1_ n2_; (try clear hb); (try clear hb2); (try clear hk); (try clear hi)) | (go_at_call 37; (with_reducible refine (foliotref01_RMS.calls k _ _ l1 t377 _ ?side1 ?side2 A17.out).mono ?_); (case side1 => repeat (first | exact (Kd.C_below HR1.out HB.out) | (with_reducible refine Kd.C_alloc ?_ _) | (with_reducible refine Kd.C_drewN ?_ _) | (with_reducible refine Kd.C_drew ?_))); (case side2 => exact HC1.out); rintro e w31 ⟨rfl, hb⟩; have n0_ := Aside0.mk (Kd.R_below (by (with_reducible repeat (first | apply Kd.R_alloc | apply Kd.R_drewN | apply Kd.R_drew)); exact HO369.out) hb); have n1_ := Aside0.mk (Kd.C_below (by repeat (first | (with_reducible exact HR375.out) | (with_reducible refine Kd.C_alloc ?_ _) | (with_reducible refine Kd.C_drewN ?_ _) | (with_reducible refine Kd.C_drew ?_) | exact HR375.out)) hb); have n2_ := Aside0.mk (below_step (by repeat (first | (with_reducible first | exact HB.out | apply below_alloc | apply pw_below_drewN | apply below_drew1) | exact HB.out)) hb); clear HO369; clear HR375; clear HB; have HO369 := n0_; have HR375 := n1_; have HB := n2_; clear n0_ n1_ n2_; (try clear hb); (try clear hb2); (try clear hk); (try clear hi))); try go_wp2_with (first | (go_at_call 26; (with_reducible refine (fixed_Root.calls k a0 t370 _ A11.out).mono ?_); rintro e w26 ⟨rfl, hb⟩; have n0_ := Aside0.mk (Kd.R_below (by (with_reducible repeat (first | apply Kd.R_alloc | apply Kd.R_drewN | apply Kd.R_drew)); exact HO369.out) hb); have n1_ := Aside0.mk (below_step (by repeat (first | (with_reducible first | exact HB.out | apply below_alloc | apply pw_below_drewN | apply below_drew1) | exact HB.out)) hb); clear HO369; clear HB; have HO369 := n0_; have HB := n1_; clear n0_ n1_; (try clear hb); (try clear hb2); (try clear hk); (try clear hi)) | (go_at_call 35; (with_reducible refine (foliotref01_Root.calls k a0 t371 _ A12.out).mono ?_); rintro e w27 ⟨rfl, hb⟩; have n0_ := Aside0.mk (Kd.R_below (by (with_reducible repeat (first | apply Kd.R_alloc | apply Kd.R_drewN | apply Kd.R_drew)); exact HO369.out) hb); have n1_ := Aside0.mk (below_step (by repeat (first | (with_reducible first | exact HB.out | apply below_alloc | apply pw_below_drewN | apply below_drew1) | exact HB.out)) hb); clear HO369; clear HB; have HO369 := n0_; have HB := n1_; clear n0_ n1_; (try clear hb); (try clear hb2); (try clear hk); (try clear hi); obtain ⟨Ao29, co29, eo29⟩ := Kd.R_slice HO369.out; subst eo29; have q28 : ((l1.length : Int) : Int) ≤ ((y367.length : Int) : Int) := of_decide_eq_true (by first | (with_reducible assumption) | assumption); obtain ⟨i028, hi028, _, hsz28, _⟩ := info_parts info22; have hroom28 : y367.length ≤ co29 := (Kd.R_reads' HO369.out).2.1; have hC28 : Kd.C (Kd.int .i64) _ Ao29 y367.length y367 := (Kd.R_reads' HO369.out).2.2; have hcut28 := cut_to (P := Try.prog) 36 22 .i64 Try.underlying36 hi028 Ao29 y367.length co29 (l1.length : Int) (of_decide_eq_true (by first | (with_reducible assumption) | assumption)) q28 hroom28; have hr28 := Kd.C_take (m := ((l1.length : Int) : Int).toNat) hC28 (by omega); have hy28 : y372.length = ((l1.length : Int) : Int).toNat := (by rw [Ny372.out, List.length_take]; omega); rw [← Ny372.out] at hr28; rw [← hy28] at hcut28; have HR375 := Aside0.mk hr28; have HC375 := Aside0.mk (show y372.length ≤ co29 from by omega); clear hr28 hC28 hroom28 hi028 hsz28; have KY28 := Aside0.mk hy28; clear hy28; have KL28 := Aside0.mk (show ((l1.length : Int) : Int).toNat ≤ y367.length from by omega); replace q28 := eq_true q28) | (go_at_call 36; (with_reducible refine (fixed_RMS.calls k _ _ y372 t376 _ ?side1 ?side2 A16.out).mono ?_); (case side1 => repeat (first | exact (by repeat (first | (with_reducible exact HR375.out) | (with_reducible refine Kd.C_alloc ?_ _) | (with_reducible refine Kd.C_drewN ?_ _) | (with_reducible refine Kd.C_drew ?_) | exact HR375.out)) | (with_reducible refine Kd.C_alloc ?_ _) | (with_reducible refine Kd.C_drewN ?_ _) | (with_reducible refine Kd.C_drew ?_))); (case side2 => exact HC375.out); rintro e w30 ⟨rfl, hb⟩; have n0_ := Aside0.mk (Kd.R_below (by (with_reducible repeat (first | apply Kd.R_alloc | apply Kd.R_drewN | apply Kd.R_drew)); exact HO369.out) hb); have n1_ := Aside0.mk (Kd.C_below (by repeat (first | (with_reducible exact HR375.out) | (with_reducible refine Kd.C_alloc ?_ _) | (with_reducible refine Kd.C_drewN ?_ _) | (with_reducible refine Kd.C_drew ?_) | exact HR375.out)) hb); have n2_ := Aside0.mk (below_step (by repeat (first | (with_reducible first | exact HB.out | apply below_alloc | apply pw_below_drewN | apply below_drew1) | exact HB.out)) hb); clear HO369; clear HR375; clear HB; have HO369 := n0_; have HR375 := n1_; have HB := n2_; clear n0_ n1_ n2_; (try clear hb); (try clear hb2); (try clear hk); (try clear hi)) | (go_at_call 37; (with_reducible refine (foliotref01_RMS.calls k _ _ l1 t377 _ ?side1 ?side2 A17.out).mono ?_); (case side1 => repeat (first | exact (Kd.C_below HR1.out HB.out) | (with_reducible refine Kd.C_alloc ?_ _) | (with_reducible refine Kd.C_drewN ?_ _) | (with_reducible refine Kd.C_drew ?_))); (case side2 => exact HC1.out); rintro e w31 ⟨rfl, hb⟩; have n0_ := Aside0.mk (Kd.R_below (by (with_reducible repeat (first | apply Kd.R_alloc | apply Kd.R_drewN | apply Kd.R_drew)); exact HO369.out) hb); have n1_ := Aside0.mk (Kd.C_below (by repeat (first | (with_reducible exact HR375.out) | (with_reducible refine Kd.C_alloc ?_ _) | (with_reducible refine Kd.C_drewN ?_ _) | (with_reducible refine Kd.C_drew ?_) | exact HR375.out)) hb); have n2_ := Aside0.mk (below_step (by repeat (first | (with_reducible first | exact HB.out | apply below_alloc | apply pw_below_drewN | apply below_drew1) | exact HB.out)) hb); clear HO369; clear HR375; clear HB; have HO369 := n0_; have HR375 := n1_; have HB := n2_; clear n0_ n1_ n2_; (try clear hb); (try clear hb2); (try clear hk); (try clear hi))))
                  go_meet
                  case rel => first | (exact ⟨_, (true), (by first | rfl | (simp; done) | (simp [*]; done)), H', ⟨by first | omega | exact Nat.le_refl _⟩, ⟨by (with_reducible repeat (first | apply Kd.R_alloc | apply Kd.R_drewN | apply Kd.R_drew)); exact HO369.out⟩, ⟨by repeat (first | (with_reducible first | exact HB.out | apply below_alloc | apply pw_below_drewN | apply below_drew1) | exact HB.out)⟩⟩) | ((try rw [c13b0] at H'); (try rw [c13b0]); exact ⟨_, (true), (by first | rfl | (simp; done) | (simp [*]; done)), H', ⟨by first | omega | exact Nat.le_refl _⟩, ⟨by (with_reducible repeat (first | apply Kd.R_alloc | apply Kd.R_drewN | apply Kd.R_drew)); exact HO369.out⟩, ⟨by repeat (first | (with_reducible first | exact HB.out | apply below_alloc | apply pw_below_drewN | apply below_drew1) | exact HB.out)⟩⟩)
              · rw [if_neg c15] at H
                exact absurd H (by simp)
            · rw [if_neg c14] at H
              exact absurd H (by simp)
          · rw [if_neg c13] at H
            have c13b0 : (t370 == t371) = false := beq_eq_false_iff_ne.mpr c13
            have c13b1 : (t370 != t371) = true := bne_iff_ne.mpr c13
            (first | rw [c13b0] | (simp only [i64_w, i32_w]; rw [c13b0]) | skip)
            have H' := Aside0.mk H
            clear H
            go_wp2_with (first | (go_at_call 26; (with_reducible refine (fixed_Root.calls k a0 t370 _ A11.out).mono ?_); rintro e w32 ⟨rfl, hb⟩; have n0_ := Aside0.mk (Kd.R_below (by (with_reducible repeat (first | apply Kd.R_alloc | apply Kd.R_drewN | apply Kd.R_drew)); exact HO369.out) hb); have n1_ := Aside0.mk (below_step (by repeat (first | (with_reducible first | exact HB.out | apply below_alloc | apply pw_below_drewN | apply below_drew1) | exact HB.out)) hb); clear HO369; clear HB; have HO369 := n0_; have HB := n1_; clear n0_ n1_; (try clear hb); (try clear hb2); (try clear hk); (try clear hi)) | (go_at_call 35; (with_reducible refine (foliotref01_Root.calls k a0 t371 _ A12.out).mono ?_); rintro e w33 ⟨rfl, hb⟩; have n0_ := Aside0.mk (Kd.R_below (by (with_reducible repeat (first | apply Kd.R_alloc | apply Kd.R_drewN | apply Kd.R_drew)); exact HO369.out) hb); have n1_ := Aside0.mk (below_step (by repeat (first | (with_reducible first | exact HB.out | apply below_alloc | apply pw_below_drewN | apply below_drew1) | exact HB.out)) hb); clear HO369; clear HB; have HO369 := n0_; have HB := n1_; clear n0_ n1_; (try clear hb); (try clear hb2); (try clear hk); (try clear hi)))
            repeat (go_quiet (first | (go_at_call 26; (with_reducible refine (fixed_Root.calls k a0 t370 _ A11.out).mono ?_); rintro e w32 ⟨rfl, hb⟩; have n0_ := Aside0.mk (Kd.R_below (by (with_reducible repeat (first | apply Kd.R_alloc | apply Kd.R_drewN | apply Kd.R_drew)); exact HO369.out) hb); have n1_ := Aside0.mk (below_step (by repeat (first | (with_reducible first | exact HB.out | apply below_alloc | apply pw_below_drewN | apply below_drew1) | exact HB.out)) hb); clear HO369; clear HB; have HO369 := n0_; have HB := n1_; clear n0_ n1_; (try clear hb); (try clear hb2); (try clear hk); (try clear hi)) | (go_at_call 35; (with_reducible refine (foliotref01_Root.calls k a0 t371 _ A12.out).mono ?_); rintro e w33 ⟨rfl, hb⟩; have n0_ := Aside0.mk (Kd.R_below (by (with_reducible repeat (first | apply Kd.R_alloc | apply Kd.R_drewN | apply Kd.R_drew)); exact HO369.out) hb); have n1_ := Aside0.mk (below_step (by repeat (first | (with_reducible first | exact HB.out | apply below_alloc | apply pw_below_drewN | apply below_drew1) | exact HB.out)) hb); clear HO369; clear HB; have HO369 := n0_; have HB := n1_; clear n0_ n1_; (try clear hb); (try clear hb2); (try clear hk); (try clear hi))); try go_wp2_with (first | (go_at_call 26; (with_reducible refine (fixed_Root.calls k a0 t370 _ A11.out).mono ?_); rintro e w32 ⟨rfl, hb⟩; have n0_ := Aside0.mk (Kd.R_below (by (with_reducible repeat (first | apply Kd.R_alloc | apply Kd.R_drewN | apply Kd.R_drew)); exact HO369.out) hb); have n1_ := Aside0.mk (below_step (by repeat (first | (with_reducible first | exact HB.out | apply below_alloc | apply pw_below_drewN | apply below_drew1) | exact HB.out)) hb); clear HO369; clear HB; have HO369 := n0_; have HB := n1_; clear n0_ n1_; (try clear hb); (try clear hb2); (try clear hk); (try clear hi)) | (go_at_call 35; (with_reducible refine (foliotref01_Root.calls k a0 t371 _ A12.out).mono ?_); rintro e w33 ⟨rfl, hb⟩; have n0_ := Aside0.mk (Kd.R_below (by (with_reducible repeat (first | apply Kd.R_alloc | apply Kd.R_drewN | apply Kd.R_drew)); exact HO369.out) hb); have n1_ := Aside0.mk (below_step (by repeat (first | (with_reducible first | exact HB.out | apply below_alloc | apply pw_below_drewN | apply below_drew1) | exact HB.out)) hb); clear HO369; clear HB; have HO369 := n0_; have HB := n1_; clear n0_ n1_; (try clear hb); (try clear hb2); (try clear hk); (try clear hi))))
            go_meet
            case rel => first | (exact ⟨_, (true), (by first | rfl | (simp; done) | (simp [*]; done)), H', ⟨by first | omega | exact Nat.le_refl _⟩, ⟨by (with_reducible repeat (first | apply Kd.R_alloc | apply Kd.R_drewN | apply Kd.R_drew)); exact HO369.out⟩, ⟨by repeat (first | (with_reducible first | exact HB.out | apply below_alloc | apply pw_below_drewN | apply below_drew1) | exact HB.out)⟩⟩) | ((try rw [c13b0] at H'); (try rw [c13b0]); exact ⟨_, (true), (by first | rfl | (simp; done) | (simp [*]; done)), H', ⟨by first | omega | exact Nat.le_refl _⟩, ⟨by (with_reducible repeat (first | apply Kd.R_alloc | apply Kd.R_drewN | apply Kd.R_drew)); exact HO369.out⟩, ⟨by repeat (first | (with_reducible first | exact HB.out | apply below_alloc | apply pw_below_drewN | apply below_drew1) | exact HB.out)⟩⟩)
        case rest =>
          clear HC6
          try clear c1
          try clear p2
          try clear q2
          try clear c3
          try clear c3b0
          try clear c3b1
          try clear p3
          try clear q3
          try clear hx3
          try clear c4
          try clear c5
          try clear c7
          try clear c13
          try clear c13b0
          try clear c13b1
          try clear c14
          try clear c14b0
          try clear c14b1
          try clear c15
          try clear c15b0
          try clear c15b1
          try clear c18
          try clear c18b0
          try clear c18b1
          try clear c19
          try clear c19b0
          try clear c19b1
          try clear q22
          try clear q28
          try clear hx378_0
          try clear p378
          try clear q22
          try clear q28
          try clear q378
          obtain ⟨kq, x39_5, rfl, HA, HJ5, HO_5, HB⟩ := hcut
          cases kq with
          | zero => exact absurd HA.out (by simp [foliotlaw01_FixedRoots.j0])
          | succ kj5 =>
            have H := HA.out
            clear HA
            simp only [foliotlaw01_FixedRoots.j0] at H
            by_cases c34 : x39_5 = true
            · subst c34
              have H1 : (some false) = some r := by rw [if_pos rfl] at H; exact H
              clear H
              have H := H1
              clear H1
              obtain rfl := Option.some.inj H
              go_wp2
              repeat (go_quiet (fail); try go_wp2)
              go_ret
              exact ⟨by first | rfl | (simp [errW_none, errW_some] <;> rfl) | (simp [*, errW_none, errW_some] <;> rfl), by repeat (first | (with_reducible first | exact HB.out | apply below_alloc | apply pw_below_drewN | apply below_drew1) | exact HB.out)⟩
            · replace c34 := Bool.eq_false_iff.mpr c34
              subst c34
              have H1 : (foliotlaw01_FixedRoots.l0 kj5 l1 y367 0) = some r := by rw [if_neg (show ¬ (false = true) by decide)] at H; exact H
              clear H
              have H := H1
              clear H1
              have H' := Aside0.mk H
              clear H
              go_wp2
              repeat (go_quiet (fail); try go_wp2)
              go_loopg [6] kj5 (fun kq v6 w' => ∃ (x6_2 : Int), v6 = .int .i64 x6_2 ∧ Aside0 (foliotlaw01_FixedRoots.l0 kq l1 y367 x6_2 = some r) ∧ Aside0 (kq ≤ kj5) ∧ Aside0 (Kd.R (Kd.int .i64) 22 w' w.heap.size (fun _ => True) v368 y367) ∧ Aside0 (Below w.heap.size w w'))
              case atStart => exact ⟨(0), (by first | rfl | (simp; done) | (simp [*]; done)), H', ⟨Nat.le_refl _⟩, ⟨by (with_reducible repeat (first | apply Kd.R_alloc | apply Kd.R_drewN | apply Kd.R_drew)); exact HO_5.out⟩, ⟨by repeat (first | (with_reducible first | exact HB.out | apply below_alloc | apply pw_below_drewN | apply below_drew1) | exact HB.out)⟩⟩
              case round =>
                clear H'
                try clear c1
                try clear p2
                try clear q2
                try clear c3
                try clear c3b0
                try clear c3b1
                try clear p3
                try clear q3
                try clear hx3
                try clear c4
                try clear c5
                try clear c7
                try clear c13
                try clear c13b0
                try clear c13b1
                try clear c14
                try clear c14b0
                try clear c14b1
                try clear c15
                try clear c15b0
                try clear c15b1
                try clear c18
                try clear c18b0
                try clear c18b1
                try clear c19
                try clear c19b0
                try clear c19b1
                try clear q22
                try clear q28
                try clear c34
                try clear hx378_0
                try clear p2
                try clear p3
                try clear p378
                try clear q2
                try clear q22
                try clear q28
                try clear q3
                try clear q378
                obtain ⟨x6_2, rfl, HA, HK2, HO_5, HB⟩ := hrel
                cases gk with
                | zero => exact absurd HA.out (by simp [foliotlaw01_FixedRoots.l0])
                | succ k2 =>
                  have H := HA.out
                  clear HA
                  simp only [foliotlaw01_FixedRoots.l0] at H
                  by_cases c35 : x6_2 < (l1.length : Int)
                  · rw [if_pos c35] at H
                    have c35b0 : decide (x6_2 < (l1.length : Int)) = true := decide_eq_true c35
                    clear c35
                    by_cases c36 : 0 ≤ x6_2
                    · rw [if_pos c36] at H
                      have c36b0 : decide (0 ≤ x6_2) = true := decide_eq_true c36
                      clear c36
                      by_cases c37 : x6_2 < (y367.length : Int)
                      · rw [if_pos c37] at H
                        have c37b0 : decide (x6_2 < (y367.length : Int)) = true := decide_eq_true c37
                        clear c37
                        by_cases c38 : (rd y367 x6_2) = (rd l1 x6_2)
                        · rw [if_pos c38] at H
                          have c38b0 : ((rd y367 x6_2) == (rd l1 x6_2)) = true := beq_iff_eq.mpr c38
                          have c38b1 : ((rd y367 x6_2) != (rd l1 x6_2)) = false := bne_eq_false_iff_eq.mpr c38
                          clear c38
                          have H' := Aside0.mk H
                          clear H
                          obtain ⟨Ao39, co39, eo39⟩ := Kd.R_slice HO_5.out
                          subst eo39
                          have p379 : 0 ≤ (x6_2 : Int) := of_decide_eq_true (by first | (with_reducible assumption) | assumption)
                          have q379 : x6_2 < (y367.length : Int) := of_decide_eq_true (by first | (with_reducible assumption) | assumption)
                          obtain ⟨ad379, e379, hx379_0⟩ := Kd.at_int (Kd.R_reads' HO_5.out).2.2 x6_2 p379 q379
                          cases e379
                          replace p379 := eq_true p379
                          replace q379 := eq_true q379
                          have p380 : 0 ≤ (x6_2 : Int) := of_decide_eq_true (by first | (with_reducible assumption) | assumption)
                          have q380 : x6_2 < (l1.length : Int) := of_decide_eq_true (by first | (with_reducible assumption) | assumption)
                          obtain ⟨ad380, e380, hx380_0⟩ := Kd.at_int HR1.out x6_2 p380 q380
                          cases e380
                          replace hx380_0 := (HB.out.cell (World.block_lt_of_cell? w _ hx380_0)).trans hx380_0
                          replace p380 := eq_true p380
                          replace q380 := eq_true q380
                          go_wp2
                          repeat (go_quiet (fail); try go_wp2)
                          go_roundg k2
                          case measure => have := HJ5.out; have := HK2.out; omega
                          case rel => exact ⟨(wrap64 (x6_2 + 1)), (by first | rfl | (simp; done) | (simp [*]; done)), H', ⟨by have := HJ5.out; have := HK2.out; omega⟩, ⟨by (with_reducible repeat (first | apply Kd.R_alloc | apply Kd.R_drewN | apply Kd.R_drew)); exact HO_5.out⟩, ⟨by repeat (first | (with_reducible first | exact HB.out | apply below_alloc | apply pw_below_drewN | apply below_drew1) | exact HB.out)⟩⟩
                        · rw [if_neg c38] at H
                          have c38b0 : ((rd y367 x6_2) == (rd l1 x6_2)) = false := beq_eq_false_iff_ne.mpr c38
                          have c38b1 : ((rd y367 x6_2) != (rd l1 x6_2)) = true := bne_iff_ne.mpr c38
                          obtain rfl := Option.some.inj H
                          obtain ⟨Ao40, co40, eo40⟩ := Kd.R_slice HO_5.out
                          subst eo40
                          have p379 : 0 ≤ (x6_2 : Int) := of_decide_eq_true (by first | (with_reducible assumption) | assumption)
                          have q379 : x6_2 < (y367.length : Int) := of_decide_eq_true (by first | (with_reducible assumption) | assumption)
                          obtain ⟨ad379, e379, hx379_0⟩ := Kd.at_int (Kd.R_reads' HO_5.out).2.2 x6_2 p379 q379
                          cases e379
                          replace p379 := eq_true p379
                          replace q379 := eq_true q379
                          have p380 : 0 ≤ (x6_2 : Int) := of_decide_eq_true (by first | (with_reducible assumption) | assumption)
                          have q380 : x6_2 < (l1.length : Int) := of_decide_eq_true (by first | (with_reducible assumption) | assumption)
                          obtain ⟨ad380, e380, hx380_0⟩ := Kd.at_int HR1.out x6_2 p380 q380
                          cases e380
                          replace hx380_0 := (HB.out.cell (World.block_lt_of_cell? w _ hx380_0)).trans hx380_0
                          replace p380 := eq_true p380
                          replace q380 := eq_true q380
                          go_wp2
                          repeat (go_quiet (fail); try go_wp2)
                          go_ret
                          exact ⟨by first | rfl | (simp [errW_none, errW_some] <;> rfl) | (simp [*, errW_none, errW_some] <;> rfl), by repeat (first | (with_reducible first | exact HB.out | apply below_alloc | apply pw_below_drewN | apply below_drew1) | exact HB.out)⟩
                      · rw [if_neg c37] at H
                        exact absurd H (by simp)
                    · rw [if_neg c36] at H
                      exact absurd H (by simp)
                  · rw [if_neg c35] at H
                    have c35b0 : decide (x6_2 < (l1.length : Int)) = false := decide_eq_false c35
                    clear c35
                    obtain rfl := Option.some.inj H
                    go_wp2
                    repeat (go_quiet (fail); try go_wp2)
                    go_ret
                    exact ⟨by first | rfl | (simp [errW_none, errW_some] <;> rfl) | (simp [*, errW_none, errW_some] <;> rfl), by repeat (first | (with_reducible first | exact HB.out | apply below_alloc | apply pw_below_drewN | apply below_drew1) | exact HB.out)⟩
      · rw [if_neg c5] at H
        exact absurd H (by simp)
    · rw [if_neg c4] at H
      exact absurd H (by simp)

/-- THE ONE PURE STATEMENT of foliotlaw01_FixedRoots: yours. -/
def foliotlaw01_FixedRoots.Pure : Prop := ∀ (a0 : Int) (l1 : List Int), (Lit.int .i64 a0).wf = true → l1.length ≤ maxLen → l1.length * 8 ≤ 140737488351232 → (∀ x ∈ l1, (Lit.int .i64 x).wf = true) → ∃ k, foliotlaw01_FixedRoots.f k a0 l1 = some true
theorem foliotlaw01_FixedRoots.walk (P : foliotlaw01_FixedRoots.Pure) (a0 : Int) (a1 : Option Addr) (len1 cap1 : Nat) (z1 : List Int) (w : World) (w0 : (Lit.int .i64 a0).wf = true) (w1 : (a1 = none ∧ len1 = 0 ∧ cap1 = 0 ∧ z1 = []) ∨ ∃ x, a1 = some x ∧ len1 ≤ cap1 ∧ cap1 ≤ maxLen ∧ z1.length = cap1 ∧ (∀ i, i < z1.length → w.cell? (x.add i) = some (.int .i64 (z1.getD i 0))) ∧ ∀ n ∈ z1, (Lit.int .i64 n).wf = true) (y1 : len1 * 8 ≤ 140737488351232) :
    Calls Try.prog 7 #[.int .i64 a0, .slice a1 len1 cap1] w fun e w' => e = .returned (.bool true) ∧ Below w.heap.size w w' := by
  obtain ⟨l1, rfl, hr1, hm1, hw1, hc1⟩ := ReadsInt.ofRowC w1
  obtain ⟨k, h⟩ := P a0 l1 w0 hm1 y1 hw1
  refine (foliotlaw01_FixedRoots.calls k a0 _ _ l1 true w (Kd.C_of_reads (d := (0 : Int)) (h1 := fun _ => rfl) hr1) hc1 h).mono ?_
  rintro e w' ⟨rfl, hd⟩
  exact ⟨rfl, hd⟩

end Go.Proofs.Ytkcnibpjnhdfdaa.PFixedRoots
