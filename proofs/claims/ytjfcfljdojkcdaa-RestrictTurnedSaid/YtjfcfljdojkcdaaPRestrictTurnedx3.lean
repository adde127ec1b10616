-- Written by a program of this session (the kit's print, extended: wip/extend_print.py). Not trusted: Lean checks it.
import Derived.Test.YtjfcfljdojkcdaaPRestrictTurnedx0
import Derived.Test.YtjfcfljdojkcdaaPRestrictTurnedx1
import Derived.Test.YtjfcfljdojkcdaaPRestrictTurnedx2
namespace Go.Proofs.Ytjfcfljdojkcdaa.PRestrictTurned
open Go.RowKit Go.Proofs.YtjfcfljdojkcdaaW.PrintWords Go.Proofs.YtjfcfljdojkcdaaW.PrintLast Go.Proofs.YtjfcfljdojkcdaaW.PrintMore
attribute [local go_sem] max2_int min2_int max_two min_two max_three min_three max_four min_four   -- for this text's walks alone
set_option linter.unusedVariables false
set_option linter.unusedSimpArgs false

/-! ### foliotlaw06_RestrictTurned: function 3 -/
mutual
def foliotlaw06_RestrictTurned.j1 : Nat → List (S26) → Int → List (S26) → Option (Bool)
  | 0, _, _, _ => none
  | k + 1, x0, x2, x7 => (restrict_Match.f k x0 x2).bind fun t125 => ((restrict_Match.f k x7 x2).bind fun t126 => (if t125 = t126 then ((restrict_Match.f k x7 x2).bind fun t127 => ((foliotref06_Match.f k x0 x2).bind fun t128 => (some (t127 == t128)))) else (some false)))
def foliotlaw06_RestrictTurned.l0 : Nat → List (S26) → List Int → Int → List (S26) → Int → Option (Bool)
  | 0, _, _, _, _, _ => none
  | k + 1, x0, x1, x2, x7, x8 => if x8 < (x7.length : Int) then (if x8 < (x1.length : Int) then (if 0 ≤ x8 then (if (x7.length : Int) = 0 then (none) else (if 0 ≤ (Int.tmod (wrap64 ((Int.tmod (rd x1 x8) (x7.length : Int)) + (x7.length : Int))) (x7.length : Int)) then (if (Int.tmod (wrap64 ((Int.tmod (rd x1 x8) (x7.length : Int)) + (x7.length : Int))) (x7.length : Int)) < (x7.length : Int) then (foliotlaw06_RestrictTurned.l0 k x0 x1 x2 ((x7.set (x8 : Int).toNat (⟨(rd_T26 x7 (Int.tmod (wrap64 ((Int.tmod (rd x1 x8) (x7.length : Int)) + (x7.length : Int))) (x7.length : Int))).f0, (rd_T26 x7 (Int.tmod (wrap64 ((Int.tmod (rd x1 x8) (x7.length : Int)) + (x7.length : Int))) (x7.length : Int))).f1, (rd_T26 x7 (Int.tmod (wrap64 ((Int.tmod (rd x1 x8) (x7.length : Int)) + (x7.length : Int))) (x7.length : Int))).f2⟩ : S26)).set ((Int.tmod (wrap64 ((Int.tmod (rd x1 x8) (x7.length : Int)) + (x7.length : Int))) (x7.length : Int)) : Int).toNat (⟨(rd_T26 x7 x8).f0, (rd_T26 x7 x8).f1, (rd_T26 x7 x8).f2⟩ : S26)) (wrap64 (x8 + 1))) else (none)) else (none))) else (none)) else (foliotlaw06_RestrictTurned.j1 k x0 x2 x7)) else (foliotlaw06_RestrictTurned.j1 k x0 x2 x7)
end
def foliotlaw06_RestrictTurned.f (k : Nat) (l0 : List (S26)) (l1 : List Int) (a2 : Int) : Option (Bool) := if (l0.length : Int) > 1024 then (some true) else ((some (([] : List (S26)) : List (S26))).bind fun y113 => (if y113.length + l0.length < 5864062014805 then (foliotlaw06_RestrictTurned.l0 k l0 l1 a2 (y113 ++ l0) 0) else (none)))
theorem foliotlaw06_RestrictTurned.mono_l : ∀ k, (∀ y0 y1 y2, LeO (foliotlaw06_RestrictTurned.j1 k y0 y1 y2) (foliotlaw06_RestrictTurned.j1 (k + 1) y0 y1 y2)) ∧ (∀ y0 y1 y2 y3 y4, LeO (foliotlaw06_RestrictTurned.l0 k y0 y1 y2 y3 y4) (foliotlaw06_RestrictTurned.l0 (k + 1) y0 y1 y2 y3 y4))
  | 0 => ⟨fun _ _ _ r h => by simp [foliotlaw06_RestrictTurned.j1] at h, fun _ _ _ _ _ r h => by simp [foliotlaw06_RestrictTurned.l0] at h⟩
  | k + 1 => by
    obtain ⟨ih0, ih1⟩ := foliotlaw06_RestrictTurned.mono_l k
    refine ⟨?_, ?_⟩
    · intro y0 y1 y2
      unfold foliotlaw06_RestrictTurned.j1
      repeat' first
      | (with_reducible exact ih0 _ _ _)
      | (with_reducible exact ih1 _ _ _ _ _)
      | (with_reducible exact foliotref06_Match.mono _ _ _)
      | (with_reducible exact restrict_Match.mono _ _ _)
      | (with_reducible exact LeO.refl _)
      | (with_reducible exact LeO.none _)
      | (with_reducible refine LeO.ite ?_ ?_)
      | (with_reducible refine LeO.bind ?_ (fun _ => ?_))
      | exact ih0 _ _ _
      | exact ih1 _ _ _ _ _
      | exact foliotref06_Match.mono _ _ _
      | exact restrict_Match.mono _ _ _
      | exact LeO.none _
      | refine LeO.ite ?_ ?_
      | refine LeO.bind ?_ (fun _ => ?_)
    · intro y0 y1 y2 y3 y4
      unfold foliotlaw06_RestrictTurned.l0
      repeat' first
      | (with_reducible exact ih0 _ _ _)
      | (with_reducible exact ih1 _ _ _ _ _)
      | (with_reducible exact foliotref06_Match.mono _ _ _)
      | (with_reducible exact restrict_Match.mono _ _ _)
      | (with_reducible exact LeO.refl _)
      | (with_reducible exact LeO.none _)
      | (with_reducible refine LeO.ite ?_ ?_)
      | (with_reducible refine LeO.bind ?_ (fun _ => ?_))
      | exact ih0 _ _ _
      | exact ih1 _ _ _ _ _
      | exact foliotref06_Match.mono _ _ _
      | exact restrict_Match.mono _ _ _
      | exact LeO.none _
      | refine LeO.ite ?_ ?_
      | refine LeO.bind ?_ (fun _ => ?_)
theorem foliotlaw06_RestrictTurned.mono : ∀ a0 a1 a2 k, LeO (foliotlaw06_RestrictTurned.f k a0 a1 a2) (foliotlaw06_RestrictTurned.f (k + 1) a0 a1 a2) := by
  intro a0 a1 a2 k
  obtain ⟨ih0, ih1⟩ := foliotlaw06_RestrictTurned.mono_l k
  unfold foliotlaw06_RestrictTurned.f
  repeat' first
      | (with_reducible exact ih0 _ _ _)
      | (with_reducible exact ih1 _ _ _ _ _)
      | (with_reducible exact foliotref06_Match.mono _ _ _)
      | (with_reducible exact restrict_Match.mono _ _ _)
      | (with_reducible exact LeO.refl _)
      | (with_reducible exact LeO.none _)
      | (with_reducible refine LeO.ite ?_ ?_)
      | (with_reducible refine LeO.bind ?_ (fun _ => ?_))
      | exact ih0 _ _ _
      | exact ih1 _ _ _ _ _
      | exact foliotref06_Match.mono _ _ _
      | exact restrict_Match.mono _ _ _
      | exact LeO.none _
      | refine LeO.ite ?_ ?_
      | refine LeO.bind ?_ (fun _ => ?_)
set_option maxHeartbeats 8000000 in
set_option maxRecDepth 100000 in
theorem foliotlaw06_RestrictTurned.calls (k : Nat) (A0 : Option Addr) (c0 : Nat) (l0 : List (S26)) (A1 : Option Addr) (c1 : Nat) (l1 : List Int) (a2 : Int) (r : Bool) (w : World) (hr0 : Kd.C k26 w A0 l0.length l0) (hc0 : l0.length ≤ c0) (hr1 : Kd.C (Kd.int .i64) w A1 l1.length l1) (hc1 : l1.length ≤ c1) (h : foliotlaw06_RestrictTurned.f k l0 l1 a2 = some r) :
    Calls Try.prog 3 #[.slice A0 l0.length c0, .slice A1 l1.length c1, .int .u32 a2] w fun e w' => e = .returned (.bool r) ∧ Below w.heap.size w w' := by
  have hu26 := Try.underlying26
  have HR0 := Aside0.mk hr0
  have HC0 := Aside0.mk hc0
  clear hr0 hc0
  have HR1 := Aside0.mk hr1
  have HC1 := Aside0.mk hc1
  clear hr1 hc1
  have HB := Aside0.mk (Below.refl w.heap.size w)
  have H : (if (l0.length : Int) > 1024 then (some true) else ((some (([] : List (S26)) : List (S26))).bind fun y113 => (if y113.length + l0.length < 5864062014805 then (foliotlaw06_RestrictTurned.l0 k l0 l1 a2 (y113 ++ l0) 0) else (none)))) = some r := h
  clear h
  by_cases c4 : (l0.length : Int) > 1024
  · rw [if_pos c4] at H
    have c4b0 : decide (1024 < (l0.length : Int)) = true := decide_eq_true c4
    have c4b1 : decide (1024 < l0.length) = true := decide_eq_true (by omega)
    clear c4
    obtain rfl := Option.some.inj H
    go_enter Try.func3, Try.ntmps3
    go_wp2
    go_ret
    exact ⟨by first | rfl | (simp [errW_none, errW_some] <;> rfl) | (simp [*, errW_none, errW_some] <;> rfl), by repeat (first | (with_reducible first | exact HB.out | apply below_alloc | apply pw_below_drewN | apply below_drew1) | exact HB.out)⟩
  · rw [if_neg c4] at H
    have c4b0 : decide (1024 < (l0.length : Int)) = false := decide_eq_false c4
    have c4b1 : decide (1024 < l0.length) = false := decide_eq_false (by omega)
    clear c4
    obtain ⟨y113, hy113⟩ : ∃ y_ : List (S26), y_ = (([] : List (S26))) := ⟨_, rfl⟩
    replace H : (if y113.length + l0.length < 5864062014805 then (foliotlaw06_RestrictTurned.l0 k l0 l1 a2 (y113 ++ l0) 0) else (none)) = some r := by first | (rw [hy113]; with_reducible exact H) | (have H2_ := (Option.bind_some _ _).symm.trans H; rw [hy113]; with_reducible exact H2_) | (have H2_ := (Option.bind_some _ _).symm.trans H; with_reducible exact H2_) | with_reducible exact H | (rw [hy113]; exact H) | exact H
    have Ny113 := Aside0.mk hy113
    clear hy113
    by_cases c5 : y113.length + l0.length < 5864062014805
    · rw [if_pos c5] at H
      have LMc5 := Aside0.mk c5
      clear c5
      obtain ⟨y116, hy116⟩ : ∃ y_ : List (S26), y_ = (y113 ++ l0) := ⟨_, rfl⟩
      replace H : (foliotlaw06_RestrictTurned.l0 k l0 l1 a2 y116 0) = some r := by first | (rw [hy116]; with_reducible exact H) | (have H2_ := (Option.bind_some _ _).symm.trans H; rw [hy116]; with_reducible exact H2_) | (have H2_ := (Option.bind_some _ _).symm.trans H; with_reducible exact H2_) | with_reducible exact H | (rw [hy116]; exact H) | exact H
      have Ny116 := Aside0.mk hy116
      clear hy116
      have HC6 := Aside0.mk H
      clear H
      go_enter Try.func3, Try.ntmps3
      go_upto_block 0 with (first | ((with_reducible refine gate_dst (N := 14) rfl ?_); (try (refine gate_guard (by rfl) ?_; dsimp only)); refine Kd.R_lit k26 _ 26 ?hg (N := 14) ?hd (xs := ([] : List (S26))) (inner := []) (ok := fun _ => True) (okp := fun _ => True) ?hr ?hp (fun _ hk => hk) trivial (Below.refl _ _) (Nat.le_refl _) (by simp) ?_; (case hd => rfl); (case hg => rfl); (case hr => first | (go_simp; done) | (go_simp; rfl)); (case hp => exact (Reps.none _ _)); intro v114 w7 ho8 hb hg_ hnew_; clear hg_ hnew_; (first | rw [← Ny113.out] at ho8 | (simp only [Int.reduceToNat] at ho8; rw [← Ny113.out] at ho8)); have n0_ := Aside0.mk (Kd.R_lower ho8 (below_size (by repeat (first | (with_reducible first | exact HB.out | apply below_alloc | apply pw_below_drewN | apply below_drew1) | exact HB.out)))); have n1_ := Aside0.mk (below_step (by repeat (first | (with_reducible first | exact HB.out | apply below_alloc | apply pw_below_drewN | apply below_drew1) | exact HB.out)) hb); clear HB; have HO115 := n0_; have HB := n1_; clear n0_ n1_; clear hb ho8) | ((with_reducible refine gate_builtin (b := .append) (xs := #[.tmp 15, .tmp 16]) rfl ?_); (try (refine gate_guard (by rfl) ?_; dsimp only)); at_builtin; refine Kd.R_append_rows k26 (w0 := w) w.heap.size rfl (.tmp 15) (.tmp 16) 22 26 (.agg #[(.int .u32 0), (.int .i64 0), (.int .i64 0)]) 24 rfl Try.underlying22 info26 rfl (by decide) (by omega) v114 y113 l0 _ _ _ (fun _ => True) (fun _ => False) rfl rfl ?aO ?aR (fun _ _ h => h) (fun _ h => h.elim) ?aF ?aB ?aS ?aL ?_; (case aR => repeat (first | exact (Kd.C_below HR0.out HB.out) | (with_reducible refine Kd.C_alloc ?_ _) | (with_reducible refine Kd.C_drewN ?_ _) | (with_reducible refine Kd.C_drew ?_))); (case aB => exact (by repeat (first | (with_reducible first | exact HB.out | apply below_alloc | apply pw_below_drewN | apply below_drew1) | exact HB.out))); (case aF => exact (fun _ _ => trivial)); (case aO => exact (by (with_reducible repeat (first | apply Kd.R_alloc | apply Kd.R_drewN | apply Kd.R_drew)); exact HO115.out)); (case aS => exact (below_size (by repeat (first | (with_reducible first | exact HB.out | apply below_alloc | apply pw_below_drewN | apply below_drew1) | exact HB.out)))); (case aL => have := LMc5.out; omega); intro v117 w9 ho hb hg hat; rw [← Ny116.out] at ho; have n0_ := Aside0.mk (hb); have n1_ := Aside0.mk (ho); clear HB; clear HO115; have HB := n0_; have HO118 := n1_; clear n0_ n1_; clear ho hb hg hat))
      (try simp only [Act.put, List.setIfInBounds_toArray, List.set_cons_zero, List.set_cons_succ])
      go_cut [] (fun wc => ∃ (kq : Nat) (x7_5 : List (S26)), Aside0 (foliotlaw06_RestrictTurned.j1 kq l0 a2 x7_5 = some r) ∧ Aside0 (kq ≤ k) ∧ Aside0 (Kd.R k26 26 wc w.heap.size (fun _ => True) v117 x7_5) ∧ Aside0 (Below w.heap.size w wc))
      case first =>
        have H := HC6.out
        clear HC6
        have H' := Aside0.mk H
        clear H
        go_wp2
        go_loopg [8] k (fun kq v8 w' => ∃ (x7_1 : List (S26)) (x8_1 : Int), v8 = .int .i64 x8_1 ∧ Aside0 (foliotlaw06_RestrictTurned.l0 kq l0 l1 a2 x7_1 x8_1 = some r) ∧ Aside0 (kq ≤ k) ∧ Aside0 (Kd.R k26 26 w' w.heap.size (fun _ => True) v117 x7_1) ∧ Aside0 (Below w.heap.size w w'))
        case atStart => exact ⟨(y116), (0), (by first | rfl | (simp; done) | (simp [*]; done)), H', ⟨Nat.le_refl _⟩, ⟨by (with_reducible repeat (first | apply Kd.R_alloc | apply Kd.R_drewN | apply Kd.R_drew)); exact HO118.out⟩, ⟨by repeat (first | (with_reducible first | exact HB.out | apply below_alloc | apply pw_below_drewN | apply below_drew1) | exact HB.out)⟩⟩
        case round =>
          clear H'
          try clear c1
          try clear p2
          try clear c3
          try clear c4
          try clear c4b0
          try clear c4b1
          try clear c5
          obtain ⟨x7_1, x8_1, rfl, HA, HK1, HO_7, HB⟩ := hrel
          cases gk with
          | zero => exact absurd HA.out (by simp [foliotlaw06_RestrictTurned.l0])
          | succ k1 =>
            have H := HA.out
            clear HA
            simp only [foliotlaw06_RestrictTurned.l0] at H
            by_cases c10 : x8_1 < (x7_1.length : Int)
            · rw [if_pos c10] at H
              have c10b0 : decide (x8_1 < (x7_1.length : Int)) = true := decide_eq_true c10
              clear c10
              (first | rw [c10b0] | (simp only [i64_w, i32_w]; rw [c10b0]) | skip)
              by_cases c11 : x8_1 < (l1.length : Int)
              · rw [if_pos c11] at H
                have c11b0 : decide (x8_1 < (l1.length : Int)) = true := decide_eq_true c11
                clear c11
                by_cases c12 : 0 ≤ x8_1
                · rw [if_pos c12] at H
                  have c12b0 : decide (0 ≤ x8_1) = true := decide_eq_true c12
                  clear c12
                  by_cases c13 : (x7_1.length : Int) = 0
                  · rw [if_pos c13] at H
                    exact absurd H (by simp)
                  · rw [if_neg c13] at H
                    have c13b0 : ((x7_1.length : Int) == 0) = false := beq_eq_false_iff_ne.mpr c13
                    have c13b1 : ((x7_1.length : Int) != 0) = true := bne_iff_ne.mpr c13
                    have c13b2 : ¬ (x7_1 = []) := fun h_ => c13 (by rw [h_]; rfl)
                    obtain ⟨ji14, hji14⟩ : ∃ j_ : Int, (Int.tmod (wrap64 ((Int.tmod (rd l1 x8_1) (x7_1.length : Int)) + (x7_1.length : Int))) (x7_1.length : Int)) = j_ := ⟨_, rfl⟩
                    replace H : (if 0 ≤ (ji14) then (if (ji14) < (x7_1.length : Int) then (foliotlaw06_RestrictTurned.l0 k1 l0 l1 a2 ((x7_1.set (x8_1 : Int).toNat (⟨(rd_T26 x7_1 (ji14)).f0, (rd_T26 x7_1 (ji14)).f1, (rd_T26 x7_1 (ji14)).f2⟩ : S26)).set ((ji14) : Int).toNat (⟨(rd_T26 x7_1 x8_1).f0, (rd_T26 x7_1 x8_1).f1, (rd_T26 x7_1 x8_1).f2⟩ : S26)) (wrap64 (x8_1 + 1))) else (none)) else (none)) = some r := by first | (rw [hji14] at H; exact H) | (simp only [hji14] at H ⊢; exact H)
                    by_cases c15 : 0 ≤ (ji14)
                    · rw [if_pos c15] at H
                      have c15b0 : decide (0 ≤ (ji14)) = true := decide_eq_true c15
                      clear c15
                      by_cases c16 : (ji14) < (x7_1.length : Int)
                      · rw [if_pos c16] at H
                        have c16b0 : decide ((ji14) < (x7_1.length : Int)) = true := decide_eq_true c16
                        clear c16
                        obtain ⟨y123, hy123⟩ : ∃ y_ : List (S26), y_ = (x7_1.set (x8_1 : Int).toNat (⟨(rd_T26 x7_1 (ji14)).f0, (rd_T26 x7_1 (ji14)).f1, (rd_T26 x7_1 (ji14)).f2⟩ : S26)) := ⟨_, rfl⟩
                        replace H : (foliotlaw06_RestrictTurned.l0 k1 l0 l1 a2 (y123.set ((ji14) : Int).toNat (⟨(rd_T26 x7_1 x8_1).f0, (rd_T26 x7_1 x8_1).f1, (rd_T26 x7_1 x8_1).f2⟩ : S26)) (wrap64 (x8_1 + 1))) = some r := by first | (rw [hy123]; with_reducible exact H) | (have H2_ := (Option.bind_some _ _).symm.trans H; rw [hy123]; with_reducible exact H2_) | (have H2_ := (Option.bind_some _ _).symm.trans H; with_reducible exact H2_) | with_reducible exact H | (rw [hy123]; exact H) | exact H
                        have Ny123 := Aside0.mk hy123
                        clear hy123
                        obtain ⟨y124, hy124⟩ : ∃ y_ : List (S26), y_ = (y123.set ((ji14) : Int).toNat (⟨(rd_T26 x7_1 x8_1).f0, (rd_T26 x7_1 x8_1).f1, (rd_T26 x7_1 x8_1).f2⟩ : S26)) := ⟨_, rfl⟩
                        replace H : (foliotlaw06_RestrictTurned.l0 k1 l0 l1 a2 y124 (wrap64 (x8_1 + 1))) = some r := by first | (rw [hy124]; with_reducible exact H) | (have H2_ := (Option.bind_some _ _).symm.trans H; rw [hy124]; with_reducible exact H2_) | (have H2_ := (Option.bind_some _ _).symm.trans H; with_reducible exact H2_) | with_reducible exact H | (rw [hy124]; exact H) | exact H
                        have Ny124 := Aside0.mk hy124
                        clear hy124
                        have H' := Aside0.mk H
                        clear H
                        obtain ⟨Ao19, co19, eo19⟩ := Kd.R_slice HO_7.out
                        subst eo19
                        have p119 : 0 ≤ (x8_1 : Int) := of_decide_eq_true (by first | (with_reducible assumption) | assumption)
                        have q119 : x8_1 < (l1.length : Int) := of_decide_eq_true (by first | (with_reducible assumption) | assumption)
                        obtain ⟨ad119, e119, hx119_0⟩ := Kd.at_int HR1.out x8_1 p119 q119
                        cases e119
                        replace hx119_0 := (HB.out.cell (World.block_lt_of_cell? w _ hx119_0)).trans hx119_0
                        replace p119 := eq_true p119
                        replace q119 := eq_true q119
                        have p120 : 0 ≤ (x8_1 : Int) := of_decide_eq_true (by first | (with_reducible assumption) | assumption)
                        have q120 : x8_1 < (x7_1.length : Int) := of_decide_eq_true (by first | (with_reducible assumption) | assumption)
                        obtain ⟨ad120, e120, hx120_0, hx120_1, hx120_2⟩ := at_T26 (Kd.R_reads' HO_7.out).2.2 x8_1 p120 q120
                        cases e120
                        replace p120 := eq_true p120
                        replace q120 := eq_true q120
                        go_wp2_with (first | ((with_reducible refine gate_dst (N := 10) rfl ?_); (try (refine gate_guard (by rfl) ?_; dsimp only)); refine box_event ?hg (N := 10) ?hd (cs := #[.int .u32 0, .int .i64 0, .int .i64 0]) (t := 26) ?hr ?_; (case hd => rfl); (case hg => rfl); (case hr => first | (go_simp; done) | (go_simp; rfl)); intro gb121 hg w20 hbox hb; have n0_ := Aside0.mk (Kd.R_below (Kd.R_elderB (by (with_reducible repeat (first | apply Kd.R_alloc | apply Kd.R_drewN | apply Kd.R_drew)); exact HO_7.out) gb121 (Nat.le_of_eq hg.symm)) hb); have n1_ := Aside0.mk (below_step (by repeat (first | (with_reducible first | exact HB.out | apply below_alloc | apply pw_below_drewN | apply below_drew1) | exact HB.out)) hb); have n2_ := Aside0.mk (hbox); have n3_ := Aside0.mk ((by rw [hg]; exact (below_size (by repeat (first | (with_reducible first | exact HB.out | apply below_alloc | apply pw_below_drewN | apply below_drew1) | exact HB.out))) : w.heap.size ≤ gb121)); have n4_ := Aside0.mk ((by rw [hg]; exact (below_size (by repeat (first | (with_reducible first | exact HB.out | apply below_alloc | apply pw_below_drewN | apply below_drew1) | exact HB.out))) : w.heap.size ≤ gb121)); clear HO_7; clear HB; have HO_7 := n0_; have HB := n1_; have BK121 := n2_; have GW121 := n3_; have GE121 := n4_; clear n0_ n1_ n2_ n3_ n4_; clear hb hbox hg; have hcz21_0 : w20.cell? ⟨gb121, 0, none⟩ = some (.int .u32 0) := (blk_cell BK121.out 0).trans rfl; have hcz21_1 : w20.cell? ⟨gb121, 1, none⟩ = some (.int .i64 0) := (blk_cell BK121.out 1).trans rfl; have hcz21_2 : w20.cell? ⟨gb121, 2, none⟩ = some (.int .i64 0) := (blk_cell BK121.out 2).trans rfl; have hfz21_0 := blk_frozen BK121.out 0; have hfz21_1 := blk_frozen BK121.out 1; have hfz21_2 := blk_frozen BK121.out 2) | ((with_reducible refine gate_store (t := 26) (p := 10) rfl ?_); refine store_event (t := 26) (p := 10) (v := ?vo_w22) (w1 := (((w20.setCell ⟨gb121, 0, none⟩ (.int .u32 ((rd_T26 x7_1 x8_1).f0))).setCell ⟨gb121, 1, none⟩ (.int .i64 ((rd_T26 x7_1 x8_1).f1))).setCell ⟨gb121, 2, none⟩ (.int .i64 ((rd_T26 x7_1 x8_1).f2)))) ?hg ?ho ?hn ?hr ?_; (case ho => rfl); (case hg => rfl); (case hn => rfl); (case hr => first | (go_simp; done) | (go_simp; rfl)); intro w22 hw; have n0_ : Aside0 (Kd.R k26 26 w22 w.heap.size (fun k_ => k_ ≠ gb121) (.slice (some ad120) x7_1.length co19) x7_1) := ⟨(by rw [hw]; exact (by (with_reducible repeat (first | apply Kd.R_alloc | apply Kd.R_drewN | apply Kd.R_drew)); exact Kd.R_mono (Kd.R_far (p := ⟨gb121, 2, none⟩) (Kd.R_far (p := ⟨gb121, 1, none⟩) (Kd.R_far (p := ⟨gb121, 0, none⟩) (Kd.R_mono HO_7.out (fun k_ hk => (⟨hk, hk.2⟩ : _ ∧ k_ ≠ gb121))) (fun _ hk => hk.2) (.int .u32 ((rd_T26 x7_1 x8_1).f0))) (fun _ hk => hk.2) (.int .i64 ((rd_T26 x7_1 x8_1).f1))) (fun _ hk => hk.2) (.int .i64 ((rd_T26 x7_1 x8_1).f2))) (fun _ hk => hk.1.2)))⟩; have n1_ : Aside0 (w22.heap[gb121]? = some (.cells #[.int .u32 ((rd_T26 x7_1 x8_1).f0), .int .i64 ((rd_T26 x7_1 x8_1).f1), .int .i64 ((rd_T26 x7_1 x8_1).f2)] 26 (0, 0))) := ⟨(by rw [hw]; exact (by (with_reducible repeat (first | refine blk_drewN ?_ _ | refine blk_drew ?_ | refine blk_alloc ?_ _)); refine blk_put (cs := #[.int .u32 ((rd_T26 x7_1 x8_1).f0), .int .i64 ((rd_T26 x7_1 x8_1).f1), .int .i64 0]) ?_ 2 _ rfl; (with_reducible repeat (first | refine blk_drewN ?_ _ | refine blk_drew ?_ | refine blk_alloc ?_ _)); refine blk_put (cs := #[.int .u32 ((rd_T26 x7_1 x8_1).f0), .int .i64 0, .int .i64 0]) ?_ 1 _ rfl; (with_reducible repeat (first | refine blk_drewN ?_ _ | refine blk_drew ?_ | refine blk_alloc ?_ _)); refine blk_put (cs := #[.int .u32 0, .int .i64 0, .int .i64 0]) ?_ 0 _ rfl; (with_reducible repeat (first | refine blk_drewN ?_ _ | refine blk_drew ?_ | refine blk_alloc ?_ _)); exact BK121.out))⟩; have n2_ : Aside0 (Below w.heap.size w w22) := ⟨(by rw [hw]; exact (by repeat (first | (with_reducible first | exact HB.out | apply below_alloc | apply pw_below_drewN | apply below_drew1 | refine below_set ?_ GE121.out) | exact HB.out)))⟩; clear hw; clear HO_7; clear BK121; clear HB; have HO_7 := n0_; have BK121 := n1_; have HB := n2_; clear n0_ n1_ n2_; have p122 : 0 ≤ ((ji14) : Int) := of_decide_eq_true (by first | (with_reducible assumption) | assumption); have q122 : (ji14) < (x7_1.length : Int) := of_decide_eq_true (by first | (with_reducible assumption) | assumption); obtain ⟨ad122, e122, hx122_0, hx122_1, hx122_2⟩ := at_T26 (Kd.R_reads' HO_7.out).2.2 (ji14) p122 q122; obtain rfl : ad120 = ad122 := (by injection e122); replace p122 := eq_true p122; replace q122 := eq_true q122; have p17 : 0 ≤ (x8_1 : Int) := of_decide_eq_true (by first | (with_reducible assumption) | assumption); have q17 : (x8_1 : Int) < ((x7_1.length : Int) : Int) := of_decide_eq_true (by first | (with_reducible assumption) | assumption); obtain ⟨go17, co17, eo17, gb17, gl17, cl17, HG17⟩ := Kd.R_form HO_7.out (by omega); (first | cases eo17 | (injection eo17 with ea_ en_ ec_; (first | subst ea_ | (injection ea_ with ea_; subst ea_)); subst ec_; clear en_)); have GB17 := Aside0.mk gb17; have GG17 := Aside0.mk HG17; clear gb17 gl17 HG17; (first | simp only [add_plain] at hx120_0 | skip); (first | simp only [add_plain] at hx120_1 | skip); (first | simp only [add_plain] at hx120_2 | skip); (first | simp only [add_plain] at hx122_0 | skip); (first | simp only [add_plain] at hx122_1 | skip); (first | simp only [add_plain] at hx122_2 | skip); obtain ⟨ce17, hcl17, hM17, hcc17, hfr17⟩ := Kd.R_elem HO_7.out z26 (x8_1 : Int) p17 q17; obtain rfl := k26_openM hM17; have hx17_0 : w22.cell? ⟨go17, (x8_1 : Int).toNat * 3, none⟩ = some (.int .u32 ((rd_T26 x7_1 x8_1).f0)) := hcc17 0 _ rfl; have hx17_1 : w22.cell? ⟨go17, (x8_1 : Int).toNat * 3 + 1, none⟩ = some (.int .i64 ((rd_T26 x7_1 x8_1).f1)) := hcc17 1 _ rfl; have hx17_2 : w22.cell? ⟨go17, (x8_1 : Int).toNat * 3 + 2, none⟩ = some (.int .i64 ((rd_T26 x7_1 x8_1).f2)) := hcc17 2 _ rfl; have hf17_0 : w22.frozen? ⟨go17, (x8_1 : Int).toNat * 3, none⟩ = false := hfr17 0; have hf17_1 : w22.frozen? ⟨go17, (x8_1 : Int).toNat * 3 + 1, none⟩ = false := hfr17 1; have hf17_2 : w22.frozen? ⟨go17, (x8_1 : Int).toNat * 3 + 2, none⟩ = false := hfr17 2; clear hcl17 hcc17 hfr17 hM17; replace p17 := eq_true p17; replace q17 := eq_true q17; have HX23 := Aside0.mk (show Kd.R k26 26 w22 w.heap.size (fun k_ => k_ ≠ gb121) (.slice (some ⟨go17, 0, none⟩) x7_1.length co19) x7_1 from (by (with_reducible repeat (first | apply Kd.R_alloc | apply Kd.R_drewN | apply Kd.R_drew)); exact HO_7.out)); obtain ⟨ce23, hcl23, hM23, hcc23, hfr23⟩ := Kd.R_elem HX23.out z26 (x8_1 : Int) (of_decide_eq_true (by first | (with_reducible assumption) | assumption)) (by have h_ : (x8_1 : Int) < ((x7_1.length : Int) : Int) := of_decide_eq_true (by first | (with_reducible assumption) | assumption); first | exact h_ | (have e_ := (Kd.R_reads' HO_7.out).1; omega) | simpa using h_); obtain rfl := k26_openM hM23; have HP23 := Kd.R_seg HX23.out (x8_1 : Int) (of_decide_eq_true (by first | (with_reducible assumption) | assumption)) (by have h_ : (x8_1 : Int) < ((x7_1.length : Int) : Int) := of_decide_eq_true (by first | (with_reducible assumption) | assumption); first | exact h_ | (have e_ := (Kd.R_reads' HO_7.out).1; omega) | simpa using h_) (seg := [.int .u32 ((rd_T26 x7_1 (ji14)).f0), .int .i64 ((rd_T26 x7_1 (ji14)).f1), .int .i64 ((rd_T26 x7_1 (ji14)).f2)]) (j := 0) hcl23 hcc23 (show 3 ≤ 3 from by decide) (x' := (⟨(rd_T26 x7_1 (ji14)).f0, (rd_T26 x7_1 (ji14)).f1, (rd_T26 x7_1 (ji14)).f2⟩ : S26)) (k26_mkM _ _ _ (⟨(rd_T26 x7_1 (ji14)).f0, (rd_T26 x7_1 (ji14)).f1, (rd_T26 x7_1 (ji14)).f2⟩ : S26) ) (fun _ hk => hk); have hx23_0 := hcc23 0 _ rfl; (try simp only [show (k26).sz = 3 from rfl, Nat.mul_one, Nat.add_zero] at hx23_0); have hf23_0 := hfr23 0; (try simp only [show (k26).sz = 3 from rfl, Nat.mul_one, Nat.add_zero] at hf23_0); have hx23_1 := hcc23 1 _ rfl; (try simp only [show (k26).sz = 3 from rfl, Nat.mul_one, Nat.add_zero] at hx23_1); have hf23_1 := hfr23 1; (try simp only [show (k26).sz = 3 from rfl, Nat.mul_one, Nat.add_zero] at hf23_1); have hx23_2 := hcc23 2 _ rfl; (try simp only [show (k26).sz = 3 from rfl, Nat.mul_one, Nat.add_zero] at hx23_2); have hf23_2 := hfr23 2; (try simp only [show (k26).sz = 3 from rfl, Nat.mul_one, Nat.add_zero] at hf23_2); clear hcl23 hcc23 hfr23 hM23) | ((with_reducible refine gate_store (t := 26) (p := 53) rfl ?_); refine store_event (t := 26) (p := 53) (v := ?vo_w24) (w1 := (((w22.setCell ⟨go17, (x8_1 : Int).toNat * 3, none⟩ (.int .u32 ((rd_T26 x7_1 (ji14)).f0))).setCell ⟨go17, (x8_1 : Int).toNat * 3 + 1, none⟩ (.int .i64 ((rd_T26 x7_1 (ji14)).f1))).setCell ⟨go17, (x8_1 : Int).toNat * 3 + 2, none⟩ (.int .i64 ((rd_T26 x7_1 (ji14)).f2)))) ?hg ?ho ?hn ?hr ?_; (case ho => rfl); (case hg => rfl); (case hn => rfl); (case hr => first | (go_simp; done) | (go_simp; rfl)); intro w24 hw; have hg : w22.grownBy w24 (some go17) := (by rw [hw]; exact HP23.2); have hp_ : Kd.R k26 26 w24 w.heap.size (fun k_ => k_ ≠ gb121) (.slice (some ⟨go17, 0, none⟩) x7_1.length co19) y123 := (by rw [hw, Ny123.out]; exact HP23.1); clear HP23; have n0_ := Aside0.mk (hp_); have n1_ := Aside0.mk (blk_grown (g := gb121) (o := .cells #[.int .u32 ((rd_T26 x7_1 x8_1).f0), .int .i64 ((rd_T26 x7_1 x8_1).f1), .int .i64 ((rd_T26 x7_1 x8_1).f2)] 26 (0, 0)) (by (with_reducible repeat (first | refine blk_drewN ?_ _ | refine blk_drew ?_ | refine blk_alloc ?_ _)); exact BK121.out) hg (Kd.R_away HO_7.out (fun _ hk => hk))); have n2_ := Aside0.mk ((by rw [hw]; exact below_set (below_set (below_set (HB.out) GB17.out) GB17.out) GB17.out : Below w.heap.size w w24)); clear HO_7; clear BK121; clear HB; have HO_7 := n0_; have BK121 := n1_; have HB := n2_; clear n0_ n1_ n2_; clear hg hw hp_; have hcz25_0 : w24.cell? ⟨gb121, 0, none⟩ = some (.int .u32 ((rd_T26 x7_1 x8_1).f0)) := (blk_cell BK121.out 0).trans rfl; have hcz25_1 : w24.cell? ⟨gb121, 1, none⟩ = some (.int .i64 ((rd_T26 x7_1 x8_1).f1)) := (blk_cell BK121.out 1).trans rfl; have hcz25_2 : w24.cell? ⟨gb121, 2, none⟩ = some (.int .i64 ((rd_T26 x7_1 x8_1).f2)) := (blk_cell BK121.out 2).trans rfl; have hfz25_0 := blk_frozen BK121.out 0; have hfz25_1 := blk_frozen BK121.out 1; have hfz25_2 := blk_frozen BK121.out 2; have p18 : 0 ≤ ((ji14) : Int) := of_decide_eq_true (by first | (with_reducible assumption) | assumption); have q18 : ((ji14) : Int) < ((x7_1.length : Int) : Int) := of_decide_eq_true (by first | (with_reducible assumption) | assumption); obtain ⟨ce18, hcl18, hM18, hcc18, hfr18⟩ := Kd.R_elem HO_7.out z26 ((ji14) : Int) p18 q18; obtain rfl := k26_openM hM18; have hx18_0 : w24.cell? ⟨go17, ((ji14) : Int).toNat * 3, none⟩ = some (.int .u32 ((rd_T26 y123 (ji14)).f0)) := hcc18 0 _ rfl; have hx18_1 : w24.cell? ⟨go17, ((ji14) : Int).toNat * 3 + 1, none⟩ = some (.int .i64 ((rd_T26 y123 (ji14)).f1)) := hcc18 1 _ rfl; have hx18_2 : w24.cell? ⟨go17, ((ji14) : Int).toNat * 3 + 2, none⟩ = some (.int .i64 ((rd_T26 y123 (ji14)).f2)) := hcc18 2 _ rfl; have hf18_0 : w24.frozen? ⟨go17, ((ji14) : Int).toNat * 3, none⟩ = false := hfr18 0; have hf18_1 : w24.frozen? ⟨go17, ((ji14) : Int).toNat * 3 + 1, none⟩ = false := hfr18 1; have hf18_2 : w24.frozen? ⟨go17, ((ji14) : Int).toNat * 3 + 2, none⟩ = false := hfr18 2; clear hcl18 hcc18 hfr18 hM18; replace p18 := eq_true p18; replace q18 := eq_true q18; have HX26 := Aside0.mk (show Kd.R k26 26 w24 w.heap.size (fun k_ => k_ ≠ gb121) (.slice (some ⟨go17, 0, none⟩) x7_1.length co19) y123 from (by (with_reducible repeat (first | apply Kd.R_alloc | apply Kd.R_drewN | apply Kd.R_drew)); exact HO_7.out)); obtain ⟨ce26, hcl26, hM26, hcc26, hfr26⟩ := Kd.R_elem HX26.out z26 ((ji14) : Int) (of_decide_eq_true (by first | (with_reducible assumption) | assumption)) (by have h_ : ((ji14) : Int) < ((x7_1.length : Int) : Int) := of_decide_eq_true (by first | (with_reducible assumption) | assumption); first | exact h_ | (have e_ := (Kd.R_reads' HO_7.out).1; omega) | simpa using h_); obtain rfl := k26_openM hM26; have HP26 := Kd.R_seg HX26.out ((ji14) : Int) (of_decide_eq_true (by first | (with_reducible assumption) | assumption)) (by have h_ : ((ji14) : Int) < ((x7_1.length : Int) : Int) := of_decide_eq_true (by first | (with_reducible assumption) | assumption); first | exact h_ | (have e_ := (Kd.R_reads' HO_7.out).1; omega) | simpa using h_) (seg := [.int .u32 ((rd_T26 x7_1 x8_1).f0), .int .i64 ((rd_T26 x7_1 x8_1).f1), .int .i64 ((rd_T26 x7_1 x8_1).f2)]) (j := 0) hcl26 hcc26 (show 3 ≤ 3 from by decide) (x' := (⟨(rd_T26 x7_1 x8_1).f0, (rd_T26 x7_1 x8_1).f1, (rd_T26 x7_1 x8_1).f2⟩ : S26)) (k26_mkM _ _ _ (⟨(rd_T26 x7_1 x8_1).f0, (rd_T26 x7_1 x8_1).f1, (rd_T26 x7_1 x8_1).f2⟩ : S26) ) (fun _ hk => hk); have hx26_0 := hcc26 0 _ rfl; (try simp only [show (k26).sz = 3 from rfl, Nat.mul_one, Nat.add_zero] at hx26_0); have hf26_0 := hfr26 0; (try simp only [show (k26).sz = 3 from rfl, Nat.mul_one, Nat.add_zero] at hf26_0); have hx26_1 := hcc26 1 _ rfl; (try simp only [show (k26).sz = 3 from rfl, Nat.mul_one, Nat.add_zero] at hx26_1); have hf26_1 := hfr26 1; (try simp only [show (k26).sz = 3 from rfl, Nat.mul_one, Nat.add_zero] at hf26_1); have hx26_2 := hcc26 2 _ rfl; (try simp only [show (k26).sz = 3 from rfl, Nat.mul_one, Nat.add_zero] at hx26_2); have hf26_2 := hfr26 2; (try simp only [show (k26).sz = 3 from rfl, Nat.mul_one, Nat.add_zero] at hf26_2); clear hcl26 hcc26 hfr26 hM26) | ((with_reducible refine gate_store (t := 26) (p := 57) rfl ?_); refine store_event (t := 26) (p := 57) (v := ?vo_w27) (w1 := (((w24.setCell ⟨go17, ((ji14) : Int).toNat * 3, none⟩ (.int .u32 ((rd_T26 x7_1 x8_1).f0))).setCell ⟨go17, ((ji14) : Int).toNat * 3 + 1, none⟩ (.int .i64 ((rd_T26 x7_1 x8_1).f1))).setCell ⟨go17, ((ji14) : Int).toNat * 3 + 2, none⟩ (.int .i64 ((rd_T26 x7_1 x8_1).f2)))) ?hg ?ho ?hn ?hr ?_; (case ho => rfl); (case hg => rfl); (case hn => rfl); (case hr => first | (go_simp; done) | (go_simp; rfl)); intro w27 hw; have hg : w24.grownBy w27 (some go17) := (by rw [hw]; exact HP26.2); have hp_ : Kd.R k26 26 w27 w.heap.size (fun k_ => k_ ≠ gb121) (.slice (some ⟨go17, 0, none⟩) x7_1.length co19) y124 := (by rw [hw, Ny124.out]; exact HP26.1); clear HP26; have n0_ := Aside0.mk (hp_); have n1_ := Aside0.mk (blk_grown (g := gb121) (o := .cells #[.int .u32 ((rd_T26 x7_1 x8_1).f0), .int .i64 ((rd_T26 x7_1 x8_1).f1), .int .i64 ((rd_T26 x7_1 x8_1).f2)] 26 (0, 0)) (by (with_reducible repeat (first | refine blk_drewN ?_ _ | refine blk_drew ?_ | refine blk_alloc ?_ _)); exact BK121.out) hg (Kd.R_away HO_7.out (fun _ hk => hk))); have n2_ := Aside0.mk ((by rw [hw]; exact below_set (below_set (below_set (HB.out) GB17.out) GB17.out) GB17.out : Below w.heap.size w w27)); clear HO_7; clear BK121; clear HB; have HO_7 := n0_; have BK121 := n1_; have HB := n2_; clear n0_ n1_ n2_; clear hg hw hp_))
                        go_roundg k1
                        case measure => have := HK1.out; omega
                        case rel => exact ⟨(y124), (wrap64 (x8_1 + 1)), (by first | rfl | (simp; done) | (simp [*]; done)), H', ⟨by have := HK1.out; omega⟩, ⟨by (with_reducible repeat (first | apply Kd.R_alloc | apply Kd.R_drewN | apply Kd.R_drew)); exact Kd.R_mono HO_7.out (fun _ hk => trivial)⟩, ⟨by repeat (first | (with_reducible first | exact HB.out | apply below_alloc | apply pw_below_drewN | apply below_drew1 | refine below_set ?_ GE121.out) | exact HB.out)⟩⟩
                      · rw [if_neg c16] at H
                        exact absurd H (by simp)
                    · rw [if_neg c15] at H
                      exact absurd H (by simp)
                · rw [if_neg c12] at H
                  exact absurd H (by simp)
              · rw [if_neg c11] at H
                have c11b0 : decide (x8_1 < (l1.length : Int)) = false := decide_eq_false c11
                clear c11
                have H' := Aside0.mk H
                clear H
                obtain ⟨Ao28, co28, eo28⟩ := Kd.R_slice HO_7.out
                subst eo28
                go_wp2
                go_meet
                case rel => first | (exact ⟨_, (x7_1), H', ⟨by have := HK1.out; first | omega | exact Nat.le_refl _⟩, ⟨by (with_reducible repeat (first | apply Kd.R_alloc | apply Kd.R_drewN | apply Kd.R_drew)); exact HO_7.out⟩, ⟨by repeat (first | (with_reducible first | exact HB.out | apply below_alloc | apply pw_below_drewN | apply below_drew1) | exact HB.out)⟩⟩) | ((try rw [c10b0] at H'); (try rw [c10b0]); exact ⟨_, (x7_1), H', ⟨by have := HK1.out; first | omega | exact Nat.le_refl _⟩, ⟨by (with_reducible repeat (first | apply Kd.R_alloc | apply Kd.R_drewN | apply Kd.R_drew)); exact HO_7.out⟩, ⟨by repeat (first | (with_reducible first | exact HB.out | apply below_alloc | apply pw_below_drewN | apply below_drew1) | exact HB.out)⟩⟩)
            · rw [if_neg c10] at H
              have c10b0 : decide (x8_1 < (x7_1.length : Int)) = false := decide_eq_false c10
              clear c10
              (first | rw [c10b0] | (simp only [i64_w, i32_w]; rw [c10b0]) | skip)
              have H' := Aside0.mk H
              clear H
              obtain ⟨Ao29, co29, eo29⟩ := Kd.R_slice HO_7.out
              subst eo29
              go_wp2
              go_meet
              case rel => first | (exact ⟨_, (x7_1), H', ⟨by have := HK1.out; first | omega | exact Nat.le_refl _⟩, ⟨by (with_reducible repeat (first | apply Kd.R_alloc | apply Kd.R_drewN | apply Kd.R_drew)); exact HO_7.out⟩, ⟨by repeat (first | (with_reducible first | exact HB.out | apply below_alloc | apply pw_below_drewN | apply below_drew1) | exact HB.out)⟩⟩) | ((try rw [c10b0] at H'); (try rw [c10b0]); exact ⟨_, (x7_1), H', ⟨by have := HK1.out; first | omega | exact Nat.le_refl _⟩, ⟨by (with_reducible repeat (first | apply Kd.R_alloc | apply Kd.R_drewN | apply Kd.R_drew)); exact HO_7.out⟩, ⟨by repeat (first | (with_reducible first | exact HB.out | apply below_alloc | apply pw_below_drewN | apply below_drew1) | exact HB.out)⟩⟩)
      case rest =>
        clear HC6
        try clear c1
        try clear p1
        try clear q1
        try clear hx1
        try clear c2
        try clear p2
        try clear hx2
        try clear c3
        try clear c4
        try clear c4b0
        try clear c4b1
        try clear c5
        try clear p6
        try clear c10
        try clear c10b0
        try clear c11
        try clear c11b0
        try clear p11
        try clear q11
        try clear hx11
        try clear c12
        try clear c12b0
        try clear p12
        try clear q12
        try clear hx12
        try clear c13
        try clear c13b0
        try clear c13b1
        try clear c13b2
        try clear c15
        try clear c15b0
        try clear c16
        try clear c16b0
        try clear c17
        try clear p17
        try clear q17
        try clear hx17
        try clear hf17
        try clear c18
        try clear p18
        try clear q18
        try clear hx18
        try clear hf18
        try clear c23
        try clear hx23
        try clear hf23
        try clear c26
        try clear hx26
        try clear hf26
        try clear hcz21_0
        try clear hcz21_1
        try clear hcz21_2
        try clear hcz25_0
        try clear hcz25_1
        try clear hcz25_2
        try clear hfz21_0
        try clear hfz21_1
        try clear hfz21_2
        try clear hfz25_0
        try clear hfz25_1
        try clear hfz25_2
        try clear hx119_0
        try clear hx120_0
        try clear hx120_1
        try clear hx120_2
        try clear hx122_0
        try clear hx122_1
        try clear hx122_2
        try clear hx17_0
        try clear hx17_1
        try clear hx17_2
        try clear hx18_0
        try clear hx18_1
        try clear hx18_2
        try clear hx23_0
        try clear hx23_1
        try clear hx23_2
        try clear hx26_0
        try clear hx26_1
        try clear hx26_2
        try clear p119
        try clear p120
        try clear p122
        try clear p17
        try clear p18
        try clear p2
        try clear q119
        try clear q120
        try clear q122
        try clear q17
        try clear q18
        obtain ⟨kq, x7_5, HA, HJ5, HO_7, HB⟩ := hcut
        cases kq with
        | zero => exact absurd HA.out (by simp [foliotlaw06_RestrictTurned.j1])
        | succ kj5 =>
          have H := HA.out
          clear HA
          simp only [foliotlaw06_RestrictTurned.j1] at H
          replace H := Option.bind_eq_some_iff.mp H
          obtain ⟨t125, A300, H⟩ := H
          replace H : ((restrict_Match.f kj5 x7_5 a2).bind fun t126 => (if t125 = t126 then ((restrict_Match.f kj5 x7_5 a2).bind fun t127 => ((foliotref06_Match.f kj5 l0 a2).bind fun t128 => (some (t127 == t128)))) else (some false))) = some r := H
          have A30 := Aside0.mk A300
          clear A300
          replace H := Option.bind_eq_some_iff.mp H
          obtain ⟨t126, A310, H⟩ := H
          replace H : (if t125 = t126 then ((restrict_Match.f kj5 x7_5 a2).bind fun t127 => ((foliotref06_Match.f kj5 l0 a2).bind fun t128 => (some (t127 == t128)))) else (some false)) = some r := H
          have A31 := Aside0.mk A310
          clear A310
          by_cases c32 : t125 = t126
          · rw [if_pos c32] at H
            have c32b0 : (t125 == t126) = true := beq_iff_eq.mpr c32
            have c32b1 : (t125 != t126) = false := bne_eq_false_iff_eq.mpr c32
            clear c32
            replace H := Option.bind_eq_some_iff.mp H
            obtain ⟨t127, A330, H⟩ := H
            replace H : ((foliotref06_Match.f kj5 l0 a2).bind fun t128 => (some (t127 == t128))) = some r := H
            have A33 := Aside0.mk A330
            clear A330
            replace H := Option.bind_eq_some_iff.mp H
            obtain ⟨t128, A340, H⟩ := H
            replace H : (some (t127 == t128)) = some r := H
            have A34 := Aside0.mk A340
            clear A340
            obtain rfl := Option.some.inj H
            go_wp2_with (first | ((with_reducible refine gate_callee (f := 10) rfl ?_); refine goesL_ (some 60) rfl rfl Try.func10 (by kernel_rfl) rfl #[.slice A0 l0.length c0, .int .u32 a2] rfl (by (try simp only [List.map_toArray, List.map_cons, List.map_nil]); first | done | rfl | (simp only [List.length_drop, List.length_take]; rfl)) ?_; (with_reducible refine (restrict_Match.calls kj5 _ _ l0 a2 t125 _ ?side1 ?side2 A30.out).mono ?_); (case side1 => repeat (first | exact (Kd.C_below HR0.out HB.out) | (with_reducible refine Kd.C_alloc ?_ _) | (with_reducible refine Kd.C_drewN ?_ _) | (with_reducible refine Kd.C_drew ?_))); (case side2 => exact HC0.out); rintro e w35 ⟨rfl, hb⟩; refine ⟨_, rfl, ?_⟩; have n0_ := Aside0.mk (Kd.R_below (by (with_reducible repeat (first | apply Kd.R_alloc | apply Kd.R_drewN | apply Kd.R_drew)); exact HO_7.out) hb); have n1_ := Aside0.mk (below_step (by repeat (first | (with_reducible first | exact HB.out | apply below_alloc | apply pw_below_drewN | apply below_drew1) | exact HB.out)) hb); clear HO_7; clear HB; have HO_7 := n0_; have HB := n1_; clear n0_ n1_; (try clear hb); (try clear hb2); (try clear hk); (try clear hi); obtain ⟨Ao36, co36, eo36⟩ := Kd.R_slice HO_7.out; subst eo36) | ((with_reducible refine gate_callee (f := 10) rfl ?_); refine goesL_ (some 63) rfl rfl Try.func10 (by kernel_rfl) rfl #[.slice Ao36 x7_5.length co36, .int .u32 a2] rfl (by (try simp only [List.map_toArray, List.map_cons, List.map_nil]); first | done | rfl | (simp only [List.length_drop, List.length_take]; rfl)) ?_; (with_reducible refine (restrict_Match.calls kj5 _ _ x7_5 a2 t126 _ ?side1 ?side2 A31.out).mono ?_); (case side1 => repeat (first | exact (Kd.R_reads' HO_7.out).2.2 | (with_reducible refine Kd.C_alloc ?_ _) | (with_reducible refine Kd.C_drewN ?_ _) | (with_reducible refine Kd.C_drew ?_))); (case side2 => exact (Kd.R_reads' HO_7.out).2.1); rintro e w37 ⟨rfl, hb⟩; refine ⟨_, rfl, ?_⟩; have n0_ := Aside0.mk (Kd.R_below (by (with_reducible repeat (first | apply Kd.R_alloc | apply Kd.R_drewN | apply Kd.R_drew)); exact HO_7.out) hb); have n1_ := Aside0.mk (below_step (by repeat (first | (with_reducible first | exact HB.out | apply below_alloc | apply pw_below_drewN | apply below_drew1) | exact HB.out)) hb); clear HO_7; clear HB; have HO_7 := n0_; have HB := n1_; clear n0_ n1_; (try clear hb); (try clear hb2); (try clear hk); (try clear hi)) | (go_at_call 10; (with_reducible refine (restrict_Match.calls kj5 _ _ x7_5 a2 t127 _ ?side1 ?side2 A33.out).mono ?_); (case side1 => repeat (first | exact (Kd.R_reads' HO_7.out).2.2 | (with_reducible refine Kd.C_alloc ?_ _) | (with_reducible refine Kd.C_drewN ?_ _) | (with_reducible refine Kd.C_drew ?_))); (case side2 => exact (Kd.R_reads' HO_7.out).2.1); rintro e w38 ⟨rfl, hb⟩; have n0_ := Aside0.mk (Kd.R_below (by (with_reducible repeat (first | apply Kd.R_alloc | apply Kd.R_drewN | apply Kd.R_drew)); exact HO_7.out) hb); have n1_ := Aside0.mk (below_step (by repeat (first | (with_reducible first | exact HB.out | apply below_alloc | apply pw_below_drewN | apply below_drew1) | exact HB.out)) hb); clear HO_7; clear HB; have HO_7 := n0_; have HB := n1_; clear n0_ n1_; (try clear hb); (try clear hb2); (try clear hk); (try clear hi)) | (go_at_call 11; (with_reducible refine (foliotref06_Match.calls kj5 _ _ l0 a2 t128 _ ?side1 ?side2 A34.out).mono ?_); (case side1 => repeat (first | exact (Kd.C_below HR0.out HB.out) | (with_reducible refine Kd.C_alloc ?_ _) | (with_reducible refine Kd.C_drewN ?_ _) | (with_reducible refine Kd.C_drew ?_))); (case side2 => exact HC0.out); rintro e w39 ⟨rfl, hb⟩; have n0_ := Aside0.mk (Kd.R_below (by (with_reducible repeat (first | apply Kd.R_alloc | apply Kd.R_drewN | apply Kd.R_drew)); exact HO_7.out) hb); have n1_ := Aside0.mk (below_step (by repeat (first | (with_reducible first | exact HB.out | apply below_alloc | apply pw_below_drewN | apply below_drew1) | exact HB.out)) hb); clear HO_7; clear HB; have HO_7 := n0_; have HB := n1_; clear n0_ n1_; (try clear hb); (try clear hb2); (try clear hk); (try clear hi)))
            go_ret
            exact ⟨by first | rfl | (simp [errW_none, errW_some] <;> rfl) | (simp [*, errW_none, errW_some] <;> rfl), by repeat (first | (with_reducible first | exact HB.out | apply below_alloc | apply pw_below_drewN | apply below_drew1) | exact HB.out)⟩
          · rw [if_neg c32] at H
            have c32b0 : (t125 == t126) = false := beq_eq_false_iff_ne.mpr c32
            have c32b1 : (t125 != t126) = true := bne_iff_ne.mpr c32
            obtain rfl := Option.some.inj H
            go_wp2_with (first | ((with_reducible refine gate_callee (f := 10) rfl ?_); refine goesL_ (some 60) rfl rfl Try.func10 (by kernel_rfl) rfl #[.slice A0 l0.length c0, .int .u32 a2] rfl (by (try simp only [List.map_toArray, List.map_cons, List.map_nil]); first | done | rfl | (simp only [List.length_drop, List.length_take]; rfl)) ?_; (with_reducible refine (restrict_Match.calls kj5 _ _ l0 a2 t125 _ ?side1 ?side2 A30.out).mono ?_); (case side1 => repeat (first | exact (Kd.C_below HR0.out HB.out) | (with_reducible refine Kd.C_alloc ?_ _) | (with_reducible refine Kd.C_drewN ?_ _) | (with_reducible refine Kd.C_drew ?_))); (case side2 => exact HC0.out); rintro e w40 ⟨rfl, hb⟩; refine ⟨_, rfl, ?_⟩; have n0_ := Aside0.mk (Kd.R_below (by (with_reducible repeat (first | apply Kd.R_alloc | apply Kd.R_drewN | apply Kd.R_drew)); exact HO_7.out) hb); have n1_ := Aside0.mk (below_step (by repeat (first | (with_reducible first | exact HB.out | apply below_alloc | apply pw_below_drewN | apply below_drew1) | exact HB.out)) hb); clear HO_7; clear HB; have HO_7 := n0_; have HB := n1_; clear n0_ n1_; (try clear hb); (try clear hb2); (try clear hk); (try clear hi); obtain ⟨Ao41, co41, eo41⟩ := Kd.R_slice HO_7.out; subst eo41) | ((with_reducible refine gate_callee (f := 10) rfl ?_); refine goesL_ (some 63) rfl rfl Try.func10 (by kernel_rfl) rfl #[.slice Ao41 x7_5.length co41, .int .u32 a2] rfl (by (try simp only [List.map_toArray, List.map_cons, List.map_nil]); first | done | rfl | (simp only [List.length_drop, List.length_take]; rfl)) ?_; (with_reducible refine (restrict_Match.calls kj5 _ _ x7_5 a2 t126 _ ?side1 ?side2 A31.out).mono ?_); (case side1 => repeat (first | exact (Kd.R_reads' HO_7.out).2.2 | (with_reducible refine Kd.C_alloc ?_ _) | (with_reducible refine Kd.C_drewN ?_ _) | (with_reducible refine Kd.C_drew ?_))); (case side2 => exact (Kd.R_reads' HO_7.out).2.1); rintro e w42 ⟨rfl, hb⟩; refine ⟨_, rfl, ?_⟩; have n0_ := Aside0.mk (Kd.R_below (by (with_reducible repeat (first | apply Kd.R_alloc | apply Kd.R_drewN | apply Kd.R_drew)); exact HO_7.out) hb); have n1_ := Aside0.mk (below_step (by repeat (first | (with_reducible first | exact HB.out | apply below_alloc | apply pw_below_drewN | apply below_drew1) | exact HB.out)) hb); clear HO_7; clear HB; have HO_7 := n0_; have HB := n1_; clear n0_ n1_; (try clear hb); (try clear hb2); (try clear hk); (try clear hi)))
            go_ret
            exact ⟨by first | rfl | (simp [errW_none, errW_some] <;> rfl) | (simp [*, errW_none, errW_some] <;> rfl), by repeat (first | (with_reducible first | exact HB.out | apply below_alloc | apply pw_below_drewN | apply below_drew1) | exact HB.out)⟩
    · rw [if_neg c5] at H
      exact absurd H (by simp)

def okS26 (x : S26) : Prop := ((Lit.int .u32 x.f0).wf = true) ∧ ((Lit.int .i64 x.f1).wf = true) ∧ ((Lit.int .i64 x.f2).wf = true)
/-- THE ONE PURE STATEMENT of foliotlaw06_RestrictTurned: yours. -/
def foliotlaw06_RestrictTurned.Pure : Prop := ∀ (l0 : List (S26)) (l1 : List Int) (a2 : Int), l0.length ≤ maxLen → l0.length * 24 ≤ 140737488351232 → (∀ y_l0 ∈ l0, okS26 y_l0) → l1.length ≤ maxLen → l1.length * 8 ≤ 140737488351232 → (∀ y_l1 ∈ l1, (Lit.int .i64 y_l1).wf = true) → (Lit.int .u32 a2).wf = true → ∃ k, foliotlaw06_RestrictTurned.f k l0 l1 a2 = some true

end Go.Proofs.Ytjfcfljdojkcdaa.PRestrictTurned
