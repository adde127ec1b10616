-- Written by a program (extend_print.py). Not trusted: Lean checks it.
import Derived.Test.YtigcmpmpjmbfkaaPClusterShiftedx0
import Derived.Test.YtigcmpmpjmbfkaaPClusterShiftedx6
namespace Go.Proofs.Ytigcmpmpjmbfkaa.PClusterShifted
open Go.RowKit Go.Proofs.YtigcmpmpjmbfkaaW.PrintWords Go.Proofs.YtigcmpmpjmbfkaaW.PrintLast Go.Proofs.YtigcmpmpjmbfkaaW.PrintMore
attribute [local go_sem] max2_int min2_int max_two min_two max_three min_three max_four min_four
set_option linter.unusedVariables false
set_option maxHeartbeats 8000000
set_option maxRecDepth 100000
set_option linter.unusedSimpArgs false
mutual
def foliotlaw14_ClusterShifted.j0 : Nat → List (S25) → Int → Bool → Option (Bool)
 | 0, _, _, _ => none
 | k + 1, x0, x1, x20 => if x20 = true then (some true) else (foliotlaw14_ClusterShifted.l0 k x0 x1 (([] : List (S25))) (([] : List (S25))) 0)
def foliotlaw14_ClusterShifted.l0 : Nat → List (S25) → Int → List (S25) → List (S25) → Int → Option (Bool)
 | 0, _, _, _, _, _ => none
 | k + 1, x0, x1, x5, x6, x7 => if x7 < (x0.length : Int) then (if 0 ≤ x7 then (if x5.length < 2932031007402 then (if x6.length < 2932031007402 then (foliotlaw14_ClusterShifted.l0 k x0 x1 (x5 ++ [(⟨(rd_T25 x0 x7).f0, Int.tmod ((rd_T25 x0 x7).f1) 1125899906842624, (rd_T25 x0 x7).f2, (rd_T25 x0 x7).f3, (rd_T25 x0 x7).f4, (rd_T25 x0 x7).f5, (rd_T25 x0 x7).f6⟩ : S25)]) (x6 ++ [(⟨(rd_T25 x0 x7).f0, wrap64 ((Int.tmod ((rd_T25 x0 x7).f1) 1125899906842624) + (wrap64 (x1))), (rd_T25 x0 x7).f2, (rd_T25 x0 x7).f3, (rd_T25 x0 x7).f4, (rd_T25 x0 x7).f5, (rd_T25 x0 x7).f6⟩ : S25)]) (wrap64 (x7 + 1))) else (none)) else (none)) else (none)) else ((cluster_Combine.f k x5).bind fun bt212 => ((cluster_Combine.f k x6).bind fun bt214 => (if (wrap64 (bt214.1 - bt212.1)) = (wrap64 (x1)) then (some (bt212.2 == bt214.2)) else (some false))))
end
def foliotlaw14_ClusterShifted.f (k : Nat) (l0 : List (S25)) (a1 : Int) : Option (Bool) := if (l0.length : Int) = 0 then (foliotlaw14_ClusterShifted.j0 k l0 a1 true) else (foliotlaw14_ClusterShifted.j0 k l0 a1 (decide ((l0.length : Int) > 16)))
theorem foliotlaw14_ClusterShifted.mono_l : ∀ k, (∀ y0 y1 y2, LeO (foliotlaw14_ClusterShifted.j0 k y0 y1 y2) (foliotlaw14_ClusterShifted.j0 (k + 1) y0 y1 y2)) ∧ (∀ y0 y1 y2 y3 y4, LeO (foliotlaw14_ClusterShifted.l0 k y0 y1 y2 y3 y4) (foliotlaw14_ClusterShifted.l0 (k + 1) y0 y1 y2 y3 y4))
 | 0 => ⟨fun _ _ _ r h => by simp [foliotlaw14_ClusterShifted.j0] at h, fun _ _ _ _ _ r h => by simp [foliotlaw14_ClusterShifted.l0] at h⟩
 | k + 1 => by
  obtain ⟨ih0, ih1⟩ := foliotlaw14_ClusterShifted.mono_l k
  refine ⟨?_, ?_⟩
  ·intro y0 y1 y2
   unfold foliotlaw14_ClusterShifted.j0
   repeat' first
   | (with_reducible exact ih0 _ _ _)
   | (with_reducible exact ih1 _ _ _ _ _)
   | (with_reducible exact cluster_Combine.mono _ _)
   | (with_reducible exact LeO.refl _)
   | (with_reducible exact LeO.none _)
   | (with_reducible refine LeO.ite ?_ ?_)
   | (with_reducible refine LeO.bind ?_ (fun _ => ?_))
   | exact ih0 _ _ _
   | exact ih1 _ _ _ _ _
   | exact cluster_Combine.mono _ _
   | exact LeO.none _
   | refine LeO.ite ?_ ?_
   | refine LeO.bind ?_ (fun _ => ?_)
  ·intro y0 y1 y2 y3 y4
   unfold foliotlaw14_ClusterShifted.l0
   repeat' first
   | (with_reducible exact ih0 _ _ _)
   | (with_reducible exact ih1 _ _ _ _ _)
   | (with_reducible exact cluster_Combine.mono _ _)
   | (with_reducible exact LeO.refl _)
   | (with_reducible exact LeO.none _)
   | (with_reducible refine LeO.ite ?_ ?_)
   | (with_reducible refine LeO.bind ?_ (fun _ => ?_))
   | exact ih0 _ _ _
   | exact ih1 _ _ _ _ _
   | exact cluster_Combine.mono _ _
   | exact LeO.none _
   | refine LeO.ite ?_ ?_
   | refine LeO.bind ?_ (fun _ => ?_)
theorem foliotlaw14_ClusterShifted.mono : ∀ a0 a1 k, LeO (foliotlaw14_ClusterShifted.f k a0 a1) (foliotlaw14_ClusterShifted.f (k + 1) a0 a1) := by
 intro a0 a1 k
 obtain ⟨ih0, ih1⟩ := foliotlaw14_ClusterShifted.mono_l k
 unfold foliotlaw14_ClusterShifted.f
 repeat' first
   | (with_reducible exact ih0 _ _ _)
   | (with_reducible exact ih1 _ _ _ _ _)
   | (with_reducible exact cluster_Combine.mono _ _)
   | (with_reducible exact LeO.refl _)
   | (with_reducible exact LeO.none _)
   | (with_reducible refine LeO.ite ?_ ?_)
   | (with_reducible refine LeO.bind ?_ (fun _ => ?_))
   | exact ih0 _ _ _
   | exact ih1 _ _ _ _ _
   | exact cluster_Combine.mono _ _
   | exact LeO.none _
   | refine LeO.ite ?_ ?_
   | refine LeO.bind ?_ (fun _ => ?_)
theorem foliotlaw14_ClusterShifted.calls (k : Nat) (A0 : Option Addr) (c0 : Nat) (l0 : List (S25)) (a1 : Int) (r : Bool) (w : World) (hr0 : Kd.C k25 w A0 l0.length l0) (hc0 : l0.length ≤ c0) (hrt_ : r = true) (h : foliotlaw14_ClusterShifted.f k l0 a1 = some r) :
  Calls Try.prog 3 #[.slice A0 l0.length c0, .int .i32 a1] w fun e w' => e = .returned (.bool r) ∧ Below w.heap.size w w' := by
 have hu25 := Try.underlying25
 have HR0 := Aside0.mk hr0
 have HC0 := Aside0.mk hc0
 clear hr0 hc0
 have HB := Aside0.mk (Below.refl w.heap.size w)
 have H : (if (l0.length : Int) = 0 then (foliotlaw14_ClusterShifted.j0 k l0 a1 true) else (foliotlaw14_ClusterShifted.j0 k l0 a1 (decide ((l0.length : Int) > 16)))) = some r := h
 clear h
 have HC3 := Aside0.mk H
 clear H
 go_enter Try.func3, Try.ntmps3
 go_upto_region 1 with (fail)
 go_cut [20] (fun v20 wc => ∃ (kq : Nat) (x20_2 : Bool), v20 = .bool x20_2 ∧ Aside0 (foliotlaw14_ClusterShifted.j0 kq l0 a1 x20_2 = some r) ∧ Aside0 (kq ≤ k) ∧ Aside0 (Below w.heap.size w wc))
 case first =>
  have H := HC3.out
  clear HC3
  by_cases c4 : (l0.length : Int) = 0
  ·rw [if_pos c4] at H
   have c4b0 : ((l0.length : Int) == 0) = true := beq_iff_eq.mpr c4
   have c4b1 : ((l0.length : Int) != 0) = false := bne_eq_false_iff_eq.mpr c4
   clear c4
   (first | rw [c4b0] | (simp only [i64_w, i32_w]; rw [c4b0]) | skip)
   have H' := Aside0.mk H
   clear H
   go_wp2
   go_meet
   case rel => first | (exact ⟨_, (true), (by first | rfl | (simp; done) | (simp [*]; done)), H', ⟨by first | omega | exact Nat.le_refl _⟩, ⟨by repeat (first | (with_reducible first | exact HB.out | apply below_alloc | apply pw_below_drewN | apply below_drew1) | exact HB.out)⟩⟩) | ((try rw [c4b0] at H'); (try rw [c4b0]); exact ⟨_, (true), (by first | rfl | (simp; done) | (simp [*]; done)), H', ⟨by first | omega | exact Nat.le_refl _⟩, ⟨by repeat (first | (with_reducible first | exact HB.out | apply below_alloc | apply pw_below_drewN | apply below_drew1) | exact HB.out)⟩⟩)
  ·rw [if_neg c4] at H
   have c4b0 : ((l0.length : Int) == 0) = false := beq_eq_false_iff_ne.mpr c4
   have c4b1 : ((l0.length : Int) != 0) = true := bne_iff_ne.mpr c4
   have c4b2 : ¬ (l0 = []) := fun h_ => c4 (by rw [h_]; rfl)
   (first | rw [c4b0] | (simp only [i64_w, i32_w]; rw [c4b0]) | skip)
   have H' := Aside0.mk H
   clear H
   go_wp2
   go_meet
   case rel => first | (exact ⟨_, (decide ((l0.length : Int) > 16)), (by first | rfl | (simp; done) | (simp [*]; done)), H', ⟨by first | omega | exact Nat.le_refl _⟩, ⟨by repeat (first | (with_reducible first | exact HB.out | apply below_alloc | apply pw_below_drewN | apply below_drew1) | exact HB.out)⟩⟩) | ((try rw [c4b0] at H'); (try rw [c4b0]); exact ⟨_, (decide ((l0.length : Int) > 16)), (by first | rfl | (simp; done) | (simp [*]; done)), H', ⟨by first | omega | exact Nat.le_refl _⟩, ⟨by repeat (first | (with_reducible first | exact HB.out | apply below_alloc | apply pw_below_drewN | apply below_drew1) | exact HB.out)⟩⟩)
 case rest =>
  clear HC3
  try clear p2
  try clear c3
  try clear c4
  try clear c4b0
  try clear c4b1
  try clear c4b2
  obtain ⟨kq, x20_2, rfl, HA, HJ2, HB⟩ := hcut
  cases kq with
  | zero => exact absurd HA.out (by simp [foliotlaw14_ClusterShifted.j0])
  | succ kj2 =>
   have H := HA.out
   clear HA
   simp only [foliotlaw14_ClusterShifted.j0] at H
   by_cases c5 : x20_2 = true
   ·subst c5
    have H1 : (some true) = some r := by rw [if_pos rfl] at H; exact H
    clear H
    have H := H1
    clear H1
    clear hrt_
    obtain rfl := Option.some.inj H
    go_wp2
    go_ret
    exact ⟨by first | rfl | (simp [errW_none, errW_some] <;> rfl) | (simp [*, errW_none, errW_some] <;> rfl), by repeat (first | (with_reducible first | exact HB.out | apply below_alloc | apply pw_below_drewN | apply below_drew1) | exact HB.out)⟩
   ·replace c5 := Bool.eq_false_iff.mpr c5
    subst c5
    have H1 : (foliotlaw14_ClusterShifted.l0 kj2 l0 a1 (([] : List (S25))) (([] : List (S25))) 0) = some r := by rw [if_neg (show ¬ (false = true) by decide)] at H; exact H
    clear H
    have H := H1
    clear H1
    obtain ⟨y198, hy198⟩ : ∃ y_ : List (S25), y_ = (([] : List (S25))) := ⟨_, rfl⟩
    replace H : (foliotlaw14_ClusterShifted.l0 kj2 l0 a1 y198 (([] : List (S25))) 0) = some r := by first | (rw [hy198]; with_reducible exact H) | (have H2_ := (Option.bind_some _ _).symm.trans H; rw [hy198]; with_reducible exact H2_) | (have H2_ := (Option.bind_some _ _).symm.trans H; with_reducible exact H2_) | with_reducible exact H | (rw [hy198]; exact H) | exact H
    have Ny198 := Aside0.mk hy198
    clear hy198
    obtain ⟨y201, hy201⟩ : ∃ y_ : List (S25), y_ = (([] : List (S25))) := ⟨_, rfl⟩
    replace H : (foliotlaw14_ClusterShifted.l0 kj2 l0 a1 y198 y201 0) = some r := by first | (rw [hy201]; with_reducible exact H) | (have H2_ := (Option.bind_some _ _).symm.trans H; rw [hy201]; with_reducible exact H2_) | (have H2_ := (Option.bind_some _ _).symm.trans H; with_reducible exact H2_) | with_reducible exact H | (rw [hy201]; exact H) | exact H
    have Ny201 := Aside0.mk hy201
    clear hy201
    have H' := Aside0.mk H
    clear H
    go_wp2_with (first | ((with_reducible refine gate_dst (N := 21) rfl ?_); (try (refine gate_guard (by rfl) ?_; dsimp only)); refine Kd.R_lit k25 _ 25 ?hg (N := 21) ?hd (xs := ([] : List (S25))) (inner := []) (ok := fun _ => True) (okp := fun _ => True) ?hr ?hp (fun _ hk => hk) trivial (Below.refl _ _) (Nat.le_refl _) (by simp) ?_; (case hd => rfl); (case hg => rfl); (case hr => first | (go_simp; done) | (go_simp; rfl)); (case hp => exact (Reps.none _ _)); intro v199 w6 ho7 hb hg_ hnew_; clear hg_ hnew_; (first | rw [← Ny198.out] at ho7 | (simp only [Int.reduceToNat] at ho7; rw [← Ny198.out] at ho7)); have n0_ := Aside0.mk (Kd.R_lower ho7 (below_size (by repeat (first | (with_reducible first | exact HB.out | apply below_alloc | apply pw_below_drewN | apply below_drew1) | exact HB.out)))); have n1_ := Aside0.mk (below_step (by repeat (first | (with_reducible first | exact HB.out | apply below_alloc | apply pw_below_drewN | apply below_drew1) | exact HB.out)) hb); clear HB; have HO200 := n0_; have HB := n1_; clear n0_ n1_; clear hb ho7) | ((with_reducible refine gate_dst (N := 22) rfl ?_); (try (refine gate_guard (by rfl) ?_; dsimp only)); refine Kd.R_lit k25 _ 25 ?hg (N := 22) ?hd (xs := ([] : List (S25))) (inner := []) (ok := fun _ => True) (okp := fun _ => True) ?hr ?hp (fun _ hk => hk) trivial (Below.refl _ _) (Nat.le_refl _) (by simp) ?_; (case hd => rfl); (case hg => rfl); (case hr => first | (go_simp; done) | (go_simp; rfl)); (case hp => exact (Reps.none _ _)); intro v202 w8 ho9 hb hg_ hnew_; clear hg_ hnew_; (first | rw [← Ny201.out] at ho9 | (simp only [Int.reduceToNat] at ho9; rw [← Ny201.out] at ho9)); have n0_ := Aside0.mk (Kd.R_elder' (by (with_reducible repeat (first | apply Kd.R_alloc | apply Kd.R_drewN | apply Kd.R_drew)); exact HO200.out) (Kd.R_base ho9) hb); have n1_ := Aside0.mk (Kd.R_lower (Kd.R_new' ho9 (Kd.R_lt (by (with_reducible repeat (first | apply Kd.R_alloc | apply Kd.R_drewN | apply Kd.R_drew)); exact HO200.out))) (below_size (by repeat (first | (with_reducible first | exact HB.out | apply below_alloc | apply pw_below_drewN | apply below_drew1) | exact HB.out)))); have n2_ := Aside0.mk (below_step (by repeat (first | (with_reducible first | exact HB.out | apply below_alloc | apply pw_below_drewN | apply below_drew1) | exact HB.out)) hb); clear HO200; clear HB; have HO200 := n0_; have HO203 := n1_; have HB := n2_; clear n0_ n1_ n2_; clear hb ho9))
    go_loopg [5, 6, 7] kj2 (fun kq v5 v6 v7 w' => ∃ (x5_2 : List (S25)) (x6_2 : List (S25)) (x7_2 : Int), v7 = .int .i64 x7_2 ∧ Aside0 (foliotlaw14_ClusterShifted.l0 kq l0 a1 x5_2 x6_2 x7_2 = some r) ∧ Aside0 (kq ≤ kj2) ∧ Aside0 (Kd.R k25 25 w' w.heap.size (fun k_ => some k_ ≠ (v6 : Value).ownBlock) v5 x5_2) ∧ Aside0 (Kd.R k25 25 w' w.heap.size (fun k_ => some k_ ≠ (v5 : Value).ownBlock) v6 x6_2) ∧ Aside0 (Below w.heap.size w w'))
    case atStart => exact ⟨(y198), (y201), (0), (by first | rfl | (simp; done) | (simp [*]; done)), H', ⟨Nat.le_refl _⟩, ⟨by (with_reducible repeat (first | apply Kd.R_alloc | apply Kd.R_drewN | apply Kd.R_drew)); exact Kd.R_mono HO200.out (fun _ hk => hk.2)⟩, ⟨by (with_reducible repeat (first | apply Kd.R_alloc | apply Kd.R_drewN | apply Kd.R_drew)); exact Kd.R_mono HO203.out (fun _ hk => hk.2)⟩, ⟨by repeat (first | (with_reducible first | exact HB.out | apply below_alloc | apply pw_below_drewN | apply below_drew1) | exact HB.out)⟩⟩
    case round =>
     clear H'
     try clear p2
     try clear c3
     try clear c4
     try clear c4b0
     try clear c4b1
     try clear c4b2
     try clear c5
     try clear p2
     obtain ⟨x5_2, x6_2, x7_2, rfl, HA, HK2, HO_5, HO_6, HB⟩ := hrel
     cases gk with
     | zero => exact absurd HA.out (by simp [foliotlaw14_ClusterShifted.l0])
     | succ k2 =>
      have H := HA.out
      clear HA
      simp only [foliotlaw14_ClusterShifted.l0] at H
      by_cases c10 : x7_2 < (l0.length : Int)
      ·rw [if_pos c10] at H
       have c10b0 : decide (x7_2 < (l0.length : Int)) = true := decide_eq_true c10
       clear c10
       by_cases c11 : 0 ≤ x7_2
       ·rw [if_pos c11] at H
        have c11b0 : decide (0 ≤ x7_2) = true := decide_eq_true c11
        clear c11
        by_cases c12 : x5_2.length < 2932031007402
        ·rw [if_pos c12] at H
         have LMc12 := Aside0.mk c12
         clear c12
         obtain ⟨y206, hy206⟩ : ∃ y_ : List (S25), y_ = (x5_2 ++ [(⟨(rd_T25 l0 x7_2).f0, Int.tmod ((rd_T25 l0 x7_2).f1) 1125899906842624, (rd_T25 l0 x7_2).f2, (rd_T25 l0 x7_2).f3, (rd_T25 l0 x7_2).f4, (rd_T25 l0 x7_2).f5, (rd_T25 l0 x7_2).f6⟩ : S25)]) := ⟨_, rfl⟩
         replace H : (if x6_2.length < 2932031007402 then (foliotlaw14_ClusterShifted.l0 k2 l0 a1 y206 (x6_2 ++ [(⟨(rd_T25 l0 x7_2).f0, wrap64 ((Int.tmod ((rd_T25 l0 x7_2).f1) 1125899906842624) + (wrap64 (a1))), (rd_T25 l0 x7_2).f2, (rd_T25 l0 x7_2).f3, (rd_T25 l0 x7_2).f4, (rd_T25 l0 x7_2).f5, (rd_T25 l0 x7_2).f6⟩ : S25)]) (wrap64 (x7_2 + 1))) else (none)) = some r := by first | (rw [hy206]; with_reducible exact H) | (have H2_ := (Option.bind_some _ _).symm.trans H; rw [hy206]; with_reducible exact H2_) | (have H2_ := (Option.bind_some _ _).symm.trans H; with_reducible exact H2_) | with_reducible exact H | (rw [hy206]; exact H) | exact H
         have Ny206 := Aside0.mk hy206
         clear hy206
         by_cases c13 : x6_2.length < 2932031007402
         ·rw [if_pos c13] at H
          have LMc13 := Aside0.mk c13
          clear c13
          obtain ⟨y209, hy209⟩ : ∃ y_ : List (S25), y_ = (x6_2 ++ [(⟨(rd_T25 l0 x7_2).f0, wrap64 ((Int.tmod ((rd_T25 l0 x7_2).f1) 1125899906842624) + (wrap64 (a1))), (rd_T25 l0 x7_2).f2, (rd_T25 l0 x7_2).f3, (rd_T25 l0 x7_2).f4, (rd_T25 l0 x7_2).f5, (rd_T25 l0 x7_2).f6⟩ : S25)]) := ⟨_, rfl⟩
          replace H : (foliotlaw14_ClusterShifted.l0 k2 l0 a1 y206 y209 (wrap64 (x7_2 + 1))) = some r := by first | (rw [hy209]; with_reducible exact H) | (have H2_ := (Option.bind_some _ _).symm.trans H; rw [hy209]; with_reducible exact H2_) | (have H2_ := (Option.bind_some _ _).symm.trans H; with_reducible exact H2_) | with_reducible exact H | (rw [hy209]; exact H) | exact H
          have Ny209 := Aside0.mk hy209
          clear hy209
          have H' := Aside0.mk H
          clear H
          have p204 : 0 ≤ (x7_2 : Int) := of_decide_eq_true (by first | (with_reducible assumption) | assumption)
          have q204 : x7_2 < (l0.length : Int) := of_decide_eq_true (by first | (with_reducible assumption) | assumption)
          obtain ⟨ad204, e204, hx204_0, hx204_1, hx204_2, hx204_3, hx204_4, hx204_5, hx204_6⟩ := at_T25 HR0.out x7_2 p204 q204
          cases e204
          replace hx204_0 := (HB.out.cell (World.block_lt_of_cell? w _ hx204_0)).trans hx204_0
          replace hx204_1 := (HB.out.cell (World.block_lt_of_cell? w _ hx204_1)).trans hx204_1
          replace hx204_2 := (HB.out.cell (World.block_lt_of_cell? w _ hx204_2)).trans hx204_2
          replace hx204_3 := (HB.out.cell (World.block_lt_of_cell? w _ hx204_3)).trans hx204_3
          replace hx204_4 := (HB.out.cell (World.block_lt_of_cell? w _ hx204_4)).trans hx204_4
          replace hx204_5 := (HB.out.cell (World.block_lt_of_cell? w _ hx204_5)).trans hx204_5
          replace hx204_6 := (HB.out.cell (World.block_lt_of_cell? w _ hx204_6)).trans hx204_6
          replace p204 := eq_true p204
          replace q204 := eq_true q204
          go_wp2_with (first | ((with_reducible refine gate_dst (N := 8) rfl ?_); (try (refine gate_guard (by rfl) ?_; dsimp only)); refine box_event ?hg (N := 8) ?hd (cs := #[.int .i64 0, .int .i64 0, .int .i64 0, .int .i64 0, .int .i64 0, .bool false, .bool false]) (t := 25) ?hr ?_; (case hd => rfl); (case hg => rfl); (case hr => first | (go_simp; done) | (go_simp; rfl)); intro gb205 hg w14 hbox hb; have n0_ := Aside0.mk (Kd.R_below (Kd.R_elderB (by (with_reducible repeat (first | apply Kd.R_alloc | apply Kd.R_drewN | apply Kd.R_drew)); exact HO_5.out) gb205 (Nat.le_of_eq hg.symm)) hb); have n1_ := Aside0.mk (Kd.R_below (Kd.R_elderB (by (with_reducible repeat (first | apply Kd.R_alloc | apply Kd.R_drewN | apply Kd.R_drew)); exact HO_6.out) gb205 (Nat.le_of_eq hg.symm)) hb); have n2_ := Aside0.mk (below_step (by repeat (first | (with_reducible first | exact HB.out | apply below_alloc | apply pw_below_drewN | apply below_drew1) | exact HB.out)) hb); have n3_ := Aside0.mk (hbox); have n4_ := Aside0.mk ((by rw [hg]; exact (below_size (by repeat (first | (with_reducible first | exact HB.out | apply below_alloc | apply pw_below_drewN | apply below_drew1) | exact HB.out))) : w.heap.size ≤ gb205)); have n5_ := Aside0.mk ((by rw [hg]; exact (below_size (by repeat (first | (with_reducible first | exact HB.out | apply below_alloc | apply pw_below_drewN | apply below_drew1) | exact HB.out))) : w.heap.size ≤ gb205)); clear HO_5; clear HO_6; clear HB; have HO_5 := n0_; have HO_6 := n1_; have HB := n2_; have BK205 := n3_; have GW205 := n4_; have GE205 := n5_; clear n0_ n1_ n2_ n3_ n4_ n5_; clear hb hbox hg; have hcz15_0 : w14.cell? ⟨gb205, 0, none⟩ = some (.int .i64 0) := (blk_cell BK205.out 0).trans rfl; have hcz15_1 : w14.cell? ⟨gb205, 1, none⟩ = some (.int .i64 0) := (blk_cell BK205.out 1).trans rfl; have hcz15_2 : w14.cell? ⟨gb205, 2, none⟩ = some (.int .i64 0) := (blk_cell BK205.out 2).trans rfl; have hcz15_3 : w14.cell? ⟨gb205, 3, none⟩ = some (.int .i64 0) := (blk_cell BK205.out 3).trans rfl; have hcz15_4 : w14.cell? ⟨gb205, 4, none⟩ = some (.int .i64 0) := (blk_cell BK205.out 4).trans rfl; have hcz15_5 : w14.cell? ⟨gb205, 5, none⟩ = some (.bool false) := (blk_cell BK205.out 5).trans rfl; have hcz15_6 : w14.cell? ⟨gb205, 6, none⟩ = some (.bool false) := (blk_cell BK205.out 6).trans rfl; have hfz15_0 := blk_frozen BK205.out 0; have hfz15_1 := blk_frozen BK205.out 1; have hfz15_2 := blk_frozen BK205.out 2; have hfz15_3 := blk_frozen BK205.out 3; have hfz15_4 := blk_frozen BK205.out 4; have hfz15_5 := blk_frozen BK205.out 5; have hfz15_6 := blk_frozen BK205.out 6) | ((with_reducible refine gate_store (t := 25) (p := 8) rfl ?_); refine store_event (t := 25) (p := 8) (v := ?vo_w16) (w1 := (((((((w14.setCell ⟨gb205, 0, none⟩ (.int .i64 ((rd_T25 l0 x7_2).f0))).setCell ⟨gb205, 1, none⟩ (.int .i64 ((rd_T25 l0 x7_2).f1))).setCell ⟨gb205, 2, none⟩ (.int .i64 ((rd_T25 l0 x7_2).f2))).setCell ⟨gb205, 3, none⟩ (.int .i64 ((rd_T25 l0 x7_2).f3))).setCell ⟨gb205, 4, none⟩ (.int .i64 ((rd_T25 l0 x7_2).f4))).setCell ⟨gb205, 5, none⟩ (.bool ((rd_T25 l0 x7_2).f5))).setCell ⟨gb205, 6, none⟩ (.bool ((rd_T25 l0 x7_2).f6)))) ?hg ?ho ?hn ?hr ?_; (case ho => rfl); (case hg => rfl); (case hn => rfl); (case hr => first | (go_simp; done) | (go_simp; rfl)); intro w16 hw; have n0_ : Aside0 (Kd.R k25 25 w16 w.heap.size (fun k_ => some k_ ≠ (u6 : Value).ownBlock ∧ k_ ≠ gb205) u5 x5_2) := ⟨(by rw [hw]; exact (by (with_reducible repeat (first | apply Kd.R_alloc | apply Kd.R_drewN | apply Kd.R_drew)); exact Kd.R_mono (Kd.R_far (p := ⟨gb205, 6, none⟩) (Kd.R_far (p := ⟨gb205, 5, none⟩) (Kd.R_far (p := ⟨gb205, 4, none⟩) (Kd.R_far (p := ⟨gb205, 3, none⟩) (Kd.R_far (p := ⟨gb205, 2, none⟩) (Kd.R_far (p := ⟨gb205, 1, none⟩) (Kd.R_far (p := ⟨gb205, 0, none⟩) (Kd.R_mono HO_5.out (fun k_ hk => (⟨hk, hk.2⟩ : _ ∧ k_ ≠ gb205))) (fun _ hk => hk.2) (.int .i64 ((rd_T25 l0 x7_2).f0))) (fun _ hk => hk.2) (.int .i64 ((rd_T25 l0 x7_2).f1))) (fun _ hk => hk.2) (.int .i64 ((rd_T25 l0 x7_2).f2))) (fun _ hk => hk.2) (.int .i64 ((rd_T25 l0 x7_2).f3))) (fun _ hk => hk.2) (.int .i64 ((rd_T25 l0 x7_2).f4))) (fun _ hk => hk.2) (.bool ((rd_T25 l0 x7_2).f5))) (fun _ hk => hk.2) (.bool ((rd_T25 l0 x7_2).f6))) (fun _ hk => ⟨hk.1.1, hk.1.2⟩)))⟩; have n1_ : Aside0 (Kd.R k25 25 w16 w.heap.size (fun k_ => some k_ ≠ (u5 : Value).ownBlock ∧ k_ ≠ gb205) u6 x6_2) := ⟨(by rw [hw]; exact (by (with_reducible repeat (first | apply Kd.R_alloc | apply Kd.R_drewN | apply Kd.R_drew)); exact Kd.R_mono (Kd.R_far (p := ⟨gb205, 6, none⟩) (Kd.R_far (p := ⟨gb205, 5, none⟩) (Kd.R_far (p := ⟨gb205, 4, none⟩) (Kd.R_far (p := ⟨gb205, 3, none⟩) (Kd.R_far (p := ⟨gb205, 2, none⟩) (Kd.R_far (p := ⟨gb205, 1, none⟩) (Kd.R_far (p := ⟨gb205, 0, none⟩) (Kd.R_mono HO_6.out (fun k_ hk => (⟨hk, hk.2⟩ : _ ∧ k_ ≠ gb205))) (fun _ hk => hk.2) (.int .i64 ((rd_T25 l0 x7_2).f0))) (fun _ hk => hk.2) (.int .i64 ((rd_T25 l0 x7_2).f1))) (fun _ hk => hk.2) (.int .i64 ((rd_T25 l0 x7_2).f2))) (fun _ hk => hk.2) (.int .i64 ((rd_T25 l0 x7_2).f3))) (fun _ hk => hk.2) (.int .i64 ((rd_T25 l0 x7_2).f4))) (fun _ hk => hk.2) (.bool ((rd_T25 l0 x7_2).f5))) (fun _ hk => hk.2) (.bool ((rd_T25 l0 x7_2).f6))) (fun _ hk => ⟨hk.1.1, hk.1.2⟩)))⟩; have n2_ : Aside0 (w16.heap[gb205]? = some (.cells #[.int .i64 ((rd_T25 l0 x7_2).f0), .int .i64 ((rd_T25 l0 x7_2).f1), .int .i64 ((rd_T25 l0 x7_2).f2), .int .i64 ((rd_T25 l0 x7_2).f3), .int .i64 ((rd_T25 l0 x7_2).f4), .bool ((rd_T25 l0 x7_2).f5), .bool ((rd_T25 l0 x7_2).f6)] 25 (0, 0))) := ⟨(by rw [hw]; exact (by (with_reducible repeat (first | refine blk_drewN ?_ _ | refine blk_drew ?_ | refine blk_alloc ?_ _)); refine blk_put (cs := #[.int .i64 ((rd_T25 l0 x7_2).f0), .int .i64 ((rd_T25 l0 x7_2).f1), .int .i64 ((rd_T25 l0 x7_2).f2), .int .i64 ((rd_T25 l0 x7_2).f3), .int .i64 ((rd_T25 l0 x7_2).f4), .bool ((rd_T25 l0 x7_2).f5), .bool false]) ?_ 6 _ rfl; (with_reducible repeat (first | refine blk_drewN ?_ _ | refine blk_drew ?_ | refine blk_alloc ?_ _)); refine blk_put (cs := #[.int .i64 ((rd_T25 l0 x7_2).f0), .int .i64 ((rd_T25 l0 x7_2).f1), .int .i64 ((rd_T25 l0 x7_2).f2), .int .i64 ((rd_T25 l0 x7_2).f3), .int .i64 ((rd_T25 l0 x7_2).f4), .bool false, .bool false]) ?_ 5 _ rfl; (with_reducible repeat (first | refine blk_drewN ?_ _ | refine blk_drew ?_ | refine blk_alloc ?_ _)); refine blk_put (cs := #[.int .i64 ((rd_T25 l0 x7_2).f0), .int .i64 ((rd_T25 l0 x7_2).f1), .int .i64 ((rd_T25 l0 x7_2).f2), .int .i64 ((rd_T25 l0 x7_2).f3), .int .i64 0, .bool false, .bool false]) ?_ 4 _ rfl; (with_reducible repeat (first | refine blk_drewN ?_ _ | refine blk_drew ?_ | refine blk_alloc ?_ _)); refine blk_put (cs := #[.int .i64 ((rd_T25 l0 x7_2).f0), .int .i64 ((rd_T25 l0 x7_2).f1), .int .i64 ((rd_T25 l0 x7_2).f2), .int .i64 0, .int .i64 0, .bool false, .bool false]) ?_ 3 _ rfl; (with_reducible repeat (first | refine blk_drewN ?_ _ | refine blk_drew ?_ | refine blk_alloc ?_ _)); refine blk_put (cs := #[.int .i64 ((rd_T25 l0 x7_2).f0), .int .i64 ((rd_T25 l0 x7_2).f1), .int .i64 0, .int .i64 0, .int .i64 0, .bool false, .bool false]) ?_ 2 _ rfl; (with_reducible repeat (first | refine blk_drewN ?_ _ | refine blk_drew ?_ | refine blk_alloc ?_ _)); refine blk_put (cs := #[.int .i64 ((rd_T25 l0 x7_2).f0), .int .i64 0, .int .i64 0, .int .i64 0, .int .i64 0, .bool false, .bool false]) ?_ 1 _ rfl; (with_reducible repeat (first | refine blk_drewN ?_ _ | refine blk_drew ?_ | refine blk_alloc ?_ _)); refine blk_put (cs := #[.int .i64 0, .int .i64 0, .int .i64 0, .int .i64 0, .int .i64 0, .bool false, .bool false]) ?_ 0 _ rfl; (with_reducible repeat (first | refine blk_drewN ?_ _ | refine blk_drew ?_ | refine blk_alloc ?_ _)); exact BK205.out))⟩; have n3_ : Aside0 (Below w.heap.size w w16) := ⟨(by rw [hw]; exact (by repeat (first | (with_reducible first | exact HB.out | apply below_alloc | apply pw_below_drewN | apply below_drew1 | refine below_set ?_ GE205.out) | exact HB.out)))⟩; clear hw; clear HO_5; clear HO_6; clear BK205; clear HB; have HO_5 := n0_; have HO_6 := n1_; have BK205 := n2_; have HB := n3_; clear n0_ n1_ n2_ n3_; have hcz17_0 : w16.cell? ⟨gb205, 0, none⟩ = some (.int .i64 ((rd_T25 l0 x7_2).f0)) := (blk_cell BK205.out 0).trans rfl; have hcz17_1 : w16.cell? ⟨gb205, 1, none⟩ = some (.int .i64 ((rd_T25 l0 x7_2).f1)) := (blk_cell BK205.out 1).trans rfl; have hcz17_2 : w16.cell? ⟨gb205, 2, none⟩ = some (.int .i64 ((rd_T25 l0 x7_2).f2)) := (blk_cell BK205.out 2).trans rfl; have hcz17_3 : w16.cell? ⟨gb205, 3, none⟩ = some (.int .i64 ((rd_T25 l0 x7_2).f3)) := (blk_cell BK205.out 3).trans rfl; have hcz17_4 : w16.cell? ⟨gb205, 4, none⟩ = some (.int .i64 ((rd_T25 l0 x7_2).f4)) := (blk_cell BK205.out 4).trans rfl; have hcz17_5 : w16.cell? ⟨gb205, 5, none⟩ = some (.bool ((rd_T25 l0 x7_2).f5)) := (blk_cell BK205.out 5).trans rfl; have hcz17_6 : w16.cell? ⟨gb205, 6, none⟩ = some (.bool ((rd_T25 l0 x7_2).f6)) := (blk_cell BK205.out 6).trans rfl; have hfz17_0 := blk_frozen BK205.out 0; have hfz17_1 := blk_frozen BK205.out 1; have hfz17_2 := blk_frozen BK205.out 2; have hfz17_3 := blk_frozen BK205.out 3; have hfz17_4 := blk_frozen BK205.out 4; have hfz17_5 := blk_frozen BK205.out 5; have hfz17_6 := blk_frozen BK205.out 6) | ((with_reducible refine gate_builtin (b := .append) (xs := #[.tmp 37, .tmp 39]) rfl ?_); (try (refine gate_guard (by rfl) ?_; dsimp only)); at_builtin; refine Kd.R_append k25 (w0 := w) w.heap.size rfl (.tmp 37) (.tmp 39) 22 25 (.agg #[(.int .i64 0), (.int .i64 0), (.int .i64 0), (.int .i64 0), (.int .i64 0), (.bool false), (.bool false)]) 48 rfl Try.underlying22 info25 rfl (by decide) (by omega) u5 x5_2 (⟨(rd_T25 l0 x7_2).f0, Int.tmod ((rd_T25 l0 x7_2).f1) 1125899906842624, (rd_T25 l0 x7_2).f2, (rd_T25 l0 x7_2).f3, (rd_T25 l0 x7_2).f4, (rd_T25 l0 x7_2).f5, (rd_T25 l0 x7_2).f6⟩ : S25) [.int .i64 ((rd_T25 l0 x7_2).f0), .int .i64 (Int.tmod ((rd_T25 l0 x7_2).f1) 1125899906842624), .int .i64 ((rd_T25 l0 x7_2).f2), .int .i64 ((rd_T25 l0 x7_2).f3), .int .i64 ((rd_T25 l0 x7_2).f4), .bool ((rd_T25 l0 x7_2).f5), .bool ((rd_T25 l0 x7_2).f6)] (fun k_ => some k_ ≠ (u6 : Value).ownBlock ∧ k_ ≠ gb205) (fun _ => False) rfl (by first | (go_simp; done) | (go_simp; rfl)) ?aP (fun _ hk => hk.elim) ?aF ?aO ?aB ?aS ?aL ?_; (case aP => exact k25_mkM _ _ _ (⟨(rd_T25 l0 x7_2).f0, Int.tmod ((rd_T25 l0 x7_2).f1) 1125899906842624, (rd_T25 l0 x7_2).f2, (rd_T25 l0 x7_2).f3, (rd_T25 l0 x7_2).f4, (rd_T25 l0 x7_2).f5, (rd_T25 l0 x7_2).f6⟩ : S25)); (case aB => exact (by repeat (first | (with_reducible first | exact HB.out | apply below_alloc | apply pw_below_drewN | apply below_drew1 | refine below_set ?_ GE205.out) | exact HB.out))); (case aF => exact (fun k_ hk => ⟨Kd.fresh' (Kd.R_lt (by (with_reducible repeat (first | apply Kd.R_alloc | apply Kd.R_drewN | apply Kd.R_drew)); exact (Kd.R_mono (Kd.R_far (p := ⟨gb205, 1, none⟩) (Kd.R_mono HO_6.out (fun k_ hk => (⟨hk, hk.2⟩ : _ ∧ k_ ≠ gb205))) (fun _ hk => hk.2) (.int .i64 (Int.tmod ((rd_T25 l0 x7_2).f1) 1125899906842624))) (fun _ h_ => h_.1)))) k_ hk, Kd.freshB (g := gb205) (o := .cells #[.int .i64 ((rd_T25 l0 x7_2).f0), .int .i64 (Int.tmod ((rd_T25 l0 x7_2).f1) 1125899906842624), .int .i64 ((rd_T25 l0 x7_2).f2), .int .i64 ((rd_T25 l0 x7_2).f3), .int .i64 ((rd_T25 l0 x7_2).f4), .bool ((rd_T25 l0 x7_2).f5), .bool ((rd_T25 l0 x7_2).f6)] 25 (0, 0)) (by (with_reducible repeat (first | refine blk_drewN ?_ _ | refine blk_drew ?_ | refine blk_alloc ?_ _)); refine blk_put (cs := #[.int .i64 ((rd_T25 l0 x7_2).f0), .int .i64 ((rd_T25 l0 x7_2).f1), .int .i64 ((rd_T25 l0 x7_2).f2), .int .i64 ((rd_T25 l0 x7_2).f3), .int .i64 ((rd_T25 l0 x7_2).f4), .bool ((rd_T25 l0 x7_2).f5), .bool ((rd_T25 l0 x7_2).f6)]) ?_ 1 _ rfl; (with_reducible repeat (first | refine blk_drewN ?_ _ | refine blk_drew ?_ | refine blk_alloc ?_ _)); exact BK205.out) k_ hk⟩)); (case aO => exact (by (with_reducible repeat (first | apply Kd.R_alloc | apply Kd.R_drewN | apply Kd.R_drew)); exact Kd.R_mono (Kd.R_far (p := ⟨gb205, 1, none⟩) (Kd.R_mono HO_5.out (fun k_ hk => (⟨hk, hk.2⟩ : _ ∧ k_ ≠ gb205))) (fun _ hk => hk.2) (.int .i64 (Int.tmod ((rd_T25 l0 x7_2).f1) 1125899906842624))) (fun _ hk => ⟨hk.1.1, hk.1.2⟩))); (case aS => exact (below_size (by repeat (first | (with_reducible first | exact HB.out | apply below_alloc | apply pw_below_drewN | apply below_drew1 | refine below_set ?_ GE205.out) | exact HB.out)))); (case aL => have := LMc12.out; omega); intro v207 w18 ho hb hg hat; rw [← Ny206.out] at ho; have n0_ := Aside0.mk (Kd.R_after (ok := (fun k_ => k_ ≠ gb205)) (by (with_reducible repeat (first | apply Kd.R_alloc | apply Kd.R_drewN | apply Kd.R_drew)); exact Kd.R_mono (Kd.R_far (p := ⟨gb205, 1, none⟩) (Kd.R_mono HO_6.out (fun k_ hk => (⟨hk, hk.2⟩ : _ ∧ k_ ≠ gb205))) (fun _ hk => hk.2) (.int .i64 (Int.tmod ((rd_T25 l0 x7_2).f1) 1125899906842624))) (fun _ hk => ⟨hk.1.2, hk.1.1⟩)) hg hat); have n1_ := Aside0.mk (blk_grown (g := gb205) (o := .cells #[.int .i64 ((rd_T25 l0 x7_2).f0), .int .i64 (Int.tmod ((rd_T25 l0 x7_2).f1) 1125899906842624), .int .i64 ((rd_T25 l0 x7_2).f2), .int .i64 ((rd_T25 l0 x7_2).f3), .int .i64 ((rd_T25 l0 x7_2).f4), .bool ((rd_T25 l0 x7_2).f5), .bool ((rd_T25 l0 x7_2).f6)] 25 (0, 0)) (by (with_reducible repeat (first | refine blk_drewN ?_ _ | refine blk_drew ?_ | refine blk_alloc ?_ _)); refine blk_put (cs := #[.int .i64 ((rd_T25 l0 x7_2).f0), .int .i64 ((rd_T25 l0 x7_2).f1), .int .i64 ((rd_T25 l0 x7_2).f2), .int .i64 ((rd_T25 l0 x7_2).f3), .int .i64 ((rd_T25 l0 x7_2).f4), .bool ((rd_T25 l0 x7_2).f5), .bool ((rd_T25 l0 x7_2).f6)]) ?_ 1 _ rfl; (with_reducible repeat (first | refine blk_drewN ?_ _ | refine blk_drew ?_ | refine blk_alloc ?_ _)); exact BK205.out) hg (Kd.R_away HO_5.out (fun _ hk => hk.2))); have n2_ := Aside0.mk (hb); have n3_ := Aside0.mk (ho); clear HO_6; clear BK205; clear HB; clear HO_5; have HO_6 := n0_; have BK205 := n1_; have HB := n2_; have HO208 := n3_; clear n0_ n1_ n2_ n3_; clear ho hb hg hat; have hcz19_0 : w18.cell? ⟨gb205, 0, none⟩ = some (.int .i64 ((rd_T25 l0 x7_2).f0)) := (blk_cell BK205.out 0).trans rfl; have hcz19_1 : w18.cell? ⟨gb205, 1, none⟩ = some (.int .i64 (Int.tmod ((rd_T25 l0 x7_2).f1) 1125899906842624)) := (blk_cell BK205.out 1).trans rfl; have hcz19_2 : w18.cell? ⟨gb205, 2, none⟩ = some (.int .i64 ((rd_T25 l0 x7_2).f2)) := (blk_cell BK205.out 2).trans rfl; have hcz19_3 : w18.cell? ⟨gb205, 3, none⟩ = some (.int .i64 ((rd_T25 l0 x7_2).f3)) := (blk_cell BK205.out 3).trans rfl; have hcz19_4 : w18.cell? ⟨gb205, 4, none⟩ = some (.int .i64 ((rd_T25 l0 x7_2).f4)) := (blk_cell BK205.out 4).trans rfl; have hcz19_5 : w18.cell? ⟨gb205, 5, none⟩ = some (.bool ((rd_T25 l0 x7_2).f5)) := (blk_cell BK205.out 5).trans rfl; have hcz19_6 : w18.cell? ⟨gb205, 6, none⟩ = some (.bool ((rd_T25 l0 x7_2).f6)) := (blk_cell BK205.out 6).trans rfl; have hfz19_0 := blk_frozen BK205.out 0; have hfz19_1 := blk_frozen BK205.out 1; have hfz19_2 := blk_frozen BK205.out 2; have hfz19_3 := blk_frozen BK205.out 3; have hfz19_4 := blk_frozen BK205.out 4; have hfz19_5 := blk_frozen BK205.out 5; have hfz19_6 := blk_frozen BK205.out 6) | ((with_reducible refine gate_builtin (b := .append) (xs := #[.tmp 47, .tmp 49]) rfl ?_); (try (refine gate_guard (by rfl) ?_; dsimp only)); at_builtin; refine Kd.R_append k25 (w0 := w) w.heap.size rfl (.tmp 47) (.tmp 49) 22 25 (.agg #[(.int .i64 0), (.int .i64 0), (.int .i64 0), (.int .i64 0), (.int .i64 0), (.bool false), (.bool false)]) 48 rfl Try.underlying22 info25 rfl (by decide) (by omega) u6 x6_2 (⟨(rd_T25 l0 x7_2).f0, wrap64 ((Int.tmod ((rd_T25 l0 x7_2).f1) 1125899906842624) + (wrap64 (a1))), (rd_T25 l0 x7_2).f2, (rd_T25 l0 x7_2).f3, (rd_T25 l0 x7_2).f4, (rd_T25 l0 x7_2).f5, (rd_T25 l0 x7_2).f6⟩ : S25) [.int .i64 ((rd_T25 l0 x7_2).f0), .int .i64 (wrap64 ((Int.tmod ((rd_T25 l0 x7_2).f1) 1125899906842624) + (wrap64 (a1)))), .int .i64 ((rd_T25 l0 x7_2).f2), .int .i64 ((rd_T25 l0 x7_2).f3), .int .i64 ((rd_T25 l0 x7_2).f4), .bool ((rd_T25 l0 x7_2).f5), .bool ((rd_T25 l0 x7_2).f6)] (fun k_ => some k_ ≠ (v207 : Value).ownBlock ∧ k_ ≠ gb205) (fun _ => False) rfl (by first | (go_simp; done) | (go_simp; rfl)) ?aP (fun _ hk => hk.elim) ?aF ?aO ?aB ?aS ?aL ?_; (case aP => exact k25_mkM _ _ _ (⟨(rd_T25 l0 x7_2).f0, wrap64 ((Int.tmod ((rd_T25 l0 x7_2).f1) 1125899906842624) + (wrap64 (a1))), (rd_T25 l0 x7_2).f2, (rd_T25 l0 x7_2).f3, (rd_T25 l0 x7_2).f4, (rd_T25 l0 x7_2).f5, (rd_T25 l0 x7_2).f6⟩ : S25)); (case aB => exact (by repeat (first | (with_reducible first | exact HB.out | apply below_alloc | apply pw_below_drewN | apply below_drew1 | refine below_set ?_ GE205.out) | exact HB.out))); (case aF => exact (fun k_ hk => ⟨Kd.fresh' (Kd.R_lt (by (with_reducible repeat (first | apply Kd.R_alloc | apply Kd.R_drewN | apply Kd.R_drew)); exact (Kd.R_mono (Kd.R_far (p := ⟨gb205, 1, none⟩) (Kd.R_mono HO208.out (fun k_ hk => (⟨hk, hk.2⟩ : _ ∧ k_ ≠ gb205))) (fun _ hk => hk.2) (.int .i64 (wrap64 ((Int.tmod ((rd_T25 l0 x7_2).f1) 1125899906842624) + (wrap64 (a1)))))) (fun _ h_ => h_.1)))) k_ hk, Kd.freshB (g := gb205) (o := .cells #[.int .i64 ((rd_T25 l0 x7_2).f0), .int .i64 (wrap64 ((Int.tmod ((rd_T25 l0 x7_2).f1) 1125899906842624) + (wrap64 (a1)))), .int .i64 ((rd_T25 l0 x7_2).f2), .int .i64 ((rd_T25 l0 x7_2).f3), .int .i64 ((rd_T25 l0 x7_2).f4), .bool ((rd_T25 l0 x7_2).f5), .bool ((rd_T25 l0 x7_2).f6)] 25 (0, 0)) (by (with_reducible repeat (first | refine blk_drewN ?_ _ | refine blk_drew ?_ | refine blk_alloc ?_ _)); refine blk_put (cs := #[.int .i64 ((rd_T25 l0 x7_2).f0), .int .i64 (Int.tmod ((rd_T25 l0 x7_2).f1) 1125899906842624), .int .i64 ((rd_T25 l0 x7_2).f2), .int .i64 ((rd_T25 l0 x7_2).f3), .int .i64 ((rd_T25 l0 x7_2).f4), .bool ((rd_T25 l0 x7_2).f5), .bool ((rd_T25 l0 x7_2).f6)]) ?_ 1 _ rfl; (with_reducible repeat (first | refine blk_drewN ?_ _ | refine blk_drew ?_ | refine blk_alloc ?_ _)); exact BK205.out) k_ hk⟩)); (case aO => exact (by (with_reducible repeat (first | apply Kd.R_alloc | apply Kd.R_drewN | apply Kd.R_drew)); exact Kd.R_mono (Kd.R_far (p := ⟨gb205, 1, none⟩) (Kd.R_mono HO_6.out (fun k_ hk => (⟨hk, hk.1⟩ : _ ∧ k_ ≠ gb205))) (fun _ hk => hk.2) (.int .i64 (wrap64 ((Int.tmod ((rd_T25 l0 x7_2).f1) 1125899906842624) + (wrap64 (a1)))))) (fun _ hk => ⟨hk.1.2, hk.1.1⟩))); (case aS => exact (below_size (by repeat (first | (with_reducible first | exact HB.out | apply below_alloc | apply pw_below_drewN | apply below_drew1 | refine below_set ?_ GE205.out) | exact HB.out)))); (case aL => have := LMc13.out; omega); intro v210 w20 ho hb hg hat; rw [← Ny209.out] at ho; have n0_ := Aside0.mk (blk_grown (g := gb205) (o := .cells #[.int .i64 ((rd_T25 l0 x7_2).f0), .int .i64 (wrap64 ((Int.tmod ((rd_T25 l0 x7_2).f1) 1125899906842624) + (wrap64 (a1)))), .int .i64 ((rd_T25 l0 x7_2).f2), .int .i64 ((rd_T25 l0 x7_2).f3), .int .i64 ((rd_T25 l0 x7_2).f4), .bool ((rd_T25 l0 x7_2).f5), .bool ((rd_T25 l0 x7_2).f6)] 25 (0, 0)) (by (with_reducible repeat (first | refine blk_drewN ?_ _ | refine blk_drew ?_ | refine blk_alloc ?_ _)); refine blk_put (cs := #[.int .i64 ((rd_T25 l0 x7_2).f0), .int .i64 (Int.tmod ((rd_T25 l0 x7_2).f1) 1125899906842624), .int .i64 ((rd_T25 l0 x7_2).f2), .int .i64 ((rd_T25 l0 x7_2).f3), .int .i64 ((rd_T25 l0 x7_2).f4), .bool ((rd_T25 l0 x7_2).f5), .bool ((rd_T25 l0 x7_2).f6)]) ?_ 1 _ rfl; (with_reducible repeat (first | refine blk_drewN ?_ _ | refine blk_drew ?_ | refine blk_alloc ?_ _)); exact BK205.out) hg (Kd.R_away HO_6.out (fun _ hk => hk.1))); have n1_ := Aside0.mk (Kd.R_after (ok := (fun k_ => k_ ≠ gb205)) (by (with_reducible repeat (first | apply Kd.R_alloc | apply Kd.R_drewN | apply Kd.R_drew)); exact Kd.R_mono (Kd.R_far (p := ⟨gb205, 1, none⟩) (Kd.R_mono HO208.out (fun k_ hk => (⟨hk, hk.2⟩ : _ ∧ k_ ≠ gb205))) (fun _ hk => hk.2) (.int .i64 (wrap64 ((Int.tmod ((rd_T25 l0 x7_2).f1) 1125899906842624) + (wrap64 (a1)))))) (fun _ hk => ⟨hk.1.2, hk.1.1⟩)) hg hat); have n2_ := Aside0.mk (hb); have n3_ := Aside0.mk (ho); clear BK205; clear HO208; clear HB; clear HO_6; have BK205 := n0_; have HO208 := n1_; have HB := n2_; have HO211 := n3_; clear n0_ n1_ n2_ n3_; clear ho hb hg hat))
          go_roundg k2
          case measure => have := HJ2.out; have := HK2.out; omega
          case rel => exact ⟨(y206), (y209), (wrap64 (x7_2 + 1)), (by first | rfl | (simp; done) | (simp [*]; done)), H', ⟨by have := HJ2.out; have := HK2.out; omega⟩, ⟨by (with_reducible repeat (first | apply Kd.R_alloc | apply Kd.R_drewN | apply Kd.R_drew)); exact Kd.R_mono HO208.out (fun _ hk => hk.2)⟩, ⟨by (with_reducible repeat (first | apply Kd.R_alloc | apply Kd.R_drewN | apply Kd.R_drew)); exact Kd.R_mono HO211.out (fun _ hk => hk.1)⟩, ⟨by repeat (first | (with_reducible first | exact HB.out | apply below_alloc | apply pw_below_drewN | apply below_drew1 | refine below_set ?_ GE205.out) | exact HB.out)⟩⟩
         ·rw [if_neg c13] at H
          exact absurd H (by simp)
        ·rw [if_neg c12] at H
         exact absurd H (by simp)
       ·rw [if_neg c11] at H
        exact absurd H (by simp)
      ·rw [if_neg c10] at H
       have c10b0 : decide (x7_2 < (l0.length : Int)) = false := decide_eq_false c10
       clear c10
       replace H := Option.bind_eq_some_iff.mp H
       obtain ⟨⟨t212, t213⟩, A210, H⟩ := H
       replace H : ((cluster_Combine.f k2 x6_2).bind fun bt214 => (if (wrap64 (bt214.1 - t212)) = (wrap64 (a1)) then (some (t213 == bt214.2)) else (some false))) = some r := H
       have A21 := Aside0.mk A210
       clear A210
       replace H := Option.bind_eq_some_iff.mp H
       obtain ⟨⟨t214, t215⟩, A220, H⟩ := H
       replace H : (if (wrap64 (t214 - t212)) = (wrap64 (a1)) then (some (t213 == t215)) else (some false)) = some r := H
       have A22 := Aside0.mk A220
       clear A220
       by_cases c23 : (wrap64 (t214 - t212)) = (wrap64 (a1))
       ·rw [if_pos c23] at H
        have c23b0 : ((wrap64 (t214 - t212)) == (wrap64 (a1))) = true := beq_iff_eq.mpr c23
        have c23b1 : ((wrap64 (t214 - t212)) != (wrap64 (a1))) = false := bne_eq_false_iff_eq.mpr c23
        clear c23
        clear hrt_
        obtain rfl := Option.some.inj H
        obtain ⟨Ao24, co24, eo24⟩ := Kd.R_slice HO_5.out
        subst eo24
        go_wp2_with (first | ((with_reducible refine gate_callee (f := 9) rfl ?_); refine goesL_ (some 53) rfl rfl Try.func9 (by kernel_rfl) rfl #[.slice Ao24 x5_2.length co24] rfl (by (try simp only [List.map_toArray, List.map_cons, List.map_nil]); first | done | rfl | (simp only [List.length_drop, List.length_take]; rfl)) ?_; (with_reducible refine (cluster_Combine.calls k2 _ _ x5_2 t212 t213 _ ?side1 ?side2 A21.out).mono ?_); (case side1 => repeat (first | exact (Kd.R_reads' HO_5.out).2.2 | (with_reducible refine Kd.C_alloc ?_ _) | (with_reducible refine Kd.C_drewN ?_ _) | (with_reducible refine Kd.C_drew ?_))); (case side2 => exact (Kd.R_reads' HO_5.out).2.1); rintro e w25 ⟨rfl, hb⟩; refine ⟨_, rfl, ?_⟩; have n0_ := Aside0.mk (Kd.R_below (by (with_reducible repeat (first | apply Kd.R_alloc | apply Kd.R_drewN | apply Kd.R_drew)); exact HO_5.out) hb); have n1_ := Aside0.mk (Kd.R_below (by (with_reducible repeat (first | apply Kd.R_alloc | apply Kd.R_drewN | apply Kd.R_drew)); exact HO_6.out) hb); have n2_ := Aside0.mk (below_step (by repeat (first | (with_reducible first | exact HB.out | apply below_alloc | apply pw_below_drewN | apply below_drew1) | exact HB.out)) hb); clear HO_5; clear HO_6; clear HB; have HO_5 := n0_; have HO_6 := n1_; have HB := n2_; clear n0_ n1_ n2_; (try clear hb); (try clear hb2); (try clear hk); (try clear hi); obtain ⟨Ao26, co26, eo26⟩ := Kd.R_slice HO_6.out; subst eo26) | ((with_reducible refine gate_callee (f := 9) rfl ?_); refine goesL_ (some 58) rfl rfl Try.func9 (by kernel_rfl) rfl #[.slice Ao26 x6_2.length co26] rfl (by (try simp only [List.map_toArray, List.map_cons, List.map_nil]); first | done | rfl | (simp only [List.length_drop, List.length_take]; rfl)) ?_; (with_reducible refine (cluster_Combine.calls k2 _ _ x6_2 t214 t215 _ ?side1 ?side2 A22.out).mono ?_); (case side1 => repeat (first | exact (Kd.R_reads' HO_6.out).2.2 | (with_reducible refine Kd.C_alloc ?_ _) | (with_reducible refine Kd.C_drewN ?_ _) | (with_reducible refine Kd.C_drew ?_))); (case side2 => exact (Kd.R_reads' HO_6.out).2.1); rintro e w27 ⟨rfl, hb⟩; refine ⟨_, rfl, ?_⟩; have n0_ := Aside0.mk (Kd.R_below (by (with_reducible repeat (first | apply Kd.R_alloc | apply Kd.R_drewN | apply Kd.R_drew)); exact HO_5.out) hb); have n1_ := Aside0.mk (Kd.R_below (by (with_reducible repeat (first | apply Kd.R_alloc | apply Kd.R_drewN | apply Kd.R_drew)); exact HO_6.out) hb); have n2_ := Aside0.mk (below_step (by repeat (first | (with_reducible first | exact HB.out | apply below_alloc | apply pw_below_drewN | apply below_drew1) | exact HB.out)) hb); clear HO_5; clear HO_6; clear HB; have HO_5 := n0_; have HO_6 := n1_; have HB := n2_; clear n0_ n1_ n2_; (try clear hb); (try clear hb2); (try clear hk); (try clear hi)))
        go_ret
        exact ⟨by first | rfl | (simp [errW_none, errW_some] <;> rfl) | (simp [*, errW_none, errW_some] <;> rfl), by repeat (first | (with_reducible first | exact HB.out | apply below_alloc | apply pw_below_drewN | apply below_drew1) | exact HB.out)⟩
       ·rw [if_neg c23] at H
        have c23b0 : ((wrap64 (t214 - t212)) == (wrap64 (a1))) = false := beq_eq_false_iff_ne.mpr c23
        have c23b1 : ((wrap64 (t214 - t212)) != (wrap64 (a1))) = true := bne_iff_ne.mpr c23
        exact absurd ((Option.some.inj H).trans hrt_) Bool.false_ne_true
def okS25 (x : S25) : Prop := ((Lit.int .i64 x.f0).wf = true) ∧ ((Lit.int .i64 x.f1).wf = true) ∧ ((Lit.int .i64 x.f2).wf = true) ∧ ((Lit.int .i64 x.f3).wf = true) ∧ ((Lit.int .i64 x.f4).wf = true)
def foliotlaw14_ClusterShifted.Pure : Prop := ∀ (l0 : List (S25)) (a1 : Int), l0.length ≤ maxLen → l0.length * 48 ≤ 140737488351232 → (∀ y_l0 ∈ l0, okS25 y_l0) → (Lit.int .i32 a1).wf = true → ∃ k, foliotlaw14_ClusterShifted.f k l0 a1 = some true
end Go.Proofs.Ytigcmpmpjmbfkaa.PClusterShifted
