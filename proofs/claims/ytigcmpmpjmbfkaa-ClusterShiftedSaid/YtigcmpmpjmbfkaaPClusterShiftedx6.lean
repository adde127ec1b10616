-- Written by a program (extend_print.py). Not trusted: Lean checks it.
import Derived.Test.YtigcmpmpjmbfkaaPClusterShiftedx0
import Derived.Test.YtigcmpmpjmbfkaaPClusterShiftedx2
import Derived.Test.YtigcmpmpjmbfkaaPClusterShiftedx4
import Derived.Test.YtigcmpmpjmbfkaaPClusterShiftedx5
namespace Go.Proofs.Ytigcmpmpjmbfkaa.PClusterShifted
open Go.RowKit Go.Proofs.YtigcmpmpjmbfkaaW.PrintWords Go.Proofs.YtigcmpmpjmbfkaaW.PrintLast Go.Proofs.YtigcmpmpjmbfkaaW.PrintMore
attribute [local go_sem] max2_int min2_int max_two min_two max_three min_three max_four min_four
set_option linter.unusedVariables false
set_option maxHeartbeats 8000000
set_option maxRecDepth 100000
set_option linter.unusedSimpArgs false
mutual
def cluster_Combine.l0 : Nat → List (S25) → Int → List (S25) → Int → Int → Option (Int × Int)
 | 0, _, _, _, _, _ => none
 | k + 1, x0, x4, x19, x20, x21 => if x21 < x20 then (if 0 ≤ x21 then (if x21 < (x19.length : Int) then ((cluster_weight.f k ((rd_T25 x19 x21).f0) ((rd_T25 x19 x21).f1) ((rd_T25 x19 x21).f2) ((rd_T25 x19 x21).f3) ((rd_T25 x19 x21).f4) ((rd_T25 x19 x21).f5) ((rd_T25 x19 x21).f6)).bind fun t184 => (cluster_Combine.l0 k x0 (wrap64 (x4 + t184)) x19 x20 (wrap64 (x21 + 1)))) else (none)) else (none)) else (if 0 < (x0.length : Int) then (if 1 ≤ (x0.length : Int) then ((some (x0.drop 1 : List (S25))).bind fun y187 => (cluster_Combine.l1 k x0 x4 ((rd_T25 x0 0).f1) y187 (y187.length : Int) 0 ((rd_T25 x0 0).f0) ((rd_T25 x0 0).f1) ((rd_T25 x0 0).f2) ((rd_T25 x0 0).f3) ((rd_T25 x0 0).f4) ((rd_T25 x0 0).f5) ((rd_T25 x0 0).f6))) else (none)) else (none))
def cluster_Combine.l1 : Nat → List (S25) → Int → Int → List (S25) → Int → Int → Int → Int → Int → Int → Int → Bool → Bool → Option (Int × Int)
 | 0, _, _, _, _, _, _, _, _, _, _, _, _, _ => none
 | k + 1, x0, x4, x8, x36, x37, x38, x187000, x187001, x187002, x187003, x187004, x187005, x187006 => if x38 < x37 then (if 0 ≤ x38 then (if x38 < (x36.length : Int) then ((fixed_Sub.f k ((rd_T25 x36 x38).f1) x187001).bind fun t194 => ((cluster_weight.f k ((rd_T25 x36 x38).f0) ((rd_T25 x36 x38).f1) ((rd_T25 x36 x38).f2) ((rd_T25 x36 x38).f3) ((rd_T25 x36 x38).f4) ((rd_T25 x36 x38).f5) ((rd_T25 x36 x38).f6)).bind fun t195 => ((fixed_Scale.f k t194 t195 x4).bind fun t196 => ((fixed_Add.f k x8 t196).bind fun t197 => (cluster_Combine.l1 k x0 x4 t197 x36 x37 (wrap64 (x38 + 1)) x187000 x187001 x187002 x187003 x187004 x187005 x187006))))) else (none)) else (none)) else ((cluster_apart.f k x0 0).bind fun t191 => (some (x8, mx x187003 t191)))
end
def cluster_Combine.f (k : Nat) (l0 : List (S25)) : Option (Int × Int) := if (l0.length : Int) = 0 then (some (0, 0)) else (if 0 ≤ (mn (l0.length : Int) 16) then (if (mn (l0.length : Int) 16) ≤ (l0.length : Int) then ((some (l0.take ((mn (l0.length : Int) 16) : Int).toNat : List (S25))).bind fun y178 => (cluster_Combine.l0 k y178 0 y178 (y178.length : Int) 0)) else (none)) else (none))
theorem cluster_Combine.mono_l : ∀ k, (∀ y0 y1 y2 y3 y4, LeO (cluster_Combine.l0 k y0 y1 y2 y3 y4) (cluster_Combine.l0 (k + 1) y0 y1 y2 y3 y4)) ∧ (∀ y0 y1 y2 y3 y4 y5 y6 y7 y8 y9 y10 y11 y12, LeO (cluster_Combine.l1 k y0 y1 y2 y3 y4 y5 y6 y7 y8 y9 y10 y11 y12) (cluster_Combine.l1 (k + 1) y0 y1 y2 y3 y4 y5 y6 y7 y8 y9 y10 y11 y12))
 | 0 => ⟨fun _ _ _ _ _ r h => by simp [cluster_Combine.l0] at h, fun _ _ _ _ _ _ _ _ _ _ _ _ _ r h => by simp [cluster_Combine.l1] at h⟩
 | k + 1 => by
  obtain ⟨ih0, ih1⟩ := cluster_Combine.mono_l k
  refine ⟨?_, ?_⟩
  ·intro y0 y1 y2 y3 y4
   unfold cluster_Combine.l0
   repeat' first
   | (with_reducible exact ih0 _ _ _ _ _)
   | (with_reducible exact ih1 _ _ _ _ _ _ _ _ _ _ _ _ _)
   | (with_reducible exact cluster_apart.mono _ _ _)
   | (with_reducible exact cluster_weight.mono _ _ _ _ _ _ _ _)
   | (with_reducible exact fixed_Add.mono _ _ _)
   | (with_reducible exact fixed_Scale.mono _ _ _ _)
   | (with_reducible exact fixed_Sub.mono _ _ _)
   | (with_reducible exact LeO.refl _)
   | (with_reducible exact LeO.none _)
   | (with_reducible refine LeO.ite ?_ ?_)
   | (with_reducible refine LeO.bind ?_ (fun _ => ?_))
   | exact ih0 _ _ _ _ _
   | exact ih1 _ _ _ _ _ _ _ _ _ _ _ _ _
   | exact cluster_apart.mono _ _ _
   | exact cluster_weight.mono _ _ _ _ _ _ _ _
   | exact fixed_Add.mono _ _ _
   | exact fixed_Scale.mono _ _ _ _
   | exact fixed_Sub.mono _ _ _
   | exact LeO.none _
   | refine LeO.ite ?_ ?_
   | refine LeO.bind ?_ (fun _ => ?_)
  ·intro y0 y1 y2 y3 y4 y5 y6 y7 y8 y9 y10 y11 y12
   unfold cluster_Combine.l1
   repeat' first
   | (with_reducible exact ih0 _ _ _ _ _)
   | (with_reducible exact ih1 _ _ _ _ _ _ _ _ _ _ _ _ _)
   | (with_reducible exact cluster_apart.mono _ _ _)
   | (with_reducible exact cluster_weight.mono _ _ _ _ _ _ _ _)
   | (with_reducible exact fixed_Add.mono _ _ _)
   | (with_reducible exact fixed_Scale.mono _ _ _ _)
   | (with_reducible exact fixed_Sub.mono _ _ _)
   | (with_reducible exact LeO.refl _)
   | (with_reducible exact LeO.none _)
   | (with_reducible refine LeO.ite ?_ ?_)
   | (with_reducible refine LeO.bind ?_ (fun _ => ?_))
   | exact ih0 _ _ _ _ _
   | exact ih1 _ _ _ _ _ _ _ _ _ _ _ _ _
   | exact cluster_apart.mono _ _ _
   | exact cluster_weight.mono _ _ _ _ _ _ _ _
   | exact fixed_Add.mono _ _ _
   | exact fixed_Scale.mono _ _ _ _
   | exact fixed_Sub.mono _ _ _
   | exact LeO.none _
   | refine LeO.ite ?_ ?_
   | refine LeO.bind ?_ (fun _ => ?_)
theorem cluster_Combine.mono : ∀ a0 k, LeO (cluster_Combine.f k a0) (cluster_Combine.f (k + 1) a0) := by
 intro a0 k
 obtain ⟨ih0, ih1⟩ := cluster_Combine.mono_l k
 unfold cluster_Combine.f
 repeat' first
   | (with_reducible exact ih0 _ _ _ _ _)
   | (with_reducible exact ih1 _ _ _ _ _ _ _ _ _ _ _ _ _)
   | (with_reducible exact cluster_apart.mono _ _ _)
   | (with_reducible exact cluster_weight.mono _ _ _ _ _ _ _ _)
   | (with_reducible exact fixed_Add.mono _ _ _)
   | (with_reducible exact fixed_Scale.mono _ _ _ _)
   | (with_reducible exact fixed_Sub.mono _ _ _)
   | (with_reducible exact LeO.refl _)
   | (with_reducible exact LeO.none _)
   | (with_reducible refine LeO.ite ?_ ?_)
   | (with_reducible refine LeO.bind ?_ (fun _ => ?_))
   | exact ih0 _ _ _ _ _
   | exact ih1 _ _ _ _ _ _ _ _ _ _ _ _ _
   | exact cluster_apart.mono _ _ _
   | exact cluster_weight.mono _ _ _ _ _ _ _ _
   | exact fixed_Add.mono _ _ _
   | exact fixed_Scale.mono _ _ _ _
   | exact fixed_Sub.mono _ _ _
   | exact LeO.none _
   | refine LeO.ite ?_ ?_
   | refine LeO.bind ?_ (fun _ => ?_)
def cluster_Combine.T15 : Bool × List (List Nat × List Nat) := (true, [([], []), ([], []), ([1], [1]), ([], []), ([3], [3]), ([2, 4], [2, 4]), ([], []), ([6, 5], [6]), ([], []), ([5, 7, 8, 7], [5, 7, 8]), ([0, 9, 9], [0, 9]), ([10, 10, 0, 1, 2, 3, 4, 5, 6, 7, 8, 9, 10], [0, 10])])
def cluster_Combine.B15 : List Nat := [0, 0, 2, 0, 8, 30, 0, 126, 0, 510, 1023, 2047]
theorem cluster_Combine.tab15 : rtab .any (opsOf Try.f9 15) = cluster_Combine.T15 := by kernel_rfl
theorem cluster_Combine.bits15 : waitsOk cluster_Combine.T15.2 cluster_Combine.B15 = true := by kernel_rfl
def cluster_Combine.T17 : Bool × List (List Nat × List Nat) := (true, [([], []), ([], []), ([1], [1]), ([], []), ([3], [3]), ([2, 4], [2, 4]), ([0, 4, 0], [0]), ([5, 6, 0, 1, 2, 3, 4, 5, 6], [5])])
def cluster_Combine.B17 : List Nat := [0, 0, 2, 0, 8, 30, 25, 127]
theorem cluster_Combine.tab17 : rtab .any (opsOf Try.f9 17) = cluster_Combine.T17 := by kernel_rfl
theorem cluster_Combine.bits17 : waitsOk cluster_Combine.T17.2 cluster_Combine.B17 = true := by kernel_rfl
theorem cluster_Combine.calls (k : Nat) (A0 : Option Addr) (c0 : Nat) (l0 : List (S25)) (r1 : Int) (r2 : Int) (w : World) (hr0 : Kd.C k25 w A0 l0.length l0) (hc0 : l0.length ≤ c0) (h : cluster_Combine.f k l0 = some (r1, r2)) :
  Calls Try.prog 9 #[.slice A0 l0.length c0] w fun e w' => e = .returned (.tuple #[.int .i64 r1, .int .i64 r2]) ∧ Below w.heap.size w w' := by
 have hu25 := Try.underlying25
 have HR0 := Aside0.mk hr0
 have HC0 := Aside0.mk hc0
 clear hr0 hc0
 have HB := Aside0.mk (Below.refl w.heap.size w)
 have H : (if (l0.length : Int) = 0 then (some (0, 0)) else (if 0 ≤ (mn (l0.length : Int) 16) then (if (mn (l0.length : Int) 16) ≤ (l0.length : Int) then ((some (l0.take ((mn (l0.length : Int) 16) : Int).toNat : List (S25))).bind fun y178 => (cluster_Combine.l0 k y178 0 y178 (y178.length : Int) 0)) else (none)) else (none))) = some (r1, r2) := h
 clear h
 by_cases c2 : (l0.length : Int) = 0
 ·rw [if_pos c2] at H
  have c2b0 : ((l0.length : Int) == 0) = true := beq_iff_eq.mpr c2
  have c2b1 : ((l0.length : Int) != 0) = false := bne_eq_false_iff_eq.mpr c2
  clear c2
  simp only [Option.some.injEq, Prod.mk.injEq] at H
  obtain ⟨rfl, rfl⟩ := H
  go_enter Try.func9, Try.ntmps9
  go_wp2
  go_ret2
  exact ⟨by first | rfl | (simp [errW_none, errW_some] <;> rfl) | (simp [*, errW_none, errW_some] <;> rfl), by repeat (first | (with_reducible first | exact HB.out | apply below_alloc | apply pw_below_drewN | apply below_drew1) | exact HB.out)⟩
 ·rw [if_neg c2] at H
  have c2b0 : ((l0.length : Int) == 0) = false := beq_eq_false_iff_ne.mpr c2
  have c2b1 : ((l0.length : Int) != 0) = true := bne_iff_ne.mpr c2
  have c2b2 : ¬ (l0 = []) := fun h_ => c2 (by rw [h_]; rfl)
  obtain ⟨ji3, hji3⟩ : ∃ j_ : Int, (mn (l0.length : Int) 16) = j_ := ⟨_, rfl⟩
  replace H : (if 0 ≤ (ji3) then (if (ji3) ≤ (l0.length : Int) then ((some (l0.take ((ji3) : Int).toNat : List (S25))).bind fun y178 => (cluster_Combine.l0 k y178 0 y178 (y178.length : Int) 0)) else (none)) else (none)) = some (r1, r2) := by first | (rw [hji3] at H; exact H) | (simp only [hji3] at H ⊢; exact H)
  (try (have hji3h : ji3 ≤ 16 := by (rw [← hji3]; unfold mn; (repeat' split) <;> omega)))
  (try (have hji3g : ji3 ≤ 64 := by omega))
  (try (have hji3l : 0 ≤ ji3 := by (rw [← hji3]; unfold mn; (repeat' split) <;> omega)))
  (try (have hji3m : 0 ≤ ji3 := by omega))
  have hji3_ : (if 16 < (l0.length : Int) then 16 else (l0.length : Int)) = ji3 := hji3
  by_cases c4 : 0 ≤ (ji3)
  ·rw [if_pos c4] at H
   have c4b0 := eq_true c4
   have c4b1 : decide (0 ≤ (ji3)) = true := decide_eq_true c4
   clear c4
   by_cases c5 : (ji3) ≤ (l0.length : Int)
   ·rw [if_pos c5] at H
    have c5b0 := eq_true c5
    have c5b1 : decide ((ji3) ≤ (l0.length : Int)) = true := decide_eq_true c5
    clear c5
    obtain ⟨y178, hy178⟩ : ∃ y_ : List (S25), y_ = (l0.take ((ji3) : Int).toNat) := ⟨_, rfl⟩
    replace H : (cluster_Combine.l0 k y178 0 y178 (y178.length : Int) 0) = some (r1, r2) := by first | (rw [hy178]; with_reducible exact H) | (have H2_ := (Option.bind_some _ _).symm.trans H; rw [hy178]; with_reducible exact H2_) | (have H2_ := (Option.bind_some _ _).symm.trans H; with_reducible exact H2_) | with_reducible exact H | (rw [hy178]; exact H) | exact H
    have Ny178 := Aside0.mk hy178
    clear hy178
    have H' := Aside0.mk H
    clear H
    have q6 : ((ji3) : Int) ≤ ((l0.length : Int) : Int) := of_decide_eq_true (by first | (with_reducible assumption) | assumption)
    obtain ⟨i06, hi06, _, hsz6, _⟩ := info_parts info25
    have hroom6 : l0.length ≤ c0 := HC0.out
    have hC6 : Kd.C k25 _ A0 l0.length l0 := HR0.out
    have hcut6 := cut_to (P := Try.prog) 22 25 .i64 Try.underlying22 hi06 A0 l0.length c0 (ji3) (of_decide_eq_true (by first | (with_reducible assumption) | assumption)) q6 hroom6
    have hr6 := Kd.C_take (m := ((ji3) : Int).toNat) hC6 (by omega)
    have hy6 : y178.length = ((ji3) : Int).toNat := (by rw [Ny178.out, List.length_take]; omega)
    rw [← Ny178.out] at hr6
    rw [← hy6] at hcut6
    have HR181 := Aside0.mk hr6
    have HC181 := Aside0.mk (show y178.length ≤ c0 from by omega)
    clear hr6 hC6 hroom6 hi06 hsz6
    have KY6 := Aside0.mk hy6
    clear hy6
    replace q6 := eq_true q6
    go_enter Try.func9, Try.ntmps9
    go_wp2
    go_loopg [4, 21] k (fun kq v4 v21 w' => ∃ (x4_1 : Int) (x21_1 : Int), v4 = .int .i64 x4_1 ∧ v21 = .int .i64 x21_1 ∧ Aside0 (cluster_Combine.l0 kq y178 x4_1 y178 (y178.length : Int) x21_1 = some (r1, r2)) ∧ Aside0 (kq ≤ k) ∧ Aside0 (Below w.heap.size w w'))
    case atStart => exact ⟨(0), (0), (by first | rfl | (simp; done) | (simp [*]; done)), (by first | rfl | (simp; done) | (simp [*]; done)), H', ⟨Nat.le_refl _⟩, ⟨by repeat (first | (with_reducible first | exact HB.out | apply below_alloc | apply pw_below_drewN | apply below_drew1) | exact HB.out)⟩⟩
    case round =>
     clear H'
     try clear c2
     try clear c2b0
     try clear c2b1
     try clear c2b2
     try clear p2
     try clear c4
     try clear c4b0
     try clear c4b1
     try clear c5
     try clear c5b0
     try clear c5b1
     try clear q6
     try clear q6
     obtain ⟨x4_1, x21_1, rfl, rfl, HA, HK1, HB⟩ := hrel
     cases gk with
     | zero => exact absurd HA.out (by simp [cluster_Combine.l0])
     | succ k1 =>
      have H := HA.out
      clear HA
      simp only [cluster_Combine.l0] at H
      by_cases c7 : x21_1 < (y178.length : Int)
      ·rw [if_pos c7] at H
       have c7b0 : decide (x21_1 < (y178.length : Int)) = true := decide_eq_true c7
       clear c7
       by_cases c8 : 0 ≤ x21_1
       ·rw [if_pos c8] at H
        have c8b0 : decide (0 ≤ x21_1) = true := decide_eq_true c8
        clear c8
        by_cases c9 : x21_1 < (y178.length : Int)
        ·rw [if_pos c9] at H
         have c9b0 : decide (x21_1 < (y178.length : Int)) = true := decide_eq_true c9
         clear c9
         replace H := Option.bind_eq_some_iff.mp H
         obtain ⟨t184, A100, H⟩ := H
         replace H : (cluster_Combine.l0 k1 y178 (wrap64 (x4_1 + t184)) y178 (y178.length : Int) (wrap64 (x21_1 + 1))) = some (r1, r2) := H
         have A10 := Aside0.mk A100
         clear A100
         have H' := Aside0.mk H
         clear H
         have p182 : 0 ≤ (x21_1 : Int) := of_decide_eq_true (by first | (with_reducible assumption) | assumption)
         have q182 : x21_1 < (y178.length : Int) := of_decide_eq_true (by first | (with_reducible assumption) | assumption)
         obtain ⟨ad182, e182, hx182_0, hx182_1, hx182_2, hx182_3, hx182_4, hx182_5, hx182_6⟩ := at_T25 HR181.out x21_1 p182 q182
         cases e182
         replace hx182_0 := (HB.out.cell (World.block_lt_of_cell? w _ hx182_0)).trans hx182_0
         replace hx182_1 := (HB.out.cell (World.block_lt_of_cell? w _ hx182_1)).trans hx182_1
         replace hx182_2 := (HB.out.cell (World.block_lt_of_cell? w _ hx182_2)).trans hx182_2
         replace hx182_3 := (HB.out.cell (World.block_lt_of_cell? w _ hx182_3)).trans hx182_3
         replace hx182_4 := (HB.out.cell (World.block_lt_of_cell? w _ hx182_4)).trans hx182_4
         replace hx182_5 := (HB.out.cell (World.block_lt_of_cell? w _ hx182_5)).trans hx182_5
         replace hx182_6 := (HB.out.cell (World.block_lt_of_cell? w _ hx182_6)).trans hx182_6
         replace p182 := eq_true p182
         replace q182 := eq_true q182
         go_wp2_with (first | ((with_reducible refine gate_dst (N := 6) rfl ?_); refine box_event ?hg (N := 6) ?hd (cs := #[.int .i64 0, .int .i64 0, .int .i64 0, .int .i64 0, .int .i64 0, .bool false, .bool false]) (t := 25) ?hr ?_; (case hd => rfl); (case hg => rfl); (case hr => first | (go_simp; done) | (go_simp; rfl)); intro gb183 hg w11 hbox hb; have n0_ := Aside0.mk (below_step (by repeat (first | (with_reducible first | exact HB.out | apply below_alloc | apply pw_below_drewN | apply below_drew1) | exact HB.out)) hb); have n1_ := Aside0.mk (hbox); have n2_ := Aside0.mk ((by rw [hg]; exact (below_size (by repeat (first | (with_reducible first | exact HB.out | apply below_alloc | apply pw_below_drewN | apply below_drew1) | exact HB.out))) : w.heap.size ≤ gb183)); have n3_ := Aside0.mk ((by rw [hg]; exact (below_size (by repeat (first | (with_reducible first | exact HB.out | apply below_alloc | apply pw_below_drewN | apply below_drew1) | exact HB.out))) : w.heap.size ≤ gb183)); clear HB; have HB := n0_; have BK183 := n1_; have GW183 := n2_; have GE183 := n3_; clear n0_ n1_ n2_ n3_; clear hb hbox hg; have hcz12_0 : w11.cell? ⟨gb183, 0, none⟩ = some (.int .i64 0) := (blk_cell BK183.out 0).trans rfl; have hcz12_1 : w11.cell? ⟨gb183, 1, none⟩ = some (.int .i64 0) := (blk_cell BK183.out 1).trans rfl; have hcz12_2 : w11.cell? ⟨gb183, 2, none⟩ = some (.int .i64 0) := (blk_cell BK183.out 2).trans rfl; have hcz12_3 : w11.cell? ⟨gb183, 3, none⟩ = some (.int .i64 0) := (blk_cell BK183.out 3).trans rfl; have hcz12_4 : w11.cell? ⟨gb183, 4, none⟩ = some (.int .i64 0) := (blk_cell BK183.out 4).trans rfl; have hcz12_5 : w11.cell? ⟨gb183, 5, none⟩ = some (.bool false) := (blk_cell BK183.out 5).trans rfl; have hcz12_6 : w11.cell? ⟨gb183, 6, none⟩ = some (.bool false) := (blk_cell BK183.out 6).trans rfl; have hfz12_0 := blk_frozen BK183.out 0; have hfz12_1 := blk_frozen BK183.out 1; have hfz12_2 := blk_frozen BK183.out 2; have hfz12_3 := blk_frozen BK183.out 3; have hfz12_4 := blk_frozen BK183.out 4; have hfz12_5 := blk_frozen BK183.out 5; have hfz12_6 := blk_frozen BK183.out 6) | ((with_reducible refine gate_callee (f := 24) rfl ?_); refine goesL_ (some 27) rfl rfl Try.func24 (by kernel_rfl) rfl #[.agg #[.int .i64 ((rd_T25 y178 x21_1).f0), .int .i64 ((rd_T25 y178 x21_1).f1), .int .i64 ((rd_T25 y178 x21_1).f2), .int .i64 ((rd_T25 y178 x21_1).f3), .int .i64 ((rd_T25 y178 x21_1).f4), .bool ((rd_T25 y178 x21_1).f5), .bool ((rd_T25 y178 x21_1).f6)]] rfl (by (try simp only [List.map_toArray, List.map_cons, List.map_nil]); first | done | rfl | (simp only [List.length_drop, List.length_take]; rfl)) ?_; (with_reducible refine (cluster_weight.calls k1 ((rd_T25 y178 x21_1).f0) ((rd_T25 y178 x21_1).f1) ((rd_T25 y178 x21_1).f2) ((rd_T25 y178 x21_1).f3) ((rd_T25 y178 x21_1).f4) ((rd_T25 y178 x21_1).f5) ((rd_T25 y178 x21_1).f6) t184 _ A10.out).mono ?_); rintro e w13 ⟨rfl, hb⟩; refine ⟨_, rfl, ?_⟩; have n0_ := Aside0.mk (blk_below (g := gb183) (o := .cells #[.int .i64 ((rd_T25 y178 x21_1).f0), .int .i64 ((rd_T25 y178 x21_1).f1), .int .i64 ((rd_T25 y178 x21_1).f2), .int .i64 ((rd_T25 y178 x21_1).f3), .int .i64 ((rd_T25 y178 x21_1).f4), .bool ((rd_T25 y178 x21_1).f5), .bool ((rd_T25 y178 x21_1).f6)] 25 (0, 0)) (by (with_reducible repeat (first | refine blk_drewN ?_ _ | refine blk_drew ?_ | refine blk_alloc ?_ _)); refine blk_put (cs := #[.int .i64 ((rd_T25 y178 x21_1).f0), .int .i64 ((rd_T25 y178 x21_1).f1), .int .i64 ((rd_T25 y178 x21_1).f2), .int .i64 ((rd_T25 y178 x21_1).f3), .int .i64 ((rd_T25 y178 x21_1).f4), .bool ((rd_T25 y178 x21_1).f5), .bool false]) ?_ 6 _ rfl; (with_reducible repeat (first | refine blk_drewN ?_ _ | refine blk_drew ?_ | refine blk_alloc ?_ _)); refine blk_put (cs := #[.int .i64 ((rd_T25 y178 x21_1).f0), .int .i64 ((rd_T25 y178 x21_1).f1), .int .i64 ((rd_T25 y178 x21_1).f2), .int .i64 ((rd_T25 y178 x21_1).f3), .int .i64 ((rd_T25 y178 x21_1).f4), .bool false, .bool false]) ?_ 5 _ rfl; (with_reducible repeat (first | refine blk_drewN ?_ _ | refine blk_drew ?_ | refine blk_alloc ?_ _)); refine blk_put (cs := #[.int .i64 ((rd_T25 y178 x21_1).f0), .int .i64 ((rd_T25 y178 x21_1).f1), .int .i64 ((rd_T25 y178 x21_1).f2), .int .i64 ((rd_T25 y178 x21_1).f3), .int .i64 0, .bool false, .bool false]) ?_ 4 _ rfl; (with_reducible repeat (first | refine blk_drewN ?_ _ | refine blk_drew ?_ | refine blk_alloc ?_ _)); refine blk_put (cs := #[.int .i64 ((rd_T25 y178 x21_1).f0), .int .i64 ((rd_T25 y178 x21_1).f1), .int .i64 ((rd_T25 y178 x21_1).f2), .int .i64 0, .int .i64 0, .bool false, .bool false]) ?_ 3 _ rfl; (with_reducible repeat (first | refine blk_drewN ?_ _ | refine blk_drew ?_ | refine blk_alloc ?_ _)); refine blk_put (cs := #[.int .i64 ((rd_T25 y178 x21_1).f0), .int .i64 ((rd_T25 y178 x21_1).f1), .int .i64 0, .int .i64 0, .int .i64 0, .bool false, .bool false]) ?_ 2 _ rfl; (with_reducible repeat (first | refine blk_drewN ?_ _ | refine blk_drew ?_ | refine blk_alloc ?_ _)); refine blk_put (cs := #[.int .i64 ((rd_T25 y178 x21_1).f0), .int .i64 0, .int .i64 0, .int .i64 0, .int .i64 0, .bool false, .bool false]) ?_ 1 _ rfl; (with_reducible repeat (first | refine blk_drewN ?_ _ | refine blk_drew ?_ | refine blk_alloc ?_ _)); refine blk_put (cs := #[.int .i64 0, .int .i64 0, .int .i64 0, .int .i64 0, .int .i64 0, .bool false, .bool false]) ?_ 0 _ rfl; (with_reducible repeat (first | refine blk_drewN ?_ _ | refine blk_drew ?_ | refine blk_alloc ?_ _)); exact BK183.out) hb); have n1_ := Aside0.mk (below_step (by repeat (first | (with_reducible first | exact HB.out | apply below_alloc | apply pw_below_drewN | apply below_drew1 | refine below_set ?_ GE183.out) | exact HB.out)) hb); clear BK183; clear HB; have BK183 := n0_; have HB := n1_; clear n0_ n1_; (try clear hb); (try clear hb2); (try clear hk); (try clear hi)))
         go_roundg k1
         case measure => have := HK1.out; omega
         case rel => exact ⟨(wrap64 (x4_1 + t184)), (wrap64 (x21_1 + 1)), (by first | rfl | (simp; done) | (simp [*]; done)), (by first | rfl | (simp; done) | (simp [*]; done)), H', ⟨by have := HK1.out; omega⟩, ⟨by repeat (first | (with_reducible first | exact HB.out | apply below_alloc | apply pw_below_drewN | apply below_drew1 | refine below_set ?_ GE183.out) | exact HB.out)⟩⟩
        ·rw [if_neg c9] at H
         exact absurd H (by simp)
       ·rw [if_neg c8] at H
        exact absurd H (by simp)
      ·rw [if_neg c7] at H
       have c7b0 : decide (x21_1 < (y178.length : Int)) = false := decide_eq_false c7
       clear c7
       by_cases c14 : 0 < (y178.length : Int)
       ·rw [if_pos c14] at H
        have c14b0 : decide (0 < (y178.length : Int)) = true := decide_eq_true c14
        have c14b1 : decide (0 < y178.length) = true := decide_eq_true (by omega)
        clear c14
        by_cases c15 : 1 ≤ (y178.length : Int)
        ·rw [if_pos c15] at H
         have c15b0 := eq_true c15
         have c15b1 : decide (1 ≤ (y178.length : Int)) = true := decide_eq_true c15
         clear c15
         obtain ⟨y187, hy187⟩ : ∃ y_ : List (S25), y_ = (y178.drop 1) := ⟨_, rfl⟩
         replace H : (cluster_Combine.l1 k1 y178 x4_1 ((rd_T25 y178 0).f1) y187 (y187.length : Int) 0 ((rd_T25 y178 0).f0) ((rd_T25 y178 0).f1) ((rd_T25 y178 0).f2) ((rd_T25 y178 0).f3) ((rd_T25 y178 0).f4) ((rd_T25 y178 0).f5) ((rd_T25 y178 0).f6)) = some (r1, r2) := by first | (rw [hy187]; with_reducible exact H) | (have H2_ := (Option.bind_some _ _).symm.trans H; rw [hy187]; with_reducible exact H2_) | (have H2_ := (Option.bind_some _ _).symm.trans H; with_reducible exact H2_) | with_reducible exact H | (rw [hy187]; exact H) | exact H
         have Ny187 := Aside0.mk hy187
         clear hy187
         have H' := Aside0.mk H
         clear H
         have p185 : 0 ≤ (0 : Int) := (by omega)
         have q185 : 0 < (y178.length : Int) := of_decide_eq_true (by first | (with_reducible assumption) | assumption)
         obtain ⟨ad185, e185, hx185_0, hx185_1, hx185_2, hx185_3, hx185_4, hx185_5, hx185_6⟩ := at_T25 HR181.out 0 p185 q185
         cases e185
         have qi185 : (0 < y178.length) = True := eq_true (by omega)
         (try rw [show ((0 : Int)).toNat = 0 from rfl] at hx185_0)
         (try rw [show 0 * 7 = 0 from rfl] at hx185_0)
         (try rw [Addr.add_zero'] at hx185_0)
         (try rw [show ((0 : Int)).toNat = 0 from rfl] at hx185_1)
         (try rw [show 0 * 7 = 0 from rfl] at hx185_1)
         (try rw [Addr.add_zero'] at hx185_1)
         (try rw [show ((0 : Int)).toNat = 0 from rfl] at hx185_2)
         (try rw [show 0 * 7 = 0 from rfl] at hx185_2)
         (try rw [Addr.add_zero'] at hx185_2)
         (try rw [show ((0 : Int)).toNat = 0 from rfl] at hx185_3)
         (try rw [show 0 * 7 = 0 from rfl] at hx185_3)
         (try rw [Addr.add_zero'] at hx185_3)
         (try rw [show ((0 : Int)).toNat = 0 from rfl] at hx185_4)
         (try rw [show 0 * 7 = 0 from rfl] at hx185_4)
         (try rw [Addr.add_zero'] at hx185_4)
         (try rw [show ((0 : Int)).toNat = 0 from rfl] at hx185_5)
         (try rw [show 0 * 7 = 0 from rfl] at hx185_5)
         (try rw [Addr.add_zero'] at hx185_5)
         (try rw [show ((0 : Int)).toNat = 0 from rfl] at hx185_6)
         (try rw [show 0 * 7 = 0 from rfl] at hx185_6)
         (try rw [Addr.add_zero'] at hx185_6)
         replace hx185_0 := (HB.out.cell (World.block_lt_of_cell? w _ hx185_0)).trans hx185_0
         replace hx185_1 := (HB.out.cell (World.block_lt_of_cell? w _ hx185_1)).trans hx185_1
         replace hx185_2 := (HB.out.cell (World.block_lt_of_cell? w _ hx185_2)).trans hx185_2
         replace hx185_3 := (HB.out.cell (World.block_lt_of_cell? w _ hx185_3)).trans hx185_3
         replace hx185_4 := (HB.out.cell (World.block_lt_of_cell? w _ hx185_4)).trans hx185_4
         replace hx185_5 := (HB.out.cell (World.block_lt_of_cell? w _ hx185_5)).trans hx185_5
         replace hx185_6 := (HB.out.cell (World.block_lt_of_cell? w _ hx185_6)).trans hx185_6
         replace p185 := eq_true p185
         replace q185 := eq_true q185
         go_wp2_with (first | ((with_reducible refine gate_dst (N := 7) rfl ?_); refine box_event ?hg (N := 7) ?hd (cs := #[.int .i64 0, .int .i64 0, .int .i64 0, .int .i64 0, .int .i64 0, .bool false, .bool false]) (t := 25) ?hr ?_; (case hd => rfl); (case hg => rfl); (case hr => first | (go_simp; done) | (go_simp; rfl)); intro gb186 hg w16 hbox hb; have n0_ := Aside0.mk (below_step (by repeat (first | (with_reducible first | exact HB.out | apply below_alloc | apply pw_below_drewN | apply below_drew1) | exact HB.out)) hb); have n1_ := Aside0.mk (hbox); have n2_ := Aside0.mk ((by rw [hg]; exact (below_size (by repeat (first | (with_reducible first | exact HB.out | apply below_alloc | apply pw_below_drewN | apply below_drew1) | exact HB.out))) : w.heap.size ≤ gb186)); have n3_ := Aside0.mk ((by rw [hg]; exact (below_size (by repeat (first | (with_reducible first | exact HB.out | apply below_alloc | apply pw_below_drewN | apply below_drew1) | exact HB.out))) : w.heap.size ≤ gb186)); clear HB; have HB := n0_; have BK186 := n1_; have GW186 := n2_; have GE186 := n3_; clear n0_ n1_ n2_ n3_; clear hb hbox hg; have hcz17_0 : w16.cell? ⟨gb186, 0, none⟩ = some (.int .i64 0) := (blk_cell BK186.out 0).trans rfl; have hcz17_1 : w16.cell? ⟨gb186, 1, none⟩ = some (.int .i64 0) := (blk_cell BK186.out 1).trans rfl; have hcz17_2 : w16.cell? ⟨gb186, 2, none⟩ = some (.int .i64 0) := (blk_cell BK186.out 2).trans rfl; have hcz17_3 : w16.cell? ⟨gb186, 3, none⟩ = some (.int .i64 0) := (blk_cell BK186.out 3).trans rfl; have hcz17_4 : w16.cell? ⟨gb186, 4, none⟩ = some (.int .i64 0) := (blk_cell BK186.out 4).trans rfl; have hcz17_5 : w16.cell? ⟨gb186, 5, none⟩ = some (.bool false) := (blk_cell BK186.out 5).trans rfl; have hcz17_6 : w16.cell? ⟨gb186, 6, none⟩ = some (.bool false) := (blk_cell BK186.out 6).trans rfl; have hfz17_0 := blk_frozen BK186.out 0; have hfz17_1 := blk_frozen BK186.out 1; have hfz17_2 := blk_frozen BK186.out 2; have hfz17_3 := blk_frozen BK186.out 3; have hfz17_4 := blk_frozen BK186.out 4; have hfz17_5 := blk_frozen BK186.out 5; have hfz17_6 := blk_frozen BK186.out 6) | ((with_reducible refine gate_store (t := 25) (p := 7) rfl ?_); refine store_event (t := 25) (p := 7) (v := ?vo_w18) (w1 := (((((((w16.setCell ⟨gb186, 0, none⟩ (.int .i64 ((rd_T25 y178 0).f0))).setCell ⟨gb186, 1, none⟩ (.int .i64 ((rd_T25 y178 0).f1))).setCell ⟨gb186, 2, none⟩ (.int .i64 ((rd_T25 y178 0).f2))).setCell ⟨gb186, 3, none⟩ (.int .i64 ((rd_T25 y178 0).f3))).setCell ⟨gb186, 4, none⟩ (.int .i64 ((rd_T25 y178 0).f4))).setCell ⟨gb186, 5, none⟩ (.bool ((rd_T25 y178 0).f5))).setCell ⟨gb186, 6, none⟩ (.bool ((rd_T25 y178 0).f6)))) ?hg ?ho ?hn ?hr ?_; (case ho => rfl); (case hg => rfl); (case hn => rfl); (case hr => first | (go_simp; done) | (go_simp; rfl)); intro w18 hw; have n0_ : Aside0 (w18.heap[gb186]? = some (.cells #[.int .i64 ((rd_T25 y178 0).f0), .int .i64 ((rd_T25 y178 0).f1), .int .i64 ((rd_T25 y178 0).f2), .int .i64 ((rd_T25 y178 0).f3), .int .i64 ((rd_T25 y178 0).f4), .bool ((rd_T25 y178 0).f5), .bool ((rd_T25 y178 0).f6)] 25 (0, 0))) := ⟨(by rw [hw]; exact (by (with_reducible repeat (first | refine blk_drewN ?_ _ | refine blk_drew ?_ | refine blk_alloc ?_ _)); refine blk_put (cs := #[.int .i64 ((rd_T25 y178 0).f0), .int .i64 ((rd_T25 y178 0).f1), .int .i64 ((rd_T25 y178 0).f2), .int .i64 ((rd_T25 y178 0).f3), .int .i64 ((rd_T25 y178 0).f4), .bool ((rd_T25 y178 0).f5), .bool false]) ?_ 6 _ rfl; (with_reducible repeat (first | refine blk_drewN ?_ _ | refine blk_drew ?_ | refine blk_alloc ?_ _)); refine blk_put (cs := #[.int .i64 ((rd_T25 y178 0).f0), .int .i64 ((rd_T25 y178 0).f1), .int .i64 ((rd_T25 y178 0).f2), .int .i64 ((rd_T25 y178 0).f3), .int .i64 ((rd_T25 y178 0).f4), .bool false, .bool false]) ?_ 5 _ rfl; (with_reducible repeat (first | refine blk_drewN ?_ _ | refine blk_drew ?_ | refine blk_alloc ?_ _)); refine blk_put (cs := #[.int .i64 ((rd_T25 y178 0).f0), .int .i64 ((rd_T25 y178 0).f1), .int .i64 ((rd_T25 y178 0).f2), .int .i64 ((rd_T25 y178 0).f3), .int .i64 0, .bool false, .bool false]) ?_ 4 _ rfl; (with_reducible repeat (first | refine blk_drewN ?_ _ | refine blk_drew ?_ | refine blk_alloc ?_ _)); refine blk_put (cs := #[.int .i64 ((rd_T25 y178 0).f0), .int .i64 ((rd_T25 y178 0).f1), .int .i64 ((rd_T25 y178 0).f2), .int .i64 0, .int .i64 0, .bool false, .bool false]) ?_ 3 _ rfl; (with_reducible repeat (first | refine blk_drewN ?_ _ | refine blk_drew ?_ | refine blk_alloc ?_ _)); refine blk_put (cs := #[.int .i64 ((rd_T25 y178 0).f0), .int .i64 ((rd_T25 y178 0).f1), .int .i64 0, .int .i64 0, .int .i64 0, .bool false, .bool false]) ?_ 2 _ rfl; (with_reducible repeat (first | refine blk_drewN ?_ _ | refine blk_drew ?_ | refine blk_alloc ?_ _)); refine blk_put (cs := #[.int .i64 ((rd_T25 y178 0).f0), .int .i64 0, .int .i64 0, .int .i64 0, .int .i64 0, .bool false, .bool false]) ?_ 1 _ rfl; (with_reducible repeat (first | refine blk_drewN ?_ _ | refine blk_drew ?_ | refine blk_alloc ?_ _)); refine blk_put (cs := #[.int .i64 0, .int .i64 0, .int .i64 0, .int .i64 0, .int .i64 0, .bool false, .bool false]) ?_ 0 _ rfl; (with_reducible repeat (first | refine blk_drewN ?_ _ | refine blk_drew ?_ | refine blk_alloc ?_ _)); exact BK186.out))⟩; have n1_ : Aside0 (Below w.heap.size w w18) := ⟨(by rw [hw]; exact (by repeat (first | (with_reducible first | exact HB.out | apply below_alloc | apply pw_below_drewN | apply below_drew1 | refine below_set ?_ GE186.out) | exact HB.out)))⟩; clear hw; clear BK186; clear HB; have BK186 := n0_; have HB := n1_; clear n0_ n1_; have hcz19_0 : w18.cell? ⟨gb186, 0, none⟩ = some (.int .i64 ((rd_T25 y178 0).f0)) := (blk_cell BK186.out 0).trans rfl; have hcz19_1 : w18.cell? ⟨gb186, 1, none⟩ = some (.int .i64 ((rd_T25 y178 0).f1)) := (blk_cell BK186.out 1).trans rfl; have hcz19_2 : w18.cell? ⟨gb186, 2, none⟩ = some (.int .i64 ((rd_T25 y178 0).f2)) := (blk_cell BK186.out 2).trans rfl; have hcz19_3 : w18.cell? ⟨gb186, 3, none⟩ = some (.int .i64 ((rd_T25 y178 0).f3)) := (blk_cell BK186.out 3).trans rfl; have hcz19_4 : w18.cell? ⟨gb186, 4, none⟩ = some (.int .i64 ((rd_T25 y178 0).f4)) := (blk_cell BK186.out 4).trans rfl; have hcz19_5 : w18.cell? ⟨gb186, 5, none⟩ = some (.bool ((rd_T25 y178 0).f5)) := (blk_cell BK186.out 5).trans rfl; have hcz19_6 : w18.cell? ⟨gb186, 6, none⟩ = some (.bool ((rd_T25 y178 0).f6)) := (blk_cell BK186.out 6).trans rfl; have hfz19_0 := blk_frozen BK186.out 0; have hfz19_1 := blk_frozen BK186.out 1; have hfz19_2 := blk_frozen BK186.out 2; have hfz19_3 := blk_frozen BK186.out 3; have hfz19_4 := blk_frozen BK186.out 4; have hfz19_5 := blk_frozen BK186.out 5; have hfz19_6 := blk_frozen BK186.out 6; have q20 : (1 : Int) ≤ ((y178.length : Int) : Int) := of_decide_eq_true (by first | (with_reducible assumption) | assumption); obtain ⟨i020, hi020, _, hsz20, _⟩ := info_parts info25; have hroom20 : y178.length ≤ c0 := HC181.out; have hC20 : Kd.C k25 _ (some ad185) y178.length y178 := HR181.out; have hcut20 := cut_from (P := Try.prog) 22 25 .i64 Try.underlying22 hi020 7 hsz20 (some ad185) y178.length c0 1 (by omega) q20; have hr20 := Kd.C_drop (m := (1 : Int).toNat) (c := c0) hC20 (by omega) hroom20; obtain ⟨A20, hA20⟩ : ∃ A1, A1 = (if c0 = (1 : Int).toNat then (some ad185) else ((some ad185) : Option Addr).map (·.add ((1 : Int).toNat * 7))) := ⟨_, rfl⟩; obtain ⟨c20, hc20⟩ : ∃ c1, c1 = c0 - (1 : Int).toNat := ⟨_, rfl⟩; have hy20 : y187.length = y178.length - (1 : Int).toNat := (by rw [Ny187.out, List.length_drop] <;> omega); rw [show (y178).drop (1 : Int).toNat = y187 from Ny187.out.symm] at hr20; replace hr20 : Kd.C k25 _ A20 y187.length y187 := (by rw [hA20]; exact hr20); rw [← hy20, ← hA20, ← hc20] at hcut20; have HR190 := Aside0.mk hr20; have HC190 := Aside0.mk (show y187.length ≤ c20 from by rw [hy20, hc20]; exact Nat.sub_le_sub_right hroom20 _); clear hr20 hC20 hroom20 hi020 hsz20 hc20; have KY20 := Aside0.mk hy20; have KA20 := Aside0.mk hA20; clear hy20 hA20; replace q20 := eq_true q20))
         go_loopg [8, 38] k1 (fun kq v8 v38 w' => ∃ (x8_2 : Int) (x38_2 : Int), v8 = .int .i64 x8_2 ∧ v38 = .int .i64 x38_2 ∧ Aside0 (cluster_Combine.l1 kq y178 x4_1 x8_2 y187 (y187.length : Int) x38_2 ((rd_T25 y178 0).f0) ((rd_T25 y178 0).f1) ((rd_T25 y178 0).f2) ((rd_T25 y178 0).f3) ((rd_T25 y178 0).f4) ((rd_T25 y178 0).f5) ((rd_T25 y178 0).f6) = some (r1, r2)) ∧ Aside0 (kq ≤ k1) ∧ Aside0 (w'.heap[gb186]? = some (.cells #[.int .i64 ((rd_T25 y178 0).f0), .int .i64 ((rd_T25 y178 0).f1), .int .i64 ((rd_T25 y178 0).f2), .int .i64 ((rd_T25 y178 0).f3), .int .i64 ((rd_T25 y178 0).f4), .bool ((rd_T25 y178 0).f5), .bool ((rd_T25 y178 0).f6)] 25 (0, 0))) ∧ Aside0 (Below w.heap.size w w'))
         case atStart => exact ⟨((rd_T25 y178 0).f1), (0), (by first | rfl | (simp; done) | (simp [*]; done)), (by first | rfl | (simp; done) | (simp [*]; done)), H', ⟨Nat.le_refl _⟩, ⟨by (with_reducible repeat (first | refine blk_drewN ?_ _ | refine blk_drew ?_ | refine blk_alloc ?_ _)); exact BK186.out⟩, ⟨by repeat (first | (with_reducible first | exact HB.out | apply below_alloc | apply pw_below_drewN | apply below_drew1 | refine below_set ?_ GE186.out) | exact HB.out)⟩⟩
         case round =>
          clear H'
          try clear c1
          try clear p1
          try clear q1
          try clear hx1
          try clear qi1
          try clear c2
          try clear c2b0
          try clear c2b1
          try clear c2b2
          try clear p2
          try clear q2
          try clear c4
          try clear c4b0
          try clear c4b1
          try clear c5
          try clear c5b0
          try clear c5b1
          try clear p6
          try clear q6
          try clear c7
          try clear c7b0
          try clear c8
          try clear c8b0
          try clear c9
          try clear c9b0
          try clear c14
          try clear c14b0
          try clear c14b1
          try clear c15
          try clear c15b0
          try clear c15b1
          try clear p18
          try clear q18
          try clear hx18
          try clear qi18
          try clear c20
          try clear q20
          try clear hcz12_0
          try clear hcz12_1
          try clear hcz12_2
          try clear hcz12_3
          try clear hcz12_4
          try clear hcz12_5
          try clear hcz12_6
          try clear hcz17_0
          try clear hcz17_1
          try clear hcz17_2
          try clear hcz17_3
          try clear hcz17_4
          try clear hcz17_5
          try clear hcz17_6
          try clear hcz19_0
          try clear hcz19_1
          try clear hcz19_2
          try clear hcz19_3
          try clear hcz19_4
          try clear hcz19_5
          try clear hcz19_6
          try clear hfz12_0
          try clear hfz12_1
          try clear hfz12_2
          try clear hfz12_3
          try clear hfz12_4
          try clear hfz12_5
          try clear hfz12_6
          try clear hfz17_0
          try clear hfz17_1
          try clear hfz17_2
          try clear hfz17_3
          try clear hfz17_4
          try clear hfz17_5
          try clear hfz17_6
          try clear hfz19_0
          try clear hfz19_1
          try clear hfz19_2
          try clear hfz19_3
          try clear hfz19_4
          try clear hfz19_5
          try clear hfz19_6
          try clear hx182_0
          try clear hx182_1
          try clear hx182_2
          try clear hx182_3
          try clear hx182_4
          try clear hx182_5
          try clear hx182_6
          try clear hx185_0
          try clear hx185_1
          try clear hx185_2
          try clear hx185_3
          try clear hx185_4
          try clear hx185_5
          try clear hx185_6
          try clear p182
          try clear p185
          try clear p2
          try clear q182
          try clear q185
          try clear q20
          try clear q6
          obtain ⟨x8_2, x38_2, rfl, rfl, HA, HK2, BK186, HB⟩ := hrel
          cases gk with
          | zero => exact absurd HA.out (by simp [cluster_Combine.l1])
          | succ k2 =>
           have H := HA.out
           clear HA
           simp only [cluster_Combine.l1] at H
           by_cases c21 : x38_2 < (y187.length : Int)
           ·rw [if_pos c21] at H
            have c21b0 : decide (x38_2 < (y187.length : Int)) = true := decide_eq_true c21
            clear c21
            by_cases c22 : 0 ≤ x38_2
            ·rw [if_pos c22] at H
             have c22b0 : decide (0 ≤ x38_2) = true := decide_eq_true c22
             clear c22
             by_cases c23 : x38_2 < (y187.length : Int)
             ·rw [if_pos c23] at H
              have c23b0 : decide (x38_2 < (y187.length : Int)) = true := decide_eq_true c23
              clear c23
              replace H := Option.bind_eq_some_iff.mp H
              obtain ⟨t194, A240, H⟩ := H
              replace H : ((cluster_weight.f k2 ((rd_T25 y187 x38_2).f0) ((rd_T25 y187 x38_2).f1) ((rd_T25 y187 x38_2).f2) ((rd_T25 y187 x38_2).f3) ((rd_T25 y187 x38_2).f4) ((rd_T25 y187 x38_2).f5) ((rd_T25 y187 x38_2).f6)).bind fun t195 => ((fixed_Scale.f k2 t194 t195 x4_1).bind fun t196 => ((fixed_Add.f k2 x8_2 t196).bind fun t197 => (cluster_Combine.l1 k2 y178 x4_1 t197 y187 (y187.length : Int) (wrap64 (x38_2 + 1)) ((rd_T25 y178 0).f0) ((rd_T25 y178 0).f1) ((rd_T25 y178 0).f2) ((rd_T25 y178 0).f3) ((rd_T25 y178 0).f4) ((rd_T25 y178 0).f5) ((rd_T25 y178 0).f6))))) = some (r1, r2) := H
              have A24 := Aside0.mk A240
              clear A240
              replace H := Option.bind_eq_some_iff.mp H
              obtain ⟨t195, A250, H⟩ := H
              replace H : ((fixed_Scale.f k2 t194 t195 x4_1).bind fun t196 => ((fixed_Add.f k2 x8_2 t196).bind fun t197 => (cluster_Combine.l1 k2 y178 x4_1 t197 y187 (y187.length : Int) (wrap64 (x38_2 + 1)) ((rd_T25 y178 0).f0) ((rd_T25 y178 0).f1) ((rd_T25 y178 0).f2) ((rd_T25 y178 0).f3) ((rd_T25 y178 0).f4) ((rd_T25 y178 0).f5) ((rd_T25 y178 0).f6)))) = some (r1, r2) := H
              have A25 := Aside0.mk A250
              clear A250
              replace H := Option.bind_eq_some_iff.mp H
              obtain ⟨t196, A260, H⟩ := H
              replace H : ((fixed_Add.f k2 x8_2 t196).bind fun t197 => (cluster_Combine.l1 k2 y178 x4_1 t197 y187 (y187.length : Int) (wrap64 (x38_2 + 1)) ((rd_T25 y178 0).f0) ((rd_T25 y178 0).f1) ((rd_T25 y178 0).f2) ((rd_T25 y178 0).f3) ((rd_T25 y178 0).f4) ((rd_T25 y178 0).f5) ((rd_T25 y178 0).f6))) = some (r1, r2) := H
              have A26 := Aside0.mk A260
              clear A260
              replace H := Option.bind_eq_some_iff.mp H
              obtain ⟨t197, A270, H⟩ := H
              replace H : (cluster_Combine.l1 k2 y178 x4_1 t197 y187 (y187.length : Int) (wrap64 (x38_2 + 1)) ((rd_T25 y178 0).f0) ((rd_T25 y178 0).f1) ((rd_T25 y178 0).f2) ((rd_T25 y178 0).f3) ((rd_T25 y178 0).f4) ((rd_T25 y178 0).f5) ((rd_T25 y178 0).f6)) = some (r1, r2) := H
              have A27 := Aside0.mk A270
              clear A270
              have H' := Aside0.mk H
              clear H
              have p192 : 0 ≤ (x38_2 : Int) := of_decide_eq_true (by first | (with_reducible assumption) | assumption)
              have q192 : x38_2 < (y187.length : Int) := of_decide_eq_true (by first | (with_reducible assumption) | assumption)
              obtain ⟨ad192, e192, hx192_0, hx192_1, hx192_2, hx192_3, hx192_4, hx192_5, hx192_6⟩ := at_T25 HR190.out x38_2 p192 q192
              cases e192
              replace hx192_0 := (HB.out.cell (World.block_lt_of_cell? w _ hx192_0)).trans hx192_0
              replace hx192_1 := (HB.out.cell (World.block_lt_of_cell? w _ hx192_1)).trans hx192_1
              replace hx192_2 := (HB.out.cell (World.block_lt_of_cell? w _ hx192_2)).trans hx192_2
              replace hx192_3 := (HB.out.cell (World.block_lt_of_cell? w _ hx192_3)).trans hx192_3
              replace hx192_4 := (HB.out.cell (World.block_lt_of_cell? w _ hx192_4)).trans hx192_4
              replace hx192_5 := (HB.out.cell (World.block_lt_of_cell? w _ hx192_5)).trans hx192_5
              replace hx192_6 := (HB.out.cell (World.block_lt_of_cell? w _ hx192_6)).trans hx192_6
              replace p192 := eq_true p192
              replace q192 := eq_true q192
              try go_wp2_with (first | ((with_reducible refine gate_dst (N := 10) rfl ?_); refine box_event ?hg (N := 10) ?hd (cs := #[.int .i64 0, .int .i64 0, .int .i64 0, .int .i64 0, .int .i64 0, .bool false, .bool false]) (t := 25) ?hr ?_; (case hd => rfl); (case hg => rfl); (case hr => first | (go_simp; done) | (go_simp; rfl)); intro gb193 hg w28 hbox hb; have n0_ := Aside0.mk (blk_below (g := gb186) (o := .cells #[.int .i64 ((rd_T25 y178 0).f0), .int .i64 ((rd_T25 y178 0).f1), .int .i64 ((rd_T25 y178 0).f2), .int .i64 ((rd_T25 y178 0).f3), .int .i64 ((rd_T25 y178 0).f4), .bool ((rd_T25 y178 0).f5), .bool ((rd_T25 y178 0).f6)] 25 (0, 0)) (by (with_reducible repeat (first | refine blk_drewN ?_ _ | refine blk_drew ?_ | refine blk_alloc ?_ _)); exact BK186.out) hb); have n1_ := Aside0.mk (below_step (by repeat (first | (with_reducible first | exact HB.out | apply below_alloc | apply pw_below_drewN | apply below_drew1 | refine below_set ?_ GE186.out) | exact HB.out)) hb); have n2_ := Aside0.mk (hbox); have n3_ := Aside0.mk ((by rw [hg]; exact (below_size (by repeat (first | (with_reducible first | exact HB.out | apply below_alloc | apply pw_below_drewN | apply below_drew1 | refine below_set ?_ GE186.out) | exact HB.out))) : w.heap.size ≤ gb193)); have n4_ := Aside0.mk ((by rw [hg]; exact (below_size (by repeat (first | (with_reducible first | exact HB.out | apply below_alloc | apply pw_below_drewN | apply below_drew1 | refine below_set ?_ GE186.out) | exact HB.out))) : w.heap.size ≤ gb193)); have n5_ := Aside0.mk ((by rw [hg]; exact Nat.ne_of_lt (blk_lt (g := gb186) (o := .cells #[.int .i64 ((rd_T25 y178 0).f0), .int .i64 ((rd_T25 y178 0).f1), .int .i64 ((rd_T25 y178 0).f2), .int .i64 ((rd_T25 y178 0).f3), .int .i64 ((rd_T25 y178 0).f4), .bool ((rd_T25 y178 0).f5), .bool ((rd_T25 y178 0).f6)] 25 (0, 0)) (by (with_reducible repeat (first | refine blk_drewN ?_ _ | refine blk_drew ?_ | refine blk_alloc ?_ _)); exact BK186.out)) : gb186 ≠ gb193)); have n6_ := Aside0.mk ((by rw [hg]; exact Nat.ne_of_gt (blk_lt (g := gb186) (o := .cells #[.int .i64 ((rd_T25 y178 0).f0), .int .i64 ((rd_T25 y178 0).f1), .int .i64 ((rd_T25 y178 0).f2), .int .i64 ((rd_T25 y178 0).f3), .int .i64 ((rd_T25 y178 0).f4), .bool ((rd_T25 y178 0).f5), .bool ((rd_T25 y178 0).f6)] 25 (0, 0)) (by (with_reducible repeat (first | refine blk_drewN ?_ _ | refine blk_drew ?_ | refine blk_alloc ?_ _)); exact BK186.out)) : gb193 ≠ gb186)); clear BK186; clear HB; have BK186 := n0_; have HB := n1_; have BK193 := n2_; have GW193 := n3_; have GE193 := n4_; have NB186_193 := n5_; have NB193_186 := n6_; clear n0_ n1_ n2_ n3_ n4_ n5_ n6_; clear hb hbox hg; have hnb29 := NB193_186.out; have hnc29 := NB186_193.out; have hcz30_0 : w28.cell? ⟨gb193, 0, none⟩ = some (.int .i64 0) := (blk_cell BK193.out 0).trans rfl; have hcz30_1 : w28.cell? ⟨gb193, 1, none⟩ = some (.int .i64 0) := (blk_cell BK193.out 1).trans rfl; have hcz30_2 : w28.cell? ⟨gb193, 2, none⟩ = some (.int .i64 0) := (blk_cell BK193.out 2).trans rfl; have hcz30_3 : w28.cell? ⟨gb193, 3, none⟩ = some (.int .i64 0) := (blk_cell BK193.out 3).trans rfl; have hcz30_4 : w28.cell? ⟨gb193, 4, none⟩ = some (.int .i64 0) := (blk_cell BK193.out 4).trans rfl; have hcz30_5 : w28.cell? ⟨gb193, 5, none⟩ = some (.bool false) := (blk_cell BK193.out 5).trans rfl; have hcz30_6 : w28.cell? ⟨gb193, 6, none⟩ = some (.bool false) := (blk_cell BK193.out 6).trans rfl; have hfz30_0 := blk_frozen BK193.out 0; have hfz30_1 := blk_frozen BK193.out 1; have hfz30_2 := blk_frozen BK193.out 2; have hfz30_3 := blk_frozen BK193.out 3; have hfz30_4 := blk_frozen BK193.out 4; have hfz30_5 := blk_frozen BK193.out 5; have hfz30_6 := blk_frozen BK193.out 6))
              have n0_ : Aside0 ((((((((w28.setCell ⟨gb193, 0, none⟩ (.int .i64 ((rd_T25 y187 x38_2).f0))).setCell ⟨gb193, 1, none⟩ (.int .i64 ((rd_T25 y187 x38_2).f1))).setCell ⟨gb193, 2, none⟩ (.int .i64 ((rd_T25 y187 x38_2).f2))).setCell ⟨gb193, 3, none⟩ (.int .i64 ((rd_T25 y187 x38_2).f3))).setCell ⟨gb193, 4, none⟩ (.int .i64 ((rd_T25 y187 x38_2).f4))).setCell ⟨gb193, 5, none⟩ (.bool ((rd_T25 y187 x38_2).f5))).setCell ⟨gb193, 6, none⟩ (.bool ((rd_T25 y187 x38_2).f6))).heap[gb186]? = some (.cells #[.int .i64 ((rd_T25 y178 0).f0), .int .i64 ((rd_T25 y178 0).f1), .int .i64 ((rd_T25 y178 0).f2), .int .i64 ((rd_T25 y178 0).f3), .int .i64 ((rd_T25 y178 0).f4), .bool ((rd_T25 y178 0).f5), .bool ((rd_T25 y178 0).f6)] 25 (0, 0))) := ⟨by (with_reducible repeat (first | refine blk_drewN ?_ _ | refine blk_drew ?_ | refine blk_alloc ?_ _)); refine blk_far ?_ NB186_193.out _; (with_reducible repeat (first | refine blk_drewN ?_ _ | refine blk_drew ?_ | refine blk_alloc ?_ _)); refine blk_far ?_ NB186_193.out _; (with_reducible repeat (first | refine blk_drewN ?_ _ | refine blk_drew ?_ | refine blk_alloc ?_ _)); refine blk_far ?_ NB186_193.out _; (with_reducible repeat (first | refine blk_drewN ?_ _ | refine blk_drew ?_ | refine blk_alloc ?_ _)); refine blk_far ?_ NB186_193.out _; (with_reducible repeat (first | refine blk_drewN ?_ _ | refine blk_drew ?_ | refine blk_alloc ?_ _)); refine blk_far ?_ NB186_193.out _; (with_reducible repeat (first | refine blk_drewN ?_ _ | refine blk_drew ?_ | refine blk_alloc ?_ _)); refine blk_far ?_ NB186_193.out _; (with_reducible repeat (first | refine blk_drewN ?_ _ | refine blk_drew ?_ | refine blk_alloc ?_ _)); refine blk_far ?_ NB186_193.out _; (with_reducible repeat (first | refine blk_drewN ?_ _ | refine blk_drew ?_ | refine blk_alloc ?_ _)); exact BK186.out⟩
              have n1_ : Aside0 ((((((((w28.setCell ⟨gb193, 0, none⟩ (.int .i64 ((rd_T25 y187 x38_2).f0))).setCell ⟨gb193, 1, none⟩ (.int .i64 ((rd_T25 y187 x38_2).f1))).setCell ⟨gb193, 2, none⟩ (.int .i64 ((rd_T25 y187 x38_2).f2))).setCell ⟨gb193, 3, none⟩ (.int .i64 ((rd_T25 y187 x38_2).f3))).setCell ⟨gb193, 4, none⟩ (.int .i64 ((rd_T25 y187 x38_2).f4))).setCell ⟨gb193, 5, none⟩ (.bool ((rd_T25 y187 x38_2).f5))).setCell ⟨gb193, 6, none⟩ (.bool ((rd_T25 y187 x38_2).f6))).heap[gb193]? = some (.cells #[.int .i64 ((rd_T25 y187 x38_2).f0), .int .i64 ((rd_T25 y187 x38_2).f1), .int .i64 ((rd_T25 y187 x38_2).f2), .int .i64 ((rd_T25 y187 x38_2).f3), .int .i64 ((rd_T25 y187 x38_2).f4), .bool ((rd_T25 y187 x38_2).f5), .bool ((rd_T25 y187 x38_2).f6)] 25 (0, 0))) := ⟨by (with_reducible repeat (first | refine blk_drewN ?_ _ | refine blk_drew ?_ | refine blk_alloc ?_ _)); refine blk_put (cs := #[.int .i64 ((rd_T25 y187 x38_2).f0), .int .i64 ((rd_T25 y187 x38_2).f1), .int .i64 ((rd_T25 y187 x38_2).f2), .int .i64 ((rd_T25 y187 x38_2).f3), .int .i64 ((rd_T25 y187 x38_2).f4), .bool ((rd_T25 y187 x38_2).f5), .bool false]) ?_ 6 _ rfl; (with_reducible repeat (first | refine blk_drewN ?_ _ | refine blk_drew ?_ | refine blk_alloc ?_ _)); refine blk_put (cs := #[.int .i64 ((rd_T25 y187 x38_2).f0), .int .i64 ((rd_T25 y187 x38_2).f1), .int .i64 ((rd_T25 y187 x38_2).f2), .int .i64 ((rd_T25 y187 x38_2).f3), .int .i64 ((rd_T25 y187 x38_2).f4), .bool false, .bool false]) ?_ 5 _ rfl; (with_reducible repeat (first | refine blk_drewN ?_ _ | refine blk_drew ?_ | refine blk_alloc ?_ _)); refine blk_put (cs := #[.int .i64 ((rd_T25 y187 x38_2).f0), .int .i64 ((rd_T25 y187 x38_2).f1), .int .i64 ((rd_T25 y187 x38_2).f2), .int .i64 ((rd_T25 y187 x38_2).f3), .int .i64 0, .bool false, .bool false]) ?_ 4 _ rfl; (with_reducible repeat (first | refine blk_drewN ?_ _ | refine blk_drew ?_ | refine blk_alloc ?_ _)); refine blk_put (cs := #[.int .i64 ((rd_T25 y187 x38_2).f0), .int .i64 ((rd_T25 y187 x38_2).f1), .int .i64 ((rd_T25 y187 x38_2).f2), .int .i64 0, .int .i64 0, .bool false, .bool false]) ?_ 3 _ rfl; (with_reducible repeat (first | refine blk_drewN ?_ _ | refine blk_drew ?_ | refine blk_alloc ?_ _)); refine blk_put (cs := #[.int .i64 ((rd_T25 y187 x38_2).f0), .int .i64 ((rd_T25 y187 x38_2).f1), .int .i64 0, .int .i64 0, .int .i64 0, .bool false, .bool false]) ?_ 2 _ rfl; (with_reducible repeat (first | refine blk_drewN ?_ _ | refine blk_drew ?_ | refine blk_alloc ?_ _)); refine blk_put (cs := #[.int .i64 ((rd_T25 y187 x38_2).f0), .int .i64 0, .int .i64 0, .int .i64 0, .int .i64 0, .bool false, .bool false]) ?_ 1 _ rfl; (with_reducible repeat (first | refine blk_drewN ?_ _ | refine blk_drew ?_ | refine blk_alloc ?_ _)); refine blk_put (cs := #[.int .i64 0, .int .i64 0, .int .i64 0, .int .i64 0, .int .i64 0, .bool false, .bool false]) ?_ 0 _ rfl; (with_reducible repeat (first | refine blk_drewN ?_ _ | refine blk_drew ?_ | refine blk_alloc ?_ _)); exact BK193.out⟩
              have n2_ : Aside0 (Below w.heap.size w (((((((w28.setCell ⟨gb193, 0, none⟩ (.int .i64 ((rd_T25 y187 x38_2).f0))).setCell ⟨gb193, 1, none⟩ (.int .i64 ((rd_T25 y187 x38_2).f1))).setCell ⟨gb193, 2, none⟩ (.int .i64 ((rd_T25 y187 x38_2).f2))).setCell ⟨gb193, 3, none⟩ (.int .i64 ((rd_T25 y187 x38_2).f3))).setCell ⟨gb193, 4, none⟩ (.int .i64 ((rd_T25 y187 x38_2).f4))).setCell ⟨gb193, 5, none⟩ (.bool ((rd_T25 y187 x38_2).f5))).setCell ⟨gb193, 6, none⟩ (.bool ((rd_T25 y187 x38_2).f6)))) := ⟨by repeat (first | (with_reducible first | exact HB.out | apply below_alloc | apply pw_below_drewN | apply below_drew1 | refine below_set ?_ GE186.out | refine below_set ?_ GE193.out) | exact HB.out)⟩
              (try clear BK186)
              (try clear BK193)
              (try clear HB)
              generalize (((((((w28.setCell ⟨gb193, 0, none⟩ (.int .i64 ((rd_T25 y187 x38_2).f0))).setCell ⟨gb193, 1, none⟩ (.int .i64 ((rd_T25 y187 x38_2).f1))).setCell ⟨gb193, 2, none⟩ (.int .i64 ((rd_T25 y187 x38_2).f2))).setCell ⟨gb193, 3, none⟩ (.int .i64 ((rd_T25 y187 x38_2).f3))).setCell ⟨gb193, 4, none⟩ (.int .i64 ((rd_T25 y187 x38_2).f4))).setCell ⟨gb193, 5, none⟩ (.bool ((rd_T25 y187 x38_2).f5))).setCell ⟨gb193, 6, none⟩ (.bool ((rd_T25 y187 x38_2).f6))) = w31 at n0_ n1_ n2_ ⊢
              have BK186 := n0_
              have BK193 := n1_
              have HB := n2_
              clear n0_ n1_ n2_
              have n0_ := Aside0.mk (blk_drew BK186.out)
              have n1_ := Aside0.mk (blk_drew BK193.out)
              have n2_ := Aside0.mk (below_drew1 HB.out)
              clear BK186
              clear BK193
              clear HB
              have BK186 := n0_
              have BK193 := n1_
              have HB := n2_
              clear n0_ n1_ n2_
              refine start_ (n := 12) (S := fun w' => w'.cell? ⟨gb193, 0, none⟩ = some (.int .i64 ((rd_T25 y187 x38_2).f0)) ∧ w'.cell? ⟨gb193, 1, none⟩ = some (.int .i64 ((rd_T25 y187 x38_2).f1)) ∧ w'.cell? ⟨gb193, 2, none⟩ = some (.int .i64 ((rd_T25 y187 x38_2).f2)) ∧ w'.cell? ⟨gb193, 3, none⟩ = some (.int .i64 ((rd_T25 y187 x38_2).f3)) ∧ w'.cell? ⟨gb193, 4, none⟩ = some (.int .i64 ((rd_T25 y187 x38_2).f4)) ∧ w'.cell? ⟨gb193, 5, none⟩ = some (.bool ((rd_T25 y187 x38_2).f5)) ∧ w'.cell? ⟨gb193, 6, none⟩ = some (.bool ((rd_T25 y187 x38_2).f6)) ∧ w'.cell? ⟨gb186, 0, none⟩ = some (.int .i64 ((rd_T25 y178 0).f0)) ∧ w'.cell? ⟨gb186, 1, none⟩ = some (.int .i64 ((rd_T25 y178 0).f1)) ∧ w'.cell? ⟨gb186, 2, none⟩ = some (.int .i64 ((rd_T25 y178 0).f2)) ∧ w'.cell? ⟨gb186, 3, none⟩ = some (.int .i64 ((rd_T25 y178 0).f3)) ∧ w'.cell? ⟨gb186, 4, none⟩ = some (.int .i64 ((rd_T25 y178 0).f4)) ∧ w'.cell? ⟨gb186, 5, none⟩ = some (.bool ((rd_T25 y178 0).f5)) ∧ w'.cell? ⟨gb186, 6, none⟩ = some (.bool ((rd_T25 y178 0).f6))) (ds := []) #[false, false, false, false, false, false, false, false, false, false, false, false] (by kernel_rfl) rfl rfl ⟨(blk_cell BK193.out 0).trans rfl, (blk_cell BK193.out 1).trans rfl, (blk_cell BK193.out 2).trans rfl, (blk_cell BK193.out 3).trans rfl, (blk_cell BK193.out 4).trans rfl, (blk_cell BK193.out 5).trans rfl, (blk_cell BK193.out 6).trans rfl, (blk_cell BK186.out 0).trans rfl, (blk_cell BK186.out 1).trans rfl, (blk_cell BK186.out 2).trans rfl, (blk_cell BK186.out 3).trans rfl, (blk_cell BK186.out 4).trans rfl, (blk_cell BK186.out 5).trans rfl, (blk_cell BK186.out 6).trans rfl⟩ (fun hHeld => ?_); refine with_tabW cluster_Combine.tab15 cluster_Combine.bits15 (fun HT_ HW_ => ?_)
              generalize w31.drew = w32 at BK186 BK193 HB hHeld ⊢
              refine pure_ (i := 0) (N := some 42) (v := ?_) (a' := ?_) #[true, false, false, false, false, false, false, false, false, false, false, false] rfl rfl (any_of HT_.out (by kernel_rfl)) (fun _ _ _ h => h) (Or.inl ⟨by rfl, ?_⟩) ?_ ?_
              rotate_left
              ·intro w'
               go_simp
               with_reducible rfl
              rotate_left
              ·simp only [Act.put, List.setIfInBounds_toArray, List.set_cons_zero, List.set_cons_succ, i64_w, i32_w]
               rfl
              refine pure_ (i := 1) (N := some 43) (v := ?_) (a' := ?_) #[true, true, false, false, false, false, false, false, false, false, false, false] rfl rfl (any_of HT_.out (by kernel_rfl)) (fun _ _ _ h => h) (Or.inl ⟨by rfl, ?_⟩) ?_ ?_
              rotate_left
              ·intro w'
               go_simp
               with_reducible rfl
              rotate_left
              ·simp only [Act.put, List.setIfInBounds_toArray, List.set_cons_zero, List.set_cons_succ, i64_w, i32_w]
               rfl
              refine pure_ (i := 3) (N := some 45) (v := ?_) (a' := ?_) #[true, true, false, true, false, false, false, false, false, false, false, false] rfl rfl (any_of HT_.out (by kernel_rfl)) (fun _ _ _ h => h) (Or.inl ⟨by rfl, ?_⟩) ?_ ?_
              rotate_left
              ·intro w'
               go_simp
               with_reducible rfl
              rotate_left
              ·simp only [Act.put, List.setIfInBounds_toArray, List.set_cons_zero, List.set_cons_succ, i64_w, i32_w]
               rfl
              refine pure_ (i := 8) (N := some 50) (v := ?_) (a' := ?_) #[true, true, false, true, false, false, false, false, true, false, false, false] rfl rfl (any_of HT_.out (by kernel_rfl)) (fun _ _ _ h => h) (Or.inl ⟨by rfl, ?_⟩) ?_ ?_
              rotate_left
              ·intro w'
               go_simp
               with_reducible rfl
              rotate_left
              ·simp only [Act.put, List.setIfInBounds_toArray, List.set_cons_zero, List.set_cons_succ, i64_w, i32_w]
               rfl
              refine take_ (i := 2) (N := some 44) (v := ?_) (a' := ?_) #[true, true, true, true, false, false, false, false, true, false, false, false] rfl rfl (take_ofW HT_.out HW_.out (by kernel_rfl)) (fun _ _ _ h => h) (Or.inl ⟨by rfl, ?_⟩) hHeld ?_ ?_
              rotate_left
              ·rintro w' ⟨s0, s1, s2, s3, s4, s5, s6, s7, s8, s9, s10, s11, s12, s13⟩
               go_simp
               with_reducible rfl
              rotate_left
              ·simp only [Act.put, List.setIfInBounds_toArray, List.set_cons_zero, List.set_cons_succ, i64_w, i32_w]
               rfl
              refine take_ (i := 4) (N := some 46) (v := ?_) (a' := ?_) #[true, true, true, true, true, false, false, false, true, false, false, false] rfl rfl (take_ofW HT_.out HW_.out (by kernel_rfl)) (fun _ _ _ h => h) (Or.inl ⟨by rfl, ?_⟩) hHeld ?_ ?_
              rotate_left
              ·rintro w' ⟨s0, s1, s2, s3, s4, s5, s6, s7, s8, s9, s10, s11, s12, s13⟩
               go_simp
               with_reducible rfl
              rotate_left
              ·simp only [Act.put, List.setIfInBounds_toArray, List.set_cons_zero, List.set_cons_succ, i64_w, i32_w]
               rfl
              refine take_ (i := 6) (N := some 48) (v := ?_) (a' := ?_) #[true, true, true, true, true, false, true, false, true, false, false, false] rfl rfl (take_ofW HT_.out HW_.out (by kernel_rfl)) (fun _ _ _ h => h) (Or.inl ⟨by rfl, ?_⟩) hHeld ?_ ?_
              rotate_left
              ·rintro w' ⟨s0, s1, s2, s3, s4, s5, s6, s7, s8, s9, s10, s11, s12, s13⟩
               go_simp
               with_reducible rfl
              rotate_left
              ·simp only [Act.put, List.setIfInBounds_toArray, List.set_cons_zero, List.set_cons_succ, i64_w, i32_w]
               rfl
              refine one_ (i := 5) (N := some 47) #[true, true, true, true, true, true, true, false, true, false, false, false] rfl rfl (one_of HT_.out (by kernel_rfl)) (by decide) (fun K hK => ?_)
              refine goes_ Try.func27 (by kernel_rfl) rfl #[.int .i64 ((rd_T25 y187 x38_2).f1), .int .i64 ((rd_T25 y178 0).f1)] (by rfl) rfl rfl (by (try simp only [List.map_toArray, List.map_cons, List.map_nil]); first | done | rfl | (simp only [List.length_drop, List.length_take]; rfl)) ?_
              with_reducible refine (fixed_Sub.calls k2 ((rd_T25 y187 x38_2).f1) ((rd_T25 y178 0).f1) t194 _ A24.out).mono ?_
              rintro e w33 ⟨rfl, hb⟩
              refine ⟨_, rfl, ?_⟩
              have n0_ := Aside0.mk (blk_below (g := gb186) (o := .cells #[.int .i64 ((rd_T25 y178 0).f0), .int .i64 ((rd_T25 y178 0).f1), .int .i64 ((rd_T25 y178 0).f2), .int .i64 ((rd_T25 y178 0).f3), .int .i64 ((rd_T25 y178 0).f4), .bool ((rd_T25 y178 0).f5), .bool ((rd_T25 y178 0).f6)] 25 (0, 0)) (by (with_reducible repeat (first | refine blk_drewN ?_ _ | refine blk_drew ?_ | refine blk_alloc ?_ _)); exact BK186.out) hb)
              have n1_ := Aside0.mk (blk_below (g := gb193) (o := .cells #[.int .i64 ((rd_T25 y187 x38_2).f0), .int .i64 ((rd_T25 y187 x38_2).f1), .int .i64 ((rd_T25 y187 x38_2).f2), .int .i64 ((rd_T25 y187 x38_2).f3), .int .i64 ((rd_T25 y187 x38_2).f4), .bool ((rd_T25 y187 x38_2).f5), .bool ((rd_T25 y187 x38_2).f6)] 25 (0, 0)) (by (with_reducible repeat (first | refine blk_drewN ?_ _ | refine blk_drew ?_ | refine blk_alloc ?_ _)); exact BK193.out) hb)
              have n2_ := Aside0.mk (below_step (by repeat (first | (with_reducible first | exact HB.out | apply below_alloc | apply pw_below_drewN | apply below_drew1 | refine below_set ?_ GE186.out | refine below_set ?_ GE193.out) | exact HB.out)) hb)
              clear BK186
              clear BK193
              clear HB
              have BK186 := n0_
              have BK193 := n1_
              have HB := n2_
              clear n0_ n1_ n2_
              (try clear hb)
              (try clear hb2)
              (try clear hk)
              (try clear hi)
              refine hK.out _ _ ⟨(blk_cell BK193.out 0).trans rfl, (blk_cell BK193.out 1).trans rfl, (blk_cell BK193.out 2).trans rfl, (blk_cell BK193.out 3).trans rfl, (blk_cell BK193.out 4).trans rfl, (blk_cell BK193.out 5).trans rfl, (blk_cell BK193.out 6).trans rfl, (blk_cell BK186.out 0).trans rfl, (blk_cell BK186.out 1).trans rfl, (blk_cell BK186.out 2).trans rfl, (blk_cell BK186.out 3).trans rfl, (blk_cell BK186.out 4).trans rfl, (blk_cell BK186.out 5).trans rfl, (blk_cell BK186.out 6).trans rfl⟩ (fun hHeld => ?_)
              clear hK K
              refine norm_ (a' := ?_) ?_ ?_
              rotate_left
              ·show Act.put _ (some 47) _ = _
               simp only [Act.put, List.setIfInBounds_toArray, List.set_cons_zero, List.set_cons_succ, i64_w, i32_w]
               rfl
              refine one_ (i := 7) (N := some 49) #[true, true, true, true, true, true, true, true, true, false, false, false] rfl rfl (one_of HT_.out (by kernel_rfl)) (by decide) (fun K hK => ?_)
              refine goes_ Try.func24 (by kernel_rfl) rfl #[.agg #[.int .i64 ((rd_T25 y187 x38_2).f0), .int .i64 ((rd_T25 y187 x38_2).f1), .int .i64 ((rd_T25 y187 x38_2).f2), .int .i64 ((rd_T25 y187 x38_2).f3), .int .i64 ((rd_T25 y187 x38_2).f4), .bool ((rd_T25 y187 x38_2).f5), .bool ((rd_T25 y187 x38_2).f6)]] (by rfl) rfl rfl (by (try simp only [List.map_toArray, List.map_cons, List.map_nil]); first | done | rfl | (simp only [List.length_drop, List.length_take]; rfl)) ?_
              with_reducible refine (cluster_weight.calls k2 ((rd_T25 y187 x38_2).f0) ((rd_T25 y187 x38_2).f1) ((rd_T25 y187 x38_2).f2) ((rd_T25 y187 x38_2).f3) ((rd_T25 y187 x38_2).f4) ((rd_T25 y187 x38_2).f5) ((rd_T25 y187 x38_2).f6) t195 _ A25.out).mono ?_
              rintro e w34 ⟨rfl, hb⟩
              refine ⟨_, rfl, ?_⟩
              have n0_ := Aside0.mk (blk_below (g := gb186) (o := .cells #[.int .i64 ((rd_T25 y178 0).f0), .int .i64 ((rd_T25 y178 0).f1), .int .i64 ((rd_T25 y178 0).f2), .int .i64 ((rd_T25 y178 0).f3), .int .i64 ((rd_T25 y178 0).f4), .bool ((rd_T25 y178 0).f5), .bool ((rd_T25 y178 0).f6)] 25 (0, 0)) (by (with_reducible repeat (first | refine blk_drewN ?_ _ | refine blk_drew ?_ | refine blk_alloc ?_ _)); exact BK186.out) hb)
              have n1_ := Aside0.mk (blk_below (g := gb193) (o := .cells #[.int .i64 ((rd_T25 y187 x38_2).f0), .int .i64 ((rd_T25 y187 x38_2).f1), .int .i64 ((rd_T25 y187 x38_2).f2), .int .i64 ((rd_T25 y187 x38_2).f3), .int .i64 ((rd_T25 y187 x38_2).f4), .bool ((rd_T25 y187 x38_2).f5), .bool ((rd_T25 y187 x38_2).f6)] 25 (0, 0)) (by (with_reducible repeat (first | refine blk_drewN ?_ _ | refine blk_drew ?_ | refine blk_alloc ?_ _)); exact BK193.out) hb)
              have n2_ := Aside0.mk (below_step (by repeat (first | (with_reducible first | exact HB.out | apply below_alloc | apply pw_below_drewN | apply below_drew1 | refine below_set ?_ GE186.out | refine below_set ?_ GE193.out) | exact HB.out)) hb)
              clear BK186
              clear BK193
              clear HB
              have BK186 := n0_
              have BK193 := n1_
              have HB := n2_
              clear n0_ n1_ n2_
              (try clear hb)
              (try clear hb2)
              (try clear hk)
              (try clear hi)
              refine hK.out _ _ ⟨(blk_cell BK193.out 0).trans rfl, (blk_cell BK193.out 1).trans rfl, (blk_cell BK193.out 2).trans rfl, (blk_cell BK193.out 3).trans rfl, (blk_cell BK193.out 4).trans rfl, (blk_cell BK193.out 5).trans rfl, (blk_cell BK193.out 6).trans rfl, (blk_cell BK186.out 0).trans rfl, (blk_cell BK186.out 1).trans rfl, (blk_cell BK186.out 2).trans rfl, (blk_cell BK186.out 3).trans rfl, (blk_cell BK186.out 4).trans rfl, (blk_cell BK186.out 5).trans rfl, (blk_cell BK186.out 6).trans rfl⟩ (fun hHeld => ?_)
              clear hK K
              refine norm_ (a' := ?_) ?_ ?_
              rotate_left
              ·show Act.put _ (some 49) _ = _
               simp only [Act.put, List.setIfInBounds_toArray, List.set_cons_zero, List.set_cons_succ, i64_w, i32_w]
               rfl
              refine one_ (i := 9) (N := some 51) #[true, true, true, true, true, true, true, true, true, true, false, false] rfl rfl (one_of HT_.out (by kernel_rfl)) (by decide) (fun K hK => ?_)
              refine goes_ Try.func26 (by kernel_rfl) rfl #[.int .i64 t194, .int .i64 t195, .int .i64 x4_1] (by rfl) rfl rfl (by (try simp only [List.map_toArray, List.map_cons, List.map_nil]); first | done | rfl | (simp only [List.length_drop, List.length_take]; rfl)) ?_
              with_reducible refine (fixed_Scale.calls k2 t194 t195 x4_1 t196 _ A26.out).mono ?_
              rintro e w35 ⟨rfl, hb⟩
              refine ⟨_, rfl, ?_⟩
              have n0_ := Aside0.mk (blk_below (g := gb186) (o := .cells #[.int .i64 ((rd_T25 y178 0).f0), .int .i64 ((rd_T25 y178 0).f1), .int .i64 ((rd_T25 y178 0).f2), .int .i64 ((rd_T25 y178 0).f3), .int .i64 ((rd_T25 y178 0).f4), .bool ((rd_T25 y178 0).f5), .bool ((rd_T25 y178 0).f6)] 25 (0, 0)) (by (with_reducible repeat (first | refine blk_drewN ?_ _ | refine blk_drew ?_ | refine blk_alloc ?_ _)); exact BK186.out) hb)
              have n1_ := Aside0.mk (blk_below (g := gb193) (o := .cells #[.int .i64 ((rd_T25 y187 x38_2).f0), .int .i64 ((rd_T25 y187 x38_2).f1), .int .i64 ((rd_T25 y187 x38_2).f2), .int .i64 ((rd_T25 y187 x38_2).f3), .int .i64 ((rd_T25 y187 x38_2).f4), .bool ((rd_T25 y187 x38_2).f5), .bool ((rd_T25 y187 x38_2).f6)] 25 (0, 0)) (by (with_reducible repeat (first | refine blk_drewN ?_ _ | refine blk_drew ?_ | refine blk_alloc ?_ _)); exact BK193.out) hb)
              have n2_ := Aside0.mk (below_step (by repeat (first | (with_reducible first | exact HB.out | apply below_alloc | apply pw_below_drewN | apply below_drew1 | refine below_set ?_ GE186.out | refine below_set ?_ GE193.out) | exact HB.out)) hb)
              clear BK186
              clear BK193
              clear HB
              have BK186 := n0_
              have BK193 := n1_
              have HB := n2_
              clear n0_ n1_ n2_
              (try clear hb)
              (try clear hb2)
              (try clear hk)
              (try clear hi)
              refine hK.out _ _ ⟨(blk_cell BK193.out 0).trans rfl, (blk_cell BK193.out 1).trans rfl, (blk_cell BK193.out 2).trans rfl, (blk_cell BK193.out 3).trans rfl, (blk_cell BK193.out 4).trans rfl, (blk_cell BK193.out 5).trans rfl, (blk_cell BK193.out 6).trans rfl, (blk_cell BK186.out 0).trans rfl, (blk_cell BK186.out 1).trans rfl, (blk_cell BK186.out 2).trans rfl, (blk_cell BK186.out 3).trans rfl, (blk_cell BK186.out 4).trans rfl, (blk_cell BK186.out 5).trans rfl, (blk_cell BK186.out 6).trans rfl⟩ (fun hHeld => ?_)
              clear hK K
              refine norm_ (a' := ?_) ?_ ?_
              rotate_left
              ·show Act.put _ (some 51) _ = _
               simp only [Act.put, List.setIfInBounds_toArray, List.set_cons_zero, List.set_cons_succ, i64_w, i32_w]
               rfl
              refine one_ (i := 10) (N := some 52) #[true, true, true, true, true, true, true, true, true, true, true, false] rfl rfl (one_of HT_.out (by kernel_rfl)) (by decide) (fun K hK => ?_)
              refine goes_ Try.func25 (by kernel_rfl) rfl #[.int .i64 x8_2, .int .i64 t196] (by rfl) rfl rfl (by (try simp only [List.map_toArray, List.map_cons, List.map_nil]); first | done | rfl | (simp only [List.length_drop, List.length_take]; rfl)) ?_
              with_reducible refine (fixed_Add.calls k2 x8_2 t196 t197 _ A27.out).mono ?_
              rintro e w36 ⟨rfl, hb⟩
              refine ⟨_, rfl, ?_⟩
              have n0_ := Aside0.mk (blk_below (g := gb186) (o := .cells #[.int .i64 ((rd_T25 y178 0).f0), .int .i64 ((rd_T25 y178 0).f1), .int .i64 ((rd_T25 y178 0).f2), .int .i64 ((rd_T25 y178 0).f3), .int .i64 ((rd_T25 y178 0).f4), .bool ((rd_T25 y178 0).f5), .bool ((rd_T25 y178 0).f6)] 25 (0, 0)) (by (with_reducible repeat (first | refine blk_drewN ?_ _ | refine blk_drew ?_ | refine blk_alloc ?_ _)); exact BK186.out) hb)
              have n1_ := Aside0.mk (blk_below (g := gb193) (o := .cells #[.int .i64 ((rd_T25 y187 x38_2).f0), .int .i64 ((rd_T25 y187 x38_2).f1), .int .i64 ((rd_T25 y187 x38_2).f2), .int .i64 ((rd_T25 y187 x38_2).f3), .int .i64 ((rd_T25 y187 x38_2).f4), .bool ((rd_T25 y187 x38_2).f5), .bool ((rd_T25 y187 x38_2).f6)] 25 (0, 0)) (by (with_reducible repeat (first | refine blk_drewN ?_ _ | refine blk_drew ?_ | refine blk_alloc ?_ _)); exact BK193.out) hb)
              have n2_ := Aside0.mk (below_step (by repeat (first | (with_reducible first | exact HB.out | apply below_alloc | apply pw_below_drewN | apply below_drew1 | refine below_set ?_ GE186.out | refine below_set ?_ GE193.out) | exact HB.out)) hb)
              clear BK186
              clear BK193
              clear HB
              have BK186 := n0_
              have BK193 := n1_
              have HB := n2_
              clear n0_ n1_ n2_
              (try clear hb)
              (try clear hb2)
              (try clear hk)
              (try clear hi)
              refine hK.out _ _ ⟨(blk_cell BK193.out 0).trans rfl, (blk_cell BK193.out 1).trans rfl, (blk_cell BK193.out 2).trans rfl, (blk_cell BK193.out 3).trans rfl, (blk_cell BK193.out 4).trans rfl, (blk_cell BK193.out 5).trans rfl, (blk_cell BK193.out 6).trans rfl, (blk_cell BK186.out 0).trans rfl, (blk_cell BK186.out 1).trans rfl, (blk_cell BK186.out 2).trans rfl, (blk_cell BK186.out 3).trans rfl, (blk_cell BK186.out 4).trans rfl, (blk_cell BK186.out 5).trans rfl, (blk_cell BK186.out 6).trans rfl⟩ (fun hHeld => ?_)
              clear hK K
              refine norm_ (a' := ?_) ?_ ?_
              rotate_left
              ·show Act.put _ (some 52) _ = _
               simp only [Act.put, List.setIfInBounds_toArray, List.set_cons_zero, List.set_cons_succ, i64_w, i32_w]
               rfl
              refine pure_ (i := 11) (N := some 8) (v := ?_) (a' := ?_) #[true, true, true, true, true, true, true, true, true, true, true, true] rfl rfl (any_of HT_.out (by kernel_rfl)) (fun _ _ _ h => h) (Or.inl ⟨by rfl, ?_⟩) ?_ ?_
              rotate_left
              ·intro w'
               go_simp
               with_reducible rfl
              rotate_left
              ·simp only [Act.put, List.setIfInBounds_toArray, List.set_cons_zero, List.set_cons_succ, i64_w, i32_w]
               rfl
              refine done_ (done_of HT_.out (by kernel_rfl)) ?_
              try go_wp2
              go_roundg k2
              case measure => have := HK1.out; have := HK2.out; omega
              case rel => exact ⟨(t197), (wrap64 (x38_2 + 1)), (by first | rfl | (simp; done) | (simp [*]; done)), (by first | rfl | (simp; done) | (simp [*]; done)), H', ⟨by have := HK1.out; have := HK2.out; omega⟩, ⟨by (with_reducible repeat (first | refine blk_drewN ?_ _ | refine blk_drew ?_ | refine blk_alloc ?_ _)); exact BK186.out⟩, ⟨by repeat (first | (with_reducible first | exact HB.out | apply below_alloc | apply pw_below_drewN | apply below_drew1 | refine below_set ?_ GE186.out | refine below_set ?_ GE193.out) | exact HB.out)⟩⟩
             ·rw [if_neg c23] at H
              exact absurd H (by simp)
            ·rw [if_neg c22] at H
             exact absurd H (by simp)
           ·rw [if_neg c21] at H
            have c21b0 : decide (x38_2 < (y187.length : Int)) = false := decide_eq_false c21
            clear c21
            replace H := Option.bind_eq_some_iff.mp H
            obtain ⟨t191, A370, H⟩ := H
            replace H : (some (x8_2, mx ((rd_T25 y178 0).f3) t191)) = some (r1, r2) := H
            have A37 := Aside0.mk A370
            clear A370
            obtain ⟨ji38, hji38⟩ : ∃ j_ : Int, (mx ((rd_T25 y178 0).f3) t191) = j_ := ⟨_, rfl⟩
            replace H : (some (x8_2, ji38)) = some (r1, r2) := by first | (rw [hji38] at H; exact H) | (simp only [hji38] at H ⊢; exact H)
            (try rw [hji38] at A37)
            have hji38_ : (if ((rd_T25 y178 0).f3) < t191 then t191 else ((rd_T25 y178 0).f3)) = ji38 := hji38
            simp only [Option.some.injEq, Prod.mk.injEq] at H
            obtain ⟨rfl, rfl⟩ := H
            try go_wp2
            have n0_ := Aside0.mk (blk_drew BK186.out)
            have n1_ := Aside0.mk (below_drew1 HB.out)
            clear BK186
            clear HB
            have BK186 := n0_
            have HB := n1_
            clear n0_ n1_
            refine start_ (n := 8) (S := fun w' => w'.cell? ⟨gb186, 0, none⟩ = some (.int .i64 ((rd_T25 y178 0).f0)) ∧ w'.cell? ⟨gb186, 1, none⟩ = some (.int .i64 ((rd_T25 y178 0).f1)) ∧ w'.cell? ⟨gb186, 2, none⟩ = some (.int .i64 ((rd_T25 y178 0).f2)) ∧ w'.cell? ⟨gb186, 3, none⟩ = some (.int .i64 ((rd_T25 y178 0).f3)) ∧ w'.cell? ⟨gb186, 4, none⟩ = some (.int .i64 ((rd_T25 y178 0).f4)) ∧ w'.cell? ⟨gb186, 5, none⟩ = some (.bool ((rd_T25 y178 0).f5)) ∧ w'.cell? ⟨gb186, 6, none⟩ = some (.bool ((rd_T25 y178 0).f6))) (ds := []) #[false, false, false, false, false, false, false, false] (by kernel_rfl) rfl rfl ⟨(blk_cell BK186.out 0).trans rfl, (blk_cell BK186.out 1).trans rfl, (blk_cell BK186.out 2).trans rfl, (blk_cell BK186.out 3).trans rfl, (blk_cell BK186.out 4).trans rfl, (blk_cell BK186.out 5).trans rfl, (blk_cell BK186.out 6).trans rfl⟩ (fun hHeld => ?_); refine with_tabW cluster_Combine.tab17 cluster_Combine.bits17 (fun HT_ HW_ => ?_)
            generalize wr.drew = w39 at BK186 HB hHeld ⊢
            refine pure_ (i := 0) (N := some 54) (v := ?_) (a' := ?_) #[true, false, false, false, false, false, false, false] rfl rfl (any_of HT_.out (by kernel_rfl)) (fun _ _ _ h => h) (Or.inl ⟨by rfl, ?_⟩) ?_ ?_
            rotate_left
            ·intro w'
             go_simp
             with_reducible rfl
            rotate_left
            ·simp only [Act.put, List.setIfInBounds_toArray, List.set_cons_zero, List.set_cons_succ, i64_w, i32_w]
             rfl
            refine pure_ (i := 1) (N := some 55) (v := ?_) (a' := ?_) #[true, true, false, false, false, false, false, false] rfl rfl (any_of HT_.out (by kernel_rfl)) (fun _ _ _ h => h) (Or.inl ⟨by rfl, ?_⟩) ?_ ?_
            rotate_left
            ·intro w'
             go_simp
             with_reducible rfl
            rotate_left
            ·simp only [Act.put, List.setIfInBounds_toArray, List.set_cons_zero, List.set_cons_succ, i64_w, i32_w]
             rfl
            refine pure_ (i := 3) (N := some 57) (v := ?_) (a' := ?_) #[true, true, false, true, false, false, false, false] rfl rfl (any_of HT_.out (by kernel_rfl)) (fun _ _ _ h => h) (Or.inl ⟨by rfl, ?_⟩) ?_ ?_
            rotate_left
            ·intro w'
             go_simp
             with_reducible rfl
            rotate_left
            ·simp only [Act.put, List.setIfInBounds_toArray, List.set_cons_zero, List.set_cons_succ, i64_w, i32_w]
             rfl
            refine take_ (i := 2) (N := some 56) (v := ?_) (a' := ?_) #[true, true, true, true, false, false, false, false] rfl rfl (take_ofW HT_.out HW_.out (by kernel_rfl)) (fun _ _ _ h => h) (Or.inl ⟨by rfl, ?_⟩) hHeld ?_ ?_
            rotate_left
            ·rintro w' ⟨s0, s1, s2, s3, s4, s5, s6⟩
             go_simp
             with_reducible rfl
            rotate_left
            ·simp only [Act.put, List.setIfInBounds_toArray, List.set_cons_zero, List.set_cons_succ, i64_w, i32_w]
             rfl
            refine one_ (i := 4) (N := some 58) #[true, true, true, true, true, false, false, false] rfl rfl (one_of HT_.out (by kernel_rfl)) (by decide) (fun K hK => ?_)
            refine goes_ Try.func28 (by kernel_rfl) rfl #[.slice (some ad185) y178.length c0, .int .i64 0] (by rfl) rfl rfl (by (try simp only [List.map_toArray, List.map_cons, List.map_nil]); first | done | rfl | (simp only [List.length_drop, List.length_take]; rfl)) ?_
            with_reducible refine (cluster_apart.calls k2 _ _ y178 0 t191 _ ?side1 ?side2 A37.out).mono ?_
            (case side1 => repeat (first | exact (Kd.C_below HR181.out HB.out) | (with_reducible refine Kd.C_alloc ?_ _) | (with_reducible refine Kd.C_drewN ?_ _) | (with_reducible refine Kd.C_drew ?_)))
            (case side2 => exact HC181.out)
            rintro e w40 ⟨rfl, hb⟩
            refine ⟨_, rfl, ?_⟩
            have n0_ := Aside0.mk (blk_below (g := gb186) (o := .cells #[.int .i64 ((rd_T25 y178 0).f0), .int .i64 ((rd_T25 y178 0).f1), .int .i64 ((rd_T25 y178 0).f2), .int .i64 ((rd_T25 y178 0).f3), .int .i64 ((rd_T25 y178 0).f4), .bool ((rd_T25 y178 0).f5), .bool ((rd_T25 y178 0).f6)] 25 (0, 0)) (by (with_reducible repeat (first | refine blk_drewN ?_ _ | refine blk_drew ?_ | refine blk_alloc ?_ _)); exact BK186.out) hb)
            have n1_ := Aside0.mk (below_step (by repeat (first | (with_reducible first | exact HB.out | apply below_alloc | apply pw_below_drewN | apply below_drew1 | refine below_set ?_ GE186.out) | exact HB.out)) hb)
            clear BK186
            clear HB
            have BK186 := n0_
            have HB := n1_
            clear n0_ n1_
            (try clear hb)
            (try clear hb2)
            (try clear hk)
            (try clear hi)
            refine hK.out _ _ ⟨(blk_cell BK186.out 0).trans rfl, (blk_cell BK186.out 1).trans rfl, (blk_cell BK186.out 2).trans rfl, (blk_cell BK186.out 3).trans rfl, (blk_cell BK186.out 4).trans rfl, (blk_cell BK186.out 5).trans rfl, (blk_cell BK186.out 6).trans rfl⟩ (fun hHeld => ?_)
            clear hK K
            refine norm_ (a' := ?_) ?_ ?_
            rotate_left
            ·show Act.put _ (some 58) _ = _
             simp only [Act.put, List.setIfInBounds_toArray, List.set_cons_zero, List.set_cons_succ, i64_w, i32_w]
             rfl
            refine pure_ (i := 5) (N := some 59) (v := ?_) (a' := ?_) #[true, true, true, true, true, true, false, false] rfl rfl (any_of HT_.out (by kernel_rfl)) (fun _ _ _ h => h) (Or.inl ⟨by rfl, ?_⟩) ?_ ?_
            rotate_left
            ·intro w'
             go_simp
             with_reducible rfl
            rotate_left
            ·simp only [Act.put, List.setIfInBounds_toArray, List.set_cons_zero, List.set_cons_succ, i64_w, i32_w]
             rfl
            refine pure_ (i := 6) (N := some 2) (v := ?_) (a' := ?_) #[true, true, true, true, true, true, true, false] rfl rfl (any_of HT_.out (by kernel_rfl)) (fun _ _ _ h => h) (Or.inl ⟨by rfl, ?_⟩) ?_ ?_
            rotate_left
            ·intro w'
             go_simp
             with_reducible rfl
            rotate_left
            ·simp only [Act.put, List.setIfInBounds_toArray, List.set_cons_zero, List.set_cons_succ, i64_w, i32_w]
             rfl
            refine pure_ (i := 7) (N := some 3) (v := ?_) (a' := ?_) #[true, true, true, true, true, true, true, true] rfl rfl (any_of HT_.out (by kernel_rfl)) (fun _ _ _ h => h) (Or.inl ⟨by rfl, ?_⟩) ?_ ?_
            rotate_left
            ·intro w'
             go_simp
             with_reducible rfl
            rotate_left
            ·simp only [Act.put, List.setIfInBounds_toArray, List.set_cons_zero, List.set_cons_succ, i64_w, i32_w]
             rfl
            refine done_ (done_of HT_.out (by kernel_rfl)) ?_
            try go_wp2
            go_ret2
            exact ⟨by first | rfl | (simp [errW_none, errW_some] <;> rfl) | (simp only [← hji3, ← hji38]; first | rfl | (simp [errW_none, errW_some] <;> rfl)) | (simp [*, errW_none, errW_some] <;> rfl), by repeat (first | (with_reducible first | exact HB.out | apply below_alloc | apply pw_below_drewN | apply below_drew1 | refine below_set ?_ GE186.out) | exact HB.out)⟩
        ·rw [if_neg c15] at H
         exact absurd H (by simp)
       ·rw [if_neg c14] at H
        exact absurd H (by simp)
   ·rw [if_neg c5] at H
    exact absurd H (by simp)
  ·rw [if_neg c4] at H
   exact absurd H (by simp)
end Go.Proofs.Ytigcmpmpjmbfkaa.PClusterShifted
