-- Written by a program (extend_print.py). Not trusted: Lean checks it.
import Derived.Test.YtgbffggaifnalaaPPeerShiftedx0
import Derived.Test.YtgbffggaifnalaaPPeerShiftedx4
namespace Go.Proofs.Ytgbffggaifnalaa.PPeerShifted
open Go.RowKit Go.Proofs.YtgbffggaifnalaaW.PrintWords Go.Proofs.YtgbffggaifnalaaW.PrintLast Go.Proofs.YtgbffggaifnalaaW.PrintMore
attribute [local go_sem] max2_int min2_int max_two min_two max_three min_three max_four min_four
set_option linter.unusedVariables false
set_option maxHeartbeats 8000000
set_option maxRecDepth 100000
set_option linter.unusedSimpArgs false
def foliotlaw10_PeerShifted.l0 : Nat → Int → Int → Int → Int → Int → Int → Option (Bool)
 | 0, _, _, _, _, _, _ => none
 | k + 1, x1, x5, x138000, x138001, x138002, x138003 => if x5 < 4 then (if 0 ≤ x5 then (if x5 = 0 then (foliotlaw10_PeerShifted.l0 k x1 (wrap64 (x5 + 1)) (IntKind.u64.wrap (x138000 + ((0 : Int) % 1125899906842624))) x138001 x138002 x138003) else (if x5 = 1 then (foliotlaw10_PeerShifted.l0 k x1 (wrap64 (x5 + 1)) x138000 (IntKind.u64.wrap (x138000 + (Int.tmod (IntKind.u64.wrap (x138001 - x138000)) 1125899906842624))) x138002 x138003) else (if x5 = 2 then (foliotlaw10_PeerShifted.l0 k x1 (wrap64 (x5 + 1)) x138000 x138001 (IntKind.u64.wrap (x138000 + (Int.tmod (IntKind.u64.wrap (x138002 - x138000)) 1125899906842624))) x138003) else (foliotlaw10_PeerShifted.l0 k x1 (wrap64 (x5 + 1)) x138000 x138001 x138002 (IntKind.u64.wrap (x138000 + (Int.tmod (IntKind.u64.wrap (x138003 - x138000)) 1125899906842624))))))) else (none)) else ((peer_Exchange.f k x138000 x138001 x138002 x138003).bind fun bt138 => ((peer_Exchange.f k x138000 (IntKind.u64.wrap (x138001 + (IntKind.u64.wrap (wrap64 (x1))))) (IntKind.u64.wrap (x138002 + (IntKind.u64.wrap (wrap64 (x1))))) x138003).bind fun bt140 => (if (wrap64 (bt140.1 - bt138.1)) = (wrap64 (x1)) then (if bt138.2 = bt140.2 then (some (decide (bt138.2 ≥ 4096))) else (some false)) else (some false))))
def foliotlaw10_PeerShifted.f (k : Nat) (a0_0 : Int) (a0_1 : Int) (a0_2 : Int) (a0_3 : Int) (a1 : Int) : Option (Bool) := foliotlaw10_PeerShifted.l0 k a1 1 a0_0 a0_1 a0_2 a0_3
def foliotlaw10_PeerShifted.T4 : Bool × List (List Nat × List Nat) := (true, [([], []), ([], []), ([1], [1]), ([], []), ([3], [3]), ([4], [4]), ([], []), ([6], [6]), ([5, 7], [5, 7]), ([8], [8]), ([2, 9], [2, 9]), ([0, 0, 1, 2, 3, 4, 5, 6, 7, 8, 9, 10], [0]), ([11, 10, 0, 1, 2, 3, 4, 5, 6, 7, 8, 9, 10], [10, 11])])
def foliotlaw10_PeerShifted.B4 : List Nat := [0, 0, 2, 0, 8, 24, 0, 64, 248, 504, 1022, 2047, 4095]
theorem foliotlaw10_PeerShifted.tab4 : rtab .any (opsOf Try.f3 4) = foliotlaw10_PeerShifted.T4 := by kernel_rfl
theorem foliotlaw10_PeerShifted.bits4 : waitsOk foliotlaw10_PeerShifted.T4.2 foliotlaw10_PeerShifted.B4 = true := by kernel_rfl
theorem foliotlaw10_PeerShifted.calls (k : Nat) (a0_0 : Int) (a0_1 : Int) (a0_2 : Int) (a0_3 : Int) (a1 : Int) (r : Bool) (w : World) (hrt_ : r = true) (h : foliotlaw10_PeerShifted.f k a0_0 a0_1 a0_2 a0_3 a1 = some r) :
  Calls Try.prog 3 #[.agg #[.int .u64 a0_0, .int .u64 a0_1, .int .u64 a0_2, .int .u64 a0_3], .int .i32 a1] w fun e w' => e = .returned (.bool r) ∧ Below w.heap.size w w' := by
 have hu24 := Try.underlying24
 have hia24 : Aside0 (∀ (g_ : Nat) (i_ : Int), 0 ≤ i_ → i_ < 4 → ∀ (w_ : World), (Instr.indexAt 24 (.pointer (some ⟨g_, 0, none⟩)) (.int .i64 i_)).run Try.prog w_ = .ok (.pointer (some ⟨g_, i_.toNat, none⟩)) w_) := Aside0.mk fun g_ i_ h0_ h1_ w_ => by
  rcases (show i_ = 0 ∨ i_ = 1 ∨ i_ = 2 ∨ i_ = 3 by omega) with rfl | rfl | rfl | rfl <;> first | rfl | kernel_rfl
 have hra24 : Aside0 (∀ {w_ : World} {g_ : Nat} {x0_ x1_ x2_ x3_ i_ : Int}, w_.heap[g_]? = some (.cells #[.int .u64 x0_, .int .u64 x1_, .int .u64 x2_, .int .u64 x3_] 24 (0, 0)) → 0 ≤ i_ → i_ < 4 → w_.cell? ⟨g_, i_.toNat, none⟩ = some (.int .u64 (rd [x0_, x1_, x2_, x3_] i_))) := Aside0.mk fun {w_ g_ x0_ x1_ x2_ x3_ i_} hb_ h0_ h1_ => by
  rcases (show _ by omega : i_ = 0 ∨ i_ = 1 ∨ i_ = 2 ∨ i_ = 3) with rfl | rfl | rfl | rfl <;> exact (blk_cell hb_ _).trans rfl
 have HB := Aside0.mk (Below.refl w.heap.size w)
 have H : (foliotlaw10_PeerShifted.l0 k a1 1 a0_0 a0_1 a0_2 a0_3) = some r := h
 clear h
 have H' := Aside0.mk H
 clear H
 go_enter Try.func3, Try.ntmps3
 go_wp2_with (first | ((with_reducible refine gate_dst (N := 2) rfl ?_); refine box_event ?hg (N := 2) ?hd (cs := #[.int .u64 a0_0, .int .u64 a0_1, .int .u64 a0_2, .int .u64 a0_3]) (t := 24) ?hr ?_; (case hd => rfl); (case hg => rfl); (case hr => first | (go_simp; done) | (go_simp; rfl)); intro gb137 hg w3 hbox hb; have n0_ := Aside0.mk (below_step (by repeat (first | (with_reducible first | exact HB.out | apply below_alloc | apply pw_below_drewN | apply below_drew1) | exact HB.out)) hb); have n1_ := Aside0.mk (hbox); have n2_ := Aside0.mk ((by rw [hg]; exact (below_size (by repeat (first | (with_reducible first | exact HB.out | apply below_alloc | apply pw_below_drewN | apply below_drew1) | exact HB.out))) : w.heap.size ≤ gb137)); have n3_ := Aside0.mk ((by rw [hg]; exact (below_size (by repeat (first | (with_reducible first | exact HB.out | apply below_alloc | apply pw_below_drewN | apply below_drew1) | exact HB.out))) : w.heap.size ≤ gb137)); clear HB; have HB := n0_; have BK137 := n1_; have GW137 := n2_; have GE137 := n3_; clear n0_ n1_ n2_ n3_; clear hb hbox hg))
 go_loopg [5] k (fun kq v5 w' => ∃ (x5_1 : Int) (x138000_1 : Int) (x138001_1 : Int) (x138002_1 : Int) (x138003_1 : Int), v5 = .int .i64 x5_1 ∧ Aside0 (foliotlaw10_PeerShifted.l0 kq a1 x5_1 x138000_1 x138001_1 x138002_1 x138003_1 = some r) ∧ Aside0 (kq ≤ k) ∧ Aside0 (w'.heap[gb137]? = some (.cells #[.int .u64 x138000_1, .int .u64 x138001_1, .int .u64 x138002_1, .int .u64 x138003_1] 24 (0, 0))) ∧ Aside0 (Below w.heap.size w w'))
 case atStart => exact ⟨(1), (a0_0), (a0_1), (a0_2), (a0_3), (by first | rfl | (simp; done) | (simp [*]; done) | (simp only [Value.int.injEq, true_and]; unfold wrap64; omega)), H', ⟨Nat.le_refl _⟩, ⟨by (with_reducible repeat (first | refine blk_drewN ?_ _ | refine blk_drew ?_ | refine blk_alloc ?_ _)); exact BK137.out⟩, ⟨by repeat (first | (with_reducible first | exact HB.out | apply below_alloc | apply pw_below_drewN | apply below_drew1 | refine below_set ?_ GE137.out) | exact HB.out)⟩⟩
 case round =>
  clear H'
  try clear p2
  try clear c3
  obtain ⟨x5_1, x138000_1, x138001_1, x138002_1, x138003_1, rfl, HA, HK1, BK137, HB⟩ := hrel
  cases gk with
  | zero => exact absurd HA.out (by simp [foliotlaw10_PeerShifted.l0])
  | succ k1 =>
   have H := HA.out
   clear HA
   simp only [foliotlaw10_PeerShifted.l0] at H
   by_cases c4 : x5_1 < 4
   ·rw [if_pos c4] at H
    have c4b0 : decide (x5_1 < 4) = true := decide_eq_true c4
    clear c4
    by_cases c6 : 0 ≤ x5_1
    ·rw [if_pos c6] at H
     have c6b0 : decide (0 ≤ x5_1) = true := decide_eq_true c6
     clear c6
     by_cases c7 : x5_1 = 0
     ·rw [if_pos c7] at H
      have c7b0 : (x5_1 == 0) = true := beq_iff_eq.mpr c7
      have c7b1 : (x5_1 != 0) = false := bne_eq_false_iff_eq.mpr c7
      clear c7
      have H' := Aside0.mk H
      clear H
      try go_wp2
      have n0_ := Aside0.mk (blk_drew BK137.out)
      have n1_ := Aside0.mk (below_drew1 HB.out)
      clear BK137
      clear HB
      have BK137 := n0_
      have HB := n1_
      clear n0_ n1_
      have hx5 : ∀ w_ : World, (Instr.indexAt 24 (.pointer (some ⟨gb137, 0, none⟩)) (.int .i64 0)).run Try.prog w_ = .ok (.pointer (some ⟨gb137, 0, none⟩)) w_ := (fun w_ => by first | rfl | kernel_rfl)
      have hj8 : (x5_1 : Int) = 0 := (by first | rfl | omega | exact eq_of_beq (by assumption) | (have h0_ : (0 : Int) ≤ x5_1 := of_decide_eq_true (by first | (with_reducible assumption) | assumption); have h1_ : (x5_1 : Int) < 4 := of_decide_eq_true (by first | (with_reducible assumption) | assumption); omega))
      have hx8 : ∀ w_ : World, (Instr.indexAt 24 (.pointer (some ⟨gb137, 0, none⟩)) (.int .i64 x5_1)).run Try.prog w_ = .ok (.pointer (some ⟨gb137, 0, none⟩)) w_ := (fun w_ => by rw [hj8]; first | rfl | kernel_rfl)
      replace hj8 : (x5_1 : Int).toNat = 0 := (by rw [hj8]; rfl)
      have hx9 : ∀ w_ : World, (Instr.indexAt 24 (.pointer (some ⟨gb137, 0, none⟩)) (.int .i64 0)).run Try.prog w_ = .ok (.pointer (some ⟨gb137, 0, none⟩)) w_ := (fun w_ => by first | rfl | kernel_rfl)
      have hj10 : (x5_1 : Int) = 0 := (by first | rfl | omega | exact eq_of_beq (by assumption) | (have h0_ : (0 : Int) ≤ x5_1 := of_decide_eq_true (by first | (with_reducible assumption) | assumption); have h1_ : (x5_1 : Int) < 4 := of_decide_eq_true (by first | (with_reducible assumption) | assumption); omega))
      have hx10 : ∀ w_ : World, (Instr.indexAt 24 (.pointer (some ⟨gb137, 0, none⟩)) (.int .i64 x5_1)).run Try.prog w_ = .ok (.pointer (some ⟨gb137, 0, none⟩)) w_ := (fun w_ => by rw [hj10]; first | rfl | kernel_rfl)
      replace hj10 : (x5_1 : Int).toNat = 0 := (by rw [hj10]; rfl)
      refine start_ (n := 13) (S := fun w' => w'.cell? ⟨gb137, 0, none⟩ = some (.int .u64 x138000_1) ∧ w'.cell? ⟨gb137, 1, none⟩ = some (.int .u64 x138001_1) ∧ w'.cell? ⟨gb137, 2, none⟩ = some (.int .u64 x138002_1) ∧ w'.cell? ⟨gb137, 3, none⟩ = some (.int .u64 x138003_1)) (ds := [12]) #[false, false, false, false, false, false, false, false, false, false, false, false, false] (by kernel_rfl) rfl rfl ⟨(blk_cell BK137.out 0).trans rfl, (blk_cell BK137.out 1).trans rfl, (blk_cell BK137.out 2).trans rfl, (blk_cell BK137.out 3).trans rfl⟩ (fun hHeld => ?_); refine with_tabW foliotlaw10_PeerShifted.tab4 foliotlaw10_PeerShifted.bits4 (fun HT_ HW_ => ?_)
      generalize wr.drew = w11 at BK137 HB hHeld ⊢
      refine pure_ (i := 0) (N := some 15) (v := ?_) (a' := ?_) #[true, false, false, false, false, false, false, false, false, false, false, false, false] rfl rfl (any_of HT_.out (by kernel_rfl)) (fun _ _ _ h => h) (Or.inl ⟨by rfl, ?_⟩) ?_ ?_
      rotate_left
      ·intro w'
       go_simp
       with_reducible rfl
      rotate_left
      ·simp only [Act.put, List.setIfInBounds_toArray, List.set_cons_zero, List.set_cons_succ, i64_w, i32_w]
       rfl
      refine pure_ (i := 1) (N := some 16) (v := ?_) (a' := ?_) #[true, true, false, false, false, false, false, false, false, false, false, false, false] rfl rfl (any_of HT_.out (by kernel_rfl)) (fun _ _ _ h => h) (Or.inl ⟨by rfl, ?_⟩) ?_ ?_
      rotate_left
      ·intro w'
       go_simp
       with_reducible rfl
      rotate_left
      ·simp only [Act.put, List.setIfInBounds_toArray, List.set_cons_zero, List.set_cons_succ, i64_w, i32_w]
       rfl
      refine pure_ (i := 3) (N := some 18) (v := ?_) (a' := ?_) #[true, true, false, true, false, false, false, false, false, false, false, false, false] rfl rfl (any_of HT_.out (by kernel_rfl)) (fun _ _ _ h => h) (Or.inl ⟨by rfl, ?_⟩) ?_ ?_
      rotate_left
      ·intro w'
       go_simp
       with_reducible rfl
      rotate_left
      ·simp only [Act.put, List.setIfInBounds_toArray, List.set_cons_zero, List.set_cons_succ, i64_w, i32_w]
       rfl
      refine pure_ (i := 4) (N := some 19) (v := ?_) (a' := ?_) #[true, true, false, true, true, false, false, false, false, false, false, false, false] rfl rfl (any_of HT_.out (by kernel_rfl)) (fun _ _ _ h => h) (Or.inl ⟨by rfl, ?_⟩) ?_ ?_
      rotate_left
      ·intro w'
       go_simp
       with_reducible rfl
      rotate_left
      ·simp only [Act.put, List.setIfInBounds_toArray, List.set_cons_zero, List.set_cons_succ, i64_w, i32_w]
       rfl
      refine pure_ (i := 6) (N := some 21) (v := ?_) (a' := ?_) #[true, true, false, true, true, false, true, false, false, false, false, false, false] rfl rfl (any_of HT_.out (by kernel_rfl)) (fun _ _ _ h => h) (Or.inl ⟨by rfl, ?_⟩) ?_ ?_
      rotate_left
      ·intro w'
       go_simp
       with_reducible rfl
      rotate_left
      ·simp only [Act.put, List.setIfInBounds_toArray, List.set_cons_zero, List.set_cons_succ, i64_w, i32_w]
       rfl
      refine take_ (i := 2) (N := some 17) (v := ?_) (a' := ?_) #[true, true, true, true, true, false, true, false, false, false, false, false, false] rfl rfl (take_ofW HT_.out HW_.out (by kernel_rfl)) (fun _ _ _ h => h) (Or.inl ⟨by rfl, ?_⟩) hHeld ?_ ?_
      rotate_left
      ·rintro w' ⟨s0, s1, s2, s3⟩
       go_simp
       with_reducible rfl
      rotate_left
      ·simp only [Act.put, List.setIfInBounds_toArray, List.set_cons_zero, List.set_cons_succ, i64_w, i32_w]
       rfl
      refine take_ (i := 5) (N := some 20) (v := ?_) (a' := ?_) #[true, true, true, true, true, true, true, false, false, false, false, false, false] rfl rfl (take_ofW HT_.out HW_.out (by kernel_rfl)) (fun _ _ _ h => h) (Or.inl ⟨by rfl, ?_⟩) hHeld ?_ ?_
      rotate_left
      ·rintro w' ⟨s0, s1, s2, s3⟩
       go_simp
       with_reducible rfl
      rotate_left
      ·simp only [Act.put, List.setIfInBounds_toArray, List.set_cons_zero, List.set_cons_succ, i64_w, i32_w]
       rfl
      refine take_ (i := 7) (N := some 22) (v := ?_) (a' := ?_) #[true, true, true, true, true, true, true, true, false, false, false, false, false] rfl rfl (take_ofW HT_.out HW_.out (by kernel_rfl)) (fun _ _ _ h => h) (Or.inl ⟨by rfl, ?_⟩) hHeld ?_ ?_
      rotate_left
      ·rintro w' ⟨s0, s1, s2, s3⟩
       go_simp
       with_reducible rfl
      rotate_left
      ·simp only [Act.put, List.setIfInBounds_toArray, List.set_cons_zero, List.set_cons_succ, i64_w, i32_w]
       rfl
      refine pure_ (i := 8) (N := some 23) (v := ?_) (a' := ?_) #[true, true, true, true, true, true, true, true, true, false, false, false, false] rfl rfl (any_of HT_.out (by kernel_rfl)) (fun _ _ _ h => h) (Or.inl ⟨by rfl, ?_⟩) ?_ ?_
      rotate_left
      ·intro w'
       go_simp
       with_reducible rfl
      rotate_left
      ·simp only [Act.put, List.setIfInBounds_toArray, List.set_cons_zero, List.set_cons_succ, i64_w, i32_w]
       rfl
      refine pure_ (i := 9) (N := some 24) (v := ?_) (a' := ?_) #[true, true, true, true, true, true, true, true, true, true, false, false, false] rfl rfl (any_of HT_.out (by kernel_rfl)) (fun _ _ _ h => h) (Or.inl ⟨by rfl, ?_⟩) ?_ ?_
      rotate_left
      ·intro w'
       go_simp
       with_reducible rfl
      rotate_left
      ·simp only [Act.put, List.setIfInBounds_toArray, List.set_cons_zero, List.set_cons_succ, i64_w, i32_w]
       rfl
      refine pure_ (i := 10) (N := some 25) (v := ?_) (a' := ?_) #[true, true, true, true, true, true, true, true, true, true, true, false, false] rfl rfl (any_of HT_.out (by kernel_rfl)) (fun _ _ _ h => h) (Or.inl ⟨by rfl, ?_⟩) ?_ ?_
      rotate_left
      ·intro w'
       go_simp
       with_reducible rfl
      rotate_left
      ·simp only [Act.put, List.setIfInBounds_toArray, List.set_cons_zero, List.set_cons_succ, i64_w, i32_w]
       rfl
      refine pure_ (i := 11) (N := some 26) (v := ?_) (a' := ?_) #[true, true, true, true, true, true, true, true, true, true, true, true, false] rfl rfl (any_of HT_.out (by kernel_rfl)) (fun _ _ _ h => h) (Or.inl ⟨by rfl, ?_⟩) ?_ ?_
      rotate_left
      ·intro w'
       go_simp
       with_reducible rfl
      rotate_left
      ·simp only [Act.put, List.setIfInBounds_toArray, List.set_cons_zero, List.set_cons_succ, i64_w, i32_w]
       rfl
      refine last_ (i := 12) (N := none) #[true, true, true, true, true, true, true, true, true, true, true, true, true] rfl rfl (one_of HT_.out (by kernel_rfl)) (by decide) (fun K hK => ?_)
      have hs12 : w11.cell? ⟨gb137, 0, none⟩ = some (.int .u64 x138000_1) := (blk_cell BK137.out 0).trans rfl
      have hfs12 := blk_frozen BK137.out 0
      refine skip_ (w1 := ?_) (by rfl) rfl ?_ ?_
      rotate_left
      ·go_simp
       rfl
      refine hK.out _ _ ?_
      clear hK K
      refine done_ (done_of HT_.out (by kernel_rfl)) ?_
      try go_wp2
      go_roundg k1
      case measure => have := HK1.out; omega
      case rel => exact ⟨(wrap64 (x5_1 + 1)), (IntKind.u64.wrap (x138000_1 + ((0 : Int) % 1125899906842624))), (x138001_1), (x138002_1), (x138003_1), (by first | rfl | (simp; done) | (simp [*]; done) | (simp only [Value.int.injEq, true_and]; unfold wrap64; omega)), H', ⟨by have := HK1.out; omega⟩, ⟨by (with_reducible repeat (first | refine blk_drewN ?_ _ | refine blk_drew ?_ | refine blk_alloc ?_ _)); refine blk_put (cs := #[.int .u64 x138000_1, .int .u64 x138001_1, .int .u64 x138002_1, .int .u64 x138003_1]) ?_ 0 _ rfl; (with_reducible repeat (first | refine blk_drewN ?_ _ | refine blk_drew ?_ | refine blk_alloc ?_ _)); exact BK137.out⟩, ⟨by repeat (first | (with_reducible first | exact HB.out | apply below_alloc | apply pw_below_drewN | apply below_drew1 | refine below_set ?_ GE137.out) | exact HB.out)⟩⟩
     ·rw [if_neg c7] at H
      have c7b0 : (x5_1 == 0) = false := beq_eq_false_iff_ne.mpr c7
      have c7b1 : (x5_1 != 0) = true := bne_iff_ne.mpr c7
      by_cases c13 : x5_1 = 1
      ·rw [if_pos c13] at H
       have c13b0 : (x5_1 == 1) = true := beq_iff_eq.mpr c13
       have c13b1 : (x5_1 != 1) = false := bne_eq_false_iff_eq.mpr c13
       clear c13
       have H' := Aside0.mk H
       clear H
       try go_wp2
       have n0_ := Aside0.mk (blk_drew BK137.out)
       have n1_ := Aside0.mk (below_drew1 HB.out)
       clear BK137
       clear HB
       have BK137 := n0_
       have HB := n1_
       clear n0_ n1_
       have hx5 : ∀ w_ : World, (Instr.indexAt 24 (.pointer (some ⟨gb137, 0, none⟩)) (.int .i64 0)).run Try.prog w_ = .ok (.pointer (some ⟨gb137, 0, none⟩)) w_ := (fun w_ => by first | rfl | kernel_rfl)
       have hj14 : (x5_1 : Int) = 1 := (by first | rfl | omega | exact eq_of_beq (by assumption) | (have h0_ : (0 : Int) ≤ x5_1 := of_decide_eq_true (by first | (with_reducible assumption) | assumption); have h1_ : (x5_1 : Int) < 4 := of_decide_eq_true (by first | (with_reducible assumption) | assumption); omega))
       have hx14 : ∀ w_ : World, (Instr.indexAt 24 (.pointer (some ⟨gb137, 0, none⟩)) (.int .i64 x5_1)).run Try.prog w_ = .ok (.pointer (some ⟨gb137, 1, none⟩)) w_ := (fun w_ => by rw [hj14]; first | rfl | kernel_rfl)
       replace hj14 : (x5_1 : Int).toNat = 1 := (by rw [hj14]; rfl)
       have hx15 : ∀ w_ : World, (Instr.indexAt 24 (.pointer (some ⟨gb137, 0, none⟩)) (.int .i64 0)).run Try.prog w_ = .ok (.pointer (some ⟨gb137, 0, none⟩)) w_ := (fun w_ => by first | rfl | kernel_rfl)
       have hj16 : (x5_1 : Int) = 1 := (by first | rfl | omega | exact eq_of_beq (by assumption) | (have h0_ : (0 : Int) ≤ x5_1 := of_decide_eq_true (by first | (with_reducible assumption) | assumption); have h1_ : (x5_1 : Int) < 4 := of_decide_eq_true (by first | (with_reducible assumption) | assumption); omega))
       have hx16 : ∀ w_ : World, (Instr.indexAt 24 (.pointer (some ⟨gb137, 0, none⟩)) (.int .i64 x5_1)).run Try.prog w_ = .ok (.pointer (some ⟨gb137, 1, none⟩)) w_ := (fun w_ => by rw [hj16]; first | rfl | kernel_rfl)
       replace hj16 : (x5_1 : Int).toNat = 1 := (by rw [hj16]; rfl)
       refine start_ (n := 13) (S := fun w' => w'.cell? ⟨gb137, 0, none⟩ = some (.int .u64 x138000_1) ∧ w'.cell? ⟨gb137, 1, none⟩ = some (.int .u64 x138001_1) ∧ w'.cell? ⟨gb137, 2, none⟩ = some (.int .u64 x138002_1) ∧ w'.cell? ⟨gb137, 3, none⟩ = some (.int .u64 x138003_1)) (ds := [12]) #[false, false, false, false, false, false, false, false, false, false, false, false, false] (by kernel_rfl) rfl rfl ⟨(blk_cell BK137.out 0).trans rfl, (blk_cell BK137.out 1).trans rfl, (blk_cell BK137.out 2).trans rfl, (blk_cell BK137.out 3).trans rfl⟩ (fun hHeld => ?_); refine with_tabW foliotlaw10_PeerShifted.tab4 foliotlaw10_PeerShifted.bits4 (fun HT_ HW_ => ?_)
       generalize wr.drew = w17 at BK137 HB hHeld ⊢
       refine pure_ (i := 0) (N := some 15) (v := ?_) (a' := ?_) #[true, false, false, false, false, false, false, false, false, false, false, false, false] rfl rfl (any_of HT_.out (by kernel_rfl)) (fun _ _ _ h => h) (Or.inl ⟨by rfl, ?_⟩) ?_ ?_
       rotate_left
       ·intro w'
        go_simp
        with_reducible rfl
       rotate_left
       ·simp only [Act.put, List.setIfInBounds_toArray, List.set_cons_zero, List.set_cons_succ, i64_w, i32_w]
        rfl
       refine pure_ (i := 1) (N := some 16) (v := ?_) (a' := ?_) #[true, true, false, false, false, false, false, false, false, false, false, false, false] rfl rfl (any_of HT_.out (by kernel_rfl)) (fun _ _ _ h => h) (Or.inl ⟨by rfl, ?_⟩) ?_ ?_
       rotate_left
       ·intro w'
        go_simp
        with_reducible rfl
       rotate_left
       ·simp only [Act.put, List.setIfInBounds_toArray, List.set_cons_zero, List.set_cons_succ, i64_w, i32_w]
        rfl
       refine pure_ (i := 3) (N := some 18) (v := ?_) (a' := ?_) #[true, true, false, true, false, false, false, false, false, false, false, false, false] rfl rfl (any_of HT_.out (by kernel_rfl)) (fun _ _ _ h => h) (Or.inl ⟨by rfl, ?_⟩) ?_ ?_
       rotate_left
       ·intro w'
        go_simp
        with_reducible rfl
       rotate_left
       ·simp only [Act.put, List.setIfInBounds_toArray, List.set_cons_zero, List.set_cons_succ, i64_w, i32_w]
        rfl
       refine pure_ (i := 4) (N := some 19) (v := ?_) (a' := ?_) #[true, true, false, true, true, false, false, false, false, false, false, false, false] rfl rfl (any_of HT_.out (by kernel_rfl)) (fun _ _ _ h => h) (Or.inl ⟨by rfl, ?_⟩) ?_ ?_
       rotate_left
       ·intro w'
        go_simp
        with_reducible rfl
       rotate_left
       ·simp only [Act.put, List.setIfInBounds_toArray, List.set_cons_zero, List.set_cons_succ, i64_w, i32_w]
        rfl
       refine pure_ (i := 6) (N := some 21) (v := ?_) (a' := ?_) #[true, true, false, true, true, false, true, false, false, false, false, false, false] rfl rfl (any_of HT_.out (by kernel_rfl)) (fun _ _ _ h => h) (Or.inl ⟨by rfl, ?_⟩) ?_ ?_
       rotate_left
       ·intro w'
        go_simp
        with_reducible rfl
       rotate_left
       ·simp only [Act.put, List.setIfInBounds_toArray, List.set_cons_zero, List.set_cons_succ, i64_w, i32_w]
        rfl
       refine take_ (i := 2) (N := some 17) (v := ?_) (a' := ?_) #[true, true, true, true, true, false, true, false, false, false, false, false, false] rfl rfl (take_ofW HT_.out HW_.out (by kernel_rfl)) (fun _ _ _ h => h) (Or.inl ⟨by rfl, ?_⟩) hHeld ?_ ?_
       rotate_left
       ·rintro w' ⟨s0, s1, s2, s3⟩
        go_simp
        with_reducible rfl
       rotate_left
       ·simp only [Act.put, List.setIfInBounds_toArray, List.set_cons_zero, List.set_cons_succ, i64_w, i32_w]
        rfl
       refine take_ (i := 5) (N := some 20) (v := ?_) (a' := ?_) #[true, true, true, true, true, true, true, false, false, false, false, false, false] rfl rfl (take_ofW HT_.out HW_.out (by kernel_rfl)) (fun _ _ _ h => h) (Or.inl ⟨by rfl, ?_⟩) hHeld ?_ ?_
       rotate_left
       ·rintro w' ⟨s0, s1, s2, s3⟩
        go_simp
        with_reducible rfl
       rotate_left
       ·simp only [Act.put, List.setIfInBounds_toArray, List.set_cons_zero, List.set_cons_succ, i64_w, i32_w]
        rfl
       refine take_ (i := 7) (N := some 22) (v := ?_) (a' := ?_) #[true, true, true, true, true, true, true, true, false, false, false, false, false] rfl rfl (take_ofW HT_.out HW_.out (by kernel_rfl)) (fun _ _ _ h => h) (Or.inl ⟨by rfl, ?_⟩) hHeld ?_ ?_
       rotate_left
       ·rintro w' ⟨s0, s1, s2, s3⟩
        go_simp
        with_reducible rfl
       rotate_left
       ·simp only [Act.put, List.setIfInBounds_toArray, List.set_cons_zero, List.set_cons_succ, i64_w, i32_w]
        rfl
       refine pure_ (i := 8) (N := some 23) (v := ?_) (a' := ?_) #[true, true, true, true, true, true, true, true, true, false, false, false, false] rfl rfl (any_of HT_.out (by kernel_rfl)) (fun _ _ _ h => h) (Or.inl ⟨by rfl, ?_⟩) ?_ ?_
       rotate_left
       ·intro w'
        go_simp
        with_reducible rfl
       rotate_left
       ·simp only [Act.put, List.setIfInBounds_toArray, List.set_cons_zero, List.set_cons_succ, i64_w, i32_w]
        rfl
       refine pure_ (i := 9) (N := some 24) (v := ?_) (a' := ?_) #[true, true, true, true, true, true, true, true, true, true, false, false, false] rfl rfl (any_of HT_.out (by kernel_rfl)) (fun _ _ _ h => h) (Or.inl ⟨by rfl, ?_⟩) ?_ ?_
       rotate_left
       ·intro w'
        go_simp
        with_reducible rfl
       rotate_left
       ·simp only [Act.put, List.setIfInBounds_toArray, List.set_cons_zero, List.set_cons_succ, i64_w, i32_w]
        rfl
       refine pure_ (i := 10) (N := some 25) (v := ?_) (a' := ?_) #[true, true, true, true, true, true, true, true, true, true, true, false, false] rfl rfl (any_of HT_.out (by kernel_rfl)) (fun _ _ _ h => h) (Or.inl ⟨by rfl, ?_⟩) ?_ ?_
       rotate_left
       ·intro w'
        go_simp
        with_reducible rfl
       rotate_left
       ·simp only [Act.put, List.setIfInBounds_toArray, List.set_cons_zero, List.set_cons_succ, i64_w, i32_w]
        rfl
       refine pure_ (i := 11) (N := some 26) (v := ?_) (a' := ?_) #[true, true, true, true, true, true, true, true, true, true, true, true, false] rfl rfl (any_of HT_.out (by kernel_rfl)) (fun _ _ _ h => h) (Or.inl ⟨by rfl, ?_⟩) ?_ ?_
       rotate_left
       ·intro w'
        go_simp
        with_reducible rfl
       rotate_left
       ·simp only [Act.put, List.setIfInBounds_toArray, List.set_cons_zero, List.set_cons_succ, i64_w, i32_w]
        rfl
       refine last_ (i := 12) (N := none) #[true, true, true, true, true, true, true, true, true, true, true, true, true] rfl rfl (one_of HT_.out (by kernel_rfl)) (by decide) (fun K hK => ?_)
       have hs18 : w17.cell? ⟨gb137, 1, none⟩ = some (.int .u64 x138001_1) := (blk_cell BK137.out 1).trans rfl
       have hfs18 := blk_frozen BK137.out 1
       refine skip_ (w1 := ?_) (by rfl) rfl ?_ ?_
       rotate_left
       ·go_simp
        rfl
       refine hK.out _ _ ?_
       clear hK K
       refine done_ (done_of HT_.out (by kernel_rfl)) ?_
       try go_wp2
       go_roundg k1
       case measure => have := HK1.out; omega
       case rel => exact ⟨(wrap64 (x5_1 + 1)), (x138000_1), (IntKind.u64.wrap (x138000_1 + (Int.tmod (IntKind.u64.wrap (x138001_1 - x138000_1)) 1125899906842624))), (x138002_1), (x138003_1), (by first | rfl | (simp; done) | (simp [*]; done) | (simp only [Value.int.injEq, true_and]; unfold wrap64; omega)), H', ⟨by have := HK1.out; omega⟩, ⟨by (with_reducible repeat (first | refine blk_drewN ?_ _ | refine blk_drew ?_ | refine blk_alloc ?_ _)); refine blk_put (cs := #[.int .u64 x138000_1, .int .u64 x138001_1, .int .u64 x138002_1, .int .u64 x138003_1]) ?_ 1 _ rfl; (with_reducible repeat (first | refine blk_drewN ?_ _ | refine blk_drew ?_ | refine blk_alloc ?_ _)); exact BK137.out⟩, ⟨by repeat (first | (with_reducible first | exact HB.out | apply below_alloc | apply pw_below_drewN | apply below_drew1 | refine below_set ?_ GE137.out) | exact HB.out)⟩⟩
      ·rw [if_neg c13] at H
       have c13b0 : (x5_1 == 1) = false := beq_eq_false_iff_ne.mpr c13
       have c13b1 : (x5_1 != 1) = true := bne_iff_ne.mpr c13
       by_cases c19 : x5_1 = 2
       ·rw [if_pos c19] at H
        have c19b0 : (x5_1 == 2) = true := beq_iff_eq.mpr c19
        have c19b1 : (x5_1 != 2) = false := bne_eq_false_iff_eq.mpr c19
        clear c19
        have H' := Aside0.mk H
        clear H
        try go_wp2
        have n0_ := Aside0.mk (blk_drew BK137.out)
        have n1_ := Aside0.mk (below_drew1 HB.out)
        clear BK137
        clear HB
        have BK137 := n0_
        have HB := n1_
        clear n0_ n1_
        have hx5 : ∀ w_ : World, (Instr.indexAt 24 (.pointer (some ⟨gb137, 0, none⟩)) (.int .i64 0)).run Try.prog w_ = .ok (.pointer (some ⟨gb137, 0, none⟩)) w_ := (fun w_ => by first | rfl | kernel_rfl)
        have hj20 : (x5_1 : Int) = 2 := (by first | rfl | omega | exact eq_of_beq (by assumption) | (have h0_ : (0 : Int) ≤ x5_1 := of_decide_eq_true (by first | (with_reducible assumption) | assumption); have h1_ : (x5_1 : Int) < 4 := of_decide_eq_true (by first | (with_reducible assumption) | assumption); omega))
        have hx20 : ∀ w_ : World, (Instr.indexAt 24 (.pointer (some ⟨gb137, 0, none⟩)) (.int .i64 x5_1)).run Try.prog w_ = .ok (.pointer (some ⟨gb137, 2, none⟩)) w_ := (fun w_ => by rw [hj20]; first | rfl | kernel_rfl)
        replace hj20 : (x5_1 : Int).toNat = 2 := (by rw [hj20]; rfl)
        have hx21 : ∀ w_ : World, (Instr.indexAt 24 (.pointer (some ⟨gb137, 0, none⟩)) (.int .i64 0)).run Try.prog w_ = .ok (.pointer (some ⟨gb137, 0, none⟩)) w_ := (fun w_ => by first | rfl | kernel_rfl)
        have hj22 : (x5_1 : Int) = 2 := (by first | rfl | omega | exact eq_of_beq (by assumption) | (have h0_ : (0 : Int) ≤ x5_1 := of_decide_eq_true (by first | (with_reducible assumption) | assumption); have h1_ : (x5_1 : Int) < 4 := of_decide_eq_true (by first | (with_reducible assumption) | assumption); omega))
        have hx22 : ∀ w_ : World, (Instr.indexAt 24 (.pointer (some ⟨gb137, 0, none⟩)) (.int .i64 x5_1)).run Try.prog w_ = .ok (.pointer (some ⟨gb137, 2, none⟩)) w_ := (fun w_ => by rw [hj22]; first | rfl | kernel_rfl)
        replace hj22 : (x5_1 : Int).toNat = 2 := (by rw [hj22]; rfl)
        refine start_ (n := 13) (S := fun w' => w'.cell? ⟨gb137, 0, none⟩ = some (.int .u64 x138000_1) ∧ w'.cell? ⟨gb137, 1, none⟩ = some (.int .u64 x138001_1) ∧ w'.cell? ⟨gb137, 2, none⟩ = some (.int .u64 x138002_1) ∧ w'.cell? ⟨gb137, 3, none⟩ = some (.int .u64 x138003_1)) (ds := [12]) #[false, false, false, false, false, false, false, false, false, false, false, false, false] (by kernel_rfl) rfl rfl ⟨(blk_cell BK137.out 0).trans rfl, (blk_cell BK137.out 1).trans rfl, (blk_cell BK137.out 2).trans rfl, (blk_cell BK137.out 3).trans rfl⟩ (fun hHeld => ?_); refine with_tabW foliotlaw10_PeerShifted.tab4 foliotlaw10_PeerShifted.bits4 (fun HT_ HW_ => ?_)
        generalize wr.drew = w23 at BK137 HB hHeld ⊢
        refine pure_ (i := 0) (N := some 15) (v := ?_) (a' := ?_) #[true, false, false, false, false, false, false, false, false, false, false, false, false] rfl rfl (any_of HT_.out (by kernel_rfl)) (fun _ _ _ h => h) (Or.inl ⟨by rfl, ?_⟩) ?_ ?_
        rotate_left
        ·intro w'
         go_simp
         with_reducible rfl
        rotate_left
        ·simp only [Act.put, List.setIfInBounds_toArray, List.set_cons_zero, List.set_cons_succ, i64_w, i32_w]
         rfl
        refine pure_ (i := 1) (N := some 16) (v := ?_) (a' := ?_) #[true, true, false, false, false, false, false, false, false, false, false, false, false] rfl rfl (any_of HT_.out (by kernel_rfl)) (fun _ _ _ h => h) (Or.inl ⟨by rfl, ?_⟩) ?_ ?_
        rotate_left
        ·intro w'
         go_simp
         with_reducible rfl
        rotate_left
        ·simp only [Act.put, List.setIfInBounds_toArray, List.set_cons_zero, List.set_cons_succ, i64_w, i32_w]
         rfl
        refine pure_ (i := 3) (N := some 18) (v := ?_) (a' := ?_) #[true, true, false, true, false, false, false, false, false, false, false, false, false] rfl rfl (any_of HT_.out (by kernel_rfl)) (fun _ _ _ h => h) (Or.inl ⟨by rfl, ?_⟩) ?_ ?_
        rotate_left
        ·intro w'
         go_simp
         with_reducible rfl
        rotate_left
        ·simp only [Act.put, List.setIfInBounds_toArray, List.set_cons_zero, List.set_cons_succ, i64_w, i32_w]
         rfl
        refine pure_ (i := 4) (N := some 19) (v := ?_) (a' := ?_) #[true, true, false, true, true, false, false, false, false, false, false, false, false] rfl rfl (any_of HT_.out (by kernel_rfl)) (fun _ _ _ h => h) (Or.inl ⟨by rfl, ?_⟩) ?_ ?_
        rotate_left
        ·intro w'
         go_simp
         with_reducible rfl
        rotate_left
        ·simp only [Act.put, List.setIfInBounds_toArray, List.set_cons_zero, List.set_cons_succ, i64_w, i32_w]
         rfl
        refine pure_ (i := 6) (N := some 21) (v := ?_) (a' := ?_) #[true, true, false, true, true, false, true, false, false, false, false, false, false] rfl rfl (any_of HT_.out (by kernel_rfl)) (fun _ _ _ h => h) (Or.inl ⟨by rfl, ?_⟩) ?_ ?_
        rotate_left
        ·intro w'
         go_simp
         with_reducible rfl
        rotate_left
        ·simp only [Act.put, List.setIfInBounds_toArray, List.set_cons_zero, List.set_cons_succ, i64_w, i32_w]
         rfl
        refine take_ (i := 2) (N := some 17) (v := ?_) (a' := ?_) #[true, true, true, true, true, false, true, false, false, false, false, false, false] rfl rfl (take_ofW HT_.out HW_.out (by kernel_rfl)) (fun _ _ _ h => h) (Or.inl ⟨by rfl, ?_⟩) hHeld ?_ ?_
        rotate_left
        ·rintro w' ⟨s0, s1, s2, s3⟩
         go_simp
         with_reducible rfl
        rotate_left
        ·simp only [Act.put, List.setIfInBounds_toArray, List.set_cons_zero, List.set_cons_succ, i64_w, i32_w]
         rfl
        refine take_ (i := 5) (N := some 20) (v := ?_) (a' := ?_) #[true, true, true, true, true, true, true, false, false, false, false, false, false] rfl rfl (take_ofW HT_.out HW_.out (by kernel_rfl)) (fun _ _ _ h => h) (Or.inl ⟨by rfl, ?_⟩) hHeld ?_ ?_
        rotate_left
        ·rintro w' ⟨s0, s1, s2, s3⟩
         go_simp
         with_reducible rfl
        rotate_left
        ·simp only [Act.put, List.setIfInBounds_toArray, List.set_cons_zero, List.set_cons_succ, i64_w, i32_w]
         rfl
        refine take_ (i := 7) (N := some 22) (v := ?_) (a' := ?_) #[true, true, true, true, true, true, true, true, false, false, false, false, false] rfl rfl (take_ofW HT_.out HW_.out (by kernel_rfl)) (fun _ _ _ h => h) (Or.inl ⟨by rfl, ?_⟩) hHeld ?_ ?_
        rotate_left
        ·rintro w' ⟨s0, s1, s2, s3⟩
         go_simp
         with_reducible rfl
        rotate_left
        ·simp only [Act.put, List.setIfInBounds_toArray, List.set_cons_zero, List.set_cons_succ, i64_w, i32_w]
         rfl
        refine pure_ (i := 8) (N := some 23) (v := ?_) (a' := ?_) #[true, true, true, true, true, true, true, true, true, false, false, false, false] rfl rfl (any_of HT_.out (by kernel_rfl)) (fun _ _ _ h => h) (Or.inl ⟨by rfl, ?_⟩) ?_ ?_
        rotate_left
        ·intro w'
         go_simp
         with_reducible rfl
        rotate_left
        ·simp only [Act.put, List.setIfInBounds_toArray, List.set_cons_zero, List.set_cons_succ, i64_w, i32_w]
         rfl
        refine pure_ (i := 9) (N := some 24) (v := ?_) (a' := ?_) #[true, true, true, true, true, true, true, true, true, true, false, false, false] rfl rfl (any_of HT_.out (by kernel_rfl)) (fun _ _ _ h => h) (Or.inl ⟨by rfl, ?_⟩) ?_ ?_
        rotate_left
        ·intro w'
         go_simp
         with_reducible rfl
        rotate_left
        ·simp only [Act.put, List.setIfInBounds_toArray, List.set_cons_zero, List.set_cons_succ, i64_w, i32_w]
         rfl
        refine pure_ (i := 10) (N := some 25) (v := ?_) (a' := ?_) #[true, true, true, true, true, true, true, true, true, true, true, false, false] rfl rfl (any_of HT_.out (by kernel_rfl)) (fun _ _ _ h => h) (Or.inl ⟨by rfl, ?_⟩) ?_ ?_
        rotate_left
        ·intro w'
         go_simp
         with_reducible rfl
        rotate_left
        ·simp only [Act.put, List.setIfInBounds_toArray, List.set_cons_zero, List.set_cons_succ, i64_w, i32_w]
         rfl
        refine pure_ (i := 11) (N := some 26) (v := ?_) (a' := ?_) #[true, true, true, true, true, true, true, true, true, true, true, true, false] rfl rfl (any_of HT_.out (by kernel_rfl)) (fun _ _ _ h => h) (Or.inl ⟨by rfl, ?_⟩) ?_ ?_
        rotate_left
        ·intro w'
         go_simp
         with_reducible rfl
        rotate_left
        ·simp only [Act.put, List.setIfInBounds_toArray, List.set_cons_zero, List.set_cons_succ, i64_w, i32_w]
         rfl
        refine last_ (i := 12) (N := none) #[true, true, true, true, true, true, true, true, true, true, true, true, true] rfl rfl (one_of HT_.out (by kernel_rfl)) (by decide) (fun K hK => ?_)
        have hs24 : w23.cell? ⟨gb137, 2, none⟩ = some (.int .u64 x138002_1) := (blk_cell BK137.out 2).trans rfl
        have hfs24 := blk_frozen BK137.out 2
        refine skip_ (w1 := ?_) (by rfl) rfl ?_ ?_
        rotate_left
        ·go_simp
         rfl
        refine hK.out _ _ ?_
        clear hK K
        refine done_ (done_of HT_.out (by kernel_rfl)) ?_
        try go_wp2
        go_roundg k1
        case measure => have := HK1.out; omega
        case rel => exact ⟨(wrap64 (x5_1 + 1)), (x138000_1), (x138001_1), (IntKind.u64.wrap (x138000_1 + (Int.tmod (IntKind.u64.wrap (x138002_1 - x138000_1)) 1125899906842624))), (x138003_1), (by first | rfl | (simp; done) | (simp [*]; done) | (simp only [Value.int.injEq, true_and]; unfold wrap64; omega)), H', ⟨by have := HK1.out; omega⟩, ⟨by (with_reducible repeat (first | refine blk_drewN ?_ _ | refine blk_drew ?_ | refine blk_alloc ?_ _)); refine blk_put (cs := #[.int .u64 x138000_1, .int .u64 x138001_1, .int .u64 x138002_1, .int .u64 x138003_1]) ?_ 2 _ rfl; (with_reducible repeat (first | refine blk_drewN ?_ _ | refine blk_drew ?_ | refine blk_alloc ?_ _)); exact BK137.out⟩, ⟨by repeat (first | (with_reducible first | exact HB.out | apply below_alloc | apply pw_below_drewN | apply below_drew1 | refine below_set ?_ GE137.out) | exact HB.out)⟩⟩
       ·rw [if_neg c19] at H
        have c19b0 : (x5_1 == 2) = false := beq_eq_false_iff_ne.mpr c19
        have c19b1 : (x5_1 != 2) = true := bne_iff_ne.mpr c19
        have H' := Aside0.mk H
        clear H
        try go_wp2
        have n0_ := Aside0.mk (blk_drew BK137.out)
        have n1_ := Aside0.mk (below_drew1 HB.out)
        clear BK137
        clear HB
        have BK137 := n0_
        have HB := n1_
        clear n0_ n1_
        have hx5 : ∀ w_ : World, (Instr.indexAt 24 (.pointer (some ⟨gb137, 0, none⟩)) (.int .i64 0)).run Try.prog w_ = .ok (.pointer (some ⟨gb137, 0, none⟩)) w_ := (fun w_ => by first | rfl | kernel_rfl)
        have hj25 : (x5_1 : Int) = 3 := (by first | rfl | omega | exact eq_of_beq (by assumption) | (have h0_ : (0 : Int) ≤ x5_1 := of_decide_eq_true (by first | (with_reducible assumption) | assumption); have h1_ : (x5_1 : Int) < 4 := of_decide_eq_true (by first | (with_reducible assumption) | assumption); omega))
        have hx25 : ∀ w_ : World, (Instr.indexAt 24 (.pointer (some ⟨gb137, 0, none⟩)) (.int .i64 x5_1)).run Try.prog w_ = .ok (.pointer (some ⟨gb137, 3, none⟩)) w_ := (fun w_ => by rw [hj25]; first | rfl | kernel_rfl)
        replace hj25 : (x5_1 : Int).toNat = 3 := (by rw [hj25]; rfl)
        have hx26 : ∀ w_ : World, (Instr.indexAt 24 (.pointer (some ⟨gb137, 0, none⟩)) (.int .i64 0)).run Try.prog w_ = .ok (.pointer (some ⟨gb137, 0, none⟩)) w_ := (fun w_ => by first | rfl | kernel_rfl)
        have hj27 : (x5_1 : Int) = 3 := (by first | rfl | omega | exact eq_of_beq (by assumption) | (have h0_ : (0 : Int) ≤ x5_1 := of_decide_eq_true (by first | (with_reducible assumption) | assumption); have h1_ : (x5_1 : Int) < 4 := of_decide_eq_true (by first | (with_reducible assumption) | assumption); omega))
        have hx27 : ∀ w_ : World, (Instr.indexAt 24 (.pointer (some ⟨gb137, 0, none⟩)) (.int .i64 x5_1)).run Try.prog w_ = .ok (.pointer (some ⟨gb137, 3, none⟩)) w_ := (fun w_ => by rw [hj27]; first | rfl | kernel_rfl)
        replace hj27 : (x5_1 : Int).toNat = 3 := (by rw [hj27]; rfl)
        refine start_ (n := 13) (S := fun w' => w'.cell? ⟨gb137, 0, none⟩ = some (.int .u64 x138000_1) ∧ w'.cell? ⟨gb137, 1, none⟩ = some (.int .u64 x138001_1) ∧ w'.cell? ⟨gb137, 2, none⟩ = some (.int .u64 x138002_1) ∧ w'.cell? ⟨gb137, 3, none⟩ = some (.int .u64 x138003_1)) (ds := [12]) #[false, false, false, false, false, false, false, false, false, false, false, false, false] (by kernel_rfl) rfl rfl ⟨(blk_cell BK137.out 0).trans rfl, (blk_cell BK137.out 1).trans rfl, (blk_cell BK137.out 2).trans rfl, (blk_cell BK137.out 3).trans rfl⟩ (fun hHeld => ?_); refine with_tabW foliotlaw10_PeerShifted.tab4 foliotlaw10_PeerShifted.bits4 (fun HT_ HW_ => ?_)
        generalize wr.drew = w28 at BK137 HB hHeld ⊢
        refine pure_ (i := 0) (N := some 15) (v := ?_) (a' := ?_) #[true, false, false, false, false, false, false, false, false, false, false, false, false] rfl rfl (any_of HT_.out (by kernel_rfl)) (fun _ _ _ h => h) (Or.inl ⟨by rfl, ?_⟩) ?_ ?_
        rotate_left
        ·intro w'
         go_simp
         with_reducible rfl
        rotate_left
        ·simp only [Act.put, List.setIfInBounds_toArray, List.set_cons_zero, List.set_cons_succ, i64_w, i32_w]
         rfl
        refine pure_ (i := 1) (N := some 16) (v := ?_) (a' := ?_) #[true, true, false, false, false, false, false, false, false, false, false, false, false] rfl rfl (any_of HT_.out (by kernel_rfl)) (fun _ _ _ h => h) (Or.inl ⟨by rfl, ?_⟩) ?_ ?_
        rotate_left
        ·intro w'
         go_simp
         with_reducible rfl
        rotate_left
        ·simp only [Act.put, List.setIfInBounds_toArray, List.set_cons_zero, List.set_cons_succ, i64_w, i32_w]
         rfl
        refine pure_ (i := 3) (N := some 18) (v := ?_) (a' := ?_) #[true, true, false, true, false, false, false, false, false, false, false, false, false] rfl rfl (any_of HT_.out (by kernel_rfl)) (fun _ _ _ h => h) (Or.inl ⟨by rfl, ?_⟩) ?_ ?_
        rotate_left
        ·intro w'
         go_simp
         with_reducible rfl
        rotate_left
        ·simp only [Act.put, List.setIfInBounds_toArray, List.set_cons_zero, List.set_cons_succ, i64_w, i32_w]
         rfl
        refine pure_ (i := 4) (N := some 19) (v := ?_) (a' := ?_) #[true, true, false, true, true, false, false, false, false, false, false, false, false] rfl rfl (any_of HT_.out (by kernel_rfl)) (fun _ _ _ h => h) (Or.inl ⟨by rfl, ?_⟩) ?_ ?_
        rotate_left
        ·intro w'
         go_simp
         with_reducible rfl
        rotate_left
        ·simp only [Act.put, List.setIfInBounds_toArray, List.set_cons_zero, List.set_cons_succ, i64_w, i32_w]
         rfl
        refine pure_ (i := 6) (N := some 21) (v := ?_) (a' := ?_) #[true, true, false, true, true, false, true, false, false, false, false, false, false] rfl rfl (any_of HT_.out (by kernel_rfl)) (fun _ _ _ h => h) (Or.inl ⟨by rfl, ?_⟩) ?_ ?_
        rotate_left
        ·intro w'
         go_simp
         with_reducible rfl
        rotate_left
        ·simp only [Act.put, List.setIfInBounds_toArray, List.set_cons_zero, List.set_cons_succ, i64_w, i32_w]
         rfl
        refine take_ (i := 2) (N := some 17) (v := ?_) (a' := ?_) #[true, true, true, true, true, false, true, false, false, false, false, false, false] rfl rfl (take_ofW HT_.out HW_.out (by kernel_rfl)) (fun _ _ _ h => h) (Or.inl ⟨by rfl, ?_⟩) hHeld ?_ ?_
        rotate_left
        ·rintro w' ⟨s0, s1, s2, s3⟩
         go_simp
         with_reducible rfl
        rotate_left
        ·simp only [Act.put, List.setIfInBounds_toArray, List.set_cons_zero, List.set_cons_succ, i64_w, i32_w]
         rfl
        refine take_ (i := 5) (N := some 20) (v := ?_) (a' := ?_) #[true, true, true, true, true, true, true, false, false, false, false, false, false] rfl rfl (take_ofW HT_.out HW_.out (by kernel_rfl)) (fun _ _ _ h => h) (Or.inl ⟨by rfl, ?_⟩) hHeld ?_ ?_
        rotate_left
        ·rintro w' ⟨s0, s1, s2, s3⟩
         go_simp
         with_reducible rfl
        rotate_left
        ·simp only [Act.put, List.setIfInBounds_toArray, List.set_cons_zero, List.set_cons_succ, i64_w, i32_w]
         rfl
        refine take_ (i := 7) (N := some 22) (v := ?_) (a' := ?_) #[true, true, true, true, true, true, true, true, false, false, false, false, false] rfl rfl (take_ofW HT_.out HW_.out (by kernel_rfl)) (fun _ _ _ h => h) (Or.inl ⟨by rfl, ?_⟩) hHeld ?_ ?_
        rotate_left
        ·rintro w' ⟨s0, s1, s2, s3⟩
         go_simp
         with_reducible rfl
        rotate_left
        ·simp only [Act.put, List.setIfInBounds_toArray, List.set_cons_zero, List.set_cons_succ, i64_w, i32_w]
         rfl
        refine pure_ (i := 8) (N := some 23) (v := ?_) (a' := ?_) #[true, true, true, true, true, true, true, true, true, false, false, false, false] rfl rfl (any_of HT_.out (by kernel_rfl)) (fun _ _ _ h => h) (Or.inl ⟨by rfl, ?_⟩) ?_ ?_
        rotate_left
        ·intro w'
         go_simp
         with_reducible rfl
        rotate_left
        ·simp only [Act.put, List.setIfInBounds_toArray, List.set_cons_zero, List.set_cons_succ, i64_w, i32_w]
         rfl
        refine pure_ (i := 9) (N := some 24) (v := ?_) (a' := ?_) #[true, true, true, true, true, true, true, true, true, true, false, false, false] rfl rfl (any_of HT_.out (by kernel_rfl)) (fun _ _ _ h => h) (Or.inl ⟨by rfl, ?_⟩) ?_ ?_
        rotate_left
        ·intro w'
         go_simp
         with_reducible rfl
        rotate_left
        ·simp only [Act.put, List.setIfInBounds_toArray, List.set_cons_zero, List.set_cons_succ, i64_w, i32_w]
         rfl
        refine pure_ (i := 10) (N := some 25) (v := ?_) (a' := ?_) #[true, true, true, true, true, true, true, true, true, true, true, false, false] rfl rfl (any_of HT_.out (by kernel_rfl)) (fun _ _ _ h => h) (Or.inl ⟨by rfl, ?_⟩) ?_ ?_
        rotate_left
        ·intro w'
         go_simp
         with_reducible rfl
        rotate_left
        ·simp only [Act.put, List.setIfInBounds_toArray, List.set_cons_zero, List.set_cons_succ, i64_w, i32_w]
         rfl
        refine pure_ (i := 11) (N := some 26) (v := ?_) (a' := ?_) #[true, true, true, true, true, true, true, true, true, true, true, true, false] rfl rfl (any_of HT_.out (by kernel_rfl)) (fun _ _ _ h => h) (Or.inl ⟨by rfl, ?_⟩) ?_ ?_
        rotate_left
        ·intro w'
         go_simp
         with_reducible rfl
        rotate_left
        ·simp only [Act.put, List.setIfInBounds_toArray, List.set_cons_zero, List.set_cons_succ, i64_w, i32_w]
         rfl
        refine last_ (i := 12) (N := none) #[true, true, true, true, true, true, true, true, true, true, true, true, true] rfl rfl (one_of HT_.out (by kernel_rfl)) (by decide) (fun K hK => ?_)
        have hs29 : w28.cell? ⟨gb137, 3, none⟩ = some (.int .u64 x138003_1) := (blk_cell BK137.out 3).trans rfl
        have hfs29 := blk_frozen BK137.out 3
        refine skip_ (w1 := ?_) (by rfl) rfl ?_ ?_
        rotate_left
        ·go_simp
         rfl
        refine hK.out _ _ ?_
        clear hK K
        refine done_ (done_of HT_.out (by kernel_rfl)) ?_
        try go_wp2
        go_roundg k1
        case measure => have := HK1.out; omega
        case rel => exact ⟨(wrap64 (x5_1 + 1)), (x138000_1), (x138001_1), (x138002_1), (IntKind.u64.wrap (x138000_1 + (Int.tmod (IntKind.u64.wrap (x138003_1 - x138000_1)) 1125899906842624))), (by first | rfl | (simp; done) | (simp [*]; done) | (simp only [Value.int.injEq, true_and]; unfold wrap64; omega)), H', ⟨by have := HK1.out; omega⟩, ⟨by (with_reducible repeat (first | refine blk_drewN ?_ _ | refine blk_drew ?_ | refine blk_alloc ?_ _)); refine blk_put (cs := #[.int .u64 x138000_1, .int .u64 x138001_1, .int .u64 x138002_1, .int .u64 x138003_1]) ?_ 3 _ rfl; (with_reducible repeat (first | refine blk_drewN ?_ _ | refine blk_drew ?_ | refine blk_alloc ?_ _)); exact BK137.out⟩, ⟨by repeat (first | (with_reducible first | exact HB.out | apply below_alloc | apply pw_below_drewN | apply below_drew1 | refine below_set ?_ GE137.out) | exact HB.out)⟩⟩
    ·rw [if_neg c6] at H
     exact absurd H (by simp)
   ·rw [if_neg c4] at H
    have c4b0 : decide (x5_1 < 4) = false := decide_eq_false c4
    clear c4
    replace H := Option.bind_eq_some_iff.mp H
    obtain ⟨⟨t138, t139⟩, A340, H⟩ := H
    replace H : ((peer_Exchange.f k1 x138000_1 (IntKind.u64.wrap (x138001_1 + (IntKind.u64.wrap (wrap64 (a1))))) (IntKind.u64.wrap (x138002_1 + (IntKind.u64.wrap (wrap64 (a1))))) x138003_1).bind fun bt140 => (if (wrap64 (bt140.1 - t138)) = (wrap64 (a1)) then (if t139 = bt140.2 then (some (decide (t139 ≥ 4096))) else (some false)) else (some false))) = some r := H
    have A34 := Aside0.mk A340
    clear A340
    replace H := Option.bind_eq_some_iff.mp H
    obtain ⟨⟨t140, t141⟩, A390, H⟩ := H
    replace H : (if (wrap64 (t140 - t138)) = (wrap64 (a1)) then (if t139 = t141 then (some (decide (t139 ≥ 4096))) else (some false)) else (some false)) = some r := H
    have A39 := Aside0.mk A390
    clear A390
    by_cases c40 : (wrap64 (t140 - t138)) = (wrap64 (a1))
    ·rw [if_pos c40] at H
     have c40b0 : ((wrap64 (t140 - t138)) == (wrap64 (a1))) = true := beq_iff_eq.mpr c40
     have c40b1 : ((wrap64 (t140 - t138)) != (wrap64 (a1))) = false := bne_eq_false_iff_eq.mpr c40
     clear c40
     by_cases c41 : t139 = t141
     ·rw [if_pos c41] at H
      have c41b0 : (t139 == t141) = true := beq_iff_eq.mpr c41
      have c41b1 : (t139 != t141) = false := bne_eq_false_iff_eq.mpr c41
      clear c41
      clear hrt_
      obtain rfl := Option.some.inj H
      have hx30 : ∀ w_ : World, (Instr.indexAt 24 (.pointer (some ⟨gb137, 0, none⟩)) (.int .i64 0)).run Try.prog w_ = .ok (.pointer (some ⟨gb137, 0, none⟩)) w_ := (fun w_ => by first | rfl | kernel_rfl)
      have hcz42_0 : wr.cell? ⟨gb137, 0, none⟩ = some (.int .u64 x138000_1) := (blk_cell BK137.out 0).trans rfl
      have hcz42_1 : wr.cell? ⟨gb137, 1, none⟩ = some (.int .u64 x138001_1) := (blk_cell BK137.out 1).trans rfl
      have hcz42_2 : wr.cell? ⟨gb137, 2, none⟩ = some (.int .u64 x138002_1) := (blk_cell BK137.out 2).trans rfl
      have hcz42_3 : wr.cell? ⟨gb137, 3, none⟩ = some (.int .u64 x138003_1) := (blk_cell BK137.out 3).trans rfl
      have hfz42_0 := blk_frozen BK137.out 0
      have hfz42_1 := blk_frozen BK137.out 1
      have hfz42_2 := blk_frozen BK137.out 2
      have hfz42_3 := blk_frozen BK137.out 3
      have hx31 : ∀ w_ : World, (Instr.indexAt 24 (.pointer (some ⟨gb137, 0, none⟩)) (.int .i64 1)).run Try.prog w_ = .ok (.pointer (some ⟨gb137, 1, none⟩)) w_ := (fun w_ => by first | rfl | kernel_rfl)
      have hx32 : ∀ w_ : World, (Instr.indexAt 24 (.pointer (some ⟨gb137, 0, none⟩)) (.int .i64 2)).run Try.prog w_ = .ok (.pointer (some ⟨gb137, 2, none⟩)) w_ := (fun w_ => by first | rfl | kernel_rfl)
      have hx33 : ∀ w_ : World, (Instr.indexAt 24 (.pointer (some ⟨gb137, 0, none⟩)) (.int .i64 3)).run Try.prog w_ = .ok (.pointer (some ⟨gb137, 3, none⟩)) w_ := (fun w_ => by first | rfl | kernel_rfl)
      go_wp2_with (first | ((with_reducible refine gate_callee (f := 9) rfl ?_); refine goesL_ (some 36) rfl rfl Try.func9 (by kernel_rfl) rfl #[.int .u64 x138000_1, .int .u64 x138001_1, .int .u64 x138002_1, .int .u64 x138003_1] rfl (by (try simp only [List.map_toArray, List.map_cons, List.map_nil]); first | done | rfl | (simp only [List.length_drop, List.length_take]; rfl)) ?_; (with_reducible refine (peer_Exchange.calls k1 x138000_1 x138001_1 x138002_1 x138003_1 t138 t139 _ A34.out).mono ?_); rintro e w43 ⟨rfl, hb⟩; refine ⟨_, rfl, ?_⟩; have n0_ := Aside0.mk (blk_below (g := gb137) (o := .cells #[.int .u64 x138000_1, .int .u64 x138001_1, .int .u64 x138002_1, .int .u64 x138003_1] 24 (0, 0)) (by (with_reducible repeat (first | refine blk_drewN ?_ _ | refine blk_drew ?_ | refine blk_alloc ?_ _)); exact BK137.out) hb); have n1_ := Aside0.mk (below_step (by repeat (first | (with_reducible first | exact HB.out | apply below_alloc | apply pw_below_drewN | apply below_drew1 | refine below_set ?_ GE137.out) | exact HB.out)) hb); clear BK137; clear HB; have BK137 := n0_; have HB := n1_; clear n0_ n1_; (try clear hb); (try clear hb2); (try clear hk); (try clear hi); have hx35 : ∀ w_ : World, (Instr.indexAt 24 (.pointer (some ⟨gb137, 0, none⟩)) (.int .i64 0)).run Try.prog w_ = .ok (.pointer (some ⟨gb137, 0, none⟩)) w_ := (fun w_ => by first | rfl | kernel_rfl); have hcz44_0 : w43.cell? ⟨gb137, 0, none⟩ = some (.int .u64 x138000_1) := (blk_cell BK137.out 0).trans rfl; have hcz44_1 : w43.cell? ⟨gb137, 1, none⟩ = some (.int .u64 x138001_1) := (blk_cell BK137.out 1).trans rfl; have hcz44_2 : w43.cell? ⟨gb137, 2, none⟩ = some (.int .u64 x138002_1) := (blk_cell BK137.out 2).trans rfl; have hcz44_3 : w43.cell? ⟨gb137, 3, none⟩ = some (.int .u64 x138003_1) := (blk_cell BK137.out 3).trans rfl; have hfz44_0 := blk_frozen BK137.out 0; have hfz44_1 := blk_frozen BK137.out 1; have hfz44_2 := blk_frozen BK137.out 2; have hfz44_3 := blk_frozen BK137.out 3; have hx36 : ∀ w_ : World, (Instr.indexAt 24 (.pointer (some ⟨gb137, 0, none⟩)) (.int .i64 1)).run Try.prog w_ = .ok (.pointer (some ⟨gb137, 1, none⟩)) w_ := (fun w_ => by first | rfl | kernel_rfl); have hx37 : ∀ w_ : World, (Instr.indexAt 24 (.pointer (some ⟨gb137, 0, none⟩)) (.int .i64 2)).run Try.prog w_ = .ok (.pointer (some ⟨gb137, 2, none⟩)) w_ := (fun w_ => by first | rfl | kernel_rfl); have hx38 : ∀ w_ : World, (Instr.indexAt 24 (.pointer (some ⟨gb137, 0, none⟩)) (.int .i64 3)).run Try.prog w_ = .ok (.pointer (some ⟨gb137, 3, none⟩)) w_ := (fun w_ => by first | rfl | kernel_rfl)) | ((with_reducible refine gate_callee (f := 9) rfl ?_); refine goesL_ (some 55) rfl rfl Try.func9 (by kernel_rfl) rfl #[.int .u64 x138000_1, .int .u64 (IntKind.u64.wrap (x138001_1 + (IntKind.u64.wrap (wrap64 (a1))))), .int .u64 (IntKind.u64.wrap (x138002_1 + (IntKind.u64.wrap (wrap64 (a1))))), .int .u64 x138003_1] rfl (by (try simp only [List.map_toArray, List.map_cons, List.map_nil]); first | done | rfl | (simp only [List.length_drop, List.length_take]; rfl)) ?_; (with_reducible refine (peer_Exchange.calls k1 x138000_1 (IntKind.u64.wrap (x138001_1 + (IntKind.u64.wrap (wrap64 (a1))))) (IntKind.u64.wrap (x138002_1 + (IntKind.u64.wrap (wrap64 (a1))))) x138003_1 t140 t141 _ A39.out).mono ?_); rintro e w45 ⟨rfl, hb⟩; refine ⟨_, rfl, ?_⟩; have n0_ := Aside0.mk (blk_below (g := gb137) (o := .cells #[.int .u64 x138000_1, .int .u64 x138001_1, .int .u64 x138002_1, .int .u64 x138003_1] 24 (0, 0)) (by (with_reducible repeat (first | refine blk_drewN ?_ _ | refine blk_drew ?_ | refine blk_alloc ?_ _)); exact BK137.out) hb); have n1_ := Aside0.mk (below_step (by repeat (first | (with_reducible first | exact HB.out | apply below_alloc | apply pw_below_drewN | apply below_drew1 | refine below_set ?_ GE137.out) | exact HB.out)) hb); clear BK137; clear HB; have BK137 := n0_; have HB := n1_; clear n0_ n1_; (try clear hb); (try clear hb2); (try clear hk); (try clear hi)))
      go_ret
      exact ⟨by first | rfl | exact congrArg (fun b_ : Bool => Ending.returned (Value.bool b_)) (by assumption) | (simp [errW_none, errW_some] <;> rfl) | (simp [*, errW_none, errW_some] <;> rfl), by repeat (first | (with_reducible first | exact HB.out | apply below_alloc | apply pw_below_drewN | apply below_drew1 | refine below_set ?_ GE137.out) | exact HB.out)⟩
     ·rw [if_neg c41] at H
      have c41b0 : (t139 == t141) = false := beq_eq_false_iff_ne.mpr c41
      have c41b1 : (t139 != t141) = true := bne_iff_ne.mpr c41
      exact absurd ((Option.some.inj H).trans hrt_) Bool.false_ne_true
    ·rw [if_neg c40] at H
     have c40b0 : ((wrap64 (t140 - t138)) == (wrap64 (a1))) = false := beq_eq_false_iff_ne.mpr c40
     have c40b1 : ((wrap64 (t140 - t138)) != (wrap64 (a1))) = true := bne_iff_ne.mpr c40
     exact absurd ((Option.some.inj H).trans hrt_) Bool.false_ne_true
def foliotlaw10_PeerShifted.Pure : Prop := ∀ (a0_0 : Int) (a0_1 : Int) (a0_2 : Int) (a0_3 : Int) (a1 : Int), (Lit.int .u64 a0_0).wf = true → (Lit.int .u64 a0_1).wf = true → (Lit.int .u64 a0_2).wf = true → (Lit.int .u64 a0_3).wf = true → (Lit.int .i32 a1).wf = true → ∃ k, foliotlaw10_PeerShifted.f k a0_0 a0_1 a0_2 a0_3 a1 = some true
end Go.Proofs.Ytgbffggaifnalaa.PPeerShifted
