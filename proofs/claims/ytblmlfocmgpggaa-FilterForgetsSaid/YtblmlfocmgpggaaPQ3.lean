/- Plain lemmas on the printed functions: whole numbers, no program in sight. -/
import Derived.Test.YtblmlfocmgpggaaPQ2
import Derived.Laws.BitsLemmas
namespace Go.Proofs.Ytblmlfocmgpggaa.Q
open Go Go.RowKit Go.Proofs.Ytblmlfocmgpggaa.Ev
set_option linter.unusedVariables false
set_option linter.unusedSimpArgs false
set_option maxRecDepth 100000
/-! ### the best sample -/
structure XOk (x : S27) : Prop where
  a0 : -9223372036854775808 ≤ x.f0
  a1 : x.f0 ≤ 9223372036854775807
  b0 : -9223372036854775808 ≤ x.f1
  b1 : x.f1 ≤ 9223372036854775807
  c0 : -9223372036854775808 ≤ x.f2
  c1 : x.f2 ≤ 9223372036854775807
  d0 : 0 ≤ x.f3
  d1 : x.f3 ≤ 18446744073709551615
def sinceVal (a b : Int) : Int := sat (wrap64 (IntKind.u64.wrap (a - b)))
theorem w64_bd (n : Int) : -9223372036854775808 ≤ wrap64 n ∧ wrap64 n ≤ 9223372036854775807 := by
  unfold wrap64; omega
theorem ev_since (a b : Int) : Ev (fun k => stamp_Since.f a b) (sinceVal a b) := by
  unfold stamp_Since.f sinceVal
  obtain ⟨h0, h1⟩ := w64_bd (IntKind.u64.wrap (a - b))
  have := ev_clamp (wrap64 (IntKind.u64.wrap (a - b))) 4611686018427387904 h0 h1 (by omega) (by omega)
  rw [if_neg (by omega)] at this
  generalize wrap64 (IntKind.u64.wrap (a - b)) = x at *
  rw [show sat (mx (mn x 4611686018427387904) (-4611686018427387904)) = sat x from by unfold sat clampTo mx mn; (repeat' split) <;> omega] at this
  exact Ev.bind (f := fun k t => some t) this (Ev.now _)
def driftVal (d : Int) : Int := sat (4222124650 * mx d 0 / 281474976710656)
def grownVal (x : S27) (now : Int) : Int := mx (mn (sat (x.f2 + driftVal (sinceVal now x.f3))) 68719476736) 0
theorem grown_bd (x : S27) (now : Int) : 0 ≤ grownVal x now ∧ grownVal x now ≤ 68719476736 := by
  unfold grownVal mx mn; (repeat' split) <;> omega
theorem ev_grown (x : S27) (hx : XOk x) (now : Int) : Ev (fun k => filter_grown.f k x.f0 x.f1 x.f2 x.f3 now) (grownVal x now) := by
  unfold filter_grown.f grownVal driftVal
  have hs := sat_in (wrap64 (IntKind.u64.wrap (now - x.f3)))
  have hm : 0 ≤ mx (sinceVal now x.f3) 0 ∧ mx (sinceVal now x.f3) 0 ≤ 4611686018427387904 := by
    unfold sinceVal mx; split <;> omega
  have hd := sat_in (4222124650 * mx (sinceVal now x.f3) 0 / 281474976710656)
  refine Ev.bind (ev_since now x.f3) (Ev.bind (ev_drift 4222124650 _ (by omega) (by omega) (by omega) (by omega)) (Ev.bind (f := fun k t => some (mx (mn t 68719476736) 0)) (ev_add x.f2 _ hx.c0 hx.c1 (by omega) (by omega)) (Ev.now _)))
def termVal (now : Int) (l : List S27) (i : Nat) : Int := if i < l.length then grownVal (l.getD i z_S27) now else 68719476736
theorem term_bd (now : Int) (l : List S27) (i : Nat) : 0 ≤ termVal now l i ∧ termVal now l i ≤ 68719476736 := by
  unfold termVal; split
  · exact grown_bd _ _
  · omega
def dispGo (now : Int) (l : List S27) : Nat → Nat → Int → Int
  | 0, _, a => a
  | d + 1, i, a => dispGo now l d (i + 1) (sat (a + shiftVal (termVal now l i) (-(i : Int) - 1)))
def dOf (b0 : Int) (x : S27) : Int := sat (x.f0 - b0)
def FS.tell (s : FS) (a : Int) (nw : Bool) : FS := ⟨s.r0, s.r1, s.r2, s.r3, s.r4, s.r5, s.r6, s.r7, s.n, s.m, (bif nw then true else s.told), (bif nw then a else s.at_)⟩
def newOf (s : FS) (a : Int) : Bool := !s.told || decide (sinceVal a s.at_ > 0)
theorem rdOf_nat (l : List S27) (i : Nat) : rdOf z_S27 l (i : Int) = l.getD i z_S27 := by unfold rdOf; rw [Int.toNat_natCast]
theorem best_end (s : FS) (L : List S27) (b0 b1 disp b4 j now c0 c1 c2 c3 c4 : Int) (c5 : Bool) (i : Int) (hi : ¬ i < 8) (hL : L ≠ []) (hL8 : L.length ≤ 8) (hj : Ev (fun k => fixed_RMS.f k (L.map (dOf b0)).tail) j) :
    Ev (fun k => filter_Filter_Best.l0 k now i s.r0.f0 s.r0.f1 s.r0.f2 s.r0.f3 s.r1.f0 s.r1.f1 s.r1.f2 s.r1.f3 s.r2.f0 s.r2.f1 s.r2.f2 s.r2.f3 s.r3.f0 s.r3.f1 s.r3.f2 s.r3.f3 s.r4.f0 s.r4.f1 s.r4.f2 s.r4.f3 s.r5.f0 s.r5.f1 s.r5.f2 s.r5.f3 s.r6.f0 s.r6.f1 s.r6.f2 s.r6.f3 s.r7.f0 s.r7.f1 s.r7.f2 s.r7.f3 s.n s.m s.told s.at_ c0 c1 c2 c3 c4 c5 L b0 b1 disp 0 b4 false (L.map (dOf b0))) (b0, b1, disp, mx j 4096, b4, newOf s b4, (s.tell b4 (newOf s b4)).r0.f0, (s.tell b4 (newOf s b4)).r0.f1, (s.tell b4 (newOf s b4)).r0.f2, (s.tell b4 (newOf s b4)).r0.f3, (s.tell b4 (newOf s b4)).r1.f0, (s.tell b4 (newOf s b4)).r1.f1, (s.tell b4 (newOf s b4)).r1.f2, (s.tell b4 (newOf s b4)).r1.f3, (s.tell b4 (newOf s b4)).r2.f0, (s.tell b4 (newOf s b4)).r2.f1, (s.tell b4 (newOf s b4)).r2.f2, (s.tell b4 (newOf s b4)).r2.f3, (s.tell b4 (newOf s b4)).r3.f0, (s.tell b4 (newOf s b4)).r3.f1, (s.tell b4 (newOf s b4)).r3.f2, (s.tell b4 (newOf s b4)).r3.f3, (s.tell b4 (newOf s b4)).r4.f0, (s.tell b4 (newOf s b4)).r4.f1, (s.tell b4 (newOf s b4)).r4.f2, (s.tell b4 (newOf s b4)).r4.f3, (s.tell b4 (newOf s b4)).r5.f0, (s.tell b4 (newOf s b4)).r5.f1, (s.tell b4 (newOf s b4)).r5.f2, (s.tell b4 (newOf s b4)).r5.f3, (s.tell b4 (newOf s b4)).r6.f0, (s.tell b4 (newOf s b4)).r6.f1, (s.tell b4 (newOf s b4)).r6.f2, (s.tell b4 (newOf s b4)).r6.f3, (s.tell b4 (newOf s b4)).r7.f0, (s.tell b4 (newOf s b4)).r7.f1, (s.tell b4 (newOf s b4)).r7.f2, (s.tell b4 (newOf s b4)).r7.f3, (s.tell b4 (newOf s b4)).n, (s.tell b4 (newOf s b4)).m, (s.tell b4 (newOf s b4)).told, (s.tell b4 (newOf s b4)).at_) := by
  have hlen : (L.map (dOf b0)).length = L.length := List.length_map _
  have hpos : 0 < L.length := List.length_pos_iff.2 hL
  refine Ev.step (fun k => by rw [filter_Filter_Best.l0, if_neg hi, if_pos (by rw [hlen]; omega), if_pos (by omega)]) ?_
  rw [show ((L.map (dOf b0)).drop 1).take (((L.map (dOf b0)).length : Int) - 1).toNat = (L.map (dOf b0)).tail from by rw [List.drop_one, List.take_of_length_le (by rw [List.length_tail]; omega)]]
  refine Ev.bind (f := fun k t4 => _) hj ?_
  unfold newOf
  cases ht : s.told with
  | false =>
    simp only [Bool.not_false, cond_true]
    refine Ev.succ fun k => ?_
    rw [filter_Filter_Best.j0]
    rfl
  | true =>
    simp only [Bool.not_true, cond_false]
    refine Ev.bind (f := fun k t5 => _) (ev_since b4 s.at_) ?_
    by_cases hc : sinceVal b4 s.at_ > 0
    · simp only [hc, if_true, decide_true]
      refine Ev.succ fun k => ?_
      rw [filter_Filter_Best.j0]
      rfl
    · simp only [hc, if_false, decide_false]
      refine Ev.succ fun k => ?_
      rw [filter_Filter_Best.j0]
      unfold FS.tell
      simp only [ht, cond_false, Bool.or_self]
theorem best_l0 (s : FS) (L : List S27) (hx : ∀ x ∈ L, XOk x) (hL : L ≠ []) (hL8 : L.length ≤ 8) (b0 b1 b4 j now c0 c1 c2 c3 c4 : Int) (c5 : Bool) (hb0 : -9223372036854775808 ≤ b0) (hb1 : b0 ≤ 9223372036854775807) (hj : Ev (fun k => fixed_RMS.f k (L.map (dOf b0)).tail) j) :
    ∀ (d i : Nat) (disp : Int), i + d = 8 → (-9223372036854775808 ≤ disp ∧ disp ≤ 9223372036854775807) →
    Ev (fun k => filter_Filter_Best.l0 k now i s.r0.f0 s.r0.f1 s.r0.f2 s.r0.f3 s.r1.f0 s.r1.f1 s.r1.f2 s.r1.f3 s.r2.f0 s.r2.f1 s.r2.f2 s.r2.f3 s.r3.f0 s.r3.f1 s.r3.f2 s.r3.f3 s.r4.f0 s.r4.f1 s.r4.f2 s.r4.f3 s.r5.f0 s.r5.f1 s.r5.f2 s.r5.f3 s.r6.f0 s.r6.f1 s.r6.f2 s.r6.f3 s.r7.f0 s.r7.f1 s.r7.f2 s.r7.f3 s.n s.m s.told s.at_ c0 c1 c2 c3 c4 c5 L b0 b1 disp 0 b4 false ((L.take i).map (dOf b0))) (b0, b1, dispGo now L d i disp, mx j 4096, b4, newOf s b4, (s.tell b4 (newOf s b4)).r0.f0, (s.tell b4 (newOf s b4)).r0.f1, (s.tell b4 (newOf s b4)).r0.f2, (s.tell b4 (newOf s b4)).r0.f3, (s.tell b4 (newOf s b4)).r1.f0, (s.tell b4 (newOf s b4)).r1.f1, (s.tell b4 (newOf s b4)).r1.f2, (s.tell b4 (newOf s b4)).r1.f3, (s.tell b4 (newOf s b4)).r2.f0, (s.tell b4 (newOf s b4)).r2.f1, (s.tell b4 (newOf s b4)).r2.f2, (s.tell b4 (newOf s b4)).r2.f3, (s.tell b4 (newOf s b4)).r3.f0, (s.tell b4 (newOf s b4)).r3.f1, (s.tell b4 (newOf s b4)).r3.f2, (s.tell b4 (newOf s b4)).r3.f3, (s.tell b4 (newOf s b4)).r4.f0, (s.tell b4 (newOf s b4)).r4.f1, (s.tell b4 (newOf s b4)).r4.f2, (s.tell b4 (newOf s b4)).r4.f3, (s.tell b4 (newOf s b4)).r5.f0, (s.tell b4 (newOf s b4)).r5.f1, (s.tell b4 (newOf s b4)).r5.f2, (s.tell b4 (newOf s b4)).r5.f3, (s.tell b4 (newOf s b4)).r6.f0, (s.tell b4 (newOf s b4)).r6.f1, (s.tell b4 (newOf s b4)).r6.f2, (s.tell b4 (newOf s b4)).r6.f3, (s.tell b4 (newOf s b4)).r7.f0, (s.tell b4 (newOf s b4)).r7.f1, (s.tell b4 (newOf s b4)).r7.f2, (s.tell b4 (newOf s b4)).r7.f3, (s.tell b4 (newOf s b4)).n, (s.tell b4 (newOf s b4)).m, (s.tell b4 (newOf s b4)).told, (s.tell b4 (newOf s b4)).at_) := by
  intro d
  induction d with
  | zero =>
    intro i disp hi _
    rw [List.take_of_length_le (by omega)]
    exact best_end s L b0 b1 disp b4 j now c0 c1 c2 c3 c4 c5 i (by omega) hL hL8 hj
  | succ d ih =>
    intro i disp hi hd
    have hw : wrap64 ((i : Int) + 1) = ((i + 1 : Nat) : Int) := by rw [w64_in (by omega) (by omega)]; rfl
    have hn : wrap64 (wrap64 (-(i : Int)) - 1) = -(i : Int) - 1 := by rw [w64_in (n := -(i : Int)) (by omega) (by omega), w64_in (by omega) (by omega)]
    have htb := term_bd now L i
    have hsh : -4611686018427387904 ≤ shiftVal (termVal now L i) (-(i : Int) - 1) ∧ shiftVal (termVal now L i) (-(i : Int) - 1) ≤ 4611686018427387904 := by
      unfold shiftVal; split <;> exact sat_in _
    have hs := sat_in (disp + shiftVal (termVal now L i) (-(i : Int) - 1))
    have next := ih (i + 1) (sat (disp + shiftVal (termVal now L i) (-(i : Int) - 1))) (by omega) (by omega)
    have j1 : Ev (fun k => filter_Filter_Best.j1 k now i (termVal now L i) i s.r0.f0 s.r0.f1 s.r0.f2 s.r0.f3 s.r1.f0 s.r1.f1 s.r1.f2 s.r1.f3 s.r2.f0 s.r2.f1 s.r2.f2 s.r2.f3 s.r3.f0 s.r3.f1 s.r3.f2 s.r3.f3 s.r4.f0 s.r4.f1 s.r4.f2 s.r4.f3 s.r5.f0 s.r5.f1 s.r5.f2 s.r5.f3 s.r6.f0 s.r6.f1 s.r6.f2 s.r6.f3 s.r7.f0 s.r7.f1 s.r7.f2 s.r7.f3 s.n s.m s.told s.at_ c0 c1 c2 c3 c4 c5 L b0 b1 disp 0 b4 false ((L.take (i + 1)).map (dOf b0))) (b0, b1, dispGo now L (d + 1) i disp, mx j 4096, b4, newOf s b4, (s.tell b4 (newOf s b4)).r0.f0, (s.tell b4 (newOf s b4)).r0.f1, (s.tell b4 (newOf s b4)).r0.f2, (s.tell b4 (newOf s b4)).r0.f3, (s.tell b4 (newOf s b4)).r1.f0, (s.tell b4 (newOf s b4)).r1.f1, (s.tell b4 (newOf s b4)).r1.f2, (s.tell b4 (newOf s b4)).r1.f3, (s.tell b4 (newOf s b4)).r2.f0, (s.tell b4 (newOf s b4)).r2.f1, (s.tell b4 (newOf s b4)).r2.f2, (s.tell b4 (newOf s b4)).r2.f3, (s.tell b4 (newOf s b4)).r3.f0, (s.tell b4 (newOf s b4)).r3.f1, (s.tell b4 (newOf s b4)).r3.f2, (s.tell b4 (newOf s b4)).r3.f3, (s.tell b4 (newOf s b4)).r4.f0, (s.tell b4 (newOf s b4)).r4.f1, (s.tell b4 (newOf s b4)).r4.f2, (s.tell b4 (newOf s b4)).r4.f3, (s.tell b4 (newOf s b4)).r5.f0, (s.tell b4 (newOf s b4)).r5.f1, (s.tell b4 (newOf s b4)).r5.f2, (s.tell b4 (newOf s b4)).r5.f3, (s.tell b4 (newOf s b4)).r6.f0, (s.tell b4 (newOf s b4)).r6.f1, (s.tell b4 (newOf s b4)).r6.f2, (s.tell b4 (newOf s b4)).r6.f3, (s.tell b4 (newOf s b4)).r7.f0, (s.tell b4 (newOf s b4)).r7.f1, (s.tell b4 (newOf s b4)).r7.f2, (s.tell b4 (newOf s b4)).r7.f3, (s.tell b4 (newOf s b4)).n, (s.tell b4 (newOf s b4)).m, (s.tell b4 (newOf s b4)).told, (s.tell b4 (newOf s b4)).at_) := by
      refine Ev.step (fun k => by rw [filter_Filter_Best.j1, hw, hn]) ?_
      refine Ev.bind (f := fun k t6 => _) (ev_shift _ _ (by omega) (by omega) (by omega) (by omega)) ?_
      refine Ev.bind (f := fun k t7 => _) (ev_add disp _ hd.1 hd.2 (by omega) (by omega)) ?_
      exact next
    by_cases hc : i < L.length
    · have hget : L.getD i z_S27 = L[i] := by rw [List.getD_eq_getElem?_getD, List.getElem?_eq_getElem hc]; rfl
      have hxi : XOk (L.getD i z_S27) := by rw [hget]; exact hx _ (List.getElem_mem _)
      have ht : termVal now L i = grownVal (L.getD i z_S27) now := by unfold termVal; rw [if_pos hc]
      have etake : (L.take (i + 1)).map (dOf b0) = (L.take i).map (dOf b0) ++ [dOf b0 (L.getD i z_S27)] := by
        rw [List.take_succ_eq_append_getElem hc, List.map_append, hget]; rfl
      rw [ht, etake] at j1
      have hl : ((L.take i).map (dOf b0)).length ≤ 8 := by rw [List.length_map, List.length_take]; omega
      generalize (L.take i).map (dOf b0) = D at *
      refine Ev.step (fun k => by rw [filter_Filter_Best.l0, if_pos (by omega), if_pos (by omega), if_pos (by omega), if_pos (by omega), rdOf_nat]) ?_
      refine Ev.bind (f := fun k t2 => _) (ev_grown _ hxi now) ?_
      refine Ev.congr (fun k => by rw [if_pos (by omega), if_pos (by omega)]) ?_
      refine Ev.bind (f := fun k t3 => _) (ev_sub _ b0 hxi.a0 hxi.a1 hb0 hb1) ?_
      refine Ev.congr (fun k => by rw [if_pos (by simp; omega)]) ?_
      exact j1
    · have ht : termVal now L i = 68719476736 := by unfold termVal; rw [if_neg hc]
      rw [ht, List.take_of_length_le (show L.length ≤ i + 1 by omega)] at j1
      rw [List.take_of_length_le (show L.length ≤ i by omega)]
      refine Ev.step (fun k => by rw [filter_Filter_Best.l0, if_pos (by omega), if_neg (by omega)]) ?_
      exact j1
theorem ev_best {s : FS} {h : List S27} (ok : s.Ok h) (hx : ∀ x ∈ h, XOk x) (now : Int) {b : S27} {t : List S27} (hb : isort h = b :: t) (j : Int) (hj : Ev (fun k => fixed_RMS.f k (t.map (dOf b.f0))) j) :
    Ev (fun k => filter_Filter_Best.f k now s.r0.f0 s.r0.f1 s.r0.f2 s.r0.f3 s.r1.f0 s.r1.f1 s.r1.f2 s.r1.f3 s.r2.f0 s.r2.f1 s.r2.f2 s.r2.f3 s.r3.f0 s.r3.f1 s.r3.f2 s.r3.f3 s.r4.f0 s.r4.f1 s.r4.f2 s.r4.f3 s.r5.f0 s.r5.f1 s.r5.f2 s.r5.f3 s.r6.f0 s.r6.f1 s.r6.f2 s.r6.f3 s.r7.f0 s.r7.f1 s.r7.f2 s.r7.f3 s.n s.m s.told s.at_) (b.f0, b.f1, dispGo now (b :: t) 8 0 0, mx j 4096, b.f3, newOf s b.f3, (s.tell b.f3 (newOf s b.f3)).r0.f0, (s.tell b.f3 (newOf s b.f3)).r0.f1, (s.tell b.f3 (newOf s b.f3)).r0.f2, (s.tell b.f3 (newOf s b.f3)).r0.f3, (s.tell b.f3 (newOf s b.f3)).r1.f0, (s.tell b.f3 (newOf s b.f3)).r1.f1, (s.tell b.f3 (newOf s b.f3)).r1.f2, (s.tell b.f3 (newOf s b.f3)).r1.f3, (s.tell b.f3 (newOf s b.f3)).r2.f0, (s.tell b.f3 (newOf s b.f3)).r2.f1, (s.tell b.f3 (newOf s b.f3)).r2.f2, (s.tell b.f3 (newOf s b.f3)).r2.f3, (s.tell b.f3 (newOf s b.f3)).r3.f0, (s.tell b.f3 (newOf s b.f3)).r3.f1, (s.tell b.f3 (newOf s b.f3)).r3.f2, (s.tell b.f3 (newOf s b.f3)).r3.f3, (s.tell b.f3 (newOf s b.f3)).r4.f0, (s.tell b.f3 (newOf s b.f3)).r4.f1, (s.tell b.f3 (newOf s b.f3)).r4.f2, (s.tell b.f3 (newOf s b.f3)).r4.f3, (s.tell b.f3 (newOf s b.f3)).r5.f0, (s.tell b.f3 (newOf s b.f3)).r5.f1, (s.tell b.f3 (newOf s b.f3)).r5.f2, (s.tell b.f3 (newOf s b.f3)).r5.f3, (s.tell b.f3 (newOf s b.f3)).r6.f0, (s.tell b.f3 (newOf s b.f3)).r6.f1, (s.tell b.f3 (newOf s b.f3)).r6.f2, (s.tell b.f3 (newOf s b.f3)).r6.f3, (s.tell b.f3 (newOf s b.f3)).r7.f0, (s.tell b.f3 (newOf s b.f3)).r7.f1, (s.tell b.f3 (newOf s b.f3)).r7.f2, (s.tell b.f3 (newOf s b.f3)).r7.f3, (s.tell b.f3 (newOf s b.f3)).n, (s.tell b.f3 (newOf s b.f3)).m, (s.tell b.f3 (newOf s b.f3)).told, (s.tell b.f3 (newOf s b.f3)).at_) := by
  have hlen := isort_len h
  have h8 := ok.2.2.2.1
  have hxs : ∀ x ∈ b :: t, XOk x := fun x hm => hx x ((isort_perm h).mem_iff.1 (by rw [hb]; exact hm))
  rw [hb] at hlen
  have hl : (b :: t).length ≤ 8 := by omega
  have hpos : 0 < (b :: t).length := by simp
  have hbx := hxs b (by simp)
  unfold filter_Filter_Best.f
  refine Ev.bind (f := fun k t0 => _) (ev_samples ok) ?_
  refine Ev.congr (fun k => by rw [if_neg (show ¬ (h.length : Int) = 0 by omega)]) ?_
  refine Ev.bind (f := fun k t1 => _) (ev_byDelay h (by omega)) ?_
  rw [hb]
  refine Ev.congr (fun k => by rw [if_pos (by omega), if_pos (by omega), if_pos (by omega)]) ?_
  exact best_l0 s (b :: t) hxs (by simp) hl b.f0 b.f1 b.f3 j now 0 0 0 0 0 false hbx.a0 hbx.a1 hj 8 0 0 (by omega) (by omega)
theorem ev_best_nil {s : FS} (ok : s.Ok []) (now : Int) : Ev (fun k => filter_Filter_Best.f k now s.r0.f0 s.r0.f1 s.r0.f2 s.r0.f3 s.r1.f0 s.r1.f1 s.r1.f2 s.r1.f3 s.r2.f0 s.r2.f1 s.r2.f2 s.r2.f3 s.r3.f0 s.r3.f1 s.r3.f2 s.r3.f3 s.r4.f0 s.r4.f1 s.r4.f2 s.r4.f3 s.r5.f0 s.r5.f1 s.r5.f2 s.r5.f3 s.r6.f0 s.r6.f1 s.r6.f2 s.r6.f3 s.r7.f0 s.r7.f1 s.r7.f2 s.r7.f3 s.n s.m s.told s.at_) (0, 0, 68719476736, 0, 0, false, s.r0.f0, s.r0.f1, s.r0.f2, s.r0.f3, s.r1.f0, s.r1.f1, s.r1.f2, s.r1.f3, s.r2.f0, s.r2.f1, s.r2.f2, s.r2.f3, s.r3.f0, s.r3.f1, s.r3.f2, s.r3.f3, s.r4.f0, s.r4.f1, s.r4.f2, s.r4.f3, s.r5.f0, s.r5.f1, s.r5.f2, s.r5.f3, s.r6.f0, s.r6.f1, s.r6.f2, s.r6.f3, s.r7.f0, s.r7.f1, s.r7.f2, s.r7.f3, s.n, s.m, s.told, s.at_) := by
  unfold filter_Filter_Best.f
  refine Ev.bind (f := fun k t0 => _) (ev_samples ok) ?_
  exact Ev.now _
theorem Ev.uniq {α : Type} {g : Nat → Option α} {a b : α} (h : Ev g a) (h' : Ev g b) : a = b := by
  obtain ⟨K, h⟩ := h; obtain ⟨L, h'⟩ := h'
  have := (h (max K L) (by omega)).symm.trans (h' (max K L) (by omega))
  exact Option.some.inj this
theorem rms_some (t : List S27) (b0 : Int) : ∃ j, Ev (fun k => fixed_RMS.f k (t.map (dOf b0))) j := by
  rcases ev_rms (t.map (dOf b0)) (fun x hx => by
    obtain ⟨y, _, rfl⟩ := List.mem_map.1 hx
    have := sat_in (y.f0 - b0)
    unfold dOf; omega) with ⟨_, h⟩ | ⟨_, q, h, _⟩
  · exact ⟨_, h⟩
  · exact ⟨_, h⟩
end Go.Proofs.Ytblmlfocmgpggaa.Q
