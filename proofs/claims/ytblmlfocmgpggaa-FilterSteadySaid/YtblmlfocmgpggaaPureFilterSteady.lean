/- What is to be proved of FilterSteady. -/
import Derived.Test.YtblmlfocmgpggaaDC
import Derived.Test.YtblmlfocmgpggaaPC4
namespace Go.Proofs.Ytblmlfocmgpggaa.C
open Go Go.RowKit Go.Proofs.Ytblmlfocmgpggaa.Ev
set_option linter.unusedVariables false
set_option maxRecDepth 100000
def okS27 (x : S27) : Prop := (Lit.int .i64 x.f0).wf = true ∧ (Lit.int .i64 x.f1).wf = true ∧ (Lit.int .i64 x.f2).wf = true ∧ (Lit.int .u64 x.f3).wf = true
theorem okx {x : S27} (h : okS27 x) : XOk x := by
  obtain ⟨a, b, c, d⟩ := h
  obtain ⟨a0, a1⟩ := wf64 a
  obtain ⟨b0, b1⟩ := wf64 b
  obtain ⟨c0, c1⟩ := wf64 c
  have d : 0 ≤ x.f3 ∧ x.f3 ≤ 18446744073709551615 := by simpa [Lit.wf, IntKind.min, IntKind.max, IntKind.signed, IntKind.bits] using d
  exact ⟨a0, a1, b0, b1, c0, c1, d.1, d.2⟩
theorem steady_same {h : List S27} {f1 : Int} : ∀ {a : List S27}, (∀ x ∈ a, x.f1 = f1) → (∀ x ∈ h, x.f1 = f1) → h.foldl (fun a x => ins x a) a = a ++ h := by
  induction h with
  | nil => intro a _ _; simp
  | cons x h ih =>
    intro a ha hh
    have hx := hh x (by simp)
    have e : ins x a = a ++ [x] := by
      have := ins_small x a [] (fun b hb => by rw [ha b hb, hx]; exact Int.le_refl _) (by simp)
      simpa using this
    rw [List.foldl_cons, e, ih (fun y hy => by
      rcases List.mem_append.1 hy with h1 | h1
      · exact ha y h1
      · rw [List.mem_singleton] at h1; rw [h1]; exact hx) (fun y hy => hh y (by simp [hy]))]
    simp
theorem sq_zero {l : List Int} (h : ∀ x ∈ l, x = 0) : sq l = 0 := by
  induction l with
  | nil => rfl
  | cons x l ih =>
    rw [sq, ih (fun y hy => h y (by simp [hy])), h x (by simp), sat_of (by omega) (by omega)]
    rfl
theorem root_zero {q : Int} (h : IsRoot 0 q) : q = 0 := by
  obtain ⟨a, b, c⟩ := h
  rcases Int.lt_or_le 0 q with h | h
  · have := Int.mul_le_mul (show 1 ≤ q by omega) (show 1 ≤ q by omega) (by omega) (by omega); omega
  · omega
theorem steady_end {s : FS} {h : List S27} (ok : s.Ok h) (ht : s.told = false) (hx : ∀ x ∈ h, XOk x) (x0 x1 x3 : Int) (hs : ∀ y ∈ h, y.f0 = x0 ∧ y.f1 = x1) (hh : ∃ y t, h = y :: t ∧ y.f3 = x3) :
    Ev (fun k => (filter_Filter_Best.f k x3 s.r0.f0 s.r0.f1 s.r0.f2 s.r0.f3 s.r1.f0 s.r1.f1 s.r1.f2 s.r1.f3 s.r2.f0 s.r2.f1 s.r2.f2 s.r2.f3 s.r3.f0 s.r3.f1 s.r3.f2 s.r3.f3 s.r4.f0 s.r4.f1 s.r4.f2 s.r4.f3 s.r5.f0 s.r5.f1 s.r5.f2 s.r5.f3 s.r6.f0 s.r6.f1 s.r6.f2 s.r6.f3 s.r7.f0 s.r7.f1 s.r7.f2 s.r7.f3 s.n s.m s.told s.at_).bind fun t3 => (if t3.1 = x0 then (if t3.2.1 = x1 then (if t3.2.2.2.1 = 4096 then (if t3.2.2.2.2.1 = x3 then (some t3.2.2.2.2.2.1) else (some false)) else (some false)) else (some false)) else (some false))) true := by
  obtain ⟨y, t, rfl, hy⟩ := hh
  have hb : isort (y :: t) = y :: t := by
    have := steady_same (h := y :: t) (f1 := x1) (a := []) (by simp) (fun z hz => (hs z hz).2)
    exact this
  obtain ⟨hy0, hy1⟩ := hs y (by simp)
  have hz : ∀ v ∈ t.map (dOf y.f0), v = 0 := fun v hv => by
    obtain ⟨z, hz, rfl⟩ := List.mem_map.1 hv
    unfold dOf
    rw [(hs z (by simp [hz])).1, hy0, Int.sub_self, sat_of (by omega) (by omega)]
  have hj : Ev (fun k => fixed_RMS.f k (t.map (dOf y.f0))) 0 := by
    rcases ev_rms (t.map (dOf y.f0)) (fun v hv => by have := hz v hv; omega) with ⟨_, h⟩ | ⟨_, q, h, hr⟩
    · exact h
    · rw [sq_zero (fun v hv => hz v (List.mem_of_mem_take hv)), Int.zero_ediv] at hr
      rw [root_zero hr, sat_of (by omega) (by omega)] at h
      exact h
  have best := ev_best ok hx x3 hb 0 hj
  have hnew : newOf s y.f3 = true := by unfold newOf; rw [ht]; rfl
  rw [hnew] at best
  refine Ev.bind (f := fun k t3 => _) best ?_
  have e4 : mx 0 4096 = 4096 := by decide
  simp only [hy0, hy1, hy, e4, if_true]
  exact Ev.now _
theorem steady_l1 (x0 x1 x2 g : Int) (hx0 : -9223372036854775808 ≤ x0 ∧ x0 ≤ 9223372036854775807) (hx1 : -9223372036854775808 ≤ x1 ∧ x1 ≤ 9223372036854775807) (hx2 : -9223372036854775808 ≤ x2 ∧ x2 ≤ 9223372036854775807) :
    ∀ (d i : Nat) (x3 : Int) (s : FS) (h : List S27), i + d = 8 → s.Ok h → s.told = false → (∀ x ∈ h, XOk x) → i ≤ h.length → (∀ y ∈ h.take i, y.f0 = x0 ∧ y.f1 = x1) → (0 < i → ∃ y t, h = y :: t ∧ y.f3 = x3) →
    Ev (fun k => foliotlaw09_FilterSteady.l1 k g i x0 x1 x2 x3 s.r0.f0 s.r0.f1 s.r0.f2 s.r0.f3 s.r1.f0 s.r1.f1 s.r1.f2 s.r1.f3 s.r2.f0 s.r2.f1 s.r2.f2 s.r2.f3 s.r3.f0 s.r3.f1 s.r3.f2 s.r3.f3 s.r4.f0 s.r4.f1 s.r4.f2 s.r4.f3 s.r5.f0 s.r5.f1 s.r5.f2 s.r5.f3 s.r6.f0 s.r6.f1 s.r6.f2 s.r6.f3 s.r7.f0 s.r7.f1 s.r7.f2 s.r7.f3 s.n s.m s.told s.at_) true := by
  intro d
  induction d with
  | zero =>
    intro i x3 s h hi ok ht hx hl hs hh
    refine Ev.step (fun k => by rw [foliotlaw09_FilterSteady.l1, if_neg (by omega)]) ?_
    have h8 := ok.2.2.2.1
    rw [List.take_of_length_le (by omega)] at hs
    exact steady_end ok ht hx x0 x1 x3 hs (hh (by omega))
  | succ d ih =>
    intro i x3 s h hi ok ht hx hl hs hh
    have hw : wrap64 ((i : Int) + 1) = ((i + 1 : Nat) : Int) := by rw [w64_in (by omega) (by omega)]; rfl
    refine Ev.step (fun k => by rw [foliotlaw09_FilterSteady.l1, if_pos (by omega), fadd_eq s ok.1 ok.2.1, bsome, hw]) ?_
    have hn := Int.emod_nonneg (x3 + IntKind.u64.wrap g) (show (18446744073709551616 : Int) ≠ 0 by decide)
    have hn2 := Int.emod_lt_of_pos (x3 + IntKind.u64.wrap g) (show (0 : Int) < 18446744073709551616 by decide)
    rw [← u64w] at hn hn2
    generalize IntKind.u64.wrap (x3 + IntKind.u64.wrap g) = y3 at *
    have hy : XOk ⟨x0, x1, x2, y3⟩ := ⟨hx0.1, hx0.2, hx1.1, hx1.2, hx2.1, hx2.2, hn, by show y3 ≤ _; omega⟩
    refine ih (i + 1) y3 (s.add ⟨x0, x1, x2, y3⟩) ((⟨x0, x1, x2, y3⟩ :: h).take 8) (by omega) (ok.add _) ((add_told s _).1.trans ht) (hist_ok hx hy) ?_ ?_ ?_
    · rw [List.length_take, List.length_cons]; omega
    · rw [List.take_take, Nat.min_eq_left (by omega), List.take_succ_cons]
      intro z hz
      rcases List.mem_cons.1 hz with rfl | h1
      · exact ⟨rfl, rfl⟩
      · exact hs z h1
    · intro _
      exact ⟨⟨x0, x1, x2, y3⟩, h.take 7, rfl, rfl⟩
theorem steady_l0 (l : List S27) (hl : ∀ x ∈ l, XOk x) (hlen : l.length ≤ 65536) (x0 x1 x2 x3 g : Int) (r : Bool)
    (fin : ∀ (s : FS) (h : List S27), s.Ok h → s.told = false → (∀ x ∈ h, XOk x) → Ev (fun k => foliotlaw09_FilterSteady.l1 k g 0 x0 x1 x2 x3 s.r0.f0 s.r0.f1 s.r0.f2 s.r0.f3 s.r1.f0 s.r1.f1 s.r1.f2 s.r1.f3 s.r2.f0 s.r2.f1 s.r2.f2 s.r2.f3 s.r3.f0 s.r3.f1 s.r3.f2 s.r3.f3 s.r4.f0 s.r4.f1 s.r4.f2 s.r4.f3 s.r5.f0 s.r5.f1 s.r5.f2 s.r5.f3 s.r6.f0 s.r6.f1 s.r6.f2 s.r6.f3 s.r7.f0 s.r7.f1 s.r7.f2 s.r7.f3 s.n s.m s.told s.at_) r) :
    ∀ (d i : Nat) (s : FS) (h : List S27), i + d = l.length → s.Ok h → s.told = false → (∀ x ∈ h, XOk x) → Ev (fun k => foliotlaw09_FilterSteady.l0 k l g i x0 x1 x2 x3 s.r0.f0 s.r0.f1 s.r0.f2 s.r0.f3 s.r1.f0 s.r1.f1 s.r1.f2 s.r1.f3 s.r2.f0 s.r2.f1 s.r2.f2 s.r2.f3 s.r3.f0 s.r3.f1 s.r3.f2 s.r3.f3 s.r4.f0 s.r4.f1 s.r4.f2 s.r4.f3 s.r5.f0 s.r5.f1 s.r5.f2 s.r5.f3 s.r6.f0 s.r6.f1 s.r6.f2 s.r6.f3 s.r7.f0 s.r7.f1 s.r7.f2 s.r7.f3 s.n s.m s.told s.at_) r := by
  intro d
  induction d with
  | zero =>
    intro i s h hi ok ht hx
    refine Ev.step (fun k => by rw [foliotlaw09_FilterSteady.l0, if_neg (by omega)]) (fin s h ok ht hx)
  | succ d ih =>
    intro i s h hi ok ht hx
    have hw : wrap64 ((i : Int) + 1) = ((i + 1 : Nat) : Int) := by rw [w64_in (by omega) (by omega)]; rfl
    refine Ev.step (fun k => by rw [foliotlaw09_FilterSteady.l0, if_pos (by omega), if_pos (by omega), if_pos (by omega), rdOf_nat, fadd_eq s ok.1 ok.2.1, bsome, hw]) ?_
    exact ih (i + 1) (s.add (l.getD i z_S27)) _ (by omega) (ok.add _) ((add_told s _).1.trans ht) (hist_ok hx (getD_ok hl i (by omega)))
namespace Pure
theorem FilterSteady (a0 : List S27) (a1_0 : Int) (a1_1 : Int) (a1_2 : Int) (a1_3 : Int) (a2 : Int) (h0 : (a0.length ≤ 9223372036854775807 ∧ a0.length * 32 ≤ 140737488351232 ∧ ∀ x ∈ a0, okS27 x)) (h1 : (Lit.int .i64 a1_0).wf = true) (h2 : (Lit.int .i64 a1_1).wf = true) (h3 : (Lit.int .i64 a1_2).wf = true) (h4 : (Lit.int .u64 a1_3).wf = true) (h5 : (Lit.int .u32 a2).wf = true) : ∃ k, foliotlaw09_FilterSteady.f k a0 a1_0 a1_1 a1_2 a1_3 a2 = some true := by
  obtain ⟨_, _, hx⟩ := h0
  have hx : ∀ x ∈ a0, XOk x := fun x h => okx (hx x h)
  refine Ev.rounds (r := true) ?_
  unfold foliotlaw09_FilterSteady.f
  by_cases c : (a0.length : Int) > 4096
  · simp only [c, if_true]; exact Ev.now _
  by_cases c0 : a2 = 0
  · simp only [c, c0, if_true, if_false]; exact Ev.now _
  simp only [c, c0, if_false]
  rw [new_eq]
  simp only [bsome]
  refine steady_l0 a0 hx (by omega) a1_0 a1_1 a1_2 a1_3 a2 true ?_ a0.length 0 FS.new [] (by omega) FS.new_ok rfl (by simp)
  intro s h ok ht hxs
  exact steady_l1 a1_0 a1_1 a1_2 a2 (wf64 h1) (wf64 h2) (wf64 h3) 8 0 a1_3 s h (by omega) ok ht hxs (by omega) (by simp) (by omega)
end Pure
end Go.Proofs.Ytblmlfocmgpggaa.C
