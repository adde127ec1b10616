/- What is to be proved of FilterGrows. -/
import Derived.Test.YtblmlfocmgpggaaDC
import Derived.Test.YtblmlfocmgpggaaPC4
namespace Go.Proofs.Ytblmlfocmgpggaa.C
open Go Go.RowKit Go.Proofs.Ytblmlfocmgpggaa.Ev
set_option linter.unusedVariables false
set_option maxRecDepth 100000
def okS27 (x : S27) : Prop := (Lit.int .i64 x.f0).wf = true ∧ (Lit.int .i64 x.f1).wf = true ∧ (Lit.int .i64 x.f2).wf = true ∧ (Lit.int .u64 x.f3).wf = true
theorem okx {x : S27} (h : okS27 x) : XOk x := by
  obtain ⟨a, b, c, d⟩ := h
  obtain ⟨a0, a1⟩ := wf64 a
  obtain ⟨b0, b1⟩ := wf64 b
  obtain ⟨c0, c1⟩ := wf64 c
  have d : 0 ≤ x.f3 ∧ x.f3 ≤ 18446744073709551615 := by simpa [Lit.wf, IntKind.min, IntKind.max, IntKind.signed, IntKind.bits] using d
  exact ⟨a0, a1, b0, b1, c0, c1, d.1, d.2⟩
def Near (now : Int) (x : S27) : Prop := ∃ q : Int, 0 ≤ q ∧ q ≤ 6 ∧ x.f3 = (now - q) % 18446744073709551616
theorem near_mono (now g : Int) (h0 : 0 ≤ now) (h1 : now ≤ 18446744073709551615) (hg0 : 0 ≤ g) (hg : g ≤ 4294967295) {x : S27} (h : Near now x) :
    mx (sinceVal now x.f3) 0 ≤ mx (sinceVal (IntKind.u64.wrap (now + IntKind.u64.wrap (IntKind.u64.wrap g * 1048576))) x.f3) 0 := by
  obtain ⟨q, q0, q1, e⟩ := h
  rw [u64_in (n := g) (by omega) (by omega), u64_in (n := g * 1048576) (by omega) (by omega), u64w, e]
  have a : sinceVal now ((now - q) % 18446744073709551616) = q := by
    unfold sinceVal
    rw [u64w, show (now - (now - q) % 18446744073709551616) % 18446744073709551616 = q from by omega, w64_in (by omega) (by omega), sat_of (by omega) (by omega)]
  have b : sinceVal ((now + g * 1048576) % 18446744073709551616) ((now - q) % 18446744073709551616) = q + g * 1048576 := by
    unfold sinceVal
    rw [u64w, show ((now + g * 1048576) % 18446744073709551616 - (now - q) % 18446744073709551616) % 18446744073709551616 = q + g * 1048576 from by omega, w64_in (by omega) (by omega), sat_of (by omega) (by omega)]
  rw [a, b]
  unfold mx
  (repeat' split) <;> omega
theorem grows_end {s : FS} {h : List S27} (ok : s.Ok h) (ht : s.told = false) (hx : ∀ x ∈ h, XOk x) (hne : h ≠ []) (now g : Int) (h0 : 0 ≤ now) (h1 : now ≤ 18446744073709551615) (hg0 : 0 ≤ g) (hg : g ≤ 4294967295) (hn : ∀ x ∈ h, Near now x) :
    Ev (fun k => (filter_Filter_Best.f k now s.r0.f0 s.r0.f1 s.r0.f2 s.r0.f3 s.r1.f0 s.r1.f1 s.r1.f2 s.r1.f3 s.r2.f0 s.r2.f1 s.r2.f2 s.r2.f3 s.r3.f0 s.r3.f1 s.r3.f2 s.r3.f3 s.r4.f0 s.r4.f1 s.r4.f2 s.r4.f3 s.r5.f0 s.r5.f1 s.r5.f2 s.r5.f3 s.r6.f0 s.r6.f1 s.r6.f2 s.r6.f3 s.r7.f0 s.r7.f1 s.r7.f2 s.r7.f3 s.n s.m s.told s.at_).bind fun t2 => ((filter_Filter_Best.f k (IntKind.u64.wrap (now + (IntKind.u64.wrap ((IntKind.u64.wrap g) * 1048576)))) t2.2.2.2.2.2.2.1 t2.2.2.2.2.2.2.2.1 t2.2.2.2.2.2.2.2.2.1 t2.2.2.2.2.2.2.2.2.2.1 t2.2.2.2.2.2.2.2.2.2.2.1 t2.2.2.2.2.2.2.2.2.2.2.2.1 t2.2.2.2.2.2.2.2.2.2.2.2.2.1 t2.2.2.2.2.2.2.2.2.2.2.2.2.2.1 t2.2.2.2.2.2.2.2.2.2.2.2.2.2.2.1 t2.2.2.2.2.2.2.2.2.2.2.2.2.2.2.2.1 t2.2.2.2.2.2.2.2.2.2.2.2.2.2.2.2.2.1 t2.2.2.2.2.2.2.2.2.2.2.2.2.2.2.2.2.2.1 t2.2.2.2.2.2.2.2.2.2.2.2.2.2.2.2.2.2.2.1 t2.2.2.2.2.2.2.2.2.2.2.2.2.2.2.2.2.2.2.2.1 t2.2.2.2.2.2.2.2.2.2.2.2.2.2.2.2.2.2.2.2.2.1 t2.2.2.2.2.2.2.2.2.2.2.2.2.2.2.2.2.2.2.2.2.2.1 t2.2.2.2.2.2.2.2.2.2.2.2.2.2.2.2.2.2.2.2.2.2.2.1 t2.2.2.2.2.2.2.2.2.2.2.2.2.2.2.2.2.2.2.2.2.2.2.2.1 t2.2.2.2.2.2.2.2.2.2.2.2.2.2.2.2.2.2.2.2.2.2.2.2.2.1 t2.2.2.2.2.2.2.2.2.2.2.2.2.2.2.2.2.2.2.2.2.2.2.2.2.2.1 t2.2.2.2.2.2.2.2.2.2.2.2.2.2.2.2.2.2.2.2.2.2.2.2.2.2.2.1 t2.2.2.2.2.2.2.2.2.2.2.2.2.2.2.2.2.2.2.2.2.2.2.2.2.2.2.2.1 t2.2.2.2.2.2.2.2.2.2.2.2.2.2.2.2.2.2.2.2.2.2.2.2.2.2.2.2.2.1 t2.2.2.2.2.2.2.2.2.2.2.2.2.2.2.2.2.2.2.2.2.2.2.2.2.2.2.2.2.2.1 t2.2.2.2.2.2.2.2.2.2.2.2.2.2.2.2.2.2.2.2.2.2.2.2.2.2.2.2.2.2.2.1 t2.2.2.2.2.2.2.2.2.2.2.2.2.2.2.2.2.2.2.2.2.2.2.2.2.2.2.2.2.2.2.2.1 t2.2.2.2.2.2.2.2.2.2.2.2.2.2.2.2.2.2.2.2.2.2.2.2.2.2.2.2.2.2.2.2.2.1 t2.2.2.2.2.2.2.2.2.2.2.2.2.2.2.2.2.2.2.2.2.2.2.2.2.2.2.2.2.2.2.2.2.2.1 t2.2.2.2.2.2.2.2.2.2.2.2.2.2.2.2.2.2.2.2.2.2.2.2.2.2.2.2.2.2.2.2.2.2.2.1 t2.2.2.2.2.2.2.2.2.2.2.2.2.2.2.2.2.2.2.2.2.2.2.2.2.2.2.2.2.2.2.2.2.2.2.2.1 t2.2.2.2.2.2.2.2.2.2.2.2.2.2.2.2.2.2.2.2.2.2.2.2.2.2.2.2.2.2.2.2.2.2.2.2.2.1 t2.2.2.2.2.2.2.2.2.2.2.2.2.2.2.2.2.2.2.2.2.2.2.2.2.2.2.2.2.2.2.2.2.2.2.2.2.2.1 t2.2.2.2.2.2.2.2.2.2.2.2.2.2.2.2.2.2.2.2.2.2.2.2.2.2.2.2.2.2.2.2.2.2.2.2.2.2.2.1 t2.2.2.2.2.2.2.2.2.2.2.2.2.2.2.2.2.2.2.2.2.2.2.2.2.2.2.2.2.2.2.2.2.2.2.2.2.2.2.2.1 t2.2.2.2.2.2.2.2.2.2.2.2.2.2.2.2.2.2.2.2.2.2.2.2.2.2.2.2.2.2.2.2.2.2.2.2.2.2.2.2.2.1 t2.2.2.2.2.2.2.2.2.2.2.2.2.2.2.2.2.2.2.2.2.2.2.2.2.2.2.2.2.2.2.2.2.2.2.2.2.2.2.2.2.2).bind fun t3 => (bif t2.2.2.2.2.2.1 then (bif (!t3.2.2.2.2.2.1) then (if t2.1 = t3.1 then (if t2.2.1 = t3.2.1 then (if t2.2.2.2.2.1 = t3.2.2.2.2.1 then (if t2.2.2.2.1 = t3.2.2.2.1 then (if t2.2.2.1 ≤ t3.2.2.1 then (some (decide (t3.2.2.1 ≤ 68719476736))) else (some false)) else (some false)) else (some false)) else (some false)) else (some false)) else (some false)) else (some false)))) true := by
  obtain ⟨b, t, hb⟩ : ∃ b t, isort h = b :: t := by
    cases e : isort h with
    | nil => have := isort_len h; rw [e] at this; exact absurd (List.length_eq_zero_iff.1 this.symm) hne
    | cons b t => exact ⟨b, t, rfl⟩
  obtain ⟨j, hj⟩ := rms_some t b.f0
  have b1 := ev_best ok hx now hb j hj
  have hnew : newOf s b.f3 = true := by unfold newOf; rw [ht]; rfl
  rw [hnew] at b1
  have b2 := ev_best (ok.tell b.f3 true) hx (IntKind.u64.wrap (now + IntKind.u64.wrap (IntKind.u64.wrap g * 1048576))) hb j hj
  have hnew2 : newOf (s.tell b.f3 true) b.f3 = false := by
    unfold newOf FS.tell
    simp only [cond_true, since_self]
    decide
  rw [hnew2] at b2
  have hm := disp_mono (n := now) (m := IntKind.u64.wrap (now + IntKind.u64.wrap (IntKind.u64.wrap g * 1048576))) (b :: t) (fun x hx' => near_mono now g h0 h1 hg0 hg (hn x ((isort_perm h).mem_iff.1 (by rw [hb]; exact hx'))))
  have hd := disp_bd (IntKind.u64.wrap (now + IntKind.u64.wrap (IntKind.u64.wrap g * 1048576))) (b :: t)
  refine Ev.bind (f := fun k t2 => _) b1 ?_
  refine Ev.bind (f := fun k t3 => _) b2 ?_
  simp only [cond_true, Bool.not_false, if_true, hm, hd.2, decide_true]
  exact Ev.now _
theorem grows_l0 (l : List S27) (hl : ∀ x ∈ l, XOk x) (hlen : l.length ≤ 65536) (now g : Int) (h0 : 0 ≤ now) (h1 : now ≤ 18446744073709551615) (hg0 : 0 ≤ g) (hg : g ≤ 4294967295) :
    ∀ (d i : Nat) (s : FS) (h : List S27), i + d = l.length → s.Ok h → s.told = false → (∀ x ∈ h, XOk x) → (∀ x ∈ h, Near now x) → (h ≠ [] ∨ 0 < d) → Ev (fun k => foliotlaw09_FilterGrows.l0 k l now g i s.r0.f0 s.r0.f1 s.r0.f2 s.r0.f3 s.r1.f0 s.r1.f1 s.r1.f2 s.r1.f3 s.r2.f0 s.r2.f1 s.r2.f2 s.r2.f3 s.r3.f0 s.r3.f1 s.r3.f2 s.r3.f3 s.r4.f0 s.r4.f1 s.r4.f2 s.r4.f3 s.r5.f0 s.r5.f1 s.r5.f2 s.r5.f3 s.r6.f0 s.r6.f1 s.r6.f2 s.r6.f3 s.r7.f0 s.r7.f1 s.r7.f2 s.r7.f3 s.n s.m s.told s.at_) true := by
  intro d
  induction d with
  | zero =>
    intro i s h hi ok ht hx hn hne
    refine Ev.step (fun k => by rw [foliotlaw09_FilterGrows.l0, if_neg (by omega)]) ?_
    exact grows_end ok ht hx (hne.resolve_right (by omega)) now g h0 h1 hg0 hg hn
  | succ d ih =>
    intro i s h hi ok ht hx hn hne
    have hw : wrap64 ((i : Int) + 1) = ((i + 1 : Nat) : Int) := by rw [w64_in (by omega) (by omega)]; rfl
    have hxi := getD_ok hl i (by omega)
    have e3 : IntKind.u64.wrap (now - IntKind.u64.wrap (Int.tmod (i : Int) 7)) = (now - (i : Int) % 7) % 18446744073709551616 := by
      rw [Int.tmod_eq_emod_of_nonneg (by omega), u64_in (n := (i : Int) % 7) (by omega) (by omega), u64w]
    refine Ev.step (fun k => by rw [foliotlaw09_FilterGrows.l0, if_pos (by omega), if_pos (by omega), if_pos (by omega), rdOf_nat, fadd_eq s ok.1 ok.2.1, bsome, hw, e3]) ?_
    have hy : XOk ⟨(l.getD i z_S27).f0, (l.getD i z_S27).f1, (l.getD i z_S27).f2, (now - (i : Int) % 7) % 18446744073709551616⟩ := ⟨hxi.a0, hxi.a1, hxi.b0, hxi.b1, hxi.c0, hxi.c1, by show 0 ≤ (now - (i : Int) % 7) % 18446744073709551616; omega, by show (now - (i : Int) % 7) % 18446744073709551616 ≤ _; omega⟩
    refine ih (i + 1) (s.add ⟨(l.getD i z_S27).f0, (l.getD i z_S27).f1, (l.getD i z_S27).f2, (now - (i : Int) % 7) % 18446744073709551616⟩) _ (by omega) (ok.add _) ((add_told s _).1.trans ht) (hist_ok hx hy) (hist_ok hn ⟨(i : Int) % 7, by omega, by omega, rfl⟩) (.inl ?_)
    simp
namespace Pure
theorem FilterGrows (a0 : List S27) (a1 : Int) (a2 : Int) (h0 : (a0.length ≤ 9223372036854775807 ∧ a0.length * 32 ≤ 140737488351232 ∧ ∀ x ∈ a0, okS27 x)) (h1 : (Lit.int .u64 a1).wf = true) (h2 : (Lit.int .u32 a2).wf = true) : ∃ k, foliotlaw09_FilterGrows.f k a0 a1 a2 = some true := by
  obtain ⟨_, _, hx⟩ := h0
  have hx : ∀ x ∈ a0, XOk x := fun x h => okx (hx x h)
  have h1 : 0 ≤ a1 ∧ a1 ≤ 18446744073709551615 := by simpa [Lit.wf, IntKind.min, IntKind.max, IntKind.signed, IntKind.bits] using h1
  have h2 : 0 ≤ a2 ∧ a2 ≤ 4294967295 := by simpa [Lit.wf, IntKind.min, IntKind.max, IntKind.signed, IntKind.bits] using h2
  refine Ev.rounds (r := true) ?_
  unfold foliotlaw09_FilterGrows.f
  by_cases c : (a0.length : Int) > 65536
  · simp only [c, if_true]; exact Ev.now _
  by_cases c0 : (a0.length : Int) = 0
  · simp only [c, c0, if_true, if_false]; exact Ev.now _
  simp only [c, c0, if_false]
  rw [new_eq]
  simp only [bsome]
  have e : mx 0 (wrap64 ((a0.length : Int) - 20)) = ((a0.length - 20 : Nat) : Int) := by
    rw [w64_in (by omega) (by omega)]; unfold mx; split <;> omega
  rw [e]
  exact grows_l0 a0 hx (by omega) a1 a2 h1.1 h1.2 h2.1 h2.2 (a0.length - (a0.length - 20)) (a0.length - 20) FS.new [] (by omega) FS.new_ok rfl (by simp) (by simp) (.inr (by omega))
end Pure
end Go.Proofs.Ytblmlfocmgpggaa.C
