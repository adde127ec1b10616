/- What is to be proved of FilterScript. -/
import Derived.Test.YtblmlfocmgpggaaDQ
import Derived.Test.YtblmlfocmgpggaaPQ5
namespace Go.Proofs.Ytblmlfocmgpggaa.Q
open Go Go.RowKit Go.Proofs.Ytblmlfocmgpggaa.Ev
set_option linter.unusedVariables false
set_option maxRecDepth 100000
def okS44 (x : S44) : Prop := (Lit.int .i64 x.f0).wf = true ∧ (Lit.int .i64 x.f1).wf = true ∧ (Lit.int .i64 x.f2).wf = true ∧ (Lit.int .i64 x.f3).wf = true ∧ (Lit.int .u64 x.f4).wf = true ∧ (Lit.int .u64 x.f5).wf = true
theorem clear_eq (s : FS) : filter_Filter_Clear.f s.r0.f0 s.r0.f1 s.r0.f2 s.r0.f3 s.r1.f0 s.r1.f1 s.r1.f2 s.r1.f3 s.r2.f0 s.r2.f1 s.r2.f2 s.r2.f3 s.r3.f0 s.r3.f1 s.r3.f2 s.r3.f3 s.r4.f0 s.r4.f1 s.r4.f2 s.r4.f3 s.r5.f0 s.r5.f1 s.r5.f2 s.r5.f3 s.r6.f0 s.r6.f1 s.r6.f2 s.r6.f3 s.r7.f0 s.r7.f1 s.r7.f2 s.r7.f3 s.n s.m s.told s.at_ = some (FS.new.r0.f0, FS.new.r0.f1, FS.new.r0.f2, FS.new.r0.f3, FS.new.r1.f0, FS.new.r1.f1, FS.new.r1.f2, FS.new.r1.f3, FS.new.r2.f0, FS.new.r2.f1, FS.new.r2.f2, FS.new.r2.f3, FS.new.r3.f0, FS.new.r3.f1, FS.new.r3.f2, FS.new.r3.f3, FS.new.r4.f0, FS.new.r4.f1, FS.new.r4.f2, FS.new.r4.f3, FS.new.r5.f0, FS.new.r5.f1, FS.new.r5.f2, FS.new.r5.f3, FS.new.r6.f0, FS.new.r6.f1, FS.new.r6.f2, FS.new.r6.f3, FS.new.r7.f0, FS.new.r7.f1, FS.new.r7.f2, FS.new.r7.f3, FS.new.n, FS.new.m, FS.new.told, FS.new.at_) := rfl
theorem script_l1 (l : List S44) (i : Nat) (hi : i < 4611686018427387904) (s : FS) (told : Bool) (at_ : Int) (h : List S27) (r : Bool) (next : Ev (fun k => foliotlaw09_FilterScript.l0 k l ((i + 1 : Nat) : Int) s.r0.f0 s.r0.f1 s.r0.f2 s.r0.f3 s.r1.f0 s.r1.f1 s.r1.f2 s.r1.f3 s.r2.f0 s.r2.f1 s.r2.f2 s.r2.f3 s.r3.f0 s.r3.f1 s.r3.f2 s.r3.f3 s.r4.f0 s.r4.f1 s.r4.f2 s.r4.f3 s.r5.f0 s.r5.f1 s.r5.f2 s.r5.f3 s.r6.f0 s.r6.f1 s.r6.f2 s.r6.f3 s.r7.f0 s.r7.f1 s.r7.f2 s.r7.f3 s.n s.m s.told s.at_ told at_ h) r) :
    ∀ (d n : Nat) (e : List S27), n + d = e.length → e.length ≤ 8 → Ev (fun k => foliotlaw09_FilterScript.l1 k l (i : Int) (n : Int) s.r0.f0 s.r0.f1 s.r0.f2 s.r0.f3 s.r1.f0 s.r1.f1 s.r1.f2 s.r1.f3 s.r2.f0 s.r2.f1 s.r2.f2 s.r2.f3 s.r3.f0 s.r3.f1 s.r3.f2 s.r3.f3 s.r4.f0 s.r4.f1 s.r4.f2 s.r4.f3 s.r5.f0 s.r5.f1 s.r5.f2 s.r5.f3 s.r6.f0 s.r6.f1 s.r6.f2 s.r6.f3 s.r7.f0 s.r7.f1 s.r7.f2 s.r7.f3 s.n s.m s.told s.at_ told at_ e h) r := by
  intro d
  induction d with
  | zero =>
    intro n e hn he
    have hw : wrap64 ((i : Int) + 1) = ((i + 1 : Nat) : Int) := by rw [w64_in (by omega) (by omega)]; rfl
    refine Ev.step (fun k => by rw [foliotlaw09_FilterScript.l1, if_neg (by omega), hw]) next
  | succ d ih =>
    intro n e hn he
    have hw : wrap64 ((n : Int) + 1) = ((n + 1 : Nat) : Int) := by rw [w64_in (by omega) (by omega)]; rfl
    refine Ev.step (fun k => by rw [foliotlaw09_FilterScript.l1, if_pos (by omega), if_pos (by omega), if_pos (by omega), hw]) ?_
    exact ih (n + 1) _ (by rw [List.length_set]; omega) (by rw [List.length_set]; exact he)
theorem script_j0 (l : List S44) (i : Nat) (hi : i < 4611686018427387904) {s : FS} {told : Bool} {at_ : Int} {h : List S27} (tw : Two s h told at_) (r : Bool) (next : Ev (fun k => foliotlaw09_FilterScript.l0 k l ((i + 1 : Nat) : Int) s.r0.f0 s.r0.f1 s.r0.f2 s.r0.f3 s.r1.f0 s.r1.f1 s.r1.f2 s.r1.f3 s.r2.f0 s.r2.f1 s.r2.f2 s.r2.f3 s.r3.f0 s.r3.f1 s.r3.f2 s.r3.f3 s.r4.f0 s.r4.f1 s.r4.f2 s.r4.f3 s.r5.f0 s.r5.f1 s.r5.f2 s.r5.f3 s.r6.f0 s.r6.f1 s.r6.f2 s.r6.f3 s.r7.f0 s.r7.f1 s.r7.f2 s.r7.f3 s.n s.m s.told s.at_ told at_ h) r) :
    Ev (fun k => foliotlaw09_FilterScript.j0 k l (i : Int) s.r0.f0 s.r0.f1 s.r0.f2 s.r0.f3 s.r1.f0 s.r1.f1 s.r1.f2 s.r1.f3 s.r2.f0 s.r2.f1 s.r2.f2 s.r2.f3 s.r3.f0 s.r3.f1 s.r3.f2 s.r3.f3 s.r4.f0 s.r4.f1 s.r4.f2 s.r4.f3 s.r5.f0 s.r5.f1 s.r5.f2 s.r5.f3 s.r6.f0 s.r6.f1 s.r6.f2 s.r6.f3 s.r7.f0 s.r7.f1 s.r7.f2 s.r7.f3 s.n s.m s.told s.at_ told at_ h) r := by
  have h8 := tw.ok.2.2.2.1
  refine Ev.step (fun k => by rw [foliotlaw09_FilterScript.j0]) ?_
  refine Ev.bind (f := fun k t7 => _) (ev_samples tw.ok) ?_
  refine Ev.bind (f := fun k t8 => _) (ev_same h h8) ?_
  simp only [Bool.not_true, cond_false]
  exact script_l1 l i hi s told at_ h r next h.length 0 h (by omega) h8
theorem script_l0 (l : List S44) (hl : l.length ≤ 65536) (hx : ∀ x ∈ l, XOk ⟨x.f1, x.f2, x.f3, x.f4⟩) : ∀ (d i : Nat) (s : FS) (h : List S27) (told : Bool) (at_ : Int), i + d = l.length → Two s h told at_ → Ev (fun k => foliotlaw09_FilterScript.l0 k l (i : Int) s.r0.f0 s.r0.f1 s.r0.f2 s.r0.f3 s.r1.f0 s.r1.f1 s.r1.f2 s.r1.f3 s.r2.f0 s.r2.f1 s.r2.f2 s.r2.f3 s.r3.f0 s.r3.f1 s.r3.f2 s.r3.f3 s.r4.f0 s.r4.f1 s.r4.f2 s.r4.f3 s.r5.f0 s.r5.f1 s.r5.f2 s.r5.f3 s.r6.f0 s.r6.f1 s.r6.f2 s.r6.f3 s.r7.f0 s.r7.f1 s.r7.f2 s.r7.f3 s.n s.m s.told s.at_ told at_ h) true := by
  intro d
  induction d with
  | zero =>
    intro i s h told at_ hi tw
    refine Ev.succ fun k => ?_
    rw [foliotlaw09_FilterScript.l0, if_neg (by omega)]
  | succ d ih =>
    intro i s h told at_ hi tw
    have hil : i < l.length := by omega
    have e : rdOf z_S44 l (i : Int) = l[i] := by unfold rdOf; rw [Int.toNat_natCast, List.getD_eq_getElem?_getD, List.getElem?_eq_getElem hil]; rfl
    have hxi := hx _ (List.getElem_mem hil)
    have h8 := tw.ok.2.2.2.1
    generalize l[i] = o at *
    have go : ∀ (s : FS) (h : List S27) (told : Bool) (at_ : Int), Two s h told at_ → Ev (fun k => foliotlaw09_FilterScript.j0 k l (i : Int) s.r0.f0 s.r0.f1 s.r0.f2 s.r0.f3 s.r1.f0 s.r1.f1 s.r1.f2 s.r1.f3 s.r2.f0 s.r2.f1 s.r2.f2 s.r2.f3 s.r3.f0 s.r3.f1 s.r3.f2 s.r3.f3 s.r4.f0 s.r4.f1 s.r4.f2 s.r4.f3 s.r5.f0 s.r5.f1 s.r5.f2 s.r5.f3 s.r6.f0 s.r6.f1 s.r6.f2 s.r6.f3 s.r7.f0 s.r7.f1 s.r7.f2 s.r7.f3 s.n s.m s.told s.at_ told at_ h) true := fun s h told at_ tw => script_j0 l i (by omega) tw true (ih (i + 1) s h told at_ (by omega) tw)
    refine Ev.step (fun k => by rw [foliotlaw09_FilterScript.l0, if_pos (by omega), if_pos (by omega), if_pos (by omega), e]) ?_
    by_cases c0 : o.f0 = 0
    · simp only [c0, if_true]
      rw [fadd_eq s tw.ok.1 tw.ok.2.1, ref_fadd _ _ _ _ _ _ _ h8]
      simp only [bsome]
      exact go _ _ told at_ (tw.add hxi)
    · simp only [c0, if_false]
      by_cases c1 : o.f0 = 1
      · simp only [c1, if_true]
        obtain ⟨bo, bd, bp, bj, ba, bn, s', told', at', e1, e2, tw'⟩ := two_best tw o.f5
        refine Ev.bind (f := fun k t3 => _) e1 ?_
        refine Ev.bind (f := fun k t4 => _) e2 ?_
        refine Ev.congr (fun k => by rw [if_neg (fun h => h ⟨rfl, rfl, rfl, rfl, rfl, rfl⟩)]) ?_
        exact go s' h told' at' tw'
      · simp only [c1, if_false]
        by_cases c2 : o.f0 = 2
        · simp only [c2, if_true]
          rw [clear_eq]
          simp only [bsome, foliotref09_Filter_Clear.f]
          exact go FS.new [] false at_ ⟨FS.new_ok, rfl, (fun h => by cases h), by simp⟩
        · simp only [c2, if_false]
          exact go s h told at_ tw
namespace Pure
theorem FilterScript (a0 : List S44) (h0 : (a0.length ≤ 9223372036854775807 ∧ a0.length * 48 ≤ 140737488351232 ∧ ∀ x ∈ a0, okS44 x)) : ∃ k, foliotlaw09_FilterScript.f k a0 = some true := by
  obtain ⟨_, _, hx⟩ := h0
  have hx : ∀ x ∈ a0, XOk ⟨x.f1, x.f2, x.f3, x.f4⟩ := fun x h => by
    obtain ⟨_, a, b, c, d, _⟩ := hx x h
    obtain ⟨a0, a1⟩ := wf64 a
    obtain ⟨b0, b1⟩ := wf64 b
    obtain ⟨c0, c1⟩ := wf64 c
    have d : 0 ≤ x.f4 ∧ x.f4 ≤ 18446744073709551615 := by simpa [Lit.wf, IntKind.min, IntKind.max, IntKind.signed, IntKind.bits] using d
    exact ⟨a0, a1, b0, b1, c0, c1, d.1, d.2⟩
  refine Ev.rounds (r := true) ?_
  unfold foliotlaw09_FilterScript.f
  by_cases c : (a0.length : Int) > 65536
  · simp only [c, if_true]; exact Ev.now _
  simp only [c, if_false]
  rw [new_eq]
  simp only [bsome]
  exact script_l0 a0 (by omega) hx a0.length 0 FS.new [] false 0 (by omega) two_new
end Pure
end Go.Proofs.Ytblmlfocmgpggaa.Q
