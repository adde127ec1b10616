/- What is to be proved of FilterForgets. -/
import Derived.Test.YtblmlfocmgpggaaDQ
import Derived.Test.YtblmlfocmgpggaaPQ5
namespace Go.Proofs.Ytblmlfocmgpggaa.Q
open Go Go.RowKit Go.Proofs.Ytblmlfocmgpggaa.Ev
set_option linter.unusedVariables false
set_option maxRecDepth 100000
def okS27 (x : S27) : Prop := (Lit.int .i64 x.f0).wf = true ∧ (Lit.int .i64 x.f1).wf = true ∧ (Lit.int .i64 x.f2).wf = true ∧ (Lit.int .u64 x.f3).wf = true
theorem okx {x : S27} (h : okS27 x) : XOk x := by
  obtain ⟨a, b, c, d⟩ := h
  obtain ⟨a0, a1⟩ := wf64 a
  obtain ⟨b0, b1⟩ := wf64 b
  obtain ⟨c0, c1⟩ := wf64 c
  have d : 0 ≤ x.f3 ∧ x.f3 ≤ 18446744073709551615 := by simpa [Lit.wf, IntKind.min, IntKind.max, IntKind.signed, IntKind.bits] using d
  exact ⟨a0, a1, b0, b1, c0, c1, d.1, d.2⟩
theorem clear_eq (s : FS) : filter_Filter_Clear.f s.r0.f0 s.r0.f1 s.r0.f2 s.r0.f3 s.r1.f0 s.r1.f1 s.r1.f2 s.r1.f3 s.r2.f0 s.r2.f1 s.r2.f2 s.r2.f3 s.r3.f0 s.r3.f1 s.r3.f2 s.r3.f3 s.r4.f0 s.r4.f1 s.r4.f2 s.r4.f3 s.r5.f0 s.r5.f1 s.r5.f2 s.r5.f3 s.r6.f0 s.r6.f1 s.r6.f2 s.r6.f3 s.r7.f0 s.r7.f1 s.r7.f2 s.r7.f3 s.n s.m s.told s.at_ = some (FS.new.r0.f0, FS.new.r0.f1, FS.new.r0.f2, FS.new.r0.f3, FS.new.r1.f0, FS.new.r1.f1, FS.new.r1.f2, FS.new.r1.f3, FS.new.r2.f0, FS.new.r2.f1, FS.new.r2.f2, FS.new.r2.f3, FS.new.r3.f0, FS.new.r3.f1, FS.new.r3.f2, FS.new.r3.f3, FS.new.r4.f0, FS.new.r4.f1, FS.new.r4.f2, FS.new.r4.f3, FS.new.r5.f0, FS.new.r5.f1, FS.new.r5.f2, FS.new.r5.f3, FS.new.r6.f0, FS.new.r6.f1, FS.new.r6.f2, FS.new.r6.f3, FS.new.r7.f0, FS.new.r7.f1, FS.new.r7.f2, FS.new.r7.f3, FS.new.n, FS.new.m, FS.new.told, FS.new.at_) := rfl
def H (l : List S27) (i : Nat) : List S27 := (l.take i).foldl (fun a x => (x :: a).take 8) []
theorem H_succ (l : List S27) (i : Nat) (hi : i < l.length) : H l (i + 1) = ((l.getD i z_S27) :: H l i).take 8 := by
  unfold H
  have hget : l.getD i z_S27 = l[i] := by rw [List.getD_eq_getElem?_getD, List.getElem?_eq_getElem hi]; rfl
  rw [List.take_succ_eq_append_getElem hi, List.foldl_append, hget]
  rfl
theorem forgets_l2 (l : List S27) (hl : l.length ≤ 4096) (hx : ∀ x ∈ l, XOk x) (now : Int) {sa sb sc : FS} (ta : 8 ≤ l.length → Two sa (H l l.length) false 0) (tb : Two sb (H l l.length) false 0) (tc : Two sc (H l l.length) false 0) :
    ∀ (d i : Nat), i + d = l.length → (H l i).length ≤ 8 → Ev (fun k => foliotlaw09_FilterForgets.l2 k l now (i : Int) sa.r0.f0 sa.r0.f1 sa.r0.f2 sa.r0.f3 sa.r1.f0 sa.r1.f1 sa.r1.f2 sa.r1.f3 sa.r2.f0 sa.r2.f1 sa.r2.f2 sa.r2.f3 sa.r3.f0 sa.r3.f1 sa.r3.f2 sa.r3.f3 sa.r4.f0 sa.r4.f1 sa.r4.f2 sa.r4.f3 sa.r5.f0 sa.r5.f1 sa.r5.f2 sa.r5.f3 sa.r6.f0 sa.r6.f1 sa.r6.f2 sa.r6.f3 sa.r7.f0 sa.r7.f1 sa.r7.f2 sa.r7.f3 sa.n sa.m sa.told sa.at_ sb.r0.f0 sb.r0.f1 sb.r0.f2 sb.r0.f3 sb.r1.f0 sb.r1.f1 sb.r1.f2 sb.r1.f3 sb.r2.f0 sb.r2.f1 sb.r2.f2 sb.r2.f3 sb.r3.f0 sb.r3.f1 sb.r3.f2 sb.r3.f3 sb.r4.f0 sb.r4.f1 sb.r4.f2 sb.r4.f3 sb.r5.f0 sb.r5.f1 sb.r5.f2 sb.r5.f3 sb.r6.f0 sb.r6.f1 sb.r6.f2 sb.r6.f3 sb.r7.f0 sb.r7.f1 sb.r7.f2 sb.r7.f3 sb.n sb.m sb.told sb.at_ sc.r0.f0 sc.r0.f1 sc.r0.f2 sc.r0.f3 sc.r1.f0 sc.r1.f1 sc.r1.f2 sc.r1.f3 sc.r2.f0 sc.r2.f1 sc.r2.f2 sc.r2.f3 sc.r3.f0 sc.r3.f1 sc.r3.f2 sc.r3.f3 sc.r4.f0 sc.r4.f1 sc.r4.f2 sc.r4.f3 sc.r5.f0 sc.r5.f1 sc.r5.f2 sc.r5.f3 sc.r6.f0 sc.r6.f1 sc.r6.f2 sc.r6.f3 sc.r7.f0 sc.r7.f1 sc.r7.f2 sc.r7.f3 sc.n sc.m sc.told sc.at_ false 0 (H l i)) true := by
  intro d
  induction d with
  | zero =>
    intro i hi h8
    obtain rfl : i = l.length := by omega
    obtain ⟨bo, bd, bp, bj, ba, bn, s1, t1, a1, e1, r1, w1⟩ := two_best tb now
    obtain ⟨co, cd, cp, cj, ca, cn, s2, t2, a2, e2, r2, w2⟩ := two_best tc now
    have q := Ev.uniq r1 r2
    simp only [Prod.mk.injEq] at q
    obtain ⟨rfl, rfl, rfl, rfl, rfl, rfl, rfl, rfl, _⟩ := q
    refine Ev.step (fun k => by rw [foliotlaw09_FilterForgets.l2, if_neg (by omega)]) ?_
    refine Ev.bind (f := fun k t11 => _) e1 ?_
    refine Ev.bind (f := fun k t12 => _) r1 ?_
    refine Ev.congr (fun k => by rw [if_neg (fun h => h ⟨rfl, rfl, rfl, rfl, rfl, rfl⟩)]) ?_
    refine Ev.bind (f := fun k t13 => _) e2 ?_
    refine Ev.congr (fun k => by rw [if_neg (fun h => h ⟨rfl, rfl, rfl, rfl, rfl, rfl⟩)]) ?_
    refine Ev.bind (f := fun k t14 => _) (ev_samples w1.ok) ?_
    refine Ev.bind (f := fun k t15 => _) (ev_samples w2.ok) ?_
    refine Ev.bind (f := fun k t16 => _) (ev_same _ h8) ?_
    simp only [Bool.not_true, cond_false]
    by_cases c8 : (l.length : Int) < 8
    · simp only [c8, if_true]; exact Ev.now _
    · simp only [c8, if_false]
      obtain ⟨ao, ad, ap, aj, aa, an, s3, t3, a3, e3, r3, w3⟩ := two_best (ta (by omega)) now
      have q := Ev.uniq r1 r3
      simp only [Prod.mk.injEq] at q
      obtain ⟨rfl, rfl, rfl, rfl, rfl, rfl, rfl, rfl, _⟩ := q
      refine Ev.bind (f := fun k t17 => _) e3 ?_
      refine Ev.const (congrArg some (decide_eq_true ⟨rfl, rfl, rfl, rfl, rfl, rfl⟩))
  | succ d ih =>
    intro i hi h8
    have hw : wrap64 ((i : Int) + 1) = ((i + 1 : Nat) : Int) := by rw [w64_in (by omega) (by omega)]; rfl
    have h := ih (i + 1) (by omega) (by rw [H_succ l i (by omega), List.length_take]; omega)
    rw [H_succ l i (by omega)] at h
    refine Ev.step (fun k => by rw [foliotlaw09_FilterForgets.l2, if_pos (by omega), if_pos (by omega), if_pos (by omega), rdOf_nat, ref_fadd _ _ _ _ _ _ _ h8, bsome, hw]) h
theorem forgets_l1 (l : List S27) (hl : l.length ≤ 4096) (hx : ∀ x ∈ l, XOk x) (now : Int) : ∀ (d i : Nat) (sa sb sc : FS) (ha : List S27), i + d = l.length → Two sa ha false 0 → Two sb (H l i) false 0 → Two sc (H l i) false 0 → (H l i).length = min 8 i → ha.take (min 8 i) = H l i →
    Ev (fun k => foliotlaw09_FilterForgets.l1 k l now (i : Int) sa.r0.f0 sa.r0.f1 sa.r0.f2 sa.r0.f3 sa.r1.f0 sa.r1.f1 sa.r1.f2 sa.r1.f3 sa.r2.f0 sa.r2.f1 sa.r2.f2 sa.r2.f3 sa.r3.f0 sa.r3.f1 sa.r3.f2 sa.r3.f3 sa.r4.f0 sa.r4.f1 sa.r4.f2 sa.r4.f3 sa.r5.f0 sa.r5.f1 sa.r5.f2 sa.r5.f3 sa.r6.f0 sa.r6.f1 sa.r6.f2 sa.r6.f3 sa.r7.f0 sa.r7.f1 sa.r7.f2 sa.r7.f3 sa.n sa.m sa.told sa.at_ sb.r0.f0 sb.r0.f1 sb.r0.f2 sb.r0.f3 sb.r1.f0 sb.r1.f1 sb.r1.f2 sb.r1.f3 sb.r2.f0 sb.r2.f1 sb.r2.f2 sb.r2.f3 sb.r3.f0 sb.r3.f1 sb.r3.f2 sb.r3.f3 sb.r4.f0 sb.r4.f1 sb.r4.f2 sb.r4.f3 sb.r5.f0 sb.r5.f1 sb.r5.f2 sb.r5.f3 sb.r6.f0 sb.r6.f1 sb.r6.f2 sb.r6.f3 sb.r7.f0 sb.r7.f1 sb.r7.f2 sb.r7.f3 sb.n sb.m sb.told sb.at_ sc.r0.f0 sc.r0.f1 sc.r0.f2 sc.r0.f3 sc.r1.f0 sc.r1.f1 sc.r1.f2 sc.r1.f3 sc.r2.f0 sc.r2.f1 sc.r2.f2 sc.r2.f3 sc.r3.f0 sc.r3.f1 sc.r3.f2 sc.r3.f3 sc.r4.f0 sc.r4.f1 sc.r4.f2 sc.r4.f3 sc.r5.f0 sc.r5.f1 sc.r5.f2 sc.r5.f3 sc.r6.f0 sc.r6.f1 sc.r6.f2 sc.r6.f3 sc.r7.f0 sc.r7.f1 sc.r7.f2 sc.r7.f3 sc.n sc.m sc.told sc.at_) true := by
  intro d
  induction d with
  | zero =>
    intro i sa sb sc ha hi ta tb tc hn hh
    obtain rfl : i = l.length := by omega
    refine Ev.step (fun k => by rw [foliotlaw09_FilterForgets.l1, if_neg (by omega)]) ?_
    refine forgets_l2 l hl hx now (fun h8 => ?_) tb tc l.length 0 (by omega) (by simp [H])
    rw [Nat.min_eq_left h8, List.take_of_length_le ta.ok.2.2.2.1] at hh
    rw [← hh]; exact ta
  | succ d ih =>
    intro i sa sb sc ha hi ta tb tc hn hh
    have hw : wrap64 ((i : Int) + 1) = ((i + 1 : Nat) : Int) := by rw [w64_in (by omega) (by omega)]; rfl
    have hxi := getD_ok hx i (show i < l.length by omega)
    have c1 : (i : Int) < (l.length : Int) := by omega
    have c2 : (0 : Int) ≤ (i : Int) := by omega
    refine Ev.step (fun k => by rw [foliotlaw09_FilterForgets.l1, if_pos c1, if_pos c2, if_pos c1, rdOf_nat, fadd_eq sa ta.ok.1 ta.ok.2.1, bsome, if_pos c2, if_pos c1, fadd_eq sb tb.ok.1 tb.ok.2.1, bsome, if_pos c2, if_pos c1, fadd_eq sc tc.ok.1 tc.ok.2.1, bsome, hw]) ?_
    have hs := H_succ l i (show i < l.length by omega)
    refine ih (i + 1) _ _ _ _ (by omega) (ta.add hxi) (by rw [hs]; exact tb.add hxi) (by rw [hs]; exact tc.add hxi) (by rw [hs, List.length_take, List.length_cons, hn]; omega) ?_
    show (((l.getD i z_S27) :: ha).take 8).take (min 8 (i + 1)) = _
    rw [hs, ← hh, List.take_take, Nat.min_eq_left (by omega)]
    rcases Nat.lt_or_ge i 8 with c | c
    · rw [Nat.min_eq_right (by omega), Nat.min_eq_right (by omega), List.take_succ_cons, List.take_succ_cons, List.take_take, Nat.min_eq_right (by omega)]
    · rw [Nat.min_eq_left (by omega), Nat.min_eq_left (by omega), List.take_succ_cons, List.take_succ_cons, List.take_take, Nat.min_eq_left (by omega)]
theorem forgets_l0 (o l : List S27) (ho : o.length ≤ 4096) (hl : l.length ≤ 4096) (hxo : ∀ x ∈ o, XOk x) (hx : ∀ x ∈ l, XOk x) (now : Int) : ∀ (d i : Nat) (sa sc : FS) (ha hc : List S27), i + d = o.length → Two sa ha false 0 → Two sc hc false 0 →
    Ev (fun k => foliotlaw09_FilterForgets.l0 k o l now (i : Int) sa.r0.f0 sa.r0.f1 sa.r0.f2 sa.r0.f3 sa.r1.f0 sa.r1.f1 sa.r1.f2 sa.r1.f3 sa.r2.f0 sa.r2.f1 sa.r2.f2 sa.r2.f3 sa.r3.f0 sa.r3.f1 sa.r3.f2 sa.r3.f3 sa.r4.f0 sa.r4.f1 sa.r4.f2 sa.r4.f3 sa.r5.f0 sa.r5.f1 sa.r5.f2 sa.r5.f3 sa.r6.f0 sa.r6.f1 sa.r6.f2 sa.r6.f3 sa.r7.f0 sa.r7.f1 sa.r7.f2 sa.r7.f3 sa.n sa.m sa.told sa.at_ FS.new.r0.f0 FS.new.r0.f1 FS.new.r0.f2 FS.new.r0.f3 FS.new.r1.f0 FS.new.r1.f1 FS.new.r1.f2 FS.new.r1.f3 FS.new.r2.f0 FS.new.r2.f1 FS.new.r2.f2 FS.new.r2.f3 FS.new.r3.f0 FS.new.r3.f1 FS.new.r3.f2 FS.new.r3.f3 FS.new.r4.f0 FS.new.r4.f1 FS.new.r4.f2 FS.new.r4.f3 FS.new.r5.f0 FS.new.r5.f1 FS.new.r5.f2 FS.new.r5.f3 FS.new.r6.f0 FS.new.r6.f1 FS.new.r6.f2 FS.new.r6.f3 FS.new.r7.f0 FS.new.r7.f1 FS.new.r7.f2 FS.new.r7.f3 FS.new.n FS.new.m FS.new.told FS.new.at_ sc.r0.f0 sc.r0.f1 sc.r0.f2 sc.r0.f3 sc.r1.f0 sc.r1.f1 sc.r1.f2 sc.r1.f3 sc.r2.f0 sc.r2.f1 sc.r2.f2 sc.r2.f3 sc.r3.f0 sc.r3.f1 sc.r3.f2 sc.r3.f3 sc.r4.f0 sc.r4.f1 sc.r4.f2 sc.r4.f3 sc.r5.f0 sc.r5.f1 sc.r5.f2 sc.r5.f3 sc.r6.f0 sc.r6.f1 sc.r6.f2 sc.r6.f3 sc.r7.f0 sc.r7.f1 sc.r7.f2 sc.r7.f3 sc.n sc.m sc.told sc.at_) true := by
  intro d
  induction d with
  | zero =>
    intro i sa sc ha hc hi ta tc
    obtain ⟨bo, bd, bp, bj, ba, bn, s1, t1, a1, e1, r1, w1⟩ := two_best tc now
    refine Ev.step (fun k => by rw [foliotlaw09_FilterForgets.l0, if_neg (by omega)]) ?_
    refine Ev.bind (f := fun k t5 => _) e1 ?_
    refine Ev.congr (fun k => by rw [clear_eq s1, bsome]) ?_
    exact forgets_l1 l hl hx now l.length 0 sa FS.new FS.new ha (by omega) ta two_new two_new rfl rfl
  | succ d ih =>
    intro i sa sc ha hc hi ta tc
    have hw : wrap64 ((i : Int) + 1) = ((i + 1 : Nat) : Int) := by rw [w64_in (by omega) (by omega)]; rfl
    have hxi := getD_ok hxo i (show i < o.length by omega)
    have c1 : (i : Int) < (o.length : Int) := by omega
    have c2 : (0 : Int) ≤ (i : Int) := by omega
    refine Ev.step (fun k => by rw [foliotlaw09_FilterForgets.l0, if_pos c1, if_pos c2, if_pos c1, rdOf_nat, fadd_eq sa ta.ok.1 ta.ok.2.1, bsome, if_pos c2, if_pos c1, fadd_eq sc tc.ok.1 tc.ok.2.1, bsome, hw]) ?_
    exact ih (i + 1) _ _ _ _ (by omega) (ta.add hxi) (tc.add hxi)
namespace Pure
theorem FilterForgets (a0 : List S27) (a1 : List S27) (a2 : Int) (h0 : (a0.length ≤ 9223372036854775807 ∧ a0.length * 32 ≤ 140737488351232 ∧ ∀ x ∈ a0, okS27 x)) (h1 : (a1.length ≤ 9223372036854775807 ∧ a1.length * 32 ≤ 140737488351232 ∧ ∀ x ∈ a1, okS27 x)) (h2 : (Lit.int .u64 a2).wf = true) : ∃ k, foliotlaw09_FilterForgets.f k a0 a1 a2 = some true := by
  obtain ⟨_, _, hxo⟩ := h0
  obtain ⟨_, _, hx⟩ := h1
  have hxo : ∀ x ∈ a0, XOk x := fun x h => okx (hxo x h)
  have hx : ∀ x ∈ a1, XOk x := fun x h => okx (hx x h)
  refine Ev.rounds (r := true) ?_
  unfold foliotlaw09_FilterForgets.f
  by_cases c : (a0.length : Int) > 4096
  · simp only [c, if_true]; exact Ev.now _
  by_cases c' : (a1.length : Int) > 4096
  · simp only [c, c', if_true, if_false]; exact Ev.now _
  simp only [c, c', if_false]
  rw [new_eq]
  simp only [bsome]
  exact forgets_l0 a0 a1 (by omega) (by omega) hxo hx a2 a0.length 0 FS.new FS.new [] [] (by omega) two_new two_new
end Pure
end Go.Proofs.Ytblmlfocmgpggaa.Q
