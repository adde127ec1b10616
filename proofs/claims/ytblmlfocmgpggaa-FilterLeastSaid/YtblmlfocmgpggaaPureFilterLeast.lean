/- What is to be proved of FilterLeast. -/
import Derived.Test.YtblmlfocmgpggaaDC
import Derived.Test.YtblmlfocmgpggaaPC4
namespace Go.Proofs.Ytblmlfocmgpggaa.C
open Go Go.RowKit Go.Proofs.Ytblmlfocmgpggaa.Ev
set_option linter.unusedVariables false
set_option maxRecDepth 100000
def okS27 (x : S27) : Prop := (Lit.int .i64 x.f0).wf = true ∧ (Lit.int .i64 x.f1).wf = true ∧ (Lit.int .i64 x.f2).wf = true ∧ (Lit.int .u64 x.f3).wf = true
theorem okx {x : S27} (h : okS27 x) : XOk x := by
  obtain ⟨a, b, c, d⟩ := h
  obtain ⟨a0, a1⟩ := wf64 a
  obtain ⟨b0, b1⟩ := wf64 b
  obtain ⟨c0, c1⟩ := wf64 c
  have d : 0 ≤ x.f3 ∧ x.f3 ≤ 18446744073709551615 := by simpa [Lit.wf, IntKind.min, IntKind.max, IntKind.signed, IntKind.bits] using d
  exact ⟨a0, a1, b0, b1, c0, c1, d.1, d.2⟩
theorem least_l0 (l : List S27) (hl : ∀ x ∈ l, XOk x) (hlen : l.length ≤ 65536) (now : Int) (r : Bool)
    (fin : ∀ (s : FS), s.Ok (l.reverse.take 8) → s.told = false → Ev (fun k => (filter_Filter_Best.f k now s.r0.f0 s.r0.f1 s.r0.f2 s.r0.f3 s.r1.f0 s.r1.f1 s.r1.f2 s.r1.f3 s.r2.f0 s.r2.f1 s.r2.f2 s.r2.f3 s.r3.f0 s.r3.f1 s.r3.f2 s.r3.f3 s.r4.f0 s.r4.f1 s.r4.f2 s.r4.f3 s.r5.f0 s.r5.f1 s.r5.f2 s.r5.f3 s.r6.f0 s.r6.f1 s.r6.f2 s.r6.f3 s.r7.f0 s.r7.f1 s.r7.f2 s.r7.f3 s.n s.m s.told s.at_).bind fun t2 => (foliotlaw09_FilterLeast.l1 k l false (mx 0 (wrap64 ((l.length : Int) - 8))) t2.1 t2.2.1 t2.2.2.1 t2.2.2.2.1 t2.2.2.2.2.1 t2.2.2.2.2.2.1)) r) :
    ∀ (d i : Nat) (s : FS), i + d = l.length → s.Ok ((l.take i).reverse.take 8) → s.told = false → Ev (fun k => foliotlaw09_FilterLeast.l0 k l now i s.r0.f0 s.r0.f1 s.r0.f2 s.r0.f3 s.r1.f0 s.r1.f1 s.r1.f2 s.r1.f3 s.r2.f0 s.r2.f1 s.r2.f2 s.r2.f3 s.r3.f0 s.r3.f1 s.r3.f2 s.r3.f3 s.r4.f0 s.r4.f1 s.r4.f2 s.r4.f3 s.r5.f0 s.r5.f1 s.r5.f2 s.r5.f3 s.r6.f0 s.r6.f1 s.r6.f2 s.r6.f3 s.r7.f0 s.r7.f1 s.r7.f2 s.r7.f3 s.n s.m s.told s.at_) r := by
  intro d
  induction d with
  | zero =>
    intro i s hi ok ht
    rw [List.take_of_length_le (show l.length ≤ i by omega)] at ok
    refine Ev.step (fun k => by rw [foliotlaw09_FilterLeast.l0, if_neg (by omega)]) (fin s ok ht)
  | succ d ih =>
    intro i s hi ok ht
    have hw : wrap64 ((i : Int) + 1) = ((i + 1 : Nat) : Int) := by rw [w64_in (by omega) (by omega)]; rfl
    have hget : l.getD i z_S27 = l[i] := by rw [List.getD_eq_getElem?_getD, List.getElem?_eq_getElem (by omega)]; rfl
    have e : ((l.take (i + 1)).reverse.take 8) = ((l.getD i z_S27) :: (l.take i).reverse.take 8).take 8 := by
      rw [List.take_succ_eq_append_getElem (l := l) (show i < l.length by omega), List.reverse_append, hget]
      show (l[i] :: (l.take i).reverse).take 8 = _
      rw [List.take_succ_cons, List.take_succ_cons, List.take_take, Nat.min_eq_left (by omega)]
    have hn : 0 ≤ s.n ∧ s.n < 8 := ⟨ok.1, ok.2.1⟩
    refine Ev.step (fun k => by rw [foliotlaw09_FilterLeast.l0, if_pos (by omega), if_pos (by omega), if_pos (by omega), rdOf_nat, fadd_eq s hn.1 hn.2, bsome, hw]) ?_
    exact ih (i + 1) (s.add (l.getD i z_S27)) (by omega) (by rw [e]; exact ok.add _) ((add_told s _).1.trans ht)
theorem least_l1 (l : List S27) (hlen : l.length ≤ 65536) (b0 b1 b2 b3 b4 : Int) (h2 : 0 ≤ b2 ∧ b2 ≤ 68719476736) (h3 : 4096 ≤ b3) (lo : Nat) (hmin : ∀ i, lo ≤ i → (hi : i < l.length) → b1 ≤ (l[i]).f1) :
    ∀ (d i : Nat) (found : Bool), i + d = l.length → lo ≤ i → (found = true ∨ ∃ j, ∃ (hj : j < l.length), i ≤ j ∧ (l[j]).f1 = b1 ∧ (l[j]).f0 = b0 ∧ (l[j]).f3 = b4) → Ev (fun k => foliotlaw09_FilterLeast.l1 k l found i b0 b1 b2 b3 b4 true) true := by
  intro d
  induction d with
  | zero =>
    intro i found hi _ hf
    have : found = true := by
      rcases hf with h | ⟨j, hj, h1, _⟩
      · exact h
      · omega
    subst this
    refine Ev.succ fun k => ?_
    rw [foliotlaw09_FilterLeast.l1, if_neg (by omega)]
    simp only [cond_true]
    rw [if_pos (by omega), if_pos (by omega), decide_eq_true h2.2]
  | succ d ih =>
    intro i found hi hlo hf
    have hw : wrap64 ((i : Int) + 1) = ((i + 1 : Nat) : Int) := by rw [w64_in (by omega) (by omega)]; rfl
    have hil : i < l.length := by omega
    have hget : l.getD i z_S27 = l[i] := by rw [List.getD_eq_getElem?_getD, List.getElem?_eq_getElem hil]; rfl
    have hm := hmin i hlo hil
    have g0 : (0 : Int) ≤ (i : Int) := by omega
    have g1 : (i : Int) < (l.length : Int) := by omega
    refine Ev.step (fun k => by rw [foliotlaw09_FilterLeast.l1, if_pos g1, if_pos g0, if_pos g1, rdOf_nat, hget, if_neg (by omega), if_pos g0, if_pos g1, hw]) ?_
    have next : ∀ f, (f = true ∨ ¬ ((l[i]).f1 = b1 ∧ (l[i]).f0 = b0 ∧ (l[i]).f3 = b4) ∧ found = false) → Ev (fun k => foliotlaw09_FilterLeast.l1 k l f ((i + 1 : Nat) : Int) b0 b1 b2 b3 b4 true) true := by
      intro f hf'
      refine ih (i + 1) f (by omega) (by omega) ?_
      rcases hf' with h | ⟨h, hfo⟩
      · exact .inl h
      · rcases hf with h' | ⟨j, hj, h1, h4⟩
        · rw [h'] at hfo; cases hfo
        · refine .inr ⟨j, hj, ?_, h4⟩
          by_cases hji : j = i
          · subst hji; exact absurd h4 h
          · omega
    cases found with
    | true => simp only [cond_true]; exact next true (.inl rfl)
    | false =>
      simp only [cond_false]
      by_cases c1 : (l[i]).f1 = b1
      · by_cases c2 : (l[i]).f0 = b0
        · by_cases c3 : (l[i]).f3 = b4
          · simp only [c1, c2, c3, g0, g1, if_true, decide_true]; exact next true (.inl rfl)
          · simp only [c1, c2, c3, g0, g1, if_true, decide_false]; exact next false (.inr ⟨fun h => c3 h.2.2, rfl⟩)
        · simp only [c1, c2, g0, g1, if_true, if_false]; exact next false (.inr ⟨fun h => c2 h.2.1, rfl⟩)
      · simp only [c1, if_false]; exact next false (.inr ⟨fun h => c1 h.1, rfl⟩)
namespace Pure
theorem FilterLeast (a0 : List S27) (a1 : Int) (h0 : (a0.length ≤ 9223372036854775807 ∧ a0.length * 32 ≤ 140737488351232 ∧ ∀ x ∈ a0, okS27 x)) (h1 : (Lit.int .u64 a1).wf = true) : ∃ k, foliotlaw09_FilterLeast.f k a0 a1 = some true := by
  obtain ⟨_, _, hx⟩ := h0
  have hx : ∀ x ∈ a0, XOk x := fun x h => okx (hx x h)
  refine Ev.rounds (r := true) ?_
  unfold foliotlaw09_FilterLeast.f
  by_cases c : (a0.length : Int) > 65536
  · simp only [c, if_true]; exact Ev.now _
  by_cases c0 : (a0.length : Int) = 0
  · simp only [c, c0, if_true, if_false]; exact Ev.now _
  simp only [c, c0, if_false]
  rw [new_eq]
  simp only [bsome]
  refine least_l0 a0 hx (by omega) a1 true ?_ a0.length 0 FS.new (by omega) FS.new_ok rfl
  intro s ok ht
  have hpos : 0 < a0.length := by omega
  have hh : ∀ x ∈ a0.reverse.take 8, XOk x := fun x h => hx x (List.mem_reverse.1 (List.mem_of_mem_take h))
  have hlen : (a0.reverse.take 8).length = min 8 a0.length := by rw [List.length_take, List.length_reverse]
  obtain ⟨b, t, hb⟩ : ∃ b t, isort (a0.reverse.take 8) = b :: t := by
    cases e : isort (a0.reverse.take 8) with
    | nil => have := isort_len (a0.reverse.take 8); rw [e, hlen] at this; simp at this; omega
    | cons b t => exact ⟨b, t, rfl⟩
  obtain ⟨j, hj⟩ := rms_some t b.f0
  have best := ev_best ok hh a1 hb j hj
  have hnew : newOf s b.f3 = true := by unfold newOf; rw [ht]; rfl
  rw [hnew] at best
  refine Ev.bind (f := fun k t2 => _) best ?_
  have hup := isort_up (a0.reverse.take 8)
  rw [hb] at hup
  have hmem : ∀ x, x ∈ b :: t ↔ x ∈ a0.reverse.take 8 := fun x => by rw [← hb]; exact (isort_perm _).mem_iff
  have hidx : ∀ i : Nat, i < 8 → (hi : i < a0.length) → a0[a0.length - 1 - i]'(by omega) ∈ a0.reverse.take 8 := fun i h8 hi => by
    refine List.mem_iff_getElem?.2 ⟨i, ?_⟩
    rw [List.getElem?_take_of_lt h8, List.getElem?_reverse (by omega), List.getElem?_eq_getElem]
  obtain ⟨lo, hlo, hlo2⟩ : ∃ lo : Nat, mx 0 (wrap64 ((a0.length : Int) - 8)) = (lo : Int) ∧ lo = a0.length - 8 := by
    refine ⟨a0.length - 8, ?_, rfl⟩
    rw [w64_in (by omega) (by omega)]; unfold mx; split <;> omega
  have hd := disp_bd a1 (b :: t)
  have hmx : 4096 ≤ mx j 4096 := by unfold mx; split <;> omega
  rw [hlo]
  refine least_l1 a0 (by omega) b.f0 b.f1 _ _ b.f3 hd hmx lo ?_ (a0.length - lo) lo false (by omega) (Nat.le_refl _) (.inr ?_)
  · intro i h1 hi
    have hin := hidx (a0.length - 1 - i) (by omega) (by omega)
    simp only [show a0.length - 1 - (a0.length - 1 - i) = i from by omega] at hin
    rw [← hmem] at hin
    rcases List.mem_cons.1 hin with e | e
    · rw [e]; exact Int.le_refl _
    · exact (List.pairwise_cons.1 hup).1 _ e
  · have hbm := (hmem b).1 (by simp)
    obtain ⟨q, hq⟩ := List.mem_iff_getElem?.1 hbm
    have hq8 : q < 8 ∧ q < a0.length := by
      have := (List.getElem?_eq_some_iff.1 hq).1
      rw [hlen] at this; omega
    rw [List.getElem?_take_of_lt hq8.1, List.getElem?_reverse hq8.2] at hq
    obtain ⟨hj2, hq⟩ := List.getElem?_eq_some_iff.1 hq
    exact ⟨a0.length - 1 - q, hj2, by omega, by rw [hq], by rw [hq], by rw [hq]⟩
end Pure
end Go.Proofs.Ytblmlfocmgpggaa.C
