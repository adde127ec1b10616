/- What is to be proved of ClusterPeers. -/
import Derived.Test.YtigcmpmpjmbfkaaDQ
import Derived.Test.YtigcmpmpjmbfkaaCf
namespace Go.Proofs.Ytigcmpmpjmbfkaa.Q
open Go Go.RowKit Go.Proofs.Ytigcmpmpjmbfkaa.Ev
set_option linter.unusedVariables false
set_option linter.unusedSimpArgs false
set_option maxRecDepth 100000
def okS25 (x : S25) : Prop := (Lit.int .i64 x.f0).wf = true ∧ (Lit.int .i64 x.f1).wf = true ∧ (Lit.int .i64 x.f2).wf = true ∧ (Lit.int .i64 x.f3).wf = true ∧ (Lit.int .i64 x.f4).wf = true
/-! ### whom mitigation follows -/
theorem bI_none {l : List S25} {was : Int} (h : bI l was = none) : l = [] := by
  unfold bI at h
  split at h
  · cases h
  · split at h
    · split at h <;> cases h
    · split at h
      · assumption
      · cases h
theorem bI_plain {l : List S25} {was : Int} {i : Nat} (h : bI l was = some i) (hi : i < l.length) (hf : ¬ l[i].f5 = true) : ∀ x ∈ l, x.f5 = false := by
  unfold bI at h
  split at h
  · rename_i j hp
    cases h
    exact absurd (ix_some hp).2.1 hf
  · rename_i hp
    intro x hx
    exact by simpa using List.findIdx?_eq_none_iff.1 hp x hx
theorem miL_cases (L : List S25) (was : Int) : (plainL L = [] ∧ miL L was = (0, 0, 0, false, false)) ∨ (∃ u ∈ pulseL L, plainL L ≠ [] ∧ miL L was = (u.f0, u.f1, u.f3, true, true)) ∨ (∃ c ∈ plainL L, c.f5 = true ∧ miL L was = (c.f0, c.f1, c.f3, true, false)) ∨
    (∃ c ∈ plainL L, ∃ o j, miL L was = (c.f0, o, j, true, false) ∧ ∀ x ∈ plainL L, x.f5 = false) := by
  unfold miL
  cases h : bI (plainL L) was with
  | none => exact .inl ⟨bI_none h, rfl⟩
  | some i =>
    have hi := bI_lt h
    simp only [getDl _ i hi]
    by_cases c1 : pulseL L ≠ [] ∧ (-1073741824 ≤ (plainL L)[i].f1 ∧ (plainL L)[i].f1 ≤ 1073741824)
    · rw [if_pos c1]
      have hup : 0 < (pulseL L).length := List.length_pos_iff.2 c1.1
      refine .inr (.inl ⟨(pulseL L)[0], List.getElem_mem hup, fun e => ?_, by rw [headD_get _ hup]⟩)
      rw [e] at hi
      exact absurd hi (Nat.not_lt_zero i)
    · rw [if_neg c1]
      by_cases c2 : (plainL L)[i].f5 = true
      · rw [if_pos c2]
        exact .inr (.inr (.inl ⟨_, List.getElem_mem hi, c2, rfl⟩))
      · rw [if_neg c2]
        exact .inr (.inr (.inr ⟨_, List.getElem_mem hi, _, _, rfl, bI_plain h hi c2⟩))
def PF (p o j : Int) (c : S25) : Bool := c.f5 && !c.f6 && decide (c.f0 = p) && decide (c.f1 = o) && decide (c.f3 = j)
def UF (p o j : Int) (c : S25) : Bool := c.f6 && decide (c.f0 = p) && decide (c.f1 = o) && decide (c.f3 = j)
theorem pe_j0 (l : List S25) (x6 : Int) (x7 x8 : Bool) (x23 x24 p o j : Int) (b0 b1 : Bool) (c : S25) (r : Bool)
    (h : Ev (fun k => foliotlaw14_ClusterPeers.l0 k l x6 (x7 || PF p o j c) (x8 || UF p o j c) l x23 (wrap64 (x24 + 1)) p o j b0 b1) r) :
    Ev (fun k => foliotlaw14_ClusterPeers.j0 k l x6 x7 x8 l x23 x24 p o j b0 b1 c.f0 c.f1 c.f2 c.f3 c.f4 c.f5 c.f6) r := by
  refine Ev.step (fun k => ?_) h
  rw [foliotlaw14_ClusterPeers.j0]
  unfold PF UF
  generalize c.f0 = c0
  generalize c.f1 = c1
  generalize c.f3 = c3
  generalize c.f5 = c5
  generalize c.f6 = c6
  cases x7 <;> cases x8 <;> cases c5 <;> cases c6 <;> by_cases h1 : c0 = p <;> by_cases h2 : c1 = o <;> simp [h1, h2]
def FF (p : Int) (c : S25) : Bool := decide (c.f0 = p) && !c.f6
def GF (c : S25) : Bool := c.f5 && !c.f6
theorem pe_l1 (C : List S25) (hn : C.length ≤ 1000) (x7 : Bool) (p o j : Int) (b0 b1 : Bool) : ∀ (d i : Nat), i + d = C.length →
    Ev (fun k => foliotlaw14_ClusterPeers.l1 k x7 ((C.take i).any (FF p)) ((C.take i).any GF) (C.length : Int) (i : Int) p o j b0 b1 C) (C.any (FF p) && (!C.any GF || x7))
  | 0, i, hd => by
    have c1 : ¬ (i : Int) < (C.length : Int) := by omega
    rw [List.take_of_length_le (by omega)]
    refine Ev.succ fun k => ?_
    rw [foliotlaw14_ClusterPeers.l1, if_neg c1]
    cases C.any (FF p) <;> cases C.any GF <;> rfl
  | d + 1, i, hd => by
    have hi : i < C.length := by omega
    have c1 : (i : Int) < (C.length : Int) := by omega
    have c0 : (0 : Int) ≤ (i : Int) := by omega
    have bi : (i : Int) < 9223372036854775807 := by omega
    have ih := pe_l1 C hn x7 p o j b0 b1 d (i + 1) (by omega)
    rw [← List.take_append_getElem hi, List.any_append, List.any_append] at ih
    simp only [List.any_cons, List.any_nil, Bool.or_false] at ih
    refine Ev.step (fun k => ?_) ih
    rw [foliotlaw14_ClusterPeers.l1, if_pos c1, if_pos c0, if_pos c1, rdl C i hi, wrap_succ i bi]
    generalize (C.take i).any (FF p) = f
    generalize (C.take i).any GF = g
    unfold FF GF
    generalize C[i].f0 = a0
    generalize C[i].f5 = a5
    generalize C[i].f6 = a6
    cases f <;> cases g <;> cases a5 <;> cases a6 <;> by_cases h1 : a0 = p <;> simp [h1]
theorem any_of {p : S25 → Bool} {l : List S25} {c : S25} (h : c ∈ l) (hp : p c = true) : l.any p = true := List.any_eq_true.2 ⟨c, h, hp⟩
theorem keep3 (l : List S25) (h : l.length ≤ 3) : Cl l = isort leM l := by
  unfold Cl
  rw [List.take_of_length_le (by rw [isortM_len]; omega)]
  have : ∀ n, clS n (isort leM l) = isort leM l := fun n => by
    cases n with
    | zero => rfl
    | succ n => unfold clS; rw [if_pos (by rw [isortM_len]; exact h)]
  exact this 10
theorem pe_end (l : List S25) (hl : Ok l) (hn : l.length ≤ 300) (was : Int) (x23 x24 : Int) (hx : ¬ x24 < x23) : Ev (fun k => foliotlaw14_ClusterPeers.l0 k l ((plainL l).length : Int) (l.any (PF (miL (Cl l) was).1 (miL (Cl l) was).2.1 (miL (Cl l) was).2.2.1)) (l.any (UF (miL (Cl l) was).1 (miL (Cl l) was).2.1 (miL (Cl l) was).2.2.1)) l x23 x24
      (miL (Cl l) was).1 (miL (Cl l) was).2.1 (miL (Cl l) was).2.2.1 (miL (Cl l) was).2.2.2.1 (miL (Cl l) was).2.2.2.2) true := by
  refine Ev.step (fun k => by rw [foliotlaw14_ClusterPeers.l0, if_neg hx]) ?_
  have hc := Cl_len l
  have toL : ∀ {x : S25}, x ∈ plainL (Cl l) → x ∈ plainL l := fun {x} hx => by
    have := List.mem_filter.1 hx
    exact List.mem_filter.2 ⟨Cl_mem l x this.1, this.2⟩
  rcases miL_cases (Cl l) was with ⟨h1, h2⟩ | ⟨u, h1, h2, h3⟩ | ⟨c, h1, h2, h3⟩ | ⟨c, h1, o, j, h2, h3⟩
  · rw [h2]
    dsimp only
    refine Ev.congr (fun k => by rw [Bool.not_false, cond_true, if_pos ⟨rfl, rfl, rfl, rfl, rfl⟩]) ?_
    by_cases e : ((plainL l).length : Int) = 0
    · exact Ev.congr (fun k => if_pos e) (Ev.now _)
    · refine Ev.congr (fun k => if_neg e) ?_
      have : (l.length : Int) > 3 := by
        rcases Nat.lt_or_ge 3 l.length with h | h
        · omega
        · exfalso
          rw [keep3 l h] at h1
          have hp : ∃ x, x ∈ plainL l := List.exists_mem_of_length_pos (by omega)
          obtain ⟨x, hx⟩ := hp
          have hm := List.mem_filter.1 hx
          have : x ∈ plainL (isort leM l) := List.mem_filter.2 ⟨(isortM_mem l x).2 hm.1, hm.2⟩
          rw [h1] at this
          cases this
      rw [decide_eq_true this]
      exact Ev.now _
  · rw [h3]
    dsimp only
    have hu := List.mem_filter.1 h1
    have hany : l.any (UF u.f0 u.f1 u.f3) = true := any_of (Cl_mem l u hu.1) (by
      unfold UF
      have h6 : u.f6 = true := hu.2
      simp [h6])
    rw [hany]
    refine Ev.congr (fun k => by rw [Bool.not_true, cond_false, cond_true, cond_true]) ?_
    obtain ⟨x, hx⟩ := List.exists_mem_of_ne_nil _ h2
    have : 0 < (plainL l).length := List.length_pos_of_mem (toL hx)
    rw [decide_eq_true (show ((plainL l).length : Int) > 0 by omega)]
    exact Ev.now _
  · rw [h3]
    dsimp only
    have hcl := Cl_mem l c (List.mem_filter.1 h1).1
    have h6 := plain_f6 h1
    have hany : l.any (PF c.f0 c.f1 c.f3) = true := any_of hcl (by unfold PF; simp [h2, h6])
    rw [hany]
    refine Ev.congr (fun k => by rw [Bool.not_true, cond_false, cond_false]) ?_
    refine Ev.bind (f := fun k t => _) (ev_Cluster l hl (by omega)) ?_
    have g := pe_l1 (Cl l) (by omega) true c.f0 c.f1 c.f3 true false (Cl l).length 0 (by omega)
    have hf : (Cl l).any (FF c.f0) = true := any_of (List.mem_filter.1 h1).1 (by unfold FF; simp [h6])
    rw [hf] at g
    simpa using g
  · rw [h2]
    dsimp only
    have h6 := plain_f6 h1
    refine Ev.congr (fun k => by rw [Bool.not_true, cond_false, cond_false]) ?_
    refine Ev.bind (f := fun k t => _) (ev_Cluster l hl (by omega)) ?_
    have g := pe_l1 (Cl l) (by omega) (l.any (PF c.f0 o j)) c.f0 o j true false (Cl l).length 0 (by omega)
    have hf : (Cl l).any (FF c.f0) = true := any_of (List.mem_filter.1 h1).1 (by unfold FF; simp [h6])
    have hg : (Cl l).any GF = false := by
      rw [List.any_eq_false]
      intro x hx
      unfold GF
      by_cases h : x.f6 = true
      · simp [h]
      · have : x ∈ plainL (Cl l) := List.mem_filter.2 ⟨hx, by simpa using h⟩
        simp [h3 x this]
    rw [hf, hg] at g
    simpa using g
theorem pe_l0 (l : List S25) (hl : Ok l) (hn : l.length ≤ 300) (was : Int) : ∀ (d i : Nat), i + d = l.length → Ev (fun k => foliotlaw14_ClusterPeers.l0 k l ((plainL (l.take i)).length : Int) ((l.take i).any (PF (miL (Cl l) was).1 (miL (Cl l) was).2.1 (miL (Cl l) was).2.2.1)) ((l.take i).any (UF (miL (Cl l) was).1 (miL (Cl l) was).2.1 (miL (Cl l) was).2.2.1)) l (l.length : Int) (i : Int)
      (miL (Cl l) was).1 (miL (Cl l) was).2.1 (miL (Cl l) was).2.2.1 (miL (Cl l) was).2.2.2.1 (miL (Cl l) was).2.2.2.2) true
  | 0, i, hd => by
    rw [List.take_of_length_le (by omega)]
    exact pe_end l hl hn was _ _ (by omega)
  | d + 1, i, hd => by
    have hi : i < l.length := by omega
    have c1 : (i : Int) < (l.length : Int) := by omega
    have c0 : (0 : Int) ≤ (i : Int) := by omega
    have bi : (i : Int) < 9223372036854775807 := by omega
    have ih := pe_l0 l hl hn was d (i + 1) (by omega)
    have hp : plainL (l.take (i + 1)) = plainL (l.take i) ++ (if (!l[i].f6) = true then [l[i]] else []) := filt_more _ l i hi
    have hpl := plain_len (l.take i)
    rw [List.length_take] at hpl
    rw [hp, ← List.take_append_getElem hi, List.any_append, List.any_append] at ih
    simp only [List.any_cons, List.any_nil, Bool.or_false] at ih
    rw [← wrap_succ i bi] at ih
    generalize miL (Cl l) was = m at *
    refine Ev.step (fun k => by rw [foliotlaw14_ClusterPeers.l0, if_pos c1, if_pos c0, if_pos c1, rdl l i hi, bif_nb]) ?_
    by_cases c : l[i].f6 = true
    · rw [if_neg (by rw [c]; decide), List.append_nil] at ih
      refine Ev.congr (fun k => if_pos c) ?_
      exact pe_j0 l _ _ _ _ _ _ _ _ _ _ l[i] true ih
    · have c' : l[i].f6 = false := by simpa using c
      rw [if_pos (by rw [c']; rfl)] at ih
      have e : ((plainL (l.take i) ++ [l[i]]).length : Int) = wrap64 (((plainL (l.take i)).length : Int) + 1) := by
        rw [wrap_succ _ (by omega), List.length_append]; rfl
      rw [e] at ih
      refine Ev.congr (fun k => if_neg c) ?_
      exact pe_j0 l _ _ _ _ _ _ _ _ _ _ l[i] true ih
namespace Pure
theorem ClusterPeers (a0 : List S25) (a1 : Int) (h0 : (a0.length ≤ 9223372036854775807 ∧ a0.length * 48 ≤ 140737488351232 ∧ ∀ x ∈ a0, okS25 x)) (h1 : (Lit.int .i64 a1).wf = true) : ∃ k, foliotlaw14_ClusterPeers.f k a0 a1 = some true := by
  have hl : Ok (a0.take 300) := ok_take (ok_of a0 h0.2.2) 300
  have hn : (a0.take 300).length ≤ 300 := by rw [List.length_take]; omega
  refine Ev.rounds (r := true) ?_
  unfold foliotlaw14_ClusterPeers.f
  refine Ev.bind (f := fun k t => _) ev_shown ?_
  refine Ev.congr (fun k => by rw [Bool.not_true, cond_false]) ?_
  refine Ev.bind (f := fun k t => _) (Ev.const (ev_few a0)) ?_
  generalize a0.take 300 = l at *
  refine Ev.bind (f := fun k t => _) (ev_Mitigate l hl (by omega) a1) ?_
  exact pe_l0 l hl hn a1 l.length 0 (by omega)
end Pure
end Go.Proofs.Ytigcmpmpjmbfkaa.Q
