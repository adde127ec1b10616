/- Plain lemmas on the printed functions: whole numbers and lists, no program in sight. -/
import Derived.Test.YtigcmpmpjmbfkaaCc
import Derived.Laws.BitsLemmas
namespace Go.Proofs.Ytigcmpmpjmbfkaa.Q
open Go Go.RowKit Go.Proofs.Ytigcmpmpjmbfkaa.Ev
set_option linter.unusedVariables false
set_option linter.unusedSimpArgs false
set_option maxRecDepth 100000
/-! ### the best one -/
def fI (o : Option Nat) : Int := match o with
  | some i => (i : Int)
  | none => -1
def ixP (l : List S25) : Option Nat := l.findIdx? fun c => c.f5
def ixD (l : List S25) (was : Int) : Option Nat := l.findIdx? fun c => decide (c.f0 = was)
theorem fi_drop (p : S25 → Bool) (l : List S25) (j : Nat) (hj : j < l.length) : (l.drop j).findIdx? p = if p l[j] = true then some 0 else ((l.drop (j + 1)).findIdx? p).map (· + 1) := by
  rw [List.drop_eq_getElem_cons hj, List.findIdx?_cons]
theorem fi_end (p : S25 → Bool) (l : List S25) (j : Nat) (hj : l.length ≤ j) : (l.drop j).findIdx? p = none := by
  rw [List.drop_eq_nil_of_le hj]; rfl
theorem ixp_l0 (l : List S25) (hn : l.length ≤ 1000) : ∀ (d j : Nat), j + d = l.length → Ev (fun k => slices_IndexFunc_api_Cand_api_Cand.l0 k l (l.length : Int) (j : Int)) (fI (((l.drop j).findIdx? fun c => c.f5).map (· + j)))
  | 0, j, hd => by
    have c1 : ¬ (j : Int) < (l.length : Int) := by omega
    rw [fi_end _ l j (by omega)]
    exact Ev.succ fun k => by rw [slices_IndexFunc_api_Cand_api_Cand.l0, if_neg c1]; rfl
  | d + 1, j, hd => by
    have hj : j < l.length := by omega
    have c1 : (j : Int) < (l.length : Int) := by omega
    have c0 : (0 : Int) ≤ (j : Int) := by omega
    have ih := ixp_l0 l hn d (j + 1) (by omega)
    rw [fi_drop _ l j hj]
    refine Ev.step (fun k => by rw [slices_IndexFunc_api_Cand_api_Cand.l0, if_pos c1, if_pos c0, if_pos c1, rdl l j hj, cluster_best_1.f, bsome, bif_b]) ?_
    by_cases c : l[j].f5 = true
    · refine Ev.congr (fun k => if_pos c) ?_
      rw [if_pos c]
      have : fI (Option.map (· + j) (some 0)) = (j : Int) := by simp [fI]
      rw [this]; exact Ev.now _
    · refine Ev.congr (fun k => if_neg c) ?_
      rw [if_neg c, wrap_succ j (by omega), Option.map_map]
      have : ((fun x => x + j) ∘ fun x => x + 1) = fun x => x + (j + 1) := by funext x; simp only [Function.comp]; omega
      rw [this]; exact ih
theorem ev_ixP (l : List S25) (hn : l.length ≤ 1000) : Ev (fun k => slices_IndexFunc_api_Cand_api_Cand.f k l) (fI (ixP l)) := by
  unfold slices_IndexFunc_api_Cand_api_Cand.f ixP
  have := ixp_l0 l hn l.length 0 (by omega)
  simpa using this
theorem ixd_l0 (l : List S25) (hn : l.length ≤ 1000) (was : Int) : ∀ (d j : Nat), j + d = l.length → Ev (fun k => slices_IndexFunc_api_Cand_api_Cand_s1.l0 k l (l.length : Int) (j : Int) was) (fI (((l.drop j).findIdx? fun c => decide (c.f0 = was)).map (· + j)), was)
  | 0, j, hd => by
    have c1 : ¬ (j : Int) < (l.length : Int) := by omega
    rw [fi_end _ l j (by omega)]
    exact Ev.succ fun k => by rw [slices_IndexFunc_api_Cand_api_Cand_s1.l0, if_neg c1]; rfl
  | d + 1, j, hd => by
    have hj : j < l.length := by omega
    have c1 : (j : Int) < (l.length : Int) := by omega
    have c0 : (0 : Int) ≤ (j : Int) := by omega
    have ih := ixd_l0 l hn was d (j + 1) (by omega)
    rw [fi_drop _ l j hj]
    refine Ev.step (fun k => by rw [slices_IndexFunc_api_Cand_api_Cand_s1.l0, if_pos c1, if_pos c0, if_pos c1, rdl l j hj, cluster_best_2.f, bsome, bif_b]) ?_
    by_cases c : decide (l[j].f0 = was) = true
    · refine Ev.congr (fun k => if_pos c) ?_
      rw [if_pos c]
      have : fI (Option.map (· + j) (some 0)) = (j : Int) := by simp [fI]
      rw [this]; exact Ev.now _
    · refine Ev.congr (fun k => if_neg c) ?_
      rw [if_neg c, wrap_succ j (by omega), Option.map_map]
      have : ((fun x => x + j) ∘ fun x => x + 1) = fun x => x + (j + 1) := by funext x; simp only [Function.comp]; omega
      rw [this]; exact ih
theorem ev_ixD (l : List S25) (hn : l.length ≤ 1000) (was : Int) : Ev (fun k => slices_IndexFunc_api_Cand_api_Cand_s1.f k l was) (fI (ixD l was), was) := by
  unfold slices_IndexFunc_api_Cand_api_Cand_s1.f ixD
  have := ixd_l0 l hn was l.length 0 (by omega)
  simpa using this
theorem ixs_l0 (l : List S25) (hn : l.length ≤ 1000) (was : Int) : ∀ (d j : Nat), j + d = l.length → Ev (fun k => slices_IndexFunc_api_Cand_api_Cand_s2.l0 k l (l.length : Int) (j : Int) was) (fI (((l.drop j).findIdx? fun c => decide (c.f0 = was)).map (· + j)), was)
  | 0, j, hd => by
    have c1 : ¬ (j : Int) < (l.length : Int) := by omega
    rw [fi_end _ l j (by omega)]
    exact Ev.succ fun k => by rw [slices_IndexFunc_api_Cand_api_Cand_s2.l0, if_neg c1]; rfl
  | d + 1, j, hd => by
    have hj : j < l.length := by omega
    have c1 : (j : Int) < (l.length : Int) := by omega
    have c0 : (0 : Int) ≤ (j : Int) := by omega
    have ih := ixs_l0 l hn was d (j + 1) (by omega)
    rw [fi_drop _ l j hj]
    refine Ev.step (fun k => by rw [slices_IndexFunc_api_Cand_api_Cand_s2.l0, if_pos c1, if_pos c0, if_pos c1, rdl l j hj, cluster_Select_1.f, bsome, bif_b]) ?_
    by_cases c : decide (l[j].f0 = was) = true
    · refine Ev.congr (fun k => if_pos c) ?_
      rw [if_pos c]
      have : fI (Option.map (· + j) (some 0)) = (j : Int) := by simp [fI]
      rw [this]; exact Ev.now _
    · refine Ev.congr (fun k => if_neg c) ?_
      rw [if_neg c, wrap_succ j (by omega), Option.map_map]
      have : ((fun x => x + j) ∘ fun x => x + 1) = fun x => x + (j + 1) := by funext x; simp only [Function.comp]; omega
      rw [this]; exact ih
theorem ev_ixS (l : List S25) (hn : l.length ≤ 1000) (was : Int) : Ev (fun k => slices_IndexFunc_api_Cand_api_Cand_s2.f k l was) (fI (ixD l was), was) := by
  unfold slices_IndexFunc_api_Cand_api_Cand_s2.f ixD
  have := ixs_l0 l hn was l.length 0 (by omega)
  simpa using this
theorem ix_some {p : S25 → Bool} {l : List S25} {i : Nat} (h : l.findIdx? p = some i) : ∃ hi : i < l.length, p l[i] = true ∧ ∀ j (hj : j < i), p (l[j]'(by omega)) = false := by
  obtain ⟨h1, h2, h3⟩ := List.findIdx?_eq_some_iff_getElem.1 h
  exact ⟨h1, h2, fun j hj => by simpa using h3 j hj⟩
/-- Where the best one stands. -/
def bI (l : List S25) (was : Int) : Option Nat := match ixP l with
  | some i => some i
  | none => match ixD l was with
    | some i => if (l.getD i z_S25).f4 = (l.getD 0 z_S25).f4 then some i else some 0
    | none => if l = [] then none else some 0
theorem bI_lt {l : List S25} {was : Int} {i : Nat} (h : bI l was = some i) : i < l.length := by
  unfold bI at h
  split at h
  · rename_i j hj
    cases h
    exact (ix_some hj).1
  · split at h
    · rename_i j hj
      have := (ix_some hj).1
      split at h
      · cases h; exact this
      · cases h; omega
    · split at h
      · cases h
      · rename_i hne
        cases h
        exact List.length_pos_iff.2 hne
theorem fI_ge (o : Option Nat) : fI o ≥ 0 ↔ o ≠ none := by
  cases o with
  | none => simp [fI]
  | some i => simp [fI]
theorem last_case (l : List S25) (hn : l.length ≤ 1000) : wrap64 ((mn (l.length : Int) 1) - 1) = fI (if l = [] then none else some 0) := by
  by_cases c : l = []
  · subst c
    rw [if_pos rfl]
    show wrap64 ((mn 0 1) - 1) = -1
    kernel_rfl
  · have hp : 0 < l.length := List.length_pos_iff.2 c
    rw [if_neg c]
    have : mn (l.length : Int) 1 = 1 := by unfold mn; split <;> omega
    rw [this]
    show wrap64 (1 - 1) = 0
    kernel_rfl
theorem ev_best (l : List S25) (hn : l.length ≤ 1000) (was : Int) : Ev (fun k => cluster_best.f k l was) (fI (bI l was)) := by
  unfold cluster_best.f
  refine Ev.bind (f := fun k t => _) (ev_ixP l hn) ?_
  unfold bI
  cases hp : ixP l with
  | some i =>
    exact Ev.congr (fun k => if_pos (by simp [fI])) (Ev.now _)
  | none =>
    refine Ev.congr (fun k => if_neg (by simp [fI])) ?_
    refine Ev.bind (f := fun k t => _) (ev_ixD l hn was) ?_
    cases hd : ixD l was with
    | none =>
      refine Ev.congr (fun k => if_neg (by simp [fI])) ?_
      rw [last_case l hn]; exact Ev.now _
    | some i =>
      have hi := (ix_some hd).1
      have hp0 : 0 < l.length := by omega
      have hne : ¬ l = [] := fun e => by subst e; simp at hp0
      have c1 : (i : Int) < (l.length : Int) := by omega
      have c0 : (0 : Int) ≤ (i : Int) := by omega
      refine Ev.congr (fun k => if_pos (by simp [fI])) ?_
      have e0 : rdOf z_S25 l 0 = l[0] := rdl l 0 hp0
      show Ev (fun k => if 0 ≤ (i : Int) then (if (i : Int) < (l.length : Int) then (if 0 < (l.length : Int) then (if (rdOf z_S25 l (i : Int)).f4 = (rdOf z_S25 l 0).f4 then (some (i : Int)) else (some (wrap64 ((mn (l.length : Int) 1) - 1)))) else none) else none) else none) _
      dsimp only
      rw [e0, rdl l i hi, last_case l hn, if_neg hne, getDl l i hi, getDl l 0 hp0]
      refine Ev.congr (fun k => by rw [if_pos c0, if_pos c1, if_pos (by omega)]) ?_
      by_cases c : l[i].f4 = l[0].f4
      · rw [if_pos c, if_pos c]
        exact Ev.now _
      · rw [if_neg c, if_neg c]
        exact Ev.now _
def tup (c : S25) (b : Bool) : Int × Int × Int × Int × Int × Bool × Bool × Bool := (c.f0, c.f1, c.f2, c.f3, c.f4, c.f5, c.f6, b)
def bT (l : List S25) (was : Int) : Int × Int × Int × Int × Int × Bool × Bool × Bool := match bI l was with
  | some i => tup (l.getD i z_S25) true
  | none => tup z_S25 false
theorem ev_Best (l : List S25) (hn : l.length ≤ 1000) (was : Int) : Ev (fun k => cluster_Best.f k l was) (bT l was) := by
  unfold cluster_Best.f bT
  refine Ev.bind (f := fun k t => _) (ev_best l hn was) ?_
  cases h : bI l was with
  | none => exact Ev.congr (fun k => if_neg (by simp [fI])) (Ev.now _)
  | some i =>
    have hi := bI_lt h
    have c1 : (i : Int) < (l.length : Int) := by omega
    have c0 : (0 : Int) ≤ (i : Int) := by omega
    refine Ev.congr (fun k => if_pos (by simp [fI])) ?_
    show Ev (fun k => if 0 ≤ (i : Int) then (if (i : Int) < (l.length : Int) then some (tup (rdOf z_S25 l (i : Int)) true) else none) else none) _
    dsimp only
    rw [rdl l i hi, getDl l i hi]
    exact Ev.congr (fun k => by rw [if_pos c0, if_pos c1]) (Ev.now _)
theorem rb_j0 (l : List S25) (a : S25) : Ev (fun k => foliotref14_Best.j0 k l a.f0 a.f1 a.f2 a.f3 a.f4 a.f5 a.f6) (match (if l = [] then (none : Option Nat) else some 0) with | some i => tup (l.getD i z_S25) true | none => tup z_S25 false) := by
  by_cases c : l = []
  · subst c
    exact Ev.succ fun k => by rw [foliotref14_Best.j0, if_neg (by simp)]; rfl
  · have hp : 0 < l.length := List.length_pos_iff.2 c
    rw [if_neg c]
    have e0 : rdOf z_S25 l 0 = l[0] := rdl l 0 hp
    refine Ev.succ fun k => ?_
    rw [foliotref14_Best.j0, if_pos (by omega), if_pos (by omega), e0]
    show _ = some (tup (l.getD 0 z_S25) true)
    rw [getDl l 0 hp]
    rfl
theorem rb_l1 (l : List S25) (hn : l.length ≤ 1000) (was : Int) (a : S25) : ∀ (d j : Nat), j + d = l.length → Ev (fun k => foliotref14_Best.l1 k l was l (l.length : Int) (j : Int) a.f0 a.f1 a.f2 a.f3 a.f4 a.f5 a.f6)
    (match (match ((l.drop j).findIdx? fun c => decide (c.f0 = was)).map (· + j) with | some i => if (l.getD i z_S25).f4 = (l.getD 0 z_S25).f4 then some i else some 0 | none => if l = [] then (none : Option Nat) else some 0) with | some i => tup (l.getD i z_S25) true | none => tup z_S25 false)
  | 0, j, hd => by
    have c1 : ¬ (j : Int) < (l.length : Int) := by omega
    rw [fi_end _ l j (by omega)]
    exact Ev.step (fun k => by rw [foliotref14_Best.l1, if_neg c1]) (rb_j0 l a)
  | d + 1, j, hd => by
    have hj : j < l.length := by omega
    have hp0 : 0 < l.length := by omega
    have hne : ¬ l = [] := fun e => by subst e; simp at hp0
    have c1 : (j : Int) < (l.length : Int) := by omega
    have c0 : (0 : Int) ≤ (j : Int) := by omega
    have e0 : rdOf z_S25 l 0 = l[0] := rdl l 0 hp0
    have ih := rb_l1 l hn was a d (j + 1) (by omega)
    rw [fi_drop _ l j hj]
    refine Ev.step (fun k => by rw [foliotref14_Best.l1, if_pos c1, if_pos c0, if_pos c1, rdl l j hj, e0]) ?_
    by_cases c : l[j].f0 = was
    · refine Ev.congr (fun k => by rw [if_pos c, if_pos (by omega)]) ?_
      rw [if_pos (decide_eq_true c)]
      have em : Option.map (fun x => x + j) (some 0) = some j := by simp
      rw [em]
      dsimp only
      rw [getDl l j hj, getDl l 0 hp0]
      by_cases c2 : l[j].f4 = l[0].f4
      · rw [if_pos c2]
        refine Ev.congr (fun k => by rw [if_pos c2]) ?_
        dsimp only
        rw [getDl l j hj]
        exact Ev.now _
      · rw [if_neg c2]
        refine Ev.congr (fun k => by rw [if_neg c2]) ?_
        have := rb_j0 l a
        rw [if_neg hne] at this
        exact this
    · refine Ev.congr (fun k => by rw [if_neg c]) ?_
      rw [if_neg (by simp [c]), wrap_succ j (by omega), Option.map_map]
      have : ((fun x => x + j) ∘ fun x => x + 1) = fun x => x + (j + 1) := by funext x; simp only [Function.comp]; omega
      rw [this]; exact ih
theorem rb_l0 (l : List S25) (hn : l.length ≤ 1000) (was : Int) (a : S25) (h : ixP l = none ∨ ∃ i, ixP l = some i) : ∀ (d j : Nat), j + d = l.length → (∀ i, ixP l = some i → j ≤ i) → Ev (fun k => foliotref14_Best.l0 k l was l (l.length : Int) (j : Int) a.f0 a.f1 a.f2 a.f3 a.f4 a.f5 a.f6) (bT l was)
  | 0, j, hd, hj0 => by
    have c1 : ¬ (j : Int) < (l.length : Int) := by omega
    have hnone : ixP l = none := by
      rcases h with h | ⟨i, h⟩
      · exact h
      · have h1 := hj0 i h
        have h2 := (ix_some h).1
        omega
    refine Ev.step (fun k => by rw [foliotref14_Best.l0, if_neg c1]) ?_
    have g := rb_l1 l hn was a l.length 0 (by omega)
    have e : ((l.drop 0).findIdx? fun c => decide (c.f0 = was)).map (· + 0) = ixD l was := by unfold ixD; simp
    rw [e] at g
    unfold bT bI
    rw [hnone]
    exact g
  | d + 1, j, hd, hj0 => by
    have hj : j < l.length := by omega
    have c1 : (j : Int) < (l.length : Int) := by omega
    have c0 : (0 : Int) ≤ (j : Int) := by omega
    refine Ev.step (fun k => by rw [foliotref14_Best.l0, if_pos c1, if_pos c0, if_pos c1, rdl l j hj, bif_b]) ?_
    by_cases c : l[j].f5 = true
    · refine Ev.congr (fun k => if_pos c) ?_
      have hix : ixP l = some j := by
        rcases h with h | ⟨i, h⟩
        · unfold ixP at h
          have := List.findIdx?_eq_none_iff.1 h l[j] (List.getElem_mem hj)
          rw [c] at this; cases this
        · have h1 := hj0 i h
          obtain ⟨h2, h3, h4⟩ := ix_some h
          rcases Nat.lt_or_ge j i with hlt | hge
          · have := h4 j hlt; rw [c] at this; cases this
          · rw [h]; congr 1; omega
      unfold bT bI
      rw [hix]
      dsimp only
      rw [getDl l j hj]
      exact Ev.now _
    · refine Ev.congr (fun k => if_neg c) ?_
      rw [wrap_succ j (by omega)]
      refine rb_l0 l hn was a h d (j + 1) (by omega) fun i hi => ?_
      have h1 := hj0 i hi
      rcases Nat.lt_or_ge j i with hlt | hge
      · exact hlt
      · have e : i = j := by omega
        subst e
        obtain ⟨_, h3, _⟩ := ix_some hi
        exact absurd h3 c
theorem ref_Best (l : List S25) (hn : l.length ≤ 1000) (was : Int) : Ev (fun k => foliotref14_Best.f k l was) (bT l was) := by
  unfold foliotref14_Best.f
  exact rb_l0 l hn was z_S25 (by cases ixP l with | none => exact .inl rfl | some i => exact .inr ⟨i, rfl⟩) l.length 0 (by omega) (fun i _ => Nat.zero_le i)
/-! ### Select -/
noncomputable def seV (l : List S25) (id : Int) : Int := match ixD l id with
  | some i => apV l i
  | none => 0
theorem ev_Select (l : List S25) (hl : Ok l) (hn : l.length ≤ 1000) (id : Int) : Ev (fun k => cluster_Select.f k l id) (seV l id) := by
  unfold cluster_Select.f seV
  refine Ev.bind (f := fun k t => _) (ev_ixS l hn id) ?_
  cases h : ixD l id with
  | none => exact Ev.congr (fun k => if_pos (by simp [fI])) (Ev.now _)
  | some i =>
    refine Ev.congr (fun k => if_neg (by simp [fI])) ?_
    exact Ev.bind (f := fun k t => _) (ev_apart l hl hn i (ix_some h).1) (Ev.now _)
theorem rs_l0 (l : List S25) (hl : Ok l) (hn : l.length ≤ 1000) (id : Int) : ∀ (d j : Nat), j + d = l.length → Ev (fun k => foliotref14_Select.l0 k l id l (l.length : Int) (j : Int)) (match ((l.drop j).findIdx? fun c => decide (c.f0 = id)).map (· + j) with | some i => apV l i | none => 0)
  | 0, j, hd => by
    have c1 : ¬ (j : Int) < (l.length : Int) := by omega
    rw [fi_end _ l j (by omega)]
    exact Ev.succ fun k => by rw [foliotref14_Select.l0, if_neg c1]; rfl
  | d + 1, j, hd => by
    have hj : j < l.length := by omega
    have c1 : (j : Int) < (l.length : Int) := by omega
    have c0 : (0 : Int) ≤ (j : Int) := by omega
    have ih := rs_l0 l hl hn id d (j + 1) (by omega)
    rw [fi_drop _ l j hj]
    refine Ev.step (fun k => by rw [foliotref14_Select.l0, if_pos c1, if_pos c0, if_pos c1, rdl l j hj]) ?_
    by_cases c : l[j].f0 = id
    · refine Ev.congr (fun k => if_pos c) ?_
      rw [if_pos (decide_eq_true c)]
      have em : Option.map (fun x => x + j) (some 0) = some j := by simp
      rw [em]
      exact Ev.bind (f := fun k t => _) (ref_jitter l hl hn j hj) (Ev.now _)
    · refine Ev.congr (fun k => by rw [if_neg c]) ?_
      rw [if_neg (by simp [c]), wrap_succ j (by omega), Option.map_map]
      have : ((fun x => x + j) ∘ fun x => x + 1) = fun x => x + (j + 1) := by funext x; simp only [Function.comp]; omega
      rw [this]; exact ih
theorem ref_Select (l : List S25) (hl : Ok l) (hn : l.length ≤ 1000) (id : Int) : Ev (fun k => foliotref14_Select.f k l id) (seV l id) := by
  unfold foliotref14_Select.f seV
  have g := rs_l0 l hl hn id l.length 0 (by omega)
  have e : ((l.drop 0).findIdx? fun c => decide (c.f0 = id)).map (· + 0) = ixD l id := by unfold ixD; simp
  rw [e] at g
  exact g
end Go.Proofs.Ytigcmpmpjmbfkaa.Q
