/- Plain lemmas on the printed functions: whole numbers and lists, no program in sight. -/
import Derived.Test.YtigcmpmpjmbfkaaSe
import Derived.Laws.BitsLemmas
namespace Go.Proofs.Ytigcmpmpjmbfkaa.Q
open Go Go.RowKit Go.Proofs.Ytigcmpmpjmbfkaa.Ev
set_option linter.unusedVariables false
set_option linter.unusedSimpArgs false
set_option maxRecDepth 100000
/-! ### candidates -/
structure okC (c : S25) : Prop where
  i0 : -9223372036854775808 ≤ c.f0 ∧ c.f0 ≤ 9223372036854775807
  i1 : -9223372036854775808 ≤ c.f1 ∧ c.f1 ≤ 9223372036854775807
  i2 : -9223372036854775808 ≤ c.f2 ∧ c.f2 ≤ 9223372036854775807
  i3 : -9223372036854775808 ≤ c.f3 ∧ c.f3 ≤ 9223372036854775807
  i4 : -9223372036854775808 ≤ c.f4 ∧ c.f4 ≤ 9223372036854775807
def Ok (l : List S25) : Prop := ∀ c ∈ l, okC c
theorem Ok.at {l : List S25} (h : Ok l) (i : Nat) (hi : i < l.length) : okC l[i] := h _ (List.getElem_mem hi)
theorem Ok.sub {l m : List S25} (h : Ok l) (hm : ∀ c ∈ m, c ∈ l) : Ok m := fun c hc => h c (hm c hc)
theorem rdl (l : List S25) (i : Nat) (h : i < l.length) : rdOf z_S25 l (i : Int) = l[i] := by
  simp [rdOf, List.getD, h]
theorem rdr (l : List S53) (i : Nat) (h : i < l.length) : rdOf z_S53 l (i : Int) = l[i] := by
  simp [rdOf, List.getD, h]
def mer (c : S25) : Int := sat (c.f2 + sat (6442450944 * c.f4))
def rt (c : S25) : S53 := ⟨c.f0, c.f1, c.f2, c.f3, c.f4, c.f5, c.f6, mer c⟩
def ct (r : S53) : S25 := ⟨r.f0, r.f1, r.f2, r.f3, r.f4, r.f5, r.f6⟩
theorem ct_rt (c : S25) : ct (rt c) = c := rfl
def leM (a b : S25) : Bool := leR (rt a) (rt b)
theorem ordM : Ord leM := ⟨fun a b c h1 h2 => ordR.tr _ _ _ h1 h2, fun a b => ordR.tot _ _⟩
theorem isort_rt_aux : ∀ (l P : List S25), (l.map rt).foldl (fun P x => List.merge P [x] leR) (P.map rt) = (l.foldl (fun P x => List.merge P [x] leM) P).map rt
  | [], P => rfl
  | c :: l, P => by
    have e : List.merge (P.map rt) [rt c] leR = (List.merge P [c] leM).map rt := by
      rw [List.map_merge (f := rt) (r := leM) (s := leR) (fun a _ b _ => rfl)]; rfl
    rw [List.map_cons, List.foldl_cons, List.foldl_cons, e, isort_rt_aux l]
theorem isort_rt (l : List S25) : isort leR (l.map rt) = (isort leM l).map rt := isort_rt_aux l []
theorem map_ct_rt (l : List S25) : (l.map rt).map ct = l := by
  rw [List.map_map]
  conv => rhs; rw [← List.map_id l]
  exact List.map_congr_left fun c _ => rfl
theorem isortM_len (l : List S25) : (isort leM l).length = l.length := (isort_perm ordM l).length_eq
theorem isortM_mem (l : List S25) (c : S25) : c ∈ isort leM l ↔ c ∈ l := (isort_perm ordM l).mem_iff
theorem bm_l0 (l : List S25) (hl : Ok l) (hn : l.length ≤ 1000) : ∀ (d i : Nat), i + d = l.length → Ev (fun k => cluster_byMerit.l0 k l (l.length : Int) (i : Int) ((l.take i).map rt)) (isort leR (l.map rt))
  | 0, i, hd => by
    have c1 : ¬ (i : Int) < (l.length : Int) := by omega
    refine Ev.step (fun k => by rw [cluster_byMerit.l0, if_neg c1]) ?_
    rw [List.take_of_length_le (by omega)]
    exact Ev.bind (f := fun k t => _) (ev_sortStable _ (by unfold room; simp; omega)) (Ev.now _)
  | d + 1, i, hd => by
    have hi : i < l.length := by omega
    have c1 : (i : Int) < (l.length : Int) := by omega
    have c0 : (0 : Int) ≤ (i : Int) := by omega
    have o := hl.at i hi
    refine Ev.step (fun k => by rw [cluster_byMerit.l0, if_pos c1, if_pos c0, if_pos c1, rdl l i hi]) ?_
    have g := ev_scale 6442450944 l[i].f4 1 (by omega) (by omega) o.i4.1 o.i4.2 (by omega)
    rw [if_neg (by omega), Int.ediv_one] at g
    refine Ev.bind (f := fun k t => _) g ?_
    have hs := sat_in (6442450944 * l[i].f4)
    refine Ev.bind (f := fun k t => _) (ev_add l[i].f2 _ o.i2.1 o.i2.2 (by omega) (by omega)) ?_
    have tl : ((l.take i).map rt).length = i := by rw [List.length_map, List.length_take]; omega
    refine Ev.congr (fun k => if_pos (by rw [tl]; simp only [List.length_cons, List.length_nil]; omega)) ?_
    have e : (l.take i).map rt ++ [rt l[i]] = (l.take (i + 1)).map rt := by rw [← List.take_append_getElem hi, List.map_append]; rfl
    have := bm_l0 l hl hn d (i + 1) (by omega)
    rw [← e, ← wrap_succ i (by omega)] at this
    exact this
theorem ev_byMerit (l : List S25) (hl : Ok l) (hn : l.length ≤ 1000) : Ev (fun k => cluster_byMerit.f k l) (isort leR (l.map rt)) := by
  unfold cluster_byMerit.f
  have := bm_l0 l hl hn l.length 0 (by omega)
  rw [List.take_zero] at this
  exact this
/-! ### how far one is from the others -/
open Classical in
noncomputable def rmsV (d : List Int) : Int := if h : ∃ j, Ev (fun k => fixed_RMS.f k d) j ∧ Ev (fun k => foliotref01_RMS.f k d) j then Classical.choose h else 0
def Ints (d : List Int) : Prop := ∀ x ∈ d, -9223372036854775808 ≤ x ∧ x ≤ 9223372036854775807
theorem rms_ex (d : List Int) (hd : Ints d) : ∃ j, Ev (fun k => fixed_RMS.f k d) j ∧ Ev (fun k => foliotref01_RMS.f k d) j := by
  rcases ev_rms d hd with ⟨e, h⟩ | ⟨e, q, h, hq⟩
  · rcases ref_rms d hd with ⟨_, h'⟩ | ⟨e', _⟩
    · exact ⟨0, h, h'⟩
    · exact absurd e e'
  · rcases ref_rms d hd with ⟨e', _⟩ | ⟨_, q', h', hq'⟩
    · exact absurd e' e
    · rw [IsRoot.uniq hq' hq] at h'
      exact ⟨_, h, h'⟩
theorem rmsV_spec (d : List Int) (hd : Ints d) : Ev (fun k => fixed_RMS.f k d) (rmsV d) ∧ Ev (fun k => foliotref01_RMS.f k d) (rmsV d) := by
  have h := rms_ex d hd
  unfold rmsV
  rw [dif_pos h]
  exact Classical.choose_spec h
theorem ev_rmsV (d : List Int) (hd : Ints d) : Ev (fun k => fixed_RMS.f k d) (rmsV d) := (rmsV_spec d hd).1
theorem ref_rmsV (d : List Int) (hd : Ints d) : Ev (fun k => foliotref01_RMS.f k d) (rmsV d) := (rmsV_spec d hd).2
def offs (o : Int) (l : List S25) (i : Nat) : List Int := (l.eraseIdx i).map fun c => sat (o - c.f1)
theorem offs_ints (o : Int) (l : List S25) (i : Nat) : Ints (offs o l i) := fun x hx => by
  unfold offs at hx
  obtain ⟨c, _, rfl⟩ := List.mem_map.1 hx
  have := sat_in (o - c.f1)
  omega
theorem offs_len (o : Int) (l : List S25) (i : Nat) : (offs o l i).length ≤ l.length := by
  unfold offs
  rw [List.length_map]
  exact List.length_eraseIdx_le l i
noncomputable def apV (l : List S25) (i : Nat) : Int := rmsV (offs (l.getD i z_S25).f1 l i)
theorem offs_same (o : Int) (l : List S25) (i : Nat) (hi : i < l.length) : offs o (l.take (i + 1)) i = offs o (l.take i) i := by
  unfold offs
  rw [← List.take_append_getElem hi, List.eraseIdx_append_of_length_le (by simp; omega), List.eraseIdx_of_length_le (l := l.take i) (by simp; omega)]
  have : i - (l.take i).length = 0 := by simp; omega
  rw [this]; simp
theorem offs_more (o : Int) (l : List S25) (i j : Nat) (hj : j < l.length) (hij : j ≠ i) : offs o (l.take (j + 1)) i = offs o (l.take j) i ++ [sat (o - l[j].f1)] := by
  have tl : (l.take j).length = j := by simp; omega
  unfold offs
  rw [← List.take_append_getElem hj]
  by_cases c : i < j
  · rw [List.eraseIdx_append_of_lt_length (by omega), List.map_append]; rfl
  · rw [List.eraseIdx_append_of_length_le (by omega), List.eraseIdx_of_length_le (l := l.take j) (by omega), List.eraseIdx_of_length_le (l := [l[j]]) (by simp; omega), List.map_append]; rfl
theorem ap_l0 (l : List S25) (hl : Ok l) (hn : l.length ≤ 1000) (i : Nat) (hi : i < l.length) : ∀ (d j : Nat), j + d = l.length → Ev (fun k => cluster_apart.l0 k l (i : Int) l (l.length : Int) (j : Int) (offs l[i].f1 (l.take j) i)) (rmsV (offs l[i].f1 l i))
  | 0, j, hd => by
    have c1 : ¬ (j : Int) < (l.length : Int) := by omega
    refine Ev.step (fun k => by rw [cluster_apart.l0, if_neg c1]) ?_
    rw [List.take_of_length_le (by omega)]
    exact Ev.bind (f := fun k t => _) (ev_rmsV _ (offs_ints _ _ _)) (Ev.now _)
  | d + 1, j, hd => by
    have hj : j < l.length := by omega
    have c1 : (j : Int) < (l.length : Int) := by omega
    have c0 : (0 : Int) ≤ (j : Int) := by omega
    have i1 : (i : Int) < (l.length : Int) := by omega
    have i0 : (0 : Int) ≤ (i : Int) := by omega
    have ih := ap_l0 l hl hn i hi d (j + 1) (by omega)
    rw [← wrap_succ j (by omega)] at ih
    by_cases c : j = i
    · subst c
      refine Ev.step (fun k => by rw [cluster_apart.l0, if_pos c1, if_pos c0, if_pos c1, if_neg (fun h => h rfl)]) ?_
      rw [offs_same _ _ _ hj] at ih
      exact ih
    · have c2 : ¬ (j : Int) = (i : Int) := by omega
      refine Ev.step (fun k => by rw [cluster_apart.l0, if_pos c1, if_pos c0, if_pos c1, if_pos c2, if_pos i0, if_pos i1, rdl l i hi, rdl l j hj]) ?_
      refine Ev.bind (f := fun k t => _) (ev_sub _ _ (hl.at i hi).i1.1 (hl.at i hi).i1.2 (hl.at j hj).i1.1 (hl.at j hj).i1.2) ?_
      have tl := offs_len l[i].f1 (l.take j) i
      rw [List.length_take] at tl
      refine Ev.congr (fun k => if_pos (by simp only [List.length_cons, List.length_nil]; omega)) ?_
      rw [offs_more _ _ _ _ hj c] at ih
      exact ih
theorem apV_eq (l : List S25) (i : Nat) (hi : i < l.length) : apV l i = rmsV (offs l[i].f1 l i) := by
  unfold apV
  simp [List.getD, hi]
theorem ev_apart (l : List S25) (hl : Ok l) (hn : l.length ≤ 1000) (i : Nat) (hi : i < l.length) : Ev (fun k => cluster_apart.f k l (i : Int)) (apV l i) := by
  unfold cluster_apart.f
  rw [apV_eq l i hi]
  exact ap_l0 l hl hn i hi l.length 0 (by omega)
theorem jit_l0 (l : List S25) (hl : Ok l) (hn : l.length ≤ 1000) (i : Nat) (hi : i < l.length) : ∀ (d j : Nat), j + d = l.length → Ev (fun k => foliotref14_jitter.l0 k l (i : Int) l (l.length : Int) (j : Int) (offs l[i].f1 (l.take j) i)) (rmsV (offs l[i].f1 l i))
  | 0, j, hd => by
    have c1 : ¬ (j : Int) < (l.length : Int) := by omega
    refine Ev.step (fun k => by rw [foliotref14_jitter.l0, if_neg c1]) ?_
    rw [List.take_of_length_le (by omega)]
    exact Ev.bind (f := fun k t => _) (ref_rmsV _ (offs_ints _ _ _)) (Ev.now _)
  | d + 1, j, hd => by
    have hj : j < l.length := by omega
    have c1 : (j : Int) < (l.length : Int) := by omega
    have c0 : (0 : Int) ≤ (j : Int) := by omega
    have i1 : (i : Int) < (l.length : Int) := by omega
    have i0 : (0 : Int) ≤ (i : Int) := by omega
    have ih := jit_l0 l hl hn i hi d (j + 1) (by omega)
    rw [← wrap_succ j (by omega)] at ih
    by_cases c : j = i
    · subst c
      refine Ev.step (fun k => by rw [foliotref14_jitter.l0, if_pos c1, if_pos c0, if_pos c1, if_neg (fun h => h rfl)]) ?_
      rw [offs_same _ _ _ hj] at ih
      exact ih
    · have c2 : ¬ (j : Int) = (i : Int) := by omega
      refine Ev.step (fun k => by rw [foliotref14_jitter.l0, if_pos c1, if_pos c0, if_pos c1, if_pos c2, if_pos i0, if_pos i1, rdl l i hi, rdl l j hj]) ?_
      refine Ev.bind (f := fun k t => _) (ref_sub _ _ (hl.at i hi).i1.1 (hl.at i hi).i1.2 (hl.at j hj).i1.1 (hl.at j hj).i1.2) ?_
      have tl := offs_len l[i].f1 (l.take j) i
      rw [List.length_take] at tl
      refine Ev.congr (fun k => if_pos (by simp only [List.length_cons, List.length_nil]; omega)) ?_
      rw [offs_more _ _ _ _ hj c] at ih
      exact ih
theorem ref_jitter (l : List S25) (hl : Ok l) (hn : l.length ≤ 1000) (i : Nat) (hi : i < l.length) : Ev (fun k => foliotref14_jitter.f k l (i : Int)) (apV l i) := by
  unfold foliotref14_jitter.f
  rw [apV_eq l i hi]
  exact jit_l0 l hl hn i hi l.length 0 (by omega)
/-! ### the worst -/
noncomputable def wstep (l : List S25) (a : Int × Int) (i : Nat) : Int × Int :=
  if (l.getD i z_S25).f5 = true then a else if a.1 < 0 then ((i : Int), apV l i) else if apV l i ≥ a.2 then ((i : Int), apV l i) else a
noncomputable def wst (l : List S25) : Int × Int := (List.range l.length).foldl (wstep l) (-1, 0)
theorem wst_more (l : List S25) (j : Nat) : (List.range (j + 1)).foldl (wstep l) (-1, 0) = wstep l ((List.range j).foldl (wstep l) (-1, 0)) j := by
  rw [List.range_succ, List.foldl_append]; rfl
theorem getDl (l : List S25) (i : Nat) (hi : i < l.length) : l.getD i z_S25 = l[i] := by simp [List.getD, hi]
theorem wo_l0 (l : List S25) (hl : Ok l) (hn : l.length ≤ 1000) : ∀ (d j : Nat), j + d = l.length → Ev (fun k => cluster_worst.l0 k l ((List.range j).foldl (wstep l) (-1, 0)).1 ((List.range j).foldl (wstep l) (-1, 0)).2 l (l.length : Int) (j : Int)) (wst l)
  | 0, j, hd => by
    have c1 : ¬ (j : Int) < (l.length : Int) := by omega
    have e : j = l.length := by omega
    subst e
    exact Ev.succ fun k => by rw [cluster_worst.l0, if_neg c1]; rfl
  | d + 1, j, hd => by
    have hj : j < l.length := by omega
    have c1 : (j : Int) < (l.length : Int) := by omega
    have c0 : (0 : Int) ≤ (j : Int) := by omega
    have ih := wo_l0 l hl hn d (j + 1) (by omega)
    rw [← wrap_succ j (by omega), wst_more] at ih
    refine Ev.step (fun k => by rw [cluster_worst.l0, if_pos c1, if_pos c0, if_pos c1, rdl l j hj]) ?_
    refine Ev.bind (f := fun k t => _) (ev_apart l hl hn j hj) ?_
    generalize (List.range j).foldl (wstep l) (-1, 0) = a at *
    unfold wstep at ih
    rw [getDl l j hj] at ih
    by_cases c : l[j].f5 = true
    · rw [if_pos c] at ih
      refine Ev.congr (fun k => by rw [bif_nb, if_pos c]) ih
    · rw [if_neg c] at ih
      refine Ev.congr (fun k => by rw [bif_nb, if_neg c]) ?_
      by_cases c2 : a.1 < 0
      · rw [if_pos c2] at ih
        exact Ev.congr (fun k => by rw [if_pos c2]) ih
      · rw [if_neg c2] at ih
        refine Ev.congr (fun k => by rw [if_neg c2]) ?_
        by_cases c3 : apV l j ≥ a.2
        · rw [if_pos c3] at ih
          exact Ev.congr (fun k => by rw [if_pos c3]) ih
        · rw [if_neg c3] at ih
          exact Ev.congr (fun k => by rw [if_neg c3]) ih
theorem ev_worst (l : List S25) (hl : Ok l) (hn : l.length ≤ 1000) : Ev (fun k => cluster_worst.f k l) (wst l) := by
  unfold cluster_worst.f
  exact wo_l0 l hl hn l.length 0 (by omega)
theorem wst_range (l : List S25) : ∀ j, j ≤ l.length → (((List.range j).foldl (wstep l) (-1, 0)).1 = -1 ∨ ∃ i : Nat, i < j ∧ ((List.range j).foldl (wstep l) (-1, 0)).1 = (i : Int) ∧ (l.getD i z_S25).f5 = false)
  | 0, _ => .inl rfl
  | j + 1, hj => by
    have ih := wst_range l j (by omega)
    rw [wst_more]
    generalize (List.range j).foldl (wstep l) (-1, 0) = a at *
    have keep : a.1 = -1 ∨ ∃ i : Nat, i < j + 1 ∧ a.1 = (i : Int) ∧ (l.getD i z_S25).f5 = false := by
      rcases ih with h | ⟨i, h1, h2, h3⟩
      · exact .inl h
      · exact .inr ⟨i, by omega, h2, h3⟩
    unfold wstep
    by_cases c : (l.getD j z_S25).f5 = true
    · rw [if_pos c]; exact keep
    · have c' : (l.getD j z_S25).f5 = false := by simpa using c
      rw [if_neg c]
      (repeat' split)
      · exact .inr ⟨j, by omega, rfl, c'⟩
      · exact .inr ⟨j, by omega, rfl, c'⟩
      · exact keep
/-! ### the least jitter -/
def qJ (l : List S25) : Int := l.foldl (fun q c => mn q c.f3) (l.headD z_S25).f3
theorem mn_self (a : Int) : mn a a = a := by unfold mn; rw [if_neg (by omega)]
theorem cmpS (a b : Int) : cmp_Compare_api_Span.f a b = some (cmpI a b) := cmp1 a b
theorem clu1 (a b : S25) : cluster_Cluster_1.f a.f0 a.f1 a.f2 a.f3 a.f4 a.f5 a.f6 b.f0 b.f1 b.f2 b.f3 b.f4 b.f5 b.f6 = some (cmpI a.f3 b.f3) := by
  unfold cluster_Cluster_1.f
  rw [cmpS, bsome]
theorem mf_l0 (l : List S25) (hn : l.length ≤ 1000) (a : S25) : ∀ (d j : Nat) (m : S25), j + d = l.length → ∃ t, Ev (fun k => slices_MinFunc_api_Cand_api_Cand.l0 k l (j : Int) a.f0 a.f1 a.f2 a.f3 a.f4 a.f5 a.f6 m.f0 m.f1 m.f2 m.f3 m.f4 m.f5 m.f6) t ∧ t.2.2.2.1 = (l.drop j).foldl (fun q c => mn q c.f3) m.f3
  | 0, j, m, hd => by
    have c1 : ¬ (j : Int) < (l.length : Int) := by omega
    rw [List.drop_eq_nil_of_le (by omega)]
    exact ⟨_, Ev.succ fun k => by rw [slices_MinFunc_api_Cand_api_Cand.l0, if_neg c1], rfl⟩
  | d + 1, j, m, hd => by
    have hj : j < l.length := by omega
    have c1 : (j : Int) < (l.length : Int) := by omega
    have c0 : (0 : Int) ≤ (j : Int) := by omega
    rw [List.drop_eq_getElem_cons hj, List.foldl_cons]
    by_cases c : cmpI l[j].f3 m.f3 < 0
    · obtain ⟨t, h1, h2⟩ := mf_l0 l hn a d (j + 1) l[j] (by omega)
      have e : mn m.f3 l[j].f3 = l[j].f3 := by
        unfold cmpI at c; unfold mn; (repeat' split at c) <;> (split <;> omega)
      rw [e]
      refine ⟨t, Ev.step (fun k => ?_) h1, h2⟩
      rw [slices_MinFunc_api_Cand_api_Cand.l0, if_pos c1, if_pos c0, if_pos c1, rdl l j hj, clu1, bsome, if_pos c, if_pos c0, if_pos c1, wrap_succ j (by omega)]
    · obtain ⟨t, h1, h2⟩ := mf_l0 l hn a d (j + 1) m (by omega)
      have e : mn m.f3 l[j].f3 = m.f3 := by
        unfold cmpI at c; unfold mn; (repeat' split at c) <;> (split <;> omega)
      rw [e]
      refine ⟨t, Ev.step (fun k => ?_) h1, h2⟩
      rw [slices_MinFunc_api_Cand_api_Cand.l0, if_pos c1, if_pos c0, if_pos c1, rdl l j hj, clu1, bsome, if_neg c, wrap_succ j (by omega)]
theorem ev_minFunc (l : List S25) (hn : l.length ≤ 1000) (h0 : 0 < l.length) : ∃ t, Ev (fun k => slices_MinFunc_api_Cand_api_Cand.f k l) t ∧ t.2.2.2.1 = qJ l := by
  have e0 : rdOf z_S25 l 0 = l[0] := rdl l 0 h0
  obtain ⟨t, h1, h2⟩ := mf_l0 l hn z_S25 (l.length - 1) 1 l[0] (by omega)
  refine ⟨t, ?_, ?_⟩
  · unfold slices_MinFunc_api_Cand_api_Cand.f
    refine Ev.congr (fun k => ?_) h1
    rw [if_neg (by omega), if_pos (by omega), e0]
    rfl
  · rw [h2]
    unfold qJ
    cases l with
    | nil => simp at h0
    | cons c l => simp [mn_self]
/-! ### one that goes -/
theorem ev_delete (l : List S25) (i : Nat) (hi : i < l.length) (hn : l.length ≤ 1000) (j : Int) (hj : j = (i : Int) + 1) : slices_Delete_api_Cand_api_Cand.f (i : Int) j l = some (l.eraseIdx i) := by
  subst hj
  have t1 : ((i : Int) - 0).toNat = i := by omega
  have t2 : ((i : Int) + 1).toNat = i + 1 := by omega
  have t3 : ((l.length : Int) - ((i : Int) + 1)).toNat = l.length - (i + 1) := by omega
  unfold slices_Delete_api_Cand_api_Cand.f
  rw [t1, t2, t3]
  have e1 : (l.drop (i + 1)).take (l.length - (i + 1)) = l.drop (i + 1) := List.take_of_length_le (by simp)
  rw [e1, if_pos (by omega), if_pos (by omega), if_pos (by omega), if_pos rfl, if_neg (by omega), if_pos (by omega), if_pos (by omega), if_pos (by omega), if_pos (by omega), if_pos (by omega), if_pos (by omega), if_pos (by omega), if_pos (by omega)]
  have hL : (l.take i ++ l.drop (i + 1) ++ l.drop (i + (l.length - (i + 1)))).length = l.length := by simp; omega
  rw [if_pos (.inr ⟨rfl, by rw [hL]; omega⟩)]
  congr 1
  have hB : (l.take i ++ l.drop (i + 1)).length = i + (l.length - (i + 1)) := by simp; omega
  have h0 : 0 + (((i : Int) + ((l.length - (i + 1) : Nat) : Int))).toNat = i + (l.length - (i + 1)) := by omega
  rw [List.eraseIdx_eq_take_drop_succ]
  have h0' : 0 + (((i + (l.length - (i + 1)) : Nat) : Int)).toNat = i + (l.length - (i + 1)) := by omega
  first | rw [h0'] | rw [h0]
  rw [List.append_assoc _ (List.replicate _ _), List.take_append_of_le_length (by rw [List.length_take, List.length_append, hB]; omega), List.take_take, Nat.min_self, List.take_append_of_le_length (by omega), List.take_of_length_le (by omega)]
end Go.Proofs.Ytigcmpmpjmbfkaa.Q
