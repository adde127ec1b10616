/- Plain lemmas on the printed functions: whole numbers and lists, no program in sight. -/
import Derived.Test.YtigcmpmpjmbfkaaCd
import Derived.Laws.BitsLemmas
namespace Go.Proofs.Ytigcmpmpjmbfkaa.Q
open Go Go.RowKit Go.Proofs.Ytigcmpmpjmbfkaa.Ev
set_option linter.unusedVariables false
set_option linter.unusedSimpArgs false
set_option maxRecDepth 100000
/-! ### mitigation -/
def plainL (l : List S25) : List S25 := l.filter fun c => !c.f6
def pulseL (l : List S25) : List S25 := l.filter fun c => c.f6
noncomputable def miL (L : List S25) (was : Int) : Int × Int × Int × Bool × Bool := match bI (plainL L) was with
  | none => (0, 0, 0, false, false)
  | some i =>
    let c := (plainL L).getD i z_S25
    let u := (pulseL L).headD z_S25
    if pulseL L ≠ [] ∧ (-1073741824 ≤ c.f1 ∧ c.f1 ≤ 1073741824) then (u.f0, u.f1, u.f3, true, true)
    else if c.f5 = true then (c.f0, c.f1, c.f3, true, false)
    else (c.f0, (coV (c :: (plainL L).eraseIdx i)).1, (coV (c :: (plainL L).eraseIdx i)).2, true, false)
theorem filt_more (p : S25 → Bool) (L : List S25) (j : Nat) (hj : j < L.length) : (L.take (j + 1)).filter p = (L.take j).filter p ++ (if p L[j] = true then [L[j]] else []) := by
  rw [← List.take_append_getElem hj, List.filter_append]
  congr 1
  by_cases c : p L[j] = true
  · rw [if_pos c]; simp [c]
  · rw [if_neg c]; simp [c]
theorem near_iff (a : Int) : (if (1073741824 : Int) < 0 then 0 else sat (mx (mn a 1073741824) (-1073741824))) = a ↔ (-1073741824 ≤ a ∧ a ≤ 1073741824) := by
  rw [if_neg (by decide)]
  have h : -1073741824 ≤ mx (mn a 1073741824) (-1073741824) ∧ mx (mn a 1073741824) (-1073741824) ≤ 1073741824 := by
    unfold mx mn; (repeat' split) <;> omega
  rw [sat_of (by omega) (by omega)]
  unfold mx mn; (repeat' split) <;> omega
theorem plain_f6 {L : List S25} {c : S25} (h : c ∈ plainL L) : c.f6 = false := by
  have := (List.mem_filter.1 h).2
  simpa using this
theorem pulse_f6 {L : List S25} {c : S25} (h : c ∈ pulseL L) : c.f6 = true := (List.mem_filter.1 h).2
theorem ok_plain {L : List S25} (h : Ok L) : Ok (plainL L) := h.sub fun c hc => (List.mem_filter.1 hc).1
theorem plain_len (L : List S25) : (plainL L).length ≤ L.length := List.length_filter_le _ _
theorem pulse_len (L : List S25) : (pulseL L).length ≤ L.length := List.length_filter_le _ _
theorem headD_get : ∀ (l : List S25) (h : 0 < l.length), l.headD z_S25 = l[0]
  | [], h => by simp at h
  | a :: l, h => rfl
theorem mi_end (L : List S25) (hl : Ok L) (hb : L.length ≤ 1000) (was x14 x15 : Int) (z : S25) (h : ¬ x15 < x14) (a0 a1 a2 : Int) (b0 b1 : Bool) : Ev (fun k => cluster_Mitigate.l0 k was x14 x15 a0 a1 a2 b0 b1 (plainL L) (pulseL L) L) (miL L was) := by
  refine Ev.step (fun k => by rw [cluster_Mitigate.l0, if_neg h]) ?_
  have hpl := plain_len L
  have hul := pulse_len L
  have hop := ok_plain hl
  refine Ev.bind (f := fun k t => _) (ev_best (plainL L) (by omega) was) ?_
  unfold miL
  cases hbi : bI (plainL L) was with
  | none => exact Ev.congr (fun k => if_pos (by simp [fI])) (Ev.now _)
  | some i =>
    have hi := bI_lt hbi
    have hc6 := plain_f6 (List.getElem_mem hi)
    have hoc := hop.at i hi
    have c1 : (i : Int) < ((plainL L).length : Int) := by omega
    have c0 : (0 : Int) ≤ (i : Int) := by omega
    have bi : (i : Int) < 9223372036854775807 := by omega
    have hlen : ((plainL L).eraseIdx i).length ≤ 1000 := by have := List.length_eraseIdx_le (plainL L) i; omega
    have hdel : slices_Delete_api_Cand_api_Cand.f (i : Int) (wrap64 ((i : Int) + 1)) (plainL L) = some ((plainL L).eraseIdx i) := ev_delete (plainL L) i hi (by omega) _ (wrap_succ i bi)
    have room : (2 * (([(⟨(plainL L)[i].f0, (plainL L)[i].f1, (plainL L)[i].f2, (plainL L)[i].f3, (plainL L)[i].f4, (plainL L)[i].f5, (plainL L)[i].f6⟩ : S25)] : List S25).length + ((plainL L).eraseIdx i).length) + 200) * 48 ≤ 281474976710656 := by
      simp only [List.length_cons, List.length_nil]; omega
    have hco : Ev (fun k => cluster_Combine.f k ((plainL L)[i] :: (plainL L).eraseIdx i)) (coV ((plainL L)[i] :: (plainL L).eraseIdx i)) := ev_Combine _ fun c hc => by
      rcases List.mem_cons.1 hc with rfl | hc
      · exact hoc
      · exact hop c (List.mem_of_mem_eraseIdx hc)
    dsimp only
    rw [getDl _ i hi]
    refine Ev.congr (fun k => if_neg (by simp [fI])) ?_
    have tail : Ev (fun k => (if 0 ≤ fI (some i) then (if fI (some i) < ((plainL L).length : Int) then (bif ((rdOf z_S25 (plainL L) (fI (some i))).f5) then (if 0 ≤ fI (some i) then (if fI (some i) < ((plainL L).length : Int) then ((cluster_follow.f ((rdOf z_S25 (plainL L) (fI (some i))).f0) ((rdOf z_S25 (plainL L) (fI (some i))).f1) ((rdOf z_S25 (plainL L) (fI (some i))).f2) ((rdOf z_S25 (plainL L) (fI (some i))).f3) ((rdOf z_S25 (plainL L) (fI (some i))).f4) ((rdOf z_S25 (plainL L) (fI (some i))).f5) ((rdOf z_S25 (plainL L) (fI (some i))).f6)).bind fun t4 => (some (t4.1, t4.2.1, t4.2.2.1, t4.2.2.2.1, t4.2.2.2.2))) else none) else none) else (if 0 ≤ fI (some i) then (if fI (some i) < ((plainL L).length : Int) then ((slices_Delete_api_Cand_api_Cand.f (fI (some i)) (wrap64 (fI (some i) + 1)) (plainL L)).bind fun t5 => (if (2 * (([(⟨(rdOf z_S25 (plainL L) (fI (some i))).f0, (rdOf z_S25 (plainL L) (fI (some i))).f1, (rdOf z_S25 (plainL L) (fI (some i))).f2, (rdOf z_S25 (plainL L) (fI (some i))).f3, (rdOf z_S25 (plainL L) (fI (some i))).f4, ((rdOf z_S25 (plainL L) (fI (some i))).f5), ((rdOf z_S25 (plainL L) (fI (some i))).f6)⟩ : S25)] : List S25).length + t5.length) + 200) * 48 ≤ 281474976710656 then ((cluster_Combine.f k (([(⟨(rdOf z_S25 (plainL L) (fI (some i))).f0, (rdOf z_S25 (plainL L) (fI (some i))).f1, (rdOf z_S25 (plainL L) (fI (some i))).f2, (rdOf z_S25 (plainL L) (fI (some i))).f3, (rdOf z_S25 (plainL L) (fI (some i))).f4, ((rdOf z_S25 (plainL L) (fI (some i))).f5), ((rdOf z_S25 (plainL L) (fI (some i))).f6)⟩ : S25)] : List S25) ++ t5)).bind fun t6 => (some ((rdOf z_S25 (plainL L) (fI (some i))).f0, t6.1, t6.2, true, false))) else none)) else none) else none)) else none) else none : Option (Int × Int × Int × Bool × Bool)))
        (if (plainL L)[i].f5 = true then ((plainL L)[i].f0, (plainL L)[i].f1, (plainL L)[i].f3, true, false) else ((plainL L)[i].f0, (coV ((plainL L)[i] :: (plainL L).eraseIdx i)).1, (coV ((plainL L)[i] :: (plainL L).eraseIdx i)).2, true, false)) := by
      have ef : fI (some i) = (i : Int) := rfl
      rw [ef, rdl _ i hi, hdel]
      refine Ev.congr (fun k => by rw [if_pos c0, if_pos c1, bif_b]) ?_
      by_cases c : (plainL L)[i].f5 = true
      · rw [if_pos c]
        refine Ev.congr (fun k => by rw [if_pos c, if_pos c0, if_pos c1]) ?_
        unfold cluster_follow.f
        rw [hc6]
        exact Ev.bs (f := fun k t => _) (Ev.now _)
      · rw [if_neg c]
        refine Ev.congr (fun k => by rw [if_neg c, if_pos c0, if_pos c1, bsome, if_pos room]) ?_
        exact Ev.bind (f := fun k t => _) hco (Ev.now _)
    by_cases hu : pulseL L = []
    · have hu0 : ¬ ((pulseL L).length : Int) > 0 := by rw [hu]; simp
      rw [if_neg (show ¬ (pulseL L ≠ [] ∧ (-1073741824 ≤ (plainL L)[i].f1 ∧ (plainL L)[i].f1 ≤ 1073741824)) from fun h => h.1 hu)]
      exact Ev.congr (fun k => if_neg hu0) tail
    · have hup : 0 < (pulseL L).length := List.length_pos_iff.2 hu
      have hu0 : ((pulseL L).length : Int) > 0 := by omega
      have eu : rdOf z_S25 (pulseL L) 0 = (pulseL L)[0] := rdl _ 0 hup
      have hu6 := pulse_f6 (List.getElem_mem hup)
      have ehd : (pulseL L).headD z_S25 = (pulseL L)[0] := headD_get _ hup
      refine Ev.congr (fun k => by rw [if_pos hu0]) ?_
      have ef : fI (some i) = (i : Int) := rfl
      rw [ef] at tail
      rw [ef, rdl _ i hi]
      rw [rdl _ i hi] at tail
      refine Ev.congr (fun k => by rw [if_pos c0, if_pos c1]) ?_
      refine Ev.bind (f := fun k t => _) (ev_clamp _ 1073741824 hoc.i1.1 hoc.i1.2 (by omega) (by omega)) ?_
      refine Ev.congr (fun k => by rw [if_pos c0, if_pos c1]) ?_
      by_cases cn : -1073741824 ≤ (plainL L)[i].f1 ∧ (plainL L)[i].f1 ≤ 1073741824
      · rw [if_pos (show (pulseL L ≠ [] ∧ (-1073741824 ≤ (plainL L)[i].f1 ∧ (plainL L)[i].f1 ≤ 1073741824)) from ⟨hu, cn⟩), ehd]
        refine Ev.congr (fun k => by rw [if_pos ((near_iff _).2 cn), if_pos (by omega), eu]) ?_
        unfold cluster_follow.f
        rw [hu6]
        exact Ev.bs (f := fun k t => _) (Ev.now _)
      · rw [if_neg (show ¬ (pulseL L ≠ [] ∧ (-1073741824 ≤ (plainL L)[i].f1 ∧ (plainL L)[i].f1 ≤ 1073741824)) from fun h => cn h.2)]
        refine Ev.congr (fun k => if_neg (fun h => cn ((near_iff _).1 h))) ?_
        exact tail
theorem mi_l0 (L : List S25) (hl : Ok L) (hb : L.length ≤ 1000) (was : Int) (a0 a1 a2 : Int) (b0 b1 : Bool) : ∀ (d j : Nat), j + d = L.length → Ev (fun k => cluster_Mitigate.l0 k was (L.length : Int) (j : Int) a0 a1 a2 b0 b1 (plainL (L.take j)) (pulseL (L.take j)) L) (miL L was)
  | 0, j, hd => by
    rw [List.take_of_length_le (by omega)]
    exact mi_end L hl hb was _ _ z_S25 (by omega) _ _ _ _ _
  | d + 1, j, hd => by
    have hj : j < L.length := by omega
    have c1 : (j : Int) < (L.length : Int) := by omega
    have c0 : (0 : Int) ≤ (j : Int) := by omega
    have bj : (j : Int) < 9223372036854775807 := by omega
    have ih := mi_l0 L hl hb was a0 a1 a2 b0 b1 d (j + 1) (by omega)
    have hp : plainL (L.take (j + 1)) = plainL (L.take j) ++ (if (!L[j].f6) = true then [L[j]] else []) := filt_more _ L j hj
    have hu : pulseL (L.take (j + 1)) = pulseL (L.take j) ++ (if L[j].f6 = true then [L[j]] else []) := filt_more _ L j hj
    rw [hp, hu] at ih
    have l1 := plain_len (L.take j)
    have l2 := pulse_len (L.take j)
    rw [List.length_take] at l1 l2
    refine Ev.step (fun k => by rw [cluster_Mitigate.l0, if_pos c1, if_pos c0, if_pos c1, rdl L j hj, bif_b]) ?_
    by_cases c : L[j].f6 = true
    · rw [if_pos c, if_neg (by rw [c]; decide), List.append_nil] at ih
      refine Ev.congr (fun k => by rw [if_pos c, if_pos (by simp only [List.length_cons, List.length_nil]; omega)]) ?_
      refine Ev.step (fun k => by rw [cluster_Mitigate.j0, wrap_succ j bj]) ?_
      exact ih
    · have c' : L[j].f6 = false := by simpa using c
      rw [if_neg c, if_pos (by rw [c']; rfl), List.append_nil] at ih
      refine Ev.congr (fun k => by rw [if_neg c, if_pos (by simp only [List.length_cons, List.length_nil]; omega)]) ?_
      refine Ev.step (fun k => by rw [cluster_Mitigate.j0, wrap_succ j bj]) ?_
      exact ih
theorem clS_len : ∀ (n : Nat) (l : List S25), (clS n l).length ≤ l.length
  | 0, l => Nat.le_refl _
  | n + 1, l => by
    unfold clS
    (repeat' split)
    · exact Nat.le_refl _
    · exact Nat.le_refl _
    · exact Nat.le_refl _
    · have := clS_len n (l.eraseIdx (wst l).1.toNat)
      have := List.length_eraseIdx_le l (wst l).1.toNat
      omega
theorem clS_mem : ∀ (n : Nat) (l : List S25) (c : S25), c ∈ clS n l → c ∈ l
  | 0, l, c, h => h
  | n + 1, l, c, h => by
    unfold clS at h
    split at h
    · exact h
    · split at h
      · exact h
      · split at h
        · exact h
        · exact List.mem_of_mem_eraseIdx (clS_mem n _ c h)
theorem Cl_len (l : List S25) : (Cl l).length ≤ 10 := by
  unfold Cl
  have := clS_len 10 ((isort leM l).take 10)
  rw [List.length_take] at this
  omega
theorem Cl_mem (l : List S25) (c : S25) (h : c ∈ Cl l) : c ∈ l := (isortM_mem l c).1 (List.mem_of_mem_take (clS_mem 10 _ c h))
theorem ok_Cl {l : List S25} (hl : Ok l) : Ok (Cl l) := hl.sub (Cl_mem l)
theorem ev_Mitigate (l : List S25) (hl : Ok l) (hn : l.length ≤ 1000) (was : Int) : Ev (fun k => cluster_Mitigate.f k l was) (miL (Cl l) was) := by
  unfold cluster_Mitigate.f
  refine Ev.bind (f := fun k t => _) (ev_Cluster l hl hn) ?_
  have := Cl_len l
  exact mi_l0 (Cl l) (ok_Cl hl) (by omega) was 0 0 0 false false (Cl l).length 0 (by omega)
/-! ### the reference's -/
/-- What stands ahead of the best one is unlike it. -/
theorem bI_first {l : List S25} {was : Int} {i : Nat} (h : bI l was = some i) (hi : i < l.length) : ∀ j (hj : j < i), l[j]'(by omega) ≠ l[i] := by
  intro j hj he
  unfold bI at h
  split at h
  · rename_i i' hp
    cases h
    obtain ⟨_, h2, h3⟩ := ix_some hp
    have := h3 j hj
    rw [he] at this
    rw [h2] at this; cases this
  · split at h
    · rename_i i' hd
      split at h
      · cases h
        obtain ⟨_, h2, h3⟩ := ix_some hd
        have := h3 j hj
        rw [he] at this
        rw [h2] at this; cases this
      · cases h; omega
    · split at h
      · cases h
      · cases h; omega
theorem rm_same (P : List S25) (a : S25) : (∀ x ∈ P, x ≠ a) → ∀ x ∈ P, ¬ (x.f0 = a.f0 ∧ x.f1 = a.f1 ∧ x.f2 = a.f2 ∧ x.f3 = a.f3 ∧ x.f4 = a.f4 ∧ x.f5 = a.f5 ∧ x.f6 = a.f6) := by
  intro h x hx ⟨h0, h1, h2, h3, h4, h5, h6⟩
  refine h x hx ?_
  cases x; cases a
  simp_all
theorem rm_l1 (P : List S25) (hop : Ok P) (hb : P.length ≤ 1000) (i : Nat) (hi : i < P.length) (hfst : ∀ j (hj : j < i), P[j]'(by omega) ≠ P[i]) (a0 a1 a2 : Int) (b0 b1 : Bool) : ∀ (d j : Nat), j + d = P.length →
    Ev (fun k => foliotref14_Mitigate.l1 k (decide (i < j)) (P.length : Int) (j : Int) a0 a1 a2 b0 b1 (P[i] :: (P.take j).eraseIdx i) P[i].f0 P[i].f1 P[i].f2 P[i].f3 P[i].f4 P[i].f5 P[i].f6 P) (P[i].f0, (coV (P[i] :: P.eraseIdx i)).1, (coV (P[i] :: P.eraseIdx i)).2, true, false)
  | 0, j, hd => by
    have c1 : ¬ (j : Int) < (P.length : Int) := by omega
    refine Ev.step (fun k => by rw [foliotref14_Mitigate.l1, if_neg c1]) ?_
    rw [List.take_of_length_le (by omega)]
    exact Ev.bind (f := fun k t => _) (ref_Combine _ fun c hc => by
      rcases List.mem_cons.1 hc with rfl | hc
      · exact hop.at i hi
      · exact hop c (List.mem_of_mem_eraseIdx hc)) (Ev.now _)
  | d + 1, j, hd => by
    have hj : j < P.length := by omega
    have c1 : (j : Int) < (P.length : Int) := by omega
    have c0 : (0 : Int) ≤ (j : Int) := by omega
    have bj : (j : Int) < 9223372036854775807 := by omega
    have ih := rm_l1 P hop hb i hi hfst a0 a1 a2 b0 b1 d (j + 1) (by omega)
    have tl : (P.take j).length = j := by simp; omega
    have hel : ((P.take j).eraseIdx i).length ≤ 1000 := by have := List.length_eraseIdx_le (P.take j) i; omega
    have room : (2 * ((P[i] :: (P.take j).eraseIdx i).length + ([(⟨P[j].f0, P[j].f1, P[j].f2, P[j].f3, P[j].f4, P[j].f5, P[j].f6⟩ : S25)] : List S25).length) + 200) * 48 ≤ 281474976710656 := by
      simp only [List.length_cons, List.length_nil]; omega
    refine Ev.step (fun k => by rw [foliotref14_Mitigate.l1, if_pos c1, if_pos c0, if_pos c1, rdl P j hj]) ?_
    have app : ∀ (hij : j ≠ i), (P[i] :: (P.take j).eraseIdx i) ++ [P[j]] = P[i] :: (P.take (j + 1)).eraseIdx i := fun hij => by
      rw [← List.take_append_getElem hj, List.cons_append]
      congr 1
      by_cases c : i < j
      · rw [List.eraseIdx_append_of_lt_length (by omega)]
      · rw [List.eraseIdx_append_of_length_le (by omega), List.eraseIdx_of_length_le (l := P.take j) (by omega), List.eraseIdx_of_length_le (l := [P[j]]) (by simp; omega)]
    by_cases cj : j = i
    · subst cj
      refine Ev.congr (fun k => by rw [if_pos ⟨rfl, rfl, rfl, rfl, rfl, rfl, rfl⟩, decide_eq_false (Nat.lt_irrefl _)]) ?_
      have e1 : (P.take (j + 1)).eraseIdx j = (P.take j).eraseIdx j := by
        rw [← List.take_append_getElem hj, List.eraseIdx_append_of_length_le (by omega), List.eraseIdx_of_length_le (l := P.take j) (by omega)]
        have : j - (P.take j).length = 0 := by omega
        rw [this]; simp
      rw [e1, decide_eq_true (Nat.lt_succ_self j)] at ih
      refine Ev.congr (fun k => by rw [Bool.not_false, cond_true]) ?_
      refine Ev.step (fun k => by rw [foliotref14_Mitigate.j0, wrap_succ j bj]) ?_
      exact ih
    · rw [← app cj] at ih
      have ed : decide (i < j + 1) = decide (i < j) := by
        by_cases c : i < j
        · rw [decide_eq_true c, decide_eq_true (by omega)]
        · rw [decide_eq_false c, decide_eq_false (by omega)]
      rw [ed] at ih
      have jn : Ev (fun k => foliotref14_Mitigate.j0 k (decide (i < j)) (P.length : Int) (j : Int) a0 a1 a2 b0 b1 ((P[i] :: (P.take j).eraseIdx i) ++ [P[j]]) P[i].f0 P[i].f1 P[i].f2 P[i].f3 P[i].f4 P[i].f5 P[i].f6 P) (P[i].f0, (coV (P[i] :: P.eraseIdx i)).1, (coV (P[i] :: P.eraseIdx i)).2, true, false) :=
        Ev.step (fun k => by rw [foliotref14_Mitigate.j0, wrap_succ j bj]) ih
      by_cases cs : P[j].f0 = P[i].f0 ∧ P[j].f1 = P[i].f1 ∧ P[j].f2 = P[i].f2 ∧ P[j].f3 = P[i].f3 ∧ P[j].f4 = P[i].f4 ∧ P[j].f5 = P[i].f5 ∧ P[j].f6 = P[i].f6
      · have hij : i < j := by
          rcases Nat.lt_or_ge j i with h | h
          · have h1 := hfst j h
            exact absurd cs (rm_same [P[j]] P[i] (fun x hx => by rw [List.mem_singleton.1 hx]; exact h1) P[j] (by simp))
          · omega
        refine Ev.congr (fun k => by rw [if_pos cs, decide_eq_true hij, Bool.not_true, cond_false, if_pos room]) ?_
        rw [decide_eq_true hij] at jn
        exact jn
      · refine Ev.congr (fun k => by rw [if_neg cs, if_pos room]) ?_
        exact jn
theorem rmi_end (L : List S25) (hl : Ok L) (hb : L.length ≤ 1000) (was : Int) (n : Nat) (x22 : Int) (h : ¬ x22 < (n : Int)) (a0 a1 a2 : Int) (b0 b1 : Bool) (E : List S25) :
    Ev (fun k => foliotref14_Mitigate.l0 k was (decide (pulseL L ≠ [])) (0, n) (n : Int) x22 a0 a1 a2 b0 b1 (plainL L) ((pulseL L).headD z_S25).f0 ((pulseL L).headD z_S25).f1 ((pulseL L).headD z_S25).f2 ((pulseL L).headD z_S25).f3 ((pulseL L).headD z_S25).f4 ((pulseL L).headD z_S25).f5 ((pulseL L).headD z_S25).f6 E) (miL L was) := by
  refine Ev.step (fun k => by rw [foliotref14_Mitigate.l0, if_neg h]) ?_
  have hpl := plain_len L
  have hop := ok_plain hl
  refine Ev.bind (f := fun k t => _) (ref_Best (plainL L) (by omega) was) ?_
  unfold bT miL
  cases hbi : bI (plainL L) was with
  | none => exact Ev.now _
  | some i =>
    have hi := bI_lt hbi
    have hfst := bI_first hbi hi
    simp only [tup, getDl _ i hi]
    have room : (2 * (([] : List S25).length + ([(⟨(plainL L)[i].f0, (plainL L)[i].f1, (plainL L)[i].f2, (plainL L)[i].f3, (plainL L)[i].f4, (plainL L)[i].f5, (plainL L)[i].f6⟩ : S25)] : List S25).length) + 200) * 48 ≤ 281474976710656 := by
      simp only [List.length_cons, List.length_nil]; omega
    have g := rm_l1 (plainL L) hop (by omega) i hi hfst a0 a1 a2 b0 b1 (plainL L).length 0 (by omega)
    rw [List.take_zero, decide_eq_false (Nat.not_lt_zero i)] at g
    have e0 : ([] : List S25).eraseIdx i = [] := rfl
    rw [e0] at g
    have tail : Ev (fun k => (bif (plainL L)[i].f5 then (some ((plainL L)[i].f0, (plainL L)[i].f1, (plainL L)[i].f3, true, false)) else (if (2 * (([] : List S25).length + ([(⟨(plainL L)[i].f0, (plainL L)[i].f1, (plainL L)[i].f2, (plainL L)[i].f3, (plainL L)[i].f4, (plainL L)[i].f5, (plainL L)[i].f6⟩ : S25)] : List S25).length) + 200) * 48 ≤ 281474976710656 then (foliotref14_Mitigate.l1 k false ((plainL L).length : Int) 0 a0 a1 a2 b0 b1 ([(⟨(plainL L)[i].f0, (plainL L)[i].f1, (plainL L)[i].f2, (plainL L)[i].f3, (plainL L)[i].f4, (plainL L)[i].f5, (plainL L)[i].f6⟩ : S25)] : List S25) (plainL L)[i].f0 (plainL L)[i].f1 (plainL L)[i].f2 (plainL L)[i].f3 (plainL L)[i].f4 (plainL L)[i].f5 (plainL L)[i].f6 (plainL L)) else none) : Option (Int × Int × Int × Bool × Bool)))
        (if (plainL L)[i].f5 = true then ((plainL L)[i].f0, (plainL L)[i].f1, (plainL L)[i].f3, true, false) else ((plainL L)[i].f0, (coV ((plainL L)[i] :: (plainL L).eraseIdx i)).1, (coV ((plainL L)[i] :: (plainL L).eraseIdx i)).2, true, false)) := by
      by_cases c : (plainL L)[i].f5 = true
      · rw [if_pos c]
        exact Ev.congr (fun k => by rw [bif_b, if_pos c]) (Ev.now _)
      · rw [if_neg c]
        refine Ev.congr (fun k => by rw [bif_b, if_neg c, if_pos room]) ?_
        exact g
    refine Ev.congr (fun k => by rw [Bool.not_true, cond_false, bif_b]) ?_
    by_cases hu : pulseL L = []
    · rw [if_neg (show ¬ (pulseL L ≠ [] ∧ (-1073741824 ≤ (plainL L)[i].f1 ∧ (plainL L)[i].f1 ≤ 1073741824)) from fun h => h.1 hu)]
      refine Ev.congr (fun k => if_neg (by simp [hu])) ?_
      exact tail
    · refine Ev.congr (fun k => if_pos (by simp [hu])) ?_
      by_cases n1 : (plainL L)[i].f1 ≤ 1073741824
      · refine Ev.congr (fun k => if_pos n1) ?_
        by_cases n2 : (plainL L)[i].f1 ≥ -1073741824
        · rw [if_pos (show (pulseL L ≠ [] ∧ (-1073741824 ≤ (plainL L)[i].f1 ∧ (plainL L)[i].f1 ≤ 1073741824)) from ⟨hu, n2, n1⟩)]
          exact Ev.congr (fun k => if_pos n2) (Ev.now _)
        · rw [if_neg (show ¬ (pulseL L ≠ [] ∧ (-1073741824 ≤ (plainL L)[i].f1 ∧ (plainL L)[i].f1 ≤ 1073741824)) from fun h => n2 h.2.1)]
          exact Ev.congr (fun k => if_neg n2) tail
      · rw [if_neg (show ¬ (pulseL L ≠ [] ∧ (-1073741824 ≤ (plainL L)[i].f1 ∧ (plainL L)[i].f1 ≤ 1073741824)) from fun h => n1 h.2.2)]
        exact Ev.congr (fun k => if_neg n1) tail
theorem rmi_l0 (L : List S25) (hl : Ok L) (hb : L.length ≤ 1000) (was : Int) (n : Nat) (E : List S25) (hE : E.take n = L) (hn : n ≤ E.length) (a0 a1 a2 : Int) (b0 b1 : Bool) : ∀ (d j : Nat), j + d = n →
    Ev (fun k => foliotref14_Mitigate.l0 k was (decide (pulseL (L.take j) ≠ [])) (0, n) (n : Int) (j : Int) a0 a1 a2 b0 b1 (plainL (L.take j)) ((pulseL (L.take j)).headD z_S25).f0 ((pulseL (L.take j)).headD z_S25).f1 ((pulseL (L.take j)).headD z_S25).f2 ((pulseL (L.take j)).headD z_S25).f3 ((pulseL (L.take j)).headD z_S25).f4 ((pulseL (L.take j)).headD z_S25).f5 ((pulseL (L.take j)).headD z_S25).f6 E) (miL L was)
  | 0, j, hd => by
    have el : L.length = n := by rw [← hE]; simp; omega
    rw [List.take_of_length_le (by omega)]
    exact rmi_end L hl hb was n _ (by omega) _ _ _ _ _ E
  | d + 1, j, hd => by
    have el : L.length = n := by rw [← hE]; simp; omega
    have hj : j < n := by omega
    have hjL : j < L.length := by omega
    have c1 : (j : Int) < (n : Int) := by omega
    have c0 : (0 : Int) ≤ (j : Int) := by omega
    have bj : (j : Int) < 9223372036854775807 := by omega
    have ee : E[j]'(by omega) = L[j] := by subst hE; simp
    have ih := rmi_l0 L hl hb was n E hE hn a0 a1 a2 b0 b1 d (j + 1) (by omega)
    have hp : plainL (L.take (j + 1)) = plainL (L.take j) ++ (if (!L[j].f6) = true then [L[j]] else []) := filt_more _ L j hjL
    have hu : pulseL (L.take (j + 1)) = pulseL (L.take j) ++ (if L[j].f6 = true then [L[j]] else []) := filt_more _ L j hjL
    rw [hp, hu] at ih
    have l1 := plain_len (L.take j)
    rw [List.length_take] at l1
    refine Ev.step (fun k => by rw [foliotref14_Mitigate.l0, if_pos c1, if_pos c0]) ?_
    dsimp only
    refine Ev.congr (fun k => if_pos c1) ?_
    rw [rdl0 E j (by omega), ee]
    by_cases c : L[j].f6 = true
    · rw [if_pos c, if_neg (by rw [c]; decide), List.append_nil] at ih
      refine Ev.congr (fun k => by rw [bif_nb, if_pos c]) ?_
      by_cases hq : pulseL (L.take j) = []
      · rw [hq] at ih ⊢
        refine Ev.congr (fun k => by rw [decide_eq_false (fun h => h rfl), Bool.not_false, cond_true]) ?_
        refine Ev.step (fun k => by rw [foliotref14_Mitigate.j1, wrap_succ j bj]) ?_
        have e1 : decide (([] : List S25) ++ [L[j]] ≠ []) = true := by simp
        rw [e1] at ih
        exact ih
      · have e1 : decide (pulseL (L.take j) ++ [L[j]] ≠ []) = true := by simp
        have e2 : decide (pulseL (L.take j) ≠ []) = true := by simp [hq]
        have e3 : (pulseL (L.take j) ++ [L[j]]).headD z_S25 = (pulseL (L.take j)).headD z_S25 := by
          cases hqq : pulseL (L.take j) with
          | nil => exact absurd hqq hq
          | cons a b => rfl
        rw [e1, e3] at ih
        rw [e2]
        refine Ev.congr (fun k => by rw [Bool.not_true, cond_false]) ?_
        exact Ev.step (fun k => by rw [foliotref14_Mitigate.j1, wrap_succ j bj]) ih
    · have c' : L[j].f6 = false := by simpa using c
      rw [if_neg c, if_pos (by rw [c']; rfl), List.append_nil] at ih
      refine Ev.congr (fun k => by rw [bif_nb, if_neg c, if_pos (by simp only [List.length_cons, List.length_nil]; omega)]) ?_
      exact Ev.step (fun k => by rw [foliotref14_Mitigate.j1, wrap_succ j bj]) ih
theorem ref_Mitigate (l : List S25) (hl : Ok l) (hn : l.length ≤ 900) (was : Int) : Ev (fun k => foliotref14_Mitigate.f k l was) (miL (Cl l) was) := by
  unfold foliotref14_Mitigate.f
  obtain ⟨⟨⟨o, n⟩, E⟩, h1, h2, h3, h4⟩ := ref_Cluster l hl hn
  dsimp only at h2 h3 h4
  subst h2
  refine Ev.bind (f := fun k t => _) h1 ?_
  have hc := Cl_len l
  have g := rmi_l0 (Cl l) (ok_Cl hl) (by omega) was n E h4 h3 0 0 0 false false n 0 (by omega)
  rw [List.take_zero] at g
  exact g
end Go.Proofs.Ytigcmpmpjmbfkaa.Q
