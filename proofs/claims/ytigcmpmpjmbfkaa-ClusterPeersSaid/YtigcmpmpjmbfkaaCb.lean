/- Plain lemmas on the printed functions: whole numbers and lists, no program in sight. -/
import Derived.Test.YtigcmpmpjmbfkaaCa
import Derived.Laws.BitsLemmas
namespace Go.Proofs.Ytigcmpmpjmbfkaa.Q
open Go Go.RowKit Go.Proofs.Ytigcmpmpjmbfkaa.Ev
set_option linter.unusedVariables false
set_option linter.unusedSimpArgs false
set_option maxRecDepth 100000
/-! ### the best ten, and what is left -/
noncomputable def clS : Nat → List S25 → List S25
  | 0, l => l
  | n + 1, l => if l.length ≤ 3 then l else if (wst l).1 < 0 then l else if (wst l).2 < qJ l then l else clS n (l.eraseIdx (wst l).1.toNat)
noncomputable def Cl (l : List S25) : List S25 := clS 10 ((isort leM l).take 10)
theorem wst_ix (l : List S25) (h : ¬ (wst l).1 < 0) : ∃ i : Nat, i < l.length ∧ (wst l).1 = (i : Int) ∧ (l.getD i z_S25).f5 = false := by
  rcases wst_range l l.length (Nat.le_refl _) with e | ⟨i, h1, h2, h3⟩
  · exact absurd (show (wst l).1 < 0 by unfold wst; rw [e]; decide) h
  · exact ⟨i, h1, h2, h3⟩
theorem ok_erase {l : List S25} (hl : Ok l) (i : Nat) : Ok (l.eraseIdx i) := hl.sub fun c hc => List.mem_of_mem_eraseIdx hc
theorem clu_l1 : ∀ (n : Nat) (l : List S25), l.length ≤ n → Ok l → l.length ≤ 1000 → Ev (fun k => cluster_Cluster.l1 k l) (clS n l)
  | 0, l, hn, hl, hb => by
    have c : ¬ (l.length : Int) > 3 := by omega
    exact Ev.succ fun k => by rw [cluster_Cluster.l1, if_neg c]; rfl
  | n + 1, l, hn, hl, hb => by
    unfold clS
    by_cases c : l.length ≤ 3
    · rw [if_pos c]
      have c' : ¬ (l.length : Int) > 3 := by omega
      exact Ev.succ fun k => by rw [cluster_Cluster.l1, if_neg c']
    · rw [if_neg c]
      have c' : (l.length : Int) > 3 := by omega
      refine Ev.step (fun k => by rw [cluster_Cluster.l1, if_pos c']) ?_
      obtain ⟨t, h1, h2⟩ := ev_minFunc l hb (by omega)
      refine Ev.bind (f := fun k t => _) h1 ?_
      refine Ev.bind (f := fun k t => _) (ev_worst l hl hb) ?_
      rw [h2]
      by_cases d : (wst l).1 < 0
      · rw [if_pos d]
        exact Ev.congr (fun k => by rw [if_pos d]) (Ev.now _)
      · rw [if_neg d]
        refine Ev.congr (fun k => if_neg d) ?_
        by_cases e : (wst l).2 < qJ l
        · rw [if_pos e]
          exact Ev.congr (fun k => by rw [if_pos e]) (Ev.now _)
        · rw [if_neg e]
          refine Ev.congr (fun k => if_neg e) ?_
          obtain ⟨i, hi, h3, _⟩ := wst_ix l d
          rw [h3, wrap_succ i (by omega), Int.toNat_natCast]
          refine Ev.bind (f := fun k t => _) (Ev.const (ev_delete l i hi hb _ rfl)) ?_
          have hlen : (l.eraseIdx i).length = l.length - 1 := List.length_eraseIdx_of_lt hi
          exact clu_l1 n _ (by omega) (ok_erase hl i) (by omega)
theorem clu_l0 (s : List S25) (hs : s.length ≤ 1000) (r : List S25) (h : Ev (fun k => cluster_Cluster.l1 k (s.take 10)) r) : ∀ (d i : Nat), i + d = s.length → Ev (fun k => cluster_Cluster.l0 k (s.length : Int) (i : Int) ((s.take i).take 10) (s.map rt)) r
  | 0, i, hd => by
    have c1 : ¬ (i : Int) < (s.length : Int) := by omega
    refine Ev.step (fun k => by rw [cluster_Cluster.l0, if_neg c1]) ?_
    rw [List.take_of_length_le (l := s) (by omega)]
    exact h
  | d + 1, i, hd => by
    have hi : i < s.length := by omega
    have c1 : (i : Int) < (s.length : Int) := by omega
    have c0 : (0 : Int) ≤ (i : Int) := by omega
    have c2 : (i : Int) < ((s.map rt).length : Int) := by rw [List.length_map]; exact c1
    have e : rdOf z_S53 (s.map rt) (i : Int) = rt s[i] := by rw [rdr _ i (by rw [List.length_map]; exact hi)]; simp
    have ih := clu_l0 s hs r h d (i + 1) (by omega)
    rw [← wrap_succ i (by omega)] at ih
    by_cases c : i < 10
    · have tl : ((s.take i).take 10).length = i := by simp; omega
      have e1 : (s.take i).take 10 ++ [ct (rt s[i])] = (s.take (i + 1)).take 10 := by
        rw [List.take_of_length_le (l := s.take i) (by simp; omega), List.take_of_length_le (l := s.take (i + 1)) (by simp; omega), ← List.take_append_getElem hi]; rfl
      refine Ev.step (fun k => by rw [cluster_Cluster.l0, if_pos c1, if_pos c0, if_pos c2, e, if_pos (by rw [tl]; omega), if_pos (by rw [tl]; simp only [List.length_cons, List.length_nil]; omega)]) ?_
      rw [← e1] at ih
      exact ih
    · have tl : ((s.take i).take 10).length = 10 := by simp; omega
      have e1 : (s.take i).take 10 = (s.take (i + 1)).take 10 := by
        rw [List.take_take, List.take_take, Nat.min_eq_left (by omega), Nat.min_eq_left (by omega)]
      refine Ev.step (fun k => by rw [cluster_Cluster.l0, if_pos c1, if_pos c0, if_pos c2, if_neg (by rw [tl]; decide)]) ?_
      rw [← e1] at ih
      exact ih
theorem ok_isort {l : List S25} (hl : Ok l) : Ok (isort leM l) := hl.sub fun c hc => (isortM_mem l c).1 hc
theorem ok_take {l : List S25} (hl : Ok l) (n : Nat) : Ok (l.take n) := hl.sub fun c hc => List.mem_of_mem_take hc
theorem ev_Cluster (l : List S25) (hl : Ok l) (hn : l.length ≤ 1000) : Ev (fun k => cluster_Cluster.f k l) (Cl l) := by
  unfold cluster_Cluster.f
  refine Ev.bind (f := fun k t => _) (ev_byMerit l hl hn) ?_
  rw [isort_rt]
  have hsl := isortM_len l
  have g := clu_l0 (isort leM l) (by omega) (Cl l) (clu_l1 10 _ (by simp; omega) (ok_take (ok_isort hl) 10) (by simp; omega)) (isort leM l).length 0 (by omega)
  rw [List.take_zero] at g
  rw [List.length_map]
  exact g
/-! ### the reference's -/
theorem ref_merit (c : S25) (o : okC c) : Ev (fun k => foliotref14_Merit.f k c.f0 c.f1 c.f2 c.f3 c.f4 c.f5 c.f6) (mer c) := by
  unfold foliotref14_Merit.f
  have g := ref_scale 6442450944 c.f4 1 (by omega) (by omega) o.i4.1 o.i4.2 (by omega) (by omega)
  rw [if_neg (by omega), Int.ediv_one] at g
  refine Ev.bind (f := fun k t => _) g ?_
  have hs := sat_in (6442450944 * c.f4)
  exact Ev.bind (f := fun k t => _) (ref_add c.f2 _ o.i2.1 o.i2.2 (by omega) (by omega)) (Ev.now _)
theorem leM_iff (a b : S25) : leM a b = true ↔ mer a < mer b ∨ (mer a = mer b ∧ a.f0 ≤ b.f0) := by
  unfold leM leR rt
  rw [decide_eq_true_eq]
theorem ref_better (c o : S25) (hc : okC c) (ho : okC o) : Ev (fun k => foliotref14_better.f k c.f0 c.f1 c.f2 c.f3 c.f4 c.f5 c.f6 o.f0 o.f1 o.f2 o.f3 o.f4 o.f5 o.f6) (!leM o c) := by
  unfold foliotref14_better.f
  refine Ev.bind (f := fun k t => _) (ref_merit c hc) ?_
  refine Ev.bind (f := fun k t => _) (ref_merit o ho) ?_
  have hle := leM_iff o c
  by_cases c1 : mer c < mer o
  · refine Ev.congr (fun k => if_pos c1) ?_
    have : leM o c = false := by
      cases e : leM o c with
      | false => rfl
      | true => have := hle.1 e; omega
    rw [this]; exact Ev.now _
  · refine Ev.congr (fun k => if_neg c1) ?_
    refine Ev.bind (f := fun k t => _) (ref_merit c hc) ?_
    refine Ev.bind (f := fun k t => _) (ref_merit o ho) ?_
    by_cases c2 : mer c = mer o
    · refine Ev.congr (fun k => if_pos c2) ?_
      by_cases c3 : c.f0 < o.f0
      · have : leM o c = false := by
          cases e : leM o c with
          | false => rfl
          | true => have := hle.1 e; omega
        rw [this, decide_eq_true c3]; exact Ev.now _
      · have : leM o c = true := hle.2 (by omega)
        rw [this, decide_eq_false c3]; exact Ev.now _
    · refine Ev.congr (fun k => if_neg c2) ?_
      have : leM o c = true := hle.2 (by omega)
      rw [this]; exact Ev.now _
theorem so_end (l : List S25) (i : Int) (c : S25) (P1 P2 : List S25) (hb : (P1 ++ P2).length ≤ 1000) (k : Nat) (n : Int) (x6 : Int) (hx : x6 = (P1.length : Int)) (w : Option (List S25)) (hw : w = foliotref14_sorted.l0 k l n (wrap64 (i + 1)) (P1 ++ c :: P2)) :
    (if 0 ≤ x6 then (if x6 ≤ ((P1 ++ P2).length : Int) then (if (2 * (([] : List S25).length + (((P1 ++ P2).drop 0).take ((x6 - 0).toNat)).length) + 200) * 48 ≤ 281474976710656 then (if (2 * ((((P1 ++ P2).drop 0).take ((x6 - 0).toNat)).length + ([(⟨c.f0, c.f1, c.f2, c.f3, c.f4, c.f5, c.f6⟩ : S25)] : List S25).length) + 200) * 48 ≤ 281474976710656 then (if 0 ≤ x6 then (if x6 ≤ ((P1 ++ P2).length : Int) then (if ((P1 ++ P2).length : Int) ≤ ((P1 ++ P2).length : Int) then (if (2 * (((((P1 ++ P2).drop 0).take ((x6 - 0).toNat)) ++ ([(⟨c.f0, c.f1, c.f2, c.f3, c.f4, c.f5, c.f6⟩ : S25)] : List S25)).length + (((P1 ++ P2).drop ((x6).toNat)).take ((((P1 ++ P2).length : Int) - x6).toNat)).length) + 200) * 48 ≤ 281474976710656 then (foliotref14_sorted.l0 k l n (wrap64 (i + 1)) (((((P1 ++ P2).drop 0).take ((x6 - 0).toNat)) ++ ([(⟨c.f0, c.f1, c.f2, c.f3, c.f4, c.f5, c.f6⟩ : S25)] : List S25)) ++ (((P1 ++ P2).drop ((x6).toNat)).take ((((P1 ++ P2).length : Int) - x6).toNat)))) else none) else none) else none) else none) else none) else none) else none) else none) = w := by
  subst hx
  have t1 : ((P1.length : Int) - 0).toNat = P1.length := by omega
  have t2 : ((P1.length : Int)).toNat = P1.length := by omega
  have hl : (P1 ++ P2).length = P1.length + P2.length := List.length_append
  have t3 : (((P1 ++ P2).length : Int) - (P1.length : Int)).toNat = P2.length := by omega
  rw [t1, t2, t3, List.drop_zero, List.take_left' rfl, List.drop_left' rfl, List.take_of_length_le (Nat.le_refl _)]
  rw [if_pos (by omega), if_pos (by omega), if_pos (by simp only [List.length_nil]; omega), if_pos (by simp only [List.length_cons, List.length_nil]; omega), if_pos (by omega), if_pos (by omega), if_pos (by omega), if_pos (by simp only [List.length_append, List.length_cons, List.length_nil]; omega), hw]
  congr 1
  simp
theorem so_l1 (l : List S25) (i : Int) (c : S25) (hc : okC c) (n : Int) : ∀ (m : Nat) (P1 P2 : List S25) (r), P1.length = m → (P1 ++ P2).length ≤ 1000 → Ok P1 → P1.Pairwise (fun a b => leM a b = true) → (∀ y ∈ P2, leM y c = false) →
    Ev (fun k => foliotref14_sorted.l0 k l n (wrap64 (i + 1)) (List.merge (P1 ++ P2) [c] leM)) r →
    Ev (fun k => foliotref14_sorted.l1 k (P1.length : Int) l n i (P1 ++ P2) c.f0 c.f1 c.f2 c.f3 c.f4 c.f5 c.f6) r := by
  intro m
  induction m with
  | zero =>
    intro P1 P2 r hm hb ho hs h2 h
    obtain rfl : P1 = [] := List.length_eq_zero_iff.1 hm
    have e := mg_right leM c [] P2 (by simp) h2
    rw [e] at h
    refine Ev.step (fun k => ?_) h
    rw [foliotref14_sorted.l1, if_neg (by simp)]
    exact so_end l i c [] P2 hb k n _ rfl _ rfl
  | succ m ih =>
    intro P1 P2 r hm hb ho hs h2 h
    obtain ⟨Q, z, rfl⟩ : ∃ Q z, P1 = Q ++ [z] := by
      rcases List.eq_nil_or_concat P1 with e | ⟨Q, z, e⟩
      · rw [e] at hm; simp at hm
      · exact ⟨Q, z, by rw [e, List.concat_eq_append]⟩
    have hq : Q.length = m := by simpa using hm
    have hz : okC z := ho z (by simp)
    have hl : (Q ++ [z] ++ P2).length = Q.length + 1 + P2.length := by simp; omega
    have hj : ((Q ++ [z]).length : Int) = ((Q.length + 1 : Nat) : Int) := by simp
    have hw : wrap64 (((Q.length + 1 : Nat) : Int) - 1) = ((Q.length : Nat) : Int) := by
      rw [w64_in (by omega) (by omega)]; omega
    have r0 : rdOf z_S25 (Q ++ [z] ++ P2) ((Q.length : Nat) : Int) = z := by
      rw [rdl _ Q.length (by omega)]
      simp
    rw [hj]
    refine Ev.step (fun k => by rw [foliotref14_sorted.l1, if_pos (by omega), hw, if_pos (by omega), if_pos (by omega), r0]) ?_
    refine Ev.bind (f := fun k t => _) (ref_better c z hc hz) ?_
    by_cases e : leM z c = true
    · refine Ev.congr (fun k => by rw [bif_nb, if_pos e]) ?_
      have e2 := mg_right leM c (Q ++ [z]) P2 (fun p hp => by
        rcases List.mem_append.1 hp with hp | hp
        · exact ordM.tr _ _ _ ((List.pairwise_append.1 hs).2.2 p hp z (by simp)) e
        · rw [List.mem_singleton.1 hp]; exact e) h2
      rw [e2] at h
      refine Ev.congr (fun k => ?_) h
      exact so_end l i c (Q ++ [z]) P2 hb k n _ (by simp) _ rfl
    · have e' : leM z c = false := by simpa using e
      refine Ev.congr (fun k => by rw [bif_nb, if_neg e]) ?_
      have := ih Q (z :: P2) r hq (by simp at hb ⊢; omega) (ho.sub fun c hc => by simp [hc]) (List.pairwise_append.1 hs).1 (fun y hy => by
        rcases List.mem_cons.1 hy with rfl | hy
        · exact e'
        · exact h2 y hy) (by simpa using h)
      simpa using this
theorem so_l0 (l : List S25) (hl : Ok l) (hn : l.length ≤ 900) : ∀ (d i : Nat), i + d = l.length → Ev (fun k => foliotref14_sorted.l0 k l (l.length : Int) (i : Int) (isort leM (l.take i))) (isort leM l)
  | 0, i, hd => by
    have c1 : ¬ (i : Int) < (l.length : Int) := by omega
    rw [List.take_of_length_le (by omega)]
    exact Ev.succ fun k => by rw [foliotref14_sorted.l0, if_neg c1]
  | d + 1, i, hd => by
    have hi : i < l.length := by omega
    have c1 : (i : Int) < (l.length : Int) := by omega
    have c0 : (0 : Int) ≤ (i : Int) := by omega
    have ih := so_l0 l hl hn d (i + 1) (by omega)
    have e : isort leM (l.take (i + 1)) = List.merge (isort leM (l.take i)) [l[i]] leM := by
      rw [← List.take_append_getElem hi]; unfold isort; rw [List.foldl_append]; rfl
    rw [e, ← wrap_succ i (by omega)] at ih
    refine Ev.step (fun k => by rw [foliotref14_sorted.l0, if_pos c1, if_pos c0, if_pos c1, rdl l i hi]) ?_
    have hlen : (isort leM (l.take i)).length ≤ 900 := by rw [isortM_len]; simp; omega
    have g := so_l1 l (i : Int) l[i] (hl.at i hi) (l.length : Int) (isort leM (l.take i)).length (isort leM (l.take i)) [] _ rfl (by simp; omega) (ok_isort (ok_take hl i)) (isort_sorted ordM _) (by simp) (by rw [List.append_nil]; exact ih)
    rw [List.append_nil] at g
    exact g
theorem ref_sorted (l : List S25) (hl : Ok l) (hn : l.length ≤ 900) : Ev (fun k => foliotref14_sorted.f k l) (isort leM l) := by
  unfold foliotref14_sorted.f
  exact so_l0 l hl hn l.length 0 (by omega)
theorem rdl0 (l : List S25) (i : Nat) (h : i < l.length) : rdOf z_S25 l ((i : Int) + ((0 : Nat) : Int)) = l[i] := by
  rw [show (i : Int) + ((0 : Nat) : Int) = (i : Int) by omega, rdl l i h]
noncomputable def qP (l : List S25) (j : Nat) : Int := (l.take j).foldl (fun q c => mn q c.f3) (l.headD z_S25).f3
theorem qP_more (l : List S25) (j : Nat) (hj : j < l.length) : qP l (j + 1) = mn (qP l j) l[j].f3 := by
  unfold qP; rw [← List.take_append_getElem hj, List.foldl_append]; rfl
theorem rc_l1 (L : List S25) (hl : Ok L) (hb : L.length ≤ 1000) (e0 : List S25) (n : Nat) (hL : e0.take n = L) (hn : n ≤ e0.length) (r : (Nat × Nat) × List S25)
    (h : Ev (fun k => foliotref14_Cluster.l1 k (0, n) (wst L).1 (wst L).2 (qJ L) (0, n) (n : Int) (n : Int) e0) r) : ∀ (d j : Nat), j + d = n →
    Ev (fun k => foliotref14_Cluster.l1 k (0, n) ((List.range j).foldl (wstep L) (-1, 0)).1 ((List.range j).foldl (wstep L) (-1, 0)).2 (qP L j) (0, n) (n : Int) (j : Int) e0) r
  | 0, j, hd => by
    have e : j = n := by omega
    subst e
    have el : L.length = j := by rw [← hL]; simp; omega
    have e1 : (List.range j).foldl (wstep L) (-1, 0) = wst L := by unfold wst; rw [el]
    have e2 : qP L j = qJ L := by unfold qP qJ; rw [List.take_of_length_le (by omega)]
    rw [e1, e2]; exact h
  | d + 1, j, hd => by
    have el : L.length = n := by rw [← hL]; simp; omega
    have hj : j < n := by omega
    have hjL : j < L.length := by omega
    have c1 : (j : Int) < (n : Int) := by omega
    have c0 : (0 : Int) ≤ (j : Int) := by omega
    have ih := rc_l1 L hl hb e0 n hL hn r h d (j + 1) (by omega)
    rw [← wrap_succ j (by omega), wst_more, qP_more L j hjL] at ih
    have ee : e0[j]'(by omega) = L[j] := by subst hL; simp
    refine Ev.step (fun k => by rw [foliotref14_Cluster.l1, if_pos c1, if_pos c0]) ?_
    dsimp only
    refine Ev.congr (fun k => if_pos c1) ?_
    rw [List.drop_zero, hL]
    refine Ev.bind (f := fun k t => _) (ref_jitter L hl hb j hjL) ?_
    rw [rdl0 e0 j (by omega), ee]
    generalize (List.range j).foldl (wstep L) (-1, 0) = a at *
    unfold wstep at ih
    rw [getDl L j hjL] at ih
    by_cases c : L[j].f5 = true
    · rw [if_pos c] at ih
      refine Ev.congr (fun k => by rw [bif_nb, if_pos c]) ih
    · rw [if_neg c] at ih
      refine Ev.congr (fun k => by rw [bif_nb, if_neg c]) ?_
      by_cases c2 : a.1 < 0
      · rw [if_pos c2] at ih
        exact Ev.congr (fun k => by rw [if_pos c2]) ih
      · rw [if_neg c2] at ih
        refine Ev.congr (fun k => by rw [if_neg c2]) ?_
        by_cases c3 : apV L j ≥ a.2
        · rw [if_pos c3] at ih
          exact Ev.congr (fun k => by rw [if_pos c3]) ih
        · rw [if_neg c3] at ih
          exact Ev.congr (fun k => by rw [if_neg c3]) ih
theorem rc_l0 : ∀ (m : Nat) (L : List S25), L.length ≤ m → Ok L → L.length ≤ 1000 → ∀ (e0 : List S25) (n : Nat), e0.take n = L → n ≤ e0.length →
    ∃ t : (Nat × Nat) × List S25, Ev (fun k => foliotref14_Cluster.l0 k (0, n) e0) t ∧ t.1.1 = 0 ∧ t.1.2 ≤ t.2.length ∧ t.2.take t.1.2 = clS m L
  | 0, L, hm, hl, hb, e0, n, hL, hn => by
    have el : L.length = n := by rw [← hL]; simp; omega
    have c : ¬ (n : Int) > 3 := by omega
    refine ⟨((0, n), e0), Ev.succ fun k => by rw [foliotref14_Cluster.l0, if_neg c], rfl, hn, ?_⟩
    exact hL
  | m + 1, L, hm, hl, hb, e0, n, hL, hn => by
    have el : L.length = n := by rw [← hL]; simp; omega
    unfold clS
    by_cases c : L.length ≤ 3
    · rw [if_pos c]
      have c' : ¬ (n : Int) > 3 := by omega
      exact ⟨((0, n), e0), Ev.succ fun k => by rw [foliotref14_Cluster.l0, if_neg c'], rfl, hn, hL⟩
    · rw [if_neg c]
      have c' : (n : Int) > 3 := by omega
      have c0 : 0 < (n : Int) := by omega
      have eh : rdOf z_S25 e0 (0 + ((0 : Nat) : Int)) = L.headD z_S25 := by
        have := rdl e0 0 (by omega)
        rw [show (0 : Int) + ((0 : Nat) : Int) = ((0 : Nat) : Int) by omega, this]
        subst hL
        cases e0 with
        | nil => simp at hn; omega
        | cons a e0 =>
          cases n with
          | zero => omega
          | succ n => rfl
      have start : ∀ {t : (Nat × Nat) × List S25}, Ev (fun k => foliotref14_Cluster.l1 k (0, n) (wst L).1 (wst L).2 (qJ L) (0, n) (n : Int) (n : Int) e0) t → Ev (fun k => foliotref14_Cluster.l0 k (0, n) e0) t := fun {t} h => by
        have g := rc_l1 L hl hb e0 n hL hn t h n 0 (by omega)
        refine Ev.step (fun k => ?_) g
        rw [foliotref14_Cluster.l0, if_pos c', if_pos c0]
        dsimp only
        rw [eh]
        rfl
      have n1 : ¬ (n : Int) < (n : Int) := by omega
      by_cases d : (wst L).1 < 0
      · rw [if_pos d]
        refine ⟨((0, n), e0), start (Ev.succ fun k => ?_), rfl, hn, hL⟩
        rw [foliotref14_Cluster.l1, if_neg n1, if_pos d]
      · rw [if_neg d]
        by_cases e : (wst L).2 < qJ L
        · rw [if_pos e]
          refine ⟨((0, n), e0), start (Ev.succ fun k => ?_), rfl, hn, hL⟩
          rw [foliotref14_Cluster.l1, if_neg n1, if_neg d, if_pos e]
        · rw [if_neg e]
          obtain ⟨i, hi, h3, _⟩ := wst_ix L d
          rw [h3, Int.toNat_natCast]
          have hlen : (L.eraseIdx i).length = L.length - 1 := List.length_eraseIdx_of_lt hi
          obtain ⟨t, g1, g2, g3, g4⟩ := rc_l0 m (L.eraseIdx i) (by omega) (ok_erase hl i) (by omega) (L.eraseIdx i) (L.eraseIdx i).length (List.take_of_length_le (Nat.le_refl _)) (Nat.le_refl _)
          refine ⟨t, start (Ev.step (fun k => ?_) g1), g2, g3, g4⟩
          have t1 : ((i : Int) - 0).toNat = i := by omega
          have t2 : (((i + 1 : Nat) : Int)).toNat = i + 1 := by omega
          have t3 : ((n : Int) - ((i + 1 : Nat) : Int)).toNat = n - (i + 1) := by omega
          have hlist : (e0.drop (0 + 0)).take i ++ (e0.drop (0 + (i + 1))).take (n - (i + 1)) = L.eraseIdx i := by
            rw [List.eraseIdx_eq_take_drop_succ, ← hL, List.take_take, Nat.min_eq_left (by omega), List.drop_take, Nat.zero_add, Nat.zero_add, List.drop_zero]
          have hl1 : ((e0.drop (0 + 0)).take i).length ≤ 1000 := by rw [List.length_take]; omega
          have hl2 : ((e0.drop (0 + (i + 1))).take (n - (i + 1))).length ≤ 1000 := by rw [List.length_take]; omega
          have b0 : (0 : Int) ≤ (i : Int) := by omega
          have b1 : (i : Int) ≤ (n : Int) := by omega
          have b2 : (0 : Int) ≤ ((i + 1 : Nat) : Int) := by omega
          have b3 : ((i + 1 : Nat) : Int) ≤ (n : Int) := by omega
          have b4 : ¬ (i : Int) < 0 := by omega
          have b5 : (n : Int) ≤ (n : Int) := Int.le_refl _
          have bi : (i : Int) < 9223372036854775807 := by omega
          have b6 : (2 * (([] : List S25).length + ((e0.drop (0 + 0)).take i).length) + 200) * 48 ≤ 281474976710656 := by rw [List.length_nil]; omega
          have b7 : (2 * (((e0.drop (0 + 0)).take i).length + ((e0.drop (0 + (i + 1))).take (n - (i + 1))).length) + 200) * 48 ≤ 281474976710656 := by omega
          have d' : ¬ (wst L).1 < 0 := d
          rw [foliotref14_Cluster.l1, if_neg n1, if_neg d', if_neg e, h3]
          dsimp only
          rw [wrap_succ i bi, t1, t2, t3, if_pos b0, if_pos b1, if_pos b6, if_pos b2, if_pos b3, if_pos b5, if_pos b7, hlist]
theorem ref_Cluster (l : List S25) (hl : Ok l) (hn : l.length ≤ 900) : ∃ t : (Nat × Nat) × List S25, Ev (fun k => foliotref14_Cluster.f k l) t ∧ t.1.1 = 0 ∧ t.1.2 ≤ t.2.length ∧ t.2.take t.1.2 = Cl l := by
  have hsl := isortM_len l
  have hm : mn ((isort leM l).length : Int) 10 = ((min (isort leM l).length 10 : Nat) : Int) := by
    unfold mn; split <;> omega
  obtain ⟨t, g1, g2⟩ := rc_l0 10 ((isort leM l).take 10) (by simp; omega) (ok_take (ok_isort hl) 10) (by simp; omega) (isort leM l) (min (isort leM l).length 10) (by
    rw [Nat.min_comm, ← List.take_take, List.take_of_length_le (l := isort leM l) (Nat.le_refl _)]) (by omega)
  refine ⟨t, ?_, g2⟩
  unfold foliotref14_Cluster.f
  refine Ev.bind (f := fun k t => _) (ref_sorted l hl hn) ?_
  rw [hm]
  have t1 : ((((min (isort leM l).length 10 : Nat) : Int)) - 0).toNat = min (isort leM l).length 10 := by omega
  refine Ev.congr (fun k => ?_) g1
  rw [t1, if_pos (by omega), if_pos (by omega)]
end Go.Proofs.Ytigcmpmpjmbfkaa.Q
