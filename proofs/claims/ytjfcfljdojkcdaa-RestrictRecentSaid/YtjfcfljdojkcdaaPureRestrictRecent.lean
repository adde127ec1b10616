/- What is to be proved of RestrictRecent. -/
import Derived.Test.YtjfcfljdojkcdaaDC9
import Derived.Test.YtjfcfljdojkcdaaYi
namespace Go.Proofs.Ytjfcfljdojkcdaa.C9
open Go Go.RowKit Go.Proofs.Ytjfcfljdojkcdaa.Ev
set_option linter.unusedVariables false
set_option linter.unusedSimpArgs false
set_option maxRecDepth 100000

structure Inv2 (i : Nat) (K T : List S78) : Prop where
  inv : Inv 8 (i : Int) K T
  when_ : ∀ x ∈ T, x.f2 = x.f5 - 1 ∧ x.f1 ≤ x.f2
theorem upd_when (fl c mi now n : Int) (x : S78) : (updV fl c mi now n x).2.f2 = now ∧ (updV fl c mi now n x).2.f1 = x.f1 := by
  unfold updV
  repeat' split
  all_goals exact ⟨rfl, rfl⟩
/-- One more is heard: what is remembered, and in which order. -/
theorem rec_step (i : Nat) (a now : Int) (K T : List S78) (I : Inv2 i K T) (hi : i ≤ 90000000000000) (hnow : ¬ (i : Int) = 0 → now = (i : Int) - 1) :
    ∃ (v : Int) (K' T' : List S78), Ev (fun k => restrict_Memory_Heard.f k a (i : Int) 0 8 2 now (i : Int) K) (v, 8, 2, (i : Int), ((i + 1 : Nat) : Int), K') ∧ Inv2 (i + 1) K' T' ∧
      T'.map (fun x => x.f0) = ((a :: (T.map (fun x => x.f0)).filter (fun y => decide (y ≠ a))).take 32) ∧ ∃ x, K'.find? (fun y => decide (y.f0 = a)) = some x ∧ x.f0 = a ∧ x.f2 = (i : Int) ∧ 1 ≤ x.f3 := by
  have hKl : K.length ≤ 32 := by rw [I.inv.perm.length_eq]; exact I.inv.len
  have enter : ∀ v, Ev (fun k => restrict_Memory_Heard.j0 k 0 8 2 (i : Int) (i : Int) a K) v → Ev (fun k => restrict_Memory_Heard.f k a (i : Int) 0 8 2 now (i : Int) K) v := by
    intro v hv
    unfold restrict_Memory_Heard.f
    by_cases h : (i : Int) = 0
    · simp only [if_pos h]; exact hv
    · have := hnow h
      simp only [if_neg h, if_pos (show (i : Int) > now by omega)]; exact hv
  have cast1 : ((i + 1 : Nat) : Int) = (i : Int) + 1 := by omega
  have head : ∀ (K' T' : List S78) (x : S78) (R : List S78), T' = x :: R → Inv 8 ((i : Int) + 1) K' T' → x.f0 = a → K'.find? (fun y => decide (y.f0 = a)) = some x := by
    intro K' T' x R e J hx
    rw [find_perm J.perm J.adr, e, List.find?_cons, decide_eq_true hx]
  rcases idx_ev K a hKl with ⟨h1, h2⟩ | ⟨j, hj, h1, h2⟩
  · obtain ⟨K', e1, e2⟩ := heard_new K hKl 0 8 2 (i : Int) (i : Int) a (by omega) (by omega) h2
    have J := inv_new I.inv ⟨a, (i : Int), (i : Int), 1, 8, (i : Int) + 1⟩ rfl (fun y hy => h1 y hy) ⟨by show (0 : Int) ≤ 8; omega, by show (8 : Int) ≤ 8 * 8; omega, by show (1 : Int) ≤ 1; omega, by show (1 : Int) ≤ 2147483647; omega⟩ (by omega) K' e2
    refine ⟨0, K', (⟨a, (i : Int), (i : Int), 1, 8, (i : Int) + 1⟩ : S78) :: T.take 31, ?_, ⟨?_, ?_⟩, ?_, ?_⟩
    · rw [cast1]; exact enter _ e1
    · rw [cast1]; exact J
    · intro y hy
      rcases List.mem_cons.1 hy with rfl | hy
      · exact ⟨by show (i : Int) = (i : Int) + 1 - 1; omega, Int.le_refl _⟩
      · exact I.when_ y (List.mem_of_mem_take hy)
    · rw [List.filter_eq_self.2 (by
        intro y hy
        obtain ⟨z, hz, rfl⟩ := List.mem_map.1 hy
        simp only [decide_eq_true_eq]
        exact h1 z (I.inv.perm.mem_iff.2 hz))]
      simp [List.map_take]
    · exact ⟨_, head K' _ _ _ rfl J rfl, rfl, rfl, by show (1 : Int) ≤ 1; omega⟩
  · have hmem : K[j] ∈ T := I.inv.perm.mem_iff.1 (List.getElem_mem hj)
    have ho := I.inv.ok _ hmem
    obtain ⟨u1, u2, u3⟩ := upd_ok 0 8 2 (i : Int) (i : Int) K[j] (by omega) ho.2.2
    obtain ⟨w1, w2⟩ := upd_when 0 8 2 (i : Int) (i : Int) K[j]
    have J := inv_old I.inv j hj _ u1 u2 u3 (by omega)
    refine ⟨(updV 0 8 2 (i : Int) (i : Int) K[j]).1, K.set j (updV 0 8 2 (i : Int) (i : Int) K[j]).2, (updV 0 8 2 (i : Int) (i : Int) K[j]).2 :: T.filter (fun y => decide (y.f0 ≠ K[j].f0)), ?_, ⟨?_, ?_⟩, ?_, ?_⟩
    · rw [cast1]
      exact enter _ (heard_old K j hj hKl 0 8 2 (i : Int) (i : Int) a (by omega) (by omega) (by omega) (by omega) (by omega) (by omega) ho.2.2 h2)
    · rw [cast1]; exact J
    · intro y hy
      rcases List.mem_cons.1 hy with rfl | hy
      · rw [w1, w2, u1]
        have := I.when_ _ hmem
        exact ⟨by omega, by omega⟩
      · exact I.when_ y (List.mem_filter.1 hy).1
    · have hl := J.len
      rw [List.map_cons, u2, h1, List.take_of_length_le (by
        have h3 : ((T.map (fun x => x.f0)).filter (fun y => decide (y ≠ a))) = (T.filter (fun y => decide (y.f0 ≠ a))).map (fun x => x.f0) := by rw [List.filter_map]; rfl
        rw [h3, List.length_cons, List.length_map]
        rw [h1] at hl
        exact hl), List.filter_map]
      rfl
    · exact ⟨_, head _ _ _ _ rfl J (u2.trans h1), u2.trans h1, w1, u3.2.2.1⟩
theorem rdI (l : List Int) (i : Nat) (h : i < l.length) : rd l (i : Int) = l[i] := by simp [rd, h]
theorem rr_l2 (s : List Int) (x6 a : Int) (x29 : Int) (c mi now n : Int) (K : List S78) (E : List Int) (hE : E.length ≤ 32) (v : Bool) : ∀ (d i : Nat) (R : List Int), i + d = E.length → R.length ≤ i + 1 →
    Ev (fun k => foliotlaw06_RestrictRecent.l2 k x6 a s (s.length : Int) x29 (E.length : Int) (E.length : Int) c mi now n (R ++ (E.drop i).filter (fun y => decide (y ≠ a))) E K) v →
    Ev (fun k => foliotlaw06_RestrictRecent.l2 k x6 a s (s.length : Int) x29 (E.length : Int) (i : Int) c mi now n R E K) v
  | 0, i, R, hd, hR, e => by
    rw [List.drop_eq_nil_of_le (by omega), List.filter_nil, List.append_nil] at e
    rw [show i = E.length by omega]
    exact e
  | d + 1, i, R, hd, hR, e => by
    have hi : i < E.length := by omega
    have c1 : (i : Int) < (E.length : Int) := by omega
    have c0 : (0 : Int) ≤ (i : Int) := by omega
    have e1 := rdI E i hi
    have hw := wrap_succ i (by omega)
    rw [List.drop_eq_getElem_cons hi] at e
    by_cases hx : E[i] = a
    · rw [List.filter_cons_of_neg (by simp [hx])] at e
      refine Ev.step (fun k => ?_) (rr_l2 s x6 a x29 c mi now n K E hE v d (i + 1) R (by omega) (by omega) e)
      rw [foliotlaw06_RestrictRecent.l2, if_pos c1, if_pos c0, if_pos c1, e1, if_neg (fun h => h hx), hw]
    · rw [List.filter_cons_of_pos (by simp [hx])] at e
      have hfit : (2 * (R.length + ([E[i]] : List Int).length) + 200) * 4 ≤ 281474976710656 := by simp only [List.length_cons, List.length_nil]; omega
      refine Ev.step (fun k => ?_) (rr_l2 s x6 a x29 c mi now n K E hE v d (i + 1) (R ++ [E[i]]) (by omega) (by simp; omega) (by rw [List.append_assoc]; exact e))
      rw [foliotlaw06_RestrictRecent.l2, if_pos c1, if_pos c0, if_pos c1, e1, if_pos hx, if_pos hfit, hw]
theorem rr_l1 (i0 : Nat) (K T : List S78) (I : Inv2 i0 K T) : ∀ (d i : Nat), i + d = T.length → Ev (fun k => foliotlaw06_RestrictRecent.l1 k (T.length : Int) (i : Int) (T.map (fun x => x.f0)) (T.map tL)) true
  | 0, i, hd => Ev.succ fun k => by rw [foliotlaw06_RestrictRecent.l1, if_neg (by omega)]
  | d + 1, i, hd => by
    have hi : i < T.length := by omega
    have hTl := I.inv.len
    have c1 : (i : Int) < (T.length : Int) := by omega
    have c0 : (0 : Int) ≤ (i : Int) := by omega
    have c2 : (i : Int) < ((T.map tL).length : Int) := by rw [List.length_map]; exact c1
    have c3 : (i : Int) < ((T.map (fun x => x.f0)).length : Int) := by rw [List.length_map]; exact c1
    have e1 : rdOf z_S65 (T.map tL) (i : Int) = tL T[i] := by rw [rdT _ i (by rw [List.length_map]; exact hi), List.getElem_map]
    have e2 : rd (T.map (fun x => x.f0)) (i : Int) = T[i].f0 := by rw [rdI _ i (by rw [List.length_map]; exact hi), List.getElem_map]
    have hw := wrap_succ i (by omega)
    have hm := I.when_ _ (List.getElem_mem hi)
    have hf : ¬ (tL T[i]).f1 > (tL T[i]).f2 := by show ¬ T[i].f1 > T[i].f2; omega
    by_cases hp : (i : Int) > 0
    · have hj : i - 1 < T.length := by omega
      have c4 : (0 : Int) ≤ ((i - 1 : Nat) : Int) := by omega
      have c5 : ((i - 1 : Nat) : Int) < ((T.map tL).length : Int) := by rw [List.length_map]; omega
      have e3 : rdOf z_S65 (T.map tL) ((i - 1 : Nat) : Int) = tL T[i - 1] := by rw [rdT _ _ (by rw [List.length_map]; exact hj), List.getElem_map]
      have hs := (List.pairwise_iff_getElem.1 I.inv.str) (i - 1) i hj hi (by omega)
      have hm1 := I.when_ _ (List.getElem_mem hj)
      have hg : ¬ (tL T[i]).f2 > (tL T[i - 1]).f2 := by show ¬ T[i].f2 > T[i - 1].f2; omega
      have hw1 := qm1 i (by omega) (by omega)
      refine Ev.step (fun k => ?_) (rr_l1 i0 K T I d (i + 1) (by omega))
      rw [foliotlaw06_RestrictRecent.l1, if_pos c1, if_pos c0, if_pos c2, if_pos c0, if_pos c3, e1, e2, if_neg (fun h => h rfl), if_pos hp, if_pos c0, if_pos c2, hw1, if_pos c4, if_pos c5, e3, if_neg hg, if_pos c0, if_pos c2, if_pos c0, if_pos c2, if_neg hf, hw]
    · refine Ev.step (fun k => ?_) (rr_l1 i0 K T I d (i + 1) (by omega))
      rw [foliotlaw06_RestrictRecent.l1, if_pos c1, if_pos c0, if_pos c2, if_pos c0, if_pos c3, e1, e2, if_neg (fun h => h rfl), if_neg hp, if_pos c0, if_pos c2, if_pos c0, if_pos c2, if_neg hf, hw]
theorem rr_l0 (s : List Int) (hs : s.length ≤ 90000000000000) : ∀ (d i : Nat) (now : Int) (K T : List S78), i + d = s.length → Inv2 i K T → (¬ (i : Int) = 0 → now = (i : Int) - 1) →
    Ev (fun k => foliotlaw06_RestrictRecent.l0 k s (s.length : Int) (i : Int) 8 2 now (i : Int) (T.map (fun x => x.f0)) K) true
  | 0, i, now, K, T, hd, I, hn => by
    refine Ev.step (fun k => by rw [foliotlaw06_RestrictRecent.l0, if_neg (by omega)]) ?_
    refine Ev.bind (f := fun k t => _) (list_ev 8 2 now (i : Int) K T I.inv) ?_
    refine Ev.congr (fun k => if_neg (fun h => h (by rw [List.length_map, List.length_map]))) ?_
    have := rr_l1 i K T I T.length 0 (by omega)
    rw [List.length_map]
    exact this
  | d + 1, i, now, K, T, hd, I, hn => by
    have hi : i < s.length := by omega
    have c1 : (i : Int) < (s.length : Int) := by omega
    have c0 : (0 : Int) ≤ (i : Int) := by omega
    obtain ⟨v, K', T', e1, I', e2, x, e3, e4, e5, e6⟩ := rec_step i (rd s (i : Int)) now K T I (by omega) hn
    have hw := wrap_succ i (by omega)
    have hKl : K'.length ≤ 32 := by rw [I'.inv.perm.length_eq]; exact I'.inv.len
    have hEl : (T.map (fun x => x.f0)).length ≤ 32 := by rw [List.length_map]; exact I.inv.len
    refine Ev.step (fun k => by rw [foliotlaw06_RestrictRecent.l0, if_pos c1, if_pos c0, if_pos c1]) ?_
    refine Ev.bind (f := fun k t => _) e1 ?_
    dsimp only
    refine rr_l2 s (i : Int) (rd s (i : Int)) (i : Int) 8 2 (i : Int) ((i + 1 : Nat) : Int) K' (T.map (fun x => x.f0)) hEl true (T.map (fun x => x.f0)).length 0 [rd s (i : Int)] (by omega) (by simp) ?_
    rw [List.drop_zero]
    have hfl := List.length_filter_le (fun y => decide (y ≠ rd s (i : Int))) (T.map (fun x => x.f0))
    generalize hN : [rd s (i : Int)] ++ (T.map (fun x => x.f0)).filter (fun y => decide (y ≠ rd s (i : Int))) = N
    have e2' : T'.map (fun x => x.f0) = N.take 32 := by rw [e2, ← hN]; rfl
    have g1 : (0 : Int) ≤ mn (N.length : Int) 32 := by unfold mn; split <;> omega
    have g2 : mn (N.length : Int) 32 ≤ (N.length : Int) := by unfold mn; split <;> omega
    have g3 : N.take ((mn (N.length : Int) 32 - 0).toNat) = N.take 32 := by
      have : ((mn (N.length : Int) 32) - 0).toNat = min N.length 32 := by unfold mn; split <;> omega
      rw [this]
      rcases Nat.le_total N.length 32 with h | h
      · rw [Nat.min_eq_left h, List.take_of_length_le (Nat.le_refl _), List.take_of_length_le h]
      · rw [Nat.min_eq_right h]
    refine Ev.step (fun k => by rw [foliotlaw06_RestrictRecent.l2, if_neg (by omega), if_pos g1, if_pos g2, g3, hw]) ?_
    have F := find_ev 8 2 (i : Int) ((i + 1 : Nat) : Int) K' (rd s (i : Int)) hKl
    rw [e3] at F
    refine Ev.bind (f := fun k t => _) F ?_
    refine Ev.congr (fun k => rfl) ?_
    refine Ev.congr (fun k => if_neg (fun h => h e4)) ?_
    refine Ev.congr (fun k => if_neg (fun h => h e5)) ?_
    refine Ev.congr (fun k => if_neg (show ¬ x.f3 < 1 by omega)) ?_
    rw [← e2']
    exact rr_l0 s hs d (i + 1) (i : Int) K' T' (by omega) I' (fun _ => by omega)
namespace Pure
theorem RestrictRecent (a0 : List Int) (h0 : (a0.length ≤ 9223372036854775807 ∧ a0.length * 4 ≤ 140737488351232 ∧ ∀ x ∈ a0, (Lit.int .u32 x).wf = true)) : ∃ k, foliotlaw06_RestrictRecent.f k a0 = some true := by
  have hn : a0.length ≤ 90000000000000 := by have := h0.2.1; omega
  refine Ev.rounds (r := true) ?_
  unfold foliotlaw06_RestrictRecent.f
  refine Ev.bind (f := fun k t => _) ev_shown ?_
  refine Ev.congr (fun k => rfl) ?_
  have e1 : restrict_New.f 3 2 = some (Sum.inr (0, 8, 2, 0, 0, ([] : List S78))) := by kernel_rfl
  rw [e1]
  exact rr_l0 a0 hn a0.length 0 0 [] [] (by omega) ⟨inv_nil 8, by simp⟩ (fun h => absurd rfl h)
end Pure
end Go.Proofs.Ytjfcfljdojkcdaa.C9
