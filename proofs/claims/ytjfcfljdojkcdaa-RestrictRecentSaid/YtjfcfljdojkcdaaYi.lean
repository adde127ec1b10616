/- Plain lemmas on the printed functions: whole numbers and lists, no program in sight. -/
import Derived.Test.YtjfcfljdojkcdaaYh
import Derived.Laws.BitsLemmas
import Derived.Laws.Bits64
import Derived.Laws.Bits64b
import Derived.Sort.AssemblyPlain
import Derived.Sort.LotD5
import Derived.Sort.LotD4
namespace Go.Proofs.Ytjfcfljdojkcdaa.C9
open Go Go.RowKit Go.Proofs.Ytjfcfljdojkcdaa.Ev
set_option linter.unusedVariables false
set_option linter.unusedSimpArgs false
set_option maxRecDepth 100000
/-! ### both, step by step -/
theorem upd_ok (fl c mi now n : Int) (x : S78) (hc : 1 ≤ c) (hx : 0 ≤ x.f4 ∧ x.f4 ≤ 8 * c ∧ 1 ≤ x.f3 ∧ x.f3 ≤ 2147483647) :
    (updV fl c mi now n x).2.f5 = n + 1 ∧ (updV fl c mi now n x).2.f0 = x.f0 ∧ (0 ≤ (updV fl c mi now n x).2.f4 ∧ (updV fl c mi now n x).2.f4 ≤ 8 * c ∧ 1 ≤ (updV fl c mi now n x).2.f3 ∧ (updV fl c mi now n x).2.f3 ≤ 2147483647) := by
  have s0 := scU_rng now c x hx.1 hx.2.1 hc
  have m0 : 1 ≤ mn (x.f3 + 1) 2147483647 ∧ mn (x.f3 + 1) 2147483647 ≤ 2147483647 := by unfold mn; split <;> omega
  have m1 : 0 ≤ mn (scU now x + c) (8 * c) ∧ mn (scU now x + c) (8 * c) ≤ 8 * c := by unfold mn; split <;> omega
  unfold updV
  repeat' split
  all_goals refine ⟨rfl, rfl, ?_, ?_, m0.1, m0.2⟩
  all_goals dsimp only
  all_goals omega
theorem step_in (c mi av now n a fl : Int) (K T : List S78) (I : Inv c n K T) (hc : 1 ≤ c) (hc2 : c ≤ 1024) (hm : 0 ≤ mi) (hm2 : mi ≤ 1024) (hn : 0 ≤ n) (hn2 : n ≤ 900000000000000) :
    ∃ (v : Int) (K' T' : List S78), Ev (fun k => restrict_Memory_Heard.j0 k fl c mi now n a K) (v, c, mi, now, n + 1, K') ∧
      Ev (fun k => (foliotref06_Memory_Find.f k (⟨T.map tE, av, mi, now, true⟩ : S94) a).bind fun t0 => (foliotref06_Memory_Heard.l0 k a now fl c t0.2.2.2.2.2 ((T.map tE).length : Int) 0 av mi now true (T.map tE) t0.1 t0.2.1 t0.2.2.1 t0.2.2.2.1 t0.2.2.2.2.1 ([] : List S95))) (v, av, mi, now, true, T.map tE, T'.map tE) ∧ Inv c (n + 1) K' T' := by
  have hKl : K.length ≤ 32 := by rw [I.perm.length_eq]; exact I.len
  have hLl : (T.map tE).length ≤ 32 := by rw [List.length_map]; exact I.len
  have F := rfind_ev av mi now true (T.map tE) a hLl
  rw [find_map] at F
  have rr := fun is o0 o1 o2 o3 o4 v => ref_rest (T.map tE) hLl a now fl c av mi is o0 o1 o2 o3 o4 v (T.map tE).length 0 [] (by omega) (by simp)
  rcases idx_ev K a hKl with ⟨h1, h2⟩ | ⟨j, hj, h1, h2⟩
  · obtain ⟨K', e1, e2⟩ := heard_new K hKl fl c mi now n a hn hn2 h2
    refine ⟨0, K', (⟨a, now, now, 1, c, n + 1⟩ : S78) :: T.take 31, e1, ?_, inv_new I ⟨a, now, now, 1, c, n + 1⟩ rfl (fun y hy => h1 y hy) ⟨by show (0 : Int) ≤ c; omega, by show c ≤ 8 * c; omega, by show (1 : Int) ≤ 1; omega, by show (1 : Int) ≤ 2147483647; omega⟩ hn K' e2⟩
    have hf : T.find? (fun x => decide (x.f0 = a)) = none := by
      rw [List.find?_eq_none]
      intro x hx
      simp only [decide_eq_true_eq]
      exact h1 x (I.perm.mem_iff.2 hx)
    rw [hf] at F
    refine Ev.bind (f := fun k t => _) F ?_
    refine rr false 0 0 0 0 0 _ ?_
    have hall : (T.map tE).filter (fun y => decide (y.f0 ≠ a)) = T.map tE := by
      rw [List.filter_eq_self]
      intro y hy
      obtain ⟨x, hx, rfl⟩ := List.mem_map.1 hy
      simp only [decide_eq_true_eq]
      exact h1 x (I.perm.mem_iff.2 hx)
    rw [List.drop_zero, List.nil_append, hall]
    have g := ref_new (T.map tE) (T.map tE) hLl hLl a now fl c av mi 0 0 0 0 0
    rw [List.map_cons, List.map_take]
    exact g
  · have hmem : K[j] ∈ T := I.perm.mem_iff.1 (List.getElem_mem hj)
    have ho := I.ok _ hmem
    obtain ⟨u1, u2, u3⟩ := upd_ok fl c mi now n K[j] hc ho.2.2
    refine ⟨(updV fl c mi now n K[j]).1, _, _, heard_old K j hj hKl fl c mi now n a hc hc2 hm hm2 hn hn2 ho.2.2 h2, ?_, inv_old I j hj _ u1 u2 u3 hn⟩
    have hf := find_of_mem I.adr hmem a h1
    rw [hf] at F
    refine Ev.bind (f := fun k t => _) F ?_
    refine rr true K[j].f0 K[j].f1 K[j].f2 K[j].f3 K[j].f4 _ ?_
    have hall : (T.map tE).filter (fun y => decide (y.f0 ≠ a)) = (T.filter (fun y => decide (y.f0 ≠ K[j].f0))).map tE := by
      rw [List.filter_map, h1]
      rfl
    rw [List.drop_zero, List.nil_append, hall]
    exact ref_old (T.map tE) _ (by rw [List.length_map]; exact Nat.le_trans (List.length_filter_le _ _) I.len) hLl a now fl c av mi n K[j] hc hc2 hm hm2 ho.2.2
theorem shl_rng (av : Int) (h0 : 0 ≤ av) (h1 : av ≤ 10) : 1 ≤ shl .i64 1 av ∧ shl .i64 1 av ≤ 1024 := by
  obtain ⟨n, rfl⟩ := Int.eq_ofNat_of_zero_le h0
  have hn : n ≤ 10 := by omega
  unfold shl
  rw [tnc, show IntKind.i64.bits = 64 from rfl, show min n 64 = n by omega]
  have : ∀ n : Nat, n ≤ 10 → (1 : Int) ≤ IntKind.i64.wrap (1 * 2 ^ n) ∧ IntKind.i64.wrap (1 * 2 ^ n) ≤ 1024 := by decide
  exact this n hn
theorem step_ev (mi av now rnow n a fl a2 : Int) (any : Bool) (K T : List S78) (I : Inv (shl .i64 1 av) n K T) (h0 : 0 ≤ av) (h1 : av ≤ 10) (hm : 0 ≤ mi) (hm2 : mi ≤ 1024) (hn : 0 ≤ n) (hn2 : n ≤ 900000000000000) (hz : n = 0 → any = false) (hnz : n ≠ 0 → any = true ∧ rnow = now) :
    ∃ (v now' : Int) (K' T' : List S78), Ev (fun k => restrict_Memory_Heard.f k a a2 fl (shl .i64 1 av) mi now n K) (v, shl .i64 1 av, mi, now', n + 1, K') ∧
      Ev (fun k => foliotref06_Memory_Heard.f k a a2 fl av mi rnow any (T.map tE)) (v, av, mi, now', true, T.map tE, T'.map tE) ∧ Inv (shl .i64 1 av) (n + 1) K' T' := by
  obtain ⟨hc, hc2⟩ := shl_rng av h0 h1
  by_cases hn0 : n = 0
  · obtain ⟨v, K', T', e1, e2, e3⟩ := step_in (shl .i64 1 av) mi av a2 n a fl K T I hc hc2 hm hm2 hn hn2
    refine ⟨v, a2, K', T', ?_, ?_, e3⟩
    · unfold restrict_Memory_Heard.f
      simp only [if_pos hn0]
      exact e1
    · unfold foliotref06_Memory_Heard.f
      rw [hz hn0]
      simp only [Bool.not_false, cond_true, if_pos h0]
      exact e2
  · obtain ⟨ha, rfl⟩ := hnz hn0
    subst ha
    by_cases hg : a2 > rnow
    · obtain ⟨v, K', T', e1, e2, e3⟩ := step_in (shl .i64 1 av) mi av a2 n a fl K T I hc hc2 hm hm2 hn hn2
      refine ⟨v, a2, K', T', ?_, ?_, e3⟩
      · unfold restrict_Memory_Heard.f
        simp only [if_neg hn0, if_pos hg]
        exact e1
      · unfold foliotref06_Memory_Heard.f
        simp only [Bool.not_true, cond_false, if_pos h0, if_pos hg]
        exact e2
    · obtain ⟨v, K', T', e1, e2, e3⟩ := step_in (shl .i64 1 av) mi av rnow n a fl K T I hc hc2 hm hm2 hn hn2
      refine ⟨v, rnow, K', T', ?_, ?_, e3⟩
      · unfold restrict_Memory_Heard.f
        simp only [if_neg hn0, if_neg hg]
        exact e1
      · unfold foliotref06_Memory_Heard.f
        simp only [Bool.not_true, cond_false, if_pos h0, if_neg hg]
        exact e2
/-! ### what is told -/
theorem clone_val (K : List S78) (h : K.length ≤ 32) : slices_Clone_restrict_known_restrict_known.f K = some K := by
  unfold slices_Clone_restrict_known_restrict_known.f
  refine nilc_of ?_ ?_
  · rw [if_pos (by simp only [List.length_nil]; omega)]
  · intro e; rw [e]
theorem sort_ev (c n : Int) (K T : List S78) (I : Inv c n K T) : Ev (fun k => slices_SortFunc_restrict_known_restrict_known.f k K) T := by
  have hl : K.length ≤ 32 := by rw [I.perm.length_eq]; exact I.len
  obtain ⟨s, h1, h2, h3⟩ := q_list K (by omega) (Go.Sort.bitsLen K.length) (Nat.le_trans (bitsLen_le _ (by omega)) (by omega))
  have hs : s = T := by
    refine List.Perm.eq_of_pairwise (le := fun x y : S78 => y.f5 ≤ x.f5) ?_ (h3.imp fun {x y} h => by simp only [ltR, decide_eq_false_iff_not] at h; omega) (I.str.imp fun {x y} h => by omega) (h2.trans I.perm)
    intro x y hx hy h1 h2'
    have hx' : x ∈ T := (h2.trans I.perm).mem_iff.1 hx
    have h5 : x.f5 = y.f5 := by omega
    by_cases e : x = y
    · exact e
    · exfalso
      have key : ∀ (T : List S78), T.Pairwise (fun x y => y.f5 < x.f5) → x ∈ T → y ∈ T → False := by
        intro T
        induction T with
        | nil => intro _ h _; cases h
        | cons z T ih =>
          intro hp hx hy
          have hp := List.pairwise_cons.1 hp
          rcases List.mem_cons.1 hx with e1 | m1
          · rcases List.mem_cons.1 hy with e2 | m2
            · exact e (e1.trans e2.symm)
            · have := hp.1 y m2; rw [← e1] at this; omega
          · rcases List.mem_cons.1 hy with e2 | m2
            · have := hp.1 x m1; rw [← e2] at this; omega
            · exact ih hp.2 m1 m2
      exact key T I.str hx' hy
  rw [hs] at h1
  unfold slices_SortFunc_restrict_known_restrict_known.f
  rw [q_len K.length (by omega)]
  refine Ev.bs (f := fun k t => _) ?_
  exact Ev.bind (f := fun k t => _) h1 (Ev.now _)
theorem list_l0 (T : List S78) (hT : T.length ≤ 32) : ∀ (d i : Nat) (R : List S65), i + d = T.length → R.length = i → Ev (fun k => restrict_Memory_List.l0 k (T.length : Int) (i : Int) R T) (R ++ (T.drop i).map tL)
  | 0, i, R, hd, hR => by
    rw [List.drop_eq_nil_of_le (by omega)]
    exact Ev.succ fun k => by rw [restrict_Memory_List.l0, if_neg (by omega)]; simp
  | d + 1, i, R, hd, hR => by
    have hi : i < T.length := by omega
    have c1 : (i : Int) < (T.length : Int) := by omega
    have c0 : (0 : Int) ≤ (i : Int) := by omega
    have e1 := rdG T i hi
    have hw := wrap_succ i (by omega)
    have hfit : (2 * (R.length + ([(⟨T[i].f0, T[i].f1, T[i].f2, T[i].f3, T[i].f4⟩ : S65)] : List S65).length) + 200) * 40 ≤ 281474976710656 := by simp only [List.length_cons, List.length_nil]; omega
    rw [List.drop_eq_getElem_cons hi, List.map_cons]
    have g := list_l0 T hT d (i + 1) (R ++ [tL T[i]]) (by omega) (by simp; omega)
    rw [List.append_assoc] at g
    refine Ev.step (fun k => ?_) g
    rw [restrict_Memory_List.l0, if_pos c1, if_pos c0, if_pos c1, e1, if_pos hfit, hw]
    rfl
theorem list_ev (c mi now n : Int) (K T : List S78) (I : Inv c n K T) : Ev (fun k => restrict_Memory_List.f k ⟨c, mi, now, n, K⟩) (T.map tL) := by
  unfold restrict_Memory_List.f
  rw [clone_val K (by rw [I.perm.length_eq]; exact I.len)]
  refine Ev.bs (f := fun k t => _) ?_
  refine Ev.bind (f := fun k t => _) (sort_ev c n K T I) ?_
  have := list_l0 T I.len T.length 0 [] (by omega) rfl
  rwa [List.drop_zero, List.nil_append] at this
theorem told_l0 (c mi av now rnow n a : Int) (any : Bool) (K T : List S78) (I : Inv c n K T) : ∀ (d i : Nat) (R : List S65), i + d = T.length → R.length = T.length → (∀ q : Nat, i ≤ q → R[q]? = (T.map tL)[q]?) →
    Ev (fun k => foliotlaw06_told.l0 k (⟨c, mi, now, n, K⟩ : S75) (⟨T.map tE, av, mi, rnow, any⟩ : S94) a (T.length : Int) (i : Int) R) true
  | 0, i, R, hd, hR, hq => by
    have hKl : K.length ≤ 32 := by rw [I.perm.length_eq]; exact I.len
    have hLl : (T.map tE).length ≤ 32 := by rw [List.length_map]; exact I.len
    refine Ev.step (fun k => by rw [foliotlaw06_told.l0, if_neg (by omega)]) ?_
    have F := find_ev c mi now n K a hKl
    have G := rfind_ev av mi rnow any (T.map tE) a hLl
    rw [find_perm I.perm I.adr] at F
    rw [find_map] at G
    refine Ev.bind (f := fun k t => _) F ?_
    refine Ev.bind (f := fun k t => _) G ?_
    unfold foliotlaw06_entry.f
    refine Ev.bs (f := fun k t => _) ?_
    refine Ev.congr (fun k => if_pos ⟨rfl, rfl, rfl, rfl, rfl⟩) ?_
    simp only [beq_self_eq_true]
    exact Ev.now _
  | d + 1, i, R, hd, hR, hq => by
    have hi : i < T.length := by omega
    have hTl := I.len
    have c1 : (i : Int) < (T.length : Int) := by omega
    have c0 : (0 : Int) ≤ (i : Int) := by omega
    have c2 : (i : Int) < (R.length : Int) := by omega
    have c3 : (i : Int) < ((T.map tE).length : Int) := by rw [List.length_map]; exact c1
    have hRi : i < R.length := by omega
    have e1 : rdOf z_S65 R (i : Int) = tL T[i] := by
      rw [rdT R i hRi]
      have := hq i (Nat.le_refl _)
      rw [List.getElem?_eq_getElem hRi, List.getElem?_map, List.getElem?_eq_getElem hi] at this
      exact Option.some.inj this
    have e2 : rdOf z_S95 (T.map tE) (i : Int) = tE T[i] := by
      rw [rdE _ i (by rw [List.length_map]; exact hi), List.getElem_map]
    have hw := wrap_succ i (by omega)
    refine Ev.step (fun k => ?_) (told_l0 c mi av now rnow n a any K T I d (i + 1) (R.set i (⟨1, 0, 0, 0, (-7)⟩ : S65)) (by omega) (by rw [List.length_set]; exact hR) (fun q h => by rw [List.getElem?_set_ne (by omega)]; exact hq q (by omega)))
    rw [foliotlaw06_told.l0, if_pos c1, if_pos c0, if_pos c2, if_pos c0, if_pos c3, foliotlaw06_entry.f, bsome, e1, e2, if_neg (fun h => h ⟨rfl, rfl, rfl, rfl, rfl⟩), if_pos c0, if_pos c2, tnc, hw]
theorem told_ev (c mi av now rnow n a : Int) (any : Bool) (K T : List S78) (I : Inv c n K T) : Ev (fun k => foliotlaw06_told.f k (⟨c, mi, now, n, K⟩ : S75) (⟨T.map tE, av, mi, rnow, any⟩ : S94) a) true := by
  unfold foliotlaw06_told.f
  refine Ev.bind (f := fun k t => _) (list_ev c mi now n K T I) ?_
  refine Ev.congr (fun k => if_neg (fun h => h (by rw [List.length_map, List.length_map]))) ?_
  have := told_l0 c mi av now rnow n a any K T I T.length 0 (T.map tL) (by omega) (by rw [List.length_map]) (fun q _ => rfl)
  rw [List.length_map]
  exact this
theorem inv_nil (c : Int) : Inv c 0 [] [] := ⟨List.Perm.refl _, List.Pairwise.nil, List.Pairwise.nil, by simp, by simp⟩
end Go.Proofs.Ytjfcfljdojkcdaa.C9
