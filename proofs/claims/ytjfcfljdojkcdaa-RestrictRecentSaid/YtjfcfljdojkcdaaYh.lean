/- Plain lemmas on the printed functions: whole numbers and lists, no program in sight. -/
import Derived.Test.YtjfcfljdojkcdaaYg
import Derived.Laws.BitsLemmas
import Derived.Laws.Bits64
import Derived.Laws.Bits64b
import Derived.Sort.AssemblyPlain
import Derived.Sort.LotD5
import Derived.Sort.LotD4
namespace Go.Proofs.Ytjfcfljdojkcdaa.C9
open Go Go.RowKit Go.Proofs.Ytjfcfljdojkcdaa.Ev
set_option linter.unusedVariables false
set_option linter.unusedSimpArgs false
set_option maxRecDepth 100000
/-! ### one is put in a place -/
theorem set_split : ∀ (K : List S78) (i : Nat) (h : i < K.length), ∃ A B, K = A ++ K[i] :: B ∧ ∀ x, K.set i x = A ++ x :: B
  | [], i, h => by simp at h
  | y :: K, 0, h => ⟨[], K, rfl, fun x => rfl⟩
  | y :: K, i + 1, h => by
    obtain ⟨A, B, h1, h2⟩ := set_split K i (by simpa using h)
    refine ⟨y :: A, B, ?_, fun x => ?_⟩
    · simp only [List.getElem_cons_succ, List.cons_append]
      rw [← h1]
    · simp only [List.set_cons_succ, List.cons_append, h2 x]
theorem inv_old {c n : Int} {K T : List S78} (I : Inv c n K T) (i : Nat) (hi : i < K.length) (x : S78) (h5 : x.f5 = n + 1) (h0 : x.f0 = K[i].f0) (ho : 0 ≤ x.f4 ∧ x.f4 ≤ 8 * c ∧ 1 ≤ x.f3 ∧ x.f3 ≤ 2147483647) (hn : 0 ≤ n) :
    Inv c (n + 1) (K.set i x) (x :: T.filter (fun y => decide (y.f0 ≠ K[i].f0))) := by
  obtain ⟨A, B, e1, e2⟩ := set_split K i hi
  have hKd : K.Pairwise (fun x y => x.f0 ≠ y.f0) := I.perm.symm.pairwise I.adr (fun h => fun e => h e.symm)
  have p1 : K.Perm (K[i] :: (A ++ B)) := by
    conv => lhs; rw [e1]
    exact List.perm_middle
  have hd := p1.pairwise hKd (fun h => fun e => h e.symm)
  have hAB : ∀ y ∈ A ++ B, K[i].f0 ≠ y.f0 := (List.pairwise_cons.1 hd).1
  have p2 : (T.filter (fun y => decide (y.f0 ≠ K[i].f0))).Perm (A ++ B) := by
    have h1 := (I.perm.symm.trans p1).filter (fun y => decide (y.f0 ≠ K[i].f0))
    rw [List.filter_cons_of_neg (by simp), (List.filter_eq_self (l := A ++ B)).2 (fun y hy => by have := hAB y hy; simp; exact fun e => this e.symm)] at h1
    exact h1
  have hlen : (T.filter (fun y => decide (y.f0 ≠ K[i].f0))).length + 1 = T.length := by
    rw [p2.length_eq, ← I.perm.length_eq, p1.length_eq]; rfl
  refine ⟨?_, ?_, ?_, ?_, ?_⟩
  · rw [e2 x]
    exact List.perm_middle.trans (List.Perm.cons x p2.symm)
  · refine List.pairwise_cons.2 ⟨fun y hy => ?_, I.str.sublist List.filter_sublist⟩
    have := I.ok y (List.mem_filter.1 hy).1
    omega
  · refine List.pairwise_cons.2 ⟨fun y hy => ?_, I.adr.sublist List.filter_sublist⟩
    have := (List.mem_filter.1 hy).2
    simp only [decide_eq_true_eq] at this
    rw [h0]
    exact fun e => this e.symm
  · have := I.len
    simp only [List.length_cons]; omega
  · intro y hy
    rcases List.mem_cons.1 hy with rfl | hy
    · exact ⟨by omega, by omega, ho.1, ho.2.1, ho.2.2.1, ho.2.2.2⟩
    · have := I.ok y (List.mem_filter.1 hy).1
      exact ⟨this.1, by omega, this.2.2⟩
theorem take_31 (T : List S78) (h : T.length < 32) : T.take 31 = T := List.take_of_length_le (by omega)
theorem inv_new {c n : Int} {K T : List S78} (I : Inv c n K T) (x : S78) (h5 : x.f5 = n + 1) (h0 : ∀ y ∈ K, y.f0 ≠ x.f0) (ho : 0 ≤ x.f4 ∧ x.f4 ≤ 8 * c ∧ 1 ≤ x.f3 ∧ x.f3 ≤ 2147483647) (hn : 0 ≤ n) (K' : List S78)
    (hK : (K.length < 32 ∧ K' = K ++ [x]) ∨ (K.length = 32 ∧ ∃ (j : Nat) (h : j < K.length), (∀ z ∈ K, K[j].f5 ≤ z.f5) ∧ K' = K.set j x)) : Inv c (n + 1) K' (x :: T.take 31) := by
  have hsub : (T.take 31).Sublist T := List.take_sublist 31 T
  have hle : (T.take 31).length ≤ 31 := by rw [List.length_take]; omega
  refine ⟨?_, ?_, ?_, by simp only [List.length_cons]; omega, ?_⟩
  · rcases hK with ⟨h, rfl⟩ | ⟨h, j, hj, hmin, rfl⟩
    · rw [take_31 T (by rw [← I.perm.length_eq]; exact h)]
      exact List.perm_append_comm.trans (List.Perm.cons x I.perm)
    · obtain ⟨A, B, e1, e2⟩ := set_split K j hj
      have p1 : K.Perm (K[j] :: (A ++ B)) := by
        conv => lhs; rw [e1]
        exact List.perm_middle
      rw [e2 x]
      refine List.perm_middle.trans (List.Perm.cons x ?_)
      have hT : T.length = 32 := by rw [← I.perm.length_eq]; exact h
      have hne : T ≠ [] := by intro e; rw [e] at hT; simp at hT
      have e3 : T.take 31 = T.dropLast := by rw [List.dropLast_eq_take, hT]
      have e4 := List.dropLast_concat_getLast hne
      have hmem : K[j] ∈ T := I.perm.mem_iff.1 (List.getElem_mem hj)
      have hlast : K[j] = T.getLast hne := by
        have hs := I.str
        rw [← e4] at hmem hs
        rcases List.mem_append.1 hmem with hm | hm
        · have h1 := (List.pairwise_append.1 hs).2.2 _ hm (T.getLast hne) (by simp)
          have h2 := hmin _ (I.perm.mem_iff.2 (List.getLast_mem hne))
          omega
        · simpa using hm
      have p2 : (T.getLast hne :: T.dropLast).Perm T := by
        conv => rhs; rw [← e4]
        exact List.perm_append_comm (l₁ := [T.getLast hne])
      rw [e3]
      have p3 : (K[j] :: (A ++ B)).Perm (K[j] :: T.dropLast) := by
        have p4 := (p1.symm.trans I.perm).trans p2.symm
        rw [← hlast] at p4
        exact p4
      exact p3.cons_inv
  · refine List.pairwise_cons.2 ⟨fun y hy => ?_, I.str.sublist hsub⟩
    have := I.ok y (hsub.subset hy)
    omega
  · refine List.pairwise_cons.2 ⟨fun y hy => ?_, I.adr.sublist hsub⟩
    exact fun e => h0 y (I.perm.mem_iff.2 (hsub.subset hy)) e.symm
  · intro y hy
    rcases List.mem_cons.1 hy with rfl | hy
    · exact ⟨by omega, by omega, ho.1, ho.2.1, ho.2.2.1, ho.2.2.2⟩
    · have := I.ok y (hsub.subset hy)
      exact ⟨this.1, by omega, this.2.2⟩
/-! ### one is looked for -/
def fK : Option S78 → Int × Int × Int × Int × Int × Bool
  | some e => (e.f0, e.f1, e.f2, e.f3, e.f4, true)
  | none => (0, 0, 0, 0, 0, false)
def fE : Option S95 → Int × Int × Int × Int × Int × Bool
  | some e => (e.f0, e.f1, e.f2, e.f3, e.f4, true)
  | none => (0, 0, 0, 0, 0, false)
theorem find_l0 (K : List S78) (a : Int) (hK : K.length ≤ 32) : ∀ (d i : Nat), i + d = K.length → Ev (fun k => restrict_Memory_Find.l0 k a K (K.length : Int) (i : Int) 0 0 0 0 0) (fK ((K.drop i).find? (fun x => decide (x.f0 = a))))
  | 0, i, hd => by
    rw [List.drop_eq_nil_of_le (by omega)]
    exact Ev.succ fun k => by rw [restrict_Memory_Find.l0, if_neg (by omega)]; rfl
  | d + 1, i, hd => by
    have hi : i < K.length := by omega
    have c1 : (i : Int) < (K.length : Int) := by omega
    have c0 : (0 : Int) ≤ (i : Int) := by omega
    have e1 := rdG K i hi
    have hw := wrap_succ i (by omega)
    rw [List.drop_eq_getElem_cons hi, List.find?_cons]
    by_cases hx : K[i].f0 = a
    · rw [decide_eq_true hx]
      refine Ev.succ fun k => ?_
      rw [restrict_Memory_Find.l0, if_pos c1, if_pos c0, if_pos c1, e1, if_pos hx]
      rfl
    · rw [decide_eq_false hx]
      refine Ev.step (fun k => ?_) (find_l0 K a hK d (i + 1) (by omega))
      rw [restrict_Memory_Find.l0, if_pos c1, if_pos c0, if_pos c1, e1, if_neg hx, hw]
theorem find_ev (c mi now n : Int) (K : List S78) (a : Int) (hK : K.length ≤ 32) : Ev (fun k => restrict_Memory_Find.f k ⟨c, mi, now, n, K⟩ a) (fK (K.find? (fun x => decide (x.f0 = a)))) := by
  have := find_l0 K a hK K.length 0 (by omega)
  rwa [List.drop_zero] at this
theorem rfind_l0 (K : List S95) (a : Int) (hK : K.length ≤ 32) : ∀ (d i : Nat), i + d = K.length → Ev (fun k => foliotref06_Memory_Find.l0 k a K (K.length : Int) (i : Int) 0 0 0 0 0) (fE ((K.drop i).find? (fun x => decide (x.f0 = a))))
  | 0, i, hd => by
    rw [List.drop_eq_nil_of_le (by omega)]
    exact Ev.succ fun k => by rw [foliotref06_Memory_Find.l0, if_neg (by omega)]; rfl
  | d + 1, i, hd => by
    have hi : i < K.length := by omega
    have c1 : (i : Int) < (K.length : Int) := by omega
    have c0 : (0 : Int) ≤ (i : Int) := by omega
    have e1 := rdE K i hi
    have hw := wrap_succ i (by omega)
    rw [List.drop_eq_getElem_cons hi, List.find?_cons]
    by_cases hx : K[i].f0 = a
    · rw [decide_eq_true hx]
      refine Ev.succ fun k => ?_
      rw [foliotref06_Memory_Find.l0, if_pos c1, if_pos c0, if_pos c1, e1, if_pos hx]
      rfl
    · rw [decide_eq_false hx]
      refine Ev.step (fun k => ?_) (rfind_l0 K a hK d (i + 1) (by omega))
      rw [foliotref06_Memory_Find.l0, if_pos c1, if_pos c0, if_pos c1, e1, if_neg hx, hw]
theorem rfind_ev (av mi now : Int) (any : Bool) (K : List S95) (a : Int) (hK : K.length ≤ 32) : Ev (fun k => foliotref06_Memory_Find.f k ⟨K, av, mi, now, any⟩ a) (fE (K.find? (fun x => decide (x.f0 = a)))) := by
  have := rfind_l0 K a hK K.length 0 (by omega)
  rwa [List.drop_zero] at this
theorem find_of_mem {T : List S78} (hd : T.Pairwise (fun x y => x.f0 ≠ y.f0)) {x : S78} (hx : x ∈ T) (a : Int) (ha : x.f0 = a) : T.find? (fun y => decide (y.f0 = a)) = some x := by
  induction T with
  | nil => cases hx
  | cons y T ih =>
    rw [List.find?_cons]
    have h1 := List.pairwise_cons.1 hd
    rcases List.mem_cons.1 hx with rfl | hx
    · rw [decide_eq_true ha]
    · have : y.f0 ≠ a := by rw [← ha]; exact h1.1 x hx
      rw [decide_eq_false this]
      exact ih h1.2 hx
theorem find_perm {K T : List S78} (hp : K.Perm T) (hd : T.Pairwise (fun x y => x.f0 ≠ y.f0)) (a : Int) : K.find? (fun y => decide (y.f0 = a)) = T.find? (fun y => decide (y.f0 = a)) := by
  have hK : K.Pairwise (fun x y => x.f0 ≠ y.f0) := hp.symm.pairwise hd (fun h => fun e => h e.symm)
  cases h : T.find? (fun y => decide (y.f0 = a)) with
  | none =>
    rw [List.find?_eq_none] at *
    intro x hx
    exact h x (hp.mem_iff.1 hx)
  | some x =>
    have h1 := List.mem_of_find?_eq_some h
    have h2 := List.find?_some h
    simp only [decide_eq_true_eq] at h2
    exact find_of_mem hK (hp.mem_iff.2 h1) a h2
theorem find_map (T : List S78) (a : Int) : fE ((T.map tE).find? (fun x => decide (x.f0 = a))) = fK (T.find? (fun x => decide (x.f0 = a))) := by
  rw [List.find?_map]
  have : ((fun x : S95 => decide (x.f0 = a)) ∘ tE) = (fun x : S78 => decide (x.f0 = a)) := rfl
  rw [this]
  cases T.find? (fun x => decide (x.f0 = a)) <;> rfl
/-! ### the reference's step -/
theorem ref_rest (L : List S95) (hL : L.length ≤ 32) (a now fl c av mi : Int) (is : Bool) (o0 o1 o2 o3 o4 : Int) (v : Int × Int × Int × Int × Bool × (List S95) × (List S95)) : ∀ (d i : Nat) (R : List S95), i + d = L.length → R.length ≤ i →
    Ev (fun k => foliotref06_Memory_Heard.l0 k a now fl c is (L.length : Int) (L.length : Int) av mi now true L o0 o1 o2 o3 o4 (R ++ (L.drop i).filter (fun y => decide (y.f0 ≠ a)))) v →
    Ev (fun k => foliotref06_Memory_Heard.l0 k a now fl c is (L.length : Int) (i : Int) av mi now true L o0 o1 o2 o3 o4 R) v
  | 0, i, R, hd, hR, e => by
    rw [List.drop_eq_nil_of_le (by omega), List.filter_nil, List.append_nil] at e
    rw [show i = L.length by omega]
    exact e
  | d + 1, i, R, hd, hR, e => by
    have hi : i < L.length := by omega
    have c1 : (i : Int) < (L.length : Int) := by omega
    have c0 : (0 : Int) ≤ (i : Int) := by omega
    have e1 := rdE L i hi
    have hw := wrap_succ i (by omega)
    rw [List.drop_eq_getElem_cons hi] at e
    by_cases hx : L[i].f0 = a
    · rw [List.filter_cons_of_neg (by simp [hx])] at e
      refine Ev.step (fun k => ?_) (ref_rest L hL a now fl c av mi is o0 o1 o2 o3 o4 v d (i + 1) R (by omega) (by omega) e)
      rw [foliotref06_Memory_Heard.l0, if_pos c1, if_pos c0, if_pos c1, e1, if_neg (fun h => h hx), hw]
    · rw [List.filter_cons_of_pos (by simp [hx])] at e
      have hfit : (2 * (R.length + ([(⟨L[i].f0, L[i].f1, L[i].f2, L[i].f3, L[i].f4⟩ : S95)] : List S95).length) + 200) * 40 ≤ 281474976710656 := by simp only [List.length_cons, List.length_nil]; omega
      refine Ev.step (fun k => ?_) (ref_rest L hL a now fl c av mi is o0 o1 o2 o3 o4 v d (i + 1) (R ++ [L[i]]) (by omega) (by simp; omega) (by rw [List.append_assoc]; exact e))
      rw [foliotref06_Memory_Heard.l0, if_pos c1, if_pos c0, if_pos c1, e1, if_pos hx, if_pos hfit, hw]
theorem ref_new (L R : List S95) (hR : R.length ≤ 32) (hL : L.length ≤ 32) (a now fl c av mi o0 o1 o2 o3 o4 : Int) : Ev (fun k => foliotref06_Memory_Heard.l0 k a now fl c false (L.length : Int) (L.length : Int) av mi now true L o0 o1 o2 o3 o4 R) (0, av, mi, now, true, L, (⟨a, now, now, 1, c⟩ : S95) :: R.take 31) := by
  have e1 : (((mn (R.length : Int) 31) - 0).toNat) = min R.length 31 := by unfold mn; split <;> omega
  have c1 : (0 : Int) ≤ mn (R.length : Int) 31 := by unfold mn; split <;> omega
  have c2 : mn (R.length : Int) 31 ≤ (R.length : Int) := by unfold mn; split <;> omega
  have e2 : (R.drop 0).take (min R.length 31) = R.take 31 := by
    rw [List.drop_zero]
    rcases Nat.le_total R.length 31 with h | h
    · rw [Nat.min_eq_left h, List.take_of_length_le (Nat.le_refl _), List.take_of_length_le h]
    · rw [Nat.min_eq_right h]
  have c3 : (2 * (([(⟨a, now, now, 1, c⟩ : S95)] : List S95).length + (R.take 31).length) + 200) * 40 ≤ 281474976710656 := by
    rw [List.length_take]; simp only [List.length_cons, List.length_nil]; omega
  refine Ev.succ fun k => ?_
  rw [foliotref06_Memory_Heard.l0, if_neg (by omega), Bool.not_false, cond_true, if_pos c1, if_pos c2, e1, e2, if_pos c3]
  rfl
theorem ref_j1 (v av mi now : Int) (L R : List S95) (hR : R.length ≤ 32) (e : S95) : Ev (fun k => foliotref06_Memory_Heard.j1 k v av mi now true L e.f0 e.f1 e.f2 e.f3 e.f4 R) (v, av, mi, now, true, L, e :: R) := by
  have c3 : (2 * (([(⟨e.f0, e.f1, e.f2, e.f3, e.f4⟩ : S95)] : List S95).length + R.length) + 200) * 40 ≤ 281474976710656 := by simp only [List.length_cons, List.length_nil]; omega
  refine Ev.succ fun k => ?_
  rw [foliotref06_Memory_Heard.j1, if_pos c3]
  rfl
theorem score_same (g f : Int) (hg : 0 ≤ g) (h0 : 0 ≤ f) (h1 : f ≤ 8192) : mx 0 (f - mn g 1099511627776) = mx 0 (f - mn g 1048576) := by
  unfold mx mn
  repeat' split
  all_goals omega
theorem gap_lt (g m : Int) (hg : 0 ≤ g) (hm : m ≤ 1024) : (mn g 1099511627776 < m) = (g < m) := by
  apply propext
  unfold mn
  split <;> omega
theorem ref_old (L R : List S95) (hR : R.length ≤ 32) (hL : L.length ≤ 32) (a now fl c av mi n : Int) (x : S78) (hc : 1 ≤ c) (hc2 : c ≤ 1024) (hm : 0 ≤ mi) (hm2 : mi ≤ 1024)
    (hx : 0 ≤ x.f4 ∧ x.f4 ≤ 8 * c ∧ 1 ≤ x.f3 ∧ x.f3 ≤ 2147483647) :
    Ev (fun k => foliotref06_Memory_Heard.l0 k a now fl c true (L.length : Int) (L.length : Int) av mi now true L x.f0 x.f1 x.f2 x.f3 x.f4 R) ((updV fl c mi now n x).1, av, mi, now, true, L, tE (updV fl c mi now n x).2 :: R) := by
  have g0 := gapU_rng now x.f2
  have s0 := scU_rng now c x hx.1 hx.2.1 hc
  have k1 : mn (gapU now x.f2) 1099511627776 ≥ 0 ∧ mn (gapU now x.f2) 1099511627776 ≤ 1099511627776 := mn_rng _ _ g0.1 (by decide)
  have w1 := mn_in (gapU now x.f2) 1099511627776 g0.1 (by decide) (by decide)
  have w2 := sub_in x.f4 (mn (gapU now x.f2) 1099511627776) hx.1 (by omega) k1.1 k1.2
  have ss := score_same (gapU now x.f2) x.f4 g0.1 hx.1 (by omega)
  have gl := gap_lt (gapU now x.f2) mi g0.1 hm2
  have w4 := suc_in x.f3 (by omega) (by omega)
  have w5 := add_in (scU now x) c s0.1 (by omega) (by omega) (by omega)
  have w6 := mul8_in c (by omega) (by omega)
  have cnt : (if x.f3 < 2147483647 then x.f3 + 1 else x.f3) = mn (x.f3 + 1) 2147483647 := by unfold mn; repeat' split; all_goals omega
  have fold1 : IntKind.u64.wrap ((IntKind.u64.wrap now) - (IntKind.u64.wrap x.f2)) = gapU now x.f2 := rfl
  have fold2 : mx 0 (x.f4 - mn (gapU now x.f2) 1048576) = scU now x := rfl
  have tail : Ev (fun k => foliotref06_Memory_Heard.j0 k fl c (mn (gapU now x.f2) 1099511627776) (scU now x) av mi now true L x.f0 x.f1 now (mn (x.f3 + 1) 2147483647) x.f4 R) ((updV fl c mi now n x).1, av, mi, now, true, L, tE (updV fl c mi now n x).2 :: R) := by
    refine Ev.step (fun k => by rw [foliotref06_Memory_Heard.j0]) ?_
    simp only [w5, w6, gl]
    unfold updV
    split
    · exact ref_j1 0 av mi now L R hR ⟨x.f0, x.f1, now, mn (x.f3 + 1) 2147483647, mn (scU now x + c) (8 * c)⟩
    · split
      · exact ref_j1 1 av mi now L R hR ⟨x.f0, x.f1, now, mn (x.f3 + 1) 2147483647, scU now x⟩
      · split
        · split
          · exact ref_j1 2 av mi now L R hR ⟨x.f0, x.f1, now, mn (x.f3 + 1) 2147483647, scU now x⟩
          · exact ref_j1 1 av mi now L R hR ⟨x.f0, x.f1, now, mn (x.f3 + 1) 2147483647, scU now x⟩
        · exact ref_j1 0 av mi now L R hR ⟨x.f0, x.f1, now, mn (x.f3 + 1) 2147483647, scU now x + c⟩
  refine Ev.step (fun k => ?_) tail
  rw [foliotref06_Memory_Heard.l0, if_neg (by omega), Bool.not_true, cond_false, foliotref06_gap.f, bsome]
  simp only [fold1, w1, w2, ss, fold2, w4]
  rw [← cnt]
  split <;> rfl
end Go.Proofs.Ytjfcfljdojkcdaa.C9
