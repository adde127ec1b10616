/- Plain lemmas on the printed functions: whole numbers and lists, no program in sight. -/
import Derived.Test.YtjfcfljdojkcdaaSa
import Derived.Laws.BitsLemmas
namespace Go.Proofs.Ytjfcfljdojkcdaa.Q
open Go Go.RowKit Go.Proofs.Ytjfcfljdojkcdaa.Ev
set_option linter.unusedVariables false
set_option linter.unusedSimpArgs false
set_option maxRecDepth 100000
/-! ### rules in order: the comparison, the sort of a block -/
def leR (a b : S26) : Bool := decide (a.f0 < b.f0 ∨ (a.f0 = b.f0 ∧ a.f1 ≤ b.f1))
theorem ordR : Ord leR where
  tr a b c h1 h2 := by
    simp only [leR, decide_eq_true_eq] at *
    omega
  tot a b := by
    simp only [leR, Bool.or_eq_true, decide_eq_true_eq]
    omega
def cmpI (a b : Int) : Int := if a < b then -1 else if a > b then 1 else 0
def cmpV (x y : S26) : Int := if ¬ cmpI x.f0 y.f0 = 0 then cmpI x.f0 y.f0 else cmpI x.f1 y.f1
theorem cmpV_lt (x y : S26) : cmpV x y < 0 ↔ leR y x = false := by
  simp only [leR, decide_eq_false_iff_not, cmpV, cmpI]
  (repeat' split) <;> omega
theorem cmp1 (a b : Int) : cmp_Compare_uint32.f a b = some (cmpI a b) := by
  unfold cmp_Compare_uint32.f cmp_isNaN_uint32.f cmpI
  simp only [not_true, decide_false, bsome, cond_false]
  (repeat' split) <;> rfl
theorem cmp2 (a b : Int) : cmp_Compare_int.f a b = some (cmpI a b) := by
  unfold cmp_Compare_int.f cmp_isNaN_int.f cmpI
  simp only [not_true, decide_false, bsome, cond_false]
  (repeat' split) <;> rfl
theorem or_val (c d : Int) (k : Nat) : cmp_Or_int.f (k + 3) [c, d] = some (if ¬ c = 0 then c else d) := by
  unfold cmp_Or_int.f
  have hl : (([c, d] : List Int).length : Int) = 2 := rfl
  have h0 : rd [c, d] 0 = c := rfl
  have h1 : rd [c, d] 1 = d := rfl
  have w1 : wrap64 (0 + 1) = 1 := by kernel_rfl
  have w2 : wrap64 (1 + 1) = 2 := by kernel_rfl
  rw [hl, cmp_Or_int.l0, hl, h0, w1]
  by_cases e : c = 0
  · rw [if_pos (by decide), if_pos (by decide), if_pos (by decide), if_neg (fun h => h e), if_neg (fun h => h e), cmp_Or_int.l0, hl, h1, w2]
    by_cases e2 : d = 0
    · rw [if_pos (by decide), if_pos (by decide), if_pos (by decide), if_neg (fun h => h e2), cmp_Or_int.l0, if_neg (by decide), e2]
    · rw [if_pos (by decide), if_pos (by decide), if_pos (by decide), if_pos e2]
  · rw [if_pos (by decide), if_pos (by decide), if_pos (by decide), if_pos e, if_pos e]
theorem ev_cmp (x y : S26) : Ev (fun k => restrict_Sort_2.f k x.f0 x.f1 x.f2 y.f0 y.f1 y.f2) (cmpV x y) := ⟨3, fun k hk => by
  obtain ⟨m, rfl⟩ : ∃ m, k = m + 3 := ⟨k - 3, by omega⟩
  unfold restrict_Sort_2.f cmpV
  rw [cmp1, cmp2]
  simp only [bsome, or_val]⟩
/-! reading and writing at a place -/
theorem rdx (X Y : List S26) (u : S26) (i : Int) (h : i = (X.length : Int)) : rdOf z_S26 (X ++ u :: Y) i = u := by
  subst h; simp [rdOf]
theorem setx (X Y : List S26) (u v : S26) (i : Nat) (h : i = X.length) : (X ++ u :: Y).set i v = X ++ v :: Y := by
  subst h; simp
theorem swap_adj (X Y : List S26) (u v : S26) (i : Nat) (h : i = X.length) : ((X ++ u :: v :: Y).set (i + 1) u).set i v = X ++ v :: u :: Y := by
  have e : X ++ u :: v :: Y = (X ++ [u]) ++ v :: Y := by simp
  rw [e, setx (X ++ [u]) Y v u (i + 1) (by simp [h])]
  have e2 : (X ++ [u]) ++ u :: Y = X ++ u :: u :: Y := by simp
  rw [e2, setx X (u :: Y) u v i h]
def room (n : Nat) : Prop := n ≤ 1000000000000
theorem room_of {m n : Nat} (h : room m) (e : n ≤ m) : room n := by unfold room at *; omega
theorem ins_l1 (X Y : List S26) (x2 x8 : Int) (x : S26) : ∀ (n : Nat) (P1 P2 : List S26) (r), P1.length = n → room (X ++ P1 ++ P2 ++ Y).length → P1.Pairwise (fun a b => leR a b = true) → (∀ y ∈ P2, leR y x = false) →
    Ev (fun k => slices_insertionSortCmpFunc_api_Rule.l0 k (X.length : Int) x2 (wrap64 (x8 + 1)) (X ++ List.merge (P1 ++ P2) [x] leR ++ Y)) r →
    Ev (fun k => slices_insertionSortCmpFunc_api_Rule.l1 k (X.length : Int) x2 x8 (((X.length + P1.length : Nat) : Int)) ((X ++ P1) ++ x :: (P2 ++ Y))) r := by
  intro n
  induction n with
  | zero =>
    intro P1 P2 r hn hb hs h2 h
    obtain rfl : P1 = [] := List.length_eq_zero_iff.1 hn
    have e := mg_right leR x [] P2 (by simp) h2
    simp only [List.nil_append] at e h
    rw [e] at h
    refine Ev.step (fun k => ?_) h
    rw [slices_insertionSortCmpFunc_api_Rule.l1, if_neg (by simp)]
    simp
  | succ n ih =>
    intro P1 P2 r hn hb hs h2 h
    obtain ⟨Q, z, rfl⟩ : ∃ Q z, P1 = Q ++ [z] := by
      rcases List.eq_nil_or_concat P1 with e | ⟨Q, z, e⟩
      · rw [e] at hn; simp at hn
      · exact ⟨Q, z, by rw [e, List.concat_eq_append]⟩
    have hq : Q.length = n := by simpa using hn
    have hD : (X ++ (Q ++ [z])) ++ x :: (P2 ++ Y) = (X ++ Q) ++ z :: x :: (P2 ++ Y) := by simp
    have hlen : ((X ++ Q) ++ z :: x :: (P2 ++ Y)).length ≤ 1000000000001 := by
      unfold room at hb
      simp only [List.length_append, List.length_cons, List.length_nil] at hb ⊢; omega
    have hlen2 : X.length + Q.length + 2 ≤ ((X ++ Q) ++ z :: x :: (P2 ++ Y)).length := by
      simp only [List.length_append, List.length_cons]; omega
    have hj : ((X.length + (Q ++ [z]).length : Nat) : Int) = ((X.length + Q.length + 1 : Nat) : Int) := by simp; omega
    have r1 : rdOf z_S26 ((X ++ Q) ++ z :: x :: (P2 ++ Y)) (((X.length + Q.length + 1 : Nat) : Int)) = x := by
      have e : (X ++ Q) ++ z :: x :: (P2 ++ Y) = (X ++ Q ++ [z]) ++ x :: (P2 ++ Y) := by simp
      rw [e]; exact rdx _ _ _ _ (by simp; omega)
    have r0 : rdOf z_S26 ((X ++ Q) ++ z :: x :: (P2 ++ Y)) (((X.length + Q.length : Nat) : Int)) = z := rdx _ _ _ _ (by simp)
    have hw : wrap64 (((X.length + Q.length + 1 : Nat) : Int) - 1) = ((X.length + Q.length : Nat) : Int) := by
      rw [w64_in (by omega) (by omega)]; omega
    have hsw := swap_adj (X ++ Q) (P2 ++ Y) z x (X.length + Q.length) (by simp)
    rw [hD, hj]
    refine Ev.step (f := fun k => (restrict_Sort_2.f k x.f0 x.f1 x.f2 z.f0 z.f1 z.f2).bind fun t0 => if t0 < 0 then slices_insertionSortCmpFunc_api_Rule.l1 k (X.length : Int) x2 x8 ((X.length + Q.length : Nat) : Int) ((X ++ Q) ++ x :: z :: (P2 ++ Y)) else slices_insertionSortCmpFunc_api_Rule.l0 k (X.length : Int) x2 (wrap64 (x8 + 1)) ((X ++ Q) ++ z :: x :: (P2 ++ Y))) (fun k => ?_) ?_
    · generalize hDD : (X ++ Q) ++ z :: x :: (P2 ++ Y) = D at *
      rw [slices_insertionSortCmpFunc_api_Rule.l1, if_pos (by omega), if_pos (by omega), if_pos (by omega), hw, if_pos (by omega), if_pos (by omega), r1, r0]
      simp only [List.length_set, Int.toNat_natCast]
      rw [if_pos (by omega), if_pos (by omega), if_pos (by omega), if_pos (by omega), if_pos (by omega), if_pos (by omega), if_pos (by omega), if_pos (by omega), ← hsw]
    · refine Ev.bind (f := fun k t0 => _) (ev_cmp x z) ?_
      by_cases c : cmpV x z < 0
      · have c' := (cmpV_lt x z).1 c
        refine Ev.congr (fun k => if_pos c) ?_
        have := ih Q (z :: P2) r hq (room_of hb (by simp only [List.length_append, List.length_cons, List.length_nil]; omega)) (List.pairwise_append.1 hs).1 (fun y hy => by
          rcases List.mem_cons.1 hy with rfl | hy
          · exact c'
          · exact h2 y hy) (by simpa using h)
        simpa using this
      · have c' : leR z x = true := by
          cases e : leR z x with
          | true => rfl
          | false => exact absurd ((cmpV_lt x z).2 e) c
        refine Ev.congr (fun k => if_neg c) ?_
        have e := mg_right leR x (Q ++ [z]) P2 (fun p hp => by
          rcases List.mem_append.1 hp with hp | hp
          · exact ordR.tr _ _ _ ((List.pairwise_append.1 hs).2.2 p hp z (by simp)) c'
          · rw [List.mem_singleton.1 hp]; exact c') h2
        rw [e] at h
        simpa using h
theorem ins_l0 (X Y : List S26) : ∀ (R P : List S26), room (X ++ P ++ R ++ Y).length → P.Pairwise (fun a b => leR a b = true) →
    Ev (fun k => slices_insertionSortCmpFunc_api_Rule.l0 k (X.length : Int) ((X.length + P.length + R.length : Nat) : Int) ((X.length + P.length : Nat) : Int) (X ++ P ++ R ++ Y)) (X ++ R.foldl (fun P x => List.merge P [x] leR) P ++ Y) := by
  intro R
  induction R with
  | nil =>
    intro P hb hs
    refine Ev.succ fun k => ?_
    rw [slices_insertionSortCmpFunc_api_Rule.l0, if_neg (by simp)]
    simp
  | cons x R ih =>
    intro P hb hs
    have hl : (List.merge P [x] leR).length = P.length + 1 := by simp [(mg_perm (le := leR) P [x]).length_eq]
    have hs2 := mg_sorted ordR hs (List.pairwise_singleton _ x)
    have := ih (List.merge P [x] leR) (room_of hb (by simp only [List.length_append, List.length_cons, hl]; omega)) hs2
    rw [hl] at this
    refine Ev.step (fun k => by rw [slices_insertionSortCmpFunc_api_Rule.l0, if_pos (by simp only [List.length_cons]; omega)]) ?_
    have g := ins_l1 X (R ++ Y) ((X.length + P.length + (x :: R).length : Nat) : Int) ((X.length + P.length : Nat) : Int) x P.length P [] (X ++ (x :: R).foldl (fun P x => List.merge P [x] leR) P ++ Y) rfl (room_of hb (by simp only [List.length_append, List.length_cons, List.length_nil]; omega)) hs (by simp) (by
      have hw : wrap64 (((X.length + P.length : Nat) : Int) + 1) = ((X.length + (P.length + 1) : Nat) : Int) := by
        unfold room at hb
        simp only [List.length_append, List.length_cons] at hb
        rw [w64_in (by omega) (by omega)]; omega
      rw [hw]
      have hx : ((X.length + P.length + (x :: R).length : Nat) : Int) = ((X.length + (P.length + 1) + R.length : Nat) : Int) := by simp only [List.length_cons]; omega
      rw [hx]
      simpa using this)
    simpa using g
theorem ev_isort (X B Y : List S26) (hb : room (X ++ B ++ Y).length) (a b : Int) (ha : a = (X.length : Int)) (hb2 : b = ((X.length + B.length : Nat) : Int)) :
    Ev (fun k => slices_insertionSortCmpFunc_api_Rule.f k a b (X ++ B ++ Y)) (X ++ isort leR B ++ Y) := by
  subst ha hb2
  unfold slices_insertionSortCmpFunc_api_Rule.f
  have hw : wrap64 ((X.length : Int) + 1) = ((X.length + 1 : Nat) : Int) := by
    unfold room at hb
    simp only [List.length_append] at hb
    rw [w64_in (by omega) (by omega)]; omega
  rw [hw]
  cases B with
  | nil =>
    refine Ev.succ fun k => ?_
    rw [slices_insertionSortCmpFunc_api_Rule.l0, if_neg (by simp only [List.length_nil]; omega)]
    rfl
  | cons d B =>
    have := ins_l0 X Y B [d] (by simpa using hb) (List.pairwise_singleton _ d)
    have e : isort leR (d :: B) = B.foldl (fun P x => List.merge P [x] leR) [d] := by
      unfold isort; rw [List.foldl_cons, mg_nil_left]
    rw [e]
    have hx : ((X.length + (d :: B).length : Nat) : Int) = ((X.length + [d].length + B.length : Nat) : Int) := by simp only [List.length_cons, List.length_nil]; omega
    rw [hx]
    simpa using this
end Go.Proofs.Ytjfcfljdojkcdaa.Q
