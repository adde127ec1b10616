/- Plain lemmas on the printed functions: whole numbers and lists, no program in sight. -/
import Derived.Test.YtigcmpmpjmbfkaaPc
import Derived.Laws.BitsLemmas
namespace Go.Proofs.Ytigcmpmpjmbfkaa.Q
open Go Go.RowKit Go.Proofs.Ytigcmpmpjmbfkaa.Ev
set_option linter.unusedVariables false
set_option linter.unusedSimpArgs false
set_option maxRecDepth 100000
theorem Ev.uniq {α : Type} {g : Nat → Option α} {r s : α} (h : Ev g r) (h' : Ev g s) : r = s := by
  obtain ⟨K, h⟩ := h; obtain ⟨L, h'⟩ := h'
  have h1 := h (max K L) (by omega); have h2 := h' (max K L) (by omega)
  rw [h1] at h2; exact Option.some.inj h2
theorem Ev.bs {α β : Type} {f : Nat → α → Option β} {a : α} {r : β} (h : Ev (fun k => f k a) r) : Ev (fun k => (some a).bind (f k)) r := Ev.bind (Ev.now a) h
theorem wrap_succ (i : Nat) (h : (i : Int) < 9223372036854775807) : wrap64 ((i : Int) + 1) = ((i + 1 : Nat) : Int) := by
  rw [w64_in (by omega) (by omega)]; rfl
theorem bif_b {α : Type} (p : Bool) (a b : α) : (bif p then a else b) = if p = true then a else b := by
  cases p <;> rfl
theorem bif_nb {α : Type} (p : Bool) (a b : α) : (bif !p then a else b) = if p = true then b else a := by
  cases p <;> rfl
theorem lt_eq {α β : Type} (x : α) (f : α → β) : lt x f = f x := rfl
/-! ### merging, in plain lists -/
section
variable {α : Type} (le : α → α → Bool)
theorem mg_nil_left (B : List α) : List.merge [] B le = B := by cases B <;> simp [List.merge]
theorem mg_nil_right (A : List α) : List.merge A [] le = A := by cases A <;> simp [List.merge]
theorem mg_split : ∀ (n : Nat) (A1 A2 B1 B2 : List α), A1.length + B1.length = n → (∀ x ∈ A2, ∀ y ∈ B1, le x y = false) → (∀ x ∈ A1, ∀ y ∈ B2, le x y = true) →
    List.merge (A1 ++ A2) (B1 ++ B2) le = List.merge A1 B1 le ++ List.merge A2 B2 le
  | 0, [], A2, [], B2, _, _, _ => by simp [mg_nil_left]
  | 0, x :: A1, A2, B1, B2, hn, _, _ => by simp at hn
  | 0, [], A2, y :: B1, B2, hn, _, _ => by simp at hn
  | n + 1, [], [], y :: B1, B2, _, _, _ => by simp [mg_nil_left]
  | n + 1, [], x :: A2, y :: B1, B2, hn, h1, h2 => by
    have e := h1 x (by simp) y (by simp)
    have ih := mg_split n [] (x :: A2) B1 B2 (by simp at hn ⊢; omega) (fun x hx y hy => h1 x hx y (by simp [hy])) (by simp)
    rw [mg_nil_left] at ih ⊢
    simp only [List.nil_append, List.cons_append] at ih ⊢
    rw [List.merge, e]
    simp only [Bool.false_eq_true, if_false]
    rw [ih]
  | n + 1, x :: A1, A2, [], [], hn, h1, h2 => by simp [mg_nil_right]
  | n + 1, x :: A1, A2, [], y :: B2, hn, h1, h2 => by
    have e := h2 x (by simp) y (by simp)
    have ih := mg_split n A1 A2 [] (y :: B2) (by simp at hn ⊢; omega) (by simp) (fun x hx y hy => h2 x (by simp [hx]) y hy)
    rw [mg_nil_right] at ih ⊢
    simp only [List.nil_append, List.cons_append] at ih ⊢
    rw [List.merge, e]
    simp only [if_true]
    rw [ih]
  | n + 1, x :: A1, A2, y :: B1, B2, hn, h1, h2 => by
    simp only [List.cons_append]
    rw [List.merge, List.merge]
    by_cases e : le x y = true
    · rw [if_pos e, if_pos e]
      have ih := mg_split n A1 A2 (y :: B1) B2 (by simp at hn ⊢; omega) h1 (fun x hx y hy => h2 x (by simp [hx]) y hy)
      simp only [List.cons_append] at ih ⊢
      rw [ih]
    · rw [if_neg e, if_neg e]
      have ih := mg_split n (x :: A1) A2 B1 B2 (by simp at hn ⊢; omega) (fun x hx y hy => h1 x hx y (by simp [hy])) h2
      simp only [List.cons_append] at ih ⊢
      rw [ih]
theorem mg_left (x : α) (B1 B2 : List α) (h1 : ∀ y ∈ B1, le x y = false) (h2 : ∀ y ∈ B2, le x y = true) : List.merge [x] (B1 ++ B2) le = B1 ++ x :: B2 := by
  have a := mg_split le _ [] [x] B1 B2 rfl (fun z hz y hy => by rw [List.mem_singleton.1 hz]; exact h1 y hy) (by simp)
  have b := mg_split le _ [x] [] [] B2 rfl (by simp) (fun z hz y hy => by rw [List.mem_singleton.1 hz]; exact h2 y hy)
  rw [mg_nil_left] at a
  simp only [List.nil_append, List.append_nil] at a b
  rw [a, b, mg_nil_right, mg_nil_left]
  rfl
theorem mg_right (y : α) (A1 A2 : List α) (h1 : ∀ x ∈ A1, le x y = true) (h2 : ∀ x ∈ A2, le x y = false) : List.merge (A1 ++ A2) [y] le = A1 ++ y :: A2 := by
  have a := mg_split le _ A1 A2 [] [y] rfl (by simp) (fun z hz w hw => by rw [List.mem_singleton.1 hw]; exact h1 z hz)
  have b := mg_split le _ [] A2 [y] [] rfl (fun z hz w hw => by rw [List.mem_singleton.1 hw]; exact h2 z hz) (by simp)
  rw [mg_nil_right] at a
  simp only [List.nil_append, List.append_nil] at a b
  rw [a, b, mg_nil_left, mg_nil_right]
  rfl
/-- The stable sort of a block: each is put behind those that are not above it. -/
def isort (l : List α) : List α := l.foldl (fun P x => List.merge P [x] le) []
structure Ord : Prop where
  tr : ∀ a b c, le a b = true → le b c = true → le a c = true
  tot : ∀ a b, (le a b || le b a) = true
variable {le}
theorem Ord.refl (o : Ord le) (a : α) : le a a = true := by have := o.tot a a; simpa using this
theorem Ord.conv (o : Ord le) {a b : α} (h : le a b = false) : le b a = true := by have := o.tot a b; rw [h] at this; simpa using this
theorem mg_sorted (o : Ord le) {A B : List α} (hA : A.Pairwise (fun a b => le a b = true)) (hB : B.Pairwise (fun a b => le a b = true)) : (List.merge A B le).Pairwise (fun a b => le a b = true) :=
  List.pairwise_merge o.tr o.tot A B hA hB
theorem mg_perm (A B : List α) : (List.merge A B le).Perm (A ++ B) := List.merge_perm_append le
theorem isort_aux (o : Ord le) : ∀ (l P : List α), P.Pairwise (fun a b => le a b = true) → (l.foldl (fun P x => List.merge P [x] le) P).Pairwise (fun a b => le a b = true) ∧ (l.foldl (fun P x => List.merge P [x] le) P).Perm (P ++ l)
  | [], P, h => ⟨h, by simp⟩
  | x :: l, P, h => by
    have ih := isort_aux o l (List.merge P [x] le) (mg_sorted o h (by simp))
    refine ⟨ih.1, ih.2.trans ?_⟩
    have := (mg_perm (le := le) P [x]).append_right l
    simpa using this
theorem isort_sorted (o : Ord le) (l : List α) : (isort le l).Pairwise (fun a b => le a b = true) := (isort_aux o l [] List.Pairwise.nil).1
theorem isort_perm (o : Ord le) (l : List α) : (isort le l).Perm l := (isort_aux o l [] List.Pairwise.nil).2
end
/-! ### rules in order: the comparison, the sort of a block -/
def leR (a b : S53) : Bool := decide (a.f7 < b.f7 ∨ (a.f7 = b.f7 ∧ a.f0 ≤ b.f0))
theorem ordR : Ord leR where
  tr a b c h1 h2 := by
    simp only [leR, decide_eq_true_eq] at *
    omega
  tot a b := by
    simp only [leR, Bool.or_eq_true, decide_eq_true_eq]
    omega
def cmpI (a b : Int) : Int := if a < b then -1 else if a > b then 1 else 0
def cmpV (x y : S53) : Int := if ¬ cmpI x.f7 y.f7 = 0 then cmpI x.f7 y.f7 else cmpI x.f0 y.f0
theorem cmpV_lt (x y : S53) : cmpV x y < 0 ↔ leR y x = false := by
  simp only [leR, decide_eq_false_iff_not, cmpV, cmpI]
  (repeat' split) <;> omega
theorem cmp1 (a b : Int) : cmp_Compare_api_Span.f a b = some (cmpI a b) := by
  unfold cmp_Compare_api_Span.f cmp_isNaN_api_Span.f cmpI
  simp only [not_true, decide_false, bsome, cond_false]
  (repeat' split) <;> rfl
theorem cmp2 (a b : Int) : cmp_Compare_int.f a b = some (cmpI a b) := by
  unfold cmp_Compare_int.f cmp_isNaN_int.f cmpI
  simp only [not_true, decide_false, bsome, cond_false]
  (repeat' split) <;> rfl
theorem or_val (c d : Int) (k : Nat) : cmp_Or_int.f (k + 3) [c, d] = some (if ¬ c = 0 then c else d) := by
  unfold cmp_Or_int.f
  have hl : (([c, d] : List Int).length : Int) = 2 := rfl
  have h0 : rd [c, d] 0 = c := rfl
  have h1 : rd [c, d] 1 = d := rfl
  have w1 : wrap64 (0 + 1) = 1 := by kernel_rfl
  have w2 : wrap64 (1 + 1) = 2 := by kernel_rfl
  rw [hl, cmp_Or_int.l0, hl, h0, w1]
  by_cases e : c = 0
  · rw [if_pos (by decide), if_pos (by decide), if_pos (by decide), if_neg (fun h => h e), if_neg (fun h => h e), cmp_Or_int.l0, hl, h1, w2]
    by_cases e2 : d = 0
    · rw [if_pos (by decide), if_pos (by decide), if_pos (by decide), if_neg (fun h => h e2), cmp_Or_int.l0, if_neg (by decide), e2]
    · rw [if_pos (by decide), if_pos (by decide), if_pos (by decide), if_pos e2]
  · rw [if_pos (by decide), if_pos (by decide), if_pos (by decide), if_pos e, if_pos e]
theorem ev_cmpS (x y : S53) : Ev (fun k => cluster_byMerit_1.f k x.f0 x.f1 x.f2 x.f3 x.f4 x.f5 x.f6 x.f7 y.f0 y.f1 y.f2 y.f3 y.f4 y.f5 y.f6 y.f7) (cmpV x y) := ⟨3, fun k hk => by
  obtain ⟨m, rfl⟩ : ∃ m, k = m + 3 := ⟨k - 3, by omega⟩
  unfold cluster_byMerit_1.f cmpV
  rw [cmp1, cmp2]
  simp only [bsome, or_val]⟩
/-! reading and writing at a place -/
theorem rdx (X Y : List S53) (u : S53) (i : Int) (h : i = (X.length : Int)) : rdOf z_S53 (X ++ u :: Y) i = u := by
  subst h; simp [rdOf]
theorem setx (X Y : List S53) (u v : S53) (i : Nat) (h : i = X.length) : (X ++ u :: Y).set i v = X ++ v :: Y := by
  subst h; simp
theorem swap_adj (X Y : List S53) (u v : S53) (i : Nat) (h : i = X.length) : ((X ++ u :: v :: Y).set (i + 1) u).set i v = X ++ v :: u :: Y := by
  have e : X ++ u :: v :: Y = (X ++ [u]) ++ v :: Y := by simp
  rw [e, setx (X ++ [u]) Y v u (i + 1) (by simp [h])]
  have e2 : (X ++ [u]) ++ u :: Y = X ++ u :: u :: Y := by simp
  rw [e2, setx X (u :: Y) u v i h]
def room (n : Nat) : Prop := n ≤ 1000000000000
theorem room_of {m n : Nat} (h : room m) (e : n ≤ m) : room n := by unfold room at *; omega
theorem ins_l1 (X Y : List S53) (x2 x8 : Int) (x : S53) : ∀ (n : Nat) (P1 P2 : List S53) (r), P1.length = n → room (X ++ P1 ++ P2 ++ Y).length → P1.Pairwise (fun a b => leR a b = true) → (∀ y ∈ P2, leR y x = false) →
    Ev (fun k => slices_insertionSortCmpFunc_cluster_rated.l0 k (X.length : Int) x2 (wrap64 (x8 + 1)) (X ++ List.merge (P1 ++ P2) [x] leR ++ Y)) r →
    Ev (fun k => slices_insertionSortCmpFunc_cluster_rated.l1 k (X.length : Int) x2 x8 (((X.length + P1.length : Nat) : Int)) ((X ++ P1) ++ x :: (P2 ++ Y))) r := by
  intro n
  induction n with
  | zero =>
    intro P1 P2 r hn hb hs h2 h
    obtain rfl : P1 = [] := List.length_eq_zero_iff.1 hn
    have e := mg_right leR x [] P2 (by simp) h2
    simp only [List.nil_append] at e h
    rw [e] at h
    refine Ev.step (fun k => ?_) h
    rw [slices_insertionSortCmpFunc_cluster_rated.l1, if_neg (by simp)]
    simp
  | succ n ih =>
    intro P1 P2 r hn hb hs h2 h
    obtain ⟨Q, z, rfl⟩ : ∃ Q z, P1 = Q ++ [z] := by
      rcases List.eq_nil_or_concat P1 with e | ⟨Q, z, e⟩
      · rw [e] at hn; simp at hn
      · exact ⟨Q, z, by rw [e, List.concat_eq_append]⟩
    have hq : Q.length = n := by simpa using hn
    have hD : (X ++ (Q ++ [z])) ++ x :: (P2 ++ Y) = (X ++ Q) ++ z :: x :: (P2 ++ Y) := by simp
    have hlen : ((X ++ Q) ++ z :: x :: (P2 ++ Y)).length ≤ 1000000000001 := by
      unfold room at hb
      simp only [List.length_append, List.length_cons, List.length_nil] at hb ⊢; omega
    have hlen2 : X.length + Q.length + 2 ≤ ((X ++ Q) ++ z :: x :: (P2 ++ Y)).length := by
      simp only [List.length_append, List.length_cons]; omega
    have hj : ((X.length + (Q ++ [z]).length : Nat) : Int) = ((X.length + Q.length + 1 : Nat) : Int) := by simp; omega
    have r1 : rdOf z_S53 ((X ++ Q) ++ z :: x :: (P2 ++ Y)) (((X.length + Q.length + 1 : Nat) : Int)) = x := by
      have e : (X ++ Q) ++ z :: x :: (P2 ++ Y) = (X ++ Q ++ [z]) ++ x :: (P2 ++ Y) := by simp
      rw [e]; exact rdx _ _ _ _ (by simp; omega)
    have r0 : rdOf z_S53 ((X ++ Q) ++ z :: x :: (P2 ++ Y)) (((X.length + Q.length : Nat) : Int)) = z := rdx _ _ _ _ (by simp)
    have hw : wrap64 (((X.length + Q.length + 1 : Nat) : Int) - 1) = ((X.length + Q.length : Nat) : Int) := by
      rw [w64_in (by omega) (by omega)]; omega
    have hsw := swap_adj (X ++ Q) (P2 ++ Y) z x (X.length + Q.length) (by simp)
    rw [hD, hj]
    refine Ev.step (f := fun k => (cluster_byMerit_1.f k x.f0 x.f1 x.f2 x.f3 x.f4 x.f5 x.f6 x.f7 z.f0 z.f1 z.f2 z.f3 z.f4 z.f5 z.f6 z.f7).bind fun t0 => if t0 < 0 then slices_insertionSortCmpFunc_cluster_rated.l1 k (X.length : Int) x2 x8 ((X.length + Q.length : Nat) : Int) ((X ++ Q) ++ x :: z :: (P2 ++ Y)) else slices_insertionSortCmpFunc_cluster_rated.l0 k (X.length : Int) x2 (wrap64 (x8 + 1)) ((X ++ Q) ++ z :: x :: (P2 ++ Y))) (fun k => ?_) ?_
    · generalize hDD : (X ++ Q) ++ z :: x :: (P2 ++ Y) = D at *
      rw [slices_insertionSortCmpFunc_cluster_rated.l1, if_pos (by omega), if_pos (by omega), if_pos (by omega), hw, if_pos (by omega), if_pos (by omega), r1, r0]
      simp only [lt, List.length_set, Int.toNat_natCast]
      rw [if_pos (by omega), if_pos (by omega), if_pos (by omega), if_pos (by omega), if_pos (by omega), if_pos (by omega), if_pos (by omega), if_pos (by omega), ← hsw]
    · refine Ev.bind (f := fun k t0 => _) (ev_cmpS x z) ?_
      by_cases c : cmpV x z < 0
      · have c' := (cmpV_lt x z).1 c
        refine Ev.congr (fun k => if_pos c) ?_
        have := ih Q (z :: P2) r hq (room_of hb (by simp only [List.length_append, List.length_cons, List.length_nil]; omega)) (List.pairwise_append.1 hs).1 (fun y hy => by
          rcases List.mem_cons.1 hy with rfl | hy
          · exact c'
          · exact h2 y hy) (by simpa using h)
        simpa using this
      · have c' : leR z x = true := by
          cases e : leR z x with
          | true => rfl
          | false => exact absurd ((cmpV_lt x z).2 e) c
        refine Ev.congr (fun k => if_neg c) ?_
        have e := mg_right leR x (Q ++ [z]) P2 (fun p hp => by
          rcases List.mem_append.1 hp with hp | hp
          · exact ordR.tr _ _ _ ((List.pairwise_append.1 hs).2.2 p hp z (by simp)) c'
          · rw [List.mem_singleton.1 hp]; exact c') h2
        rw [e] at h
        simpa using h
theorem ins_l0 (X Y : List S53) : ∀ (R P : List S53), room (X ++ P ++ R ++ Y).length → P.Pairwise (fun a b => leR a b = true) →
    Ev (fun k => slices_insertionSortCmpFunc_cluster_rated.l0 k (X.length : Int) ((X.length + P.length + R.length : Nat) : Int) ((X.length + P.length : Nat) : Int) (X ++ P ++ R ++ Y)) (X ++ R.foldl (fun P x => List.merge P [x] leR) P ++ Y) := by
  intro R
  induction R with
  | nil =>
    intro P hb hs
    refine Ev.succ fun k => ?_
    rw [slices_insertionSortCmpFunc_cluster_rated.l0, if_neg (by simp)]
    simp
  | cons x R ih =>
    intro P hb hs
    have hl : (List.merge P [x] leR).length = P.length + 1 := by simp [(mg_perm (le := leR) P [x]).length_eq]
    have hs2 := mg_sorted ordR hs (List.pairwise_singleton _ x)
    have := ih (List.merge P [x] leR) (room_of hb (by simp only [List.length_append, List.length_cons, hl]; omega)) hs2
    rw [hl] at this
    refine Ev.step (fun k => by rw [slices_insertionSortCmpFunc_cluster_rated.l0, if_pos (by simp only [List.length_cons]; omega)]) ?_
    have g := ins_l1 X (R ++ Y) ((X.length + P.length + (x :: R).length : Nat) : Int) ((X.length + P.length : Nat) : Int) x P.length P [] (X ++ (x :: R).foldl (fun P x => List.merge P [x] leR) P ++ Y) rfl (room_of hb (by simp only [List.length_append, List.length_cons, List.length_nil]; omega)) hs (by simp) (by
      have hw : wrap64 (((X.length + P.length : Nat) : Int) + 1) = ((X.length + (P.length + 1) : Nat) : Int) := by
        unfold room at hb
        simp only [List.length_append, List.length_cons] at hb
        rw [w64_in (by omega) (by omega)]; omega
      rw [hw]
      have hx : ((X.length + P.length + (x :: R).length : Nat) : Int) = ((X.length + (P.length + 1) + R.length : Nat) : Int) := by simp only [List.length_cons]; omega
      rw [hx]
      simpa using this)
    simpa using g
theorem ev_isort (X B Y : List S53) (hb : room (X ++ B ++ Y).length) (a b : Int) (ha : a = (X.length : Int)) (hb2 : b = ((X.length + B.length : Nat) : Int)) :
    Ev (fun k => slices_insertionSortCmpFunc_cluster_rated.f k a b (X ++ B ++ Y)) (X ++ isort leR B ++ Y) := by
  subst ha hb2
  unfold slices_insertionSortCmpFunc_cluster_rated.f
  have hw : wrap64 ((X.length : Int) + 1) = ((X.length + 1 : Nat) : Int) := by
    unfold room at hb
    simp only [List.length_append] at hb
    rw [w64_in (by omega) (by omega)]; omega
  rw [hw]
  cases B with
  | nil =>
    refine Ev.succ fun k => ?_
    rw [slices_insertionSortCmpFunc_cluster_rated.l0, if_neg (by simp only [List.length_nil]; omega)]
    rfl
  | cons d B =>
    have := ins_l0 X Y B [d] (by simpa using hb) (List.pairwise_singleton _ d)
    have e : isort leR (d :: B) = B.foldl (fun P x => List.merge P [x] leR) [d] := by
      unfold isort; rw [List.foldl_cons, mg_nil_left]
    rw [e]
    have hx : ((X.length + (d :: B).length : Nat) : Int) = ((X.length + [d].length + B.length : Nat) : Int) := by simp only [List.length_cons, List.length_nil]; omega
    rw [hx]
    simpa using this
end Go.Proofs.Ytigcmpmpjmbfkaa.Q
