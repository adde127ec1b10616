/- Plain lemmas on the printed functions: whole numbers and lists, no program in sight. -/
import Derived.Test.YtjfcfljdojkcdaaSc
import Derived.Laws.BitsLemmas
namespace Go.Proofs.Ytjfcfljdojkcdaa.Q
open Go Go.RowKit Go.Proofs.Ytjfcfljdojkcdaa.Ev
set_option linter.unusedVariables false
set_option linter.unusedSimpArgs false
set_option maxRecDepth 100000
/-! ### two sorted blocks made one -/
theorem midv (x y : Nat) (h : x + y ≤ 4000000000000) : wrap64 ((IntKind.u64.wrap (wrap64 ((x : Int) + (y : Int)))) / 2) = (((x + y) / 2 : Nat) : Int) := by
  rw [wadd x y h, u64_in (by omega) (by omega), w64_in (by omega) (by omega)]; omega
theorem rdseg (X S Y : List S26) (i : Nat) (h : i < S.length) (j : Int) (hj : j = ((X.length + i : Nat) : Int)) : rdOf z_S26 (X ++ S ++ Y) j = S[i] := by
  have t : S ++ Y = S.take i ++ (S[i] :: (S.drop (i + 1) ++ Y)) := by
    calc S ++ Y = (S.take i ++ S.drop i) ++ Y := by rw [List.take_append_drop]
      _ = _ := by rw [List.drop_eq_getElem_cons h, List.append_assoc, List.cons_append]
  have e : X ++ S ++ Y = (X ++ S.take i) ++ S[i] :: (S.drop (i + 1) ++ Y) := by
    rw [List.append_assoc, t, ← List.append_assoc]
  rw [e]
  refine rdx _ _ _ _ ?_
  rw [hj, List.length_append, List.length_take, Nat.min_eq_left (Nat.le_of_lt h)]
abbrev Srt (A : List S26) : Prop := A.Pairwise (fun a b => leR a b = true)
theorem srt_take {B : List S26} (hs : Srt B) (q : Nat) (h : q < B.length) : ∀ y ∈ B.take (q + 1), leR y B[q] = true := by
  intro y hy
  rw [List.take_succ_eq_append_getElem h] at hy
  rcases List.mem_append.1 hy with hy | hy
  · have hs' : Srt (B.take q ++ B.drop q) := by rw [List.take_append_drop]; exact hs
    refine (List.pairwise_append.1 hs').2.2 y hy B[q] ?_
    rw [List.drop_eq_getElem_cons h]; exact List.mem_cons_self
  · rw [List.mem_singleton.1 hy]; exact ordR.refl _
theorem srt_drop {B : List S26} (hs : Srt B) (q : Nat) (h : q < B.length) : ∀ y ∈ B.drop q, leR B[q] y = true := by
  intro y hy
  have hs' : Srt (B.drop q) := hs.sublist (List.drop_sublist q B)
  rw [List.drop_eq_getElem_cons h] at hy hs'
  rcases List.mem_cons.1 hy with rfl | hy
  · exact ordR.refl _
  · exact (List.pairwise_cons.1 hs').1 y hy
theorem not_le {x y z : S26} (h : leR x z = false) (hy : leR y z = true) : leR x y = false := by
  cases e : leR x y with
  | false => rfl
  | true => rw [ordR.tr _ _ _ e hy] at h; cases h
theorem not_le2 {x y z : S26} (h : leR x z = false) (hy : leR x y = true) : leR y z = false := by
  cases e : leR y z with
  | false => rfl
  | true => rw [ordR.tr _ _ _ hy e] at h; cases h
theorem cmp_false {x y : S26} (h : leR y x = false) : cmpV x y < 0 := (cmpV_lt x y).2 h
theorem cmp_true {x y : S26} (h : leR y x = true) : ¬ cmpV x y < 0 := fun c => by rw [(cmpV_lt x y).1 c] at h; cases h
/-! one goes up, or down -/
theorem l4_val (x : S26) (Y : List S26) (i : Nat) : ∀ (R X : List S26), X.length + R.length + 1 = i → room (X ++ x :: (R ++ Y)).length →
    Ev (fun k => slices_symMergeCmpFunc_api_Rule.l4 k (i : Int) (X.length : Int) (X ++ x :: (R ++ Y))) (X ++ R ++ x :: Y) := by
  intro R
  induction R with
  | nil =>
    intro X hi hr
    have hw : wrap64 ((i : Int) - 1) = (X.length : Int) := by
      have hr' := hr; unfold room at hr'; simp only [List.length_append, List.length_cons] at hr'
      exact wsubv i 1 X.length (by simp only [List.length_nil] at hi; omega) (by simp only [List.length_nil] at hi; omega)
    refine Ev.succ fun k => ?_
    rw [slices_symMergeCmpFunc_api_Rule.l4, hw, if_neg (Int.lt_irrefl _)]
    simp
  | cons z R ih =>
    intro X hi hr
    have hr' := hr; unfold room at hr'; simp only [List.length_append, List.length_cons] at hr'
    simp only [List.length_cons] at hi
    have hw : wrap64 ((i : Int) - 1) = ((X.length + R.length + 1 : Nat) : Int) := wsubv i 1 _ (by omega) (by omega)
    have hw1 : wrap64 ((X.length : Int) + 1) = ((X.length + 1 : Nat) : Int) := wadd X.length 1 (by omega)
    clear hr'
    have r0 : rdOf z_S26 (X ++ x :: (z :: R ++ Y)) (X.length : Int) = x := rdx _ _ _ _ rfl
    have r1 : rdOf z_S26 (X ++ x :: (z :: R ++ Y)) ((X.length + 1 : Nat) : Int) = z := by
      have e : X ++ x :: (z :: R ++ Y) = (X ++ [x]) ++ z :: (R ++ Y) := by simp
      rw [e]; exact rdx _ _ _ _ (by simp)
    have sw : ((X ++ x :: (z :: R ++ Y)).set X.length z).set (X.length + 1) x = (X ++ [z]) ++ x :: (R ++ Y) := by
      rw [setx X _ x z X.length rfl]
      have e : X ++ z :: (z :: R ++ Y) = (X ++ [z]) ++ z :: (R ++ Y) := by simp
      rw [e, setx _ _ _ _ _ (by simp)]
    have hl : X.length + 1 < (X ++ x :: (z :: R ++ Y)).length := by simp only [List.length_append, List.length_cons]; omega
    have g := ih (X ++ [z]) (by simp only [List.length_append, List.length_cons, List.length_nil]; omega) (room_of hr (by simp only [List.length_append, List.length_cons, List.length_nil]; omega))
    have g : Ev (fun k => slices_symMergeCmpFunc_api_Rule.l4 k (i : Int) ((X.length + 1 : Nat) : Int) ((X ++ [z]) ++ x :: (R ++ Y))) (X ++ z :: R ++ x :: Y) := by
      have e : ((X ++ [z]).length : Int) = ((X.length + 1 : Nat) : Int) := by simp
      rw [e] at g; simpa using g
    refine Ev.step (fun k => ?_) g
    rw [← sw]
    have h1 : (X.length : Int) < ((X.length + R.length + 1 : Nat) : Int) := Int.ofNat_lt.2 (by omega)
    clear g ih hr hi sw
    generalize X ++ x :: (z :: R ++ Y) = D at *
    have z1 : (0 : Int) ≤ ((X.length + 1 : Nat) : Int) := Int.natCast_nonneg _
    have z0 : (0 : Int) ≤ ((X.length : Nat) : Int) := Int.natCast_nonneg _
    have l1 : ((X.length + 1 : Nat) : Int) < (D.length : Int) := Int.ofNat_lt.2 hl
    have l0 : ((X.length : Nat) : Int) < (D.length : Int) := Int.ofNat_lt.2 (Nat.lt_of_succ_lt hl)
    rw [slices_symMergeCmpFunc_api_Rule.l4, hw, if_pos h1, hw1, if_pos z1, if_pos l1, if_pos z0, if_pos l0, if_pos z0, if_pos l0, if_pos z1, if_pos (by rw [List.length_set]; exact l1), r0, r1]
    rfl
theorem l2_val (y : S26) (X : List S26) : ∀ (n : Nat) (R Y : List S26), R.length = n → room (X ++ R ++ y :: Y).length →
    Ev (fun k => slices_symMergeCmpFunc_api_Rule.l2 k (X.length : Int) ((X.length + R.length : Nat) : Int) (X ++ R ++ y :: Y)) (X ++ y :: (R ++ Y)) := by
  intro n
  induction n with
  | zero =>
    intro R Y hn hr
    obtain rfl : R = [] := List.length_eq_zero_iff.1 hn
    refine Ev.succ fun k => ?_
    rw [slices_symMergeCmpFunc_api_Rule.l2, if_neg (by simp)]
    simp
  | succ n ih =>
    intro R Y hn hr
    obtain ⟨Q, z, rfl⟩ : ∃ Q z, R = Q ++ [z] := by
      rcases List.eq_nil_or_concat R with e | ⟨Q, z, e⟩
      · rw [e] at hn; simp at hn
      · exact ⟨Q, z, by rw [e, List.concat_eq_append]⟩
    have hq : Q.length = n := by simpa using hn
    have hD : X ++ (Q ++ [z]) ++ y :: Y = (X ++ Q) ++ z :: y :: Y := by simp
    have hr' := hr; unfold room at hr'; simp only [List.length_append, List.length_cons, List.length_nil] at hr'
    have hj : ((X.length + (Q ++ [z]).length : Nat) : Int) = ((X.length + Q.length + 1 : Nat) : Int) := by simp; omega
    have hw : wrap64 (((X.length + Q.length + 1 : Nat) : Int) - 1) = ((X.length + Q.length : Nat) : Int) := wsubv (X.length + Q.length + 1) 1 _ (by omega) (by omega)
    have g := ih Q (z :: Y) hq (room_of hr (by simp only [List.length_append, List.length_cons, List.length_nil]; omega))
    have hl : X.length + Q.length + 1 < ((X ++ Q) ++ z :: y :: Y).length := by simp only [List.length_append, List.length_cons]; omega
    clear hr'
    have r1 : rdOf z_S26 ((X ++ Q) ++ z :: y :: Y) (((X.length + Q.length + 1 : Nat) : Int)) = y := by
      have e : (X ++ Q) ++ z :: y :: Y = (X ++ Q ++ [z]) ++ y :: Y := by simp
      rw [e]; exact rdx _ _ _ _ (by simp only [List.length_append, List.length_cons, List.length_nil])
    have r0 : rdOf z_S26 ((X ++ Q) ++ z :: y :: Y) (((X.length + Q.length : Nat) : Int)) = z := rdx _ _ _ _ (by simp)
    have sw := swap_adj (X ++ Q) Y z y (X.length + Q.length) (by simp)
    rw [hD, hj]
    have g : Ev (fun k => slices_symMergeCmpFunc_api_Rule.l2 k (X.length : Int) ((X.length + Q.length : Nat) : Int) ((X ++ Q) ++ y :: z :: Y)) (X ++ y :: (Q ++ [z] ++ Y)) := by simpa using g
    refine Ev.step (fun k => ?_) g
    rw [← sw]
    have h1 : ((X.length + Q.length + 1 : Nat) : Int) > (X.length : Int) := Int.ofNat_lt.2 (by omega)
    clear g ih hr hn sw hD hj
    generalize (X ++ Q) ++ z :: y :: Y = D at *
    have z1 : (0 : Int) ≤ ((X.length + Q.length + 1 : Nat) : Int) := Int.natCast_nonneg _
    have z0 : (0 : Int) ≤ ((X.length + Q.length : Nat) : Int) := Int.natCast_nonneg _
    have l1 : ((X.length + Q.length + 1 : Nat) : Int) < (D.length : Int) := Int.ofNat_lt.2 hl
    have l0 : ((X.length + Q.length : Nat) : Int) < (D.length : Int) := Int.ofNat_lt.2 (Nat.lt_of_succ_lt hl)
    rw [slices_symMergeCmpFunc_api_Rule.l2, if_pos h1, hw, if_pos z0, if_pos l0, if_pos z1, if_pos l1, if_pos z1, if_pos l1, if_pos z0, if_pos (by rw [List.length_set]; exact l0), r0, r1]
    rfl
/-! where one goes -/
theorem l3_val (X B Y : List S26) (x : S26) (hs : Srt B) (hr : room (X ++ x :: (B ++ Y)).length) : ∀ (d p q : Nat), q - p = d → p ≤ q → q ≤ B.length → (∀ y ∈ B.take p, leR x y = false) → (∀ y ∈ B.drop q, leR x y = true) →
    Ev (fun k => slices_symMergeCmpFunc_api_Rule.l3 k (X.length : Int) ((X.length + 1 + p : Nat) : Int) ((X.length + 1 + q : Nat) : Int) (X ++ x :: (B ++ Y))) (X ++ List.merge [x] B leR ++ Y) := by
  intro d
  induction d using Nat.strongRecOn with
  | ind d ih =>
    intro p q hd hpq hq hlo hhi
    by_cases c : p = q
    · subst c
      have e := mg_left leR x (B.take p) (B.drop p) hlo hhi
      rw [List.take_append_drop] at e
      rw [e]
      refine Ev.step (fun k => by rw [slices_symMergeCmpFunc_api_Rule.l3, if_neg (Int.lt_irrefl _)]) ?_
      have eB : B ++ Y = B.take p ++ (B.drop p ++ Y) := by rw [← List.append_assoc, List.take_append_drop]
      have g := l4_val x (B.drop p ++ Y) (X.length + 1 + p) (B.take p) X (by rw [List.length_take, Nat.min_eq_left hq]; omega) (by rw [← eB]; exact hr)
      rw [← eB] at g
      simpa using g
    · have hlt : p < q := by omega
      have hr' := hr; unfold room at hr'; simp only [List.length_append, List.length_cons] at hr'
      obtain ⟨h, hh⟩ : ∃ h, h = (p + q) / 2 := ⟨_, rfl⟩
      have hmid : wrap64 ((IntKind.u64.wrap (wrap64 (((X.length + 1 + p : Nat) : Int) + ((X.length + 1 + q : Nat) : Int)))) / 2) = ((X.length + 1 + h : Nat) : Int) := by
        rw [midv _ _ (by omega)]; congr 1; omega
      have hh1 : p ≤ h ∧ h < q := by omega
      have hw1 : wrap64 (((X.length + 1 + h : Nat) : Int) + 1) = ((X.length + 1 + (h + 1) : Nat) : Int) := wadd _ 1 (by omega)
      have hl : X.length + 1 + h < (X ++ x :: (B ++ Y)).length := by simp only [List.length_append, List.length_cons]; omega
      have hi : ((X.length + 1 + p : Nat) : Int) < ((X.length + 1 + q : Nat) : Int) := Int.ofNat_lt.2 (by omega)
      have hhB : h < B.length := by omega
      clear hr' hh
      have r0 : rdOf z_S26 (X ++ x :: (B ++ Y)) (X.length : Int) = x := rdx _ _ _ _ rfl
      have r1 : rdOf z_S26 (X ++ x :: (B ++ Y)) ((X.length + 1 + h : Nat) : Int) = B[h] := by
        have e : X ++ x :: (B ++ Y) = (X ++ [x]) ++ B ++ Y := by simp
        rw [e]; exact rdseg _ _ _ h hhB _ (by simp)
      refine Ev.step (f := fun k => (restrict_Sort_2.f k B[h].f0 B[h].f1 B[h].f2 x.f0 x.f1 x.f2).bind fun t7 => if t7 < 0 then slices_symMergeCmpFunc_api_Rule.l3 k (X.length : Int) ((X.length + 1 + (h + 1) : Nat) : Int) ((X.length + 1 + q : Nat) : Int) (X ++ x :: (B ++ Y)) else slices_symMergeCmpFunc_api_Rule.l3 k (X.length : Int) ((X.length + 1 + p : Nat) : Int) ((X.length + 1 + h : Nat) : Int) (X ++ x :: (B ++ Y))) (fun k => ?_) ?_
      · clear ih hlo hhi hr
        generalize X ++ x :: (B ++ Y) = D at *
        have l1 : ((X.length + 1 + h : Nat) : Int) < (D.length : Int) := Int.ofNat_lt.2 hl
        have l0 : ((X.length : Nat) : Int) < (D.length : Int) := Int.ofNat_lt.2 (by omega)
        rw [slices_symMergeCmpFunc_api_Rule.l3, if_pos hi, hmid, if_pos (Int.natCast_nonneg _), if_pos l1, if_pos (Int.natCast_nonneg _), if_pos l0, r0, r1, hw1]
      · refine Ev.bind (f := fun k t => _) (ev_cmp B[h] x) ?_
        cases e : leR x B[h] with
        | false =>
          refine Ev.congr (fun k => if_pos (cmp_false e)) ?_
          exact ih (q - (h + 1)) (by omega) (h + 1) q rfl (by omega) hq (fun y hy => not_le e (srt_take hs h hhB y hy)) hhi
        | true =>
          refine Ev.congr (fun k => if_neg (cmp_true e)) ?_
          exact ih (h - p) (by omega) p h rfl (by omega) (by omega) hlo (fun y hy => ordR.tr _ _ _ e (srt_drop hs h hhB y hy))
theorem l1_val (X A Y : List S26) (y : S26) (hs : Srt A) (hr : room (X ++ A ++ y :: Y).length) : ∀ (d p q : Nat), q - p = d → p ≤ q → q ≤ A.length → (∀ x ∈ A.take p, leR x y = true) → (∀ x ∈ A.drop q, leR x y = false) →
    Ev (fun k => slices_symMergeCmpFunc_api_Rule.l1 k ((X.length + A.length : Nat) : Int) ((X.length + p : Nat) : Int) ((X.length + q : Nat) : Int) (X ++ A ++ y :: Y)) (X ++ List.merge A [y] leR ++ Y) := by
  intro d
  induction d using Nat.strongRecOn with
  | ind d ih =>
    intro p q hd hpq hq hlo hhi
    by_cases c : p = q
    · subst c
      have e := mg_right leR y (A.take p) (A.drop p) hlo hhi
      rw [List.take_append_drop] at e
      rw [e]
      refine Ev.step (fun k => by rw [slices_symMergeCmpFunc_api_Rule.l1, if_neg (Int.lt_irrefl _)]) ?_
      have eA : X ++ A ++ y :: Y = (X ++ A.take p) ++ A.drop p ++ y :: Y := by
        rw [List.append_assoc X (A.take p), List.take_append_drop]
      have g := l2_val y (X ++ A.take p) _ (A.drop p) Y rfl (by rw [← eA]; exact hr)
      rw [← eA] at g
      have e1 : ((X ++ A.take p).length : Int) = ((X.length + p : Nat) : Int) := by rw [List.length_append, List.length_take, Nat.min_eq_left hq]
      have e2 : (((X ++ A.take p).length + (A.drop p).length : Nat) : Int) = ((X.length + A.length : Nat) : Int) := by rw [List.length_append, List.length_take, Nat.min_eq_left hq, List.length_drop]; congr 1; omega
      rw [e1, e2] at g
      simpa using g
    · have hlt : p < q := by omega
      have hr' := hr; unfold room at hr'; simp only [List.length_append, List.length_cons] at hr'
      obtain ⟨h, hh⟩ : ∃ h, h = (p + q) / 2 := ⟨_, rfl⟩
      have hmid : wrap64 ((IntKind.u64.wrap (wrap64 (((X.length + p : Nat) : Int) + ((X.length + q : Nat) : Int)))) / 2) = ((X.length + h : Nat) : Int) := by
        rw [midv _ _ (by omega)]; congr 1; omega
      have hh1 : p ≤ h ∧ h < q := by omega
      have hw1 : wrap64 (((X.length + h : Nat) : Int) + 1) = ((X.length + (h + 1) : Nat) : Int) := wadd _ 1 (by omega)
      have hl : X.length + h < (X ++ A ++ y :: Y).length := by simp only [List.length_append, List.length_cons]; omega
      have hl2 : X.length + A.length < (X ++ A ++ y :: Y).length := by simp only [List.length_append, List.length_cons]; omega
      have hi : ((X.length + p : Nat) : Int) < ((X.length + q : Nat) : Int) := Int.ofNat_lt.2 (by omega)
      have hhA : h < A.length := by omega
      clear hr' hh
      have r0 : rdOf z_S26 (X ++ A ++ y :: Y) ((X.length + A.length : Nat) : Int) = y := rdx _ _ _ _ (by simp)
      have r1 : rdOf z_S26 (X ++ A ++ y :: Y) ((X.length + h : Nat) : Int) = A[h] := rdseg X A (y :: Y) h hhA _ rfl
      refine Ev.step (f := fun k => (restrict_Sort_2.f k y.f0 y.f1 y.f2 A[h].f0 A[h].f1 A[h].f2).bind fun t6 => if ¬ (t6 < 0) then slices_symMergeCmpFunc_api_Rule.l1 k ((X.length + A.length : Nat) : Int) ((X.length + (h + 1) : Nat) : Int) ((X.length + q : Nat) : Int) (X ++ A ++ y :: Y) else slices_symMergeCmpFunc_api_Rule.l1 k ((X.length + A.length : Nat) : Int) ((X.length + p : Nat) : Int) ((X.length + h : Nat) : Int) (X ++ A ++ y :: Y)) (fun k => ?_) ?_
      · clear ih hlo hhi hr
        generalize X ++ A ++ y :: Y = D at *
        have l1 : ((X.length + h : Nat) : Int) < (D.length : Int) := Int.ofNat_lt.2 hl
        have l0 : ((X.length + A.length : Nat) : Int) < (D.length : Int) := Int.ofNat_lt.2 hl2
        rw [slices_symMergeCmpFunc_api_Rule.l1, if_pos hi, if_pos (Int.natCast_nonneg _), if_pos l0, hmid, if_pos (Int.natCast_nonneg _), if_pos l1, r0, r1, hw1]
      · refine Ev.bind (f := fun k t => _) (ev_cmp y A[h]) ?_
        cases e : leR A[h] y with
        | true =>
          refine Ev.congr (fun k => if_pos (cmp_true e)) ?_
          exact ih (q - (h + 1)) (by omega) (h + 1) q rfl (by omega) hq (fun x hx => ordR.tr _ _ _ (srt_take hs h hhA x hx) e) hhi
        | false =>
          refine Ev.congr (fun k => if_neg (fun n => n (cmp_false e))) ?_
          exact ih (h - p) (by omega) p h rfl (by omega) (by omega) hlo (fun x hx => not_le2 e (srt_drop hs h hhA x hx))
end Go.Proofs.Ytjfcfljdojkcdaa.Q
