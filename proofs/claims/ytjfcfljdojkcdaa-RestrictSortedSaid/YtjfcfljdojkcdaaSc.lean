/- Plain lemmas on the printed functions: whole numbers and lists, no program in sight. -/
import Derived.Test.YtjfcfljdojkcdaaSb
import Derived.Laws.BitsLemmas
namespace Go.Proofs.Ytjfcfljdojkcdaa.Q
open Go Go.RowKit Go.Proofs.Ytjfcfljdojkcdaa.Ev
set_option linter.unusedVariables false
set_option linter.unusedSimpArgs false
set_option maxRecDepth 100000
/-! ### two blocks of one length swapped; a block turned -/
theorem wadd (x y : Nat) (h : x + y ≤ 4000000000000) : wrap64 ((x : Int) + (y : Int)) = ((x + y : Nat) : Int) := by rw [w64_in (by omega) (by omega)]; omega
theorem wsub (x y : Nat) (h : y ≤ x) (hx : x ≤ 4000000000000) : wrap64 ((x : Int) - (y : Int)) = ((x - y : Nat) : Int) := by rw [w64_in (by omega) (by omega)]; omega
theorem wsubv (x y z : Nat) (h : x = y + z) (hx : x ≤ 4000000000000) : wrap64 ((x : Int) - (y : Int)) = (z : Int) := by rw [w64_in (by omega) (by omega)]; omega
theorem swap_l0 (a b n : Nat) : ∀ (P Q X M Y : List S26) (i : Nat), P.length = Q.length → i + P.length = n → X.length = a + i → X.length + P.length + M.length = b + i → room (X ++ P ++ M ++ Q ++ Y).length →
    Ev (fun k => slices_swapRangeCmpFunc_api_Rule.l0 k (a : Int) (b : Int) (n : Int) (i : Int) (X ++ P ++ M ++ Q ++ Y)) (X ++ Q ++ M ++ P ++ Y) := by
  intro P
  induction P with
  | nil =>
    intro Q X M Y i hq hi ha hb hl
    obtain rfl : Q = [] := List.length_eq_zero_iff.1 hq.symm
    refine Ev.succ fun k => ?_
    rw [slices_swapRangeCmpFunc_api_Rule.l0, if_neg (by simp only [List.length_nil] at hi; omega)]
  | cons p P ih =>
    intro Q X M Y i hq hi ha hb hl
    cases Q with
    | nil => simp at hq
    | cons q Q =>
      simp only [List.length_cons] at hq hi hb
      have hll := hl
      unfold room at hll
      simp only [List.length_append, List.length_cons] at hll
      have hbi : b + i ≤ 1000000000000 := by omega
      have hai : a + i ≤ 1000000000000 := by omega
      have hii : i + 1 ≤ 1000000000001 := by omega
      clear hll
      have hw1 := wadd b i (by omega)
      have hw0 := wadd a i (by omega)
      have hwi : wrap64 ((i : Int) + 1) = ((i + 1 : Nat) : Int) := wadd i 1 (by omega)
      have e1 : X ++ p :: P ++ M ++ q :: Q ++ Y = X ++ p :: (P ++ M ++ q :: Q ++ Y) := by simp
      have e2 : X ++ p :: P ++ M ++ q :: Q ++ Y = (X ++ p :: P ++ M) ++ q :: (Q ++ Y) := by simp
      have r0 : rdOf z_S26 (X ++ p :: P ++ M ++ q :: Q ++ Y) ((a + i : Nat) : Int) = p := by rw [e1]; exact rdx _ _ _ _ (by omega)
      have r1 : rdOf z_S26 (X ++ p :: P ++ M ++ q :: Q ++ Y) ((b + i : Nat) : Int) = q := by rw [e2]; exact rdx _ _ _ _ (by simp only [List.length_append, List.length_cons]; omega)
      have s0 : (X ++ p :: P ++ M ++ q :: Q ++ Y).set (a + i) q = (X ++ q :: P ++ M) ++ q :: (Q ++ Y) := by
        rw [e1, setx _ _ _ _ _ (by omega)]; simp
      have s1 : ((X ++ p :: P ++ M ++ q :: Q ++ Y).set (a + i) q).set (b + i) p = (X ++ q :: P ++ M) ++ p :: (Q ++ Y) := by
        rw [s0, setx _ _ _ _ _ (by simp only [List.length_append, List.length_cons]; omega)]
      have hL0 : (X ++ p :: P ++ M ++ q :: Q ++ Y).length = X.length + (P.length + 1) + M.length + (Q.length + 1) + Y.length := by
        simp only [List.length_append, List.length_cons]
      have hL : a + i < (X ++ p :: P ++ M ++ q :: Q ++ Y).length ∧ b + i < (X ++ p :: P ++ M ++ q :: Q ++ Y).length := by
        rw [hL0]; exact ⟨by omega, by omega⟩
      have := ih Q (X ++ [q]) (M ++ [p]) Y (i + 1) (by omega) (by omega) (by simp only [List.length_append, List.length_cons, List.length_nil]; omega) (by simp only [List.length_append, List.length_cons, List.length_nil]; omega) (room_of hl (by simp only [List.length_append, List.length_cons, List.length_nil]; omega))
      clear hl ih
      have this : Ev (fun k => slices_swapRangeCmpFunc_api_Rule.l0 k (a : Int) (b : Int) (n : Int) ((i + 1 : Nat) : Int) ((X ++ q :: P ++ M) ++ p :: (Q ++ Y))) (X ++ q :: Q ++ M ++ p :: P ++ Y) := by simpa using this
      refine Ev.step (fun k => ?_) this
      rw [← s1]
      have hin : (i : Int) < (n : Int) := by clear hbi hai hii hw1 hw0 hwi hL hL0 this; omega
      clear s0 s1 e1 e2 hL0 this hbi hai hii
      generalize X ++ p :: P ++ M ++ q :: Q ++ Y = D at *
      have z1 : (0 : Int) ≤ ((b + i : Nat) : Int) := Int.natCast_nonneg _
      have z0 : (0 : Int) ≤ ((a + i : Nat) : Int) := Int.natCast_nonneg _
      have l1 : ((b + i : Nat) : Int) < (D.length : Int) := Int.ofNat_lt.2 hL.2
      have l0 : ((a + i : Nat) : Int) < (D.length : Int) := Int.ofNat_lt.2 hL.1
      rw [slices_swapRangeCmpFunc_api_Rule.l0, if_pos hin, hw1, hw0, if_pos z1, if_pos l1, if_pos z0, if_pos l0, if_pos z0, if_pos l0, if_pos z1, if_pos (by rw [List.length_set]; exact l1), r0, r1, hwi]
      rfl
theorem ev_swap (P Q X M Y : List S26) (a b n : Int) (hq : P.length = Q.length) (ha : a = (X.length : Int)) (hb : b = ((X.length + P.length + M.length : Nat) : Int)) (hn : n = (P.length : Int)) (hl : room (X ++ P ++ M ++ Q ++ Y).length) :
    Ev (fun k => slices_swapRangeCmpFunc_api_Rule.f k a b n (X ++ P ++ M ++ Q ++ Y)) (X ++ Q ++ M ++ P ++ Y) := by
  subst ha hb hn
  unfold slices_swapRangeCmpFunc_api_Rule.f
  exact swap_l0 X.length (X.length + P.length + M.length) P.length P Q X M Y 0 hq (by omega) rfl rfl hl
theorem rot_l0 (m : Nat) : ∀ (n : Nat) (U V X Y : List S26), U.length + V.length = n → 0 < U.length → 0 < V.length → X.length + U.length = m → room (X ++ U ++ V ++ Y).length →
    Ev (fun k => slices_rotateCmpFunc_api_Rule.l0 k (m : Int) (U.length : Int) (V.length : Int) (X ++ U ++ V ++ Y)) (X ++ V ++ U ++ Y) := by
  intro n
  induction n using Nat.strongRecOn with
  | ind n ih =>
    intro U V X Y hn hu hv hm hl
    have hl' := hl
    unfold room at hl'
    simp only [List.length_append] at hl'
    have wm : wrap64 ((m : Int) - (U.length : Int)) = (X.length : Int) := wsubv _ _ _ (by omega) (by omega)
    by_cases he : U.length = V.length
    · have g := ev_swap U V X [] Y (wrap64 ((m : Int) - (U.length : Int))) (m : Int) (U.length : Int) he wm (by simp only [List.length_nil]; omega) rfl (by simpa using hl)
      simp only [List.append_nil] at g
      refine Ev.step (fun k => by rw [slices_rotateCmpFunc_api_Rule.l0, if_neg (by omega)]) ?_
      exact Ev.bind (f := fun k t => _) g (Ev.now _)
    · by_cases hg : U.length > V.length
      · obtain ⟨U1, U2, rfl, h1⟩ : ∃ U1 U2, U = U1 ++ U2 ∧ U1.length = V.length := ⟨U.take V.length, U.drop V.length, (List.take_append_drop _ _).symm, by rw [List.length_take]; omega⟩
        simp only [List.length_append] at hn hu hm hl' he hg wm
        have g := ev_swap U1 V X U2 Y (wrap64 ((m : Int) - ((U1 ++ U2).length : Int))) (m : Int) (V.length : Int) h1 (by simpa only [List.length_append] using wm) (by omega) (by omega) (room_of hl (by simp only [List.length_append]; omega))
        have rc := ih (U2.length + U1.length) (by omega) U2 U1 (X ++ V) Y rfl (by omega) (by omega) (by simp only [List.length_append]; omega) (room_of hl (by simp only [List.length_append]; omega))
        have hw : wrap64 (((U1 ++ U2).length : Int) - (V.length : Int)) = (U2.length : Int) := wsubv _ _ _ (by simp only [List.length_append]; omega) (by simp only [List.length_append]; omega)
        refine Ev.step (fun k => by rw [slices_rotateCmpFunc_api_Rule.l0, if_pos (by simp only [List.length_append]; omega), if_pos (by simp only [List.length_append]; omega), hw]) ?_
        have eD : X ++ (U1 ++ U2) ++ V ++ Y = X ++ U1 ++ U2 ++ V ++ Y := by simp
        rw [eD]
        refine Ev.bind (f := fun k t => _) g ?_
        have : Ev (fun k => slices_rotateCmpFunc_api_Rule.l0 k (m : Int) (U2.length : Int) (V.length : Int) (X ++ V ++ U2 ++ U1 ++ Y)) (X ++ V ++ U1 ++ U2 ++ Y) := by rw [← h1]; exact rc
        simpa using this
      · obtain ⟨V1, V2, rfl, h2⟩ : ∃ V1 V2, V = V1 ++ V2 ∧ V2.length = U.length := ⟨V.take (V.length - U.length), V.drop (V.length - U.length), (List.take_append_drop _ _).symm, by rw [List.length_drop]; omega⟩
        simp only [List.length_append] at hn hv hl' he hg
        have g := ev_swap U V2 X V1 Y (wrap64 ((m : Int) - (U.length : Int))) (wrap64 (wrap64 ((m : Int) + ((V1 ++ V2).length : Int)) - (U.length : Int))) (U.length : Int) h2.symm wm (by rw [wadd _ _ (by simp only [List.length_append]; omega), wsub _ _ (by simp only [List.length_append]; omega) (by simp only [List.length_append]; omega)]; simp only [List.length_append]; congr 1; omega) rfl (room_of hl (by simp only [List.length_append]; omega))
        have rc := ih (U.length + V1.length) (by omega) V2 V1 X (U ++ Y) (by omega) (by omega) (by omega) (by omega) (room_of hl (by simp only [List.length_append]; omega))
        have hw : wrap64 (((V1 ++ V2).length : Int) - (U.length : Int)) = (V1.length : Int) := wsubv _ _ _ (by simp only [List.length_append]; omega) (by simp only [List.length_append]; omega)
        refine Ev.step (fun k => by rw [slices_rotateCmpFunc_api_Rule.l0, if_pos (by simp only [List.length_append]; omega), if_neg (by simp only [List.length_append]; omega), hw]) ?_
        have eD : X ++ U ++ (V1 ++ V2) ++ Y = X ++ U ++ V1 ++ V2 ++ Y := by simp
        rw [eD]
        refine Ev.bind (f := fun k t => _) g ?_
        have : Ev (fun k => slices_rotateCmpFunc_api_Rule.l0 k (m : Int) (U.length : Int) (V1.length : Int) (X ++ V2 ++ V1 ++ (U ++ Y))) (X ++ V1 ++ V2 ++ (U ++ Y)) := by rw [← h2]; exact rc
        simpa using this
theorem ev_rotate (U V X Y : List S26) (a m b : Int) (hu : 0 < U.length) (hv : 0 < V.length) (ha : a = (X.length : Int)) (hm : m = ((X.length + U.length : Nat) : Int)) (hb : b = ((X.length + U.length + V.length : Nat) : Int)) (hl : room (X ++ U ++ V ++ Y).length) :
    Ev (fun k => slices_rotateCmpFunc_api_Rule.f k a m b (X ++ U ++ V ++ Y)) (X ++ V ++ U ++ Y) := by
  subst ha hm hb
  have hl' := hl
  unfold room at hl'
  simp only [List.length_append] at hl'
  unfold slices_rotateCmpFunc_api_Rule.f
  have w1 : wrap64 (((X.length + U.length : Nat) : Int) - (X.length : Int)) = (U.length : Int) := wsubv _ _ _ (by omega) (by omega)
  have w2 : wrap64 (((X.length + U.length + V.length : Nat) : Int) - ((X.length + U.length : Nat) : Int)) = (V.length : Int) := wsubv _ _ _ (by omega) (by omega)
  rw [w1, w2]
  exact rot_l0 (X.length + U.length) _ U V X Y rfl hu hv rfl hl
end Go.Proofs.Ytjfcfljdojkcdaa.Q
