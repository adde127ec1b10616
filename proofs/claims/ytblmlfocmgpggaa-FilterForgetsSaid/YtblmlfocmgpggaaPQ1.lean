/- Plain lemmas on the printed functions: whole numbers, no program in sight. -/
import Derived.Test.YtblmlfocmgpggaaPreQ
import Derived.Laws.BitsLemmas
namespace Go.Proofs.Ytblmlfocmgpggaa.Q
open Go Go.RowKit Go.Proofs.Ytblmlfocmgpggaa.Ev
set_option linter.unusedVariables false
set_option linter.unusedSimpArgs false
set_option maxRecDepth 100000
/-! ### the filter's state -/
structure FS where
  r0 : S27
  r1 : S27
  r2 : S27
  r3 : S27
  r4 : S27
  r5 : S27
  r6 : S27
  r7 : S27
  n : Int
  m : Int
  told : Bool
  at_ : Int
def FS.ring (s : FS) : List S27 := [s.r0, s.r1, s.r2, s.r3, s.r4, s.r5, s.r6, s.r7]
def FS.add (s : FS) (x : S27) : FS :=
  let n := Int.tmod (wrap64 (s.n + 1)) 8
  let m := mn (wrap64 (s.m + 1)) 8
  if s.n = 0 then ⟨x, s.r1, s.r2, s.r3, s.r4, s.r5, s.r6, s.r7, n, m, s.told, s.at_⟩
  else if s.n = 1 then ⟨s.r0, x, s.r2, s.r3, s.r4, s.r5, s.r6, s.r7, n, m, s.told, s.at_⟩
  else if s.n = 2 then ⟨s.r0, s.r1, x, s.r3, s.r4, s.r5, s.r6, s.r7, n, m, s.told, s.at_⟩
  else if s.n = 3 then ⟨s.r0, s.r1, s.r2, x, s.r4, s.r5, s.r6, s.r7, n, m, s.told, s.at_⟩
  else if s.n = 4 then ⟨s.r0, s.r1, s.r2, s.r3, x, s.r5, s.r6, s.r7, n, m, s.told, s.at_⟩
  else if s.n = 5 then ⟨s.r0, s.r1, s.r2, s.r3, s.r4, x, s.r6, s.r7, n, m, s.told, s.at_⟩
  else if s.n = 6 then ⟨s.r0, s.r1, s.r2, s.r3, s.r4, s.r5, x, s.r7, n, m, s.told, s.at_⟩
  else ⟨s.r0, s.r1, s.r2, s.r3, s.r4, s.r5, s.r6, x, n, m, s.told, s.at_⟩
/-- What a filter holds: h, the newest first. -/
def FS.Ok (s : FS) (h : List S27) : Prop := 0 ≤ s.n ∧ s.n < 8 ∧ s.m = h.length ∧ h.length ≤ 8 ∧ ∀ i : Nat, i < h.length → h[i]? = some (rdOf z_S27 s.ring ((s.n - 1 - i + 16) % 8))
def FS.new : FS := ⟨⟨0, 0, 0, 0⟩, ⟨0, 0, 0, 0⟩, ⟨0, 0, 0, 0⟩, ⟨0, 0, 0, 0⟩, ⟨0, 0, 0, 0⟩, ⟨0, 0, 0, 0⟩, ⟨0, 0, 0, 0⟩, ⟨0, 0, 0, 0⟩, 0, 0, false, 0⟩
theorem FS.new_ok : FS.new.Ok [] := ⟨by decide, by decide, rfl, by decide, fun i h => absurd h (Nat.not_lt_zero _)⟩
theorem new_eq : filter_New.f = some (FS.new.r0.f0, FS.new.r0.f1, FS.new.r0.f2, FS.new.r0.f3, FS.new.r1.f0, FS.new.r1.f1, FS.new.r1.f2, FS.new.r1.f3, FS.new.r2.f0, FS.new.r2.f1, FS.new.r2.f2, FS.new.r2.f3, FS.new.r3.f0, FS.new.r3.f1, FS.new.r3.f2, FS.new.r3.f3, FS.new.r4.f0, FS.new.r4.f1, FS.new.r4.f2, FS.new.r4.f3, FS.new.r5.f0, FS.new.r5.f1, FS.new.r5.f2, FS.new.r5.f3, FS.new.r6.f0, FS.new.r6.f1, FS.new.r6.f2, FS.new.r6.f3, FS.new.r7.f0, FS.new.r7.f1, FS.new.r7.f2, FS.new.r7.f3, FS.new.n, FS.new.m, FS.new.told, FS.new.at_) := rfl
theorem lt8 {n : Int} (h0 : 0 ≤ n) (h1 : n < 8) : n = 0 ∨ n = 1 ∨ n = 2 ∨ n = 3 ∨ n = 4 ∨ n = 5 ∨ n = 6 ∨ n = 7 := by omega
theorem fadd_eq (s : FS) (h0 : 0 ≤ s.n) (h1 : s.n < 8) (x0 x1 x2 x3 : Int) : filter_Filter_Add.f x0 x1 x2 x3 s.r0.f0 s.r0.f1 s.r0.f2 s.r0.f3 s.r1.f0 s.r1.f1 s.r1.f2 s.r1.f3 s.r2.f0 s.r2.f1 s.r2.f2 s.r2.f3 s.r3.f0 s.r3.f1 s.r3.f2 s.r3.f3 s.r4.f0 s.r4.f1 s.r4.f2 s.r4.f3 s.r5.f0 s.r5.f1 s.r5.f2 s.r5.f3 s.r6.f0 s.r6.f1 s.r6.f2 s.r6.f3 s.r7.f0 s.r7.f1 s.r7.f2 s.r7.f3 s.n s.m s.told s.at_ = some ((s.add ⟨x0, x1, x2, x3⟩).r0.f0, (s.add ⟨x0, x1, x2, x3⟩).r0.f1, (s.add ⟨x0, x1, x2, x3⟩).r0.f2, (s.add ⟨x0, x1, x2, x3⟩).r0.f3, (s.add ⟨x0, x1, x2, x3⟩).r1.f0, (s.add ⟨x0, x1, x2, x3⟩).r1.f1, (s.add ⟨x0, x1, x2, x3⟩).r1.f2, (s.add ⟨x0, x1, x2, x3⟩).r1.f3, (s.add ⟨x0, x1, x2, x3⟩).r2.f0, (s.add ⟨x0, x1, x2, x3⟩).r2.f1, (s.add ⟨x0, x1, x2, x3⟩).r2.f2, (s.add ⟨x0, x1, x2, x3⟩).r2.f3, (s.add ⟨x0, x1, x2, x3⟩).r3.f0, (s.add ⟨x0, x1, x2, x3⟩).r3.f1, (s.add ⟨x0, x1, x2, x3⟩).r3.f2, (s.add ⟨x0, x1, x2, x3⟩).r3.f3, (s.add ⟨x0, x1, x2, x3⟩).r4.f0, (s.add ⟨x0, x1, x2, x3⟩).r4.f1, (s.add ⟨x0, x1, x2, x3⟩).r4.f2, (s.add ⟨x0, x1, x2, x3⟩).r4.f3, (s.add ⟨x0, x1, x2, x3⟩).r5.f0, (s.add ⟨x0, x1, x2, x3⟩).r5.f1, (s.add ⟨x0, x1, x2, x3⟩).r5.f2, (s.add ⟨x0, x1, x2, x3⟩).r5.f3, (s.add ⟨x0, x1, x2, x3⟩).r6.f0, (s.add ⟨x0, x1, x2, x3⟩).r6.f1, (s.add ⟨x0, x1, x2, x3⟩).r6.f2, (s.add ⟨x0, x1, x2, x3⟩).r6.f3, (s.add ⟨x0, x1, x2, x3⟩).r7.f0, (s.add ⟨x0, x1, x2, x3⟩).r7.f1, (s.add ⟨x0, x1, x2, x3⟩).r7.f2, (s.add ⟨x0, x1, x2, x3⟩).r7.f3, (s.add ⟨x0, x1, x2, x3⟩).n, (s.add ⟨x0, x1, x2, x3⟩).m, (s.add ⟨x0, x1, x2, x3⟩).told, (s.add ⟨x0, x1, x2, x3⟩).at_) := by
  rcases s with ⟨r0, r1, r2, r3, r4, r5, r6, r7, n, m, told, at_⟩
  simp only at h0 h1
  rcases lt8 h0 h1 with rfl | rfl | rfl | rfl | rfl | rfl | rfl | rfl <;> rfl
theorem add_told (s : FS) (x : S27) : (s.add x).told = s.told ∧ (s.add x).at_ = s.at_ := by
  unfold FS.add; (repeat' split) <;> exact ⟨rfl, rfl⟩
theorem add_nm (s : FS) (x : S27) : (s.add x).n = Int.tmod (wrap64 (s.n + 1)) 8 ∧ (s.add x).m = mn (wrap64 (s.m + 1)) 8 := by
  unfold FS.add; (repeat' split) <;> exact ⟨rfl, rfl⟩
theorem add_ring (s : FS) (h0 : 0 ≤ s.n) (h1 : s.n < 8) (x : S27) : (s.add x).ring = s.ring.set s.n.toNat x := by
  rcases s with ⟨r0, r1, r2, r3, r4, r5, r6, r7, n, m, told, at_⟩
  simp only at h0 h1
  rcases lt8 h0 h1 with rfl | rfl | rfl | rfl | rfl | rfl | rfl | rfl <;> rfl
theorem FS.Ok.add {s : FS} {h : List S27} (ok : s.Ok h) (x : S27) : (s.add x).Ok ((x :: h).take 8) := by
  obtain ⟨a, b, c, d, e⟩ := ok
  obtain ⟨en, em⟩ := add_nm s x
  have er := add_ring s a b x
  have e1 : Int.tmod (wrap64 (s.n + 1)) 8 = (s.n + 1) % 8 := by rw [w64_in (by omega) (by omega), Int.tmod_eq_emod_of_nonneg (by omega)]
  have hl : ((x :: h).take 8).length = min 8 (h.length + 1) := by rw [List.length_take, List.length_cons]
  rw [e1] at en
  refine ⟨by rw [en]; omega, by rw [en]; omega, ?_, by rw [hl]; omega, fun i hi => ?_⟩
  · rw [em, w64_in (by omega) (by omega), hl]
    unfold mn
    split <;> omega
  · rw [hl] at hi
    rw [er, en, List.getElem?_take_of_lt (by omega)]
    unfold rdOf
    rw [List.getD_eq_getElem?_getD]
    cases i with
    | zero =>
      rw [show ((s.n + 1) % 8 - 1 - ((0 : Nat) : Int) + 16) % 8 = s.n from by omega, List.getElem?_set_self (by simp [FS.ring]; omega)]
      rfl
    | succ i =>
      have := e i (by omega)
      rw [List.getElem?_cons_succ, this]
      unfold rdOf
      rw [List.getD_eq_getElem?_getD, show ((s.n + 1) % 8 - 1 - ((i + 1 : Nat) : Int) + 16) % 8 = (s.n - 1 - i + 16) % 8 from by omega, List.getElem?_set_ne (by omega)]
theorem samples_l0 {s : FS} {h : List S27} (ok : s.Ok h) : ∀ (d i : Nat), i + d = h.length → Ev (fun k => filter_Filter_Samples.l0 k s.m i s.r0.f0 s.r0.f1 s.r0.f2 s.r0.f3 s.r1.f0 s.r1.f1 s.r1.f2 s.r1.f3 s.r2.f0 s.r2.f1 s.r2.f2 s.r2.f3 s.r3.f0 s.r3.f1 s.r3.f2 s.r3.f3 s.r4.f0 s.r4.f1 s.r4.f2 s.r4.f3 s.r5.f0 s.r5.f1 s.r5.f2 s.r5.f3 s.r6.f0 s.r6.f1 s.r6.f2 s.r6.f3 s.r7.f0 s.r7.f1 s.r7.f2 s.r7.f3 s.n s.m s.told s.at_ (h.take i)) (s.r0.f0, s.r0.f1, s.r0.f2, s.r0.f3, s.r1.f0, s.r1.f1, s.r1.f2, s.r1.f3, s.r2.f0, s.r2.f1, s.r2.f2, s.r2.f3, s.r3.f0, s.r3.f1, s.r3.f2, s.r3.f3, s.r4.f0, s.r4.f1, s.r4.f2, s.r4.f3, s.r5.f0, s.r5.f1, s.r5.f2, s.r5.f3, s.r6.f0, s.r6.f1, s.r6.f2, s.r6.f3, s.r7.f0, s.r7.f1, s.r7.f2, s.r7.f3, s.n, s.m, s.told, s.at_, h) := by
  obtain ⟨a, b, c, d8, e⟩ := ok
  intro d
  induction d with
  | zero =>
    intro i hi
    refine Ev.succ fun k => ?_
    rw [filter_Filter_Samples.l0, if_neg (by omega), List.take_of_length_le (by omega)]
  | succ d ih =>
    intro i hi
    have hj := e i (by omega)
    have ej : Int.tmod (wrap64 ((wrap64 ((wrap64 (s.n - 1)) - i)) + 16)) 8 = (s.n - 1 - i + 16) % 8 := by
      rw [w64_in (n := s.n - 1) (by omega) (by omega), w64_in (n := s.n - 1 - i) (by omega) (by omega), w64_in (by omega) (by omega), Int.tmod_eq_emod_of_nonneg (by omega)]
    have hq0 : 0 ≤ (s.n - 1 - i + 16) % 8 := by omega
    have hq1 : (s.n - 1 - i + 16) % 8 < 8 := by omega
    refine Ev.step (f := fun k => filter_Filter_Samples.l0 k s.m ((i + 1 : Nat) : Int) s.r0.f0 s.r0.f1 s.r0.f2 s.r0.f3 s.r1.f0 s.r1.f1 s.r1.f2 s.r1.f3 s.r2.f0 s.r2.f1 s.r2.f2 s.r2.f3 s.r3.f0 s.r3.f1 s.r3.f2 s.r3.f3 s.r4.f0 s.r4.f1 s.r4.f2 s.r4.f3 s.r5.f0 s.r5.f1 s.r5.f2 s.r5.f3 s.r6.f0 s.r6.f1 s.r6.f2 s.r6.f3 s.r7.f0 s.r7.f1 s.r7.f2 s.r7.f3 s.n s.m s.told s.at_ (h.take (i + 1))) (fun k => ?_) (ih (i + 1) (by omega))
    have et : h.take (i + 1) = h.take i ++ [rdOf z_S27 s.ring ((s.n - 1 - i + 16) % 8)] := by
      rw [List.take_add_one, hj]; rfl
    have hw : wrap64 ((i : Int) + 1) = ((i + 1 : Nat) : Int) := by rw [w64_in (by omega) (by omega)]; rfl
    have hlen : (h.take i).length ≤ 8 := by simp; omega
    rw [filter_Filter_Samples.l0, if_pos (by omega), ej, et]
    generalize (s.n - 1 - i + 16) % 8 = q at *
    generalize h.take i = t at *
    rw [hw]
    rcases lt8 hq0 hq1 with rfl | rfl | rfl | rfl | rfl | rfl | rfl | rfl
    · rw [if_pos rfl, if_pos (by simp; omega)]; rfl
    · rw [if_neg (by decide), if_pos rfl, if_pos (by simp; omega)]; rfl
    · rw [if_neg (by decide), if_neg (by decide), if_pos rfl, if_pos (by simp; omega)]; rfl
    · rw [if_neg (by decide), if_neg (by decide), if_neg (by decide), if_pos rfl, if_pos (by simp; omega)]; rfl
    · rw [if_neg (by decide), if_neg (by decide), if_neg (by decide), if_neg (by decide), if_pos rfl, if_pos (by simp; omega)]; rfl
    · rw [if_neg (by decide), if_neg (by decide), if_neg (by decide), if_neg (by decide), if_neg (by decide), if_pos rfl, if_pos (by simp; omega)]; rfl
    · rw [if_neg (by decide), if_neg (by decide), if_neg (by decide), if_neg (by decide), if_neg (by decide), if_neg (by decide), if_pos rfl, if_pos (by simp; omega)]; rfl
    · rw [if_neg (by decide), if_neg (by decide), if_neg (by decide), if_neg (by decide), if_neg (by decide), if_neg (by decide), if_neg (by decide), if_pos rfl, if_pos (by simp; omega)]; rfl
theorem ev_samples {s : FS} {h : List S27} (ok : s.Ok h) : Ev (fun k => filter_Filter_Samples.f k s.r0.f0 s.r0.f1 s.r0.f2 s.r0.f3 s.r1.f0 s.r1.f1 s.r1.f2 s.r1.f3 s.r2.f0 s.r2.f1 s.r2.f2 s.r2.f3 s.r3.f0 s.r3.f1 s.r3.f2 s.r3.f3 s.r4.f0 s.r4.f1 s.r4.f2 s.r4.f3 s.r5.f0 s.r5.f1 s.r5.f2 s.r5.f3 s.r6.f0 s.r6.f1 s.r6.f2 s.r6.f3 s.r7.f0 s.r7.f1 s.r7.f2 s.r7.f3 s.n s.m s.told s.at_) (s.r0.f0, s.r0.f1, s.r0.f2, s.r0.f3, s.r1.f0, s.r1.f1, s.r1.f2, s.r1.f3, s.r2.f0, s.r2.f1, s.r2.f2, s.r2.f3, s.r3.f0, s.r3.f1, s.r3.f2, s.r3.f3, s.r4.f0, s.r4.f1, s.r4.f2, s.r4.f3, s.r5.f0, s.r5.f1, s.r5.f2, s.r5.f3, s.r6.f0, s.r6.f1, s.r6.f2, s.r6.f3, s.r7.f0, s.r7.f1, s.r7.f2, s.r7.f3, s.n, s.m, s.told, s.at_, h) := by
  unfold filter_Filter_Samples.f
  exact samples_l0 ok h.length 0 (by omega)
end Go.Proofs.Ytblmlfocmgpggaa.Q
