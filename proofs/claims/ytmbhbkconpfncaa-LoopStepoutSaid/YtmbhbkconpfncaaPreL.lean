/- Plain lemmas on the printed functions: whole numbers, no program in sight. -/
import Derived.Test.YtmbhbkconpfncaaPreC
import Derived.Laws.BitsLemmas
namespace Go.Proofs.Ytmbhbkconpfncaa.C
open Go Go.RowKit Go.Proofs.Ytmbhbkconpfncaa.Ev
set_option linter.unusedVariables false
set_option linter.unusedSimpArgs false
set_option maxRecDepth 100000
def rateV (a b : Int) : Int := if b ≤ 0 then 0 else clampTo 140737488355 (a * 281474976710656 / b)
def scaleV (a b c : Int) : Int := if c ≤ 0 then 0 else sat (a * b / c)
def tunedV (f x : Int) : Int := clampTo 140737488355 (f + x)
def adjV (p f x base d : Int) : Int := if d > 2048 then tunedV f (rateV (sat (x - base)) (shiftVal (shiftVal d 32) 3)) else tunedV f (clampTo 140737488355 (scaleV x (mn d (2 ^ p.toNat) * 256) (2 ^ (2 * p).toNat)))
def pollV (t p : Int) : Int × Int := if t > 30 then (mn (p + 1) 10, 0) else if t < -30 then (mx (p - 1) 3, 0) else (p, t)
def tallyV (quiet : Bool) (p t : Int) : Int := bif quiet then t - 2 * p + 3 * p else t - 2 * p
def absV (a : Int) : Int := sat (if a < 0 then -a else a)
/-- What a loop holds. -/
structure LInv (s : S55) : Prop where
  h0 : 1 ≤ s.f0 ∧ s.f0 ≤ 4611686018427387904
  h1 : 1 ≤ s.f1 ∧ s.f1 ≤ 4611686018427387904
  h2 : 0 ≤ s.f2 ∧ s.f2 ≤ 1048576
  h3 : 0 ≤ s.f3 ∧ s.f3 ≤ 4
  h4 : -140737488355 ≤ s.f4 ∧ s.f4 ≤ 140737488355
  h5 : -4611686018427387904 ≤ s.f5 ∧ s.f5 ≤ 4611686018427387904
  h6 : -4611686018427387904 ≤ s.f6 ∧ s.f6 ≤ 4611686018427387904
  h7 : 0 ≤ s.f7 ∧ s.f7 ≤ 1073741824
  h8 : 3 ≤ s.f8 ∧ s.f8 ≤ 10
  h9 : -30 ≤ s.f9 ∧ s.f9 ≤ 30
def tup (r : Int × Int × S55) : Int × Int × Int × Int × Int × Int × Int × Int × Int × Int × Int × Int := (r.1, r.2.1, r.2.2.f0, r.2.2.f1, r.2.2.f2, r.2.2.f3, r.2.2.f4, r.2.2.f5, r.2.2.f6, r.2.2.f7, r.2.2.f8, r.2.2.f9)
def stepped (x n f : Int) (s : S55) : Int × Int × S55 := (2, x, ⟨s.f0, s.f1, s.f2, if s.f3 = 0 then 3 else 4, f, 0, 0, n, 3, 0⟩)
def slewed (x j n z f : Int) (s : S55) : Int × Int × S55 := (1, 0, ⟨s.f0, s.f1, s.f2, 4, f, x, x, n, (pollV (tallyV (decide (z < shiftVal j 2)) s.f8 s.f9) s.f8).1, (pollV (tallyV (decide (z < shiftVal j 2)) s.f8 s.f9) s.f8).2⟩)
def nowV (n : Int) : Int := mn (mx n 0) 1073741824
def sinceV (n : Int) (s : S55) : Int := mx (nowV n - s.f7) 0
def updV (off j now : Int) (s : S55) : Int × Int × S55 :=
  if absV (sat off) > s.f1 then (3, 0, s)
  else if s.f3 = 0 then (if absV (sat off) > s.f0 then stepped (sat off) (nowV now) s.f4 s else (0, 0, ⟨s.f0, s.f1, s.f2, 3, s.f4, s.f5, sat off, nowV now, s.f8, s.f9⟩))
  else if s.f3 = 1 then (if absV (sat off) > s.f0 then stepped (sat off) (nowV now) s.f4 s else slewed (sat off) j (nowV now) (absV (sat off)) s.f4 s)
  else if s.f3 = 3 then (if sinceV now s < s.f2 then (0, 0, s) else
    if absV (sat off) > s.f0 then stepped (sat off) (nowV now) (tunedV s.f4 (rateV (sat (sat off - s.f6)) (shiftVal (mx (sinceV now s) 1) 32))) s
    else slewed (sat off) j (nowV now) (absV (sat off)) (tunedV s.f4 (rateV (sat (sat off - s.f6)) (shiftVal (mx (sinceV now s) 1) 32))) s)
  else if s.f3 = 2 then (if absV (sat off) > s.f0 then (if sinceV now s < s.f2 then (0, 0, s) else stepped (sat off) (nowV now) s.f4 s)
    else slewed (sat off) j (nowV now) (absV (sat off)) (adjV s.f8 s.f4 (sat off) s.f6 (mx (sinceV now s) 1)) s)
  else (if absV (sat off) > s.f0 then (0, 0, ⟨s.f0, s.f1, s.f2, 2, s.f4, s.f5, s.f6, nowV now, s.f8, s.f9⟩)
    else slewed (sat off) j (nowV now) (absV (sat off)) (adjV s.f8 s.f4 (sat off) s.f6 (mx (sinceV now s) 1)) s)
theorem cut_in (x : Int) : -140737488355 ≤ clampTo 140737488355 x ∧ clampTo 140737488355 x ≤ 140737488355 := by
  unfold clampTo; (repeat' split) <;> omega
theorem rate_in (a b : Int) : -140737488355 ≤ rateV a b ∧ rateV a b ≤ 140737488355 := by
  unfold rateV; split
  · omega
  · exact cut_in _
theorem scale_in (a b c : Int) : -4611686018427387904 ≤ scaleV a b c ∧ scaleV a b c ≤ 4611686018427387904 := by
  unfold scaleV; split
  · omega
  · exact sat_in _
theorem shift_in (a n : Int) : -4611686018427387904 ≤ shiftVal a n ∧ shiftVal a n ≤ 4611686018427387904 := by
  unfold shiftVal; split <;> exact sat_in _
theorem now_in (n : Int) : 0 ≤ nowV n ∧ nowV n ≤ 1073741824 := by
  unfold nowV mn mx; (repeat' split) <;> omega
theorem abs_in (n : Int) : 0 ≤ absV n ∧ absV n ≤ 4611686018427387904 := by
  unfold absV sat clampTo; (repeat' split) <;> omega
theorem ev_tuned (x e0 e1 e2 e3 e4 e5 e6 e7 e8 e9 : Int) (h : -140737488355 ≤ e4 ∧ e4 ≤ 140737488355) (hx : -140737488355 ≤ x ∧ x ≤ 140737488355) :
    Ev (fun _ => loop_Loop_tuned.f x e0 e1 e2 e3 e4 e5 e6 e7 e8 e9) (e0, e1, e2, e3, tunedV e4 x, e5, e6, e7, e8, e9) := by
  unfold loop_Loop_tuned.f
  rw [w64_in (n := e4 + x) (by omega) (by omega)]
  exact Ev.bind (ev_cut1 _ (by omega) (by omega)) (Ev.now _)
theorem ev_seconds (n : Int) (h : 0 ≤ n ∧ n ≤ 4611686018427387904) : Ev (fun _ => loop_seconds.f n) (shiftVal n 32) := by
  unfold loop_seconds.f
  exact Ev.bind (ev_shift n 32 (by omega) (by omega) (by omega) (by omega)) (Ev.now _)
theorem shl_i64 (m : Nat) (hm : m ≤ 62) : shl .i64 1 (m : Int) = 2 ^ m := by
  have hp : (0 : Int) < 2 ^ m := Int.pow_pos (by decide)
  have hp2 := pow_le hm
  have e62 : (2 : Int) ^ 62 = 4611686018427387904 := rfl
  unfold shl
  rw [show min (m : Int).toNat IntKind.i64.bits = m from by simp [IntKind.bits]; omega, Int.one_mul, IntKind.wrap_i64]
  omega
theorem ev_adjusted (x d : Int) (s : S55) (h : LInv s) (hx : -4611686018427387904 ≤ x ∧ x ≤ 4611686018427387904) (hd : 1 ≤ d ∧ d ≤ 1073741824) :
    Ev (fun k => loop_Loop_adjusted.f k x d s.f0 s.f1 s.f2 s.f3 s.f4 s.f5 s.f6 s.f7 s.f8 s.f9) (s.f0, s.f1, s.f2, s.f3, adjV s.f8 s.f4 x s.f6 d, s.f5, s.f6, s.f7, s.f8, s.f9) := by
  obtain ⟨_, _, _, _, h4, h5, h6, _, h8, _⟩ := h
  unfold loop_Loop_adjusted.f adjV
  by_cases h2 : d > 2048
  · simp only [h2, if_true]
    have s0 := shift_in d 32
    have s1 := shift_in (shiftVal d 32) 3
    have s2 := sat_in (x - s.f6)
    exact Ev.bind (ev_sub x s.f6 (by omega) (by omega) (by omega) (by omega)) (Ev.bind (ev_seconds d (by omega)) (Ev.bind (ev_shift _ 3 (by omega) (by omega) (by omega) (by omega)) (Ev.bind (ev_rate _ _ (by omega) (by omega) (by omega)) (Ev.bind (ev_tuned _ _ _ _ _ _ _ _ _ _ _ h4 (rate_in _ _)) (Ev.now _)))))
  · simp only [h2, if_false]
    obtain ⟨m, hm⟩ := Int.eq_ofNat_of_zero_le (show 0 ≤ s.f8 by omega)
    rw [hm] at h8 ⊢
    rw [u64_in (n := (m : Int)) (by omega) (by omega), show wrap64 (2 * (m : Int)) = ((2 * m : Nat) : Int) from by rw [w64_in (by omega) (by omega)]; omega, u64_in (n := ((2 * m : Nat) : Int)) (by omega) (by omega), shl_i64 m (by omega), shl_i64 (2 * m) (by omega)]
    simp only [show (0 : Int) ≤ (m : Int) from by omega, show (0 : Int) ≤ ((2 * m : Nat) : Int) from by omega, if_true]
    have hp : (0 : Int) < 2 ^ m := Int.pow_pos (by decide)
    have hp2 : (0 : Int) < 2 ^ (2 * m) := Int.pow_pos (by decide)
    have hp3 := pow_le (show m ≤ 10 by omega)
    have hp4 := pow_le (show 2 * m ≤ 20 by omega)
    rw [show (2 : Int) ^ 10 = 1024 from rfl] at hp3
    rw [show (2 : Int) ^ 20 = 1048576 from rfl] at hp4
    have hmn : 0 ≤ mn d (2 ^ m) ∧ mn d (2 ^ m) ≤ 1024 := by unfold mn; split <;> omega
    rw [w64_in (n := mn d (2 ^ m) * 256) (by omega) (by omega), show ((m : Int)).toNat = m from by omega, show (2 * (m : Int)).toNat = 2 * m from by omega]
    have hs := scale_in x (mn d (2 ^ m) * 256) (2 ^ (2 * m))
    have := ev_scale x (mn d (2 ^ m) * 256) (2 ^ (2 * m)) (by omega) (by omega) (by omega) (by omega) (by omega)
    exact Ev.bind this (Ev.bind (ev_cut1 _ (by unfold scaleV at hs; omega) (by unfold scaleV at hs; omega)) (Ev.bind (ev_tuned _ _ _ _ _ _ _ _ _ _ _ h4 (cut_in _)) (Ev.now _)))
theorem ev_tallied (q : Bool) (e0 e1 e2 e3 e4 e5 e6 e7 e8 e9 : Int) (h8 : 3 ≤ e8 ∧ e8 ≤ 10) (h9 : -30 ≤ e9 ∧ e9 ≤ 30) :
    Ev (fun k => loop_Loop_tallied.f k q e0 e1 e2 e3 e4 e5 e6 e7 e8 e9) (e0, e1, e2, e3, e4, e5, e6, e7, (pollV (tallyV q e8 e9) e8).1, (pollV (tallyV q e8 e9) e8).2) := by
  have key : ∀ t : Int, Ev (fun k => loop_Loop_tallied.j0 k e0 e1 e2 e3 e4 e5 e6 e7 e8 t) (e0, e1, e2, e3, e4, e5, e6, e7, (pollV t e8).1, (pollV t e8).2) := by
    intro t
    refine Ev.succ fun k => ?_
    simp only [loop_Loop_tallied.j0]
    rw [w64_in (n := e8 + 1) (by omega) (by omega), w64_in (n := e8 - 1) (by omega) (by omega)]
    unfold pollV
    (repeat' split) <;> rfl
  unfold loop_Loop_tallied.f tallyV
  rw [w64_in (n := 2 * e8) (by omega) (by omega), w64_in (n := 3 * e8) (by omega) (by omega), w64_in (n := e9 - 2 * e8) (by omega) (by omega), w64_in (n := e9 - 2 * e8 + 3 * e8) (by omega) (by omega)]
  cases q
  · exact key _
  · exact key _
theorem ev_j1 (x j n z f : Int) (s : S55) (h : LInv s) (hj : -9223372036854775808 ≤ j ∧ j ≤ 9223372036854775807) :
    Ev (fun k => loop_Loop_Update.j1 k x j n z s.f0 s.f1 s.f2 s.f3 f s.f5 s.f6 s.f7 s.f8 s.f9) (tup (slewed x j n z f s)) := by
  refine Ev.step (fun k => rfl) ?_
  exact Ev.bind (ev_shift j 2 hj.1 hj.2 (by omega) (by omega)) (Ev.bind (ev_tallied _ _ _ _ _ _ _ _ _ _ _ h.h8 h.h9) (Ev.now _))
theorem ev_j0 (x j n z d : Int) (s : S55) (h : LInv s) (hj : -9223372036854775808 ≤ j ∧ j ≤ 9223372036854775807) (hx : -4611686018427387904 ≤ x ∧ x ≤ 4611686018427387904) (hd : 0 ≤ d ∧ d ≤ 1073741824) (b : Bool) :
    Ev (fun k => loop_Loop_Update.j0 k x j n z d b s.f0 s.f1 s.f2 s.f3 s.f4 s.f5 s.f6 s.f7 s.f8 s.f9) (tup (bif b then stepped x n s.f4 s else slewed x j n z (adjV s.f8 s.f4 x s.f6 (mx d 1)) s)) := by
  cases b
  · refine Ev.step (fun k => rfl) ?_
    exact Ev.bind (ev_adjusted x _ s h hx (by unfold mx; split <;> omega)) (ev_j1 x j n z _ s h hj)
  · refine Ev.succ fun k => ?_
    by_cases c : s.f3 = 0 <;> simp only [loop_Loop_Update.j0, cond_true, c, if_true, if_false, stepped, tup]
theorem upd_ev (off j now : Int) (s : S55) (h : LInv s) (ho : -9223372036854775808 ≤ off ∧ off ≤ 9223372036854775807) (hj : -9223372036854775808 ≤ j ∧ j ≤ 9223372036854775807) :
    Ev (fun k => loop_Loop_Update.f k off j now s.f0 s.f1 s.f2 s.f3 s.f4 s.f5 s.f6 s.f7 s.f8 s.f9) (tup (updV off j now s)) := by
  unfold loop_Loop_Update.f
  have a0 := ev_add off 0 ho.1 ho.2 (by omega) (by omega)
  rw [Int.add_zero] at a0
  have hs := sat_in off
  have hn := now_in now
  have h7 := h.h7
  have h3 := h.h3
  refine Ev.bind a0 (Ev.bind (ev_abs _ (by omega) (by omega)) ?_)
  have eN : mn (mx now 0) 1073741824 = nowV now := rfl
  have eA : sat (if sat off < 0 then -sat off else sat off) = absV (sat off) := rfl
  simp only [eN, eA]
  rw [w64_in (n := nowV now - s.f7) (by omega) (by omega)]
  have eD : mx (nowV now - s.f7) 0 = sinceV now s := rfl
  have hd : 0 ≤ sinceV now s ∧ sinceV now s ≤ 1073741824 := by unfold sinceV mx; split <;> omega
  simp only [eD]
  unfold updV
  by_cases c1 : absV (sat off) > s.f1
  · simp only [c1, if_true]; exact Ev.now _
  simp only [c1, if_false]
  by_cases c2 : s.f3 = 0
  · simp only [c2, if_true]
    by_cases c3 : absV (sat off) > s.f0
    · simp only [c3, if_true]; unfold stepped tup; simp only [c2, if_true]; exact Ev.now _
    · simp only [c3, if_false]; exact Ev.now _
  simp only [c2, if_false]
  by_cases c4 : s.f3 = 1
  · simp only [c4, if_true]
    by_cases c3 : absV (sat off) > s.f0
    · simp only [c3, if_true]; unfold stepped tup; simp only [c2, if_false]; exact Ev.now _
    · simp only [c3, if_false]
      have := ev_j1 (sat off) j (nowV now) (absV (sat off)) s.f4 s h hj
      rw [c4] at this
      exact this
  simp only [c4, if_false]
  by_cases c5 : s.f3 = 3
  · simp only [c5, if_true]
    by_cases c6 : sinceV now s < s.f2
    · simp only [c6, if_true]; rw [← c5]; exact Ev.now _
    simp only [c6, if_false]
    have s2 := sat_in (sat off - s.f6)
    have h6 := h.h6
    have hm : 1 ≤ mx (sinceV now s) 1 ∧ mx (sinceV now s) 1 ≤ 1073741824 := by unfold mx; split <;> omega
    have s0 := shift_in (mx (sinceV now s) 1) 32
    refine Ev.bind (ev_sub _ _ (by omega) (by omega) (by omega) (by omega)) (Ev.bind (ev_seconds _ (by omega)) (Ev.bind (ev_rate _ _ (by omega) (by omega) (by omega)) (Ev.bind (ev_tuned _ _ _ _ _ _ _ _ _ _ _ h.h4 (rate_in _ _)) ?_)))
    by_cases c3 : absV (sat off) > s.f0
    · simp only [c3, if_true]; unfold stepped tup; simp only [c2, if_false]; exact Ev.now _
    · simp only [c3, if_false]
      have := ev_j1 (sat off) j (nowV now) (absV (sat off)) (tunedV s.f4 (rateV (sat (sat off - s.f6)) (shiftVal (mx (sinceV now s) 1) 32))) s h hj
      rw [c5] at this
      exact this
  simp only [c5, if_false]
  have k0 := ev_j0 (sat off) j (nowV now) (absV (sat off)) (sinceV now s) s h hj hs hd (decide (absV (sat off) > s.f0))
  by_cases c7 : s.f3 = 2
  · rw [c7] at k0
    simp only [c7, if_true]
    by_cases c3 : absV (sat off) > s.f0
    · rw [decide_eq_true c3, cond_true] at k0
      simp only [c3, if_true]
      by_cases c6 : sinceV now s < s.f2
      · simp only [c6, if_true]; rw [← c7]; exact Ev.now _
      · simp only [c6, if_false, decide_true]; exact k0
    · rw [decide_eq_false c3, cond_false] at k0
      simp only [c3, if_false, decide_false]; exact k0
  simp only [c7, if_false]
  have c8 : s.f3 = 4 := by omega
  simp only [c8, if_true]
  rw [c8] at k0
  by_cases c3 : absV (sat off) > s.f0
  · simp only [c3, if_true]; exact Ev.now _
  · rw [decide_eq_false c3, cond_false] at k0
    simp only [c3, if_false, decide_false]; exact k0
theorem stepped_inv (x n f : Int) (s : S55) (h : LInv s) (hn : 0 ≤ n ∧ n ≤ 1073741824) (hf : -140737488355 ≤ f ∧ f ≤ 140737488355) : LInv (stepped x n f s).2.2 := by
  obtain ⟨h0, h1, h2, h3, h4, h5, h6, h7, h8, h9⟩ := h
  unfold stepped
  refine ⟨h0, h1, h2, ?_, hf, ?_, ?_, hn, ?_, ?_⟩ <;> simp only <;> (repeat' split) <;> omega
theorem slewed_inv (x j n z f : Int) (s : S55) (h : LInv s) (hx : -4611686018427387904 ≤ x ∧ x ≤ 4611686018427387904) (hn : 0 ≤ n ∧ n ≤ 1073741824) (hf : -140737488355 ≤ f ∧ f ≤ 140737488355) : LInv (slewed x j n z f s).2.2 := by
  obtain ⟨h0, h1, h2, h3, h4, h5, h6, h7, h8, h9⟩ := h
  have key : ∀ q, (3 ≤ (pollV (tallyV q s.f8 s.f9) s.f8).1 ∧ (pollV (tallyV q s.f8 s.f9) s.f8).1 ≤ 10) ∧ (-30 ≤ (pollV (tallyV q s.f8 s.f9) s.f8).2 ∧ (pollV (tallyV q s.f8 s.f9) s.f8).2 ≤ 30) := by
    intro q
    cases q <;> simp only [tallyV, cond_true, cond_false] <;> unfold pollV mn mx <;> (repeat' split) <;> (simp only) <;> omega
  unfold slewed
  exact ⟨h0, h1, h2, by simp only; omega, hf, hx, hx, hn, (key _).1, (key _).2⟩
theorem adj_in (p f x base d : Int) : -140737488355 ≤ adjV p f x base d ∧ adjV p f x base d ≤ 140737488355 := by
  unfold adjV tunedV; split <;> exact cut_in _
structure UFacts (off j now : Int) (s : S55) (r : Int × Int × S55) : Prop where
  inv : LInv r.2.2
  k0 : r.2.2.f0 = s.f0
  k1 : r.2.2.f1 = s.f1
  k2 : r.2.2.f2 = s.f2
  act : 0 ≤ r.1 ∧ r.1 ≤ 3
  pan : r.1 = 3 ↔ absV (sat off) > s.f1
  still : r.1 = 3 → r.2.2 = s
  st : r.1 = 2 → absV (sat off) > s.f0 ∧ s.f3 ≠ 4 ∧ r.2.1 = sat off ∧ (s.f3 = 2 → s.f2 ≤ sinceV now s) ∧ (s.f3 ≠ 0 → r.2.2.f3 = 4)
  no : r.1 ≠ 2 → r.2.1 = 0
  sl : r.1 = 1 → r.2.2.f3 = 4 ∧ absV (sat off) ≤ s.f0 ∧ r.2.2.f5 = sat off
  sp : r.1 = 0 → s.f3 = 2 → r.2.2 = s
  sq : r.1 = 0 → s.f3 = 4 → r.2.2.f3 = 2 ∧ r.2.2.f7 = nowV now
theorem facts_stepped (off j now f : Int) (s : S55) (h : LInv s) (hf : -140737488355 ≤ f ∧ f ≤ 140737488355) (c1 : ¬ absV (sat off) > s.f1) (c2 : absV (sat off) > s.f0) (c3 : s.f3 ≠ 4) (c4 : s.f3 = 2 → s.f2 ≤ sinceV now s) : UFacts off j now s (stepped (sat off) (nowV now) f s) := by
  refine ⟨stepped_inv _ _ _ _ h (now_in _) hf, rfl, rfl, rfl, ?_, ?_, ?_, fun _ => ⟨c2, c3, rfl, c4, ?_⟩, ?_, ?_, ?_, ?_⟩
  · unfold stepped; simp only; omega
  · unfold stepped; simp only; omega
  · intro e; exact absurd e (by unfold stepped; simp only; omega)
  · intro c; unfold stepped; simp only [c, if_false]
  · intro e; exact absurd rfl e
  · intro e; exact absurd e (by unfold stepped; simp only; omega)
  · intro e; exact absurd e (by unfold stepped; simp only; omega)
  · intro e; exact absurd e (by unfold stepped; simp only; omega)
theorem facts_slewed (off j now f : Int) (s : S55) (h : LInv s) (hf : -140737488355 ≤ f ∧ f ≤ 140737488355) (c1 : ¬ absV (sat off) > s.f1) (c2 : ¬ absV (sat off) > s.f0) : UFacts off j now s (slewed (sat off) j (nowV now) (absV (sat off)) f s) := by
  refine ⟨slewed_inv _ _ _ _ _ _ h (sat_in _) (now_in _) hf, rfl, rfl, rfl, ?_, ?_, ?_, ?_, ?_, ?_, ?_, ?_⟩
  · unfold slewed; simp only; omega
  · unfold slewed; simp only; omega
  · intro e; exact absurd e (by unfold slewed; simp only; omega)
  · intro e; exact absurd e (by unfold slewed; simp only; omega)
  · intro e; rfl
  · intro e; exact ⟨rfl, by omega, rfl⟩
  · intro e; exact absurd e (by unfold slewed; simp only; omega)
  · intro e; exact absurd e (by unfold slewed; simp only; omega)
theorem facts_same (off j now : Int) (s : S55) (h : LInv s) (c1 : ¬ absV (sat off) > s.f1) (c4 : s.f3 ≠ 4) : UFacts off j now s (0, 0, s) := by
  refine ⟨h, rfl, rfl, rfl, by simp only; omega, by simp only; omega, fun _ => rfl, fun e => absurd e (by simp only; omega), fun _ => rfl, fun e => absurd e (by simp only; omega), fun _ _ => rfl, fun _ c => absurd c c4⟩
theorem upd_facts (off j now : Int) (s : S55) (h : LInv s) : UFacts off j now s (updV off j now s) := by
  unfold updV
  have hs := sat_in off
  have hn := now_in now
  have t : ∀ x, -140737488355 ≤ tunedV s.f4 x ∧ tunedV s.f4 x ≤ 140737488355 := fun x => cut_in _
  split
  · rename_i c
    exact ⟨h, rfl, rfl, rfl, by simp only; omega, ⟨fun _ => c, fun _ => rfl⟩, fun _ => rfl, fun e => absurd e (by simp only; omega), fun _ => rfl, fun e => absurd e (by simp only; omega), fun e => absurd e (by simp only; omega), fun e => absurd e (by simp only; omega)⟩
  rename_i c1
  split
  · rename_i c
    split
    · rename_i c2
      exact facts_stepped off j now _ s h h.h4 c1 c2 (by omega) (by omega)
    · obtain ⟨h0, h1, h2, h3, h4, h5, h6, h7, h8, h9⟩ := h
      exact ⟨⟨h0, h1, h2, by simp only; omega, h4, h5, hs, hn, h8, h9⟩, rfl, rfl, rfl, by simp only; omega, by simp only; omega, fun e => absurd e (by simp only; omega), fun e => absurd e (by simp only; omega), fun _ => rfl, fun e => absurd e (by simp only; omega), fun _ e => absurd e (by omega), fun _ e => absurd e (by omega)⟩
  rename_i c
  split
  · split
    · rename_i c4 c2; exact facts_stepped off j now _ s h h.h4 c1 c2 (by omega) (by omega)
    · rename_i c4 c2; exact facts_slewed off j now _ s h h.h4 c1 c2
  split
  · split
    · exact facts_same off j now s h c1 (by omega)
    split
    · rename_i c4 c5 c6 c2; exact facts_stepped off j now _ s h (t _) c1 c2 (by omega) (by omega)
    · rename_i c4 c5 c6 c2; exact facts_slewed off j now _ s h (t _) c1 c2
  split
  · split
    · split
      · exact facts_same off j now s h c1 (by omega)
      · rename_i c2 c6; exact facts_stepped off j now _ s h h.h4 c1 c2 (by omega) (by omega)
    · rename_i c2; exact facts_slewed off j now _ s h (adj_in _ _ _ _ _) c1 c2
  · split
    · obtain ⟨h0, h1, h2, h3, h4, h5, h6, h7, h8, h9⟩ := h
      exact ⟨⟨h0, h1, h2, by simp only; omega, h4, h5, h6, hn, h8, h9⟩, rfl, rfl, rfl, by simp only; omega, by simp only; omega, fun e => absurd e (by simp only; omega), fun e => absurd e (by simp only; omega), fun _ => rfl, fun e => absurd e (by simp only; omega), fun _ e => absurd e (by omega), fun _ _ => ⟨rfl, rfl⟩⟩
    · rename_i c2; exact facts_slewed off j now _ s h (adj_in _ _ _ _ _) c1 c2
theorem size_is (a : Int) (h : -9223372036854775808 ≤ a ∧ a ≤ 9223372036854775807) : foliotlaw15_size.f a = some (absV (sat a)) := by
  unfold foliotlaw15_size.f absV sat clampTo mx mn wrap64
  (repeat' split) <;> refine congrArg some ?_ <;> omega
theorem sat_sat (a : Int) : sat (sat a) = sat a := sat_of (sat_in a).1 (sat_in a).2
theorem new_is (a0 : List S112) (a1 : List S115) (a2 : List Int) (a3 : Int) (a4 : List S117) (a5 : ByteArray) (a6 : List ByteArray) (a7 : Int) (a8 a9 : Bool) (a10 a11 a12 a13 a14 f : Int) (has : Bool) (hf : -9223372036854775808 ≤ f ∧ f ≤ 9223372036854775807) :
    ∃ s : S55, loop_New.f a0 a1 a2 a3 a4 a5 a6 a7 a8 a9 a10 a11 a12 a13 a14 f has = some (s.f0, s.f1, s.f2, s.f3, s.f4, s.f5, s.f6, s.f7, s.f8, s.f9) ∧ LInv s ∧ s.f0 = mn (mx a10 1) 4611686018427387904 ∧ s.f1 = mn (mx a11 1) 4611686018427387904 ∧ s.f2 = mn (mx a12 0) 1048576 ∧ s.f3 = (bif has then 1 else 0) ∧ s.f5 = 0 ∧ s.f4 = (bif has then clampTo 140737488355 f else 0) ∧ s.f6 = 0 ∧ s.f7 = 0 ∧ s.f8 = 3 ∧ s.f9 = 0 := by
  have e0 : 1 ≤ mn (mx a10 1) 4611686018427387904 ∧ mn (mx a10 1) 4611686018427387904 ≤ 4611686018427387904 := by unfold mn mx; (repeat' split) <;> omega
  have e1 : 1 ≤ mn (mx a11 1) 4611686018427387904 ∧ mn (mx a11 1) 4611686018427387904 ≤ 4611686018427387904 := by unfold mn mx; (repeat' split) <;> omega
  have e2 : 0 ≤ mn (mx a12 0) 1048576 ∧ mn (mx a12 0) 1048576 ≤ 1048576 := by unfold mn mx; (repeat' split) <;> omega
  unfold loop_New.f
  obtain ⟨u, m, eq, r, _⟩ := size_rep f hf.1 hf.2
  have ec : fixed_Cut.f f = some (clampTo 140737488355 f) := by
    unfold fixed_Cut.f; rw [eq]; simp only [bsome]; rw [cut_rep r _ (by omega) (by omega)]; rfl
  cases has
  · exact ⟨⟨_, _, _, 0, 0, 0, 0, 0, 3, 0⟩, rfl, ⟨e0, e1, e2, by simp only; omega, by simp only; omega, by simp only; omega, by simp only; omega, by simp only; omega, by simp only; omega, by simp only; omega⟩, rfl, rfl, rfl, rfl, rfl, rfl, rfl, rfl, rfl, rfl⟩
  · rw [ec]
    exact ⟨⟨_, _, _, 1, _, 0, 0, 0, 3, 0⟩, rfl, ⟨e0, e1, e2, by simp only; omega, cut_in _, by simp only; omega, by simp only; omega, by simp only; omega, by simp only; omega, by simp only; omega⟩, rfl, rfl, rfl, rfl, rfl, rfl, rfl, rfl, rfl, rfl⟩
theorem Ev.eq {α : Type} {g : Option α} {r : α} (h : Ev (fun _ => g) r) : g = some r := by
  obtain ⟨K, h⟩ := h; exact h K (Nat.le_refl K)
def tickX (s : S55) : Int := shiftVal s.f5 (-s.f8 - 2)
def tickS (s : S55) : S55 := ⟨s.f0, s.f1, s.f2, s.f3, s.f4, sat (s.f5 - tickX s), s.f6, s.f7, s.f8, s.f9⟩
theorem tick_is (s : S55) (h : LInv s) : loop_Loop_Tick.f s.f0 s.f1 s.f2 s.f3 s.f4 s.f5 s.f6 s.f7 s.f8 s.f9 = some (tickX s, s.f0, s.f1, s.f2, s.f3, s.f4, sat (s.f5 - tickX s), s.f6, s.f7, s.f8, s.f9) := by
  have h5 := h.h5
  have h8 := h.h8
  have hx := shift_in s.f5 (-s.f8 - 2)
  unfold loop_Loop_Tick.f
  rw [w64_in (n := -s.f8) (by omega) (by omega), w64_in (n := -s.f8 - 2) (by omega) (by omega), (ev_shift s.f5 (-s.f8 - 2) (by omega) (by omega) (by omega) (by omega)).eq]
  simp only [bsome]
  rw [(ev_sub s.f5 (shiftVal s.f5 (-s.f8 - 2)) (by omega) (by omega) (by omega) (by omega)).eq]
  rfl
theorem tick_inv (s : S55) (h : LInv s) : LInv (tickS s) := by
  obtain ⟨h0, h1, h2, h3, h4, h5, h6, h7, h8, h9⟩ := h
  exact ⟨h0, h1, h2, h3, h4, sat_in _, h6, h7, h8, h9⟩
end Go.Proofs.Ytmbhbkconpfncaa.C
