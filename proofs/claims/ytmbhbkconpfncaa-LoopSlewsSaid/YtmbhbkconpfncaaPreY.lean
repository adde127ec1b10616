/- Plain lemmas on the printed functions: whole numbers, no program in sight. -/
import Derived.Test.YtmbhbkconpfncaaPreX
import Derived.Laws.BitsLemmas
namespace Go.Proofs.Ytmbhbkconpfncaa.V
open Go Go.RowKit Go.Proofs.Ytmbhbkconpfncaa.Ev
set_option linter.unusedVariables false
set_option linter.unusedSimpArgs false
set_option maxRecDepth 100000
theorem mx_comm (a b : Int) : mx a b = mx b a := by unfold mx; (repeat' split) <;> omega
theorem now_ref (n : Int) : mx 0 (mn n 1073741824) = nowV n := by unfold nowV mx mn; (repeat' split) <;> omega
theorem ref_seconds (d : Int) (h : 0 ≤ d ∧ d ≤ 1073741824) : Ev (fun k => foliotref15_seconds.f k d) (shiftVal d 32) := by
  unfold foliotref15_seconds.f
  rw [w64_in (n := d * 65536) (by omega) (by omega)]
  have m := ref_mul (d * 65536) 281474976710656 (by omega) (by omega) (by omega) (by omega)
  have e : sat (d * 65536 * 281474976710656 / 4294967296) = shiftVal d 32 := by
    unfold shiftVal
    rw [if_neg (by omega), show ((32 : Int).toNat) = 32 from rfl, show (2 : Int) ^ 32 = 4294967296 from rfl]
    congr 1; omega
  rw [e] at m
  exact Ev.bind m (Ev.now _)
theorem ref_shiftV (a n : Int) (ha0 : -9223372036854775808 ≤ a) (ha : a ≤ 9223372036854775807) (hn0 : -9223372036854775808 ≤ n) (hn : n ≤ 9223372036854775807) : Ev (fun k => foliotref01_Shift.f k a n) (shiftVal a n) := ref_shift a n ha0 ha hn0 hn
theorem ref_measure (x now : Int) (s : S55) (h : LInv s) (hx : -4611686018427387904 ≤ x ∧ x ≤ 4611686018427387904) :
    Ev (fun k => foliotref15_Loop_measure.f k x (nowV now) s.f0 s.f1 s.f2 s.f3 s.f4 s.f5 s.f6 s.f7 s.f8 s.f9) (s.f0, s.f1, s.f2, s.f3, tunedV s.f4 (rateV (sat (x - s.f6)) (shiftVal (mx (sinceV now s) 1) 32)), s.f5, s.f6, s.f7, s.f8, s.f9) := by
  have hn := now_in now
  have h7 := h.h7; have h6 := h.h6; have h4 := h.h4
  unfold foliotref15_Loop_measure.f foliotref15_Loop_since.f
  simp only [bsome]
  rw [w64_in (n := nowV now - s.f7) (by omega) (by omega), mx_comm 0, mx_comm 1]
  have eD : mx (nowV now - s.f7) 0 = sinceV now s := rfl
  rw [eD]
  have hm : 1 ≤ mx (sinceV now s) 1 ∧ mx (sinceV now s) 1 ≤ 1073741824 := by unfold sinceV mx; (repeat' split) <;> omega
  have s2 := sat_in (x - s.f6)
  have s0 := shift_in (mx (sinceV now s) 1) 32
  have r0 := rate_in (sat (x - s.f6)) (shiftVal (mx (sinceV now s) 1) 32)
  refine Ev.bind (ref_sub x s.f6 (by omega) (by omega) (by omega) (by omega)) (Ev.bind (ref_seconds _ (by omega)) (Ev.bind (ref_rate _ _ (by omega) (by omega) (by omega) (by omega)) ?_))
  have eR : (if shiftVal (mx (sinceV now s) 1) 32 ≤ 0 then 0 else clampTo 140737488355 (sat (x - s.f6) * 281474976710656 / shiftVal (mx (sinceV now s) 1) 32)) = rateV (sat (x - s.f6)) (shiftVal (mx (sinceV now s) 1) 32) := rfl
  rw [eR, w64_in (n := s.f4 + rateV (sat (x - s.f6)) (shiftVal (mx (sinceV now s) 1) 32)) (by omega) (by omega)]
  exact Ev.bind (ref_cut _ (by omega) (by omega)) (Ev.now _)
theorem ref_adj_l0 (x d : Int) (s : S55) (h : LInv s) (hx : -4611686018427387904 ≤ x ∧ x ≤ 4611686018427387904) (hd : 1 ≤ d ∧ d ≤ 2048) : ∀ (m j : Nat), (j : Int) + m = s.f8 →
    Ev (fun k => foliotref15_Loop_adjust.l0 k x d (2 ^ j) j s.f0 s.f1 s.f2 s.f3 s.f4 s.f5 s.f6 s.f7 s.f8 s.f9) (s.f0, s.f1, s.f2, s.f3, adjV s.f8 s.f4 x s.f6 d, s.f5, s.f6, s.f7, s.f8, s.f9) := by
  have h8 := h.h8; have h4 := h.h4
  intro m
  induction m with
  | zero =>
    intro j hj
    have ej : s.f8 = (j : Int) := by omega
    refine Ev.step (fun k => by rw [foliotref15_Loop_adjust.l0]) ?_
    have hp : (0 : Int) < 2 ^ j := Int.pow_pos (by decide)
    have hp2 : (0 : Int) < 2 ^ (2 * j) := Int.pow_pos (by decide)
    have hp3 := pow_le (show j ≤ 10 by omega)
    have hp4 := pow_le (show 2 * j ≤ 20 by omega)
    rw [show (2 : Int) ^ 10 = 1024 from rfl] at hp3
    rw [show (2 : Int) ^ 20 = 1048576 from rfl] at hp4
    have hmn : 0 ≤ mn d (2 ^ j) ∧ mn d (2 ^ j) ≤ 1024 := by unfold mn; split <;> omega
    have esq : (2 : Int) ^ j * 2 ^ j = 2 ^ (2 * j) := by rw [← Int.pow_add]; congr 1; omega
    have c : ¬ (j : Int) < s.f8 := by omega
    simp only [c, if_false]
    rw [w64_in (n := mn d (2 ^ j) * 256) (by omega) (by omega), esq, w64_in (n := (2 : Int) ^ (2 * j)) (by omega) (by omega)]
    have hs := scale_in x (mn d (2 ^ j) * 256) (2 ^ (2 * j))
    have e := ref_scale x (mn d (2 ^ j) * 256) (2 ^ (2 * j)) (by omega) (by omega) (by omega) (by omega) (by omega) (by omega)
    have ea : adjV s.f8 s.f4 x s.f6 d = tunedV s.f4 (clampTo 140737488355 (scaleV x (mn d (2 ^ j) * 256) (2 ^ (2 * j)))) := by
      unfold adjV
      rw [if_neg (by omega), ej, show ((j : Int)).toNat = j from by omega, show (2 * (j : Int)).toNat = 2 * j from by omega]
    rw [ea]
    refine Ev.bind e ?_
    have eS : (if (2 : Int) ^ (2 * j) ≤ 0 then 0 else sat (x * (mn d (2 ^ j) * 256) / 2 ^ (2 * j))) = scaleV x (mn d (2 ^ j) * 256) (2 ^ (2 * j)) := rfl
    rw [eS]
    generalize scaleV x (mn d (2 ^ j) * 256) (2 ^ (2 * j)) = v at *
    have cv := cut_in v
    refine Ev.bind (ref_cut v (by omega) (by omega)) ?_
    rw [w64_in (n := s.f4 + clampTo 140737488355 v) (by omega) (by omega)]
    exact Ev.bind (ref_cut _ (by omega) (by omega)) (Ev.now _)
  | succ m ih =>
    intro j hj
    have hp : (0 : Int) < 2 ^ j := Int.pow_pos (by decide)
    have hp3 := pow_le (show j ≤ 10 by omega)
    rw [show (2 : Int) ^ 10 = 1024 from rfl] at hp3
    refine Ev.step (fun k => by rw [foliotref15_Loop_adjust.l0]) ?_
    have c : (j : Int) < s.f8 := by omega
    simp only [c, if_true]
    rw [w64_in (n := (2 : Int) ^ j * 2) (by omega) (by omega), w64_in (n := (j : Int) + 1) (by omega) (by omega), ← Int.pow_succ]
    exact ih (j + 1) (by omega)
theorem ref_adjust (x now : Int) (s : S55) (h : LInv s) (hx : -4611686018427387904 ≤ x ∧ x ≤ 4611686018427387904) :
    Ev (fun k => foliotref15_Loop_adjust.f k x (nowV now) s.f0 s.f1 s.f2 s.f3 s.f4 s.f5 s.f6 s.f7 s.f8 s.f9) (s.f0, s.f1, s.f2, s.f3, adjV s.f8 s.f4 x s.f6 (mx (sinceV now s) 1), s.f5, s.f6, s.f7, s.f8, s.f9) := by
  have hn := now_in now
  have h7 := h.h7; have h6 := h.h6; have h4 := h.h4; have h8 := h.h8
  unfold foliotref15_Loop_adjust.f foliotref15_Loop_since.f
  simp only [bsome]
  rw [w64_in (n := nowV now - s.f7) (by omega) (by omega), mx_comm 0, mx_comm 1]
  have eD : mx (nowV now - s.f7) 0 = sinceV now s := rfl
  rw [eD]
  have hm : 1 ≤ mx (sinceV now s) 1 ∧ mx (sinceV now s) 1 ≤ 1073741824 := by unfold sinceV mx; (repeat' split) <;> omega
  generalize mx (sinceV now s) 1 = d at *
  by_cases c : d ≤ 2048
  · simp only [c, if_true]
    obtain ⟨p, hp⟩ := Int.eq_ofNat_of_zero_le (show 0 ≤ s.f8 by omega)
    have := ref_adj_l0 x d s h hx (by omega) p 0 (by omega)
    simpa using this
  · simp only [c, if_false]
    have s2 := sat_in (x - s.f6)
    have s0 := shift_in d 32
    have s1 := shift_in (shiftVal d 32) 3
    have r0 := rate_in (sat (x - s.f6)) (shiftVal (shiftVal d 32) 3)
    have e8 : Ev (fun k => foliotref15_eight.f k d) (shiftVal (shiftVal d 32) 3) := by
      unfold foliotref15_eight.f
      exact Ev.bind (ref_seconds d (by omega)) (Ev.bind (ref_shiftV _ 3 (by omega) (by omega) (by omega) (by omega)) (Ev.now _))
    have ea : adjV s.f8 s.f4 x s.f6 d = tunedV s.f4 (rateV (sat (x - s.f6)) (shiftVal (shiftVal d 32) 3)) := by
      unfold adjV; rw [if_pos (by omega)]
    rw [ea]
    refine Ev.bind (ref_sub x s.f6 (by omega) (by omega) (by omega) (by omega)) (Ev.bind e8 (Ev.bind (ref_rate _ _ (by omega) (by omega) (by omega) (by omega)) ?_))
    have eR : (if shiftVal (shiftVal d 32) 3 ≤ 0 then 0 else clampTo 140737488355 (sat (x - s.f6) * 281474976710656 / shiftVal (shiftVal d 32) 3)) = rateV (sat (x - s.f6)) (shiftVal (shiftVal d 32) 3) := rfl
    rw [eR, w64_in (n := s.f4 + rateV (sat (x - s.f6)) (shiftVal (shiftVal d 32) 3)) (by omega) (by omega)]
    exact Ev.bind (ref_cut _ (by omega) (by omega)) (Ev.now _)
theorem ref_follow (x j n f : Int) (s : S55) (h : LInv s) (hx : -4611686018427387904 ≤ x ∧ x ≤ 4611686018427387904) (hj : -9223372036854775808 ≤ j ∧ j ≤ 9223372036854775807) :
    Ev (fun k => foliotref15_Loop_Update.j1 k x j n s.f0 s.f1 s.f2 s.f3 f s.f5 s.f6 s.f7 s.f8 s.f9) (tup (slewed x j n (absV x) f s)) := by
  have h8 := h.h8; have h9 := h.h9
  refine Ev.step (fun k => by rw [foliotref15_Loop_Update.j1]) ?_
  have key : ∀ t, Ev (fun k => foliotref15_Loop_follow.j0 k s.f0 s.f1 s.f2 4 f x x n s.f8 t) (1, 0, s.f0, s.f1, s.f2, 4, f, x, x, n, (pollV t s.f8).1, (pollV t s.f8).2) := by
    intro t
    refine Ev.succ fun k => ?_
    simp only [foliotref15_Loop_follow.j0]
    rw [w64_in (n := s.f8 + 1) (by omega) (by omega), w64_in (n := s.f8 - 1) (by omega) (by omega)]
    unfold pollV
    (repeat' split) <;> rfl
  have fl : Ev (fun k => foliotref15_Loop_follow.f k x j n s.f0 s.f1 s.f2 s.f3 f s.f5 s.f6 s.f7 s.f8 s.f9) (tup (slewed x j n (absV x) f s)) := by
    unfold foliotref15_Loop_follow.f
    refine Ev.bind (ref_abs x (by omega) (by omega)) (Ev.bind (ref_shiftV j 2 hj.1 hj.2 (by omega) (by omega)) ?_)
    have eA : sat (if x < 0 then -x else x) = absV x := rfl
    rw [eA]
    rw [w64_in (n := s.f9 + s.f8) (by omega) (by omega), w64_in (n := 2 * s.f8) (by omega) (by omega), w64_in (n := s.f9 - 2 * s.f8) (by omega) (by omega)]
    by_cases c : absV x < shiftVal j 2
    · have := key (s.f9 + s.f8)
      simp only [c, if_true]
      unfold tup slewed tallyV
      simp only [c, decide_true, cond_true]
      rw [show s.f9 - 2 * s.f8 + 3 * s.f8 = s.f9 + s.f8 from by omega]
      exact this
    · have := key (s.f9 - 2 * s.f8)
      simp only [c, if_false]
      unfold tup slewed tallyV
      simp only [c, decide_false, cond_false]
      exact this
  exact Ev.bind fl (Ev.now _)
theorem ref_stepped (x n f : Int) (s : S55) : Ev (fun k => foliotref15_Loop_Update.j2 k x n s.f0 s.f1 s.f2 s.f3 f s.f5 s.f6 s.f7 s.f8 s.f9) (tup (stepped x n f s)) := by
  refine Ev.succ fun k => ?_
  unfold tup stepped
  by_cases c : s.f3 = 0 <;> simp only [foliotref15_Loop_Update.j2, foliotref15_Loop_step.f, c, if_true, if_false, bsome]
theorem rupd_ev (off j now : Int) (s : S55) (h : LInv s) (ho : -9223372036854775808 ≤ off ∧ off ≤ 9223372036854775807) (hj : -9223372036854775808 ≤ j ∧ j ≤ 9223372036854775807) :
    Ev (fun k => foliotref15_Loop_Update.f k off j now s.f0 s.f1 s.f2 s.f3 s.f4 s.f5 s.f6 s.f7 s.f8 s.f9) (tup (updV off j now s)) := by
  unfold foliotref15_Loop_Update.f
  have a0 := ref_add off 0 ho.1 ho.2 (by omega) (by omega)
  rw [Int.add_zero] at a0
  have hs := sat_in off
  have hn := now_in now
  have h7 := h.h7
  have h3 := h.h3
  refine Ev.bind a0 (Ev.bind (ref_abs _ (by omega) (by omega)) ?_)
  have eA : sat (if sat off < 0 then -sat off else sat off) = absV (sat off) := rfl
  simp only [now_ref, eA, foliotref15_Loop_since.f, bsome]
  rw [w64_in (n := nowV now - s.f7) (by omega) (by omega), mx_comm 0]
  have eD : mx (nowV now - s.f7) 0 = sinceV now s := rfl
  simp only [eD]
  have aj0 : Ev (fun k => foliotref15_Loop_Update.j0 k (sat off) j (nowV now) s.f0 s.f1 s.f2 s.f3 s.f4 s.f5 s.f6 s.f7 s.f8 s.f9) (tup (slewed (sat off) j (nowV now) (absV (sat off)) (adjV s.f8 s.f4 (sat off) s.f6 (mx (sinceV now s) 1)) s)) := by
    refine Ev.step (fun k => by rw [foliotref15_Loop_Update.j0]) ?_
    exact Ev.bind (ref_adjust (sat off) now s h hs) (ref_follow _ _ _ _ s h hs hj)
  have ms := ref_measure (sat off) now s h hs
  have fl := fun f => ref_follow (sat off) j (nowV now) f s h hs hj
  have st := fun f => ref_stepped (sat off) (nowV now) f s
  unfold updV
  by_cases c1 : absV (sat off) > s.f1
  · simp only [c1, if_true]; exact Ev.now _
  simp only [c1, if_false]
  have hc : s.f3 = 0 ∨ s.f3 = 1 ∨ s.f3 = 2 ∨ s.f3 = 3 ∨ s.f3 = 4 := by omega
  by_cases c3 : absV (sat off) > s.f0
  · simp only [c3, if_true]
    rcases hc with e | e | e | e | e
    · have := st s.f4
      rw [e] at this
      simp only [e, if_true, if_false, show ¬ (0 : Int) = 4 from by decide, show ¬ (0 : Int) = 2 from by decide, show ¬ (0 : Int) = 3 from by decide]
      exact this
    · have := st s.f4
      rw [e] at this
      simp only [e, if_true, if_false, show ¬ (1 : Int) = 4 from by decide, show ¬ (1 : Int) = 2 from by decide, show ¬ (1 : Int) = 3 from by decide, show ¬ (1 : Int) = 0 from by decide]
      exact this
    · by_cases c6 : sinceV now s < s.f2
      · simp only [e, c6, if_true, if_false, show ¬ (2 : Int) = 4 from by decide, show ¬ (2 : Int) = 1 from by decide, show ¬ (2 : Int) = 3 from by decide, show ¬ (2 : Int) = 0 from by decide]
        rw [← e]; exact Ev.now _
      · have := st s.f4
        rw [e] at this
        simp only [e, c6, if_true, if_false, show ¬ (2 : Int) = 4 from by decide, show ¬ (2 : Int) = 1 from by decide, show ¬ (2 : Int) = 3 from by decide, show ¬ (2 : Int) = 0 from by decide]
        exact this
    · by_cases c6 : sinceV now s < s.f2
      · simp only [e, c6, if_true, if_false, show ¬ (3 : Int) = 4 from by decide, show ¬ (3 : Int) = 1 from by decide, show ¬ (3 : Int) = 2 from by decide, show ¬ (3 : Int) = 0 from by decide]
        rw [← e]; exact Ev.now _
      · have := st (tunedV s.f4 (rateV (sat (sat off - s.f6)) (shiftVal (mx (sinceV now s) 1) 32)))
        rw [e] at this ms
        simp only [e, c6, if_true, if_false, show ¬ (3 : Int) = 4 from by decide, show ¬ (3 : Int) = 1 from by decide, show ¬ (3 : Int) = 2 from by decide, show ¬ (3 : Int) = 0 from by decide]
        exact Ev.bind ms this
    · simp only [e, if_true, if_false, show ¬ (4 : Int) = 3 from by decide, show ¬ (4 : Int) = 1 from by decide, show ¬ (4 : Int) = 2 from by decide, show ¬ (4 : Int) = 0 from by decide]
      exact Ev.now _
  · simp only [c3, if_false]
    rcases hc with e | e | e | e | e
    · simp only [e, if_true]
      exact Ev.now _
    · have := fl s.f4
      rw [e] at this
      simp only [e, if_true, if_false, show ¬ (1 : Int) = 4 from by decide, show ¬ (1 : Int) = 2 from by decide, show ¬ (1 : Int) = 3 from by decide, show ¬ (1 : Int) = 0 from by decide]
      exact this
    · rw [e] at aj0
      simp only [e, if_true, if_false, show ¬ (2 : Int) = 4 from by decide, show ¬ (2 : Int) = 1 from by decide, show ¬ (2 : Int) = 3 from by decide, show ¬ (2 : Int) = 0 from by decide]
      exact aj0
    · by_cases c6 : sinceV now s < s.f2
      · simp only [e, c6, if_true, if_false, show ¬ (3 : Int) = 4 from by decide, show ¬ (3 : Int) = 1 from by decide, show ¬ (3 : Int) = 2 from by decide, show ¬ (3 : Int) = 0 from by decide]
        rw [← e]; exact Ev.now _
      · have := fl (tunedV s.f4 (rateV (sat (sat off - s.f6)) (shiftVal (mx (sinceV now s) 1) 32)))
        rw [e] at this ms
        simp only [e, c6, if_true, if_false, show ¬ (3 : Int) = 4 from by decide, show ¬ (3 : Int) = 1 from by decide, show ¬ (3 : Int) = 2 from by decide, show ¬ (3 : Int) = 0 from by decide]
        exact Ev.bind ms this
    · rw [e] at aj0
      simp only [e, if_true, if_false, show ¬ (4 : Int) = 3 from by decide, show ¬ (4 : Int) = 1 from by decide, show ¬ (4 : Int) = 2 from by decide, show ¬ (4 : Int) = 0 from by decide]
      exact aj0
theorem rtick_ev (s : S55) (h : LInv s) : Ev (fun k => foliotref15_Loop_Tick.f k s.f0 s.f1 s.f2 s.f3 s.f4 s.f5 s.f6 s.f7 s.f8 s.f9) (tickX s, s.f0, s.f1, s.f2, s.f3, s.f4, sat (s.f5 - tickX s), s.f6, s.f7, s.f8, s.f9) := by
  have h5 := h.h5
  have h8 := h.h8
  have hx := shift_in s.f5 (-s.f8 - 2)
  unfold foliotref15_Loop_Tick.f
  rw [w64_in (n := s.f8 + 2) (by omega) (by omega), w64_in (n := -(s.f8 + 2)) (by omega) (by omega), show -(s.f8 + 2) = -s.f8 - 2 from by omega]
  exact Ev.bind (ref_shiftV s.f5 (-s.f8 - 2) (by omega) (by omega) (by omega) (by omega)) (Ev.bind (ref_sub s.f5 (shiftVal s.f5 (-s.f8 - 2)) (by omega) (by omega) (by omega) (by omega)) (Ev.now _))
theorem rnew_ev (a0 : List S112) (a1 : List S115) (a2 : List Int) (a3 : Int) (a4 : List S117) (a5 : ByteArray) (a6 : List ByteArray) (a7 : Int) (a8 a9 : Bool) (a10 a11 a12 a13 a14 f : Int) (has : Bool) (hf : -9223372036854775808 ≤ f ∧ f ≤ 9223372036854775807) (s : S55) (e : loop_New.f a0 a1 a2 a3 a4 a5 a6 a7 a8 a9 a10 a11 a12 a13 a14 f has = some (s.f0, s.f1, s.f2, s.f3, s.f4, s.f5, s.f6, s.f7, s.f8, s.f9)) :
    Ev (fun k => foliotref15_New.f k a0 a1 a2 a3 a4 a5 a6 a7 a8 a9 a10 a11 a12 a13 a14 f has) (s.f0, s.f1, s.f2, s.f3, s.f4, s.f5, s.f6, s.f7, s.f8, s.f9) := by
  have m1 : ∀ x : Int, mx 1 (mn x 4611686018427387904) = mn (mx x 1) 4611686018427387904 := by intro x; unfold mx mn; (repeat' split) <;> omega
  have m2 : ∀ x : Int, mx 0 (mn x 1048576) = mn (mx x 0) 1048576 := by intro x; unfold mx mn; (repeat' split) <;> omega
  unfold loop_New.f at e
  unfold foliotref15_New.f
  rw [m1, m1, m2]
  cases has
  · simp only [cond_false] at e ⊢
    exact Ev.const e
  · simp only [cond_true] at e ⊢
    rw [(ev_cut1 f hf.1 hf.2).eq] at e
    simp only [bsome] at e
    exact Ev.bind (ref_cut f hf.1 hf.2) (Ev.const e)
end Go.Proofs.Ytmbhbkconpfncaa.V
