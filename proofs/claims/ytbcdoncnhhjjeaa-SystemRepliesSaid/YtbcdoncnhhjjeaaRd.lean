/- Plain lemmas on the printed functions: whole numbers, no program in sight. -/
import Derived.Test.YtbcdoncnhhjjeaaRc
import Derived.Laws.BitsLemmas
namespace Go.Proofs.Ytbcdoncnhhjjeaa.Q
open Go Go.RowKit Go.Proofs.Ytbcdoncnhhjjeaa.Ev
set_option linter.unusedVariables false
set_option linter.unusedSimpArgs false
set_option maxRecDepth 100000
/-! ### stamps, the system's age, the reply -/
def ageVal (e ref now : Int) : Int := mx (mn (sat (e + sat (4222124650 * mx (sinceVal now ref) 0 / 281474976710656))) 68719476736) 0
theorem since_rng (a b : Int) : -4611686018427387904 ≤ sinceVal a b ∧ sinceVal a b ≤ 4611686018427387904 := sat_in _
theorem mx0_rng {x : Int} (h0 : -4611686018427387904 ≤ x) (h1 : x ≤ 4611686018427387904) : -9223372036854775808 ≤ mx x 0 ∧ mx x 0 ≤ 9223372036854775807 := by
  unfold mx; split <;> omega
theorem ev_age (a0 a1 a2 a3 a4 a5 a6 a7 a8 a9 a10 now : Int) (h0 : -9223372036854775808 ≤ a4) (h1 : a4 ≤ 9223372036854775807) :
    Ev (fun k => system_Age.f k a0 a1 a2 a3 a4 a5 a6 a7 a8 a9 a10 now) (a0, a1, a2, a3, ageVal a4 a6 now, a5, a6, a7, a8, a9, a10) := by
  unfold system_Age.f
  have hs := since_rng now a6
  have hm := mx0_rng hs.1 hs.2
  have hd := sat_in (4222124650 * mx (sinceVal now a6) 0 / 281474976710656)
  refine Ev.bind (ev_since now a6) (Ev.bind (ev_drift 4222124650 _ (by omega) (by omega) hm.1 hm.2) (Ev.bind (ev_add a4 _ h0 h1 (by omega) (by omega)) ?_))
  unfold system_within.f ageVal
  exact Ev.now _
theorem ref_age (a0 a1 a2 a3 a4 a5 a6 a7 a8 a9 a10 now : Int) (h0 : -9223372036854775808 ≤ a4) (h1 : a4 ≤ 9223372036854775807) :
    Ev (fun k => foliotref17_Age.f k a0 a1 a2 a3 a4 a5 a6 a7 a8 a9 a10 now) (a0, a1, a2, a3, ageVal a4 a6 now, a5, a6, a7, a8, a9, a10) := by
  unfold foliotref17_Age.f
  have hs := since_rng now a6
  have hm := mx0_rng hs.1 hs.2
  have e1 : mx 0 (sinceVal now a6) = mx (sinceVal now a6) 0 := by unfold mx; (repeat' split) <;> omega
  have hd := sat_in (4222124650 * mx (sinceVal now a6) 0 / 281474976710656)
  refine Ev.bind (Ev.const (ref_since now a6)) ?_
  rw [e1]
  refine Ev.bind (ref_drift 4222124650 _ (by omega) (by omega) hm.1 hm.2) (Ev.bind (ref_add a4 _ h0 h1 (by omega) (by omega)) ?_)
  have e2 : mx 0 (mn (sat (a4 + sat (4222124650 * mx (sinceVal now a6) 0 / 281474976710656))) 68719476736) = ageVal a4 a6 now := by
    unfold ageVal
    generalize sat (a4 + sat (4222124650 * mx (sinceVal now a6) 0 / 281474976710656)) = x
    unfold mx mn
    (repeat' split) <;> omega
  unfold foliotref17_inside.f
  simp only [bsome]
  rw [e2]
  exact Ev.now _
def replyStratum (s : Int) : Int := if s < 1 then 0 else if s ≥ 16 then 0 else s
def replyMode (m : Int) : Int := if m = 3 then 4 else 2
abbrev Rep15 := Int × Int × Int × Int × Int × Int × Int × Int × Int × Int × Int × Int × Int × Int × Bool × Bool
/-- What is answered. -/
def replyV (s0 s1 s3 s4 s5 s6 q1 q2 q4 q12 rc xm : Int) : Rep15 :=
  (Go.bits .and .i64 s0 3, mn (mx q1 1) 4, replyMode q2, replyStratum s1, mn (mx q4 (-128)) 127, (-20), mx (mn s3 281474976645120) 0, mx (mn (ageVal s4 s6 xm) 281474976645120) 0, s5, s6, q12, rc, mx xm 1, 0, false, true)
def noneV : Rep15 := (0, 0, 0, 0, 0, 0, 0, 0, 0, 0, 0, 0, 0, 0, false, false)
theorem fromShort_most : stamp_FromShort.f 4294967295 = some 281474976645120 := by kernel_rfl
theorem rfromShort_most : foliotref02_FromShort.f 4294967295 = some 281474976645120 := by kernel_rfl
theorem mn_mx (a lo hi : Int) (h : lo ≤ hi) : mn (mx a lo) hi = mx lo (mn a hi) := by
  unfold mx mn
  (repeat' split) <;> omega
theorem mx_comm (a b : Int) : mx a b = mx b a := by
  unfold mx
  (repeat' split) <;> omega
theorem ev_reply_j0 (s0 st s2 s3 ag s5 s6 s7 s8 s9 s10 q0 q1 q2 q3 q4 q5 q6 q7 q8 q9 q10 q11 q12 : Int) (l13 : List S94) (q14 : Int) (q15 : Bool) (l16 : List Int) (rc xm : Int) (hm : q2 = 3 ∨ q2 = 1) :
    Ev (fun k => system_Reply.j0 k rc xm 281474976645120 s0 st s2 s3 ag s5 s6 s7 s8 s9 s10 q0 q1 q2 q3 q4 q5 q6 q7 q8 q9 q10 q11 q12 l13 q14 q15 l16 0 0 0 0 0 0 0 0 0 0 0 0 0 0 false 0 2 0 4 0 0)
      (Go.bits .and .i64 s0 3, mn (mx q1 1) 4, replyMode q2, st, mn (mx q4 (-128)) 127, (-20), mx (mn s3 281474976645120) 0, mx (mn ag 281474976645120) 0, s5, s6, q12, rc, mx xm 1, 0, false, true) := by
  refine Ev.succ fun k => ?_
  rw [system_Reply.j0]
  unfold system_within.f replyMode
  rcases hm with rfl | rfl
  · rw [if_neg (by decide), if_neg (by decide), if_neg (by decide), if_pos rfl, bsome, bsome, if_pos rfl]
  · rw [if_neg (by decide), if_pos rfl, bsome, bsome, if_neg (by decide)]
theorem ev_reply (s0 s1 s2 s3 s4 s5 s6 s7 s8 s9 s10 q0 q1 q2 q3 q4 q5 q6 q7 q8 q9 q10 q11 q12 : Int) (l13 : List S94) (q14 : Int) (q15 : Bool) (l16 : List Int) (rc xm : Int) (hm : q2 = 3 ∨ q2 = 1)
    (h0 : -9223372036854775808 ≤ s4) (h1 : s4 ≤ 9223372036854775807) :
    Ev (fun k => system_Reply.f k s0 s1 s2 s3 s4 s5 s6 s7 s8 s9 s10 q0 q1 q2 q3 q4 q5 q6 q7 q8 q9 q10 q11 q12 l13 q14 q15 l16 rc xm)
      (replyV s0 s1 s3 s4 s5 s6 q1 q2 q4 q12 rc xm) := by
  unfold system_Reply.f replyV replyStratum
  have tail : Ev (fun k => if s1 < 1 then (system_Reply.j0 k rc xm 281474976645120 s0 0 s2 s3 (ageVal s4 s6 xm) s5 s6 s7 s8 s9 s10 q0 q1 q2 q3 q4 q5 q6 q7 q8 q9 q10 q11 q12 l13 q14 q15 l16 0 0 0 0 0 0 0 0 0 0 0 0 0 0 false 0 2 0 4 0 0) else if s1 ≥ 16 then (system_Reply.j0 k rc xm 281474976645120 s0 0 s2 s3 (ageVal s4 s6 xm) s5 s6 s7 s8 s9 s10 q0 q1 q2 q3 q4 q5 q6 q7 q8 q9 q10 q11 q12 l13 q14 q15 l16 0 0 0 0 0 0 0 0 0 0 0 0 0 0 false 0 2 0 4 0 0) else (system_Reply.j0 k rc xm 281474976645120 s0 s1 s2 s3 (ageVal s4 s6 xm) s5 s6 s7 s8 s9 s10 q0 q1 q2 q3 q4 q5 q6 q7 q8 q9 q10 q11 q12 l13 q14 q15 l16 0 0 0 0 0 0 0 0 0 0 0 0 0 0 false 0 2 0 4 0 0))
      (Go.bits .and .i64 s0 3, mn (mx q1 1) 4, replyMode q2, (if s1 < 1 then 0 else if s1 ≥ 16 then 0 else s1), mn (mx q4 (-128)) 127, (-20), mx (mn s3 281474976645120) 0, mx (mn (ageVal s4 s6 xm) 281474976645120) 0, s5, s6, q12, rc, mx xm 1, 0, false, true) := by
    by_cases c : s1 < 1
    · rw [if_pos c]
      exact Ev.congr (fun k => by rw [if_pos c]) (ev_reply_j0 s0 0 s2 s3 _ s5 s6 s7 s8 s9 s10 q0 q1 q2 q3 q4 q5 q6 q7 q8 q9 q10 q11 q12 l13 q14 q15 l16 rc xm hm)
    · rw [if_neg c]
      by_cases c2 : s1 ≥ 16
      · rw [if_pos c2]
        exact Ev.congr (fun k => by rw [if_neg c, if_pos c2]) (ev_reply_j0 s0 0 s2 s3 _ s5 s6 s7 s8 s9 s10 q0 q1 q2 q3 q4 q5 q6 q7 q8 q9 q10 q11 q12 l13 q14 q15 l16 rc xm hm)
      · rw [if_neg c2]
        exact Ev.congr (fun k => by rw [if_neg c, if_neg c2]) (ev_reply_j0 s0 s1 s2 s3 _ s5 s6 s7 s8 s9 s10 q0 q1 q2 q3 q4 q5 q6 q7 q8 q9 q10 q11 q12 l13 q14 q15 l16 rc xm hm)
  rcases hm with h | h
  · have d0 : ¬ q2 < 0 := by omega
    have d1 : ¬ q2 ≥ 6 := by omega
    have d2 : ¬ q2 = 0 := by omega
    have d3 : ¬ q2 = 1 := by omega
    have d4 : ¬ q2 = 2 := by omega
    refine Ev.congr (fun k => by rw [if_neg d0, if_neg d1, if_neg d2, if_neg d3, if_neg d4, if_pos h, fromShort_most]) ?_
    refine Ev.bind (ev_age s0 s1 s2 s3 s4 s5 s6 s7 s8 s9 s10 xm h0 h1) ?_
    simp only [bsome]
    exact tail
  · have d0 : ¬ q2 < 0 := by omega
    have d1 : ¬ q2 ≥ 6 := by omega
    have d2 : ¬ q2 = 0 := by omega
    refine Ev.congr (fun k => by rw [if_neg d0, if_neg d1, if_neg d2, if_pos h, fromShort_most]) ?_
    refine Ev.bind (ev_age s0 s1 s2 s3 s4 s5 s6 s7 s8 s9 s10 xm h0 h1) ?_
    simp only [bsome]
    exact tail
theorem reply_none (s0 s1 s2 s3 s4 s5 s6 s7 s8 s9 s10 q0 q1 q2 q3 q4 q5 q6 q7 q8 q9 q10 q11 q12 : Int) (l13 : List S94) (q14 : Int) (q15 : Bool) (l16 : List Int) (rc xm : Int) (hm : ¬ (q2 = 3 ∨ q2 = 1)) :
    Ev (fun k => system_Reply.f k s0 s1 s2 s3 s4 s5 s6 s7 s8 s9 s10 q0 q1 q2 q3 q4 q5 q6 q7 q8 q9 q10 q11 q12 l13 q14 q15 l16 rc xm) noneV := by
  unfold system_Reply.f noneV
  have c3 : ¬ q2 = 3 := fun h => hm (.inl h)
  have c1 : ¬ q2 = 1 := fun h => hm (.inr h)
  by_cases d0 : q2 < 0
  · exact Ev.congr (fun k => by rw [if_pos d0]) (Ev.now _)
  by_cases d1 : q2 ≥ 6
  · exact Ev.congr (fun k => by rw [if_neg d0, if_pos d1]) (Ev.now _)
  by_cases d2 : q2 = 0
  · exact Ev.congr (fun k => by rw [if_neg d0, if_neg d1, if_pos d2]) (Ev.now _)
  by_cases d3 : q2 = 2
  · exact Ev.congr (fun k => by rw [if_neg d0, if_neg d1, if_neg d2, if_neg c1, if_pos d3]) (Ev.now _)
  by_cases d4 : q2 = 4
  · exact Ev.congr (fun k => by rw [if_neg d0, if_neg d1, if_neg d2, if_neg c1, if_neg d3, if_neg c3, if_pos d4]) (Ev.now _)
  have d5 : q2 = 5 := by omega
  exact Ev.congr (fun k => by rw [if_neg d0, if_neg d1, if_neg d2, if_neg c1, if_neg d3, if_neg c3, if_neg d4, if_pos d5]) (Ev.now _)
theorem ref_reply (s0 s1 s2 s3 s4 s5 s6 s7 s8 s9 s10 q0 q1 q2 q3 q4 q5 q6 q7 q8 q9 q10 q11 q12 : Int) (l13 : List S94) (q14 : Int) (q15 : Bool) (l16 : List Int) (rc xm : Int) (hm : q2 = 3 ∨ q2 = 1)
    (h0 : -9223372036854775808 ≤ s4) (h1 : s4 ≤ 9223372036854775807) :
    Ev (fun k => foliotref17_Reply.f k s0 s1 s2 s3 s4 s5 s6 s7 s8 s9 s10 q0 q1 q2 q3 q4 q5 q6 q7 q8 q9 q10 q11 q12 l13 q14 q15 l16 rc xm)
      (replyV s0 s1 s3 s4 s5 s6 q1 q2 q4 q12 rc xm) := by
  unfold replyV
  rw [mn_mx q1 1 4 (by decide), mn_mx q4 (-128) 127 (by decide), ← mx_comm 1 xm]
  have ew : ∀ x, mx (mn x 281474976645120) 0 = mx 0 (mn x 281474976645120) := fun x => mx_comm _ _
  rw [ew, ew]
  have main : ∀ m, Ev (fun k => foliotref17_Reply.j0 k rc xm m s0 s1 s2 s3 s4 s5 s6 s7 s8 s9 s10 q0 q1 q2 q3 q4 q5 q6 q7 q8 q9 q10 q11 q12 l13 q14 q15 l16 0 0 0 0 0 0 0 0 0 0 0 0 0 0 false)
      (Go.bits .and .i64 s0 3, mx 1 (mn q1 4), m, replyStratum s1, mx (-128) (mn q4 127), (-20), mx 0 (mn s3 281474976645120), mx 0 (mn (ageVal s4 s6 xm) 281474976645120), s5, s6, q12, rc, mx 1 xm, 0, false, true) := by
    intro m
    refine Ev.step (fun k => by rw [foliotref17_Reply.j0, rfromShort_most]) ?_
    refine Ev.bind (ref_age s0 s1 s2 s3 s4 s5 s6 s7 s8 s9 s10 xm h0 h1) ?_
    simp only [bsome]
    unfold replyStratum
    by_cases c : s1 ≥ 1
    · by_cases c2 : s1 ≤ 15
      · refine Ev.congr (fun k => by rw [if_pos c, if_pos c2]) (Ev.succ fun k => ?_)
        rw [if_neg (show ¬ s1 < 1 by omega), if_neg (show ¬ s1 ≥ 16 by omega), foliotref17_Reply.j1]
        unfold foliotref17_inside.f
        rw [bsome, bsome]
      · refine Ev.congr (fun k => by rw [if_pos c, if_neg c2]) (Ev.succ fun k => ?_)
        rw [if_neg (show ¬ s1 < 1 by omega), if_pos (show s1 ≥ 16 by omega), foliotref17_Reply.j1]
        unfold foliotref17_inside.f
        rw [bsome, bsome]
    · refine Ev.congr (fun k => by rw [if_neg c]) (Ev.succ fun k => ?_)
      rw [if_pos (show s1 < 1 by omega), foliotref17_Reply.j1]
      unfold foliotref17_inside.f
      rw [bsome, bsome]
  unfold foliotref17_Reply.f replyMode
  by_cases h : q2 = 3
  · rw [if_pos h]
    exact Ev.congr (fun k => by rw [if_pos h]) (main 4)
  · rw [if_neg h]
    have h1' : q2 = 1 := by omega
    exact Ev.congr (fun k => by rw [if_neg h, if_pos h1']) (main 2)
theorem ref_none (s0 s1 s2 s3 s4 s5 s6 s7 s8 s9 s10 q0 q1 q2 q3 q4 q5 q6 q7 q8 q9 q10 q11 q12 : Int) (l13 : List S94) (q14 : Int) (q15 : Bool) (l16 : List Int) (rc xm : Int) (hm : ¬ (q2 = 3 ∨ q2 = 1)) :
    Ev (fun k => foliotref17_Reply.f k s0 s1 s2 s3 s4 s5 s6 s7 s8 s9 s10 q0 q1 q2 q3 q4 q5 q6 q7 q8 q9 q10 q11 q12 l13 q14 q15 l16 rc xm) noneV := by
  unfold foliotref17_Reply.f noneV
  have c3 : ¬ q2 = 3 := fun h => hm (.inl h)
  have c1 : ¬ q2 = 1 := fun h => hm (.inr h)
  exact Ev.congr (fun k => by rw [if_neg c3, if_neg c1]) (Ev.now _)
theorem same_self (p0 p1 p2 p3 p4 p5 p6 p7 p8 p9 p10 p11 p12 i : Int) :
    foliotlaw17_same.f p0 p1 p2 p3 p4 p5 p6 p7 p8 p9 p10 p11 p12 i false p0 p1 p2 p3 p4 p5 p6 p7 p8 p9 p10 p11 p12 i false = some true := by
  unfold foliotlaw17_same.f
  rw [if_pos rfl, if_pos rfl, if_pos rfl, if_pos rfl, if_pos rfl, if_pos rfl, if_pos rfl, if_pos rfl, if_pos rfl, if_pos rfl, if_pos rfl, if_pos rfl, if_pos rfl, if_pos rfl]
  rfl
theorem and3_rng (x : Int) : 0 ≤ Go.bits .and .i64 x 3 ∧ Go.bits .and .i64 x 3 ≤ 3 := by
  have h : Go.bits .and .i64 x 3 = IntKind.i64.wrap (((BitVec.ofInt 64 x &&& BitVec.ofInt 64 3).toNat : Nat) : Int) := rfl
  rw [h]
  have h2 : (BitVec.ofInt 64 x &&& BitVec.ofInt 64 3).toNat ≤ 3 := by
    rw [BitVec.toNat_and]
    exact Nat.le_trans Nat.and_le_right (by decide)
  generalize (BitVec.ofInt 64 x &&& BitVec.ofInt 64 3).toNat = n at *
  simp [IntKind.wrap, IntKind.bits, IntKind.signed]
  omega
end Go.Proofs.Ytbcdoncnhhjjeaa.Q
