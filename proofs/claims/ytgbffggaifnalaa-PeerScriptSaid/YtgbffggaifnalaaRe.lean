/- Plain lemmas on the printed functions: whole numbers, no program in sight. -/
import Derived.Test.YtgbffggaifnalaaRd
import Derived.Laws.BitsLemmas
namespace Go.Proofs.Ytgbffggaifnalaa.V
open Go Go.RowKit Go.Proofs.Ytgbffggaifnalaa.Ev
set_option linter.unusedVariables false
set_option linter.unusedSimpArgs false
set_option maxRecDepth 100000
/-! ### what is heard -/
def greetV (s : S64) (q2 q10 q12 rec : Int) (auth : Bool) : S64 :=
  if (q2 = 1 ∨ q2 = 2) ∧ q10 = 0 ∧ s.f17 = false ∧ (auth = true ∨ s.f2 = 0) then { s with f17 := true, f18 := q12, f19 := rec } else s
theorem greets_val (s : S64) (q0 q1 q2 q3 q4 q5 q6 q7 q8 q9 q10 q11 q12 : Int) (q13 : List S148) (q14 : Int) (q15 : Bool) (q16 : List Int) (rec : Int) (auth : Bool) :
    peer_Peer_greets_s1.f q0 q1 q2 q3 q4 q5 q6 q7 q8 q9 q10 q11 q12 q13 q14 q15 q16 rec auth (pg s).f0 (pg s).f1 (pg s).f2 (pg s).f3 (pg s).f4 (pg s).f5 (pg s).f6 (pg s).f7 (pg s).f8 (pg s).f9 (pg s).f10 (pg s).f11 (pg s).f12 (pg s).f13 (pg s).f14 (pg s).f15 (pg s).f16 (pg s).f17 (pg s).f18 (pg s).f19 (pg s).f20 (pg s).f21 (pg s).f22 (pg s).f23 (pg s).f24 (pg s).f25 (pg s).f26 (pg s).f27 = some ((pg (greetV s q2 q10 q12 rec auth)).f0, (pg (greetV s q2 q10 q12 rec auth)).f1, (pg (greetV s q2 q10 q12 rec auth)).f2, (pg (greetV s q2 q10 q12 rec auth)).f3, (pg (greetV s q2 q10 q12 rec auth)).f4, (pg (greetV s q2 q10 q12 rec auth)).f5, (pg (greetV s q2 q10 q12 rec auth)).f6, (pg (greetV s q2 q10 q12 rec auth)).f7, (pg (greetV s q2 q10 q12 rec auth)).f8, (pg (greetV s q2 q10 q12 rec auth)).f9, (pg (greetV s q2 q10 q12 rec auth)).f10, (pg (greetV s q2 q10 q12 rec auth)).f11, (pg (greetV s q2 q10 q12 rec auth)).f12, (pg (greetV s q2 q10 q12 rec auth)).f13, (pg (greetV s q2 q10 q12 rec auth)).f14, (pg (greetV s q2 q10 q12 rec auth)).f15, (pg (greetV s q2 q10 q12 rec auth)).f16, (pg (greetV s q2 q10 q12 rec auth)).f17, (pg (greetV s q2 q10 q12 rec auth)).f18, (pg (greetV s q2 q10 q12 rec auth)).f19, (pg (greetV s q2 q10 q12 rec auth)).f20, (pg (greetV s q2 q10 q12 rec auth)).f21, (pg (greetV s q2 q10 q12 rec auth)).f22, (pg (greetV s q2 q10 q12 rec auth)).f23, (pg (greetV s q2 q10 q12 rec auth)).f24, (pg (greetV s q2 q10 q12 rec auth)).f25, (pg (greetV s q2 q10 q12 rec auth)).f26, (pg (greetV s q2 q10 q12 rec auth)).f27) := by
  unfold peer_Peer_greets_s1.f greetV
  by_cases c10 : q10 = 0
  · by_cases c2 : q2 = 1
    · cases e17 : s.f17
      · cases auth
        · by_cases ck : s.f2 = 0
          · simp [pg, c10, c2, e17, ck]
          · simp [pg, c10, c2, e17, ck]
        · simp [pg, c10, c2, e17]
      · simp [pg, c10, c2, e17]
    · by_cases c3 : q2 = 2
      · cases e17 : s.f17
        · cases auth
          · by_cases ck : s.f2 = 0
            · simp [pg, c10, c3, e17, ck]
            · simp [pg, c10, c3, e17, ck]
          · simp [pg, c10, c3, e17]
        · simp [pg, c10, c3, e17]
      · simp [c2, c3]
  · simp [c10]
/-- The sample, of a packet that is taken. -/
def smpV (q2 q5 q10 q11 q12 rec : Int) : Int × Int × Int × Int :=
  if q2 = 5 then (sat (sinceVal q12 rec + 8388608), 16777216, sat (powVal q5 + powVal (-20)), rec)
  else (exchOff q10 q11 q12 rec, exchWay q10 q11 q12 rec, sat (sat (powVal q5 + powVal (-20)) + wearV q10 rec), rec)
def takeV (s : S64) (q0 q3 q4 q5 q6 q7 q8 q9 q12 rec : Int) : S64 :=
  { s with f13 := false, f15 := true, f16 := q12, f17 := true, f18 := q12, f19 := rec, f20 := q0, f21 := q3, f22 := q4, f23 := q5, f24 := q6, f25 := q7, f26 := q8, f27 := q9 }
/-- What is said of a packet, its sample, and what is known then. -/
def hearV (s : S64) (q0 q2 q3 q4 q5 q6 q7 q8 q9 q10 q11 q12 rec : Int) (auth : Bool) : Int × (Int × Int × Int × Int) × S64 :=
  if fitV s q2 q10 q12 auth = 0 then
    (if q3 = 0 ∧ q0 = 3 ∧ ¬ q8 = 0 then (6, (0, 0, 0, 0), { s with f13 := false, f15 := true, f16 := q12 })
    else if headV q0 q3 q6 q7 q8 q9 q12 s.f12 = 0 then (0, smpV q2 q5 q10 q11 q12 rec, takeV s q0 q3 q4 q5 q6 q7 q8 q9 q12 rec)
    else (headV q0 q3 q6 q7 q8 q9 q12 s.f12, (0, 0, 0, 0), { s with f13 := false }))
  else if fitV s q2 q10 q12 auth = 3 ∨ fitV s q2 q10 q12 auth = 4 then (fitV s q2 q10 q12 auth, (0, 0, 0, 0), greetV s q2 q10 q12 rec auth)
  else (fitV s q2 q10 q12 auth, (0, 0, 0, 0), s)
theorem ev_hear (s : S64) (q0 q1 q2 q3 q4 q5 q6 q7 q8 q9 q10 q11 q12 : Int) (q13 : List S148) (q14 : Int) (q15 : Bool) (q16 : List Int) (rec : Int) (auth : Bool) (h5 : Bd q5) (h6 : Bd q6) (h7 : Bd q7) (v d0 d1 d2 d3 : Int) (t : S64)
    (ht : hearV s q0 q2 q3 q4 q5 q6 q7 q8 q9 q10 q11 q12 rec auth = (v, (d0, d1, d2, d3), t)) :
    Ev (fun k => peer_Peer_Hear_s1.f k q0 q1 q2 q3 q4 q5 q6 q7 q8 q9 q10 q11 q12 q13 q14 q15 q16 rec auth (pg s).f0 (pg s).f1 (pg s).f2 (pg s).f3 (pg s).f4 (pg s).f5 (pg s).f6 (pg s).f7 (pg s).f8 (pg s).f9 (pg s).f10 (pg s).f11 (pg s).f12 (pg s).f13 (pg s).f14 (pg s).f15 (pg s).f16 (pg s).f17 (pg s).f18 (pg s).f19 (pg s).f20 (pg s).f21 (pg s).f22 (pg s).f23 (pg s).f24 (pg s).f25 (pg s).f26 (pg s).f27) (v, d0, d1, d2, d3, (pg t).f0, (pg t).f1, (pg t).f2, (pg t).f3, (pg t).f4, (pg t).f5, (pg t).f6, (pg t).f7, (pg t).f8, (pg t).f9, (pg t).f10, (pg t).f11, (pg t).f12, (pg t).f13, (pg t).f14, (pg t).f15, (pg t).f16, (pg t).f17, (pg t).f18, (pg t).f19, (pg t).f20, (pg t).f21, (pg t).f22, (pg t).f23, (pg t).f24, (pg t).f25, (pg t).f26, (pg t).f27) := by
  have hh : peer_Header_s1.f q0 q1 q2 q3 q4 q5 q6 q7 q8 q9 q10 q11 q12 q13 q14 q15 q16 s.f12 = some (headV q0 q3 q6 q7 q8 q9 q12 s.f12) := tot (ev_head q0 q1 q2 q3 q4 q5 q6 q7 q8 q9 q10 q11 q12 q13 q14 q15 q16 s.f12 h6.1 h6.2 h7.1 h7.2)
  obtain ⟨K1, hx⟩ := ev_exchange q10 q11 q12 rec
  obtain ⟨K2, hw⟩ := ev_wears q10 rec
  refine ⟨K1 + K2 + 1, fun k hk => ?_⟩
  obtain ⟨m, rfl⟩ : ∃ m, k = m + 1 := ⟨k - 1, by omega⟩
  show peer_Peer_Hear_s1.f (m + 1) q0 q1 q2 q3 q4 q5 q6 q7 q8 q9 q10 q11 q12 q13 q14 q15 q16 rec auth (pg s).f0 (pg s).f1 (pg s).f2 (pg s).f3 (pg s).f4 (pg s).f5 (pg s).f6 (pg s).f7 (pg s).f8 (pg s).f9 (pg s).f10 (pg s).f11 (pg s).f12 (pg s).f13 (pg s).f14 (pg s).f15 (pg s).f16 (pg s).f17 (pg s).f18 (pg s).f19 (pg s).f20 (pg s).f21 (pg s).f22 (pg s).f23 (pg s).f24 (pg s).f25 (pg s).f26 (pg s).f27 = _
  unfold peer_Peer_Hear_s1.f
  have hf := fits_val s q0 q1 q2 q3 q4 q5 q6 q7 q8 q9 q10 q11 q12 q13 q14 q15 q16 auth
  have hg := greets_val s q0 q1 q2 q3 q4 q5 q6 q7 q8 q9 q10 q11 q12 q13 q14 q15 q16 rec auth
  have e : (⟨(pg s).f0, (pg s).f1, (pg s).f2, (pg s).f3, (pg s).f4, (pg s).f5, (pg s).f6, (pg s).f7, (pg s).f8, (pg s).f9, (pg s).f10, (pg s).f11, (pg s).f12, (pg s).f13, (pg s).f14, (pg s).f15, (pg s).f16, (pg s).f17, (pg s).f18, (pg s).f19, (pg s).f20, (pg s).f21, (pg s).f22, (pg s).f23, (pg s).f24, (pg s).f25, (pg s).f26, (pg s).f27⟩ : S88) = pg s := rfl
  rw [e, hf, hg]
  have hx := hx (m + 1) (by omega)
  have hw := hw (m + 1) (by omega)
  have hb := pow_bd (-20)
  simp only [bsome, show (pg s).f12 = s.f12 from rfl, hh, pow_tot h5, pow_tot b20, add_tot (pow_bd q5) hb, since_tot, add_tot (since_b q12 rec) b8, hx, hw, add_tot (sat_bd _) (wear_b q10 rec), peer_Peer_Hear_s1.j0]
  unfold hearV at ht
  by_cases c : fitV s q2 q10 q12 auth = 0
  · rw [if_pos c] at ht
    rw [if_neg (fun h => h c)]
    by_cases ck : q3 = 0 ∧ q0 = 3 ∧ ¬ q8 = 0
    · rw [if_pos ck] at ht
      rw [if_pos ck.1, if_pos ck.2.1, if_pos ck.2.2]
      obtain ⟨rfl, ⟨rfl, rfl, rfl, rfl⟩, rfl⟩ := ht
      rfl
    · rw [if_neg ck] at ht
      have fin : ∀ X Y : Option (Int × Int × Int × Int × Int × Int × Int × Int × Int × Int × Bool × Bool × Bool × Int × Bool × Int × Int × Int × Int × Bool × Int × Bool × Int × Bool × Int × Int × Int × Int × Int × Int × Int × Int × Int), Y = some (v, d0, d1, d2, d3, (pg t).f0, (pg t).f1, (pg t).f2, (pg t).f3, (pg t).f4, (pg t).f5, (pg t).f6, (pg t).f7, (pg t).f8, (pg t).f9, (pg t).f10, (pg t).f11, (pg t).f12, (pg t).f13, (pg t).f14, (pg t).f15, (pg t).f16, (pg t).f17, (pg t).f18, (pg t).f19, (pg t).f20, (pg t).f21, (pg t).f22, (pg t).f23, (pg t).f24, (pg t).f25, (pg t).f26, (pg t).f27) → (if q3 = 0 then (if q0 = 3 then (if ¬ q8 = 0 then X else Y) else Y) else Y) = some (v, d0, d1, d2, d3, (pg t).f0, (pg t).f1, (pg t).f2, (pg t).f3, (pg t).f4, (pg t).f5, (pg t).f6, (pg t).f7, (pg t).f8, (pg t).f9, (pg t).f10, (pg t).f11, (pg t).f12, (pg t).f13, (pg t).f14, (pg t).f15, (pg t).f16, (pg t).f17, (pg t).f18, (pg t).f19, (pg t).f20, (pg t).f21, (pg t).f22, (pg t).f23, (pg t).f24, (pg t).f25, (pg t).f26, (pg t).f27) := by
        intro X Y hY
        by_cases c1 : q3 = 0
        · by_cases c2 : q0 = 3
          · by_cases c3 : q8 = 0
            · rw [if_pos c1, if_pos c2, if_neg (fun h => h c3)]; exact hY
            · exact absurd ⟨c1, c2, c3⟩ ck
          · rw [if_pos c1, if_neg c2]; exact hY
        · rw [if_neg c1]; exact hY
      refine fin _ _ ?_
      by_cases ch : headV q0 q3 q6 q7 q8 q9 q12 s.f12 = 0
      · rw [if_pos ch] at ht
        rw [if_neg (fun h => h ch)]
        unfold smpV at ht
        by_cases c5 : q2 = 5
        · rw [if_pos c5] at ht
          rw [if_pos c5]
          obtain ⟨rfl, ⟨rfl, rfl, rfl, rfl⟩, rfl⟩ := ht
          rfl
        · rw [if_neg c5] at ht
          rw [if_neg c5]
          obtain ⟨rfl, ⟨rfl, rfl, rfl, rfl⟩, rfl⟩ := ht
          rfl
      · rw [if_neg ch] at ht
        rw [if_pos ch]
        obtain ⟨rfl, ⟨rfl, rfl, rfl, rfl⟩, rfl⟩ := ht
        rfl
  · rw [if_neg c] at ht
    rw [if_pos c]
    by_cases c3 : fitV s q2 q10 q12 auth = 3
    · rw [if_pos (Or.inl c3)] at ht
      rw [if_pos c3]
      obtain ⟨rfl, ⟨rfl, rfl, rfl, rfl⟩, rfl⟩ := ht
      rfl
    · rw [if_neg c3]
      by_cases c4 : fitV s q2 q10 q12 auth = 4
      · rw [if_pos (Or.inr c4)] at ht
        rw [if_pos c4]
        obtain ⟨rfl, ⟨rfl, rfl, rfl, rfl⟩, rfl⟩ := ht
        rfl
      · rw [if_neg (by omega)] at ht
        rw [if_neg c4]
        obtain ⟨rfl, ⟨rfl, rfl, rfl, rfl⟩, rfl⟩ := ht
        rfl
end Go.Proofs.Ytgbffggaifnalaa.V
