/- Plain lemmas on the printed functions: whole numbers, no program in sight. -/
import Derived.Test.YtgbffggaifnalaaRe
import Derived.Laws.BitsLemmas
namespace Go.Proofs.Ytgbffggaifnalaa.V
open Go Go.RowKit Go.Proofs.Ytgbffggaifnalaa.Ev
set_option linter.unusedVariables false
set_option linter.unusedSimpArgs false
set_option maxRecDepth 100000
/-! ### what the reference hears -/
section
variable (q0 q1 q2 q3 q4 q5 q6 q7 q8 q9 q10 q11 q12 : Int) (q13 : List S148) (q14 : Int) (q15 : Bool) (q16 : List Int)
theorem rh_j2n (k : Nat) (t : S64) (rec x d0 d1 d2 d3 : Int) (hx : ¬ x = 0) : foliotref10_Peer_Hear.j2 (k + 1) rec x t.f0 t.f1 t.f2 t.f3 t.f4 t.f5 t.f6 t.f7 t.f8 t.f9 t.f10 t.f11 t.f12 t.f13 t.f14 t.f15 t.f16 t.f17 t.f18 t.f19 t.f20 t.f21 t.f22 t.f23 t.f24 t.f25 t.f26 t.f27 q0 q1 q2 q3 q4 q5 q6 q7 q8 q9 q10 q11 q12 q13 q14 q15 q16 d0 d1 d2 d3 = some (x, 0, 0, 0, 0, t.f0, t.f1, t.f2, t.f3, t.f4, t.f5, t.f6, t.f7, t.f8, t.f9, t.f10, t.f11, t.f12, t.f13, t.f14, t.f15, t.f16, t.f17, t.f18, t.f19, t.f20, t.f21, t.f22, t.f23, t.f24, t.f25, t.f26, t.f27) := by
  rw [foliotref10_Peer_Hear.j2, if_pos hx]
theorem rh_j1n (k : Nat) (t : S64) (rec x d0 d1 d2 d3 : Int) (hx : ¬ x = 0) (h6 : ¬ x = 6) : foliotref10_Peer_Hear.j1 (k + 2) rec x t.f0 t.f1 t.f2 t.f3 t.f4 t.f5 t.f6 t.f7 t.f8 t.f9 t.f10 t.f11 t.f12 t.f13 t.f14 t.f15 t.f16 t.f17 t.f18 t.f19 t.f20 t.f21 t.f22 t.f23 t.f24 t.f25 t.f26 t.f27 q0 q1 q2 q3 q4 q5 q6 q7 q8 q9 q10 q11 q12 q13 q14 q15 q16 d0 d1 d2 d3 = some (x, 0, 0, 0, 0, t.f0, t.f1, t.f2, t.f3, t.f4, t.f5, t.f6, t.f7, t.f8, t.f9, t.f10, t.f11, t.f12, t.f13, t.f14, t.f15, t.f16, t.f17, t.f18, t.f19, t.f20, t.f21, t.f22, t.f23, t.f24, t.f25, t.f26, t.f27) := by
  rw [foliotref10_Peer_Hear.j1, if_neg h6, if_neg hx, rh_j2n _ _ _ _ _ _ _ _ _ _ _ _ _ _ _ _ _ _ _ _ _ _ _ _ _ hx]
theorem rh_j0n (k : Nat) (t : S64) (rec : Int) (auth : Bool) (x d0 d1 d2 d3 : Int) (hx : ¬ x = 0) (h6 : ¬ x = 6) (h3 : ¬ x = 3) (h4 : ¬ x = 4) : foliotref10_Peer_Hear.j0 (k + 3) rec auth x t.f0 t.f1 t.f2 t.f3 t.f4 t.f5 t.f6 t.f7 t.f8 t.f9 t.f10 t.f11 t.f12 t.f13 t.f14 t.f15 t.f16 t.f17 t.f18 t.f19 t.f20 t.f21 t.f22 t.f23 t.f24 t.f25 t.f26 t.f27 q0 q1 q2 q3 q4 q5 q6 q7 q8 q9 q10 q11 q12 q13 q14 q15 q16 d0 d1 d2 d3 = some (x, 0, 0, 0, 0, t.f0, t.f1, t.f2, t.f3, t.f4, t.f5, t.f6, t.f7, t.f8, t.f9, t.f10, t.f11, t.f12, t.f13, t.f14, t.f15, t.f16, t.f17, t.f18, t.f19, t.f20, t.f21, t.f22, t.f23, t.f24, t.f25, t.f26, t.f27) := by
  rw [foliotref10_Peer_Hear.j0, if_neg h3, if_neg h4, rh_j1n _ _ _ _ _ _ _ _ _ _ _ _ _ _ _ _ _ _ _ _ _ _ _ _ _ hx h6]
theorem rh_j0g (k : Nat) (t : S64) (rec : Int) (auth : Bool) (x d0 d1 d2 d3 : Int) (hx : x = 3 ∨ x = 4) : foliotref10_Peer_Hear.j0 (k + 3) rec auth x t.f0 t.f1 t.f2 t.f3 t.f4 t.f5 t.f6 t.f7 t.f8 t.f9 t.f10 t.f11 t.f12 t.f13 t.f14 t.f15 t.f16 t.f17 t.f18 t.f19 t.f20 t.f21 t.f22 t.f23 t.f24 t.f25 t.f26 t.f27 q0 q1 q2 q3 q4 q5 q6 q7 q8 q9 q10 q11 q12 q13 q14 q15 q16 d0 d1 d2 d3 = some (x, 0, 0, 0, 0, (greetV t q2 q10 q12 rec auth).f0, (greetV t q2 q10 q12 rec auth).f1, (greetV t q2 q10 q12 rec auth).f2, (greetV t q2 q10 q12 rec auth).f3, (greetV t q2 q10 q12 rec auth).f4, (greetV t q2 q10 q12 rec auth).f5, (greetV t q2 q10 q12 rec auth).f6, (greetV t q2 q10 q12 rec auth).f7, (greetV t q2 q10 q12 rec auth).f8, (greetV t q2 q10 q12 rec auth).f9, (greetV t q2 q10 q12 rec auth).f10, (greetV t q2 q10 q12 rec auth).f11, (greetV t q2 q10 q12 rec auth).f12, (greetV t q2 q10 q12 rec auth).f13, (greetV t q2 q10 q12 rec auth).f14, (greetV t q2 q10 q12 rec auth).f15, (greetV t q2 q10 q12 rec auth).f16, (greetV t q2 q10 q12 rec auth).f17, (greetV t q2 q10 q12 rec auth).f18, (greetV t q2 q10 q12 rec auth).f19, (greetV t q2 q10 q12 rec auth).f20, (greetV t q2 q10 q12 rec auth).f21, (greetV t q2 q10 q12 rec auth).f22, (greetV t q2 q10 q12 rec auth).f23, (greetV t q2 q10 q12 rec auth).f24, (greetV t q2 q10 q12 rec auth).f25, (greetV t q2 q10 q12 rec auth).f26, (greetV t q2 q10 q12 rec auth).f27) := by
  have n0 : ¬ x = 0 := by omega
  have n6 : ¬ x = 6 := by omega
  have j (u : S64) : foliotref10_Peer_Hear.j1 (k + 2) rec x u.f0 u.f1 u.f2 u.f3 u.f4 u.f5 u.f6 u.f7 u.f8 u.f9 u.f10 u.f11 u.f12 u.f13 u.f14 u.f15 u.f16 u.f17 u.f18 u.f19 u.f20 u.f21 u.f22 u.f23 u.f24 u.f25 u.f26 u.f27 q0 q1 q2 q3 q4 q5 q6 q7 q8 q9 q10 q11 q12 q13 q14 q15 q16 d0 d1 d2 d3 = some (x, 0, 0, 0, 0, u.f0, u.f1, u.f2, u.f3, u.f4, u.f5, u.f6, u.f7, u.f8, u.f9, u.f10, u.f11, u.f12, u.f13, u.f14, u.f15, u.f16, u.f17, u.f18, u.f19, u.f20, u.f21, u.f22, u.f23, u.f24, u.f25, u.f26, u.f27) := rh_j1n q0 q1 q2 q3 q4 q5 q6 q7 q8 q9 q10 q11 q12 q13 q14 q15 q16 k u rec x d0 d1 d2 d3 n0 n6
  have ja := j t
  have jb := j { t with f17 := true, f18 := q12, f19 := rec }
  dsimp only at jb
  rw [foliotref10_Peer_Hear.j0, ja, jb]
  have fin : ∀ A B : Option (Int × Int × Int × Int × Int × Int × Int × Int × Int × Int × Bool × Bool × Bool × Int × Bool × Int × Int × Int × Bool × Int × Bool × Int × Bool × Int × Int × Int × Int × Int × Int × Int × Int × Int × Int), (if x = 3 then A else if x = 4 then A else B) = A := by
    intro A B
    by_cases c : x = 3
    · rw [if_pos c]
    · rw [if_neg c, if_pos (by omega)]
  rw [fin]
  unfold greetV
  by_cases c10 : q10 = 0
  · by_cases c2 : q2 = 1
    · cases e17 : t.f17
      · cases auth
        · by_cases ck : t.f2 = 0
          · simp [c10, c2, e17, ck]
          · simp [c10, c2, e17, ck]
        · simp [c10, c2, e17]
      · simp [c10, c2, e17]
    · by_cases c3 : q2 = 2
      · cases e17 : t.f17
        · cases auth
          · by_cases ck : t.f2 = 0
            · simp [c10, c3, e17, ck]
            · simp [c10, c3, e17, ck]
          · simp [c10, c3, e17]
        · simp [c10, c3, e17]
      · simp [c2, c3]
  · simp [c10]
theorem rh_j0k (k : Nat) (t : S64) (rec : Int) (auth : Bool) (d0 d1 d2 d3 : Int) : foliotref10_Peer_Hear.j0 (k + 3) rec auth 6 t.f0 t.f1 t.f2 t.f3 t.f4 t.f5 t.f6 t.f7 t.f8 t.f9 t.f10 t.f11 t.f12 t.f13 t.f14 t.f15 t.f16 t.f17 t.f18 t.f19 t.f20 t.f21 t.f22 t.f23 t.f24 t.f25 t.f26 t.f27 q0 q1 q2 q3 q4 q5 q6 q7 q8 q9 q10 q11 q12 q13 q14 q15 q16 d0 d1 d2 d3 = some (6, 0, 0, 0, 0, ({ t with f15 := true, f16 := q12 }).f0, ({ t with f15 := true, f16 := q12 }).f1, ({ t with f15 := true, f16 := q12 }).f2, ({ t with f15 := true, f16 := q12 }).f3, ({ t with f15 := true, f16 := q12 }).f4, ({ t with f15 := true, f16 := q12 }).f5, ({ t with f15 := true, f16 := q12 }).f6, ({ t with f15 := true, f16 := q12 }).f7, ({ t with f15 := true, f16 := q12 }).f8, ({ t with f15 := true, f16 := q12 }).f9, ({ t with f15 := true, f16 := q12 }).f10, ({ t with f15 := true, f16 := q12 }).f11, ({ t with f15 := true, f16 := q12 }).f12, ({ t with f15 := true, f16 := q12 }).f13, ({ t with f15 := true, f16 := q12 }).f14, ({ t with f15 := true, f16 := q12 }).f15, ({ t with f15 := true, f16 := q12 }).f16, ({ t with f15 := true, f16 := q12 }).f17, ({ t with f15 := true, f16 := q12 }).f18, ({ t with f15 := true, f16 := q12 }).f19, ({ t with f15 := true, f16 := q12 }).f20, ({ t with f15 := true, f16 := q12 }).f21, ({ t with f15 := true, f16 := q12 }).f22, ({ t with f15 := true, f16 := q12 }).f23, ({ t with f15 := true, f16 := q12 }).f24, ({ t with f15 := true, f16 := q12 }).f25, ({ t with f15 := true, f16 := q12 }).f26, ({ t with f15 := true, f16 := q12 }).f27) := by
  rw [foliotref10_Peer_Hear.j0, if_neg (by decide), if_neg (by decide), foliotref10_Peer_Hear.j1, if_pos rfl]
  exact rh_j2n q0 q1 q2 q3 q4 q5 q6 q7 q8 q9 q10 q11 q12 q13 q14 q15 q16 k { t with f15 := true, f16 := q12 } rec 6 d0 d1 d2 d3 (by decide)
theorem ref_taken (h5 : Bd q5) (t : S64) (rec : Int) (auth : Bool) : ∃ K, ∀ k, K ≤ k → foliotref10_Peer_Hear.j0 (k + 3) rec auth 0 t.f0 t.f1 t.f2 t.f3 t.f4 t.f5 t.f6 t.f7 t.f8 t.f9 t.f10 t.f11 t.f12 t.f13 t.f14 t.f15 t.f16 t.f17 t.f18 t.f19 t.f20 t.f21 t.f22 t.f23 t.f24 t.f25 t.f26 t.f27 q0 q1 q2 q3 q4 q5 q6 q7 q8 q9 q10 q11 q12 q13 q14 q15 q16 0 0 0 0 = some (0, (smpV q2 q5 q10 q11 q12 rec).1, (smpV q2 q5 q10 q11 q12 rec).2.1, (smpV q2 q5 q10 q11 q12 rec).2.2.1, (smpV q2 q5 q10 q11 q12 rec).2.2.2, ({ t with f15 := true, f16 := q12, f17 := true, f18 := q12, f19 := rec, f20 := q0, f21 := q3, f22 := q4, f23 := q5, f24 := q6, f25 := q7, f26 := q8, f27 := q9 }).f0, ({ t with f15 := true, f16 := q12, f17 := true, f18 := q12, f19 := rec, f20 := q0, f21 := q3, f22 := q4, f23 := q5, f24 := q6, f25 := q7, f26 := q8, f27 := q9 }).f1, ({ t with f15 := true, f16 := q12, f17 := true, f18 := q12, f19 := rec, f20 := q0, f21 := q3, f22 := q4, f23 := q5, f24 := q6, f25 := q7, f26 := q8, f27 := q9 }).f2, ({ t with f15 := true, f16 := q12, f17 := true, f18 := q12, f19 := rec, f20 := q0, f21 := q3, f22 := q4, f23 := q5, f24 := q6, f25 := q7, f26 := q8, f27 := q9 }).f3, ({ t with f15 := true, f16 := q12, f17 := true, f18 := q12, f19 := rec, f20 := q0, f21 := q3, f22 := q4, f23 := q5, f24 := q6, f25 := q7, f26 := q8, f27 := q9 }).f4, ({ t with f15 := true, f16 := q12, f17 := true, f18 := q12, f19 := rec, f20 := q0, f21 := q3, f22 := q4, f23 := q5, f24 := q6, f25 := q7, f26 := q8, f27 := q9 }).f5, ({ t with f15 := true, f16 := q12, f17 := true, f18 := q12, f19 := rec, f20 := q0, f21 := q3, f22 := q4, f23 := q5, f24 := q6, f25 := q7, f26 := q8, f27 := q9 }).f6, ({ t with f15 := true, f16 := q12, f17 := true, f18 := q12, f19 := rec, f20 := q0, f21 := q3, f22 := q4, f23 := q5, f24 := q6, f25 := q7, f26 := q8, f27 := q9 }).f7, ({ t with f15 := true, f16 := q12, f17 := true, f18 := q12, f19 := rec, f20 := q0, f21 := q3, f22 := q4, f23 := q5, f24 := q6, f25 := q7, f26 := q8, f27 := q9 }).f8, ({ t with f15 := true, f16 := q12, f17 := true, f18 := q12, f19 := rec, f20 := q0, f21 := q3, f22 := q4, f23 := q5, f24 := q6, f25 := q7, f26 := q8, f27 := q9 }).f9, ({ t with f15 := true, f16 := q12, f17 := true, f18 := q12, f19 := rec, f20 := q0, f21 := q3, f22 := q4, f23 := q5, f24 := q6, f25 := q7, f26 := q8, f27 := q9 }).f10, ({ t with f15 := true, f16 := q12, f17 := true, f18 := q12, f19 := rec, f20 := q0, f21 := q3, f22 := q4, f23 := q5, f24 := q6, f25 := q7, f26 := q8, f27 := q9 }).f11, ({ t with f15 := true, f16 := q12, f17 := true, f18 := q12, f19 := rec, f20 := q0, f21 := q3, f22 := q4, f23 := q5, f24 := q6, f25 := q7, f26 := q8, f27 := q9 }).f12, ({ t with f15 := true, f16 := q12, f17 := true, f18 := q12, f19 := rec, f20 := q0, f21 := q3, f22 := q4, f23 := q5, f24 := q6, f25 := q7, f26 := q8, f27 := q9 }).f13, ({ t with f15 := true, f16 := q12, f17 := true, f18 := q12, f19 := rec, f20 := q0, f21 := q3, f22 := q4, f23 := q5, f24 := q6, f25 := q7, f26 := q8, f27 := q9 }).f14, ({ t with f15 := true, f16 := q12, f17 := true, f18 := q12, f19 := rec, f20 := q0, f21 := q3, f22 := q4, f23 := q5, f24 := q6, f25 := q7, f26 := q8, f27 := q9 }).f15, ({ t with f15 := true, f16 := q12, f17 := true, f18 := q12, f19 := rec, f20 := q0, f21 := q3, f22 := q4, f23 := q5, f24 := q6, f25 := q7, f26 := q8, f27 := q9 }).f16, ({ t with f15 := true, f16 := q12, f17 := true, f18 := q12, f19 := rec, f20 := q0, f21 := q3, f22 := q4, f23 := q5, f24 := q6, f25 := q7, f26 := q8, f27 := q9 }).f17, ({ t with f15 := true, f16 := q12, f17 := true, f18 := q12, f19 := rec, f20 := q0, f21 := q3, f22 := q4, f23 := q5, f24 := q6, f25 := q7, f26 := q8, f27 := q9 }).f18, ({ t with f15 := true, f16 := q12, f17 := true, f18 := q12, f19 := rec, f20 := q0, f21 := q3, f22 := q4, f23 := q5, f24 := q6, f25 := q7, f26 := q8, f27 := q9 }).f19, ({ t with f15 := true, f16 := q12, f17 := true, f18 := q12, f19 := rec, f20 := q0, f21 := q3, f22 := q4, f23 := q5, f24 := q6, f25 := q7, f26 := q8, f27 := q9 }).f20, ({ t with f15 := true, f16 := q12, f17 := true, f18 := q12, f19 := rec, f20 := q0, f21 := q3, f22 := q4, f23 := q5, f24 := q6, f25 := q7, f26 := q8, f27 := q9 }).f21, ({ t with f15 := true, f16 := q12, f17 := true, f18 := q12, f19 := rec, f20 := q0, f21 := q3, f22 := q4, f23 := q5, f24 := q6, f25 := q7, f26 := q8, f27 := q9 }).f22, ({ t with f15 := true, f16 := q12, f17 := true, f18 := q12, f19 := rec, f20 := q0, f21 := q3, f22 := q4, f23 := q5, f24 := q6, f25 := q7, f26 := q8, f27 := q9 }).f23, ({ t with f15 := true, f16 := q12, f17 := true, f18 := q12, f19 := rec, f20 := q0, f21 := q3, f22 := q4, f23 := q5, f24 := q6, f25 := q7, f26 := q8, f27 := q9 }).f24, ({ t with f15 := true, f16 := q12, f17 := true, f18 := q12, f19 := rec, f20 := q0, f21 := q3, f22 := q4, f23 := q5, f24 := q6, f25 := q7, f26 := q8, f27 := q9 }).f25, ({ t with f15 := true, f16 := q12, f17 := true, f18 := q12, f19 := rec, f20 := q0, f21 := q3, f22 := q4, f23 := q5, f24 := q6, f25 := q7, f26 := q8, f27 := q9 }).f26, ({ t with f15 := true, f16 := q12, f17 := true, f18 := q12, f19 := rec, f20 := q0, f21 := q3, f22 := q4, f23 := q5, f24 := q6, f25 := q7, f26 := q8, f27 := q9 }).f27) := by
  have hb := pow_bd (-20)
  have hc := pow_bd q5
  have hs := since_b q12 rec
  have hw := wear_b q10 rec
  have hd := sat_bd (powVal q5 + powVal (-20))
  obtain ⟨K1, p1⟩ : Ev (fun k => foliotref01_Power.f k q5) (powVal q5) := ref_power q5 h5.1 h5.2
  obtain ⟨K2, p2⟩ : Ev (fun k => foliotref01_Power.f k (-20)) (powVal (-20)) := ref_power (-20) b20.1 b20.2
  obtain ⟨K3, p3⟩ := ref_add (powVal q5) (powVal (-20)) hc.1 hc.2 hb.1 hb.2
  obtain ⟨K4, p4⟩ := ref_add (sinceVal q12 rec) 8388608 hs.1 hs.2 b8.1 b8.2
  obtain ⟨K5, p5⟩ := ref_exchange q10 q11 q12 rec
  have em : mx 0 (sinceVal rec q10) = mx (sinceVal rec q10) 0 := by unfold mx; (repeat' split) <;> omega
  have h1 := since_bd rec q10
  have hm : 0 ≤ mx (sinceVal rec q10) 0 ∧ mx (sinceVal rec q10) 0 ≤ 4611686018427387904 := by unfold mx; split <;> omega
  obtain ⟨K6, p6⟩ : Ev (fun k => foliotref01_Drift.f k 4222124650 (mx 0 (sinceVal rec q10))) (wearV q10 rec) := by
    rw [em]; exact ref_drift _ _ (by omega) (by omega) (by omega) (by omega)
  obtain ⟨K7, p7⟩ := ref_add (sat (powVal q5 + powVal (-20))) (wearV q10 rec) hd.1 hd.2 hw.1 hw.2
  refine ⟨K1 + K2 + K3 + K4 + K5 + K6 + K7, fun k hk => ?_⟩
  have p1 := p1 k (by omega)
  have p2 := p2 k (by omega)
  have p3 := p3 k (by omega)
  have p4 := p4 k (by omega)
  have p5 := p5 k (by omega)
  have p6 := p6 k (by omega)
  have p7 := p7 k (by omega)
  dsimp only at p1 p2 p3 p4 p5 p6 p7
  rw [foliotref10_Peer_Hear.j0, if_neg (by decide), if_neg (by decide), foliotref10_Peer_Hear.j1, if_neg (by decide), if_pos rfl, foliotref10_Peer_Hear.j2, if_neg (by decide), p1, bsome, p2, bsome, p3, bsome]
  unfold smpV
  by_cases c5 : q2 = 5
  · rw [if_pos c5, if_pos c5, ref_since, bsome, p4, bsome]
  · rw [if_neg c5, if_neg c5, p5, bsome, foliotref10_after.f, ref_since, bsome, bsome, p6, bsome, p7, bsome]
end
theorem ref_hear (s : S64) (q0 q1 q2 q3 q4 q5 q6 q7 q8 q9 q10 q11 q12 : Int) (q13 : List S148) (q14 : Int) (q15 : Bool) (q16 : List Int) (rec : Int) (auth : Bool) (h5 : Bd q5) (h6 : Bd q6) (h7 : Bd q7) (v d0 d1 d2 d3 : Int) (t : S64)
    (ht : hearV s q0 q2 q3 q4 q5 q6 q7 q8 q9 q10 q11 q12 rec auth = (v, (d0, d1, d2, d3), t)) :
    Ev (fun k => foliotref10_Peer_Hear.f k q0 q1 q2 q3 q4 q5 q6 q7 q8 q9 q10 q11 q12 q13 q14 q15 q16 rec auth s.f0 s.f1 s.f2 s.f3 s.f4 s.f5 s.f6 s.f7 s.f8 s.f9 s.f10 s.f11 s.f12 s.f13 s.f14 s.f15 s.f16 s.f17 s.f18 s.f19 s.f20 s.f21 s.f22 s.f23 s.f24 s.f25 s.f26 s.f27) (v, d0, d1, d2, d3, t.f0, t.f1, t.f2, t.f3, t.f4, t.f5, t.f6, t.f7, t.f8, t.f9, t.f10, t.f11, t.f12, t.f13, t.f14, t.f15, t.f16, t.f17, t.f18, t.f19, t.f20, t.f21, t.f22, t.f23, t.f24, t.f25, t.f26, t.f27) := by
  unfold foliotref10_Peer_Hear.f
  refine Ev.bind (f := fun k t0 => _) (ref_verdict s q0 q1 q2 q3 q4 q5 q6 q7 q8 q9 q10 q11 q12 q13 q14 q15 q16 auth h6 h7) ?_
  have hr := fitV_rng s q2 q10 q12 auth
  unfold hearV at ht
  unfold verV restV
  by_cases c : fitV s q2 q10 q12 auth = 0
  · rw [if_pos c] at ht
    rw [if_pos c]
    by_cases ck : q3 = 0 ∧ q0 = 3 ∧ ¬ q8 = 0
    · rw [if_pos ck] at ht
      rw [if_pos ck]
      obtain ⟨rfl, ⟨rfl, rfl, rfl, rfl⟩, rfl⟩ := ht
      refine Ev.congr (fun k => if_pos (by decide)) ?_
      exact ⟨3, fun k hk => by
        obtain ⟨m, rfl⟩ : ∃ m, k = m + 3 := ⟨k - 3, by omega⟩
        exact rh_j0k q0 q1 q2 q3 q4 q5 q6 q7 q8 q9 q10 q11 q12 q13 q14 q15 q16 m { s with f13 := false } rec auth 0 0 0 0⟩
    · rw [if_neg ck] at ht
      rw [if_neg ck]
      by_cases ch : headV q0 q3 q6 q7 q8 q9 q12 s.f12 = 0
      · rw [if_pos ch] at ht
        rw [ch]
        refine Ev.congr (fun k => by rw [if_neg (by decide), if_pos rfl]) ?_
        obtain ⟨K, hK⟩ := ref_taken q0 q1 q2 q3 q4 q5 q6 q7 q8 q9 q10 q11 q12 q13 q14 q15 q16 h5 { s with f13 := false } rec auth
        generalize smpV q2 q5 q10 q11 q12 rec = sm at ht hK
        obtain ⟨rfl, ⟨rfl, rfl, rfl, rfl⟩, rfl⟩ := ht
        exact ⟨K + 3, fun k hk => by
          obtain ⟨m, rfl⟩ : ∃ m, k = m + 3 := ⟨k - 3, by omega⟩
          exact hK m (by omega)⟩
      · rw [if_neg ch] at ht
        have ho := headV_or q0 q3 q6 q7 q8 q9 q12 s.f12
        have h7' : headV q0 q3 q6 q7 q8 q9 q12 s.f12 ≥ 7 := ho.resolve_left ch
        obtain ⟨rfl, ⟨rfl, rfl, rfl, rfl⟩, rfl⟩ := ht
        refine Ev.congr (fun k => if_pos (by omega)) ?_
        exact ⟨3, fun k hk => by
          obtain ⟨m, rfl⟩ : ∃ m, k = m + 3 := ⟨k - 3, by omega⟩
          exact rh_j0n q0 q1 q2 q3 q4 q5 q6 q7 q8 q9 q10 q11 q12 q13 q14 q15 q16 m { s with f13 := false } rec auth _ 0 0 0 0 (by omega) (by omega) (by omega) (by omega)⟩
  · rw [if_neg c] at ht
    rw [if_neg c]
    refine Ev.congr (fun k => by rw [if_neg (show ¬ fitV s q2 q10 q12 auth ≥ 6 by omega), if_neg c]) ?_
    by_cases cg : fitV s q2 q10 q12 auth = 3 ∨ fitV s q2 q10 q12 auth = 4
    · rw [if_pos cg] at ht
      obtain ⟨rfl, ⟨rfl, rfl, rfl, rfl⟩, rfl⟩ := ht
      exact ⟨3, fun k hk => by
        obtain ⟨m, rfl⟩ : ∃ m, k = m + 3 := ⟨k - 3, by omega⟩
        exact rh_j0g q0 q1 q2 q3 q4 q5 q6 q7 q8 q9 q10 q11 q12 q13 q14 q15 q16 m s rec auth _ 0 0 0 0 cg⟩
    · rw [if_neg cg] at ht
      obtain ⟨rfl, ⟨rfl, rfl, rfl, rfl⟩, rfl⟩ := ht
      exact ⟨3, fun k hk => by
        obtain ⟨m, rfl⟩ : ∃ m, k = m + 3 := ⟨k - 3, by omega⟩
        exact rh_j0n q0 q1 q2 q3 q4 q5 q6 q7 q8 q9 q10 q11 q12 q13 q14 q15 q16 m s rec auth _ 0 0 0 0 c (by omega) (by omega) (by omega)⟩
end Go.Proofs.Ytgbffggaifnalaa.V
