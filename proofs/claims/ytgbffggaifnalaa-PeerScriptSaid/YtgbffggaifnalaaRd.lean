/- Plain lemmas on the printed functions: whole numbers, no program in sight. -/
import Derived.Test.YtgbffggaifnalaaRc
import Derived.Laws.BitsLemmas
namespace Go.Proofs.Ytgbffggaifnalaa.V
open Go Go.RowKit Go.Proofs.Ytgbffggaifnalaa.Ev
set_option linter.unusedVariables false
set_option linter.unusedSimpArgs false
set_option maxRecDepth 100000
theorem shown_at (m : Nat) : foliotlaw10_shown.f (m + 100) = some true := by kernel_rfl
theorem ev_shown : Ev (fun k => foliotlaw10_shown.f k) true := ⟨100, fun k hk => by
  obtain ⟨m, rfl⟩ : ∃ m, k = m + 100 := ⟨k - 100, by omega⟩
  exact shown_at m⟩
theorem ev_head (q0 q1 q2 q3 q4 q5 q6 q7 q8 q9 q10 q11 q12 : Int) (q13 : List S148) (q14 : Int) (q15 : Bool) (q16 : List Int) (own : Int) (h60 : -9223372036854775808 ≤ q6) (h61 : q6 ≤ 9223372036854775807) (h70 : -9223372036854775808 ≤ q7) (h71 : q7 ≤ 9223372036854775807) :
    Ev (fun k => peer_Header_s1.f q0 q1 q2 q3 q4 q5 q6 q7 q8 q9 q10 q11 q12 q13 q14 q15 q16 own) (headV q0 q3 q6 q7 q8 q9 q12 own) := by
  unfold peer_Header_s1.f headV
  by_cases c1 : q0 = 3
  · simp only [c1, if_true]; exact Ev.now _
  by_cases c2 : q3 < 1
  · simp only [c1, c2, if_true, if_false]; exact Ev.now _
  by_cases c3 : q3 ≥ 16
  · simp only [c1, c2, c3, if_true, if_false]; exact Ev.now _
  by_cases c4 : q6 < 0
  · simp only [c1, c2, c3, c4, if_true, if_false]; exact Ev.now _
  by_cases c5 : q7 < 0
  · simp only [c1, c2, c3, c4, c5, if_true, if_false]; exact Ev.now _
  simp only [c1, c2, c3, c4, c5, if_false]
  refine Ev.bind (f := fun k t => _) (ev_since q12 q9) ?_
  by_cases c6 : sinceVal q12 q9 < 0
  · simp only [c6, if_true]; exact Ev.now _
  simp only [c6, if_false]
  have hs := shiftV_bd q6 (-1)
  refine Ev.bind (f := fun k t => _) (ev_shift q6 (-1) h60 h61 (by omega) (by omega)) ?_
  refine Ev.bind (f := fun k t => _) (ev_add _ q7 (by omega) (by omega) h70 h71) ?_
  (repeat' split) <;> exact Ev.now _
theorem ref_head (q0 q1 q2 q3 q4 q5 q6 q7 q8 q9 q10 q11 q12 : Int) (q13 : List S148) (q14 : Int) (q15 : Bool) (q16 : List Int) (own : Int) (h60 : -9223372036854775808 ≤ q6) (h61 : q6 ≤ 9223372036854775807) (h70 : -9223372036854775808 ≤ q7) (h71 : q7 ≤ 9223372036854775807) :
    Ev (fun k => foliotref10_Header.f k q0 q1 q2 q3 q4 q5 q6 q7 q8 q9 q10 q11 q12 q13 q14 q15 q16 own) (headV q0 q3 q6 q7 q8 q9 q12 own) := by
  unfold foliotref10_Header.f headV
  by_cases c1 : q0 = 3
  · simp only [c1, if_true]; exact Ev.now _
  by_cases c2 : q3 < 1
  · simp only [c1, c2, if_true, if_false]; exact Ev.now _
  by_cases c3 : q3 ≥ 16
  · simp only [c1, c2, c3, show q3 > 15 by omega, if_true, if_false]; exact Ev.now _
  by_cases c4 : q6 < 0
  · simp only [c1, c2, c3, show ¬ q3 > 15 by omega, c4, if_true, if_false]; exact Ev.now _
  by_cases c5 : q7 < 0
  · simp only [c1, c2, c3, show ¬ q3 > 15 by omega, c4, c5, if_true, if_false]; exact Ev.now _
  simp only [c1, c2, c3, show ¬ q3 > 15 by omega, c4, c5, if_false]
  refine Ev.bind (f := fun k t => _) (Ev.const (ref_since q12 q9)) ?_
  by_cases c6 : sinceVal q12 q9 < 0
  · simp only [c6, if_true]; exact Ev.now _
  simp only [c6, if_false]
  have hs := shiftV_bd q6 (-1)
  refine Ev.bind (f := fun k t => _) (ref_half q6 h60 h61) ?_
  refine Ev.bind (f := fun k t => _) (ref_add _ q7 (by omega) (by omega) h70 h71) ?_
  (repeat' split) <;> exact Ev.now _
/-! ### the peer against its reference -/
def pg (s : S64) : S88 := ⟨s.f0, s.f1, s.f2, s.f3, s.f4, s.f5, s.f6, s.f7, s.f8, s.f9, s.f10, s.f11, s.f12, (bif s.f13 then s.f14 else 0), s.f13, s.f16, s.f15, s.f18, s.f17, s.f19, s.f20, s.f21, s.f22, s.f23, s.f24, s.f25, s.f26, s.f27⟩
def Bd (v : Int) : Prop := -9223372036854775808 ≤ v ∧ v ≤ 9223372036854775807
theorem sat_bd (x : Int) : Bd (sat x) := by have := sat_in x; unfold Bd; omega
theorem tot {α : Type} {g : Option α} {r : α} (h : Ev (fun _ => g) r) : g = some r := by
  obtain ⟨k, h⟩ := h.rounds; exact h
theorem since_tot (a b : Int) : stamp_Since.f a b = some (sinceVal a b) := tot (ev_since a b)
theorem add_tot {a b : Int} (ha : Bd a) (hb : Bd b) : fixed_Add.f a b = some (sat (a + b)) := tot (ev_add a b ha.1 ha.2 hb.1 hb.2)
theorem pow_tot {n : Int} (h : Bd n) : fixed_Power.f n = some (powVal n) := tot (ev_power n h.1 h.2)
theorem pow_bd (n : Int) : Bd (powVal n) := by unfold powVal; split <;> first | exact sat_bd _ | (unfold Bd; omega)
theorem since_b (a b : Int) : Bd (sinceVal a b) := sat_bd _
theorem wear_b (a b : Int) : Bd (wearV a b) := sat_bd _
theorem b20 : Bd (-20) := by unfold Bd; omega
theorem b8 : Bd 8388608 := by unfold Bd; omega
def ansV (k m : Int) : Bool := if k = 1 ∨ k = 4 ∨ k = 5 ∨ k = 9 then decide (m = 4) else if k = 2 then decide (m = 1 ∨ m = 2) else if k = 7 then decide (m = 1) else if k = 8 then decide (m = 5) else false
theorem answered_val (k m : Int) : peer_answered.f k m = some (ansV k m) := by
  unfold peer_answered.f
  have key : ∀ a b : Int, (if ¬ m = 0 then (if m = a then some true else some (decide (m = b))) else some false) = some (decide (¬ m = 0 ∧ (m = a ∨ m = b))) := by
    intro a b
    by_cases c : m = 0
    · rw [if_neg (fun h => h c), decide_eq_false (fun h => h.1 c)]
    · rw [if_pos c]
      by_cases d : m = a
      · rw [if_pos d, decide_eq_true ⟨c, .inl d⟩]
      · rw [if_neg d]
        congr 1
        rw [decide_eq_decide]
        exact ⟨fun h => ⟨c, .inr h⟩, fun h => h.2.elim (fun e => absurd e d) id⟩
  rw [key]
  congr 1
  have fin : ∀ (P Q : Prop) [Decidable P] [Decidable Q], (P ↔ Q) → decide P = decide Q := fun P Q _ _ h => by rw [decide_eq_decide]; exact h
  by_cases h1 : k = 1
  · subst h1; exact fin _ (m = 4) (by show (¬ m = 0 ∧ (m = 4 ∨ m = 0)) ↔ m = 4; omega)
  by_cases h4 : k = 4
  · subst h4; exact fin _ (m = 4) (by show (¬ m = 0 ∧ (m = 4 ∨ m = 0)) ↔ m = 4; omega)
  by_cases h5 : k = 5
  · subst h5; exact fin _ (m = 4) (by show (¬ m = 0 ∧ (m = 4 ∨ m = 0)) ↔ m = 4; omega)
  by_cases h9 : k = 9
  · subst h9; exact fin _ (m = 4) (by show (¬ m = 0 ∧ (m = 4 ∨ m = 0)) ↔ m = 4; omega)
  by_cases h2 : k = 2
  · subst h2; exact fin _ (m = 1 ∨ m = 2) (by show (¬ m = 0 ∧ (m = 1 ∨ m = 2)) ↔ (m = 1 ∨ m = 2); omega)
  by_cases h7 : k = 7
  · subst h7; exact fin _ (m = 1) (by show (¬ m = 0 ∧ (m = 1 ∨ m = 0)) ↔ m = 1; omega)
  by_cases h8 : k = 8
  · subst h8; exact fin _ (m = 5) (by show (¬ m = 0 ∧ (m = 5 ∨ m = 0)) ↔ m = 5; omega)
  have e1 : mapv 0 [(1, 4), (4, 4), (5, 4), (9, 4), (2, 1), (7, 1), (8, 5)] k = 0 := by simp only [mapv, h1, h4, h5, h9, h2, h7, h8, if_false]
  have e2 : mapv 0 [(1, 0), (4, 0), (5, 0), (9, 0), (2, 2), (7, 0), (8, 0)] k = 0 := by simp only [mapv, h1, h4, h5, h9, h2, h7, h8, if_false]
  rw [e1, e2]
  unfold ansV
  rw [if_neg (by omega), if_neg h2, if_neg h7, if_neg h8]
  exact decide_eq_false (by omega)
theorem answers_val (k m : Int) : foliotref10_Answers.f k m = some (ansV k m) := by
  unfold foliotref10_Answers.f
  by_cases h1 : k = 1
  · subst h1; rfl
  by_cases h4 : k = 4
  · subst h4; rfl
  by_cases h5 : k = 5
  · subst h5; rfl
  by_cases h9 : k = 9
  · subst h9; rfl
  unfold ansV
  rw [if_neg h1, if_neg h4, if_neg h5, if_neg h9, if_neg (show ¬ (k = 1 ∨ k = 4 ∨ k = 5 ∨ k = 9) by omega)]
  by_cases h2 : k = 2
  · rw [if_pos h2, if_pos h2]
    by_cases c : m = 1
    · rw [if_pos c, decide_eq_true (Or.inl c)]
    · rw [if_neg c]; congr 1; rw [decide_eq_decide]; omega
  · rw [if_neg h2, if_neg h2]
    (repeat' split) <;> rfl
def askV (k : Int) : Int := if k = 1 ∨ k = 4 ∨ k = 5 ∨ k = 9 then 3 else if k = 2 then 1 else if k = 7 then 2 else if k = 3 then 5 else 0
theorem asks_val (k : Int) : peer_asks.f k = some (askV k) := by
  unfold peer_asks.f askV
  congr 1
  simp only [mapv]
  (repeat' split) <;> omega
theorem rasks_val (k : Int) : foliotref10_Asks.f k = some (askV k) := by
  unfold foliotref10_Asks.f askV
  (repeat' split) <;> first | rfl | omega
def fitV (s : S64) (q2 q10 q12 : Int) (auth : Bool) : Int :=
  if ansV s.f0 q2 = false then 1 else if s.f15 = true ∧ (q12 = s.f16 ∨ (q2 = 5 ∧ sinceVal q12 s.f16 ≤ 0)) then 2 else if ¬ q2 = 5 ∧ s.f13 = false then 3 else if ¬ q2 = 5 ∧ ¬ q10 = s.f14 then 4 else if ¬ s.f2 = 0 ∧ auth = false then 5 else 0
theorem fitV_rng (s : S64) (q2 q10 q12 : Int) (auth : Bool) : 0 ≤ fitV s q2 q10 q12 auth ∧ fitV s q2 q10 q12 auth ≤ 5 := by
  unfold fitV
  (repeat' split) <;> omega
theorem fits_val (s : S64) (q0 q1 q2 q3 q4 q5 q6 q7 q8 q9 q10 q11 q12 : Int) (q13 : List S148) (q14 : Int) (q15 : Bool) (q16 : List Int) (auth : Bool) :
    peer_Peer_fits_s1.f (pg s) q0 q1 q2 q3 q4 q5 q6 q7 q8 q9 q10 q11 q12 q13 q14 q15 q16 auth = some (fitV s q2 q10 q12 auth) := by
  unfold peer_Peer_fits_s1.f peer_Peer_stale_s1.f fitV pg
  rw [since_tot, answered_val]
  simp only [bsome]
  generalize sinceVal q12 s.f16 = z
  generalize ansV s.f0 q2 = an
  generalize s.f15 = b15
  generalize s.f13 = b13
  generalize s.f16 = n16
  generalize s.f14 = n14
  generalize s.f2 = n2
  have tl : (if ¬ n2 = 0 then (bif (!auth) then (some (5 : Int)) else (some 0)) else (some 0)) = some (if ¬ n2 = 0 ∧ auth = false then 5 else 0) := by
    by_cases c : n2 = 0 <;> cases auth <;> simp [c]
  rw [tl]
  generalize (if ¬ n2 = 0 ∧ auth = false then (5 : Int) else 0) = w
  cases an
  · rfl
  have tl2 : (if ¬ q2 = 5 then (bif (!b13) then (some (3 : Int)) else (if ¬ q2 = 5 then (if ¬ q10 = (bif b13 then n14 else 0) then (some 4) else (some w)) else (some w))) else (if ¬ q2 = 5 then (if ¬ q10 = (bif b13 then n14 else 0) then (some 4) else (some w)) else (some w))) = some (if ¬ q2 = 5 ∧ b13 = false then 3 else if ¬ q2 = 5 ∧ ¬ q10 = n14 then 4 else w) := by
    by_cases c : q2 = 5
    · simp [c]
    · cases b13
      · simp [c]
      · by_cases d : q10 = n14 <;> simp [c, d]
  rw [tl2]
  generalize (if ¬ q2 = 5 ∧ b13 = false then (3 : Int) else if ¬ q2 = 5 ∧ ¬ q10 = n14 then 4 else w) = y
  cases b15
  · simp
  · by_cases c : q12 = n16
    · simp [c]
    · by_cases d : q2 = 5
      · by_cases e : z ≤ 0 <;> simp [c, d, e]
      · simp [c, d]
def restV (q0 q3 q6 q7 q8 q9 q12 own : Int) : Int := if q3 = 0 ∧ q0 = 3 ∧ ¬ q8 = 0 then 6 else headV q0 q3 q6 q7 q8 q9 q12 own
theorem headV_or (q0 q3 q6 q7 q8 q9 q12 own : Int) : headV q0 q3 q6 q7 q8 q9 q12 own = 0 ∨ headV q0 q3 q6 q7 q8 q9 q12 own ≥ 7 := by
  unfold headV
  (repeat' split) <;> omega
def verV (s : S64) (q0 q2 q3 q6 q7 q8 q9 q10 q12 : Int) (auth : Bool) : Int := if fitV s q2 q10 q12 auth = 0 then restV q0 q3 q6 q7 q8 q9 q12 s.f12 else fitV s q2 q10 q12 auth
theorem ref_verdict (s : S64) (q0 q1 q2 q3 q4 q5 q6 q7 q8 q9 q10 q11 q12 : Int) (q13 : List S148) (q14 : Int) (q15 : Bool) (q16 : List Int) (auth : Bool) (h6 : Bd q6) (h7 : Bd q7) :
    Ev (fun k => foliotref10_Peer_verdict.f k s q0 q1 q2 q3 q4 q5 q6 q7 q8 q9 q10 q11 q12 q13 q14 q15 q16 auth) (verV s q0 q2 q3 q6 q7 q8 q9 q10 q12 auth) := by
  obtain ⟨K, hK⟩ := ref_head q0 q1 q2 q3 q4 q5 q6 q7 q8 q9 q10 q11 q12 q13 q14 q15 q16 s.f12 h6.1 h6.2 h7.1 h7.2
  refine ⟨K, fun k hk => ?_⟩
  show foliotref10_Peer_verdict.f k s q0 q1 q2 q3 q4 q5 q6 q7 q8 q9 q10 q11 q12 q13 q14 q15 q16 auth = _
  unfold foliotref10_Peer_verdict.f
  rw [answers_val]
  simp only [bsome, hK k hk, ref_since]
  have kt : (if q3 = 0 then (if q0 = 3 then (if ¬ q8 = 0 then (some (6 : Int)) else (some (headV q0 q3 q6 q7 q8 q9 q12 s.f12))) else (some (headV q0 q3 q6 q7 q8 q9 q12 s.f12))) else (some (headV q0 q3 q6 q7 q8 q9 q12 s.f12))) = some (restV q0 q3 q6 q7 q8 q9 q12 s.f12) := by
    unfold restV
    by_cases c1 : q3 = 0 <;> by_cases c2 : q0 = 3 <;> by_cases c3 : q8 = 0 <;> simp [c1, c2, c3]
  rw [kt]
  unfold verV fitV
  generalize restV q0 q3 q6 q7 q8 q9 q12 s.f12 = r
  generalize sinceVal q12 s.f16 = z
  generalize ansV s.f0 q2 = an
  generalize s.f15 = b15
  generalize s.f13 = b13
  generalize s.f16 = n16
  generalize s.f14 = n14
  generalize s.f2 = n2
  have tl : (if ¬ n2 = 0 then (bif (!auth) then (some (5 : Int)) else (some r)) else (some r)) = some (if (if ¬ n2 = 0 ∧ auth = false then (5 : Int) else 0) = 0 then r else (if ¬ n2 = 0 ∧ auth = false then 5 else 0)) := by
    by_cases c : n2 = 0 <;> cases auth <;> simp [c]
  rw [tl]
  generalize (if ¬ n2 = 0 ∧ auth = false then (5 : Int) else 0) = w
  cases an
  · rfl
  have tl2 : (if ¬ q2 = 5 then (bif (!b13) then (some (3 : Int)) else (if ¬ q2 = 5 then (if ¬ q10 = n14 then (some 4) else (some (if w = 0 then r else w))) else (some (if w = 0 then r else w)))) else (if ¬ q2 = 5 then (if ¬ q10 = n14 then (some 4) else (some (if w = 0 then r else w))) else (some (if w = 0 then r else w)))) = some (if (if ¬ q2 = 5 ∧ b13 = false then 3 else if ¬ q2 = 5 ∧ ¬ q10 = n14 then 4 else w) = 0 then r else (if ¬ q2 = 5 ∧ b13 = false then 3 else if ¬ q2 = 5 ∧ ¬ q10 = n14 then 4 else w)) := by
    by_cases c : q2 = 5
    · simp [c]
    · cases b13
      · simp [c]
      · by_cases d : q10 = n14 <;> simp [c, d]
  rw [tl2]
  generalize (if ¬ q2 = 5 ∧ b13 = false then (3 : Int) else if ¬ q2 = 5 ∧ ¬ q10 = n14 then 4 else w) = y
  cases b15
  · simp
  · by_cases c : q12 = n16
    · simp [c]
    · by_cases d : q2 = 5
      · by_cases e : z ≤ 0 <;> simp [c, d, e]
      · simp [c, d]
end Go.Proofs.Ytgbffggaifnalaa.V
