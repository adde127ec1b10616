/- Plain lemmas on the printed functions: whole numbers, no program in sight. -/
import Derived.Test.YtgbffggaifnalaaRf
import Derived.Laws.BitsLemmas
namespace Go.Proofs.Ytgbffggaifnalaa.V
open Go Go.RowKit Go.Proofs.Ytgbffggaifnalaa.Ev
set_option linter.unusedVariables false
set_option linter.unusedSimpArgs false
set_option maxRecDepth 100000
/-! ### what is asked, and the whole script -/
theorem wired_val (a : Int) : peer_wired.f a = some (mn (mx a 0) 281474976645120) := by
  unfold peer_wired.f
  rw [show stamp_FromShort.f 4294967295 = some 281474976645120 by kernel_rfl, bsome]
theorem clip_val (a : Int) : foliotref10_clip.f a = some (mn (mx a 0) 281474976645120) := by
  unfold foliotref10_clip.f
  rw [show foliotref02_FromShort.f 4294967295 = some 281474976645120 by kernel_rfl, bsome]
  congr 1
  unfold mn mx
  (repeat' split) <;> omega
theorem poll_val (a : Int) : mx (-128) (mn a 127) = mn (mx a (-128)) 127 := by
  unfold mn mx
  (repeat' split) <;> omega
theorem xmt_val (a : Int) (h : 0 ≤ a) : mx a 1 = if a = 0 then 1 else a := by
  unfold mx
  (repeat' split) <;> omega
theorem same_true (p0 p1 p2 p3 p4 p5 p6 p7 p8 p9 p10 p11 p12 p14 : Int) (p15 : Bool) : foliotlaw10_same.f p0 p1 p2 p3 p4 p5 p6 p7 p8 p9 p10 p11 p12 p14 p15 p0 p1 p2 p3 p4 p5 p6 p7 p8 p9 p10 p11 p12 p14 p15 = some true := by
  unfold foliotlaw10_same.f
  simp only [if_true, beq_self_eq_true, cond_true]
theorem request_both (s : S64) (y0 y1 y2 y3 y4 y5 y6 y7 y8 y9 y10 poll xmt : Int) (hx : 0 ≤ xmt) :
    ∃ (p0 p1 p2 p3 p4 p5 p6 p7 p8 p9 p10 p11 p12 p14 : Int) (p15 b : Bool) (t : S64),
      Ev (fun k => peer_Peer_Request.f k y0 y1 y2 y3 y4 y5 y6 y7 y8 y9 y10 poll xmt (pg s).f0 (pg s).f1 (pg s).f2 (pg s).f3 (pg s).f4 (pg s).f5 (pg s).f6 (pg s).f7 (pg s).f8 (pg s).f9 (pg s).f10 (pg s).f11 (pg s).f12 (pg s).f13 (pg s).f14 (pg s).f15 (pg s).f16 (pg s).f17 (pg s).f18 (pg s).f19 (pg s).f20 (pg s).f21 (pg s).f22 (pg s).f23 (pg s).f24 (pg s).f25 (pg s).f26 (pg s).f27) (p0, p1, p2, p3, p4, p5, p6, p7, p8, p9, p10, p11, p12, p14, p15, b, (pg t).f0, (pg t).f1, (pg t).f2, (pg t).f3, (pg t).f4, (pg t).f5, (pg t).f6, (pg t).f7, (pg t).f8, (pg t).f9, (pg t).f10, (pg t).f11, (pg t).f12, (pg t).f13, (pg t).f14, (pg t).f15, (pg t).f16, (pg t).f17, (pg t).f18, (pg t).f19, (pg t).f20, (pg t).f21, (pg t).f22, (pg t).f23, (pg t).f24, (pg t).f25, (pg t).f26, (pg t).f27) ∧
      Ev (fun k => foliotref10_Peer_Request.f k y0 y1 y2 y3 y4 y5 y6 y7 y8 y9 y10 poll xmt s.f0 s.f1 s.f2 s.f3 s.f4 s.f5 s.f6 s.f7 s.f8 s.f9 s.f10 s.f11 s.f12 s.f13 s.f14 s.f15 s.f16 s.f17 s.f18 s.f19 s.f20 s.f21 s.f22 s.f23 s.f24 s.f25 s.f26 s.f27) (p0, p1, p2, p3, p4, p5, p6, p7, p8, p9, p10, p11, p12, p14, p15, b, t.f0, t.f1, t.f2, t.f3, t.f4, t.f5, t.f6, t.f7, t.f8, t.f9, t.f10, t.f11, t.f12, t.f13, t.f14, t.f15, t.f16, t.f17, t.f18, t.f19, t.f20, t.f21, t.f22, t.f23, t.f24, t.f25, t.f26, t.f27) := by
  unfold peer_Peer_Request.f foliotref10_Peer_Request.f
  rw [show (pg s).f0 = s.f0 from rfl, asks_val, rasks_val]
  simp only [bsome, wired_val]
  generalize hm : askV s.f0 = m
  by_cases h0 : m = 0
  · refine ⟨0, 0, 0, 0, 0, 0, 0, 0, 0, 0, 0, 0, 0, 0, false, false, s, ?_, ?_⟩
    · exact Ev.congr (fun k => if_pos h0) (Ev.now _)
    · exact Ev.congr (fun k => if_pos h0) (Ev.now _)
  by_cases h5 : m = 5 ∧ y0 = 3
  · refine ⟨0, 0, 0, 0, 0, 0, 0, 0, 0, 0, 0, 0, 0, 0, false, false, s, ?_, ?_⟩
    · exact Ev.congr (fun k => by rw [if_neg h0, if_pos h5.1, if_pos h5.2]; rfl) (Ev.now _)
    · exact Ev.congr (fun k => by rw [if_neg h0, if_pos h5.1, if_pos h5.2]) (Ev.now _)
  obtain ⟨st, hst⟩ : ∃ st : Int, st = if y1 < 1 then 0 else if y1 > 15 then 0 else y1 := ⟨_, rfl⟩
  obtain ⟨P, hP⟩ : ∃ P : Int, P = mn (mx poll (-128)) 127 := ⟨_, rfl⟩
  obtain ⟨w3, hw3⟩ : ∃ w : Int, w = mn (mx y3 0) 281474976645120 := ⟨_, rfl⟩
  obtain ⟨w4, hw4⟩ : ∃ w : Int, w = mn (mx y4 0) 281474976645120 := ⟨_, rfl⟩
  obtain ⟨X, hX⟩ : ∃ X : Int, X = mx xmt 1 := ⟨_, rfl⟩
  have hX2 := xmt_val xmt hx
  rw [← hX] at hX2
  -- the program's packet, and what it notes
  have prog : ∀ r, Ev (fun k => peer_Peer_Request.j0 k (decide (m = 5)) (pg s).f0 (pg s).f1 (pg s).f2 (pg s).f3 (pg s).f4 (pg s).f5 (pg s).f6 (pg s).f7 (pg s).f8 (pg s).f9 (pg s).f10 (pg s).f11 (pg s).f12 (pg s).f13 (pg s).f14 (pg s).f15 (pg s).f16 (pg s).f17 (pg s).f18 (pg s).f19 (pg s).f20 (pg s).f21 (pg s).f22 (pg s).f23 (pg s).f24 (pg s).f25 (pg s).f26 (pg s).f27 0 0 0 0 0 0 0 0 0 0 0 0 0 0 false y0 4 m st P (-20) w3 w4 y5 y6 0 0 X 0 false) r →
      Ev (fun k => if m = 0 then (some (0, 0, 0, 0, 0, 0, 0, 0, 0, 0, 0, 0, 0, 0, false, false, (pg s).f0, (pg s).f1, (pg s).f2, (pg s).f3, (pg s).f4, (pg s).f5, (pg s).f6, (pg s).f7, (pg s).f8, (pg s).f9, (pg s).f10, (pg s).f11, (pg s).f12, (pg s).f13, (pg s).f14, (pg s).f15, (pg s).f16, (pg s).f17, (pg s).f18, (pg s).f19, (pg s).f20, (pg s).f21, (pg s).f22, (pg s).f23, (pg s).f24, (pg s).f25, (pg s).f26, (pg s).f27)) else (if m = 5 then (if y0 = 3 then (some (0, 0, 0, 0, 0, 0, 0, 0, 0, 0, 0, 0, 0, 0, false, false, (pg s).f0, (pg s).f1, (pg s).f2, (pg s).f3, (pg s).f4, (pg s).f5, (pg s).f6, (pg s).f7, (pg s).f8, (pg s).f9, (pg s).f10, (pg s).f11, (pg s).f12, (pg s).f13, (pg s).f14, (pg s).f15, (pg s).f16, (pg s).f17, (pg s).f18, (pg s).f19, (pg s).f20, (pg s).f21, (pg s).f22, (pg s).f23, (pg s).f24, (pg s).f25, (pg s).f26, (pg s).f27)) else (if y1 ≥ 1 then (if y1 < 16 then (peer_Peer_Request.j0 k (decide (m = 5)) (pg s).f0 (pg s).f1 (pg s).f2 (pg s).f3 (pg s).f4 (pg s).f5 (pg s).f6 (pg s).f7 (pg s).f8 (pg s).f9 (pg s).f10 (pg s).f11 (pg s).f12 (pg s).f13 (pg s).f14 (pg s).f15 (pg s).f16 (pg s).f17 (pg s).f18 (pg s).f19 (pg s).f20 (pg s).f21 (pg s).f22 (pg s).f23 (pg s).f24 (pg s).f25 (pg s).f26 (pg s).f27 0 0 0 0 0 0 0 0 0 0 0 0 0 0 false y0 4 m y1 (mn (mx poll (-128)) 127) (-20) (mn (mx y3 0) 281474976645120) (mn (mx y4 0) 281474976645120) y5 y6 0 0 (mx xmt 1) 0 false) else (peer_Peer_Request.j0 k (decide (m = 5)) (pg s).f0 (pg s).f1 (pg s).f2 (pg s).f3 (pg s).f4 (pg s).f5 (pg s).f6 (pg s).f7 (pg s).f8 (pg s).f9 (pg s).f10 (pg s).f11 (pg s).f12 (pg s).f13 (pg s).f14 (pg s).f15 (pg s).f16 (pg s).f17 (pg s).f18 (pg s).f19 (pg s).f20 (pg s).f21 (pg s).f22 (pg s).f23 (pg s).f24 (pg s).f25 (pg s).f26 (pg s).f27 0 0 0 0 0 0 0 0 0 0 0 0 0 0 false y0 4 m 0 (mn (mx poll (-128)) 127) (-20) (mn (mx y3 0) 281474976645120) (mn (mx y4 0) 281474976645120) y5 y6 0 0 (mx xmt 1) 0 false)) else (peer_Peer_Request.j0 k (decide (m = 5)) (pg s).f0 (pg s).f1 (pg s).f2 (pg s).f3 (pg s).f4 (pg s).f5 (pg s).f6 (pg s).f7 (pg s).f8 (pg s).f9 (pg s).f10 (pg s).f11 (pg s).f12 (pg s).f13 (pg s).f14 (pg s).f15 (pg s).f16 (pg s).f17 (pg s).f18 (pg s).f19 (pg s).f20 (pg s).f21 (pg s).f22 (pg s).f23 (pg s).f24 (pg s).f25 (pg s).f26 (pg s).f27 0 0 0 0 0 0 0 0 0 0 0 0 0 0 false y0 4 m 0 (mn (mx poll (-128)) 127) (-20) (mn (mx y3 0) 281474976645120) (mn (mx y4 0) 281474976645120) y5 y6 0 0 (mx xmt 1) 0 false))) else (if y1 ≥ 1 then (if y1 < 16 then (peer_Peer_Request.j0 k (decide (m = 5)) (pg s).f0 (pg s).f1 (pg s).f2 (pg s).f3 (pg s).f4 (pg s).f5 (pg s).f6 (pg s).f7 (pg s).f8 (pg s).f9 (pg s).f10 (pg s).f11 (pg s).f12 (pg s).f13 (pg s).f14 (pg s).f15 (pg s).f16 (pg s).f17 (pg s).f18 (pg s).f19 (pg s).f20 (pg s).f21 (pg s).f22 (pg s).f23 (pg s).f24 (pg s).f25 (pg s).f26 (pg s).f27 0 0 0 0 0 0 0 0 0 0 0 0 0 0 false y0 4 m y1 (mn (mx poll (-128)) 127) (-20) (mn (mx y3 0) 281474976645120) (mn (mx y4 0) 281474976645120) y5 y6 0 0 (mx xmt 1) 0 false) else (peer_Peer_Request.j0 k (decide (m = 5)) (pg s).f0 (pg s).f1 (pg s).f2 (pg s).f3 (pg s).f4 (pg s).f5 (pg s).f6 (pg s).f7 (pg s).f8 (pg s).f9 (pg s).f10 (pg s).f11 (pg s).f12 (pg s).f13 (pg s).f14 (pg s).f15 (pg s).f16 (pg s).f17 (pg s).f18 (pg s).f19 (pg s).f20 (pg s).f21 (pg s).f22 (pg s).f23 (pg s).f24 (pg s).f25 (pg s).f26 (pg s).f27 0 0 0 0 0 0 0 0 0 0 0 0 0 0 false y0 4 m 0 (mn (mx poll (-128)) 127) (-20) (mn (mx y3 0) 281474976645120) (mn (mx y4 0) 281474976645120) y5 y6 0 0 (mx xmt 1) 0 false)) else (peer_Peer_Request.j0 k (decide (m = 5)) (pg s).f0 (pg s).f1 (pg s).f2 (pg s).f3 (pg s).f4 (pg s).f5 (pg s).f6 (pg s).f7 (pg s).f8 (pg s).f9 (pg s).f10 (pg s).f11 (pg s).f12 (pg s).f13 (pg s).f14 (pg s).f15 (pg s).f16 (pg s).f17 (pg s).f18 (pg s).f19 (pg s).f20 (pg s).f21 (pg s).f22 (pg s).f23 (pg s).f24 (pg s).f25 (pg s).f26 (pg s).f27 0 0 0 0 0 0 0 0 0 0 0 0 0 0 false y0 4 m 0 (mn (mx poll (-128)) 127) (-20) (mn (mx y3 0) 281474976645120) (mn (mx y4 0) 281474976645120) y5 y6 0 0 (mx xmt 1) 0 false)))) r := by
    intro r h
    rw [← hP, ← hw3, ← hw4, ← hX]
    refine Ev.congr (fun k => ?_) h
    have e : (if y1 ≥ 1 then (if y1 < 16 then (peer_Peer_Request.j0 k (decide (m = 5)) (pg s).f0 (pg s).f1 (pg s).f2 (pg s).f3 (pg s).f4 (pg s).f5 (pg s).f6 (pg s).f7 (pg s).f8 (pg s).f9 (pg s).f10 (pg s).f11 (pg s).f12 (pg s).f13 (pg s).f14 (pg s).f15 (pg s).f16 (pg s).f17 (pg s).f18 (pg s).f19 (pg s).f20 (pg s).f21 (pg s).f22 (pg s).f23 (pg s).f24 (pg s).f25 (pg s).f26 (pg s).f27 0 0 0 0 0 0 0 0 0 0 0 0 0 0 false y0 4 m y1 P (-20) w3 w4 y5 y6 0 0 X 0 false) else (peer_Peer_Request.j0 k (decide (m = 5)) (pg s).f0 (pg s).f1 (pg s).f2 (pg s).f3 (pg s).f4 (pg s).f5 (pg s).f6 (pg s).f7 (pg s).f8 (pg s).f9 (pg s).f10 (pg s).f11 (pg s).f12 (pg s).f13 (pg s).f14 (pg s).f15 (pg s).f16 (pg s).f17 (pg s).f18 (pg s).f19 (pg s).f20 (pg s).f21 (pg s).f22 (pg s).f23 (pg s).f24 (pg s).f25 (pg s).f26 (pg s).f27 0 0 0 0 0 0 0 0 0 0 0 0 0 0 false y0 4 m 0 P (-20) w3 w4 y5 y6 0 0 X 0 false)) else (peer_Peer_Request.j0 k (decide (m = 5)) (pg s).f0 (pg s).f1 (pg s).f2 (pg s).f3 (pg s).f4 (pg s).f5 (pg s).f6 (pg s).f7 (pg s).f8 (pg s).f9 (pg s).f10 (pg s).f11 (pg s).f12 (pg s).f13 (pg s).f14 (pg s).f15 (pg s).f16 (pg s).f17 (pg s).f18 (pg s).f19 (pg s).f20 (pg s).f21 (pg s).f22 (pg s).f23 (pg s).f24 (pg s).f25 (pg s).f26 (pg s).f27 0 0 0 0 0 0 0 0 0 0 0 0 0 0 false y0 4 m 0 P (-20) w3 w4 y5 y6 0 0 X 0 false)) = peer_Peer_Request.j0 k (decide (m = 5)) (pg s).f0 (pg s).f1 (pg s).f2 (pg s).f3 (pg s).f4 (pg s).f5 (pg s).f6 (pg s).f7 (pg s).f8 (pg s).f9 (pg s).f10 (pg s).f11 (pg s).f12 (pg s).f13 (pg s).f14 (pg s).f15 (pg s).f16 (pg s).f17 (pg s).f18 (pg s).f19 (pg s).f20 (pg s).f21 (pg s).f22 (pg s).f23 (pg s).f24 (pg s).f25 (pg s).f26 (pg s).f27 0 0 0 0 0 0 0 0 0 0 0 0 0 0 false y0 4 m st P (-20) w3 w4 y5 y6 0 0 X 0 false := by
      by_cases c1 : y1 < 1
      · rw [if_neg (show ¬ y1 ≥ 1 by omega), hst, if_pos c1]
      · by_cases c2 : y1 > 15
        · rw [if_pos (show y1 ≥ 1 by omega), if_neg (show ¬ y1 < 16 by omega), hst, if_neg c1, if_pos c2]
        · rw [if_pos (show y1 ≥ 1 by omega), if_pos (show y1 < 16 by omega), hst, if_neg c1, if_neg c2]
    rw [if_neg h0, e]
    by_cases c : m = 5
    · rw [if_pos c, if_neg (fun h => h5 ⟨c, h⟩)]
    · rw [if_neg c]
  have ref : ∀ r, Ev (fun k => foliotref10_Peer_Request.j1 k X m s.f0 s.f1 s.f2 s.f3 s.f4 s.f5 s.f6 s.f7 s.f8 s.f9 s.f10 s.f11 s.f12 s.f13 s.f14 s.f15 s.f16 s.f17 s.f18 s.f19 s.f20 s.f21 s.f22 s.f23 s.f24 s.f25 s.f26 s.f27 0 0 0 0 0 0 0 0 0 0 0 0 0 0 false y0 4 m st P (-20) w3 w4 y5 y6 0 0 X 0 false) r →
      Ev (fun k => if m = 0 then (some (0, 0, 0, 0, 0, 0, 0, 0, 0, 0, 0, 0, 0, 0, false, false, s.f0, s.f1, s.f2, s.f3, s.f4, s.f5, s.f6, s.f7, s.f8, s.f9, s.f10, s.f11, s.f12, s.f13, s.f14, s.f15, s.f16, s.f17, s.f18, s.f19, s.f20, s.f21, s.f22, s.f23, s.f24, s.f25, s.f26, s.f27)) else (if m = 5 then (if y0 = 3 then (some (0, 0, 0, 0, 0, 0, 0, 0, 0, 0, 0, 0, 0, 0, false, false, s.f0, s.f1, s.f2, s.f3, s.f4, s.f5, s.f6, s.f7, s.f8, s.f9, s.f10, s.f11, s.f12, s.f13, s.f14, s.f15, s.f16, s.f17, s.f18, s.f19, s.f20, s.f21, s.f22, s.f23, s.f24, s.f25, s.f26, s.f27)) else (if xmt = 0 then (foliotref10_Peer_Request.j0 k poll 1 m s.f0 s.f1 s.f2 s.f3 s.f4 s.f5 s.f6 s.f7 s.f8 s.f9 s.f10 s.f11 s.f12 s.f13 s.f14 s.f15 s.f16 s.f17 s.f18 s.f19 s.f20 s.f21 s.f22 s.f23 s.f24 s.f25 s.f26 s.f27 y0 y1 y2 y3 y4 y5 y6 y7 y8 y9 y10 0 0 0 0 0 0 0 0 0 0 0 0 0 0 false) else (foliotref10_Peer_Request.j0 k poll xmt m s.f0 s.f1 s.f2 s.f3 s.f4 s.f5 s.f6 s.f7 s.f8 s.f9 s.f10 s.f11 s.f12 s.f13 s.f14 s.f15 s.f16 s.f17 s.f18 s.f19 s.f20 s.f21 s.f22 s.f23 s.f24 s.f25 s.f26 s.f27 y0 y1 y2 y3 y4 y5 y6 y7 y8 y9 y10 0 0 0 0 0 0 0 0 0 0 0 0 0 0 false))) else (if xmt = 0 then (foliotref10_Peer_Request.j0 k poll 1 m s.f0 s.f1 s.f2 s.f3 s.f4 s.f5 s.f6 s.f7 s.f8 s.f9 s.f10 s.f11 s.f12 s.f13 s.f14 s.f15 s.f16 s.f17 s.f18 s.f19 s.f20 s.f21 s.f22 s.f23 s.f24 s.f25 s.f26 s.f27 y0 y1 y2 y3 y4 y5 y6 y7 y8 y9 y10 0 0 0 0 0 0 0 0 0 0 0 0 0 0 false) else (foliotref10_Peer_Request.j0 k poll xmt m s.f0 s.f1 s.f2 s.f3 s.f4 s.f5 s.f6 s.f7 s.f8 s.f9 s.f10 s.f11 s.f12 s.f13 s.f14 s.f15 s.f16 s.f17 s.f18 s.f19 s.f20 s.f21 s.f22 s.f23 s.f24 s.f25 s.f26 s.f27 y0 y1 y2 y3 y4 y5 y6 y7 y8 y9 y10 0 0 0 0 0 0 0 0 0 0 0 0 0 0 false)))) r := by
    intro r h
    have j : Ev (fun k => foliotref10_Peer_Request.j0 k poll X m s.f0 s.f1 s.f2 s.f3 s.f4 s.f5 s.f6 s.f7 s.f8 s.f9 s.f10 s.f11 s.f12 s.f13 s.f14 s.f15 s.f16 s.f17 s.f18 s.f19 s.f20 s.f21 s.f22 s.f23 s.f24 s.f25 s.f26 s.f27 y0 y1 y2 y3 y4 y5 y6 y7 y8 y9 y10 0 0 0 0 0 0 0 0 0 0 0 0 0 0 false) r := by
      refine Ev.step (fun k => ?_) h
      rw [foliotref10_Peer_Request.j0, clip_val, bsome, clip_val, bsome, poll_val, ← hP, ← hw3, ← hw4]
      by_cases c1 : y1 < 1
      · rw [if_pos c1, hst, if_pos c1]
      · by_cases c2 : y1 > 15
        · rw [if_neg c1, if_pos c2, hst, if_neg c1, if_pos c2]
        · rw [if_neg c1, if_neg c2, hst, if_neg c1, if_neg c2]
    refine Ev.congr (fun k => ?_) j
    have e : (if xmt = 0 then (foliotref10_Peer_Request.j0 k poll 1 m s.f0 s.f1 s.f2 s.f3 s.f4 s.f5 s.f6 s.f7 s.f8 s.f9 s.f10 s.f11 s.f12 s.f13 s.f14 s.f15 s.f16 s.f17 s.f18 s.f19 s.f20 s.f21 s.f22 s.f23 s.f24 s.f25 s.f26 s.f27 y0 y1 y2 y3 y4 y5 y6 y7 y8 y9 y10 0 0 0 0 0 0 0 0 0 0 0 0 0 0 false) else (foliotref10_Peer_Request.j0 k poll xmt m s.f0 s.f1 s.f2 s.f3 s.f4 s.f5 s.f6 s.f7 s.f8 s.f9 s.f10 s.f11 s.f12 s.f13 s.f14 s.f15 s.f16 s.f17 s.f18 s.f19 s.f20 s.f21 s.f22 s.f23 s.f24 s.f25 s.f26 s.f27 y0 y1 y2 y3 y4 y5 y6 y7 y8 y9 y10 0 0 0 0 0 0 0 0 0 0 0 0 0 0 false)) = foliotref10_Peer_Request.j0 k poll X m s.f0 s.f1 s.f2 s.f3 s.f4 s.f5 s.f6 s.f7 s.f8 s.f9 s.f10 s.f11 s.f12 s.f13 s.f14 s.f15 s.f16 s.f17 s.f18 s.f19 s.f20 s.f21 s.f22 s.f23 s.f24 s.f25 s.f26 s.f27 y0 y1 y2 y3 y4 y5 y6 y7 y8 y9 y10 0 0 0 0 0 0 0 0 0 0 0 0 0 0 false := by
      by_cases c : xmt = 0
      · rw [if_pos c, hX2, if_pos c]
      · rw [if_neg c, hX2, if_neg c]
    rw [if_neg h0, e]
    by_cases c : m = 5
    · rw [if_pos c, if_neg (fun h => h5 ⟨c, h⟩)]
    · rw [if_neg c]
  by_cases c : m = 5
  · refine ⟨y0, 4, m, st, P, -20, w3, w4, y5, y6, 0, 0, X, 0, false, true, s, prog _ ?_, ref _ ?_⟩
    · exact ⟨3, fun k hk => by
        obtain ⟨n, rfl⟩ : ∃ n, k = n + 3 := ⟨k - 3, by omega⟩
        dsimp only
        rw [peer_Peer_Request.j0, decide_eq_true c, Bool.not_true, cond_false, peer_Peer_Request.j1] <;> rfl⟩
    · exact ⟨3, fun k hk => by
        obtain ⟨n, rfl⟩ : ∃ n, k = n + 3 := ⟨k - 3, by omega⟩
        dsimp only
        rw [foliotref10_Peer_Request.j1, if_neg (fun h => h c), foliotref10_Peer_Request.j3] <;> rfl⟩
  · rcases Bool.eq_false_or_eq_true s.f17 with e17 | e17
    · refine ⟨y0, 4, m, st, P, -20, w3, w4, y5, y6, s.f18, s.f19, X, 0, false, true, { s with f13 := true, f14 := X }, prog _ ?_, ref _ ?_⟩
      · exact ⟨3, fun k hk => by
        obtain ⟨n, rfl⟩ : ∃ n, k = n + 3 := ⟨k - 3, by omega⟩
        dsimp only
        rw [peer_Peer_Request.j0, decide_eq_false c, Bool.not_false, cond_true, show (pg s).f18 = s.f17 from rfl, e17, cond_true, peer_Peer_Request.j1] <;> rfl⟩
      · exact ⟨3, fun k hk => by
        obtain ⟨n, rfl⟩ : ∃ n, k = n + 3 := ⟨k - 3, by omega⟩
        dsimp only
        rw [foliotref10_Peer_Request.j1, if_pos c, e17, cond_true, foliotref10_Peer_Request.j2, foliotref10_Peer_Request.j3] <;> rfl⟩
    · refine ⟨y0, 4, m, st, P, -20, w3, w4, y5, y6, 0, 0, X, 0, false, true, { s with f13 := true, f14 := X }, prog _ ?_, ref _ ?_⟩
      · exact ⟨3, fun k hk => by
        obtain ⟨n, rfl⟩ : ∃ n, k = n + 3 := ⟨k - 3, by omega⟩
        dsimp only
        rw [peer_Peer_Request.j0, decide_eq_false c, Bool.not_false, cond_true, show (pg s).f18 = s.f17 from rfl, e17, cond_false, peer_Peer_Request.j1] <;> rfl⟩
      · exact ⟨3, fun k hk => by
        obtain ⟨n, rfl⟩ : ∃ n, k = n + 3 := ⟨k - 3, by omega⟩
        dsimp only
        rw [foliotref10_Peer_Request.j1, if_pos c, e17, cond_false, foliotref10_Peer_Request.j2, foliotref10_Peer_Request.j3] <;> rfl⟩
end Go.Proofs.Ytgbffggaifnalaa.V
