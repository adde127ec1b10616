/- What is to be proved of SystemReplies. -/
import Derived.Test.YtbcdoncnhhjjeaaDQ
import Derived.Test.YtbcdoncnhhjjeaaRe
namespace Go.Proofs.Ytbcdoncnhhjjeaa.Q
open Go Go.RowKit Go.Proofs.Ytbcdoncnhhjjeaa.Ev
set_option linter.unusedVariables false
set_option linter.unusedSimpArgs false
set_option maxRecDepth 100000
def okS94 (x : S94) : Prop := (Lit.int .i64 x.f0).wf = true ∧ (x.f1.length ≤ 9223372036854775807 ∧ x.f1.length * 1 ≤ 140737488351232 ∧ ∀ y ∈ x.f1, (Lit.int .u8 y).wf = true)
namespace Pure
theorem SystemReplies (a0_0 : Int) (a0_1 : Int) (a0_2 : Int) (a0_3 : Int) (a0_4 : Int) (a0_5 : Int) (a0_6 : Int) (a0_7 : Int) (a0_8 : Int) (a0_9 : Int) (a0_10 : Int) (a1_0 : Int) (a1_1 : Int) (a1_2 : Int) (a1_3 : Int) (a1_4 : Int) (a1_5 : Int) (a1_6 : Int) (a1_7 : Int) (a1_8 : Int) (a1_9 : Int) (a1_10 : Int) (a1_11 : Int) (a1_12 : Int) (a1_13 : List S94) (a1_14 : Int) (a1_15 : Bool) (a1_16 : List Int) (a2 : Int) (a3 : Int) (h0 : (Lit.int .i64 a0_0).wf = true) (h1 : (Lit.int .i64 a0_1).wf = true) (h2 : (Lit.int .i64 a0_2).wf = true) (h3 : (Lit.int .i64 a0_3).wf = true) (h4 : (Lit.int .i64 a0_4).wf = true) (h5 : (Lit.int .u32 a0_5).wf = true) (h6 : (Lit.int .u64 a0_6).wf = true) (h7 : (Lit.int .i64 a0_7).wf = true) (h8 : (Lit.int .i64 a0_8).wf = true) (h9 : (Lit.int .i64 a0_9).wf = true) (h10 : (Lit.int .i64 a0_10).wf = true) (h11 : (Lit.int .i64 a1_0).wf = true) (h12 : (Lit.int .i64 a1_1).wf = true) (h13 : (Lit.int .i64 a1_2).wf = true) (h14 : (Lit.int .i64 a1_3).wf = true) (h15 : (Lit.int .i64 a1_4).wf = true) (h16 : (Lit.int .i64 a1_5).wf = true) (h17 : (Lit.int .i64 a1_6).wf = true) (h18 : (Lit.int .i64 a1_7).wf = true) (h19 : (Lit.int .u32 a1_8).wf = true) (h20 : (Lit.int .u64 a1_9).wf = true) (h21 : (Lit.int .u64 a1_10).wf = true) (h22 : (Lit.int .u64 a1_11).wf = true) (h23 : (Lit.int .u64 a1_12).wf = true) (h24 : (a1_13.length ≤ 9223372036854775807 ∧ a1_13.length * 32 ≤ 140737488351232 ∧ ∀ x ∈ a1_13, okS94 x)) (h25 : (Lit.int .i64 a1_14).wf = true) (h26 : (a1_16.length ≤ 9223372036854775807 ∧ a1_16.length * 1 ≤ 140737488351232 ∧ ∀ x ∈ a1_16, (Lit.int .u8 x).wf = true)) (h27 : (Lit.int .u64 a2).wf = true) (h28 : (Lit.int .u64 a3).wf = true) : ∃ k, foliotlaw17_SystemReplies.f k a0_0 a0_1 a0_2 a0_3 a0_4 a0_5 a0_6 a0_7 a0_8 a0_9 a0_10 a1_0 a1_1 a1_2 a1_3 a1_4 a1_5 a1_6 a1_7 a1_8 a1_9 a1_10 a1_11 a1_12 a1_13 a1_14 a1_15 a1_16 a2 a3 = some true := by
  have h4 := wf64 h4
  have h5 : 0 ≤ a0_5 ∧ a0_5 ≤ 4294967295 := by
    simpa [Lit.wf, IntKind.min, IntKind.max, IntKind.signed, IntKind.bits] using h5
  refine Ev.rounds (r := true) ?_
  unfold foliotlaw17_SystemReplies.f
  by_cases hm : a1_2 = 3 ∨ a1_2 = 1
  · refine Ev.bind (ev_reply a0_0 a0_1 a0_2 a0_3 a0_4 a0_5 a0_6 a0_7 a0_8 a0_9 a0_10 a1_0 a1_1 a1_2 a1_3 a1_4 a1_5 a1_6 a1_7 a1_8 a1_9 a1_10 a1_11 a1_12 a1_13 a1_14 a1_15 a1_16 a2 a3 hm h4.1 h4.2) (Ev.bind (ref_reply a0_0 a0_1 a0_2 a0_3 a0_4 a0_5 a0_6 a0_7 a0_8 a0_9 a0_10 a1_0 a1_1 a1_2 a1_3 a1_4 a1_5 a1_6 a1_7 a1_8 a1_9 a1_10 a1_11 a1_12 a1_13 a1_14 a1_15 a1_16 a2 a3 hm h4.1 h4.2) ?_)
    unfold replyV
    dsimp only
    have e0 := and3_rng a0_0
    have e1 : 1 ≤ mn (mx a1_1 1) 4 ∧ mn (mx a1_1 1) 4 ≤ 4 := by
      unfold mn mx
      (repeat' split) <;> omega
    have e2 : 1 ≤ replyMode a1_2 ∧ replyMode a1_2 ≤ 5 := by
      unfold replyMode; split <;> omega
    have e3 : 0 ≤ replyStratum a0_1 ∧ replyStratum a0_1 ≤ 255 := by
      unfold replyStratum
      (repeat' split) <;> omega
    have e4 : -128 ≤ mn (mx a1_4 (-128)) 127 ∧ mn (mx a1_4 (-128)) 127 ≤ 127 := by
      unfold mn mx
      (repeat' split) <;> omega
    have e6 : ∀ x, 0 ≤ mx (mn x 281474976645120) 0 ∧ mx (mn x 281474976645120) 0 ≤ 281474976645120 := by
      intro x
      unfold mn mx
      (repeat' split) <;> omega
    have e6a := e6 a0_3
    have e6b := e6 (ageVal a0_4 a0_6 a3)
    generalize Go.bits .and .i64 a0_0 3 = p0 at *
    generalize mn (mx a1_1 1) 4 = p1 at *
    generalize replyMode a1_2 = p2 at *
    generalize replyStratum a0_1 = p3 at *
    generalize mn (mx a1_4 (-128)) 127 = p4 at *
    generalize mx (mn a0_3 281474976645120) 0 = p6 at *
    generalize mx (mn (ageVal a0_4 a0_6 a3) 281474976645120) 0 = p7 at *
    generalize mx a3 1 = p12 at *
    refine Ev.congr (f := fun k => (wire_Encode.f k p0 p1 p2 p3 p4 (-20) p6 p7 a0_5 a0_6 a1_12 a2 p12 0 false).bind fun t3 => if t3.1 = 0 then some (decide ((t3.2.length : Int) = 48)) else some false) (fun k => by rw [same_self]; rfl) ?_
    refine Ev.bind (ev_encode p0 p1 p2 p3 p4 (-20) p6 p7 a0_5 a0_6 a1_12 a2 p12 ⟨h5.1, by omega⟩ e0 e1 e2 e3 e4 (by decide) e6a e6b) ?_
    exact Ev.congr (fun k => by rw [if_pos rfl, fixB_len]; rfl) (Ev.now _)
  · refine Ev.bind (reply_none a0_0 a0_1 a0_2 a0_3 a0_4 a0_5 a0_6 a0_7 a0_8 a0_9 a0_10 a1_0 a1_1 a1_2 a1_3 a1_4 a1_5 a1_6 a1_7 a1_8 a1_9 a1_10 a1_11 a1_12 a1_13 a1_14 a1_15 a1_16 a2 a3 hm) (Ev.bind (ref_none a0_0 a0_1 a0_2 a0_3 a0_4 a0_5 a0_6 a0_7 a0_8 a0_9 a0_10 a1_0 a1_1 a1_2 a1_3 a1_4 a1_5 a1_6 a1_7 a1_8 a1_9 a1_10 a1_11 a1_12 a1_13 a1_14 a1_15 a1_16 a2 a3 hm) ?_)
    exact Ev.congr (fun k => by kernel_rfl) (Ev.now true)
end Pure
end Go.Proofs.Ytbcdoncnhhjjeaa.Q
