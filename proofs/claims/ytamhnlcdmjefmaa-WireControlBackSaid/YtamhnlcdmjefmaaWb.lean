/- Plain lemmas on the printed functions: whole numbers and lists, no program in sight. -/
import Derived.Test.YtamhnlcdmjefmaaWa
import Derived.Laws.BitsLemmas
namespace Go.Proofs.Ytamhnlcdmjefmaa.Q
open Go Go.RowKit Go.Proofs.Ytamhnlcdmjefmaa.Ev
set_option linter.unusedVariables false
set_option linter.unusedSimpArgs false
set_option maxRecDepth 100000
/-! ### a packet's message -/
def shortV (d : Int) : Int := if d ≤ 0 then 0 else if d > 281474976645120 then 4294967295 else (d + 65535) / 65536
theorem shortV_rng (d : Int) : 0 ≤ shortV d ∧ shortV d < 4294967296 := by
  unfold shortV; (repeat' split) <;> omega
theorem short_back (x : Int) (h0 : 0 ≤ x) (h1 : x < 4294967296) : shortV (x * 65536) = x := by
  unfold shortV; (repeat' split) <;> omega
theorem toShort_val (d : Int) : stamp_ToShort.f d = some (shortV d) := by
  unfold stamp_ToShort.f shortV
  by_cases c : d ≤ 0
  · rw [if_pos c, if_pos c]
  · rw [if_neg c, if_neg c]
    by_cases e : d > 281474976645120
    · rw [if_pos e, if_pos e]
    · rw [if_neg e, if_neg e, w64_in (n := d + 65536) (by omega) (by omega), w64_in (n := d + 65536 - 1) (by omega) (by omega)]
      congr 1; omega
theorem fromShort_val (x : Int) (h0 : 0 ≤ x) (h1 : x < 4294967296) : stamp_FromShort.f x = some (x * 65536) := by
  unfold stamp_FromShort.f; rw [w64_in (n := x) (by omega) (by omega), w64_in (by omega) (by omega)]
theorem rfromShort_val (x : Int) (h0 : 0 ≤ x) (h1 : x < 4294967296) : foliotref02_FromShort.f x = some (x * 65536) := by
  unfold foliotref02_FromShort.f; rw [w64_in (n := x) (by omega) (by omega), w64_in (by omega) (by omega)]
theorem head_all : ∀ a : Fin 4, ∀ b : Fin 4, ∀ c : Fin 5, (Go.bits .or .i64 (Go.bits .or .i64 ((a.val : Int) * 64) (((b.val : Int) + 1) * 8)) ((c.val : Int) + 1)) % 256 = (a.val : Int) * 64 + ((b.val : Int) + 1) * 8 + ((c.val : Int) + 1) := by decide +kernel
theorem head_val (p0 p1 p2 : Int) (h0 : 0 ≤ p0 ∧ p0 ≤ 3) (h1 : 1 ≤ p1 ∧ p1 ≤ 4) (h2 : 1 ≤ p2 ∧ p2 ≤ 5) :
    (Go.bits .or .i64 (Go.bits .or .i64 (wrap64 (p0 * 64)) (wrap64 (p1 * 8))) p2) % 256 = p0 * 64 + p1 * 8 + p2 := by
  rw [w64_in (n := p0 * 64) (by omega) (by omega), w64_in (n := p1 * 8) (by omega) (by omega)]
  have h := head_all ⟨p0.toNat, by omega⟩ ⟨(p1 - 1).toNat, by omega⟩ ⟨(p2 - 1).toNat, by omega⟩
  simp only [show ((p0.toNat : Nat) : Int) = p0 by omega, show (((p1 - 1).toNat : Nat) : Int) = p1 - 1 by omega, show (((p2 - 1).toNat : Nat) : Int) = p2 - 1 by omega, show p1 - 1 + 1 = p1 by omega, show p2 - 1 + 1 = p2 by omega] at h
  exact h
theorem small_rng {p0 p1 p2 p3 p4 p5 p6 p7 : Int} (h : smallOk p0 p1 p2 p3 p4 p5 p6 p7 = true) : (0 ≤ p0 ∧ p0 ≤ 3) ∧ (1 ≤ p1 ∧ p1 ≤ 4) ∧ (1 ≤ p2 ∧ p2 ≤ 5) ∧ (0 ≤ p3 ∧ p3 ≤ 255) ∧ (-128 ≤ p4 ∧ p4 ≤ 127) ∧ (-128 ≤ p5 ∧ p5 ≤ 127) ∧ (0 ≤ p6 ∧ p6 ≤ 281474976645120) ∧ 0 ≤ p7 ∧ p7 ≤ 281474976645120 := by
  have := of_decide_eq_true h
  omega
def extB (x : S45) : List Int := B2 x.f0 ++ (B2 ((x.f1.length : Int) + 4) ++ x.f1)
def extsB : List S45 → List Int
  | [] => []
  | x :: l => extB x ++ extsB l
theorem extB_len (x : S45) : ((extB x).length : Int) = 4 + (x.f1.length : Int) := by
  unfold extB
  simp only [List.length_append, len2]
  omega
theorem extsB_len : ∀ l : List S45, ((extsB l).length : Int) = extsN l
  | [] => rfl
  | x :: l => by
    rw [extsB, extsN, List.length_append, Int.natCast_add, extB_len, extsB_len l]
theorem extsN_0 : ∀ l : List S45, 0 ≤ extsN l
  | [] => by simp [extsN]
  | x :: l => by have := extsN_0 l; rw [extsN]; omega
def fixB (p0 p1 p2 p3 p4 p5 p6 p7 p8 p9 p10 p11 p12 : Int) : List Int :=
  [p0 * 64 + p1 * 8 + p2, p3 % 256, p4 % 256, p5 % 256] ++ B4 (shortV p6) ++ B4 (shortV p7) ++ B4 p8 ++ B8 p9 ++ B8 p10 ++ B8 p11 ++ B8 p12
theorem fixB_len (p0 p1 p2 p3 p4 p5 p6 p7 p8 p9 p10 p11 p12 : Int) : (fixB p0 p1 p2 p3 p4 p5 p6 p7 p8 p9 p10 p11 p12).length = 48 := rfl
/-- The extension fields, from the place i on. -/
theorem msg_exts (l : List S45) (hl : l.length ≤ 4) (hx : ∀ x ∈ l, (x.f1.length : Int) ≤ 508 ∧ extOk x = true) :
    ∀ (m i : Nat) (b : List Int), i + m = l.length → b.length ≤ 48 + 512 * i →
    Ev (fun k => wire_Message.l2 k l (l.length : Int) (i : Int) b) (0, b ++ extsB (l.drop i))
  | 0, i, b, hi, hb => by
    rw [List.drop_of_length_le (by omega), extsB, List.append_nil]
    refine Ev.succ fun k => ?_
    rw [wire_Message.l2, if_neg (by omega)]
  | m + 1, i, b, hi, hb => by
    have hlt : i < l.length := by omega
    have e : l.drop i = l[i] :: l.drop (i + 1) := List.drop_eq_getElem_cons hlt
    obtain ⟨hxi, ho⟩ := hx l[i] (List.getElem_mem hlt)
    have ho := (ext_dec _).1 ho
    have ha := ext_at l i hlt
    have hwl : wrap64 (((l[i]).f1.length : Int) + 4) = ((l[i]).f1.length : Int) + 4 := w64_in (by omega) (by omega)
    have e1 : (b ++ B2 (l[i]).f0).length = b.length + 2 := by rw [List.length_append, len2]
    have e2 : (b ++ B2 (l[i]).f0 ++ B2 (((l[i]).f1.length : Int) + 4)).length = b.length + 4 := by rw [List.length_append, e1, len2]
    have e3 : (b ++ B2 (l[i]).f0 ++ B2 (((l[i]).f1.length : Int) + 4) ++ (l[i]).f1).length = b.length + 4 + (l[i]).f1.length := by rw [List.length_append, e2]
    have ih := msg_exts l hl hx m (i + 1) (b ++ B2 (l[i]).f0 ++ B2 (((l[i]).f1.length : Int) + 4) ++ (l[i]).f1) (by omega) (by rw [e3]; omega)
    refine Ev.step (fun k => by rw [wire_Message.l2, if_pos (by omega), if_pos (by omega), if_pos (by omega), ha, hwl, wrap_succ i (by omega), u64_in (n := (l[i]).f0) (by omega) (by omega), u64_in (n := _ + 4) (by omega) (by omega)]) ?_
    refine Ev.bind (ev_put2 _ b (by unfold room; omega)) (Ev.bind (ev_put2 _ _ (by unfold room; omega)) ?_)
    refine Ev.congr (fun k => by rw [if_pos (by rw [e2]; omega)]) ?_
    rw [e, extsB, extB]
    simpa only [List.append_assoc] using ih
theorem msg_r0 (i : Nat) (hi : i < 3) (p0 p1 p2 p3 p4 p5 p6 p7 p8 p9 p10 p11 p12 : Int) (l : List S45) (id : Int) (nak : Bool) (mac : List Int) (u v w n : Int) (b : List Int) (r) (hb : b.length ≤ 48) (hn : IntKind.u64.wrap (rd [u, v, w] (i : Int)) = n)
    (h : Ev (fun k => wire_Message.l0 k u v w ((i + 1 : Nat) : Int) p0 p1 p2 p3 p4 p5 p6 p7 p8 p9 p10 p11 p12 l id nak mac (b ++ B4 n)) r) :
    Ev (fun k => wire_Message.l0 k u v w (i : Int) p0 p1 p2 p3 p4 p5 p6 p7 p8 p9 p10 p11 p12 l id nak mac b) r := by
  refine Ev.step (fun k => by rw [wire_Message.l0, if_pos (by omega), if_pos (by omega), if_pos (by omega), hn, wrap_succ i (by omega)]) ?_
  exact Ev.bind (ev_put4 n b (by unfold room; omega)) h
theorem msg_r1 (i : Nat) (hi : i < 4) (p0 p1 p2 p3 p4 p5 p6 p7 p8 p9 p10 p11 p12 : Int) (l : List S45) (id : Int) (nak : Bool) (mac : List Int) (u v w x n : Int) (b : List Int) (r) (hb : b.length ≤ 48) (hn : rd [u, v, w, x] (i : Int) = n)
    (h : Ev (fun k => wire_Message.l1 k u v w x ((i + 1 : Nat) : Int) p0 p1 p2 p3 p4 p5 p6 p7 p8 p9 p10 p11 p12 l id nak mac (b ++ B8 n)) r) :
    Ev (fun k => wire_Message.l1 k u v w x (i : Int) p0 p1 p2 p3 p4 p5 p6 p7 p8 p9 p10 p11 p12 l id nak mac b) r := by
  refine Ev.step (fun k => by rw [wire_Message.l1, if_pos (by omega), if_pos (by omega), if_pos (by omega), hn, wrap_succ i (by omega)]) ?_
  exact Ev.bind (ev_put8 n b (by unfold room; omega)) h
def msgB (p0 p1 p2 p3 p4 p5 p6 p7 p8 p9 p10 p11 p12 : Int) (l : List S45) : List Int := fixB p0 p1 p2 p3 p4 p5 p6 p7 p8 p9 p10 p11 p12 ++ extsB l
theorem msgB_len (p0 p1 p2 p3 p4 p5 p6 p7 p8 p9 p10 p11 p12 : Int) (l : List S45) : ((msgB p0 p1 p2 p3 p4 p5 p6 p7 p8 p9 p10 p11 p12 l).length : Int) = 48 + extsN l := by
  unfold msgB; rw [List.length_append, Int.natCast_add, extsB_len, fixB_len]; rfl
theorem ev_message (p0 p1 p2 p3 p4 p5 p6 p7 p8 p9 p10 p11 p12 : Int) (l : List S45) (id : Int) (nak : Bool) (mac : List Int) (hm : (mac.length : Int) ≤ 140737488351232) (h8 : 0 ≤ p8 ∧ p8 < 4294967296) (h : Good p0 p1 p2 p3 p4 p5 p6 p7 l id nak mac) :
    Ev (fun k => wire_Message.f k p0 p1 p2 p3 p4 p5 p6 p7 p8 p9 p10 p11 p12 l id nak mac) (0, msgB p0 p1 p2 p3 p4 p5 p6 p7 p8 p9 p10 p11 p12 l) := by
  obtain ⟨r0, r1, r2, r3, r4, r5, r6, r7⟩ := small_rng h.small
  unfold wire_Message.f
  refine Ev.bind (ev_check p0 p1 p2 p3 p4 p5 p6 p7 p8 p9 p10 p11 p12 l id nak mac hm) ?_
  rw [chk_of h]
  simp only [not_true_eq_false, if_false, toShort_val, bsome]
  rw [head_val p0 p1 p2 r0 r1 r2]
  have s6 := shortV_rng p6
  have s7 := shortV_rng p7
  refine msg_r0 0 (by decide) p0 p1 p2 p3 p4 p5 p6 p7 p8 p9 p10 p11 p12 l id nak mac _ _ _ (shortV p6) _ _ (by simp) (u64_in (n := shortV p6) (by omega) (by omega)) ?_
  refine msg_r0 1 (by decide) p0 p1 p2 p3 p4 p5 p6 p7 p8 p9 p10 p11 p12 l id nak mac _ _ _ (shortV p7) _ _ (by simp [len4]) (u64_in (n := shortV p7) (by omega) (by omega)) ?_
  refine msg_r0 2 (by decide) p0 p1 p2 p3 p4 p5 p6 p7 p8 p9 p10 p11 p12 l id nak mac _ _ _ p8 _ _ (by simp [len4]) (u64_in (n := p8) (by omega) (by omega)) ?_
  refine Ev.step (fun k => by rw [wire_Message.l0, if_neg (by decide)]) ?_
  refine msg_r1 0 (by decide) p0 p1 p2 p3 p4 p5 p6 p7 p8 p9 p10 p11 p12 l id nak mac _ _ _ _ p9 _ _ (by simp [len4]) rfl ?_
  refine msg_r1 1 (by decide) p0 p1 p2 p3 p4 p5 p6 p7 p8 p9 p10 p11 p12 l id nak mac _ _ _ _ p10 _ _ (by simp [len4, len8]) rfl ?_
  refine msg_r1 2 (by decide) p0 p1 p2 p3 p4 p5 p6 p7 p8 p9 p10 p11 p12 l id nak mac _ _ _ _ p11 _ _ (by simp [len4, len8]) rfl ?_
  refine msg_r1 3 (by decide) p0 p1 p2 p3 p4 p5 p6 p7 p8 p9 p10 p11 p12 l id nak mac _ _ _ _ p12 _ _ (by simp [len4, len8]) rfl ?_
  refine Ev.step (fun k => by rw [wire_Message.l1, if_neg (by decide)]) ?_
  exact msg_exts l h.few h.exts l.length 0 (fixB p0 p1 p2 p3 p4 p5 p6 p7 p8 p9 p10 p11 p12) (by omega) (by rw [fixB_len]; omega)
theorem ev_message_bad (p0 p1 p2 p3 p4 p5 p6 p7 p8 p9 p10 p11 p12 : Int) (l : List S45) (id : Int) (nak : Bool) (mac : List Int) (hm : (mac.length : Int) ≤ 140737488351232) (h : ¬ chkV p0 p1 p2 p3 p4 p5 p6 p7 l id nak mac = 0) :
    Ev (fun k => wire_Message.f k p0 p1 p2 p3 p4 p5 p6 p7 p8 p9 p10 p11 p12 l id nak mac) (chkV p0 p1 p2 p3 p4 p5 p6 p7 l id nak mac, ([] : List Int)) := by
  unfold wire_Message.f
  refine Ev.bind (ev_check p0 p1 p2 p3 p4 p5 p6 p7 p8 p9 p10 p11 p12 l id nak mac hm) ?_
  exact Ev.congr (fun k => by rw [if_pos h]) (Ev.now _)
def tailB (id : Int) (nak : Bool) (mac : List Int) : List Int := if id = 0 ∧ nak = false then [] else B4 id ++ mac
def encB (p0 p1 p2 p3 p4 p5 p6 p7 p8 p9 p10 p11 p12 : Int) (l : List S45) (id : Int) (nak : Bool) (mac : List Int) : List Int := msgB p0 p1 p2 p3 p4 p5 p6 p7 p8 p9 p10 p11 p12 l ++ tailB id nak mac
theorem trail_mac {id : Int} {mac : List Int} (h : trailOk id mac = true) : (id = 0 ∧ mac = []) ∨ (1 ≤ id ∧ id ≤ 65535 ∧ (mac.length = 16 ∨ mac.length = 20)) := by
  unfold trailOk at h
  split at h
  · rename_i c
    have := of_decide_eq_true h
    exact .inl ⟨c, List.length_eq_zero_iff.1 (by omega)⟩
  · have := of_decide_eq_true h
    exact .inr ⟨this.1, this.2.1, by omega⟩
theorem ev_encode (p0 p1 p2 p3 p4 p5 p6 p7 p8 p9 p10 p11 p12 : Int) (l : List S45) (id : Int) (nak : Bool) (mac : List Int) (hm : (mac.length : Int) ≤ 140737488351232) (h8 : 0 ≤ p8 ∧ p8 < 4294967296) (h : Good p0 p1 p2 p3 p4 p5 p6 p7 l id nak mac) :
    Ev (fun k => wire_Encode.f k p0 p1 p2 p3 p4 p5 p6 p7 p8 p9 p10 p11 p12 l id nak mac) (0, encB p0 p1 p2 p3 p4 p5 p6 p7 p8 p9 p10 p11 p12 l id nak mac) := by
  unfold wire_Encode.f encB tailB
  refine Ev.bind (ev_message p0 p1 p2 p3 p4 p5 p6 p7 p8 p9 p10 p11 p12 l id nak mac hm h8 h) ?_
  have hl := msgB_len p0 p1 p2 p3 p4 p5 p6 p7 p8 p9 p10 p11 p12 l
  have hs := h.size
  have htr := trail_rng h.trail
  have hmc := trail_mac h.trail
  have hsz : (msgB p0 p1 p2 p3 p4 p5 p6 p7 p8 p9 p10 p11 p12 l).length ≤ 512 := by
    have : 0 ≤ (if nak = true then (4 : Int) else trailLen id mac) := by split <;> omega
    omega
  have hmac : mac.length ≤ 20 := by
    rcases hmc with ⟨_, rfl⟩ | ⟨_, _, h⟩
    · exact Nat.zero_le _
    · omega
  generalize msgB p0 p1 p2 p3 p4 p5 p6 p7 p8 p9 p10 p11 p12 l = b at hsz hl ⊢
  have put : ∀ n : Int, 0 ≤ n → n ≤ 65535 → Ev (fun k => (wire_laid_put.f k (IntKind.u64.wrap n) 4 b).bind fun t => (if (2 * (t.length + mac.length) + 200) * 2 ≤ 281474976710656 then (some ((0 : Int), (t ++ mac))) else none)) (0, b ++ (B4 n ++ mac)) := by
    intro n n0 n1
    rw [u64_in (n := n) (by omega) (by omega), ← List.append_assoc]
    refine Ev.bind (ev_put4 n b (by unfold room; omega)) ?_
    exact Ev.congr (fun k => by rw [if_pos (by rw [List.length_append, len4]; omega)]) (Ev.now _)
  simp only [not_true_eq_false, if_false]
  by_cases c : id = 0
  · cases nak with
    | true =>
      have := put id (by omega) (by omega)
      simp only [c, if_true, Bool.not_true, cond_false, Bool.true_eq_false, and_false, if_false]
      rw [c] at this
      exact this
    | false =>
      simp only [c, if_true, Bool.not_false, cond_true, and_self, List.append_nil]
      exact Ev.now _
  · have := put id (by omega) (by omega)
    simp only [c, if_false, false_and]
    exact this
theorem ev_encode_bad (p0 p1 p2 p3 p4 p5 p6 p7 p8 p9 p10 p11 p12 : Int) (l : List S45) (id : Int) (nak : Bool) (mac : List Int) (hm : (mac.length : Int) ≤ 140737488351232) (h : ¬ chkV p0 p1 p2 p3 p4 p5 p6 p7 l id nak mac = 0) :
    Ev (fun k => wire_Encode.f k p0 p1 p2 p3 p4 p5 p6 p7 p8 p9 p10 p11 p12 l id nak mac) (chkV p0 p1 p2 p3 p4 p5 p6 p7 l id nak mac, ([] : List Int)) := by
  unfold wire_Encode.f
  refine Ev.bind (ev_message_bad p0 p1 p2 p3 p4 p5 p6 p7 p8 p9 p10 p11 p12 l id nak mac hm h) ?_
  exact Ev.congr (fun k => by rw [if_pos h]) (Ev.now _)
theorem heavy_loop (p0 p1 p2 p3 p4 p5 p6 p7 p8 p9 p10 p11 p12 : Int) (l : List S45) (id : Int) (nak : Bool) (mac : List Int) (hlen : (l.length : Int) ≤ 140737488351232) :
    ∀ (m i : Nat) (s : Int), i + m = l.length → 0 ≤ s → s ≤ 1152921504606846976 → ∃ b, Ev (fun k => foliotlaw03_heavy.l0 k s (i : Int) p0 p1 p2 p3 p4 p5 p6 p7 p8 p9 p10 p11 p12 l id nak mac) b
  | 0, i, s, hi, h0, hs => ⟨decide (s > 65536), Ev.succ fun k => by rw [foliotlaw03_heavy.l0, if_neg (by omega)]⟩
  | m + 1, i, s, hi, h0, hs => by
    by_cases c : s ≤ 65536
    · have hmn := mn_len ((rdOf z_S45 l (i : Int)).f1.length) 1048576 (by decide)
      have hws : wrap64 (s + mn ((rdOf z_S45 l (i : Int)).f1.length : Int) 1048576) = s + mn ((rdOf z_S45 l (i : Int)).f1.length : Int) 1048576 := w64_in (by omega) (by omega)
      obtain ⟨b, hb⟩ := heavy_loop p0 p1 p2 p3 p4 p5 p6 p7 p8 p9 p10 p11 p12 l id nak mac hlen m (i + 1) (s + mn ((rdOf z_S45 l (i : Int)).f1.length : Int) 1048576) (by omega) (by omega) (by omega)
      refine ⟨b, Ev.step (fun k => ?_) hb⟩
      rw [foliotlaw03_heavy.l0, if_pos (by omega), if_pos c, if_pos (by omega), if_pos (by omega), hws, wrap_succ i (by omega)]
    · exact ⟨decide (s > 65536), Ev.succ fun k => by rw [foliotlaw03_heavy.l0, if_pos (by omega), if_neg c]⟩
theorem ev_heavy (p0 p1 p2 p3 p4 p5 p6 p7 p8 p9 p10 p11 p12 : Int) (l : List S45) (id : Int) (nak : Bool) (mac : List Int) (hlen : (l.length : Int) ≤ 140737488351232) (hm : (mac.length : Int) ≤ 140737488351232) :
    ∃ b, Ev (fun k => foliotlaw03_heavy.f k p0 p1 p2 p3 p4 p5 p6 p7 p8 p9 p10 p11 p12 l id nak mac) b := by
  unfold foliotlaw03_heavy.f
  have hmn := mn_len mac.length 1048576 (by decide)
  rw [w64_in (n := (l.length : Int) + mn (mac.length : Int) 1048576) (by omega) (by omega)]
  exact heavy_loop p0 p1 p2 p3 p4 p5 p6 p7 p8 p9 p10 p11 p12 l id nak mac hlen l.length 0 _ (by omega) (by omega) (by omega)
theorem mode_all : ∀ a : Fin 256, Go.bits .and .u8 (a.val : Int) 7 = (a.val : Int) % 8 := by decide +kernel
theorem and7 (x : Int) (h : 0 ≤ x ∧ x < 256) : Go.bits .and .u8 x 7 = x % 8 := by
  have := mode_all ⟨x.toNat, by omega⟩
  simpa only [show ((x.toNat : Nat) : Int) = x by omega] using this
theorem mode_val (c : Int) (l : List Int) (h : 0 ≤ c ∧ c < 256) : wire_Mode.f (c :: l) = some (c % 8) := by
  unfold wire_Mode.f
  rw [if_neg (by simp only [List.length_cons]; omega), if_pos (by simp only [List.length_cons]; omega)]
  have e : rd (c :: l) 0 = c := rfl
  rw [e, and7 c h, w64_in (by omega) (by omega)]
theorem fixB_cons (p0 p1 p2 p3 p4 p5 p6 p7 p8 p9 p10 p11 p12 : Int) : ∃ t, fixB p0 p1 p2 p3 p4 p5 p6 p7 p8 p9 p10 p11 p12 = (p0 * 64 + p1 * 8 + p2) :: t := ⟨_, rfl⟩
end Go.Proofs.Ytamhnlcdmjefmaa.Q
