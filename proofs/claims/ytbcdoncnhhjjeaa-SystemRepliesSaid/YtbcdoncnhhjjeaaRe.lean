/- Plain lemmas on the printed functions: whole numbers, no program in sight. -/
import Derived.Test.YtbcdoncnhhjjeaaRd
import Derived.Laws.BitsLemmas
namespace Go.Proofs.Ytbcdoncnhhjjeaa.Q
open Go Go.RowKit Go.Proofs.Ytbcdoncnhhjjeaa.Ev
set_option linter.unusedVariables false
set_option linter.unusedSimpArgs false
set_option maxRecDepth 100000
/-! ### the reply, laid as bytes -/
def B4 (n : Int) : List Int := [n / 16777216 % 256, n / 65536 % 256, n / 256 % 256, n % 256]
def B8 (n : Int) : List Int := [n / 72057594037927936 % 256, n / 281474976710656 % 256, n / 1099511627776 % 256, n / 4294967296 % 256, n / 16777216 % 256, n / 65536 % 256, n / 256 % 256, n % 256]
theorem len4 (n : Int) : (B4 n).length = 4 := rfl
theorem len8 (n : Int) : (B8 n).length = 8 := rfl
theorem wrap_succ (i : Nat) (h : (i : Int) < 9223372036854775807) : wrap64 ((i : Int) + 1) = ((i + 1 : Nat) : Int) := by
  rw [w64_in (by omega) (by omega)]; rfl
def pb (n : Int) (i : Int) : Int := (shr .u64 n (IntKind.u64.wrap (wrap64 (56 - (wrap64 (8 * i)))))) % 256
def room (n : Nat) : Prop := n ≤ 1000000000000
theorem put_rounds (n size : Int) (e0 r : List Int) (h : Ev (fun k => wire_laid_put.l0 k n size 8 e0 (pb n 0) (pb n 1) (pb n 2) (pb n 3) (pb n 4) (pb n 5) (pb n 6) (pb n 7)) r) : Ev (fun k => wire_laid_put.f k n size e0) r := by
  unfold wire_laid_put.f
  refine Ev.step (f := fun k => wire_laid_put.l0 k n size 1 e0 (pb n 0) 0 0 0 0 0 0 0) (fun k => by kernel_rfl) ?_
  refine Ev.step (f := fun k => wire_laid_put.l0 k n size 2 e0 (pb n 0) (pb n 1) 0 0 0 0 0 0) (fun k => by kernel_rfl) ?_
  refine Ev.step (f := fun k => wire_laid_put.l0 k n size 3 e0 (pb n 0) (pb n 1) (pb n 2) 0 0 0 0 0) (fun k => by kernel_rfl) ?_
  refine Ev.step (f := fun k => wire_laid_put.l0 k n size 4 e0 (pb n 0) (pb n 1) (pb n 2) (pb n 3) 0 0 0 0) (fun k => by kernel_rfl) ?_
  refine Ev.step (f := fun k => wire_laid_put.l0 k n size 5 e0 (pb n 0) (pb n 1) (pb n 2) (pb n 3) (pb n 4) 0 0 0) (fun k => by kernel_rfl) ?_
  refine Ev.step (f := fun k => wire_laid_put.l0 k n size 6 e0 (pb n 0) (pb n 1) (pb n 2) (pb n 3) (pb n 4) (pb n 5) 0 0) (fun k => by kernel_rfl) ?_
  refine Ev.step (f := fun k => wire_laid_put.l0 k n size 7 e0 (pb n 0) (pb n 1) (pb n 2) (pb n 3) (pb n 4) (pb n 5) (pb n 6) 0) (fun k => by kernel_rfl) ?_
  exact Ev.step (f := fun k => wire_laid_put.l0 k n size 8 e0 (pb n 0) (pb n 1) (pb n 2) (pb n 3) (pb n 4) (pb n 5) (pb n 6) (pb n 7)) (fun k => by kernel_rfl) h
theorem pbs (n : Int) : pb n 0 = n / 72057594037927936 % 256 ∧ pb n 1 = n / 281474976710656 % 256 ∧ pb n 2 = n / 1099511627776 % 256 ∧ pb n 3 = n / 4294967296 % 256 ∧ pb n 4 = n / 16777216 % 256 ∧ pb n 5 = n / 65536 % 256 ∧ pb n 6 = n / 256 % 256 ∧ pb n 7 = n % 256 := by
  have s (i : Int) (m : Nat) (e : IntKind.u64.wrap (wrap64 (56 - (wrap64 (8 * i)))) = (m : Int)) (hm : m ≤ 64) : pb n i = n / 2 ^ m % 256 := by
    unfold pb; rw [e, shr_eq .u64 rfl n m hm]
  refine ⟨s 0 56 (by kernel_rfl) (by decide), s 1 48 (by kernel_rfl) (by decide), s 2 40 (by kernel_rfl) (by decide), s 3 32 (by kernel_rfl) (by decide), s 4 24 (by kernel_rfl) (by decide), s 5 16 (by kernel_rfl) (by decide), s 6 8 (by kernel_rfl) (by decide), ?_⟩
  rw [s 7 0 (by kernel_rfl) (by decide)]
  simp
theorem ev_put8 (n : Int) (e0 : List Int) (hr : room e0.length) : Ev (fun k => wire_laid_put.f k n 8 e0) (e0 ++ B8 n) := by
  unfold room at hr
  obtain ⟨p0, p1, p2, p3, p4, p5, p6, p7⟩ := pbs n
  refine put_rounds n 8 e0 _ (Ev.succ fun k => ?_)
  rw [wire_laid_put.l0, if_neg (by decide), if_pos (by decide +kernel), if_pos (by decide +kernel), if_pos, p0, p1, p2, p3, p4, p5, p6, p7]
  · kernel_rfl
  · have e : (List.take (8 - wrap64 (8 - 8)).toNat (List.drop (wrap64 (8 - 8)).toNat [pb n 0, pb n 1, pb n 2, pb n 3, pb n 4, pb n 5, pb n 6, pb n 7])).length = 8 := by kernel_rfl
    rw [e]
    omega
theorem ev_put4 (n : Int) (e0 : List Int) (hr : room e0.length) : Ev (fun k => wire_laid_put.f k n 4 e0) (e0 ++ B4 n) := by
  unfold room at hr
  obtain ⟨p0, p1, p2, p3, p4, p5, p6, p7⟩ := pbs n
  refine put_rounds n 4 e0 _ (Ev.succ fun k => ?_)
  rw [wire_laid_put.l0, if_neg (by decide), if_pos (by decide +kernel), if_pos (by decide +kernel), if_pos, p0, p1, p2, p3, p4, p5, p6, p7]
  · kernel_rfl
  · have e : (List.take (8 - wrap64 (8 - 4)).toNat (List.drop (wrap64 (8 - 4)).toNat [pb n 0, pb n 1, pb n 2, pb n 3, pb n 4, pb n 5, pb n 6, pb n 7])).length = 4 := by kernel_rfl
    rw [e]
    omega
def shortV (d : Int) : Int := if d ≤ 0 then 0 else if d > 281474976645120 then 4294967295 else (d + 65535) / 65536
theorem shortV_rng (d : Int) : 0 ≤ shortV d ∧ shortV d < 4294967296 := by
  unfold shortV; (repeat' split) <;> omega
theorem short_back (x : Int) (h0 : 0 ≤ x) (h1 : x < 4294967296) : shortV (x * 65536) = x := by
  unfold shortV; (repeat' split) <;> omega
theorem toShort_val (d : Int) : stamp_ToShort.f d = some (shortV d) := by
  unfold stamp_ToShort.f shortV
  by_cases c : d ≤ 0
  · rw [if_pos c, if_pos c]
  · rw [if_neg c, if_neg c]
    by_cases e : d > 281474976645120
    · rw [if_pos e, if_pos e]
    · rw [if_neg e, if_neg e, w64_in (n := d + 65536) (by omega) (by omega), w64_in (n := d + 65536 - 1) (by omega) (by omega)]
      congr 1; omega
theorem head_all : ∀ a : Fin 4, ∀ b : Fin 4, ∀ c : Fin 5, (Go.bits .or .i64 (Go.bits .or .i64 ((a.val : Int) * 64) (((b.val : Int) + 1) * 8)) ((c.val : Int) + 1)) % 256 = (a.val : Int) * 64 + ((b.val : Int) + 1) * 8 + ((c.val : Int) + 1) := by decide +kernel
theorem head_val (p0 p1 p2 : Int) (h0 : 0 ≤ p0 ∧ p0 ≤ 3) (h1 : 1 ≤ p1 ∧ p1 ≤ 4) (h2 : 1 ≤ p2 ∧ p2 ≤ 5) :
    (Go.bits .or .i64 (Go.bits .or .i64 (wrap64 (p0 * 64)) (wrap64 (p1 * 8))) p2) % 256 = p0 * 64 + p1 * 8 + p2 := by
  rw [w64_in (n := p0 * 64) (by omega) (by omega), w64_in (n := p1 * 8) (by omega) (by omega)]
  have h := head_all ⟨p0.toNat, by omega⟩ ⟨(p1 - 1).toNat, by omega⟩ ⟨(p2 - 1).toNat, by omega⟩
  simp only [show ((p0.toNat : Nat) : Int) = p0 by omega, show (((p1 - 1).toNat : Nat) : Int) = p1 - 1 by omega, show (((p2 - 1).toNat : Nat) : Int) = p2 - 1 by omega, show p1 - 1 + 1 = p1 by omega, show p2 - 1 + 1 = p2 by omega] at h
  exact h
def fixB (p0 p1 p2 p3 p4 p5 p6 p7 p8 p9 p10 p11 p12 : Int) : List Int :=
  [p0 * 64 + p1 * 8 + p2, p3 % 256, p4 % 256, p5 % 256] ++ B4 (shortV p6) ++ B4 (shortV p7) ++ B4 p8 ++ B8 p9 ++ B8 p10 ++ B8 p11 ++ B8 p12
theorem fixB_len (p0 p1 p2 p3 p4 p5 p6 p7 p8 p9 p10 p11 p12 : Int) : (fixB p0 p1 p2 p3 p4 p5 p6 p7 p8 p9 p10 p11 p12).length = 48 := rfl
/-- The extension fields, from the place i on. -/
theorem fits_val (a b c : Int) (h0 : b ≤ a) (h1 : a ≤ c) : wire_fits.f a b c = some true := by
  unfold wire_fits.f
  rw [if_pos h0, decide_eq_true h1]
theorem small_ok (p0 p1 p2 p3 p4 p5 p6 p7 p8 p9 p10 p11 p12 id : Int) (nak : Bool) (h0 : 0 ≤ p0 ∧ p0 ≤ 3) (h1 : 1 ≤ p1 ∧ p1 ≤ 4) (h2 : 1 ≤ p2 ∧ p2 ≤ 5) (h3 : 0 ≤ p3 ∧ p3 ≤ 255) (h4 : -128 ≤ p4 ∧ p4 ≤ 127) (h5 : -128 ≤ p5 ∧ p5 ≤ 127) (h6 : 0 ≤ p6 ∧ p6 ≤ 281474976645120) (h7 : 0 ≤ p7 ∧ p7 ≤ 281474976645120) :
    wire_small.f p0 p1 p2 p3 p4 p5 p6 p7 p8 p9 p10 p11 p12 id nak = some true := by
  unfold wire_small.f
  rw [fromShort_most, bsome, fits_val p0 0 3 h0.1 h0.2, bsome, fits_val p1 1 4 h1.1 h1.2, fits_val p2 1 5 h2.1 h2.2, fits_val p3 0 255 h3.1 h3.2, fits_val p4 (-128) 127 h4.1 h4.2, fits_val p5 (-128) 127 h5.1 h5.2]
  simp only [bsome, cond_true]
  rw [if_pos h6.1, if_pos h6.2, if_pos h7.1, decide_eq_true h7.2]
theorem ev_check (p0 p1 p2 p3 p4 p5 p6 p7 p8 p9 p10 p11 p12 : Int) (h0 : 0 ≤ p0 ∧ p0 ≤ 3) (h1 : 1 ≤ p1 ∧ p1 ≤ 4) (h2 : 1 ≤ p2 ∧ p2 ≤ 5) (h3 : 0 ≤ p3 ∧ p3 ≤ 255) (h4 : -128 ≤ p4 ∧ p4 ≤ 127) (h5 : -128 ≤ p5 ∧ p5 ≤ 127) (h6 : 0 ≤ p6 ∧ p6 ≤ 281474976645120) (h7 : 0 ≤ p7 ∧ p7 ≤ 281474976645120) :
    Ev (fun k => wire_Check.f k p0 p1 p2 p3 p4 p5 p6 p7 p8 p9 p10 p11 p12 0 false) 0 := by
  unfold wire_Check.f
  rw [small_ok p0 p1 p2 p3 p4 p5 p6 p7 p8 p9 p10 p11 p12 0 false h0 h1 h2 h3 h4 h5 h6 h7]
  refine Ev.succ fun k => ?_
  kernel_rfl
theorem msg_r0 (i : Nat) (hi : i < 3) (p0 p1 p2 p3 p4 p5 p6 p7 p8 p9 p10 p11 p12 : Int) (id : Int) (nak : Bool) (u v w n : Int) (b : List Int) (r) (hb : b.length ≤ 48) (hn : IntKind.u64.wrap (rd [u, v, w] (i : Int)) = n)
    (h : Ev (fun k => wire_Message.l0 k u v w ((i + 1 : Nat) : Int) p0 p1 p2 p3 p4 p5 p6 p7 p8 p9 p10 p11 p12 id nak (b ++ B4 n)) r) :
    Ev (fun k => wire_Message.l0 k u v w (i : Int) p0 p1 p2 p3 p4 p5 p6 p7 p8 p9 p10 p11 p12 id nak b) r := by
  refine Ev.step (fun k => by rw [wire_Message.l0, if_pos (by omega), if_pos (by omega), if_pos (by omega), hn, wrap_succ i (by omega)]) ?_
  exact Ev.bind (ev_put4 n b (by unfold room; omega)) h
theorem msg_r1 (i : Nat) (hi : i < 4) (p0 p1 p2 p3 p4 p5 p6 p7 p8 p9 p10 p11 p12 : Int) (id : Int) (nak : Bool) (u v w x n : Int) (b : List Int) (r) (hb : b.length ≤ 48) (hn : rd [u, v, w, x] (i : Int) = n)
    (h : Ev (fun k => wire_Message.l1 k u v w x ((i + 1 : Nat) : Int) p0 p1 p2 p3 p4 p5 p6 p7 p8 p9 p10 p11 p12 id nak (b ++ B8 n)) r) :
    Ev (fun k => wire_Message.l1 k u v w x (i : Int) p0 p1 p2 p3 p4 p5 p6 p7 p8 p9 p10 p11 p12 id nak b) r := by
  refine Ev.step (fun k => by rw [wire_Message.l1, if_pos (by omega), if_pos (by omega), if_pos (by omega), hn, wrap_succ i (by omega)]) ?_
  exact Ev.bind (ev_put8 n b (by unfold room; omega)) h
theorem ev_message (p0 p1 p2 p3 p4 p5 p6 p7 p8 p9 p10 p11 p12 : Int) (h8 : 0 ≤ p8 ∧ p8 < 4294967296) (h0 : 0 ≤ p0 ∧ p0 ≤ 3) (h1 : 1 ≤ p1 ∧ p1 ≤ 4) (h2 : 1 ≤ p2 ∧ p2 ≤ 5) (h3 : 0 ≤ p3 ∧ p3 ≤ 255) (h4 : -128 ≤ p4 ∧ p4 ≤ 127) (h5 : -128 ≤ p5 ∧ p5 ≤ 127) (h6 : 0 ≤ p6 ∧ p6 ≤ 281474976645120) (h7 : 0 ≤ p7 ∧ p7 ≤ 281474976645120) :
    Ev (fun k => wire_Message.f k p0 p1 p2 p3 p4 p5 p6 p7 p8 p9 p10 p11 p12 0 false) (0, fixB p0 p1 p2 p3 p4 p5 p6 p7 p8 p9 p10 p11 p12) := by
  unfold wire_Message.f
  refine Ev.bind (ev_check p0 p1 p2 p3 p4 p5 p6 p7 p8 p9 p10 p11 p12 h0 h1 h2 h3 h4 h5 h6 h7) ?_
  simp only [not_true_eq_false, if_false, toShort_val, bsome]
  rw [head_val p0 p1 p2 h0 h1 h2]
  have s6 := shortV_rng p6
  have s7 := shortV_rng p7
  refine msg_r0 0 (by decide) p0 p1 p2 p3 p4 p5 p6 p7 p8 p9 p10 p11 p12 0 false _ _ _ (shortV p6) _ _ (by simp) (u64_in (n := shortV p6) (by omega) (by omega)) ?_
  refine msg_r0 1 (by decide) p0 p1 p2 p3 p4 p5 p6 p7 p8 p9 p10 p11 p12 0 false _ _ _ (shortV p7) _ _ (by simp [len4]) (u64_in (n := shortV p7) (by omega) (by omega)) ?_
  refine msg_r0 2 (by decide) p0 p1 p2 p3 p4 p5 p6 p7 p8 p9 p10 p11 p12 0 false _ _ _ p8 _ _ (by simp [len4]) (u64_in (n := p8) (by omega) (by omega)) ?_
  refine Ev.step (fun k => by rw [wire_Message.l0, if_neg (by decide)]) ?_
  refine msg_r1 0 (by decide) p0 p1 p2 p3 p4 p5 p6 p7 p8 p9 p10 p11 p12 0 false _ _ _ _ p9 _ _ (by simp [len4]) rfl ?_
  refine msg_r1 1 (by decide) p0 p1 p2 p3 p4 p5 p6 p7 p8 p9 p10 p11 p12 0 false _ _ _ _ p10 _ _ (by simp [len4, len8]) rfl ?_
  refine msg_r1 2 (by decide) p0 p1 p2 p3 p4 p5 p6 p7 p8 p9 p10 p11 p12 0 false _ _ _ _ p11 _ _ (by simp [len4, len8]) rfl ?_
  refine msg_r1 3 (by decide) p0 p1 p2 p3 p4 p5 p6 p7 p8 p9 p10 p11 p12 0 false _ _ _ _ p12 _ _ (by simp [len4, len8]) rfl ?_
  refine Ev.step (fun k => by rw [wire_Message.l1, if_neg (by decide)]) ?_
  refine Ev.succ fun k => ?_
  rw [wire_Message.l2, if_neg (by decide)]
  rfl
theorem ev_encode (p0 p1 p2 p3 p4 p5 p6 p7 p8 p9 p10 p11 p12 : Int) (h8 : 0 ≤ p8 ∧ p8 < 4294967296) (h0 : 0 ≤ p0 ∧ p0 ≤ 3) (h1 : 1 ≤ p1 ∧ p1 ≤ 4) (h2 : 1 ≤ p2 ∧ p2 ≤ 5) (h3 : 0 ≤ p3 ∧ p3 ≤ 255) (h4 : -128 ≤ p4 ∧ p4 ≤ 127) (h5 : -128 ≤ p5 ∧ p5 ≤ 127) (h6 : 0 ≤ p6 ∧ p6 ≤ 281474976645120) (h7 : 0 ≤ p7 ∧ p7 ≤ 281474976645120) :
    Ev (fun k => wire_Encode.f k p0 p1 p2 p3 p4 p5 p6 p7 p8 p9 p10 p11 p12 0 false) (0, fixB p0 p1 p2 p3 p4 p5 p6 p7 p8 p9 p10 p11 p12) := by
  unfold wire_Encode.f
  refine Ev.bind (ev_message p0 p1 p2 p3 p4 p5 p6 p7 p8 p9 p10 p11 p12 h8 h0 h1 h2 h3 h4 h5 h6 h7) ?_
  exact Ev.congr (fun k => by rw [if_neg (by simp), if_pos rfl]; rfl) (Ev.now _)
end Go.Proofs.Ytbcdoncnhhjjeaa.Q
