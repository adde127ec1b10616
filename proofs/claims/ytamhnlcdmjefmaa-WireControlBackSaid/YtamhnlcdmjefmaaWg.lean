/- Plain lemmas on the printed functions: whole numbers and lists, no program in sight. -/
import Derived.Test.YtamhnlcdmjefmaaWe
import Derived.Laws.BitsLemmas
namespace Go.Proofs.Ytamhnlcdmjefmaa.Q
open Go Go.RowKit Go.Proofs.Ytamhnlcdmjefmaa.Ev
set_option linter.unusedVariables false
set_option linter.unusedSimpArgs false
set_option maxRecDepth 100000
/-! ### control packets -/
theorem Ev.bs {α β : Type} {f : Nat → α → Option β} {a : α} {r : β} (h : Ev (fun k => f k a) r) : Ev (fun k => (some a).bind (f k)) r := Ev.bind (Ev.now a) h
def padN (n : Int) : Int := (n + 3) / 4 * 4
def ctlOk (v op s t a o id : Int) (mac : List Int) : Bool := decide (1 ≤ v ∧ v ≤ 4 ∧ 0 ≤ op ∧ op ≤ 31 ∧ 0 ≤ s ∧ s ≤ 65535 ∧ 0 ≤ t ∧ t ≤ 65535 ∧ 0 ≤ a ∧ a ≤ 65535 ∧ 0 ≤ o ∧ o ≤ 65535 ∧ trailOk id mac = true)
def ctlV (v op s t a o : Int) (data : List Int) (id : Int) (mac : List Int) : Int := if ctlOk v op s t a o id mac = true then (if 12 + padN (mn (data.length : Int) 65536) + trailLen id mac > 512 then 31 else 0) else 32
theorem fill_val (a : Int) (h0 : 0 ≤ a) (h1 : a ≤ 1000000000) : wire_fill.f a = some ((-a) % 4) := by
  unfold wire_fill.f
  rw [w64_in (n := -a) (by omega) (by omega)]
  have e : Go.bits .and .i64 (-a) 3 = (-a) % 4 := by
    show IntKind.i64.wrap ((BitVec.ofInt 64 (-a) &&& BitVec.ofInt 64 3).toNat : Int) = _
    rw [BitVec.toNat_and, show (BitVec.ofInt 64 3).toNat = 2 ^ 2 - 1 from by decide, Nat.and_two_pow_sub_one_eq_mod, BitVec.toNat_ofInt]
    have : ((((-a) % ((2 ^ 64 : Nat) : Int)).toNat % 2 ^ 2 : Nat) : Int) = (-a) % 4 := by omega
    rw [this]
    have hw : ∀ m : Int, 0 ≤ m → m < 4 → IntKind.i64.wrap m = m := fun m h0 h1 => by
      rcases (by omega : m = 0 ∨ m = 1 ∨ m = 2 ∨ m = 3) with h | h | h | h <;> rw [h] <;> kernel_rfl
    exact hw _ (by omega) (by omega)
  rw [e]
theorem padded_val (a : Int) (h0 : 0 ≤ a) (h1 : a ≤ 1000000000) : foliotref03_padded.f a = some (padN a) := by
  unfold foliotref03_padded.f padN
  rw [w64_in (n := a + 3) (by omega) (by omega), tdiv_e _ _ (by omega), w64_in (n := (a + 3) / 4) (by omega) (by omega), w64_in (by omega) (by omega)]
theorem pad_fill (a : Int) : a + (-a) % 4 = padN a := by unfold padN; omega
theorem pad_rng (a : Int) : a ≤ padN a ∧ padN a ≤ a + 3 := by unfold padN; omega
theorem cctl_round (i : Nat) (hi : i < 5) (n : Int) (b : Bool) (v0 v1 v2 v3 v4 : Int) (a0 : Int) (a1 a2 a3 : Bool) (a4 a5 a6 a7 a8 : Int) (a9 : List Int) (a10 : Int) (a11 : List Int) (r : Int) (h : Ev (fun k => wire_CheckControl.l0 k n (b && decide (0 ≤ rd [v0, v1, v2, v3, v4] (i : Int) ∧ rd [v0, v1, v2, v3, v4] (i : Int) ≤ 65535)) v0 v1 v2 v3 v4 ((i + 1 : Nat) : Int) a0 a1 a2 a3 a4 a5 a6 a7 a8 a9 a10 a11) r) :
    Ev (fun k => wire_CheckControl.l0 k n b v0 v1 v2 v3 v4 (i : Int) a0 a1 a2 a3 a4 a5 a6 a7 a8 a9 a10 a11) r := by
  refine Ev.step (fun k => by rw [wire_CheckControl.l0, if_pos (by omega), if_pos (by omega), if_pos (by omega), wrap_succ i (by omega), fits_val, bsome]) ?_
  cases b with
  | true => exact h
  | false => exact h
theorem ev_cctl (a0 : Int) (a1 a2 a3 : Bool) (a4 a5 a6 a7 a8 : Int) (a9 : List Int) (a10 : Int) (a11 : List Int) (hm : (a11.length : Int) ≤ 140737488351232) (h4 : -9223372036854775808 ≤ a4 ∧ a4 ≤ 9223372036854775807) :
    Ev (fun k => wire_CheckControl.f k a0 a1 a2 a3 a4 a5 a6 a7 a8 a9 a10 a11) (ctlV a0 a4 a5 a6 a7 a8 a9 a10 a11) := by
  unfold wire_CheckControl.f
  obtain ⟨n, hn, hn2⟩ := trail_val a10 a11 hm
  rw [hn]
  refine Ev.bs ?_
  refine cctl_round 0 (by decide) _ _ _ _ _ _ _ _ _ _ _ _ _ _ _ _ _ _ _ _ (cctl_round 1 (by decide) _ _ _ _ _ _ _ _ _ _ _ _ _ _ _ _ _ _ _ _ (cctl_round 2 (by decide) _ _ _ _ _ _ _ _ _ _ _ _ _ _ _ _ _ _ _ _ (cctl_round 3 (by decide) _ _ _ _ _ _ _ _ _ _ _ _ _ _ _ _ _ _ _ _ (cctl_round 4 (by decide) _ _ _ _ _ _ _ _ _ _ _ _ _ _ _ _ _ _ _ _ ?_))))
  show Ev (fun k => wire_CheckControl.l0 k n (trailOk a10 a11 && decide (0 ≤ a5 ∧ a5 ≤ 65535) && decide (0 ≤ a6 ∧ a6 ≤ 65535) && decide (0 ≤ a7 ∧ a7 ≤ 65535) && decide (0 ≤ a8 ∧ a8 ≤ 65535) && decide (0 ≤ wrap64 (a4 * 2048) ∧ wrap64 (a4 * 2048) ≤ 65535)) a5 a6 a7 a8 (wrap64 (a4 * 2048)) 5 a0 a1 a2 a3 a4 a5 a6 a7 a8 a9 a10 a11) _
  have hmn := mn_len a9.length 65536 (by decide)
  have hpr := pad_rng (mn (a9.length : Int) 65536)
  refine Ev.succ fun k => ?_
  rw [wire_CheckControl.l0, if_neg (by decide), fits_val, bsome, bif_not, fits_val, bsome, bif_not, fill_val _ (by omega) (by omega), bsome, bif_nb]
  unfold ctlV
  by_cases c : ctlOk a0 a4 a5 a6 a7 a8 a10 a11 = true
  · have hc := of_decide_eq_true c
    have htr := trail_rng hc.2.2.2.2.2.2.2.2.2.2.2.2
    have hw : wrap64 (a4 * 2048) = a4 * 2048 := w64_in (by omega) (by omega)
    rw [if_pos c, hw, hn2 hc.2.2.2.2.2.2.2.2.2.2.2.2, hc.2.2.2.2.2.2.2.2.2.2.2.2]
    rw [if_pos (by rw [decide_eq_true (by omega : 0 ≤ a5 ∧ a5 ≤ 65535), decide_eq_true (by omega : 0 ≤ a6 ∧ a6 ≤ 65535), decide_eq_true (by omega : 0 ≤ a7 ∧ a7 ≤ 65535), decide_eq_true (by omega : 0 ≤ a8 ∧ a8 ≤ 65535), decide_eq_true (by omega : 0 ≤ a4 * 2048 ∧ a4 * 2048 ≤ 65535)]; rfl), if_pos (by omega), if_pos (by omega)]
    rw [w64_in (n := 12 + _) (by omega) (by omega), w64_in (n := 12 + mn (a9.length : Int) 65536 + _) (by omega) (by omega), Int.add_assoc 12, pad_fill, w64_in (by omega) (by omega), opt_if]
  · rw [if_neg c]
    by_cases d : (trailOk a10 a11 && decide (0 ≤ a5 ∧ a5 ≤ 65535) && decide (0 ≤ a6 ∧ a6 ≤ 65535) && decide (0 ≤ a7 ∧ a7 ≤ 65535) && decide (0 ≤ a8 ∧ a8 ≤ 65535) && decide (0 ≤ wrap64 (a4 * 2048) ∧ wrap64 (a4 * 2048) ≤ 65535)) = true
    · rw [if_pos d]
      simp only [Bool.and_eq_true, decide_eq_true_eq] at d
      by_cases e : 1 ≤ a0 ∧ a0 ≤ 4
      · rw [if_pos e]
        by_cases f : 0 ≤ a4 ∧ a4 ≤ 31
        · exact absurd (decide_eq_true (by exact ⟨e.1, e.2, f.1, f.2, d.1.1.1.1.2.1, d.1.1.1.1.2.2, d.1.1.1.2.1, d.1.1.1.2.2, d.1.1.2.1, d.1.1.2.2, d.1.2.1, d.1.2.2, d.1.1.1.1.1⟩)) c
        · rw [if_neg f]
      · rw [if_neg e]
    · rw [if_neg d]
theorem rcctl_val (a0 : Int) (a1 a2 a3 : Bool) (a4 a5 a6 a7 a8 : Int) (a9 : List Int) (a10 : Int) (a11 : List Int) :
    foliotref03_CheckControl.f a0 a1 a2 a3 a4 a5 a6 a7 a8 a9 a10 a11 = some (ctlV a0 a4 a5 a6 a7 a8 a9 a10 a11) := by
  unfold foliotref03_CheckControl.f ctlV
  have hmn := mn_len a9.length 65536 (by decide)
  have hpr := pad_rng (mn (a9.length : Int) 65536)
  rw [within_val, bsome, bif_not, within_val, bsome, bif_not, within_val, bsome, bif_not, within_val, bsome, bif_not, within_val, bsome, bif_not, within_val, bsome, bif_not, digest_val, bsome, bif_nb, padded_val _ (by omega) (by omega), bsome, w64_in (n := 12 + _) (by omega) (by omega), w64_in (n := 12 + _ + 4) (by omega) (by omega)]
  by_cases c : ctlOk a0 a4 a5 a6 a7 a8 a10 a11 = true
  · have hc := of_decide_eq_true c
    have ht := hc.2.2.2.2.2.2.2.2.2.2.2.2
    have htr := trail_rng ht
    rw [if_pos c, if_pos (by omega), if_pos (by omega), if_pos (by omega), if_pos (by omega), if_pos (by omega), if_pos (by omega), if_pos ht]
    unfold trailLen at htr ⊢
    by_cases hi : a10 = 0
    · rw [if_neg (fun h => h hi), if_pos hi, Int.add_zero, opt_if]
    · rw [if_neg hi] at htr
      rw [if_pos hi, if_neg hi, w64_in (by omega) (by omega), opt_if, Int.add_assoc (12 + _)]
  · rw [if_neg c]
    have hc := fun h => c (decide_eq_true h)
    by_cases d0 : 1 ≤ a0 ∧ a0 ≤ 4
    case neg => rw [if_neg d0]
    rw [if_pos d0]
    by_cases d4 : 0 ≤ a4 ∧ a4 ≤ 31
    case neg => rw [if_neg d4]
    rw [if_pos d4]
    by_cases d5 : 0 ≤ a5 ∧ a5 ≤ 65535
    case neg => rw [if_neg d5]
    rw [if_pos d5]
    by_cases d6 : 0 ≤ a6 ∧ a6 ≤ 65535
    case neg => rw [if_neg d6]
    rw [if_pos d6]
    by_cases d7 : 0 ≤ a7 ∧ a7 ≤ 65535
    case neg => rw [if_neg d7]
    rw [if_pos d7]
    by_cases d8 : 0 ≤ a8 ∧ a8 ≤ 65535
    case neg => rw [if_neg d8]
    rw [if_pos d8, if_neg (fun h => hc ⟨d0.1, d0.2, d4.1, d4.2, d5.1, d5.2, d6.1, d6.2, d7.1, d7.2, d8.1, d8.2, h⟩)]
/-! ### its message -/
def flagV (op : Int) (r e m : Bool) : Int := op + (if r = true then 128 else 0) + (if e = true then 64 else 0) + (if m = true then 32 else 0)
def ctlB (v op s t a o : Int) (r e m : Bool) (data : List Int) : List Int := [v * 8 + 6, flagV op r e m] ++ B2 s ++ B2 t ++ B2 a ++ B2 o ++ B2 (data.length : Int) ++ data ++ List.replicate ((-(data.length : Int)) % 4).toNat 0
theorem flag_all : ∀ (op : Fin 32) (r e m : Bool), (let x := if m = true then Go.bits .or .u8 ((op.val : Int) % 256) (shl .u8 32 (IntKind.u64.wrap 0)) else (op.val : Int) % 256; let y := if e = true then Go.bits .or .u8 x (shl .u8 32 (IntKind.u64.wrap 1)) else x; if r = true then Go.bits .or .u8 y (shl .u8 32 (IntKind.u64.wrap 2)) else y) = flagV (op.val : Int) r e m := by decide +kernel
theorem ver_all : ∀ v : Fin 4, (Go.bits .or .i64 (((v.val : Int) + 1) * 8) 6) % 256 = ((v.val : Int) + 1) * 8 + 6 := by decide +kernel
theorem ver_val (v : Int) (h : 1 ≤ v ∧ v ≤ 4) : (Go.bits .or .i64 (wrap64 (v * 8)) 6) % 256 = v * 8 + 6 := by
  have := ver_all ⟨(v - 1).toNat, by omega⟩
  rw [w64_in (by omega) (by omega)]
  simpa only [show (((v - 1).toNat : Nat) : Int) + 1 = v by omega] using this
def flag1 (m : Bool) (x : Int) : Int := if m = true then Go.bits .or .u8 x (shl .u8 32 (IntKind.u64.wrap 0)) else x
def flag2 (e : Bool) (x : Int) : Int := if e = true then Go.bits .or .u8 x (shl .u8 32 (IntKind.u64.wrap 1)) else x
def flag3 (r : Bool) (x : Int) : Int := if r = true then Go.bits .or .u8 x (shl .u8 32 (IntKind.u64.wrap 2)) else x
theorem flag_val (op : Int) (h : 0 ≤ op ∧ op ≤ 31) (r e m : Bool) : flag3 r (flag2 e (flag1 m (op % 256))) = flagV op r e m := by
  have := flag_all ⟨op.toNat, by omega⟩ r e m
  simp only [show ((op.toNat : Nat) : Int) = op by omega] at this
  exact this
theorem cmsg_r1 (i : Nat) (hi : i < 5) (v0 v1 v2 v3 v4 n : Int) (a0 : Int) (a1 a2 a3 : Bool) (a4 a5 a6 a7 a8 : Int) (a9 : List Int) (a10 : Int) (a11 : List Int) (b : List Int) (r) (hb : b.length ≤ 48) (hn : IntKind.u64.wrap (rd [v0, v1, v2, v3, v4] (i : Int)) = n)
    (h : Ev (fun k => wire_ControlMessage.l1 k v0 v1 v2 v3 v4 ((i + 1 : Nat) : Int) a0 a1 a2 a3 a4 a5 a6 a7 a8 a9 a10 a11 (b ++ B2 n)) r) :
    Ev (fun k => wire_ControlMessage.l1 k v0 v1 v2 v3 v4 (i : Int) a0 a1 a2 a3 a4 a5 a6 a7 a8 a9 a10 a11 b) r := by
  refine Ev.step (fun k => by rw [wire_ControlMessage.l1, if_pos (by omega), if_pos (by omega), if_pos (by omega), hn, wrap_succ i (by omega)]) ?_
  exact Ev.bind (ev_put2 n b (by unfold room; omega)) h
structure GoodC (v op s t a o : Int) (data : List Int) (id : Int) (mac : List Int) : Prop where
  v : 1 ≤ v ∧ v ≤ 4
  op : 0 ≤ op ∧ op ≤ 31
  s : 0 ≤ s ∧ s ≤ 65535
  t : 0 ≤ t ∧ t ≤ 65535
  a : 0 ≤ a ∧ a ≤ 65535
  o : 0 ≤ o ∧ o ≤ 65535
  trail : trailOk id mac = true
  size : 12 + padN (data.length : Int) + trailLen id mac ≤ 512
theorem ctl_ok {v op s t a o : Int} {data : List Int} {id : Int} {mac : List Int} (h : ctlV v op s t a o data id mac = 0) : GoodC v op s t a o data id mac := by
  unfold ctlV at h
  by_cases c : ctlOk v op s t a o id mac = true
  · have hc := of_decide_eq_true c
    rw [if_pos c] at h
    have htr := trail_rng hc.2.2.2.2.2.2.2.2.2.2.2.2
    have hpr := pad_rng (mn (data.length : Int) 65536)
    by_cases d : 12 + padN (mn (data.length : Int) 65536) + trailLen id mac > 512
    · rw [if_pos d] at h; exact absurd h (by decide)
    · have hmn : mn (data.length : Int) 65536 = (data.length : Int) := by
        unfold mn at hpr d ⊢
        split at d
        · rename_i q; rw [if_pos q] at hpr; omega
        · rename_i q; rw [if_neg q]
      rw [hmn] at d
      exact ⟨by omega, by omega, by omega, by omega, by omega, by omega, hc.2.2.2.2.2.2.2.2.2.2.2.2, by omega⟩
  · rw [if_neg c] at h; exact absurd h (by decide)
theorem ctl_of {v op s t a o : Int} {data : List Int} {id : Int} {mac : List Int} (h : GoodC v op s t a o data id mac) : ctlV v op s t a o data id mac = 0 := by
  have htr := trail_rng h.trail
  have hpr := pad_rng (data.length : Int)
  have hs := h.size
  have hmn : mn (data.length : Int) 65536 = (data.length : Int) := by unfold mn; rw [if_neg (by omega)]
  unfold ctlV
  rw [if_pos (show ctlOk v op s t a o id mac = true from decide_eq_true ⟨h.v.1, h.v.2, h.op.1, h.op.2, h.s.1, h.s.2, h.t.1, h.t.2, h.a.1, h.a.2, h.o.1, h.o.2, h.trail⟩), hmn, if_neg (by omega)]
theorem ctlB_len (v op s t a o : Int) (r e m : Bool) (data : List Int) : ((ctlB v op s t a o r e m data).length : Int) = 12 + padN (data.length : Int) := by
  unfold ctlB
  have := pad_fill (data.length : Int)
  simp only [List.length_append, len2, List.length_cons, List.length_nil, List.length_replicate]
  omega
theorem ev_cmsg (a0 : Int) (a1 a2 a3 : Bool) (a4 a5 a6 a7 a8 : Int) (a9 : List Int) (a10 : Int) (a11 : List Int) (hm : (a11.length : Int) ≤ 140737488351232) (h : GoodC a0 a4 a5 a6 a7 a8 a9 a10 a11) :
    Ev (fun k => wire_ControlMessage.f k a0 a1 a2 a3 a4 a5 a6 a7 a8 a9 a10 a11) (0, ctlB a0 a4 a5 a6 a7 a8 a1 a2 a3 a9) := by
  have hv := h.v; have hop := h.op; have hs := h.s; have ht := h.t; have ha := h.a; have ho := h.o; have hsz := h.size
  have htr := trail_rng h.trail
  have hpr := pad_rng (a9.length : Int)
  unfold wire_ControlMessage.f
  refine Ev.bind (ev_cctl a0 a1 a2 a3 a4 a5 a6 a7 a8 a9 a10 a11 hm (by omega)) ?_
  rw [ctl_of h]
  refine Ev.congr (fun k => by rw [if_neg (fun h => h rfl)]) ?_
  refine Ev.step (f := fun k => wire_ControlMessage.l0 k (flag1 a3 (a4 % 256)) a3 a2 a1 1 a0 a1 a2 a3 a4 a5 a6 a7 a8 a9 a10 a11) (fun k => by rw [wire_ControlMessage.l0, if_pos (by decide), if_pos rfl, w01]; unfold flag1; cases a3 <;> rfl) ?_
  refine Ev.step (f := fun k => wire_ControlMessage.l0 k (flag2 a2 (flag1 a3 (a4 % 256))) a3 a2 a1 2 a0 a1 a2 a3 a4 a5 a6 a7 a8 a9 a10 a11) (fun k => by rw [wire_ControlMessage.l0, if_pos (by decide), if_neg (by decide), if_pos rfl, w12]; unfold flag2; cases a2 <;> rfl) ?_
  refine Ev.step (f := fun k => wire_ControlMessage.l0 k (flag3 a1 (flag2 a2 (flag1 a3 (a4 % 256)))) a3 a2 a1 3 a0 a1 a2 a3 a4 a5 a6 a7 a8 a9 a10 a11) (fun k => by rw [wire_ControlMessage.l0, if_pos (by decide), if_neg (by decide), if_neg (by decide), if_pos rfl, w23]; unfold flag3; cases a1 <;> rfl) ?_
  rw [flag_val a4 hop a1 a2 a3]
  refine Ev.step (fun k => by rw [wire_ControlMessage.l0, if_neg (by decide), ver_val a0 hv]) ?_
  refine cmsg_r1 0 (by decide) _ _ _ _ _ a5 _ _ _ _ _ _ _ _ _ _ _ _ _ _ (by simp) (u64_in (n := a5) (by omega) (by omega)) ?_
  refine cmsg_r1 1 (by decide) _ _ _ _ _ a6 _ _ _ _ _ _ _ _ _ _ _ _ _ _ (by simp [len2]) (u64_in (n := a6) (by omega) (by omega)) ?_
  refine cmsg_r1 2 (by decide) _ _ _ _ _ a7 _ _ _ _ _ _ _ _ _ _ _ _ _ _ (by simp [len2]) (u64_in (n := a7) (by omega) (by omega)) ?_
  refine cmsg_r1 3 (by decide) _ _ _ _ _ a8 _ _ _ _ _ _ _ _ _ _ _ _ _ _ (by simp [len2]) (u64_in (n := a8) (by omega) (by omega)) ?_
  refine cmsg_r1 4 (by decide) _ _ _ _ _ (a9.length : Int) _ _ _ _ _ _ _ _ _ _ _ _ _ _ (by simp [len2]) (u64_in (n := (a9.length : Int)) (by omega) (by omega)) ?_
  have hl : ([a0 * 8 + 6, flagV a4 a1 a2 a3] ++ B2 a5 ++ B2 a6 ++ B2 a7 ++ B2 a8 ++ B2 (a9.length : Int)).length = 12 := rfl
  refine Ev.succ fun k => ?_
  rw [wire_ControlMessage.l1, if_neg (by decide), if_pos (by rw [hl]; omega), fill_val _ (by omega) (by omega), bsome, if_pos (by omega), if_pos (by rw [List.length_append, hl]; omega)]
  rfl
theorem ev_cmsg_bad (a0 : Int) (a1 a2 a3 : Bool) (a4 a5 a6 a7 a8 : Int) (a9 : List Int) (a10 : Int) (a11 : List Int) (hm : (a11.length : Int) ≤ 140737488351232) (h4 : -9223372036854775808 ≤ a4 ∧ a4 ≤ 9223372036854775807) (h : ¬ ctlV a0 a4 a5 a6 a7 a8 a9 a10 a11 = 0) :
    Ev (fun k => wire_ControlMessage.f k a0 a1 a2 a3 a4 a5 a6 a7 a8 a9 a10 a11) (ctlV a0 a4 a5 a6 a7 a8 a9 a10 a11, []) := by
  unfold wire_ControlMessage.f
  refine Ev.bind (ev_cctl a0 a1 a2 a3 a4 a5 a6 a7 a8 a9 a10 a11 hm h4) ?_
  exact Ev.congr (fun k => by rw [if_pos h]) (Ev.now _)
def encC (v op s t a o : Int) (r e m : Bool) (data : List Int) (id : Int) (mac : List Int) : List Int := ctlB v op s t a o r e m data ++ tailB id false mac
theorem ev_cenc (a0 : Int) (a1 a2 a3 : Bool) (a4 a5 a6 a7 a8 : Int) (a9 : List Int) (a10 : Int) (a11 : List Int) (hm : (a11.length : Int) ≤ 140737488351232) (h : GoodC a0 a4 a5 a6 a7 a8 a9 a10 a11) :
    Ev (fun k => wire_EncodeControl.f k a0 a1 a2 a3 a4 a5 a6 a7 a8 a9 a10 a11) (0, encC a0 a4 a5 a6 a7 a8 a1 a2 a3 a9 a10 a11) := by
  unfold wire_EncodeControl.f encC
  refine Ev.bind (ev_cmsg a0 a1 a2 a3 a4 a5 a6 a7 a8 a9 a10 a11 hm h) ?_
  have hl := ctlB_len a0 a4 a5 a6 a7 a8 a1 a2 a3 a9
  have hsz := h.size
  have htr := trail_rng h.trail
  generalize ctlB a0 a4 a5 a6 a7 a8 a1 a2 a3 a9 = b at hl ⊢
  refine Ev.congr (fun k => by rw [if_neg (fun h => h rfl)]) ?_
  unfold tailB
  rcases trail_mac h.trail with ⟨rfl, rfl⟩ | ⟨c1, c2, c3⟩
  · rw [if_pos (show (0 : Int) = 0 ∧ false = false from ⟨rfl, rfl⟩), List.append_nil]
    exact Ev.congr (fun k => by rw [if_pos rfl]) (Ev.now _)
  · rw [if_neg (show ¬ (a10 = 0 ∧ false = false) from fun h => by omega)]
    refine Ev.congr (fun k => by rw [if_neg (show ¬ a10 = 0 by omega), u64_in (n := a10) (by omega) (by omega)]) ?_
    rw [← List.append_assoc]
    refine Ev.bind (ev_put4 a10 b (by unfold room; omega)) ?_
    exact Ev.congr (fun k => by rw [if_pos (by rw [List.length_append, len4]; omega)]) (Ev.now _)
theorem ev_cenc_bad (a0 : Int) (a1 a2 a3 : Bool) (a4 a5 a6 a7 a8 : Int) (a9 : List Int) (a10 : Int) (a11 : List Int) (hm : (a11.length : Int) ≤ 140737488351232) (h4 : -9223372036854775808 ≤ a4 ∧ a4 ≤ 9223372036854775807) (h : ¬ ctlV a0 a4 a5 a6 a7 a8 a9 a10 a11 = 0) :
    Ev (fun k => wire_EncodeControl.f k a0 a1 a2 a3 a4 a5 a6 a7 a8 a9 a10 a11) (ctlV a0 a4 a5 a6 a7 a8 a9 a10 a11, []) := by
  unfold wire_EncodeControl.f
  refine Ev.bind (ev_cmsg_bad a0 a1 a2 a3 a4 a5 a6 a7 a8 a9 a10 a11 hm h4 h) ?_
  exact Ev.congr (fun k => by rw [if_pos h]) (Ev.now _)
/-! ### the reference's message -/
theorem rzeros : ∀ (d : Nat) (b : List Int), d = ((-(b.length : Int)) % 4).toNat → b.length ≤ 1000000 → Ev (fun k => foliotref03_ControlMessage.l0 k b) (0, b ++ List.replicate d 0)
  | 0, b, h, hb => by
    rw [List.replicate_zero, List.append_nil]
    exact Ev.succ fun k => by rw [foliotref03_ControlMessage.l0, tmod4, if_neg (by omega)]
  | d + 1, b, h, hb => by
    have ih := rzeros d (b ++ [0]) (by simp only [List.length_append, List.length_cons, List.length_nil]; omega) (by simp only [List.length_append, List.length_cons, List.length_nil]; omega)
    rw [List.append_assoc] at ih
    refine Ev.step (fun k => by rw [foliotref03_ControlMessage.l0, tmod4, if_pos (by omega), if_pos (by simp only [List.length_cons, List.length_nil]; omega)]) ih
theorem ev_rcmsg (a0 : Int) (a1 a2 a3 : Bool) (a4 a5 a6 a7 a8 : Int) (a9 : List Int) (a10 : Int) (a11 : List Int) (h : GoodC a0 a4 a5 a6 a7 a8 a9 a10 a11) :
    Ev (fun k => foliotref03_ControlMessage.f k a0 a1 a2 a3 a4 a5 a6 a7 a8 a9 a10 a11) (0, ctlB a0 a4 a5 a6 a7 a8 a1 a2 a3 a9) := by
  have hv := h.v; have hop := h.op; have hs := h.s; have ht := h.t; have ha := h.a; have ho := h.o; have hsz := h.size
  have htr := trail_rng h.trail
  have hpr := pad_rng (a9.length : Int)
  unfold foliotref03_ControlMessage.f
  rw [rcctl_val, ctl_of h]
  refine Ev.bs ?_
  refine Ev.congr (fun k => by rw [if_neg (fun h => h rfl)]) ?_
  have j2 : ∀ x, x = flagV a4 a1 a2 a3 → Ev (fun k => foliotref03_ControlMessage.j2 k x a0 a1 a2 a3 a4 a5 a6 a7 a8 a9 a10 a11) (0, ctlB a0 a4 a5 a6 a7 a8 a1 a2 a3 a9) := by
    intro x hx
    subst hx
    have hf : flagV a4 a1 a2 a3 % 256 = flagV a4 a1 a2 a3 := by
      unfold flagV
      (repeat' split) <;> omega
    refine Ev.step (fun k => by rw [foliotref03_ControlMessage.j2, u64_in (n := a5) (by omega) (by omega), u64_in (n := a6) (by omega) (by omega), u64_in (n := a7) (by omega) (by omega), u64_in (n := a8) (by omega) (by omega), u64_in (n := (a9.length : Int)) (by omega) (by omega), w64_in (n := a0 * 8) (by omega) (by omega), w64_in (n := a0 * 8 + 6) (by omega) (by omega), show (a0 * 8 + 6) % 256 = a0 * 8 + 6 by omega, hf]) ?_
    refine Ev.bind (ev_rput2 a5 _ (by simp [room])) ?_
    refine Ev.bind (ev_rput2 a6 _ (by simp [room, len2])) ?_
    refine Ev.bind (ev_rput2 a7 _ (by simp [room, len2])) ?_
    refine Ev.bind (ev_rput2 a8 _ (by simp [room, len2])) ?_
    refine Ev.bind (ev_rput2 (a9.length : Int) _ (by simp [room, len2])) ?_
    have hl : ([a0 * 8 + 6, flagV a4 a1 a2 a3] ++ B2 a5 ++ B2 a6 ++ B2 a7 ++ B2 a8 ++ B2 (a9.length : Int)).length = 12 := rfl
    refine Ev.congr (fun k => by rw [if_pos (by rw [hl]; omega)]) ?_
    have := rzeros ((-(a9.length : Int)) % 4).toNat ([a0 * 8 + 6, flagV a4 a1 a2 a3] ++ B2 a5 ++ B2 a6 ++ B2 a7 ++ B2 a8 ++ B2 (a9.length : Int) ++ a9) (by rw [List.length_append, hl]; omega) (by rw [List.length_append, hl]; omega)
    exact this
  have j1 : ∀ x, x = a4 + (if a1 = true then 128 else 0) + (if a2 = true then 64 else 0) → Ev (fun k => foliotref03_ControlMessage.j1 k x a0 a1 a2 a3 a4 a5 a6 a7 a8 a9 a10 a11) (0, ctlB a0 a4 a5 a6 a7 a8 a1 a2 a3 a9) := by
    intro x hx
    have hr : 0 ≤ x ∧ x ≤ 10000 := by rw [hx]; (repeat' split) <;> omega
    refine Ev.step (fun k => by rw [foliotref03_ControlMessage.j1, w64_in (n := x + 32) (by omega) (by omega)]) ?_
    cases ha3 : a3 with
    | true => rw [ha3] at j2; exact j2 _ (by rw [hx]; rfl)
    | false => rw [ha3] at j2; exact j2 _ (by rw [hx]; unfold flagV; rw [if_neg (c := false = true) (by decide)]; omega)
  have j0 : ∀ x, x = a4 + (if a1 = true then 128 else 0) → Ev (fun k => foliotref03_ControlMessage.j0 k x a0 a1 a2 a3 a4 a5 a6 a7 a8 a9 a10 a11) (0, ctlB a0 a4 a5 a6 a7 a8 a1 a2 a3 a9) := by
    intro x hx
    have hr : 0 ≤ x ∧ x ≤ 10000 := by rw [hx]; (repeat' split) <;> omega
    refine Ev.step (fun k => by rw [foliotref03_ControlMessage.j0, w64_in (n := x + 64) (by omega) (by omega)]) ?_
    cases ha2 : a2 with
    | true => rw [ha2] at j1; exact j1 _ (by rw [hx]; rfl)
    | false => rw [ha2] at j1; exact j1 _ (by rw [hx, if_neg (c := false = true) (by decide)]; omega)
  refine Ev.congr (fun k => by rw [w64_in (n := a4 + 128) (by omega) (by omega)]) ?_
  cases ha1 : a1 with
  | true => rw [ha1] at j0; exact j0 _ rfl
  | false => rw [ha1] at j0; exact j0 _ (by rw [if_neg (c := false = true) (by decide)]; omega)
theorem ev_rcmsg_bad (a0 : Int) (a1 a2 a3 : Bool) (a4 a5 a6 a7 a8 : Int) (a9 : List Int) (a10 : Int) (a11 : List Int) (h : ¬ ctlV a0 a4 a5 a6 a7 a8 a9 a10 a11 = 0) :
    Ev (fun k => foliotref03_ControlMessage.f k a0 a1 a2 a3 a4 a5 a6 a7 a8 a9 a10 a11) (ctlV a0 a4 a5 a6 a7 a8 a9 a10 a11, []) := by
  unfold foliotref03_ControlMessage.f
  rw [rcctl_val]
  refine Ev.bs ?_
  exact Ev.congr (fun k => by rw [if_pos h]) (Ev.now _)
theorem ev_rcenc (a0 : Int) (a1 a2 a3 : Bool) (a4 a5 a6 a7 a8 : Int) (a9 : List Int) (a10 : Int) (a11 : List Int) (h : GoodC a0 a4 a5 a6 a7 a8 a9 a10 a11) :
    Ev (fun k => foliotref03_EncodeControl.f k a0 a1 a2 a3 a4 a5 a6 a7 a8 a9 a10 a11) (0, encC a0 a4 a5 a6 a7 a8 a1 a2 a3 a9 a10 a11) := by
  unfold foliotref03_EncodeControl.f encC
  refine Ev.bind (ev_rcmsg a0 a1 a2 a3 a4 a5 a6 a7 a8 a9 a10 a11 h) ?_
  have hl := ctlB_len a0 a4 a5 a6 a7 a8 a1 a2 a3 a9
  have hsz := h.size
  have htr := trail_rng h.trail
  generalize ctlB a0 a4 a5 a6 a7 a8 a1 a2 a3 a9 = b at hl ⊢
  refine Ev.congr (fun k => by rw [if_neg (fun h => h rfl)]) ?_
  unfold tailB
  rcases trail_mac h.trail with ⟨rfl, rfl⟩ | ⟨c1, c2, c3⟩
  · rw [if_pos (show (0 : Int) = 0 ∧ false = false from ⟨rfl, rfl⟩), List.append_nil]
    exact Ev.congr (fun k => by rw [if_neg (fun h => h rfl)]) (Ev.now _)
  · rw [if_neg (show ¬ (a10 = 0 ∧ false = false) from fun h => by omega)]
    refine Ev.congr (fun k => by rw [if_pos (show ¬ a10 = 0 by omega), u64_in (n := a10) (by omega) (by omega)]) ?_
    rw [← List.append_assoc]
    refine Ev.bind (ev_rput4 a10 b (by unfold room; omega)) ?_
    exact Ev.congr (fun k => by rw [if_pos (by rw [List.length_append, len4]; omega)]) (Ev.now _)
theorem ev_rcenc_bad (a0 : Int) (a1 a2 a3 : Bool) (a4 a5 a6 a7 a8 : Int) (a9 : List Int) (a10 : Int) (a11 : List Int) (h : ¬ ctlV a0 a4 a5 a6 a7 a8 a9 a10 a11 = 0) :
    Ev (fun k => foliotref03_EncodeControl.f k a0 a1 a2 a3 a4 a5 a6 a7 a8 a9 a10 a11) (ctlV a0 a4 a5 a6 a7 a8 a9 a10 a11, []) := by
  unfold foliotref03_EncodeControl.f
  refine Ev.bind (ev_rcmsg_bad a0 a1 a2 a3 a4 a5 a6 a7 a8 a9 a10 a11 h) ?_
  exact Ev.congr (fun k => by rw [if_pos h]) (Ev.now _)
end Go.Proofs.Ytamhnlcdmjefmaa.Q
