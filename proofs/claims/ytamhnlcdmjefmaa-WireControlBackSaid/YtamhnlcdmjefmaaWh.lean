/- Plain lemmas on the printed functions: whole numbers and lists, no program in sight. -/
import Derived.Test.YtamhnlcdmjefmaaWg
import Derived.Laws.BitsLemmas
namespace Go.Proofs.Ytamhnlcdmjefmaa.Q
open Go Go.RowKit Go.Proofs.Ytamhnlcdmjefmaa.Ev
set_option linter.unusedVariables false
set_option linter.unusedSimpArgs false
set_option maxRecDepth 100000
/-! ### a control packet out of its bytes -/
structure Cc where
  p0 : Int
  p1 : Bool
  p2 : Bool
  p3 : Bool
  p4 : Int
  p5 : Int
  p6 : Int
  p7 : Int
  p8 : Int
  data : List Int
  id : Int
  mac : List Int
  e : Int
abbrev tup13 (d : Cc) : Int × Bool × Bool × Bool × Int × Int × Int × Int × Int × (List Int) × Int × (List Int) × Int := (d.p0, d.p1, d.p2, d.p3, d.p4, d.p5, d.p6, d.p7, d.p8, d.data, d.id, d.mac, d.e)
abbrev tup14 (d : Cc) (x : List Int) : Int × Bool × Bool × Bool × Int × Int × Int × Int × Int × (List Int) × Int × (List Int) × Int × (List Int) := (d.p0, d.p1, d.p2, d.p3, d.p4, d.p5, d.p6, d.p7, d.p8, d.data, d.id, d.mac, d.e, x)
abbrev badC (e : Int) : Cc := ⟨0, false, false, false, 0, 0, 0, 0, 0, [], 0, [], e⟩
abbrev hdC (b : List Int) (data : List Int) (id : Int) (mac : List Int) : Cc := ⟨rd b 0 / 8, decide (rd b 1 ≥ 128), decide (rd b 1 / 64 % 2 = 1), decide (rd b 1 / 32 % 2 = 1), rd b 1 % 32, num (sub b 2 2), num (sub b 4 2), num (sub b 6 2), num (sub b 8 2), data, id, mac, 0⟩
def finC (b t : List Int) (n : Int) : Cc :=
  if padN n > (t.length : Int) then badC 32 else if ¬ num (sub t n.toNat (padN n - n).toNat) = 0 then badC 32 else match endD (t.drop (padN n).toNat) with
    | none => badC 32
    | some x => hdC b (t.take n.toNat) x.1 x.2
def decC (b : List Int) : Cc :=
  if (b.length : Int) > 512 then badC 31 else if (b.length : Int) < 12 then badC 30 else
  if 1 ≤ rd b 0 / 8 ∧ rd b 0 / 8 ≤ 4 then (if ¬ rd b 0 % 8 = 6 then badC 32 else finC b (b.drop 12) (num (sub b 10 2))) else badC 32
theorem flags_all : ∀ a : Fin 256, decide (¬ (Go.bits .and .u8 (a.val : Int) 128) = 0) = decide ((a.val : Int) ≥ 128) ∧ decide (¬ (Go.bits .and .u8 (a.val : Int) 64) = 0) = decide ((a.val : Int) / 64 % 2 = 1) ∧ decide (¬ (Go.bits .and .u8 (a.val : Int) 32) = 0) = decide ((a.val : Int) / 32 % 2 = 1) ∧ Go.bits .and .u8 (a.val : Int) 31 = (a.val : Int) % 32 := by decide +kernel
theorem flags_val (x : Int) (h : 0 ≤ x ∧ x < 256) : decide (¬ (Go.bits .and .u8 x 128) = 0) = decide (x ≥ 128) ∧ decide (¬ (Go.bits .and .u8 x 64) = 0) = decide (x / 64 % 2 = 1) ∧ decide (¬ (Go.bits .and .u8 x 32) = 0) = decide (x / 32 % 2 = 1) ∧ Go.bits .and .u8 x 31 = x % 32 := by
  have := flags_all ⟨x.toNat, by omega⟩
  simpa only [show ((x.toNat : Nat) : Int) = x by omega] using this
theorem j2_0 : wrap64 (2 + (wrap64 (2 * 0))) = 2 := by kernel_rfl
theorem j4_0 : wrap64 (4 + (wrap64 (2 * 0))) = 4 := by kernel_rfl
theorem jd_0 : ((4 : Int) - 2).toNat = 2 := rfl
theorem jt_0 : (2 : Int).toNat = 2 := rfl
theorem j2_1 : wrap64 (2 + (wrap64 (2 * 1))) = 4 := by kernel_rfl
theorem j4_1 : wrap64 (4 + (wrap64 (2 * 1))) = 6 := by kernel_rfl
theorem jd_1 : ((6 : Int) - 4).toNat = 2 := rfl
theorem jt_1 : (4 : Int).toNat = 4 := rfl
theorem j2_2 : wrap64 (2 + (wrap64 (2 * 2))) = 6 := by kernel_rfl
theorem j4_2 : wrap64 (4 + (wrap64 (2 * 2))) = 8 := by kernel_rfl
theorem jd_2 : ((8 : Int) - 6).toNat = 2 := rfl
theorem jt_2 : (6 : Int).toNat = 6 := rfl
theorem j2_3 : wrap64 (2 + (wrap64 (2 * 3))) = 8 := by kernel_rfl
theorem j4_3 : wrap64 (4 + (wrap64 (2 * 3))) = 10 := by kernel_rfl
theorem jd_3 : ((10 : Int) - 8).toNat = 2 := rfl
theorem jt_3 : (8 : Int).toNat = 8 := rfl
theorem cdec_end (b : List Int) {y0 y4 : Int} {y1 y2 y3 : Bool} (hb : By b) (hl : 12 ≤ b.length) (hu : b.length ≤ 512) (hh : ∀ data id mac, hdC b data id mac = ⟨y0, y1, y2, y3, y4, num (sub b 2 2), num (sub b 4 2), num (sub b 6 2), num (sub b 8 2), data, id, mac, 0⟩) : Ev (fun k => wire_DecodeControl.l0 k b 4 0 false false false 0 0 0 0 0 0 y0 y1 y2 y3 y4 (num (sub b 2 2)) (num (sub b 4 2)) (num (sub b 6 2)) (num (sub b 8 2)) 0) (tup13 (finC b (b.drop 12) (num (sub b 10 2)))) := by
  have n10 := num_sub2 hb 10 (by omega)
  refine Ev.step (fun k => by rw [wire_DecodeControl.l0, if_neg (by decide), if_pos (by omega)]) ?_
  refine Ev.bind (a := num (sub b 10 2)) (ev_number _ (hb.sub 10 2) (by rw [sub_len _ _ _ (by omega)]; decide)) ?_
  have w : wrap64 (num (sub b 10 2)) = num (sub b 10 2) := w64_in (by omega) (by omega)
  have hdl : (b.drop 12).length = b.length - 12 := List.length_drop
  have hdb := hb.drop 12
  refine Ev.congr (fun k => by rw [w, drop_all _ _ _ (by omega)]) ?_
  generalize num (sub b 10 2) = n at n10 ⊢
  generalize hT : b.drop 12 = t at hdl hdb ⊢
  have hpr := pad_rng n
  have hpf := pad_fill n
  have wp : wrap64 (n + (-n) % 4) = padN n := by rw [hpf, w64_in (by omega) (by omega)]
  unfold finC
  refine Ev.congr (fun k => by rw [if_pos (by omega), if_pos (by omega), fill_val n (by omega) (by omega), bsome, wp]) ?_
  by_cases c : padN n > (t.length : Int)
  · rw [if_pos c]
    exact Ev.congr (fun k => by rw [if_pos c]) (Ev.now _)
  rw [if_neg c]
  have hp4 : padN n - n ≤ 3 := by omega
  refine Ev.congr (fun k => by rw [if_neg c, bsome, wp, if_pos (by omega), if_pos (by omega), if_pos (by omega)]) ?_
  refine Ev.bind (a := num (sub t n.toNat (padN n - n).toNat)) (ev_number _ (hdb.sub n.toNat (padN n - n).toNat) (by rw [sub_len t _ _ (by omega)]; omega)) ?_
  by_cases z : ¬ num (sub t n.toNat (padN n - n).toNat) = 0
  · rw [if_pos z]
    exact Ev.congr (fun k => by rw [if_pos z]) (Ev.now _)
  rw [if_neg z]
  have htk : (t.drop 0).take (n - 0).toNat = t.take n.toNat := by rw [List.drop_zero, Int.sub_zero]
  have htl : (t.take n.toNat).length ≤ 1000 := by rw [List.length_take]; omega
  have hdp : (t.drop (padN n).toNat).take ((t.length : Int) - padN n).toNat = t.drop (padN n).toNat := drop_all _ _ _ (by omega)
  refine Ev.congr (fun k => by rw [if_neg z, if_pos (by omega), if_pos (by omega), htk, clone_val _ (Nat.le_trans htl (by decide)), bsome, bsome, wp, if_pos (by omega), if_pos (by omega), if_pos (by omega), hdp]) ?_
  obtain ⟨⟨t1, t2, t3⟩, ht, hd⟩ := ev_ended (t.drop (padN n).toNat) (hdb.drop _)
  rw [hd]
  refine Ev.bind ht ?_
  dsimp only
  cases t2 with
  | false => exact Ev.now _
  | true => show Ev _ (tup13 (hdC b (t.take n.toNat) t1 t3)); rw [hh]; exact Ev.now _
theorem cdec_loop (b : List Int) {y0 y4 : Int} {y1 y2 y3 : Bool} (hb : By b) (hl : 12 ≤ b.length) (hu : b.length ≤ 512) (hh : ∀ data id mac, hdC b data id mac = ⟨y0, y1, y2, y3, y4, num (sub b 2 2), num (sub b 4 2), num (sub b 6 2), num (sub b 8 2), data, id, mac, 0⟩) : Ev (fun k => wire_DecodeControl.l0 k b 0 0 false false false 0 0 0 0 0 0 y0 y1 y2 y3 y4 0 0 0 0 0) (tup13 (finC b (b.drop 12) (num (sub b 10 2)))) := by
  have n2 := num_sub2 hb 2 (by omega)
  have q2 : wrap64 (num (sub b 2 2)) = num (sub b 2 2) := w64_in (by omega) (by omega)
  have n4 := num_sub2 hb 4 (by omega)
  have q4 : wrap64 (num (sub b 4 2)) = num (sub b 4 2) := w64_in (by omega) (by omega)
  have n6 := num_sub2 hb 6 (by omega)
  have q6 : wrap64 (num (sub b 6 2)) = num (sub b 6 2) := w64_in (by omega) (by omega)
  have n8 := num_sub2 hb 8 (by omega)
  have q8 : wrap64 (num (sub b 8 2)) = num (sub b 8 2) := w64_in (by omega) (by omega)
  refine Ev.step (fun k => by rw [wire_DecodeControl.l0, if_pos (by decide), if_pos rfl, j2_0, j4_0, if_pos (by decide), if_pos (by decide), if_pos (by omega), jd_0, jt_0, w01]) ?_
  refine Ev.bind (a := num (sub b 2 2)) (ev_number _ (hb.sub 2 2) (by rw [sub_len _ _ _ (by omega)]; decide)) ?_
  rw [q2]
  refine Ev.step (fun k => by rw [wire_DecodeControl.l0, if_pos (by decide), if_neg (by decide), if_pos rfl, j2_1, j4_1, if_pos (by decide), if_pos (by decide), if_pos (by omega), jd_1, jt_1, w12]) ?_
  refine Ev.bind (a := num (sub b 4 2)) (ev_number _ (hb.sub 4 2) (by rw [sub_len _ _ _ (by omega)]; decide)) ?_
  rw [q4]
  refine Ev.step (fun k => by rw [wire_DecodeControl.l0, if_pos (by decide), if_neg (by decide), if_neg (by decide), if_pos rfl, j2_2, j4_2, if_pos (by decide), if_pos (by decide), if_pos (by omega), jd_2, jt_2, w23]) ?_
  refine Ev.bind (a := num (sub b 6 2)) (ev_number _ (hb.sub 6 2) (by rw [sub_len _ _ _ (by omega)]; decide)) ?_
  rw [q6]
  refine Ev.step (fun k => by rw [wire_DecodeControl.l0, if_pos (by decide), if_neg (by decide), if_neg (by decide), if_neg (by decide), if_pos rfl, j2_3, j4_3, if_pos (by decide), if_pos (by decide), if_pos (by omega), jd_3, jt_3, w34]) ?_
  refine Ev.bind (a := num (sub b 8 2)) (ev_number _ (hb.sub 8 2) (by rw [sub_len _ _ _ (by omega)]; decide)) ?_
  rw [q8]
  exact cdec_end b hb hl hu hh
theorem ev_cdec (b : List Int) (hb : By b) : Ev (fun k => wire_DecodeControl.f k b) (tup13 (decC b)) := by
  unfold wire_DecodeControl.f decC
  by_cases c1 : (b.length : Int) > 512
  · rw [if_pos c1]
    exact Ev.congr (fun k => by rw [sized_val, bsome, if_pos c1, if_pos (by decide)]) (Ev.now _)
  rw [if_neg c1]
  by_cases c2 : (b.length : Int) < 12
  · rw [if_pos c2]
    exact Ev.congr (fun k => by rw [sized_val, bsome, if_neg c1, if_pos c2, if_pos (by decide)]) (Ev.now _)
  rw [if_neg c2]
  have b0 := rd0_by hb 0 (by omega) 0 rfl
  have b1 := rd0_by hb 1 (by omega) 1 rfl
  have q0 : wrap64 (rd b 0 / 8) = rd b 0 / 8 := w64_in (by omega) (by omega)
  obtain ⟨f1, f2, f3, f4⟩ := flags_val (rd b 1) b1
  have f5 : wrap64 (Go.bits .and .u8 (rd b 1) 31) = rd b 1 % 32 := by rw [f4, w64_in (by omega) (by omega)]
  refine Ev.congr (fun k => by rw [sized_val, bsome, if_neg c1, if_neg c2, if_neg (fun h => h rfl), if_pos (by omega), if_pos (by omega), if_pos (by omega), if_pos (by omega), if_pos (by omega), q0, fits_val, bsome, bif_not]) ?_
  by_cases v : 1 ≤ rd b 0 / 8 ∧ rd b 0 / 8 ≤ 4
  case neg =>
    rw [if_neg v]
    exact Ev.congr (fun k => by rw [if_neg v]) (Ev.now _)
  rw [if_pos v]
  refine Ev.congr (fun k => by rw [if_pos v, mode_rd b hb (by omega), bsome]) ?_
  by_cases m : ¬ rd b 0 % 8 = 6
  · rw [if_pos m]
    exact Ev.congr (fun k => by rw [if_pos m]) (Ev.now _)
  rw [if_neg m]
  refine Ev.congr (fun k => by rw [if_neg m, f1, f2, f3, f5]) ?_
  exact cdec_loop b hb (by omega) (by omega) (fun data id mac => rfl)
theorem cdec_end_s1 (b : List Int) {y0 y4 : Int} {y1 y2 y3 : Bool} (hb : By b) (hl : 12 ≤ b.length) (hu : b.length ≤ 512) (hh : ∀ data id mac, hdC b data id mac = ⟨y0, y1, y2, y3, y4, num (sub b 2 2), num (sub b 4 2), num (sub b 6 2), num (sub b 8 2), data, id, mac, 0⟩) : Ev (fun k => wire_DecodeControl_s1.l0 k 4 b 0 false false false 0 0 0 0 0 0 y0 y1 y2 y3 y4 (num (sub b 2 2)) (num (sub b 4 2)) (num (sub b 6 2)) (num (sub b 8 2)) 0) (tup14 (finC b (b.drop 12) (num (sub b 10 2))) b) := by
  have n10 := num_sub2 hb 10 (by omega)
  refine Ev.step (fun k => by rw [wire_DecodeControl_s1.l0, if_neg (by decide), if_pos (by omega)]) ?_
  refine Ev.bind (a := num (sub b 10 2)) (ev_number _ (hb.sub 10 2) (by rw [sub_len _ _ _ (by omega)]; decide)) ?_
  have w : wrap64 (num (sub b 10 2)) = num (sub b 10 2) := w64_in (by omega) (by omega)
  have hdl : (b.drop 12).length = b.length - 12 := List.length_drop
  have hdb := hb.drop 12
  have hs : ∀ a c, (b.drop (12 + a)).take c = ((b.drop 12).drop a).take c := fun a c => by rw [List.drop_drop]
  have hn : ((((b.length : Int) - 12).toNat : Nat) : Int) = ((b.drop 12).length : Int) := by omega
  simp only [w, hs, hn]
  generalize num (sub b 10 2) = n at n10 ⊢
  clear hs hn
  generalize hT : b.drop 12 = t at hdl hdb ⊢
  have hpr := pad_rng n
  have hpf := pad_fill n
  have wp : wrap64 (n + (-n) % 4) = padN n := by rw [hpf, w64_in (by omega) (by omega)]
  unfold finC
  refine Ev.congr (fun k => by rw [if_pos (by omega), if_pos (by omega), fill_val n (by omega) (by omega), bsome, wp]) ?_
  by_cases c : padN n > (t.length : Int)
  · rw [if_pos c]
    exact Ev.congr (fun k => by rw [if_pos c]) (Ev.now _)
  rw [if_neg c]
  have hp4 : padN n - n ≤ 3 := by omega
  refine Ev.congr (fun k => by rw [if_neg c, bsome, wp, if_pos (by omega), if_pos (by omega), if_pos (by omega)]) ?_
  refine Ev.bind (a := num (sub t n.toNat (padN n - n).toNat)) (ev_number _ (hdb.sub n.toNat (padN n - n).toNat) (by rw [sub_len t _ _ (by omega)]; omega)) ?_
  by_cases z : ¬ num (sub t n.toNat (padN n - n).toNat) = 0
  · rw [if_pos z]
    exact Ev.congr (fun k => by rw [if_pos z]) (Ev.now _)
  rw [if_neg z]
  have htk : (t.drop 0).take (n - 0).toNat = t.take n.toNat := by rw [List.drop_zero, Int.sub_zero]
  have htl : (t.take n.toNat).length ≤ 1000 := by rw [List.length_take]; omega
  have hdp : (t.drop (padN n).toNat).take ((t.length : Int) - padN n).toNat = t.drop (padN n).toNat := drop_all _ _ _ (by omega)
  refine Ev.congr (fun k => by rw [if_neg z, if_pos (by omega), if_pos (by omega), htk, clone_val _ (Nat.le_trans htl (by decide)), bsome, bsome, wp, if_pos (by omega), if_pos (by omega), if_pos (by omega), hdp]) ?_
  obtain ⟨⟨t1, t2, t3⟩, ht, hd⟩ := ev_ended (t.drop (padN n).toNat) (hdb.drop _)
  rw [hd]
  refine Ev.bind ht ?_
  dsimp only
  cases t2 with
  | false => exact Ev.now _
  | true => show Ev _ (tup14 (hdC b (t.take n.toNat) t1 t3) b); rw [hh]; exact Ev.now _
theorem cdec_loop_s1 (b : List Int) {y0 y4 : Int} {y1 y2 y3 : Bool} (hb : By b) (hl : 12 ≤ b.length) (hu : b.length ≤ 512) (hh : ∀ data id mac, hdC b data id mac = ⟨y0, y1, y2, y3, y4, num (sub b 2 2), num (sub b 4 2), num (sub b 6 2), num (sub b 8 2), data, id, mac, 0⟩) : Ev (fun k => wire_DecodeControl_s1.l0 k 0 b 0 false false false 0 0 0 0 0 0 y0 y1 y2 y3 y4 0 0 0 0 0) (tup14 (finC b (b.drop 12) (num (sub b 10 2))) b) := by
  have n2 := num_sub2 hb 2 (by omega)
  have q2 : wrap64 (num (sub b 2 2)) = num (sub b 2 2) := w64_in (by omega) (by omega)
  have n4 := num_sub2 hb 4 (by omega)
  have q4 : wrap64 (num (sub b 4 2)) = num (sub b 4 2) := w64_in (by omega) (by omega)
  have n6 := num_sub2 hb 6 (by omega)
  have q6 : wrap64 (num (sub b 6 2)) = num (sub b 6 2) := w64_in (by omega) (by omega)
  have n8 := num_sub2 hb 8 (by omega)
  have q8 : wrap64 (num (sub b 8 2)) = num (sub b 8 2) := w64_in (by omega) (by omega)
  refine Ev.step (fun k => by rw [wire_DecodeControl_s1.l0, if_pos (by decide), if_pos rfl, j2_0, j4_0, if_pos (by decide), if_pos (by decide), if_pos (by omega), jd_0, jt_0, w01]) ?_
  refine Ev.bind (a := num (sub b 2 2)) (ev_number _ (hb.sub 2 2) (by rw [sub_len _ _ _ (by omega)]; decide)) ?_
  rw [q2]
  refine Ev.step (fun k => by rw [wire_DecodeControl_s1.l0, if_pos (by decide), if_neg (by decide), if_pos rfl, j2_1, j4_1, if_pos (by decide), if_pos (by decide), if_pos (by omega), jd_1, jt_1, w12]) ?_
  refine Ev.bind (a := num (sub b 4 2)) (ev_number _ (hb.sub 4 2) (by rw [sub_len _ _ _ (by omega)]; decide)) ?_
  rw [q4]
  refine Ev.step (fun k => by rw [wire_DecodeControl_s1.l0, if_pos (by decide), if_neg (by decide), if_neg (by decide), if_pos rfl, j2_2, j4_2, if_pos (by decide), if_pos (by decide), if_pos (by omega), jd_2, jt_2, w23]) ?_
  refine Ev.bind (a := num (sub b 6 2)) (ev_number _ (hb.sub 6 2) (by rw [sub_len _ _ _ (by omega)]; decide)) ?_
  rw [q6]
  refine Ev.step (fun k => by rw [wire_DecodeControl_s1.l0, if_pos (by decide), if_neg (by decide), if_neg (by decide), if_neg (by decide), if_pos rfl, j2_3, j4_3, if_pos (by decide), if_pos (by decide), if_pos (by omega), jd_3, jt_3, w34]) ?_
  refine Ev.bind (a := num (sub b 8 2)) (ev_number _ (hb.sub 8 2) (by rw [sub_len _ _ _ (by omega)]; decide)) ?_
  rw [q8]
  exact cdec_end_s1 b hb hl hu hh
theorem ev_cdec_s1 (b : List Int) (hb : By b) : Ev (fun k => wire_DecodeControl_s1.f k b) (tup14 (decC b) b) := by
  unfold wire_DecodeControl_s1.f decC
  by_cases c1 : (b.length : Int) > 512
  · rw [if_pos c1]
    exact Ev.congr (fun k => by rw [sized_val, bsome, if_pos c1, if_pos (by decide)]) (Ev.now _)
  rw [if_neg c1]
  by_cases c2 : (b.length : Int) < 12
  · rw [if_pos c2]
    exact Ev.congr (fun k => by rw [sized_val, bsome, if_neg c1, if_pos c2, if_pos (by decide)]) (Ev.now _)
  rw [if_neg c2]
  have b0 := rd0_by hb 0 (by omega) 0 rfl
  have b1 := rd0_by hb 1 (by omega) 1 rfl
  have q0 : wrap64 (rd b 0 / 8) = rd b 0 / 8 := w64_in (by omega) (by omega)
  obtain ⟨f1, f2, f3, f4⟩ := flags_val (rd b 1) b1
  have f5 : wrap64 (Go.bits .and .u8 (rd b 1) 31) = rd b 1 % 32 := by rw [f4, w64_in (by omega) (by omega)]
  refine Ev.congr (fun k => by rw [sized_val, bsome, if_neg c1, if_neg c2, if_neg (fun h => h rfl), if_pos (by omega), if_pos (by omega), if_pos (by omega), if_pos (by omega), if_pos (by omega), q0, fits_val, bsome, bif_not]) ?_
  by_cases v : 1 ≤ rd b 0 / 8 ∧ rd b 0 / 8 ≤ 4
  case neg =>
    rw [if_neg v]
    exact Ev.congr (fun k => by rw [if_neg v]) (Ev.now _)
  rw [if_pos v]
  refine Ev.congr (fun k => by rw [if_pos v, mode_rd b hb (by omega), bsome]) ?_
  by_cases m : ¬ rd b 0 % 8 = 6
  · rw [if_pos m]
    exact Ev.congr (fun k => by rw [if_pos m]) (Ev.now _)
  rw [if_neg m]
  refine Ev.congr (fun k => by rw [if_neg m, f1, f2, f3, f5]) ?_
  exact cdec_loop_s1 b hb (by omega) (by omega) (fun data id mac => rfl)
theorem num_zero (l : List Int) (h : By l) : num l = 0 ↔ ∀ x ∈ l, x = 0 := by
  have key : ∀ n, n ≤ l.length → (num (l.take n) = 0 ↔ ∀ x ∈ l.take n, x = 0) := by
    intro n
    induction n with
    | zero => intro _; simp [num]
    | succ n ih =>
      intro hn
      have ih := ih (by omega)
      have hb := h l[n] (List.getElem_mem (by omega))
      have hr := (num_rng h n).1
      rw [List.take_succ_eq_append_getElem (by omega), num_snoc]
      constructor
      · intro h0 x hx
        rcases List.mem_append.1 hx with hx | hx
        · exact ih.1 (by omega) x hx
        · simp only [List.mem_cons, List.not_mem_nil, or_false] at hx
          subst hx; omega
      · intro h0
        have h1 := ih.2 (fun x hx => h0 x (List.mem_append.2 (.inl hx)))
        have h2 := h0 l[n] (List.mem_append.2 (.inr (by simp)))
        omega
  have := key l.length (Nat.le_refl _)
  rwa [List.take_length] at this
theorem rcdec_loop (b t : List Int) (n : Int) {y0 y4 : Int} {y1 y2 y3 : Bool} (hh : ∀ data id mac, hdC b data id mac = ⟨y0, y1, y2, y3, y4, num (sub b 2 2), num (sub b 4 2), num (sub b 6 2), num (sub b 8 2), data, id, mac, 0⟩) (ht : By t) (hl : t.length ≤ 512) (h0 : 0 ≤ n) (hp : padN n ≤ (t.length : Int)) : ∀ (m i : Nat), i + m = (padN n).toNat → n.toNat ≤ i → Ev (fun k => foliotref03_DecodeControl.l0 k t n (i : Int) 0 false false false 0 0 0 0 0 0 0 false false false 0 0 0 0 0 0 y0 y1 y2 y3 y4 (num (sub b 2 2)) (num (sub b 4 2)) (num (sub b 6 2)) (num (sub b 8 2)) 0) (tup13 (if ¬ num (sub t i m) = 0 then badC 32 else match endD (t.drop (padN n).toNat) with
    | none => badC 32
    | some x => hdC b (t.take n.toNat) x.1 x.2))
  | 0, i, h, hi => by
    have hpr := pad_rng n
    have hz : num (sub t i 0) = 0 := by unfold sub; rw [List.take_zero]; rfl
    rw [if_neg (show ¬ ¬ num (sub t i 0) = 0 from fun h => h hz)]
    have htk : (t.drop 0).take (n - 0).toNat = t.take n.toNat := by rw [List.drop_zero, Int.sub_zero]
    have htl : (t.take n.toNat).length ≤ 1000 := by rw [List.length_take]; omega
    have hdp : (t.drop (padN n).toNat).take ((t.length : Int) - padN n).toNat = t.drop (padN n).toNat := drop_all _ _ _ (by omega)
    refine Ev.step (fun k => by rw [foliotref03_DecodeControl.l0, padded_val n h0 (by omega), bsome, if_neg (by omega), if_pos (by omega), if_pos (by omega), htk, rclone_val _ (Nat.le_trans htl (by decide)), bsome, bsome, if_pos (by omega), if_pos (by omega), if_pos (by omega), hdp]) ?_
    obtain ⟨⟨t1, t2, t3⟩, htt, hd⟩ := ev_tail (t.drop (padN n).toNat) (ht.drop _)
    rw [hd]
    refine Ev.bind htt ?_
    dsimp only
    cases t2 with
    | false => exact Ev.now _
    | true => show Ev _ (tup13 (hdC b (t.take n.toNat) t1 t3)); rw [hh]; exact Ev.now _
  | m + 1, i, h, hi => by
    have hpr := pad_rng n
    have hlt : i < t.length := by omega
    have hcons : sub t i (m + 1) = t[i] :: sub t (i + 1) m := by
      unfold sub; rw [List.drop_eq_getElem_cons hlt]; rfl
    by_cases z : t[i] = 0
    · have ih := rcdec_loop b t n hh ht hl h0 hp m (i + 1) (by omega) (by omega)
      have e : (num (sub t i (m + 1)) = 0) = (num (sub t (i + 1) m) = 0) := by
        apply propext
        rw [num_zero _ (ht.sub _ _), num_zero _ (ht.sub _ _), hcons]
        simp [z]
      simp only [e]
      refine Ev.step (fun k => by rw [foliotref03_DecodeControl.l0, padded_val n h0 (by omega), bsome, if_pos (by omega), if_pos (by omega), if_pos (by omega), rd_nat t i hlt, if_neg (fun h => h z), wrap_succ i (by omega)]) ih
    · have e : ¬ num (sub t i (m + 1)) = 0 := fun h => by
        rw [num_zero _ (ht.sub _ _), hcons] at h
        exact z (h _ (by simp))
      rw [if_pos e]
      exact Ev.succ fun k => by rw [foliotref03_DecodeControl.l0, padded_val n h0 (by omega), bsome, if_pos (by omega), if_pos (by omega), if_pos (by omega), rd_nat t i hlt, if_pos z]
theorem ev_rcdec (b : List Int) (hb : By b) : Ev (fun k => foliotref03_DecodeControl.f k b) (tup13 (decC b)) := by
  unfold foliotref03_DecodeControl.f decC
  by_cases c1 : (b.length : Int) > 512
  · rw [if_pos c1]
    exact Ev.congr (fun k => by rw [if_pos c1]) (Ev.now _)
  rw [if_neg c1]
  by_cases c2 : (b.length : Int) < 12
  · rw [if_pos c2]
    exact Ev.congr (fun k => by rw [if_neg c1, if_pos c2]) (Ev.now _)
  rw [if_neg c2]
  have b0 := rd0_by hb 0 (by omega) 0 rfl
  have b1 := rd0_by hb 1 (by omega) 1 rfl
  have q0 : wrap64 ((Int.tdiv (rd b 0) 8) % 256) = rd b 0 / 8 := by rw [tdiv_e _ _ b0.1, w64_in (by omega) (by omega)]; omega
  have q1 : Int.tmod (rd b 0) 8 = rd b 0 % 8 := tmod_e _ _ b0.1
  have q2 : Int.tmod ((Int.tdiv (rd b 1) 64) % 256) 2 = rd b 1 / 64 % 2 := by rw [tdiv_e _ _ b1.1, tmod_e _ _ (by omega)]; omega
  have q3 : Int.tmod ((Int.tdiv (rd b 1) 32) % 256) 2 = rd b 1 / 32 % 2 := by rw [tdiv_e _ _ b1.1, tmod_e _ _ (by omega)]; omega
  have q4 : wrap64 (Int.tmod (rd b 1) 32) = rd b 1 % 32 := by rw [tmod_e _ _ b1.1, w64_in (by omega) (by omega)]
  refine Ev.congr (fun k => by rw [if_neg c1, if_neg c2, if_pos (by omega), if_pos (by omega), if_pos (by omega), if_pos (by omega), if_pos (by omega), q0, q1, q2, q3, q4, within_val, bsome, bif_not]) ?_
  by_cases v : 1 ≤ rd b 0 / 8 ∧ rd b 0 / 8 ≤ 4
  case neg =>
    rw [if_neg v]
    exact Ev.congr (fun k => by rw [if_neg v]) (Ev.now _)
  rw [if_pos v]
  refine Ev.congr (fun k => by rw [if_pos v, if_pos (by omega)]) ?_
  by_cases m : ¬ rd b 0 % 8 = 6
  · rw [if_pos m]
    exact Ev.congr (fun k => by rw [if_pos m]) (Ev.now _)
  rw [if_neg m]
  refine Ev.congr (fun k => by rw [if_neg m, if_pos (by omega)]) ?_
  have hw : ∀ a, a + 2 ≤ b.length → wrap64 (num (sub b a 2)) = num (sub b a 2) := fun a ha => by have := num_sub2 hb a ha; exact w64_in (by omega) (by omega)
  refine Ev.bind (a := num (sub b 2 2)) (ev_get _ (hb.sub 2 2) (by rw [sub_len _ _ _ (by omega)]; decide)) ?_
  refine Ev.congr (fun k => by rw [if_pos (by omega)]) ?_
  refine Ev.bind (a := num (sub b 4 2)) (ev_get _ (hb.sub 4 2) (by rw [sub_len _ _ _ (by omega)]; decide)) ?_
  refine Ev.congr (fun k => by rw [if_pos (by omega)]) ?_
  refine Ev.bind (a := num (sub b 6 2)) (ev_get _ (hb.sub 6 2) (by rw [sub_len _ _ _ (by omega)]; decide)) ?_
  refine Ev.congr (fun k => by rw [if_pos (by omega)]) ?_
  refine Ev.bind (a := num (sub b 8 2)) (ev_get _ (hb.sub 8 2) (by rw [sub_len _ _ _ (by omega)]; decide)) ?_
  refine Ev.congr (fun k => by rw [if_pos (by omega)]) ?_
  refine Ev.bind (a := num (sub b 10 2)) (ev_get _ (hb.sub 10 2) (by rw [sub_len _ _ _ (by omega)]; decide)) ?_
  have n10 := num_sub2 hb 10 (by omega)
  have hpr := pad_rng (num (sub b 10 2))
  have hdl : (b.drop 12).length = b.length - 12 := List.length_drop
  refine Ev.congr (fun k => by rw [if_pos (by omega), if_pos (by omega), hw 10 (by omega), hw 2 (by omega), hw 4 (by omega), hw 6 (by omega), hw 8 (by omega), padded_val _ n10.1 (by omega), bsome, drop_all _ _ _ (by omega)]) ?_
  unfold finC
  by_cases c : padN (num (sub b 10 2)) > ((b.drop 12).length : Int)
  · rw [if_pos c]
    exact Ev.congr (fun k => by rw [if_pos c]) (Ev.now _)
  rw [if_neg c]
  refine Ev.congr (fun k => by rw [if_neg c]) ?_
  have := rcdec_loop b (b.drop 12) (num (sub b 10 2)) (fun data id mac => rfl) (hb.drop 12) (by omega) n10.1 (by omega) (padN (num (sub b 10 2)) - num (sub b 10 2)).toNat (num (sub b 10 2)).toNat (by omega) (Nat.le_refl _)
  rw [show (((num (sub b 10 2)).toNat : Nat) : Int) = num (sub b 10 2) by omega] at this
  exact this
end Go.Proofs.Ytamhnlcdmjefmaa.Q
