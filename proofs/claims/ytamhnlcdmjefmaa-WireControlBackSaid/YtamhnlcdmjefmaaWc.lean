/- Plain lemmas on the printed functions: whole numbers and lists, no program in sight. -/
import Derived.Test.YtamhnlcdmjefmaaWb
import Derived.Laws.BitsLemmas
namespace Go.Proofs.Ytamhnlcdmjefmaa.Q
open Go Go.RowKit Go.Proofs.Ytamhnlcdmjefmaa.Ev
set_option linter.unusedVariables false
set_option linter.unusedSimpArgs false
set_option maxRecDepth 100000
/-! ### a packet's bytes -/
abbrev sub (b : List Int) (a c : Nat) : List Int := (b.drop a).take c
theorem sub_len (b : List Int) (a c : Nat) (h : a + c ≤ b.length) : (sub b a c).length = c := by
  rw [List.length_take, List.length_drop]; omega
theorem By.sub {b : List Int} (h : By b) (a c : Nat) : By (sub b a c) := (h.drop a).take c
theorem sub_sub (e : List Int) (o n a c : Nat) (h : a + c ≤ n) : sub (sub e o n) a c = sub e (o + a) c := by
  unfold sub
  rw [List.drop_take, List.take_take, List.drop_drop, Nat.min_eq_left (by omega)]
theorem rd_sub (e : List Int) (o n : Nat) (i : Nat) (h : i < n) (he : o + n ≤ e.length) : rd e ((i : Int) + (o : Int)) = rd (sub e o n) (i : Int) := by
  rw [show ((i : Int) + (o : Int)) = ((o + i : Nat) : Int) by omega, rd_nat e (o + i) (by omega), rd_nat _ i (by rw [sub_len _ _ _ he]; exact h)]
  simp only [sub, List.getElem_take, List.getElem_drop]
theorem rd_by {b : List Int} (h : By b) (i : Nat) (hi : i < b.length) : 0 ≤ rd b (i : Int) ∧ rd b (i : Int) < 256 := by
  rw [rd_nat b i hi]; exact h _ (List.getElem_mem hi)
theorem clone_val (l : List Int) (h : l.length ≤ 1000000000000) : bytes_Clone.f l = some l := by
  have hb : (if (2 * (([] : List Int).length + l.length) + 200) * 2 ≤ 281474976710656 then (some l) else none) = some l := if_pos (by simp only [List.length_nil]; omega)
  exact nilc_of hb fun e => by rw [e]
theorem rclone_val (l : List Int) (h : l.length ≤ 1000000000000) : foliotref03_clone.f l = some l := if_pos (by simp only [List.length_nil]; omega)
/-- The extension fields: what is left, an error, the fields. -/
def extsD : Nat → List S45 → List Int → List Int × Int × List S45
  | 0, acc, b => (b, 0, acc)
  | n + 1, acc, b => if (b.length : Int) > 24 then (if (acc.length : Int) = 4 then ([], 54, []) else
      if num (sub b 2 2) < 28 then ([], 32, []) else if ¬ num (sub b 2 2) % 4 = 0 then ([], 32, []) else if num (sub b 2 2) > (b.length : Int) then ([], 32, []) else
      extsD n (acc ++ [⟨num (sub b 0 2), sub b 4 (num (sub b 2 2) - 4).toNat⟩]) (b.drop (num (sub b 2 2)).toNat))
    else (b, 0, acc)
theorem drop_all (b : List Int) (n : Nat) (m : Int) (h : m = (b.length : Int) - (n : Int)) : (b.drop n).take m.toNat = b.drop n := by
  rw [List.take_of_length_le]
  rw [List.length_drop]; omega
theorem num_sub2 {b : List Int} (h : By b) (a : Nat) (hb : a + 2 ≤ b.length) : 0 ≤ num (sub b a 2) ∧ num (sub b a 2) < 65536 := by
  have := num_bd (h.sub a 2)
  rw [sub_len _ _ _ hb] at this
  exact this
theorem num_sub4 {b : List Int} (h : By b) (a : Nat) (hb : a + 4 ≤ b.length) : 0 ≤ num (sub b a 4) ∧ num (sub b a 4) < 4294967296 := by
  have := num_bd (h.sub a 4)
  rw [sub_len _ _ _ hb] at this
  exact this
theorem num_sub8 {b : List Int} (h : By b) (a : Nat) (hb : a + 8 ≤ b.length) : 0 ≤ num (sub b a 8) ∧ num (sub b a 8) < 18446744073709551616 := by
  have := num_bd (h.sub a 8)
  rw [sub_len _ _ _ hb] at this
  exact this
theorem tmodi (n : Int) (h : 0 ≤ n) : Int.tmod n 4 = n % 4 := Int.tmod_eq_emod_of_nonneg h
theorem exts_ev : ∀ (m : Nat) (acc : List S45) (b : List Int), By b → b.length ≤ 1000 → acc.length + (m + 1) = 5 → Ev (fun k => wire_extensions.l0 k b acc) (extsD (m + 1) acc b)
  | m, acc, b, hb, hl, ha => by
    rw [extsD]
    by_cases c : (b.length : Int) > 24
    case neg =>
      rw [if_neg c]
      exact Ev.succ fun k => by rw [wire_extensions.l0, if_neg c]
    rw [if_pos c]
    by_cases c4 : (acc.length : Int) = 4
    · rw [if_pos c4]
      exact Ev.succ fun k => by rw [wire_extensions.l0, if_pos c, if_pos c4]
    rw [if_neg c4]
    have n2 := num_sub2 hb 2 (by omega)
    refine Ev.step (fun k => by rw [wire_extensions.l0, if_pos c, if_neg c4, if_pos (by omega)]) ?_
    refine Ev.bind (a := num (sub b 2 2)) (ev_number _ (hb.sub 2 2) (by rw [sub_len _ _ _ (by omega)]; decide)) ?_
    have w : wrap64 (num (sub b 2 2)) = num (sub b 2 2) := w64_in (by omega) (by omega)
    refine Ev.congr (fun k => by rw [w]) ?_
    by_cases c5 : num (sub b 2 2) < 28
    · exact Ev.congr (fun k => by rw [if_pos c5, if_pos c5]) (Ev.now _)
    rw [if_neg c5]
    refine Ev.congr (fun k => by rw [if_neg c5, tmodi _ n2.1]) ?_
    by_cases c6 : ¬ num (sub b 2 2) % 4 = 0
    · exact Ev.congr (fun k => by rw [if_pos c6, if_pos c6]) (Ev.now _)
    rw [if_neg c6]
    refine Ev.congr (fun k => by rw [if_neg c6]) ?_
    by_cases c7 : num (sub b 2 2) > (b.length : Int)
    · exact Ev.congr (fun k => by rw [if_pos c7, if_pos c7]) (Ev.now _)
    rw [if_neg c7]
    refine Ev.congr (fun k => by rw [if_neg c7, if_pos (by omega)]) ?_
    have n0 := num_sub2 hb 0 (by omega)
    refine Ev.bind (a := num (sub b 0 2)) (ev_number _ (hb.sub 0 2) (by rw [sub_len _ _ _ (by omega)]; decide)) ?_
    have w0 : wrap64 (num (sub b 0 2)) = num (sub b 0 2) := w64_in (by omega) (by omega)
    have hcl : (sub b 4 (num (sub b 2 2) - 4).toNat).length ≤ 1000 := by rw [sub_len _ _ _ (by omega)]; omega
    refine Ev.congr (fun k => by rw [w0, if_pos (by omega), if_pos (by omega), clone_val _ (by exact Nat.le_trans hcl (by decide)), bsome, if_pos (by simp only [List.length_cons, List.length_nil]; omega), if_pos (by omega), if_pos (by omega), if_pos (by omega), drop_all _ _ _ (by omega)]) ?_
    match m, ha with
    | m + 1, ha =>
      exact exts_ev m _ _ (hb.drop _) (by rw [List.length_drop]; omega) (by simp only [List.length_append, List.length_cons, List.length_nil]; omega)
    | 0, ha => exact absurd (show (acc.length : Int) = 4 by omega) c4
theorem ev_exts (b : List Int) (hb : By b) (hl : b.length ≤ 1000) : Ev (fun k => wire_extensions.f k b) (extsD 5 [] b) := exts_ev 4 [] b hb hl rfl
theorem exts_ev1 (e0 : List Int) : ∀ (m : Nat) (acc : List S45) (o n : Nat), By (sub e0 o n) → n ≤ 1000 → o + n ≤ e0.length → acc.length + (m + 1) = 5 → ∃ q : Nat × Nat, Ev (fun k => wire_extensions_s1.l0 k (o, n) e0 acc) (q, (extsD (m + 1) acc (sub e0 o n)).2.1, e0, (extsD (m + 1) acc (sub e0 o n)).2.2) ∧ ((extsD (m + 1) acc (sub e0 o n)).2.1 = 0 → sub e0 q.1 q.2 = (extsD (m + 1) acc (sub e0 o n)).1 ∧ q.2 = (extsD (m + 1) acc (sub e0 o n)).1.length)
  | m, acc, o, n, hb, hl, he, ha => by
    have hn : (sub e0 o n).length = n := sub_len _ _ _ he
    rw [extsD, hn]
    by_cases c : (n : Int) > 24
    case neg =>
      rw [if_neg c]
      exact ⟨(o, n), Ev.succ fun k => by rw [wire_extensions_s1.l0, if_neg c], fun _ => ⟨rfl, hn.symm⟩⟩
    rw [if_pos c]
    by_cases c4 : (acc.length : Int) = 4
    · rw [if_pos c4]
      exact ⟨(0, 0), Ev.succ fun k => by rw [wire_extensions_s1.l0, if_pos c, if_pos c4], fun h => absurd h (by decide)⟩
    rw [if_neg c4]
    have n2 := num_sub2 hb 2 (by omega)
    have s2 : (e0.drop (o + 2)).take 2 = sub (sub e0 o n) 2 2 := (sub_sub e0 o n 2 2 (by omega)).symm
    have s0 : (e0.drop (o + 0)).take 2 = sub (sub e0 o n) 0 2 := (sub_sub e0 o n 0 2 (by omega)).symm
    have s4 : ∀ c, 4 + c ≤ n → (e0.drop (o + 4)).take c = sub (sub e0 o n) 4 c := fun c h => (sub_sub e0 o n 4 c h).symm
    have go : ∀ {q : Nat × Nat} {r : Int × List Int × List S45}, Ev (fun k => (fun t0 => (if (wrap64 (t0)) < 28 then (some ((0, 0), 32, e0, ([] : List S45))) else (if ¬ (Int.tmod (wrap64 (t0)) 4) = 0 then (some ((0, 0), 32, e0, ([] : List S45))) else (if (wrap64 (t0)) > (n : Int) then (some ((0, 0), 32, e0, ([] : List S45))) else (if 2 ≤ (n : Int) then ((wire_number.f k ((e0.drop (o + 0)).take 2)).bind fun t1 => (if 4 ≤ (wrap64 (t0)) then (if (wrap64 (t0)) ≤ (n : Int) then ((bytes_Clone.f ((e0.drop (o + 4)).take (((wrap64 (t0)) - 4).toNat))).bind fun t2 => (if (2 * (acc.length + ([(⟨(wrap64 (t1)), t2⟩ : S45)] : List S45).length) + 200) * 33 ≤ 281474976710656 then (if 0 ≤ (wrap64 (t0)) then (if (wrap64 (t0)) ≤ (n : Int) then (if (n : Int) ≤ (n : Int) then (wire_extensions_s1.l0 k ((o + (wrap64 (t0)).toNat), ((n : Int) - (wrap64 (t0))).toNat) e0 (acc ++ ([(⟨(wrap64 (t1)), t2⟩ : S45)] : List S45))) else none) else none) else none) else none)) else none) else none)) else none))))) (num (sub (sub e0 o n) 2 2))) (q, r) → Ev (fun k => wire_extensions_s1.l0 k (o, n) e0 acc) (q, r) := fun h => by
      refine Ev.step (fun k => by rw [wire_extensions_s1.l0, if_pos c, if_neg c4, if_pos (by omega), s2]) ?_
      exact Ev.bind (ev_number _ (hb.sub 2 2) (by rw [sub_len _ _ _ (by omega)]; decide)) h
    have w : wrap64 (num (sub (sub e0 o n) 2 2)) = num (sub (sub e0 o n) 2 2) := w64_in (by omega) (by omega)
    by_cases c5 : num (sub (sub e0 o n) 2 2) < 28
    · rw [if_pos c5]
      exact ⟨(0, 0), go (by dsimp only; exact Ev.congr (fun k => by rw [w, if_pos c5]) (Ev.now _)), fun h => absurd h (by decide)⟩
    rw [if_neg c5]
    by_cases c6 : ¬ num (sub (sub e0 o n) 2 2) % 4 = 0
    · rw [if_pos c6]
      exact ⟨(0, 0), go (by dsimp only; exact Ev.congr (fun k => by rw [w, if_neg c5, tmodi _ n2.1, if_pos c6]) (Ev.now _)), fun h => absurd h (by decide)⟩
    rw [if_neg c6]
    by_cases c7 : num (sub (sub e0 o n) 2 2) > (n : Int)
    · rw [if_pos c7]
      exact ⟨(0, 0), go (by dsimp only; exact Ev.congr (fun k => by rw [w, if_neg c5, tmodi _ n2.1, if_neg c6, if_pos c7]) (Ev.now _)), fun h => absurd h (by decide)⟩
    rw [if_neg c7]
    have n0 := num_sub2 hb 0 (by omega)
    have w0 : wrap64 (num (sub (sub e0 o n) 0 2)) = num (sub (sub e0 o n) 0 2) := w64_in (by omega) (by omega)
    have hcl : (sub (sub e0 o n) 4 (num (sub (sub e0 o n) 2 2) - 4).toNat).length ≤ 1000 := by rw [sub_len _ _ _ (by omega)]; omega
    match m, ha with
    | m + 1, ha =>
      have hdr : (sub e0 o n).drop (num (sub (sub e0 o n) 2 2)).toNat = sub e0 (o + (num (sub (sub e0 o n) 2 2)).toNat) ((n : Int) - num (sub (sub e0 o n) 2 2)).toNat := by
        generalize num (sub (sub e0 o n) 2 2) = z at c7 c5 n2
        unfold sub
        rw [List.drop_take, List.drop_drop]
        congr 1; omega
      obtain ⟨q, h1, h2⟩ := exts_ev1 e0 m (acc ++ [⟨num (sub (sub e0 o n) 0 2), sub (sub e0 o n) 4 (num (sub (sub e0 o n) 2 2) - 4).toNat⟩]) (o + (num (sub (sub e0 o n) 2 2)).toNat) ((n : Int) - num (sub (sub e0 o n) 2 2)).toNat (by rw [← hdr]; exact hb.drop _) (by omega) (by omega) (by simp only [List.length_append, List.length_cons, List.length_nil]; omega)
      rw [← hdr] at h1 h2
      refine ⟨q, go ?_, h2⟩
      dsimp only
      refine Ev.congr (fun k => by rw [w, if_neg c5, tmodi _ n2.1, if_neg c6, if_neg c7, if_pos (by omega), s0]) ?_
      refine Ev.bind (ev_number _ (hb.sub 0 2) (by rw [sub_len _ _ _ (by omega)]; decide)) ?_
      refine Ev.congr (fun k => by rw [w0, if_pos (by omega), if_pos (by omega), s4 _ (by omega), clone_val _ (by exact Nat.le_trans hcl (by decide)), bsome, if_pos (by simp only [List.length_cons, List.length_nil]; omega), if_pos (by omega), if_pos (by omega), if_pos (by omega)]) h1
    | 0, ha => exact absurd (show (acc.length : Int) = 4 by omega) c4
theorem ev_exts1 (e0 : List Int) (o n : Nat) (hb : By (sub e0 o n)) (hl : n ≤ 1000) (he : o + n ≤ e0.length) : ∃ q : Nat × Nat, Ev (fun k => wire_extensions_s1.f k (o, n) e0) (q, (extsD 5 [] (sub e0 o n)).2.1, e0, (extsD 5 [] (sub e0 o n)).2.2) ∧ ((extsD 5 [] (sub e0 o n)).2.1 = 0 → sub e0 q.1 q.2 = (extsD 5 [] (sub e0 o n)).1 ∧ q.2 = (extsD 5 [] (sub e0 o n)).1.length) := exts_ev1 e0 4 [] o n hb hl he rfl
theorem extsD_by : ∀ (n : Nat) (acc : List S45) (b : List Int), By b → By (extsD n acc b).1
  | 0, acc, b, h => h
  | n + 1, acc, b, h => by
    rw [extsD]
    split
    · split
      · exact By.nil
      · split
        · exact By.nil
        · split
          · exact By.nil
          · split
            · exact By.nil
            · exact extsD_by n _ _ (h.drop _)
    · exact h
theorem extsD_len : ∀ (n : Nat) (acc : List S45) (b : List Int), (extsD n acc b).1.length ≤ b.length
  | 0, acc, b => Nat.le_refl _
  | n + 1, acc, b => by
    rw [extsD]
    split
    · split
      · exact Nat.zero_le _
      · split
        · exact Nat.zero_le _
        · split
          · exact Nat.zero_le _
          · split
            · exact Nat.zero_le _
            · exact Nat.le_trans (extsD_len n _ _) (by rw [List.length_drop]; omega)
    · exact Nat.le_refl _
/-- The key and the digest at the end. -/
def endD (r : List Int) : Option (Int × List Int) :=
  if (r.length : Int) = 0 then some (0, []) else
    if (r.length = 20 ∨ r.length = 24) ∧ 1 ≤ num (sub r 0 4) ∧ num (sub r 0 4) ≤ 65535 then some (num (sub r 0 4), r.drop 4) else none
theorem ev_ended (r : List Int) (hb : By r) : ∃ t : Int × Bool × List Int, Ev (fun k => wire_ended.f k r) t ∧ endD r = (if t.2.1 = true then some (t.1, t.2.2) else none) := by
  unfold endD wire_ended.f
  by_cases c : (r.length : Int) = 0
  · exact ⟨(0, true, []), Ev.congr (fun k => by rw [if_pos c]) (Ev.now _), by rw [if_pos c, if_pos rfl]⟩
  rw [if_neg c]
  by_cases d : r.length = 20 ∨ r.length = 24
  · have n0 := num_sub4 hb 0 (by omega)
    have w0 : wrap64 (num (sub r 0 4)) = num (sub r 0 4) := w64_in (by omega) (by omega)
    have j : Ev (fun k => wire_ended.j0 k r) (num (sub r 0 4), decide (1 ≤ num (sub r 0 4) ∧ num (sub r 0 4) ≤ 65535), r.drop 4) := by
      refine Ev.step (fun k => by rw [wire_ended.j0, if_pos (by omega)]) ?_
      refine Ev.bind (a := num (sub r 0 4)) (ev_number _ (hb.sub 0 4) (by rw [sub_len _ _ _ (by omega)]; decide)) ?_
      refine Ev.congr (fun k => by rw [w0, if_pos (by omega), if_pos (by omega), drop_all _ _ _ (by omega), clone_val _ (by rw [List.length_drop]; omega), bsome, fits_val, bsome]) (Ev.now _)
    refine ⟨_, Ev.congr (fun k => ?_) j, ?_⟩
    · rw [if_neg c]
      rcases d with d | d
      · rw [if_pos (by omega)]
      · rw [if_neg (by omega), if_pos (by omega)]
    · by_cases f : 1 ≤ num (sub r 0 4) ∧ num (sub r 0 4) ≤ 65535
      · rw [if_pos ⟨d, f⟩, if_pos (decide_eq_true f)]
      · rw [if_neg (fun h => f h.2), if_neg (by rw [decide_eq_false f]; exact Bool.false_ne_true)]
  · refine ⟨(0, false, []), Ev.congr (fun k => by rw [if_neg c, if_neg (by omega), if_neg (by omega)]) (Ev.now _), ?_⟩
    rw [if_neg (fun h => d h.1)]; rfl
theorem ev_tail (r : List Int) (hb : By r) : ∃ t : Int × Bool × List Int, Ev (fun k => foliotref03_tail.f k r) t ∧ endD r = (if t.2.1 = true then some (t.1, t.2.2) else none) := by
  unfold endD foliotref03_tail.f
  by_cases c : (r.length : Int) = 0
  · exact ⟨(0, true, []), Ev.congr (fun k => by rw [if_pos c]) (Ev.now _), by rw [if_pos c, if_pos rfl]⟩
  rw [if_neg c]
  by_cases d : r.length = 20 ∨ r.length = 24
  · have n0 := num_sub4 hb 0 (by omega)
    have w0 : wrap64 (num (sub r 0 4)) = num (sub r 0 4) := w64_in (by omega) (by omega)
    have j : Ev (fun k => (if 4 ≤ (r.length : Int) then ((foliotref03_get.f k ((r.drop 0).take 4)).bind fun t2 => (if 4 ≤ (r.length : Int) then (if (r.length : Int) ≤ (r.length : Int) then ((foliotref03_clone.f ((r.drop 4).take ((r.length : Int) - 4).toNat)).bind fun t3 => (if t2 ≥ 1 then (some ((wrap64 (t2)), (decide (t2 ≤ 65535)), t3)) else (some ((wrap64 (t2)), false, t3)))) else none) else none)) else none)) (num (sub r 0 4), decide (1 ≤ num (sub r 0 4) ∧ num (sub r 0 4) ≤ 65535), r.drop 4) := by
      refine Ev.congr (fun k => by rw [if_pos (by omega)]) ?_
      refine Ev.bind (a := num (sub r 0 4)) (ev_get _ (hb.sub 0 4) (by rw [sub_len _ _ _ (by omega)]; decide)) ?_
      refine Ev.congr (fun k => by rw [w0, if_pos (by omega), if_pos (by omega), drop_all _ _ _ (by omega), rclone_val _ (by rw [List.length_drop]; omega), bsome]) ?_
      by_cases g : num (sub r 0 4) ≥ 1
      · simp only [g, if_true, show 1 ≤ num (sub r 0 4) from g, true_and]; exact Ev.now _
      · simp only [g, if_false, show ¬ 1 ≤ num (sub r 0 4) from g, false_and, decide_false]; exact Ev.now _
    refine ⟨_, Ev.congr (fun k => ?_) j, ?_⟩
    · rw [if_neg c]
      rcases d with d | d
      · rw [if_neg (by omega)]
      · rw [if_pos (by omega), if_neg (by omega)]
    · by_cases f : 1 ≤ num (sub r 0 4) ∧ num (sub r 0 4) ≤ 65535
      · rw [if_pos ⟨d, f⟩, if_pos (decide_eq_true f)]
      · rw [if_neg (fun h => f h.2), if_neg (by rw [decide_eq_false f]; exact Bool.false_ne_true)]
  · refine ⟨(0, false, []), Ev.congr (fun k => by rw [if_neg c, if_pos (by omega), if_pos (by omega)]) (Ev.now _), ?_⟩
    rw [if_neg (fun h => d h.1)]; rfl
end Go.Proofs.Ytamhnlcdmjefmaa.Q
