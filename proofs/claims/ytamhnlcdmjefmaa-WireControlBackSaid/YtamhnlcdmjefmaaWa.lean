/- Plain lemmas on the printed functions: whole numbers and lists, no program in sight. -/
import Derived.Test.YtamhnlcdmjefmaaDQ
import Derived.Laws.BitsLemmas
namespace Go.Proofs.Ytamhnlcdmjefmaa.Q
open Go Go.RowKit Go.Proofs.Ytamhnlcdmjefmaa.Ev
set_option linter.unusedVariables false
set_option linter.unusedSimpArgs false
set_option maxRecDepth 100000
/-- Not by plain rfl: a rewriting with it leaves a proof, and the kernel has nothing to unfold. -/
theorem bsome {α β : Type} (a : α) (f : α → Option β) : (some a).bind f = f a := by
  cases (show True ∨ True from Or.inl trivial) <;> rfl
theorem u64w (n : Int) : IntKind.u64.wrap n = n % 18446744073709551616 := by
  simp [IntKind.wrap, IntKind.bits, IntKind.signed]
theorem w64_in {n : Int} (h0 : -9223372036854775808 ≤ n) (h1 : n ≤ 9223372036854775807) : wrap64 n = n := by
  unfold wrap64; omega
theorem u64_in {n : Int} (h0 : 0 ≤ n) (h1 : n < 18446744073709551616) : IntKind.u64.wrap n = n := by
  rw [u64w]; omega
theorem wf64 {n : Int} (h : (Lit.int .i64 n).wf = true) : -9223372036854775808 ≤ n ∧ n ≤ 9223372036854775807 := by
  simpa [Lit.wf, IntKind.min, IntKind.max, IntKind.signed, IntKind.bits] using h
theorem wfu64 {n : Int} (h : (Lit.int .u64 n).wf = true) : 0 ≤ n ∧ n ≤ 18446744073709551615 := by
  simpa [Lit.wf, IntKind.min, IntKind.max, IntKind.signed, IntKind.bits] using h
theorem wfu32 {n : Int} (h : (Lit.int .u32 n).wf = true) : 0 ≤ n ∧ n ≤ 4294967295 := by
  simpa [Lit.wf, IntKind.min, IntKind.max, IntKind.signed, IntKind.bits] using h
theorem wfu8 {n : Int} (h : (Lit.int .u8 n).wf = true) : 0 ≤ n ∧ n ≤ 255 := by
  simpa [Lit.wf, IntKind.min, IntKind.max, IntKind.signed, IntKind.bits] using h
theorem wraps_u64 (n : Int) (h₀ : 0 ≤ n) (h₁ : n < 2 ^ 64) : IntKind.u64.wrap n = n := u64_in h₀ (by omega)
theorem orj (i : Nat) (x y : Int) (hx0 : 0 ≤ x) (hx : x % 2 ^ i = 0) (hx1 : x < 18446744073709551616) (hy0 : 0 ≤ y) (hy : y < 2 ^ i) (hy1 : y < 18446744073709551616) : Go.bits .or .u64 x y = x + y :=
  bits_join .u64 64 (by decide) wraps_u64 i x y hx0 hx (by omega) hy0 hy (by omega)
theorem shr_eq (k : IntKind) (hk : k.bits = 64) (x : Int) (n : Nat) (hn : n ≤ 64) : shr k x (n : Int) = x / 2 ^ n := by
  unfold shr
  rw [hk, show min (n : Int).toNat 64 = n from by simp; omega]
/-- With rounds enough, g answers r. -/
def Ev {α : Type} (g : Nat → Option α) (r : α) : Prop := ∃ K, ∀ k, K ≤ k → g k = some r
theorem Ev.now {α : Type} (r : α) : Ev (fun _ => some r) r := ⟨0, fun _ _ => rfl⟩
theorem Ev.rounds {α : Type} {g : Nat → Option α} {r : α} (h : Ev g r) : ∃ k, g k = some r := by
  obtain ⟨K, h⟩ := h; exact ⟨K, h K (Nat.le_refl K)⟩
theorem Ev.bind {α β : Type} {g : Nat → Option α} {f : Nat → α → Option β} {a : α} {r : β} (h : Ev g a) (k : Ev (fun n => f n a) r) : Ev (fun n => (g n).bind (f n)) r := by
  obtain ⟨K, h⟩ := h; obtain ⟨L, k⟩ := k
  refine ⟨max K L, fun n hn => ?_⟩
  show (g n).bind (f n) = some r
  rw [h n (by omega), bsome]; exact k n (by omega)
theorem Ev.step {α : Type} {g f : Nat → Option α} {r : α} (h : ∀ k, g (k + 1) = f k) (k : Ev f r) : Ev g r := by
  obtain ⟨K, k⟩ := k
  refine ⟨K + 1, fun n hn => ?_⟩
  obtain ⟨m, rfl⟩ : ∃ m, n = m + 1 := ⟨n - 1, by omega⟩
  rw [h m]; exact k m (by omega)
theorem Ev.congr {α : Type} {g f : Nat → Option α} {r : α} (h : ∀ k, g k = f k) (k : Ev f r) : Ev g r := by
  obtain ⟨K, k⟩ := k; exact ⟨K, fun n hn => by rw [h n]; exact k n hn⟩
theorem Ev.succ {α : Type} {g : Nat → Option α} {r : α} (h : ∀ k, g (k + 1) = some r) : Ev g r := Ev.step h (Ev.now r)
theorem Ev.const {α : Type} {g : Option α} {r : α} (h : g = some r) : Ev (fun _ => g) r := by rw [h]; exact Ev.now r
theorem Ev.uniq {α : Type} {g : Nat → Option α} {r s : α} (h : Ev g r) (h' : Ev g s) : r = s := by
  obtain ⟨K, h⟩ := h; obtain ⟨L, h'⟩ := h'
  have h1 := h (max K L) (by omega); have h2 := h' (max K L) (by omega)
  rw [h1] at h2; exact Option.some.inj h2
/-! ### bytes -/
def By (l : List Int) : Prop := ∀ x ∈ l, 0 ≤ x ∧ x < 256
theorem By.nil : By [] := fun x h => by simp at h
theorem By.append {a b : List Int} (ha : By a) (hb : By b) : By (a ++ b) := fun x h => (List.mem_append.1 h).elim (ha x) (hb x)
theorem By.left {a b : List Int} (h : By (a ++ b)) : By a := fun x hx => h x (List.mem_append.2 (.inl hx))
theorem By.right {a b : List Int} (h : By (a ++ b)) : By b := fun x hx => h x (List.mem_append.2 (.inr hx))
theorem By.take {l : List Int} (h : By l) (n : Nat) : By (l.take n) := fun x hx => h x (List.mem_of_mem_take hx)
theorem By.drop {l : List Int} (h : By l) (n : Nat) : By (l.drop n) := fun x hx => h x (List.mem_of_mem_drop hx)
theorem By.of_wf {l : List Int} (h : ∀ x ∈ l, (Lit.int .u8 x).wf = true) : By l := fun x hx => by have := wfu8 (h x hx); omega
/-- The number that bytes are, the highest first. -/
def num (l : List Int) : Int := l.foldl (fun n c => n * 256 + c) 0
theorem num_snoc (l : List Int) (c : Int) : num (l ++ [c]) = num l * 256 + c := by
  unfold num; rw [List.foldl_append]; rfl
theorem num_rng {l : List Int} (h : By l) : ∀ n, 0 ≤ num (l.take n) ∧ num (l.take n) < 256 ^ (l.take n).length
  | 0 => by simp [num]
  | n + 1 => by
    have ih := num_rng h n
    by_cases hn : n < l.length
    · rw [List.take_succ_eq_append_getElem hn, num_snoc, List.length_append]
      have hb := h l[n] (List.getElem_mem hn)
      simp only [List.length_cons, List.length_nil, Nat.zero_add, Int.pow_succ]
      omega
    · rw [List.take_of_length_le (by omega)] at ih ⊢
      exact ih
theorem num_bd {l : List Int} (h : By l) : 0 ≤ num l ∧ num l < 256 ^ l.length := by
  have := num_rng h l.length
  rwa [List.take_length] at this
theorem num_le (l : List Int) (h : By l) (i : Nat) (hi : i < 8) : 0 ≤ num (l.take i) ∧ num (l.take i) < 72057594037927936 := by
  have h1 := num_rng h i
  have h2 : (256 : Int) ^ (l.take i).length ≤ 256 ^ 7 := by
    have hl : (l.take i).length ≤ 7 := by rw [List.length_take]; omega
    generalize (l.take i).length = q at hl
    match q, hl with
    | 0, _ | 1, _ | 2, _ | 3, _ | 4, _ | 5, _ | 6, _ | 7, _ => decide
    | q + 8, h => omega
  exact ⟨h1.1, Int.lt_of_lt_of_le h1.2 h2⟩
theorem rd_nat (l : List Int) (i : Nat) (h : i < l.length) : rd l (i : Int) = l[i] := by
  simp [rd, h]
theorem wrap_succ (i : Nat) (h : (i : Int) < 9223372036854775807) : wrap64 ((i : Int) + 1) = ((i + 1 : Nat) : Int) := by
  rw [w64_in (by omega) (by omega)]; rfl
theorem number_loop (l : List Int) (h : By l) (hl : l.length ≤ 8) : ∀ (d i : Nat), i + d = l.length → Ev (fun k => wire_number.l0 k (num (l.take i)) l (l.length : Int) (i : Int)) (num l)
  | 0, i, hi => by
    refine Ev.succ fun k => ?_
    rw [wire_number.l0, if_neg (by omega), List.take_of_length_le (by omega)]
  | d + 1, i, hi => by
    have hn : i < l.length := by omega
    have hb := h l[i] (List.getElem_mem hn)
    have h1 := num_le l h i (by omega)
    have ih := number_loop l h hl d (i + 1) (by omega)
    rw [List.take_succ_eq_append_getElem hn, num_snoc] at ih
    refine Ev.step (fun k => ?_) ih
    rw [wire_number.l0, if_pos (by omega), if_pos (by omega), if_pos (by omega), rd_nat l i hn, u64_in (n := l[i]) (by omega) (by omega), u64_in (by omega) (by omega), orj 8 _ _ (by omega) (by omega) (by omega) (by omega) (by omega) (by omega), wrap_succ i (by omega)]
theorem ev_number (l : List Int) (h : By l) (hl : l.length ≤ 8) : Ev (fun k => wire_number.f k l) (num l) := number_loop l h hl l.length 0 (by omega)
theorem get_loop (l : List Int) (h : By l) (hl : l.length ≤ 8) : ∀ (d i : Nat), i + d = l.length → Ev (fun k => foliotref03_get.l0 k l (num (l.take i)) (i : Int)) (num l)
  | 0, i, hi => by
    refine Ev.succ fun k => ?_
    rw [foliotref03_get.l0, if_neg (by omega), List.take_of_length_le (by omega)]
  | d + 1, i, hi => by
    have hn : i < l.length := by omega
    have hb := h l[i] (List.getElem_mem hn)
    have h1 := num_le l h i (by omega)
    have ih := get_loop l h hl d (i + 1) (by omega)
    rw [List.take_succ_eq_append_getElem hn, num_snoc] at ih
    refine Ev.step (fun k => ?_) ih
    rw [foliotref03_get.l0, if_pos (by omega), if_pos (by omega), if_pos (by omega), rd_nat l i hn, u64_in (n := l[i]) (by omega) (by omega), u64_in (n := num (l.take i) * 256) (by omega) (by omega), u64_in (by omega) (by omega), wrap_succ i (by omega)]
theorem ev_get (l : List Int) (h : By l) (hl : l.length ≤ 8) : Ev (fun k => foliotref03_get.f k l) (num l) := get_loop l h hl l.length 0 (by omega)
/-! ### numbers as bytes -/
def B2 (n : Int) : List Int := [n / 256 % 256, n % 256]
def B4 (n : Int) : List Int := [n / 16777216 % 256, n / 65536 % 256, n / 256 % 256, n % 256]
def B8 (n : Int) : List Int := [n / 72057594037927936 % 256, n / 281474976710656 % 256, n / 1099511627776 % 256, n / 4294967296 % 256, n / 16777216 % 256, n / 65536 % 256, n / 256 % 256, n % 256]
theorem by_mod {l : List Int} (f : ∀ x ∈ l, ∃ y, x = y % 256) : By l := fun x hx => by obtain ⟨y, rfl⟩ := f x hx; omega
theorem by2 (n : Int) : By (B2 n) := by_mod fun x hx => by simp only [B2, List.mem_cons, List.not_mem_nil, or_false] at hx; rcases hx with rfl | rfl <;> exact ⟨_, rfl⟩
theorem by4 (n : Int) : By (B4 n) := by_mod fun x hx => by simp only [B4, List.mem_cons, List.not_mem_nil, or_false] at hx; rcases hx with rfl | rfl | rfl | rfl <;> exact ⟨_, rfl⟩
theorem by8 (n : Int) : By (B8 n) := by_mod fun x hx => by simp only [B8, List.mem_cons, List.not_mem_nil, or_false] at hx; rcases hx with rfl | rfl | rfl | rfl | rfl | rfl | rfl | rfl <;> exact ⟨_, rfl⟩
theorem len2 (n : Int) : (B2 n).length = 2 := rfl
theorem len4 (n : Int) : (B4 n).length = 4 := rfl
theorem len8 (n : Int) : (B8 n).length = 8 := rfl
theorem num2 (n : Int) (h0 : 0 ≤ n) (h1 : n < 65536) : num (B2 n) = n := by
  simp only [num, B2, List.foldl_cons, List.foldl_nil]; omega
theorem num4 (n : Int) (h0 : 0 ≤ n) (h1 : n < 4294967296) : num (B4 n) = n := by
  simp only [num, B4, List.foldl_cons, List.foldl_nil]; omega
theorem num8 (n : Int) (h0 : 0 ≤ n) (h1 : n < 18446744073709551616) : num (B8 n) = n := by
  simp only [num, B8, List.foldl_cons, List.foldl_nil]; omega
theorem B2_num : ∀ l : List Int, By l → l.length = 2 → B2 (num l) = l
  | [a, b], h, _ => by
    have ha := h a (by simp); have hb := h b (by simp)
    simp only [num, B2, List.foldl_cons, List.foldl_nil, List.cons.injEq, and_true]; omega
theorem B4_num : ∀ l : List Int, By l → l.length = 4 → B4 (num l) = l
  | [a, b, c, d], h, _ => by
    have ha := h a (by simp); have hb := h b (by simp); have hc := h c (by simp); have hd := h d (by simp)
    simp only [num, B4, List.foldl_cons, List.foldl_nil, List.cons.injEq, and_true]; omega
theorem B8_num : ∀ l : List Int, By l → l.length = 8 → B8 (num l) = l
  | [a, b, c, d, e, f, g, i], h, _ => by
    have ha := h a (by simp); have hb := h b (by simp); have hc := h c (by simp); have hd := h d (by simp)
    have he := h e (by simp); have hf := h f (by simp); have hg := h g (by simp); have hi := h i (by simp)
    simp only [num, B8, List.foldl_cons, List.foldl_nil, List.cons.injEq, and_true]
    refine ⟨?_, ?_, ?_, ?_, ?_, ?_, ?_, ?_⟩ <;> omega
/-! ### numbers laid down -/
def pb (n : Int) (i : Int) : Int := (shr .u64 n (IntKind.u64.wrap (wrap64 (56 - (wrap64 (8 * i)))))) % 256
def room (n : Nat) : Prop := n ≤ 1000000000000
theorem put_rounds (n size : Int) (e0 r : List Int) (h : Ev (fun k => wire_laid_put.l0 k n size 8 e0 (pb n 0) (pb n 1) (pb n 2) (pb n 3) (pb n 4) (pb n 5) (pb n 6) (pb n 7)) r) : Ev (fun k => wire_laid_put.f k n size e0) r := by
  unfold wire_laid_put.f
  refine Ev.step (f := fun k => wire_laid_put.l0 k n size 1 e0 (pb n 0) 0 0 0 0 0 0 0) (fun k => by kernel_rfl) ?_
  refine Ev.step (f := fun k => wire_laid_put.l0 k n size 2 e0 (pb n 0) (pb n 1) 0 0 0 0 0 0) (fun k => by kernel_rfl) ?_
  refine Ev.step (f := fun k => wire_laid_put.l0 k n size 3 e0 (pb n 0) (pb n 1) (pb n 2) 0 0 0 0 0) (fun k => by kernel_rfl) ?_
  refine Ev.step (f := fun k => wire_laid_put.l0 k n size 4 e0 (pb n 0) (pb n 1) (pb n 2) (pb n 3) 0 0 0 0) (fun k => by kernel_rfl) ?_
  refine Ev.step (f := fun k => wire_laid_put.l0 k n size 5 e0 (pb n 0) (pb n 1) (pb n 2) (pb n 3) (pb n 4) 0 0 0) (fun k => by kernel_rfl) ?_
  refine Ev.step (f := fun k => wire_laid_put.l0 k n size 6 e0 (pb n 0) (pb n 1) (pb n 2) (pb n 3) (pb n 4) (pb n 5) 0 0) (fun k => by kernel_rfl) ?_
  refine Ev.step (f := fun k => wire_laid_put.l0 k n size 7 e0 (pb n 0) (pb n 1) (pb n 2) (pb n 3) (pb n 4) (pb n 5) (pb n 6) 0) (fun k => by kernel_rfl) ?_
  exact Ev.step (f := fun k => wire_laid_put.l0 k n size 8 e0 (pb n 0) (pb n 1) (pb n 2) (pb n 3) (pb n 4) (pb n 5) (pb n 6) (pb n 7)) (fun k => by kernel_rfl) h
theorem pbs (n : Int) : pb n 0 = n / 72057594037927936 % 256 ∧ pb n 1 = n / 281474976710656 % 256 ∧ pb n 2 = n / 1099511627776 % 256 ∧ pb n 3 = n / 4294967296 % 256 ∧ pb n 4 = n / 16777216 % 256 ∧ pb n 5 = n / 65536 % 256 ∧ pb n 6 = n / 256 % 256 ∧ pb n 7 = n % 256 := by
  have s (i : Int) (m : Nat) (e : IntKind.u64.wrap (wrap64 (56 - (wrap64 (8 * i)))) = (m : Int)) (hm : m ≤ 64) : pb n i = n / 2 ^ m % 256 := by
    unfold pb; rw [e, shr_eq .u64 rfl n m hm]
  refine ⟨s 0 56 (by kernel_rfl) (by decide), s 1 48 (by kernel_rfl) (by decide), s 2 40 (by kernel_rfl) (by decide), s 3 32 (by kernel_rfl) (by decide), s 4 24 (by kernel_rfl) (by decide), s 5 16 (by kernel_rfl) (by decide), s 6 8 (by kernel_rfl) (by decide), ?_⟩
  rw [s 7 0 (by kernel_rfl) (by decide)]
  simp
theorem ev_put8 (n : Int) (e0 : List Int) (hr : room e0.length) : Ev (fun k => wire_laid_put.f k n 8 e0) (e0 ++ B8 n) := by
  unfold room at hr
  obtain ⟨p0, p1, p2, p3, p4, p5, p6, p7⟩ := pbs n
  refine put_rounds n 8 e0 _ (Ev.succ fun k => ?_)
  rw [wire_laid_put.l0, if_neg (by decide), if_pos (by decide +kernel), if_pos (by decide +kernel), if_pos, p0, p1, p2, p3, p4, p5, p6, p7]
  · kernel_rfl
  · have e : (List.take (8 - wrap64 (8 - 8)).toNat (List.drop (wrap64 (8 - 8)).toNat [pb n 0, pb n 1, pb n 2, pb n 3, pb n 4, pb n 5, pb n 6, pb n 7])).length = 8 := by kernel_rfl
    rw [e]
    omega
theorem ev_put4 (n : Int) (e0 : List Int) (hr : room e0.length) : Ev (fun k => wire_laid_put.f k n 4 e0) (e0 ++ B4 n) := by
  unfold room at hr
  obtain ⟨p0, p1, p2, p3, p4, p5, p6, p7⟩ := pbs n
  refine put_rounds n 4 e0 _ (Ev.succ fun k => ?_)
  rw [wire_laid_put.l0, if_neg (by decide), if_pos (by decide +kernel), if_pos (by decide +kernel), if_pos, p0, p1, p2, p3, p4, p5, p6, p7]
  · kernel_rfl
  · have e : (List.take (8 - wrap64 (8 - 4)).toNat (List.drop (wrap64 (8 - 4)).toNat [pb n 0, pb n 1, pb n 2, pb n 3, pb n 4, pb n 5, pb n 6, pb n 7])).length = 4 := by kernel_rfl
    rw [e]
    omega
theorem ev_put2 (n : Int) (e0 : List Int) (hr : room e0.length) : Ev (fun k => wire_laid_put.f k n 2 e0) (e0 ++ B2 n) := by
  unfold room at hr
  obtain ⟨p0, p1, p2, p3, p4, p5, p6, p7⟩ := pbs n
  refine put_rounds n 2 e0 _ (Ev.succ fun k => ?_)
  rw [wire_laid_put.l0, if_neg (by decide), if_pos (by decide +kernel), if_pos (by decide +kernel), if_pos, p0, p1, p2, p3, p4, p5, p6, p7]
  · kernel_rfl
  · have e : (List.take (8 - wrap64 (8 - 2)).toNat (List.drop (wrap64 (8 - 2)).toNat [pb n 0, pb n 1, pb n 2, pb n 3, pb n 4, pb n 5, pb n 6, pb n 7])).length = 2 := by kernel_rfl
    rw [e]
    omega
theorem rput_step (n : Int) (i : Nat) (hi : i ≤ 7) (e : List Int) (hr : e.length ≤ 1000000000100) (r : List Int) (h : Ev (fun k => foliotref03_put.l0 k n ((i : Int) - 1) (e ++ [n / 2 ^ (8 * i) % 256])) r) : Ev (fun k => foliotref03_put.l0 k n (i : Int) e) r := by
  have e1 : IntKind.u64.wrap (wrap64 (8 * (i : Int))) = ((8 * i : Nat) : Int) := by
    rw [w64_in (by omega) (by omega), u64_in (by omega) (by omega)]; omega
  refine Ev.step (fun k => ?_) h
  rw [foliotref03_put.l0, if_pos (by omega), e1, if_pos (by omega), shr_eq .u64 rfl n (8 * i) (by omega), if_pos (by simp only [List.length_cons, List.length_nil]; omega), w64_in (n := (i : Int) - 1) (by omega) (by omega)]
theorem rput_end (n : Int) (e : List Int) : Ev (fun k => foliotref03_put.l0 k n (-1) e) e := Ev.succ fun k => by
  rw [foliotref03_put.l0, if_neg (by decide)]
theorem ev_rput2 (n : Int) (e0 : List Int) (hr : room e0.length) : Ev (fun k => foliotref03_put.f k n 2 e0) (e0 ++ B2 n) := by
  unfold room at hr
  have l1 : ∀ (a : List Int) (x : Int), (a ++ [x]).length = a.length + 1 := fun a x => by simp
  unfold foliotref03_put.f
  rw [show wrap64 (2 - 1) = ((1 : Nat) : Int) by kernel_rfl]
  refine rput_step n 1 (by decide) _ (by omega) _ (rput_step n 0 (by decide) _ (by rw [l1]; omega) _ ?_)
  have := rput_end n (e0 ++ [n / 2 ^ (8 * 1) % 256] ++ [n / 2 ^ (8 * 0) % 256])
  simp only [List.append_assoc, List.cons_append, List.nil_append] at this ⊢
  simpa [B2] using this
theorem ev_rput4 (n : Int) (e0 : List Int) (hr : room e0.length) : Ev (fun k => foliotref03_put.f k n 4 e0) (e0 ++ B4 n) := by
  unfold room at hr
  have l1 : ∀ (a : List Int) (x : Int), (a ++ [x]).length = a.length + 1 := fun a x => by simp
  unfold foliotref03_put.f
  rw [show wrap64 (4 - 1) = ((3 : Nat) : Int) by kernel_rfl]
  refine rput_step n 3 (by decide) _ (by omega) _ (rput_step n 2 (by decide) _ (by rw [l1]; omega) _ (rput_step n 1 (by decide) _ (by rw [l1, l1]; omega) _ (rput_step n 0 (by decide) _ (by rw [l1, l1, l1]; omega) _ ?_)))
  have := rput_end n (e0 ++ [n / 2 ^ (8 * 3) % 256] ++ [n / 2 ^ (8 * 2) % 256] ++ [n / 2 ^ (8 * 1) % 256] ++ [n / 2 ^ (8 * 0) % 256])
  simp only [List.append_assoc, List.cons_append, List.nil_append] at this ⊢
  simpa [B4] using this
/-! ### what may be on the wire -/
def extOk (x : S45) : Bool := decide (0 ≤ x.f0 ∧ x.f0 ≤ 65535 ∧ 24 ≤ (x.f1.length : Int) ∧ (x.f1.length : Int) % 4 = 0)
def extsRes : List S45 → Int → Option Int
  | [], s => some s
  | x :: l, s => if extOk x = true then extsRes l (s + (4 + mn (x.f1.length : Int) 65536)) else none
def smallOk (p0 p1 p2 p3 p4 p5 p6 p7 : Int) : Bool := decide (0 ≤ p0 ∧ p0 ≤ 3 ∧ 1 ≤ p1 ∧ p1 ≤ 4 ∧ 1 ≤ p2 ∧ p2 ≤ 5 ∧ 0 ≤ p3 ∧ p3 ≤ 255 ∧ -128 ≤ p4 ∧ p4 ≤ 127 ∧ -128 ≤ p5 ∧ p5 ≤ 127 ∧ 0 ≤ p6 ∧ p6 ≤ 281474976645120 ∧ 0 ≤ p7 ∧ p7 ≤ 281474976645120)
def trailLen (id : Int) (mac : List Int) : Int := if id = 0 then 0 else 4 + (mac.length : Int)
def trailOk (id : Int) (mac : List Int) : Bool := if id = 0 then decide ((mac.length : Int) = 0) else decide (1 ≤ id ∧ id ≤ 65535 ∧ ((mac.length : Int) = 16 ∨ (mac.length : Int) = 20))
def chkV (p0 p1 p2 p3 p4 p5 p6 p7 : Int) (l : List S45) (id : Int) (nak : Bool) (mac : List Int) : Int :=
  if smallOk p0 p1 p2 p3 p4 p5 p6 p7 = true then
    if (l.length : Int) > 4 then 54 else
      match extsRes l 48 with
      | none => 32
      | some s => if trailOk id mac = true ∧ ¬ (nak = true ∧ id ≠ 0) then (if s + (if nak = true then 4 else trailLen id mac) > 512 then 31 else 0) else 32
  else 32
theorem fits_val (a b c : Int) : wire_fits.f a b c = some (decide (b ≤ a ∧ a ≤ c)) := by
  unfold wire_fits.f
  by_cases h : b ≤ a <;> simp [h]
theorem within_val (a b c : Int) : foliotref03_within.f a b c = some (decide (b ≤ a ∧ a ≤ c)) := by
  unfold foliotref03_within.f
  by_cases h : a ≥ b
  · simp only [h, if_true, show b ≤ a from h, true_and]
  · simp only [h, if_false, show ¬ b ≤ a from h, false_and, decide_false]
theorem short_most : stamp_FromShort.f 4294967295 = some 281474976645120 := by kernel_rfl
theorem rshort_most : foliotref02_FromShort.f 4294967295 = some 281474976645120 := by kernel_rfl
theorem bif_not {α : Type} (p : Prop) [Decidable p] (a b : α) : (bif (!(decide p)) then a else b) = if p then b else a := by
  by_cases h : p <;> simp [h]
theorem bif_dec {α : Type} (p : Prop) [Decidable p] (a b : α) : (bif (decide p) then a else b) = if p then a else b := by
  by_cases h : p <;> simp [h]
theorem bif_b {α : Type} (p : Bool) (a b : α) : (bif p then a else b) = if p = true then a else b := by
  cases p <;> rfl
theorem bif_nb {α : Type} (p : Bool) (a b : α) : (bif !p then a else b) = if p = true then b else a := by
  cases p <;> rfl
theorem small_val (p0 p1 p2 p3 p4 p5 p6 p7 p8 p9 p10 p11 p12 : Int) (l : List S45) (id : Int) (nak : Bool) (mac : List Int) :
    wire_small.f p0 p1 p2 p3 p4 p5 p6 p7 p8 p9 p10 p11 p12 l id nak mac = some (smallOk p0 p1 p2 p3 p4 p5 p6 p7) := by
  unfold wire_small.f smallOk
  rw [short_most]
  simp only [fits_val, bsome, bif_dec]
  (repeat' split) <;> first | exact congrArg some (decide_eq_false (by omega)).symm | exact congrArg some (decide_eq_decide.2 (by omega))
theorem trail_val (id : Int) (mac : List Int) (hm : (mac.length : Int) ≤ 140737488351232) : ∃ n, wire_trailer.f id mac = some (n, trailOk id mac) ∧ (trailOk id mac = true → n = trailLen id mac) := by
  unfold wire_trailer.f trailOk trailLen
  by_cases c : id = 0
  · simp only [c, if_true]
    exact ⟨0, rfl, fun _ => rfl⟩
  · simp only [c, if_false, fits_val, bsome]
    by_cases d : (mac.length : Int) = 16
    · refine ⟨wrap64 (4 + (mac.length : Int)), ?_, fun _ => w64_in (by omega) (by omega)⟩
      simp [d]
    · by_cases e : (mac.length : Int) = 20
      · refine ⟨wrap64 (4 + (mac.length : Int)), ?_, fun _ => w64_in (by omega) (by omega)⟩
        simp [e]
      · simp [d, e]
theorem trail_rng {id : Int} {mac : List Int} (h : trailOk id mac = true) : 0 ≤ trailLen id mac ∧ trailLen id mac ≤ 24 := by
  unfold trailOk at h
  unfold trailLen
  by_cases c : id = 0
  · rw [if_pos c]
    omega
  · rw [if_neg c] at h ⊢
    have := of_decide_eq_true h
    omega
theorem digest_val (id : Int) (mac : List Int) : foliotref03_digest.f id mac = some (trailOk id mac) := by
  unfold foliotref03_digest.f trailOk
  by_cases c : id = 0
  · simp only [c, if_true]
  · simp only [c, if_false, within_val, bsome, bif_dec]
    by_cases d : 1 ≤ id ∧ id ≤ 65535
    · simp only [d, and_self, if_true, true_and]
      by_cases e : (mac.length : Int) = 16
      · simp [e]
      · simp [e]
    · rw [if_neg d]
      exact congrArg some (decide_eq_false (by omega)).symm
theorem ext_at (l : List S45) (i : Nat) (h : i < l.length) : rdOf z_S45 l (i : Int) = l[i] := by
  simp [rdOf, h]
theorem tmod4 (n : Nat) : Int.tmod (n : Int) 4 = (n : Int) % 4 := Int.tmod_eq_emod_of_nonneg (by omega)
theorem mn_len (n : Nat) (m : Int) (h : 0 ≤ m) : 0 ≤ mn (n : Int) m ∧ mn (n : Int) m ≤ m ∧ mn (n : Int) m ≤ n := by
  unfold mn; split <;> omega
def endV (s id : Int) (nak : Bool) (mac : List Int) : Int := if trailOk id mac = true ∧ ¬ (nak = true ∧ id ≠ 0) then (if s + (if nak = true then 4 else trailLen id mac) > 512 then 31 else 0) else 32
def restV (l : List S45) (s id : Int) (nak : Bool) (mac : List Int) : Int := match extsRes l s with
  | none => 32
  | some s => endV s id nak mac
theorem opt_if (p : Prop) [Decidable p] (a b : Int) : (if p then some a else some b) = some (if p then a else b) := by split <;> rfl
theorem tail_val (s id : Int) (nak : Bool) (mac : List Int) (hm : (mac.length : Int) ≤ 140737488351232) (h0 : 0 ≤ s) (hs : s ≤ 1000000) : ((wire_trailer.f id mac).bind fun t2 => (bif (!t2.2) then (some 32) else (bif nak then (if ¬ id = 0 then (some 32) else (bif nak then (if (wrap64 (s + 4)) > 512 then (some 31) else (some 0)) else (if (wrap64 (s + t2.1)) > 512 then (some 31) else (some 0)))) else (bif nak then (if (wrap64 (s + 4)) > 512 then (some 31) else (some 0)) else (if (wrap64 (s + t2.1)) > 512 then (some 31) else (some 0)))))) = some (endV s id nak mac) := by
  obtain ⟨n, hn, hn2⟩ := trail_val id mac hm
  rw [hn, bsome]
  unfold endV
  have w4 : wrap64 (s + 4) = s + 4 := w64_in (by omega) (by omega)
  cases ht : trailOk id mac with
  | false => simp
  | true =>
    rw [ht] at hn2
    rw [hn2 rfl]
    have htl := trail_rng ht
    have w5 : wrap64 (s + trailLen id mac) = s + trailLen id mac := w64_in (by omega) (by omega)
    simp only [w4, w5]
    cases nak with
    | false => simp [opt_if]
    | true => by_cases hi : id = 0 <;> simp [hi, opt_if]
theorem rtail_val (s id : Int) (nak : Bool) (mac : List Int) (h0 : 0 ≤ s) (hs : s ≤ 1000000) : ((foliotref03_digest.f id mac).bind fun t8 => (bif (!t8) then (some 32) else (bif nak then (if ¬ id = 0 then (some 32) else (if ¬ id = 0 then (bif nak then (if (wrap64 ((wrap64 ((wrap64 (s + 4)) + (mac.length : Int))) + 4)) > 512 then (some 31) else (some 0)) else (if (wrap64 ((wrap64 (s + 4)) + (mac.length : Int))) > 512 then (some 31) else (some 0))) else (bif nak then (if (wrap64 (s + 4)) > 512 then (some 31) else (some 0)) else (if s > 512 then (some 31) else (some 0))))) else (if ¬ id = 0 then (bif nak then (if (wrap64 ((wrap64 ((wrap64 (s + 4)) + (mac.length : Int))) + 4)) > 512 then (some 31) else (some 0)) else (if (wrap64 ((wrap64 (s + 4)) + (mac.length : Int))) > 512 then (some 31) else (some 0))) else (bif nak then (if (wrap64 (s + 4)) > 512 then (some 31) else (some 0)) else (if s > 512 then (some 31) else (some 0))))))) = some (endV s id nak mac) := by
  rw [digest_val, bsome]
  unfold endV
  have w4 : wrap64 (s + 4) = s + 4 := w64_in (by omega) (by omega)
  cases ht : trailOk id mac with
  | false => simp
  | true =>
    have htl := trail_rng ht
    by_cases hi : id = 0
    · have h0 : trailLen id mac = 0 := by unfold trailLen; rw [if_pos hi]
      rw [h0]
      cases nak <;> simp [hi, opt_if, w4]
    · have h1 : trailLen id mac = 4 + (mac.length : Int) := by unfold trailLen; rw [if_neg hi]
      rw [h1] at htl ⊢
      have w5 : wrap64 (s + 4 + (mac.length : Int)) = s + (4 + (mac.length : Int)) := by rw [w64_in (by omega) (by omega)]; omega
      cases nak <;> simp [hi, opt_if, w4, w5]
theorem ext_dec (x : S45) : extOk x = true ↔ 0 ≤ x.f0 ∧ x.f0 ≤ 65535 ∧ 24 ≤ (x.f1.length : Int) ∧ (x.f1.length : Int) % 4 = 0 := by
  unfold extOk; exact decide_eq_true_iff
/-- The loop of Check from the place i on. -/
theorem check_loop (l : List S45) (hl : l.length ≤ 4) (p0 p1 p2 p3 p4 p5 p6 p7 p8 p9 p10 p11 p12 : Int) (l2 : List S45) (id : Int) (nak : Bool) (mac : List Int) (hm : (mac.length : Int) ≤ 140737488351232) :
    ∀ (m i : Nat) (s : Int), i + m = l.length → 0 ≤ s → s ≤ 48 + 65540 * (i : Int) →
    Ev (fun k => wire_Check.l0 k s l (l.length : Int) (i : Int) p0 p1 p2 p3 p4 p5 p6 p7 p8 p9 p10 p11 p12 l2 id nak mac) (restV (l.drop i) s id nak mac)
  | 0, i, s, hi, h0, hs => by
    rw [List.drop_of_length_le (by omega)]
    refine Ev.succ fun k => ?_
    rw [wire_Check.l0, if_neg (by omega), tail_val s id nak mac hm h0 (by omega)]
    rfl
  | m + 1, i, s, hi, h0, hs => by
    have hlt : i < l.length := by omega
    have e : l.drop i = l[i] :: l.drop (i + 1) := List.drop_eq_getElem_cons hlt
    have hx := ext_at l i hlt
    have hmn := mn_len (l[i]).f1.length 65536 (by decide)
    have hd := ext_dec l[i]
    have w1 : wrap64 (s + wrap64 (4 + mn ((l[i]).f1.length : Int) 65536)) = s + (4 + mn ((l[i]).f1.length : Int) 65536) := by rw [w64_in (n := 4 + _) (by omega) (by omega), w64_in (by omega) (by omega)]
    have ih := check_loop l hl p0 p1 p2 p3 p4 p5 p6 p7 p8 p9 p10 p11 p12 l2 id nak mac hm m (i + 1) (s + (4 + mn ((l[i]).f1.length : Int) 65536)) (by omega) (by omega) (by omega)
    unfold restV
    rw [e, extsRes]
    refine Ev.step (fun k => by rw [wire_Check.l0, if_pos (by omega), if_pos (by omega), if_pos (by omega), hx, fits_val, bsome, bif_not, tmod4, w1, wrap_succ i (by omega)]) ?_
    by_cases c : extOk l[i] = true
    · have hc := hd.1 c
      simp (disch := omega) only [↓if_pos, ↓if_neg, c]
      exact ih
    · have hc := fun h => c (hd.2 h)
      rw [if_neg c]
      by_cases c1 : 0 ≤ (l[i]).f0 ∧ (l[i]).f0 ≤ 65535
      · by_cases c2 : ((l[i]).f1.length : Int) < 24
        · simp only [c1, c2, and_self, if_true]; exact Ev.now _
        · have c3 : ¬ ((l[i]).f1.length : Int) % 4 = 0 := fun h => hc ⟨c1.1, c1.2, by omega, h⟩
          simp only [c1, c2, c3, and_self, if_true, if_false, not_false_eq_true]; exact Ev.now _
      · simp only [c1, if_false]; exact Ev.now _
theorem ev_check (p0 p1 p2 p3 p4 p5 p6 p7 p8 p9 p10 p11 p12 : Int) (l : List S45) (id : Int) (nak : Bool) (mac : List Int) (hm : (mac.length : Int) ≤ 140737488351232) :
    Ev (fun k => wire_Check.f k p0 p1 p2 p3 p4 p5 p6 p7 p8 p9 p10 p11 p12 l id nak mac) (chkV p0 p1 p2 p3 p4 p5 p6 p7 l id nak mac) := by
  unfold wire_Check.f chkV
  simp only [small_val, bsome]
  by_cases c : smallOk p0 p1 p2 p3 p4 p5 p6 p7 = true
  · simp only [c, if_true, Bool.not_true, cond_false]
    by_cases c2 : (l.length : Int) > 4
    · simp only [c2, if_true]
      exact Ev.now _
    · simp only [c2, if_false]
      exact check_loop l (by omega) p0 p1 p2 p3 p4 p5 p6 p7 p8 p9 p10 p11 p12 l id nak mac hm l.length 0 48 (by omega) (by omega) (by omega)
  · simp only [Bool.not_eq_true] at c
    simp only [c, Bool.not_false, cond_true, Bool.false_eq_true, if_false]
    exact Ev.now _
theorem ref_loop (l : List S45) (hl : l.length ≤ 4) (p0 p1 p2 p3 p4 p5 p6 p7 p8 p9 p10 p11 p12 : Int) (id : Int) (nak : Bool) (mac : List Int) :
    ∀ (m i : Nat) (s : Int), i + m = l.length → 0 ≤ s → s ≤ 48 + 65540 * (i : Int) →
    Ev (fun k => foliotref03_Check.l0 k s (i : Int) p0 p1 p2 p3 p4 p5 p6 p7 p8 p9 p10 p11 p12 l id nak mac) (restV (l.drop i) s id nak mac)
  | 0, i, s, hi, h0, hs => by
    rw [List.drop_of_length_le (by omega)]
    refine Ev.succ fun k => ?_
    rw [foliotref03_Check.l0, if_neg (by omega), rtail_val s id nak mac h0 (by omega)]
    rfl
  | m + 1, i, s, hi, h0, hs => by
    have hlt : i < l.length := by omega
    have e : l.drop i = l[i] :: l.drop (i + 1) := List.drop_eq_getElem_cons hlt
    have hx := ext_at l i hlt
    have hmn := mn_len (l[i]).f1.length 65536 (by decide)
    have hd := ext_dec l[i]
    have w1 : wrap64 (wrap64 (s + 4) + mn ((l[i]).f1.length : Int) 65536) = s + (4 + mn ((l[i]).f1.length : Int) 65536) := by rw [w64_in (n := s + 4) (by omega) (by omega), w64_in (by omega) (by omega)]; omega
    have ih := ref_loop l hl p0 p1 p2 p3 p4 p5 p6 p7 p8 p9 p10 p11 p12 id nak mac m (i + 1) (s + (4 + mn ((l[i]).f1.length : Int) 65536)) (by omega) (by omega) (by omega)
    unfold restV
    rw [e, extsRes]
    refine Ev.step (fun k => by rw [foliotref03_Check.l0, if_pos (by omega), if_pos (by omega), if_pos (by omega), if_pos (by omega), if_pos (by omega), hx, within_val, bsome, bif_not, tmod4, w1, wrap_succ i (by omega)]) ?_
    by_cases c : extOk l[i] = true
    · have hc := hd.1 c
      simp (disch := omega) only [↓if_pos, ↓if_neg, c]
      exact ih
    · have hc := fun h => c (hd.2 h)
      rw [if_neg c]
      by_cases c1 : 0 ≤ (l[i]).f0 ∧ (l[i]).f0 ≤ 65535
      · by_cases c2 : ((l[i]).f1.length : Int) < 24
        · simp only [c1, c2, and_self, if_true]; exact Ev.now _
        · have c3 : ¬ ((l[i]).f1.length : Int) % 4 = 0 := fun h => hc ⟨c1.1, c1.2, by omega, h⟩
          simp only [c1, c2, c3, and_self, if_true, if_false, not_false_eq_true]; exact Ev.now _
      · simp only [c1, if_false]; exact Ev.now _
theorem ref_check (p0 p1 p2 p3 p4 p5 p6 p7 p8 p9 p10 p11 p12 : Int) (l : List S45) (id : Int) (nak : Bool) (mac : List Int) : Ev (fun k => foliotref03_Check.f k p0 p1 p2 p3 p4 p5 p6 p7 p8 p9 p10 p11 p12 l id nak mac) (chkV p0 p1 p2 p3 p4 p5 p6 p7 l id nak mac) := by
  unfold foliotref03_Check.f chkV
  simp only [rshort_most, within_val, bsome, bif_not]
  by_cases c : smallOk p0 p1 p2 p3 p4 p5 p6 p7 = true
  · have hc := of_decide_eq_true c
    simp (disch := omega) only [↓if_pos, ↓if_neg, c]
    by_cases c2 : (l.length : Int) > 4
    · simp only [c2, if_true]
      exact Ev.now _
    · simp only [c2, if_false]
      exact ref_loop l (by omega) p0 p1 p2 p3 p4 p5 p6 p7 p8 p9 p10 p11 p12 id nak mac l.length 0 48 (by omega) (by omega) (by omega)
  · rw [if_neg c]
    have hc := of_decide_eq_false (by simpa using c : smallOk p0 p1 p2 p3 p4 p5 p6 p7 = false)
    refine ⟨0, fun k _ => ?_⟩
    dsimp only
    by_cases c0 : 0 ≤ p0 ∧ p0 ≤ 3
    case neg => rw [if_neg c0]
    rw [if_pos c0]
    by_cases c1 : 1 ≤ p1 ∧ p1 ≤ 4
    case neg => rw [if_neg c1]
    rw [if_pos c1]
    by_cases c2 : 1 ≤ p2 ∧ p2 ≤ 5
    case neg => rw [if_neg c2]
    rw [if_pos c2]
    by_cases c3 : 0 ≤ p3 ∧ p3 ≤ 255
    case neg => rw [if_neg c3]
    rw [if_pos c3]
    by_cases c4 : -128 ≤ p4 ∧ p4 ≤ 127
    case neg => rw [if_neg c4]
    rw [if_pos c4]
    by_cases c5 : -128 ≤ p5 ∧ p5 ≤ 127
    case neg => rw [if_neg c5]
    rw [if_pos c5]
    by_cases d0 : p6 < 0
    case pos => rw [if_pos d0]
    rw [if_neg d0]
    by_cases d1 : p6 > 281474976645120
    case pos => rw [if_pos d1]
    rw [if_neg d1]
    by_cases d2 : p7 < 0
    case pos => rw [if_pos d2]
    rw [if_neg d2]
    by_cases d3 : p7 > 281474976645120
    case pos => rw [if_pos d3]
    rw [if_neg d3]
    exfalso
    omega
/-- What a packet that may be has. -/
theorem exts_rng : ∀ (l : List S45) (s r : Int), extsRes l s = some r → r ≤ 512 → 0 ≤ s → s ≤ r ∧ (∀ x ∈ l, (x.f1.length : Int) ≤ 508 ∧ extOk x = true)
  | [], s, r, h, _, _ => by
    simp only [extsRes, Option.some.injEq] at h
    exact ⟨by omega, fun x hx => by cases hx⟩
  | x :: l, s, r, h, hr, h0 => by
    simp only [extsRes] at h
    split at h
    · rename_i hx
      have hmn : (mn (x.f1.length : Int) 65536 = (x.f1.length : Int) ∨ mn (x.f1.length : Int) 65536 = 65536) ∧ 0 ≤ mn (x.f1.length : Int) 65536 := by
        unfold mn
        split <;> omega
      have ih := exts_rng l _ r h hr (by omega)
      refine ⟨by omega, fun y hy => ?_⟩
      rcases List.mem_cons.1 hy with rfl | hy
      · exact ⟨by omega, hx⟩
      · exact ih.2 y hy
    · cases h
def extsN : List S45 → Int
  | [] => 0
  | x :: l => 4 + (x.f1.length : Int) + extsN l
theorem extsRes_n : ∀ (l : List S45) (s : Int), (∀ x ∈ l, (x.f1.length : Int) ≤ 508 ∧ extOk x = true) → extsRes l s = some (s + extsN l)
  | [], s, _ => by simp [extsRes, extsN]
  | x :: l, s, h => by
    have hx := h x (by simp)
    have hmn : mn (x.f1.length : Int) 65536 = (x.f1.length : Int) := by unfold mn; rw [if_neg (by omega)]
    rw [extsRes, if_pos hx.2, extsRes_n l _ (fun y hy => h y (List.mem_cons_of_mem _ hy)), hmn, extsN]
    congr 1; omega
/-- What a packet that may be is. -/
structure Good (p0 p1 p2 p3 p4 p5 p6 p7 : Int) (l : List S45) (id : Int) (nak : Bool) (mac : List Int) : Prop where
  small : smallOk p0 p1 p2 p3 p4 p5 p6 p7 = true
  few : l.length ≤ 4
  exts : ∀ x ∈ l, (x.f1.length : Int) ≤ 508 ∧ extOk x = true
  trail : trailOk id mac = true
  zid : nak = true → id = 0
  size : 48 + extsN l + (if nak = true then 4 else trailLen id mac) ≤ 512
theorem chk_ok {p0 p1 p2 p3 p4 p5 p6 p7 : Int} {l : List S45} {id : Int} {nak : Bool} {mac : List Int} (h : chkV p0 p1 p2 p3 p4 p5 p6 p7 l id nak mac = 0) : Good p0 p1 p2 p3 p4 p5 p6 p7 l id nak mac := by
  unfold chkV at h
  split at h
  · rename_i hs
    split at h
    · exact absurd h (by decide)
    · rename_i hl
      split at h
      · exact absurd h (by decide)
      · rename_i s he
        by_cases ht : trailOk id mac = true ∧ ¬ (nak = true ∧ id ≠ 0)
        · rw [if_pos ht] at h
          by_cases hz : s + (if nak = true then 4 else trailLen id mac) > 512
          · rw [if_pos hz] at h
            exact absurd h (by decide)
          · have htl := trail_rng ht.1
            have htl : 0 ≤ (if nak = true then (4 : Int) else trailLen id mac) := by
              split <;> omega
            have hr := exts_rng l 48 s he (by omega) (by omega)
            have hn := extsRes_n l 48 hr.2
            rw [he, Option.some.injEq] at hn
            exact ⟨hs, by omega, hr.2, ht.1, fun hn => by
              by_cases hi : id = 0
              · exact hi
              · exact absurd ⟨hn, hi⟩ ht.2, by omega⟩
        · rw [if_neg ht] at h
          exact absurd h (by decide)
  · exact absurd h (by decide)
theorem chk_of {p0 p1 p2 p3 p4 p5 p6 p7 : Int} {l : List S45} {id : Int} {nak : Bool} {mac : List Int} (h : Good p0 p1 p2 p3 p4 p5 p6 p7 l id nak mac) : chkV p0 p1 p2 p3 p4 p5 p6 p7 l id nak mac = 0 := by
  have hf := h.few
  have hs := h.size
  unfold chkV
  rw [if_pos h.small, if_neg (by omega), extsRes_n l 48 h.exts]
  show (if _ then _ else _) = _
  rw [if_pos ⟨h.trail, fun ⟨a, b⟩ => b (h.zid a)⟩, if_neg (by omega)]
end Go.Proofs.Ytamhnlcdmjefmaa.Q
