/- Plain lemmas on the printed functions: whole numbers, no program in sight. -/
import Derived.Test.YtigcmpmpjmbfkaaDQ
import Derived.Laws.BitsLemmas
namespace Go.Proofs.Ytigcmpmpjmbfkaa.Q
open Go Go.RowKit Go.Proofs.Ytigcmpmpjmbfkaa.Ev
set_option linter.unusedVariables false
set_option linter.unusedSimpArgs false
set_option maxRecDepth 100000
/-! ### whole numbers of 64 and 128 bits -/
/-- Not by plain rfl: a rewriting with it leaves a proof, and the kernel has nothing to unfold. -/
theorem bsome {α β : Type} (a : α) (f : α → Option β) : (some a).bind f = f a := by
  cases (show True ∨ True from Or.inl trivial) <;> rfl
theorem u64w (n : Int) : IntKind.u64.wrap n = n % 18446744073709551616 := by
  simp [IntKind.wrap, IntKind.bits, IntKind.signed]
theorem w64_in {n : Int} (h0 : -9223372036854775808 ≤ n) (h1 : n ≤ 9223372036854775807) : wrap64 n = n := by
  unfold wrap64; omega
theorem u64_in {n : Int} (h0 : 0 ≤ n) (h1 : n < 18446744073709551616) : IntKind.u64.wrap n = n := by
  rw [u64w]; omega
theorem wf64 {n : Int} (h : (Lit.int .i64 n).wf = true) : -9223372036854775808 ≤ n ∧ n ≤ 9223372036854775807 := by
  simpa [Lit.wf, IntKind.min, IntKind.max, IntKind.signed, IntKind.bits] using h
theorem wraps_u64 (n : Int) (h₀ : 0 ≤ n) (h₁ : n < 2 ^ 64) : IntKind.u64.wrap n = n := u64_in h₀ (by omega)
theorem and32 (x : Int) (h0 : 0 ≤ x) (h1 : x < 18446744073709551616) : Go.bits .and .u64 x 4294967295 = x % 4294967296 :=
  bits_mask .u64 64 (by decide) wraps_u64 32 (by decide) x h0 (by omega)
theorem orj (i : Nat) (x y : Int) (hx0 : 0 ≤ x) (hx : x % 2 ^ i = 0) (hx1 : x < 18446744073709551616) (hy0 : 0 ≤ y) (hy : y < 2 ^ i) (hy1 : y < 18446744073709551616) : Go.bits .or .u64 x y = x + y :=
  bits_join .u64 64 (by decide) wraps_u64 i x y hx0 hx (by omega) hy0 hy (by omega)
theorem xorall (x : Int) (h0 : 0 ≤ x) (h1 : x < 18446744073709551616) : Go.bits .xor .u64 18446744073709551615 x = 18446744073709551615 - x := by
  obtain ⟨a, rfl⟩ := Int.eq_ofNat_of_zero_le h0
  have hb : (BitVec.ofInt 64 (18446744073709551615 : Int)) = BitVec.allOnes 64 := by decide
  show IntKind.u64.wrap ((BitVec.ofInt 64 (18446744073709551615 : Int) ^^^ BitVec.ofInt 64 (a : Int)).toNat : Int) = _
  rw [hb, BitVec.allOnes_xor, BitVec.ofInt_natCast, BitVec.toNat_not, BitVec.toNat_ofNat, u64w]
  omega
def clampTo (most x : Int) : Int := if x < most then (if -most < x then x else -most) else most
def sat (x : Int) : Int := clampTo 4611686018427387904 x
/-- A sign, and a size of two words. -/
def Rep (hi lo : Int) (m : Bool) (x : Int) : Prop := 0 ≤ hi ∧ hi < 18446744073709551616 ∧ 0 ≤ lo ∧ lo < 18446744073709551616 ∧ x = if m = true then -(hi * 18446744073709551616 + lo) else hi * 18446744073709551616 + lo
def IsRoot (n r : Int) : Prop := 0 ≤ r ∧ r * r ≤ n ∧ n < (r + 1) * (r + 1)
theorem IsRoot.uniq {n r s : Int} (h : IsRoot n r) (h' : IsRoot n s) : r = s := by
  obtain ⟨a, b, c⟩ := h; obtain ⟨a', b', c'⟩ := h'
  rcases Int.lt_trichotomy r s with h | h | h
  · have := Int.mul_le_mul (show r + 1 ≤ s by omega) (show r + 1 ≤ s by omega) (by omega) (by omega); omega
  · exact h
  · have := Int.mul_le_mul (show s + 1 ≤ r by omega) (show s + 1 ≤ r by omega) (by omega) (by omega); omega
theorem shl_u64 (x : Int) (n : Nat) (hn : n ≤ 64) (h0 : 0 ≤ x * 2 ^ n) (h1 : x * 2 ^ n < 18446744073709551616) : shl .u64 x (n : Int) = x * 2 ^ n := by
  unfold shl
  rw [show min (n : Int).toNat IntKind.u64.bits = n from by simp [IntKind.bits]; omega]
  exact u64_in h0 h1
theorem shr_eq (k : IntKind) (hk : k.bits = 64) (x : Int) (n : Nat) (hn : n ≤ 64) : shr k x (n : Int) = x / 2 ^ n := by
  unfold shr
  rw [hk, show min (n : Int).toNat 64 = n from by simp; omega]
theorem mul64 (a b : Int) (ha0 : 0 ≤ a) (ha : a < 18446744073709551616) (hb0 : 0 ≤ b) (hb : b < 18446744073709551616) : bits_Mul64.f a b = some (a * b / 18446744073709551616, a * b % 18446744073709551616) := by
  unfold bits_Mul64.f
  rw [and32 a ha0 ha, and32 b hb0 hb]
  generalize ea1 : a / 4294967296 = a1
  generalize ea0 : a % 4294967296 = a0
  generalize eb1 : b / 4294967296 = b1
  generalize eb0 : b % 4294967296 = b0
  have h1 : 0 ≤ a1 ∧ a1 < 4294967296 := by omega
  have h2 : 0 ≤ a0 ∧ a0 < 4294967296 := by omega
  have h3 : 0 ≤ b1 ∧ b1 < 4294967296 := by omega
  have h4 : 0 ≤ b0 ∧ b0 < 4294967296 := by omega
  have ea : a = a1 * 4294967296 + a0 := by omega
  have eb : b = b1 * 4294967296 + b0 := by omega
  have bd : ∀ x y : Int, 0 ≤ x ∧ x < 4294967296 → 0 ≤ y ∧ y < 4294967296 → 0 ≤ x * y ∧ x * y ≤ 18446744065119617025 := by
    intro x y hx hy
    refine ⟨Int.mul_nonneg hx.1 hy.1, ?_⟩
    have := Int.mul_le_mul (show x ≤ 4294967295 by omega) (show y ≤ 4294967295 by omega) hy.1 (by decide)
    omega
  have p11 := bd a1 b1 h1 h3
  have p10 := bd a1 b0 h1 h4
  have p01 := bd a0 b1 h2 h3
  have p00 := bd a0 b0 h2 h4
  have e : a * b = a1 * b1 * 18446744073709551616 + a1 * b0 * 4294967296 + a0 * b1 * 4294967296 + a0 * b0 := by
    rw [ea, eb]; grind
  generalize a1 * b1 = q11 at *
  generalize a1 * b0 = q10 at *
  generalize a0 * b1 = q01 at *
  generalize a0 * b0 = q00 at *
  rw [e]
  rw [u64_in (n := q11) (by omega) (by omega), u64_in (n := q10) (by omega) (by omega), u64_in (n := q00) (by omega) (by omega), u64_in (n := q01) (by omega) (by omega)]
  rw [u64_in (n := q10 + q00 / 4294967296) (by omega) (by omega)]
  rw [and32 _ (by omega) (by omega)]
  rw [u64_in (n := (q10 + q00 / 4294967296) % 4294967296 + q01) (by omega) (by omega)]
  rw [u64_in (n := q11 + (q10 + q00 / 4294967296) / 4294967296) (by omega) (by omega)]
  rw [u64_in (n := q11 + (q10 + q00 / 4294967296) / 4294967296 + ((q10 + q00 / 4294967296) % 4294967296 + q01) / 4294967296) (by omega) (by omega)]
  rw [u64w]
  congr 2 <;> omega
theorem add64 (x y c : Int) (hx : 0 ≤ x) (hy : 0 ≤ y) (hc0 : 0 ≤ c) (hc : c ≤ 1) : bits_Add64.f x y c = some ((x + y + c) % 18446744073709551616, (x + y + c) / 18446744073709551616) := by
  unfold bits_Add64.f; rw [if_pos ⟨hx, hy, hc0, hc⟩]
theorem sum_rep (a b : Int) (ha0 : -9223372036854775808 ≤ a) (ha : a ≤ 9223372036854775807) (hb0 : -9223372036854775808 ≤ b) (hb : b ≤ 9223372036854775807) : ∃ hi lo m, fixed_sum.f a b = some (hi, lo, m) ∧ Rep hi lo m (a + b) := by
  have sg : ∀ x : Int, -9223372036854775808 ≤ x → x ≤ 9223372036854775807 → ∃ u s : Int, x % 18446744073709551616 = u ∧ x / 9223372036854775808 % 18446744073709551616 = s ∧ 0 ≤ u ∧ u < 18446744073709551616 ∧ ((s = 0 ∧ x = u) ∨ (s = 18446744073709551615 ∧ x = u - 18446744073709551616)) := by
    intro x h0 h1
    refine ⟨_, _, rfl, rfl, ?_, ?_, ?_⟩ <;> omega
  obtain ⟨u, s, eu, es, hu0, hu1, hs⟩ := sg a ha0 ha
  obtain ⟨v, t, ev, et, hv0, hv1, ht⟩ := sg b hb0 hb
  unfold fixed_sum.f
  rw [u64w a, u64w b, eu, ev, u64w (a / _), u64w (b / _), es, et, add64 u v 0 hu0 hv0 (by omega) (by omega)]
  simp only [bsome]
  rw [u64w (s + t)]
  obtain ⟨c, lo, ec, el, hc, hl0, hl1, huv⟩ : ∃ c lo : Int, (u + v + 0) / 18446744073709551616 = c ∧ (u + v + 0) % 18446744073709551616 = lo ∧ (c = 0 ∨ c = 1) ∧ 0 ≤ lo ∧ lo < 18446744073709551616 ∧ u + v = c * 18446744073709551616 + lo := ⟨_, _, rfl, rfl, by omega, by omega, by omega, by omega⟩
  rw [ec, el]
  obtain ⟨hi, eh, hh0, hh1, hsum, hsm⟩ : ∃ hi : Int, IntKind.u64.wrap ((s + t) % 18446744073709551616 + c) = hi ∧ 0 ≤ hi ∧ hi < 18446744073709551616 ∧ ((hi ≤ 1 ∧ a + b = hi * 18446744073709551616 + lo) ∨ (18446744073709551614 ≤ hi ∧ a + b = (hi - 18446744073709551616) * 18446744073709551616 + lo)) ∧ True := by
    refine ⟨_, rfl, ?_, ?_, ?_, trivial⟩ <;> rw [u64w] <;> clear eu es ev et ec el <;> rcases hs with ⟨rfl, rfl⟩ | ⟨rfl, rfl⟩ <;> rcases ht with ⟨rfl, rfl⟩ | ⟨rfl, rfl⟩ <;> rcases hc with rfl | rfl <;> omega
  rw [eh]
  clear eh hc ec el eu es ev et
  by_cases hn : wrap64 hi < 0
  · rw [if_pos hn, xorall lo (by omega) (by omega), xorall hi (by omega) (by omega), add64 _ _ _ (by omega) (by omega) (by omega) (by omega)]
    refine ⟨_, _, _, rfl, ?_⟩
    unfold wrap64 at hn
    unfold Rep
    rw [if_pos rfl, u64w]
    have h2 : 18446744073709551614 ≤ hi := by omega
    clear hn hs ht
    have : hi = 18446744073709551614 ∨ hi = 18446744073709551615 := by omega
    rcases this with rfl | rfl <;> omega
  · rw [if_neg hn]
    refine ⟨_, _, _, rfl, ?_⟩
    unfold wrap64 at hn
    unfold Rep
    rw [if_neg (by decide)]
    have h2 : hi ≤ 1 := by omega
    clear hn hs ht
    omega
theorem cut_rep {hi lo : Int} {m : Bool} {x : Int} (h : Rep hi lo m x) (most : Int) (h0 : 0 < most) (h1 : most ≤ 9223372036854775807) : fixed_whole_cut.f hi lo m most = some (clampTo most x) := by
  obtain ⟨a, b, c, d, e⟩ := h
  unfold fixed_whole_cut.f
  rw [u64_in (n := most) (by omega) (by omega)]
  subst e
  unfold clampTo
  cases m <;> simp only [cond_true, cond_false, if_true, if_false, Bool.false_eq_true] <;> (repeat' split) <;> (try unfold wrap64) <;> (first | omega | (refine congrArg some ?_; omega))
theorem span_rep {hi lo : Int} {m : Bool} {x : Int} (h : Rep hi lo m x) : fixed_whole_span.f hi lo m = some (sat x) := by
  unfold fixed_whole_span.f
  rw [cut_rep h _ (by omega) (by omega)]
  rfl
theorem sat_in (x : Int) : -4611686018427387904 ≤ sat x ∧ sat x ≤ 4611686018427387904 := by
  unfold sat clampTo; (repeat' split) <;> omega
theorem sat_of {x : Int} (h0 : -4611686018427387904 ≤ x) (h1 : x ≤ 4611686018427387904) : sat x = x := by
  unfold sat clampTo; (repeat' split) <;> omega
theorem add_eq (a b : Int) (ha0 : -9223372036854775808 ≤ a) (ha : a ≤ 9223372036854775807) (hb0 : -9223372036854775808 ≤ b) (hb : b ≤ 9223372036854775807) : fixed_Add.f a b = some (sat (a + b)) := by
  obtain ⟨hi, lo, m, e, r⟩ := sum_rep a b ha0 ha hb0 hb
  unfold fixed_Add.f
  rw [e]
  simp only [bsome]
  rw [span_rep r]
  rfl
/-- With rounds enough, g answers r. -/
def Ev {α : Type} (g : Nat → Option α) (r : α) : Prop := ∃ K, ∀ k, K ≤ k → g k = some r
theorem Ev.now {α : Type} (r : α) : Ev (fun _ => some r) r := ⟨0, fun _ _ => rfl⟩
theorem Ev.rounds {α : Type} {g : Nat → Option α} {r : α} (h : Ev g r) : ∃ k, g k = some r := by
  obtain ⟨K, h⟩ := h; exact ⟨K, h K (Nat.le_refl K)⟩
theorem Ev.bind {α β : Type} {g : Nat → Option α} {f : Nat → α → Option β} {a : α} {r : β} (h : Ev g a) (k : Ev (fun n => f n a) r) : Ev (fun n => (g n).bind (f n)) r := by
  obtain ⟨K, h⟩ := h; obtain ⟨L, k⟩ := k
  refine ⟨max K L, fun n hn => ?_⟩
  show (g n).bind (f n) = some r
  rw [h n (by omega), bsome]; exact k n (by omega)
theorem Ev.step {α : Type} {g f : Nat → Option α} {r : α} (h : ∀ k, g (k + 1) = f k) (k : Ev f r) : Ev g r := by
  obtain ⟨K, k⟩ := k
  refine ⟨K + 1, fun n hn => ?_⟩
  obtain ⟨m, rfl⟩ : ∃ m, n = m + 1 := ⟨n - 1, by omega⟩
  rw [h m]; exact k m (by omega)
theorem Ev.congr {α : Type} {g f : Nat → Option α} {r : α} (h : ∀ k, g k = f k) (k : Ev f r) : Ev g r := by
  obtain ⟨K, k⟩ := k; exact ⟨K, fun n hn => by rw [h n]; exact k n hn⟩
theorem Ev.succ {α : Type} {g : Nat → Option α} {r : α} (h : ∀ k, g (k + 1) = some r) : Ev g r := Ev.step h (Ev.now r)
theorem Ev.const {α : Type} {g : Option α} {r : α} (h : g = some r) : Ev (fun _ => g) r := by rw [h]; exact Ev.now r
theorem pow_le {m n : Nat} (h : m ≤ n) : (2 : Int) ^ m ≤ 2 ^ n := by
  obtain ⟨d, rfl⟩ := Nat.exists_eq_add_of_le h
  rw [Int.pow_add]
  have h1 : (0 : Int) < 2 ^ m := Int.pow_pos (by decide)
  have h2 : (0 : Int) < 2 ^ d := Int.pow_pos (by decide)
  have := Int.mul_le_mul_of_nonneg_left (show (1 : Int) ≤ 2 ^ d by omega) (Int.le_of_lt h1)
  omega
theorem ev_add (a b : Int) (ha0 : -9223372036854775808 ≤ a) (ha : a ≤ 9223372036854775807) (hb0 : -9223372036854775808 ≤ b) (hb : b ≤ 9223372036854775807) : Ev (fun _ => fixed_Add.f a b) (sat (a + b)) := Ev.const (add_eq a b ha0 ha hb0 hb)
theorem ev_span {hi lo : Int} {m : Bool} {x : Int} (h : Rep hi lo m x) : Ev (fun _ => fixed_whole_span.f hi lo m) (sat x) := Ev.const (span_rep h)
theorem ev_cut {hi lo : Int} {m : Bool} {x : Int} (h : Rep hi lo m x) (most : Int) (h0 : 0 < most) (h1 : most ≤ 9223372036854775807) : Ev (fun _ => fixed_whole_cut.f hi lo m most) (clampTo most x) := Ev.const (cut_rep h most h0 h1)
theorem size_eq (a : Int) (ha0 : -9223372036854775808 ≤ a) (ha : a ≤ 9223372036854775807) : fixed_size.f a = some (if a < 0 then -a else a, decide (a < 0)) := by
  unfold fixed_size.f
  by_cases h : a < 0
  · rw [if_pos h, if_pos h, u64w, u64w]
    simp only [h, decide_true]
    congr 2; omega
  · rw [if_neg h, if_neg h, u64w]
    simp only [h, decide_false]
    congr 2; omega
theorem mul_u64 (x y : Int) (hx0 : 0 ≤ x) (hx : x ≤ 9223372036854775808) (hy0 : 0 ≤ y) (hy : y ≤ 9223372036854775808) : 0 ≤ x * y ∧ x * y ≤ 85070591730234615865843651857942052864 := by
  refine ⟨Int.mul_nonneg hx0 hy0, ?_⟩
  have := Int.mul_le_mul hx hy hy0 (by omega)
  omega
theorem product_rep (a b : Int) (ha0 : -9223372036854775808 ≤ a) (ha : a ≤ 9223372036854775807) (hb0 : -9223372036854775808 ≤ b) (hb : b ≤ 9223372036854775807) : ∃ hi lo m, fixed_product.f a b = some (hi, lo, m) ∧ Rep hi lo m (a * b) := by
  unfold fixed_product.f
  rw [size_eq a ha0 ha, size_eq b hb0 hb]
  simp only [bsome]
  have e : ∀ x : Int, ∃ n : Int, (if x < 0 then -x else x) = n ∧ 0 ≤ n ∧ ((x < 0 ∧ x = -n) ∨ (¬ x < 0 ∧ x = n)) := by
    intro x; exact ⟨_, rfl, by split <;> omega, by split <;> omega⟩
  obtain ⟨x, ex, hx0, hx⟩ := e a
  obtain ⟨y, ey, hy0, hy⟩ := e b
  rw [ex, ey, mul64 x y hx0 (by omega) hy0 (by omega)]
  have hp := mul_u64 x y hx0 (by omega) hy0 (by omega)
  refine ⟨_, _, _, rfl, ?_⟩
  have hab : a * b = if (decide (a < 0) != decide (b < 0)) = true then -(x * y) else x * y := by
    rcases hx with ⟨h1, rfl⟩ | ⟨h1, rfl⟩ <;> rcases hy with ⟨h2, rfl⟩ | ⟨h2, rfl⟩ <;> (first | rw [decide_eq_true h1] | rw [decide_eq_false h1]) <;> (first | rw [decide_eq_true h2] | rw [decide_eq_false h2]) <;> simp [Int.neg_mul, Int.mul_neg]
  rw [hab]
  clear hab hx hy ex ey
  generalize x * y = p at *
  unfold Rep
  refine ⟨by omega, by omega, by omega, by omega, ?_⟩
  have : p / 18446744073709551616 * 18446744073709551616 + p % 18446744073709551616 = p := by omega
  rw [this]
/-! ### a division of two words by one, digit by digit -/
theorem bitLen_spec : ∀ (n x : Nat), x ≤ n → 0 < x → x < 18446744073709551616 → 1 ≤ Lib.bitLen x ∧ 2 ^ (Lib.bitLen x - 1) ≤ x ∧ x < 2 ^ (Lib.bitLen x)
  | 0, x, h, h0, _ => by omega
  | n + 1, x, h, h0, h1 => by
    rw [Lib.bitLen_half x (by omega) (by omega)]
    by_cases e : x = 1
    · subst e; decide
    · obtain ⟨a, b, c⟩ := bitLen_spec n (x / 2) (by omega) (by omega) (by omega)
      generalize Lib.bitLen (x / 2) = m at *
      obtain ⟨m, rfl⟩ : ∃ k, m = k + 1 := ⟨m - 1, by omega⟩
      have e1 : 1 + (m + 1) - 1 = m + 1 := by omega
      have e2 : 1 + (m + 1) = m + 1 + 1 := by omega
      rw [e1, e2]
      simp only [Nat.add_sub_cancel] at b
      rw [Nat.pow_succ] at c ⊢
      rw [Nat.pow_succ (n := 2) (m := m + 1), Nat.pow_succ]
      omega
/-- What a trial digit q and its rest r say: y: the divisor's two digits. -/
structure Trial (y1 y0 u w q r : Int) : Prop where
  y1lo : 2147483648 ≤ y1
  y1hi : y1 < 4294967296
  y0lo : 0 ≤ y0
  y0hi : y0 < 4294967296
  ulo : 0 ≤ u
  uhi : u < y1 * 4294967296 + y0
  wlo : 0 ≤ w
  whi : w < 4294967296
  qlo : 0 ≤ q
  qhi : q < 18446744073709551616
  rlo : 0 ≤ r
  rhi : r < 4294967296
  sum : q * y1 + r = u
  big : u * 4294967296 + w < (q + 1) * (y1 * 4294967296 + y0)
theorem Trial.prod {y1 y0 u w q r : Int} (h : Trial y1 y0 u w q r) : q * (y1 * 4294967296 + y0) = (u - r) * 4294967296 + q * y0 := by
  have := h.sum; grind
/-- The test says no: the digit is right. -/
theorem Trial.right {y1 y0 u w q r : Int} (h : Trial y1 y0 u w q r) (hw : q * y0 ≤ 4294967296 * r + w) : q * (y1 * 4294967296 + y0) ≤ u * 4294967296 + w := by
  rw [h.prod]; omega
/-- The test says yes: the digit is too great. -/
theorem Trial.great {y1 y0 u w q r : Int} (h : Trial y1 y0 u w q r) (ht : 4294967296 ≤ q ∨ 4294967296 * r + w < q * y0) : u * 4294967296 + w < q * (y1 * 4294967296 + y0) := by
  rcases ht with ht | ht
  · have h1 := h.uhi; have h2 := h.whi; have h3 := h.y1lo; have h4 := h.y0lo
    have := Int.mul_le_mul_of_nonneg_right ht (show 0 ≤ y1 * 4294967296 + y0 by omega)
    omega
  · rw [h.prod]; omega
theorem Trial.pos {y1 y0 u w q r : Int} (h : Trial y1 y0 u w q r) (hg : u * 4294967296 + w < q * (y1 * 4294967296 + y0)) : 1 ≤ q := by
  have h1 := h.ulo; have h2 := h.wlo; have h3 := h.qlo
  by_cases e : q = 0
  · rw [e, Int.zero_mul] at hg; omega
  · omega
/-- The next digit, if its rest is small. -/
theorem Trial.next {y1 y0 u w q r : Int} (h : Trial y1 y0 u w q r) (hg : u * 4294967296 + w < q * (y1 * 4294967296 + y0)) (hr : r + y1 < 4294967296) : Trial y1 y0 u w (q - 1) (r + y1) := by
  have := h.pos hg
  refine ⟨h.y1lo, h.y1hi, h.y0lo, h.y0hi, h.ulo, h.uhi, h.wlo, h.whi, by omega, by have := h.qhi; omega, by have := h.rlo; have := h.y1lo; omega, hr, ?_, ?_⟩
  · have := h.sum; grind
  · rw [show q - 1 + 1 = q by omega]; exact hg
/-- The next digit is right, if its rest is great. -/
theorem Trial.last {y1 y0 u w q r : Int} (h : Trial y1 y0 u w q r) (hg : u * 4294967296 + w < q * (y1 * 4294967296 + y0)) (hr : 4294967296 ≤ r + y1) : (q - 1) * (y1 * 4294967296 + y0) ≤ u * 4294967296 + w ∧ q - 1 < 4294967296 := by
  have hp := h.pos hg
  have e : (q - 1) * y1 + (r + y1) = u := by have := h.sum; grind
  have h1 := h.uhi; have h2 := h.y0hi; have h3 := h.y0lo; have h4 := h.wlo; have h5 := h.y1lo
  have hq : q - 1 < 4294967296 := by
    rcases Int.lt_or_le (q - 1) 4294967296 with hl | hl
    · exact hl
    · have := Int.mul_le_mul_of_nonneg_right hl (show 0 ≤ y1 by omega)
      omega
  refine ⟨?_, hq⟩
  have e2 : (q - 1) * (y1 * 4294967296 + y0) = (u - (r + y1)) * 4294967296 + (q - 1) * y0 := by grind
  rw [e2]
  have := Int.mul_le_mul (show q - 1 ≤ 4294967295 by omega) (show y0 ≤ 4294967295 by omega) h3 (by decide)
  omega
theorem Trial.uniq {q q' y n : Int} (hy : 0 < y) (a : q * y ≤ n) (b : n < (q + 1) * y) (a' : q' * y ≤ n) (b' : n < (q' + 1) * y) : q = q' := by
  rcases Int.lt_trichotomy q q' with h | h | h
  · have := Int.mul_le_mul_of_nonneg_right (show q + 1 ≤ q' by omega) (Int.le_of_lt hy); omega
  · exact h
  · have := Int.mul_le_mul_of_nonneg_right (show q' + 1 ≤ q by omega) (Int.le_of_lt hy); omega
theorem Trial.small {y1 y0 u w q r : Int} (h : Trial y1 y0 u w q r) (hq : ¬ 4294967296 ≤ q) : 0 ≤ q * y0 ∧ q * y0 < 18446744073709551616 := by
  have h2 := h.y0hi; have h3 := h.y0lo; have h4 := h.qlo
  have := Int.mul_le_mul (show q ≤ 4294967295 by omega) (show y0 ≤ 4294967295 by omega) h3 (by decide)
  exact ⟨Int.mul_nonneg h4 h3, by omega⟩
theorem Trial.test {y1 y0 u w q r : Int} (h : Trial y1 y0 u w q r) {α : Type} (f : Bool → α) :
    (if q ≥ 4294967296 then f true else f (decide ((IntKind.u64.wrap (q * y0)) > (IntKind.u64.wrap ((IntKind.u64.wrap (4294967296 * r)) + w))))) = f (decide (4294967296 ≤ q ∨ 4294967296 * r + w < q * y0)) := by
  by_cases hq : 4294967296 ≤ q
  · rw [if_pos hq, decide_eq_true (Or.inl hq)]
  · have hs := h.small hq
    have h1 := h.rlo; have h2 := h.rhi; have h3 := h.wlo; have h4 := h.whi
    rw [if_neg hq, u64_in hs.1 hs.2, u64_in (n := 4294967296 * r) (by omega) (by omega), u64_in (n := 4294967296 * r + w) (by omega) (by omega)]
    congr 1
    simp [hq]
theorem div_l0 (y s y1 y0 u w v Q : Int) (hy : y = y1 * 4294967296 + y0) (hQ : Q * y ≤ u * 4294967296 + w) (hQ' : u * 4294967296 + w < (Q + 1) * y) {res : Int × Int}
    (hj : Ev (fun k => bits_Div64.j0 k y s y1 y0 u w v Q) res) : ∀ (d : Nat) (q r : Int), Trial y1 y0 u w q r → q < d → Ev (fun k => bits_Div64.l0 k y s y1 y0 u w v q r) res := by
  intro d
  induction d with
  | zero => intro q r h hd; have := h.qlo; omega
  | succ d ih =>
    intro q r h hd
    have hy0 : 0 < y1 * 4294967296 + y0 := by have := h.y1lo; have := h.y0lo; omega
    refine Ev.step (f := fun k => bif (decide (4294967296 ≤ q ∨ 4294967296 * r + w < q * y0)) then (if IntKind.u64.wrap (r + y1) ≥ 4294967296 then bits_Div64.j0 k y s y1 y0 u w v (IntKind.u64.wrap (q - 1)) else bits_Div64.l0 k y s y1 y0 u w v (IntKind.u64.wrap (q - 1)) (IntKind.u64.wrap (r + y1))) else bits_Div64.j0 k y s y1 y0 u w v q) (fun k => ?_) ?_
    · simp only [bits_Div64.l0]
      rw [← h.test (fun b => bif b then (if IntKind.u64.wrap (r + y1) ≥ 4294967296 then bits_Div64.j0 k y s y1 y0 u w v (IntKind.u64.wrap (q - 1)) else bits_Div64.l0 k y s y1 y0 u w v (IntKind.u64.wrap (q - 1)) (IntKind.u64.wrap (r + y1))) else bits_Div64.j0 k y s y1 y0 u w v q)]
      simp only [cond_true, Bool.cond_decide]
    by_cases ht : 4294967296 ≤ q ∨ 4294967296 * r + w < q * y0
    · have hg := h.great ht
      have hp := h.pos hg
      have e1 : IntKind.u64.wrap (q - 1) = q - 1 := u64_in (by omega) (by have := h.qhi; omega)
      have e2 : IntKind.u64.wrap (r + y1) = r + y1 := u64_in (by have := h.rlo; have := h.y1lo; omega) (by have := h.rhi; have := h.y1hi; omega)
      rw [decide_eq_true ht]
      simp only [cond_true]
      rw [e1, e2]
      by_cases hr : 4294967296 ≤ r + y1
      · have hl := h.last hg hr
        have e : q - 1 = Q := by
          rw [hy] at hQ hQ'
          exact Trial.uniq hy0 hl.1 (by rw [show q - 1 + 1 = q by omega]; exact hg) hQ hQ'
        rw [e]
        simp only [ge_iff_le, hr, if_true]
        exact hj
      · simp only [ge_iff_le, hr, if_false]
        exact ih _ _ (h.next hg (by omega)) (by omega)
    · have e : q = Q := by
        rw [hy] at hQ hQ'
        exact Trial.uniq hy0 (h.right (by omega)) h.big hQ hQ'
      rw [decide_eq_false ht]
      simp only [cond_false]
      rw [e]
      exact hj
theorem div_l1 (y s y1 y0 u w p Q : Int) (hs : 0 ≤ s) (hy : y = y1 * 4294967296 + y0) (hQ : Q * y ≤ u * 4294967296 + w) (hQ' : u * 4294967296 + w < (Q + 1) * y) : ∀ (d : Nat) (q r : Int), Trial y1 y0 u w q r → q < d →
    Ev (fun k => bits_Div64.l1 k y s y1 y0 w p r u q) (IntKind.u64.wrap ((IntKind.u64.wrap (p * 4294967296)) + Q), shr .u64 (IntKind.u64.wrap ((IntKind.u64.wrap ((IntKind.u64.wrap (u * 4294967296)) + w)) - (IntKind.u64.wrap (Q * y)))) s) := by
  have hj : Ev (fun k => bits_Div64.j1 k y s w p u Q) (IntKind.u64.wrap ((IntKind.u64.wrap (p * 4294967296)) + Q), shr .u64 (IntKind.u64.wrap ((IntKind.u64.wrap ((IntKind.u64.wrap (u * 4294967296)) + w)) - (IntKind.u64.wrap (Q * y)))) s) := by
    refine Ev.step (fun k => ?_) (Ev.now _)
    simp only [bits_Div64.j1]
    rw [if_pos hs]
  intro d
  induction d with
  | zero => intro q r h hd; have := h.qlo; omega
  | succ d ih =>
    intro q r h hd
    have hy0 : 0 < y1 * 4294967296 + y0 := by have := h.y1lo; have := h.y0lo; omega
    refine Ev.step (f := fun k => bif (decide (4294967296 ≤ q ∨ 4294967296 * r + w < q * y0)) then (if IntKind.u64.wrap (r + y1) ≥ 4294967296 then bits_Div64.j1 k y s w p u (IntKind.u64.wrap (q - 1)) else bits_Div64.l1 k y s y1 y0 w p (IntKind.u64.wrap (r + y1)) u (IntKind.u64.wrap (q - 1))) else bits_Div64.j1 k y s w p u q) (fun k => ?_) ?_
    · simp only [bits_Div64.l1]
      rw [← h.test (fun b => bif b then (if IntKind.u64.wrap (r + y1) ≥ 4294967296 then bits_Div64.j1 k y s w p u (IntKind.u64.wrap (q - 1)) else bits_Div64.l1 k y s y1 y0 w p (IntKind.u64.wrap (r + y1)) u (IntKind.u64.wrap (q - 1))) else bits_Div64.j1 k y s w p u q)]
      simp only [cond_true, Bool.cond_decide]
    by_cases ht : 4294967296 ≤ q ∨ 4294967296 * r + w < q * y0
    · have hg := h.great ht
      have hp := h.pos hg
      have e1 : IntKind.u64.wrap (q - 1) = q - 1 := u64_in (by omega) (by have := h.qhi; omega)
      have e2 : IntKind.u64.wrap (r + y1) = r + y1 := u64_in (by have := h.rlo; have := h.y1lo; omega) (by have := h.rhi; have := h.y1hi; omega)
      rw [decide_eq_true ht]
      simp only [cond_true]
      rw [e1, e2]
      by_cases hr : 4294967296 ≤ r + y1
      · have hl := h.last hg hr
        have e : q - 1 = Q := by
          rw [hy] at hQ hQ'
          exact Trial.uniq hy0 hl.1 (by rw [show q - 1 + 1 = q by omega]; exact hg) hQ hQ'
        rw [e]
        simp only [ge_iff_le, hr, if_true]
        exact hj
      · simp only [ge_iff_le, hr, if_false]
        exact ih _ _ (h.next hg (by omega)) (by omega)
    · have e : q = Q := by
        rw [hy] at hQ hQ'
        exact Trial.uniq hy0 (h.right (by omega)) h.big hQ hQ'
      rw [decide_eq_false ht]
      simp only [cond_false]
      rw [e]
      exact hj
theorem Trial.start {y1 y0 u w : Int} (a : 2147483648 ≤ y1) (b : y1 < 4294967296) (c : 0 ≤ y0) (d : y0 < 4294967296) (e : 0 ≤ u) (f : u < y1 * 4294967296 + y0) (g : 0 ≤ w) (i : w < 4294967296) : Trial y1 y0 u w (u / y1) (u % y1) := by
  have hp : 0 < y1 := by omega
  have h1 := Int.ediv_mul_add_emod u y1
  have h2 := Int.emod_nonneg u (show y1 ≠ 0 by omega)
  have h3 := Int.emod_lt_of_pos u hp
  have h4 : 0 ≤ u / y1 := Int.ediv_nonneg e (by omega)
  have h5 : u / y1 ≤ u := Int.ediv_le_self y1 e
  refine ⟨a, b, c, d, e, f, g, i, h4, by omega, h2, by omega, h1, ?_⟩
  have h6 : (u / y1 + 1) * (y1 * 4294967296 + y0) = (u / y1 * y1 + y1) * 4294967296 + (u / y1 * y0 + y0) := by grind
  have h7 : 0 ≤ u / y1 * y0 := Int.mul_nonneg h4 c
  omega
/-- The rests of a digit, as the code computes them. -/
theorem Trial.args {y1 y0 u w : Int} (h : Trial y1 y0 u w (u / y1) (u % y1)) : IntKind.u64.wrap (Int.tdiv u y1) = u / y1 ∧ IntKind.u64.wrap (u - IntKind.u64.wrap (u / y1 * y1)) = u % y1 := by
  have h1 := h.sum; have h2 := h.rlo; have h3 := h.rhi; have h4 := h.qlo; have h5 := h.qhi
  have h6 := h.uhi; have h7 := h.y1hi; have h8 := h.y0hi; have h9 := h.y1lo; have h10 := h.ulo
  rw [Int.tdiv_eq_ediv_of_nonneg h10]
  have h11 : 0 ≤ u / y1 * y1 := Int.mul_nonneg h4 (by omega)
  refine ⟨u64_in h4 h5, ?_⟩
  rw [u64_in (n := u / y1 * y1) h11 (by omega), u64_in (by omega) (by omega)]
  omega
/-- What is left behind a digit. -/
theorem rest_eq {u w Y Q : Int} (hu : 0 ≤ u) (hw : 0 ≤ w) (hY : Y < 18446744073709551616) (hQ : Q * Y ≤ u * 4294967296 + w) (hQ' : u * 4294967296 + w < (Q + 1) * Y) : IntKind.u64.wrap ((IntKind.u64.wrap ((IntKind.u64.wrap (u * 4294967296)) + w)) - (IntKind.u64.wrap (Q * Y))) = u * 4294967296 + w - Q * Y := by
  rw [Int.add_mul, Int.one_mul] at hQ'
  simp only [u64w]
  generalize Q * Y = p at *
  omega
theorem digit_lt {u w Y Q : Int} (h0 : 0 ≤ u) (h1 : 0 ≤ w) (h2 : w < 4294967296) (hu : u < Y) (hQ : Q * Y ≤ u * 4294967296 + w) (hQ' : u * 4294967296 + w < (Q + 1) * Y) : 0 ≤ Q ∧ Q < 4294967296 := by
  have hY : 0 < Y := by omega
  refine ⟨?_, ?_⟩
  · rcases Int.lt_or_le Q 0 with h | h
    · have := Int.mul_le_mul_of_nonneg_right (show Q + 1 ≤ 0 by omega) (Int.le_of_lt hY); omega
    · exact h
  · rcases Int.lt_or_le Q 4294967296 with h | h
    · exact h
    · have := Int.mul_le_mul_of_nonneg_right h (Int.le_of_lt hY); omega
theorem div64_core (Y s u z : Int) (hs : 0 ≤ s) (hY0 : 9223372036854775808 ≤ Y) (hY1 : Y < 18446744073709551616) (hu0 : 0 ≤ u) (hu1 : u < Y) (hz0 : 0 ≤ z) (hz1 : z < 18446744073709551616) :
    Ev (fun k => bits_Div64.l0 k Y s (Y / 4294967296) (Y % 4294967296) u (z / 4294967296) (z % 4294967296) (IntKind.u64.wrap (Int.tdiv u (Y / 4294967296))) (IntKind.u64.wrap (u - IntKind.u64.wrap (IntKind.u64.wrap (Int.tdiv u (Y / 4294967296)) * (Y / 4294967296)))))
      ((u * 18446744073709551616 + z) / Y, shr .u64 ((u * 18446744073709551616 + z) % Y) s) := by
  have hY : 0 < Y := by omega
  obtain ⟨y1, y0, e1, e0, hy, a1, a2, a3, a4⟩ : ∃ y1 y0 : Int, Y / 4294967296 = y1 ∧ Y % 4294967296 = y0 ∧ Y = y1 * 4294967296 + y0 ∧ 2147483648 ≤ y1 ∧ y1 < 4294967296 ∧ 0 ≤ y0 ∧ y0 < 4294967296 := ⟨_, _, rfl, rfl, by omega, by omega, by omega, by omega, by omega⟩
  obtain ⟨w1, w0, f1, f0, hz, b1, b2, b3, b4⟩ : ∃ w1 w0 : Int, z / 4294967296 = w1 ∧ z % 4294967296 = w0 ∧ z = w1 * 4294967296 + w0 ∧ 0 ≤ w1 ∧ w1 < 4294967296 ∧ 0 ≤ w0 ∧ w0 < 4294967296 := ⟨_, _, rfl, rfl, by omega, by omega, by omega, by omega, by omega⟩
  rw [e1, e0, f1, f0]
  clear e1 e0 f1 f0
  have t1 := Trial.start (w := w1) a1 a2 a3 a4 hu0 (by omega) b1 b2
  rw [t1.args.1, t1.args.2]
  obtain ⟨Q1, hQ1, hQ1'⟩ : ∃ Q : Int, Q * Y ≤ u * 4294967296 + w1 ∧ u * 4294967296 + w1 < (Q + 1) * Y := by
    refine ⟨(u * 4294967296 + w1) / Y, ?_, ?_⟩
    · have := Int.ediv_mul_add_emod (u * 4294967296 + w1) Y; have := Int.emod_nonneg (u * 4294967296 + w1) (show Y ≠ 0 by omega); omega
    · rw [Int.add_mul, Int.one_mul]; have := Int.ediv_mul_add_emod (u * 4294967296 + w1) Y; have := Int.emod_lt_of_pos (u * 4294967296 + w1) hY; omega
  have q1b := digit_lt hu0 b1 b2 hu1 hQ1 hQ1'
  have r1e := rest_eq hu0 b1 hY1 hQ1 hQ1'
  obtain ⟨R1, hR1⟩ : ∃ R, u * 4294967296 + w1 - Q1 * Y = R := ⟨_, rfl⟩
  have hR1b : 0 ≤ R1 ∧ R1 < Y := by rw [Int.add_mul, Int.one_mul] at hQ1'; omega
  rw [hR1] at r1e
  have t2 := Trial.start (w := w0) a1 a2 a3 a4 hR1b.1 (by omega) b3 b4
  obtain ⟨Q0, hQ0, hQ0'⟩ : ∃ Q : Int, Q * Y ≤ R1 * 4294967296 + w0 ∧ R1 * 4294967296 + w0 < (Q + 1) * Y := by
    refine ⟨(R1 * 4294967296 + w0) / Y, ?_, ?_⟩
    · have := Int.ediv_mul_add_emod (R1 * 4294967296 + w0) Y; have := Int.emod_nonneg (R1 * 4294967296 + w0) (show Y ≠ 0 by omega); omega
    · rw [Int.add_mul, Int.one_mul]; have := Int.ediv_mul_add_emod (R1 * 4294967296 + w0) Y; have := Int.emod_lt_of_pos (R1 * 4294967296 + w0) hY; omega
  have q0b := digit_lt hR1b.1 b3 b4 hR1b.2 hQ0 hQ0'
  have r0e := rest_eq hR1b.1 b3 hY1 hQ0 hQ0'
  obtain ⟨R0, hR0⟩ : ∃ R, R1 * 4294967296 + w0 - Q0 * Y = R := ⟨_, rfl⟩
  have hR0b : 0 ≤ R0 ∧ R0 < Y := by rw [Int.add_mul, Int.one_mul] at hQ0'; omega
  rw [hR0] at r0e
  have hl1 := div_l1 Y s y1 y0 R1 w0 Q1 Q0 hs hy hQ0 hQ0' (R1 / y1 + 1).toNat _ _ t2 (by have := t2.qlo; omega)
  rw [r0e, u64_in (n := Q1 * 4294967296) (by omega) (by omega), u64_in (n := Q1 * 4294967296 + Q0) (by omega) (by omega)] at hl1
  have eN : u * 18446744073709551616 + z = R0 + (Q1 * 4294967296 + Q0) * Y := by
    rw [Int.add_mul]
    have : Q1 * 4294967296 * Y = Q1 * Y * 4294967296 := by rw [Int.mul_right_comm]
    omega
  have eq : (u * 18446744073709551616 + z) / Y = Q1 * 4294967296 + Q0 := by
    rw [eN, Int.add_mul_ediv_right _ _ (by omega), Int.ediv_eq_zero_of_lt hR0b.1 hR0b.2]; omega
  have em : (u * 18446744073709551616 + z) % Y = R0 := by
    rw [eN, Int.add_mul_emod_self_right, Int.emod_eq_of_lt hR0b.1 hR0b.2]
  rw [eq, em]
  refine div_l0 Y s y1 y0 u w1 w0 Q1 hy hQ1 hQ1' ?_ (u / y1 + 1).toNat _ _ t1 (by have := t1.qlo; omega)
  refine Ev.step (fun k => ?_) hl1
  simp only [bits_Div64.j0]
  rw [if_neg (by omega), r1e, t2.args.1, t2.args.2]
theorem div64 (hi lo y : Int) (h0 : 0 ≤ hi) (h1 : hi < y) (h2 : y < 18446744073709551616) (h3 : 0 ≤ lo) (h4 : lo < 18446744073709551616) :
    Ev (fun k => bits_Div64.f k hi lo y) ((hi * 18446744073709551616 + lo) / y, (hi * 18446744073709551616 + lo) % y) := by
  by_cases hz : hi = 0
  · subst hz
    refine Ev.congr (f := fun _ => some ((0 * 18446744073709551616 + lo) / y, (0 * 18446744073709551616 + lo) % y)) (fun k => ?_) (Ev.now _)
    unfold bits_Div64.f
    have h5 : lo / y ≤ lo := Int.ediv_le_self y h3
    have h6 : 0 ≤ lo / y := Int.ediv_nonneg h3 (by omega)
    rw [if_neg (by omega), if_neg (by omega), if_pos rfl, if_neg (by omega), if_neg (by omega), Int.tdiv_eq_ediv_of_nonneg h3, Int.tmod_eq_emod_of_nonneg h3, u64_in h6 (by omega), Int.zero_mul, Int.zero_add]
  · obtain ⟨n, hn⟩ : ∃ n, Lib.bitLen y.toNat = n := ⟨_, rfl⟩
    obtain ⟨b1, b2, b3⟩ := bitLen_spec y.toNat y.toNat (Nat.le_refl _) (by omega) (by omega)
    have b4 : Lib.bitLen y.toNat ≤ 64 := Lib.bitLen_le y.toNat 64 (by omega) (by omega)
    rw [hn] at b1 b2 b3 b4
    obtain ⟨s, hs⟩ : ∃ s : Nat, s + n = 64 := ⟨64 - n, by omega⟩
    have b2' : (2 : Int) ^ (n - 1) ≤ y := by have : ((2 ^ (n - 1) : Nat) : Int) ≤ y := by omega
                                             simpa using this
    have b3' : y < (2 : Int) ^ n := by have : y < ((2 ^ n : Nat) : Int) := by omega
                                       simpa using this
    have e1 : (2 : Int) ^ s * 2 ^ n = 18446744073709551616 := by rw [← Int.pow_add, hs]; rfl
    have e2 : (2 : Int) ^ s * 2 ^ (n - 1) = 9223372036854775808 := by rw [← Int.pow_add, show s + (n - 1) = 63 by omega]; rfl
    have hP : 0 < (2 : Int) ^ s := Int.pow_pos (by decide)
    have hQ : 0 < (2 : Int) ^ n := Int.pow_pos (by decide)
    have hY0 : 9223372036854775808 ≤ y * 2 ^ s := by
      have := Int.mul_le_mul_of_nonneg_right b2' (Int.le_of_lt hP); rw [Int.mul_comm _ ((2 : Int) ^ s)] at this; omega
    have hY1 : y * 2 ^ s < 18446744073709551616 := by
      have := Int.mul_lt_mul_of_pos_right b3' hP; rw [Int.mul_comm ((2 : Int) ^ n)] at this; omega
    have hl1 : bits_LeadingZeros64.f y = some (s : Int) := by
      unfold bits_LeadingZeros64.f bits_Len64.f
      rw [if_pos ⟨by omega, by omega⟩, hn]
      simp only [bsome]
      rw [w64_in (by omega) (by omega)]
      congr 1; omega
    have hu : hi * 2 ^ s + 2 ^ s ≤ y * 2 ^ s := by
      have := Int.mul_le_mul_of_nonneg_right (show hi + 1 ≤ y by omega) (Int.le_of_lt hP); rw [Int.add_mul, Int.one_mul] at this; exact this
    have hu0 : 0 ≤ hi * 2 ^ s := Int.mul_nonneg h0 (Int.le_of_lt hP)
    have hq0 : 0 ≤ lo / 2 ^ n := Int.ediv_nonneg h3 (Int.le_of_lt hQ)
    have hq1 : lo / 2 ^ n < 2 ^ s := Int.ediv_lt_of_lt_mul hQ (by rw [e1]; exact h4)
    have hr0 := Int.emod_nonneg lo (show (2 : Int) ^ n ≠ 0 by omega)
    have hr1 := Int.emod_lt_of_pos lo hQ
    have hlo := Int.ediv_mul_add_emod lo (2 ^ n)
    have hz0 : 0 ≤ lo % 2 ^ n * 2 ^ s := Int.mul_nonneg hr0 (Int.le_of_lt hP)
    have hz1 : lo % 2 ^ n * 2 ^ s < 18446744073709551616 := by
      have := Int.mul_lt_mul_of_pos_right hr1 hP; rw [Int.mul_comm ((2 : Int) ^ n)] at this; omega
    have ez : lo * 2 ^ s = lo / 2 ^ n * 18446744073709551616 + lo % 2 ^ n * 2 ^ s := by
      have e3 : lo / 2 ^ n * 18446744073709551616 = lo / 2 ^ n * 2 ^ n * 2 ^ s := by rw [← e1, Int.mul_comm ((2 : Int) ^ s), Int.mul_assoc]
      rw [e3, ← Int.add_mul, hlo]
    have f1 : shl .u64 y (s : Int) = y * 2 ^ s := shl_u64 y s (by omega) (by omega) hY1
    have f2 : shl .u64 hi (s : Int) = hi * 2 ^ s := shl_u64 hi s (by omega) hu0 (by omega)
    have f3 : shl .u64 lo (s : Int) = lo % 2 ^ n * 2 ^ s := by
      unfold shl
      rw [show min (s : Int).toNat IntKind.u64.bits = s from by simp [IntKind.bits]; omega, u64w, ez]
      omega
    have f4 : shr .u64 lo (n : Int) = lo / 2 ^ n := shr_eq .u64 rfl lo n b4
    have f5 : Go.bits .or .u64 (hi * 2 ^ s) (lo / 2 ^ n) = hi * 2 ^ s + lo / 2 ^ n :=
      orj s _ _ hu0 (Int.mul_emod_left _ _) (by omega) hq0 hq1 (by omega)
    have g1 : IntKind.u64.wrap (s : Int) = s := u64_in (by omega) (by omega)
    have g2 : IntKind.u64.wrap (64 - (s : Int)) = n := by rw [u64_in (by omega) (by omega)]; omega
    have core := div64_core (y * 2 ^ s) (s : Int) (hi * 2 ^ s + lo / 2 ^ n) (lo % 2 ^ n * 2 ^ s) (by omega) hY0 hY1 (by omega) (by omega) hz0 hz1
    have eN : (hi * 2 ^ s + lo / 2 ^ n) * 18446744073709551616 + lo % 2 ^ n * 2 ^ s = (hi * 18446744073709551616 + lo) * 2 ^ s := by
      rw [Int.add_mul (hi * 18446744073709551616), ez, Int.mul_right_comm]; omega
    have em : (hi * 18446744073709551616 + lo) * 2 ^ s % (y * 2 ^ s) = (hi * 18446744073709551616 + lo) % y * 2 ^ s := by
      rw [Int.mul_comm _ ((2 : Int) ^ s), Int.mul_comm y, Int.mul_emod_mul_of_pos _ _ hP, Int.mul_comm]
    rw [eN, Int.mul_ediv_mul_of_pos_left _ _ hP, em, shr_eq .u64 rfl _ s (by omega), Int.mul_ediv_cancel _ (by omega)] at core
    refine Ev.congr (fun k => ?_) core
    unfold bits_Div64.f
    rw [if_neg (by omega), if_neg (by omega), if_neg hz, hl1]
    simp only [bsome]
    rw [g1, g2, f1, f2, f3, f4, f5, if_pos (by omega), if_pos (by omega), if_pos (by omega), if_pos (by omega), if_neg (by omega), and32 _ (by omega) hY1, and32 _ hz0 hz1]
theorem over_rep {hi lo : Int} {m : Bool} {x : Int} (h : Rep hi lo m x) (y : Int) (hy0 : 0 < y) (hy1 : y < 18446744073709551616) : ∃ hi' lo' m', Ev (fun k => fixed_whole_over.f k hi lo m y) (hi', lo', m') ∧ Rep hi' lo' m' (x / y) := by
  obtain ⟨a, b, c, d, e⟩ := h
  have r0 := Int.emod_nonneg hi (show y ≠ 0 by omega)
  have r1 := Int.emod_lt_of_pos hi hy0
  have hd := div64 (hi % y) lo y r0 r1 hy1 c d
  have q0 : 0 ≤ hi / y := Int.ediv_nonneg a (by omega)
  have q1 : hi / y ≤ hi := Int.ediv_le_self y a
  have eh := Int.ediv_mul_add_emod hi y
  obtain ⟨l, el⟩ : ∃ l, (hi % y * 18446744073709551616 + lo) / y = l := ⟨_, rfl⟩
  obtain ⟨r, er⟩ : ∃ r, (hi % y * 18446744073709551616 + lo) % y = r := ⟨_, rfl⟩
  have s0 := Int.emod_nonneg (hi % y * 18446744073709551616 + lo) (show y ≠ 0 by omega)
  have s1 := Int.emod_lt_of_pos (hi % y * 18446744073709551616 + lo) hy0
  have sl := Int.ediv_mul_add_emod (hi % y * 18446744073709551616 + lo) y
  rw [er] at s0 s1
  rw [el, er] at sl hd
  have hl0 : 0 ≤ l := by rw [← el]; exact Int.ediv_nonneg (by omega) (by omega)
  have hl1 : l < 18446744073709551616 := by
    rw [← el]; exact Int.ediv_lt_of_lt_mul hy0 (by omega)
  have eN : hi * 18446744073709551616 + lo = (hi / y * 18446744073709551616 + l) * y + r := by
    have : hi / y * 18446744073709551616 * y = hi / y * y * 18446744073709551616 := by rw [Int.mul_right_comm]
    rw [Int.add_mul]; omega
  have w1 : IntKind.u64.wrap (Int.tdiv hi y) = hi / y := by rw [Int.tdiv_eq_ediv_of_nonneg a]; exact u64_in q0 (by omega)
  have base : ∀ f : Nat → Int × Int → Option (Int × Int × Bool), ∀ res, Ev (fun k => f k (l, r)) res → Ev (fun k => if y = 0 then none else if y = 0 then none else ((bits_Div64.f k (Int.tmod hi y) lo y).bind (f k))) res := by
    intro f res hf
    refine Ev.congr (f := fun k => (bits_Div64.f k (hi % y) lo y).bind (f k)) (fun k => ?_) (Ev.bind hd hf)
    rw [if_neg (by omega), if_neg (by omega), Int.tmod_eq_emod_of_nonneg a]
  clear el er hd eh sl
  cases m with
  | false =>
    refine ⟨_, _, _, base _ _ (Ev.const (by simp only [cond_false]; rw [w1])), ?_⟩
    simp only [Bool.false_eq_true, if_false] at e
    refine ⟨q0, by omega, hl0, hl1, ?_⟩
    simp only [Bool.false_eq_true, if_false]
    rw [e, eN, Int.add_comm, Int.add_mul_ediv_right _ _ (by omega), Int.ediv_eq_zero_of_lt s0 s1]
    omega
  | true =>
    simp only [if_true] at e
    by_cases hr : r > 0
    · have hy2 : 2 ≤ y := by omega
      have q2 : hi / y < 9223372036854775808 := Int.ediv_lt_of_lt_mul hy0 (by omega)
      refine ⟨_, _, _, base _ _ (Ev.const (by simp only [cond_true]; rw [if_pos hr, add64 l 1 0 hl0 (by omega) (by omega) (by omega), w1]; rfl)), ?_⟩
      unfold Rep
      simp only [if_true, u64w]
      refine ⟨by omega, by omega, by omega, by omega, ?_⟩
      have : x = (y - r) + (-(hi / y * 18446744073709551616 + l) - 1) * y := by
        rw [e, eN, Int.sub_mul, Int.neg_mul]; omega
      rw [this, Int.add_mul_ediv_right _ _ (by omega), Int.ediv_eq_zero_of_lt (by omega) (by omega)]
      omega
    · obtain rfl : r = 0 := by omega
      refine ⟨_, _, _, base _ _ (Ev.const (by simp only [cond_true]; rw [if_neg hr, w1])), ?_⟩
      unfold Rep
      simp only [if_true]
      refine ⟨q0, by omega, hl0, hl1, ?_⟩
      rw [e, eN, Int.add_zero, ← Int.neg_mul, Int.mul_ediv_cancel _ (by omega)]
theorem size_rep (a : Int) (ha0 : -9223372036854775808 ≤ a) (ha : a ≤ 9223372036854775807) : ∃ n m, fixed_size.f a = some (n, m) ∧ Rep 0 n m a ∧ Rep 0 n false (if a < 0 then -a else a) := by
  refine ⟨_, _, size_eq a ha0 ha, ?_, ?_⟩
  · unfold Rep
    by_cases h : a < 0
    · simp only [h, decide_true, if_true]; omega
    · simp only [h, decide_false, if_false, Bool.false_eq_true]; omega
  · unfold Rep
    simp only [Bool.false_eq_true, if_false]
    split <;> omega
theorem ev_sub (a b : Int) (ha0 : -9223372036854775808 ≤ a) (ha : a ≤ 9223372036854775807) (hb0 : -9223372036854775808 ≤ b) (hb : b ≤ 9223372036854775807) : Ev (fun k => fixed_Sub.f a b) (sat (a - b)) := by
  unfold fixed_Sub.f
  by_cases h : b = -9223372036854775808
  · simp only [h, if_true]
    have hs := sat_in (a + 4611686018427387904)
    have e : sat (sat (a + 4611686018427387904) + 4611686018427387904) = sat (a - -9223372036854775808) := by
      unfold sat clampTo; (repeat' split) <;> omega
    rw [← e]
    exact Ev.bind (ev_add _ _ ha0 ha (by omega) (by omega)) (Ev.bind (ev_add _ _ (by omega) (by omega) (by omega) (by omega)) (Ev.now _))
  · simp only [h, if_false]
    rw [w64_in (n := -b) (by omega) (by omega), Int.sub_eq_add_neg]
    exact Ev.bind (ev_add _ _ ha0 ha (by omega) (by omega)) (Ev.now _)
theorem ev_clamp (a b : Int) (ha0 : -9223372036854775808 ≤ a) (ha : a ≤ 9223372036854775807) (hb0 : -9223372036854775808 ≤ b) (hb : b ≤ 9223372036854775807) : Ev (fun k => fixed_Clamp.f a b) (if b < 0 then 0 else sat (mx (mn a b) (-b))) := by
  unfold fixed_Clamp.f
  by_cases h : b < 0
  · simp only [h, if_true]; exact Ev.now _
  · simp only [h, if_false]
    rw [w64_in (n := -b) (by omega) (by omega)]
    have hm : -9223372036854775808 ≤ mx (mn a b) (-b) ∧ mx (mn a b) (-b) ≤ 9223372036854775807 := by
      unfold mx mn; (repeat' split) <;> omega
    have := ev_add (mx (mn a b) (-b)) 0 hm.1 hm.2 (by omega) (by omega)
    rw [Int.add_zero] at this
    exact Ev.bind this (Ev.now _)
def shiftVal (a n : Int) : Int := if n < 0 then sat (a / 2 ^ (-n).toNat) else sat (a * 2 ^ n.toNat)
theorem div_big {a : Int} {m : Nat} (h0 : -9223372036854775808 ≤ a) (h1 : a ≤ 9223372036854775807) (hm : 63 ≤ m) : a / 2 ^ m = if a < 0 then -1 else 0 := by
  have hp := pow_le hm
  have e63 : (2 : Int) ^ 63 = 9223372036854775808 := rfl
  rw [e63] at hp
  by_cases h : a < 0
  · rw [if_pos h, show a = (a + 2 ^ m) + (-1) * 2 ^ m by omega, Int.add_mul_ediv_right _ _ (by omega), Int.ediv_eq_zero_of_lt (by omega) (by omega)]; rfl
  · rw [if_neg h]; exact Int.ediv_eq_zero_of_lt (by omega) (by omega)
theorem sat_pow_big {a : Int} {n : Nat} (hn : 62 ≤ n) : sat (a * 2 ^ n) = if a < 0 then -4611686018427387904 else if a = 0 then 0 else 4611686018427387904 := by
  have hp := pow_le hn
  have e62 : (2 : Int) ^ 62 = 4611686018427387904 := rfl
  rw [e62] at hp
  generalize (2 : Int) ^ n = P at *
  unfold sat clampTo
  by_cases h : a < 0
  · have := Int.mul_le_mul_of_nonneg_right (show a ≤ -1 by omega) (show 0 ≤ P by omega)
    rw [if_pos h]; (repeat' split) <;> omega
  · rw [if_neg h]
    by_cases h2 : a = 0
    · rw [if_pos h2, h2]; simp
    · have := Int.mul_le_mul_of_nonneg_right (show 1 ≤ a by omega) (show 0 ≤ P by omega)
      rw [if_neg h2]; (repeat' split) <;> omega
theorem ev_shift (a n : Int) (ha0 : -9223372036854775808 ≤ a) (ha : a ≤ 9223372036854775807) (hn0 : -9223372036854775808 ≤ n) (hn : n ≤ 9223372036854775807) : Ev (fun k => fixed_Shift.f a n) (shiftVal a n) := by
  unfold fixed_Shift.f shiftVal
  by_cases h : n < 0
  · simp only [h, if_true]
    obtain ⟨m, hm1, hm2, hm3⟩ : ∃ m : Nat, -(mx n (-63)) = (m : Int) ∧ m ≤ 63 ∧ (m : Int) = mn (-n) 63 := by
      refine ⟨(-(mx n (-63))).toNat, ?_, ?_, ?_⟩ <;> unfold mx <;> (try unfold mn) <;> (repeat' split) <;> omega
    rw [hm1, w64_in (n := (m : Int)) (by omega) (by omega), u64_in (n := (m : Int)) (by omega) (by omega), shr_eq .i64 rfl a m (by omega)]
    simp only [show (0 : Int) ≤ (m : Int) from by omega, if_true]
    have e : a / 2 ^ m = a / 2 ^ (-n).toNat := by
      unfold mn at hm3
      by_cases h2 : 63 < -n
      · rw [div_big ha0 ha (by omega), div_big ha0 ha (by omega)]
      · rw [if_neg h2] at hm3
        congr 2; omega
    rw [e]
    have hb : -9223372036854775808 ≤ a / 2 ^ (-n).toNat ∧ a / 2 ^ (-n).toNat ≤ 9223372036854775807 := by
      have hp : (0 : Int) < 2 ^ (-n).toNat := Int.pow_pos (by decide)
      constructor
      · exact Int.le_ediv_of_mul_le hp (by
          have := Int.mul_le_mul_of_nonneg_left (show (1 : Int) ≤ 2 ^ (-n).toNat by omega) (show (0 : Int) ≤ 9223372036854775808 by omega)
          omega)
      · have := Int.ediv_le_ediv hp ha
        have := Int.ediv_le_self (2 ^ (-n).toNat) (show (0 : Int) ≤ 9223372036854775807 by omega)
        omega
    have := ev_add _ 0 hb.1 hb.2 (by omega) (by omega)
    rw [Int.add_zero] at this
    exact Ev.bind this (Ev.now _)
  · simp only [h, if_false]
    by_cases h2 : n ≤ 62
    · simp only [h2, if_true]
      obtain ⟨m, rfl⟩ : ∃ m : Nat, n = m := ⟨n.toNat, by omega⟩
      have hp : (0 : Int) < 2 ^ m := Int.pow_pos (by decide)
      have hp2 := pow_le (show m ≤ 62 by omega)
      have e62 : (2 : Int) ^ 62 = 4611686018427387904 := rfl
      have e : shl .i64 1 (m : Int) = 2 ^ m := by
        unfold shl
        rw [show min (m : Int).toNat IntKind.i64.bits = m from by simp [IntKind.bits]; omega, Int.one_mul, IntKind.wrap_i64]
        omega
      rw [u64_in (n := (m : Int)) (by omega) (by omega), e, Int.toNat_natCast]
      simp only [show (0 : Int) ≤ (m : Int) from by omega, if_true]
      obtain ⟨hi, lo, mm, e', r⟩ := product_rep a (2 ^ m) ha0 ha (by omega) (by omega)
      exact Ev.bind (Ev.const e') (Ev.bind (ev_span r) (Ev.now _))
    · simp only [h2, if_false]
      obtain ⟨hi, lo, mm, e', r⟩ := product_rep a 4611686018427387904 ha0 ha (by omega) (by omega)
      have hs := sat_in (a * 4611686018427387904)
      have hc := ev_clamp (sat (a * 4611686018427387904)) 4611686018427387904 (by omega) (by omega) (by omega) (by omega)
      have e : (if (4611686018427387904 : Int) < 0 then 0 else sat (mx (mn (sat (a * 4611686018427387904)) 4611686018427387904) (-4611686018427387904))) = sat (a * 2 ^ n.toNat) := by
        rw [if_neg (by omega), sat_pow_big (n := n.toNat) (by omega), ← sat_pow_big (n := 62) (by omega)]
        rw [show (2 : Int) ^ 62 = 4611686018427387904 from rfl, show mx (mn (sat (a * 4611686018427387904)) 4611686018427387904) (-4611686018427387904) = sat (a * 4611686018427387904) from by unfold mx mn; (repeat' split) <;> omega]
        exact sat_of hs.1 hs.2
      rw [e] at hc
      exact Ev.bind (Ev.const e') (Ev.bind (ev_span r) (Ev.bind hc (Ev.now _)))
theorem mod_pow_succ {r : Int} {i : Nat} (h : r % 2 ^ (i + 1) = 0) : r % 2 ^ i = 0 := by
  have : (2 : Int) ^ i ∣ 2 ^ (i + 1) := ⟨2, by rw [Int.pow_succ]⟩
  exact Int.emod_eq_zero_of_dvd (Int.dvd_trans this (Int.dvd_of_emod_eq_zero h))
theorem ev_root_l0 (hi lo : Int) (h0 : 0 ≤ hi) (h1 : hi < 18446744073709551616) (h2 : 0 ≤ lo) (h3 : lo < 18446744073709551616) : ∀ (i : Nat) (r : Int), i ≤ 64 → 0 ≤ r → r % 2 ^ i = 0 → r + 2 ^ i ≤ 18446744073709551616 → r * r ≤ hi * 18446744073709551616 + lo → hi * 18446744073709551616 + lo < (r + 2 ^ i) * (r + 2 ^ i) →
    ∃ q, Ev (fun k => fixed_root.l0 k hi lo r ((i : Int) - 1)) q ∧ IsRoot (hi * 18446744073709551616 + lo) q ∧ q < 18446744073709551616 := by
  intro i
  induction i with
  | zero =>
    intro r _ hr _ hb hl hg
    refine ⟨r, Ev.succ fun k => ?_, ⟨hr, hl, by simpa using hg⟩, by simp at hb; omega⟩
    simp only [fixed_root.l0]
    rw [if_neg (by omega)]
  | succ i ih =>
    intro r hi64 hr hm hb hl hg
    have hp : (0 : Int) < 2 ^ i := Int.pow_pos (by decide)
    have es : (2 : Int) ^ (i + 1) = 2 ^ i + 2 ^ i := by rw [Int.pow_succ]; omega
    have e1 : ((i + 1 : Nat) : Int) - 1 = i := by omega
    have e2 : wrap64 ((i : Int) - 1) = (i : Int) - 1 := w64_in (by omega) (by omega)
    have ex : Go.bits .or .u64 r (shl .u64 1 (i : Int)) = r + 2 ^ i := by
      rw [shl_u64 1 i (by omega) (by omega) (by rw [es] at hb; omega), Int.one_mul]
      exact orj (i + 1) _ _ hr hm (by omega) (by omega) (by omega) (by rw [es] at hb; omega)
    have hx : r + 2 ^ i < 18446744073709551616 := by rw [es] at hb; omega
    have hmul := mul64 (r + 2 ^ i) (r + 2 ^ i) (by omega) hx (by omega) hx
    obtain ⟨x, hxe⟩ : ∃ x, r + 2 ^ i = x := ⟨_, rfl⟩
    rw [hxe] at ex hmul hx
    have hxx : 0 ≤ x * x := Int.mul_nonneg (by omega) (by omega)
    rw [e1]
    by_cases ht : hi * 18446744073709551616 + lo < x * x
    · obtain ⟨q, hq, hr'⟩ := ih r (by omega) hr (mod_pow_succ hm) (by rw [es] at hb; omega) hl (by rw [hxe]; exact ht)
      refine ⟨q, Ev.step (f := fun k => fixed_root.l0 k hi lo r ((i : Int) - 1)) (fun k => ?_) hq, hr'⟩
      simp only [fixed_root.l0]
      rw [if_pos (by omega), u64_in (n := (i : Int)) (by omega) (by omega), if_pos (by omega), ex, hmul, e2]
      simp only [bsome]
      generalize x * x = p at *
      by_cases ha : p / 18446744073709551616 > hi
      · rw [if_pos ha]
      · rw [if_neg ha, if_pos (by omega), if_pos (by omega)]
    · obtain ⟨q, hq, hr'⟩ := ih x (by omega) (by omega) (by rw [← hxe, Int.add_emod_right]; exact mod_pow_succ hm) (by rw [es] at hb; omega) (by omega) (by rw [← hxe, Int.add_assoc, ← es]; exact hg)
      refine ⟨q, Ev.step (f := fun k => fixed_root.l0 k hi lo x ((i : Int) - 1)) (fun k => ?_) hq, hr'⟩
      simp only [fixed_root.l0]
      rw [if_pos (by omega), u64_in (n := (i : Int)) (by omega) (by omega), if_pos (by omega), ex, hmul, e2]
      simp only [bsome]
      generalize x * x = p at *
      rw [if_neg (by omega)]
      by_cases ha : p / 18446744073709551616 = hi
      · rw [if_pos ha, if_neg (by omega)]
      · rw [if_neg ha]
theorem ev_root (hi lo : Int) (h0 : 0 ≤ hi) (h1 : hi < 18446744073709551616) (h2 : 0 ≤ lo) (h3 : lo < 18446744073709551616) : ∃ q, Ev (fun k => fixed_root.f k hi lo) q ∧ IsRoot (hi * 18446744073709551616 + lo) q ∧ q < 18446744073709551616 := by
  unfold fixed_root.f
  exact ev_root_l0 hi lo h0 h1 h2 h3 64 0 (by omega) (by omega) (by simp) (by omega) (by omega) (by omega)
theorem ev_scale (a b c : Int) (ha0 : -9223372036854775808 ≤ a) (ha : a ≤ 9223372036854775807) (hb0 : -9223372036854775808 ≤ b) (hb : b ≤ 9223372036854775807) (hc : c ≤ 9223372036854775807) : Ev (fun k => fixed_Scale.f k a b c) (if c ≤ 0 then 0 else sat (a * b / c)) := by
  unfold fixed_Scale.f
  by_cases h : c ≤ 0
  · simp only [h, if_true]; exact Ev.now _
  · simp only [h, if_false]
    obtain ⟨hi, lo, m, e, r⟩ := product_rep a b ha0 ha hb0 hb
    obtain ⟨hi', lo', m', e', r'⟩ := over_rep r c (by omega) (by omega)
    rw [u64_in (n := c) (by omega) (by omega)]
    exact Ev.bind (Ev.const e) (Ev.bind e' (Ev.bind (ev_span r') (Ev.now _)))
/-! ### roots of mean squares -/
def sq : List Int → Int
  | [] => 0
  | x :: l => sat x * sat x + sq l
theorem sq_append (a b : List Int) : sq (a ++ b) = sq a + sq b := by
  induction a with
  | nil => simp [sq]
  | cons x a ih => simp only [List.cons_append, sq, ih]; omega
theorem sq_take_succ (l : List Int) (i : Nat) (h : i < l.length) : sq (l.take (i + 1)) = sq (l.take i) + sat (rd l (i : Int)) * sat (rd l (i : Int)) := by
  rw [List.take_succ_eq_append_getElem h, sq_append]
  have : rd l (i : Int) = l[i] := by unfold rd; rw [Int.toNat_natCast, List.getD_eq_getElem?_getD, List.getElem?_eq_getElem h]; rfl
  rw [this]; simp [sq]
theorem sat_sq (x : Int) : 0 ≤ sat x * sat x ∧ sat x * sat x ≤ 21267647932558653966460912964485513216 := by
  obtain ⟨a, b⟩ := sat_in x
  rcases Int.le_total 0 (sat x) with h | h
  · exact ⟨Int.mul_nonneg h h, Int.mul_le_mul b b h (by decide)⟩
  · have e : sat x * sat x = (-sat x) * (-sat x) := by rw [Int.neg_mul_neg]
    rw [e]
    exact ⟨Int.mul_nonneg (by omega) (by omega), Int.mul_le_mul (show -sat x ≤ 4611686018427387904 by omega) (show -sat x ≤ 4611686018427387904 by omega) (by omega) (by decide)⟩
theorem sq_bd (l : List Int) : 0 ≤ sq l ∧ sq l ≤ l.length * 21267647932558653966460912964485513216 := by
  induction l with
  | nil => simp [sq]
  | cons x l ih => have := sat_sq x; simp only [sq, List.length_cons]; omega
theorem rms_step {lo hi top h m S v : Int} (h0 : 0 ≤ lo) (h1 : lo < 18446744073709551616) (h2 : 0 ≤ hi) (h3 : hi < 18446744073709551616) (h4 : 0 ≤ top) (h5 : top ≤ 1000) (e : S = top * 340282366920938463463374607431768211456 + hi * 18446744073709551616 + lo) (hv : v = h * 18446744073709551616 + m) (h6 : 0 ≤ h) (h7 : h < 18446744073709551616) (h8 : 0 ≤ m) (h9 : m < 18446744073709551616) :
    ∃ lo' c hi' c' : Int, (lo + m + 0) % 18446744073709551616 = lo' ∧ (lo + m + 0) / 18446744073709551616 = c ∧ (hi + h + c) % 18446744073709551616 = hi' ∧ (hi + h + c) / 18446744073709551616 = c' ∧ 0 ≤ c ∧ c ≤ 1 ∧ 0 ≤ c' ∧ c' ≤ 1 ∧ 0 ≤ lo' ∧ lo' < 18446744073709551616 ∧ 0 ≤ hi' ∧ hi' < 18446744073709551616 ∧ S + v = (top + c') * 340282366920938463463374607431768211456 + hi' * 18446744073709551616 + lo' := by
  obtain ⟨lo', c, e1, e2, b1, b2, b3, b4, e3⟩ : ∃ lo' c : Int, (lo + m + 0) % 18446744073709551616 = lo' ∧ (lo + m + 0) / 18446744073709551616 = c ∧ 0 ≤ c ∧ c ≤ 1 ∧ 0 ≤ lo' ∧ lo' < 18446744073709551616 ∧ lo + m = c * 18446744073709551616 + lo' := by
    clear e hv h2 h3 h4 h5 h6 h7
    exact ⟨_, _, rfl, rfl, by omega, by omega, by omega, by omega, by omega⟩
  obtain ⟨hi', c', e4, e5, b5, b6, b7, b8, e6⟩ : ∃ hi' c' : Int, (hi + h + c) % 18446744073709551616 = hi' ∧ (hi + h + c) / 18446744073709551616 = c' ∧ 0 ≤ c' ∧ c' ≤ 1 ∧ 0 ≤ hi' ∧ hi' < 18446744073709551616 ∧ hi + h + c = c' * 18446744073709551616 + hi' := by
    clear e hv h4 h5 e1 e2 e3 h0 h1 h8 h9 b3 b4
    exact ⟨_, _, rfl, rfl, by omega, by omega, by omega, by omega, by omega⟩
  refine ⟨lo', c, hi', c', e1, e2, e4, e5, b1, b2, b5, b6, b3, b4, b7, b8, ?_⟩
  clear e1 e2 e4 e5
  omega
theorem rms_l0 (y : List Int) (hy : ∀ x ∈ y, -9223372036854775808 ≤ x ∧ x ≤ 9223372036854775807) (hn : y.length ≤ 64) (hn0 : 0 < y.length) : ∀ (d i : Nat) (hi lo top : Int), i + d = y.length → 0 ≤ lo → lo < 18446744073709551616 → 0 ≤ hi → hi < 18446744073709551616 → 0 ≤ top → top ≤ i → sq (y.take i) = top * 340282366920938463463374607431768211456 + hi * 18446744073709551616 + lo →
    ∃ q, Ev (fun k => fixed_RMS.l0 k y hi lo top y (y.length : Int) (i : Int)) (sat q) ∧ IsRoot (sq y / (y.length : Int)) q := by
  intro d
  induction d with
  | zero =>
    intro i hi lo top hi_ h0 h1 h2 h3 h4 h5 e
    obtain rfl : i = y.length := by omega
    rw [List.take_length] at e
    have hb := sq_bd y
    obtain ⟨n, hnn⟩ : ∃ n : Int, (y.length : Int) = n := ⟨_, rfl⟩
    rw [hnn] at hb h5 ⊢
    have hn1 : 1 ≤ n ∧ n ≤ 64 := by omega
    have ht : top < n := by omega
    have ew : IntKind.u64.wrap n = n := u64_in (by omega) (by omega)
    have d1 := div64 top hi n h4 ht (by clear ew; omega) h2 h3
    obtain ⟨q1, r1, eq1, er1, hq0, hr0, hr1, eT⟩ : ∃ q1 r1 : Int, (top * 18446744073709551616 + hi) / n = q1 ∧ (top * 18446744073709551616 + hi) % n = r1 ∧ 0 ≤ q1 ∧ 0 ≤ r1 ∧ r1 < n ∧ q1 * n + r1 = top * 18446744073709551616 + hi := by
      clear ew
      exact ⟨_, _, rfl, rfl, Int.ediv_nonneg (by omega) (by omega), Int.emod_nonneg _ (by omega), Int.emod_lt_of_pos _ (by omega), Int.ediv_mul_add_emod _ _⟩
    rw [eq1, er1] at d1
    have d2 := div64 r1 lo n hr0 hr1 (by clear ew; omega) h0 h1
    obtain ⟨q0, r0, eq0, er0, hq00, hr00, hr01, eT0⟩ : ∃ q0 r0 : Int, (r1 * 18446744073709551616 + lo) / n = q0 ∧ (r1 * 18446744073709551616 + lo) % n = r0 ∧ 0 ≤ q0 ∧ 0 ≤ r0 ∧ r0 < n ∧ q0 * n + r0 = r1 * 18446744073709551616 + lo := by
      clear ew
      exact ⟨_, _, rfl, rfl, Int.ediv_nonneg (by omega) (by omega), Int.emod_nonneg _ (by omega), Int.emod_lt_of_pos _ (by omega), Int.ediv_mul_add_emod _ _⟩
    rw [eq0, er0] at d2
    clear eq1 er1 eq0 er0
    have eS : sq y = (q1 * 18446744073709551616 + q0) * n + r0 := by
      rw [Int.add_mul, Int.mul_right_comm]; clear ew d1 d2; omega
    have hN : 0 < n := by clear ew; omega
    have eD : sq y / n = q1 * 18446744073709551616 + q0 := by
      rw [eS, Int.add_comm, Int.add_mul_ediv_right _ _ (by clear ew; omega), Int.ediv_eq_zero_of_lt hr00 hr01]; clear ew; omega
    have hle : sq y / n ≤ 21267647932558653966460912964485513216 := by
      refine Int.le_of_lt_add_one (Int.ediv_lt_of_lt_mul hN ?_)
      rw [Int.add_mul]; clear ew; omega
    rw [eD] at hle
    have hq0l : q0 < 18446744073709551616 := by
      rcases Int.lt_or_le q0 18446744073709551616 with h | h
      · exact h
      · have := Int.mul_le_mul_of_nonneg_right h (Int.le_of_lt hN); clear ew; omega
    obtain ⟨q, hq, hr, hl⟩ := ev_root q1 q0 hq0 (by clear ew; omega) hq00 hq0l
    rw [eD]
    have hrep : Rep 0 q false q := ⟨by clear ew; omega, by clear ew; omega, hr.1, hl, by simp⟩
    refine ⟨q, Ev.step (f := fun k => (bits_Div64.f k top hi n).bind fun bt238 => ((bits_Div64.f k bt238.2 lo n).bind fun bt240 => ((fixed_root.f k bt238.1 bt240.1).bind fun t242 => ((fixed_whole_span.f 0 t242 false).bind fun t243 => (some t243))))) (fun k => ?_) (Ev.bind d1 (Ev.bind d2 (Ev.bind hq (Ev.bind (ev_span hrep) (Ev.now _))))), hr⟩
    simp only [fixed_RMS.l0]
    rw [hnn, if_neg (Int.lt_irrefl _), ew]
  | succ d ih =>
    intro i hi lo top hi_ h0 h1 h2 h3 h4 h5 e
    have hm : rd y (i : Int) ∈ y := by
      unfold rd
      rw [Int.toNat_natCast, List.getD_eq_getElem?_getD, List.getElem?_eq_getElem (by omega)]
      exact List.getElem_mem _
    have hr := hy _ hm
    have hs := sat_in (rd y (i : Int))
    have hss := sat_sq (rd y (i : Int))
    have hst := sq_take_succ y i (by omega)
    obtain ⟨x, hx⟩ : ∃ x, rd y (i : Int) = x := ⟨_, rfl⟩
    rw [hx] at hr hs hss hst
    have ea := ev_add x 0 hr.1 hr.2 (by omega) (by omega)
    rw [Int.add_zero] at ea
    obtain ⟨s, hse⟩ : ∃ s, sat x = s := ⟨_, rfl⟩
    rw [hse] at hs hss hst ea
    obtain ⟨n, en, en0, en1, enn⟩ : ∃ n : Int, (if s < 0 then -s else s) = n ∧ 0 ≤ n ∧ n ≤ 4611686018427387904 ∧ n * n = s * s := by
      refine ⟨_, rfl, by split <;> omega, by split <;> omega, ?_⟩
      split
      · rw [Int.neg_mul_neg]
      · rfl
    have hsz := size_eq s (by omega) (by omega)
    rw [en] at hsz
    have hmu := mul64 n n en0 (by omega) en0 (by omega)
    rw [enn] at hmu
    generalize s * s = v at *
    obtain ⟨H, m, eH, em, b1, b2, b3, b4, ev⟩ : ∃ H m : Int, v / 18446744073709551616 = H ∧ v % 18446744073709551616 = m ∧ 0 ≤ H ∧ H < 18446744073709551616 ∧ 0 ≤ m ∧ m < 18446744073709551616 ∧ v = H * 18446744073709551616 + m := by
      clear hst e hsz hmu ea
      exact ⟨_, _, rfl, rfl, by omega, by omega, by omega, by omega, by omega⟩
    rw [eH, em] at hmu
    obtain ⟨lo', c, hi', c', e1, e2, e3, e4, c0, c1, c2, c3, l0, l1, g0, g1, eS⟩ := rms_step h0 h1 h2 h3 h4 (by omega) e ev b1 b2 b3 b4
    rw [← hst] at eS
    have a1 := add64 lo m 0 h0 b3 (by omega) (by omega)
    have a2 := add64 hi H c h2 b1 c0 c1
    rw [e1, e2] at a1
    rw [e3, e4] at a2
    have p1 : 0 ≤ top + c' ∧ top + c' ≤ ((i + 1 : Nat) : Int) := by clear eS a1 a2 e1 e2 e3 e4 ea hsz hmu hst e eH em; omega
    have p2 : i + 1 + d = y.length := by clear eS a1 a2 e1 e2 e3 e4 ea hsz hmu hst e eH em; omega
    obtain ⟨q, hq, hroot⟩ := ih (i + 1) hi' lo' (top + c') p2 l0 l1 g0 g1 p1.1 p1.2 eS
    clear eS e1 e2 e3 e4 hst e eH em
    have et : IntKind.u64.wrap (top + c') = top + c' := u64_in p1.1 (by clear a1 a2 ea hsz hmu; omega)
    have ei : wrap64 ((i : Int) + 1) = ((i + 1 : Nat) : Int) := by rw [w64_in (by omega) (by omega)]; rfl
    have key : Ev (fun k => (fixed_Add.f x 0).bind fun t229 => ((fixed_size.f t229).bind fun bt230 => ((bits_Mul64.f bt230.1 bt230.1).bind fun bt232 => ((bits_Add64.f lo bt232.2 0).bind fun bt234 => ((bits_Add64.f hi bt232.1 bt234.2).bind fun bt236 => (fixed_RMS.l0 k y bt236.1 bt234.1 (IntKind.u64.wrap (top + bt236.2)) y (y.length : Int) ((i + 1 : Nat) : Int))))))) (sat q) := by
      refine Ev.bind ea (Ev.bind (Ev.const hsz) (Ev.bind (Ev.const hmu) (Ev.bind (Ev.const a1) (Ev.bind (Ev.const a2) ?_))))
      dsimp only
      rw [et]
      exact hq
    refine ⟨q, Ev.step (fun k => ?_) key, hroot⟩
    clear key hq ih et a1 a2 ea hsz hmu
    have g1 : (i : Int) < (y.length : Int) := by clear ei; omega
    have g2 : (0 : Int) ≤ (i : Int) := Int.natCast_nonneg _
    simp only [fixed_RMS.l0]
    rw [if_pos g1, if_pos g2, if_pos g1, hx, ei]
theorem ev_rms (l : List Int) (hl : ∀ x ∈ l, -9223372036854775808 ≤ x ∧ x ≤ 9223372036854775807) : (l = [] ∧ Ev (fun k => fixed_RMS.f k l) 0) ∨ (l ≠ [] ∧ ∃ q, Ev (fun k => fixed_RMS.f k l) (sat q) ∧ IsRoot (sq (l.take 64) / ((min l.length 64 : Nat) : Int)) q) := by
  have em : mn (l.length : Int) 64 = ((min l.length 64 : Nat) : Int) := by unfold mn; split <;> omega
  have ht : l.take (min l.length 64) = l.take 64 := by
    rcases Nat.le_total l.length 64 with h | h
    · rw [Nat.min_eq_left h, List.take_length, List.take_of_length_le h]
    · rw [Nat.min_eq_right h]
  have hlen : (l.take 64).length = min l.length 64 := by rw [List.length_take, Nat.min_comm]
  unfold fixed_RMS.f
  rw [em, Int.sub_zero, List.drop_zero, Int.toNat_natCast, ht]
  simp only [show (0 : Int) ≤ ((min l.length 64 : Nat) : Int) from Int.natCast_nonneg _, show ((min l.length 64 : Nat) : Int) ≤ (l.length : Int) from by omega, if_true]
  by_cases h : l = []
  · left
    subst h
    exact ⟨rfl, by simp only [List.take_nil, List.length_nil, Int.natCast_zero, if_true]; exact Ev.now _⟩
  · right
    refine ⟨h, ?_⟩
    have hp := List.length_pos_iff.2 h
    have hne : ¬ (((l.take 64).length : Int) = 0) := by rw [hlen]; omega
    simp only [hne, if_false]
    obtain ⟨q, hq, hr⟩ := rms_l0 (l.take 64) (fun x hx => hl x (List.mem_of_mem_take hx)) (by rw [hlen]; omega) (by rw [hlen]; omega) (l.take 64).length 0 0 0 0 (by omega) (by omega) (by omega) (by omega) (by omega) (by omega) (by omega) (by simp [sq])
    refine ⟨q, hq, ?_⟩
    rw [← hlen]; exact hr
/-! ### numbers as lists of digits, the lowest first -/
def V : List Int → Int
  | [] => 0
  | d :: l => d + 65536 * V l
def Dg (l : List Int) : Prop := ∀ d ∈ l, 0 ≤ d ∧ d < 65536
def Nm (l : List Int) : Prop := Dg l ∧ ∀ h : l ≠ [], l.getLast h ≠ 0
theorem pw_pos (n : Nat) : (0 : Int) < 65536 ^ n := Int.pow_pos (by decide)
theorem V_append (a b : List Int) : V (a ++ b) = V a + 65536 ^ a.length * V b := by
  induction a with
  | nil => simp [V]
  | cons d a ih => simp only [List.cons_append, V, ih, List.length_cons, Int.pow_succ]; grind
theorem Dg.nil : Dg [] := fun _ h => by cases h
theorem Dg.append {a b : List Int} (ha : Dg a) (hb : Dg b) : Dg (a ++ b) := fun d hd => (List.mem_append.1 hd).elim (ha d) (hb d)
theorem Dg.one {d : Int} (h0 : 0 ≤ d) (h1 : d < 65536) : Dg [d] := fun x hx => by simp at hx; subst hx; exact ⟨h0, h1⟩
theorem Dg.take {a : List Int} (h : Dg a) (n : Nat) : Dg (a.take n) := fun d hd => h d (List.mem_of_mem_take hd)
theorem Dg.drop {a : List Int} (h : Dg a) (n : Nat) : Dg (a.drop n) := fun d hd => h d (List.mem_of_mem_drop hd)
theorem Dg.set {a : List Int} (h : Dg a) (n : Nat) {v : Int} (h0 : 0 ≤ v) (h1 : v < 65536) : Dg (a.set n v) := fun d hd => (List.mem_or_eq_of_mem_set hd).elim (h d) (fun e => by subst e; exact ⟨h0, h1⟩)
theorem Dg.zeros (n : Nat) : Dg (List.replicate n 0) := fun d hd => by rw [List.eq_of_mem_replicate hd]; omega
theorem V_zeros (n : Nat) : V (List.replicate n 0) = 0 := by
  induction n with
  | zero => rfl
  | succ n ih => simp [List.replicate_succ, V, ih]
theorem V_bd {l : List Int} (h : Dg l) : 0 ≤ V l ∧ V l < 65536 ^ l.length := by
  induction l with
  | nil => simp [V]
  | cons d l ih =>
    obtain ⟨i0, i1⟩ := ih fun x hx => h x (List.mem_cons_of_mem _ hx)
    have hd := h d List.mem_cons_self
    simp only [V, List.length_cons, Int.pow_succ]
    constructor <;> omega
theorem rd_nat (l : List Int) (i : Nat) : rd l (i : Int) = l.getD i 0 := by unfold rd; rw [Int.toNat_natCast]
theorem rd_dg {l : List Int} (h : Dg l) (i : Nat) : 0 ≤ rd l (i : Int) ∧ rd l (i : Int) < 65536 := by
  rw [rd_nat, List.getD_eq_getElem?_getD]
  by_cases hi : i < l.length
  · rw [List.getElem?_eq_getElem hi]; exact h _ (List.getElem_mem _)
  · rw [List.getElem?_eq_none (by omega)]; simp
theorem rd_out {l : List Int} {i : Nat} (h : l.length ≤ i) : rd l (i : Int) = 0 := by
  rw [rd_nat, List.getD_eq_getElem?_getD, List.getElem?_eq_none h]; rfl
theorem V_take_succ (l : List Int) (i : Nat) : V (l.take (i + 1)) = V (l.take i) + 65536 ^ i * rd l (i : Int) := by
  by_cases h : i < l.length
  · rw [List.take_succ_eq_append_getElem h, V_append, rd_nat, List.getD_eq_getElem?_getD, List.getElem?_eq_getElem h]
    simp [V, Nat.min_eq_left (Nat.le_of_lt h)]
  · rw [rd_out (by omega), List.take_of_length_le (by omega), List.take_of_length_le (by omega)]; simp
theorem V_take_all (l : List Int) {n : Nat} (h : l.length ≤ n) : V (l.take n) = V l := by rw [List.take_of_length_le h]
theorem V_take_bd {l : List Int} (h : Dg l) (n : Nat) : 0 ≤ V (l.take n) ∧ V (l.take n) < 65536 ^ n := by
  obtain ⟨a, b⟩ := V_bd (h.take n)
  refine ⟨a, Int.lt_of_lt_of_le b ?_⟩
  rw [List.length_take]
  obtain ⟨d, hd⟩ := Nat.exists_eq_add_of_le (Nat.min_le_left n l.length)
  have hp := pw_pos (min n l.length)
  have h2 := pw_pos d
  have := Int.mul_le_mul_of_nonneg_left (show (1 : Int) ≤ 65536 ^ d by omega) (Int.le_of_lt hp)
  rw [← Int.pow_add, ← hd] at this
  omega
theorem V_drop (l : List Int) (i : Nat) (h : i < l.length) : V (l.drop i) = rd l (i : Int) + 65536 * V (l.drop (i + 1)) := by
  rw [List.drop_eq_getElem_cons h]
  simp only [V]
  rw [rd_nat, List.getD_eq_getElem?_getD, List.getElem?_eq_getElem h]; rfl
theorem V_set (l : List Int) (i : Nat) (v : Int) (h : i < l.length) : V (l.set i v) = V l + 65536 ^ i * (v - rd l (i : Int)) := by
  induction l generalizing i with
  | nil => simp at h
  | cons d l ih =>
    cases i with
    | zero => simp only [List.set_cons_zero, V, Int.pow_zero]; rw [rd_nat]; simp; omega
    | succ i =>
      simp only [List.set_cons_succ, V]
      have hl : i < l.length := by simpa using h
      rw [ih i hl, show rd (d :: l) ((i + 1 : Nat) : Int) = rd l (i : Int) by rw [rd_nat, rd_nat]; simp, Int.pow_succ]
      grind
theorem pw_le {m n : Nat} (h : m ≤ n) : (65536 : Int) ^ m ≤ 65536 ^ n := by
  obtain ⟨d, rfl⟩ := Nat.exists_eq_add_of_le h
  rw [Int.pow_add]
  have h1 := pw_pos m
  have h2 := pw_pos d
  have := Int.mul_le_mul_of_nonneg_left (show (1 : Int) ≤ 65536 ^ d by omega) (Int.le_of_lt h1)
  omega
/-- A number without noughts in front is as great as its length says. -/
theorem Nm.ge {l : List Int} (h : Nm l) {n : Nat} (hn : l.length = n + 1) : 65536 ^ n ≤ V l := by
  have hne : l ≠ [] := fun e => by rw [e] at hn; simp at hn
  have hl := h.2 hne
  have e : l = l.take n ++ [l.getLast hne] := by
    have := List.dropLast_concat_getLast hne
    rw [List.dropLast_eq_take, hn] at this
    exact this.symm
  have hd := h.1 _ (List.getLast_mem hne)
  have hb := (V_take_bd h.1 n).1
  rw [e, V_append]
  simp only [V, Int.mul_zero, Int.add_zero]
  rw [show (l.take n).length = n from by rw [List.length_take]; omega]
  have := Int.mul_le_mul_of_nonneg_left (show (1 : Int) ≤ l.getLast hne by omega) (Int.le_of_lt (pw_pos n))
  omega
theorem Nm.len {l : List Int} (h : Nm l) {n : Nat} (hv : V l < 65536 ^ n) : l.length ≤ n := by
  rcases Nat.lt_or_ge n l.length with hl | hl
  · obtain ⟨m, hm⟩ : ∃ m, l.length = m + 1 := ⟨l.length - 1, by omega⟩
    have := h.ge hm
    have := pw_le (show n ≤ m by omega)
    omega
  · exact hl
theorem Nm.nil : Nm [] := ⟨Dg.nil, fun h => absurd rfl h⟩
def sgn (d : Int) : Int := if d < 0 then -1 else if 0 < d then 1 else 0
/-- A sign, and a size in digits, at most n of them. -/
def Big (n : Nat) (l : List Int) (m : Bool) (x : Int) : Prop := Nm l ∧ l.length ≤ n ∧ x = if m = true then -V l else V l
theorem Nm.tail {d : Int} {l : List Int} (h : Nm (d :: l)) : Nm l := by
  refine ⟨fun x hx => h.1 x (List.mem_cons_of_mem _ hx), fun hne e => ?_⟩
  exact h.2 (by simp) (by rw [List.getLast_cons hne]; exact e)
theorem Nm.zero {l : List Int} (h : Nm l) (hv : V l = 0) : l = [] := by
  have := h.len (n := 0) (by rw [hv]; decide)
  exact List.length_eq_zero_iff.1 (by omega)
theorem Nm.uniq : ∀ {a b : List Int}, Nm a → Nm b → V a = V b → a = b
  | [], b, _, hb, h => (hb.zero (by rw [← h]; rfl)).symm
  | d :: a, [], ha, _, h => ha.zero (by rw [h]; rfl)
  | d :: a, e :: b, ha, hb, h => by
    have h1 := ha.1 d List.mem_cons_self; have h2 := hb.1 e List.mem_cons_self
    simp only [V] at h
    have e1 : V a = V b := by omega
    rw [Nm.uniq ha.tail hb.tail e1, show d = e by omega]
theorem Nm.cons {d : Int} {l : List Int} (h : Nm l) (h0 : 0 ≤ d) (h1 : d < 65536) (h2 : l = [] → d ≠ 0) : Nm (d :: l) := by
  refine ⟨fun x hx => (List.mem_cons.1 hx).elim (fun e => by subst e; exact ⟨h0, h1⟩) (h.1 x), fun hne => ?_⟩
  by_cases hl : l = []
  · subst hl; simpa using h2 rfl
  · rw [List.getLast_cons hl]; exact h.2 hl
theorem Nm.ex : ∀ (n : Nat) (v : Int), 0 ≤ v → v < 65536 ^ n → ∃ l, Nm l ∧ V l = v ∧ l.length ≤ n
  | 0, v, h0, h1 => ⟨[], Nm.nil, by simp at h1; simp only [V]; omega, Nat.le_refl _⟩
  | n + 1, v, h0, h1 => by
    rw [Int.pow_succ] at h1
    obtain ⟨l, hl, he, hn⟩ := Nm.ex n (v / 65536) (by omega) (by omega)
    by_cases hz : v = 0
    · exact ⟨[], Nm.nil, by subst hz; rfl, by simp⟩
    · refine ⟨v % 65536 :: l, hl.cons (by omega) (by omega) (fun e => ?_), by simp only [V]; omega, by simp; omega⟩
      subst e; simp only [V] at he; omega
theorem V_one (m : Int) : V [m] = m := by simp [V]
theorem cmp_l0 (a b : List Int) (ha : Dg a) (hb : Dg b) (hl : a.length ≤ 100000) : ∀ c : Nat, c ≤ a.length → c ≤ b.length → Ev (fun k => foliotref01_compare.l0 k a b ((c : Int) - 1)) (sgn (V (a.take c) - V (b.take c))) := by
  intro c
  induction c with
  | zero =>
    intro _ _
    refine Ev.succ fun k => ?_
    simp only [foliotref01_compare.l0]
    rw [if_neg (by omega)]; simp [sgn, V]
  | succ c ih =>
    intro h1 h2
    have e : ((c + 1 : Nat) : Int) - 1 = c := by omega
    rw [e, V_take_succ, V_take_succ]
    have da := rd_dg ha c; have db := rd_dg hb c
    have va := V_take_bd ha c; have vb := V_take_bd hb c
    have hp := pw_pos c
    have g1 : (c : Int) ≥ 0 := by omega
    have g2 : (0 : Int) ≤ c := by omega
    have g3 : (c : Int) < (a.length : Int) := by omega
    have g4 : (c : Int) < (b.length : Int) := by omega
    generalize hx : rd a (c : Int) = x at *
    generalize hy : rd b (c : Int) = y at *
    by_cases hlt : x < y
    · refine Ev.succ fun k => ?_
      simp only [foliotref01_compare.l0, g1, g2, g3, g4, if_true, hx, hy, hlt]
      have := Int.mul_le_mul_of_nonneg_left (show x + 1 ≤ y by omega) (Int.le_of_lt hp)
      rw [Int.mul_add, Int.mul_one] at this
      unfold sgn; rw [if_pos (by omega)]
    · by_cases hgt : y < x
      · refine Ev.succ fun k => ?_
        simp only [foliotref01_compare.l0, g1, g2, g3, g4, if_true, if_false, hx, hy, hlt, gt_iff_lt, hgt]
        have := Int.mul_le_mul_of_nonneg_left (show y + 1 ≤ x by omega) (Int.le_of_lt hp)
        rw [Int.mul_add, Int.mul_one] at this
        unfold sgn; rw [if_neg (by omega), if_pos (by omega)]
      · obtain rfl : x = y := by omega
        rw [show V (a.take c) + 65536 ^ c * x - (V (b.take c) + 65536 ^ c * x) = V (a.take c) - V (b.take c) by omega]
        refine Ev.step (fun k => ?_) (ih (by omega) (by omega))
        simp only [foliotref01_compare.l0, g1, g2, g3, g4, if_true, if_false, hx, hy, hlt, gt_iff_lt, hgt]
        rw [w64_in (n := (c : Int) - 1) (by omega) (by omega)]
theorem ev_cmp (a b : List Int) (ha : Nm a) (hb : Nm b) (hl : a.length ≤ 100000) : Ev (fun k => foliotref01_compare.f k a b) (sgn (V a - V b)) := by
  unfold foliotref01_compare.f
  have va := V_bd ha.1; have vb := V_bd hb.1
  by_cases h : (a.length : Int) = b.length
  · simp only [h, not_true_eq_false, if_false]
    have := cmp_l0 a b ha.1 hb.1 hl a.length (Nat.le_refl _) (by omega)
    rw [V_take_all a (Nat.le_refl _), V_take_all b (by omega), h] at this
    rw [w64_in (n := (b.length : Int) - 1) (by omega) (by omega)]
    exact this
  · simp only [h, not_false_eq_true, if_true]
    by_cases h2 : (a.length : Int) < b.length
    · simp only [h2, if_true]
      obtain ⟨m, hm⟩ : ∃ m, b.length = m + 1 := ⟨b.length - 1, by omega⟩
      have := hb.ge hm
      have := pw_le (show a.length ≤ m by omega)
      rw [show sgn (V a - V b) = -1 from by unfold sgn; rw [if_pos (by omega)]]
      exact Ev.now _
    · simp only [h2, if_false]
      obtain ⟨m, hm⟩ : ∃ m, a.length = m + 1 := ⟨a.length - 1, by omega⟩
      have := ha.ge hm
      have := pw_le (show b.length ≤ m by omega)
      rw [show sgn (V a - V b) = 1 from by unfold sgn; rw [if_neg (by omega), if_pos (by omega)]]
      exact Ev.now _
theorem of_l0 (R : List Int) (hR : Nm R) (m g : Bool) (z : List Int) : ∀ (d : Nat) (u : Int) (x : List Int), 0 ≤ u → u < 65536 ^ d → u < 18446744073709551616 → Dg x → x.length + d ≤ 100 → (u = 0 → Nm x) → V x + 65536 ^ x.length * u = V R → Ev (fun k => foliotref01_of.l0 k u g m z x) (m, R) := by
  have hend : ∀ (x : List Int), Nm x → V x = V R → Ev (fun k => foliotref01_of.l0 k 0 g m z x) (m, R) := by
    intro x hx hv
    obtain rfl := Nm.uniq hx hR hv
    refine Ev.succ fun k => ?_
    simp only [foliotref01_of.l0]
    rw [if_neg (by omega)]
  intro d
  induction d with
  | zero =>
    intro u x h0 h1 _ dx hl hz' hv
    obtain rfl : u = 0 := by simp at h1; omega
    exact hend x (hz' rfl) (by simpa using hv)
  | succ d ih =>
    intro u x h0 h1 h2 dx hl hz hv
    by_cases hu : u = 0
    · subst hu; exact hend x (hz rfl) (by simpa using hv)
    · rw [Int.pow_succ] at h1
      have key := ih (u / 65536) (x ++ [u % 65536]) (by omega) (by omega) (by omega) (dx.append (Dg.one (by omega) (by omega))) (by simp; omega) (fun hz2 => ⟨dx.append (Dg.one (by omega) (by omega)), fun hne => by simp; omega⟩) (by
        rw [V_append, V_one, List.length_append, ← hv]
        simp only [List.length_cons, List.length_nil, Nat.zero_add, Int.pow_succ]
        have e : u = u % 65536 + 65536 * (u / 65536) := by omega
        generalize u % 65536 = u1 at *
        generalize u / 65536 = u2 at *
        subst e
        grind)
      have e1 : IntKind.u64.wrap (Int.tdiv u 65536) = u / 65536 := by rw [Int.tdiv_eq_ediv_of_nonneg h0]; exact u64_in (by omega) (by omega)
      have e2 : wrap64 (Int.tmod u 65536) = u % 65536 := by rw [Int.tmod_eq_emod_of_nonneg h0]; exact w64_in (by omega) (by omega)
      have c1 : u > 0 := by clear e1 e2; omega
      have c2 : (2 * (x.length + ([u % 65536] : List Int).length) + 200) * 8 ≤ 281474976710656 := by clear e1 e2; simp only [List.length_cons, List.length_nil]; omega
      refine Ev.step (fun k => ?_) key
      simp only [foliotref01_of.l0]
      rw [if_pos c1, e1, e2, if_pos c2]
theorem ev_of (a : Int) (ha0 : -9223372036854775808 ≤ a) (ha : a ≤ 9223372036854775807) : ∃ l, Ev (fun k => foliotref01_of.f k a) (decide (a < 0), l) ∧ Big 4 l (decide (a < 0)) a := by
  obtain ⟨u, hu, hu0, hu1, hua⟩ : ∃ u, (if a < 0 then -a else a) = u ∧ 0 ≤ u ∧ u ≤ 9223372036854775808 ∧ a = if a < 0 then -u else u := by
    refine ⟨_, rfl, ?_, ?_, ?_⟩ <;> split <;> omega
  obtain ⟨R, hR, hv, hl⟩ := Nm.ex 4 u hu0 (by omega)
  have key := of_l0 R hR (decide (a < 0)) false [] 4 u [] hu0 (by omega) (by omega) Dg.nil (by simp) (fun _ => Nm.nil) (by simp [V, hv])
  refine ⟨R, ?_, hR, hl, ?_⟩
  · unfold foliotref01_of.f
    by_cases h : a < 0
    · rw [if_pos h] at hu
      have e1 : wrap64 (a + 1) = a + 1 := w64_in (by omega) (by omega)
      have e2 : wrap64 (-(a + 1)) = -(a + 1) := w64_in (by clear e1; omega) (by clear e1; omega)
      have e3 : IntKind.u64.wrap (-(a + 1)) = -(a + 1) := u64_in (by clear e1 e2; omega) (by clear e1 e2; omega)
      have e4 : IntKind.u64.wrap (-(a + 1) + 1) = u := by rw [u64_in (by clear e1 e2 e3; omega) (by clear e1 e2 e3; omega)]; clear e1 e2 e3; omega
      rw [e1, e2, e3, e4]
      simp only [h, if_true]
      simp only [h] at key
      exact key
    · rw [if_neg h] at hu
      subst hu
      rw [u64_in (n := a) (by omega) (by omega)]
      refine Ev.congr (fun k => ?_) key
      rw [if_neg h]
  · rw [hv]
    by_cases h : a < 0
    · rw [decide_eq_true h, if_pos rfl]; rw [if_pos h] at hua; exact hua
    · rw [decide_eq_false h, if_neg (by decide)]; rw [if_neg h] at hua; exact hua
theorem V_drop_le {l : List Int} (h : Dg l) : ∀ c : Nat, V (l.drop c) ≤ V l
  | 0 => by simp
  | c + 1 => by
    have ih := V_drop_le h c
    by_cases hc : c < l.length
    · rw [V_drop l c hc] at ih
      have := rd_dg h c
      have := (V_bd (h.drop (c + 1))).1
      omega
    · rw [List.drop_eq_nil_of_le (by omega)]; exact (V_bd h).1
theorem cutB_l0 (l : List Int) (m : Bool) (hl : Dg l) (hn : l.length ≤ 100000) (hv : V l < 4611686018427387904) : ∀ c : Nat, c ≤ l.length → Ev (fun k => foliotref01_cut.l0 k (V (l.drop c)) ((c : Int) - 1) l m) (if m = true then -V l else V l) := by
  have h0 := (V_bd hl).1
  intro c
  induction c with
  | zero =>
    intro _
    refine Ev.succ fun k => ?_
    simp only [foliotref01_cut.l0, List.drop_zero]
    rw [if_neg (by omega)]
    have e : wrap64 (-V l) = -V l := w64_in (by omega) (by omega)
    rw [e]; cases m <;> rfl
  | succ c ih =>
    intro hc
    have hd := V_drop l c (by omega)
    have hle := V_drop_le hl c
    have hr := rd_dg hl c
    have h1 := (V_bd (hl.drop (c + 1))).1
    have c1 : (c : Int) ≥ 0 := Int.natCast_nonneg _
    have c2 : (c : Int) < (l.length : Int) := by omega
    have e0 : ((c + 1 : Nat) : Int) - 1 = c := by omega
    have b1 : -9223372036854775808 ≤ V (l.drop (c + 1)) * 65536 ∧ V (l.drop (c + 1)) * 65536 ≤ 9223372036854775807 := by omega
    have b2 : -9223372036854775808 ≤ V (l.drop c) ∧ V (l.drop c) ≤ 9223372036854775807 := by omega
    have e1 : V (l.drop (c + 1)) * 65536 + rd l (c : Int) = V (l.drop c) := by omega
    have e2 : wrap64 ((c : Int) - 1) = (c : Int) - 1 := w64_in (by clear e1; omega) (by clear e1; omega)
    refine Ev.step (fun k => ?_) (ih (by clear e2; omega))
    simp only [foliotref01_cut.l0]
    rw [e0, if_pos c1, if_pos c1, if_pos c2, w64_in b1.1 b1.2, e1, w64_in b2.1 b2.2, e2]
theorem ev_cutB {n : Nat} {l : List Int} {m : Bool} {x : Int} (h : Big n l m x) (hn : n ≤ 1000) (most : Int) (h0 : 0 < most) (h1 : most ≤ 4611686018427387904) : Ev (fun k => foliotref01_cut.f k l m most) (clampTo most x) := by
  obtain ⟨hl, hlen, hx⟩ := h
  obtain ⟨lm, hm, hmb⟩ := ev_of most (by omega) (by omega)
  have hneg : decide (most < 0) = false := decide_eq_false (by omega)
  rw [hneg] at hm hmb
  obtain ⟨hln, hll, hlv⟩ := hmb
  simp only [Bool.false_eq_true, if_false] at hlv
  have hv0 := (V_bd hl.1).1
  have hc := ev_cmp l lm hl hln (by omega)
  unfold foliotref01_cut.f
  refine Ev.bind hm (Ev.bind hc ?_)
  by_cases hge : most ≤ V l
  · have e : sgn (V l - V lm) ≥ 0 := by unfold sgn; rw [if_neg (by omega)]; split <;> omega
    simp only [e, if_true]
    have e1 : wrap64 (-most) = -most := w64_in (by omega) (by omega)
    rw [e1]
    have : clampTo most x = if m = true then -most else most := by
      rw [hx]; cases m
      · simp only [Bool.false_eq_true, if_false]; unfold clampTo; rw [if_neg (by omega)]
      · simp only [if_true]; unfold clampTo; rw [if_pos (by omega), if_neg (by omega)]
    rw [this]
    cases m <;> exact Ev.now _
  · have e : ¬ sgn (V l - V lm) ≥ 0 := by unfold sgn; rw [if_pos (by omega)]; omega
    simp only [e, if_false]
    have e1 : wrap64 ((l.length : Int) - 1) = (l.length : Int) - 1 := w64_in (by omega) (by omega)
    rw [e1]
    have := cutB_l0 l m hl.1 (by omega) (by omega) l.length (Nat.le_refl _)
    rw [List.drop_length] at this
    rw [show clampTo most x = if m = true then -V l else V l from by
      rw [hx]; cases m
      · simp only [Bool.false_eq_true, if_false]; unfold clampTo; rw [if_pos (by omega), if_pos (by omega)]
      · simp only [if_true]; unfold clampTo; rw [if_pos (by omega), if_pos (by omega)]]
    exact this
end Go.Proofs.Ytigcmpmpjmbfkaa.Q
