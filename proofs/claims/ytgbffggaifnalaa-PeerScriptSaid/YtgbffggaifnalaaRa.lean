/- Plain lemmas on the printed functions: whole numbers, no program in sight. -/
import Derived.Test.YtgbffggaifnalaaDV
import Derived.Laws.BitsLemmas
namespace Go.Proofs.Ytgbffggaifnalaa.V
open Go Go.RowKit Go.Proofs.Ytgbffggaifnalaa.Ev
set_option linter.unusedVariables false
set_option linter.unusedSimpArgs false
set_option maxRecDepth 100000
/-! ### whole numbers of 64 and 128 bits -/
/-- Not by plain rfl: a rewriting with it leaves a proof, and the kernel has nothing to unfold. -/
theorem bsome {α β : Type} (a : α) (f : α → Option β) : (some a).bind f = f a := by
  cases (show True ∨ True from Or.inl trivial) <;> rfl
theorem u64w (n : Int) : IntKind.u64.wrap n = n % 18446744073709551616 := by
  simp [IntKind.wrap, IntKind.bits, IntKind.signed]
theorem w64_in {n : Int} (h0 : -9223372036854775808 ≤ n) (h1 : n ≤ 9223372036854775807) : wrap64 n = n := by
  unfold wrap64; omega
theorem u64_in {n : Int} (h0 : 0 ≤ n) (h1 : n < 18446744073709551616) : IntKind.u64.wrap n = n := by
  rw [u64w]; omega
theorem wf64 {n : Int} (h : (Lit.int .i64 n).wf = true) : -9223372036854775808 ≤ n ∧ n ≤ 9223372036854775807 := by
  simpa [Lit.wf, IntKind.min, IntKind.max, IntKind.signed, IntKind.bits] using h
theorem wraps_u64 (n : Int) (h₀ : 0 ≤ n) (h₁ : n < 2 ^ 64) : IntKind.u64.wrap n = n := u64_in h₀ (by omega)
theorem and32 (x : Int) (h0 : 0 ≤ x) (h1 : x < 18446744073709551616) : Go.bits .and .u64 x 4294967295 = x % 4294967296 :=
  bits_mask .u64 64 (by decide) wraps_u64 32 (by decide) x h0 (by omega)
theorem orj (i : Nat) (x y : Int) (hx0 : 0 ≤ x) (hx : x % 2 ^ i = 0) (hx1 : x < 18446744073709551616) (hy0 : 0 ≤ y) (hy : y < 2 ^ i) (hy1 : y < 18446744073709551616) : Go.bits .or .u64 x y = x + y :=
  bits_join .u64 64 (by decide) wraps_u64 i x y hx0 hx (by omega) hy0 hy (by omega)
theorem xorall (x : Int) (h0 : 0 ≤ x) (h1 : x < 18446744073709551616) : Go.bits .xor .u64 18446744073709551615 x = 18446744073709551615 - x := by
  obtain ⟨a, rfl⟩ := Int.eq_ofNat_of_zero_le h0
  have hb : (BitVec.ofInt 64 (18446744073709551615 : Int)) = BitVec.allOnes 64 := by decide
  show IntKind.u64.wrap ((BitVec.ofInt 64 (18446744073709551615 : Int) ^^^ BitVec.ofInt 64 (a : Int)).toNat : Int) = _
  rw [hb, BitVec.allOnes_xor, BitVec.ofInt_natCast, BitVec.toNat_not, BitVec.toNat_ofNat, u64w]
  omega
def clampTo (most x : Int) : Int := if x < most then (if -most < x then x else -most) else most
def sat (x : Int) : Int := clampTo 4611686018427387904 x
/-- A sign, and a size of two words. -/
def Rep (hi lo : Int) (m : Bool) (x : Int) : Prop := 0 ≤ hi ∧ hi < 18446744073709551616 ∧ 0 ≤ lo ∧ lo < 18446744073709551616 ∧ x = if m = true then -(hi * 18446744073709551616 + lo) else hi * 18446744073709551616 + lo
def IsRoot (n r : Int) : Prop := 0 ≤ r ∧ r * r ≤ n ∧ n < (r + 1) * (r + 1)
theorem IsRoot.uniq {n r s : Int} (h : IsRoot n r) (h' : IsRoot n s) : r = s := by
  obtain ⟨a, b, c⟩ := h; obtain ⟨a', b', c'⟩ := h'
  rcases Int.lt_trichotomy r s with h | h | h
  · have := Int.mul_le_mul (show r + 1 ≤ s by omega) (show r + 1 ≤ s by omega) (by omega) (by omega); omega
  · exact h
  · have := Int.mul_le_mul (show s + 1 ≤ r by omega) (show s + 1 ≤ r by omega) (by omega) (by omega); omega
theorem shl_u64 (x : Int) (n : Nat) (hn : n ≤ 64) (h0 : 0 ≤ x * 2 ^ n) (h1 : x * 2 ^ n < 18446744073709551616) : shl .u64 x (n : Int) = x * 2 ^ n := by
  unfold shl
  rw [show min (n : Int).toNat IntKind.u64.bits = n from by simp [IntKind.bits]; omega]
  exact u64_in h0 h1
theorem shr_eq (k : IntKind) (hk : k.bits = 64) (x : Int) (n : Nat) (hn : n ≤ 64) : shr k x (n : Int) = x / 2 ^ n := by
  unfold shr
  rw [hk, show min (n : Int).toNat 64 = n from by simp; omega]
theorem mul64 (a b : Int) (ha0 : 0 ≤ a) (ha : a < 18446744073709551616) (hb0 : 0 ≤ b) (hb : b < 18446744073709551616) : bits_Mul64.f a b = some (a * b / 18446744073709551616, a * b % 18446744073709551616) := by
  unfold bits_Mul64.f
  rw [and32 a ha0 ha, and32 b hb0 hb]
  generalize ea1 : a / 4294967296 = a1
  generalize ea0 : a % 4294967296 = a0
  generalize eb1 : b / 4294967296 = b1
  generalize eb0 : b % 4294967296 = b0
  have h1 : 0 ≤ a1 ∧ a1 < 4294967296 := by omega
  have h2 : 0 ≤ a0 ∧ a0 < 4294967296 := by omega
  have h3 : 0 ≤ b1 ∧ b1 < 4294967296 := by omega
  have h4 : 0 ≤ b0 ∧ b0 < 4294967296 := by omega
  have ea : a = a1 * 4294967296 + a0 := by omega
  have eb : b = b1 * 4294967296 + b0 := by omega
  have bd : ∀ x y : Int, 0 ≤ x ∧ x < 4294967296 → 0 ≤ y ∧ y < 4294967296 → 0 ≤ x * y ∧ x * y ≤ 18446744065119617025 := by
    intro x y hx hy
    refine ⟨Int.mul_nonneg hx.1 hy.1, ?_⟩
    have := Int.mul_le_mul (show x ≤ 4294967295 by omega) (show y ≤ 4294967295 by omega) hy.1 (by decide)
    omega
  have p11 := bd a1 b1 h1 h3
  have p10 := bd a1 b0 h1 h4
  have p01 := bd a0 b1 h2 h3
  have p00 := bd a0 b0 h2 h4
  have e : a * b = a1 * b1 * 18446744073709551616 + a1 * b0 * 4294967296 + a0 * b1 * 4294967296 + a0 * b0 := by
    rw [ea, eb]; grind
  generalize a1 * b1 = q11 at *
  generalize a1 * b0 = q10 at *
  generalize a0 * b1 = q01 at *
  generalize a0 * b0 = q00 at *
  rw [e]
  rw [u64_in (n := q11) (by omega) (by omega), u64_in (n := q10) (by omega) (by omega), u64_in (n := q00) (by omega) (by omega), u64_in (n := q01) (by omega) (by omega)]
  rw [u64_in (n := q10 + q00 / 4294967296) (by omega) (by omega)]
  rw [and32 _ (by omega) (by omega)]
  rw [u64_in (n := (q10 + q00 / 4294967296) % 4294967296 + q01) (by omega) (by omega)]
  rw [u64_in (n := q11 + (q10 + q00 / 4294967296) / 4294967296) (by omega) (by omega)]
  rw [u64_in (n := q11 + (q10 + q00 / 4294967296) / 4294967296 + ((q10 + q00 / 4294967296) % 4294967296 + q01) / 4294967296) (by omega) (by omega)]
  rw [u64w]
  congr 2 <;> omega
theorem add64 (x y c : Int) (hx : 0 ≤ x) (hy : 0 ≤ y) (hc0 : 0 ≤ c) (hc : c ≤ 1) : bits_Add64.f x y c = some ((x + y + c) % 18446744073709551616, (x + y + c) / 18446744073709551616) := by
  unfold bits_Add64.f; rw [if_pos ⟨hx, hy, hc0, hc⟩]
theorem sum_rep (a b : Int) (ha0 : -9223372036854775808 ≤ a) (ha : a ≤ 9223372036854775807) (hb0 : -9223372036854775808 ≤ b) (hb : b ≤ 9223372036854775807) : ∃ hi lo m, fixed_sum.f a b = some (hi, lo, m) ∧ Rep hi lo m (a + b) := by
  have sg : ∀ x : Int, -9223372036854775808 ≤ x → x ≤ 9223372036854775807 → ∃ u s : Int, x % 18446744073709551616 = u ∧ x / 9223372036854775808 % 18446744073709551616 = s ∧ 0 ≤ u ∧ u < 18446744073709551616 ∧ ((s = 0 ∧ x = u) ∨ (s = 18446744073709551615 ∧ x = u - 18446744073709551616)) := by
    intro x h0 h1
    refine ⟨_, _, rfl, rfl, ?_, ?_, ?_⟩ <;> omega
  obtain ⟨u, s, eu, es, hu0, hu1, hs⟩ := sg a ha0 ha
  obtain ⟨v, t, ev, et, hv0, hv1, ht⟩ := sg b hb0 hb
  unfold fixed_sum.f
  rw [u64w a, u64w b, eu, ev, u64w (a / _), u64w (b / _), es, et, add64 u v 0 hu0 hv0 (by omega) (by omega)]
  simp only [bsome]
  rw [u64w (s + t)]
  obtain ⟨c, lo, ec, el, hc, hl0, hl1, huv⟩ : ∃ c lo : Int, (u + v + 0) / 18446744073709551616 = c ∧ (u + v + 0) % 18446744073709551616 = lo ∧ (c = 0 ∨ c = 1) ∧ 0 ≤ lo ∧ lo < 18446744073709551616 ∧ u + v = c * 18446744073709551616 + lo := ⟨_, _, rfl, rfl, by omega, by omega, by omega, by omega⟩
  rw [ec, el]
  obtain ⟨hi, eh, hh0, hh1, hsum, hsm⟩ : ∃ hi : Int, IntKind.u64.wrap ((s + t) % 18446744073709551616 + c) = hi ∧ 0 ≤ hi ∧ hi < 18446744073709551616 ∧ ((hi ≤ 1 ∧ a + b = hi * 18446744073709551616 + lo) ∨ (18446744073709551614 ≤ hi ∧ a + b = (hi - 18446744073709551616) * 18446744073709551616 + lo)) ∧ True := by
    refine ⟨_, rfl, ?_, ?_, ?_, trivial⟩ <;> rw [u64w] <;> clear eu es ev et ec el <;> rcases hs with ⟨rfl, rfl⟩ | ⟨rfl, rfl⟩ <;> rcases ht with ⟨rfl, rfl⟩ | ⟨rfl, rfl⟩ <;> rcases hc with rfl | rfl <;> omega
  rw [eh]
  clear eh hc ec el eu es ev et
  by_cases hn : wrap64 hi < 0
  · rw [if_pos hn, xorall lo (by omega) (by omega), xorall hi (by omega) (by omega), add64 _ _ _ (by omega) (by omega) (by omega) (by omega)]
    refine ⟨_, _, _, rfl, ?_⟩
    unfold wrap64 at hn
    unfold Rep
    rw [if_pos rfl, u64w]
    have h2 : 18446744073709551614 ≤ hi := by omega
    clear hn hs ht
    have : hi = 18446744073709551614 ∨ hi = 18446744073709551615 := by omega
    rcases this with rfl | rfl <;> omega
  · rw [if_neg hn]
    refine ⟨_, _, _, rfl, ?_⟩
    unfold wrap64 at hn
    unfold Rep
    rw [if_neg (by decide)]
    have h2 : hi ≤ 1 := by omega
    clear hn hs ht
    omega
theorem cut_rep {hi lo : Int} {m : Bool} {x : Int} (h : Rep hi lo m x) (most : Int) (h0 : 0 < most) (h1 : most ≤ 9223372036854775807) : fixed_whole_cut.f hi lo m most = some (clampTo most x) := by
  obtain ⟨a, b, c, d, e⟩ := h
  unfold fixed_whole_cut.f
  rw [u64_in (n := most) (by omega) (by omega)]
  subst e
  unfold clampTo
  cases m <;> simp only [cond_true, cond_false, if_true, if_false, Bool.false_eq_true] <;> (repeat' split) <;> (try unfold wrap64) <;> (first | omega | (refine congrArg some ?_; omega))
theorem span_rep {hi lo : Int} {m : Bool} {x : Int} (h : Rep hi lo m x) : fixed_whole_span.f hi lo m = some (sat x) := by
  unfold fixed_whole_span.f
  rw [cut_rep h _ (by omega) (by omega)]
  rfl
theorem sat_in (x : Int) : -4611686018427387904 ≤ sat x ∧ sat x ≤ 4611686018427387904 := by
  unfold sat clampTo; (repeat' split) <;> omega
theorem sat_of {x : Int} (h0 : -4611686018427387904 ≤ x) (h1 : x ≤ 4611686018427387904) : sat x = x := by
  unfold sat clampTo; (repeat' split) <;> omega
theorem add_eq (a b : Int) (ha0 : -9223372036854775808 ≤ a) (ha : a ≤ 9223372036854775807) (hb0 : -9223372036854775808 ≤ b) (hb : b ≤ 9223372036854775807) : fixed_Add.f a b = some (sat (a + b)) := by
  obtain ⟨hi, lo, m, e, r⟩ := sum_rep a b ha0 ha hb0 hb
  unfold fixed_Add.f
  rw [e]
  simp only [bsome]
  rw [span_rep r]
  rfl
/-- With rounds enough, g answers r. -/
def Ev {α : Type} (g : Nat → Option α) (r : α) : Prop := ∃ K, ∀ k, K ≤ k → g k = some r
theorem Ev.now {α : Type} (r : α) : Ev (fun _ => some r) r := ⟨0, fun _ _ => rfl⟩
theorem Ev.rounds {α : Type} {g : Nat → Option α} {r : α} (h : Ev g r) : ∃ k, g k = some r := by
  obtain ⟨K, h⟩ := h; exact ⟨K, h K (Nat.le_refl K)⟩
theorem Ev.bind {α β : Type} {g : Nat → Option α} {f : Nat → α → Option β} {a : α} {r : β} (h : Ev g a) (k : Ev (fun n => f n a) r) : Ev (fun n => (g n).bind (f n)) r := by
  obtain ⟨K, h⟩ := h; obtain ⟨L, k⟩ := k
  refine ⟨max K L, fun n hn => ?_⟩
  show (g n).bind (f n) = some r
  rw [h n (by omega), bsome]; exact k n (by omega)
theorem Ev.step {α : Type} {g f : Nat → Option α} {r : α} (h : ∀ k, g (k + 1) = f k) (k : Ev f r) : Ev g r := by
  obtain ⟨K, k⟩ := k
  refine ⟨K + 1, fun n hn => ?_⟩
  obtain ⟨m, rfl⟩ : ∃ m, n = m + 1 := ⟨n - 1, by omega⟩
  rw [h m]; exact k m (by omega)
theorem Ev.congr {α : Type} {g f : Nat → Option α} {r : α} (h : ∀ k, g k = f k) (k : Ev f r) : Ev g r := by
  obtain ⟨K, k⟩ := k; exact ⟨K, fun n hn => by rw [h n]; exact k n hn⟩
theorem Ev.succ {α : Type} {g : Nat → Option α} {r : α} (h : ∀ k, g (k + 1) = some r) : Ev g r := Ev.step h (Ev.now r)
theorem Ev.const {α : Type} {g : Option α} {r : α} (h : g = some r) : Ev (fun _ => g) r := by rw [h]; exact Ev.now r
theorem pow_le {m n : Nat} (h : m ≤ n) : (2 : Int) ^ m ≤ 2 ^ n := by
  obtain ⟨d, rfl⟩ := Nat.exists_eq_add_of_le h
  rw [Int.pow_add]
  have h1 : (0 : Int) < 2 ^ m := Int.pow_pos (by decide)
  have h2 : (0 : Int) < 2 ^ d := Int.pow_pos (by decide)
  have := Int.mul_le_mul_of_nonneg_left (show (1 : Int) ≤ 2 ^ d by omega) (Int.le_of_lt h1)
  omega
theorem ev_add (a b : Int) (ha0 : -9223372036854775808 ≤ a) (ha : a ≤ 9223372036854775807) (hb0 : -9223372036854775808 ≤ b) (hb : b ≤ 9223372036854775807) : Ev (fun _ => fixed_Add.f a b) (sat (a + b)) := Ev.const (add_eq a b ha0 ha hb0 hb)
theorem ev_span {hi lo : Int} {m : Bool} {x : Int} (h : Rep hi lo m x) : Ev (fun _ => fixed_whole_span.f hi lo m) (sat x) := Ev.const (span_rep h)
theorem ev_cut {hi lo : Int} {m : Bool} {x : Int} (h : Rep hi lo m x) (most : Int) (h0 : 0 < most) (h1 : most ≤ 9223372036854775807) : Ev (fun _ => fixed_whole_cut.f hi lo m most) (clampTo most x) := Ev.const (cut_rep h most h0 h1)
theorem size_eq (a : Int) (ha0 : -9223372036854775808 ≤ a) (ha : a ≤ 9223372036854775807) : fixed_size.f a = some (if a < 0 then -a else a, decide (a < 0)) := by
  unfold fixed_size.f
  by_cases h : a < 0
  · rw [if_pos h, if_pos h, u64w, u64w]
    simp only [h, decide_true]
    congr 2; omega
  · rw [if_neg h, if_neg h, u64w]
    simp only [h, decide_false]
    congr 2; omega
theorem mul_u64 (x y : Int) (hx0 : 0 ≤ x) (hx : x ≤ 9223372036854775808) (hy0 : 0 ≤ y) (hy : y ≤ 9223372036854775808) : 0 ≤ x * y ∧ x * y ≤ 85070591730234615865843651857942052864 := by
  refine ⟨Int.mul_nonneg hx0 hy0, ?_⟩
  have := Int.mul_le_mul hx hy hy0 (by omega)
  omega
theorem product_rep (a b : Int) (ha0 : -9223372036854775808 ≤ a) (ha : a ≤ 9223372036854775807) (hb0 : -9223372036854775808 ≤ b) (hb : b ≤ 9223372036854775807) : ∃ hi lo m, fixed_product.f a b = some (hi, lo, m) ∧ Rep hi lo m (a * b) := by
  unfold fixed_product.f
  rw [size_eq a ha0 ha, size_eq b hb0 hb]
  simp only [bsome]
  have e : ∀ x : Int, ∃ n : Int, (if x < 0 then -x else x) = n ∧ 0 ≤ n ∧ ((x < 0 ∧ x = -n) ∨ (¬ x < 0 ∧ x = n)) := by
    intro x; exact ⟨_, rfl, by split <;> omega, by split <;> omega⟩
  obtain ⟨x, ex, hx0, hx⟩ := e a
  obtain ⟨y, ey, hy0, hy⟩ := e b
  rw [ex, ey, mul64 x y hx0 (by omega) hy0 (by omega)]
  have hp := mul_u64 x y hx0 (by omega) hy0 (by omega)
  refine ⟨_, _, _, rfl, ?_⟩
  have hab : a * b = if (decide (a < 0) != decide (b < 0)) = true then -(x * y) else x * y := by
    rcases hx with ⟨h1, rfl⟩ | ⟨h1, rfl⟩ <;> rcases hy with ⟨h2, rfl⟩ | ⟨h2, rfl⟩ <;> (first | rw [decide_eq_true h1] | rw [decide_eq_false h1]) <;> (first | rw [decide_eq_true h2] | rw [decide_eq_false h2]) <;> simp [Int.neg_mul, Int.mul_neg]
  rw [hab]
  clear hab hx hy ex ey
  generalize x * y = p at *
  unfold Rep
  refine ⟨by omega, by omega, by omega, by omega, ?_⟩
  have : p / 18446744073709551616 * 18446744073709551616 + p % 18446744073709551616 = p := by omega
  rw [this]
/-! ### a division of two words by one, digit by digit -/
theorem bitLen_spec : ∀ (n x : Nat), x ≤ n → 0 < x → x < 18446744073709551616 → 1 ≤ Lib.bitLen x ∧ 2 ^ (Lib.bitLen x - 1) ≤ x ∧ x < 2 ^ (Lib.bitLen x)
  | 0, x, h, h0, _ => by omega
  | n + 1, x, h, h0, h1 => by
    rw [Lib.bitLen_half x (by omega) (by omega)]
    by_cases e : x = 1
    · subst e; decide
    · obtain ⟨a, b, c⟩ := bitLen_spec n (x / 2) (by omega) (by omega) (by omega)
      generalize Lib.bitLen (x / 2) = m at *
      obtain ⟨m, rfl⟩ : ∃ k, m = k + 1 := ⟨m - 1, by omega⟩
      have e1 : 1 + (m + 1) - 1 = m + 1 := by omega
      have e2 : 1 + (m + 1) = m + 1 + 1 := by omega
      rw [e1, e2]
      simp only [Nat.add_sub_cancel] at b
      rw [Nat.pow_succ] at c ⊢
      rw [Nat.pow_succ (n := 2) (m := m + 1), Nat.pow_succ]
      omega
/-- What a trial digit q and its rest r say: y: the divisor's two digits. -/
structure Trial (y1 y0 u w q r : Int) : Prop where
  y1lo : 2147483648 ≤ y1
  y1hi : y1 < 4294967296
  y0lo : 0 ≤ y0
  y0hi : y0 < 4294967296
  ulo : 0 ≤ u
  uhi : u < y1 * 4294967296 + y0
  wlo : 0 ≤ w
  whi : w < 4294967296
  qlo : 0 ≤ q
  qhi : q < 18446744073709551616
  rlo : 0 ≤ r
  rhi : r < 4294967296
  sum : q * y1 + r = u
  big : u * 4294967296 + w < (q + 1) * (y1 * 4294967296 + y0)
theorem Trial.prod {y1 y0 u w q r : Int} (h : Trial y1 y0 u w q r) : q * (y1 * 4294967296 + y0) = (u - r) * 4294967296 + q * y0 := by
  have := h.sum; grind
/-- The test says no: the digit is right. -/
theorem Trial.right {y1 y0 u w q r : Int} (h : Trial y1 y0 u w q r) (hw : q * y0 ≤ 4294967296 * r + w) : q * (y1 * 4294967296 + y0) ≤ u * 4294967296 + w := by
  rw [h.prod]; omega
/-- The test says yes: the digit is too great. -/
theorem Trial.great {y1 y0 u w q r : Int} (h : Trial y1 y0 u w q r) (ht : 4294967296 ≤ q ∨ 4294967296 * r + w < q * y0) : u * 4294967296 + w < q * (y1 * 4294967296 + y0) := by
  rcases ht with ht | ht
  · have h1 := h.uhi; have h2 := h.whi; have h3 := h.y1lo; have h4 := h.y0lo
    have := Int.mul_le_mul_of_nonneg_right ht (show 0 ≤ y1 * 4294967296 + y0 by omega)
    omega
  · rw [h.prod]; omega
theorem Trial.pos {y1 y0 u w q r : Int} (h : Trial y1 y0 u w q r) (hg : u * 4294967296 + w < q * (y1 * 4294967296 + y0)) : 1 ≤ q := by
  have h1 := h.ulo; have h2 := h.wlo; have h3 := h.qlo
  by_cases e : q = 0
  · rw [e, Int.zero_mul] at hg; omega
  · omega
/-- The next digit, if its rest is small. -/
theorem Trial.next {y1 y0 u w q r : Int} (h : Trial y1 y0 u w q r) (hg : u * 4294967296 + w < q * (y1 * 4294967296 + y0)) (hr : r + y1 < 4294967296) : Trial y1 y0 u w (q - 1) (r + y1) := by
  have := h.pos hg
  refine ⟨h.y1lo, h.y1hi, h.y0lo, h.y0hi, h.ulo, h.uhi, h.wlo, h.whi, by omega, by have := h.qhi; omega, by have := h.rlo; have := h.y1lo; omega, hr, ?_, ?_⟩
  · have := h.sum; grind
  · rw [show q - 1 + 1 = q by omega]; exact hg
/-- The next digit is right, if its rest is great. -/
theorem Trial.last {y1 y0 u w q r : Int} (h : Trial y1 y0 u w q r) (hg : u * 4294967296 + w < q * (y1 * 4294967296 + y0)) (hr : 4294967296 ≤ r + y1) : (q - 1) * (y1 * 4294967296 + y0) ≤ u * 4294967296 + w ∧ q - 1 < 4294967296 := by
  have hp := h.pos hg
  have e : (q - 1) * y1 + (r + y1) = u := by have := h.sum; grind
  have h1 := h.uhi; have h2 := h.y0hi; have h3 := h.y0lo; have h4 := h.wlo; have h5 := h.y1lo
  have hq : q - 1 < 4294967296 := by
    rcases Int.lt_or_le (q - 1) 4294967296 with hl | hl
    · exact hl
    · have := Int.mul_le_mul_of_nonneg_right hl (show 0 ≤ y1 by omega)
      omega
  refine ⟨?_, hq⟩
  have e2 : (q - 1) * (y1 * 4294967296 + y0) = (u - (r + y1)) * 4294967296 + (q - 1) * y0 := by grind
  rw [e2]
  have := Int.mul_le_mul (show q - 1 ≤ 4294967295 by omega) (show y0 ≤ 4294967295 by omega) h3 (by decide)
  omega
theorem Trial.uniq {q q' y n : Int} (hy : 0 < y) (a : q * y ≤ n) (b : n < (q + 1) * y) (a' : q' * y ≤ n) (b' : n < (q' + 1) * y) : q = q' := by
  rcases Int.lt_trichotomy q q' with h | h | h
  · have := Int.mul_le_mul_of_nonneg_right (show q + 1 ≤ q' by omega) (Int.le_of_lt hy); omega
  · exact h
  · have := Int.mul_le_mul_of_nonneg_right (show q' + 1 ≤ q by omega) (Int.le_of_lt hy); omega
theorem Trial.small {y1 y0 u w q r : Int} (h : Trial y1 y0 u w q r) (hq : ¬ 4294967296 ≤ q) : 0 ≤ q * y0 ∧ q * y0 < 18446744073709551616 := by
  have h2 := h.y0hi; have h3 := h.y0lo; have h4 := h.qlo
  have := Int.mul_le_mul (show q ≤ 4294967295 by omega) (show y0 ≤ 4294967295 by omega) h3 (by decide)
  exact ⟨Int.mul_nonneg h4 h3, by omega⟩
theorem Trial.test {y1 y0 u w q r : Int} (h : Trial y1 y0 u w q r) {α : Type} (f : Bool → α) :
    (if q ≥ 4294967296 then f true else f (decide ((IntKind.u64.wrap (q * y0)) > (IntKind.u64.wrap ((IntKind.u64.wrap (4294967296 * r)) + w))))) = f (decide (4294967296 ≤ q ∨ 4294967296 * r + w < q * y0)) := by
  by_cases hq : 4294967296 ≤ q
  · rw [if_pos hq, decide_eq_true (Or.inl hq)]
  · have hs := h.small hq
    have h1 := h.rlo; have h2 := h.rhi; have h3 := h.wlo; have h4 := h.whi
    rw [if_neg hq, u64_in hs.1 hs.2, u64_in (n := 4294967296 * r) (by omega) (by omega), u64_in (n := 4294967296 * r + w) (by omega) (by omega)]
    congr 1
    simp [hq]
theorem div_l0 (y s y1 y0 u w v Q : Int) (hy : y = y1 * 4294967296 + y0) (hQ : Q * y ≤ u * 4294967296 + w) (hQ' : u * 4294967296 + w < (Q + 1) * y) {res : Int × Int}
    (hj : Ev (fun k => bits_Div64.j0 k y s y1 y0 u w v Q) res) : ∀ (d : Nat) (q r : Int), Trial y1 y0 u w q r → q < d → Ev (fun k => bits_Div64.l0 k y s y1 y0 u w v q r) res := by
  intro d
  induction d with
  | zero => intro q r h hd; have := h.qlo; omega
  | succ d ih =>
    intro q r h hd
    have hy0 : 0 < y1 * 4294967296 + y0 := by have := h.y1lo; have := h.y0lo; omega
    refine Ev.step (f := fun k => bif (decide (4294967296 ≤ q ∨ 4294967296 * r + w < q * y0)) then (if IntKind.u64.wrap (r + y1) ≥ 4294967296 then bits_Div64.j0 k y s y1 y0 u w v (IntKind.u64.wrap (q - 1)) else bits_Div64.l0 k y s y1 y0 u w v (IntKind.u64.wrap (q - 1)) (IntKind.u64.wrap (r + y1))) else bits_Div64.j0 k y s y1 y0 u w v q) (fun k => ?_) ?_
    · simp only [bits_Div64.l0]
      rw [← h.test (fun b => bif b then (if IntKind.u64.wrap (r + y1) ≥ 4294967296 then bits_Div64.j0 k y s y1 y0 u w v (IntKind.u64.wrap (q - 1)) else bits_Div64.l0 k y s y1 y0 u w v (IntKind.u64.wrap (q - 1)) (IntKind.u64.wrap (r + y1))) else bits_Div64.j0 k y s y1 y0 u w v q)]
      simp only [cond_true, Bool.cond_decide]
    by_cases ht : 4294967296 ≤ q ∨ 4294967296 * r + w < q * y0
    · have hg := h.great ht
      have hp := h.pos hg
      have e1 : IntKind.u64.wrap (q - 1) = q - 1 := u64_in (by omega) (by have := h.qhi; omega)
      have e2 : IntKind.u64.wrap (r + y1) = r + y1 := u64_in (by have := h.rlo; have := h.y1lo; omega) (by have := h.rhi; have := h.y1hi; omega)
      rw [decide_eq_true ht]
      simp only [cond_true]
      rw [e1, e2]
      by_cases hr : 4294967296 ≤ r + y1
      · have hl := h.last hg hr
        have e : q - 1 = Q := by
          rw [hy] at hQ hQ'
          exact Trial.uniq hy0 hl.1 (by rw [show q - 1 + 1 = q by omega]; exact hg) hQ hQ'
        rw [e]
        simp only [ge_iff_le, hr, if_true]
        exact hj
      · simp only [ge_iff_le, hr, if_false]
        exact ih _ _ (h.next hg (by omega)) (by omega)
    · have e : q = Q := by
        rw [hy] at hQ hQ'
        exact Trial.uniq hy0 (h.right (by omega)) h.big hQ hQ'
      rw [decide_eq_false ht]
      simp only [cond_false]
      rw [e]
      exact hj
theorem div_l1 (y s y1 y0 u w p Q : Int) (hs : 0 ≤ s) (hy : y = y1 * 4294967296 + y0) (hQ : Q * y ≤ u * 4294967296 + w) (hQ' : u * 4294967296 + w < (Q + 1) * y) : ∀ (d : Nat) (q r : Int), Trial y1 y0 u w q r → q < d →
    Ev (fun k => bits_Div64.l1 k y s y1 y0 w p r u q) (IntKind.u64.wrap ((IntKind.u64.wrap (p * 4294967296)) + Q), shr .u64 (IntKind.u64.wrap ((IntKind.u64.wrap ((IntKind.u64.wrap (u * 4294967296)) + w)) - (IntKind.u64.wrap (Q * y)))) s) := by
  have hj : Ev (fun k => bits_Div64.j1 k y s w p u Q) (IntKind.u64.wrap ((IntKind.u64.wrap (p * 4294967296)) + Q), shr .u64 (IntKind.u64.wrap ((IntKind.u64.wrap ((IntKind.u64.wrap (u * 4294967296)) + w)) - (IntKind.u64.wrap (Q * y)))) s) := by
    refine Ev.step (fun k => ?_) (Ev.now _)
    simp only [bits_Div64.j1]
    rw [if_pos hs]
  intro d
  induction d with
  | zero => intro q r h hd; have := h.qlo; omega
  | succ d ih =>
    intro q r h hd
    have hy0 : 0 < y1 * 4294967296 + y0 := by have := h.y1lo; have := h.y0lo; omega
    refine Ev.step (f := fun k => bif (decide (4294967296 ≤ q ∨ 4294967296 * r + w < q * y0)) then (if IntKind.u64.wrap (r + y1) ≥ 4294967296 then bits_Div64.j1 k y s w p u (IntKind.u64.wrap (q - 1)) else bits_Div64.l1 k y s y1 y0 w p (IntKind.u64.wrap (r + y1)) u (IntKind.u64.wrap (q - 1))) else bits_Div64.j1 k y s w p u q) (fun k => ?_) ?_
    · simp only [bits_Div64.l1]
      rw [← h.test (fun b => bif b then (if IntKind.u64.wrap (r + y1) ≥ 4294967296 then bits_Div64.j1 k y s w p u (IntKind.u64.wrap (q - 1)) else bits_Div64.l1 k y s y1 y0 w p (IntKind.u64.wrap (r + y1)) u (IntKind.u64.wrap (q - 1))) else bits_Div64.j1 k y s w p u q)]
      simp only [cond_true, Bool.cond_decide]
    by_cases ht : 4294967296 ≤ q ∨ 4294967296 * r + w < q * y0
    · have hg := h.great ht
      have hp := h.pos hg
      have e1 : IntKind.u64.wrap (q - 1) = q - 1 := u64_in (by omega) (by have := h.qhi; omega)
      have e2 : IntKind.u64.wrap (r + y1) = r + y1 := u64_in (by have := h.rlo; have := h.y1lo; omega) (by have := h.rhi; have := h.y1hi; omega)
      rw [decide_eq_true ht]
      simp only [cond_true]
      rw [e1, e2]
      by_cases hr : 4294967296 ≤ r + y1
      · have hl := h.last hg hr
        have e : q - 1 = Q := by
          rw [hy] at hQ hQ'
          exact Trial.uniq hy0 hl.1 (by rw [show q - 1 + 1 = q by omega]; exact hg) hQ hQ'
        rw [e]
        simp only [ge_iff_le, hr, if_true]
        exact hj
      · simp only [ge_iff_le, hr, if_false]
        exact ih _ _ (h.next hg (by omega)) (by omega)
    · have e : q = Q := by
        rw [hy] at hQ hQ'
        exact Trial.uniq hy0 (h.right (by omega)) h.big hQ hQ'
      rw [decide_eq_false ht]
      simp only [cond_false]
      rw [e]
      exact hj
theorem Trial.start {y1 y0 u w : Int} (a : 2147483648 ≤ y1) (b : y1 < 4294967296) (c : 0 ≤ y0) (d : y0 < 4294967296) (e : 0 ≤ u) (f : u < y1 * 4294967296 + y0) (g : 0 ≤ w) (i : w < 4294967296) : Trial y1 y0 u w (u / y1) (u % y1) := by
  have hp : 0 < y1 := by omega
  have h1 := Int.ediv_mul_add_emod u y1
  have h2 := Int.emod_nonneg u (show y1 ≠ 0 by omega)
  have h3 := Int.emod_lt_of_pos u hp
  have h4 : 0 ≤ u / y1 := Int.ediv_nonneg e (by omega)
  have h5 : u / y1 ≤ u := Int.ediv_le_self y1 e
  refine ⟨a, b, c, d, e, f, g, i, h4, by omega, h2, by omega, h1, ?_⟩
  have h6 : (u / y1 + 1) * (y1 * 4294967296 + y0) = (u / y1 * y1 + y1) * 4294967296 + (u / y1 * y0 + y0) := by grind
  have h7 : 0 ≤ u / y1 * y0 := Int.mul_nonneg h4 c
  omega
/-- The rests of a digit, as the code computes them. -/
theorem Trial.args {y1 y0 u w : Int} (h : Trial y1 y0 u w (u / y1) (u % y1)) : IntKind.u64.wrap (Int.tdiv u y1) = u / y1 ∧ IntKind.u64.wrap (u - IntKind.u64.wrap (u / y1 * y1)) = u % y1 := by
  have h1 := h.sum; have h2 := h.rlo; have h3 := h.rhi; have h4 := h.qlo; have h5 := h.qhi
  have h6 := h.uhi; have h7 := h.y1hi; have h8 := h.y0hi; have h9 := h.y1lo; have h10 := h.ulo
  rw [Int.tdiv_eq_ediv_of_nonneg h10]
  have h11 : 0 ≤ u / y1 * y1 := Int.mul_nonneg h4 (by omega)
  refine ⟨u64_in h4 h5, ?_⟩
  rw [u64_in (n := u / y1 * y1) h11 (by omega), u64_in (by omega) (by omega)]
  omega
/-- What is left behind a digit. -/
theorem rest_eq {u w Y Q : Int} (hu : 0 ≤ u) (hw : 0 ≤ w) (hY : Y < 18446744073709551616) (hQ : Q * Y ≤ u * 4294967296 + w) (hQ' : u * 4294967296 + w < (Q + 1) * Y) : IntKind.u64.wrap ((IntKind.u64.wrap ((IntKind.u64.wrap (u * 4294967296)) + w)) - (IntKind.u64.wrap (Q * Y))) = u * 4294967296 + w - Q * Y := by
  rw [Int.add_mul, Int.one_mul] at hQ'
  simp only [u64w]
  generalize Q * Y = p at *
  omega
theorem digit_lt {u w Y Q : Int} (h0 : 0 ≤ u) (h1 : 0 ≤ w) (h2 : w < 4294967296) (hu : u < Y) (hQ : Q * Y ≤ u * 4294967296 + w) (hQ' : u * 4294967296 + w < (Q + 1) * Y) : 0 ≤ Q ∧ Q < 4294967296 := by
  have hY : 0 < Y := by omega
  refine ⟨?_, ?_⟩
  · rcases Int.lt_or_le Q 0 with h | h
    · have := Int.mul_le_mul_of_nonneg_right (show Q + 1 ≤ 0 by omega) (Int.le_of_lt hY); omega
    · exact h
  · rcases Int.lt_or_le Q 4294967296 with h | h
    · exact h
    · have := Int.mul_le_mul_of_nonneg_right h (Int.le_of_lt hY); omega
theorem div64_core (Y s u z : Int) (hs : 0 ≤ s) (hY0 : 9223372036854775808 ≤ Y) (hY1 : Y < 18446744073709551616) (hu0 : 0 ≤ u) (hu1 : u < Y) (hz0 : 0 ≤ z) (hz1 : z < 18446744073709551616) :
    Ev (fun k => bits_Div64.l0 k Y s (Y / 4294967296) (Y % 4294967296) u (z / 4294967296) (z % 4294967296) (IntKind.u64.wrap (Int.tdiv u (Y / 4294967296))) (IntKind.u64.wrap (u - IntKind.u64.wrap (IntKind.u64.wrap (Int.tdiv u (Y / 4294967296)) * (Y / 4294967296)))))
      ((u * 18446744073709551616 + z) / Y, shr .u64 ((u * 18446744073709551616 + z) % Y) s) := by
  have hY : 0 < Y := by omega
  obtain ⟨y1, y0, e1, e0, hy, a1, a2, a3, a4⟩ : ∃ y1 y0 : Int, Y / 4294967296 = y1 ∧ Y % 4294967296 = y0 ∧ Y = y1 * 4294967296 + y0 ∧ 2147483648 ≤ y1 ∧ y1 < 4294967296 ∧ 0 ≤ y0 ∧ y0 < 4294967296 := ⟨_, _, rfl, rfl, by omega, by omega, by omega, by omega, by omega⟩
  obtain ⟨w1, w0, f1, f0, hz, b1, b2, b3, b4⟩ : ∃ w1 w0 : Int, z / 4294967296 = w1 ∧ z % 4294967296 = w0 ∧ z = w1 * 4294967296 + w0 ∧ 0 ≤ w1 ∧ w1 < 4294967296 ∧ 0 ≤ w0 ∧ w0 < 4294967296 := ⟨_, _, rfl, rfl, by omega, by omega, by omega, by omega, by omega⟩
  rw [e1, e0, f1, f0]
  clear e1 e0 f1 f0
  have t1 := Trial.start (w := w1) a1 a2 a3 a4 hu0 (by omega) b1 b2
  rw [t1.args.1, t1.args.2]
  obtain ⟨Q1, hQ1, hQ1'⟩ : ∃ Q : Int, Q * Y ≤ u * 4294967296 + w1 ∧ u * 4294967296 + w1 < (Q + 1) * Y := by
    refine ⟨(u * 4294967296 + w1) / Y, ?_, ?_⟩
    · have := Int.ediv_mul_add_emod (u * 4294967296 + w1) Y; have := Int.emod_nonneg (u * 4294967296 + w1) (show Y ≠ 0 by omega); omega
    · rw [Int.add_mul, Int.one_mul]; have := Int.ediv_mul_add_emod (u * 4294967296 + w1) Y; have := Int.emod_lt_of_pos (u * 4294967296 + w1) hY; omega
  have q1b := digit_lt hu0 b1 b2 hu1 hQ1 hQ1'
  have r1e := rest_eq hu0 b1 hY1 hQ1 hQ1'
  obtain ⟨R1, hR1⟩ : ∃ R, u * 4294967296 + w1 - Q1 * Y = R := ⟨_, rfl⟩
  have hR1b : 0 ≤ R1 ∧ R1 < Y := by rw [Int.add_mul, Int.one_mul] at hQ1'; omega
  rw [hR1] at r1e
  have t2 := Trial.start (w := w0) a1 a2 a3 a4 hR1b.1 (by omega) b3 b4
  obtain ⟨Q0, hQ0, hQ0'⟩ : ∃ Q : Int, Q * Y ≤ R1 * 4294967296 + w0 ∧ R1 * 4294967296 + w0 < (Q + 1) * Y := by
    refine ⟨(R1 * 4294967296 + w0) / Y, ?_, ?_⟩
    · have := Int.ediv_mul_add_emod (R1 * 4294967296 + w0) Y; have := Int.emod_nonneg (R1 * 4294967296 + w0) (show Y ≠ 0 by omega); omega
    · rw [Int.add_mul, Int.one_mul]; have := Int.ediv_mul_add_emod (R1 * 4294967296 + w0) Y; have := Int.emod_lt_of_pos (R1 * 4294967296 + w0) hY; omega
  have q0b := digit_lt hR1b.1 b3 b4 hR1b.2 hQ0 hQ0'
  have r0e := rest_eq hR1b.1 b3 hY1 hQ0 hQ0'
  obtain ⟨R0, hR0⟩ : ∃ R, R1 * 4294967296 + w0 - Q0 * Y = R := ⟨_, rfl⟩
  have hR0b : 0 ≤ R0 ∧ R0 < Y := by rw [Int.add_mul, Int.one_mul] at hQ0'; omega
  rw [hR0] at r0e
  have hl1 := div_l1 Y s y1 y0 R1 w0 Q1 Q0 hs hy hQ0 hQ0' (R1 / y1 + 1).toNat _ _ t2 (by have := t2.qlo; omega)
  rw [r0e, u64_in (n := Q1 * 4294967296) (by omega) (by omega), u64_in (n := Q1 * 4294967296 + Q0) (by omega) (by omega)] at hl1
  have eN : u * 18446744073709551616 + z = R0 + (Q1 * 4294967296 + Q0) * Y := by
    rw [Int.add_mul]
    have : Q1 * 4294967296 * Y = Q1 * Y * 4294967296 := by rw [Int.mul_right_comm]
    omega
  have eq : (u * 18446744073709551616 + z) / Y = Q1 * 4294967296 + Q0 := by
    rw [eN, Int.add_mul_ediv_right _ _ (by omega), Int.ediv_eq_zero_of_lt hR0b.1 hR0b.2]; omega
  have em : (u * 18446744073709551616 + z) % Y = R0 := by
    rw [eN, Int.add_mul_emod_self_right, Int.emod_eq_of_lt hR0b.1 hR0b.2]
  rw [eq, em]
  refine div_l0 Y s y1 y0 u w1 w0 Q1 hy hQ1 hQ1' ?_ (u / y1 + 1).toNat _ _ t1 (by have := t1.qlo; omega)
  refine Ev.step (fun k => ?_) hl1
  simp only [bits_Div64.j0]
  rw [if_neg (by omega), r1e, t2.args.1, t2.args.2]
theorem div64 (hi lo y : Int) (h0 : 0 ≤ hi) (h1 : hi < y) (h2 : y < 18446744073709551616) (h3 : 0 ≤ lo) (h4 : lo < 18446744073709551616) :
    Ev (fun k => bits_Div64.f k hi lo y) ((hi * 18446744073709551616 + lo) / y, (hi * 18446744073709551616 + lo) % y) := by
  by_cases hz : hi = 0
  · subst hz
    refine Ev.congr (f := fun _ => some ((0 * 18446744073709551616 + lo) / y, (0 * 18446744073709551616 + lo) % y)) (fun k => ?_) (Ev.now _)
    unfold bits_Div64.f
    have h5 : lo / y ≤ lo := Int.ediv_le_self y h3
    have h6 : 0 ≤ lo / y := Int.ediv_nonneg h3 (by omega)
    rw [if_neg (by omega), if_neg (by omega), if_pos rfl, if_neg (by omega), if_neg (by omega), Int.tdiv_eq_ediv_of_nonneg h3, Int.tmod_eq_emod_of_nonneg h3, u64_in h6 (by omega), Int.zero_mul, Int.zero_add]
  · obtain ⟨n, hn⟩ : ∃ n, Lib.bitLen y.toNat = n := ⟨_, rfl⟩
    obtain ⟨b1, b2, b3⟩ := bitLen_spec y.toNat y.toNat (Nat.le_refl _) (by omega) (by omega)
    have b4 : Lib.bitLen y.toNat ≤ 64 := Lib.bitLen_le y.toNat 64 (by omega) (by omega)
    rw [hn] at b1 b2 b3 b4
    obtain ⟨s, hs⟩ : ∃ s : Nat, s + n = 64 := ⟨64 - n, by omega⟩
    have b2' : (2 : Int) ^ (n - 1) ≤ y := by have : ((2 ^ (n - 1) : Nat) : Int) ≤ y := by omega
                                             simpa using this
    have b3' : y < (2 : Int) ^ n := by have : y < ((2 ^ n : Nat) : Int) := by omega
                                       simpa using this
    have e1 : (2 : Int) ^ s * 2 ^ n = 18446744073709551616 := by rw [← Int.pow_add, hs]; rfl
    have e2 : (2 : Int) ^ s * 2 ^ (n - 1) = 9223372036854775808 := by rw [← Int.pow_add, show s + (n - 1) = 63 by omega]; rfl
    have hP : 0 < (2 : Int) ^ s := Int.pow_pos (by decide)
    have hQ : 0 < (2 : Int) ^ n := Int.pow_pos (by decide)
    have hY0 : 9223372036854775808 ≤ y * 2 ^ s := by
      have := Int.mul_le_mul_of_nonneg_right b2' (Int.le_of_lt hP); rw [Int.mul_comm _ ((2 : Int) ^ s)] at this; omega
    have hY1 : y * 2 ^ s < 18446744073709551616 := by
      have := Int.mul_lt_mul_of_pos_right b3' hP; rw [Int.mul_comm ((2 : Int) ^ n)] at this; omega
    have hl1 : bits_LeadingZeros64.f y = some (s : Int) := by
      unfold bits_LeadingZeros64.f bits_Len64.f
      rw [if_pos ⟨by omega, by omega⟩, hn]
      simp only [bsome]
      rw [w64_in (by omega) (by omega)]
      congr 1; omega
    have hu : hi * 2 ^ s + 2 ^ s ≤ y * 2 ^ s := by
      have := Int.mul_le_mul_of_nonneg_right (show hi + 1 ≤ y by omega) (Int.le_of_lt hP); rw [Int.add_mul, Int.one_mul] at this; exact this
    have hu0 : 0 ≤ hi * 2 ^ s := Int.mul_nonneg h0 (Int.le_of_lt hP)
    have hq0 : 0 ≤ lo / 2 ^ n := Int.ediv_nonneg h3 (Int.le_of_lt hQ)
    have hq1 : lo / 2 ^ n < 2 ^ s := Int.ediv_lt_of_lt_mul hQ (by rw [e1]; exact h4)
    have hr0 := Int.emod_nonneg lo (show (2 : Int) ^ n ≠ 0 by omega)
    have hr1 := Int.emod_lt_of_pos lo hQ
    have hlo := Int.ediv_mul_add_emod lo (2 ^ n)
    have hz0 : 0 ≤ lo % 2 ^ n * 2 ^ s := Int.mul_nonneg hr0 (Int.le_of_lt hP)
    have hz1 : lo % 2 ^ n * 2 ^ s < 18446744073709551616 := by
      have := Int.mul_lt_mul_of_pos_right hr1 hP; rw [Int.mul_comm ((2 : Int) ^ n)] at this; omega
    have ez : lo * 2 ^ s = lo / 2 ^ n * 18446744073709551616 + lo % 2 ^ n * 2 ^ s := by
      have e3 : lo / 2 ^ n * 18446744073709551616 = lo / 2 ^ n * 2 ^ n * 2 ^ s := by rw [← e1, Int.mul_comm ((2 : Int) ^ s), Int.mul_assoc]
      rw [e3, ← Int.add_mul, hlo]
    have f1 : shl .u64 y (s : Int) = y * 2 ^ s := shl_u64 y s (by omega) (by omega) hY1
    have f2 : shl .u64 hi (s : Int) = hi * 2 ^ s := shl_u64 hi s (by omega) hu0 (by omega)
    have f3 : shl .u64 lo (s : Int) = lo % 2 ^ n * 2 ^ s := by
      unfold shl
      rw [show min (s : Int).toNat IntKind.u64.bits = s from by simp [IntKind.bits]; omega, u64w, ez]
      omega
    have f4 : shr .u64 lo (n : Int) = lo / 2 ^ n := shr_eq .u64 rfl lo n b4
    have f5 : Go.bits .or .u64 (hi * 2 ^ s) (lo / 2 ^ n) = hi * 2 ^ s + lo / 2 ^ n :=
      orj s _ _ hu0 (Int.mul_emod_left _ _) (by omega) hq0 hq1 (by omega)
    have g1 : IntKind.u64.wrap (s : Int) = s := u64_in (by omega) (by omega)
    have g2 : IntKind.u64.wrap (64 - (s : Int)) = n := by rw [u64_in (by omega) (by omega)]; omega
    have core := div64_core (y * 2 ^ s) (s : Int) (hi * 2 ^ s + lo / 2 ^ n) (lo % 2 ^ n * 2 ^ s) (by omega) hY0 hY1 (by omega) (by omega) hz0 hz1
    have eN : (hi * 2 ^ s + lo / 2 ^ n) * 18446744073709551616 + lo % 2 ^ n * 2 ^ s = (hi * 18446744073709551616 + lo) * 2 ^ s := by
      rw [Int.add_mul (hi * 18446744073709551616), ez, Int.mul_right_comm]; omega
    have em : (hi * 18446744073709551616 + lo) * 2 ^ s % (y * 2 ^ s) = (hi * 18446744073709551616 + lo) % y * 2 ^ s := by
      rw [Int.mul_comm _ ((2 : Int) ^ s), Int.mul_comm y, Int.mul_emod_mul_of_pos _ _ hP, Int.mul_comm]
    rw [eN, Int.mul_ediv_mul_of_pos_left _ _ hP, em, shr_eq .u64 rfl _ s (by omega), Int.mul_ediv_cancel _ (by omega)] at core
    refine Ev.congr (fun k => ?_) core
    unfold bits_Div64.f
    rw [if_neg (by omega), if_neg (by omega), if_neg hz, hl1]
    simp only [bsome]
    rw [g1, g2, f1, f2, f3, f4, f5, if_pos (by omega), if_pos (by omega), if_pos (by omega), if_pos (by omega), if_neg (by omega), and32 _ (by omega) hY1, and32 _ hz0 hz1]
theorem over_rep {hi lo : Int} {m : Bool} {x : Int} (h : Rep hi lo m x) (y : Int) (hy0 : 0 < y) (hy1 : y < 18446744073709551616) : ∃ hi' lo' m', Ev (fun k => fixed_whole_over.f k hi lo m y) (hi', lo', m') ∧ Rep hi' lo' m' (x / y) := by
  obtain ⟨a, b, c, d, e⟩ := h
  have r0 := Int.emod_nonneg hi (show y ≠ 0 by omega)
  have r1 := Int.emod_lt_of_pos hi hy0
  have hd := div64 (hi % y) lo y r0 r1 hy1 c d
  have q0 : 0 ≤ hi / y := Int.ediv_nonneg a (by omega)
  have q1 : hi / y ≤ hi := Int.ediv_le_self y a
  have eh := Int.ediv_mul_add_emod hi y
  obtain ⟨l, el⟩ : ∃ l, (hi % y * 18446744073709551616 + lo) / y = l := ⟨_, rfl⟩
  obtain ⟨r, er⟩ : ∃ r, (hi % y * 18446744073709551616 + lo) % y = r := ⟨_, rfl⟩
  have s0 := Int.emod_nonneg (hi % y * 18446744073709551616 + lo) (show y ≠ 0 by omega)
  have s1 := Int.emod_lt_of_pos (hi % y * 18446744073709551616 + lo) hy0
  have sl := Int.ediv_mul_add_emod (hi % y * 18446744073709551616 + lo) y
  rw [er] at s0 s1
  rw [el, er] at sl hd
  have hl0 : 0 ≤ l := by rw [← el]; exact Int.ediv_nonneg (by omega) (by omega)
  have hl1 : l < 18446744073709551616 := by
    rw [← el]; exact Int.ediv_lt_of_lt_mul hy0 (by omega)
  have eN : hi * 18446744073709551616 + lo = (hi / y * 18446744073709551616 + l) * y + r := by
    have : hi / y * 18446744073709551616 * y = hi / y * y * 18446744073709551616 := by rw [Int.mul_right_comm]
    rw [Int.add_mul]; omega
  have w1 : IntKind.u64.wrap (Int.tdiv hi y) = hi / y := by rw [Int.tdiv_eq_ediv_of_nonneg a]; exact u64_in q0 (by omega)
  have base : ∀ f : Nat → Int × Int → Option (Int × Int × Bool), ∀ res, Ev (fun k => f k (l, r)) res → Ev (fun k => if y = 0 then none else if y = 0 then none else ((bits_Div64.f k (Int.tmod hi y) lo y).bind (f k))) res := by
    intro f res hf
    refine Ev.congr (f := fun k => (bits_Div64.f k (hi % y) lo y).bind (f k)) (fun k => ?_) (Ev.bind hd hf)
    rw [if_neg (by omega), if_neg (by omega), Int.tmod_eq_emod_of_nonneg a]
  clear el er hd eh sl
  cases m with
  | false =>
    refine ⟨_, _, _, base _ _ (Ev.const (by simp only [cond_false]; rw [w1])), ?_⟩
    simp only [Bool.false_eq_true, if_false] at e
    refine ⟨q0, by omega, hl0, hl1, ?_⟩
    simp only [Bool.false_eq_true, if_false]
    rw [e, eN, Int.add_comm, Int.add_mul_ediv_right _ _ (by omega), Int.ediv_eq_zero_of_lt s0 s1]
    omega
  | true =>
    simp only [if_true] at e
    by_cases hr : r > 0
    · have hy2 : 2 ≤ y := by omega
      have q2 : hi / y < 9223372036854775808 := Int.ediv_lt_of_lt_mul hy0 (by omega)
      refine ⟨_, _, _, base _ _ (Ev.const (by simp only [cond_true]; rw [if_pos hr, add64 l 1 0 hl0 (by omega) (by omega) (by omega), w1]; rfl)), ?_⟩
      unfold Rep
      simp only [if_true, u64w]
      refine ⟨by omega, by omega, by omega, by omega, ?_⟩
      have : x = (y - r) + (-(hi / y * 18446744073709551616 + l) - 1) * y := by
        rw [e, eN, Int.sub_mul, Int.neg_mul]; omega
      rw [this, Int.add_mul_ediv_right _ _ (by omega), Int.ediv_eq_zero_of_lt (by omega) (by omega)]
      omega
    · obtain rfl : r = 0 := by omega
      refine ⟨_, _, _, base _ _ (Ev.const (by simp only [cond_true]; rw [if_neg hr, w1])), ?_⟩
      unfold Rep
      simp only [if_true]
      refine ⟨q0, by omega, hl0, hl1, ?_⟩
      rw [e, eN, Int.add_zero, ← Int.neg_mul, Int.mul_ediv_cancel _ (by omega)]
theorem ev_drift (a b : Int) (ha0 : -9223372036854775808 ≤ a) (ha : a ≤ 9223372036854775807) (hb0 : -9223372036854775808 ≤ b) (hb : b ≤ 9223372036854775807) : Ev (fun k => fixed_Drift.f k a b) (sat (a * b / 281474976710656)) := by
  obtain ⟨hi, lo, m, e, r⟩ := product_rep a b ha0 ha hb0 hb
  obtain ⟨hi', lo', m', e', r'⟩ := over_rep r 281474976710656 (by omega) (by omega)
  unfold fixed_Drift.f
  exact Ev.bind (Ev.const e) (Ev.bind e' (Ev.bind (ev_span r') (Ev.now _)))
theorem size_rep (a : Int) (ha0 : -9223372036854775808 ≤ a) (ha : a ≤ 9223372036854775807) : ∃ n m, fixed_size.f a = some (n, m) ∧ Rep 0 n m a ∧ Rep 0 n false (if a < 0 then -a else a) := by
  refine ⟨_, _, size_eq a ha0 ha, ?_, ?_⟩
  · unfold Rep
    by_cases h : a < 0
    · simp only [h, decide_true, if_true]; omega
    · simp only [h, decide_false, if_false, Bool.false_eq_true]; omega
  · unfold Rep
    simp only [Bool.false_eq_true, if_false]
    split <;> omega
theorem ev_mean (a b : Int) (ha0 : -9223372036854775808 ≤ a) (ha : a ≤ 9223372036854775807) (hb0 : -9223372036854775808 ≤ b) (hb : b ≤ 9223372036854775807) : Ev (fun k => fixed_Mean.f k a b) (sat ((a + b) / 2)) := by
  obtain ⟨hi, lo, m, e, r⟩ := sum_rep a b ha0 ha hb0 hb
  obtain ⟨hi', lo', m', e', r'⟩ := over_rep r 2 (by omega) (by omega)
  unfold fixed_Mean.f
  exact Ev.bind (Ev.const e) (Ev.bind e' (Ev.bind (ev_span r') (Ev.now _)))
theorem ev_sub (a b : Int) (ha0 : -9223372036854775808 ≤ a) (ha : a ≤ 9223372036854775807) (hb0 : -9223372036854775808 ≤ b) (hb : b ≤ 9223372036854775807) : Ev (fun k => fixed_Sub.f a b) (sat (a - b)) := by
  unfold fixed_Sub.f
  by_cases h : b = -9223372036854775808
  · simp only [h, if_true]
    have hs := sat_in (a + 4611686018427387904)
    have e : sat (sat (a + 4611686018427387904) + 4611686018427387904) = sat (a - -9223372036854775808) := by
      unfold sat clampTo; (repeat' split) <;> omega
    rw [← e]
    exact Ev.bind (ev_add _ _ ha0 ha (by omega) (by omega)) (Ev.bind (ev_add _ _ (by omega) (by omega) (by omega) (by omega)) (Ev.now _))
  · simp only [h, if_false]
    rw [w64_in (n := -b) (by omega) (by omega), Int.sub_eq_add_neg]
    exact Ev.bind (ev_add _ _ ha0 ha (by omega) (by omega)) (Ev.now _)
theorem ev_clamp (a b : Int) (ha0 : -9223372036854775808 ≤ a) (ha : a ≤ 9223372036854775807) (hb0 : -9223372036854775808 ≤ b) (hb : b ≤ 9223372036854775807) : Ev (fun k => fixed_Clamp.f a b) (if b < 0 then 0 else sat (mx (mn a b) (-b))) := by
  unfold fixed_Clamp.f
  by_cases h : b < 0
  · simp only [h, if_true]; exact Ev.now _
  · simp only [h, if_false]
    rw [w64_in (n := -b) (by omega) (by omega)]
    have hm : -9223372036854775808 ≤ mx (mn a b) (-b) ∧ mx (mn a b) (-b) ≤ 9223372036854775807 := by
      unfold mx mn; (repeat' split) <;> omega
    have := ev_add (mx (mn a b) (-b)) 0 hm.1 hm.2 (by omega) (by omega)
    rw [Int.add_zero] at this
    exact Ev.bind this (Ev.now _)
def shiftVal (a n : Int) : Int := if n < 0 then sat (a / 2 ^ (-n).toNat) else sat (a * 2 ^ n.toNat)
theorem div_big {a : Int} {m : Nat} (h0 : -9223372036854775808 ≤ a) (h1 : a ≤ 9223372036854775807) (hm : 63 ≤ m) : a / 2 ^ m = if a < 0 then -1 else 0 := by
  have hp := pow_le hm
  have e63 : (2 : Int) ^ 63 = 9223372036854775808 := rfl
  rw [e63] at hp
  by_cases h : a < 0
  · rw [if_pos h, show a = (a + 2 ^ m) + (-1) * 2 ^ m by omega, Int.add_mul_ediv_right _ _ (by omega), Int.ediv_eq_zero_of_lt (by omega) (by omega)]; rfl
  · rw [if_neg h]; exact Int.ediv_eq_zero_of_lt (by omega) (by omega)
theorem sat_pow_big {a : Int} {n : Nat} (hn : 62 ≤ n) : sat (a * 2 ^ n) = if a < 0 then -4611686018427387904 else if a = 0 then 0 else 4611686018427387904 := by
  have hp := pow_le hn
  have e62 : (2 : Int) ^ 62 = 4611686018427387904 := rfl
  rw [e62] at hp
  generalize (2 : Int) ^ n = P at *
  unfold sat clampTo
  by_cases h : a < 0
  · have := Int.mul_le_mul_of_nonneg_right (show a ≤ -1 by omega) (show 0 ≤ P by omega)
    rw [if_pos h]; (repeat' split) <;> omega
  · rw [if_neg h]
    by_cases h2 : a = 0
    · rw [if_pos h2, h2]; simp
    · have := Int.mul_le_mul_of_nonneg_right (show 1 ≤ a by omega) (show 0 ≤ P by omega)
      rw [if_neg h2]; (repeat' split) <;> omega
theorem ev_shift (a n : Int) (ha0 : -9223372036854775808 ≤ a) (ha : a ≤ 9223372036854775807) (hn0 : -9223372036854775808 ≤ n) (hn : n ≤ 9223372036854775807) : Ev (fun k => fixed_Shift.f a n) (shiftVal a n) := by
  unfold fixed_Shift.f shiftVal
  by_cases h : n < 0
  · simp only [h, if_true]
    obtain ⟨m, hm1, hm2, hm3⟩ : ∃ m : Nat, -(mx n (-63)) = (m : Int) ∧ m ≤ 63 ∧ (m : Int) = mn (-n) 63 := by
      refine ⟨(-(mx n (-63))).toNat, ?_, ?_, ?_⟩ <;> unfold mx <;> (try unfold mn) <;> (repeat' split) <;> omega
    rw [hm1, w64_in (n := (m : Int)) (by omega) (by omega), u64_in (n := (m : Int)) (by omega) (by omega), shr_eq .i64 rfl a m (by omega)]
    simp only [show (0 : Int) ≤ (m : Int) from by omega, if_true]
    have e : a / 2 ^ m = a / 2 ^ (-n).toNat := by
      unfold mn at hm3
      by_cases h2 : 63 < -n
      · rw [div_big ha0 ha (by omega), div_big ha0 ha (by omega)]
      · rw [if_neg h2] at hm3
        congr 2; omega
    rw [e]
    have hb : -9223372036854775808 ≤ a / 2 ^ (-n).toNat ∧ a / 2 ^ (-n).toNat ≤ 9223372036854775807 := by
      have hp : (0 : Int) < 2 ^ (-n).toNat := Int.pow_pos (by decide)
      constructor
      · exact Int.le_ediv_of_mul_le hp (by
          have := Int.mul_le_mul_of_nonneg_left (show (1 : Int) ≤ 2 ^ (-n).toNat by omega) (show (0 : Int) ≤ 9223372036854775808 by omega)
          omega)
      · have := Int.ediv_le_ediv hp ha
        have := Int.ediv_le_self (2 ^ (-n).toNat) (show (0 : Int) ≤ 9223372036854775807 by omega)
        omega
    have := ev_add _ 0 hb.1 hb.2 (by omega) (by omega)
    rw [Int.add_zero] at this
    exact Ev.bind this (Ev.now _)
  · simp only [h, if_false]
    by_cases h2 : n ≤ 62
    · simp only [h2, if_true]
      obtain ⟨m, rfl⟩ : ∃ m : Nat, n = m := ⟨n.toNat, by omega⟩
      have hp : (0 : Int) < 2 ^ m := Int.pow_pos (by decide)
      have hp2 := pow_le (show m ≤ 62 by omega)
      have e62 : (2 : Int) ^ 62 = 4611686018427387904 := rfl
      have e : shl .i64 1 (m : Int) = 2 ^ m := by
        unfold shl
        rw [show min (m : Int).toNat IntKind.i64.bits = m from by simp [IntKind.bits]; omega, Int.one_mul, IntKind.wrap_i64]
        omega
      rw [u64_in (n := (m : Int)) (by omega) (by omega), e, Int.toNat_natCast]
      simp only [show (0 : Int) ≤ (m : Int) from by omega, if_true]
      obtain ⟨hi, lo, mm, e', r⟩ := product_rep a (2 ^ m) ha0 ha (by omega) (by omega)
      exact Ev.bind (Ev.const e') (Ev.bind (ev_span r) (Ev.now _))
    · simp only [h2, if_false]
      obtain ⟨hi, lo, mm, e', r⟩ := product_rep a 4611686018427387904 ha0 ha (by omega) (by omega)
      have hs := sat_in (a * 4611686018427387904)
      have hc := ev_clamp (sat (a * 4611686018427387904)) 4611686018427387904 (by omega) (by omega) (by omega) (by omega)
      have e : (if (4611686018427387904 : Int) < 0 then 0 else sat (mx (mn (sat (a * 4611686018427387904)) 4611686018427387904) (-4611686018427387904))) = sat (a * 2 ^ n.toNat) := by
        rw [if_neg (by omega), sat_pow_big (n := n.toNat) (by omega), ← sat_pow_big (n := 62) (by omega)]
        rw [show (2 : Int) ^ 62 = 4611686018427387904 from rfl, show mx (mn (sat (a * 4611686018427387904)) 4611686018427387904) (-4611686018427387904) = sat (a * 4611686018427387904) from by unfold mx mn; (repeat' split) <;> omega]
        exact sat_of hs.1 hs.2
      rw [e] at hc
      exact Ev.bind (Ev.const e') (Ev.bind (ev_span r) (Ev.bind hc (Ev.now _)))
def powVal (n : Int) : Int := if n < -32 then 0 else sat (2 ^ (32 + (mn n 100)).toNat)
theorem ev_power (n : Int) (hn0 : -9223372036854775808 ≤ n) (hn : n ≤ 9223372036854775807) : Ev (fun k => fixed_Power.f n) (powVal n) := by
  unfold fixed_Power.f powVal
  by_cases h : n < -32
  · simp only [h, if_true]; exact Ev.now _
  · simp only [h, if_false]
    have hm : 0 ≤ 32 + mn n 100 ∧ 32 + mn n 100 ≤ 132 := by unfold mn; split <;> omega
    rw [w64_in (n := 32 + mn n 100) (by omega) (by omega)]
    have := ev_shift 1 (32 + mn n 100) (by omega) (by omega) (by omega) (by omega)
    unfold shiftVal at this
    rw [if_neg (by omega), Int.one_mul] at this
    exact Ev.bind this (Ev.now _)
def sinceVal (a b : Int) : Int := sat (wrap64 (IntKind.u64.wrap (a - b)))
theorem w64_bd (n : Int) : -9223372036854775808 ≤ wrap64 n ∧ wrap64 n ≤ 9223372036854775807 := by
  unfold wrap64; omega
theorem ev_since (a b : Int) : Ev (fun k => stamp_Since.f a b) (sinceVal a b) := by
  unfold stamp_Since.f sinceVal
  obtain ⟨h0, h1⟩ := w64_bd (IntKind.u64.wrap (a - b))
  have := ev_clamp (wrap64 (IntKind.u64.wrap (a - b))) 4611686018427387904 h0 h1 (by omega) (by omega)
  rw [if_neg (by omega)] at this
  generalize wrap64 (IntKind.u64.wrap (a - b)) = x at *
  rw [show sat (mx (mn x 4611686018427387904) (-4611686018427387904)) = sat x from by unfold sat clampTo mx mn; (repeat' split) <;> omega] at this
  exact Ev.bind (f := fun k t => some t) this (Ev.now _)
end Go.Proofs.Ytgbffggaifnalaa.V
