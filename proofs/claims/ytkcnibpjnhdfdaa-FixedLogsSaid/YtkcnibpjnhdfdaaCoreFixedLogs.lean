/- Plain lemmas on the functions that the law FixedLogs reaches: whole numbers, no program in sight. -/
import Derived.Test.YtkcnibpjnhdfdaaPFixedLogsx
namespace Go.Proofs.Ytkcnibpjnhdfdaa.CFixedLogs
open Go.RowKit Go.Proofs.Ytkcnibpjnhdfdaa.PFixedLogs Go.Proofs.YtkcnibpjnhdfdaaW.PrintWords Go.Proofs.YtkcnibpjnhdfdaaW.PrintLast Go.Proofs.YtkcnibpjnhdfdaaW.PrintMore
set_option linter.unusedVariables false
set_option linter.unusedSimpArgs false
/-! ### whole numbers of 64 and 128 bits -/
theorem u64w (n : Int) : IntKind.u64.wrap n = n % 18446744073709551616 := by
  simp [IntKind.wrap, IntKind.bits, IntKind.signed]
theorem w64_in {n : Int} (h0 : -9223372036854775808 ≤ n) (h1 : n ≤ 9223372036854775807) : wrap64 n = n := by
  unfold wrap64; omega
theorem u64_in {n : Int} (h0 : 0 ≤ n) (h1 : n < 18446744073709551616) : IntKind.u64.wrap n = n := by
  rw [u64w]; omega
theorem wf64 {n : Int} (h : (Lit.int .i64 n).wf = true) : -9223372036854775808 ≤ n ∧ n ≤ 9223372036854775807 := by
  simpa [Lit.wf, IntKind.min, IntKind.max, IntKind.signed, IntKind.bits] using h
theorem wraps_u64 (n : Int) (h₀ : 0 ≤ n) (h₁ : n < 2 ^ 64) : IntKind.u64.wrap n = n := u64_in h₀ (by omega)
theorem and32 (x : Int) (h0 : 0 ≤ x) (h1 : x < 18446744073709551616) : Go.bits .and .u64 x 4294967295 = x % 4294967296 :=
  bits_mask .u64 64 (by decide) wraps_u64 32 (by decide) x h0 (by omega)
theorem orj (i : Nat) (x y : Int) (hx0 : 0 ≤ x) (hx : x % 2 ^ i = 0) (hx1 : x < 18446744073709551616) (hy0 : 0 ≤ y) (hy : y < 2 ^ i) (hy1 : y < 18446744073709551616) : Go.bits .or .u64 x y = x + y :=
  bits_join .u64 64 (by decide) wraps_u64 i x y hx0 hx (by omega) hy0 hy (by omega)
theorem xorall (x : Int) (h0 : 0 ≤ x) (h1 : x < 18446744073709551616) : Go.bits .xor .u64 18446744073709551615 x = 18446744073709551615 - x := by
  obtain ⟨a, rfl⟩ := Int.eq_ofNat_of_zero_le h0
  have hb : (BitVec.ofInt 64 (18446744073709551615 : Int)) = BitVec.allOnes 64 := by decide
  show IntKind.u64.wrap ((BitVec.ofInt 64 (18446744073709551615 : Int) ^^^ BitVec.ofInt 64 (a : Int)).toNat : Int) = _
  rw [hb, BitVec.allOnes_xor, BitVec.ofInt_natCast, BitVec.toNat_not, BitVec.toNat_ofNat, u64w]
  omega
def clampTo (most x : Int) : Int := if x < most then (if -most < x then x else -most) else most
def sat (x : Int) : Int := clampTo 4611686018427387904 x
/-- A sign, and a size of two words. -/
def Rep (hi lo : Int) (m : Bool) (x : Int) : Prop := 0 ≤ hi ∧ hi < 18446744073709551616 ∧ 0 ≤ lo ∧ lo < 18446744073709551616 ∧ x = if m = true then -(hi * 18446744073709551616 + lo) else hi * 18446744073709551616 + lo
theorem Ev.succ {α : Type} {g : Nat → Option α} {r : α} (h : ∀ k, g (k + 1) = some r) : Ev g r := Ev.step h (Ev.now r)
theorem Ev.const {α : Type} {g : Option α} {r : α} (h : g = some r) : Ev (fun _ => g) r := by rw [h]; exact Ev.now r
theorem pow_le {m n : Nat} (h : m ≤ n) : (2 : Int) ^ m ≤ 2 ^ n := by
  obtain ⟨d, rfl⟩ := Nat.exists_eq_add_of_le h
  rw [Int.pow_add]
  have h1 : (0 : Int) < 2 ^ m := Int.pow_pos (by decide)
  have h2 : (0 : Int) < 2 ^ d := Int.pow_pos (by decide)
  have := Int.mul_le_mul_of_nonneg_left (show (1 : Int) ≤ 2 ^ d by omega) (Int.le_of_lt h1)
  omega
def IsRoot (n r : Int) : Prop := 0 ≤ r ∧ r * r ≤ n ∧ n < (r + 1) * (r + 1)
theorem IsRoot.uniq {n r s : Int} (h : IsRoot n r) (h' : IsRoot n s) : r = s := by
  obtain ⟨a, b, c⟩ := h; obtain ⟨a', b', c'⟩ := h'
  rcases Int.lt_trichotomy r s with h | h | h
  · have := Int.mul_le_mul (show r + 1 ≤ s by omega) (show r + 1 ≤ s by omega) (by omega) (by omega); omega
  · exact h
  · have := Int.mul_le_mul (show s + 1 ≤ r by omega) (show s + 1 ≤ r by omega) (by omega) (by omega); omega
theorem shl_u64 (x : Int) (n : Nat) (hn : n ≤ 64) (h0 : 0 ≤ x * 2 ^ n) (h1 : x * 2 ^ n < 18446744073709551616) : shl .u64 x (n : Int) = x * 2 ^ n := by
  unfold shl
  rw [show min (n : Int).toNat IntKind.u64.bits = n from by simp [IntKind.bits]; omega]
  exact u64_in h0 h1
theorem shr_eq (k : IntKind) (hk : k.bits = 64) (x : Int) (n : Nat) (hn : n ≤ 64) : shr k x (n : Int) = x / 2 ^ n := by
  unfold shr
  rw [hk, show min (n : Int).toNat 64 = n from by simp; omega]

theorem mul64 (a b : Int) (ha0 : 0 ≤ a) (ha : a < 18446744073709551616) (hb0 : 0 ≤ b) (hb : b < 18446744073709551616) : bits_Mul64.f a b = some (a * b / 18446744073709551616, a * b % 18446744073709551616) := by
  unfold bits_Mul64.f
  rw [and32 a ha0 ha, and32 b hb0 hb]
  generalize ea1 : a / 4294967296 = a1
  generalize ea0 : a % 4294967296 = a0
  generalize eb1 : b / 4294967296 = b1
  generalize eb0 : b % 4294967296 = b0
  have h1 : 0 ≤ a1 ∧ a1 < 4294967296 := by omega
  have h2 : 0 ≤ a0 ∧ a0 < 4294967296 := by omega
  have h3 : 0 ≤ b1 ∧ b1 < 4294967296 := by omega
  have h4 : 0 ≤ b0 ∧ b0 < 4294967296 := by omega
  have ea : a = a1 * 4294967296 + a0 := by omega
  have eb : b = b1 * 4294967296 + b0 := by omega
  have bd : ∀ x y : Int, 0 ≤ x ∧ x < 4294967296 → 0 ≤ y ∧ y < 4294967296 → 0 ≤ x * y ∧ x * y ≤ 18446744065119617025 := by
    intro x y hx hy
    refine ⟨Int.mul_nonneg hx.1 hy.1, ?_⟩
    have := Int.mul_le_mul (show x ≤ 4294967295 by omega) (show y ≤ 4294967295 by omega) hy.1 (by decide)
    omega
  have p11 := bd a1 b1 h1 h3
  have p10 := bd a1 b0 h1 h4
  have p01 := bd a0 b1 h2 h3
  have p00 := bd a0 b0 h2 h4
  have e : a * b = a1 * b1 * 18446744073709551616 + a1 * b0 * 4294967296 + a0 * b1 * 4294967296 + a0 * b0 := by
    rw [ea, eb]; grind
  generalize a1 * b1 = q11 at *
  generalize a1 * b0 = q10 at *
  generalize a0 * b1 = q01 at *
  generalize a0 * b0 = q00 at *
  rw [e]
  rw [u64_in (n := q11) (by omega) (by omega), u64_in (n := q10) (by omega) (by omega), u64_in (n := q00) (by omega) (by omega), u64_in (n := q01) (by omega) (by omega)]
  rw [u64_in (n := q10 + q00 / 4294967296) (by omega) (by omega)]
  rw [and32 _ (by omega) (by omega)]
  rw [u64_in (n := (q10 + q00 / 4294967296) % 4294967296 + q01) (by omega) (by omega)]
  rw [u64_in (n := q11 + (q10 + q00 / 4294967296) / 4294967296) (by omega) (by omega)]
  rw [u64_in (n := q11 + (q10 + q00 / 4294967296) / 4294967296 + ((q10 + q00 / 4294967296) % 4294967296 + q01) / 4294967296) (by omega) (by omega)]
  rw [u64w]
  congr 2 <;> omega

theorem add64 (x y c : Int) (hx : 0 ≤ x) (hy : 0 ≤ y) (hc0 : 0 ≤ c) (hc : c ≤ 1) : bits_Add64.f x y c = some ((x + y + c) % 18446744073709551616, (x + y + c) / 18446744073709551616) := by
  unfold bits_Add64.f; rw [if_pos ⟨hx, hy, hc0, hc⟩]

theorem sum_rep (a b : Int) (ha0 : -9223372036854775808 ≤ a) (ha : a ≤ 9223372036854775807) (hb0 : -9223372036854775808 ≤ b) (hb : b ≤ 9223372036854775807) : ∃ hi lo m, fixed_sum.f a b = some (hi, lo, m) ∧ Rep hi lo m (a + b) := by
  have sg : ∀ x : Int, -9223372036854775808 ≤ x → x ≤ 9223372036854775807 → ∃ u s : Int, x % 18446744073709551616 = u ∧ x / 9223372036854775808 % 18446744073709551616 = s ∧ 0 ≤ u ∧ u < 18446744073709551616 ∧ ((s = 0 ∧ x = u) ∨ (s = 18446744073709551615 ∧ x = u - 18446744073709551616)) := by
    intro x h0 h1
    refine ⟨_, _, rfl, rfl, ?_, ?_, ?_⟩ <;> omega
  obtain ⟨u, s, eu, es, hu0, hu1, hs⟩ := sg a ha0 ha
  obtain ⟨v, t, ev, et, hv0, hv1, ht⟩ := sg b hb0 hb
  unfold fixed_sum.f
  rw [u64w a, u64w b, eu, ev, u64w (a / _), u64w (b / _), es, et, add64 u v 0 hu0 hv0 (by omega) (by omega)]
  simp only [Option.bind_some]
  rw [u64w (s + t)]
  obtain ⟨c, lo, ec, el, hc, hl0, hl1, huv⟩ : ∃ c lo : Int, (u + v + 0) / 18446744073709551616 = c ∧ (u + v + 0) % 18446744073709551616 = lo ∧ (c = 0 ∨ c = 1) ∧ 0 ≤ lo ∧ lo < 18446744073709551616 ∧ u + v = c * 18446744073709551616 + lo := ⟨_, _, rfl, rfl, by omega, by omega, by omega, by omega⟩
  rw [ec, el]
  obtain ⟨hi, eh, hh0, hh1, hsum, hsm⟩ : ∃ hi : Int, IntKind.u64.wrap ((s + t) % 18446744073709551616 + c) = hi ∧ 0 ≤ hi ∧ hi < 18446744073709551616 ∧ ((hi ≤ 1 ∧ a + b = hi * 18446744073709551616 + lo) ∨ (18446744073709551614 ≤ hi ∧ a + b = (hi - 18446744073709551616) * 18446744073709551616 + lo)) ∧ True := by
    refine ⟨_, rfl, ?_, ?_, ?_, trivial⟩ <;> rw [u64w] <;> clear eu es ev et ec el <;> rcases hs with ⟨rfl, rfl⟩ | ⟨rfl, rfl⟩ <;> rcases ht with ⟨rfl, rfl⟩ | ⟨rfl, rfl⟩ <;> rcases hc with rfl | rfl <;> omega
  rw [eh]
  clear eh hc ec el eu es ev et
  by_cases hn : wrap64 hi < 0
  · rw [if_pos hn, xorall lo (by omega) (by omega), xorall hi (by omega) (by omega), add64 _ _ _ (by omega) (by omega) (by omega) (by omega)]
    refine ⟨_, _, _, rfl, ?_⟩
    unfold wrap64 at hn
    unfold Rep
    rw [if_pos rfl, u64w]
    have h2 : 18446744073709551614 ≤ hi := by omega
    clear hn hs ht
    have : hi = 18446744073709551614 ∨ hi = 18446744073709551615 := by omega
    rcases this with rfl | rfl <;> omega
  · rw [if_neg hn]
    refine ⟨_, _, _, rfl, ?_⟩
    unfold wrap64 at hn
    unfold Rep
    rw [if_neg (by decide)]
    have h2 : hi ≤ 1 := by omega
    clear hn hs ht
    omega

theorem cut_rep (k : Nat) {hi lo : Int} {m : Bool} {x : Int} (h : Rep hi lo m x) (most : Int) (h0 : 0 < most) (h1 : most ≤ 9223372036854775807) : fixed_whole_cut.f (k + 1) hi lo m most = some (clampTo most x) := by
  obtain ⟨a, b, c, d, e⟩ := h
  unfold fixed_whole_cut.f
  simp only [fixed_whole_cut.j0]
  rw [u64_in (n := most) (by omega) (by omega)]
  have key : ∀ n : Int, 0 ≤ n → (if n < most then (if m = true then wrap64 (-(wrap64 n)) else wrap64 n) else (if m = true then wrap64 (-most) else most)) = clampTo most (if m = true then -n else n) := by
    intro n hn
    unfold clampTo wrap64
    cases m <;> simp only [Bool.false_eq_true, if_false, if_true] <;> (repeat' split) <;> omega
  subst e
  by_cases hz : hi = 0
  · rw [if_pos hz]
    subst hz
    have := key lo c
    simp only [Int.zero_mul, Int.zero_add]
    rw [← this]
    by_cases hl : lo < most
    · simp only [hl, decide_true, if_true]
      cases m <;> simp
    · simp only [hl, decide_false, if_false, Bool.false_eq_true]
      cases m <;> simp
  · rw [if_neg hz]
    have := key (hi * 18446744073709551616 + lo) (by omega)
    rw [← this, if_neg (show ¬ (hi * 18446744073709551616 + lo < most) by omega)]
    cases m <;> simp
theorem span_rep (k : Nat) {hi lo : Int} {m : Bool} {x : Int} (h : Rep hi lo m x) : fixed_whole_span.f (k + 1) hi lo m = some (sat x) := by
  unfold fixed_whole_span.f
  rw [cut_rep k h _ (by omega) (by omega)]
  rfl
theorem sat_in (x : Int) : -4611686018427387904 ≤ sat x ∧ sat x ≤ 4611686018427387904 := by
  unfold sat clampTo; (repeat' split) <;> omega
theorem sat_of {x : Int} (h0 : -4611686018427387904 ≤ x) (h1 : x ≤ 4611686018427387904) : sat x = x := by
  unfold sat clampTo; (repeat' split) <;> omega

theorem add_eq (k : Nat) (a b : Int) (ha0 : -9223372036854775808 ≤ a) (ha : a ≤ 9223372036854775807) (hb0 : -9223372036854775808 ≤ b) (hb : b ≤ 9223372036854775807) : fixed_Add.f (k + 1) a b = some (sat (a + b)) := by
  obtain ⟨hi, lo, m, e, r⟩ := sum_rep a b ha0 ha hb0 hb
  unfold fixed_Add.f
  rw [e]
  simp only [Option.bind_some]
  rw [span_rep k r]
  rfl
theorem ev_add (a b : Int) (ha0 : -9223372036854775808 ≤ a) (ha : a ≤ 9223372036854775807) (hb0 : -9223372036854775808 ≤ b) (hb : b ≤ 9223372036854775807) : Ev (fun k => fixed_Add.f k a b) (sat (a + b)) := Ev.succ fun k => add_eq k a b ha0 ha hb0 hb

theorem size_eq (a : Int) (ha0 : -9223372036854775808 ≤ a) (ha : a ≤ 9223372036854775807) : fixed_size.f a = some (if a < 0 then -a else a, decide (a < 0)) := by
  unfold fixed_size.f
  by_cases h : a < 0
  · rw [if_pos h, if_pos h, u64w, u64w]
    simp only [h, decide_true]
    congr 2; omega
  · rw [if_neg h, if_neg h, u64w]
    simp only [h, decide_false]
    congr 2; omega

theorem mul_u64 (x y : Int) (hx0 : 0 ≤ x) (hx : x ≤ 9223372036854775808) (hy0 : 0 ≤ y) (hy : y ≤ 9223372036854775808) : 0 ≤ x * y ∧ x * y ≤ 85070591730234615865843651857942052864 := by
  refine ⟨Int.mul_nonneg hx0 hy0, ?_⟩
  have := Int.mul_le_mul hx hy hy0 (by omega)
  omega
theorem product_rep (a b : Int) (ha0 : -9223372036854775808 ≤ a) (ha : a ≤ 9223372036854775807) (hb0 : -9223372036854775808 ≤ b) (hb : b ≤ 9223372036854775807) : ∃ hi lo m, fixed_product.f a b = some (hi, lo, m) ∧ Rep hi lo m (a * b) := by
  unfold fixed_product.f
  rw [size_eq a ha0 ha, size_eq b hb0 hb]
  simp only [Option.bind_some]
  have e : ∀ x : Int, ∃ n : Int, (if x < 0 then -x else x) = n ∧ 0 ≤ n ∧ ((x < 0 ∧ x = -n) ∨ (¬ x < 0 ∧ x = n)) := by
    intro x; exact ⟨_, rfl, by split <;> omega, by split <;> omega⟩
  obtain ⟨x, ex, hx0, hx⟩ := e a
  obtain ⟨y, ey, hy0, hy⟩ := e b
  rw [ex, ey, mul64 x y hx0 (by omega) hy0 (by omega)]
  have hp := mul_u64 x y hx0 (by omega) hy0 (by omega)
  refine ⟨_, _, _, rfl, ?_⟩
  have hab : a * b = if (decide (a < 0) != decide (b < 0)) = true then -(x * y) else x * y := by
    rcases hx with ⟨h1, rfl⟩ | ⟨h1, rfl⟩ <;> rcases hy with ⟨h2, rfl⟩ | ⟨h2, rfl⟩ <;> (first | rw [decide_eq_true h1] | rw [decide_eq_false h1]) <;> (first | rw [decide_eq_true h2] | rw [decide_eq_false h2]) <;> simp [Int.neg_mul, Int.mul_neg]
  rw [hab]
  clear hab hx hy ex ey
  generalize x * y = p at *
  unfold Rep
  refine ⟨by omega, by omega, by omega, by omega, ?_⟩
  have : p / 18446744073709551616 * 18446744073709551616 + p % 18446744073709551616 = p := by omega
  rw [this]

/-! ### a division of two words by one, digit by digit -/
theorem bitLen_spec : ∀ (n x : Nat), x ≤ n → 0 < x → x < 18446744073709551616 → 1 ≤ Lib.bitLen x ∧ 2 ^ (Lib.bitLen x - 1) ≤ x ∧ x < 2 ^ (Lib.bitLen x)
  | 0, x, h, h0, _ => by omega
  | n + 1, x, h, h0, h1 => by
    rw [Lib.bitLen_half x (by omega) (by omega)]
    by_cases e : x = 1
    · subst e; decide
    · obtain ⟨a, b, c⟩ := bitLen_spec n (x / 2) (by omega) (by omega) (by omega)
      generalize Lib.bitLen (x / 2) = m at *
      obtain ⟨m, rfl⟩ : ∃ k, m = k + 1 := ⟨m - 1, by omega⟩
      have e1 : 1 + (m + 1) - 1 = m + 1 := by omega
      have e2 : 1 + (m + 1) = m + 1 + 1 := by omega
      rw [e1, e2]
      simp only [Nat.add_sub_cancel] at b
      rw [Nat.pow_succ] at c ⊢
      rw [Nat.pow_succ (n := 2) (m := m + 1), Nat.pow_succ]
      omega
/-- What a trial digit q and its rest r say: y: the divisor's two digits. -/
structure Trial (y1 y0 u w q r : Int) : Prop where
  y1lo : 2147483648 ≤ y1
  y1hi : y1 < 4294967296
  y0lo : 0 ≤ y0
  y0hi : y0 < 4294967296
  ulo : 0 ≤ u
  uhi : u < y1 * 4294967296 + y0
  wlo : 0 ≤ w
  whi : w < 4294967296
  qlo : 0 ≤ q
  qhi : q < 18446744073709551616
  rlo : 0 ≤ r
  rhi : r < 4294967296
  sum : q * y1 + r = u
  big : u * 4294967296 + w < (q + 1) * (y1 * 4294967296 + y0)
theorem Trial.prod {y1 y0 u w q r : Int} (h : Trial y1 y0 u w q r) : q * (y1 * 4294967296 + y0) = (u - r) * 4294967296 + q * y0 := by
  have := h.sum; grind
/-- The test says no: the digit is right. -/
theorem Trial.right {y1 y0 u w q r : Int} (h : Trial y1 y0 u w q r) (hw : q * y0 ≤ 4294967296 * r + w) : q * (y1 * 4294967296 + y0) ≤ u * 4294967296 + w := by
  rw [h.prod]; omega
/-- The test says yes: the digit is too great. -/
theorem Trial.great {y1 y0 u w q r : Int} (h : Trial y1 y0 u w q r) (ht : 4294967296 ≤ q ∨ 4294967296 * r + w < q * y0) : u * 4294967296 + w < q * (y1 * 4294967296 + y0) := by
  rcases ht with ht | ht
  · have h1 := h.uhi; have h2 := h.whi; have h3 := h.y1lo; have h4 := h.y0lo
    have := Int.mul_le_mul_of_nonneg_right ht (show 0 ≤ y1 * 4294967296 + y0 by omega)
    omega
  · rw [h.prod]; omega
theorem Trial.pos {y1 y0 u w q r : Int} (h : Trial y1 y0 u w q r) (hg : u * 4294967296 + w < q * (y1 * 4294967296 + y0)) : 1 ≤ q := by
  have h1 := h.ulo; have h2 := h.wlo; have h3 := h.qlo
  by_cases e : q = 0
  · rw [e, Int.zero_mul] at hg; omega
  · omega
/-- The next digit, if its rest is small. -/
theorem Trial.next {y1 y0 u w q r : Int} (h : Trial y1 y0 u w q r) (hg : u * 4294967296 + w < q * (y1 * 4294967296 + y0)) (hr : r + y1 < 4294967296) : Trial y1 y0 u w (q - 1) (r + y1) := by
  have := h.pos hg
  refine ⟨h.y1lo, h.y1hi, h.y0lo, h.y0hi, h.ulo, h.uhi, h.wlo, h.whi, by omega, by have := h.qhi; omega, by have := h.rlo; have := h.y1lo; omega, hr, ?_, ?_⟩
  · have := h.sum; grind
  · rw [show q - 1 + 1 = q by omega]; exact hg
/-- The next digit is right, if its rest is great. -/
theorem Trial.last {y1 y0 u w q r : Int} (h : Trial y1 y0 u w q r) (hg : u * 4294967296 + w < q * (y1 * 4294967296 + y0)) (hr : 4294967296 ≤ r + y1) : (q - 1) * (y1 * 4294967296 + y0) ≤ u * 4294967296 + w ∧ q - 1 < 4294967296 := by
  have hp := h.pos hg
  have e : (q - 1) * y1 + (r + y1) = u := by have := h.sum; grind
  have h1 := h.uhi; have h2 := h.y0hi; have h3 := h.y0lo; have h4 := h.wlo; have h5 := h.y1lo
  have hq : q - 1 < 4294967296 := by
    rcases Int.lt_or_le (q - 1) 4294967296 with hl | hl
    · exact hl
    · have := Int.mul_le_mul_of_nonneg_right hl (show 0 ≤ y1 by omega)
      omega
  refine ⟨?_, hq⟩
  have e2 : (q - 1) * (y1 * 4294967296 + y0) = (u - (r + y1)) * 4294967296 + (q - 1) * y0 := by grind
  rw [e2]
  have := Int.mul_le_mul (show q - 1 ≤ 4294967295 by omega) (show y0 ≤ 4294967295 by omega) h3 (by decide)
  omega
theorem Trial.uniq {q q' y n : Int} (hy : 0 < y) (a : q * y ≤ n) (b : n < (q + 1) * y) (a' : q' * y ≤ n) (b' : n < (q' + 1) * y) : q = q' := by
  rcases Int.lt_trichotomy q q' with h | h | h
  · have := Int.mul_le_mul_of_nonneg_right (show q + 1 ≤ q' by omega) (Int.le_of_lt hy); omega
  · exact h
  · have := Int.mul_le_mul_of_nonneg_right (show q' + 1 ≤ q by omega) (Int.le_of_lt hy); omega

/-! ### what the program's functions answer -/
theorem ev_span {hi lo : Int} {m : Bool} {x : Int} (h : Rep hi lo m x) : Ev (fun k => fixed_whole_span.f k hi lo m) (sat x) := Ev.succ fun k => span_rep k h
theorem ev_cut {hi lo : Int} {m : Bool} {x : Int} (h : Rep hi lo m x) (most : Int) (h0 : 0 < most) (h1 : most ≤ 9223372036854775807) : Ev (fun k => fixed_whole_cut.f k hi lo m most) (clampTo most x) := Ev.succ fun k => cut_rep k h most h0 h1

theorem size_rep (a : Int) (ha0 : -9223372036854775808 ≤ a) (ha : a ≤ 9223372036854775807) : ∃ n m, fixed_size.f a = some (n, m) ∧ Rep 0 n m a ∧ Rep 0 n false (if a < 0 then -a else a) := by
  refine ⟨_, _, size_eq a ha0 ha, ?_, ?_⟩
  · unfold Rep
    by_cases h : a < 0
    · simp only [h, decide_true, if_true]; omega
    · simp only [h, decide_false, if_false, Bool.false_eq_true]; omega
  · unfold Rep
    simp only [Bool.false_eq_true, if_false]
    split <;> omega

theorem ev_clamp (a b : Int) (ha0 : -9223372036854775808 ≤ a) (ha : a ≤ 9223372036854775807) (hb0 : -9223372036854775808 ≤ b) (hb : b ≤ 9223372036854775807) : Ev (fun k => fixed_Clamp.f k a b) (if b < 0 then 0 else sat (mx (mn a b) (-b))) := by
  unfold fixed_Clamp.f
  by_cases h : b < 0
  · simp only [h, if_true]; exact Ev.now _
  · simp only [h, if_false]
    rw [w64_in (n := -b) (by omega) (by omega)]
    have hm : -9223372036854775808 ≤ mx (mn a b) (-b) ∧ mx (mn a b) (-b) ≤ 9223372036854775807 := by
      unfold mx mn; (repeat' split) <;> omega
    have := ev_add (mx (mn a b) (-b)) 0 hm.1 hm.2 (by omega) (by omega)
    rw [Int.add_zero] at this
    exact Ev.bind this (Ev.now _)

def shiftVal (a n : Int) : Int := if n < 0 then sat (a / 2 ^ (-n).toNat) else sat (a * 2 ^ n.toNat)
theorem div_big {a : Int} {m : Nat} (h0 : -9223372036854775808 ≤ a) (h1 : a ≤ 9223372036854775807) (hm : 63 ≤ m) : a / 2 ^ m = if a < 0 then -1 else 0 := by
  have hp := pow_le hm
  have e63 : (2 : Int) ^ 63 = 9223372036854775808 := rfl
  rw [e63] at hp
  by_cases h : a < 0
  · rw [if_pos h, show a = (a + 2 ^ m) + (-1) * 2 ^ m by omega, Int.add_mul_ediv_right _ _ (by omega), Int.ediv_eq_zero_of_lt (by omega) (by omega)]; rfl
  · rw [if_neg h]; exact Int.ediv_eq_zero_of_lt (by omega) (by omega)
theorem sat_pow_big {a : Int} {n : Nat} (hn : 62 ≤ n) : sat (a * 2 ^ n) = if a < 0 then -4611686018427387904 else if a = 0 then 0 else 4611686018427387904 := by
  have hp := pow_le hn
  have e62 : (2 : Int) ^ 62 = 4611686018427387904 := rfl
  rw [e62] at hp
  generalize (2 : Int) ^ n = P at *
  unfold sat clampTo
  by_cases h : a < 0
  · have := Int.mul_le_mul_of_nonneg_right (show a ≤ -1 by omega) (show 0 ≤ P by omega)
    rw [if_pos h]; (repeat' split) <;> omega
  · rw [if_neg h]
    by_cases h2 : a = 0
    · rw [if_pos h2, h2]; simp
    · have := Int.mul_le_mul_of_nonneg_right (show 1 ≤ a by omega) (show 0 ≤ P by omega)
      rw [if_neg h2]; (repeat' split) <;> omega
theorem ev_shift (a n : Int) (ha0 : -9223372036854775808 ≤ a) (ha : a ≤ 9223372036854775807) (hn0 : -9223372036854775808 ≤ n) (hn : n ≤ 9223372036854775807) : Ev (fun k => fixed_Shift.f k a n) (shiftVal a n) := by
  unfold fixed_Shift.f shiftVal
  by_cases h : n < 0
  · simp only [h, if_true]
    obtain ⟨m, hm1, hm2, hm3⟩ : ∃ m : Nat, -(mx n (-63)) = (m : Int) ∧ m ≤ 63 ∧ (m : Int) = mn (-n) 63 := by
      refine ⟨(-(mx n (-63))).toNat, ?_, ?_, ?_⟩ <;> unfold mx <;> (try unfold mn) <;> (repeat' split) <;> omega
    rw [hm1, w64_in (n := (m : Int)) (by omega) (by omega), u64_in (n := (m : Int)) (by omega) (by omega), shr_eq .i64 rfl a m (by omega)]
    simp only [show (0 : Int) ≤ (m : Int) from by omega, if_true]
    have e : a / 2 ^ m = a / 2 ^ (-n).toNat := by
      unfold mn at hm3
      by_cases h2 : 63 < -n
      · rw [div_big ha0 ha (by omega), div_big ha0 ha (by omega)]
      · rw [if_neg h2] at hm3
        congr 2; omega
    rw [e]
    have hb : -9223372036854775808 ≤ a / 2 ^ (-n).toNat ∧ a / 2 ^ (-n).toNat ≤ 9223372036854775807 := by
      have hp : (0 : Int) < 2 ^ (-n).toNat := Int.pow_pos (by decide)
      constructor
      · exact Int.le_ediv_of_mul_le hp (by
          have := Int.mul_le_mul_of_nonneg_left (show (1 : Int) ≤ 2 ^ (-n).toNat by omega) (show (0 : Int) ≤ 9223372036854775808 by omega)
          omega)
      · have := Int.ediv_le_ediv hp ha
        have := Int.ediv_le_self (2 ^ (-n).toNat) (show (0 : Int) ≤ 9223372036854775807 by omega)
        omega
    have := ev_add _ 0 hb.1 hb.2 (by omega) (by omega)
    rw [Int.add_zero] at this
    exact Ev.bind this (Ev.now _)
  · simp only [h, if_false]
    by_cases h2 : n ≤ 62
    · simp only [h2, if_true]
      obtain ⟨m, rfl⟩ : ∃ m : Nat, n = m := ⟨n.toNat, by omega⟩
      have hp : (0 : Int) < 2 ^ m := Int.pow_pos (by decide)
      have hp2 := pow_le (show m ≤ 62 by omega)
      have e62 : (2 : Int) ^ 62 = 4611686018427387904 := rfl
      have e : shl .i64 1 (m : Int) = 2 ^ m := by
        unfold shl
        rw [show min (m : Int).toNat IntKind.i64.bits = m from by simp [IntKind.bits]; omega, Int.one_mul, IntKind.wrap_i64]
        omega
      rw [u64_in (n := (m : Int)) (by omega) (by omega), e, Int.toNat_natCast]
      simp only [show (0 : Int) ≤ (m : Int) from by omega, if_true]
      obtain ⟨hi, lo, mm, e', r⟩ := product_rep a (2 ^ m) ha0 ha (by omega) (by omega)
      exact Ev.bind (Ev.const e') (Ev.bind (ev_span r) (Ev.now _))
    · simp only [h2, if_false]
      obtain ⟨hi, lo, mm, e', r⟩ := product_rep a 4611686018427387904 ha0 ha (by omega) (by omega)
      have hs := sat_in (a * 4611686018427387904)
      have hc := ev_clamp (sat (a * 4611686018427387904)) 4611686018427387904 (by omega) (by omega) (by omega) (by omega)
      have e : (if (4611686018427387904 : Int) < 0 then 0 else sat (mx (mn (sat (a * 4611686018427387904)) 4611686018427387904) (-4611686018427387904))) = sat (a * 2 ^ n.toNat) := by
        rw [if_neg (by omega), sat_pow_big (n := n.toNat) (by omega), ← sat_pow_big (n := 62) (by omega)]
        rw [show (2 : Int) ^ 62 = 4611686018427387904 from rfl, show mx (mn (sat (a * 4611686018427387904)) 4611686018427387904) (-4611686018427387904) = sat (a * 4611686018427387904) from by unfold mx mn; (repeat' split) <;> omega]
        exact sat_of hs.1 hs.2
      rw [e] at hc
      exact Ev.bind (Ev.const e') (Ev.bind (ev_span r) (Ev.bind hc (Ev.now _)))

def powVal (n : Int) : Int := if n < -32 then 0 else sat (2 ^ (32 + (mn n 100)).toNat)
theorem ev_power (n : Int) (hn0 : -9223372036854775808 ≤ n) (hn : n ≤ 9223372036854775807) : Ev (fun k => fixed_Power.f k n) (powVal n) := by
  unfold fixed_Power.f powVal
  by_cases h : n < -32
  · simp only [h, if_true]; exact Ev.now _
  · simp only [h, if_false]
    have hm : 0 ≤ 32 + mn n 100 ∧ 32 + mn n 100 ≤ 132 := by unfold mn; split <;> omega
    rw [w64_in (n := 32 + mn n 100) (by omega) (by omega)]
    have := ev_shift 1 (32 + mn n 100) (by omega) (by omega) (by omega) (by omega)
    unfold shiftVal at this
    rw [if_neg (by omega), Int.one_mul] at this
    exact Ev.bind this (Ev.now _)

/-- The logarithm, as both tell it. -/
def logVal (a : Int) : Int := if a ≤ 0 then -33 else (Lib.bitLen a.toNat : Int) - 33
theorem ev_log (a : Int) (ha : a ≤ 9223372036854775807) : fixed_Log.f a = some (logVal a) := by
  unfold fixed_Log.f logVal
  by_cases h : a ≤ 0
  · rw [if_pos h, if_pos h]
  · rw [if_neg h, if_neg h, u64_in (n := a) (by omega) (by omega)]
    unfold bits_Len64.f
    rw [if_pos ⟨by omega, by omega⟩]
    have := Lib.bitLen_le a.toNat 64 (by omega) (by omega)
    simp only [Option.bind_some]
    rw [w64_in (by omega) (by omega)]

/-! ### roots of mean squares -/
def sq : List Int → Int
  | [] => 0
  | x :: l => sat x * sat x + sq l
theorem sq_append (a b : List Int) : sq (a ++ b) = sq a + sq b := by
  induction a with
  | nil => simp [sq]
  | cons x a ih => simp only [List.cons_append, sq, ih]; omega
theorem sq_take_succ (l : List Int) (i : Nat) (h : i < l.length) : sq (l.take (i + 1)) = sq (l.take i) + sat (rd l (i : Int)) * sat (rd l (i : Int)) := by
  rw [List.take_succ_eq_append_getElem h, sq_append]
  have : rd l (i : Int) = l[i] := by unfold rd; rw [Int.toNat_natCast, List.getD_eq_getElem?_getD, List.getElem?_eq_getElem h]; rfl
  rw [this]; simp [sq]
theorem sat_sq (x : Int) : 0 ≤ sat x * sat x ∧ sat x * sat x ≤ 21267647932558653966460912964485513216 := by
  obtain ⟨a, b⟩ := sat_in x
  rcases Int.le_total 0 (sat x) with h | h
  · exact ⟨Int.mul_nonneg h h, Int.mul_le_mul b b h (by decide)⟩
  · have e : sat x * sat x = (-sat x) * (-sat x) := by rw [Int.neg_mul_neg]
    rw [e]
    exact ⟨Int.mul_nonneg (by omega) (by omega), Int.mul_le_mul (show -sat x ≤ 4611686018427387904 by omega) (show -sat x ≤ 4611686018427387904 by omega) (by omega) (by decide)⟩
theorem sq_bd (l : List Int) : 0 ≤ sq l ∧ sq l ≤ l.length * 21267647932558653966460912964485513216 := by
  induction l with
  | nil => simp [sq]
  | cons x l ih => have := sat_sq x; simp only [sq, List.length_cons]; omega

/-! ### numbers as lists of digits, the lowest first -/
def V : List Int → Int
  | [] => 0
  | d :: l => d + 65536 * V l
def Dg (l : List Int) : Prop := ∀ d ∈ l, 0 ≤ d ∧ d < 65536
def Nm (l : List Int) : Prop := Dg l ∧ ∀ h : l ≠ [], l.getLast h ≠ 0
theorem pw_pos (n : Nat) : (0 : Int) < 65536 ^ n := Int.pow_pos (by decide)
theorem V_append (a b : List Int) : V (a ++ b) = V a + 65536 ^ a.length * V b := by
  induction a with
  | nil => simp [V]
  | cons d a ih => simp only [List.cons_append, V, ih, List.length_cons, Int.pow_succ]; grind
theorem Dg.nil : Dg [] := fun _ h => by cases h
theorem Dg.append {a b : List Int} (ha : Dg a) (hb : Dg b) : Dg (a ++ b) := fun d hd => (List.mem_append.1 hd).elim (ha d) (hb d)
theorem Dg.one {d : Int} (h0 : 0 ≤ d) (h1 : d < 65536) : Dg [d] := fun x hx => by simp at hx; subst hx; exact ⟨h0, h1⟩
theorem Dg.take {a : List Int} (h : Dg a) (n : Nat) : Dg (a.take n) := fun d hd => h d (List.mem_of_mem_take hd)
theorem Dg.drop {a : List Int} (h : Dg a) (n : Nat) : Dg (a.drop n) := fun d hd => h d (List.mem_of_mem_drop hd)
theorem Dg.set {a : List Int} (h : Dg a) (n : Nat) {v : Int} (h0 : 0 ≤ v) (h1 : v < 65536) : Dg (a.set n v) := fun d hd => (List.mem_or_eq_of_mem_set hd).elim (h d) (fun e => by subst e; exact ⟨h0, h1⟩)
theorem Dg.zeros (n : Nat) : Dg (List.replicate n 0) := fun d hd => by rw [List.eq_of_mem_replicate hd]; omega
theorem V_zeros (n : Nat) : V (List.replicate n 0) = 0 := by
  induction n with
  | zero => rfl
  | succ n ih => simp [List.replicate_succ, V, ih]
theorem V_bd {l : List Int} (h : Dg l) : 0 ≤ V l ∧ V l < 65536 ^ l.length := by
  induction l with
  | nil => simp [V]
  | cons d l ih =>
    obtain ⟨i0, i1⟩ := ih fun x hx => h x (List.mem_cons_of_mem _ hx)
    have hd := h d List.mem_cons_self
    simp only [V, List.length_cons, Int.pow_succ]
    constructor <;> omega
theorem rd_nat (l : List Int) (i : Nat) : rd l (i : Int) = l.getD i 0 := by unfold rd; rw [Int.toNat_natCast]
theorem rd_dg {l : List Int} (h : Dg l) (i : Nat) : 0 ≤ rd l (i : Int) ∧ rd l (i : Int) < 65536 := by
  rw [rd_nat, List.getD_eq_getElem?_getD]
  by_cases hi : i < l.length
  · rw [List.getElem?_eq_getElem hi]; exact h _ (List.getElem_mem _)
  · rw [List.getElem?_eq_none (by omega)]; simp
theorem rd_out {l : List Int} {i : Nat} (h : l.length ≤ i) : rd l (i : Int) = 0 := by
  rw [rd_nat, List.getD_eq_getElem?_getD, List.getElem?_eq_none h]; rfl
theorem V_take_succ (l : List Int) (i : Nat) : V (l.take (i + 1)) = V (l.take i) + 65536 ^ i * rd l (i : Int) := by
  by_cases h : i < l.length
  · rw [List.take_succ_eq_append_getElem h, V_append, rd_nat, List.getD_eq_getElem?_getD, List.getElem?_eq_getElem h]
    simp [V, Nat.min_eq_left (Nat.le_of_lt h)]
  · rw [rd_out (by omega), List.take_of_length_le (by omega), List.take_of_length_le (by omega)]; simp
theorem V_take_all (l : List Int) {n : Nat} (h : l.length ≤ n) : V (l.take n) = V l := by rw [List.take_of_length_le h]
theorem V_take_bd {l : List Int} (h : Dg l) (n : Nat) : 0 ≤ V (l.take n) ∧ V (l.take n) < 65536 ^ n := by
  obtain ⟨a, b⟩ := V_bd (h.take n)
  refine ⟨a, Int.lt_of_lt_of_le b ?_⟩
  rw [List.length_take]
  obtain ⟨d, hd⟩ := Nat.exists_eq_add_of_le (Nat.min_le_left n l.length)
  have hp := pw_pos (min n l.length)
  have h2 := pw_pos d
  have := Int.mul_le_mul_of_nonneg_left (show (1 : Int) ≤ 65536 ^ d by omega) (Int.le_of_lt hp)
  rw [← Int.pow_add, ← hd] at this
  omega
theorem V_drop (l : List Int) (i : Nat) (h : i < l.length) : V (l.drop i) = rd l (i : Int) + 65536 * V (l.drop (i + 1)) := by
  rw [List.drop_eq_getElem_cons h]
  simp only [V]
  rw [rd_nat, List.getD_eq_getElem?_getD, List.getElem?_eq_getElem h]; rfl
theorem V_set (l : List Int) (i : Nat) (v : Int) (h : i < l.length) : V (l.set i v) = V l + 65536 ^ i * (v - rd l (i : Int)) := by
  induction l generalizing i with
  | nil => simp at h
  | cons d l ih =>
    cases i with
    | zero => simp only [List.set_cons_zero, V, Int.pow_zero]; rw [rd_nat]; simp; omega
    | succ i =>
      simp only [List.set_cons_succ, V]
      have hl : i < l.length := by simpa using h
      rw [ih i hl, show rd (d :: l) ((i + 1 : Nat) : Int) = rd l (i : Int) by rw [rd_nat, rd_nat]; simp, Int.pow_succ]
      grind
theorem pw_le {m n : Nat} (h : m ≤ n) : (65536 : Int) ^ m ≤ 65536 ^ n := by
  obtain ⟨d, rfl⟩ := Nat.exists_eq_add_of_le h
  rw [Int.pow_add]
  have h1 := pw_pos m
  have h2 := pw_pos d
  have := Int.mul_le_mul_of_nonneg_left (show (1 : Int) ≤ 65536 ^ d by omega) (Int.le_of_lt h1)
  omega
/-- A number without noughts in front is as great as its length says. -/
theorem Nm.ge {l : List Int} (h : Nm l) {n : Nat} (hn : l.length = n + 1) : 65536 ^ n ≤ V l := by
  have hne : l ≠ [] := fun e => by rw [e] at hn; simp at hn
  have hl := h.2 hne
  have e : l = l.take n ++ [l.getLast hne] := by
    have := List.dropLast_concat_getLast hne
    rw [List.dropLast_eq_take, hn] at this
    exact this.symm
  have hd := h.1 _ (List.getLast_mem hne)
  have hb := (V_take_bd h.1 n).1
  rw [e, V_append]
  simp only [V, Int.mul_zero, Int.add_zero]
  rw [show (l.take n).length = n from by rw [List.length_take]; omega]
  have := Int.mul_le_mul_of_nonneg_left (show (1 : Int) ≤ l.getLast hne by omega) (Int.le_of_lt (pw_pos n))
  omega
theorem Nm.len {l : List Int} (h : Nm l) {n : Nat} (hv : V l < 65536 ^ n) : l.length ≤ n := by
  rcases Nat.lt_or_ge n l.length with hl | hl
  · obtain ⟨m, hm⟩ : ∃ m, l.length = m + 1 := ⟨l.length - 1, by omega⟩
    have := h.ge hm
    have := pw_le (show n ≤ m by omega)
    omega
  · exact hl
theorem Nm.nil : Nm [] := ⟨Dg.nil, fun h => absurd rfl h⟩
def sgn (d : Int) : Int := if d < 0 then -1 else if 0 < d then 1 else 0
/-- A sign, and a size in digits, at most n of them. -/
def Big (n : Nat) (l : List Int) (m : Bool) (x : Int) : Prop := Nm l ∧ l.length ≤ n ∧ x = if m = true then -V l else V l
theorem Nm.tail {d : Int} {l : List Int} (h : Nm (d :: l)) : Nm l := by
  refine ⟨fun x hx => h.1 x (List.mem_cons_of_mem _ hx), fun hne e => ?_⟩
  exact h.2 (by simp) (by rw [List.getLast_cons hne]; exact e)
theorem Nm.zero {l : List Int} (h : Nm l) (hv : V l = 0) : l = [] := by
  have := h.len (n := 0) (by rw [hv]; decide)
  exact List.length_eq_zero_iff.1 (by omega)
theorem Nm.uniq : ∀ {a b : List Int}, Nm a → Nm b → V a = V b → a = b
  | [], b, _, hb, h => (hb.zero (by rw [← h]; rfl)).symm
  | d :: a, [], ha, _, h => ha.zero (by rw [h]; rfl)
  | d :: a, e :: b, ha, hb, h => by
    have h1 := ha.1 d List.mem_cons_self; have h2 := hb.1 e List.mem_cons_self
    simp only [V] at h
    have e1 : V a = V b := by omega
    rw [Nm.uniq ha.tail hb.tail e1, show d = e by omega]
theorem Nm.cons {d : Int} {l : List Int} (h : Nm l) (h0 : 0 ≤ d) (h1 : d < 65536) (h2 : l = [] → d ≠ 0) : Nm (d :: l) := by
  refine ⟨fun x hx => (List.mem_cons.1 hx).elim (fun e => by subst e; exact ⟨h0, h1⟩) (h.1 x), fun hne => ?_⟩
  by_cases hl : l = []
  · subst hl; simpa using h2 rfl
  · rw [List.getLast_cons hl]; exact h.2 hl
theorem Nm.ex : ∀ (n : Nat) (v : Int), 0 ≤ v → v < 65536 ^ n → ∃ l, Nm l ∧ V l = v ∧ l.length ≤ n
  | 0, v, h0, h1 => ⟨[], Nm.nil, by simp at h1; simp only [V]; omega, Nat.le_refl _⟩
  | n + 1, v, h0, h1 => by
    rw [Int.pow_succ] at h1
    obtain ⟨l, hl, he, hn⟩ := Nm.ex n (v / 65536) (by omega) (by omega)
    by_cases hz : v = 0
    · exact ⟨[], Nm.nil, by subst hz; rfl, by simp⟩
    · refine ⟨v % 65536 :: l, hl.cons (by omega) (by omega) (fun e => ?_), by simp only [V]; omega, by simp; omega⟩
      subst e; simp only [V] at he; omega
theorem V_one (m : Int) : V [m] = m := by simp [V]

theorem cmp_l0 (a b : List Int) (ha : Dg a) (hb : Dg b) (hl : a.length ≤ 100000) : ∀ c : Nat, c ≤ a.length → c ≤ b.length → Ev (fun k => foliotref01_compare.l0 k a b ((c : Int) - 1)) (sgn (V (a.take c) - V (b.take c))) := by
  intro c
  induction c with
  | zero =>
    intro _ _
    refine Ev.succ fun k => ?_
    simp only [foliotref01_compare.l0]
    rw [if_neg (by omega)]; simp [sgn, V]
  | succ c ih =>
    intro h1 h2
    have e : ((c + 1 : Nat) : Int) - 1 = c := by omega
    rw [e, V_take_succ, V_take_succ]
    have da := rd_dg ha c; have db := rd_dg hb c
    have va := V_take_bd ha c; have vb := V_take_bd hb c
    have hp := pw_pos c
    generalize hx : rd a (c : Int) = x at *
    generalize hy : rd b (c : Int) = y at *
    by_cases hlt : x < y
    · refine Ev.succ fun k => ?_
      simp only [foliotref01_compare.l0]
      rw [if_pos (by omega), if_pos (by omega), if_pos (by omega), if_pos (by omega), hx, hy, if_pos hlt]
      have := Int.mul_le_mul_of_nonneg_left (show x + 1 ≤ y by omega) (Int.le_of_lt hp)
      rw [Int.mul_add, Int.mul_one] at this
      unfold sgn; rw [if_pos (by omega)]
    · by_cases hgt : y < x
      · refine Ev.succ fun k => ?_
        simp only [foliotref01_compare.l0]
        rw [if_pos (by omega), if_pos (by omega), if_pos (by omega), if_pos (by omega), hx, hy, if_neg hlt, if_pos hgt]
        have := Int.mul_le_mul_of_nonneg_left (show y + 1 ≤ x by omega) (Int.le_of_lt hp)
        rw [Int.mul_add, Int.mul_one] at this
        unfold sgn; rw [if_neg (by omega), if_pos (by omega)]
      · obtain rfl : x = y := by omega
        rw [show V (a.take c) + 65536 ^ c * x - (V (b.take c) + 65536 ^ c * x) = V (a.take c) - V (b.take c) by omega]
        refine Ev.step (fun k => ?_) (ih (by omega) (by omega))
        simp only [foliotref01_compare.l0]
        rw [if_pos (by omega), if_pos (by omega), if_pos (by omega), if_pos (by omega), hx, hy, if_neg hlt, if_neg hgt, w64_in (n := (c : Int) - 1) (by omega) (by omega)]
theorem ev_cmp (a b : List Int) (ha : Nm a) (hb : Nm b) (hl : a.length ≤ 100000) : Ev (fun k => foliotref01_compare.f k a b) (sgn (V a - V b)) := by
  unfold foliotref01_compare.f
  have va := V_bd ha.1; have vb := V_bd hb.1
  by_cases h : (a.length : Int) = b.length
  · simp only [h, if_true]
    have := cmp_l0 a b ha.1 hb.1 hl a.length (Nat.le_refl _) (by omega)
    rw [V_take_all a (Nat.le_refl _), V_take_all b (by omega), h] at this
    rw [w64_in (n := (b.length : Int) - 1) (by omega) (by omega)]
    exact this
  · simp only [h, if_false]
    by_cases h2 : (a.length : Int) < b.length
    · simp only [h2, if_true]
      obtain ⟨m, hm⟩ : ∃ m, b.length = m + 1 := ⟨b.length - 1, by omega⟩
      have := hb.ge hm
      have := pw_le (show a.length ≤ m by omega)
      rw [show sgn (V a - V b) = -1 from by unfold sgn; rw [if_pos (by omega)]]
      exact Ev.now _
    · simp only [h2, if_false]
      obtain ⟨m, hm⟩ : ∃ m, a.length = m + 1 := ⟨a.length - 1, by omega⟩
      have := ha.ge hm
      have := pw_le (show b.length ≤ m by omega)
      rw [show sgn (V a - V b) = 1 from by unfold sgn; rw [if_neg (by omega), if_pos (by omega)]]
      exact Ev.now _

theorem zs_set (m : Nat) (v : Int) : (List.replicate (m + 1) (0 : Int)).set m v = List.replicate m 0 ++ [v] := by
  rw [List.replicate_succ', List.set_append_right _ _ (by simp)]; simp
theorem zs_set2 (m : Nat) (v w : Int) : (List.replicate m (0 : Int) ++ [v]).set m w = List.replicate m 0 ++ [w] := by
  rw [List.set_append_right _ _ (by simp)]; simp
theorem zs_rd (m : Nat) (v : Int) : rd (List.replicate m (0 : Int) ++ [v]) (m : Int) = v := by
  rw [rd_nat, List.getD_eq_getElem?_getD, List.getElem?_append_right (by simp)]; simp
theorem two_l0 (n : Nat) (hn : n ≤ 10000) : ∀ (d j : Nat), j + d = n % 16 → Ev (fun k => foliotref01_two.l0 k (n : Int) (j : Int) (List.replicate (n / 16) 0 ++ [2 ^ j]) false) (List.replicate (n / 16) 0 ++ [2 ^ (n % 16)], false) := by
  have et : Int.tmod (n : Int) 16 = ((n % 16 : Nat) : Int) := by rw [Int.tmod_eq_emod_of_nonneg (Int.natCast_nonneg _)]; omega
  have ed : wrap64 (Int.tdiv (n : Int) 16) = ((n / 16 : Nat) : Int) := by
    rw [Int.tdiv_eq_ediv_of_nonneg (Int.natCast_nonneg _), w64_in (by omega) (by omega)]; omega
  intro d
  induction d with
  | zero =>
    intro j hj
    refine Ev.succ fun k => ?_
    simp only [foliotref01_two.l0]
    rw [et, if_neg (by omega), show j = n % 16 by omega]
  | succ d ih =>
    intro j hj
    refine Ev.step (fun k => ?_) (ih (j + 1) (by omega))
    have hp := pow_le (show j ≤ 15 by omega)
    have e15 : (2 : Int) ^ 15 = 32768 := rfl
    have hp0 : (0 : Int) < 2 ^ j := Int.pow_pos (by decide)
    have c1 : (j : Int) < ((n % 16 : Nat) : Int) := by clear ed et; omega
    have c2 : (0 : Int) ≤ ((n / 16 : Nat) : Int) := Int.natCast_nonneg _
    have c3 : ((n / 16 : Nat) : Int) < ((List.replicate (n / 16) (0 : Int) ++ [2 ^ j]).length : Int) := by simp; clear ed et; omega
    have e1 : wrap64 ((2 : Int) ^ j * 2) = 2 ^ (j + 1) := by rw [w64_in (by clear ed et; omega) (by clear ed et; omega), Int.pow_succ]
    have e2 : wrap64 ((j : Int) + 1) = ((j + 1 : Nat) : Int) := by rw [w64_in (by clear ed et e1; omega) (by clear ed et e1; omega)]; rfl
    simp only [foliotref01_two.l0]
    rw [et, ed, if_pos c1, if_pos c2, if_pos c3, e2, zs_rd, e1, Int.toNat_natCast, zs_set2]
theorem ev_two (n : Nat) (hn : n ≤ 10000) : ∃ l, Ev (fun k => foliotref01_two.f k (n : Int)) (l, false) ∧ Nm l ∧ V l = 2 ^ n ∧ l.length = n / 16 + 1 := by
  have hp := pow_le (show n % 16 ≤ 15 by omega)
  have e15 : (2 : Int) ^ 15 = 32768 := rfl
  have hp0 : (0 : Int) < 2 ^ (n % 16) := Int.pow_pos (by decide)
  refine ⟨List.replicate (n / 16) 0 ++ [2 ^ (n % 16)], ?_, ⟨(Dg.zeros _).append (Dg.one (by omega) (by omega)), fun hne => ?_⟩, ?_, by simp⟩
  · have ed : wrap64 (Int.tdiv (n : Int) 16) = ((n / 16 : Nat) : Int) := by
      rw [Int.tdiv_eq_ediv_of_nonneg (Int.natCast_nonneg _), w64_in (by omega) (by omega)]; omega
    have e2 : wrap64 (((n / 16 : Nat) : Int) + 1) = ((n / 16 + 1 : Nat) : Int) := by rw [w64_in (by clear ed; omega) (by clear ed; omega)]; rfl
    have c1 : (0 : Int) ≤ ((n / 16 + 1 : Nat) : Int) := Int.natCast_nonneg _
    have c2 : n / 16 + 1 ≤ 35184372088832 := by clear ed e2; omega
    have c3 : (0 : Int) ≤ ((n / 16 : Nat) : Int) := Int.natCast_nonneg _
    have c4 : ((n / 16 : Nat) : Int) < ((List.replicate (n / 16 + 1) (0 : Int)).length : Int) := by simp; clear ed e2; omega
    unfold foliotref01_two.f
    rw [ed, e2]
    simp only [c1, if_true, Int.toNat_natCast, c2, Option.bind_some, c3, c4, zs_set]
    exact two_l0 n hn (n % 16) 0 (by omega)
  · simp; omega
  · rw [V_append, V_zeros]
    simp only [V, List.length_replicate, Int.mul_zero, Int.add_zero, Int.zero_add]
    have : (65536 : Int) ^ (n / 16) = 2 ^ (16 * (n / 16)) := by rw [Int.pow_mul]; rfl
    rw [this, ← Int.pow_add, Nat.div_add_mod]

theorem of_l0 (R : List Int) (hR : Nm R) (m : Bool) : ∀ (d : Nat) (u : Int) (x : List Int), 0 ≤ u → u < 65536 ^ d → u < 18446744073709551616 → Dg x → x.length + d ≤ 100 → (u = 0 → Nm x) → V x + 65536 ^ x.length * u = V R → Ev (fun k => foliotref01_of.l0 k u x m) (R, m) := by
  have hend : ∀ (x : List Int), Nm x → V x = V R → Ev (fun k => foliotref01_of.l0 k 0 x m) (R, m) := by
    intro x hx hv
    obtain rfl := Nm.uniq hx hR hv
    refine Ev.succ fun k => ?_
    simp only [foliotref01_of.l0]
    rw [if_neg (by omega)]
  intro d
  induction d with
  | zero =>
    intro u x h0 h1 _ dx hl hz hv
    obtain rfl : u = 0 := by simp at h1; omega
    exact hend x (hz rfl) (by simpa using hv)
  | succ d ih =>
    intro u x h0 h1 h2 dx hl hz hv
    by_cases hu : u = 0
    · subst hu; exact hend x (hz rfl) (by simpa using hv)
    · rw [Int.pow_succ] at h1
      have key := ih (u / 65536) (x ++ [u % 65536]) (by omega) (by omega) (by omega) (dx.append (Dg.one (by omega) (by omega))) (by simp; omega) (fun hz2 => ⟨dx.append (Dg.one (by omega) (by omega)), fun hne => by simp; omega⟩) (by
        rw [V_append, V_one, List.length_append, ← hv]
        simp only [List.length_cons, List.length_nil, Nat.zero_add, Int.pow_succ]
        have e : u = u % 65536 + 65536 * (u / 65536) := by omega
        generalize u % 65536 = u1 at *
        generalize u / 65536 = u2 at *
        subst e
        grind)
      have e1 : IntKind.u64.wrap (Int.tdiv u 65536) = u / 65536 := by rw [Int.tdiv_eq_ediv_of_nonneg h0]; exact u64_in (by omega) (by omega)
      have e2 : wrap64 (Int.tmod u 65536) = u % 65536 := by rw [Int.tmod_eq_emod_of_nonneg h0]; exact w64_in (by omega) (by omega)
      have c1 : u > 0 := by clear e1 e2; omega
      have c2 : x.length < 17592186044416 := by clear e1 e2; omega
      refine Ev.step (fun k => ?_) key
      simp only [foliotref01_of.l0]
      rw [if_pos c1, if_pos c2, e1, e2]
theorem ev_of (a : Int) (ha0 : -9223372036854775808 ≤ a) (ha : a ≤ 9223372036854775807) : ∃ l, Ev (fun k => foliotref01_of.f k a) (l, decide (a < 0)) ∧ Big 4 l (decide (a < 0)) a := by
  obtain ⟨u, hu, hu0, hu1, hua⟩ : ∃ u, (if a < 0 then -a else a) = u ∧ 0 ≤ u ∧ u ≤ 9223372036854775808 ∧ a = if a < 0 then -u else u := by
    refine ⟨_, rfl, ?_, ?_, ?_⟩ <;> split <;> omega
  obtain ⟨R, hR, hv, hl⟩ := Nm.ex 4 u hu0 (by omega)
  have key := of_l0 R hR (decide (a < 0)) 4 u [] hu0 (by omega) (by omega) Dg.nil (by simp) (fun _ => Nm.nil) (by simp [V, hv])
  have k2 : Ev (fun k => foliotref01_of.j0 k u (decide (a < 0))) (R, decide (a < 0)) := Ev.step (fun k => by simp only [foliotref01_of.j0]) key
  refine ⟨R, ?_, hR, hl, ?_⟩
  · unfold foliotref01_of.f
    by_cases h : a < 0
    · rw [if_pos h] at hu
      have e1 : wrap64 (a + 1) = a + 1 := w64_in (by omega) (by omega)
      have e2 : wrap64 (-(a + 1)) = -(a + 1) := w64_in (by clear e1; omega) (by clear e1; omega)
      have e3 : IntKind.u64.wrap (-(a + 1)) = -(a + 1) := u64_in (by clear e1 e2; omega) (by clear e1 e2; omega)
      have e4 : IntKind.u64.wrap (-(a + 1) + 1) = u := by rw [u64_in (by clear e1 e2 e3; omega) (by clear e1 e2 e3; omega)]; clear e1 e2 e3; omega
      rw [e1, e2, e3, e4]
      simp only [h, if_true]
      simp only [h] at k2
      exact k2
    · rw [if_neg h] at hu
      subst hu
      rw [u64_in (n := a) (by omega) (by omega)]
      refine Ev.congr (fun k => ?_) k2
      rw [if_neg h]
  · rw [hv]
    by_cases h : a < 0
    · rw [decide_eq_true h, if_pos rfl]; rw [if_pos h] at hua; exact hua
    · rw [decide_eq_false h, if_neg (by decide)]; rw [if_neg h] at hua; exact hua

theorem ev_s (a : Int) (ha0 : -9223372036854775808 ≤ a) (ha : a ≤ 9223372036854775807) : ∃ l, Ev (fun k => foliotref01_s.f k a) (l, decide (a < 0)) ∧ Big 4 l (decide (a < 0)) a := by
  obtain ⟨l, h, hb⟩ := ev_of a ha0 ha
  exact ⟨l, Ev.bind h (Ev.now _), hb⟩

theorem two_big (n : Nat) (hn : n ≤ 1000) : ∃ l, Ev (fun k => foliotref01_two.f k (n : Int)) (l, false) ∧ Big 63 l false (2 ^ n) := by
  obtain ⟨l, h, ln, lv, ll⟩ := ev_two n (by omega)
  exact ⟨l, h, ln, by omega, by rw [lv]; simp⟩

theorem ref_log_l0 (a : Int) (ha0 : 0 < a) (ha : a ≤ 9223372036854775807) : ∀ (d m : Nat), 1 ≤ m → 2 ^ (m - 1) ≤ a → m + d = Lib.bitLen a.toNat → Lib.bitLen a.toNat ≤ 64 → (2 : Int) ^ (Lib.bitLen a.toNat - 1) ≤ a → a < 2 ^ (Lib.bitLen a.toNat) → Ev (fun k => foliotref01_Log.l0 k a ((m : Int) - 33)) ((Lib.bitLen a.toNat : Int) - 33) := by
  obtain ⟨x, ex, bx⟩ := ev_s a (by omega) ha
  have hx : V x = a := by have := bx.2.2; rw [if_neg (by simp; omega)] at this; exact this.symm
  intro d
  induction d with
  | zero =>
    intro m h1 hm hd h64 hb1 hb2
    obtain ⟨t, et, tn, tv, tl⟩ := ev_two m (by omega)
    have hc := ev_cmp t x tn bx.1 (by omega)
    have e : ¬ sgn (V t - V x) ≤ 0 := by
      rw [tv, hx]; rw [show Lib.bitLen a.toNat = m by omega] at hb2
      unfold sgn; (repeat' split) <;> omega
    have ew : wrap64 (33 + ((m : Int) - 33)) = m := by rw [w64_in (by omega) (by omega)]; omega
    refine Ev.step (f := fun k => (foliotref01_two.f k (m : Int)).bind fun bt124 => ((foliotref01_s.f k a).bind fun bt128 => ((foliotref01_compare.f k bt124.1 bt128.1).bind fun t132 => (if t132 ≤ 0 then (foliotref01_Log.l0 k a (wrap64 (((m : Int) - 33) + 1))) else (some ((m : Int) - 33)))))) (fun k => ?_) (Ev.bind et (Ev.bind ex (Ev.bind hc ?_)))
    · simp only [foliotref01_Log.l0]; rw [ew]
    · simp only [e, if_false]
      rw [show (Lib.bitLen a.toNat : Int) - 33 = (m : Int) - 33 by clear ew; omega]
      exact Ev.now _
  | succ d ih =>
    intro m h1 hm hd h64 hb1 hb2
    obtain ⟨t, et, tn, tv, tl⟩ := ev_two m (by omega)
    have hc := ev_cmp t x tn bx.1 (by omega)
    have hle : (2 : Int) ^ m ≤ a := Int.le_trans (pow_le (show m ≤ Lib.bitLen a.toNat - 1 by omega)) hb1
    have e : sgn (V t - V x) ≤ 0 := by
      rw [tv, hx]; unfold sgn; (repeat' split) <;> omega
    have key := ih (m + 1) (by omega) (by simpa using hle) (by omega) h64 hb1 hb2
    have ew : wrap64 (33 + ((m : Int) - 33)) = m := by rw [w64_in (by omega) (by omega)]; omega
    have ew2 : wrap64 (((m : Int) - 33) + 1) = ((m + 1 : Nat) : Int) - 33 := by rw [w64_in (by clear ew; omega) (by clear ew; omega)]; clear ew; omega
    refine Ev.step (f := fun k => (foliotref01_two.f k (m : Int)).bind fun bt124 => ((foliotref01_s.f k a).bind fun bt128 => ((foliotref01_compare.f k bt124.1 bt128.1).bind fun t132 => (if t132 ≤ 0 then (foliotref01_Log.l0 k a (((m + 1 : Nat) : Int) - 33)) else (some ((m : Int) - 33)))))) (fun k => ?_) (Ev.bind et (Ev.bind ex (Ev.bind hc ?_)))
    · simp only [foliotref01_Log.l0]; rw [ew, ew2]
    · simp only [e, if_true]; exact key
theorem ref_log (a : Int) (ha : a ≤ 9223372036854775807) : Ev (fun k => foliotref01_Log.f k a) (logVal a) := by
  unfold foliotref01_Log.f logVal
  by_cases h : a ≤ 0
  · simp only [h, if_true]; exact Ev.now _
  · simp only [h, if_false]
    obtain ⟨b1, b2, b3⟩ := bitLen_spec a.toNat a.toNat (Nat.le_refl _) (by omega) (by omega)
    have b4 := Lib.bitLen_le a.toNat 64 (by omega) (by omega)
    have c2 : (2 : Int) ^ (Lib.bitLen a.toNat - 1) ≤ a := by
      have h9 : ((2 ^ (Lib.bitLen a.toNat - 1) : Nat) : Int) ≤ a := by omega
      simpa using h9
    have c3 : a < (2 : Int) ^ (Lib.bitLen a.toNat) := by
      have h9 : a < ((2 ^ (Lib.bitLen a.toNat) : Nat) : Int) := by omega
      simpa using h9
    exact ref_log_l0 a (by omega) ha (Lib.bitLen a.toNat - 1) 1 (by omega) (by simp; omega) (by omega) b4 c2 c3

theorem logs_pow (a : Int) (h0 : 0 < a) (h1 : a < 4611686018427387904) : ∃ n : Nat, logVal a = (n : Int) - 32 ∧ n ≤ 61 ∧ (2 : Int) ^ n ≤ a ∧ a < 2 ^ (n + 1) := by
  obtain ⟨b1, b2, b3⟩ := bitLen_spec a.toNat a.toNat (Nat.le_refl _) (by omega) (by omega)
  have b4 := Lib.bitLen_le a.toNat 62 (by omega) (by omega)
  have c2 : (2 : Int) ^ (Lib.bitLen a.toNat - 1) ≤ a := by
    have h9 : ((2 ^ (Lib.bitLen a.toNat - 1) : Nat) : Int) ≤ a := by omega
    simpa using h9
  have c3 : a < (2 : Int) ^ (Lib.bitLen a.toNat) := by
    have h9 : a < ((2 ^ (Lib.bitLen a.toNat) : Nat) : Int) := by omega
    simpa using h9
  refine ⟨Lib.bitLen a.toNat - 1, ?_, by omega, c2, ?_⟩
  · unfold logVal; rw [if_neg (by omega)]; omega
  · rw [show Lib.bitLen a.toNat - 1 + 1 = Lib.bitLen a.toNat by omega]; exact c3
theorem logs_power (n : Nat) (hn : n ≤ 62) : powVal ((n : Int) - 32) = 2 ^ n := by
  have hp := pow_le hn
  have e62 : (2 : Int) ^ 62 = 4611686018427387904 := rfl
  have hp0 : (0 : Int) < 2 ^ n := Int.pow_pos (by decide)
  unfold powVal
  rw [if_neg (by omega), show mn ((n : Int) - 32) 100 = (n : Int) - 32 from by unfold mn; rw [if_neg (by omega)], show (32 + ((n : Int) - 32)).toNat = n by omega]
  exact sat_of (by omega) (by omega)
theorem logs_of_pow (n : Nat) (hn : n ≤ 61) : logVal (2 ^ n) = (n : Int) - 32 := by
  have hp := pow_le hn
  have e61 : (2 : Int) ^ 61 = 2305843009213693952 := rfl
  have hp0 : (0 : Int) < 2 ^ n := Int.pow_pos (by decide)
  obtain ⟨m, hm, h1, h2, h3⟩ := logs_pow (2 ^ n) hp0 (by omega)
  rw [hm]
  have h4 : m ≤ n := by
    rcases Nat.lt_or_ge n m with h | h
    · have := pow_le (show n + 1 ≤ m from h); rw [Int.pow_succ] at this; omega
    · exact h
  have h5 : n ≤ m := by
    rcases Nat.lt_or_ge m n with h | h
    · have := pow_le (show m + 1 ≤ n from h); omega
    · exact h
  omega
theorem FixedLogs : foliotlaw01_FixedLogs.Pure := by
  intro a ha
  have ha := wf64 ha
  refine Ev.rounds (r := true) ?_
  have ht : Ev (fun k => foliotlaw01_FixedLogs.j0 k a true) true := by
    refine Ev.step (fun k => by simp only [foliotlaw01_FixedLogs.j0]; rw [if_pos trivial]) ?_
    refine Ev.bind (Ev.const (ev_log a ha.2)) (Ev.bind (ref_log a ha.2) ?_)
    simp only [beq_self_eq_true]
    exact Ev.now _
  unfold foliotlaw01_FixedLogs.f
  by_cases h1 : a ≤ 0
  · simp only [h1, if_true]; exact ht
  · simp only [h1, if_false]
    by_cases h2 : a ≥ 4611686018427387904
    · rw [decide_eq_true h2]; exact ht
    · rw [decide_eq_false h2]
      obtain ⟨n, hn, hn1, h3, h4⟩ := logs_pow a (by omega) (by omega)
      have e1 := ev_power ((n : Int) - 32) (by omega) (by omega)
      rw [logs_power n (by omega)] at e1
      have e2 := ev_power (((n + 1 : Nat) : Int) - 32) (by omega) (by omega)
      rw [logs_power (n + 1) (by omega)] at e2
      have hp := pow_le hn1
      have e61 : (2 : Int) ^ 61 = 2305843009213693952 := rfl
      have e3 := ev_log (2 ^ n) (by omega)
      rw [logs_of_pow n hn1] at e3
      have e4 := ev_log a ha.2
      rw [hn] at e4
      have ew : wrap64 ((n : Int) - 32 + 1) = ((n + 1 : Nat) : Int) - 32 := by rw [w64_in (by omega) (by omega)]; omega
      refine Ev.step (fun k => by simp only [foliotlaw01_FixedLogs.j0]; rw [if_neg (by decide)]) ?_
      refine Ev.bind (Ev.const e4) (Ev.bind e1 ?_)
      simp only [h3, if_true]
      rw [ew]
      refine Ev.bind e2 ?_
      simp only [h4, if_true]
      refine Ev.bind e1 (Ev.bind (Ev.const e3) ?_)
      simp only [beq_self_eq_true]
      exact Ev.now _

end Go.Proofs.Ytkcnibpjnhdfdaa.CFixedLogs
