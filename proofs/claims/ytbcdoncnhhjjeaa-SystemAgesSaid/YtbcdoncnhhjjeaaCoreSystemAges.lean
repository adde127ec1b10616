/- Plain lemmas on the functions that the law SystemAges reaches: whole numbers, no program in sight. -/
import Derived.Test.YtbcdoncnhhjjeaaPSystemAgesx
namespace Go.Proofs.Ytbcdoncnhhjjeaa.CSystemAges
open Go.RowKit Go.Proofs.Ytbcdoncnhhjjeaa.PSystemAges Go.Proofs.YtbcdoncnhhjjeaaW.PrintWords Go.Proofs.YtbcdoncnhhjjeaaW.PrintLast Go.Proofs.YtbcdoncnhhjjeaaW.PrintMore
set_option linter.unusedVariables false
set_option linter.unusedSimpArgs false
theorem u64w (n : Int) : IntKind.u64.wrap n = n % 18446744073709551616 := by
  simp [IntKind.wrap, IntKind.bits, IntKind.signed]
theorem w64_in {n : Int} (h0 : -9223372036854775808 ≤ n) (h1 : n ≤ 9223372036854775807) : wrap64 n = n := by
  unfold wrap64; omega
theorem u64_in {n : Int} (h0 : 0 ≤ n) (h1 : n < 18446744073709551616) : IntKind.u64.wrap n = n := by
  rw [u64w]; omega
theorem wf64 {n : Int} (h : (Lit.int .i64 n).wf = true) : -9223372036854775808 ≤ n ∧ n ≤ 9223372036854775807 := by
  simpa [Lit.wf, IntKind.min, IntKind.max, IntKind.signed, IntKind.bits] using h
theorem wraps_u64 (n : Int) (h₀ : 0 ≤ n) (h₁ : n < 2 ^ 64) : IntKind.u64.wrap n = n := u64_in h₀ (by omega)
theorem and32 (x : Int) (h0 : 0 ≤ x) (h1 : x < 18446744073709551616) : Go.bits .and .u64 x 4294967295 = x % 4294967296 :=
  bits_mask .u64 64 (by decide) wraps_u64 32 (by decide) x h0 (by omega)
theorem orj (i : Nat) (x y : Int) (hx0 : 0 ≤ x) (hx : x % 2 ^ i = 0) (hx1 : x < 18446744073709551616) (hy0 : 0 ≤ y) (hy : y < 2 ^ i) (hy1 : y < 18446744073709551616) : Go.bits .or .u64 x y = x + y :=
  bits_join .u64 64 (by decide) wraps_u64 i x y hx0 hx (by omega) hy0 hy (by omega)
theorem xorall (x : Int) (h0 : 0 ≤ x) (h1 : x < 18446744073709551616) : Go.bits .xor .u64 18446744073709551615 x = 18446744073709551615 - x := by
  obtain ⟨a, rfl⟩ := Int.eq_ofNat_of_zero_le h0
  have hb : (BitVec.ofInt 64 (18446744073709551615 : Int)) = BitVec.allOnes 64 := by decide
  show IntKind.u64.wrap ((BitVec.ofInt 64 (18446744073709551615 : Int) ^^^ BitVec.ofInt 64 (a : Int)).toNat : Int) = _
  rw [hb, BitVec.allOnes_xor, BitVec.ofInt_natCast, BitVec.toNat_not, BitVec.toNat_ofNat, u64w]
  omega
def clampTo (most x : Int) : Int := if x < most then (if -most < x then x else -most) else most
def sat (x : Int) : Int := clampTo 4611686018427387904 x
def Rep (hi lo : Int) (m : Bool) (x : Int) : Prop := 0 ≤ hi ∧ hi < 18446744073709551616 ∧ 0 ≤ lo ∧ lo < 18446744073709551616 ∧ x = if m = true then -(hi * 18446744073709551616 + lo) else hi * 18446744073709551616 + lo
theorem Ev.succ {α : Type} {g : Nat → Option α} {r : α} (h : ∀ k, g (k + 1) = some r) : Ev g r := Ev.step h (Ev.now r)
theorem Ev.const {α : Type} {g : Option α} {r : α} (h : g = some r) : Ev (fun _ => g) r := by rw [h]; exact Ev.now r
theorem pow_le {m n : Nat} (h : m ≤ n) : (2 : Int) ^ m ≤ 2 ^ n := by
  obtain ⟨d, rfl⟩ := Nat.exists_eq_add_of_le h
  rw [Int.pow_add]
  have h1 : (0 : Int) < 2 ^ m := Int.pow_pos (by decide)
  have h2 : (0 : Int) < 2 ^ d := Int.pow_pos (by decide)
  have := Int.mul_le_mul_of_nonneg_left (show (1 : Int) ≤ 2 ^ d by omega) (Int.le_of_lt h1)
  omega
def IsRoot (n r : Int) : Prop := 0 ≤ r ∧ r * r ≤ n ∧ n < (r + 1) * (r + 1)
theorem IsRoot.uniq {n r s : Int} (h : IsRoot n r) (h' : IsRoot n s) : r = s := by
  obtain ⟨a, b, c⟩ := h; obtain ⟨a', b', c'⟩ := h'
  rcases Int.lt_trichotomy r s with h | h | h
  · have := Int.mul_le_mul (show r + 1 ≤ s by omega) (show r + 1 ≤ s by omega) (by omega) (by omega); omega
  · exact h
  · have := Int.mul_le_mul (show s + 1 ≤ r by omega) (show s + 1 ≤ r by omega) (by omega) (by omega); omega
theorem shl_u64 (x : Int) (n : Nat) (hn : n ≤ 64) (h0 : 0 ≤ x * 2 ^ n) (h1 : x * 2 ^ n < 18446744073709551616) : shl .u64 x (n : Int) = x * 2 ^ n := by
  unfold shl
  rw [show min (n : Int).toNat IntKind.u64.bits = n from by simp [IntKind.bits]; omega]
  exact u64_in h0 h1
theorem shr_eq (k : IntKind) (hk : k.bits = 64) (x : Int) (n : Nat) (hn : n ≤ 64) : shr k x (n : Int) = x / 2 ^ n := by
  unfold shr
  rw [hk, show min (n : Int).toNat 64 = n from by simp; omega]

theorem mul64 (a b : Int) (ha0 : 0 ≤ a) (ha : a < 18446744073709551616) (hb0 : 0 ≤ b) (hb : b < 18446744073709551616) : bits_Mul64.f a b = some (a * b / 18446744073709551616, a * b % 18446744073709551616) := by
  unfold bits_Mul64.f
  rw [and32 a ha0 ha, and32 b hb0 hb]
  generalize ea1 : a / 4294967296 = a1
  generalize ea0 : a % 4294967296 = a0
  generalize eb1 : b / 4294967296 = b1
  generalize eb0 : b % 4294967296 = b0
  have h1 : 0 ≤ a1 ∧ a1 < 4294967296 := by omega
  have h2 : 0 ≤ a0 ∧ a0 < 4294967296 := by omega
  have h3 : 0 ≤ b1 ∧ b1 < 4294967296 := by omega
  have h4 : 0 ≤ b0 ∧ b0 < 4294967296 := by omega
  have ea : a = a1 * 4294967296 + a0 := by omega
  have eb : b = b1 * 4294967296 + b0 := by omega
  have bd : ∀ x y : Int, 0 ≤ x ∧ x < 4294967296 → 0 ≤ y ∧ y < 4294967296 → 0 ≤ x * y ∧ x * y ≤ 18446744065119617025 := by
    intro x y hx hy
    refine ⟨Int.mul_nonneg hx.1 hy.1, ?_⟩
    have := Int.mul_le_mul (show x ≤ 4294967295 by omega) (show y ≤ 4294967295 by omega) hy.1 (by decide)
    omega
  have p11 := bd a1 b1 h1 h3
  have p10 := bd a1 b0 h1 h4
  have p01 := bd a0 b1 h2 h3
  have p00 := bd a0 b0 h2 h4
  have e : a * b = a1 * b1 * 18446744073709551616 + a1 * b0 * 4294967296 + a0 * b1 * 4294967296 + a0 * b0 := by
    rw [ea, eb]; grind
  generalize a1 * b1 = q11 at *
  generalize a1 * b0 = q10 at *
  generalize a0 * b1 = q01 at *
  generalize a0 * b0 = q00 at *
  rw [e]
  rw [u64_in (n := q11) (by omega) (by omega), u64_in (n := q10) (by omega) (by omega), u64_in (n := q00) (by omega) (by omega), u64_in (n := q01) (by omega) (by omega)]
  rw [u64_in (n := q10 + q00 / 4294967296) (by omega) (by omega)]
  rw [and32 _ (by omega) (by omega)]
  rw [u64_in (n := (q10 + q00 / 4294967296) % 4294967296 + q01) (by omega) (by omega)]
  rw [u64_in (n := q11 + (q10 + q00 / 4294967296) / 4294967296) (by omega) (by omega)]
  rw [u64_in (n := q11 + (q10 + q00 / 4294967296) / 4294967296 + ((q10 + q00 / 4294967296) % 4294967296 + q01) / 4294967296) (by omega) (by omega)]
  rw [u64w]
  congr 2 <;> omega

theorem add64 (x y c : Int) (hx : 0 ≤ x) (hy : 0 ≤ y) (hc0 : 0 ≤ c) (hc : c ≤ 1) : bits_Add64.f x y c = some ((x + y + c) % 18446744073709551616, (x + y + c) / 18446744073709551616) := by
  unfold bits_Add64.f; rw [if_pos ⟨hx, hy, hc0, hc⟩]

theorem sum_rep (a b : Int) (ha0 : -9223372036854775808 ≤ a) (ha : a ≤ 9223372036854775807) (hb0 : -9223372036854775808 ≤ b) (hb : b ≤ 9223372036854775807) : ∃ hi lo m, fixed_sum.f a b = some (hi, lo, m) ∧ Rep hi lo m (a + b) := by
  have sg : ∀ x : Int, -9223372036854775808 ≤ x → x ≤ 9223372036854775807 → ∃ u s : Int, x % 18446744073709551616 = u ∧ x / 9223372036854775808 % 18446744073709551616 = s ∧ 0 ≤ u ∧ u < 18446744073709551616 ∧ ((s = 0 ∧ x = u) ∨ (s = 18446744073709551615 ∧ x = u - 18446744073709551616)) := by
    intro x h0 h1
    refine ⟨_, _, rfl, rfl, ?_, ?_, ?_⟩ <;> omega
  obtain ⟨u, s, eu, es, hu0, hu1, hs⟩ := sg a ha0 ha
  obtain ⟨v, t, ev, et, hv0, hv1, ht⟩ := sg b hb0 hb
  unfold fixed_sum.f
  rw [u64w a, u64w b, eu, ev, u64w (a / _), u64w (b / _), es, et, add64 u v 0 hu0 hv0 (by omega) (by omega)]
  simp only [Option.bind_some]
  rw [u64w (s + t)]
  obtain ⟨c, lo, ec, el, hc, hl0, hl1, huv⟩ : ∃ c lo : Int, (u + v + 0) / 18446744073709551616 = c ∧ (u + v + 0) % 18446744073709551616 = lo ∧ (c = 0 ∨ c = 1) ∧ 0 ≤ lo ∧ lo < 18446744073709551616 ∧ u + v = c * 18446744073709551616 + lo := ⟨_, _, rfl, rfl, by omega, by omega, by omega, by omega⟩
  rw [ec, el]
  obtain ⟨hi, eh, hh0, hh1, hsum, hsm⟩ : ∃ hi : Int, IntKind.u64.wrap ((s + t) % 18446744073709551616 + c) = hi ∧ 0 ≤ hi ∧ hi < 18446744073709551616 ∧ ((hi ≤ 1 ∧ a + b = hi * 18446744073709551616 + lo) ∨ (18446744073709551614 ≤ hi ∧ a + b = (hi - 18446744073709551616) * 18446744073709551616 + lo)) ∧ True := by
    refine ⟨_, rfl, ?_, ?_, ?_, trivial⟩ <;> rw [u64w] <;> clear eu es ev et ec el <;> rcases hs with ⟨rfl, rfl⟩ | ⟨rfl, rfl⟩ <;> rcases ht with ⟨rfl, rfl⟩ | ⟨rfl, rfl⟩ <;> rcases hc with rfl | rfl <;> omega
  rw [eh]
  clear eh hc ec el eu es ev et
  by_cases hn : wrap64 hi < 0
  · rw [if_pos hn, xorall lo (by omega) (by omega), xorall hi (by omega) (by omega), add64 _ _ _ (by omega) (by omega) (by omega) (by omega)]
    refine ⟨_, _, _, rfl, ?_⟩
    unfold wrap64 at hn
    unfold Rep
    rw [if_pos rfl, u64w]
    have h2 : 18446744073709551614 ≤ hi := by omega
    clear hn hs ht
    have : hi = 18446744073709551614 ∨ hi = 18446744073709551615 := by omega
    rcases this with rfl | rfl <;> omega
  · rw [if_neg hn]
    refine ⟨_, _, _, rfl, ?_⟩
    unfold wrap64 at hn
    unfold Rep
    rw [if_neg (by decide)]
    have h2 : hi ≤ 1 := by omega
    clear hn hs ht
    omega

theorem cut_rep (k : Nat) {hi lo : Int} {m : Bool} {x : Int} (h : Rep hi lo m x) (most : Int) (h0 : 0 < most) (h1 : most ≤ 9223372036854775807) : fixed_whole_cut.f (k + 1) hi lo m most = some (clampTo most x) := by
  obtain ⟨a, b, c, d, e⟩ := h
  unfold fixed_whole_cut.f
  simp only [fixed_whole_cut.j0]
  rw [u64_in (n := most) (by omega) (by omega)]
  have key : ∀ n : Int, 0 ≤ n → (if n < most then (if m = true then wrap64 (-(wrap64 n)) else wrap64 n) else (if m = true then wrap64 (-most) else most)) = clampTo most (if m = true then -n else n) := by
    intro n hn
    unfold clampTo wrap64
    cases m <;> simp only [Bool.false_eq_true, if_false, if_true] <;> (repeat' split) <;> omega
  subst e
  by_cases hz : hi = 0
  · rw [if_pos hz]
    subst hz
    have := key lo c
    simp only [Int.zero_mul, Int.zero_add]
    rw [← this]
    by_cases hl : lo < most
    · simp only [hl, decide_true, if_true]
      cases m <;> simp
    · simp only [hl, decide_false, if_false, Bool.false_eq_true]
      cases m <;> simp
  · rw [if_neg hz]
    have := key (hi * 18446744073709551616 + lo) (by omega)
    rw [← this, if_neg (show ¬ (hi * 18446744073709551616 + lo < most) by omega)]
    cases m <;> simp
theorem span_rep (k : Nat) {hi lo : Int} {m : Bool} {x : Int} (h : Rep hi lo m x) : fixed_whole_span.f (k + 1) hi lo m = some (sat x) := by
  unfold fixed_whole_span.f
  rw [cut_rep k h _ (by omega) (by omega)]
  rfl
theorem sat_in (x : Int) : -4611686018427387904 ≤ sat x ∧ sat x ≤ 4611686018427387904 := by
  unfold sat clampTo; (repeat' split) <;> omega
theorem sat_of {x : Int} (h0 : -4611686018427387904 ≤ x) (h1 : x ≤ 4611686018427387904) : sat x = x := by
  unfold sat clampTo; (repeat' split) <;> omega

theorem add_eq (k : Nat) (a b : Int) (ha0 : -9223372036854775808 ≤ a) (ha : a ≤ 9223372036854775807) (hb0 : -9223372036854775808 ≤ b) (hb : b ≤ 9223372036854775807) : fixed_Add.f (k + 1) a b = some (sat (a + b)) := by
  obtain ⟨hi, lo, m, e, r⟩ := sum_rep a b ha0 ha hb0 hb
  unfold fixed_Add.f
  rw [e]
  simp only [Option.bind_some]
  rw [span_rep k r]
  rfl
theorem ev_add (a b : Int) (ha0 : -9223372036854775808 ≤ a) (ha : a ≤ 9223372036854775807) (hb0 : -9223372036854775808 ≤ b) (hb : b ≤ 9223372036854775807) : Ev (fun k => fixed_Add.f k a b) (sat (a + b)) := Ev.succ fun k => add_eq k a b ha0 ha hb0 hb

theorem size_eq (a : Int) (ha0 : -9223372036854775808 ≤ a) (ha : a ≤ 9223372036854775807) : fixed_size.f a = some (if a < 0 then -a else a, decide (a < 0)) := by
  unfold fixed_size.f
  by_cases h : a < 0
  · rw [if_pos h, if_pos h, u64w, u64w]
    simp only [h, decide_true]
    congr 2; omega
  · rw [if_neg h, if_neg h, u64w]
    simp only [h, decide_false]
    congr 2; omega

theorem mul_u64 (x y : Int) (hx0 : 0 ≤ x) (hx : x ≤ 9223372036854775808) (hy0 : 0 ≤ y) (hy : y ≤ 9223372036854775808) : 0 ≤ x * y ∧ x * y ≤ 85070591730234615865843651857942052864 := by
  refine ⟨Int.mul_nonneg hx0 hy0, ?_⟩
  have := Int.mul_le_mul hx hy hy0 (by omega)
  omega
theorem product_rep (a b : Int) (ha0 : -9223372036854775808 ≤ a) (ha : a ≤ 9223372036854775807) (hb0 : -9223372036854775808 ≤ b) (hb : b ≤ 9223372036854775807) : ∃ hi lo m, fixed_product.f a b = some (hi, lo, m) ∧ Rep hi lo m (a * b) := by
  unfold fixed_product.f
  rw [size_eq a ha0 ha, size_eq b hb0 hb]
  simp only [Option.bind_some]
  have e : ∀ x : Int, ∃ n : Int, (if x < 0 then -x else x) = n ∧ 0 ≤ n ∧ ((x < 0 ∧ x = -n) ∨ (¬ x < 0 ∧ x = n)) := by
    intro x; exact ⟨_, rfl, by split <;> omega, by split <;> omega⟩
  obtain ⟨x, ex, hx0, hx⟩ := e a
  obtain ⟨y, ey, hy0, hy⟩ := e b
  rw [ex, ey, mul64 x y hx0 (by omega) hy0 (by omega)]
  have hp := mul_u64 x y hx0 (by omega) hy0 (by omega)
  refine ⟨_, _, _, rfl, ?_⟩
  have hab : a * b = if (decide (a < 0) != decide (b < 0)) = true then -(x * y) else x * y := by
    rcases hx with ⟨h1, rfl⟩ | ⟨h1, rfl⟩ <;> rcases hy with ⟨h2, rfl⟩ | ⟨h2, rfl⟩ <;> (first | rw [decide_eq_true h1] | rw [decide_eq_false h1]) <;> (first | rw [decide_eq_true h2] | rw [decide_eq_false h2]) <;> simp [Int.neg_mul, Int.mul_neg]
  rw [hab]
  clear hab hx hy ex ey
  generalize x * y = p at *
  unfold Rep
  refine ⟨by omega, by omega, by omega, by omega, ?_⟩
  have : p / 18446744073709551616 * 18446744073709551616 + p % 18446744073709551616 = p := by omega
  rw [this]

theorem bitLen_spec : ∀ (n x : Nat), x ≤ n → 0 < x → x < 18446744073709551616 → 1 ≤ Lib.bitLen x ∧ 2 ^ (Lib.bitLen x - 1) ≤ x ∧ x < 2 ^ (Lib.bitLen x)
  | 0, x, h, h0, _ => by omega
  | n + 1, x, h, h0, h1 => by
    rw [Lib.bitLen_half x (by omega) (by omega)]
    by_cases e : x = 1
    · subst e; decide
    · obtain ⟨a, b, c⟩ := bitLen_spec n (x / 2) (by omega) (by omega) (by omega)
      generalize Lib.bitLen (x / 2) = m at *
      obtain ⟨m, rfl⟩ : ∃ k, m = k + 1 := ⟨m - 1, by omega⟩
      have e1 : 1 + (m + 1) - 1 = m + 1 := by omega
      have e2 : 1 + (m + 1) = m + 1 + 1 := by omega
      rw [e1, e2]
      simp only [Nat.add_sub_cancel] at b
      rw [Nat.pow_succ] at c ⊢
      rw [Nat.pow_succ (n := 2) (m := m + 1), Nat.pow_succ]
      omega
structure Trial (y1 y0 u w q r : Int) : Prop where
  y1lo : 2147483648 ≤ y1
  y1hi : y1 < 4294967296
  y0lo : 0 ≤ y0
  y0hi : y0 < 4294967296
  ulo : 0 ≤ u
  uhi : u < y1 * 4294967296 + y0
  wlo : 0 ≤ w
  whi : w < 4294967296
  qlo : 0 ≤ q
  qhi : q < 18446744073709551616
  rlo : 0 ≤ r
  rhi : r < 4294967296
  sum : q * y1 + r = u
  big : u * 4294967296 + w < (q + 1) * (y1 * 4294967296 + y0)
theorem Trial.prod {y1 y0 u w q r : Int} (h : Trial y1 y0 u w q r) : q * (y1 * 4294967296 + y0) = (u - r) * 4294967296 + q * y0 := by
  have := h.sum; grind
theorem Trial.right {y1 y0 u w q r : Int} (h : Trial y1 y0 u w q r) (hw : q * y0 ≤ 4294967296 * r + w) : q * (y1 * 4294967296 + y0) ≤ u * 4294967296 + w := by
  rw [h.prod]; omega
theorem Trial.great {y1 y0 u w q r : Int} (h : Trial y1 y0 u w q r) (ht : 4294967296 ≤ q ∨ 4294967296 * r + w < q * y0) : u * 4294967296 + w < q * (y1 * 4294967296 + y0) := by
  rcases ht with ht | ht
  · have h1 := h.uhi; have h2 := h.whi; have h3 := h.y1lo; have h4 := h.y0lo
    have := Int.mul_le_mul_of_nonneg_right ht (show 0 ≤ y1 * 4294967296 + y0 by omega)
    omega
  · rw [h.prod]; omega
theorem Trial.pos {y1 y0 u w q r : Int} (h : Trial y1 y0 u w q r) (hg : u * 4294967296 + w < q * (y1 * 4294967296 + y0)) : 1 ≤ q := by
  have h1 := h.ulo; have h2 := h.wlo; have h3 := h.qlo
  by_cases e : q = 0
  · rw [e, Int.zero_mul] at hg; omega
  · omega
theorem Trial.next {y1 y0 u w q r : Int} (h : Trial y1 y0 u w q r) (hg : u * 4294967296 + w < q * (y1 * 4294967296 + y0)) (hr : r + y1 < 4294967296) : Trial y1 y0 u w (q - 1) (r + y1) := by
  have := h.pos hg
  refine ⟨h.y1lo, h.y1hi, h.y0lo, h.y0hi, h.ulo, h.uhi, h.wlo, h.whi, by omega, by have := h.qhi; omega, by have := h.rlo; have := h.y1lo; omega, hr, ?_, ?_⟩
  · have := h.sum; grind
  · rw [show q - 1 + 1 = q by omega]; exact hg
theorem Trial.last {y1 y0 u w q r : Int} (h : Trial y1 y0 u w q r) (hg : u * 4294967296 + w < q * (y1 * 4294967296 + y0)) (hr : 4294967296 ≤ r + y1) : (q - 1) * (y1 * 4294967296 + y0) ≤ u * 4294967296 + w ∧ q - 1 < 4294967296 := by
  have hp := h.pos hg
  have e : (q - 1) * y1 + (r + y1) = u := by have := h.sum; grind
  have h1 := h.uhi; have h2 := h.y0hi; have h3 := h.y0lo; have h4 := h.wlo; have h5 := h.y1lo
  have hq : q - 1 < 4294967296 := by
    rcases Int.lt_or_le (q - 1) 4294967296 with hl | hl
    · exact hl
    · have := Int.mul_le_mul_of_nonneg_right hl (show 0 ≤ y1 by omega)
      omega
  refine ⟨?_, hq⟩
  have e2 : (q - 1) * (y1 * 4294967296 + y0) = (u - (r + y1)) * 4294967296 + (q - 1) * y0 := by grind
  rw [e2]
  have := Int.mul_le_mul (show q - 1 ≤ 4294967295 by omega) (show y0 ≤ 4294967295 by omega) h3 (by decide)
  omega
theorem Trial.uniq {q q' y n : Int} (hy : 0 < y) (a : q * y ≤ n) (b : n < (q + 1) * y) (a' : q' * y ≤ n) (b' : n < (q' + 1) * y) : q = q' := by
  rcases Int.lt_trichotomy q q' with h | h | h
  · have := Int.mul_le_mul_of_nonneg_right (show q + 1 ≤ q' by omega) (Int.le_of_lt hy); omega
  · exact h
  · have := Int.mul_le_mul_of_nonneg_right (show q' + 1 ≤ q by omega) (Int.le_of_lt hy); omega

theorem Trial.small {y1 y0 u w q r : Int} (h : Trial y1 y0 u w q r) (hq : ¬ 4294967296 ≤ q) : 0 ≤ q * y0 ∧ q * y0 < 18446744073709551616 := by
  have h2 := h.y0hi; have h3 := h.y0lo; have h4 := h.qlo
  have := Int.mul_le_mul (show q ≤ 4294967295 by omega) (show y0 ≤ 4294967295 by omega) h3 (by decide)
  exact ⟨Int.mul_nonneg h4 h3, by omega⟩
theorem Trial.test {y1 y0 u w q r : Int} (h : Trial y1 y0 u w q r) {α : Type} (f : Bool → α) :
    (if q ≥ 4294967296 then f true else f (decide ((IntKind.u64.wrap (q * y0)) > (IntKind.u64.wrap ((IntKind.u64.wrap (4294967296 * r)) + w))))) = f (decide (4294967296 ≤ q ∨ 4294967296 * r + w < q * y0)) := by
  by_cases hq : 4294967296 ≤ q
  · rw [if_pos hq, decide_eq_true (Or.inl hq)]
  · have hs := h.small hq
    have h1 := h.rlo; have h2 := h.rhi; have h3 := h.wlo; have h4 := h.whi
    rw [if_neg hq, u64_in hs.1 hs.2, u64_in (n := 4294967296 * r) (by omega) (by omega), u64_in (n := 4294967296 * r + w) (by omega) (by omega)]
    congr 1
    simp [hq]
theorem div_l0 (y s y1 y0 u w v Q : Int) (hy : y = y1 * 4294967296 + y0) (hQ : Q * y ≤ u * 4294967296 + w) (hQ' : u * 4294967296 + w < (Q + 1) * y) {res : Int × Int}
    (hj : Ev (fun k => bits_Div64.j2 k y s y1 y0 u w v Q) res) : ∀ (d : Nat) (q r : Int), Trial y1 y0 u w q r → q < d → Ev (fun k => bits_Div64.l0 k y s y1 y0 u w v q r) res := by
  intro d
  induction d with
  | zero => intro q r h hd; have := h.qlo; omega
  | succ d ih =>
    intro q r h hd
    have hy0 : 0 < y1 * 4294967296 + y0 := by have := h.y1lo; have := h.y0lo; omega
    refine Ev.step (f := fun k => bits_Div64.j1 k y s y1 y0 u w v q r (decide (4294967296 ≤ q ∨ 4294967296 * r + w < q * y0))) (fun k => ?_) ?_
    · simp only [bits_Div64.l0]
      exact h.test (fun b => bits_Div64.j1 k y s y1 y0 u w v q r b)
    by_cases ht : 4294967296 ≤ q ∨ 4294967296 * r + w < q * y0
    · have hg := h.great ht
      have hp := h.pos hg
      have e1 : IntKind.u64.wrap (q - 1) = q - 1 := u64_in (by omega) (by have := h.qhi; omega)
      have e2 : IntKind.u64.wrap (r + y1) = r + y1 := u64_in (by have := h.rlo; have := h.y1lo; omega) (by have := h.rhi; have := h.y1hi; omega)
      rw [decide_eq_true ht]
      by_cases hr : 4294967296 ≤ r + y1
      · have hl := h.last hg hr
        have e : q - 1 = Q := by
          rw [hy] at hQ hQ'
          exact Trial.uniq hy0 hl.1 (by rw [show q - 1 + 1 = q by omega]; exact hg) hQ hQ'
        refine Ev.step (fun k => ?_) hj
        simp only [bits_Div64.j1]
        rw [if_pos trivial, e2, if_pos hr, e1, e]
      · refine Ev.step (f := fun k => bits_Div64.l0 k y s y1 y0 u w v (q - 1) (r + y1)) (fun k => ?_) (ih _ _ (h.next hg (by omega)) (by omega))
        simp only [bits_Div64.j1]
        rw [if_pos trivial, e2, if_neg hr, e1]
    · have e : q = Q := by
        rw [hy] at hQ hQ'
        exact Trial.uniq hy0 (h.right (by omega)) h.big hQ hQ'
      rw [decide_eq_false ht]
      refine Ev.step (fun k => ?_) hj
      simp only [bits_Div64.j1]
      rw [if_neg (by decide), e]
theorem div_l1 (y s y1 y0 u w p Q : Int) (hs : 0 ≤ s) (hy : y = y1 * 4294967296 + y0) (hQ : Q * y ≤ u * 4294967296 + w) (hQ' : u * 4294967296 + w < (Q + 1) * y) : ∀ (d : Nat) (q r : Int), Trial y1 y0 u w q r → q < d →
    Ev (fun k => bits_Div64.l1 k y s y1 y0 w p r u q) (IntKind.u64.wrap ((IntKind.u64.wrap (p * 4294967296)) + Q), shr .u64 (IntKind.u64.wrap ((IntKind.u64.wrap ((IntKind.u64.wrap (u * 4294967296)) + w)) - (IntKind.u64.wrap (Q * y)))) s) := by
  intro d
  induction d with
  | zero => intro q r h hd; have := h.qlo; omega
  | succ d ih =>
    intro q r h hd
    have hy0 : 0 < y1 * 4294967296 + y0 := by have := h.y1lo; have := h.y0lo; omega
    refine Ev.step (f := fun k => bits_Div64.j4 k y s y1 y0 w p r u q (decide (4294967296 ≤ q ∨ 4294967296 * r + w < q * y0))) (fun k => ?_) ?_
    · simp only [bits_Div64.l1]
      exact h.test (fun b => bits_Div64.j4 k y s y1 y0 w p r u q b)
    by_cases ht : 4294967296 ≤ q ∨ 4294967296 * r + w < q * y0
    · have hg := h.great ht
      have hp := h.pos hg
      have e1 : IntKind.u64.wrap (q - 1) = q - 1 := u64_in (by omega) (by have := h.qhi; omega)
      have e2 : IntKind.u64.wrap (r + y1) = r + y1 := u64_in (by have := h.rlo; have := h.y1lo; omega) (by have := h.rhi; have := h.y1hi; omega)
      rw [decide_eq_true ht]
      by_cases hr : 4294967296 ≤ r + y1
      · have hl := h.last hg hr
        have e : q - 1 = Q := by
          rw [hy] at hQ hQ'
          exact Trial.uniq hy0 hl.1 (by rw [show q - 1 + 1 = q by omega]; exact hg) hQ hQ'
        refine Ev.step (fun k => ?_) (Ev.now _)
        simp only [bits_Div64.j4]
        rw [if_pos trivial, e2, if_pos hr, if_pos hs, e1, e]
      · refine Ev.step (f := fun k => bits_Div64.l1 k y s y1 y0 w p (r + y1) u (q - 1)) (fun k => ?_) (ih _ _ (h.next hg (by omega)) (by omega))
        simp only [bits_Div64.j4]
        rw [if_pos trivial, e2, if_neg hr, e1]
    · have e : q = Q := by
        rw [hy] at hQ hQ'
        exact Trial.uniq hy0 (h.right (by omega)) h.big hQ hQ'
      rw [decide_eq_false ht]
      refine Ev.step (fun k => ?_) (Ev.now _)
      simp only [bits_Div64.j4]
      rw [if_neg (by decide), if_pos hs, e]

theorem Trial.start {y1 y0 u w : Int} (a : 2147483648 ≤ y1) (b : y1 < 4294967296) (c : 0 ≤ y0) (d : y0 < 4294967296) (e : 0 ≤ u) (f : u < y1 * 4294967296 + y0) (g : 0 ≤ w) (i : w < 4294967296) : Trial y1 y0 u w (u / y1) (u % y1) := by
  have hp : 0 < y1 := by omega
  have h1 := Int.ediv_mul_add_emod u y1
  have h2 := Int.emod_nonneg u (show y1 ≠ 0 by omega)
  have h3 := Int.emod_lt_of_pos u hp
  have h4 : 0 ≤ u / y1 := Int.ediv_nonneg e (by omega)
  have h5 : u / y1 ≤ u := Int.ediv_le_self y1 e
  refine ⟨a, b, c, d, e, f, g, i, h4, by omega, h2, by omega, h1, ?_⟩
  have h6 : (u / y1 + 1) * (y1 * 4294967296 + y0) = (u / y1 * y1 + y1) * 4294967296 + (u / y1 * y0 + y0) := by grind
  have h7 : 0 ≤ u / y1 * y0 := Int.mul_nonneg h4 c
  omega
theorem Trial.args {y1 y0 u w : Int} (h : Trial y1 y0 u w (u / y1) (u % y1)) : IntKind.u64.wrap (Int.tdiv u y1) = u / y1 ∧ IntKind.u64.wrap (u - IntKind.u64.wrap (u / y1 * y1)) = u % y1 := by
  have h1 := h.sum; have h2 := h.rlo; have h3 := h.rhi; have h4 := h.qlo; have h5 := h.qhi
  have h6 := h.uhi; have h7 := h.y1hi; have h8 := h.y0hi; have h9 := h.y1lo; have h10 := h.ulo
  rw [Int.tdiv_eq_ediv_of_nonneg h10]
  have h11 : 0 ≤ u / y1 * y1 := Int.mul_nonneg h4 (by omega)
  refine ⟨u64_in h4 h5, ?_⟩
  rw [u64_in (n := u / y1 * y1) h11 (by omega), u64_in (by omega) (by omega)]
  omega
theorem rest_eq {u w Y Q : Int} (hu : 0 ≤ u) (hw : 0 ≤ w) (hY : Y < 18446744073709551616) (hQ : Q * Y ≤ u * 4294967296 + w) (hQ' : u * 4294967296 + w < (Q + 1) * Y) : IntKind.u64.wrap ((IntKind.u64.wrap ((IntKind.u64.wrap (u * 4294967296)) + w)) - (IntKind.u64.wrap (Q * Y))) = u * 4294967296 + w - Q * Y := by
  rw [Int.add_mul, Int.one_mul] at hQ'
  simp only [u64w]
  generalize Q * Y = p at *
  omega
theorem digit_lt {u w Y Q : Int} (h0 : 0 ≤ u) (h1 : 0 ≤ w) (h2 : w < 4294967296) (hu : u < Y) (hQ : Q * Y ≤ u * 4294967296 + w) (hQ' : u * 4294967296 + w < (Q + 1) * Y) : 0 ≤ Q ∧ Q < 4294967296 := by
  have hY : 0 < Y := by omega
  refine ⟨?_, ?_⟩
  · rcases Int.lt_or_le Q 0 with h | h
    · have := Int.mul_le_mul_of_nonneg_right (show Q + 1 ≤ 0 by omega) (Int.le_of_lt hY); omega
    · exact h
  · rcases Int.lt_or_le Q 4294967296 with h | h
    · exact h
    · have := Int.mul_le_mul_of_nonneg_right h (Int.le_of_lt hY); omega
theorem div64_core (Y s u z : Int) (hs : 0 ≤ s) (hY0 : 9223372036854775808 ≤ Y) (hY1 : Y < 18446744073709551616) (hu0 : 0 ≤ u) (hu1 : u < Y) (hz0 : 0 ≤ z) (hz1 : z < 18446744073709551616) :
    Ev (fun k => bits_Div64.l0 k Y s (Y / 4294967296) (Y % 4294967296) u (z / 4294967296) (z % 4294967296) (IntKind.u64.wrap (Int.tdiv u (Y / 4294967296))) (IntKind.u64.wrap (u - IntKind.u64.wrap (IntKind.u64.wrap (Int.tdiv u (Y / 4294967296)) * (Y / 4294967296)))))
      ((u * 18446744073709551616 + z) / Y, shr .u64 ((u * 18446744073709551616 + z) % Y) s) := by
  have hY : 0 < Y := by omega
  obtain ⟨y1, y0, e1, e0, hy, a1, a2, a3, a4⟩ : ∃ y1 y0 : Int, Y / 4294967296 = y1 ∧ Y % 4294967296 = y0 ∧ Y = y1 * 4294967296 + y0 ∧ 2147483648 ≤ y1 ∧ y1 < 4294967296 ∧ 0 ≤ y0 ∧ y0 < 4294967296 := ⟨_, _, rfl, rfl, by omega, by omega, by omega, by omega, by omega⟩
  obtain ⟨w1, w0, f1, f0, hz, b1, b2, b3, b4⟩ : ∃ w1 w0 : Int, z / 4294967296 = w1 ∧ z % 4294967296 = w0 ∧ z = w1 * 4294967296 + w0 ∧ 0 ≤ w1 ∧ w1 < 4294967296 ∧ 0 ≤ w0 ∧ w0 < 4294967296 := ⟨_, _, rfl, rfl, by omega, by omega, by omega, by omega, by omega⟩
  rw [e1, e0, f1, f0]
  clear e1 e0 f1 f0
  have t1 := Trial.start (w := w1) a1 a2 a3 a4 hu0 (by omega) b1 b2
  rw [t1.args.1, t1.args.2]
  obtain ⟨Q1, hQ1, hQ1'⟩ : ∃ Q : Int, Q * Y ≤ u * 4294967296 + w1 ∧ u * 4294967296 + w1 < (Q + 1) * Y := by
    refine ⟨(u * 4294967296 + w1) / Y, ?_, ?_⟩
    · have := Int.ediv_mul_add_emod (u * 4294967296 + w1) Y; have := Int.emod_nonneg (u * 4294967296 + w1) (show Y ≠ 0 by omega); omega
    · rw [Int.add_mul, Int.one_mul]; have := Int.ediv_mul_add_emod (u * 4294967296 + w1) Y; have := Int.emod_lt_of_pos (u * 4294967296 + w1) hY; omega
  have q1b := digit_lt hu0 b1 b2 hu1 hQ1 hQ1'
  have r1e := rest_eq hu0 b1 hY1 hQ1 hQ1'
  obtain ⟨R1, hR1⟩ : ∃ R, u * 4294967296 + w1 - Q1 * Y = R := ⟨_, rfl⟩
  have hR1b : 0 ≤ R1 ∧ R1 < Y := by rw [Int.add_mul, Int.one_mul] at hQ1'; omega
  rw [hR1] at r1e
  have t2 := Trial.start (w := w0) a1 a2 a3 a4 hR1b.1 (by omega) b3 b4
  obtain ⟨Q0, hQ0, hQ0'⟩ : ∃ Q : Int, Q * Y ≤ R1 * 4294967296 + w0 ∧ R1 * 4294967296 + w0 < (Q + 1) * Y := by
    refine ⟨(R1 * 4294967296 + w0) / Y, ?_, ?_⟩
    · have := Int.ediv_mul_add_emod (R1 * 4294967296 + w0) Y; have := Int.emod_nonneg (R1 * 4294967296 + w0) (show Y ≠ 0 by omega); omega
    · rw [Int.add_mul, Int.one_mul]; have := Int.ediv_mul_add_emod (R1 * 4294967296 + w0) Y; have := Int.emod_lt_of_pos (R1 * 4294967296 + w0) hY; omega
  have q0b := digit_lt hR1b.1 b3 b4 hR1b.2 hQ0 hQ0'
  have r0e := rest_eq hR1b.1 b3 hY1 hQ0 hQ0'
  obtain ⟨R0, hR0⟩ : ∃ R, R1 * 4294967296 + w0 - Q0 * Y = R := ⟨_, rfl⟩
  have hR0b : 0 ≤ R0 ∧ R0 < Y := by rw [Int.add_mul, Int.one_mul] at hQ0'; omega
  rw [hR0] at r0e
  have hl1 := div_l1 Y s y1 y0 R1 w0 Q1 Q0 hs hy hQ0 hQ0' (R1 / y1 + 1).toNat _ _ t2 (by have := t2.qlo; omega)
  rw [r0e, u64_in (n := Q1 * 4294967296) (by omega) (by omega), u64_in (n := Q1 * 4294967296 + Q0) (by omega) (by omega)] at hl1
  have eN : u * 18446744073709551616 + z = R0 + (Q1 * 4294967296 + Q0) * Y := by
    rw [Int.add_mul]
    have : Q1 * 4294967296 * Y = Q1 * Y * 4294967296 := by rw [Int.mul_right_comm]
    omega
  have eq : (u * 18446744073709551616 + z) / Y = Q1 * 4294967296 + Q0 := by
    rw [eN, Int.add_mul_ediv_right _ _ (by omega), Int.ediv_eq_zero_of_lt hR0b.1 hR0b.2]; omega
  have em : (u * 18446744073709551616 + z) % Y = R0 := by
    rw [eN, Int.add_mul_emod_self_right, Int.emod_eq_of_lt hR0b.1 hR0b.2]
  rw [eq, em]
  refine div_l0 Y s y1 y0 u w1 w0 Q1 hy hQ1 hQ1' ?_ (u / y1 + 1).toNat _ _ t1 (by have := t1.qlo; omega)
  refine Ev.step (fun k => ?_) hl1
  simp only [bits_Div64.j2]
  rw [if_neg (by omega), r1e, t2.args.1, t2.args.2]

theorem div64 (hi lo y : Int) (h0 : 0 ≤ hi) (h1 : hi < y) (h2 : y < 18446744073709551616) (h3 : 0 ≤ lo) (h4 : lo < 18446744073709551616) :
    Ev (fun k => bits_Div64.f k hi lo y) ((hi * 18446744073709551616 + lo) / y, (hi * 18446744073709551616 + lo) % y) := by
  by_cases hz : hi = 0
  · subst hz
    refine Ev.congr (f := fun _ => some ((0 * 18446744073709551616 + lo) / y, (0 * 18446744073709551616 + lo) % y)) (fun k => ?_) (Ev.now _)
    unfold bits_Div64.f
    have h5 : lo / y ≤ lo := Int.ediv_le_self y h3
    have h6 : 0 ≤ lo / y := Int.ediv_nonneg h3 (by omega)
    rw [if_neg (by omega), if_neg (by omega), if_pos rfl, Int.tdiv_eq_ediv_of_nonneg h3, Int.tmod_eq_emod_of_nonneg h3, u64_in h6 (by omega), Int.zero_mul, Int.zero_add]
  · obtain ⟨n, hn⟩ : ∃ n, Lib.bitLen y.toNat = n := ⟨_, rfl⟩
    obtain ⟨b1, b2, b3⟩ := bitLen_spec y.toNat y.toNat (Nat.le_refl _) (by omega) (by omega)
    have b4 : Lib.bitLen y.toNat ≤ 64 := Lib.bitLen_le y.toNat 64 (by omega) (by omega)
    rw [hn] at b1 b2 b3 b4
    obtain ⟨s, hs⟩ : ∃ s : Nat, s + n = 64 := ⟨64 - n, by omega⟩
    have b2' : (2 : Int) ^ (n - 1) ≤ y := by have : ((2 ^ (n - 1) : Nat) : Int) ≤ y := by omega
                                             simpa using this
    have b3' : y < (2 : Int) ^ n := by have : y < ((2 ^ n : Nat) : Int) := by omega
                                       simpa using this
    have e1 : (2 : Int) ^ s * 2 ^ n = 18446744073709551616 := by rw [← Int.pow_add, hs]; rfl
    have e2 : (2 : Int) ^ s * 2 ^ (n - 1) = 9223372036854775808 := by rw [← Int.pow_add, show s + (n - 1) = 63 by omega]; rfl
    have hP : 0 < (2 : Int) ^ s := Int.pow_pos (by decide)
    have hQ : 0 < (2 : Int) ^ n := Int.pow_pos (by decide)
    have hY0 : 9223372036854775808 ≤ y * 2 ^ s := by
      have := Int.mul_le_mul_of_nonneg_right b2' (Int.le_of_lt hP); rw [Int.mul_comm _ ((2 : Int) ^ s)] at this; omega
    have hY1 : y * 2 ^ s < 18446744073709551616 := by
      have := Int.mul_lt_mul_of_pos_right b3' hP; rw [Int.mul_comm ((2 : Int) ^ n)] at this; omega
    have hl1 : bits_LeadingZeros64.f y = some (s : Int) := by
      unfold bits_LeadingZeros64.f bits_Len64.f
      rw [if_pos ⟨by omega, by omega⟩, hn]
      simp only [Option.bind_some]
      rw [w64_in (by omega) (by omega)]
      congr 1; omega
    have hu : hi * 2 ^ s + 2 ^ s ≤ y * 2 ^ s := by
      have := Int.mul_le_mul_of_nonneg_right (show hi + 1 ≤ y by omega) (Int.le_of_lt hP); rw [Int.add_mul, Int.one_mul] at this; exact this
    have hu0 : 0 ≤ hi * 2 ^ s := Int.mul_nonneg h0 (Int.le_of_lt hP)
    have hq0 : 0 ≤ lo / 2 ^ n := Int.ediv_nonneg h3 (Int.le_of_lt hQ)
    have hq1 : lo / 2 ^ n < 2 ^ s := Int.ediv_lt_of_lt_mul hQ (by rw [e1]; exact h4)
    have hr0 := Int.emod_nonneg lo (show (2 : Int) ^ n ≠ 0 by omega)
    have hr1 := Int.emod_lt_of_pos lo hQ
    have hlo := Int.ediv_mul_add_emod lo (2 ^ n)
    have hz0 : 0 ≤ lo % 2 ^ n * 2 ^ s := Int.mul_nonneg hr0 (Int.le_of_lt hP)
    have hz1 : lo % 2 ^ n * 2 ^ s < 18446744073709551616 := by
      have := Int.mul_lt_mul_of_pos_right hr1 hP; rw [Int.mul_comm ((2 : Int) ^ n)] at this; omega
    have ez : lo * 2 ^ s = lo / 2 ^ n * 18446744073709551616 + lo % 2 ^ n * 2 ^ s := by
      have e3 : lo / 2 ^ n * 18446744073709551616 = lo / 2 ^ n * 2 ^ n * 2 ^ s := by rw [← e1, Int.mul_comm ((2 : Int) ^ s), Int.mul_assoc]
      rw [e3, ← Int.add_mul, hlo]
    have f1 : shl .u64 y (s : Int) = y * 2 ^ s := shl_u64 y s (by omega) (by omega) hY1
    have f2 : shl .u64 hi (s : Int) = hi * 2 ^ s := shl_u64 hi s (by omega) hu0 (by omega)
    have f3 : shl .u64 lo (s : Int) = lo % 2 ^ n * 2 ^ s := by
      unfold shl
      rw [show min (s : Int).toNat IntKind.u64.bits = s from by simp [IntKind.bits]; omega, u64w, ez]
      omega
    have f4 : shr .u64 lo (n : Int) = lo / 2 ^ n := shr_eq .u64 rfl lo n b4
    have f5 : Go.bits .or .u64 (hi * 2 ^ s) (lo / 2 ^ n) = hi * 2 ^ s + lo / 2 ^ n :=
      orj s _ _ hu0 (Int.mul_emod_left _ _) (by omega) hq0 hq1 (by omega)
    have g1 : IntKind.u64.wrap (s : Int) = s := u64_in (by omega) (by omega)
    have g2 : IntKind.u64.wrap (64 - (s : Int)) = n := by rw [u64_in (by omega) (by omega)]; omega
    have core := div64_core (y * 2 ^ s) (s : Int) (hi * 2 ^ s + lo / 2 ^ n) (lo % 2 ^ n * 2 ^ s) (by omega) hY0 hY1 (by omega) (by omega) hz0 hz1
    have eN : (hi * 2 ^ s + lo / 2 ^ n) * 18446744073709551616 + lo % 2 ^ n * 2 ^ s = (hi * 18446744073709551616 + lo) * 2 ^ s := by
      rw [Int.add_mul (hi * 18446744073709551616), ez, Int.mul_right_comm]; omega
    have em : (hi * 18446744073709551616 + lo) * 2 ^ s % (y * 2 ^ s) = (hi * 18446744073709551616 + lo) % y * 2 ^ s := by
      rw [Int.mul_comm _ ((2 : Int) ^ s), Int.mul_comm y, Int.mul_emod_mul_of_pos _ _ hP, Int.mul_comm]
    rw [eN, Int.mul_ediv_mul_of_pos_left _ _ hP, em, shr_eq .u64 rfl _ s (by omega), Int.mul_ediv_cancel _ (by omega)] at core
    refine Ev.congr (fun k => ?_) core
    unfold bits_Div64.f
    rw [if_neg (by omega), if_neg (by omega), if_neg hz, hl1]
    simp only [Option.bind_some]
    rw [g1, g2, f1, f2, f3, f4, f5, if_pos (by omega), if_pos (by omega), if_neg (by omega), and32 _ (by omega) hY1, and32 _ hz0 hz1]

theorem ev_span {hi lo : Int} {m : Bool} {x : Int} (h : Rep hi lo m x) : Ev (fun k => fixed_whole_span.f k hi lo m) (sat x) := Ev.succ fun k => span_rep k h
theorem over_rep {hi lo : Int} {m : Bool} {x : Int} (h : Rep hi lo m x) (y : Int) (hy0 : 0 < y) (hy1 : y < 18446744073709551616) : ∃ hi' lo' m', Ev (fun k => fixed_whole_over.f k hi lo m y) (hi', lo', m') ∧ Rep hi' lo' m' (x / y) := by
  obtain ⟨a, b, c, d, e⟩ := h
  have r0 := Int.emod_nonneg hi (show y ≠ 0 by omega)
  have r1 := Int.emod_lt_of_pos hi hy0
  have hd := div64 (hi % y) lo y r0 r1 hy1 c d
  have q0 : 0 ≤ hi / y := Int.ediv_nonneg a (by omega)
  have q1 : hi / y ≤ hi := Int.ediv_le_self y a
  have eh := Int.ediv_mul_add_emod hi y
  obtain ⟨l, el⟩ : ∃ l, (hi % y * 18446744073709551616 + lo) / y = l := ⟨_, rfl⟩
  obtain ⟨r, er⟩ : ∃ r, (hi % y * 18446744073709551616 + lo) % y = r := ⟨_, rfl⟩
  have s0 := Int.emod_nonneg (hi % y * 18446744073709551616 + lo) (show y ≠ 0 by omega)
  have s1 := Int.emod_lt_of_pos (hi % y * 18446744073709551616 + lo) hy0
  have sl := Int.ediv_mul_add_emod (hi % y * 18446744073709551616 + lo) y
  rw [er] at s0 s1
  rw [el, er] at sl hd
  have hl0 : 0 ≤ l := by rw [← el]; exact Int.ediv_nonneg (by omega) (by omega)
  have hl1 : l < 18446744073709551616 := by
    rw [← el]; exact Int.ediv_lt_of_lt_mul hy0 (by omega)
  have eN : hi * 18446744073709551616 + lo = (hi / y * 18446744073709551616 + l) * y + r := by
    have : hi / y * 18446744073709551616 * y = hi / y * y * 18446744073709551616 := by rw [Int.mul_right_comm]
    rw [Int.add_mul]; omega
  have w1 : IntKind.u64.wrap (Int.tdiv hi y) = hi / y := by rw [Int.tdiv_eq_ediv_of_nonneg a]; exact u64_in q0 (by omega)
  have base : ∀ f : Nat → Int × Int → Option (Int × Int × Bool), ∀ res, Ev (fun k => f k (l, r)) res → Ev (fun k => if y = 0 then none else ((bits_Div64.f k (Int.tmod hi y) lo y).bind (f k))) res := by
    intro f res hf
    refine Ev.congr (f := fun k => (bits_Div64.f k (hi % y) lo y).bind (f k)) (fun k => ?_) (Ev.bind hd hf)
    rw [if_neg (by omega), Int.tmod_eq_emod_of_nonneg a]
  clear el er hd eh sl
  cases m with
  | false =>
    refine ⟨_, _, _, base _ _ (Ev.const (by rw [if_neg (by decide), w1])), ?_⟩
    simp only [Bool.false_eq_true, if_false] at e
    refine ⟨q0, by omega, hl0, hl1, ?_⟩
    simp only [Bool.false_eq_true, if_false]
    rw [e, eN, Int.add_comm, Int.add_mul_ediv_right _ _ (by omega), Int.ediv_eq_zero_of_lt s0 s1]
    omega
  | true =>
    simp only [if_true] at e
    by_cases hr : r > 0
    · have hy2 : 2 ≤ y := by omega
      have q2 : hi / y < 9223372036854775808 := Int.ediv_lt_of_lt_mul hy0 (by omega)
      refine ⟨_, _, _, base _ _ (Ev.const (by rw [if_pos rfl]; dsimp only; rw [if_pos hr, add64 l 1 0 hl0 (by omega) (by omega) (by omega), w1]; rfl)), ?_⟩
      unfold Rep
      simp only [if_true, u64w]
      refine ⟨by omega, by omega, by omega, by omega, ?_⟩
      have : x = (y - r) + (-(hi / y * 18446744073709551616 + l) - 1) * y := by
        rw [e, eN, Int.sub_mul, Int.neg_mul]; omega
      rw [this, Int.add_mul_ediv_right _ _ (by omega), Int.ediv_eq_zero_of_lt (by omega) (by omega)]
      omega
    · obtain rfl : r = 0 := by omega
      refine ⟨_, _, _, base _ _ (Ev.const (by rw [if_pos rfl]; dsimp only; rw [if_neg hr, w1])), ?_⟩
      unfold Rep
      simp only [if_true]
      refine ⟨q0, by omega, hl0, hl1, ?_⟩
      rw [e, eN, Int.add_zero, ← Int.neg_mul, Int.mul_ediv_cancel _ (by omega)]

theorem ev_drift (a b : Int) (ha0 : -9223372036854775808 ≤ a) (ha : a ≤ 9223372036854775807) (hb0 : -9223372036854775808 ≤ b) (hb : b ≤ 9223372036854775807) : Ev (fun k => fixed_Drift.f k a b) (sat (a * b / 281474976710656)) := by
  obtain ⟨hi, lo, m, e, r⟩ := product_rep a b ha0 ha hb0 hb
  obtain ⟨hi', lo', m', e', r'⟩ := over_rep r 281474976710656 (by omega) (by omega)
  unfold fixed_Drift.f
  exact Ev.bind (Ev.const e) (Ev.bind e' (Ev.bind (ev_span r') (Ev.now _)))

theorem ev_clamp (a b : Int) (ha0 : -9223372036854775808 ≤ a) (ha : a ≤ 9223372036854775807) (hb0 : -9223372036854775808 ≤ b) (hb : b ≤ 9223372036854775807) : Ev (fun k => fixed_Clamp.f k a b) (if b < 0 then 0 else sat (mx (mn a b) (-b))) := by
  unfold fixed_Clamp.f
  by_cases h : b < 0
  · simp only [h, if_true]; exact Ev.now _
  · simp only [h, if_false]
    rw [w64_in (n := -b) (by omega) (by omega)]
    have hm : -9223372036854775808 ≤ mx (mn a b) (-b) ∧ mx (mn a b) (-b) ≤ 9223372036854775807 := by
      unfold mx mn; (repeat' split) <;> omega
    have := ev_add (mx (mn a b) (-b)) 0 hm.1 hm.2 (by omega) (by omega)
    rw [Int.add_zero] at this
    exact Ev.bind this (Ev.now _)

def shiftVal (a n : Int) : Int := if n < 0 then sat (a / 2 ^ (-n).toNat) else sat (a * 2 ^ n.toNat)
theorem div_big {a : Int} {m : Nat} (h0 : -9223372036854775808 ≤ a) (h1 : a ≤ 9223372036854775807) (hm : 63 ≤ m) : a / 2 ^ m = if a < 0 then -1 else 0 := by
  have hp := pow_le hm
  have e63 : (2 : Int) ^ 63 = 9223372036854775808 := rfl
  rw [e63] at hp
  by_cases h : a < 0
  · rw [if_pos h, show a = (a + 2 ^ m) + (-1) * 2 ^ m by omega, Int.add_mul_ediv_right _ _ (by omega), Int.ediv_eq_zero_of_lt (by omega) (by omega)]; rfl
  · rw [if_neg h]; exact Int.ediv_eq_zero_of_lt (by omega) (by omega)
theorem sat_pow_big {a : Int} {n : Nat} (hn : 62 ≤ n) : sat (a * 2 ^ n) = if a < 0 then -4611686018427387904 else if a = 0 then 0 else 4611686018427387904 := by
  have hp := pow_le hn
  have e62 : (2 : Int) ^ 62 = 4611686018427387904 := rfl
  rw [e62] at hp
  generalize (2 : Int) ^ n = P at *
  unfold sat clampTo
  by_cases h : a < 0
  · have := Int.mul_le_mul_of_nonneg_right (show a ≤ -1 by omega) (show 0 ≤ P by omega)
    rw [if_pos h]; (repeat' split) <;> omega
  · rw [if_neg h]
    by_cases h2 : a = 0
    · rw [if_pos h2, h2]; simp
    · have := Int.mul_le_mul_of_nonneg_right (show 1 ≤ a by omega) (show 0 ≤ P by omega)
      rw [if_neg h2]; (repeat' split) <;> omega
theorem ev_shift (a n : Int) (ha0 : -9223372036854775808 ≤ a) (ha : a ≤ 9223372036854775807) (hn0 : -9223372036854775808 ≤ n) (hn : n ≤ 9223372036854775807) : Ev (fun k => fixed_Shift.f k a n) (shiftVal a n) := by
  unfold fixed_Shift.f shiftVal
  by_cases h : n < 0
  · simp only [h, if_true]
    obtain ⟨m, hm1, hm2, hm3⟩ : ∃ m : Nat, -(mx n (-63)) = (m : Int) ∧ m ≤ 63 ∧ (m : Int) = mn (-n) 63 := by
      refine ⟨(-(mx n (-63))).toNat, ?_, ?_, ?_⟩ <;> unfold mx <;> (try unfold mn) <;> (repeat' split) <;> omega
    rw [hm1, w64_in (n := (m : Int)) (by omega) (by omega), u64_in (n := (m : Int)) (by omega) (by omega), shr_eq .i64 rfl a m (by omega)]
    simp only [show (0 : Int) ≤ (m : Int) from by omega, if_true]
    have e : a / 2 ^ m = a / 2 ^ (-n).toNat := by
      unfold mn at hm3
      by_cases h2 : 63 < -n
      · rw [div_big ha0 ha (by omega), div_big ha0 ha (by omega)]
      · rw [if_neg h2] at hm3
        congr 2; omega
    rw [e]
    have hb : -9223372036854775808 ≤ a / 2 ^ (-n).toNat ∧ a / 2 ^ (-n).toNat ≤ 9223372036854775807 := by
      have hp : (0 : Int) < 2 ^ (-n).toNat := Int.pow_pos (by decide)
      constructor
      · exact Int.le_ediv_of_mul_le hp (by
          have := Int.mul_le_mul_of_nonneg_left (show (1 : Int) ≤ 2 ^ (-n).toNat by omega) (show (0 : Int) ≤ 9223372036854775808 by omega)
          omega)
      · have := Int.ediv_le_ediv hp ha
        have := Int.ediv_le_self (2 ^ (-n).toNat) (show (0 : Int) ≤ 9223372036854775807 by omega)
        omega
    have := ev_add _ 0 hb.1 hb.2 (by omega) (by omega)
    rw [Int.add_zero] at this
    exact Ev.bind this (Ev.now _)
  · simp only [h, if_false]
    by_cases h2 : n ≤ 62
    · simp only [h2, if_true]
      obtain ⟨m, rfl⟩ : ∃ m : Nat, n = m := ⟨n.toNat, by omega⟩
      have hp : (0 : Int) < 2 ^ m := Int.pow_pos (by decide)
      have hp2 := pow_le (show m ≤ 62 by omega)
      have e62 : (2 : Int) ^ 62 = 4611686018427387904 := rfl
      have e : shl .i64 1 (m : Int) = 2 ^ m := by
        unfold shl
        rw [show min (m : Int).toNat IntKind.i64.bits = m from by simp [IntKind.bits]; omega, Int.one_mul, IntKind.wrap_i64]
        omega
      rw [u64_in (n := (m : Int)) (by omega) (by omega), e, Int.toNat_natCast]
      simp only [show (0 : Int) ≤ (m : Int) from by omega, if_true]
      obtain ⟨hi, lo, mm, e', r⟩ := product_rep a (2 ^ m) ha0 ha (by omega) (by omega)
      exact Ev.bind (Ev.const e') (Ev.bind (ev_span r) (Ev.now _))
    · simp only [h2, if_false]
      obtain ⟨hi, lo, mm, e', r⟩ := product_rep a 4611686018427387904 ha0 ha (by omega) (by omega)
      have hs := sat_in (a * 4611686018427387904)
      have hc := ev_clamp (sat (a * 4611686018427387904)) 4611686018427387904 (by omega) (by omega) (by omega) (by omega)
      have e : (if (4611686018427387904 : Int) < 0 then 0 else sat (mx (mn (sat (a * 4611686018427387904)) 4611686018427387904) (-4611686018427387904))) = sat (a * 2 ^ n.toNat) := by
        rw [if_neg (by omega), sat_pow_big (n := n.toNat) (by omega), ← sat_pow_big (n := 62) (by omega)]
        rw [show (2 : Int) ^ 62 = 4611686018427387904 from rfl, show mx (mn (sat (a * 4611686018427387904)) 4611686018427387904) (-4611686018427387904) = sat (a * 4611686018427387904) from by unfold mx mn; (repeat' split) <;> omega]
        exact sat_of hs.1 hs.2
      rw [e] at hc
      exact Ev.bind (Ev.const e') (Ev.bind (ev_span r) (Ev.bind hc (Ev.now _)))

def V : List Int → Int
  | [] => 0
  | d :: l => d + 65536 * V l
def Dg (l : List Int) : Prop := ∀ d ∈ l, 0 ≤ d ∧ d < 65536
def Nm (l : List Int) : Prop := Dg l ∧ ∀ h : l ≠ [], l.getLast h ≠ 0
theorem pw_pos (n : Nat) : (0 : Int) < 65536 ^ n := Int.pow_pos (by decide)
theorem V_append (a b : List Int) : V (a ++ b) = V a + 65536 ^ a.length * V b := by
  induction a with
  | nil => simp [V]
  | cons d a ih => simp only [List.cons_append, V, ih, List.length_cons, Int.pow_succ]; grind
theorem Dg.nil : Dg [] := fun _ h => by cases h
theorem Dg.append {a b : List Int} (ha : Dg a) (hb : Dg b) : Dg (a ++ b) := fun d hd => (List.mem_append.1 hd).elim (ha d) (hb d)
theorem Dg.one {d : Int} (h0 : 0 ≤ d) (h1 : d < 65536) : Dg [d] := fun x hx => by simp at hx; subst hx; exact ⟨h0, h1⟩
theorem Dg.take {a : List Int} (h : Dg a) (n : Nat) : Dg (a.take n) := fun d hd => h d (List.mem_of_mem_take hd)
theorem Dg.drop {a : List Int} (h : Dg a) (n : Nat) : Dg (a.drop n) := fun d hd => h d (List.mem_of_mem_drop hd)
theorem Dg.set {a : List Int} (h : Dg a) (n : Nat) {v : Int} (h0 : 0 ≤ v) (h1 : v < 65536) : Dg (a.set n v) := fun d hd => (List.mem_or_eq_of_mem_set hd).elim (h d) (fun e => by subst e; exact ⟨h0, h1⟩)
theorem Dg.zeros (n : Nat) : Dg (List.replicate n 0) := fun d hd => by rw [List.eq_of_mem_replicate hd]; omega
theorem V_zeros (n : Nat) : V (List.replicate n 0) = 0 := by
  induction n with
  | zero => rfl
  | succ n ih => simp [List.replicate_succ, V, ih]
theorem V_bd {l : List Int} (h : Dg l) : 0 ≤ V l ∧ V l < 65536 ^ l.length := by
  induction l with
  | nil => simp [V]
  | cons d l ih =>
    obtain ⟨i0, i1⟩ := ih fun x hx => h x (List.mem_cons_of_mem _ hx)
    have hd := h d List.mem_cons_self
    simp only [V, List.length_cons, Int.pow_succ]
    constructor <;> omega
theorem rd_nat (l : List Int) (i : Nat) : rd l (i : Int) = l.getD i 0 := by unfold rd; rw [Int.toNat_natCast]
theorem rd_dg {l : List Int} (h : Dg l) (i : Nat) : 0 ≤ rd l (i : Int) ∧ rd l (i : Int) < 65536 := by
  rw [rd_nat, List.getD_eq_getElem?_getD]
  by_cases hi : i < l.length
  · rw [List.getElem?_eq_getElem hi]; exact h _ (List.getElem_mem _)
  · rw [List.getElem?_eq_none (by omega)]; simp
theorem rd_out {l : List Int} {i : Nat} (h : l.length ≤ i) : rd l (i : Int) = 0 := by
  rw [rd_nat, List.getD_eq_getElem?_getD, List.getElem?_eq_none h]; rfl
theorem V_take_succ (l : List Int) (i : Nat) : V (l.take (i + 1)) = V (l.take i) + 65536 ^ i * rd l (i : Int) := by
  by_cases h : i < l.length
  · rw [List.take_succ_eq_append_getElem h, V_append, rd_nat, List.getD_eq_getElem?_getD, List.getElem?_eq_getElem h]
    simp [V, Nat.min_eq_left (Nat.le_of_lt h)]
  · rw [rd_out (by omega), List.take_of_length_le (by omega), List.take_of_length_le (by omega)]; simp
theorem V_take_all (l : List Int) {n : Nat} (h : l.length ≤ n) : V (l.take n) = V l := by rw [List.take_of_length_le h]
theorem V_take_bd {l : List Int} (h : Dg l) (n : Nat) : 0 ≤ V (l.take n) ∧ V (l.take n) < 65536 ^ n := by
  obtain ⟨a, b⟩ := V_bd (h.take n)
  refine ⟨a, Int.lt_of_lt_of_le b ?_⟩
  rw [List.length_take]
  obtain ⟨d, hd⟩ := Nat.exists_eq_add_of_le (Nat.min_le_left n l.length)
  have hp := pw_pos (min n l.length)
  have h2 := pw_pos d
  have := Int.mul_le_mul_of_nonneg_left (show (1 : Int) ≤ 65536 ^ d by omega) (Int.le_of_lt hp)
  rw [← Int.pow_add, ← hd] at this
  omega
theorem V_drop (l : List Int) (i : Nat) (h : i < l.length) : V (l.drop i) = rd l (i : Int) + 65536 * V (l.drop (i + 1)) := by
  rw [List.drop_eq_getElem_cons h]
  simp only [V]
  rw [rd_nat, List.getD_eq_getElem?_getD, List.getElem?_eq_getElem h]; rfl
theorem V_set (l : List Int) (i : Nat) (v : Int) (h : i < l.length) : V (l.set i v) = V l + 65536 ^ i * (v - rd l (i : Int)) := by
  induction l generalizing i with
  | nil => simp at h
  | cons d l ih =>
    cases i with
    | zero => simp only [List.set_cons_zero, V, Int.pow_zero]; rw [rd_nat]; simp; omega
    | succ i =>
      simp only [List.set_cons_succ, V]
      have hl : i < l.length := by simpa using h
      rw [ih i hl, show rd (d :: l) ((i + 1 : Nat) : Int) = rd l (i : Int) by rw [rd_nat, rd_nat]; simp, Int.pow_succ]
      grind
theorem pw_le {m n : Nat} (h : m ≤ n) : (65536 : Int) ^ m ≤ 65536 ^ n := by
  obtain ⟨d, rfl⟩ := Nat.exists_eq_add_of_le h
  rw [Int.pow_add]
  have h1 := pw_pos m
  have h2 := pw_pos d
  have := Int.mul_le_mul_of_nonneg_left (show (1 : Int) ≤ 65536 ^ d by omega) (Int.le_of_lt h1)
  omega
theorem Nm.ge {l : List Int} (h : Nm l) {n : Nat} (hn : l.length = n + 1) : 65536 ^ n ≤ V l := by
  have hne : l ≠ [] := fun e => by rw [e] at hn; simp at hn
  have hl := h.2 hne
  have e : l = l.take n ++ [l.getLast hne] := by
    have := List.dropLast_concat_getLast hne
    rw [List.dropLast_eq_take, hn] at this
    exact this.symm
  have hd := h.1 _ (List.getLast_mem hne)
  have hb := (V_take_bd h.1 n).1
  rw [e, V_append]
  simp only [V, Int.mul_zero, Int.add_zero]
  rw [show (l.take n).length = n from by rw [List.length_take]; omega]
  have := Int.mul_le_mul_of_nonneg_left (show (1 : Int) ≤ l.getLast hne by omega) (Int.le_of_lt (pw_pos n))
  omega
theorem Nm.len {l : List Int} (h : Nm l) {n : Nat} (hv : V l < 65536 ^ n) : l.length ≤ n := by
  rcases Nat.lt_or_ge n l.length with hl | hl
  · obtain ⟨m, hm⟩ : ∃ m, l.length = m + 1 := ⟨l.length - 1, by omega⟩
    have := h.ge hm
    have := pw_le (show n ≤ m by omega)
    omega
  · exact hl
theorem Nm.nil : Nm [] := ⟨Dg.nil, fun h => absurd rfl h⟩
def sgn (d : Int) : Int := if d < 0 then -1 else if 0 < d then 1 else 0
def Big (n : Nat) (l : List Int) (m : Bool) (x : Int) : Prop := Nm l ∧ l.length ≤ n ∧ x = if m = true then -V l else V l
theorem Nm.tail {d : Int} {l : List Int} (h : Nm (d :: l)) : Nm l := by
  refine ⟨fun x hx => h.1 x (List.mem_cons_of_mem _ hx), fun hne e => ?_⟩
  exact h.2 (by simp) (by rw [List.getLast_cons hne]; exact e)
theorem Nm.zero {l : List Int} (h : Nm l) (hv : V l = 0) : l = [] := by
  have := h.len (n := 0) (by rw [hv]; decide)
  exact List.length_eq_zero_iff.1 (by omega)
theorem Nm.uniq : ∀ {a b : List Int}, Nm a → Nm b → V a = V b → a = b
  | [], b, _, hb, h => (hb.zero (by rw [← h]; rfl)).symm
  | d :: a, [], ha, _, h => ha.zero (by rw [h]; rfl)
  | d :: a, e :: b, ha, hb, h => by
    have h1 := ha.1 d List.mem_cons_self; have h2 := hb.1 e List.mem_cons_self
    simp only [V] at h
    have e1 : V a = V b := by omega
    rw [Nm.uniq ha.tail hb.tail e1, show d = e by omega]
theorem Nm.cons {d : Int} {l : List Int} (h : Nm l) (h0 : 0 ≤ d) (h1 : d < 65536) (h2 : l = [] → d ≠ 0) : Nm (d :: l) := by
  refine ⟨fun x hx => (List.mem_cons.1 hx).elim (fun e => by subst e; exact ⟨h0, h1⟩) (h.1 x), fun hne => ?_⟩
  by_cases hl : l = []
  · subst hl; simpa using h2 rfl
  · rw [List.getLast_cons hl]; exact h.2 hl
theorem Nm.ex : ∀ (n : Nat) (v : Int), 0 ≤ v → v < 65536 ^ n → ∃ l, Nm l ∧ V l = v ∧ l.length ≤ n
  | 0, v, h0, h1 => ⟨[], Nm.nil, by simp at h1; simp only [V]; omega, Nat.le_refl _⟩
  | n + 1, v, h0, h1 => by
    rw [Int.pow_succ] at h1
    obtain ⟨l, hl, he, hn⟩ := Nm.ex n (v / 65536) (by omega) (by omega)
    by_cases hz : v = 0
    · exact ⟨[], Nm.nil, by subst hz; rfl, by simp⟩
    · refine ⟨v % 65536 :: l, hl.cons (by omega) (by omega) (fun e => ?_), by simp only [V]; omega, by simp; omega⟩
      subst e; simp only [V] at he; omega
theorem V_one (m : Int) : V [m] = m := by simp [V]

theorem cmp_l0 (a b : List Int) (ha : Dg a) (hb : Dg b) (hl : a.length ≤ 100000) : ∀ c : Nat, c ≤ a.length → c ≤ b.length → Ev (fun k => foliotref01_compare.l0 k a b ((c : Int) - 1)) (sgn (V (a.take c) - V (b.take c))) := by
  intro c
  induction c with
  | zero =>
    intro _ _
    refine Ev.succ fun k => ?_
    simp only [foliotref01_compare.l0]
    rw [if_neg (by omega)]; simp [sgn, V]
  | succ c ih =>
    intro h1 h2
    have e : ((c + 1 : Nat) : Int) - 1 = c := by omega
    rw [e, V_take_succ, V_take_succ]
    have da := rd_dg ha c; have db := rd_dg hb c
    have va := V_take_bd ha c; have vb := V_take_bd hb c
    have hp := pw_pos c
    generalize hx : rd a (c : Int) = x at *
    generalize hy : rd b (c : Int) = y at *
    by_cases hlt : x < y
    · refine Ev.succ fun k => ?_
      simp only [foliotref01_compare.l0]
      rw [if_pos (by omega), if_pos (by omega), if_pos (by omega), if_pos (by omega), hx, hy, if_pos hlt]
      have := Int.mul_le_mul_of_nonneg_left (show x + 1 ≤ y by omega) (Int.le_of_lt hp)
      rw [Int.mul_add, Int.mul_one] at this
      unfold sgn; rw [if_pos (by omega)]
    · by_cases hgt : y < x
      · refine Ev.succ fun k => ?_
        simp only [foliotref01_compare.l0]
        rw [if_pos (by omega), if_pos (by omega), if_pos (by omega), if_pos (by omega), hx, hy, if_neg hlt, if_pos hgt]
        have := Int.mul_le_mul_of_nonneg_left (show y + 1 ≤ x by omega) (Int.le_of_lt hp)
        rw [Int.mul_add, Int.mul_one] at this
        unfold sgn; rw [if_neg (by omega), if_pos (by omega)]
      · obtain rfl : x = y := by omega
        rw [show V (a.take c) + 65536 ^ c * x - (V (b.take c) + 65536 ^ c * x) = V (a.take c) - V (b.take c) by omega]
        refine Ev.step (fun k => ?_) (ih (by omega) (by omega))
        simp only [foliotref01_compare.l0]
        rw [if_pos (by omega), if_pos (by omega), if_pos (by omega), if_pos (by omega), hx, hy, if_neg hlt, if_neg hgt, w64_in (n := (c : Int) - 1) (by omega) (by omega)]
theorem ev_cmp (a b : List Int) (ha : Nm a) (hb : Nm b) (hl : a.length ≤ 100000) : Ev (fun k => foliotref01_compare.f k a b) (sgn (V a - V b)) := by
  unfold foliotref01_compare.f
  have va := V_bd ha.1; have vb := V_bd hb.1
  by_cases h : (a.length : Int) = b.length
  · simp only [h, if_true]
    have := cmp_l0 a b ha.1 hb.1 hl a.length (Nat.le_refl _) (by omega)
    rw [V_take_all a (Nat.le_refl _), V_take_all b (by omega), h] at this
    rw [w64_in (n := (b.length : Int) - 1) (by omega) (by omega)]
    exact this
  · simp only [h, if_false]
    by_cases h2 : (a.length : Int) < b.length
    · simp only [h2, if_true]
      obtain ⟨m, hm⟩ : ∃ m, b.length = m + 1 := ⟨b.length - 1, by omega⟩
      have := hb.ge hm
      have := pw_le (show a.length ≤ m by omega)
      rw [show sgn (V a - V b) = -1 from by unfold sgn; rw [if_pos (by omega)]]
      exact Ev.now _
    · simp only [h2, if_false]
      obtain ⟨m, hm⟩ : ∃ m, a.length = m + 1 := ⟨a.length - 1, by omega⟩
      have := ha.ge hm
      have := pw_le (show b.length ≤ m by omega)
      rw [show sgn (V a - V b) = 1 from by unfold sgn; rw [if_neg (by omega), if_pos (by omega)]]
      exact Ev.now _

theorem trim_l0 (a : List Int) (ha : Dg a) (hl : a.length ≤ 100000) : ∀ c : Nat, c ≤ a.length → ∃ r, Ev (fun k => foliotref01_trim.l0 k a (c : Int)) r ∧ Nm r ∧ V r = V (a.take c) ∧ r.length ≤ c := by
  intro c
  induction c with
  | zero =>
    intro _
    refine ⟨[], Ev.succ fun k => ?_, Nm.nil, by simp [V], by simp⟩
    simp only [foliotref01_trim.l0]
    rw [if_neg (by omega), if_pos (by omega), if_pos (by omega)]; simp
  | succ c ih =>
    intro h1
    have e : wrap64 (((c + 1 : Nat) : Int) - 1) = c := by rw [w64_in (by omega) (by omega)]; omega
    by_cases hz : rd a (c : Int) = 0
    · obtain ⟨r, hr, h⟩ := ih (by omega)
      refine ⟨r, Ev.step (fun k => ?_) hr, h.1, ?_, by omega⟩
      · simp only [foliotref01_trim.l0]
        rw [if_pos (by omega), e, if_pos (by omega), if_pos (by omega), if_pos hz]
      · rw [V_take_succ, hz, Int.mul_zero, Int.add_zero]; exact h.2.1
    · refine ⟨a.take (c + 1), Ev.succ fun k => ?_, ⟨ha.take _, fun hne => ?_⟩, rfl, by rw [List.length_take]; omega⟩
      · simp only [foliotref01_trim.l0]
        rw [if_pos (by omega), e, if_pos (by omega), if_pos (by omega), if_neg hz, if_pos (by omega), if_pos (by omega), Int.toNat_natCast]
      · rw [List.getLast_eq_getElem, List.getElem_take]
        intro h
        apply hz
        rw [rd_nat, List.getD_eq_getElem?_getD, List.getElem?_eq_getElem (by omega)]
        simp only [Option.getD_some]
        rw [← h]
        congr 1
        rw [List.length_take]; omega
theorem ev_trim (a : List Int) (ha : Dg a) (hl : a.length ≤ 100000) : ∃ r, Ev (fun k => foliotref01_trim.f k a) r ∧ Nm r ∧ V r = V a ∧ r.length ≤ a.length := by
  obtain ⟨r, hr, h1, h2, h3⟩ := trim_l0 a ha hl a.length (Nat.le_refl _)
  rw [V_take_all a (Nat.le_refl _)] at h2
  exact ⟨r, hr, h1, h2, h3⟩

theorem plus_j1 (k : Nat) (a b x : List Int) (c : Int) (i : Nat) (hx : x.length < 17592186044416) (hc0 : 0 ≤ c) (hc1 : c ≤ 1) (ha : Dg a) (hb : Dg b) (hi : i ≤ 1000000) :
    foliotref01_plus.j1 (k + 1) a b x c (i : Int) true = foliotref01_plus.l0 k a b (x ++ [(c + rd a (i : Int) + rd b (i : Int)) % 65536]) ((c + rd a (i : Int) + rd b (i : Int)) / 65536) ((i + 1 : Nat) : Int) := by
  have da := rd_dg ha i; have db := rd_dg hb i
  have e1 : wrap64 ((i : Int) + 1) = ((i + 1 : Nat) : Int) := by rw [w64_in (by omega) (by omega)]; omega
  simp only [foliotref01_plus.j1]
  rw [if_pos trivial]
  by_cases h1 : (i : Int) < (a.length : Int)
  · rw [if_pos h1, if_pos (by omega), w64_in (n := c + rd a i) (by omega) (by omega)]
    by_cases h2 : (i : Int) < (b.length : Int)
    · rw [if_pos h2, if_pos hx, w64_in (n := c + rd a i + rd b i) (by omega) (by omega), Int.tmod_eq_emod_of_nonneg (by omega), Int.tdiv_eq_ediv_of_nonneg (by omega), w64_in (n := (c + rd a i + rd b i) / 65536) (by omega) (by omega), e1]
    · rw [if_neg h2, if_pos hx, rd_out (l := b) (by omega), Int.add_zero, Int.tmod_eq_emod_of_nonneg (by omega), Int.tdiv_eq_ediv_of_nonneg (by omega), w64_in (n := (c + rd a i) / 65536) (by omega) (by omega), e1]
  · rw [if_neg h1, rd_out (l := a) (by omega), Int.add_zero]
    by_cases h2 : (i : Int) < (b.length : Int)
    · rw [if_pos h2, if_pos (by omega), if_pos hx, w64_in (n := c + rd b i) (by omega) (by omega), Int.tmod_eq_emod_of_nonneg (by omega), Int.tdiv_eq_ediv_of_nonneg (by omega), w64_in (n := (c + rd b i) / 65536) (by omega) (by omega), e1]
    · rw [if_neg h2, if_pos hx, rd_out (l := b) (by omega), Int.add_zero, Int.tmod_eq_emod_of_nonneg (by omega), Int.tdiv_eq_ediv_of_nonneg (by omega), w64_in (n := c / 65536) (by omega) (by omega), e1]
theorem plus_l0 (a b : List Int) (ha : Dg a) (hb : Dg b) (hla : a.length ≤ 1000) (hlb : b.length ≤ 1000) : ∀ (d : Nat) (i : Nat) (c : Int) (x : List Int), i + d = max a.length b.length + 1 → x.length = i → Dg x → 0 ≤ c → c ≤ 1 → V x + 65536 ^ i * c = V (a.take i) + V (b.take i) →
    ∃ r, Ev (fun k => foliotref01_plus.l0 k a b x c (i : Int)) r ∧ Nm r ∧ V r = V a + V b ∧ r.length ≤ max a.length b.length + 1 := by
  have hend : ∀ (i : Nat) (x : List Int), x.length = i → Dg x → max a.length b.length ≤ i → i ≤ max a.length b.length + 1 → V x = V (a.take i) + V (b.take i) → ∃ r, Ev (fun k => foliotref01_plus.l0 k a b x 0 (i : Int)) r ∧ Nm r ∧ V r = V a + V b ∧ r.length ≤ max a.length b.length + 1 := by
    intro i x hx dx h1 h2 hv
    obtain ⟨r, hr, hn, he, hl⟩ := ev_trim x dx (by omega)
    refine ⟨r, ?_, hn, ?_, by omega⟩
    · refine Ev.step (f := fun k => foliotref01_plus.j1 k a b x 0 (i : Int) false) (fun k => ?_) ?_
      · simp only [foliotref01_plus.l0]
        rw [if_neg (by omega), if_neg (by omega)]; rfl
      · refine Ev.step (f := fun k => (foliotref01_trim.f k x).bind fun t => some t) (fun k => ?_) (Ev.bind hr (Ev.now _))
        simp only [foliotref01_plus.j1]
        rw [if_neg (by decide)]
    · rw [he, hv, V_take_all a (by omega), V_take_all b (by omega)]
  intro d
  induction d with
  | zero =>
    intro i c x hi hx dx hc0 hc1 hv
    have : c = 0 := by
      rw [V_take_all a (by omega), V_take_all b (by omega)] at hv
      have va := V_bd ha; have vb := V_bd hb; have vx := V_bd dx
      have hp := pw_pos (i - 1)
      have e : (65536 : Int) ^ i = 65536 ^ (i - 1) * 65536 := by rw [← Int.pow_succ]; congr 1; omega
      have := pw_le (show a.length ≤ i - 1 by omega); have := pw_le (show b.length ≤ i - 1 by omega)
      rcases (show c = 0 ∨ c = 1 by omega) with h | h
      · exact h
      · rw [h, e] at hv; omega
    subst this
    exact hend i x hx dx (by omega) (by omega) (by simpa using hv)
  | succ d ih =>
    intro i c x hi hx dx hc0 hc1 hv
    by_cases hgo : i < a.length ∨ i < b.length ∨ c > 0
    · have da := rd_dg ha i; have db := rd_dg hb i
      have hp := pw_pos i
      obtain ⟨r, hr, h⟩ := ih (i + 1) ((c + rd a (i : Int) + rd b (i : Int)) / 65536) (x ++ [(c + rd a (i : Int) + rd b (i : Int)) % 65536]) (by omega) (by simp; omega) (dx.append (Dg.one (by omega) (by omega))) (by omega) (by omega) (by
        rw [V_append, V_take_succ, V_take_succ, hx, Int.pow_succ]
        simp only [V, Int.mul_zero, Int.add_zero]
        have e : (c + rd a (i : Int) + rd b (i : Int)) % 65536 + 65536 * ((c + rd a (i : Int) + rd b (i : Int)) / 65536) = c + rd a (i : Int) + rd b (i : Int) := by omega
        generalize (c + rd a (i : Int) + rd b (i : Int)) % 65536 = s1 at *
        generalize (c + rd a (i : Int) + rd b (i : Int)) / 65536 = s2 at *
        grind)
      refine ⟨r, Ev.step (f := fun k => foliotref01_plus.j1 k a b x c (i : Int) true) (fun k => ?_) (Ev.step (fun k => plus_j1 k a b x c i (by omega) hc0 hc1 ha hb (by omega)) hr), h⟩
      simp only [foliotref01_plus.l0]
      by_cases h1 : (i : Int) < (a.length : Int)
      · rw [if_pos h1]
      · rw [if_neg h1]
        by_cases h2 : (i : Int) < (b.length : Int)
        · rw [if_pos h2]
        · rw [if_neg h2, decide_eq_true (by omega)]
    · obtain rfl : c = 0 := by omega
      exact hend i x hx dx (by omega) (by omega) (by simpa using hv)
theorem ev_plus (a b : List Int) (ha : Dg a) (hb : Dg b) (hla : a.length ≤ 1000) (hlb : b.length ≤ 1000) : ∃ r, Ev (fun k => foliotref01_plus.f k a b) r ∧ Nm r ∧ V r = V a + V b ∧ r.length ≤ max a.length b.length + 1 := by
  unfold foliotref01_plus.f
  exact plus_l0 a b ha hb hla hlb (max a.length b.length + 1) 0 0 [] (by omega) rfl Dg.nil (by omega) (by omega) (by simp [V])

theorem minus_step (k : Nat) (a b x : List Int) (c : Int) (i : Nat) (hx : x.length < 17592186044416) (hc0 : 0 ≤ c) (hc1 : c ≤ 1) (ha : Dg a) (hb : Dg b) (hi : i < a.length) (hl : a.length ≤ 1000) :
    foliotref01_minus.l0 (k + 1) a b x c (i : Int) = foliotref01_minus.l0 k a b (x ++ [(rd a (i : Int) - c - rd b (i : Int)) % 65536]) (-((rd a (i : Int) - c - rd b (i : Int)) / 65536)) ((i + 1 : Nat) : Int) := by
  have da := rd_dg ha i; have db := rd_dg hb i
  have e1 : wrap64 ((i : Int) + 1) = ((i + 1 : Nat) : Int) := by rw [w64_in (by omega) (by omega)]; omega
  simp only [foliotref01_minus.l0]
  rw [if_pos (by omega), if_pos (by omega), w64_in (n := rd a i - c) (by omega) (by omega), e1]
  by_cases h2 : (i : Int) < (b.length : Int)
  · rw [if_pos h2, w64_in (n := rd a i - c - rd b i) (by omega) (by omega)]
    by_cases h3 : rd a (i : Int) - c - rd b (i : Int) < 0
    · rw [if_pos h3, if_pos hx, w64_in (n := rd a i - c - rd b i + 65536) (by omega) (by omega)]
      congr 2
      · congr 1; omega
      · omega
    · rw [if_neg h3, if_pos hx]
      congr 2
      · congr 1; omega
      · omega
  · rw [if_neg h2, rd_out (l := b) (by omega), Int.sub_zero]
    by_cases h3 : rd a (i : Int) - c < 0
    · rw [if_pos h3, if_pos hx, w64_in (n := rd a i - c + 65536) (by omega) (by omega)]
      congr 2
      · congr 1; omega
      · omega
    · rw [if_neg h3, if_pos hx]
      congr 2
      · congr 1; omega
      · omega
theorem minus_l0 (a b : List Int) (ha : Dg a) (hb : Nm b) (hla : a.length ≤ 1000) (hv : V b ≤ V a) : ∀ (d : Nat) (i : Nat) (c : Int) (x : List Int), i + d = a.length → x.length = i → Dg x → 0 ≤ c → c ≤ 1 → V x - 65536 ^ i * c = V (a.take i) - V (b.take i) →
    ∃ r, Ev (fun k => foliotref01_minus.l0 k a b x c (i : Int)) r ∧ Nm r ∧ V r = V a - V b ∧ r.length ≤ a.length := by
  intro d
  induction d with
  | zero =>
    intro i c x hi hx dx hc0 hc1 he
    have va := V_bd ha
    have hlb : b.length ≤ a.length := hb.len (by omega)
    obtain ⟨r, hr, hn, hev, hl⟩ := ev_trim x dx (by omega)
    rw [V_take_all a (by omega), V_take_all b (by omega)] at he
    have vx := V_bd dx
    rw [hx] at vx
    have hc : c = 0 := by
      rcases (show c = 0 ∨ c = 1 by omega) with h | h
      · exact h
      · rw [h] at he; omega
    subst hc
    refine ⟨r, Ev.step (f := fun k => (foliotref01_trim.f k x).bind fun t => some t) (fun k => ?_) (Ev.bind hr (Ev.now _)), hn, by rw [hev]; simpa using he, by omega⟩
    simp only [foliotref01_minus.l0]
    rw [if_neg (by omega)]
  | succ d ih =>
    intro i c x hi hx dx hc0 hc1 he
    have da := rd_dg ha i; have db := rd_dg hb.1 i
    obtain ⟨r, hr, h⟩ := ih (i + 1) (-((rd a (i : Int) - c - rd b (i : Int)) / 65536)) (x ++ [(rd a (i : Int) - c - rd b (i : Int)) % 65536]) (by omega) (by simp; omega) (dx.append (Dg.one (by omega) (by omega))) (by omega) (by omega) (by
      rw [V_append, V_take_succ, V_take_succ, hx, Int.pow_succ]
      simp only [V, Int.mul_zero, Int.add_zero]
      have e : (rd a (i : Int) - c - rd b (i : Int)) % 65536 + 65536 * ((rd a (i : Int) - c - rd b (i : Int)) / 65536) = rd a (i : Int) - c - rd b (i : Int) := by omega
      generalize (rd a (i : Int) - c - rd b (i : Int)) % 65536 = s1 at *
      generalize (rd a (i : Int) - c - rd b (i : Int)) / 65536 = s2 at *
      grind)
    exact ⟨r, Ev.step (fun k => minus_step k a b x c i (by omega) hc0 hc1 ha hb.1 (by omega) hla) hr, h⟩
theorem ev_minus (a b : List Int) (ha : Dg a) (hb : Nm b) (hla : a.length ≤ 1000) (hv : V b ≤ V a) : ∃ r, Ev (fun k => foliotref01_minus.f k a b) r ∧ Nm r ∧ V r = V a - V b ∧ r.length ≤ a.length := by
  unfold foliotref01_minus.f
  exact minus_l0 a b ha hb hla hv a.length 0 0 [] (by omega) rfl Dg.nil (by omega) (by omega) (by simp [V])

theorem digit_step {x c p : Int} (hx0 : 0 ≤ x) (hx1 : x < 65536) (hc0 : 0 ≤ c) (hc1 : c < 65536) (hp0 : 0 ≤ p) (hp1 : p ≤ 4294836225) : ∃ s s1 s2 : Int, x + c + p = s ∧ 0 ≤ s ∧ s < 4294967296 ∧ s % 65536 = s1 ∧ s / 65536 = s2 ∧ 0 ≤ s1 ∧ s1 < 65536 ∧ 0 ≤ s2 ∧ s2 < 65536 ∧ s1 + 65536 * s2 = s :=
  ⟨_, _, _, rfl, by omega, by omega, rfl, rfl, by omega, by omega, by omega, by omega, by omega⟩
theorem times_alg {P Pn x c p A B S V0 s1 s2 s y : Int} (hs : x + c + p = s) (e : s1 + 65536 * s2 = s) (hp : p = A * B) (hv : V0 + P * Pn * c = S + P * A * y) : V0 + P * Pn * (s1 - x) + P * Pn * 65536 * s2 = S + P * A * (y + Pn * B) := by
  subst hp; subst hs
  have : s1 = x + c + A * B - 65536 * s2 := by omega
  subst this
  grind
theorem times_round (k : Nat) (a b x : List Int) (i n : Nat) (c s s1 s2 : Int) (hi : i < a.length) (hin : i + n < x.length) (hl : x.length ≤ 100000) (hx0 : 0 ≤ rd x ((i + n : Nat) : Int) + c) (hx1 : rd x ((i + n : Nat) : Int) + c ≤ 200000) (hp0 : 0 ≤ rd a (i : Int) * rd b (n : Int)) (hp1 : rd a (i : Int) * rd b (n : Int) ≤ 4294836225)
    (hs : rd x ((i + n : Nat) : Int) + c + rd a (i : Int) * rd b (n : Int) = s) (h0 : 0 ≤ s) (h1 : s < 4294967296) (es1 : s % 65536 = s1) (es2 : s / 65536 = s2) (h20 : 0 ≤ s2) (h21 : s2 < 65536) :
    foliotref01_times.j2 (k + 1) a b x (i : Int) c (n : Int) true = foliotref01_times.l1 k a b (x.set (i + n) s1) (i : Int) s2 ((n + 1 : Nat) : Int) := by
  have b1 : -9223372036854775808 ≤ (i : Int) + n := by clear hs es1 es2 hx0 hx1 hp0 hp1; omega
  have b2 : (i : Int) + n ≤ 9223372036854775807 := by clear hs es1 es2 hx0 hx1 hp0 hp1; omega
  have b3 : -9223372036854775808 ≤ rd x ((i + n : Nat) : Int) + c := by clear hs es1 es2 hp0 hp1; omega
  have b4 : rd x ((i + n : Nat) : Int) + c ≤ 9223372036854775807 := by clear hs es1 es2 hp0 hp1; omega
  have b5 : -9223372036854775808 ≤ rd a (i : Int) * rd b (n : Int) := Int.le_trans (by decide) hp0
  have b6 : rd a (i : Int) * rd b (n : Int) ≤ 9223372036854775807 := Int.le_trans hp1 (by decide)
  have b7 : -9223372036854775808 ≤ s := Int.le_trans (by decide) h0
  have b8 : s ≤ 9223372036854775807 := Int.le_trans (Int.le_of_lt h1) (by decide)
  have b9 : -9223372036854775808 ≤ s2 := Int.le_trans (by decide) h20
  have b10 : s2 ≤ 9223372036854775807 := Int.le_trans (Int.le_of_lt h21) (by decide)
  have b11 : -9223372036854775808 ≤ (n : Int) + 1 := by clear hs es1 es2 hx0 hx1 hp0 hp1; omega
  have b12 : (n : Int) + 1 ≤ 9223372036854775807 := by clear hs es1 es2 hx0 hx1 hp0 hp1; omega
  have c1 : (0 : Int) ≤ ((i + n : Nat) : Int) := Int.natCast_nonneg _
  have c2 : ((i + n : Nat) : Int) < (x.length : Int) := Int.ofNat_lt.2 hin
  have c3 : (0 : Int) ≤ (i : Int) := Int.natCast_nonneg _
  have c4 : (i : Int) < (a.length : Int) := Int.ofNat_lt.2 hi
  have c5 : (0 : Int) ≤ (n : Int) := Int.natCast_nonneg _
  have en : (i : Int) + n = ((i + n : Nat) : Int) := (Int.natCast_add i n).symm
  simp only [foliotref01_times.j2]
  rw [if_pos trivial, w64_in b1 b2, en, if_pos c1, if_pos c2, w64_in b3 b4, Int.toNat_natCast, w64_in b11 b12]
  by_cases hn : (n : Int) < (b.length : Int)
  · rw [if_pos hn, if_pos c3, if_pos c4, if_pos c5, w64_in b5 b6, hs, w64_in b7 b8, Int.tmod_eq_emod_of_nonneg h0, Int.tdiv_eq_ediv_of_nonneg h0, es1, es2, w64_in b9 b10]
    rfl
  · rw [rd_out (l := b) (i := n) (by have := Int.not_lt.1 hn; exact Int.ofNat_le.1 this), Int.mul_zero, Int.add_zero] at hs
    rw [if_neg hn, hs, Int.tmod_eq_emod_of_nonneg h0, Int.tdiv_eq_ediv_of_nonneg h0, es1, es2, w64_in b9 b10]
    rfl
theorem times_l1 (a b : List Int) (ha : Dg a) (hb : Dg b) (hla : a.length ≤ 1000) (hlb : b.length ≤ 1000) (i : Nat) (hi : i < a.length) (S : Int) :
    ∀ (d : Nat) (n : Nat) (c : Int) (x : List Int), n + d = b.length + 1 → x.length = a.length + b.length + 1 → Dg x → (∀ j : Nat, i + b.length ≤ j → (n ≤ b.length → rd x (j : Int) = 0) ∧ (i + b.length < j → rd x (j : Int) = 0)) → 0 ≤ c → c < 65536 → (d = 0 → c = 0) →
      V x + 65536 ^ (i + n) * c = S + 65536 ^ i * rd a (i : Int) * V (b.take n) →
    ∀ {res : List Int}, (∀ y : List Int, y.length = a.length + b.length + 1 → Dg y → (∀ j : Nat, i + 1 + b.length ≤ j → rd y (j : Int) = 0) → V y = S + 65536 ^ i * rd a (i : Int) * V b → Ev (fun k => foliotref01_times.l0 k a b y ((i + 1 : Nat) : Int)) res) →
    Ev (fun k => foliotref01_times.l1 k a b x (i : Int) c (n : Int)) res := by
  have hend : ∀ (n : Nat) (x : List Int), b.length ≤ n → x.length = a.length + b.length + 1 → Dg x → (∀ j : Nat, i + 1 + b.length ≤ j → rd x (j : Int) = 0) → V x = S + 65536 ^ i * rd a (i : Int) * V (b.take n) → ∀ {res : List Int}, (∀ y : List Int, y.length = a.length + b.length + 1 → Dg y → (∀ j : Nat, i + 1 + b.length ≤ j → rd y (j : Int) = 0) → V y = S + 65536 ^ i * rd a (i : Int) * V b → Ev (fun k => foliotref01_times.l0 k a b y ((i + 1 : Nat) : Int)) res) → Ev (fun k => foliotref01_times.l1 k a b x (i : Int) 0 (n : Int)) res := by
    intro n x hn hx dx hz hv res hk
    refine Ev.step (f := fun k => foliotref01_times.j2 k a b x (i : Int) 0 (n : Int) false) (fun k => ?_) ?_
    · simp only [foliotref01_times.l1]
      rw [if_neg (by omega)]; rfl
    · refine Ev.step (fun k => ?_) (hk x hx dx hz (by rw [hv, V_take_all b hn]))
      simp only [foliotref01_times.j2]
      rw [if_neg (by decide), w64_in (n := (i : Int) + 1) (by omega) (by omega)]
      congr 1
  have da := rd_dg ha i
  intro d
  induction d with
  | zero =>
    intro n c x hn hx dx hz hc0 hc1 hcz hv res hk
    obtain rfl := hcz rfl
    exact hend n x (by omega) hx dx (fun j hj => (hz j (by omega)).2 (by omega)) (by simpa using hv) hk
  | succ d ih =>
    intro n c x hn hx dx hz hc0 hc1 _ hv res hk
    by_cases hgo : n < b.length ∨ c > 0
    · have db := rd_dg hb n
      have dx' := rd_dg dx (i + n)
      have hab : 0 ≤ rd a (i : Int) * rd b (n : Int) ∧ rd a (i : Int) * rd b (n : Int) ≤ 4294836225 := ⟨Int.mul_nonneg da.1 db.1, Int.mul_le_mul (show rd a (i : Int) ≤ 65535 by omega) (show rd b (n : Int) ≤ 65535 by omega) db.1 (by omega)⟩
      obtain ⟨s, s1, s2, hs, hs0, hs1, es1, es2, h10, h11, h20, h21, hss⟩ := digit_step dx'.1 dx'.2 hc0 hc1 hab.1 hab.2
      have hin : i + n < x.length := by omega
      have hother : ∀ j : Nat, i + n ≠ j → rd (x.set (i + n) s1) (j : Int) = rd x (j : Int) := by
        intro j h; rw [rd_nat, rd_nat, List.getD_eq_getElem?_getD, List.getD_eq_getElem?_getD, List.getElem?_set_ne h]
      have halg : V (x.set (i + n) s1) + 65536 ^ (i + (n + 1)) * s2 = S + 65536 ^ i * rd a (i : Int) * V (b.take (n + 1)) := by
        rw [V_set x (i + n) _ hin, V_take_succ, show i + (n + 1) = i + n + 1 from rfl, Int.pow_succ, Int.pow_add]
        rw [Int.pow_add] at hv
        exact times_alg hs hss rfl hv
      clear hv
      have key : Ev (fun k => foliotref01_times.l1 k a b (x.set (i + n) s1) (i : Int) s2 ((n + 1 : Nat) : Int)) res := by
        refine ih (n + 1) s2 (x.set (i + n) s1) (by omega) (by rw [List.length_set]; exact hx) (dx.set _ h10 h11) ?_ h20 h21 ?_ halg hk
        · intro j hj
          refine ⟨fun h1 => ?_, fun h1 => ?_⟩
          · rw [hother j (by omega)]; exact (hz j hj).1 (by omega)
          · rw [hother j (by omega)]; exact (hz j hj).2 h1
        · intro hd
          have hnb : n = b.length := by omega
          have hx0 := (hz (i + n) (by omega)).1 (by omega)
          have hb0 := rd_out (l := b) (i := n) (by omega)
          rw [hb0, Int.mul_zero, hx0] at hs
          clear hz ih hother halg hab
          omega
      refine Ev.step (f := fun k => foliotref01_times.j2 k a b x (i : Int) c (n : Int) true) (fun k => ?_) (Ev.step (fun k => times_round k a b x i n c s s1 s2 hi hin (by rw [hx]; clear hs es1 es2 hss halg; omega) (by clear hs es1 es2 hss halg hab; omega) (by clear hs es1 es2 hss halg hab; omega) hab.1 hab.2 hs hs0 hs1 es1 es2 h20 h21) key)
      simp only [foliotref01_times.l1]
      by_cases h1 : (n : Int) < (b.length : Int)
      · rw [if_pos h1]
      · rw [if_neg h1, decide_eq_true (hgo.resolve_left (fun h => h1 (Int.ofNat_lt.2 h)))]
    · obtain rfl : c = 0 := by omega
      exact hend n x (by omega) hx dx (fun j hj => (hz j (by omega)).2 (by omega)) (by simpa using hv) hk
theorem times_l0 (a b : List Int) (ha : Dg a) (hb : Dg b) (hla : a.length ≤ 1000) (hlb : b.length ≤ 1000) {r : List Int} (hn : Nm r) (hr : V r = V a * V b) : ∀ (d : Nat) (i : Nat) (x : List Int), i + d = a.length → x.length = a.length + b.length + 1 → Dg x → (∀ j : Nat, i + b.length ≤ j → rd x (j : Int) = 0) → V x = V (a.take i) * V b → Ev (fun k => foliotref01_times.l0 k a b x (i : Int)) r := by
  intro d
  induction d with
  | zero =>
    intro i x hi hx dx hz hv
    obtain ⟨r', hr', hn', he, hl⟩ := ev_trim x dx (by omega)
    obtain rfl := Nm.uniq hn' hn (by rw [he, hv, V_take_all a (by omega), hr])
    refine Ev.step (f := fun k => (foliotref01_trim.f k x).bind fun t => some t) (fun k => ?_) (Ev.bind hr' (Ev.now _))
    simp only [foliotref01_times.l0]
    rw [if_neg (by omega)]
  | succ d ih =>
    intro i x hi hx dx hz hv
    refine Ev.step (f := fun k => foliotref01_times.l1 k a b x (i : Int) 0 ((0 : Nat) : Int)) (fun k => ?_) ?_
    · simp only [foliotref01_times.l0]
      rw [if_pos (by omega)]; rfl
    · refine times_l1 a b ha hb hla hlb i (by omega) (V (a.take i) * V b) (b.length + 1) 0 0 x (by omega) hx dx (fun j hj => ⟨fun _ => hz j hj, fun h => hz j hj⟩) (by omega) (by omega) (by omega) (by rw [hv]; simp [V]) ?_
      intro y hy dy zy vy
      refine ih (i + 1) y (by omega) hy dy zy ?_
      rw [vy, V_take_succ, Int.add_mul]
theorem ev_times (a b : List Int) (ha : Dg a) (hb : Dg b) (hla : a.length ≤ 1000) (hlb : b.length ≤ 1000) : ∃ r, Ev (fun k => foliotref01_times.f k a b) r ∧ Nm r ∧ V r = V a * V b ∧ r.length ≤ a.length + b.length := by
  have va := V_bd ha; have vb := V_bd hb
  have hlt : V a * V b < 65536 ^ (a.length + b.length) := by
    rw [Int.pow_add]
    have h1 := Int.mul_le_mul (show V a ≤ 65536 ^ a.length - 1 by omega) (show V b ≤ 65536 ^ b.length by omega) vb.1 (by have := pw_pos a.length; omega)
    rw [Int.sub_mul, Int.one_mul] at h1
    have := pw_pos b.length
    omega
  obtain ⟨r, hn, hr, hl⟩ := Nm.ex (a.length + b.length) (V a * V b) (Int.mul_nonneg va.1 vb.1) hlt
  refine ⟨r, ?_, hn, hr, hl⟩
  unfold foliotref01_times.f
  rw [w64_in (n := (a.length : Int) + b.length) (by omega) (by omega), w64_in (n := (a.length : Int) + b.length + 1) (by omega) (by omega)]
  have e1 : ((a.length : Int) + b.length + 1).toNat = a.length + b.length + 1 := by omega
  simp only [show (0 : Int) ≤ (a.length : Int) + b.length + 1 from by omega, if_true, e1, show a.length + b.length + 1 ≤ 35184372088832 from by omega]
  refine times_l0 a b ha hb hla hlb hn hr a.length 0 _ (by omega) (by simp) (Dg.zeros _) (fun j _ => ?_) (by rw [V_zeros]; simp [V])
  rw [rd_nat, List.getD_eq_getElem?_getD, List.getElem?_replicate]; split <;> rfl

theorem half_eq (lo hi : Int) (h0 : 0 ≤ lo) (h1 : lo < hi) (h2 : hi ≤ 65535) : ∃ m, wrap64 (Int.tdiv (wrap64 ((wrap64 (lo + hi)) + 1)) 2) = m ∧ lo < m ∧ m ≤ hi ∧ wrap64 (m - 1) = m - 1 := by
  have e1 : wrap64 (lo + hi) = lo + hi := w64_in (by omega) (by omega)
  rw [e1]
  clear e1
  have e2 : wrap64 (lo + hi + 1) = lo + hi + 1 := w64_in (by omega) (by omega)
  rw [e2]
  clear e2
  rw [Int.tdiv_eq_ediv_of_nonneg (by omega)]
  have b1 : lo < (lo + hi + 1) / 2 := by omega
  have b2 : (lo + hi + 1) / 2 ≤ hi := by omega
  generalize (lo + hi + 1) / 2 = m at *
  have c1 : -9223372036854775808 ≤ m ∧ m ≤ 9223372036854775807 ∧ -9223372036854775808 ≤ m - 1 ∧ m - 1 ≤ 9223372036854775807 := by omega
  exact ⟨m, w64_in c1.1 c1.2.1, b1, b2, w64_in c1.2.2.1 c1.2.2.2⟩
theorem divide_l1 (a b q t r : List Int) (c : Nat) (L : Int) (hb : Nm b) (hlb : b.length ≤ 500) (ht : Nm t) (hlt : t.length ≤ 900) (hcq : c < q.length) (hlq : q.length ≤ 1000) (hr : Nm r) (hrv : V r = V t - V b * L) (h1 : V b * L ≤ V t) (h2 : V t < V b * (L + 1)) {res : List Int × List Int}
    (hk : Ev (fun k => foliotref01_divide.l0 k a b (q.set c L) r ((c : Int) - 1)) res) : ∀ (d : Nat) (lo hi : Int), hi - lo ≤ d → 0 ≤ lo → lo ≤ L → L ≤ hi → hi ≤ 65535 → Ev (fun k => foliotref01_divide.l1 k a b q t (c : Int) lo hi) res := by
  have hvb := (V_bd hb.1).1
  have hend : 0 ≤ L → L ≤ 65535 → Ev (fun k => foliotref01_divide.l1 k a b q t (c : Int) L L) res := by
    intro hL0 hL1
    obtain ⟨u, hu, un, uv, ul⟩ := ev_times b [L] hb.1 (Dg.one hL0 (by omega)) (by omega) (by simp)
    rw [V_one] at uv
    obtain ⟨s, hs, sn, sv, sl⟩ := ev_minus t u ht.1 un (by omega) (by omega)
    obtain rfl := Nm.uniq sn hr (by omega)
    have e : wrap64 ((c : Int) - 1) = (c : Int) - 1 := w64_in (by omega) (by omega)
    have g1 : (0 : Int) ≤ (c : Int) := Int.natCast_nonneg _
    have g2 : (c : Int) < (q.length : Int) := Int.ofNat_lt.2 hcq
    refine Ev.step (f := fun k => (foliotref01_times.f k b ([L] : List Int)).bind fun t282 => ((foliotref01_minus.f k t t282).bind fun t285 => (foliotref01_divide.l0 k a b (q.set (c : Int).toNat L) t285 (wrap64 ((c : Int) - 1))))) (fun k => ?_) (Ev.bind hu (Ev.bind hs ?_))
    · simp only [foliotref01_divide.l1]
      rw [if_neg (Int.lt_irrefl _), if_pos g1, if_pos g2]
    · rw [e, Int.toNat_natCast]; exact hk
  intro d
  induction d with
  | zero =>
    intro lo hi hd h0 hlo hhi h3
    obtain rfl : lo = L := by omega
    obtain rfl : hi = lo := by omega
    exact hend h0 h3
  | succ d ih =>
    intro lo hi hd h0 hlo hhi h3
    by_cases hlt2 : lo < hi
    · obtain ⟨m, em, m1, m2, em1⟩ := half_eq lo hi h0 hlt2 h3
      obtain ⟨u, hu, un, uv, ul⟩ := ev_times b [m] hb.1 (Dg.one (by omega) (by omega)) (by omega) (by simp)
      rw [V_one] at uv
      have hc := ev_cmp u t un ht (by simp at ul; omega)
      have key : Ev (fun k => if sgn (V u - V t) ≤ 0 then (foliotref01_divide.l1 k a b q t (c : Int) m hi) else (foliotref01_divide.l1 k a b q t (c : Int) lo (m - 1))) res := by
        by_cases hm : m ≤ L
        · have := Int.mul_le_mul_of_nonneg_left hm hvb
          have e : sgn (V u - V t) ≤ 0 := by
            rw [uv]; unfold sgn; split
            · omega
            · rw [if_neg (by omega)]; omega
          simp only [e, if_true]
          exact ih m hi (by omega) (by omega) hm hhi h3
        · have := Int.mul_le_mul_of_nonneg_left (show L + 1 ≤ m by omega) hvb
          have e : ¬ sgn (V u - V t) ≤ 0 := by
            rw [uv]; unfold sgn; rw [if_neg (by omega), if_pos (by omega)]; omega
          simp only [e, if_false]
          exact ih lo (m - 1) (by omega) h0 hlo (by omega) (by omega)
      refine Ev.step (f := fun k => (foliotref01_times.f k b ([m] : List Int)).bind fun t291 => ((foliotref01_compare.f k t291 t).bind fun t294 => (if t294 ≤ 0 then (foliotref01_divide.l1 k a b q t (c : Int) m hi) else (foliotref01_divide.l1 k a b q t (c : Int) lo (m - 1))))) (fun k => ?_) (Ev.bind hu (Ev.bind hc key))
      simp only [foliotref01_divide.l1]
      rw [if_pos hlt2, em, em1]
    · obtain rfl : lo = L := by omega
      obtain rfl : hi = lo := by omega
      exact hend h0 h3
theorem divide_l0 (a b Q R : List Int) (ha : Dg a) (hla : a.length ≤ 500) (hb : Nm b) (hlb : b.length ≤ 500) (hb0 : 0 < V b) (hQ : Nm Q) (hR : Nm R) (hQv : V Q = V a / V b) (hRv : V R = V a % V b) : ∀ (c : Nat) (q r : List Int), c ≤ a.length → q.length = a.length → Dg q → Nm r → V r < V b → V (a.drop c) = V (q.drop c) * V b + V r → Ev (fun k => foliotref01_divide.l0 k a b q r ((c : Int) - 1)) (Q, R) := by
  intro c
  induction c with
  | zero =>
    intro q r _ hq dq hr hrb hv
    simp only [List.drop_zero] at hv
    have hr0 := (V_bd hr.1).1
    have e1 : V a / V b = V q := by
      rw [hv, Int.add_comm, Int.add_mul_ediv_right _ _ (by omega), Int.ediv_eq_zero_of_lt hr0 hrb]; omega
    have e2 : V a % V b = V r := by
      rw [hv, Int.add_comm, Int.add_mul_emod_self_right, Int.emod_eq_of_lt hr0 hrb]
    obtain ⟨q', hq', qn, qv, _⟩ := ev_trim q dq (by omega)
    obtain rfl := Nm.uniq qn hQ (by rw [qv, hQv, e1])
    obtain rfl := Nm.uniq hr hR (by rw [hRv, e2])
    refine Ev.step (f := fun k => (foliotref01_trim.f k q).bind fun t => some (t, r)) (fun k => ?_) (Ev.bind hq' (Ev.now _))
    simp only [foliotref01_divide.l0]
    rw [if_neg (by omega)]
  | succ c ih =>
    intro q r hc hq dq hr hrb hv
    have da := rd_dg ha c
    have hr0 := (V_bd hr.1).1
    have hrl : r.length ≤ 500 := by
      have := hr.len (n := b.length) (by have := (V_bd hb.1).2; omega)
      omega
    obtain ⟨t, ht, tn, tv, tl⟩ := ev_trim ([rd a (c : Int)] ++ r) ((Dg.one da.1 da.2).append hr.1) (by simp; omega)
    have tv' : V t = rd a (c : Int) + 65536 * V r := by rw [tv]; rfl
    obtain ⟨L, hL⟩ : ∃ L, V t / V b = L := ⟨_, rfl⟩
    have ht0 := (V_bd tn.1).1
    have hd := Int.mul_ediv_add_emod (V t) (V b)
    have hm0 := Int.emod_nonneg (V t) (show V b ≠ 0 by omega)
    have hm1 := Int.emod_lt_of_pos (V t) hb0
    rw [hL] at hd
    have hL0 : 0 ≤ L := by rw [← hL]; exact Int.ediv_nonneg ht0 (by omega)
    have hL1 : L ≤ 65535 := by
      rcases Int.lt_or_le 65535 L with h | h
      · have := Int.mul_le_mul_of_nonneg_left (show 65536 ≤ L by omega) (Int.le_of_lt hb0); omega
      · exact h
    obtain ⟨r', hr', hrv', hrl'⟩ := Nm.ex b.length (V t % V b) hm0 (by have := (V_bd hb.1).2; omega)
    have hnext := ih (q.set c L) r' (by omega) (by rw [List.length_set]; exact hq) (dq.set _ hL0 (by omega)) hr' (by omega) (by
      rw [V_drop a c (by omega), hv, V_drop (q.set c L) c (by rw [List.length_set]; omega)]
      have e1 : rd (q.set c L) (c : Int) = L := by
        rw [rd_nat, List.getD_eq_getElem?_getD, List.getElem?_set_self (by omega)]; rfl
      have e2 : (q.set c L).drop (c + 1) = q.drop (c + 1) := List.drop_set_of_lt (by omega)
      rw [e1, e2, hrv']
      have e3 : V t % V b = V t - V b * L := by omega
      rw [e3, tv']
      grind)
    refine Ev.step (f := fun k => (foliotref01_trim.f k ([rd a (c : Int)] ++ r)).bind fun t275 => (foliotref01_divide.l1 k a b q t275 (c : Int) 0 65535)) (fun k => ?_) (Ev.bind ht (divide_l1 a b q t r' c L hb hlb tn (by simp at tl; omega) (by omega) (by omega) hr' (by omega) (by omega) (by rw [Int.mul_add, Int.mul_one]; omega) hnext 65535 0 65535 (by omega) (by omega) hL0 hL1 (by omega)))
    have e : ((c + 1 : Nat) : Int) - 1 = c := by omega
    have g1 : (c : Int) ≥ 0 := Int.natCast_nonneg _
    have g2 : (c : Int) < (a.length : Int) := by omega
    have g3 : [rd a (c : Int)].length + r.length < 17592186044416 := by simp; omega
    simp only [foliotref01_divide.l0]
    rw [e, if_pos g1, if_pos g1, if_pos g2]
    simp only [Option.bind_some]
    rw [if_pos g3]
theorem ev_divide (a b : List Int) (ha : Dg a) (hla : a.length ≤ 500) (hb : Nm b) (hlb : b.length ≤ 500) (hb0 : 0 < V b) : ∃ q r, Ev (fun k => foliotref01_divide.f k a b) (q, r) ∧ Nm q ∧ Nm r ∧ V q = V a / V b ∧ V r = V a % V b ∧ q.length ≤ a.length ∧ r.length ≤ b.length := by
  have va := V_bd ha; have vb := V_bd hb.1
  obtain ⟨q, qn, qv, ql⟩ := Nm.ex a.length (V a / V b) (Int.ediv_nonneg va.1 (by omega)) (Int.lt_of_le_of_lt (Int.ediv_le_self _ va.1) va.2)
  obtain ⟨r, rn, rv, rl⟩ := Nm.ex b.length (V a % V b) (Int.emod_nonneg _ (by omega)) (Int.lt_trans (Int.emod_lt_of_pos _ hb0) vb.2)
  refine ⟨q, r, ?_, qn, rn, qv, rv, ql, rl⟩
  unfold foliotref01_divide.f
  have e1 : ((a.length : Int)).toNat = a.length := Int.toNat_natCast _
  have e2 : wrap64 ((a.length : Int) - 1) = (a.length : Int) - 1 := w64_in (by omega) (by omega)
  rw [e2]
  clear e2
  simp only [e1, show (0 : Int) ≤ (a.length : Int) from Int.natCast_nonneg _, if_true, show a.length ≤ 35184372088832 from by omega]
  exact divide_l0 a b q r ha hla hb hlb hb0 qn rn qv rv a.length _ [] (Nat.le_refl _) (by simp) (Dg.zeros _) Nm.nil (by simp [V]; omega) (by simp [V])

theorem zs_set (m : Nat) (v : Int) : (List.replicate (m + 1) (0 : Int)).set m v = List.replicate m 0 ++ [v] := by
  rw [List.replicate_succ', List.set_append_right _ _ (by simp)]; simp
theorem zs_set2 (m : Nat) (v w : Int) : (List.replicate m (0 : Int) ++ [v]).set m w = List.replicate m 0 ++ [w] := by
  rw [List.set_append_right _ _ (by simp)]; simp
theorem zs_rd (m : Nat) (v : Int) : rd (List.replicate m (0 : Int) ++ [v]) (m : Int) = v := by
  rw [rd_nat, List.getD_eq_getElem?_getD, List.getElem?_append_right (by simp)]; simp
theorem two_l0 (n : Nat) (hn : n ≤ 10000) : ∀ (d j : Nat), j + d = n % 16 → Ev (fun k => foliotref01_two.l0 k (n : Int) (j : Int) (List.replicate (n / 16) 0 ++ [2 ^ j]) false) (List.replicate (n / 16) 0 ++ [2 ^ (n % 16)], false) := by
  have et : Int.tmod (n : Int) 16 = ((n % 16 : Nat) : Int) := by rw [Int.tmod_eq_emod_of_nonneg (Int.natCast_nonneg _)]; omega
  have ed : wrap64 (Int.tdiv (n : Int) 16) = ((n / 16 : Nat) : Int) := by
    rw [Int.tdiv_eq_ediv_of_nonneg (Int.natCast_nonneg _), w64_in (by omega) (by omega)]; omega
  intro d
  induction d with
  | zero =>
    intro j hj
    refine Ev.succ fun k => ?_
    simp only [foliotref01_two.l0]
    rw [et, if_neg (by omega), show j = n % 16 by omega]
  | succ d ih =>
    intro j hj
    refine Ev.step (fun k => ?_) (ih (j + 1) (by omega))
    have hp := pow_le (show j ≤ 15 by omega)
    have e15 : (2 : Int) ^ 15 = 32768 := rfl
    have hp0 : (0 : Int) < 2 ^ j := Int.pow_pos (by decide)
    have c1 : (j : Int) < ((n % 16 : Nat) : Int) := by clear ed et; omega
    have c2 : (0 : Int) ≤ ((n / 16 : Nat) : Int) := Int.natCast_nonneg _
    have c3 : ((n / 16 : Nat) : Int) < ((List.replicate (n / 16) (0 : Int) ++ [2 ^ j]).length : Int) := by simp; clear ed et; omega
    have e1 : wrap64 ((2 : Int) ^ j * 2) = 2 ^ (j + 1) := by rw [w64_in (by clear ed et; omega) (by clear ed et; omega), Int.pow_succ]
    have e2 : wrap64 ((j : Int) + 1) = ((j + 1 : Nat) : Int) := by rw [w64_in (by clear ed et e1; omega) (by clear ed et e1; omega)]; rfl
    simp only [foliotref01_two.l0]
    rw [et, ed, if_pos c1, if_pos c2, if_pos c3, e2, zs_rd, e1, Int.toNat_natCast, zs_set2]
theorem ev_two (n : Nat) (hn : n ≤ 10000) : ∃ l, Ev (fun k => foliotref01_two.f k (n : Int)) (l, false) ∧ Nm l ∧ V l = 2 ^ n ∧ l.length = n / 16 + 1 := by
  have hp := pow_le (show n % 16 ≤ 15 by omega)
  have e15 : (2 : Int) ^ 15 = 32768 := rfl
  have hp0 : (0 : Int) < 2 ^ (n % 16) := Int.pow_pos (by decide)
  refine ⟨List.replicate (n / 16) 0 ++ [2 ^ (n % 16)], ?_, ⟨(Dg.zeros _).append (Dg.one (by omega) (by omega)), fun hne => ?_⟩, ?_, by simp⟩
  · have ed : wrap64 (Int.tdiv (n : Int) 16) = ((n / 16 : Nat) : Int) := by
      rw [Int.tdiv_eq_ediv_of_nonneg (Int.natCast_nonneg _), w64_in (by omega) (by omega)]; omega
    have e2 : wrap64 (((n / 16 : Nat) : Int) + 1) = ((n / 16 + 1 : Nat) : Int) := by rw [w64_in (by clear ed; omega) (by clear ed; omega)]; rfl
    have c1 : (0 : Int) ≤ ((n / 16 + 1 : Nat) : Int) := Int.natCast_nonneg _
    have c2 : n / 16 + 1 ≤ 35184372088832 := by clear ed e2; omega
    have c3 : (0 : Int) ≤ ((n / 16 : Nat) : Int) := Int.natCast_nonneg _
    have c4 : ((n / 16 : Nat) : Int) < ((List.replicate (n / 16 + 1) (0 : Int)).length : Int) := by simp; clear ed e2; omega
    unfold foliotref01_two.f
    rw [ed, e2]
    simp only [c1, if_true, Int.toNat_natCast, c2, Option.bind_some, c3, c4, zs_set]
    exact two_l0 n hn (n % 16) 0 (by omega)
  · simp; omega
  · rw [V_append, V_zeros]
    simp only [V, List.length_replicate, Int.mul_zero, Int.add_zero, Int.zero_add]
    have : (65536 : Int) ^ (n / 16) = 2 ^ (16 * (n / 16)) := by rw [Int.pow_mul]; rfl
    rw [this, ← Int.pow_add, Nat.div_add_mod]

theorem of_l0 (R : List Int) (hR : Nm R) (m : Bool) : ∀ (d : Nat) (u : Int) (x : List Int), 0 ≤ u → u < 65536 ^ d → u < 18446744073709551616 → Dg x → x.length + d ≤ 100 → (u = 0 → Nm x) → V x + 65536 ^ x.length * u = V R → Ev (fun k => foliotref01_of.l0 k u x m) (R, m) := by
  have hend : ∀ (x : List Int), Nm x → V x = V R → Ev (fun k => foliotref01_of.l0 k 0 x m) (R, m) := by
    intro x hx hv
    obtain rfl := Nm.uniq hx hR hv
    refine Ev.succ fun k => ?_
    simp only [foliotref01_of.l0]
    rw [if_neg (by omega)]
  intro d
  induction d with
  | zero =>
    intro u x h0 h1 _ dx hl hz hv
    obtain rfl : u = 0 := by simp at h1; omega
    exact hend x (hz rfl) (by simpa using hv)
  | succ d ih =>
    intro u x h0 h1 h2 dx hl hz hv
    by_cases hu : u = 0
    · subst hu; exact hend x (hz rfl) (by simpa using hv)
    · rw [Int.pow_succ] at h1
      have key := ih (u / 65536) (x ++ [u % 65536]) (by omega) (by omega) (by omega) (dx.append (Dg.one (by omega) (by omega))) (by simp; omega) (fun hz2 => ⟨dx.append (Dg.one (by omega) (by omega)), fun hne => by simp; omega⟩) (by
        rw [V_append, V_one, List.length_append, ← hv]
        simp only [List.length_cons, List.length_nil, Nat.zero_add, Int.pow_succ]
        have e : u = u % 65536 + 65536 * (u / 65536) := by omega
        generalize u % 65536 = u1 at *
        generalize u / 65536 = u2 at *
        subst e
        grind)
      have e1 : IntKind.u64.wrap (Int.tdiv u 65536) = u / 65536 := by rw [Int.tdiv_eq_ediv_of_nonneg h0]; exact u64_in (by omega) (by omega)
      have e2 : wrap64 (Int.tmod u 65536) = u % 65536 := by rw [Int.tmod_eq_emod_of_nonneg h0]; exact w64_in (by omega) (by omega)
      have c1 : u > 0 := by clear e1 e2; omega
      have c2 : x.length < 17592186044416 := by clear e1 e2; omega
      refine Ev.step (fun k => ?_) key
      simp only [foliotref01_of.l0]
      rw [if_pos c1, if_pos c2, e1, e2]
theorem ev_of (a : Int) (ha0 : -9223372036854775808 ≤ a) (ha : a ≤ 9223372036854775807) : ∃ l, Ev (fun k => foliotref01_of.f k a) (l, decide (a < 0)) ∧ Big 4 l (decide (a < 0)) a := by
  obtain ⟨u, hu, hu0, hu1, hua⟩ : ∃ u, (if a < 0 then -a else a) = u ∧ 0 ≤ u ∧ u ≤ 9223372036854775808 ∧ a = if a < 0 then -u else u := by
    refine ⟨_, rfl, ?_, ?_, ?_⟩ <;> split <;> omega
  obtain ⟨R, hR, hv, hl⟩ := Nm.ex 4 u hu0 (by omega)
  have key := of_l0 R hR (decide (a < 0)) 4 u [] hu0 (by omega) (by omega) Dg.nil (by simp) (fun _ => Nm.nil) (by simp [V, hv])
  have k2 : Ev (fun k => foliotref01_of.j0 k u (decide (a < 0))) (R, decide (a < 0)) := Ev.step (fun k => by simp only [foliotref01_of.j0]) key
  refine ⟨R, ?_, hR, hl, ?_⟩
  · unfold foliotref01_of.f
    by_cases h : a < 0
    · rw [if_pos h] at hu
      have e1 : wrap64 (a + 1) = a + 1 := w64_in (by omega) (by omega)
      have e2 : wrap64 (-(a + 1)) = -(a + 1) := w64_in (by clear e1; omega) (by clear e1; omega)
      have e3 : IntKind.u64.wrap (-(a + 1)) = -(a + 1) := u64_in (by clear e1 e2; omega) (by clear e1 e2; omega)
      have e4 : IntKind.u64.wrap (-(a + 1) + 1) = u := by rw [u64_in (by clear e1 e2 e3; omega) (by clear e1 e2 e3; omega)]; clear e1 e2 e3; omega
      rw [e1, e2, e3, e4]
      simp only [h, if_true]
      simp only [h] at k2
      exact k2
    · rw [if_neg h] at hu
      subst hu
      rw [u64_in (n := a) (by omega) (by omega)]
      refine Ev.congr (fun k => ?_) k2
      rw [if_neg h]
  · rw [hv]
    by_cases h : a < 0
    · rw [decide_eq_true h, if_pos rfl]; rw [if_pos h] at hua; exact hua
    · rw [decide_eq_false h, if_neg (by decide)]; rw [if_neg h] at hua; exact hua

theorem ev_s (a : Int) (ha0 : -9223372036854775808 ≤ a) (ha : a ≤ 9223372036854775807) : ∃ l, Ev (fun k => foliotref01_s.f k a) (l, decide (a < 0)) ∧ Big 4 l (decide (a < 0)) a := by
  obtain ⟨l, h, hb⟩ := ev_of a ha0 ha
  exact ⟨l, Ev.bind h (Ev.now _), hb⟩

theorem V_drop_le {l : List Int} (h : Dg l) : ∀ c : Nat, V (l.drop c) ≤ V l
  | 0 => by simp
  | c + 1 => by
    have ih := V_drop_le h c
    by_cases hc : c < l.length
    · rw [V_drop l c hc] at ih
      have := rd_dg h c
      have := (V_bd (h.drop (c + 1))).1
      omega
    · rw [List.drop_eq_nil_of_le (by omega)]; exact (V_bd h).1
theorem cutB_l0 (l : List Int) (m : Bool) (hl : Dg l) (hn : l.length ≤ 100000) (hv : V l < 4611686018427387904) : ∀ c : Nat, c ≤ l.length → Ev (fun k => foliotref01_cut.l0 k (V (l.drop c)) ((c : Int) - 1) l m) (if m = true then -V l else V l) := by
  have h0 := (V_bd hl).1
  intro c
  induction c with
  | zero =>
    intro _
    refine Ev.succ fun k => ?_
    simp only [foliotref01_cut.l0, List.drop_zero]
    rw [if_neg (by omega)]
    have e : wrap64 (-V l) = -V l := w64_in (by omega) (by omega)
    rw [e]; cases m <;> rfl
  | succ c ih =>
    intro hc
    have hd := V_drop l c (by omega)
    have hle := V_drop_le hl c
    have hr := rd_dg hl c
    have h1 := (V_bd (hl.drop (c + 1))).1
    have c1 : (c : Int) ≥ 0 := Int.natCast_nonneg _
    have c2 : (c : Int) < (l.length : Int) := by omega
    have e0 : ((c + 1 : Nat) : Int) - 1 = c := by omega
    have b1 : -9223372036854775808 ≤ V (l.drop (c + 1)) * 65536 ∧ V (l.drop (c + 1)) * 65536 ≤ 9223372036854775807 := by omega
    have b2 : -9223372036854775808 ≤ V (l.drop c) ∧ V (l.drop c) ≤ 9223372036854775807 := by omega
    have e1 : V (l.drop (c + 1)) * 65536 + rd l (c : Int) = V (l.drop c) := by omega
    have e2 : wrap64 ((c : Int) - 1) = (c : Int) - 1 := w64_in (by clear e1; omega) (by clear e1; omega)
    refine Ev.step (fun k => ?_) (ih (by clear e2; omega))
    simp only [foliotref01_cut.l0]
    rw [e0, if_pos c1, if_pos c1, if_pos c2, w64_in b1.1 b1.2, e1, w64_in b2.1 b2.2, e2]
theorem ev_cutB {n : Nat} {l : List Int} {m : Bool} {x : Int} (h : Big n l m x) (hn : n ≤ 1000) (most : Int) (h0 : 0 < most) (h1 : most ≤ 4611686018427387904) : Ev (fun k => foliotref01_cut.f k l m most) (clampTo most x) := by
  obtain ⟨hl, hlen, hx⟩ := h
  obtain ⟨lm, hm, hmb⟩ := ev_of most (by omega) (by omega)
  have hneg : decide (most < 0) = false := decide_eq_false (by omega)
  rw [hneg] at hm hmb
  obtain ⟨hln, hll, hlv⟩ := hmb
  simp only [Bool.false_eq_true, if_false] at hlv
  have hv0 := (V_bd hl.1).1
  have hc := ev_cmp l lm hl hln (by omega)
  unfold foliotref01_cut.f
  refine Ev.bind hm (Ev.bind hc ?_)
  by_cases hge : most ≤ V l
  · have e : sgn (V l - V lm) ≥ 0 := by unfold sgn; rw [if_neg (by omega)]; split <;> omega
    simp only [e, if_true]
    have e1 : wrap64 (-most) = -most := w64_in (by omega) (by omega)
    rw [e1]
    have : clampTo most x = if m = true then -most else most := by
      rw [hx]; cases m
      · simp only [Bool.false_eq_true, if_false]; unfold clampTo; rw [if_neg (by omega)]
      · simp only [if_true]; unfold clampTo; rw [if_pos (by omega), if_neg (by omega)]
    rw [this]
    cases m <;> exact Ev.now _
  · have e : ¬ sgn (V l - V lm) ≥ 0 := by unfold sgn; rw [if_pos (by omega)]; omega
    simp only [e, if_false]
    have e1 : wrap64 ((l.length : Int) - 1) = (l.length : Int) - 1 := w64_in (by omega) (by omega)
    rw [e1]
    have := cutB_l0 l m hl.1 (by omega) (by omega) l.length (Nat.le_refl _)
    rw [List.drop_length] at this
    rw [show clampTo most x = if m = true then -V l else V l from by
      rw [hx]; cases m
      · simp only [Bool.false_eq_true, if_false]; unfold clampTo; rw [if_pos (by omega), if_pos (by omega)]
      · simp only [if_true]; unfold clampTo; rw [if_pos (by omega), if_pos (by omega)]]
    exact this
theorem ev_spanB {n : Nat} {l : List Int} {m : Bool} {x : Int} (h : Big n l m x) (hn : n ≤ 1000) : Ev (fun k => foliotref01_span.f k l m) (sat x) := by
  unfold foliotref01_span.f
  exact Ev.bind (ev_cutB h hn _ (by omega) (by omega)) (Ev.now _)

theorem ev_productB {n n' : Nat} {a b : List Int} {m m' : Bool} {x y : Int} (h : Big n a m x) (h' : Big n' b m' y) (hn : n ≤ 200) (hn' : n' ≤ 200) : ∃ r, Ev (fun k => foliotref01_product.f k a m b m') (r, (m != m')) ∧ Big (n + n') r (m != m') (x * y) := by
  obtain ⟨ha, hla, hx⟩ := h; obtain ⟨hb, hlb, hy⟩ := h'
  obtain ⟨r, hr, rn, rv, rl⟩ := ev_times a b ha.1 hb.1 (by omega) (by omega)
  refine ⟨r, ?_, rn, by omega, ?_⟩
  · unfold foliotref01_product.f
    exact Ev.bind hr (Ev.now _)
  · rw [rv, hx, hy]; cases m <;> cases m' <;> simp [Int.neg_mul, Int.mul_neg]

theorem ev_sumB {n n' : Nat} {a b : List Int} {m m' : Bool} {x y : Int} (h : Big n a m x) (h' : Big n' b m' y) (hn : n ≤ 200) (hn' : n' ≤ 200) : ∃ r q, Ev (fun k => foliotref01_sum.f k a m b m') (r, q) ∧ Big (max n n' + 1) r q (x + y) := by
  obtain ⟨ha, hla, hx⟩ := h; obtain ⟨hb, hlb, hy⟩ := h'
  unfold foliotref01_sum.f
  by_cases hm : m = m'
  · subst hm
    obtain ⟨r, hr, rn, rv, rl⟩ := ev_plus a b ha.1 hb.1 (by omega) (by omega)
    refine ⟨r, m, ?_, rn, by omega, ?_⟩
    · simp only [beq_self_eq_true, if_true]
      exact Ev.bind hr (Ev.now _)
    · rw [rv, hx, hy]; cases m <;> simp <;> omega
  · have hne : (m == m') = false := by simpa using hm
    have hc := ev_cmp a b ha hb (by omega)
    have hxy : x + y = if m = true then V b - V a else V a - V b := by
      rw [hx, hy]; cases m <;> cases m' <;> simp at hm ⊢ <;> omega
    simp only [hne, Bool.false_eq_true, if_false]
    by_cases hge : V b ≤ V a
    · obtain ⟨r, hr, rn, rv, rl⟩ := ev_minus a b ha.1 hb (by omega) hge
      have e : sgn (V a - V b) ≥ 0 := by unfold sgn; rw [if_neg (by omega)]; split <;> omega
      refine ⟨r, m, Ev.bind hc ?_, rn, by omega, ?_⟩
      · simp only [e, if_true]
        exact Ev.bind hr (Ev.now _)
      · rw [hxy, rv]; cases m <;> simp; omega
    · obtain ⟨r, hr, rn, rv, rl⟩ := ev_minus b a hb.1 ha (by omega) (by omega)
      have e : ¬ sgn (V a - V b) ≥ 0 := by unfold sgn; rw [if_pos (by omega)]; omega
      refine ⟨r, m', Ev.bind hc ?_, rn, by omega, ?_⟩
      · simp only [e, if_false]
        exact Ev.bind hr (Ev.now _)
      · rw [hxy, rv]; cases m <;> cases m' <;> simp at hm ⊢; omega

theorem ev_downB {n n' : Nat} {a b : List Int} {m : Bool} {x y : Int} (h : Big n a m x) (m' : Bool) (h' : Big n' b false y) (hy : 0 < y) (hn : n ≤ 200) (hn' : n' ≤ 200) : ∃ r, Ev (fun k => foliotref01_down.f k a m b m') (r, m) ∧ Big (n + 2) r m (x / y) := by
  obtain ⟨ha, hla, hx⟩ := h; obtain ⟨hb, hlb, hyv⟩ := h'
  simp only [Bool.false_eq_true, if_false] at hyv
  rw [hyv] at hy ⊢
  obtain ⟨q, r, hd, qn, rn, qv, rv, ql, rl⟩ := ev_divide a b ha.1 (by omega) hb (by omega) hy
  have hda := Int.mul_ediv_add_emod (V a) (V b)
  have hm0 := Int.emod_nonneg (V a) (show V b ≠ 0 by omega)
  have hm1 := Int.emod_lt_of_pos (V a) hy
  unfold foliotref01_down.f
  cases m with
  | false =>
    simp only [Bool.false_eq_true, if_false] at hx
    refine ⟨q, Ev.bind hd ?_, qn, by omega, ?_⟩
    · simp only [Bool.false_eq_true, if_false]; exact Ev.now _
    · simp only [Bool.false_eq_true, if_false]; rw [qv, hx]
  | true =>
    simp only [if_true] at hx
    by_cases hr : r = []
    · subst hr
      refine ⟨q, Ev.bind hd ?_, qn, by omega, ?_⟩
      · simp only [if_true, List.length_nil, show ¬ (((0 : Nat) : Int) > 0) from by decide, if_false]; exact Ev.now _
      · simp only [if_true]
        have e0 : V a % V b = 0 := by rw [← rv]; rfl
        rw [hx, show -V a = (-V q) * V b by rw [qv, Int.neg_mul, Int.mul_comm]; omega, Int.mul_ediv_cancel _ (by omega)]
    · have hr0 : V r ≠ 0 := fun e => hr (rn.zero e)
      have hrp : (r.length : Int) > 0 := by have := List.length_pos_iff.2 hr; omega
      obtain ⟨p, hp, pn, pv, pl⟩ := ev_plus q [1] qn.1 (Dg.one (by omega) (by omega)) (by omega) (by simp)
      refine ⟨p, Ev.bind hd ?_, pn, by simp at pl; omega, ?_⟩
      · simp only [if_true, hrp]; exact Ev.bind hp (Ev.now _)
      · simp only [if_true]
        rw [pv, V_one, hx]
        have e : -V a = (V b - V a % V b) + (-(V q + 1)) * V b := by
          rw [qv, Int.neg_mul, Int.add_mul, Int.one_mul, Int.mul_comm (V a / V b)]; omega
        rw [e, Int.add_mul_ediv_right _ _ (by omega), Int.ediv_eq_zero_of_lt (by omega) (by omega)]
        omega

theorem ref_add (a b : Int) (ha0 : -9223372036854775808 ≤ a) (ha : a ≤ 9223372036854775807) (hb0 : -9223372036854775808 ≤ b) (hb : b ≤ 9223372036854775807) : Ev (fun k => foliotref01_Add.f k a b) (sat (a + b)) := by
  obtain ⟨x, ex, bx⟩ := ev_s a ha0 ha
  obtain ⟨y, ey, by_⟩ := ev_s b hb0 hb
  obtain ⟨r, q, er, br⟩ := ev_sumB bx by_ (by omega) (by omega)
  unfold foliotref01_Add.f
  exact Ev.bind ex (Ev.bind ey (Ev.bind er (Ev.bind (ev_spanB br (by omega)) (Ev.now _))))

theorem two_big (n : Nat) (hn : n ≤ 1000) : ∃ l, Ev (fun k => foliotref01_two.f k (n : Int)) (l, false) ∧ Big 63 l false (2 ^ n) := by
  obtain ⟨l, h, ln, lv, ll⟩ := ev_two n (by omega)
  exact ⟨l, h, ln, by omega, by rw [lv]; simp⟩

theorem ref_drift (a b : Int) (ha0 : -9223372036854775808 ≤ a) (ha : a ≤ 9223372036854775807) (hb0 : -9223372036854775808 ≤ b) (hb : b ≤ 9223372036854775807) : Ev (fun k => foliotref01_Drift.f k a b) (sat (a * b / 281474976710656)) := by
  obtain ⟨x, ex, bx⟩ := ev_of a ha0 ha
  obtain ⟨y, ey, by_⟩ := ev_s b hb0 hb
  obtain ⟨r, er, br⟩ := ev_productB bx by_ (by omega) (by omega)
  obtain ⟨t, et, bt⟩ := two_big 48 (by omega)
  obtain ⟨d, ed, bd⟩ := ev_downB br false bt (by omega) (by omega) (by omega)
  unfold foliotref01_Drift.f
  exact Ev.bind ex (Ev.bind ey (Ev.bind er (Ev.bind et (Ev.bind ed (Ev.bind (ev_spanB bd (by omega)) (Ev.now _))))))

theorem ref_shift_j0 (a n : Int) (ha0 : -9223372036854775808 ≤ a) (ha : a ≤ 9223372036854775807) (hn0 : -200 ≤ n) (hn : n < 0) : Ev (fun k => foliotref01_Shift.j0 k a n) (sat (a / 2 ^ (-n).toNat)) := by
  obtain ⟨x, ex, bx⟩ := ev_s a ha0 ha
  obtain ⟨m, hm⟩ : ∃ m : Nat, -n = m := ⟨(-n).toNat, by omega⟩
  obtain ⟨t, et, bt⟩ := two_big m (by omega)
  obtain ⟨d, ed, bd⟩ := ev_downB bx false bt (Int.pow_pos (by decide)) (by omega) (by omega)
  refine Ev.step (fun k => by simp only [foliotref01_Shift.j0]; rw [hm, w64_in (n := (m : Int)) (by omega) (by omega)]) ?_
  rw [hm, Int.toNat_natCast]
  exact Ev.bind ex (Ev.bind et (Ev.bind ed (Ev.bind (ev_spanB bd (by omega)) (Ev.now _))))
theorem div_bigR {a : Int} {m : Nat} (h0 : -9223372036854775808 ≤ a) (h1 : a ≤ 9223372036854775807) (hm : 63 ≤ m) : a / 2 ^ m = if a < 0 then -1 else 0 := by
  have hp := pow_le hm
  have e63 : (2 : Int) ^ 63 = 9223372036854775808 := rfl
  rw [e63] at hp
  by_cases h : a < 0
  · rw [if_pos h, show a = (a + 2 ^ m) + (-1) * 2 ^ m by omega, Int.add_mul_ediv_right _ _ (by omega), Int.ediv_eq_zero_of_lt (by omega) (by omega)]; rfl
  · rw [if_neg h]; exact Int.ediv_eq_zero_of_lt (by omega) (by omega)
theorem sat_pow_bigR {a : Int} {n : Nat} (hn : 62 ≤ n) : sat (a * 2 ^ n) = if a < 0 then -4611686018427387904 else if a = 0 then 0 else 4611686018427387904 := by
  have hp := pow_le hn
  have e62 : (2 : Int) ^ 62 = 4611686018427387904 := rfl
  rw [e62] at hp
  generalize (2 : Int) ^ n = P at *
  unfold sat clampTo
  by_cases h : a < 0
  · have := Int.mul_le_mul_of_nonneg_right (show a ≤ -1 by omega) (show 0 ≤ P by omega)
    rw [if_pos h]; (repeat' split) <;> omega
  · rw [if_neg h]
    by_cases h2 : a = 0
    · rw [if_pos h2, h2]; simp
    · have := Int.mul_le_mul_of_nonneg_right (show 1 ≤ a by omega) (show 0 ≤ P by omega)
      rw [if_neg h2]; (repeat' split) <;> omega
theorem ref_shift (a n : Int) (ha0 : -9223372036854775808 ≤ a) (ha : a ≤ 9223372036854775807) (hn0 : -9223372036854775808 ≤ n) (hn : n ≤ 9223372036854775807) : Ev (fun k => foliotref01_Shift.f k a n) (if n < 0 then sat (a / 2 ^ (-n).toNat) else sat (a * 2 ^ n.toNat)) := by
  unfold foliotref01_Shift.f
  by_cases h : n ≥ 0
  · simp only [h, if_true, show ¬ n < 0 from by omega, if_false]
    obtain ⟨x, ex, bx⟩ := ev_s a ha0 ha
    obtain ⟨m, hm, hm2, hm3⟩ : ∃ m : Nat, mn n 200 = m ∧ m ≤ 200 ∧ (m = n.toNat ∨ (62 ≤ m ∧ 62 ≤ n.toNat)) := by
      refine ⟨(mn n 200).toNat, ?_, ?_, ?_⟩ <;> unfold mn <;> split <;> omega
    obtain ⟨t, et, bt⟩ := two_big m (by omega)
    obtain ⟨r, er, br⟩ := ev_productB bx bt (by omega) (by omega)
    have e : sat (a * 2 ^ n.toNat) = sat (a * 2 ^ m) := by
      rcases hm3 with h3 | ⟨h3, h4⟩
      · rw [h3]
      · rw [sat_pow_bigR h3, sat_pow_bigR h4]
    rw [e, hm]
    exact Ev.bind ex (Ev.bind et (Ev.bind er (Ev.bind (ev_spanB br (by omega)) (Ev.now _))))
  · simp only [h, if_false, show n < 0 from by omega, if_true]
    by_cases h2 : n < -200
    · simp only [h2, if_true]
      have := ref_shift_j0 a (-200) ha0 ha (by omega) (by omega)
      rw [div_bigR (m := (-(-200 : Int)).toNat) ha0 ha (by decide)] at this
      rw [div_bigR ha0 ha (by omega)]
      exact this
    · simp only [h2, if_false]
      exact ref_shift_j0 a n ha0 ha (by omega) (by omega)

theorem w64_rng (x : Int) : -9223372036854775808 ≤ wrap64 x ∧ wrap64 x ≤ 9223372036854775807 := by unfold wrap64; omega
def sinceVal (a b : Int) : Int := sat (wrap64 (IntKind.u64.wrap (a - b)))
theorem ev_since (a b : Int) : Ev (fun k => stamp_Since.f k a b) (sinceVal a b) := by
  unfold stamp_Since.f
  have hr := w64_rng (IntKind.u64.wrap (a - b))
  have h := ev_clamp (wrap64 (IntKind.u64.wrap (a - b))) 4611686018427387904 hr.1 hr.2 (by omega) (by omega)
  rw [if_neg (by omega)] at h
  have e : sat (mx (mn (wrap64 (IntKind.u64.wrap (a - b))) 4611686018427387904) (-4611686018427387904)) = sinceVal a b := by
    unfold sinceVal
    generalize wrap64 (IntKind.u64.wrap (a - b)) = x
    unfold sat clampTo mx mn
    (repeat' split) <;> omega
  rw [e] at h
  exact Ev.bind h (Ev.now _)

theorem ref_since (a b : Int) : foliotref02_Since.f a b = some (sinceVal a b) := by
  unfold foliotref02_Since.f foliotref02_Cut.f
  have e : mx (-4611686018427387904) (mn (wrap64 (IntKind.u64.wrap (a - b))) 4611686018427387904) = sinceVal a b := by
    unfold sinceVal
    generalize wrap64 (IntKind.u64.wrap (a - b)) = x
    unfold sat clampTo mx mn
    (repeat' split) <;> omega
  rw [e]
  rfl

def ageVal (e ref now : Int) : Int := mx (mn (sat (e + sat (4222124650 * mx (sinceVal now ref) 0 / 281474976710656))) 68719476736) 0
theorem since_rng (a b : Int) : -4611686018427387904 ≤ sinceVal a b ∧ sinceVal a b ≤ 4611686018427387904 := sat_in _
theorem mx0_rng {x : Int} (h0 : -4611686018427387904 ≤ x) (h1 : x ≤ 4611686018427387904) : -9223372036854775808 ≤ mx x 0 ∧ mx x 0 ≤ 9223372036854775807 := by
  unfold mx; split <;> omega
theorem ageVal_rng (e ref now : Int) : 0 ≤ ageVal e ref now ∧ ageVal e ref now ≤ 68719476736 := by
  unfold ageVal
  generalize sat (e + sat (4222124650 * mx (sinceVal now ref) 0 / 281474976710656)) = x
  unfold mx mn
  (repeat' split) <;> omega
theorem ev_age (a0 a1 a2 a3 a4 a5 a6 a7 a8 a9 a10 now : Int) (h0 : -9223372036854775808 ≤ a4) (h1 : a4 ≤ 9223372036854775807) :
    Ev (fun k => system_Age.f k a0 a1 a2 a3 a4 a5 a6 a7 a8 a9 a10 now) (a0, a1, a2, a3, ageVal a4 a6 now, a5, a6, a7, a8, a9, a10) := by
  unfold system_Age.f
  have hs := since_rng now a6
  have hm := mx0_rng hs.1 hs.2
  have hd := sat_in (4222124650 * mx (sinceVal now a6) 0 / 281474976710656)
  refine Ev.bind (ev_since now a6) (Ev.bind (ev_drift 4222124650 _ (by omega) (by omega) hm.1 hm.2) (Ev.bind (ev_add a4 _ h0 h1 (by omega) (by omega)) ?_))
  unfold system_within.f ageVal
  exact Ev.now _

theorem ref_age (a0 a1 a2 a3 a4 a5 a6 a7 a8 a9 a10 now : Int) (h0 : -9223372036854775808 ≤ a4) (h1 : a4 ≤ 9223372036854775807) :
    Ev (fun k => foliotref17_Age.f k a0 a1 a2 a3 a4 a5 a6 a7 a8 a9 a10 now) (a0, a1, a2, a3, ageVal a4 a6 now, a5, a6, a7, a8, a9, a10) := by
  unfold foliotref17_Age.f
  have hs := since_rng now a6
  have hm := mx0_rng hs.1 hs.2
  have e1 : mx 0 (sinceVal now a6) = mx (sinceVal now a6) 0 := by unfold mx; (repeat' split) <;> omega
  have hd := sat_in (4222124650 * mx (sinceVal now a6) 0 / 281474976710656)
  refine Ev.bind (Ev.const (ref_since now a6)) ?_
  rw [e1]
  refine Ev.bind (ref_drift 4222124650 _ (by omega) (by omega) hm.1 hm.2) (Ev.bind (ref_add a4 _ h0 h1 (by omega) (by omega)) ?_)
  have e2 : mx 0 (mn (sat (a4 + sat (4222124650 * mx (sinceVal now a6) 0 / 281474976710656))) 68719476736) = ageVal a4 a6 now := by
    unfold ageVal
    generalize sat (a4 + sat (4222124650 * mx (sinceVal now a6) 0 / 281474976710656)) = x
    unfold mx mn
    (repeat' split) <;> omega
  unfold foliotref17_inside.f
  simp only [Option.bind_some]
  rw [e2]
  exact Ev.now _

def distVal (d e ref now : Int) : Int := sat (shiftVal d (-1) + ageVal e ref now)
theorem shiftVal_rng (a n : Int) : -4611686018427387904 ≤ shiftVal a n ∧ shiftVal a n ≤ 4611686018427387904 := by
  unfold shiftVal; split <;> exact sat_in _
theorem ev_distance (a0 a1 a2 a3 a4 a5 a6 a7 a8 a9 a10 now : Int) (h0 : -9223372036854775808 ≤ a4) (h1 : a4 ≤ 9223372036854775807) (h2 : -9223372036854775808 ≤ a3) (h3 : a3 ≤ 9223372036854775807) :
    Ev (fun k => system_Distance.f k a0 a1 a2 a3 a4 a5 a6 a7 a8 a9 a10 now) (distVal a3 a4 a6 now) := by
  unfold system_Distance.f
  have hs := shiftVal_rng a3 (-1)
  have ha := ageVal_rng a4 a6 now
  exact Ev.bind (ev_shift a3 (-1) h2 h3 (by omega) (by omega)) (Ev.bind (ev_age a0 a1 a2 a3 a4 a5 a6 a7 a8 a9 a10 now h0 h1) (Ev.bind (ev_add _ _ (by omega) (by omega) (by show -9223372036854775808 ≤ ageVal a4 a6 now; omega) (by show ageVal a4 a6 now ≤ 9223372036854775807; omega)) (Ev.now _)))

theorem ref_distance (a0 a1 a2 a3 a4 a5 a6 a7 a8 a9 a10 now : Int) (h0 : -9223372036854775808 ≤ a4) (h1 : a4 ≤ 9223372036854775807) (h2 : -9223372036854775808 ≤ a3) (h3 : a3 ≤ 9223372036854775807) :
    Ev (fun k => foliotref17_Distance.f k a0 a1 a2 a3 a4 a5 a6 a7 a8 a9 a10 now) (distVal a3 a4 a6 now) := by
  unfold foliotref17_Distance.f
  have hs := shiftVal_rng a3 (-1)
  have ha := ageVal_rng a4 a6 now
  have hsh := ref_shift a3 (-1) h2 h3 (by omega) (by omega)
  exact Ev.bind hsh (Ev.bind (ref_age a0 a1 a2 a3 a4 a5 a6 a7 a8 a9 a10 now h0 h1) (Ev.bind (ref_add (shiftVal a3 (-1)) _ (by omega) (by omega) (by show -9223372036854775808 ≤ ageVal a4 a6 now; omega) (by show ageVal a4 a6 now ≤ 9223372036854775807; omega)) (Ev.now _)))

def syncedVal (a0 a1 : Int) : Bool := if a0 = 3 then false else if 1 ≤ a1 then decide (a1 < 16) else false
theorem ev_synced (a0 a1 a2 a3 a4 a5 a6 a7 a8 a9 a10 : Int) : system_Synced.f a0 a1 a2 a3 a4 a5 a6 a7 a8 a9 a10 = some (syncedVal a0 a1) := by
  unfold system_Synced.f syncedVal
  (repeat' split) <;> rfl

theorem ref_synced (a0 a1 a2 a3 a4 a5 a6 a7 a8 a9 a10 : Int) : foliotref17_Synced.f a0 a1 a2 a3 a4 a5 a6 a7 a8 a9 a10 = some (syncedVal a0 a1) := by
  unfold foliotref17_Synced.f syncedVal
  show (if a0 = 3 then some false else if 1 ≤ a1 then some (decide (a1 < 16)) else some false) = _
  (repeat' split) <;> rfl

theorem SystemAges : foliotlaw17_SystemAges.Pure := by
  intro a0 a1 a2 a3 a4 a5 a6 a7 a8 a9 a10 l0 l1 l2 b3 l4 b5 l6 b7 b8 b9 b10 b11 b12 b13 b14 now
  intro h0 h1 h2 h3 h4 h5 h6 h7 h8 h9 h10
  intros
  have h3 := wf64 h3; have h4 := wf64 h4
  refine Ev.rounds (r := true) ?_
  unfold foliotlaw17_SystemAges.f system_New.f foliotref17_New.f
  simp only [Option.bind_some, BEq.rfl, Bool.and_self, if_true]
  refine Ev.bind (ev_age a0 a1 a2 a3 a4 a5 a6 a7 a8 a9 a10 now h4.1 h4.2) (Ev.bind (ref_age a0 a1 a2 a3 a4 a5 a6 a7 a8 a9 a10 now h4.1 h4.2) ?_)
  simp only [BEq.rfl, Bool.and_self, if_true]
  refine Ev.bind (ev_distance a0 a1 a2 a3 a4 a5 a6 a7 a8 a9 a10 now h4.1 h4.2 h3.1 h3.2) (Ev.bind (ref_distance a0 a1 a2 a3 a4 a5 a6 a7 a8 a9 a10 now h4.1 h4.2 h3.1 h3.2) ?_)
  simp only [if_true]
  rw [ev_synced, ref_synced]
  simp only [Option.bind_some, BEq.rfl]
  exact Ev.now _

end Go.Proofs.Ytbcdoncnhhjjeaa.CSystemAges
