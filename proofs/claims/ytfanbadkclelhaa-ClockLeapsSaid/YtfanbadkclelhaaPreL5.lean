/- Plain lemmas on the printed functions: whole numbers, no program in sight. -/
import Derived.Test.YtfanbadkclelhaaDL5
import Derived.Laws.BitsLemmas
namespace Go.Proofs.Ytfanbadkclelhaa.L5
open Go Go.RowKit Go.Proofs.Ytfanbadkclelhaa.Ev
set_option linter.unusedVariables false
set_option linter.unusedSimpArgs false
set_option maxRecDepth 100000
/-! ### whole numbers of 64 and 128 bits -/
/-- Not by plain rfl: a rewriting with it leaves a proof, and the kernel has nothing to unfold. -/
theorem bsome {α β : Type} (a : α) (f : α → Option β) : (some a).bind f = f a := by
  cases (show True ∨ True from Or.inl trivial) <;> rfl
theorem u64w (n : Int) : IntKind.u64.wrap n = n % 18446744073709551616 := by
  simp [IntKind.wrap, IntKind.bits, IntKind.signed]
theorem w64_in {n : Int} (h0 : -9223372036854775808 ≤ n) (h1 : n ≤ 9223372036854775807) : wrap64 n = n := by
  unfold wrap64; omega
theorem u64_in {n : Int} (h0 : 0 ≤ n) (h1 : n < 18446744073709551616) : IntKind.u64.wrap n = n := by
  rw [u64w]; omega
theorem wf64 {n : Int} (h : (Lit.int .i64 n).wf = true) : -9223372036854775808 ≤ n ∧ n ≤ 9223372036854775807 := by
  simpa [Lit.wf, IntKind.min, IntKind.max, IntKind.signed, IntKind.bits] using h
theorem wraps_u64 (n : Int) (h₀ : 0 ≤ n) (h₁ : n < 2 ^ 64) : IntKind.u64.wrap n = n := u64_in h₀ (by omega)
theorem and32 (x : Int) (h0 : 0 ≤ x) (h1 : x < 18446744073709551616) : Go.bits .and .u64 x 4294967295 = x % 4294967296 :=
  bits_mask .u64 64 (by decide) wraps_u64 32 (by decide) x h0 (by omega)
theorem orj (i : Nat) (x y : Int) (hx0 : 0 ≤ x) (hx : x % 2 ^ i = 0) (hx1 : x < 18446744073709551616) (hy0 : 0 ≤ y) (hy : y < 2 ^ i) (hy1 : y < 18446744073709551616) : Go.bits .or .u64 x y = x + y :=
  bits_join .u64 64 (by decide) wraps_u64 i x y hx0 hx (by omega) hy0 hy (by omega)
theorem xorall (x : Int) (h0 : 0 ≤ x) (h1 : x < 18446744073709551616) : Go.bits .xor .u64 18446744073709551615 x = 18446744073709551615 - x := by
  obtain ⟨a, rfl⟩ := Int.eq_ofNat_of_zero_le h0
  have hb : (BitVec.ofInt 64 (18446744073709551615 : Int)) = BitVec.allOnes 64 := by decide
  show IntKind.u64.wrap ((BitVec.ofInt 64 (18446744073709551615 : Int) ^^^ BitVec.ofInt 64 (a : Int)).toNat : Int) = _
  rw [hb, BitVec.allOnes_xor, BitVec.ofInt_natCast, BitVec.toNat_not, BitVec.toNat_ofNat, u64w]
  omega
def clampTo (most x : Int) : Int := if x < most then (if -most < x then x else -most) else most
def sat (x : Int) : Int := clampTo 4611686018427387904 x
/-- A sign, and a size of two words. -/
def Rep (hi lo : Int) (m : Bool) (x : Int) : Prop := 0 ≤ hi ∧ hi < 18446744073709551616 ∧ 0 ≤ lo ∧ lo < 18446744073709551616 ∧ x = if m = true then -(hi * 18446744073709551616 + lo) else hi * 18446744073709551616 + lo
def IsRoot (n r : Int) : Prop := 0 ≤ r ∧ r * r ≤ n ∧ n < (r + 1) * (r + 1)
theorem IsRoot.uniq {n r s : Int} (h : IsRoot n r) (h' : IsRoot n s) : r = s := by
  obtain ⟨a, b, c⟩ := h; obtain ⟨a', b', c'⟩ := h'
  rcases Int.lt_trichotomy r s with h | h | h
  · have := Int.mul_le_mul (show r + 1 ≤ s by omega) (show r + 1 ≤ s by omega) (by omega) (by omega); omega
  · exact h
  · have := Int.mul_le_mul (show s + 1 ≤ r by omega) (show s + 1 ≤ r by omega) (by omega) (by omega); omega
theorem shl_u64 (x : Int) (n : Nat) (hn : n ≤ 64) (h0 : 0 ≤ x * 2 ^ n) (h1 : x * 2 ^ n < 18446744073709551616) : shl .u64 x (n : Int) = x * 2 ^ n := by
  unfold shl
  rw [show min (n : Int).toNat IntKind.u64.bits = n from by simp [IntKind.bits]; omega]
  exact u64_in h0 h1
theorem shr_eq (k : IntKind) (hk : k.bits = 64) (x : Int) (n : Nat) (hn : n ≤ 64) : shr k x (n : Int) = x / 2 ^ n := by
  unfold shr
  rw [hk, show min (n : Int).toNat 64 = n from by simp; omega]
theorem add64 (x y c : Int) (hx : 0 ≤ x) (hy : 0 ≤ y) (hc0 : 0 ≤ c) (hc : c ≤ 1) : bits_Add64.f x y c = some ((x + y + c) % 18446744073709551616, (x + y + c) / 18446744073709551616) := by
  unfold bits_Add64.f; rw [if_pos ⟨hx, hy, hc0, hc⟩]
theorem sum_rep (a b : Int) (ha0 : -9223372036854775808 ≤ a) (ha : a ≤ 9223372036854775807) (hb0 : -9223372036854775808 ≤ b) (hb : b ≤ 9223372036854775807) : ∃ hi lo m, fixed_sum.f a b = some (hi, lo, m) ∧ Rep hi lo m (a + b) := by
  have sg : ∀ x : Int, -9223372036854775808 ≤ x → x ≤ 9223372036854775807 → ∃ u s : Int, x % 18446744073709551616 = u ∧ x / 9223372036854775808 % 18446744073709551616 = s ∧ 0 ≤ u ∧ u < 18446744073709551616 ∧ ((s = 0 ∧ x = u) ∨ (s = 18446744073709551615 ∧ x = u - 18446744073709551616)) := by
    intro x h0 h1
    refine ⟨_, _, rfl, rfl, ?_, ?_, ?_⟩ <;> omega
  obtain ⟨u, s, eu, es, hu0, hu1, hs⟩ := sg a ha0 ha
  obtain ⟨v, t, ev, et, hv0, hv1, ht⟩ := sg b hb0 hb
  unfold fixed_sum.f
  rw [u64w a, u64w b, eu, ev, u64w (a / _), u64w (b / _), es, et, add64 u v 0 hu0 hv0 (by omega) (by omega)]
  simp only [bsome]
  rw [u64w (s + t)]
  obtain ⟨c, lo, ec, el, hc, hl0, hl1, huv⟩ : ∃ c lo : Int, (u + v + 0) / 18446744073709551616 = c ∧ (u + v + 0) % 18446744073709551616 = lo ∧ (c = 0 ∨ c = 1) ∧ 0 ≤ lo ∧ lo < 18446744073709551616 ∧ u + v = c * 18446744073709551616 + lo := ⟨_, _, rfl, rfl, by omega, by omega, by omega, by omega⟩
  rw [ec, el]
  obtain ⟨hi, eh, hh0, hh1, hsum, hsm⟩ : ∃ hi : Int, IntKind.u64.wrap ((s + t) % 18446744073709551616 + c) = hi ∧ 0 ≤ hi ∧ hi < 18446744073709551616 ∧ ((hi ≤ 1 ∧ a + b = hi * 18446744073709551616 + lo) ∨ (18446744073709551614 ≤ hi ∧ a + b = (hi - 18446744073709551616) * 18446744073709551616 + lo)) ∧ True := by
    refine ⟨_, rfl, ?_, ?_, ?_, trivial⟩ <;> rw [u64w] <;> clear eu es ev et ec el <;> rcases hs with ⟨rfl, rfl⟩ | ⟨rfl, rfl⟩ <;> rcases ht with ⟨rfl, rfl⟩ | ⟨rfl, rfl⟩ <;> rcases hc with rfl | rfl <;> omega
  rw [eh]
  clear eh hc ec el eu es ev et
  by_cases hn : wrap64 hi < 0
  · rw [if_pos hn, xorall lo (by omega) (by omega), xorall hi (by omega) (by omega), add64 _ _ _ (by omega) (by omega) (by omega) (by omega)]
    refine ⟨_, _, _, rfl, ?_⟩
    unfold wrap64 at hn
    unfold Rep
    rw [if_pos rfl, u64w]
    have h2 : 18446744073709551614 ≤ hi := by omega
    clear hn hs ht
    have : hi = 18446744073709551614 ∨ hi = 18446744073709551615 := by omega
    rcases this with rfl | rfl <;> omega
  · rw [if_neg hn]
    refine ⟨_, _, _, rfl, ?_⟩
    unfold wrap64 at hn
    unfold Rep
    rw [if_neg (by decide)]
    have h2 : hi ≤ 1 := by omega
    clear hn hs ht
    omega
theorem cut_rep {hi lo : Int} {m : Bool} {x : Int} (h : Rep hi lo m x) (most : Int) (h0 : 0 < most) (h1 : most ≤ 9223372036854775807) : fixed_whole_cut.f hi lo m most = some (clampTo most x) := by
  obtain ⟨a, b, c, d, e⟩ := h
  unfold fixed_whole_cut.f
  rw [u64_in (n := most) (by omega) (by omega)]
  subst e
  unfold clampTo
  cases m <;> simp only [cond_true, cond_false, if_true, if_false, Bool.false_eq_true] <;> (repeat' split) <;> (try unfold wrap64) <;> (first | omega | (refine congrArg some ?_; omega))
theorem span_rep {hi lo : Int} {m : Bool} {x : Int} (h : Rep hi lo m x) : fixed_whole_span.f hi lo m = some (sat x) := by
  unfold fixed_whole_span.f
  rw [cut_rep h _ (by omega) (by omega)]
  rfl
theorem sat_in (x : Int) : -4611686018427387904 ≤ sat x ∧ sat x ≤ 4611686018427387904 := by
  unfold sat clampTo; (repeat' split) <;> omega
theorem sat_of {x : Int} (h0 : -4611686018427387904 ≤ x) (h1 : x ≤ 4611686018427387904) : sat x = x := by
  unfold sat clampTo; (repeat' split) <;> omega
theorem add_eq (a b : Int) (ha0 : -9223372036854775808 ≤ a) (ha : a ≤ 9223372036854775807) (hb0 : -9223372036854775808 ≤ b) (hb : b ≤ 9223372036854775807) : fixed_Add.f a b = some (sat (a + b)) := by
  obtain ⟨hi, lo, m, e, r⟩ := sum_rep a b ha0 ha hb0 hb
  unfold fixed_Add.f
  rw [e]
  simp only [bsome]
  rw [span_rep r]
  rfl
/-- With rounds enough, g answers r. -/
def Ev {α : Type} (g : Nat → Option α) (r : α) : Prop := ∃ K, ∀ k, K ≤ k → g k = some r
theorem Ev.now {α : Type} (r : α) : Ev (fun _ => some r) r := ⟨0, fun _ _ => rfl⟩
theorem Ev.rounds {α : Type} {g : Nat → Option α} {r : α} (h : Ev g r) : ∃ k, g k = some r := by
  obtain ⟨K, h⟩ := h; exact ⟨K, h K (Nat.le_refl K)⟩
theorem Ev.bind {α β : Type} {g : Nat → Option α} {f : Nat → α → Option β} {a : α} {r : β} (h : Ev g a) (k : Ev (fun n => f n a) r) : Ev (fun n => (g n).bind (f n)) r := by
  obtain ⟨K, h⟩ := h; obtain ⟨L, k⟩ := k
  refine ⟨max K L, fun n hn => ?_⟩
  show (g n).bind (f n) = some r
  rw [h n (by omega), bsome]; exact k n (by omega)
theorem Ev.step {α : Type} {g f : Nat → Option α} {r : α} (h : ∀ k, g (k + 1) = f k) (k : Ev f r) : Ev g r := by
  obtain ⟨K, k⟩ := k
  refine ⟨K + 1, fun n hn => ?_⟩
  obtain ⟨m, rfl⟩ : ∃ m, n = m + 1 := ⟨n - 1, by omega⟩
  rw [h m]; exact k m (by omega)
theorem Ev.congr {α : Type} {g f : Nat → Option α} {r : α} (h : ∀ k, g k = f k) (k : Ev f r) : Ev g r := by
  obtain ⟨K, k⟩ := k; exact ⟨K, fun n hn => by rw [h n]; exact k n hn⟩
theorem Ev.succ {α : Type} {g : Nat → Option α} {r : α} (h : ∀ k, g (k + 1) = some r) : Ev g r := Ev.step h (Ev.now r)
theorem Ev.const {α : Type} {g : Option α} {r : α} (h : g = some r) : Ev (fun _ => g) r := by rw [h]; exact Ev.now r
theorem pow_le {m n : Nat} (h : m ≤ n) : (2 : Int) ^ m ≤ 2 ^ n := by
  obtain ⟨d, rfl⟩ := Nat.exists_eq_add_of_le h
  rw [Int.pow_add]
  have h1 : (0 : Int) < 2 ^ m := Int.pow_pos (by decide)
  have h2 : (0 : Int) < 2 ^ d := Int.pow_pos (by decide)
  have := Int.mul_le_mul_of_nonneg_left (show (1 : Int) ≤ 2 ^ d by omega) (Int.le_of_lt h1)
  omega
theorem ev_add (a b : Int) (ha0 : -9223372036854775808 ≤ a) (ha : a ≤ 9223372036854775807) (hb0 : -9223372036854775808 ≤ b) (hb : b ≤ 9223372036854775807) : Ev (fun _ => fixed_Add.f a b) (sat (a + b)) := Ev.const (add_eq a b ha0 ha hb0 hb)
theorem ev_span {hi lo : Int} {m : Bool} {x : Int} (h : Rep hi lo m x) : Ev (fun _ => fixed_whole_span.f hi lo m) (sat x) := Ev.const (span_rep h)
theorem ev_cut {hi lo : Int} {m : Bool} {x : Int} (h : Rep hi lo m x) (most : Int) (h0 : 0 < most) (h1 : most ≤ 9223372036854775807) : Ev (fun _ => fixed_whole_cut.f hi lo m most) (clampTo most x) := Ev.const (cut_rep h most h0 h1)
theorem size_rep (a : Int) (h0 : -9223372036854775808 ≤ a) (h1 : a ≤ 9223372036854775807) : ∃ u m, fixed_size.f a = some (u, m) ∧ Rep 0 u m a := by
  unfold fixed_size.f
  split
  · refine ⟨_, _, rfl, ?_⟩; unfold Rep; rw [if_pos rfl, u64w, u64w]; omega
  · refine ⟨_, _, rfl, ?_⟩; unfold Rep; rw [if_neg (by decide), u64w]; omega
theorem fcut_eq (a : Int) (h0 : -9223372036854775808 ≤ a) (h1 : a ≤ 9223372036854775807) : fixed_Cut.f a = some (clampTo 140737488355 a) := by
  obtain ⟨u, m, e, r⟩ := size_rep a h0 h1
  unfold fixed_Cut.f; rw [e]; simp only [bsome]; rw [cut_rep r _ (by omega) (by omega)]; rfl
theorem clamp_eq (a m : Int) (h0 : -9223372036854775808 ≤ a) (h1 : a ≤ 9223372036854775807) (hm0 : 0 ≤ m) (hm : m ≤ 4611686018427387904) : fixed_Clamp.f a m = some (if m < a then m else if a < -m then -m else a) := by
  unfold fixed_Clamp.f
  rw [if_neg (by omega), w64_in (n := -m) (by omega) (by omega)]
  rw [add_eq _ 0 (by unfold mx mn; (repeat' split) <;> omega) (by unfold mx mn; (repeat' split) <;> omega) (by omega) (by omega)]
  simp only [bsome]
  unfold sat clampTo mx mn
  refine congrArg some ?_
  (repeat' split) <;> omega
theorem new_eq (d s w r : Int) (hw0 : -9223372036854775808 ≤ w) (hw1 : w ≤ 9223372036854775807) (hr0 : -9223372036854775808 ≤ r) (hr1 : r ≤ 9223372036854775807) : clock_New.f d s w r = some (clampTo 140737488355 r, 0, (if d < -1000 then 0 else if d > 1000 then 0 else d), s, (if 4611686018427387904 < w then 4611686018427387904 else if w < -4611686018427387904 then -4611686018427387904 else w), 0, 0, 0) := by
  unfold clock_New.f
  rw [fcut_eq r hr0 hr1, clamp_eq w _ hw0 hw1 (by omega) (by omega)]
  simp only [bsome]
  (repeat' split) <;> rfl
/-- One second on: the date's two halves. -/
def nx (p : Int × Int) : Int × Int := if (p.2 + 4294967296) % 18446744073709551616 < p.2 then (wrap64 (p.1 + 1), (p.2 + 4294967296) % 18446744073709551616) else (p.1, (p.2 + 4294967296) % 18446744073709551616)
theorem behind_nx (d s : Int) : clock_behind.f d s 4294967296 = some (nx (d, s)) := by
  unfold clock_behind.f stamp_Plus.f nx
  simp only [bsome, u64w]
  rw [if_pos (by omega), show (4294967296 : Int) % 18446744073709551616 = 4294967296 from by decide]
  split
  · rfl
  · rw [if_neg (by omega)]
def adv : Nat → Int × Int → Int × Int
  | 0, p => p
  | n + 1, p => adv n (nx p)
theorem adv_add (m n : Nat) (p : Int × Int) : adv (m + n) p = adv n (adv m p) := by
  induction m generalizing p with
  | zero => simp [adv]
  | succ m ih => rw [show m + 1 + n = (m + n) + 1 from by omega]; simp only [adv]; exact ih _
theorem adv_snd (n : Nat) (p : Int × Int) : (adv n p).2 % 18446744073709551616 = (p.2 + n * 4294967296) % 18446744073709551616 := by
  induction n generalizing p with
  | zero => simp [adv]
  | succ n ih => simp only [adv]; rw [ih]; unfold nx; split <;> simp only <;> omega
theorem adv_range (n : Nat) (p : Int × Int) (h : 0 ≤ p.2 ∧ p.2 < 18446744073709551616) : 0 ≤ (adv n p).2 ∧ (adv n p).2 < 18446744073709551616 := by
  induction n generalizing p with
  | zero => exact h
  | succ n ih => simp only [adv]; apply ih; unfold nx; split <;> simp only <;> omega
theorem i64w (n : Int) : IntKind.i64.wrap n = (n + 9223372036854775808) % 18446744073709551616 - 9223372036854775808 := by
  simp [IntKind.wrap, IntKind.bits, IntKind.signed]
  try omega
theorem and16 (x : Int) : Go.bits .and .i64 (wrap64 x) 65535 = x % 65536 := by
  have h : Go.bits .and .i64 (wrap64 x) 65535 = IntKind.i64.wrap (((BitVec.ofInt 64 (wrap64 x)) &&& (BitVec.ofInt 64 65535)).toNat : Int) := rfl
  rw [h, show BitVec.ofInt 64 65535 = BitVec.ofNat 64 (2 ^ 16 - 1) from by decide, BitVec.toNat_and, BitVec.toNat_ofNat, BitVec.toNat_ofInt]
  rw [show (2 ^ 16 - 1) % 2 ^ 64 = 2 ^ 16 - 1 from by decide, Nat.and_two_pow_sub_one_eq_mod]
  rw [i64w]
  unfold wrap64
  omega
/-- A clock that ticks: E is its error in parts of 65536. -/
theorem tick_eq (f0 f1 d s E l q : Int) (h : -1152921504606846976 ≤ E ∧ E ≤ 1152921504606846976) (hg : -1152921504606846976 ≤ f0 + f1 ∧ f0 + f1 ≤ 1152921504606846976) :
    clock_Clock_tick.f f0 f1 d s (E / 65536) (E % 65536) l q = some (f0, f1, (nx (d, s)).1, (nx (d, s)).2, (E + (f0 + f1)) / 65536, (E + (f0 + f1)) % 65536, l, q) := by
  unfold clock_Clock_tick.f
  rw [behind_nx]
  simp only [bsome]
  unfold clock_oscillator_gain.f
  simp only [bsome]
  rw [w64_in (n := f0 + f1) (by omega) (by omega), and16, w64_in (n := E % 65536 + (f0 + f1)) (by omega) (by omega), add_eq _ _ (by omega) (by omega) (by omega) (by omega), sat_of (by omega) (by omega)]
  simp only [bsome]
  rw [show E / 65536 + (E % 65536 + (f0 + f1)) / 65536 = (E + (f0 + f1)) / 65536 from by omega, show (E % 65536 + (f0 + f1)) % 65536 = (E + (f0 + f1)) % 65536 from by omega]
theorem pass_run (f0 f1 : Int) (hg : -1152921504606846976 ≤ f0 + f1 ∧ f0 + f1 ≤ 1152921504606846976) : ∀ (n : Nat) (k : Nat) (b d s E q : Int), 2 * n < k → 0 ≤ b → b + n ≤ 4611686018427387904 →
    (∀ i : Nat, i ≤ n → -1152921504606846976 ≤ E + i * (f0 + f1) ∧ E + i * (f0 + f1) ≤ 1152921504606846976) →
    clock_Clock_Pass.l0 k (b + n) b f0 f1 d s (E / 65536) (E % 65536) 0 q = some (0, f0, f1, (adv n (d, s)).1, (adv n (d, s)).2, (E + n * (f0 + f1)) / 65536, (E + n * (f0 + f1)) % 65536, 0, q) := by
  intro n
  induction n with
  | zero =>
    intro k b d s E q hk _ _ _
    obtain ⟨k, rfl⟩ : ∃ j, k = j + 1 := ⟨k - 1, by omega⟩
    unfold clock_Clock_Pass.l0
    rw [if_neg (by omega)]
    simp [adv]
  | succ n ih =>
    intro k b d s E q hk hb hbn hE
    obtain ⟨k, rfl⟩ : ∃ j, k = j + 2 := ⟨k - 2, by omega⟩
    unfold clock_Clock_Pass.l0
    rw [if_pos (by omega), if_neg (by decide)]
    unfold clock_Clock_Pass.j0
    have h0 := hE 0 (by omega)
    simp only [Int.natCast_zero, Int.zero_mul, Int.add_zero] at h0
    rw [tick_eq f0 f1 d s E 0 q h0 hg]
    simp only [bsome, if_true]
    rw [w64_in (n := b + 1) (by omega) (by omega), show b + ((n + 1 : Nat) : Int) = (b + 1) + n from by omega]
    have := ih k (b + 1) (nx (d, s)).1 (nx (d, s)).2 (E + (f0 + f1)) q (by omega) (by omega) (by omega) (by
      intro i hi
      have := hE (i + 1) (by omega)
      rw [show ((i + 1 : Nat) : Int) = i + 1 from by omega, Int.add_mul, Int.one_mul] at this
      omega)
    rw [this, show (E + (f0 + f1)) + n * (f0 + f1) = E + ((n + 1 : Nat) : Int) * (f0 + f1) from by rw [show ((n + 1 : Nat) : Int) = n + 1 from by omega, Int.add_mul, Int.one_mul]; omega]
    rfl
theorem pass_eq (f0 f1 : Int) (hg : -1152921504606846976 ≤ f0 + f1 ∧ f0 + f1 ≤ 1152921504606846976) (n k : Nat) (d s E q : Int) (hk : 2 * n < k) (hq0 : 0 ≤ q) (hq : q + n ≤ 1048576)
    (hE : ∀ i : Nat, i ≤ n → -1152921504606846976 ≤ E + i * (f0 + f1) ∧ E + i * (f0 + f1) ≤ 1152921504606846976) :
    clock_Clock_Pass.f k n f0 f1 d s (E / 65536) (E % 65536) 0 q = some (0, f0, f1, (adv n (d, s)).1, (adv n (d, s)).2, (E + n * (f0 + f1)) / 65536, (E + n * (f0 + f1)) % 65536, 0, q + n) := by
  unfold clock_Clock_Pass.f
  rw [if_neg (by omega), w64_in (n := 1048576 - q) (by omega) (by omega), if_neg (by omega), w64_in (n := q + n) (by omega) (by omega)]
  have := pass_run f0 f1 hg n k 0 d s E (q + n) hk (by omega) (by omega) hE
  simpa using this
theorem wf32 {n : Int} (h : (Lit.int .i32 n).wf = true) : -2147483648 ≤ n ∧ n ≤ 2147483647 := by
  simpa [Lit.wf, IntKind.min, IntKind.max, IntKind.signed, IntKind.bits] using h
theorem wf8 {n : Int} (h : (Lit.int .u8 n).wf = true) : 0 ≤ n ∧ n ≤ 255 := by
  simpa [Lit.wf, IntKind.min, IntKind.max, IntKind.signed, IntKind.bits] using h
theorem wfu64 {n : Int} (h : (Lit.int .u64 n).wf = true) : 0 ≤ n ∧ n ≤ 18446744073709551615 := by
  simpa [Lit.wf, IntKind.min, IntKind.max, IntKind.signed, IntKind.bits] using h
theorem rd_mem (xs : List Int) (i : Int) (h0 : 0 ≤ i) (h1 : i < xs.length) : rd xs i ∈ xs := by
  unfold rd
  have h : i.toNat < xs.length := by omega
  rw [List.getD_eq_getElem?_getD, List.getElem?_eq_getElem h]
  exact List.getElem_mem h
theorem step_eq (x a b d s e p l q : Int) (hx : -4611686018427387904 ≤ x ∧ x ≤ 4611686018427387904) (he : -4611686018427387904 ≤ e ∧ e ≤ 4611686018427387904) : clock_Clock_Step.f x a b d s e p l q = some (a, b, d, s, sat (e + x), p, l, q) := by
  unfold clock_Clock_Step.f
  rw [add_eq _ _ (by omega) (by omega) (by omega) (by omega)]
  rfl
theorem shown_eq (k : Nat) (hk : 200000 ≤ k) : foliotlaw16_shown.f k = some true := by
  have a1 : clock_New.f 0 42949672960 5 0 = some (0, 0, 0, 42949672960, 5, 0, 0, 0) := by kernel_rfl
  have a2 : clock_Clock_Now.f ⟨0, 0, 0, 42949672960, 5, 0, 0, 0⟩ = some 42949672965 := by kernel_rfl
  have a3 : clock_Clock_SetRate.f 196609 0 0 0 42949672960 5 0 0 0 = some (196609, 0, 0, 42949672960, 5, 0, 0, 0) := by kernel_rfl
  have a4 : ∃ d s, clock_Clock_Pass.f k 1 196609 0 0 42949672960 5 0 0 0 = some (0, 196609, 0, d, s, 8, 1, 0, 1) :=
    ⟨_, _, pass_eq 196609 0 (by decide) 1 k 0 42949672960 327680 0 (by omega) (by decide) (by decide) (by intro i hi; simp only [Int.add_zero]; omega)⟩
  have a5 : ∀ d s, ∃ d' s', clock_Clock_Pass.f k 65535 196609 0 d s 8 1 0 1 = some (0, 196609, 0, d', s', 196614, 0, 0, 65536) := fun d s =>
    ⟨_, _, pass_eq 196609 0 (by decide) 65535 k d s 524289 1 (by omega) (by decide) (by decide) (by intro i hi; simp only [Int.add_zero]; omega)⟩
  have a6 : ∀ d s, clock_Clock_Pass.f k (-1) 196609 0 d s 196614 0 0 65536 = some (1, 196609, 0, d, s, 196614, 0, 0, 65536) := by
    intro d s; unfold clock_Clock_Pass.f; rw [if_pos (by decide)]
  have a7 : clock_New.f 0 371076584439808 0 0 = some (0, 0, 0, 371076584439808, 0, 0, 0, 0) := by kernel_rfl
  have a8 : clock_Clock_SetLeap.f 1 0 0 0 371076584439808 0 0 0 0 = some (true, 0, 0, 0, 371076584439808, 0, 0, 1, 0) := by kernel_rfl
  have a9 : clock_Clock_Pass.f k 2 0 0 0 371076584439808 0 0 1 0 = some (0, 0, 0, 0, 371085174374400, -4294967296, 0, 0, 2) := by
    obtain ⟨j, rfl⟩ : ∃ j, k = j + 30 := ⟨k - 30, by omega⟩
    kernel_rfl
  have a10 : clock_Clock_Pass.f k 1 0 0 0 371085174374400 (-4294967296) 0 0 2 = some (0, 0, 0, 0, 371089469341696, -4294967296, 0, 0, 3) := by
    obtain ⟨j, rfl⟩ : ∃ j, k = j + 30 := ⟨k - 30, by omega⟩
    kernel_rfl
  have a11 : clock_Clock_SetLeap.f 3 0 0 0 371089469341696 (-4294967296) 0 0 3 = some (false, 0, 0, 0, 371089469341696, -4294967296, 0, 0, 3) := by kernel_rfl
  obtain ⟨d, s, a4⟩ := a4
  obtain ⟨d', s', a5⟩ := a5 d s
  have a6 := a6 d' s'
  unfold foliotlaw16_shown.f
  simp only [a1, bsome, a2, clock_Clock_True.f, clock_Clock_Error.f, a3, a4, a5, a6, a7, a8, a9, a10, a11, if_true, cond_true, Bool.not_false]
theorem now_eq (a b d s e p l q : Int) : clock_Clock_Now.f ⟨a, b, d, s, e, p, l, q⟩ = some ((s + e) % 18446744073709551616) := by
  unfold clock_Clock_Now.f clock_Clock_Date.f clock_behind.f stamp_Plus.f
  simp only [bsome, u64w]
  rw [show (s + e % 18446744073709551616) % 18446744073709551616 = (s + e) % 18446744073709551616 from by omega]
  (repeat' split) <;> simp only [bsome]
theorem tm (S : Int) : (0 ≤ S ∧ Int.tmod S 86400 = S % 86400 ∧ Int.tdiv S 86400 = S / 86400) ∨ (S < 0 ∧ Int.tmod S 86400 = -((-S) % 86400) ∧ Int.tdiv S 86400 = -((-S) / 86400)) := by
  rcases Int.lt_or_le S 0 with h | h
  · refine .inr ⟨h, ?_, ?_⟩
    · have e := Int.neg_tmod (-S) 86400
      rw [Int.neg_neg] at e
      rw [e, Int.tmod_eq_emod_of_nonneg (show 0 ≤ -S by omega)]
    · have e := Int.neg_tdiv (-S) 86400
      rw [Int.neg_neg] at e
      rw [e, Int.tdiv_eq_ediv_of_nonneg (show 0 ≤ -S by omega)]
  · exact .inl ⟨h, Int.tmod_eq_emod_of_nonneg h, Int.tdiv_eq_ediv_of_nonneg h⟩
theorem day_p (S : Int) (h0 : -1000000000000000000 ≤ S) (h1 : S ≤ 1000000000000000000) : wrap64 (Int.tdiv (wrap64 (S - Int.tmod (wrap64 (Int.tmod S 86400 + 86400)) 86400)) 86400) = S / 86400 := by
  have a : ∃ t, Int.tmod S 86400 = t ∧ -86400 < t ∧ t < 86400 ∧ (t + 86400) % 86400 = S % 86400 := by
    refine ⟨_, rfl, ?_⟩
    rcases tm S with ⟨h, e, _⟩ | ⟨h, e, _⟩ <;> rw [e] <;> omega
  obtain ⟨t, e, t0, t1, t2⟩ := a
  rw [e, w64_in (n := t + 86400) (by omega) (by omega), Int.tmod_eq_emod_of_nonneg (by omega), t2, w64_in (n := S - S % 86400) (by omega) (by omega)]
  have b : Int.tdiv (S - S % 86400) 86400 = S / 86400 := by
    rcases tm (S - S % 86400) with ⟨h, _, e⟩ | ⟨h, _, e⟩ <;> rw [e] <;> omega
  rw [b, w64_in (by omega) (by omega)]
theorem day_r (S : Int) (h0 : -1000000000000000000 ≤ S) (h1 : S ≤ 1000000000000000000) : (if wrap64 (wrap64 (Int.tdiv S 86400) * 86400) > S then (some (wrap64 (wrap64 (Int.tdiv S 86400) - 1))) else (some (wrap64 (Int.tdiv S 86400)))) = some (S / 86400) := by
  rcases tm S with ⟨h, _, e⟩ | ⟨h, _, e⟩
  · rw [e, w64_in (n := S / 86400) (by omega) (by omega), w64_in (n := S / 86400 * 86400) (by omega) (by omega), if_neg (by omega)]
  · rw [e, w64_in (n := -((-S) / 86400)) (by omega) (by omega), w64_in (n := -((-S) / 86400) * 86400) (by omega) (by omega)]
    split
    · rw [w64_in (by omega) (by omega)]; congr 1; omega
    · congr 1; omega
def bh (era a b : Int) : Int × Int := if b ≥ 0 then (if (a + b) % 18446744073709551616 < a then (wrap64 (era + 1), (a + b) % 18446744073709551616) else (era, (a + b) % 18446744073709551616)) else (if (a + b) % 18446744073709551616 > a then (wrap64 (era - 1), (a + b) % 18446744073709551616) else (era, (a + b) % 18446744073709551616))
theorem plus_eq (a b : Int) : IntKind.u64.wrap (a + IntKind.u64.wrap b) = (a + b) % 18446744073709551616 := by rw [u64w, u64w]; omega
theorem behind_eq (era a b : Int) : clock_behind.f era a b = some (bh era a b) := by
  unfold clock_behind.f stamp_Plus.f bh
  rw [plus_eq, bsome]
  by_cases h : b ≥ 0
  · rw [if_pos h, if_pos h, if_neg (show ¬ b < 0 by omega)]
    split <;> rfl
  · rw [if_neg h, if_neg h, if_pos (show b < 0 by omega)]
    split <;> rfl
theorem bh_bd (era a b : Int) (m : Int) (hm : m ≤ 4611686018427387904) (h0 : -m ≤ era) (h1 : era ≤ m) : -m - 1 ≤ (bh era a b).1 ∧ (bh era a b).1 ≤ m + 1 ∧ 0 ≤ (bh era a b).2 ∧ (bh era a b).2 < 18446744073709551616 := by
  unfold bh
  rw [w64_in (n := era + 1) (by omega) (by omega), w64_in (n := era - 1) (by omega) (by omega)]
  (repeat' split) <;> simp only <;> omega
/-- Both clocks' state. -/
structure CI (r f era a x s l q : Int) : Prop where
  r0 : -140737488355 ≤ r
  r1 : r ≤ 140737488355
  f0 : -140737488355 ≤ f
  f1 : f ≤ 140737488355
  e0 : -(1000 + q) ≤ era
  e1 : era ≤ 1000 + q
  a0 : 0 ≤ a
  a1 : a < 18446744073709551616
  x0 : -4611686018427387904 ≤ x
  x1 : x ≤ 4611686018427387904
  s0 : 0 ≤ s
  s1 : s < 65536
  l : l = 0 ∨ l = 1 ∨ l = 2
  q0 : 0 ≤ q
  q1 : q ≤ 1048576
def dayV (era a x : Int) : Int := ((bh era a x).1 * 4294967296 + (bh era a x).2 / 4294967296) / 86400
theorem CI.secs {r f era a x s l q : Int} (h : CI r f era a x s l q) : ∃ S, wrap64 ((wrap64 ((bh era a x).1 * 4294967296)) + (wrap64 ((bh era a x).2 / 4294967296))) = S ∧ S / 86400 = dayV era a x ∧ -1000000000000000000 ≤ S ∧ S ≤ 1000000000000000000 := by
  have b := bh_bd era a x (1000 + q) (by have := h.q1; omega) h.e0 h.e1
  have q1 := h.q1
  unfold dayV
  generalize (bh era a x).1 = e at *
  generalize (bh era a x).2 = t at *
  refine ⟨_, rfl, ?_⟩
  rw [w64_in (n := e * 4294967296) (by omega) (by omega), w64_in (n := t / 4294967296) (by omega) (by omega), w64_in (by omega) (by omega)]
  omega
theorem date_eq (r f era a x s l q : Int) : clock_Clock_Date.f ⟨r, f, era, a, x, s, l, q⟩ = some (bh era a x) := by
  unfold clock_Clock_Date.f
  rw [behind_eq, bsome]
theorem day_eq {r f era a x s l q : Int} (h : CI r f era a x s l q) (q' : Int) : clock_Clock_day.f ⟨r, f, era, a, x, s, l, q'⟩ = some (dayV era a x) := by
  obtain ⟨S, e, ed, b0, b1⟩ := h.secs
  unfold clock_Clock_day.f
  rw [date_eq, bsome, e, day_p S b0 b1, ed]
theorem tick2 {r f era a x s l q : Int} (h : CI r f era a x s l q) (q' : Int) : clock_Clock_tick.f r f era a x s l q' = some (r, f, (bh era a 4294967296).1, (bh era a 4294967296).2, sat (x + (s + (r + f)) / 65536), (s + (r + f)) % 65536, l, q') := by
  obtain ⟨r0, r1, f0, f1, _, _, _, _, x0, x1, s0, s1, _, _, _⟩ := h
  unfold clock_Clock_tick.f clock_oscillator_gain.f
  rw [behind_eq]
  simp only [bsome]
  rw [w64_in (n := r + f) (by omega) (by omega), and16, w64_in (n := s + (r + f)) (by omega) (by omega), add_eq _ _ (by omega) (by omega) (by omega) (by omega)]
  rfl
theorem CI.tick {r f era a x s l q : Int} (h : CI r f era a x s l q) (hq : q + 1 ≤ 1048576) (l' : Int) (hl : l' = 0 ∨ l' = 1 ∨ l' = 2) (x' : Int) (hx : -4611686018427387904 ≤ x' ∧ x' ≤ 4611686018427387904) : CI r f (bh era a 4294967296).1 (bh era a 4294967296).2 x' ((s + (r + f)) % 65536) l' (q + 1) := by
  have b := bh_bd era a 4294967296 (1000 + q) (by omega) h.e0 h.e1
  obtain ⟨r0, r1, f0, f1, _, _, _, _, x0, x1, s0, s1, _, q0, _⟩ := h
  exact ⟨r0, r1, f0, f1, by omega, by omega, b.2.2.1, b.2.2.2, hx.1, hx.2, by omega, by omega, hl, by omega, by omega⟩
theorem cstep_eq (v r f era a x s l q : Int) (hv : -9223372036854775808 ≤ v ∧ v ≤ 9223372036854775807) (hx : -4611686018427387904 ≤ x ∧ x ≤ 4611686018427387904) : clock_Clock_Step.f v r f era a x s l q = some (r, f, era, a, sat (x + v), s, l, q) := by
  unfold clock_Clock_Step.f
  rw [add_eq _ _ (by omega) (by omega) hv.1 hv.2]
  rfl
theorem sat_if (w : Int) : (if 4611686018427387904 < w then 4611686018427387904 else if w < -4611686018427387904 then -4611686018427387904 else w) = sat w := by
  unfold sat clampTo; (repeat' split) <;> omega
end Go.Proofs.Ytfanbadkclelhaa.L5
