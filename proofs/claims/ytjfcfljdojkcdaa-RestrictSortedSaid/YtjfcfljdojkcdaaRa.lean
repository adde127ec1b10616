/- Plain lemmas on the printed functions: whole numbers and lists, no program in sight. -/
import Derived.Test.YtjfcfljdojkcdaaDQ
import Derived.Laws.BitsLemmas
namespace Go.Proofs.Ytjfcfljdojkcdaa.Q
open Go Go.RowKit Go.Proofs.Ytjfcfljdojkcdaa.Ev
set_option linter.unusedVariables false
set_option linter.unusedSimpArgs false
set_option maxRecDepth 100000
/-- Not by plain rfl: a rewriting with it leaves a proof, and the kernel has nothing to unfold. -/
theorem bsome {α β : Type} (a : α) (f : α → Option β) : (some a).bind f = f a := by
  cases (show True ∨ True from Or.inl trivial) <;> rfl
theorem u64w (n : Int) : IntKind.u64.wrap n = n % 18446744073709551616 := by
  simp [IntKind.wrap, IntKind.bits, IntKind.signed]
theorem w64_in {n : Int} (h0 : -9223372036854775808 ≤ n) (h1 : n ≤ 9223372036854775807) : wrap64 n = n := by
  unfold wrap64; omega
theorem u64_in {n : Int} (h0 : 0 ≤ n) (h1 : n < 18446744073709551616) : IntKind.u64.wrap n = n := by
  rw [u64w]; omega
theorem wf64 {n : Int} (h : (Lit.int .i64 n).wf = true) : -9223372036854775808 ≤ n ∧ n ≤ 9223372036854775807 := by
  simpa [Lit.wf, IntKind.min, IntKind.max, IntKind.signed, IntKind.bits] using h
theorem wfu64 {n : Int} (h : (Lit.int .u64 n).wf = true) : 0 ≤ n ∧ n ≤ 18446744073709551615 := by
  simpa [Lit.wf, IntKind.min, IntKind.max, IntKind.signed, IntKind.bits] using h
theorem wfu32 {n : Int} (h : (Lit.int .u32 n).wf = true) : 0 ≤ n ∧ n ≤ 4294967295 := by
  simpa [Lit.wf, IntKind.min, IntKind.max, IntKind.signed, IntKind.bits] using h
theorem wfu8 {n : Int} (h : (Lit.int .u8 n).wf = true) : 0 ≤ n ∧ n ≤ 255 := by
  simpa [Lit.wf, IntKind.min, IntKind.max, IntKind.signed, IntKind.bits] using h
theorem wraps_u64 (n : Int) (h₀ : 0 ≤ n) (h₁ : n < 2 ^ 64) : IntKind.u64.wrap n = n := u64_in h₀ (by omega)
theorem orj (i : Nat) (x y : Int) (hx0 : 0 ≤ x) (hx : x % 2 ^ i = 0) (hx1 : x < 18446744073709551616) (hy0 : 0 ≤ y) (hy : y < 2 ^ i) (hy1 : y < 18446744073709551616) : Go.bits .or .u64 x y = x + y :=
  bits_join .u64 64 (by decide) wraps_u64 i x y hx0 hx (by omega) hy0 hy (by omega)
theorem shr_eq (k : IntKind) (hk : k.bits = 64) (x : Int) (n : Nat) (hn : n ≤ 64) : shr k x (n : Int) = x / 2 ^ n := by
  unfold shr
  rw [hk, show min (n : Int).toNat 64 = n from by simp; omega]
/-- With rounds enough, g answers r. -/
def Ev {α : Type} (g : Nat → Option α) (r : α) : Prop := ∃ K, ∀ k, K ≤ k → g k = some r
theorem Ev.now {α : Type} (r : α) : Ev (fun _ => some r) r := ⟨0, fun _ _ => rfl⟩
theorem Ev.rounds {α : Type} {g : Nat → Option α} {r : α} (h : Ev g r) : ∃ k, g k = some r := by
  obtain ⟨K, h⟩ := h; exact ⟨K, h K (Nat.le_refl K)⟩
theorem Ev.bind {α β : Type} {g : Nat → Option α} {f : Nat → α → Option β} {a : α} {r : β} (h : Ev g a) (k : Ev (fun n => f n a) r) : Ev (fun n => (g n).bind (f n)) r := by
  obtain ⟨K, h⟩ := h; obtain ⟨L, k⟩ := k
  refine ⟨max K L, fun n hn => ?_⟩
  show (g n).bind (f n) = some r
  rw [h n (by omega), bsome]; exact k n (by omega)
theorem Ev.step {α : Type} {g f : Nat → Option α} {r : α} (h : ∀ k, g (k + 1) = f k) (k : Ev f r) : Ev g r := by
  obtain ⟨K, k⟩ := k
  refine ⟨K + 1, fun n hn => ?_⟩
  obtain ⟨m, rfl⟩ : ∃ m, n = m + 1 := ⟨n - 1, by omega⟩
  rw [h m]; exact k m (by omega)
theorem Ev.congr {α : Type} {g f : Nat → Option α} {r : α} (h : ∀ k, g k = f k) (k : Ev f r) : Ev g r := by
  obtain ⟨K, k⟩ := k; exact ⟨K, fun n hn => by rw [h n]; exact k n hn⟩
theorem Ev.succ {α : Type} {g : Nat → Option α} {r : α} (h : ∀ k, g (k + 1) = some r) : Ev g r := Ev.step h (Ev.now r)
theorem Ev.const {α : Type} {g : Option α} {r : α} (h : g = some r) : Ev (fun _ => g) r := by rw [h]; exact Ev.now r
theorem Ev.uniq {α : Type} {g : Nat → Option α} {r s : α} (h : Ev g r) (h' : Ev g s) : r = s := by
  obtain ⟨K, h⟩ := h; obtain ⟨L, h'⟩ := h'
  have h1 := h (max K L) (by omega); have h2 := h' (max K L) (by omega)
  rw [h1] at h2; exact Option.some.inj h2
theorem Ev.bs {α β : Type} {f : Nat → α → Option β} {a : α} {r : β} (h : Ev (fun k => f k a) r) : Ev (fun k => (some a).bind (f k)) r := Ev.bind (Ev.now a) h
theorem wrap_succ (i : Nat) (h : (i : Int) < 9223372036854775807) : wrap64 ((i : Int) + 1) = ((i + 1 : Nat) : Int) := by
  rw [w64_in (by omega) (by omega)]; rfl
theorem bif_b {α : Type} (p : Bool) (a b : α) : (bif p then a else b) = if p = true then a else b := by
  cases p <;> rfl
theorem bif_nb {α : Type} (p : Bool) (a b : α) : (bif !p then a else b) = if p = true then b else a := by
  cases p <;> rfl
theorem u32w (n : Int) : IntKind.u32.wrap n = n % 4294967296 := by
  simp [IntKind.wrap, IntKind.bits, IntKind.signed]
theorem wraps_u32 (n : Int) (h₀ : 0 ≤ n) (h₁ : n < 2 ^ 32) : IntKind.u32.wrap n = n := by rw [u32w]; omega
theorem orj32 (i : Nat) (x y : Int) (hx0 : 0 ≤ x) (hx : x % 2 ^ i = 0) (hx1 : x < 4294967296) (hy0 : 0 ≤ y) (hy : y < 2 ^ i) (hy1 : y < 4294967296) : Go.bits .or .u32 x y = x + y :=
  bits_join .u32 32 (by decide) wraps_u32 i x y hx0 hx (by omega) hy0 hy (by omega)
theorem bt_rng (s : ByteArray) (i : Int) : 0 ≤ bt s i ∧ bt s i < 256 := by
  unfold bt
  split
  · rename_i h
    have := (s[i.toNat]'h).toNat_lt
    omega
  · omega
/-! ### codes of kisses -/
theorem shown_at (m : Nat) : foliotlaw06_shown.f (m + 60) = some true := by kernel_rfl
theorem ev_shown : Ev (fun k => foliotlaw06_shown.f k) true := ⟨60, fun k hk => by
  obtain ⟨m, rfl⟩ : ∃ m, k = m + 60 := ⟨k - 60, by omega⟩
  exact shown_at m⟩
theorem kiss_prog (s : ByteArray) (i : Nat) (hi : i < 4) (hs : i < s.size) (h4 : s.size ≤ 4) (x : Int) (q : Int) (hq : (q = 16777216 ∧ i = 0) ∨ (q = 65536 ∧ i = 1) ∨ (q = 256 ∧ i = 2) ∨ (q = 1 ∧ i = 3)) (hx0 : 0 ≤ x) (hx : x % (q * 256) = 0) (hx1 : x < 4294967296) (c : Int) (hc : bt s (i : Int) = c) (v : Int) :
    ((c < 65 ∨ c > 90) → Ev (fun k => restrict_KissCode.l0 k s x (s.size : Int) (i : Int)) 0) ∧ (¬ (c < 65 ∨ c > 90) → Ev (fun k => restrict_KissCode.l0 k s (x + c * q) (s.size : Int) ((i + 1 : Nat) : Int)) v → Ev (fun k => restrict_KissCode.l0 k s x (s.size : Int) (i : Int)) v) := by
  have hb := bt_rng s (i : Int)
  rw [hc] at hb
  constructor
  · intro h
    refine Ev.succ fun k => ?_
    rw [restrict_KissCode.l0, if_pos (by omega), if_pos (by omega), if_pos (by omega), hc]
    by_cases h1 : c < 65
    · rw [if_pos h1]
    · rw [if_neg h1, if_pos (by omega), if_pos (by omega), if_pos (by omega)]
  · intro h hv
    have hw : wrap64 (24 - (wrap64 (8 * (i : Int)))) = 24 - 8 * (i : Int) := by rw [w64_in (n := 8 * (i : Int)) (by omega) (by omega), w64_in (by omega) (by omega)]
    have hsh : shl .u32 (c % 4294967296) (24 - 8 * (i : Int)) = c * q := by
      unfold shl
      rw [u32w]
      rcases hq with ⟨rfl, rfl⟩ | ⟨rfl, rfl⟩ | ⟨rfl, rfl⟩ | ⟨rfl, rfl⟩
      · show (c % 4294967296) * 16777216 % 4294967296 = _; omega
      · show (c % 4294967296) * 65536 % 4294967296 = _; omega
      · show (c % 4294967296) * 256 % 4294967296 = _; omega
      · show (c % 4294967296) * 1 % 4294967296 = _; omega
    have hor : Go.bits .or .u32 x (c * q) = x + c * q := by
      rcases hq with ⟨rfl, rfl⟩ | ⟨rfl, rfl⟩ | ⟨rfl, rfl⟩ | ⟨rfl, rfl⟩
      · exact orj32 32 _ _ hx0 (by omega) hx1 (by omega) (by omega) (by omega)
      · exact orj32 24 _ _ hx0 (by omega) hx1 (by omega) (by omega) (by omega)
      · exact orj32 16 _ _ hx0 (by omega) hx1 (by omega) (by omega) (by omega)
      · exact orj32 8 _ _ hx0 (by omega) hx1 (by omega) (by omega) (by omega)
    refine Ev.step (fun k => ?_) hv
    rw [restrict_KissCode.l0, if_pos (by omega), if_pos (by omega), if_pos (by omega), hc, if_neg (by omega), if_pos (by omega), if_pos (by omega), if_neg (by omega), if_pos (by omega), if_pos (by omega), hw, if_pos (by omega), hsh, hor, wrap_succ i (by omega)]
theorem kiss_ref (s : ByteArray) (i : Nat) (hi : i < 4) (hs : i < s.size) (r : Int) (hr0 : 0 ≤ r) (hr : r < 16777216) (c : Int) (hc : bt s (i : Int) = c) (v : Int) :
    ((c < 65 ∨ c > 90) → Ev (fun k => foliotref06_KissCode.l0 k s r (i : Int)) 0) ∧ (¬ (c < 65 ∨ c > 90) → Ev (fun k => foliotref06_KissCode.l0 k s (r * 256 + c) ((i + 1 : Nat) : Int)) v → Ev (fun k => foliotref06_KissCode.l0 k s r (i : Int)) v) := by
  have hb := bt_rng s (i : Int)
  rw [hc] at hb
  constructor
  · intro h
    refine Ev.succ fun k => ?_
    rw [foliotref06_KissCode.l0, if_pos (by omega), if_pos (by omega), if_pos (by omega), if_pos (by omega), hc]
    by_cases h1 : c < 65
    · rw [if_pos h1]
    · rw [if_neg h1, if_pos (by omega), if_pos (by omega), if_pos (by omega)]
  · intro h hv
    refine Ev.step (fun k => ?_) hv
    rw [foliotref06_KissCode.l0, if_pos (by omega), if_pos (by omega), if_pos (by omega), if_pos (by omega), hc, if_neg (by omega), if_pos (by omega), if_pos (by omega), if_neg (by omega), if_pos (by omega), if_pos (by omega), wrap_succ i (by omega), show (r * 256 % 4294967296 + c % 4294967296) % 4294967296 = r * 256 + c by omega]
theorem kiss_more (s : ByteArray) (i : Nat) (hi : i < 4) (hs : s.size ≤ i) (r : Int) (hr0 : 0 ≤ r) (hr : r < 16777216) (v : Int) (hv : Ev (fun k => foliotref06_KissCode.l0 k s (r * 256) ((i + 1 : Nat) : Int)) v) : Ev (fun k => foliotref06_KissCode.l0 k s r (i : Int)) v := by
  refine Ev.step (fun k => ?_) hv
  rw [foliotref06_KissCode.l0, if_pos (by omega), if_neg (by omega), wrap_succ i (by omega), show r * 256 % 4294967296 = r * 256 by omega]
theorem kiss_end (s : ByteArray) (r : Int) : Ev (fun k => foliotref06_KissCode.l0 k s r 4) r := Ev.succ fun k => by rw [foliotref06_KissCode.l0, if_neg (by decide)]
/-- The codes from the place i on: p = 256 ^ (4 - i). -/
theorem kiss_both (s : ByteArray) (h4 : s.size ≤ 4) : ∀ (d i : Nat) (r p : Int), i + d = 4 → ((p = 4294967296 ∧ i = 0) ∨ (p = 16777216 ∧ i = 1) ∨ (p = 65536 ∧ i = 2) ∨ (p = 256 ∧ i = 3) ∨ (p = 1 ∧ i = 4)) → 0 ≤ r → r * p < 4294967296 →
    ∃ v, (i ≤ s.size → Ev (fun k => restrict_KissCode.l0 k s (r * p) (s.size : Int) (i : Int)) v) ∧ (s.size < i → v = r * p) ∧ Ev (fun k => foliotref06_KissCode.l0 k s r (i : Int)) v
  | 0, i, r, p, hd, hp, hr0, hr => by
    have e1 : i = 4 := by omega
    have e2 : p = 1 := by omega
    subst e1; subst e2
    rw [Int.mul_one]
    exact ⟨r, fun h => Ev.succ fun k => by rw [restrict_KissCode.l0, if_neg (by omega)], fun _ => rfl, kiss_end s r⟩
  | d + 1, i, r, p, hd, hp, hr0, hr => by
    obtain ⟨q, hq⟩ : ∃ q : Int, (q = 16777216 ∧ i = 0) ∨ (q = 65536 ∧ i = 1) ∨ (q = 256 ∧ i = 2) ∨ (q = 1 ∧ i = 3) := by
      rcases (by omega : i = 0 ∨ i = 1 ∨ i = 2 ∨ i = 3) with h | h | h | h
      · exact ⟨16777216, .inl ⟨rfl, h⟩⟩
      · exact ⟨65536, .inr (.inl ⟨rfl, h⟩)⟩
      · exact ⟨256, .inr (.inr (.inl ⟨rfl, h⟩))⟩
      · exact ⟨1, .inr (.inr (.inr ⟨rfl, h⟩))⟩
    have hpq : p = q * 256 := by omega
    have hr2 : r < 16777216 := by
      rcases hp with ⟨rfl, _⟩ | ⟨rfl, _⟩ | ⟨rfl, _⟩ | ⟨rfl, _⟩ | ⟨rfl, _⟩ <;> omega
    by_cases hs : i < s.size
    · have hb := bt_rng s (i : Int)
      by_cases hc : bt s (i : Int) < 65 ∨ bt s (i : Int) > 90
      · refine ⟨0, fun _ => (kiss_prog s i (by omega) hs h4 (r * p) q hq ?_ ?_ hr _ rfl 0).1 hc, fun h => by omega, (kiss_ref s i (by omega) hs r hr0 hr2 _ rfl 0).1 hc⟩
        · rw [hpq]; rcases hq with ⟨rfl, _⟩ | ⟨rfl, _⟩ | ⟨rfl, _⟩ | ⟨rfl, _⟩ <;> omega
        · rw [hpq]; exact Int.mul_emod_left _ _
      · have e : r * p + bt s (i : Int) * q = (r * 256 + bt s (i : Int)) * q := by
          rw [hpq, Int.add_mul, Int.mul_assoc, Int.mul_comm 256 q]
        have hlt : (r * 256 + bt s (i : Int)) * q < 4294967296 := by
          rcases hq with ⟨rfl, hi⟩ | ⟨rfl, hi⟩ | ⟨rfl, hi⟩ | ⟨rfl, hi⟩ <;> omega
        obtain ⟨v, h1, h2, h3⟩ := kiss_both s h4 d (i + 1) (r * 256 + bt s (i : Int)) q (by omega) (by omega) (by omega) hlt
        refine ⟨v, fun _ => (kiss_prog s i (by omega) hs h4 (r * p) q hq ?_ ?_ hr _ rfl v).2 hc (by rw [e]; exact h1 (by omega)), fun h => by omega, (kiss_ref s i (by omega) hs r hr0 hr2 _ rfl v).2 hc h3⟩
        · rw [hpq]; rcases hq with ⟨rfl, _⟩ | ⟨rfl, _⟩ | ⟨rfl, _⟩ | ⟨rfl, _⟩ <;> omega
        · rw [hpq]; exact Int.mul_emod_left _ _
    · have e : r * 256 * q = r * p := by rw [hpq, Int.mul_assoc, Int.mul_comm 256 q]
      obtain ⟨v, h1, h2, h3⟩ := kiss_both s h4 d (i + 1) (r * 256) q (by omega) (by omega) (by omega) (by rw [e]; exact hr)
      have hv := h2 (by omega)
      rw [e] at hv
      exact ⟨v, fun h => by rw [hv]; exact Ev.succ fun k => by rw [restrict_KissCode.l0, if_neg (by omega)], fun _ => hv, kiss_more s i (by omega) (by omega) r hr0 hr2 v h3⟩
theorem kiss_same (s : ByteArray) : ∃ v, Ev (fun k => restrict_KissCode.f k s) v ∧ Ev (fun k => foliotref06_KissCode.f k s) v := by
  unfold restrict_KissCode.f foliotref06_KissCode.f
  by_cases c : s = ⟨#[]⟩
  · refine ⟨0, Ev.congr (fun k => by rw [if_pos c]) (Ev.now _), Ev.congr (fun k => by rw [if_pos (by rw [c]; decide)]) (Ev.now _)⟩
  have hpos : 0 < s.size := by
    refine Nat.pos_of_ne_zero fun h => c ?_
    have : s.data = #[] := Array.size_eq_zero_iff.1 h
    cases s
    simp_all
  by_cases d : (s.size : Int) > 4
  · exact ⟨0, Ev.congr (fun k => by rw [if_neg c, if_pos d]) (Ev.now _), Ev.congr (fun k => by rw [if_neg (by omega), if_pos d]) (Ev.now _)⟩
  obtain ⟨v, h1, _, h3⟩ := kiss_both s (by omega) 4 0 0 4294967296 rfl (.inl ⟨rfl, rfl⟩) (by omega) (by omega)
  rw [Int.zero_mul] at h1
  exact ⟨v, Ev.congr (fun k => by rw [if_neg c, if_neg d]; rfl) (h1 (by omega)), Ev.congr (fun k => by rw [if_neg (by omega), if_neg d]; rfl) h3⟩
end Go.Proofs.Ytjfcfljdojkcdaa.Q
