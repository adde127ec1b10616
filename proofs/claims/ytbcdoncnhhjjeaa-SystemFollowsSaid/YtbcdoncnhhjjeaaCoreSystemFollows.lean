/- Plain lemmas on the functions that the law SystemFollows reaches: whole numbers, no program in sight. -/
import Derived.Test.YtbcdoncnhhjjeaaPSystemFollowsx
namespace Go.Proofs.Ytbcdoncnhhjjeaa.CSystemFollows
open Go.RowKit Go.Proofs.Ytbcdoncnhhjjeaa.PSystemFollows Go.Proofs.YtbcdoncnhhjjeaaW.PrintWords Go.Proofs.YtbcdoncnhhjjeaaW.PrintLast Go.Proofs.YtbcdoncnhhjjeaaW.PrintMore
set_option linter.unusedVariables false
set_option linter.unusedSimpArgs false
theorem u64w (n : Int) : IntKind.u64.wrap n = n % 18446744073709551616 := by
  simp [IntKind.wrap, IntKind.bits, IntKind.signed]
theorem w64_in {n : Int} (h0 : -9223372036854775808 ≤ n) (h1 : n ≤ 9223372036854775807) : wrap64 n = n := by
  unfold wrap64; omega
theorem u64_in {n : Int} (h0 : 0 ≤ n) (h1 : n < 18446744073709551616) : IntKind.u64.wrap n = n := by
  rw [u64w]; omega
theorem wf64 {n : Int} (h : (Lit.int .i64 n).wf = true) : -9223372036854775808 ≤ n ∧ n ≤ 9223372036854775807 := by
  simpa [Lit.wf, IntKind.min, IntKind.max, IntKind.signed, IntKind.bits] using h
theorem xorall (x : Int) (h0 : 0 ≤ x) (h1 : x < 18446744073709551616) : Go.bits .xor .u64 18446744073709551615 x = 18446744073709551615 - x := by
  obtain ⟨a, rfl⟩ := Int.eq_ofNat_of_zero_le h0
  have hb : (BitVec.ofInt 64 (18446744073709551615 : Int)) = BitVec.allOnes 64 := by decide
  show IntKind.u64.wrap ((BitVec.ofInt 64 (18446744073709551615 : Int) ^^^ BitVec.ofInt 64 (a : Int)).toNat : Int) = _
  rw [hb, BitVec.allOnes_xor, BitVec.ofInt_natCast, BitVec.toNat_not, BitVec.toNat_ofNat, u64w]
  omega
def clampTo (most x : Int) : Int := if x < most then (if -most < x then x else -most) else most
def sat (x : Int) : Int := clampTo 4611686018427387904 x
def Rep (hi lo : Int) (m : Bool) (x : Int) : Prop := 0 ≤ hi ∧ hi < 18446744073709551616 ∧ 0 ≤ lo ∧ lo < 18446744073709551616 ∧ x = if m = true then -(hi * 18446744073709551616 + lo) else hi * 18446744073709551616 + lo
theorem Ev.succ {α : Type} {g : Nat → Option α} {r : α} (h : ∀ k, g (k + 1) = some r) : Ev g r := Ev.step h (Ev.now r)
theorem Ev.const {α : Type} {g : Option α} {r : α} (h : g = some r) : Ev (fun _ => g) r := by rw [h]; exact Ev.now r
def IsRoot (n r : Int) : Prop := 0 ≤ r ∧ r * r ≤ n ∧ n < (r + 1) * (r + 1)
theorem IsRoot.uniq {n r s : Int} (h : IsRoot n r) (h' : IsRoot n s) : r = s := by
  obtain ⟨a, b, c⟩ := h; obtain ⟨a', b', c'⟩ := h'
  rcases Int.lt_trichotomy r s with h | h | h
  · have := Int.mul_le_mul (show r + 1 ≤ s by omega) (show r + 1 ≤ s by omega) (by omega) (by omega); omega
  · exact h
  · have := Int.mul_le_mul (show s + 1 ≤ r by omega) (show s + 1 ≤ r by omega) (by omega) (by omega); omega
theorem add64 (x y c : Int) (hx : 0 ≤ x) (hy : 0 ≤ y) (hc0 : 0 ≤ c) (hc : c ≤ 1) : bits_Add64.f x y c = some ((x + y + c) % 18446744073709551616, (x + y + c) / 18446744073709551616) := by
  unfold bits_Add64.f; rw [if_pos ⟨hx, hy, hc0, hc⟩]

theorem sum_rep (a b : Int) (ha0 : -9223372036854775808 ≤ a) (ha : a ≤ 9223372036854775807) (hb0 : -9223372036854775808 ≤ b) (hb : b ≤ 9223372036854775807) : ∃ hi lo m, fixed_sum.f a b = some (hi, lo, m) ∧ Rep hi lo m (a + b) := by
  have sg : ∀ x : Int, -9223372036854775808 ≤ x → x ≤ 9223372036854775807 → ∃ u s : Int, x % 18446744073709551616 = u ∧ x / 9223372036854775808 % 18446744073709551616 = s ∧ 0 ≤ u ∧ u < 18446744073709551616 ∧ ((s = 0 ∧ x = u) ∨ (s = 18446744073709551615 ∧ x = u - 18446744073709551616)) := by
    intro x h0 h1
    refine ⟨_, _, rfl, rfl, ?_, ?_, ?_⟩ <;> omega
  obtain ⟨u, s, eu, es, hu0, hu1, hs⟩ := sg a ha0 ha
  obtain ⟨v, t, ev, et, hv0, hv1, ht⟩ := sg b hb0 hb
  unfold fixed_sum.f
  rw [u64w a, u64w b, eu, ev, u64w (a / _), u64w (b / _), es, et, add64 u v 0 hu0 hv0 (by omega) (by omega)]
  simp only [Option.bind_some]
  rw [u64w (s + t)]
  obtain ⟨c, lo, ec, el, hc, hl0, hl1, huv⟩ : ∃ c lo : Int, (u + v + 0) / 18446744073709551616 = c ∧ (u + v + 0) % 18446744073709551616 = lo ∧ (c = 0 ∨ c = 1) ∧ 0 ≤ lo ∧ lo < 18446744073709551616 ∧ u + v = c * 18446744073709551616 + lo := ⟨_, _, rfl, rfl, by omega, by omega, by omega, by omega⟩
  rw [ec, el]
  obtain ⟨hi, eh, hh0, hh1, hsum, hsm⟩ : ∃ hi : Int, IntKind.u64.wrap ((s + t) % 18446744073709551616 + c) = hi ∧ 0 ≤ hi ∧ hi < 18446744073709551616 ∧ ((hi ≤ 1 ∧ a + b = hi * 18446744073709551616 + lo) ∨ (18446744073709551614 ≤ hi ∧ a + b = (hi - 18446744073709551616) * 18446744073709551616 + lo)) ∧ True := by
    refine ⟨_, rfl, ?_, ?_, ?_, trivial⟩ <;> rw [u64w] <;> clear eu es ev et ec el <;> rcases hs with ⟨rfl, rfl⟩ | ⟨rfl, rfl⟩ <;> rcases ht with ⟨rfl, rfl⟩ | ⟨rfl, rfl⟩ <;> rcases hc with rfl | rfl <;> omega
  rw [eh]
  clear eh hc ec el eu es ev et
  by_cases hn : wrap64 hi < 0
  · rw [if_pos hn, xorall lo (by omega) (by omega), xorall hi (by omega) (by omega), add64 _ _ _ (by omega) (by omega) (by omega) (by omega)]
    refine ⟨_, _, _, rfl, ?_⟩
    unfold wrap64 at hn
    unfold Rep
    rw [if_pos rfl, u64w]
    have h2 : 18446744073709551614 ≤ hi := by omega
    clear hn hs ht
    have : hi = 18446744073709551614 ∨ hi = 18446744073709551615 := by omega
    rcases this with rfl | rfl <;> omega
  · rw [if_neg hn]
    refine ⟨_, _, _, rfl, ?_⟩
    unfold wrap64 at hn
    unfold Rep
    rw [if_neg (by decide)]
    have h2 : hi ≤ 1 := by omega
    clear hn hs ht
    omega

theorem cut_rep (k : Nat) {hi lo : Int} {m : Bool} {x : Int} (h : Rep hi lo m x) (most : Int) (h0 : 0 < most) (h1 : most ≤ 9223372036854775807) : fixed_whole_cut.f (k + 1) hi lo m most = some (clampTo most x) := by
  obtain ⟨a, b, c, d, e⟩ := h
  unfold fixed_whole_cut.f
  simp only [fixed_whole_cut.j0]
  rw [u64_in (n := most) (by omega) (by omega)]
  have key : ∀ n : Int, 0 ≤ n → (if n < most then (if m = true then wrap64 (-(wrap64 n)) else wrap64 n) else (if m = true then wrap64 (-most) else most)) = clampTo most (if m = true then -n else n) := by
    intro n hn
    unfold clampTo wrap64
    cases m <;> simp only [Bool.false_eq_true, if_false, if_true] <;> (repeat' split) <;> omega
  subst e
  by_cases hz : hi = 0
  · rw [if_pos hz]
    subst hz
    have := key lo c
    simp only [Int.zero_mul, Int.zero_add]
    rw [← this]
    by_cases hl : lo < most
    · simp only [hl, decide_true, if_true]
      cases m <;> simp
    · simp only [hl, decide_false, if_false, Bool.false_eq_true]
      cases m <;> simp
  · rw [if_neg hz]
    have := key (hi * 18446744073709551616 + lo) (by omega)
    rw [← this, if_neg (show ¬ (hi * 18446744073709551616 + lo < most) by omega)]
    cases m <;> simp
theorem span_rep (k : Nat) {hi lo : Int} {m : Bool} {x : Int} (h : Rep hi lo m x) : fixed_whole_span.f (k + 1) hi lo m = some (sat x) := by
  unfold fixed_whole_span.f
  rw [cut_rep k h _ (by omega) (by omega)]
  rfl
theorem sat_in (x : Int) : -4611686018427387904 ≤ sat x ∧ sat x ≤ 4611686018427387904 := by
  unfold sat clampTo; (repeat' split) <;> omega
theorem add_eq (k : Nat) (a b : Int) (ha0 : -9223372036854775808 ≤ a) (ha : a ≤ 9223372036854775807) (hb0 : -9223372036854775808 ≤ b) (hb : b ≤ 9223372036854775807) : fixed_Add.f (k + 1) a b = some (sat (a + b)) := by
  obtain ⟨hi, lo, m, e, r⟩ := sum_rep a b ha0 ha hb0 hb
  unfold fixed_Add.f
  rw [e]
  simp only [Option.bind_some]
  rw [span_rep k r]
  rfl
theorem ev_add (a b : Int) (ha0 : -9223372036854775808 ≤ a) (ha : a ≤ 9223372036854775807) (hb0 : -9223372036854775808 ≤ b) (hb : b ≤ 9223372036854775807) : Ev (fun k => fixed_Add.f k a b) (sat (a + b)) := Ev.succ fun k => add_eq k a b ha0 ha hb0 hb

theorem size_eq (a : Int) (ha0 : -9223372036854775808 ≤ a) (ha : a ≤ 9223372036854775807) : fixed_size.f a = some (if a < 0 then -a else a, decide (a < 0)) := by
  unfold fixed_size.f
  by_cases h : a < 0
  · rw [if_pos h, if_pos h, u64w, u64w]
    simp only [h, decide_true]
    congr 2; omega
  · rw [if_neg h, if_neg h, u64w]
    simp only [h, decide_false]
    congr 2; omega

theorem ev_span {hi lo : Int} {m : Bool} {x : Int} (h : Rep hi lo m x) : Ev (fun k => fixed_whole_span.f k hi lo m) (sat x) := Ev.succ fun k => span_rep k h
theorem size_rep (a : Int) (ha0 : -9223372036854775808 ≤ a) (ha : a ≤ 9223372036854775807) : ∃ n m, fixed_size.f a = some (n, m) ∧ Rep 0 n m a ∧ Rep 0 n false (if a < 0 then -a else a) := by
  refine ⟨_, _, size_eq a ha0 ha, ?_, ?_⟩
  · unfold Rep
    by_cases h : a < 0
    · simp only [h, decide_true, if_true]; omega
    · simp only [h, decide_false, if_false, Bool.false_eq_true]; omega
  · unfold Rep
    simp only [Bool.false_eq_true, if_false]
    split <;> omega

theorem ev_abs (a : Int) (ha0 : -9223372036854775808 ≤ a) (ha : a ≤ 9223372036854775807) : Ev (fun k => fixed_Abs.f k a) (sat (if a < 0 then -a else a)) := by
  obtain ⟨n, m, e, _, r⟩ := size_rep a ha0 ha
  unfold fixed_Abs.f
  exact Ev.bind (Ev.const e) (Ev.bind (ev_span r) (Ev.now _))

def V : List Int → Int
  | [] => 0
  | d :: l => d + 65536 * V l
def Dg (l : List Int) : Prop := ∀ d ∈ l, 0 ≤ d ∧ d < 65536
def Nm (l : List Int) : Prop := Dg l ∧ ∀ h : l ≠ [], l.getLast h ≠ 0
theorem pw_pos (n : Nat) : (0 : Int) < 65536 ^ n := Int.pow_pos (by decide)
theorem V_append (a b : List Int) : V (a ++ b) = V a + 65536 ^ a.length * V b := by
  induction a with
  | nil => simp [V]
  | cons d a ih => simp only [List.cons_append, V, ih, List.length_cons, Int.pow_succ]; grind
theorem Dg.nil : Dg [] := fun _ h => by cases h
theorem Dg.append {a b : List Int} (ha : Dg a) (hb : Dg b) : Dg (a ++ b) := fun d hd => (List.mem_append.1 hd).elim (ha d) (hb d)
theorem Dg.one {d : Int} (h0 : 0 ≤ d) (h1 : d < 65536) : Dg [d] := fun x hx => by simp at hx; subst hx; exact ⟨h0, h1⟩
theorem Dg.take {a : List Int} (h : Dg a) (n : Nat) : Dg (a.take n) := fun d hd => h d (List.mem_of_mem_take hd)
theorem Dg.drop {a : List Int} (h : Dg a) (n : Nat) : Dg (a.drop n) := fun d hd => h d (List.mem_of_mem_drop hd)
theorem V_bd {l : List Int} (h : Dg l) : 0 ≤ V l ∧ V l < 65536 ^ l.length := by
  induction l with
  | nil => simp [V]
  | cons d l ih =>
    obtain ⟨i0, i1⟩ := ih fun x hx => h x (List.mem_cons_of_mem _ hx)
    have hd := h d List.mem_cons_self
    simp only [V, List.length_cons, Int.pow_succ]
    constructor <;> omega
theorem rd_nat (l : List Int) (i : Nat) : rd l (i : Int) = l.getD i 0 := by unfold rd; rw [Int.toNat_natCast]
theorem rd_dg {l : List Int} (h : Dg l) (i : Nat) : 0 ≤ rd l (i : Int) ∧ rd l (i : Int) < 65536 := by
  rw [rd_nat, List.getD_eq_getElem?_getD]
  by_cases hi : i < l.length
  · rw [List.getElem?_eq_getElem hi]; exact h _ (List.getElem_mem _)
  · rw [List.getElem?_eq_none (by omega)]; simp
theorem rd_out {l : List Int} {i : Nat} (h : l.length ≤ i) : rd l (i : Int) = 0 := by
  rw [rd_nat, List.getD_eq_getElem?_getD, List.getElem?_eq_none h]; rfl
theorem V_take_succ (l : List Int) (i : Nat) : V (l.take (i + 1)) = V (l.take i) + 65536 ^ i * rd l (i : Int) := by
  by_cases h : i < l.length
  · rw [List.take_succ_eq_append_getElem h, V_append, rd_nat, List.getD_eq_getElem?_getD, List.getElem?_eq_getElem h]
    simp [V, Nat.min_eq_left (Nat.le_of_lt h)]
  · rw [rd_out (by omega), List.take_of_length_le (by omega), List.take_of_length_le (by omega)]; simp
theorem V_take_all (l : List Int) {n : Nat} (h : l.length ≤ n) : V (l.take n) = V l := by rw [List.take_of_length_le h]
theorem V_take_bd {l : List Int} (h : Dg l) (n : Nat) : 0 ≤ V (l.take n) ∧ V (l.take n) < 65536 ^ n := by
  obtain ⟨a, b⟩ := V_bd (h.take n)
  refine ⟨a, Int.lt_of_lt_of_le b ?_⟩
  rw [List.length_take]
  obtain ⟨d, hd⟩ := Nat.exists_eq_add_of_le (Nat.min_le_left n l.length)
  have hp := pw_pos (min n l.length)
  have h2 := pw_pos d
  have := Int.mul_le_mul_of_nonneg_left (show (1 : Int) ≤ 65536 ^ d by omega) (Int.le_of_lt hp)
  rw [← Int.pow_add, ← hd] at this
  omega
theorem V_drop (l : List Int) (i : Nat) (h : i < l.length) : V (l.drop i) = rd l (i : Int) + 65536 * V (l.drop (i + 1)) := by
  rw [List.drop_eq_getElem_cons h]
  simp only [V]
  rw [rd_nat, List.getD_eq_getElem?_getD, List.getElem?_eq_getElem h]; rfl
theorem pw_le {m n : Nat} (h : m ≤ n) : (65536 : Int) ^ m ≤ 65536 ^ n := by
  obtain ⟨d, rfl⟩ := Nat.exists_eq_add_of_le h
  rw [Int.pow_add]
  have h1 := pw_pos m
  have h2 := pw_pos d
  have := Int.mul_le_mul_of_nonneg_left (show (1 : Int) ≤ 65536 ^ d by omega) (Int.le_of_lt h1)
  omega
theorem Nm.ge {l : List Int} (h : Nm l) {n : Nat} (hn : l.length = n + 1) : 65536 ^ n ≤ V l := by
  have hne : l ≠ [] := fun e => by rw [e] at hn; simp at hn
  have hl := h.2 hne
  have e : l = l.take n ++ [l.getLast hne] := by
    have := List.dropLast_concat_getLast hne
    rw [List.dropLast_eq_take, hn] at this
    exact this.symm
  have hd := h.1 _ (List.getLast_mem hne)
  have hb := (V_take_bd h.1 n).1
  rw [e, V_append]
  simp only [V, Int.mul_zero, Int.add_zero]
  rw [show (l.take n).length = n from by rw [List.length_take]; omega]
  have := Int.mul_le_mul_of_nonneg_left (show (1 : Int) ≤ l.getLast hne by omega) (Int.le_of_lt (pw_pos n))
  omega
theorem Nm.len {l : List Int} (h : Nm l) {n : Nat} (hv : V l < 65536 ^ n) : l.length ≤ n := by
  rcases Nat.lt_or_ge n l.length with hl | hl
  · obtain ⟨m, hm⟩ : ∃ m, l.length = m + 1 := ⟨l.length - 1, by omega⟩
    have := h.ge hm
    have := pw_le (show n ≤ m by omega)
    omega
  · exact hl
theorem Nm.nil : Nm [] := ⟨Dg.nil, fun h => absurd rfl h⟩
def sgn (d : Int) : Int := if d < 0 then -1 else if 0 < d then 1 else 0
def Big (n : Nat) (l : List Int) (m : Bool) (x : Int) : Prop := Nm l ∧ l.length ≤ n ∧ x = if m = true then -V l else V l
theorem Nm.tail {d : Int} {l : List Int} (h : Nm (d :: l)) : Nm l := by
  refine ⟨fun x hx => h.1 x (List.mem_cons_of_mem _ hx), fun hne e => ?_⟩
  exact h.2 (by simp) (by rw [List.getLast_cons hne]; exact e)
theorem Nm.zero {l : List Int} (h : Nm l) (hv : V l = 0) : l = [] := by
  have := h.len (n := 0) (by rw [hv]; decide)
  exact List.length_eq_zero_iff.1 (by omega)
theorem Nm.uniq : ∀ {a b : List Int}, Nm a → Nm b → V a = V b → a = b
  | [], b, _, hb, h => (hb.zero (by rw [← h]; rfl)).symm
  | d :: a, [], ha, _, h => ha.zero (by rw [h]; rfl)
  | d :: a, e :: b, ha, hb, h => by
    have h1 := ha.1 d List.mem_cons_self; have h2 := hb.1 e List.mem_cons_self
    simp only [V] at h
    have e1 : V a = V b := by omega
    rw [Nm.uniq ha.tail hb.tail e1, show d = e by omega]
theorem Nm.cons {d : Int} {l : List Int} (h : Nm l) (h0 : 0 ≤ d) (h1 : d < 65536) (h2 : l = [] → d ≠ 0) : Nm (d :: l) := by
  refine ⟨fun x hx => (List.mem_cons.1 hx).elim (fun e => by subst e; exact ⟨h0, h1⟩) (h.1 x), fun hne => ?_⟩
  by_cases hl : l = []
  · subst hl; simpa using h2 rfl
  · rw [List.getLast_cons hl]; exact h.2 hl
theorem Nm.ex : ∀ (n : Nat) (v : Int), 0 ≤ v → v < 65536 ^ n → ∃ l, Nm l ∧ V l = v ∧ l.length ≤ n
  | 0, v, h0, h1 => ⟨[], Nm.nil, by simp at h1; simp only [V]; omega, Nat.le_refl _⟩
  | n + 1, v, h0, h1 => by
    rw [Int.pow_succ] at h1
    obtain ⟨l, hl, he, hn⟩ := Nm.ex n (v / 65536) (by omega) (by omega)
    by_cases hz : v = 0
    · exact ⟨[], Nm.nil, by subst hz; rfl, by simp⟩
    · refine ⟨v % 65536 :: l, hl.cons (by omega) (by omega) (fun e => ?_), by simp only [V]; omega, by simp; omega⟩
      subst e; simp only [V] at he; omega
theorem V_one (m : Int) : V [m] = m := by simp [V]

theorem cmp_l0 (a b : List Int) (ha : Dg a) (hb : Dg b) (hl : a.length ≤ 100000) : ∀ c : Nat, c ≤ a.length → c ≤ b.length → Ev (fun k => foliotref01_compare.l0 k a b ((c : Int) - 1)) (sgn (V (a.take c) - V (b.take c))) := by
  intro c
  induction c with
  | zero =>
    intro _ _
    refine Ev.succ fun k => ?_
    simp only [foliotref01_compare.l0]
    rw [if_neg (by omega)]; simp [sgn, V]
  | succ c ih =>
    intro h1 h2
    have e : ((c + 1 : Nat) : Int) - 1 = c := by omega
    rw [e, V_take_succ, V_take_succ]
    have da := rd_dg ha c; have db := rd_dg hb c
    have va := V_take_bd ha c; have vb := V_take_bd hb c
    have hp := pw_pos c
    generalize hx : rd a (c : Int) = x at *
    generalize hy : rd b (c : Int) = y at *
    by_cases hlt : x < y
    · refine Ev.succ fun k => ?_
      simp only [foliotref01_compare.l0]
      rw [if_pos (by omega), if_pos (by omega), if_pos (by omega), if_pos (by omega), hx, hy, if_pos hlt]
      have := Int.mul_le_mul_of_nonneg_left (show x + 1 ≤ y by omega) (Int.le_of_lt hp)
      rw [Int.mul_add, Int.mul_one] at this
      unfold sgn; rw [if_pos (by omega)]
    · by_cases hgt : y < x
      · refine Ev.succ fun k => ?_
        simp only [foliotref01_compare.l0]
        rw [if_pos (by omega), if_pos (by omega), if_pos (by omega), if_pos (by omega), hx, hy, if_neg hlt, if_pos hgt]
        have := Int.mul_le_mul_of_nonneg_left (show y + 1 ≤ x by omega) (Int.le_of_lt hp)
        rw [Int.mul_add, Int.mul_one] at this
        unfold sgn; rw [if_neg (by omega), if_pos (by omega)]
      · obtain rfl : x = y := by omega
        rw [show V (a.take c) + 65536 ^ c * x - (V (b.take c) + 65536 ^ c * x) = V (a.take c) - V (b.take c) by omega]
        refine Ev.step (fun k => ?_) (ih (by omega) (by omega))
        simp only [foliotref01_compare.l0]
        rw [if_pos (by omega), if_pos (by omega), if_pos (by omega), if_pos (by omega), hx, hy, if_neg hlt, if_neg hgt, w64_in (n := (c : Int) - 1) (by omega) (by omega)]
theorem ev_cmp (a b : List Int) (ha : Nm a) (hb : Nm b) (hl : a.length ≤ 100000) : Ev (fun k => foliotref01_compare.f k a b) (sgn (V a - V b)) := by
  unfold foliotref01_compare.f
  have va := V_bd ha.1; have vb := V_bd hb.1
  by_cases h : (a.length : Int) = b.length
  · simp only [h, if_true]
    have := cmp_l0 a b ha.1 hb.1 hl a.length (Nat.le_refl _) (by omega)
    rw [V_take_all a (Nat.le_refl _), V_take_all b (by omega), h] at this
    rw [w64_in (n := (b.length : Int) - 1) (by omega) (by omega)]
    exact this
  · simp only [h, if_false]
    by_cases h2 : (a.length : Int) < b.length
    · simp only [h2, if_true]
      obtain ⟨m, hm⟩ : ∃ m, b.length = m + 1 := ⟨b.length - 1, by omega⟩
      have := hb.ge hm
      have := pw_le (show a.length ≤ m by omega)
      rw [show sgn (V a - V b) = -1 from by unfold sgn; rw [if_pos (by omega)]]
      exact Ev.now _
    · simp only [h2, if_false]
      obtain ⟨m, hm⟩ : ∃ m, a.length = m + 1 := ⟨a.length - 1, by omega⟩
      have := ha.ge hm
      have := pw_le (show b.length ≤ m by omega)
      rw [show sgn (V a - V b) = 1 from by unfold sgn; rw [if_neg (by omega), if_pos (by omega)]]
      exact Ev.now _

theorem trim_l0 (a : List Int) (ha : Dg a) (hl : a.length ≤ 100000) : ∀ c : Nat, c ≤ a.length → ∃ r, Ev (fun k => foliotref01_trim.l0 k a (c : Int)) r ∧ Nm r ∧ V r = V (a.take c) ∧ r.length ≤ c := by
  intro c
  induction c with
  | zero =>
    intro _
    refine ⟨[], Ev.succ fun k => ?_, Nm.nil, by simp [V], by simp⟩
    simp only [foliotref01_trim.l0]
    rw [if_neg (by omega), if_pos (by omega), if_pos (by omega)]; simp
  | succ c ih =>
    intro h1
    have e : wrap64 (((c + 1 : Nat) : Int) - 1) = c := by rw [w64_in (by omega) (by omega)]; omega
    by_cases hz : rd a (c : Int) = 0
    · obtain ⟨r, hr, h⟩ := ih (by omega)
      refine ⟨r, Ev.step (fun k => ?_) hr, h.1, ?_, by omega⟩
      · simp only [foliotref01_trim.l0]
        rw [if_pos (by omega), e, if_pos (by omega), if_pos (by omega), if_pos hz]
      · rw [V_take_succ, hz, Int.mul_zero, Int.add_zero]; exact h.2.1
    · refine ⟨a.take (c + 1), Ev.succ fun k => ?_, ⟨ha.take _, fun hne => ?_⟩, rfl, by rw [List.length_take]; omega⟩
      · simp only [foliotref01_trim.l0]
        rw [if_pos (by omega), e, if_pos (by omega), if_pos (by omega), if_neg hz, if_pos (by omega), if_pos (by omega), Int.toNat_natCast]
      · rw [List.getLast_eq_getElem, List.getElem_take]
        intro h
        apply hz
        rw [rd_nat, List.getD_eq_getElem?_getD, List.getElem?_eq_getElem (by omega)]
        simp only [Option.getD_some]
        rw [← h]
        congr 1
        rw [List.length_take]; omega
theorem ev_trim (a : List Int) (ha : Dg a) (hl : a.length ≤ 100000) : ∃ r, Ev (fun k => foliotref01_trim.f k a) r ∧ Nm r ∧ V r = V a ∧ r.length ≤ a.length := by
  obtain ⟨r, hr, h1, h2, h3⟩ := trim_l0 a ha hl a.length (Nat.le_refl _)
  rw [V_take_all a (Nat.le_refl _)] at h2
  exact ⟨r, hr, h1, h2, h3⟩

theorem plus_j1 (k : Nat) (a b x : List Int) (c : Int) (i : Nat) (hx : x.length < 17592186044416) (hc0 : 0 ≤ c) (hc1 : c ≤ 1) (ha : Dg a) (hb : Dg b) (hi : i ≤ 1000000) :
    foliotref01_plus.j1 (k + 1) a b x c (i : Int) true = foliotref01_plus.l0 k a b (x ++ [(c + rd a (i : Int) + rd b (i : Int)) % 65536]) ((c + rd a (i : Int) + rd b (i : Int)) / 65536) ((i + 1 : Nat) : Int) := by
  have da := rd_dg ha i; have db := rd_dg hb i
  have e1 : wrap64 ((i : Int) + 1) = ((i + 1 : Nat) : Int) := by rw [w64_in (by omega) (by omega)]; omega
  simp only [foliotref01_plus.j1]
  rw [if_pos trivial]
  by_cases h1 : (i : Int) < (a.length : Int)
  · rw [if_pos h1, if_pos (by omega), w64_in (n := c + rd a i) (by omega) (by omega)]
    by_cases h2 : (i : Int) < (b.length : Int)
    · rw [if_pos h2, if_pos hx, w64_in (n := c + rd a i + rd b i) (by omega) (by omega), Int.tmod_eq_emod_of_nonneg (by omega), Int.tdiv_eq_ediv_of_nonneg (by omega), w64_in (n := (c + rd a i + rd b i) / 65536) (by omega) (by omega), e1]
    · rw [if_neg h2, if_pos hx, rd_out (l := b) (by omega), Int.add_zero, Int.tmod_eq_emod_of_nonneg (by omega), Int.tdiv_eq_ediv_of_nonneg (by omega), w64_in (n := (c + rd a i) / 65536) (by omega) (by omega), e1]
  · rw [if_neg h1, rd_out (l := a) (by omega), Int.add_zero]
    by_cases h2 : (i : Int) < (b.length : Int)
    · rw [if_pos h2, if_pos (by omega), if_pos hx, w64_in (n := c + rd b i) (by omega) (by omega), Int.tmod_eq_emod_of_nonneg (by omega), Int.tdiv_eq_ediv_of_nonneg (by omega), w64_in (n := (c + rd b i) / 65536) (by omega) (by omega), e1]
    · rw [if_neg h2, if_pos hx, rd_out (l := b) (by omega), Int.add_zero, Int.tmod_eq_emod_of_nonneg (by omega), Int.tdiv_eq_ediv_of_nonneg (by omega), w64_in (n := c / 65536) (by omega) (by omega), e1]
theorem plus_l0 (a b : List Int) (ha : Dg a) (hb : Dg b) (hla : a.length ≤ 1000) (hlb : b.length ≤ 1000) : ∀ (d : Nat) (i : Nat) (c : Int) (x : List Int), i + d = max a.length b.length + 1 → x.length = i → Dg x → 0 ≤ c → c ≤ 1 → V x + 65536 ^ i * c = V (a.take i) + V (b.take i) →
    ∃ r, Ev (fun k => foliotref01_plus.l0 k a b x c (i : Int)) r ∧ Nm r ∧ V r = V a + V b ∧ r.length ≤ max a.length b.length + 1 := by
  have hend : ∀ (i : Nat) (x : List Int), x.length = i → Dg x → max a.length b.length ≤ i → i ≤ max a.length b.length + 1 → V x = V (a.take i) + V (b.take i) → ∃ r, Ev (fun k => foliotref01_plus.l0 k a b x 0 (i : Int)) r ∧ Nm r ∧ V r = V a + V b ∧ r.length ≤ max a.length b.length + 1 := by
    intro i x hx dx h1 h2 hv
    obtain ⟨r, hr, hn, he, hl⟩ := ev_trim x dx (by omega)
    refine ⟨r, ?_, hn, ?_, by omega⟩
    · refine Ev.step (f := fun k => foliotref01_plus.j1 k a b x 0 (i : Int) false) (fun k => ?_) ?_
      · simp only [foliotref01_plus.l0]
        rw [if_neg (by omega), if_neg (by omega)]; rfl
      · refine Ev.step (f := fun k => (foliotref01_trim.f k x).bind fun t => some t) (fun k => ?_) (Ev.bind hr (Ev.now _))
        simp only [foliotref01_plus.j1]
        rw [if_neg (by decide)]
    · rw [he, hv, V_take_all a (by omega), V_take_all b (by omega)]
  intro d
  induction d with
  | zero =>
    intro i c x hi hx dx hc0 hc1 hv
    have : c = 0 := by
      rw [V_take_all a (by omega), V_take_all b (by omega)] at hv
      have va := V_bd ha; have vb := V_bd hb; have vx := V_bd dx
      have hp := pw_pos (i - 1)
      have e : (65536 : Int) ^ i = 65536 ^ (i - 1) * 65536 := by rw [← Int.pow_succ]; congr 1; omega
      have := pw_le (show a.length ≤ i - 1 by omega); have := pw_le (show b.length ≤ i - 1 by omega)
      rcases (show c = 0 ∨ c = 1 by omega) with h | h
      · exact h
      · rw [h, e] at hv; omega
    subst this
    exact hend i x hx dx (by omega) (by omega) (by simpa using hv)
  | succ d ih =>
    intro i c x hi hx dx hc0 hc1 hv
    by_cases hgo : i < a.length ∨ i < b.length ∨ c > 0
    · have da := rd_dg ha i; have db := rd_dg hb i
      have hp := pw_pos i
      obtain ⟨r, hr, h⟩ := ih (i + 1) ((c + rd a (i : Int) + rd b (i : Int)) / 65536) (x ++ [(c + rd a (i : Int) + rd b (i : Int)) % 65536]) (by omega) (by simp; omega) (dx.append (Dg.one (by omega) (by omega))) (by omega) (by omega) (by
        rw [V_append, V_take_succ, V_take_succ, hx, Int.pow_succ]
        simp only [V, Int.mul_zero, Int.add_zero]
        have e : (c + rd a (i : Int) + rd b (i : Int)) % 65536 + 65536 * ((c + rd a (i : Int) + rd b (i : Int)) / 65536) = c + rd a (i : Int) + rd b (i : Int) := by omega
        generalize (c + rd a (i : Int) + rd b (i : Int)) % 65536 = s1 at *
        generalize (c + rd a (i : Int) + rd b (i : Int)) / 65536 = s2 at *
        grind)
      refine ⟨r, Ev.step (f := fun k => foliotref01_plus.j1 k a b x c (i : Int) true) (fun k => ?_) (Ev.step (fun k => plus_j1 k a b x c i (by omega) hc0 hc1 ha hb (by omega)) hr), h⟩
      simp only [foliotref01_plus.l0]
      by_cases h1 : (i : Int) < (a.length : Int)
      · rw [if_pos h1]
      · rw [if_neg h1]
        by_cases h2 : (i : Int) < (b.length : Int)
        · rw [if_pos h2]
        · rw [if_neg h2, decide_eq_true (by omega)]
    · obtain rfl : c = 0 := by omega
      exact hend i x hx dx (by omega) (by omega) (by simpa using hv)
theorem ev_plus (a b : List Int) (ha : Dg a) (hb : Dg b) (hla : a.length ≤ 1000) (hlb : b.length ≤ 1000) : ∃ r, Ev (fun k => foliotref01_plus.f k a b) r ∧ Nm r ∧ V r = V a + V b ∧ r.length ≤ max a.length b.length + 1 := by
  unfold foliotref01_plus.f
  exact plus_l0 a b ha hb hla hlb (max a.length b.length + 1) 0 0 [] (by omega) rfl Dg.nil (by omega) (by omega) (by simp [V])

theorem minus_step (k : Nat) (a b x : List Int) (c : Int) (i : Nat) (hx : x.length < 17592186044416) (hc0 : 0 ≤ c) (hc1 : c ≤ 1) (ha : Dg a) (hb : Dg b) (hi : i < a.length) (hl : a.length ≤ 1000) :
    foliotref01_minus.l0 (k + 1) a b x c (i : Int) = foliotref01_minus.l0 k a b (x ++ [(rd a (i : Int) - c - rd b (i : Int)) % 65536]) (-((rd a (i : Int) - c - rd b (i : Int)) / 65536)) ((i + 1 : Nat) : Int) := by
  have da := rd_dg ha i; have db := rd_dg hb i
  have e1 : wrap64 ((i : Int) + 1) = ((i + 1 : Nat) : Int) := by rw [w64_in (by omega) (by omega)]; omega
  simp only [foliotref01_minus.l0]
  rw [if_pos (by omega), if_pos (by omega), w64_in (n := rd a i - c) (by omega) (by omega), e1]
  by_cases h2 : (i : Int) < (b.length : Int)
  · rw [if_pos h2, w64_in (n := rd a i - c - rd b i) (by omega) (by omega)]
    by_cases h3 : rd a (i : Int) - c - rd b (i : Int) < 0
    · rw [if_pos h3, if_pos hx, w64_in (n := rd a i - c - rd b i + 65536) (by omega) (by omega)]
      congr 2
      · congr 1; omega
      · omega
    · rw [if_neg h3, if_pos hx]
      congr 2
      · congr 1; omega
      · omega
  · rw [if_neg h2, rd_out (l := b) (by omega), Int.sub_zero]
    by_cases h3 : rd a (i : Int) - c < 0
    · rw [if_pos h3, if_pos hx, w64_in (n := rd a i - c + 65536) (by omega) (by omega)]
      congr 2
      · congr 1; omega
      · omega
    · rw [if_neg h3, if_pos hx]
      congr 2
      · congr 1; omega
      · omega
theorem minus_l0 (a b : List Int) (ha : Dg a) (hb : Nm b) (hla : a.length ≤ 1000) (hv : V b ≤ V a) : ∀ (d : Nat) (i : Nat) (c : Int) (x : List Int), i + d = a.length → x.length = i → Dg x → 0 ≤ c → c ≤ 1 → V x - 65536 ^ i * c = V (a.take i) - V (b.take i) →
    ∃ r, Ev (fun k => foliotref01_minus.l0 k a b x c (i : Int)) r ∧ Nm r ∧ V r = V a - V b ∧ r.length ≤ a.length := by
  intro d
  induction d with
  | zero =>
    intro i c x hi hx dx hc0 hc1 he
    have va := V_bd ha
    have hlb : b.length ≤ a.length := hb.len (by omega)
    obtain ⟨r, hr, hn, hev, hl⟩ := ev_trim x dx (by omega)
    rw [V_take_all a (by omega), V_take_all b (by omega)] at he
    have vx := V_bd dx
    rw [hx] at vx
    have hc : c = 0 := by
      rcases (show c = 0 ∨ c = 1 by omega) with h | h
      · exact h
      · rw [h] at he; omega
    subst hc
    refine ⟨r, Ev.step (f := fun k => (foliotref01_trim.f k x).bind fun t => some t) (fun k => ?_) (Ev.bind hr (Ev.now _)), hn, by rw [hev]; simpa using he, by omega⟩
    simp only [foliotref01_minus.l0]
    rw [if_neg (by omega)]
  | succ d ih =>
    intro i c x hi hx dx hc0 hc1 he
    have da := rd_dg ha i; have db := rd_dg hb.1 i
    obtain ⟨r, hr, h⟩ := ih (i + 1) (-((rd a (i : Int) - c - rd b (i : Int)) / 65536)) (x ++ [(rd a (i : Int) - c - rd b (i : Int)) % 65536]) (by omega) (by simp; omega) (dx.append (Dg.one (by omega) (by omega))) (by omega) (by omega) (by
      rw [V_append, V_take_succ, V_take_succ, hx, Int.pow_succ]
      simp only [V, Int.mul_zero, Int.add_zero]
      have e : (rd a (i : Int) - c - rd b (i : Int)) % 65536 + 65536 * ((rd a (i : Int) - c - rd b (i : Int)) / 65536) = rd a (i : Int) - c - rd b (i : Int) := by omega
      generalize (rd a (i : Int) - c - rd b (i : Int)) % 65536 = s1 at *
      generalize (rd a (i : Int) - c - rd b (i : Int)) / 65536 = s2 at *
      grind)
    exact ⟨r, Ev.step (fun k => minus_step k a b x c i (by omega) hc0 hc1 ha hb.1 (by omega) hla) hr, h⟩
theorem ev_minus (a b : List Int) (ha : Dg a) (hb : Nm b) (hla : a.length ≤ 1000) (hv : V b ≤ V a) : ∃ r, Ev (fun k => foliotref01_minus.f k a b) r ∧ Nm r ∧ V r = V a - V b ∧ r.length ≤ a.length := by
  unfold foliotref01_minus.f
  exact minus_l0 a b ha hb hla hv a.length 0 0 [] (by omega) rfl Dg.nil (by omega) (by omega) (by simp [V])

theorem of_l0 (R : List Int) (hR : Nm R) (m : Bool) : ∀ (d : Nat) (u : Int) (x : List Int), 0 ≤ u → u < 65536 ^ d → u < 18446744073709551616 → Dg x → x.length + d ≤ 100 → (u = 0 → Nm x) → V x + 65536 ^ x.length * u = V R → Ev (fun k => foliotref01_of.l0 k u x m) (R, m) := by
  have hend : ∀ (x : List Int), Nm x → V x = V R → Ev (fun k => foliotref01_of.l0 k 0 x m) (R, m) := by
    intro x hx hv
    obtain rfl := Nm.uniq hx hR hv
    refine Ev.succ fun k => ?_
    simp only [foliotref01_of.l0]
    rw [if_neg (by omega)]
  intro d
  induction d with
  | zero =>
    intro u x h0 h1 _ dx hl hz hv
    obtain rfl : u = 0 := by simp at h1; omega
    exact hend x (hz rfl) (by simpa using hv)
  | succ d ih =>
    intro u x h0 h1 h2 dx hl hz hv
    by_cases hu : u = 0
    · subst hu; exact hend x (hz rfl) (by simpa using hv)
    · rw [Int.pow_succ] at h1
      have key := ih (u / 65536) (x ++ [u % 65536]) (by omega) (by omega) (by omega) (dx.append (Dg.one (by omega) (by omega))) (by simp; omega) (fun hz2 => ⟨dx.append (Dg.one (by omega) (by omega)), fun hne => by simp; omega⟩) (by
        rw [V_append, V_one, List.length_append, ← hv]
        simp only [List.length_cons, List.length_nil, Nat.zero_add, Int.pow_succ]
        have e : u = u % 65536 + 65536 * (u / 65536) := by omega
        generalize u % 65536 = u1 at *
        generalize u / 65536 = u2 at *
        subst e
        grind)
      have e1 : IntKind.u64.wrap (Int.tdiv u 65536) = u / 65536 := by rw [Int.tdiv_eq_ediv_of_nonneg h0]; exact u64_in (by omega) (by omega)
      have e2 : wrap64 (Int.tmod u 65536) = u % 65536 := by rw [Int.tmod_eq_emod_of_nonneg h0]; exact w64_in (by omega) (by omega)
      have c1 : u > 0 := by clear e1 e2; omega
      have c2 : x.length < 17592186044416 := by clear e1 e2; omega
      refine Ev.step (fun k => ?_) key
      simp only [foliotref01_of.l0]
      rw [if_pos c1, if_pos c2, e1, e2]
theorem ev_of (a : Int) (ha0 : -9223372036854775808 ≤ a) (ha : a ≤ 9223372036854775807) : ∃ l, Ev (fun k => foliotref01_of.f k a) (l, decide (a < 0)) ∧ Big 4 l (decide (a < 0)) a := by
  obtain ⟨u, hu, hu0, hu1, hua⟩ : ∃ u, (if a < 0 then -a else a) = u ∧ 0 ≤ u ∧ u ≤ 9223372036854775808 ∧ a = if a < 0 then -u else u := by
    refine ⟨_, rfl, ?_, ?_, ?_⟩ <;> split <;> omega
  obtain ⟨R, hR, hv, hl⟩ := Nm.ex 4 u hu0 (by omega)
  have key := of_l0 R hR (decide (a < 0)) 4 u [] hu0 (by omega) (by omega) Dg.nil (by simp) (fun _ => Nm.nil) (by simp [V, hv])
  have k2 : Ev (fun k => foliotref01_of.j0 k u (decide (a < 0))) (R, decide (a < 0)) := Ev.step (fun k => by simp only [foliotref01_of.j0]) key
  refine ⟨R, ?_, hR, hl, ?_⟩
  · unfold foliotref01_of.f
    by_cases h : a < 0
    · rw [if_pos h] at hu
      have e1 : wrap64 (a + 1) = a + 1 := w64_in (by omega) (by omega)
      have e2 : wrap64 (-(a + 1)) = -(a + 1) := w64_in (by clear e1; omega) (by clear e1; omega)
      have e3 : IntKind.u64.wrap (-(a + 1)) = -(a + 1) := u64_in (by clear e1 e2; omega) (by clear e1 e2; omega)
      have e4 : IntKind.u64.wrap (-(a + 1) + 1) = u := by rw [u64_in (by clear e1 e2 e3; omega) (by clear e1 e2 e3; omega)]; clear e1 e2 e3; omega
      rw [e1, e2, e3, e4]
      simp only [h, if_true]
      simp only [h] at k2
      exact k2
    · rw [if_neg h] at hu
      subst hu
      rw [u64_in (n := a) (by omega) (by omega)]
      refine Ev.congr (fun k => ?_) k2
      rw [if_neg h]
  · rw [hv]
    by_cases h : a < 0
    · rw [decide_eq_true h, if_pos rfl]; rw [if_pos h] at hua; exact hua
    · rw [decide_eq_false h, if_neg (by decide)]; rw [if_neg h] at hua; exact hua

theorem ev_s (a : Int) (ha0 : -9223372036854775808 ≤ a) (ha : a ≤ 9223372036854775807) : ∃ l, Ev (fun k => foliotref01_s.f k a) (l, decide (a < 0)) ∧ Big 4 l (decide (a < 0)) a := by
  obtain ⟨l, h, hb⟩ := ev_of a ha0 ha
  exact ⟨l, Ev.bind h (Ev.now _), hb⟩

theorem V_drop_le {l : List Int} (h : Dg l) : ∀ c : Nat, V (l.drop c) ≤ V l
  | 0 => by simp
  | c + 1 => by
    have ih := V_drop_le h c
    by_cases hc : c < l.length
    · rw [V_drop l c hc] at ih
      have := rd_dg h c
      have := (V_bd (h.drop (c + 1))).1
      omega
    · rw [List.drop_eq_nil_of_le (by omega)]; exact (V_bd h).1
theorem cutB_l0 (l : List Int) (m : Bool) (hl : Dg l) (hn : l.length ≤ 100000) (hv : V l < 4611686018427387904) : ∀ c : Nat, c ≤ l.length → Ev (fun k => foliotref01_cut.l0 k (V (l.drop c)) ((c : Int) - 1) l m) (if m = true then -V l else V l) := by
  have h0 := (V_bd hl).1
  intro c
  induction c with
  | zero =>
    intro _
    refine Ev.succ fun k => ?_
    simp only [foliotref01_cut.l0, List.drop_zero]
    rw [if_neg (by omega)]
    have e : wrap64 (-V l) = -V l := w64_in (by omega) (by omega)
    rw [e]; cases m <;> rfl
  | succ c ih =>
    intro hc
    have hd := V_drop l c (by omega)
    have hle := V_drop_le hl c
    have hr := rd_dg hl c
    have h1 := (V_bd (hl.drop (c + 1))).1
    have c1 : (c : Int) ≥ 0 := Int.natCast_nonneg _
    have c2 : (c : Int) < (l.length : Int) := by omega
    have e0 : ((c + 1 : Nat) : Int) - 1 = c := by omega
    have b1 : -9223372036854775808 ≤ V (l.drop (c + 1)) * 65536 ∧ V (l.drop (c + 1)) * 65536 ≤ 9223372036854775807 := by omega
    have b2 : -9223372036854775808 ≤ V (l.drop c) ∧ V (l.drop c) ≤ 9223372036854775807 := by omega
    have e1 : V (l.drop (c + 1)) * 65536 + rd l (c : Int) = V (l.drop c) := by omega
    have e2 : wrap64 ((c : Int) - 1) = (c : Int) - 1 := w64_in (by clear e1; omega) (by clear e1; omega)
    refine Ev.step (fun k => ?_) (ih (by clear e2; omega))
    simp only [foliotref01_cut.l0]
    rw [e0, if_pos c1, if_pos c1, if_pos c2, w64_in b1.1 b1.2, e1, w64_in b2.1 b2.2, e2]
theorem ev_cutB {n : Nat} {l : List Int} {m : Bool} {x : Int} (h : Big n l m x) (hn : n ≤ 1000) (most : Int) (h0 : 0 < most) (h1 : most ≤ 4611686018427387904) : Ev (fun k => foliotref01_cut.f k l m most) (clampTo most x) := by
  obtain ⟨hl, hlen, hx⟩ := h
  obtain ⟨lm, hm, hmb⟩ := ev_of most (by omega) (by omega)
  have hneg : decide (most < 0) = false := decide_eq_false (by omega)
  rw [hneg] at hm hmb
  obtain ⟨hln, hll, hlv⟩ := hmb
  simp only [Bool.false_eq_true, if_false] at hlv
  have hv0 := (V_bd hl.1).1
  have hc := ev_cmp l lm hl hln (by omega)
  unfold foliotref01_cut.f
  refine Ev.bind hm (Ev.bind hc ?_)
  by_cases hge : most ≤ V l
  · have e : sgn (V l - V lm) ≥ 0 := by unfold sgn; rw [if_neg (by omega)]; split <;> omega
    simp only [e, if_true]
    have e1 : wrap64 (-most) = -most := w64_in (by omega) (by omega)
    rw [e1]
    have : clampTo most x = if m = true then -most else most := by
      rw [hx]; cases m
      · simp only [Bool.false_eq_true, if_false]; unfold clampTo; rw [if_neg (by omega)]
      · simp only [if_true]; unfold clampTo; rw [if_pos (by omega), if_neg (by omega)]
    rw [this]
    cases m <;> exact Ev.now _
  · have e : ¬ sgn (V l - V lm) ≥ 0 := by unfold sgn; rw [if_pos (by omega)]; omega
    simp only [e, if_false]
    have e1 : wrap64 ((l.length : Int) - 1) = (l.length : Int) - 1 := w64_in (by omega) (by omega)
    rw [e1]
    have := cutB_l0 l m hl.1 (by omega) (by omega) l.length (Nat.le_refl _)
    rw [List.drop_length] at this
    rw [show clampTo most x = if m = true then -V l else V l from by
      rw [hx]; cases m
      · simp only [Bool.false_eq_true, if_false]; unfold clampTo; rw [if_pos (by omega), if_pos (by omega)]
      · simp only [if_true]; unfold clampTo; rw [if_pos (by omega), if_pos (by omega)]]
    exact this
theorem ev_spanB {n : Nat} {l : List Int} {m : Bool} {x : Int} (h : Big n l m x) (hn : n ≤ 1000) : Ev (fun k => foliotref01_span.f k l m) (sat x) := by
  unfold foliotref01_span.f
  exact Ev.bind (ev_cutB h hn _ (by omega) (by omega)) (Ev.now _)

theorem ev_sumB {n n' : Nat} {a b : List Int} {m m' : Bool} {x y : Int} (h : Big n a m x) (h' : Big n' b m' y) (hn : n ≤ 200) (hn' : n' ≤ 200) : ∃ r q, Ev (fun k => foliotref01_sum.f k a m b m') (r, q) ∧ Big (max n n' + 1) r q (x + y) := by
  obtain ⟨ha, hla, hx⟩ := h; obtain ⟨hb, hlb, hy⟩ := h'
  unfold foliotref01_sum.f
  by_cases hm : m = m'
  · subst hm
    obtain ⟨r, hr, rn, rv, rl⟩ := ev_plus a b ha.1 hb.1 (by omega) (by omega)
    refine ⟨r, m, ?_, rn, by omega, ?_⟩
    · simp only [beq_self_eq_true, if_true]
      exact Ev.bind hr (Ev.now _)
    · rw [rv, hx, hy]; cases m <;> simp <;> omega
  · have hne : (m == m') = false := by simpa using hm
    have hc := ev_cmp a b ha hb (by omega)
    have hxy : x + y = if m = true then V b - V a else V a - V b := by
      rw [hx, hy]; cases m <;> cases m' <;> simp at hm ⊢ <;> omega
    simp only [hne, Bool.false_eq_true, if_false]
    by_cases hge : V b ≤ V a
    · obtain ⟨r, hr, rn, rv, rl⟩ := ev_minus a b ha.1 hb (by omega) hge
      have e : sgn (V a - V b) ≥ 0 := by unfold sgn; rw [if_neg (by omega)]; split <;> omega
      refine ⟨r, m, Ev.bind hc ?_, rn, by omega, ?_⟩
      · simp only [e, if_true]
        exact Ev.bind hr (Ev.now _)
      · rw [hxy, rv]; cases m <;> simp; omega
    · obtain ⟨r, hr, rn, rv, rl⟩ := ev_minus b a hb.1 ha (by omega) (by omega)
      have e : ¬ sgn (V a - V b) ≥ 0 := by unfold sgn; rw [if_pos (by omega)]; omega
      refine ⟨r, m', Ev.bind hc ?_, rn, by omega, ?_⟩
      · simp only [e, if_false]
        exact Ev.bind hr (Ev.now _)
      · rw [hxy, rv]; cases m <;> cases m' <;> simp at hm ⊢; omega

theorem ref_add (a b : Int) (ha0 : -9223372036854775808 ≤ a) (ha : a ≤ 9223372036854775807) (hb0 : -9223372036854775808 ≤ b) (hb : b ≤ 9223372036854775807) : Ev (fun k => foliotref01_Add.f k a b) (sat (a + b)) := by
  obtain ⟨x, ex, bx⟩ := ev_s a ha0 ha
  obtain ⟨y, ey, by_⟩ := ev_s b hb0 hb
  obtain ⟨r, q, er, br⟩ := ev_sumB bx by_ (by omega) (by omega)
  unfold foliotref01_Add.f
  exact Ev.bind ex (Ev.bind ey (Ev.bind er (Ev.bind (ev_spanB br (by omega)) (Ev.now _))))

theorem big_abs {n : Nat} {l : List Int} {x : Int} (h : Big n l (decide (x < 0)) x) : Big n l false (if x < 0 then -x else x) := by
  refine ⟨h.1, h.2.1, ?_⟩
  have e := h.2.2
  by_cases hx : x < 0
  · simp only [hx, decide_true, if_true] at e
    simp only [hx, if_true, Bool.false_eq_true, if_false]; omega
  · simp only [hx, decide_false, Bool.false_eq_true, if_false] at e
    simp only [hx, Bool.false_eq_true, if_false]; exact e
theorem ref_abs (a : Int) (ha0 : -9223372036854775808 ≤ a) (ha : a ≤ 9223372036854775807) : Ev (fun k => foliotref01_Abs.f k a) (sat (if a < 0 then -a else a)) := by
  obtain ⟨x, ex, bx⟩ := ev_s a ha0 ha
  unfold foliotref01_Abs.f
  exact Ev.bind ex (Ev.bind (ev_spanB (big_abs bx) (by omega)) (Ev.now _))

def within (x : Int) : Int := mx (mn x 68719476736) 0
def absV (x : Int) : Int := sat (if x < 0 then -x else x)
def stratV (s : Int) : Int := mx (mn s 15) (-1) + 1
def fdisp (e b o j : Int) : Int := sat (sat (sat (e + b) + absV o) + j)
theorem follow_round (x2 x3 x4 x11 p0 p1 p2 p3 p4 p5 p6 p7 p8 p9 p10 : Int) (p11 : Bool) (p12 p13 b0 b1 b2 : Int) (r) (i : Nat) (hi : i < 3)
    (h : Ev (fun k => (fixed_Add.f k x11 (rd [b0, b1, b2] (i : Int))).bind fun t => system_Follow.l0 k x2 x3 x4 t ((i + 1 : Nat) : Int) p0 p1 p2 p3 p4 p5 p6 p7 p8 p9 p10 p11 p12 p13 b0 b1 b2) r) :
    Ev (fun k => system_Follow.l0 k x2 x3 x4 x11 (i : Int) p0 p1 p2 p3 p4 p5 p6 p7 p8 p9 p10 p11 p12 p13 b0 b1 b2) r := by
  refine Ev.step (fun k => ?_) h
  simp only [system_Follow.l0]
  rw [if_pos (by omega), if_pos (by omega), w64_in (n := (i : Int) + 1) (by omega) (by omega)]
  rfl
theorem ev_follow (s0 s1 s2 s3 s4 s5 s6 s7 s8 s9 s10 p0 p1 p2 p3 p4 p5 p6 p7 p8 p9 p10 : Int) (p11 : Bool) (p12 p13 x2 x3 x4 : Int)
    (h3 : -9223372036854775808 ≤ p3 ∧ p3 ≤ 9223372036854775807) (h4 : -9223372036854775808 ≤ p4 ∧ p4 ≤ 9223372036854775807) (h7 : -9223372036854775808 ≤ p7 ∧ p7 ≤ 9223372036854775807) (h8 : -9223372036854775808 ≤ p8 ∧ p8 ≤ 9223372036854775807) (h12 : -9223372036854775808 ≤ p12 ∧ p12 ≤ 9223372036854775807) (h13 : -9223372036854775808 ≤ p13 ∧ p13 ≤ 9223372036854775807) :
    Ev (fun k => system_Follow.f k s0 s1 s2 s3 s4 s5 s6 s7 s8 s9 s10 p0 p1 p2 p3 p4 p5 p6 p7 p8 p9 p10 p11 p12 p13 x2 x3 x4)
      (p1, stratV p2, mn (mx x3 3) 10, within (sat (p3 + p7)), within (fdisp p4 p8 p12 p13), p5, x4, p12, p13, p0, x2) := by
  unfold system_Follow.f
  have ha := sat_in (if p12 < 0 then -p12 else p12)
  have ab := ev_abs p12 h12.1 h12.2
  refine Ev.bind ab ?_
  change -4611686018427387904 ≤ absV p12 ∧ absV p12 ≤ 4611686018427387904 at ha
  show Ev (fun k => system_Follow.l0 k x2 x3 x4 p4 ((0 : Nat) : Int) p0 p1 p2 p3 p4 p5 p6 p7 p8 p9 p10 p11 p12 p13 p8 (absV p12) p13) _
  have d1 := sat_in (p4 + p8)
  have d2 := sat_in (sat (p4 + p8) + absV p12)
  refine follow_round _ _ _ _ _ _ _ _ _ _ _ _ _ _ _ _ _ _ _ _ _ _ 0 (by decide) (Ev.bind (ev_add p4 p8 h4.1 h4.2 h8.1 h8.2) ?_)
  refine follow_round _ _ _ _ _ _ _ _ _ _ _ _ _ _ _ _ _ _ _ _ _ _ 1 (by decide) (Ev.bind (ev_add (sat (p4 + p8)) (absV p12) (by omega) (by omega) (by omega) (by omega)) ?_)
  refine follow_round _ _ _ _ _ _ _ _ _ _ _ _ _ _ _ _ _ _ _ _ _ _ 2 (by decide) (Ev.bind (ev_add (sat (sat (p4 + p8) + absV p12)) p13 (by omega) (by omega) h13.1 h13.2) ?_)
  refine Ev.step (f := fun k => (fixed_Add.f k p3 p7).bind fun t121 => (system_within.f t121 68719476736).bind fun t122 => (system_within.f (fdisp p4 p8 p12 p13) 68719476736).bind fun t123 => some (p1, wrap64 (mx (mn p2 15) (-1) + 1), mn (mx x3 3) 10, t122, t123, p5, x4, p12, p13, p0, x2)) (fun k => ?_) (Ev.bind (ev_add p3 p7 h3.1 h3.2 h7.1 h7.2) ?_)
  · simp only [system_Follow.l0]
    rw [if_neg (by omega)]
    rfl
  · have : -1 ≤ mx (mn p2 15) (-1) ∧ mx (mn p2 15) (-1) ≤ 15 := by
      unfold mx mn
      (repeat' split) <;> omega
    rw [w64_in (n := mx (mn p2 15) (-1) + 1) (by omega) (by omega)]
    exact Ev.now _

theorem ref_follow (p0 p1 p2 p3 p4 p5 p6 p7 p8 p9 p10 : Int) (p11 : Bool) (p12 p13 x2 x3 x4 : Int) (h2 : -9223372036854775808 ≤ p2 ∧ p2 ≤ 9223372036854775807)
    (h3 : -9223372036854775808 ≤ p3 ∧ p3 ≤ 9223372036854775807) (h4 : -9223372036854775808 ≤ p4 ∧ p4 ≤ 9223372036854775807) (h7 : -9223372036854775808 ≤ p7 ∧ p7 ≤ 9223372036854775807) (h8 : -9223372036854775808 ≤ p8 ∧ p8 ≤ 9223372036854775807) (h12 : -9223372036854775808 ≤ p12 ∧ p12 ≤ 9223372036854775807) (h13 : -9223372036854775808 ≤ p13 ∧ p13 ≤ 9223372036854775807) :
    Ev (fun k => foliotref17_Follow.f k p0 p1 p2 p3 p4 p5 p6 p7 p8 p9 p10 p11 p12 p13 x2 x3 x4)
      (p1, stratV p2, mn (mx x3 3) 10, within (sat (p3 + p7)), within (fdisp p4 p8 p12 p13), p5, x4, p12, p13, p0, x2) := by
  unfold foliotref17_Follow.f
  have ha := sat_in (if p12 < 0 then -p12 else p12)
  change -4611686018427387904 ≤ absV p12 ∧ absV p12 ≤ 4611686018427387904 at ha
  have d1 := sat_in (p4 + p8)
  have d2 := sat_in (sat (p4 + p8) + absV p12)
  refine Ev.bind (ref_add p4 p8 h4.1 h4.2 h8.1 h8.2) (Ev.bind (ref_abs p12 h12.1 h12.2) (Ev.bind (ref_add (sat (p4 + p8)) (absV p12) (by omega) (by omega) (by omega) (by omega)) (Ev.bind (ref_add (sat (sat (p4 + p8) + absV p12)) p13 (by omega) (by omega) h13.1 h13.2) ?_)))
  have ew : ∀ x, mx 0 (mn x 68719476736) = within x := by
    intro x
    unfold within mx mn
    (repeat' split) <;> omega
  have ep : mx 3 (mn x3 10) = mn (mx x3 3) 10 := by
    unfold mx mn
    (repeat' split) <;> omega
  by_cases c : p2 < 16
  · simp only [c, if_true]
    refine Ev.bind (ref_add p3 p7 h3.1 h3.2 h7.1 h7.2) ?_
    unfold foliotref17_inside.f
    simp only [Option.bind_some]
    have es : mx 0 (wrap64 (mx p2 (-1) + 1)) = stratV p2 := by
      have : -1 ≤ mx p2 (-1) ∧ mx p2 (-1) ≤ 15 := by unfold mx; split <;> omega
      rw [w64_in (n := mx p2 (-1) + 1) (by omega) (by omega)]
      unfold stratV mx mn
      (repeat' split) <;> omega
    rw [ew, ew, ep, es]
    exact Ev.now _
  · simp only [c, if_false]
    refine Ev.bind (ref_add p3 p7 h3.1 h3.2 h7.1 h7.2) ?_
    unfold foliotref17_inside.f
    simp only [Option.bind_some]
    have es : stratV p2 = 16 := by
      unfold stratV mx mn
      (repeat' split) <;> omega
    rw [ew, ew, ep, es]
    exact Ev.now _

theorem SystemFollows : foliotlaw17_SystemFollows.Pure := by
  intro s0 s1 s2 s3 s4 s5 s6 s7 s8 s9 s10 p0 p1 p2 p3 p4 p5 p6 p7 p8 p9 p10 p11 p12 p13 l0 l1 l2 c3 l4 c5 l6 c7 c8 c9 c10 c11 c12 c13 c14 x2 x3 x4
  intro _ _ _ _ _ _ _ _ _ _ _ q0 q1 q2 q3 q4 q5 q6 q7 q8 q9 q10 q12 q13
  intros
  have q2 := wf64 q2; have q3 := wf64 q3; have q4 := wf64 q4; have q7 := wf64 q7; have q8 := wf64 q8; have q12 := wf64 q12; have q13 := wf64 q13
  refine Ev.rounds (r := true) ?_
  unfold foliotlaw17_SystemFollows.f
  refine Ev.bind (ev_follow s0 s1 s2 s3 s4 s5 s6 s7 s8 s9 s10 p0 p1 p2 p3 p4 p5 p6 p7 p8 p9 p10 p11 p12 p13 x2 x3 x4 q3 q4 q7 q8 q12 q13) (Ev.bind (ref_follow p0 p1 p2 p3 p4 p5 p6 p7 p8 p9 p10 p11 p12 p13 x2 x3 x4 q2 q3 q4 q7 q8 q12 q13) ?_)
  have eo : foliotref17_Orphan.f s0 s1 s2 s3 s4 s5 s6 s7 s8 s9 s10 l0 l1 l2 c3 l4 c5 l6 c7 c8 c9 c10 c11 c12 c13 c14 x4 = system_Orphan.f s0 s1 s2 s3 s4 s5 s6 s7 s8 s9 s10 l0 l1 l2 c3 l4 c5 l6 c7 c8 c9 c10 c11 c12 c13 c14 x4 := by
    unfold foliotref17_Orphan.f system_Orphan.f
    by_cases c1 : c7 < 1
    · simp only [c1, if_true]
    · simp only [c1, if_false]
      by_cases c2 : c7 ≥ 16
      · simp only [c2, show c7 > 15 from by omega, if_true]
      · simp only [c2, show ¬ c7 > 15 from by omega, if_false]
  obtain ⟨o, ho⟩ : ∃ o, system_Orphan.f s0 s1 s2 s3 s4 s5 s6 s7 s8 s9 s10 l0 l1 l2 c3 l4 c5 l6 c7 c8 c9 c10 c11 c12 c13 c14 x4 = some o := by
    unfold system_Orphan.f
    (repeat' split) <;> exact ⟨_, rfl⟩
  rw [eo, ho]
  unfold system_Lose.f foliotref17_Lose.f
  simp only [Option.bind_some, BEq.rfl, Bool.and_self, if_true]
  exact Ev.now _

end Go.Proofs.Ytbcdoncnhhjjeaa.CSystemFollows
