/- Plain lemmas on the printed functions: whole numbers, no program in sight. -/
import Derived.Test.YtgbffggaifnalaaRa
import Derived.Laws.BitsLemmas
namespace Go.Proofs.Ytgbffggaifnalaa.V
open Go Go.RowKit Go.Proofs.Ytgbffggaifnalaa.Ev
set_option linter.unusedVariables false
set_option linter.unusedSimpArgs false
set_option maxRecDepth 100000
/-! ### numbers as lists of digits, the lowest first -/
def V : List Int → Int
  | [] => 0
  | d :: l => d + 65536 * V l
def Dg (l : List Int) : Prop := ∀ d ∈ l, 0 ≤ d ∧ d < 65536
def Nm (l : List Int) : Prop := Dg l ∧ ∀ h : l ≠ [], l.getLast h ≠ 0
theorem pw_pos (n : Nat) : (0 : Int) < 65536 ^ n := Int.pow_pos (by decide)
theorem V_append (a b : List Int) : V (a ++ b) = V a + 65536 ^ a.length * V b := by
  induction a with
  | nil => simp [V]
  | cons d a ih => simp only [List.cons_append, V, ih, List.length_cons, Int.pow_succ]; grind
theorem Dg.nil : Dg [] := fun _ h => by cases h
theorem Dg.append {a b : List Int} (ha : Dg a) (hb : Dg b) : Dg (a ++ b) := fun d hd => (List.mem_append.1 hd).elim (ha d) (hb d)
theorem Dg.one {d : Int} (h0 : 0 ≤ d) (h1 : d < 65536) : Dg [d] := fun x hx => by simp at hx; subst hx; exact ⟨h0, h1⟩
theorem Dg.take {a : List Int} (h : Dg a) (n : Nat) : Dg (a.take n) := fun d hd => h d (List.mem_of_mem_take hd)
theorem Dg.drop {a : List Int} (h : Dg a) (n : Nat) : Dg (a.drop n) := fun d hd => h d (List.mem_of_mem_drop hd)
theorem Dg.set {a : List Int} (h : Dg a) (n : Nat) {v : Int} (h0 : 0 ≤ v) (h1 : v < 65536) : Dg (a.set n v) := fun d hd => (List.mem_or_eq_of_mem_set hd).elim (h d) (fun e => by subst e; exact ⟨h0, h1⟩)
theorem Dg.zeros (n : Nat) : Dg (List.replicate n 0) := fun d hd => by rw [List.eq_of_mem_replicate hd]; omega
theorem V_zeros (n : Nat) : V (List.replicate n 0) = 0 := by
  induction n with
  | zero => rfl
  | succ n ih => simp [List.replicate_succ, V, ih]
theorem V_bd {l : List Int} (h : Dg l) : 0 ≤ V l ∧ V l < 65536 ^ l.length := by
  induction l with
  | nil => simp [V]
  | cons d l ih =>
    obtain ⟨i0, i1⟩ := ih fun x hx => h x (List.mem_cons_of_mem _ hx)
    have hd := h d List.mem_cons_self
    simp only [V, List.length_cons, Int.pow_succ]
    constructor <;> omega
theorem rd_nat (l : List Int) (i : Nat) : rd l (i : Int) = l.getD i 0 := by unfold rd; rw [Int.toNat_natCast]
theorem rd_dg {l : List Int} (h : Dg l) (i : Nat) : 0 ≤ rd l (i : Int) ∧ rd l (i : Int) < 65536 := by
  rw [rd_nat, List.getD_eq_getElem?_getD]
  by_cases hi : i < l.length
  · rw [List.getElem?_eq_getElem hi]; exact h _ (List.getElem_mem _)
  · rw [List.getElem?_eq_none (by omega)]; simp
theorem rd_out {l : List Int} {i : Nat} (h : l.length ≤ i) : rd l (i : Int) = 0 := by
  rw [rd_nat, List.getD_eq_getElem?_getD, List.getElem?_eq_none h]; rfl
theorem V_take_succ (l : List Int) (i : Nat) : V (l.take (i + 1)) = V (l.take i) + 65536 ^ i * rd l (i : Int) := by
  by_cases h : i < l.length
  · rw [List.take_succ_eq_append_getElem h, V_append, rd_nat, List.getD_eq_getElem?_getD, List.getElem?_eq_getElem h]
    simp [V, Nat.min_eq_left (Nat.le_of_lt h)]
  · rw [rd_out (by omega), List.take_of_length_le (by omega), List.take_of_length_le (by omega)]; simp
theorem V_take_all (l : List Int) {n : Nat} (h : l.length ≤ n) : V (l.take n) = V l := by rw [List.take_of_length_le h]
theorem V_take_bd {l : List Int} (h : Dg l) (n : Nat) : 0 ≤ V (l.take n) ∧ V (l.take n) < 65536 ^ n := by
  obtain ⟨a, b⟩ := V_bd (h.take n)
  refine ⟨a, Int.lt_of_lt_of_le b ?_⟩
  rw [List.length_take]
  obtain ⟨d, hd⟩ := Nat.exists_eq_add_of_le (Nat.min_le_left n l.length)
  have hp := pw_pos (min n l.length)
  have h2 := pw_pos d
  have := Int.mul_le_mul_of_nonneg_left (show (1 : Int) ≤ 65536 ^ d by omega) (Int.le_of_lt hp)
  rw [← Int.pow_add, ← hd] at this
  omega
theorem V_drop (l : List Int) (i : Nat) (h : i < l.length) : V (l.drop i) = rd l (i : Int) + 65536 * V (l.drop (i + 1)) := by
  rw [List.drop_eq_getElem_cons h]
  simp only [V]
  rw [rd_nat, List.getD_eq_getElem?_getD, List.getElem?_eq_getElem h]; rfl
theorem V_set (l : List Int) (i : Nat) (v : Int) (h : i < l.length) : V (l.set i v) = V l + 65536 ^ i * (v - rd l (i : Int)) := by
  induction l generalizing i with
  | nil => simp at h
  | cons d l ih =>
    cases i with
    | zero => simp only [List.set_cons_zero, V, Int.pow_zero]; rw [rd_nat]; simp; omega
    | succ i =>
      simp only [List.set_cons_succ, V]
      have hl : i < l.length := by simpa using h
      rw [ih i hl, show rd (d :: l) ((i + 1 : Nat) : Int) = rd l (i : Int) by rw [rd_nat, rd_nat]; simp, Int.pow_succ]
      grind
theorem pw_le {m n : Nat} (h : m ≤ n) : (65536 : Int) ^ m ≤ 65536 ^ n := by
  obtain ⟨d, rfl⟩ := Nat.exists_eq_add_of_le h
  rw [Int.pow_add]
  have h1 := pw_pos m
  have h2 := pw_pos d
  have := Int.mul_le_mul_of_nonneg_left (show (1 : Int) ≤ 65536 ^ d by omega) (Int.le_of_lt h1)
  omega
/-- A number without noughts in front is as great as its length says. -/
theorem Nm.ge {l : List Int} (h : Nm l) {n : Nat} (hn : l.length = n + 1) : 65536 ^ n ≤ V l := by
  have hne : l ≠ [] := fun e => by rw [e] at hn; simp at hn
  have hl := h.2 hne
  have e : l = l.take n ++ [l.getLast hne] := by
    have := List.dropLast_concat_getLast hne
    rw [List.dropLast_eq_take, hn] at this
    exact this.symm
  have hd := h.1 _ (List.getLast_mem hne)
  have hb := (V_take_bd h.1 n).1
  rw [e, V_append]
  simp only [V, Int.mul_zero, Int.add_zero]
  rw [show (l.take n).length = n from by rw [List.length_take]; omega]
  have := Int.mul_le_mul_of_nonneg_left (show (1 : Int) ≤ l.getLast hne by omega) (Int.le_of_lt (pw_pos n))
  omega
theorem Nm.len {l : List Int} (h : Nm l) {n : Nat} (hv : V l < 65536 ^ n) : l.length ≤ n := by
  rcases Nat.lt_or_ge n l.length with hl | hl
  · obtain ⟨m, hm⟩ : ∃ m, l.length = m + 1 := ⟨l.length - 1, by omega⟩
    have := h.ge hm
    have := pw_le (show n ≤ m by omega)
    omega
  · exact hl
theorem Nm.nil : Nm [] := ⟨Dg.nil, fun h => absurd rfl h⟩
def sgn (d : Int) : Int := if d < 0 then -1 else if 0 < d then 1 else 0
/-- A sign, and a size in digits, at most n of them. -/
def Big (n : Nat) (l : List Int) (m : Bool) (x : Int) : Prop := Nm l ∧ l.length ≤ n ∧ x = if m = true then -V l else V l
theorem Nm.tail {d : Int} {l : List Int} (h : Nm (d :: l)) : Nm l := by
  refine ⟨fun x hx => h.1 x (List.mem_cons_of_mem _ hx), fun hne e => ?_⟩
  exact h.2 (by simp) (by rw [List.getLast_cons hne]; exact e)
theorem Nm.zero {l : List Int} (h : Nm l) (hv : V l = 0) : l = [] := by
  have := h.len (n := 0) (by rw [hv]; decide)
  exact List.length_eq_zero_iff.1 (by omega)
theorem Nm.uniq : ∀ {a b : List Int}, Nm a → Nm b → V a = V b → a = b
  | [], b, _, hb, h => (hb.zero (by rw [← h]; rfl)).symm
  | d :: a, [], ha, _, h => ha.zero (by rw [h]; rfl)
  | d :: a, e :: b, ha, hb, h => by
    have h1 := ha.1 d List.mem_cons_self; have h2 := hb.1 e List.mem_cons_self
    simp only [V] at h
    have e1 : V a = V b := by omega
    rw [Nm.uniq ha.tail hb.tail e1, show d = e by omega]
theorem Nm.cons {d : Int} {l : List Int} (h : Nm l) (h0 : 0 ≤ d) (h1 : d < 65536) (h2 : l = [] → d ≠ 0) : Nm (d :: l) := by
  refine ⟨fun x hx => (List.mem_cons.1 hx).elim (fun e => by subst e; exact ⟨h0, h1⟩) (h.1 x), fun hne => ?_⟩
  by_cases hl : l = []
  · subst hl; simpa using h2 rfl
  · rw [List.getLast_cons hl]; exact h.2 hl
theorem Nm.ex : ∀ (n : Nat) (v : Int), 0 ≤ v → v < 65536 ^ n → ∃ l, Nm l ∧ V l = v ∧ l.length ≤ n
  | 0, v, h0, h1 => ⟨[], Nm.nil, by simp at h1; simp only [V]; omega, Nat.le_refl _⟩
  | n + 1, v, h0, h1 => by
    rw [Int.pow_succ] at h1
    obtain ⟨l, hl, he, hn⟩ := Nm.ex n (v / 65536) (by omega) (by omega)
    by_cases hz : v = 0
    · exact ⟨[], Nm.nil, by subst hz; rfl, by simp⟩
    · refine ⟨v % 65536 :: l, hl.cons (by omega) (by omega) (fun e => ?_), by simp only [V]; omega, by simp; omega⟩
      subst e; simp only [V] at he; omega
theorem V_one (m : Int) : V [m] = m := by simp [V]
theorem cmp_l0 (a b : List Int) (ha : Dg a) (hb : Dg b) (hl : a.length ≤ 100000) : ∀ c : Nat, c ≤ a.length → c ≤ b.length → Ev (fun k => foliotref01_compare.l0 k a b ((c : Int) - 1)) (sgn (V (a.take c) - V (b.take c))) := by
  intro c
  induction c with
  | zero =>
    intro _ _
    refine Ev.succ fun k => ?_
    simp only [foliotref01_compare.l0]
    rw [if_neg (by omega)]; simp [sgn, V]
  | succ c ih =>
    intro h1 h2
    have e : ((c + 1 : Nat) : Int) - 1 = c := by omega
    rw [e, V_take_succ, V_take_succ]
    have da := rd_dg ha c; have db := rd_dg hb c
    have va := V_take_bd ha c; have vb := V_take_bd hb c
    have hp := pw_pos c
    have g1 : (c : Int) ≥ 0 := by omega
    have g2 : (0 : Int) ≤ c := by omega
    have g3 : (c : Int) < (a.length : Int) := by omega
    have g4 : (c : Int) < (b.length : Int) := by omega
    generalize hx : rd a (c : Int) = x at *
    generalize hy : rd b (c : Int) = y at *
    by_cases hlt : x < y
    · refine Ev.succ fun k => ?_
      simp only [foliotref01_compare.l0, g1, g2, g3, g4, if_true, hx, hy, hlt]
      have := Int.mul_le_mul_of_nonneg_left (show x + 1 ≤ y by omega) (Int.le_of_lt hp)
      rw [Int.mul_add, Int.mul_one] at this
      unfold sgn; rw [if_pos (by omega)]
    · by_cases hgt : y < x
      · refine Ev.succ fun k => ?_
        simp only [foliotref01_compare.l0, g1, g2, g3, g4, if_true, if_false, hx, hy, hlt, gt_iff_lt, hgt]
        have := Int.mul_le_mul_of_nonneg_left (show y + 1 ≤ x by omega) (Int.le_of_lt hp)
        rw [Int.mul_add, Int.mul_one] at this
        unfold sgn; rw [if_neg (by omega), if_pos (by omega)]
      · obtain rfl : x = y := by omega
        rw [show V (a.take c) + 65536 ^ c * x - (V (b.take c) + 65536 ^ c * x) = V (a.take c) - V (b.take c) by omega]
        refine Ev.step (fun k => ?_) (ih (by omega) (by omega))
        simp only [foliotref01_compare.l0, g1, g2, g3, g4, if_true, if_false, hx, hy, hlt, gt_iff_lt, hgt]
        rw [w64_in (n := (c : Int) - 1) (by omega) (by omega)]
theorem ev_cmp (a b : List Int) (ha : Nm a) (hb : Nm b) (hl : a.length ≤ 100000) : Ev (fun k => foliotref01_compare.f k a b) (sgn (V a - V b)) := by
  unfold foliotref01_compare.f
  have va := V_bd ha.1; have vb := V_bd hb.1
  by_cases h : (a.length : Int) = b.length
  · simp only [h, not_true_eq_false, if_false]
    have := cmp_l0 a b ha.1 hb.1 hl a.length (Nat.le_refl _) (by omega)
    rw [V_take_all a (Nat.le_refl _), V_take_all b (by omega), h] at this
    rw [w64_in (n := (b.length : Int) - 1) (by omega) (by omega)]
    exact this
  · simp only [h, not_false_eq_true, if_true]
    by_cases h2 : (a.length : Int) < b.length
    · simp only [h2, if_true]
      obtain ⟨m, hm⟩ : ∃ m, b.length = m + 1 := ⟨b.length - 1, by omega⟩
      have := hb.ge hm
      have := pw_le (show a.length ≤ m by omega)
      rw [show sgn (V a - V b) = -1 from by unfold sgn; rw [if_pos (by omega)]]
      exact Ev.now _
    · simp only [h2, if_false]
      obtain ⟨m, hm⟩ : ∃ m, a.length = m + 1 := ⟨a.length - 1, by omega⟩
      have := ha.ge hm
      have := pw_le (show b.length ≤ m by omega)
      rw [show sgn (V a - V b) = 1 from by unfold sgn; rw [if_neg (by omega), if_pos (by omega)]]
      exact Ev.now _
theorem of_l0 (R : List Int) (hR : Nm R) (m g : Bool) (z : List Int) : ∀ (d : Nat) (u : Int) (x : List Int), 0 ≤ u → u < 65536 ^ d → u < 18446744073709551616 → Dg x → x.length + d ≤ 100 → (u = 0 → Nm x) → V x + 65536 ^ x.length * u = V R → Ev (fun k => foliotref01_of.l0 k u g m z x) (m, R) := by
  have hend : ∀ (x : List Int), Nm x → V x = V R → Ev (fun k => foliotref01_of.l0 k 0 g m z x) (m, R) := by
    intro x hx hv
    obtain rfl := Nm.uniq hx hR hv
    refine Ev.succ fun k => ?_
    simp only [foliotref01_of.l0]
    rw [if_neg (by omega)]
  intro d
  induction d with
  | zero =>
    intro u x h0 h1 _ dx hl hz' hv
    obtain rfl : u = 0 := by simp at h1; omega
    exact hend x (hz' rfl) (by simpa using hv)
  | succ d ih =>
    intro u x h0 h1 h2 dx hl hz hv
    by_cases hu : u = 0
    · subst hu; exact hend x (hz rfl) (by simpa using hv)
    · rw [Int.pow_succ] at h1
      have key := ih (u / 65536) (x ++ [u % 65536]) (by omega) (by omega) (by omega) (dx.append (Dg.one (by omega) (by omega))) (by simp; omega) (fun hz2 => ⟨dx.append (Dg.one (by omega) (by omega)), fun hne => by simp; omega⟩) (by
        rw [V_append, V_one, List.length_append, ← hv]
        simp only [List.length_cons, List.length_nil, Nat.zero_add, Int.pow_succ]
        have e : u = u % 65536 + 65536 * (u / 65536) := by omega
        generalize u % 65536 = u1 at *
        generalize u / 65536 = u2 at *
        subst e
        grind)
      have e1 : IntKind.u64.wrap (Int.tdiv u 65536) = u / 65536 := by rw [Int.tdiv_eq_ediv_of_nonneg h0]; exact u64_in (by omega) (by omega)
      have e2 : wrap64 (Int.tmod u 65536) = u % 65536 := by rw [Int.tmod_eq_emod_of_nonneg h0]; exact w64_in (by omega) (by omega)
      have c1 : u > 0 := by clear e1 e2; omega
      have c2 : (2 * (x.length + ([u % 65536] : List Int).length) + 200) * 9 ≤ 281474976710656 := by clear e1 e2; simp only [List.length_cons, List.length_nil]; omega
      refine Ev.step (fun k => ?_) key
      simp only [foliotref01_of.l0]
      rw [if_pos c1, e1, e2, if_pos c2]
theorem ev_of (a : Int) (ha0 : -9223372036854775808 ≤ a) (ha : a ≤ 9223372036854775807) : ∃ l, Ev (fun k => foliotref01_of.f k a) (decide (a < 0), l) ∧ Big 4 l (decide (a < 0)) a := by
  obtain ⟨u, hu, hu0, hu1, hua⟩ : ∃ u, (if a < 0 then -a else a) = u ∧ 0 ≤ u ∧ u ≤ 9223372036854775808 ∧ a = if a < 0 then -u else u := by
    refine ⟨_, rfl, ?_, ?_, ?_⟩ <;> split <;> omega
  obtain ⟨R, hR, hv, hl⟩ := Nm.ex 4 u hu0 (by omega)
  have key := of_l0 R hR (decide (a < 0)) false [] 4 u [] hu0 (by omega) (by omega) Dg.nil (by simp) (fun _ => Nm.nil) (by simp [V, hv])
  refine ⟨R, ?_, hR, hl, ?_⟩
  · unfold foliotref01_of.f
    by_cases h : a < 0
    · rw [if_pos h] at hu
      have e1 : wrap64 (a + 1) = a + 1 := w64_in (by omega) (by omega)
      have e2 : wrap64 (-(a + 1)) = -(a + 1) := w64_in (by clear e1; omega) (by clear e1; omega)
      have e3 : IntKind.u64.wrap (-(a + 1)) = -(a + 1) := u64_in (by clear e1 e2; omega) (by clear e1 e2; omega)
      have e4 : IntKind.u64.wrap (-(a + 1) + 1) = u := by rw [u64_in (by clear e1 e2 e3; omega) (by clear e1 e2 e3; omega)]; clear e1 e2 e3; omega
      rw [e1, e2, e3, e4]
      simp only [h, if_true]
      simp only [h] at key
      exact key
    · rw [if_neg h] at hu
      subst hu
      rw [u64_in (n := a) (by omega) (by omega)]
      refine Ev.congr (fun k => ?_) key
      rw [if_neg h]
  · rw [hv]
    by_cases h : a < 0
    · rw [decide_eq_true h, if_pos rfl]; rw [if_pos h] at hua; exact hua
    · rw [decide_eq_false h, if_neg (by decide)]; rw [if_neg h] at hua; exact hua
theorem V_drop_le {l : List Int} (h : Dg l) : ∀ c : Nat, V (l.drop c) ≤ V l
  | 0 => by simp
  | c + 1 => by
    have ih := V_drop_le h c
    by_cases hc : c < l.length
    · rw [V_drop l c hc] at ih
      have := rd_dg h c
      have := (V_bd (h.drop (c + 1))).1
      omega
    · rw [List.drop_eq_nil_of_le (by omega)]; exact (V_bd h).1
theorem cutB_l0 (l : List Int) (m : Bool) (hl : Dg l) (hn : l.length ≤ 100000) (hv : V l < 4611686018427387904) : ∀ c : Nat, c ≤ l.length → Ev (fun k => foliotref01_cut.l0 k (V (l.drop c)) ((c : Int) - 1) l m) (if m = true then -V l else V l) := by
  have h0 := (V_bd hl).1
  intro c
  induction c with
  | zero =>
    intro _
    refine Ev.succ fun k => ?_
    simp only [foliotref01_cut.l0, List.drop_zero]
    rw [if_neg (by omega)]
    have e : wrap64 (-V l) = -V l := w64_in (by omega) (by omega)
    rw [e]; cases m <;> rfl
  | succ c ih =>
    intro hc
    have hd := V_drop l c (by omega)
    have hle := V_drop_le hl c
    have hr := rd_dg hl c
    have h1 := (V_bd (hl.drop (c + 1))).1
    have c1 : (c : Int) ≥ 0 := Int.natCast_nonneg _
    have c2 : (c : Int) < (l.length : Int) := by omega
    have e0 : ((c + 1 : Nat) : Int) - 1 = c := by omega
    have b1 : -9223372036854775808 ≤ V (l.drop (c + 1)) * 65536 ∧ V (l.drop (c + 1)) * 65536 ≤ 9223372036854775807 := by omega
    have b2 : -9223372036854775808 ≤ V (l.drop c) ∧ V (l.drop c) ≤ 9223372036854775807 := by omega
    have e1 : V (l.drop (c + 1)) * 65536 + rd l (c : Int) = V (l.drop c) := by omega
    have e2 : wrap64 ((c : Int) - 1) = (c : Int) - 1 := w64_in (by clear e1; omega) (by clear e1; omega)
    refine Ev.step (fun k => ?_) (ih (by clear e2; omega))
    simp only [foliotref01_cut.l0]
    rw [e0, if_pos c1, if_pos c1, if_pos c2, w64_in b1.1 b1.2, e1, w64_in b2.1 b2.2, e2]
theorem ev_cutB {n : Nat} {l : List Int} {m : Bool} {x : Int} (h : Big n l m x) (hn : n ≤ 1000) (most : Int) (h0 : 0 < most) (h1 : most ≤ 4611686018427387904) : Ev (fun k => foliotref01_cut.f k l m most) (clampTo most x) := by
  obtain ⟨hl, hlen, hx⟩ := h
  obtain ⟨lm, hm, hmb⟩ := ev_of most (by omega) (by omega)
  have hneg : decide (most < 0) = false := decide_eq_false (by omega)
  rw [hneg] at hm hmb
  obtain ⟨hln, hll, hlv⟩ := hmb
  simp only [Bool.false_eq_true, if_false] at hlv
  have hv0 := (V_bd hl.1).1
  have hc := ev_cmp l lm hl hln (by omega)
  unfold foliotref01_cut.f
  refine Ev.bind hm (Ev.bind hc ?_)
  by_cases hge : most ≤ V l
  · have e : sgn (V l - V lm) ≥ 0 := by unfold sgn; rw [if_neg (by omega)]; split <;> omega
    simp only [e, if_true]
    have e1 : wrap64 (-most) = -most := w64_in (by omega) (by omega)
    rw [e1]
    have : clampTo most x = if m = true then -most else most := by
      rw [hx]; cases m
      · simp only [Bool.false_eq_true, if_false]; unfold clampTo; rw [if_neg (by omega)]
      · simp only [if_true]; unfold clampTo; rw [if_pos (by omega), if_neg (by omega)]
    rw [this]
    cases m <;> exact Ev.now _
  · have e : ¬ sgn (V l - V lm) ≥ 0 := by unfold sgn; rw [if_pos (by omega)]; omega
    simp only [e, if_false]
    have e1 : wrap64 ((l.length : Int) - 1) = (l.length : Int) - 1 := w64_in (by omega) (by omega)
    rw [e1]
    have := cutB_l0 l m hl.1 (by omega) (by omega) l.length (Nat.le_refl _)
    rw [List.drop_length] at this
    rw [show clampTo most x = if m = true then -V l else V l from by
      rw [hx]; cases m
      · simp only [Bool.false_eq_true, if_false]; unfold clampTo; rw [if_pos (by omega), if_pos (by omega)]
      · simp only [if_true]; unfold clampTo; rw [if_pos (by omega), if_pos (by omega)]]
    exact this
theorem trim_l0 (a : List Int) (ha : Dg a) (hl : a.length ≤ 100000) : ∀ c : Nat, c ≤ a.length → ∃ r, Ev (fun k => foliotref01_trim.l0 k a (c : Int)) r ∧ Nm r ∧ V r = V (a.take c) ∧ r.length ≤ c := by
  intro c
  induction c with
  | zero =>
    intro _
    refine ⟨[], Ev.succ fun k => ?_, Nm.nil, by simp [V], by simp⟩
    simp [foliotref01_trim.l0]
  | succ c ih =>
    intro h1
    have e : wrap64 (((c + 1 : Nat) : Int) - 1) = c := by rw [w64_in (by omega) (by omega)]; omega
    have g1 : ((c + 1 : Nat) : Int) > 0 := by omega
    have g2 : (0 : Int) ≤ c := by omega
    have g3 : (c : Int) < (a.length : Int) := by omega
    have g5 : (0 : Int) ≤ ((c + 1 : Nat) : Int) := by omega
    have g6 : ((c + 1 : Nat) : Int) ≤ (a.length : Int) := by omega
    by_cases hz : rd a (c : Int) = 0
    · obtain ⟨r, hr, h⟩ := ih (by omega)
      refine ⟨r, Ev.step (fun k => ?_) hr, h.1, ?_, by omega⟩
      · simp only [foliotref01_trim.l0, g1, e, g2, g3, hz, if_true]
      · rw [V_take_succ, hz, Int.mul_zero, Int.add_zero]; exact h.2.1
    · refine ⟨a.take (c + 1), Ev.succ fun k => ?_, ⟨ha.take _, fun hne => ?_⟩, rfl, by rw [List.length_take]; omega⟩
      · simp only [foliotref01_trim.l0, g1, e, g2, g3, g5, g6, hz, if_true, if_false, List.drop_zero, Int.sub_zero, Int.toNat_natCast]
      · rw [List.getLast_eq_getElem, List.getElem_take]
        intro h
        apply hz
        rw [rd_nat, List.getD_eq_getElem?_getD, List.getElem?_eq_getElem (by omega)]
        simp only [Option.getD_some]
        rw [← h]
        congr 1
        rw [List.length_take]; omega
theorem ev_trim (a : List Int) (ha : Dg a) (hl : a.length ≤ 100000) : ∃ r, Ev (fun k => foliotref01_trim.f k a) r ∧ Nm r ∧ V r = V a ∧ r.length ≤ a.length := by
  obtain ⟨r, hr, h1, h2, h3⟩ := trim_l0 a ha hl a.length (Nat.le_refl _)
  rw [V_take_all a (Nat.le_refl _)] at h2
  exact ⟨r, hr, h1, h2, h3⟩
theorem trims_l0 (a : List Int) (ha : Dg a) (hl : a.length ≤ 100000) : ∀ c : Nat, c ≤ a.length → ∃ r, Ev (fun k => foliotref01_trim_s1.l0 k (c : Int) a) r ∧ Nm r ∧ V r = V (a.take c) ∧ r.length ≤ c := by
  intro c
  induction c with
  | zero =>
    intro _
    refine ⟨[], Ev.succ fun k => ?_, Nm.nil, by simp [V], by simp⟩
    simp [foliotref01_trim_s1.l0]
  | succ c ih =>
    intro h1
    have e : wrap64 (((c + 1 : Nat) : Int) - 1) = c := by rw [w64_in (by omega) (by omega)]; omega
    have g1 : ((c + 1 : Nat) : Int) > 0 := by omega
    have g2 : (0 : Int) ≤ c := by omega
    have g3 : (c : Int) < (a.length : Int) := by omega
    have g5 : (0 : Int) ≤ ((c + 1 : Nat) : Int) := by omega
    have g6 : ((c + 1 : Nat) : Int) ≤ (a.length : Int) := by omega
    by_cases hz : rd a (c : Int) = 0
    · obtain ⟨r, hr, h⟩ := ih (by omega)
      refine ⟨r, Ev.step (fun k => ?_) hr, h.1, ?_, by omega⟩
      · simp only [foliotref01_trim_s1.l0, g1, e, g2, g3, hz, if_true]
      · rw [V_take_succ, hz, Int.mul_zero, Int.add_zero]; exact h.2.1
    · refine ⟨a.take (c + 1), Ev.succ fun k => ?_, ⟨ha.take _, fun hne => ?_⟩, rfl, by rw [List.length_take]; omega⟩
      · simp only [foliotref01_trim_s1.l0, g1, e, g2, g3, g5, g6, hz, if_true, if_false, List.drop_zero, Int.sub_zero, Int.toNat_natCast]
      · rw [List.getLast_eq_getElem, List.getElem_take]
        intro h
        apply hz
        rw [rd_nat, List.getD_eq_getElem?_getD, List.getElem?_eq_getElem (by omega)]
        simp only [Option.getD_some]
        rw [← h]
        congr 1
        rw [List.length_take]; omega
theorem ev_trims (a : List Int) (ha : Dg a) (hl : a.length ≤ 100000) : ∃ r, Ev (fun k => foliotref01_trim_s1.f k a) r ∧ Nm r ∧ V r = V a ∧ r.length ≤ a.length := by
  obtain ⟨r, hr, h1, h2, h3⟩ := trims_l0 a ha hl a.length (Nat.le_refl _)
  rw [V_take_all a (Nat.le_refl _)] at h2
  exact ⟨r, hr, h1, h2, h3⟩
theorem rd_in {l : List Int} {i : Nat} : (if (i : Int) < (l.length : Int) then rd l (i : Int) else 0) = rd l (i : Int) := by
  split
  · rfl
  · exact (rd_out (by omega)).symm
theorem plus_j1 (a b x : List Int) (s : Int) (i : Nat) (hx : x.length ≤ 100000) (hs0 : 0 ≤ s) (hs1 : s ≤ 1000000) (hi : i ≤ 1000000) {R : List Int} (h : Ev (fun k => foliotref01_plus.l0 k a b (s / 65536) ((i + 1 : Nat) : Int) (x ++ [s % 65536])) R) : Ev (fun k => foliotref01_plus.j1 k a b s (i : Int) x) R := by
  refine Ev.step (fun k => ?_) h
  have e1 : wrap64 ((i : Int) + 1) = ((i + 1 : Nat) : Int) := by rw [w64_in (by omega) (by omega)]; omega
  simp only [foliotref01_plus.j1]
  rw [if_pos (by simp only [List.length_cons, List.length_nil]; omega), Int.tmod_eq_emod_of_nonneg hs0, Int.tdiv_eq_ediv_of_nonneg hs0, w64_in (n := s / 65536) (by omega) (by omega), e1]
theorem plus_j0 (a b x : List Int) (c : Int) (i : Nat) (hx : x.length ≤ 100000) (hc0 : 0 ≤ c) (hc1 : c ≤ 100000) (hb : Dg b) (hi : i ≤ 1000000) {R : List Int} (h : Ev (fun k => foliotref01_plus.l0 k a b ((c + rd b (i : Int)) / 65536) ((i + 1 : Nat) : Int) (x ++ [(c + rd b (i : Int)) % 65536])) R) : Ev (fun k => foliotref01_plus.j0 k a b c (i : Int) x) R := by
  have db := rd_dg hb i
  refine Ev.step (fun k => ?_) (plus_j1 a b x (c + rd b (i : Int)) i hx (by omega) (by omega) hi h)
  simp only [foliotref01_plus.j0]
  by_cases h2 : (i : Int) < (b.length : Int)
  · rw [if_pos h2, if_pos (by omega), if_pos h2, w64_in (n := c + rd b i) (by omega) (by omega)]
  · rw [if_neg h2, rd_out (l := b) (by omega), Int.add_zero]
theorem plus_go (a b x : List Int) (c : Int) (i : Nat) (hx : x.length ≤ 100000) (hc0 : 0 ≤ c) (hc1 : c ≤ 1) (ha : Dg a) (hb : Dg b) (hi : i ≤ 1000000) (hgo : i < a.length ∨ i < b.length ∨ c > 0) {R : List Int} (h : Ev (fun k => foliotref01_plus.l0 k a b ((c + rd a (i : Int) + rd b (i : Int)) / 65536) ((i + 1 : Nat) : Int) (x ++ [(c + rd a (i : Int) + rd b (i : Int)) % 65536])) R) : Ev (fun k => foliotref01_plus.l0 k a b c (i : Int) x) R := by
  have da := rd_dg ha i
  refine Ev.step (fun k => ?_) (plus_j0 a b x (c + rd a (i : Int)) i hx (by omega) (by omega) hb hi h)
  simp only [foliotref01_plus.l0]
  have g2 : (0 : Int) ≤ i := by omega
  by_cases h1 : (i : Int) < (a.length : Int)
  · simp only [h1, g2, if_true]
    rw [w64_in (n := c + rd a i) (by omega) (by omega)]
  · rw [rd_out (l := a) (i := i) (by omega), Int.add_zero]
    simp only [h1, if_false]
    by_cases h2 : (i : Int) < (b.length : Int)
    · simp only [h2, if_true]
    · simp only [h2, if_false]
      rw [if_pos (by omega)]
theorem plus_l0 (a b : List Int) (ha : Dg a) (hb : Dg b) (hla : a.length ≤ 1000) (hlb : b.length ≤ 1000) : ∀ (d : Nat) (i : Nat) (c : Int) (x : List Int), i + d = max a.length b.length + 1 → x.length = i → Dg x → 0 ≤ c → c ≤ 1 → V x + 65536 ^ i * c = V (a.take i) + V (b.take i) →
    ∃ r, Ev (fun k => foliotref01_plus.l0 k a b c (i : Int) x) r ∧ Nm r ∧ V r = V a + V b ∧ r.length ≤ max a.length b.length + 1 := by
  have hend : ∀ (i : Nat) (x : List Int), x.length = i → Dg x → max a.length b.length ≤ i → i ≤ max a.length b.length + 1 → V x = V (a.take i) + V (b.take i) → ∃ r, Ev (fun k => foliotref01_plus.l0 k a b 0 (i : Int) x) r ∧ Nm r ∧ V r = V a + V b ∧ r.length ≤ max a.length b.length + 1 := by
    intro i x hx dx h1 h2 hv
    obtain ⟨r, hr, hn, he, hl⟩ := ev_trims x dx (by omega)
    refine ⟨r, ?_, hn, ?_, by omega⟩
    · refine Ev.step (f := fun k => (foliotref01_trim_s1.f k x).bind fun t => some t) (fun k => ?_) (Ev.bind hr (Ev.now _))
      simp only [foliotref01_plus.l0]
      rw [if_neg (by omega), if_neg (by omega), if_neg (by omega)]
    · rw [he, hv, V_take_all a (by omega), V_take_all b (by omega)]
  intro d
  induction d with
  | zero =>
    intro i c x hi hx dx hc0 hc1 hv
    have : c = 0 := by
      rw [V_take_all a (by omega), V_take_all b (by omega)] at hv
      have va := V_bd ha; have vb := V_bd hb; have vx := V_bd dx
      have hp := pw_pos (i - 1)
      have e : (65536 : Int) ^ i = 65536 ^ (i - 1) * 65536 := by rw [← Int.pow_succ]; congr 1; omega
      have := pw_le (show a.length ≤ i - 1 by omega); have := pw_le (show b.length ≤ i - 1 by omega)
      rcases (show c = 0 ∨ c = 1 by omega) with h | h
      · exact h
      · rw [h, e] at hv; omega
    subst this
    exact hend i x hx dx (by omega) (by omega) (by simpa using hv)
  | succ d ih =>
    intro i c x hi hx dx hc0 hc1 hv
    by_cases hgo : i < a.length ∨ i < b.length ∨ c > 0
    · have da := rd_dg ha i; have db := rd_dg hb i
      have hp := pw_pos i
      obtain ⟨r, hr, h⟩ := ih (i + 1) ((c + rd a (i : Int) + rd b (i : Int)) / 65536) (x ++ [(c + rd a (i : Int) + rd b (i : Int)) % 65536]) (by omega) (by simp; omega) (dx.append (Dg.one (by omega) (by omega))) (by omega) (by omega) (by
        rw [V_append, V_take_succ, V_take_succ, hx, Int.pow_succ]
        simp only [V, Int.mul_zero, Int.add_zero]
        have e : (c + rd a (i : Int) + rd b (i : Int)) % 65536 + 65536 * ((c + rd a (i : Int) + rd b (i : Int)) / 65536) = c + rd a (i : Int) + rd b (i : Int) := by omega
        generalize (c + rd a (i : Int) + rd b (i : Int)) % 65536 = s1 at *
        generalize (c + rd a (i : Int) + rd b (i : Int)) / 65536 = s2 at *
        grind)
      exact ⟨r, plus_go a b x c i (by omega) hc0 hc1 ha hb (by omega) (by omega) hr, h⟩
    · obtain rfl : c = 0 := by omega
      exact hend i x hx dx (by omega) (by omega) (by simpa using hv)
theorem ev_plus (a b : List Int) (ha : Dg a) (hb : Dg b) (hla : a.length ≤ 1000) (hlb : b.length ≤ 1000) : ∃ r, Ev (fun k => foliotref01_plus.f k a b) r ∧ Nm r ∧ V r = V a + V b ∧ r.length ≤ max a.length b.length + 1 := by
  unfold foliotref01_plus.f
  exact plus_l0 a b ha hb hla hlb (max a.length b.length + 1) 0 0 [] (by omega) rfl Dg.nil (by omega) (by omega) (by simp [V])
theorem minus_go (a b x : List Int) (c : Int) (i : Nat) (hx : x.length ≤ 100000) (hc0 : 0 ≤ c) (hc1 : c ≤ 1) (ha : Dg a) (hb : Dg b) (hi : i < a.length) (hl : a.length ≤ 1000) {R : List Int} (h : Ev (fun k => foliotref01_minus.l0 k a b (-((rd a (i : Int) - c - rd b (i : Int)) / 65536)) ((i + 1 : Nat) : Int) (x ++ [(rd a (i : Int) - c - rd b (i : Int)) % 65536])) R) : Ev (fun k => foliotref01_minus.l0 k a b c (i : Int) x) R := by
  have da := rd_dg ha i; have db := rd_dg hb i
  have e1 : wrap64 ((i : Int) + 1) = ((i + 1 : Nat) : Int) := by rw [w64_in (by omega) (by omega)]; omega
  have key : Ev (fun k => foliotref01_minus.j0 k a b (i : Int) (rd a (i : Int) - c - rd b (i : Int)) x) R := by
    obtain ⟨s, hs⟩ : ∃ s, rd a (i : Int) - c - rd b (i : Int) = s := ⟨_, rfl⟩
    have hsb : -65536 ≤ s ∧ s < 65536 := by omega
    rw [hs] at h ⊢
    by_cases h3 : s < 0
    · by_cases h4 : -65536 ≤ s
      · rw [show -(s / 65536) = 1 by omega, show s % 65536 = s + 65536 by omega] at h
        refine Ev.step (fun k => ?_) h
        simp only [foliotref01_minus.j0, h3, if_true]
        rw [w64_in (n := s + 65536) (by omega) (by omega), if_pos (by simp only [List.length_cons, List.length_nil]; omega), e1]
      · omega
    · by_cases h4 : s < 65536
      · rw [show -(s / 65536) = 0 by omega, show s % 65536 = s by omega] at h
        refine Ev.step (fun k => ?_) h
        simp only [foliotref01_minus.j0, h3, if_false]
        rw [if_pos (by simp only [List.length_cons, List.length_nil]; omega), e1]
      · omega
  refine Ev.step (fun k => ?_) key
  simp only [foliotref01_minus.l0]
  have g2 : (0 : Int) ≤ i := by omega
  have g3 : (i : Int) < (a.length : Int) := by omega
  simp only [g2, g3, if_true]
  rw [w64_in (n := rd a i - c) (by omega) (by omega)]
  by_cases h2 : (i : Int) < (b.length : Int)
  · simp only [h2, if_true]
    rw [w64_in (n := rd a i - c - rd b i) (by omega) (by omega)]
  · simp only [h2, if_false]
    rw [rd_out (l := b) (by omega), Int.sub_zero]
theorem minus_l0 (a b : List Int) (ha : Dg a) (hb : Nm b) (hla : a.length ≤ 1000) (hv : V b ≤ V a) : ∀ (d : Nat) (i : Nat) (c : Int) (x : List Int), i + d = a.length → x.length = i → Dg x → 0 ≤ c → c ≤ 1 → V x - 65536 ^ i * c = V (a.take i) - V (b.take i) →
    ∃ r, Ev (fun k => foliotref01_minus.l0 k a b c (i : Int) x) r ∧ Nm r ∧ V r = V a - V b ∧ r.length ≤ a.length := by
  intro d
  induction d with
  | zero =>
    intro i c x hi hx dx hc0 hc1 he
    have va := V_bd ha
    have hlb : b.length ≤ a.length := hb.len (by omega)
    obtain ⟨r, hr, hn, hev, hl⟩ := ev_trims x dx (by omega)
    rw [V_take_all a (by omega), V_take_all b (by omega)] at he
    have vx := V_bd dx
    rw [hx] at vx
    have hc : c = 0 := by
      rcases (show c = 0 ∨ c = 1 by omega) with h | h
      · exact h
      · rw [h] at he; omega
    subst hc
    refine ⟨r, Ev.step (f := fun k => (foliotref01_trim_s1.f k x).bind fun t => some t) (fun k => ?_) (Ev.bind hr (Ev.now _)), hn, by rw [hev]; simpa using he, by omega⟩
    simp only [foliotref01_minus.l0]
    rw [if_neg (by omega)]
  | succ d ih =>
    intro i c x hi hx dx hc0 hc1 he
    have da := rd_dg ha i; have db := rd_dg hb.1 i
    obtain ⟨r, hr, h⟩ := ih (i + 1) (-((rd a (i : Int) - c - rd b (i : Int)) / 65536)) (x ++ [(rd a (i : Int) - c - rd b (i : Int)) % 65536]) (by omega) (by simp; omega) (dx.append (Dg.one (by omega) (by omega))) (by omega) (by omega) (by
      rw [V_append, V_take_succ, V_take_succ, hx, Int.pow_succ]
      simp only [V, Int.mul_zero, Int.add_zero]
      have e : (rd a (i : Int) - c - rd b (i : Int)) % 65536 + 65536 * ((rd a (i : Int) - c - rd b (i : Int)) / 65536) = rd a (i : Int) - c - rd b (i : Int) := by omega
      generalize (rd a (i : Int) - c - rd b (i : Int)) % 65536 = s1 at *
      generalize (rd a (i : Int) - c - rd b (i : Int)) / 65536 = s2 at *
      grind)
    exact ⟨r, minus_go a b x c i (by omega) hc0 hc1 ha hb.1 (by omega) hla hr, h⟩
theorem ev_minus (a b : List Int) (ha : Dg a) (hb : Nm b) (hla : a.length ≤ 1000) (hv : V b ≤ V a) : ∃ r, Ev (fun k => foliotref01_minus.f k a b) r ∧ Nm r ∧ V r = V a - V b ∧ r.length ≤ a.length := by
  unfold foliotref01_minus.f
  exact minus_l0 a b ha hb hla hv a.length 0 0 [] (by omega) rfl Dg.nil (by omega) (by omega) (by simp [V])
end Go.Proofs.Ytgbffggaifnalaa.V
