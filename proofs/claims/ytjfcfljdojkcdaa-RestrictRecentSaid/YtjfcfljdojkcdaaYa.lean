/- Plain lemmas on the printed functions: whole numbers and lists, no program in sight. -/
import Derived.Test.YtjfcfljdojkcdaaDC9
import Derived.Laws.BitsLemmas
import Derived.Laws.Bits64
import Derived.Laws.Bits64b
import Derived.Sort.AssemblyPlain
import Derived.Sort.LotD5
import Derived.Sort.LotD4
namespace Go.Proofs.Ytjfcfljdojkcdaa.C9
open Go Go.RowKit Go.Proofs.Ytjfcfljdojkcdaa.Ev
set_option linter.unusedVariables false
set_option linter.unusedSimpArgs false
set_option maxRecDepth 100000
/-- Not by plain rfl: a rewriting with it leaves a proof, and the kernel has nothing to unfold. -/
theorem bsome {α β : Type} (a : α) (f : α → Option β) : (some a).bind f = f a := by
  cases (show True ∨ True from Or.inl trivial) <;> rfl
theorem u64w (n : Int) : IntKind.u64.wrap n = n % 18446744073709551616 := by
  simp [IntKind.wrap, IntKind.bits, IntKind.signed]
theorem w64_in {n : Int} (h0 : -9223372036854775808 ≤ n) (h1 : n ≤ 9223372036854775807) : wrap64 n = n := by
  unfold wrap64; omega
theorem u64_in {n : Int} (h0 : 0 ≤ n) (h1 : n < 18446744073709551616) : IntKind.u64.wrap n = n := by
  rw [u64w]; omega
theorem wf64 {n : Int} (h : (Lit.int .i64 n).wf = true) : -9223372036854775808 ≤ n ∧ n ≤ 9223372036854775807 := by
  simpa [Lit.wf, IntKind.min, IntKind.max, IntKind.signed, IntKind.bits] using h
theorem wfu64 {n : Int} (h : (Lit.int .u64 n).wf = true) : 0 ≤ n ∧ n ≤ 18446744073709551615 := by
  simpa [Lit.wf, IntKind.min, IntKind.max, IntKind.signed, IntKind.bits] using h
theorem wfu32 {n : Int} (h : (Lit.int .u32 n).wf = true) : 0 ≤ n ∧ n ≤ 4294967295 := by
  simpa [Lit.wf, IntKind.min, IntKind.max, IntKind.signed, IntKind.bits] using h
theorem wfu8 {n : Int} (h : (Lit.int .u8 n).wf = true) : 0 ≤ n ∧ n ≤ 255 := by
  simpa [Lit.wf, IntKind.min, IntKind.max, IntKind.signed, IntKind.bits] using h
theorem wraps_u64 (n : Int) (h₀ : 0 ≤ n) (h₁ : n < 2 ^ 64) : IntKind.u64.wrap n = n := u64_in h₀ (by omega)
theorem orj (i : Nat) (x y : Int) (hx0 : 0 ≤ x) (hx : x % 2 ^ i = 0) (hx1 : x < 18446744073709551616) (hy0 : 0 ≤ y) (hy : y < 2 ^ i) (hy1 : y < 18446744073709551616) : Go.bits .or .u64 x y = x + y :=
  bits_join .u64 64 (by decide) wraps_u64 i x y hx0 hx (by omega) hy0 hy (by omega)
theorem shr_eq (k : IntKind) (hk : k.bits = 64) (x : Int) (n : Nat) (hn : n ≤ 64) : shr k x (n : Int) = x / 2 ^ n := by
  unfold shr
  rw [hk, show min (n : Int).toNat 64 = n from by simp; omega]
/-- With rounds enough, g answers r. -/
def Ev {α : Type} (g : Nat → Option α) (r : α) : Prop := ∃ K, ∀ k, K ≤ k → g k = some r
theorem Ev.now {α : Type} (r : α) : Ev (fun _ => some r) r := ⟨0, fun _ _ => rfl⟩
theorem Ev.rounds {α : Type} {g : Nat → Option α} {r : α} (h : Ev g r) : ∃ k, g k = some r := by
  obtain ⟨K, h⟩ := h; exact ⟨K, h K (Nat.le_refl K)⟩
theorem Ev.bind {α β : Type} {g : Nat → Option α} {f : Nat → α → Option β} {a : α} {r : β} (h : Ev g a) (k : Ev (fun n => f n a) r) : Ev (fun n => (g n).bind (f n)) r := by
  obtain ⟨K, h⟩ := h; obtain ⟨L, k⟩ := k
  refine ⟨max K L, fun n hn => ?_⟩
  show (g n).bind (f n) = some r
  rw [h n (by omega), bsome]; exact k n (by omega)
theorem Ev.step {α : Type} {g f : Nat → Option α} {r : α} (h : ∀ k, g (k + 1) = f k) (k : Ev f r) : Ev g r := by
  obtain ⟨K, k⟩ := k
  refine ⟨K + 1, fun n hn => ?_⟩
  obtain ⟨m, rfl⟩ : ∃ m, n = m + 1 := ⟨n - 1, by omega⟩
  rw [h m]; exact k m (by omega)
theorem Ev.congr {α : Type} {g f : Nat → Option α} {r : α} (h : ∀ k, g k = f k) (k : Ev f r) : Ev g r := by
  obtain ⟨K, k⟩ := k; exact ⟨K, fun n hn => by rw [h n]; exact k n hn⟩
theorem Ev.succ {α : Type} {g : Nat → Option α} {r : α} (h : ∀ k, g (k + 1) = some r) : Ev g r := Ev.step h (Ev.now r)
theorem Ev.const {α : Type} {g : Option α} {r : α} (h : g = some r) : Ev (fun _ => g) r := by rw [h]; exact Ev.now r
theorem Ev.uniq {α : Type} {g : Nat → Option α} {r s : α} (h : Ev g r) (h' : Ev g s) : r = s := by
  obtain ⟨K, h⟩ := h; obtain ⟨L, h'⟩ := h'
  have h1 := h (max K L) (by omega); have h2 := h' (max K L) (by omega)
  rw [h1] at h2; exact Option.some.inj h2
theorem Ev.bs {α β : Type} {f : Nat → α → Option β} {a : α} {r : β} (h : Ev (fun k => f k a) r) : Ev (fun k => (some a).bind (f k)) r := Ev.bind (Ev.now a) h
theorem wrap_succ (i : Nat) (h : (i : Int) < 9223372036854775807) : wrap64 ((i : Int) + 1) = ((i + 1 : Nat) : Int) := by
  rw [w64_in (by omega) (by omega)]; rfl
theorem bif_b {α : Type} (p : Bool) (a b : α) : (bif p then a else b) = if p = true then a else b := by
  cases p <;> rfl
theorem bif_nb {α : Type} (p : Bool) (a b : α) : (bif !p then a else b) = if p = true then b else a := by
  cases p <;> rfl
theorem u32w (n : Int) : IntKind.u32.wrap n = n % 4294967296 := by
  simp [IntKind.wrap, IntKind.bits, IntKind.signed]
theorem wraps_u32 (n : Int) (h₀ : 0 ≤ n) (h₁ : n < 2 ^ 32) : IntKind.u32.wrap n = n := by rw [u32w]; omega
theorem orj32 (i : Nat) (x y : Int) (hx0 : 0 ≤ x) (hx : x % 2 ^ i = 0) (hx1 : x < 4294967296) (hy0 : 0 ≤ y) (hy : y < 2 ^ i) (hy1 : y < 4294967296) : Go.bits .or .u32 x y = x + y :=
  bits_join .u32 32 (by decide) wraps_u32 i x y hx0 hx (by omega) hy0 hy (by omega)
theorem bt_rng (s : ByteArray) (i : Int) : 0 ≤ bt s i ∧ bt s i < 256 := by
  unfold bt
  split
  · rename_i h
    have := (s[i.toNat]'h).toNat_lt
    omega
  · omega
/-! ### the order, and reading: known addresses -/
instance instInhS78 : Inhabited S78 := ⟨z_S78⟩
theorem rdA (d : Array S78) (i : Nat) : rdOf z_S78 d.toList (i : Int) = d[i]! := by
  unfold rdOf
  rw [Int.toNat_natCast, List.getD_eq_getElem?_getD, Array.getElem?_toList, getElem!_def]
  cases d[i]? <;> rfl
def ltR (x y : S78) : Bool := decide (y.f5 < x.f5)
theorem swoR : Go.Sort.SWO ltR where
  irrefl x := by simp [ltR]
  trans x y z h1 h2 := by simp only [ltR, decide_eq_true_eq] at *; omega
  ntrans x y z h1 h2 := by simp only [ltR, decide_eq_false_iff_not] at *; omega
def cR (x y : S78) : Int := if y.f5 < x.f5 then -1 else if y.f5 > x.f5 then 1 else 0
theorem less_val (x y : S78) : restrict_Memory_List_1.f x.f0 x.f1 x.f2 x.f3 x.f4 x.f5 y.f0 y.f1 y.f2 y.f3 y.f4 y.f5 = some (cR x y) := by
  unfold restrict_Memory_List_1.f cmp_Compare_int.f cmp_isNaN_int.f cR
  simp only [not_true_eq_false, decide_false, bsome, cond_false]
  split
  · rfl
  · split <;> rfl
theorem less_iff (x y : S78) : (cR x y < 0) = (ltR x y = true) := by
  unfold cR ltR
  by_cases h : y.f5 < x.f5
  · simp [h]
  · by_cases h2 : y.f5 > x.f5 <;> simp [h, h2]
theorem etaR (x : S78) : (⟨x.f0, x.f1, x.f2, x.f3, x.f4, x.f5⟩ : S78) = x := rfl
/-! ### numbers, exchanges -/
abbrev BIG (n : Nat) : Prop := n ≤ 70368744177664
theorem qadd (x y : Nat) (h : x + y ≤ 900000000000000) : wrap64 ((x : Int) + (y : Int)) = ((x + y : Nat) : Int) := by rw [w64_in (by omega) (by omega)]; omega
theorem qsuc (x : Nat) (h : x ≤ 900000000000000) : wrap64 ((x : Int) + 1) = ((x + 1 : Nat) : Int) := by rw [w64_in (by omega) (by omega)]; omega
theorem qpre (x : Nat) (h : x ≤ 900000000000000) : wrap64 (((x + 1 : Nat) : Int) - 1) = (x : Int) := by rw [w64_in (by omega) (by omega)]; omega
theorem qsub (x y z : Nat) (h : x = y + z) (hx : x ≤ 900000000000000) : wrap64 ((x : Int) - (y : Int)) = (z : Int) := by rw [w64_in (by omega) (by omega)]; omega
theorem qdbl (x : Nat) (h : x ≤ 400000000000000) : wrap64 (2 * (x : Int)) = ((2 * x : Nat) : Int) := by rw [w64_in (by omega) (by omega)]; omega
theorem swpL (d : Array S78) (i j : Nat) : (d.toList.set i d[j]!).set j d[i]! = (Go.Sort.swp d i j).toList := by
  simp [Go.Sort.swp]
theorem ltq {α β : Type} (x : α) (f : α → β) : lt x f = f x := rfl
theorem tnc (n : Nat) : ((n : Int)).toNat = n := Int.toNat_natCast n
theorem nn (n : Nat) : ((0 : Int) ≤ (n : Int)) = True := by simp
theorem sSwp (d : Array S78) (i j : Nat) : (Go.Sort.swp d i j).size = d.size := Go.Sort.size_swp d i j
theorem lll (d : Array S78) : (d.toList.length : Int) = ((d.size : Nat) : Int) := by simp
theorem lls (d : Array S78) (i : Nat) (x : S78) : ((d.toList.set i x).length : Int) = ((d.size : Nat) : Int) := by simp
/-! ### the insertion sort -/
theorem q_i1 (a b i j : Nat) (d : Array S78) (h : j + 1 < d.size) (hB : BIG d.size) (k : Nat) : slices_insertionSortCmpFunc_restrict_known.l1 (k + 1) (a : Int) (b : Int) (i : Int) ((j + 1 : Nat) : Int) d.toList =
    if a < j + 1 then (if ltR d[j+1]! d[j]! = true then slices_insertionSortCmpFunc_restrict_known.l1 k (a : Int) (b : Int) (i : Int) (j : Int) (Go.Sort.swp d (j + 1) j).toList else slices_insertionSortCmpFunc_restrict_known.l0 k (a : Int) (b : Int) (wrap64 ((i : Int) + 1)) d.toList) else slices_insertionSortCmpFunc_restrict_known.l0 k (a : Int) (b : Int) (wrap64 ((i : Int) + 1)) d.toList := by
  have c0 : (((j + 1 : Nat) : Int) > (a : Int)) = (a < j + 1) := by apply propext; omega
  have c1 : (((j + 1 : Nat) : Int) < ((d.size : Nat) : Int)) = True := by simp only [eq_iff_iff, iff_true]; omega
  have c2 : ((j : Int) < ((d.size : Nat) : Int)) = True := by simp only [eq_iff_iff, iff_true]; omega
  rw [slices_insertionSortCmpFunc_restrict_known.l1]
  simp only [qpre j (by omega), c0, lll, lls, c1, c2, nn, if_true, rdA, less_val, bsome, less_iff, etaR, ltq, tnc, swpL]
theorem q_i10 (a b i : Nat) (d : Array S78) (k : Nat) : slices_insertionSortCmpFunc_restrict_known.l1 (k + 1) (a : Int) (b : Int) (i : Int) ((0 : Nat) : Int) d.toList = slices_insertionSortCmpFunc_restrict_known.l0 k (a : Int) (b : Int) (wrap64 ((i : Int) + 1)) d.toList := by
  rw [slices_insertionSortCmpFunc_restrict_known.l1, if_neg (by omega)]
theorem insInner_size (a : Nat) : ∀ (j : Nat) (d : Array S78), (Go.Sort.insInner ltR a j d).size = d.size
  | 0, d => rfl
  | j + 1, d => by
    rw [Go.Sort.insInner]
    split
    · rw [insInner_size a j, sSwp]
    · rfl
theorem q_in (a b i : Nat) (v : List S78) : ∀ (j : Nat) (d : Array S78), j < d.size → BIG d.size → Ev (fun k => slices_insertionSortCmpFunc_restrict_known.l0 k (a : Int) (b : Int) (wrap64 ((i : Int) + 1)) (Go.Sort.insInner ltR a j d).toList) v → Ev (fun k => slices_insertionSortCmpFunc_restrict_known.l1 k (a : Int) (b : Int) (i : Int) (j : Int) d.toList) v
  | 0, d, h, hB, e => Ev.step (fun k => q_i10 a b i d k) e
  | j + 1, d, h, hB, e => by
    refine Ev.step (fun k => q_i1 a b i j d h hB k) ?_
    rw [Go.Sort.insInner] at e
    by_cases c : a < j + 1
    · simp only [if_pos c]
      cases hl : ltR d[j+1]! d[j]! with
      | true =>
        rw [if_pos (by simp [c, hl])] at e
        simp only [if_true]
        exact q_in a b i v j _ (by rw [sSwp]; omega) (by rw [sSwp]; exact hB) e
      | false =>
        rw [if_neg (by simp [hl])] at e
        simp only [Bool.false_eq_true, if_false]
        exact e
    · rw [if_neg (by simp; omega)] at e
      simp only [if_neg c]
      exact e
theorem q_out (a b : Nat) : ∀ (n i : Nat) (d : Array S78), i + n = b → b ≤ d.size → BIG d.size → Ev (fun k => slices_insertionSortCmpFunc_restrict_known.l0 k (a : Int) (b : Int) (i : Int) d.toList) (Go.Sort.insOuter ltR a b i d).toList
  | 0, i, d, hn, hb, hB => by
    rw [Go.Sort.insOuter, if_neg (by omega)]
    exact Ev.succ fun k => by rw [slices_insertionSortCmpFunc_restrict_known.l0, if_neg (by omega)]
  | n + 1, i, d, hn, hb, hB => by
    rw [Go.Sort.insOuter, if_pos (by omega)]
    refine Ev.step (fun k => by rw [slices_insertionSortCmpFunc_restrict_known.l0, if_pos (by omega)]) ?_
    refine q_in a b i _ i d (by omega) hB ?_
    rw [qsuc i (by omega)]
    exact q_out a b n (i + 1) _ (by omega) (by rw [insInner_size]; exact hb) (by rw [insInner_size]; exact hB)
theorem insOuter_size (a b : Nat) : ∀ (n i : Nat) (d : Array S78), b - i ≤ n → (Go.Sort.insOuter ltR a b i d).size = d.size
  | 0, i, d, hn => by rw [Go.Sort.insOuter, if_neg (by omega)]
  | n + 1, i, d, hn => by
    rw [Go.Sort.insOuter]
    split
    · rw [insOuter_size a b n (i + 1) _ (by omega), insInner_size]
    · rfl
theorem q_ins (a b : Nat) (d : Array S78) (hab : a < b) (hb : b ≤ d.size) (hB : BIG d.size) : Ev (fun k => slices_insertionSortCmpFunc_restrict_known.f k (a : Int) (b : Int) d.toList) (Go.Sort.insertionSort ltR d a b).toList := by
  unfold slices_insertionSortCmpFunc_restrict_known.f Go.Sort.insertionSort
  rw [qsuc a (by omega)]
  exact q_out a b (b - (a + 1)) (a + 1) d (by omega) hb hB
/-! ### the heap -/
theorem q_sj (hi F r c : Nat) (d : Array S78) (hr : F + r < d.size) (hc : F + c < d.size) (hB : BIG d.size) (k : Nat) : slices_siftDownCmpFunc_restrict_known.j0 (k + 1) (hi : Int) (F : Int) (r : Int) (c : Int) d.toList =
    if ltR d[F + r]! d[F + c]! = true then slices_siftDownCmpFunc_restrict_known.l0 k (hi : Int) (F : Int) (c : Int) (Go.Sort.swp d (F + r) (F + c)).toList else some d.toList := by
  have c1 : (((F + r : Nat) : Int) < ((d.size : Nat) : Int)) = True := by simp only [eq_iff_iff, iff_true]; omega
  have c2 : (((F + c : Nat) : Int) < ((d.size : Nat) : Int)) = True := by simp only [eq_iff_iff, iff_true]; omega
  rw [slices_siftDownCmpFunc_restrict_known.j0]
  simp only [qadd F r (by omega), qadd F c (by omega), lll, lls, c1, c2, nn, if_true, rdA, less_val, bsome, less_iff, ite_not, etaR, ltq, tnc, swpL]
theorem q_sl (hi F r : Nat) (d : Array S78) (hr : F + hi ≤ d.size) (hB : BIG d.size) (hrr : r ≤ d.size) (k : Nat) : slices_siftDownCmpFunc_restrict_known.l0 (k + 1) (hi : Int) (F : Int) (r : Int) d.toList =
    if 2 * r + 1 ≥ hi then some d.toList else if 2 * r + 1 + 1 < hi then (if ltR d[F + (2 * r + 1)]! d[F + (2 * r + 1) + 1]! = true then slices_siftDownCmpFunc_restrict_known.j0 k (hi : Int) (F : Int) (r : Int) ((2 * r + 1 + 1 : Nat) : Int) d.toList else slices_siftDownCmpFunc_restrict_known.j0 k (hi : Int) (F : Int) (r : Int) ((2 * r + 1 : Nat) : Int) d.toList) else slices_siftDownCmpFunc_restrict_known.j0 k (hi : Int) (F : Int) (r : Int) ((2 * r + 1 : Nat) : Int) d.toList := by
  have c0 : (((2 * r + 1 : Nat) : Int) ≥ (hi : Int)) = (2 * r + 1 ≥ hi) := by apply propext; omega
  have c1 : (((2 * r + 1 + 1 : Nat) : Int) < (hi : Int)) = (2 * r + 1 + 1 < hi) := by apply propext; omega
  rw [slices_siftDownCmpFunc_restrict_known.l0]
  simp only [qdbl r (by omega), qsuc (2 * r) (by omega), qsuc (2 * r + 1) (by omega), c0, c1]
  by_cases h0 : 2 * r + 1 ≥ hi
  · simp only [if_pos h0]
  · simp only [if_neg h0]
    by_cases h1 : 2 * r + 1 + 1 < hi
    · have c2 : (((F + (2 * r + 1) : Nat) : Int) < ((d.size : Nat) : Int)) = True := by simp only [eq_iff_iff, iff_true]; omega
      have c3 : (((F + (2 * r + 1) + 1 : Nat) : Int) < ((d.size : Nat) : Int)) = True := by simp only [eq_iff_iff, iff_true]; omega
      simp only [if_pos h1, qadd F (2 * r + 1) (by omega), qsuc (F + (2 * r + 1)) (by omega), lll, c2, c3, nn, if_true, rdA, less_val, bsome, less_iff]
    · simp only [if_neg h1]
theorem siftDown_size (hi F : Nat) : ∀ (n r : Nat) (d : Array S78), hi - r ≤ n → (Go.Sort.siftDown ltR hi F r d).size = d.size
  | 0, r, d, hn => by rw [Go.Sort.siftDown, dif_pos (by omega)]
  | n + 1, r, d, hn => by
    rw [Go.Sort.siftDown]
    split
    · rfl
    · split
      · split
        · rfl
        · split
          · rw [siftDown_size hi F n _ _ (by omega), sSwp]
          · rfl
      · split
        · rfl
        · rw [siftDown_size hi F n _ _ (by omega), sSwp]
theorem q_sift0 (hi F : Nat) : ∀ (n r : Nat) (d : Array S78), hi - r ≤ n → F + hi ≤ d.size → r ≤ d.size → BIG d.size → Ev (fun k => slices_siftDownCmpFunc_restrict_known.l0 k (hi : Int) (F : Int) (r : Int) d.toList) (Go.Sort.siftDown ltR hi F r d).toList
  | n, r, d, hn, hF, hr, hB => by
    refine Ev.step (fun k => q_sl hi F r d hF hB hr k) ?_
    rw [Go.Sort.siftDown]
    by_cases h0 : 2 * r + 1 ≥ hi
    · simp only [if_pos h0, dif_pos h0]
      exact Ev.now _
    · simp only [if_neg h0, dif_neg h0]
      obtain ⟨m, rfl⟩ : ∃ m, n = m + 1 := ⟨n - 1, by omega⟩
      have one : ∀ c, (c = 2 * r + 1 ∨ c = 2 * r + 1 + 1) → c < hi → Ev (fun k => slices_siftDownCmpFunc_restrict_known.j0 k (hi : Int) (F : Int) (r : Int) (c : Int) d.toList) (if ltR d[F + r]! d[F + c]! = true then (Go.Sort.siftDown ltR hi F c (Go.Sort.swp d (F + r) (F + c))) else d).toList := by
        intro c hc hlt
        refine Ev.step (fun k => q_sj hi F r c d (by omega) (by omega) hB k) ?_
        cases hl : ltR d[F + r]! d[F + c]! with
        | true =>
          simp only [if_true]
          exact q_sift0 hi F m c _ (by omega) (by rw [sSwp]; exact hF) (by rw [sSwp]; omega) (by rw [sSwp]; exact hB)
        | false =>
          simp only [Bool.false_eq_true, if_false]
          exact Ev.now _
      by_cases h1 : 2 * r + 1 + 1 < hi
      · simp only [if_pos h1]
        cases hl : ltR d[F + (2 * r + 1)]! d[F + (2 * r + 1) + 1]! with
        | true =>
          have := one (2 * r + 1 + 1) (.inr rfl) h1
          simp only [if_true]
          rw [if_pos (by simp [h1])]
          cases hm : ltR d[F + r]! d[F + (2 * r + 2)]! with
          | true =>
            have hm' : ltR d[F + r]! d[F + (2 * r + 1 + 1)]! = true := hm
            rw [if_pos hm'] at this
            rw [if_neg (by simp), dif_pos h1]
            exact this
          | false =>
            have hm' : ¬ ltR d[F + r]! d[F + (2 * r + 1 + 1)]! = true := by show ¬ ltR d[F + r]! d[F + (2 * r + 2)]! = true; rw [hm]; simp
            rw [if_neg hm'] at this
            rw [if_pos (by simp)]
            exact this
        | false =>
          have := one (2 * r + 1) (.inl rfl) (by omega)
          simp only [Bool.false_eq_true, if_false]
          rw [if_neg (by simp)]
          cases hm : ltR d[F + r]! d[F + (2 * r + 1)]! with
          | true =>
            rw [hm, if_pos rfl] at this
            rw [if_neg (by simp)]
            exact this
          | false =>
            rw [hm, if_neg (by simp)] at this
            rw [if_pos (by simp)]
            exact this
      · have := one (2 * r + 1) (.inl rfl) (by omega)
        simp only [if_neg h1]
        rw [if_neg (by simp; omega)]
        cases hm : ltR d[F + r]! d[F + (2 * r + 1)]! with
        | true =>
          rw [hm, if_pos rfl] at this
          rw [if_neg (by simp)]
          exact this
        | false =>
          rw [hm, if_neg (by simp)] at this
          rw [if_pos (by simp)]
          exact this
theorem q_sift (hi F r : Nat) (d : Array S78) (hF : F + hi ≤ d.size) (hr : r ≤ d.size) (hB : BIG d.size) : Ev (fun k => slices_siftDownCmpFunc_restrict_known.f k (r : Int) (hi : Int) (F : Int) d.toList) (Go.Sort.siftDown ltR hi F r d).toList := by
  unfold slices_siftDownCmpFunc_restrict_known.f
  exact q_sift0 hi F (hi - r) r d (Nat.le_refl _) hF hr hB
theorem heapPop_size (F : Nat) : ∀ (n : Nat) (d : Array S78), (Go.Sort.heapPop ltR F n d).size = d.size
  | 0, d => rfl
  | n + 1, d => by rw [Go.Sort.heapPop, heapPop_size F n, siftDown_size _ _ _ _ _ (Nat.le_refl _), sSwp]
theorem heapBuild_size (hi F : Nat) : ∀ (n : Nat) (d : Array S78), (Go.Sort.heapBuild ltR hi F n d).size = d.size
  | 0, d => rfl
  | n + 1, d => by rw [Go.Sort.heapBuild, heapBuild_size hi F n, siftDown_size _ _ _ _ _ (Nat.le_refl _)]
theorem q_h1 (F k0 : Nat) : ∀ (n : Nat) (d : Array S78), F + n ≤ d.size → BIG d.size → Ev (fun k => slices_heapSortCmpFunc_restrict_known.l1 k (F : Int) 0 ((n : Int) - 1) d.toList) (Go.Sort.heapPop ltR F n d).toList
  | 0, d, h, hB => Ev.succ fun k => by rw [slices_heapSortCmpFunc_restrict_known.l1, if_neg (by omega)]; rfl
  | n + 1, d, h, hB => by
    have e1 : (((n + 1 : Nat) : Int) - 1) = (n : Int) := by omega
    have c0 : ((n : Int) ≥ 0) = True := by simp only [eq_iff_iff, iff_true]; omega
    have c1 : (((F + n : Nat) : Int) < ((d.size : Nat) : Int)) = True := by simp only [eq_iff_iff, iff_true]; omega
    have c2 : (((F : Nat) : Int) < ((d.size : Nat) : Int)) = True := by simp only [eq_iff_iff, iff_true]; omega
    have e2 : wrap64 ((n : Int) - 1) = (n : Int) - 1 := w64_in (by omega) (by omega)
    rw [e1]
    refine Ev.step (f := fun k => (slices_siftDownCmpFunc_restrict_known.f k 0 (n : Int) (F : Int) (Go.Sort.swp d F (F + n)).toList).bind fun t2 => slices_heapSortCmpFunc_restrict_known.l1 k (F : Int) 0 (wrap64 ((n : Int) - 1)) t2) (fun k => by
      rw [slices_heapSortCmpFunc_restrict_known.l1]
      simp only [qadd F n (by omega), c0, c1, c2, lll, lls, nn, if_true, rdA, etaR, ltq, tnc, swpL]) ?_
    refine Ev.bind (f := fun k t => _) (q_sift n F 0 (Go.Sort.swp d F (F + n)) (by rw [sSwp]; omega) (by omega) (by rw [sSwp]; exact hB)) ?_
    rw [e2]
    exact q_h1 F k0 n _ (by rw [siftDown_size _ _ _ _ _ (Nat.le_refl _), sSwp]; omega) (by rw [siftDown_size _ _ _ _ _ (Nat.le_refl _), sSwp]; exact hB)
theorem q_h0 (F hi : Nat) : ∀ (n : Nat) (d : Array S78), n ≤ hi + 1 → F + hi ≤ d.size → BIG d.size → Ev (fun k => slices_heapSortCmpFunc_restrict_known.l0 k (F : Int) 0 (hi : Int) ((n : Int) - 1) d.toList) (Go.Sort.heapPop ltR F hi (Go.Sort.heapBuild ltR hi F n d)).toList
  | 0, d, hn, h, hB => by
    have e2 : wrap64 ((hi : Int) - 1) = (hi : Int) - 1 := w64_in (by omega) (by omega)
    refine Ev.step (fun k => by rw [slices_heapSortCmpFunc_restrict_known.l0, if_neg (by omega), e2]) ?_
    exact q_h1 F 0 hi d h hB
  | n + 1, d, hn, h, hB => by
    have e1 : (((n + 1 : Nat) : Int) - 1) = (n : Int) := by omega
    have e2 : wrap64 ((n : Int) - 1) = (n : Int) - 1 := w64_in (by omega) (by omega)
    rw [e1]
    refine Ev.step (fun k => by rw [slices_heapSortCmpFunc_restrict_known.l0, if_pos (by omega), e2]) ?_
    refine Ev.bind (f := fun k t => _) (q_sift hi F n d h (by omega) hB) ?_
    exact q_h0 F hi n _ (by omega) (by rw [siftDown_size _ _ _ _ _ (Nat.le_refl _)]; exact h) (by rw [siftDown_size _ _ _ _ _ (Nat.le_refl _)]; exact hB)
theorem q_heap (a b : Nat) (d : Array S78) (hab : a < b) (hb : b ≤ d.size) (hB : BIG d.size) : Ev (fun k => slices_heapSortCmpFunc_restrict_known.f k (a : Int) (b : Int) d.toList) (Go.Sort.heapSort ltR d a b).toList := by
  unfold slices_heapSortCmpFunc_restrict_known.f Go.Sort.heapSort
  have e1 := qsub b a (b - a) (by omega) (by omega)
  have e2 : wrap64 (((b - a : Nat) : Int) - 1) = ((b - a - 1 : Nat) : Int) := qsub (b - a) 1 (b - a - 1) (by omega) (by omega)
  have e3 : wrap64 (Int.tdiv ((b - a - 1 : Nat) : Int) 2) = (((b - a - 1) / 2 + 1 : Nat) : Int) - 1 := by
    rw [Int.tdiv_eq_ediv_of_nonneg (by omega), w64_in (by omega) (by omega)]; omega
  rw [e1, e2, e3]
  exact q_h0 a (b - a) ((b - a - 1) / 2 + 1) d (by omega) (by omega) hB
end Go.Proofs.Ytjfcfljdojkcdaa.C9
