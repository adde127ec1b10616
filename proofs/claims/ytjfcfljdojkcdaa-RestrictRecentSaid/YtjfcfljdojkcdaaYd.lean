/- Plain lemmas on the printed functions: whole numbers and lists, no program in sight. -/
import Derived.Test.YtjfcfljdojkcdaaYc
import Derived.Laws.BitsLemmas
import Derived.Laws.Bits64
import Derived.Laws.Bits64b
import Derived.Sort.AssemblyPlain
import Derived.Sort.LotD5
import Derived.Sort.LotD4
namespace Go.Proofs.Ytjfcfljdojkcdaa.C9
open Go Go.RowKit Go.Proofs.Ytjfcfljdojkcdaa.Ev
set_option linter.unusedVariables false
set_option linter.unusedSimpArgs false
set_option maxRecDepth 100000
/-! ### patterns broken -/
theorem q_bitLen (x : Nat) (h : x < 2 ^ 64) : Lib.bitLen x = Go.Sort.bitsLen x := by
  induction x using Nat.strongRecOn with
  | _ x ih =>
    by_cases h0 : x = 0
    · subst h0; rfl
    · rw [Lib.bitLen_half x h0 h, ih (x / 2) (by omega) (by omega)]
      unfold Go.Sort.bitsLen
      rw [if_neg h0, Nat.log2_def x]
      by_cases h2 : 2 ≤ x
      · rw [if_pos h2, if_neg (by omega)]; omega
      · obtain rfl : x = 1 := by omega
        simp
theorem q_len (n : Nat) (h : n ≤ 900000000000000) : bits_Len.f (IntKind.u64.wrap (n : Int)) = some ((Go.Sort.bitsLen n : Nat) : Int) := by
  unfold bits_Len.f bits_Len64.f
  rw [u64_in (by omega) (by omega), if_pos (by omega), bsome, tnc, q_bitLen n (by omega)]
theorem bitsLen_le (n : Nat) (h : n ≤ 900000000000000) : Go.Sort.bitsLen n ≤ 50 := (Go.Sort.bitsLen_le_iff n 50).2 (by omega)
theorem q_next2 (n : Nat) (h : n ≤ 900000000000000) : slices_nextPowerOfTwo.f (n : Int) = some ((2 ^ Go.Sort.bitsLen n : Nat) : Int) := by
  unfold slices_nextPowerOfTwo.f
  rw [q_len n h, bsome, if_pos (by omega)]
  have hl := bitsLen_le n h
  generalize Go.Sort.bitsLen n = L at *
  unfold shl
  rw [tnc, show IntKind.u64.bits = 64 from rfl, show min L 64 = L by omega]
  have hp : (2 : Nat) ^ L ≤ 2 ^ 50 := Nat.pow_le_pow_right (by decide) hl
  have hc : (1 : Int) * 2 ^ L = ((2 ^ L : Nat) : Int) := by rw [Int.one_mul]; norm_cast
  rw [hc]
  generalize 2 ^ L = z at *
  rw [u64_in (n := (z : Int)) (by omega) (by omega)]
theorem q_xor (r : UInt64) : slices_xorshift_Next.f ((r.toNat : Nat) : Int) = some ((((Go.Sort.xorNext r).toNat : Nat) : Int), (((Go.Sort.xorNext r).toNat : Nat) : Int)) := by
  unfold slices_xorshift_Next.f
  have hr : r.toNat < 18446744073709551616 := r.toNat_lt
  rw [Go.Sort.xorNext_toNat]
  unfold Go.Sort.xorNextN
  dsimp only
  generalize r.toNat = x at *
  have p : (18446744073709551616 : Nat) = 2 ^ 64 := by decide
  have e1 : IntKind.u64.wrap ((x : Int) * 8192) = ((x * 8192 % 18446744073709551616 : Nat) : Int) := by rw [u64w]; omega
  have l1 : x * 8192 % 18446744073709551616 < 18446744073709551616 := Nat.mod_lt _ (by decide)
  rw [e1, bits_xor_u64_nat _ _ hr l1]
  have l2 : x ^^^ (x * 8192 % 18446744073709551616) < 18446744073709551616 := by rw [p] at *; exact Nat.xor_lt_two_pow hr l1
  clear e1
  generalize x ^^^ (x * 8192 % 18446744073709551616) = a at *
  have e2 : (a : Int) / 128 = ((a / 128 : Nat) : Int) := by omega
  have l3 : a / 128 < 18446744073709551616 := by omega
  rw [e2, bits_xor_u64_nat _ _ l2 l3]
  have l4 : a ^^^ (a / 128) < 18446744073709551616 := by rw [p] at *; exact Nat.xor_lt_two_pow l2 l3
  clear e2
  generalize a ^^^ (a / 128) = b at *
  have e3 : IntKind.u64.wrap ((b : Int) * 131072) = ((b * 131072 % 18446744073709551616 : Nat) : Int) := by rw [u64w]; omega
  have l5 : b * 131072 % 18446744073709551616 < 18446744073709551616 := Nat.mod_lt _ (by decide)
  rw [e3, bits_xor_u64_nat _ _ l4 l5]
theorem q_bj (a L M i o : Nat) (d : Array S78) (r : Int) (ho : a + o < d.size) (hi : i < d.size) (hB : BIG d.size) (k : Nat) : slices_breakPatternsCmpFunc_restrict_known.j0 (k + 1) (a : Int) (L : Int) (M : Int) (i : Int) (o : Int) d.toList r = slices_breakPatternsCmpFunc_restrict_known.l0 k (a : Int) (L : Int) (M : Int) ((i + 1 : Nat) : Int) (Go.Sort.swp d i (a + o)).toList r := by
  have c1 : (((a + o : Nat) : Int) < ((d.size : Nat) : Int)) = True := by simp only [eq_iff_iff, iff_true]; omega
  have c2 : ((i : Int) < ((d.size : Nat) : Int)) = True := by simp only [eq_iff_iff, iff_true]; omega
  have b1 : a + o ≤ 900000000000000 := by omega
  have b2 : i ≤ 900000000000000 := by omega
  rw [slices_breakPatternsCmpFunc_restrict_known.j0]
  simp only [qadd a o b1, qsuc i b2, c1, c2, lll, lls, nn, if_true, rdA, etaR, ltq, tnc, swpL]
/-- The bound of its loop. -/
theorem q_bound (a L : Nat) (h : a + L ≤ 70368744177664) : wrap64 ((wrap64 ((a : Int) + (wrap64 ((wrap64 (Int.tdiv (L : Int) 4)) * 2)))) + 1) = ((a + L / 4 * 2 + 1 : Nat) : Int) := by
  obtain ⟨n0, _, n2, _⟩ := piv_nums a L h
  have b1 : a + L / 4 * 2 ≤ 900000000000000 := by clear n0 n2; omega
  rw [n0, n2, qadd a _ b1, qsuc _ b1]
theorem q_bl (a b i : Nat) (d : Array S78) (r : UInt64) (h8 : 8 ≤ b - a) (hb : b ≤ d.size) (hB : BIG d.size) (hi : i < b) (hi2 : i ≤ a + (b - a) / 4 * 2 + 1) (v : List S78)
    (e : Ev (fun k => slices_breakPatternsCmpFunc_restrict_known.l0 k (a : Int) ((b - a : Nat) : Int) ((2 ^ Go.Sort.bitsLen (b - a) : Nat) : Int) ((i + 1 : Nat) : Int) (Go.Sort.breakStep a (b - a) (2 ^ Go.Sort.bitsLen (b - a)) (r, d) i).2.toList (((Go.Sort.breakStep a (b - a) (2 ^ Go.Sort.bitsLen (b - a)) (r, d) i).1.toNat : Nat) : Int)) v) :
    Ev (fun k => slices_breakPatternsCmpFunc_restrict_known.l0 k (a : Int) ((b - a : Nat) : Int) ((2 ^ Go.Sort.bitsLen (b - a) : Nat) : Int) (i : Int) d.toList ((r.toNat : Nat) : Int)) v := by
  have hL := bitsLen_le (b - a) (by omega)
  have hlt := Go.Sort.lt_two_pow_bitsLen (b - a)
  have hle := Go.Sort.two_pow_bitsLen_le (show 0 < b - a by omega)
  unfold Go.Sort.breakStep at e
  dsimp only at e
  have hr : (Go.Sort.xorNext r).toNat < 18446744073709551616 := (Go.Sort.xorNext r).toNat_lt
  have hx := q_xor r
  have ho : (Go.Sort.xorNext r).toNat &&& (2 ^ Go.Sort.bitsLen (b - a) - 1) ≤ 2 ^ Go.Sort.bitsLen (b - a) - 1 := Nat.and_le_right
  generalize hm : 2 ^ Go.Sort.bitsLen (b - a) = M at *
  generalize hs : (Go.Sort.xorNext r).toNat = s at *
  have m1 : M - 1 < 18446744073709551616 := by omega
  have m2 : (0 : Int) ≤ (M : Int) - 1 := by omega
  have m3 : (M : Int) - 1 < 18446744073709551616 := by omega
  have m4 : ((M : Int) - 1) = ((M - 1 : Nat) : Int) := by omega
  have hc : (i : Int) ≤ ((a + (b - a) / 4 * 2 + 1 : Nat) : Int) := by omega
  have m5 : a + (b - a) ≤ 70368744177664 := by omega
  have hid : i < d.size := by omega
  have ho2 : s &&& (M - 1) ≤ 900000000000000 := by omega
  have m6 : (-9223372036854775808 : Int) ≤ ((s &&& (M - 1) : Nat) : Int) := by omega
  have m7 : ((s &&& (M - 1) : Nat) : Int) ≤ 9223372036854775807 := by omega
  have m8 : s &&& (M - 1) ≥ b - a → s &&& (M - 1) = (b - a) + ((s &&& (M - 1)) - (b - a)) ∧ a + ((s &&& (M - 1)) - (b - a)) < d.size ∧ ((s &&& (M - 1) : Nat) : Int) ≥ ((b - a : Nat) : Int) := by intro h; omega
  have m9 : ¬ s &&& (M - 1) ≥ b - a → a + (s &&& (M - 1)) < d.size ∧ ¬ ((s &&& (M - 1) : Nat) : Int) ≥ ((b - a : Nat) : Int) := by intro h; omega
  clear hL hlt hle ho
  have hand := bits_and_u64_nat s (M - 1) hr m1
  have hw2 : wrap64 ((s &&& (M - 1) : Nat) : Int) = ((s &&& (M - 1) : Nat) : Int) := w64_in m6 m7
  generalize s &&& (M - 1) = o at *
  have bnd := q_bound a (b - a) m5
  have hw1 : IntKind.u64.wrap ((M : Int) - 1) = ((M - 1 : Nat) : Int) := by rw [u64_in m2 m3, m4]
  by_cases hg : o ≥ b - a
  · obtain ⟨g1, hin, hg'⟩ := m8 hg
    have hw3 : wrap64 ((o : Int) - ((b - a : Nat) : Int)) = ((o - (b - a) : Nat) : Int) := qsub o (b - a) (o - (b - a)) g1 ho2
    refine Ev.step (f := fun k => slices_breakPatternsCmpFunc_restrict_known.j0 k (a : Int) ((b - a : Nat) : Int) (M : Int) (i : Int) ((o - (b - a) : Nat) : Int) d.toList (s : Int)) (fun k => ?_) ?_
    · rw [slices_breakPatternsCmpFunc_restrict_known.l0, bnd, if_pos hc, hx, bsome]
      dsimp only
      rw [hw1, hand, hw2, if_pos hg', hw3]
    · refine Ev.step (fun k => q_bj a (b - a) M i (o - (b - a)) d (s : Int) hin hid hB k) ?_
      rw [if_pos hg] at e
      exact e
  · obtain ⟨hin, hg'⟩ := m9 hg
    refine Ev.step (f := fun k => slices_breakPatternsCmpFunc_restrict_known.j0 k (a : Int) ((b - a : Nat) : Int) (M : Int) (i : Int) (o : Int) d.toList (s : Int)) (fun k => ?_) ?_
    · rw [slices_breakPatternsCmpFunc_restrict_known.l0, bnd, if_pos hc, hx, bsome]
      dsimp only
      rw [hw1, hand, hw2, if_neg hg']
    · refine Ev.step (fun k => q_bj a (b - a) M i o d (s : Int) hin hid hB k) ?_
      rw [if_neg hg] at e
      exact e
theorem breakStep_size (a L M i : Nat) (r : UInt64) (d : Array S78) : (Go.Sort.breakStep a L M (r, d) i).2.size = d.size := by
  unfold Go.Sort.breakStep
  exact sSwp _ _ _
theorem q_break (a b : Nat) (d : Array S78) (h8 : 8 ≤ b - a) (hb : b ≤ d.size) (hB : BIG d.size) : Ev (fun k => slices_breakPatternsCmpFunc_restrict_known.f k (a : Int) (b : Int) d.toList) (Go.Sort.breakPatterns d a b).toList := by
  have b0 : b = a + (b - a) := by omega
  have b1 : b ≤ 900000000000000 := by omega
  have b2 : a + (b - a) ≤ 70368744177664 := by omega
  have b3 : ((b - a : Nat) : Int) ≥ 8 := by omega
  have b4 : b - a ≤ 900000000000000 := by omega
  have b5 : 1 ≤ a + (b - a) / 4 * 2 := by omega
  have b6 : a + (b - a) / 4 * 2 ≤ 900000000000000 := by omega
  have b7 : a + (b - a) / 4 * 2 - 1 < b := by omega
  have b8 : a + (b - a) / 4 * 2 - 1 ≤ a + (b - a) / 4 * 2 + 1 := by omega
  have b9 : a + (b - a) / 4 * 2 - 1 + 1 < b := by omega
  have b10 : a + (b - a) / 4 * 2 - 1 + 1 ≤ a + (b - a) / 4 * 2 + 1 := by omega
  have b11 : a + (b - a) / 4 * 2 - 1 + 2 < b := by omega
  have b12 : a + (b - a) / 4 * 2 - 1 + 2 ≤ a + (b - a) / 4 * 2 + 1 := by omega
  have b13 : ¬ (((a + (b - a) / 4 * 2 - 1 + 2 + 1 : Nat) : Int) ≤ ((a + (b - a) / 4 * 2 + 1 : Nat) : Int)) := by omega
  have b14 : b - a < 18446744073709551616 := by omega
  have b15 : IntKind.u64.wrap ((b - a : Nat) : Int) = ((b - a : Nat) : Int) := u64_in (by omega) (by omega)
  have e0 : ((UInt64.ofNat (b - a)).toNat : Nat) = b - a := by rw [UInt64.toNat_ofNat']; exact Nat.mod_eq_of_lt b14
  obtain ⟨n0, _, n2, _⟩ := piv_nums a (b - a) b2
  have bnd := q_bound a (b - a) b2
  unfold slices_breakPatternsCmpFunc_restrict_known.f Go.Sort.breakPatterns
  simp only [qsub b a (b - a) b0 b1, if_pos b3, if_pos (show b - a ≥ 8 from h8), n0, n2, qadd a _ b6, qm1 _ b5 b6, b15]
  rw [q_next2 (b - a) b4]
  refine Ev.bs (f := fun k t => _) ?_
  rw [show (1 : Nat) <<< Go.Sort.bitsLen (b - a) = 2 ^ Go.Sort.bitsLen (b - a) by rw [Nat.shiftLeft_eq, Nat.one_mul]]
  clear n0 n2 b15
  have g := q_bl a b (a + (b - a) / 4 * 2 - 1) d (UInt64.ofNat (b - a)) h8 hb hB b7 b8
  rw [e0] at g
  refine g _ ?_
  have s1 := breakStep_size a (b - a) (2 ^ Go.Sort.bitsLen (b - a)) (a + (b - a) / 4 * 2 - 1) (UInt64.ofNat (b - a)) d
  generalize Go.Sort.breakStep a (b - a) (2 ^ Go.Sort.bitsLen (b - a)) (UInt64.ofNat (b - a), d) (a + (b - a) / 4 * 2 - 1) = st at *
  obtain ⟨r1, d1⟩ := st
  have s1 : d1.size = d.size := s1
  rw [← s1] at hb hB
  refine q_bl a b _ d1 r1 h8 hb hB b9 b10 _ ?_
  have s2 := breakStep_size a (b - a) (2 ^ Go.Sort.bitsLen (b - a)) (a + (b - a) / 4 * 2 - 1 + 1) r1 d1
  generalize Go.Sort.breakStep a (b - a) (2 ^ Go.Sort.bitsLen (b - a)) (r1, d1) (a + (b - a) / 4 * 2 - 1 + 1) = st at *
  obtain ⟨r2, d2⟩ := st
  have s2 : d2.size = d1.size := s2
  rw [← s2] at hb hB
  refine q_bl a b _ d2 r2 h8 hb hB b11 b12 _ ?_
  refine Ev.succ fun k => ?_
  rw [slices_breakPatternsCmpFunc_restrict_known.l0, bnd, if_neg b13]
theorem breakPatterns_size (a b : Nat) (d : Array S78) : (Go.Sort.breakPatterns d a b).size = d.size := by
  unfold Go.Sort.breakPatterns
  dsimp only
  split
  · unfold Go.Sort.breakStep
    simp only [sSwp]
  · rfl
end Go.Proofs.Ytjfcfljdojkcdaa.C9
