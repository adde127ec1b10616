/- Plain lemmas on the printed functions: whole numbers and lists, no program in sight. -/
import Derived.Test.YtjfcfljdojkcdaaYf
import Derived.Laws.BitsLemmas
import Derived.Laws.Bits64
import Derived.Laws.Bits64b
import Derived.Sort.AssemblyPlain
import Derived.Sort.LotD5
import Derived.Sort.LotD4
namespace Go.Proofs.Ytjfcfljdojkcdaa.C9
open Go Go.RowKit Go.Proofs.Ytjfcfljdojkcdaa.Ev
set_option linter.unusedVariables false
set_option linter.unusedSimpArgs false
set_option maxRecDepth 100000
/-! ### the memory -/
theorem shown_at (m : Nat) : foliotlaw06_shown.f (m + 60) = some true := by kernel_rfl
theorem ev_shown : Ev (fun k => foliotlaw06_shown.f k) true := ⟨60, fun k hk => by
  obtain ⟨m, rfl⟩ : ∃ m, k = m + 60 := ⟨k - 60, by omega⟩
  exact shown_at m⟩
def tE (x : S78) : S95 := ⟨x.f0, x.f1, x.f2, x.f3, x.f4⟩
def tL (x : S78) : S65 := ⟨x.f0, x.f1, x.f2, x.f3, x.f4⟩
structure Inv (c n : Int) (K T : List S78) : Prop where
  perm : K.Perm T
  str : T.Pairwise (fun x y => y.f5 < x.f5)
  adr : T.Pairwise (fun x y => x.f0 ≠ y.f0)
  len : T.length ≤ 32
  ok : ∀ x ∈ T, 1 ≤ x.f5 ∧ x.f5 ≤ n ∧ 0 ≤ x.f4 ∧ x.f4 ≤ 8 * c ∧ 1 ≤ x.f3 ∧ x.f3 ≤ 2147483647
theorem rdS (l : List S78) (i : Nat) (x : S78) (h : i < l.length) : rdOf z_S78 (l.set i x) (i : Int) = x := by
  unfold rdOf
  rw [tnc, List.getD_eq_getElem?_getD, List.getElem?_set_self h]
  rfl
theorem rdG (l : List S78) (i : Nat) (h : i < l.length) : rdOf z_S78 l (i : Int) = l[i] := by simp [rdOf, h]
theorem rdE (l : List S95) (i : Nat) (h : i < l.length) : rdOf z_S95 l (i : Int) = l[i] := by simp [rdOf, h]
theorem rdT (l : List S65) (i : Nat) (h : i < l.length) : rdOf z_S65 l (i : Int) = l[i] := by simp [rdOf, h]
theorem rdP (l : List S37) (i : Nat) (h : i < l.length) : rdOf z_S37 l (i : Int) = l[i] := by simp [rdOf, h]
/-! ### the place of an address -/
theorem idx_l0 (K : List S78) (a : Int) (hK : K.length ≤ 32) : ∀ (d i : Nat), i + d = K.length →
    ((∀ x ∈ K.drop i, x.f0 ≠ a) ∧ Ev (fun k => slices_IndexFunc_restrict_known_restrict_known.l0 k (K.length : Int) (i : Int) K a) (-1, K, a)) ∨
      ∃ (j : Nat) (h : j < K.length), K[j].f0 = a ∧ Ev (fun k => slices_IndexFunc_restrict_known_restrict_known.l0 k (K.length : Int) (i : Int) K a) ((j : Int), K, a)
  | 0, i, hd => by
    refine .inl ⟨?_, Ev.succ fun k => by rw [slices_IndexFunc_restrict_known_restrict_known.l0, if_neg (by omega)]⟩
    rw [List.drop_eq_nil_of_le (by omega)]
    simp
  | d + 1, i, hd => by
    have hi : i < K.length := by omega
    have c1 : (i : Int) < (K.length : Int) := by omega
    have c0 : (0 : Int) ≤ (i : Int) := by omega
    have e1 := rdG K i hi
    have hw := wrap_succ i (by omega)
    by_cases hx : K[i].f0 = a
    · refine .inr ⟨i, hi, hx, Ev.succ fun k => ?_⟩
      rw [slices_IndexFunc_restrict_known_restrict_known.l0, if_pos c1, if_pos c0, if_pos c1, e1, restrict_Memory_Heard_1.f, bsome, decide_eq_true hx, cond_true]
    · have st : ∀ k, slices_IndexFunc_restrict_known_restrict_known.l0 (k + 1) (K.length : Int) (i : Int) K a = slices_IndexFunc_restrict_known_restrict_known.l0 k (K.length : Int) ((i + 1 : Nat) : Int) K a := by
        intro k
        rw [slices_IndexFunc_restrict_known_restrict_known.l0, if_pos c1, if_pos c0, if_pos c1, e1, restrict_Memory_Heard_1.f, bsome, decide_eq_false hx, cond_false, hw]
      rcases idx_l0 K a hK d (i + 1) (by omega) with ⟨h1, h2⟩ | ⟨j, h, h1, h2⟩
      · refine .inl ⟨?_, Ev.step st h2⟩
        rw [List.drop_eq_getElem_cons hi]
        intro x hm
        rcases List.mem_cons.1 hm with rfl | hm
        · exact hx
        · exact h1 x hm
      · exact .inr ⟨j, h, h1, Ev.step st h2⟩
theorem idx_ev (K : List S78) (a : Int) (hK : K.length ≤ 32) :
    ((∀ x ∈ K, x.f0 ≠ a) ∧ Ev (fun k => slices_IndexFunc_restrict_known_restrict_known.f k K a) (-1, K, a)) ∨
      ∃ (j : Nat) (h : j < K.length), K[j].f0 = a ∧ Ev (fun k => slices_IndexFunc_restrict_known_restrict_known.f k K a) ((j : Int), K, a) := by
  have := idx_l0 K a hK K.length 0 (by omega)
  rwa [List.drop_zero] at this
/-! ### the eldest one's place -/
theorem place_l0 (K : List S78) (hK : K.length ≤ 32) (x0 x1 x2 x3 : Int) (y : S78) : ∀ (d i m : Nat) (hm : m < K.length), i + d = K.length → (∀ (q : Nat) (hq : q < K.length), q < i → K[m].f5 ≤ K[q].f5) →
    ∃ (j : Nat) (h : j < K.length), (∀ z ∈ K, K[j].f5 ≤ z.f5) ∧ Ev (fun k => restrict_Memory_place.l0 k (m : Int) (K.length : Int) (i : Int) x0 x1 x2 x3 y.f0 y.f1 y.f2 y.f3 y.f4 y.f5 K) (x0, x1, x2, x3, K.set j y)
  | 0, i, m, hm, hd, hl => by
    refine ⟨m, hm, fun z hz => ?_, Ev.succ fun k => ?_⟩
    · obtain ⟨q, hq, rfl⟩ := List.getElem_of_mem hz
      exact hl q hq (by omega)
    · have c0 : (0 : Int) ≤ (m : Int) := by omega
      have c1 : (m : Int) < (K.length : Int) := by omega
      rw [restrict_Memory_place.l0, if_neg (by omega), if_pos c0, if_pos c1, tnc]
  | d + 1, i, m, hm, hd, hl => by
    have hi : i < K.length := by omega
    have c1 : (i : Int) < (K.length : Int) := by omega
    have c0 : (0 : Int) ≤ (i : Int) := by omega
    have c2 : (m : Int) < (K.length : Int) := by omega
    have c3 : (0 : Int) ≤ (m : Int) := by omega
    have e1 := rdG K i hi
    have e2 := rdG K m hm
    have hw := wrap_succ i (by omega)
    by_cases hx : K[i].f5 < K[m].f5
    · obtain ⟨j, h, h1, h2⟩ := place_l0 K hK x0 x1 x2 x3 y d (i + 1) i hi (by omega) (fun q hq hlt => by
        rcases Nat.lt_or_ge q i with h | h
        · have := hl q hq h; omega
        · have : q = i := by omega
          subst this; omega)
      refine ⟨j, h, h1, Ev.step (fun k => ?_) h2⟩
      rw [restrict_Memory_place.l0, if_pos c1, if_pos c0, if_pos c1, if_pos c3, if_pos c2, e1, e2, if_pos hx, hw]
    · obtain ⟨j, h, h1, h2⟩ := place_l0 K hK x0 x1 x2 x3 y d (i + 1) m hm (by omega) (fun q hq hlt => by
        rcases Nat.lt_or_ge q i with h | h
        · exact hl q hq h
        · have : q = i := by omega
          subst this; omega)
      refine ⟨j, h, h1, Ev.step (fun k => ?_) h2⟩
      rw [restrict_Memory_place.l0, if_pos c1, if_pos c0, if_pos c1, if_pos c3, if_pos c2, e1, e2, if_neg hx, hw]
/-! ### whole numbers -/
def gapU (now last : Int) : Int := IntKind.u64.wrap ((IntKind.u64.wrap now) - (IntKind.u64.wrap last))
theorem gapU_rng (now last : Int) : 0 ≤ gapU now last ∧ gapU now last < 18446744073709551616 := by
  unfold gapU; rw [u64w]; omega
def scU (now : Int) (x : S78) : Int := mx 0 (x.f4 - mn (gapU now x.f2) 1048576)
def updV (fl c mi now n : Int) (x : S78) : Int × S78 :=
  if Go.bits .and .i64 fl 32 = 0 then (0, ⟨x.f0, x.f1, now, mn (x.f3 + 1) 2147483647, mn (scU now x + c) (8 * c), n + 1⟩)
  else if gapU now x.f2 < mi then (1, ⟨x.f0, x.f1, now, mn (x.f3 + 1) 2147483647, scU now x, n + 1⟩)
  else if scU now x + c > 8 * c then (if ¬ Go.bits .and .i64 fl 64 = 0 then (2, ⟨x.f0, x.f1, now, mn (x.f3 + 1) 2147483647, scU now x, n + 1⟩) else (1, ⟨x.f0, x.f1, now, mn (x.f3 + 1) 2147483647, scU now x, n + 1⟩))
  else (0, ⟨x.f0, x.f1, now, mn (x.f3 + 1) 2147483647, scU now x + c, n + 1⟩)
theorem scU_rng (now c : Int) (x : S78) (h0 : 0 ≤ x.f4) (h1 : x.f4 ≤ 8 * c) (hc : 1 ≤ c) : 0 ≤ scU now x ∧ scU now x ≤ 8 * c := by
  have := gapU_rng now x.f2
  unfold scU
  generalize gapU now x.f2 = g at *
  unfold mx mn
  split <;> split at * <;> omega
theorem sub_in (x y : Int) (hx0 : 0 ≤ x) (hx : x ≤ 8192) (hy0 : 0 ≤ y) (hy : y ≤ 1099511627776) : wrap64 (x - y) = x - y := w64_in (by omega) (by omega)
theorem add_in (x y : Int) (hx0 : 0 ≤ x) (hx : x ≤ 9000) (hy0 : 0 ≤ y) (hy : y ≤ 9000) : wrap64 (x + y) = x + y := w64_in (by omega) (by omega)
theorem mul8_in (y : Int) (hy0 : 0 ≤ y) (hy : y ≤ 9000) : wrap64 (8 * y) = 8 * y := w64_in (by omega) (by omega)
theorem mn_rng (x b : Int) (h0 : 0 ≤ x) (hb : 0 ≤ b) : 0 ≤ mn x b ∧ mn x b ≤ b := by unfold mn; split <;> omega
theorem mn_in (x b : Int) (h0 : 0 ≤ x) (hb0 : 0 ≤ b) (hb : b ≤ 1099511627776) : wrap64 (mn x b) = mn x b := by
  have := mn_rng x b h0 hb0
  exact w64_in (by omega) (by omega)
theorem suc_in (x : Int) (h0 : 0 ≤ x) (h1 : x ≤ 900000000000000) : wrap64 (x + 1) = x + 1 := w64_in (by omega) (by omega)
/-! ### one is heard -/
theorem heard_old (K : List S78) (i : Nat) (hi : i < K.length) (hK : K.length ≤ 32) (fl c mi now n a : Int) (hc : 1 ≤ c) (hc2 : c ≤ 1024) (hm : 0 ≤ mi) (hm2 : mi ≤ 1024) (hn : 0 ≤ n) (hn2 : n ≤ 900000000000000)
    (hx : 0 ≤ K[i].f4 ∧ K[i].f4 ≤ 8 * c ∧ 1 ≤ K[i].f3 ∧ K[i].f3 ≤ 2147483647) (he : Ev (fun k => slices_IndexFunc_restrict_known_restrict_known.f k K a) ((i : Int), K, a)) :
    Ev (fun k => restrict_Memory_Heard.j0 k fl c mi now n a K) ((updV fl c mi now n K[i]).1, c, mi, now, n + 1, K.set i (updV fl c mi now n K[i]).2) := by
  have c0 : ¬ ((i : Int) < 0) := by omega
  have c1 : ((0 : Int) ≤ (i : Int)) := by omega
  have c2 : ((i : Int) < (K.length : Int)) := by omega
  have g0 := gapU_rng now K[i].f2
  have s0 := scU_rng now c K[i] hx.1 hx.2.1 hc
  have k1 : mn (gapU now K[i].f2) 1048576 ≥ 0 ∧ mn (gapU now K[i].f2) 1048576 ≤ 1048576 := mn_rng _ _ g0.1 (by decide)
  have w1 := mn_in (gapU now K[i].f2) 1048576 g0.1 (by decide) (by decide)
  have w2 := sub_in K[i].f4 (mn (gapU now K[i].f2) 1048576) hx.1 (by omega) k1.1 (by omega)
  have w3 := suc_in n hn hn2
  have w4 := suc_in K[i].f3 (by omega) (by omega)
  have w5 := add_in (scU now K[i]) c s0.1 (by omega) (by omega) (by omega)
  have w6 := mul8_in c (by omega) (by omega)
  have w7 : IntKind.u64.wrap mi = mi := u64_in hm (by omega)
  have fold1 : IntKind.u64.wrap ((IntKind.u64.wrap now) - (IntKind.u64.wrap K[i].f2)) = gapU now K[i].f2 := rfl
  have fold2 : mx 0 (K[i].f4 - mn (gapU now K[i].f2) 1048576) = scU now K[i] := rfl
  refine Ev.step (fun k => by rw [restrict_Memory_Heard.j0]) ?_
  refine Ev.bind (f := fun k t => _) he ?_
  dsimp only
  simp only [if_neg c0, if_pos c1, if_pos c2, tnc, ltq, rdG K i hi, fold1, w1, w2, fold2, rdS _ i _ hi, List.set_set, w3, w4, w5, w6, w7]
  unfold updV
  split
  · exact Ev.now _
  · split
    · exact Ev.now _
    · split
      · split
        · exact Ev.now _
        · exact Ev.now _
      · exact Ev.now _
theorem heard_new (K : List S78) (hK : K.length ≤ 32) (fl c mi now n a : Int) (hn : 0 ≤ n) (hn2 : n ≤ 900000000000000) (he : Ev (fun k => slices_IndexFunc_restrict_known_restrict_known.f k K a) (-1, K, a)) :
    ∃ K', Ev (fun k => restrict_Memory_Heard.j0 k fl c mi now n a K) (0, c, mi, now, n + 1, K') ∧ ((K.length < 32 ∧ K' = K ++ [⟨a, now, now, 1, c, n + 1⟩]) ∨ (K.length = 32 ∧ ∃ (j : Nat) (h : j < K.length), (∀ z ∈ K, K[j].f5 ≤ z.f5) ∧ K' = K.set j ⟨a, now, now, 1, c, n + 1⟩)) := by
  have w3 := suc_in n hn hn2
  have st : ∀ v, Ev (fun k => (restrict_Memory_place.f k a now now 1 c (n + 1) c mi now (n + 1) K).bind fun t1 => (some ((0 : Int), t1.1, t1.2.1, t1.2.2.1, t1.2.2.2.1, t1.2.2.2.2))) v → Ev (fun k => restrict_Memory_Heard.j0 k fl c mi now n a K) v := by
    intro v hv
    refine Ev.step (fun k => by rw [restrict_Memory_Heard.j0]) ?_
    refine Ev.bind (f := fun k t => _) he ?_
    dsimp only
    simp only [if_pos (show (-1 : Int) < 0 by decide), w3]
    exact hv
  by_cases h : K.length < 32
  · refine ⟨_, st _ (Ev.bind (f := fun k t => _) (a := (c, mi, now, n + 1, K ++ [(⟨a, now, now, 1, c, n + 1⟩ : S78)])) ?_ (Ev.now _)), .inl ⟨h, rfl⟩⟩
    unfold restrict_Memory_place.f
    have h1 : (K.length : Int) < 32 := by omega
    have h2 : (2 * (K.length + ([(⟨a, now, now, 1, c, n + 1⟩ : S78)] : List S78).length) + 200) * 48 ≤ 281474976710656 := by simp only [List.length_cons, List.length_nil]; omega
    simp only [if_pos h1, if_pos h2]
    exact Ev.now _
  · have h32 : K.length = 32 := by omega
    obtain ⟨j, hj, h1, h2⟩ := place_l0 K hK c mi now (n + 1) ⟨a, now, now, 1, c, n + 1⟩ K.length 0 0 (by omega) (by omega) (fun q hq h => by omega)
    refine ⟨_, st _ (Ev.bind (f := fun k t => _) (a := (c, mi, now, n + 1, K.set j (⟨a, now, now, 1, c, n + 1⟩ : S78))) ?_ (Ev.now _)), .inr ⟨h32, j, hj, h1, rfl⟩⟩
    unfold restrict_Memory_place.f
    have h1 : ¬ (K.length : Int) < 32 := by omega
    simp only [if_neg h1]
    exact h2
end Go.Proofs.Ytjfcfljdojkcdaa.C9
