/- Plain lemmas on the printed functions: whole numbers and lists, no program in sight. -/
import Derived.Test.YtjfcfljdojkcdaaSd
import Derived.Laws.BitsLemmas
namespace Go.Proofs.Ytjfcfljdojkcdaa.Q
open Go Go.RowKit Go.Proofs.Ytjfcfljdojkcdaa.Ev
set_option linter.unusedVariables false
set_option linter.unusedSimpArgs false
set_option maxRecDepth 100000
/-! ### where two blocks part -/
theorem sym_l0 (X A B Y : List S26) (hA : Srt A) (hB : Srt B) (hr : room (X ++ A ++ B ++ Y).length) (mid s0 r0 : Nat) (hs0 : X.length ≤ s0) (hr0 : r0 ≤ X.length + A.length) (hr0m : r0 ≤ mid) (hn : mid ≤ s0 + B.length) (hmb : mid ≤ X.length + A.length + B.length) (res : List S26) :
    ∀ (d s r : Nat), r - s = d → s0 ≤ s → s ≤ r → r ≤ r0 →
      (∀ x ∈ A.take (s - X.length), ∀ y ∈ B.drop (mid - s), leR x y = true) → (∀ x ∈ A.drop (r - X.length), ∀ y ∈ B.take (mid - r), leR x y = false) →
      (∀ e, s0 ≤ e → e ≤ r0 → (∀ x ∈ A.take (e - X.length), ∀ y ∈ B.drop (mid - e), leR x y = true) → (∀ x ∈ A.drop (e - X.length), ∀ y ∈ B.take (mid - e), leR x y = false) →
        Ev (fun k => slices_symMergeCmpFunc_api_Rule.l0 k (X.length : Int) ((X.length + A.length : Nat) : Int) ((X.length + A.length + B.length : Nat) : Int) (mid : Int) ((mid + (X.length + A.length) : Nat) : Int) (e : Int) (e : Int) ((mid + (X.length + A.length) - 1 : Nat) : Int) (X ++ A ++ B ++ Y)) res) →
      Ev (fun k => slices_symMergeCmpFunc_api_Rule.l0 k (X.length : Int) ((X.length + A.length : Nat) : Int) ((X.length + A.length + B.length : Nat) : Int) (mid : Int) ((mid + (X.length + A.length) : Nat) : Int) (s : Int) (r : Int) ((mid + (X.length + A.length) - 1 : Nat) : Int) (X ++ A ++ B ++ Y)) res := by
  intro d
  induction d using Nat.strongRecOn with
  | ind d ih =>
    intro s r hd h0 hsr hr1 hlo hhi fin
    by_cases c : s = r
    · subst c
      exact fin s h0 hr1 hlo hhi
    · have hN : X.length + A.length + B.length ≤ 1000000000000 := by
        clear ih hlo hhi fin
        unfold room at hr; simp only [List.length_append] at hr; omega
      obtain ⟨h, hh⟩ : ∃ h, h = (s + r) / 2 := ⟨_, rfl⟩
      have hh1 : s ≤ h ∧ h < r := by clear hN; omega
      obtain ⟨u, hu⟩ : ∃ u, h = X.length + u := ⟨h - X.length, by clear hN; omega⟩
      obtain ⟨v, hv⟩ : ∃ v, mid = h + 1 + v := ⟨mid - (h + 1), by clear hN; omega⟩
      have huA : u < A.length := by clear hN; omega
      have hvB : v < B.length := by clear hN; omega
      have hb1 : s + r ≤ 4000000000000 := by omega
      have hb2 : h + 1 ≤ 4000000000000 := by omega
      have hb3 : mid + (X.length + A.length) - 1 ≤ 4000000000000 := by omega
      clear hN
      have hq : mid + (X.length + A.length) - 1 = h + ((X ++ A).length + v) := by simp only [List.length_append]; omega
      have hl1 : (X ++ A).length + v < (X ++ A ++ B ++ Y).length := by simp only [List.length_append]; omega
      have hl0 : h < (X ++ A ++ B ++ Y).length := by simp only [List.length_append]; omega
      have hi : (s : Int) < (r : Int) := Int.ofNat_lt.2 (by omega)
      have e1 : h + 1 - X.length = u + 1 := by omega
      have e2 : mid - (h + 1) = v := by omega
      have e3 : h - X.length = u := by omega
      have e4 : mid - h = v + 1 := by omega
      have i1 : r - (h + 1) < d := by omega
      have i2 : h - s < d := by omega
      have i3 : s0 ≤ h + 1 := by omega
      have i4 : h + 1 ≤ r := by omega
      have i5 : h ≤ r0 := by omega
      have st : ∀ k, slices_symMergeCmpFunc_api_Rule.l0 (k + 1) (X.length : Int) ((X.length + A.length : Nat) : Int) ((X.length + A.length + B.length : Nat) : Int) (mid : Int) ((mid + (X.length + A.length) : Nat) : Int) (s : Int) (r : Int) ((mid + (X.length + A.length) - 1 : Nat) : Int) (X ++ A ++ B ++ Y) = (restrict_Sort_2.f k B[v].f0 B[v].f1 B[v].f2 A[u].f0 A[u].f1 A[u].f2).bind fun t0 => if ¬ (t0 < 0) then slices_symMergeCmpFunc_api_Rule.l0 k (X.length : Int) ((X.length + A.length : Nat) : Int) ((X.length + A.length + B.length : Nat) : Int) (mid : Int) ((mid + (X.length + A.length) : Nat) : Int) ((h + 1 : Nat) : Int) (r : Int) ((mid + (X.length + A.length) - 1 : Nat) : Int) (X ++ A ++ B ++ Y) else slices_symMergeCmpFunc_api_Rule.l0 k (X.length : Int) ((X.length + A.length : Nat) : Int) ((X.length + A.length + B.length : Nat) : Int) (mid : Int) ((mid + (X.length + A.length) : Nat) : Int) (s : Int) (h : Int) ((mid + (X.length + A.length) - 1 : Nat) : Int) (X ++ A ++ B ++ Y) := by
        intro k
        have hmid : wrap64 ((IntKind.u64.wrap (wrap64 ((s : Int) + (r : Int)))) / 2) = (h : Int) := by
          rw [midv _ _ hb1, ← hh]
        have hw1 : wrap64 ((h : Int) + 1) = ((h + 1 : Nat) : Int) := wadd h 1 hb2
        have hw2 : wrap64 (((mid + (X.length + A.length) - 1 : Nat) : Int) - (h : Int)) = (((X ++ A).length + v : Nat) : Int) := wsubv _ _ _ hq hb3
        have r0 : rdOf z_S26 (X ++ A ++ B ++ Y) (h : Int) = A[u] := by
          have e : X ++ A ++ B ++ Y = X ++ A ++ (B ++ Y) := by simp
          rw [e]; exact rdseg X A (B ++ Y) u huA _ (by rw [hu])
        have r1 : rdOf z_S26 (X ++ A ++ B ++ Y) (((X ++ A).length + v : Nat) : Int) = B[v] := rdseg (X ++ A) B Y v hvB _ rfl
        clear ih hlo hhi hr fin hb1 hb2 hb3
        generalize X ++ A ++ B ++ Y = D at *
        have l1 : (((X ++ A).length + v : Nat) : Int) < (D.length : Int) := Int.ofNat_lt.2 hl1
        have l0 : (h : Int) < (D.length : Int) := Int.ofNat_lt.2 hl0
        rw [slices_symMergeCmpFunc_api_Rule.l0, if_pos hi, hmid, hw2, if_pos (Int.natCast_nonneg _), if_pos l1, if_pos (Int.natCast_nonneg _), if_pos l0, r0, r1, hw1]
      clear hb1 hb2 hb3
      refine Ev.step st ?_
      refine Ev.bind (f := fun k t => _) (ev_cmp B[v] A[u]) ?_
      cases e : leR A[u] B[v] with
      | true =>
        refine Ev.congr (fun k => if_pos (cmp_true e)) ?_
        refine ih (r - (h + 1)) i1 (h + 1) r rfl i3 i4 hr1 ?_ hhi fin
        rw [e1, e2]
        exact fun x hx y hy => ordR.tr _ _ _ (srt_take hA u huA x hx) (ordR.tr _ _ _ e (srt_drop hB v hvB y hy))
      | false =>
        refine Ev.congr (fun k => if_neg (fun n => n (cmp_false e))) ?_
        refine ih (h - s) i2 s h rfl h0 hh1.1 i5 hlo ?_ fin
        rw [e3, e4]
        exact fun x hx y hy => not_le (not_le2 e (srt_drop hA u huA x hx)) (srt_take hB v hvB y hy)
theorem mg_len (A B : List S26) : (List.merge A B leR).length = A.length + B.length := by
  rw [(mg_perm (le := leR) A B).length_eq, List.length_append]
theorem ev_symMerge : ∀ (N : Nat) (X A B Y : List S26), A.length + B.length = N → 0 < A.length → 0 < B.length → Srt A → Srt B → room (X ++ A ++ B ++ Y).length →
    Ev (fun k => slices_symMergeCmpFunc_api_Rule.f k (X.length : Int) ((X.length + A.length : Nat) : Int) ((X.length + A.length + B.length : Nat) : Int) (X ++ A ++ B ++ Y)) (X ++ List.merge A B leR ++ Y) := by
  intro N
  induction N using Nat.strongRecOn with
  | ind N ih =>
    intro X A B Y hN hA0 hB0 hA hB hr
    have hN1 : X.length + A.length + B.length ≤ 1000000000000 := by
      clear ih
      unfold room at hr; simp only [List.length_append] at hr; omega
    have ba : X.length + A.length ≤ 4000000000000 := by omega
    have bb : X.length + A.length + B.length ≤ 4000000000000 := by omega
    have bm : X.length + (X.length + A.length + B.length) ≤ 4000000000000 := by omega
    have bn : (X.length + (X.length + A.length + B.length)) / 2 + (X.length + A.length) ≤ 4000000000000 := by omega
    clear hN1
    have hwa : wrap64 (((X.length + A.length : Nat) : Int) - (X.length : Int)) = (A.length : Int) := wsubv _ _ _ rfl ba
    have hwb : wrap64 (((X.length + A.length + B.length : Nat) : Int) - ((X.length + A.length : Nat) : Int)) = (B.length : Int) := wsubv _ _ _ rfl bb
    by_cases c1 : A.length = 1
    · obtain ⟨x, rfl⟩ : ∃ x, A = [x] := List.length_eq_one_iff.1 c1
      have st : ∀ k, slices_symMergeCmpFunc_api_Rule.f (k + 1) (X.length : Int) ((X.length + [x].length : Nat) : Int) ((X.length + [x].length + B.length : Nat) : Int) (X ++ [x] ++ B ++ Y) = slices_symMergeCmpFunc_api_Rule.l3 k (X.length : Int) ((X.length + [x].length : Nat) : Int) ((X.length + [x].length + B.length : Nat) : Int) (X ++ [x] ++ B ++ Y) := fun k => by
        rw [slices_symMergeCmpFunc_api_Rule.f, hwa, if_pos (show (([x] : List S26).length : Int) = 1 from rfl)]
      clear hwa hwb ba bb bm bn
      refine Ev.step st ?_
      have e : X ++ [x] ++ B ++ Y = X ++ x :: (B ++ Y) := by simp
      have g := l3_val X B Y x hB (by rw [← e]; exact hr) _ 0 B.length rfl (by omega) (by omega) (by simp) (by simp)
      rw [e]
      exact g
    by_cases c2 : B.length = 1
    · obtain ⟨y, rfl⟩ : ∃ y, B = [y] := List.length_eq_one_iff.1 c2
      have n1 : ¬ (A.length : Int) = 1 := fun h => c1 (Int.ofNat.inj h)
      have st : ∀ k, slices_symMergeCmpFunc_api_Rule.f (k + 1) (X.length : Int) ((X.length + A.length : Nat) : Int) ((X.length + A.length + [y].length : Nat) : Int) (X ++ A ++ [y] ++ Y) = slices_symMergeCmpFunc_api_Rule.l1 k ((X.length + A.length : Nat) : Int) (X.length : Int) ((X.length + A.length : Nat) : Int) (X ++ A ++ [y] ++ Y) := fun k => by
        rw [slices_symMergeCmpFunc_api_Rule.f, hwa, if_neg n1, hwb, if_pos (show (([y] : List S26).length : Int) = 1 from rfl)]
      clear hwa hwb ba bb bm bn
      refine Ev.step st ?_
      have e : X ++ A ++ [y] ++ Y = X ++ A ++ y :: Y := by simp
      have g := l1_val X A Y y hA (by rw [← e]; exact hr) _ 0 A.length rfl (by omega) (by omega) (by simp) (by simp)
      rw [e]
      exact g
    obtain ⟨mid, hm⟩ : ∃ mid, mid = (X.length + (X.length + A.length + B.length)) / 2 := ⟨_, rfl⟩
    have n1 : ¬ (A.length : Int) = 1 := fun h => c1 (Int.ofNat.inj h)
    have n2 : ¬ (B.length : Int) = 1 := fun h => c2 (Int.ofNat.inj h)
    have st1 : X.length + A.length > mid → ∀ k, slices_symMergeCmpFunc_api_Rule.f (k + 2) (X.length : Int) ((X.length + A.length : Nat) : Int) ((X.length + A.length + B.length : Nat) : Int) (X ++ A ++ B ++ Y) = slices_symMergeCmpFunc_api_Rule.l0 k (X.length : Int) ((X.length + A.length : Nat) : Int) ((X.length + A.length + B.length : Nat) : Int) (mid : Int) ((mid + (X.length + A.length) : Nat) : Int) ((mid - B.length : Nat) : Int) (mid : Int) ((mid + (X.length + A.length) - 1 : Nat) : Int) (X ++ A ++ B ++ Y) := by
      intro cm k
      have q1 : mid + (X.length + A.length) = X.length + A.length + B.length + (mid - B.length) := by clear ba bb bm bn hwa hwb; omega
      have q2 : 1 ≤ mid + (X.length + A.length) := by clear ba bb bm bn hwa hwb; omega
      rw [← hm] at bn
      have hmid : wrap64 ((IntKind.u64.wrap (wrap64 ((X.length : Int) + ((X.length + A.length + B.length : Nat) : Int)))) / 2) = (mid : Int) := by
        rw [midv _ _ bm, ← hm]
      have hwn : wrap64 ((mid : Int) + ((X.length + A.length : Nat) : Int)) = ((mid + (X.length + A.length) : Nat) : Int) := wadd _ _ bn
      have hwp : wrap64 (((mid + (X.length + A.length) : Nat) : Int) - 1) = ((mid + (X.length + A.length) - 1 : Nat) : Int) := wsub _ 1 q2 bn
      have hs0 : wrap64 (((mid + (X.length + A.length) : Nat) : Int) - ((X.length + A.length + B.length : Nat) : Int)) = ((mid - B.length : Nat) : Int) := wsubv _ _ _ q1 bn
      have cm' : ((X.length + A.length : Nat) : Int) > (mid : Int) := Int.ofNat_lt.2 cm
      rw [slices_symMergeCmpFunc_api_Rule.f, hwa, if_neg n1, hwb, if_neg n2, hmid, if_pos cm', hwn, hs0, slices_symMergeCmpFunc_api_Rule.j0, hwp]
    have st2 : ¬ X.length + A.length > mid → ∀ k, slices_symMergeCmpFunc_api_Rule.f (k + 2) (X.length : Int) ((X.length + A.length : Nat) : Int) ((X.length + A.length + B.length : Nat) : Int) (X ++ A ++ B ++ Y) = slices_symMergeCmpFunc_api_Rule.l0 k (X.length : Int) ((X.length + A.length : Nat) : Int) ((X.length + A.length + B.length : Nat) : Int) (mid : Int) ((mid + (X.length + A.length) : Nat) : Int) (X.length : Int) ((X.length + A.length : Nat) : Int) ((mid + (X.length + A.length) - 1 : Nat) : Int) (X ++ A ++ B ++ Y) := by
      intro cm k
      have q2 : 1 ≤ mid + (X.length + A.length) := by clear ba bb bm bn hwa hwb; omega
      rw [← hm] at bn
      have hmid : wrap64 ((IntKind.u64.wrap (wrap64 ((X.length : Int) + ((X.length + A.length + B.length : Nat) : Int)))) / 2) = (mid : Int) := by
        rw [midv _ _ bm, ← hm]
      have hwn : wrap64 ((mid : Int) + ((X.length + A.length : Nat) : Int)) = ((mid + (X.length + A.length) : Nat) : Int) := wadd _ _ bn
      have hwp : wrap64 (((mid + (X.length + A.length) : Nat) : Int) - 1) = ((mid + (X.length + A.length) - 1 : Nat) : Int) := wsub _ 1 q2 bn
      have cm' : ¬ ((X.length + A.length : Nat) : Int) > (mid : Int) := fun h => cm (Int.ofNat_lt.1 h)
      rw [slices_symMergeCmpFunc_api_Rule.f, hwa, if_neg n1, hwb, if_neg n2, hmid, if_neg cm', hwn, slices_symMergeCmpFunc_api_Rule.j0, hwp]
    rw [← hm] at bn
    clear hwa hwb ba bb bm n1 n2
    -- what follows the search
    have fin : ∀ e, X.length ≤ e → e ≤ X.length + A.length → e ≤ mid → mid ≤ e + B.length → (∀ x ∈ A.take (e - X.length), ∀ y ∈ B.drop (mid - e), leR x y = true) → (∀ x ∈ A.drop (e - X.length), ∀ y ∈ B.take (mid - e), leR x y = false) →
        Ev (fun k => slices_symMergeCmpFunc_api_Rule.l0 k (X.length : Int) ((X.length + A.length : Nat) : Int) ((X.length + A.length + B.length : Nat) : Int) (mid : Int) ((mid + (X.length + A.length) : Nat) : Int) (e : Int) (e : Int) ((mid + (X.length + A.length) - 1 : Nat) : Int) (X ++ A ++ B ++ Y)) (X ++ List.merge A B leR ++ Y) := by
      intro e he0 he1 he2 he3 h2 h1
      obtain ⟨A1, A2, rfl, hA1⟩ : ∃ A1 A2, A = A1 ++ A2 ∧ A1.length = e - X.length := ⟨A.take (e - X.length), A.drop (e - X.length), (List.take_append_drop _ _).symm, by rw [List.length_take]; omega⟩
      obtain ⟨B1, B2, rfl, hB1⟩ : ∃ B1 B2, B = B1 ++ B2 ∧ B1.length = mid - e := ⟨B.take (mid - e), B.drop (mid - e), (List.take_append_drop _ _).symm, by rw [List.length_take]; omega⟩
      rw [← hA1, ← hB1, List.take_left, List.drop_left] at h1 h2
      have key := mg_split leR _ A1 A2 B1 B2 rfl h1 h2
      rw [key]
      clear st1 st2
      simp only [List.length_append] at hN hA0 hB0 c1 c2 bn hm he1 he3 ⊢
      have sA := List.pairwise_append.1 hA
      have sB := List.pairwise_append.1 hB
      have hmX : X.length < mid := by clear bn; omega
      have hmY : mid < X.length + (A1.length + A2.length) + (B1.length + B2.length) := by clear bn; omega
      have la1 : e = X.length + A1.length := by clear bn; omega
      have lmid : mid = X.length + A1.length + B1.length := by clear bn; omega
      have qe : mid + (X.length + (A1.length + A2.length)) = e + (mid + A2.length) := by clear bn; omega
      have st0 : ∀ k, slices_symMergeCmpFunc_api_Rule.l0 (k + 1) (X.length : Int) ((X.length + (A1.length + A2.length) : Nat) : Int) ((X.length + (A1.length + A2.length) + (B1.length + B2.length) : Nat) : Int) (mid : Int) ((mid + (X.length + (A1.length + A2.length)) : Nat) : Int) (e : Int) (e : Int) ((mid + (X.length + (A1.length + A2.length)) - 1 : Nat) : Int) (X ++ (A1 ++ A2) ++ (B1 ++ B2) ++ Y) = (if (e : Int) < ((X.length + (A1.length + A2.length) : Nat) : Int) then (if ((X.length + (A1.length + A2.length) : Nat) : Int) < ((mid + A2.length : Nat) : Int) then ((slices_rotateCmpFunc_api_Rule.f k (e : Int) ((X.length + (A1.length + A2.length) : Nat) : Int) ((mid + A2.length : Nat) : Int) (X ++ (A1 ++ A2) ++ (B1 ++ B2) ++ Y)).bind fun t1 => (slices_symMergeCmpFunc_api_Rule.j1 k (X.length : Int) ((X.length + (A1.length + A2.length) + (B1.length + B2.length) : Nat) : Int) (mid : Int) (e : Int) ((mid + A2.length : Nat) : Int) t1)) else (slices_symMergeCmpFunc_api_Rule.j1 k (X.length : Int) ((X.length + (A1.length + A2.length) + (B1.length + B2.length) : Nat) : Int) (mid : Int) (e : Int) ((mid + A2.length : Nat) : Int) (X ++ (A1 ++ A2) ++ (B1 ++ B2) ++ Y))) else (slices_symMergeCmpFunc_api_Rule.j1 k (X.length : Int) ((X.length + (A1.length + A2.length) + (B1.length + B2.length) : Nat) : Int) (mid : Int) (e : Int) ((mid + A2.length : Nat) : Int) (X ++ (A1 ++ A2) ++ (B1 ++ B2) ++ Y))) := by
        intro k
        have hwe : wrap64 (((mid + (X.length + (A1.length + A2.length)) : Nat) : Int) - (e : Int)) = ((mid + A2.length : Nat) : Int) := wsubv _ _ _ qe bn
        rw [slices_symMergeCmpFunc_api_Rule.l0, if_neg (Int.lt_irrefl _), hwe]
      clear bn hm he0 he1 he2 he3 h1 h2 hA1 hB1 key qe
      -- the second half
      have half2 : ∀ (Z : List S26) , Z.length = mid → room (Z ++ A2 ++ B2 ++ Y).length → (0 < A2.length → 0 < B2.length → A2.length + B2.length < N) →
          Ev (fun k => if ((mid : Int)) < ((mid + A2.length : Nat) : Int) then (if ((mid + A2.length : Nat) : Int) < ((X.length + (A1.length + A2.length) + (B1.length + B2.length) : Nat) : Int) then ((slices_symMergeCmpFunc_api_Rule.f k (mid : Int) ((mid + A2.length : Nat) : Int) ((X.length + (A1.length + A2.length) + (B1.length + B2.length) : Nat) : Int) (Z ++ A2 ++ B2 ++ Y)).bind fun t3 => some t3) else some (Z ++ A2 ++ B2 ++ Y)) else some (Z ++ A2 ++ B2 ++ Y)) (Z ++ List.merge A2 B2 leR ++ Y) := by
        intro Z hZ hrZ hlt
        by_cases ca : A2.length = 0
        · obtain rfl : A2 = [] := List.length_eq_zero_iff.1 ca
          refine Ev.congr (fun k => if_neg (by simp)) ?_
          rw [mg_nil_left]; simpa using Ev.now (Z ++ B2 ++ Y)
        · by_cases cb : B2.length = 0
          · obtain rfl : B2 = [] := List.length_eq_zero_iff.1 cb
            refine Ev.congr (fun k => by rw [if_pos (by omega), if_neg (by simp only [List.length_nil]; omega)]) ?_
            rw [mg_nil_right]; simpa using Ev.now (Z ++ A2 ++ Y)
          · have g := ih (A2.length + B2.length) (hlt (by omega) (by omega)) Z A2 B2 Y rfl (by omega) (by omega) sA.2.1 sB.2.1 hrZ
            have eb : ((Z.length + A2.length + B2.length : Nat) : Int) = ((X.length + (A1.length + A2.length) + (B1.length + B2.length) : Nat) : Int) := by congr 1; omega
            rw [eb, hZ] at g
            refine Ev.congr (fun k => by rw [if_pos (by omega), if_pos (by omega)]) ?_
            exact Ev.bind (f := fun k t => _) g (Ev.now _)
      have j1 : Ev (fun k => slices_symMergeCmpFunc_api_Rule.j1 k (X.length : Int) ((X.length + (A1.length + A2.length) + (B1.length + B2.length) : Nat) : Int) (mid : Int) (e : Int) ((mid + A2.length : Nat) : Int) (X ++ A1 ++ B1 ++ A2 ++ B2 ++ Y)) (X ++ (List.merge A1 B1 leR ++ List.merge A2 B2 leR) ++ Y) := by
        have rA : room (X ++ A1 ++ B1 ++ (A2 ++ B2 ++ Y)).length := room_of hr (by simp only [List.length_append]; omega)
        have lz : (X ++ List.merge A1 B1 leR).length = mid := by rw [List.length_append, mg_len]; omega
        have rZ : room ((X ++ List.merge A1 B1 leR) ++ A2 ++ B2 ++ Y).length := room_of hr (by simp only [List.length_append, mg_len]; omega)
        have eo : X ++ (List.merge A1 B1 leR ++ List.merge A2 B2 leR) ++ Y = (X ++ List.merge A1 B1 leR) ++ List.merge A2 B2 leR ++ Y := by simp
        rw [eo]
        by_cases ca : A1.length = 0
        · obtain rfl : A1 = [] := List.length_eq_zero_iff.1 ca
          rw [mg_nil_left] at lz rZ ⊢
          have g := half2 (X ++ B1) lz rZ (fun _ _ => by simp only [List.length_nil] at hN lmid; omega)
          refine Ev.step (fun k => by rw [slices_symMergeCmpFunc_api_Rule.j1, if_neg (by simp only [List.length_nil] at la1; omega)]) ?_
          simpa using g
        · by_cases cb : B1.length = 0
          · obtain rfl : B1 = [] := List.length_eq_zero_iff.1 cb
            rw [mg_nil_right] at lz rZ ⊢
            have g := half2 (X ++ A1) lz rZ (fun _ _ => by simp only [List.length_nil] at hN; omega)
            refine Ev.step (fun k => by rw [slices_symMergeCmpFunc_api_Rule.j1, if_pos (by omega), if_neg (by simp only [List.length_nil] at lmid; omega)]) ?_
            simpa using g
          · have g1 := ih (A1.length + B1.length) (by omega) X A1 B1 (A2 ++ B2 ++ Y) rfl (by omega) (by omega) sA.1 sB.1 rA
            have em : ((X.length + A1.length + B1.length : Nat) : Int) = (mid : Int) := by rw [lmid]
            have ee : ((X.length + A1.length : Nat) : Int) = (e : Int) := by rw [la1]
            rw [em, ee] at g1
            have g := half2 (X ++ List.merge A1 B1 leR) lz rZ (fun _ _ => by omega)
            refine Ev.step (fun k => by rw [slices_symMergeCmpFunc_api_Rule.j1, if_pos (by omega), if_pos (by omega)]) ?_
            have eD : X ++ A1 ++ B1 ++ A2 ++ B2 ++ Y = X ++ A1 ++ B1 ++ (A2 ++ B2 ++ Y) := by simp
            rw [eD]
            refine Ev.bind (f := fun k t => _) g1 ?_
            have eZ : X ++ List.merge A1 B1 leR ++ (A2 ++ B2 ++ Y) = (X ++ List.merge A1 B1 leR) ++ A2 ++ B2 ++ Y := by simp
            rw [eZ]
            exact g
      refine Ev.step st0 ?_
      by_cases ca : A2.length = 0
      · obtain rfl : A2 = [] := List.length_eq_zero_iff.1 ca
        refine Ev.congr (fun k => if_neg (by simp only [List.length_nil]; omega)) ?_
        simpa using j1
      · by_cases cb : B1.length = 0
        · obtain rfl : B1 = [] := List.length_eq_zero_iff.1 cb
          refine Ev.congr (fun k => by rw [if_pos (by omega), if_neg (by simp only [List.length_nil] at lmid; omega)]) ?_
          simpa using j1
        · refine Ev.congr (fun k => by rw [if_pos (by omega), if_pos (by omega)]) ?_
          have g := ev_rotate A2 B1 (X ++ A1) (B2 ++ Y) (e : Int) ((X.length + (A1.length + A2.length) : Nat) : Int) ((mid + A2.length : Nat) : Int) (by omega) (by omega) (by rw [la1, List.length_append]) (by simp only [List.length_append]; congr 1; omega) (by simp only [List.length_append]; congr 1; omega) (room_of hr (by simp only [List.length_append]; omega))
          have eD : X ++ (A1 ++ A2) ++ (B1 ++ B2) ++ Y = (X ++ A1) ++ A2 ++ B1 ++ (B2 ++ Y) := by simp
          rw [eD]
          refine Ev.bind (f := fun k t => _) g ?_
          simpa using j1
    clear bn
    have two : ∀ (g f : Nat → Option (List S26)) (r : List S26), (∀ k, g (k + 2) = f k) → Ev f r → Ev g r := fun g f r h ⟨K, hK⟩ => ⟨K + 2, fun k hk => by
      obtain ⟨q, rfl⟩ : ∃ q, k = q + 2 := ⟨k - 2, by omega⟩
      rw [h]; exact hK q (by omega)⟩
    by_cases cm : X.length + A.length > mid
    · refine two _ _ _ (st1 cm) ?_
      clear st1 st2
      refine sym_l0 X A B Y hA hB hr mid (mid - B.length) mid (by omega) (by omega) (by omega) (by omega) (by omega) _ _ (mid - B.length) mid rfl (by omega) (by omega) (by omega) ?_ ?_ (fun e a b => fin e (by omega) (by omega) (by omega) (by omega))
      · have : mid - (mid - B.length) = B.length := by omega
        rw [this, List.drop_length]; simp
      · rw [Nat.sub_self]; simp
    · refine two _ _ _ (st2 cm) ?_
      clear st1 st2
      refine sym_l0 X A B Y hA hB hr mid X.length (X.length + A.length) (by omega) (by omega) (by omega) (by omega) (by omega) _ _ X.length (X.length + A.length) rfl (by omega) (by omega) (by omega) ?_ ?_ (fun e a b => fin e (by omega) (by omega) (by omega) (by omega))
      · rw [Nat.sub_self]; simp
      · rw [Nat.add_sub_cancel_left, List.drop_length]; simp
end Go.Proofs.Ytjfcfljdojkcdaa.Q
