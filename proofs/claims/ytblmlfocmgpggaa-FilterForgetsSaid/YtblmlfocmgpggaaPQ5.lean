/- Plain lemmas on the printed functions: whole numbers, no program in sight. -/
import Derived.Test.YtblmlfocmgpggaaPQ4
import Derived.Test.YtblmlfocmgpggaaPreQx
import Derived.Laws.BitsLemmas
namespace Go.Proofs.Ytblmlfocmgpggaa.Q
open Go Go.RowKit Go.Proofs.Ytblmlfocmgpggaa.Ev
set_option linter.unusedVariables false
set_option linter.unusedSimpArgs false
set_option maxRecDepth 100000
/-! ### the document's filter -/
theorem ref_since (a b : Int) : foliotref02_Since.f a b = some (sinceVal a b) := by
  unfold foliotref02_Since.f foliotref02_Cut.f sinceVal
  obtain ⟨h0, h1⟩ := w64_bd (IntKind.u64.wrap (a - b))
  simp only [bsome]
  generalize wrap64 (IntKind.u64.wrap (a - b)) = x at *
  refine congrArg some ?_
  unfold sat clampTo mx mn
  (repeat' split) <;> omega
theorem ref_grown (x : S27) (hx : XOk x) (now : Int) : Ev (fun k => foliotref09_Grown.f k x.f0 x.f1 x.f2 x.f3 now) (grownVal x now) := by
  unfold foliotref09_Grown.f grownVal driftVal
  have em : mx 0 (sinceVal now x.f3) = mx (sinceVal now x.f3) 0 := by unfold mx; (repeat' split) <;> omega
  have hs := sat_in (wrap64 (IntKind.u64.wrap (now - x.f3)))
  have hm : 0 ≤ mx (sinceVal now x.f3) 0 ∧ mx (sinceVal now x.f3) 0 ≤ 4611686018427387904 := by
    unfold sinceVal mx; split <;> omega
  have hd := sat_in (4222124650 * mx (sinceVal now x.f3) 0 / 281474976710656)
  refine Ev.bind (f := fun k t0 => _) (Ev.const (ref_since now x.f3)) ?_
  rw [em]
  refine Ev.bind (f := fun k t1 => _) (ref_drift 4222124650 _ (by omega) (by omega) (by omega) (by omega)) ?_
  refine Ev.bind (f := fun k t2 => _) (ref_add x.f2 _ hx.c0 hx.c1 (by omega) (by omega)) ?_
  refine Ev.const (congrArg some ?_)
  unfold mx mn
  (repeat' split) <;> omega
theorem ins_skip (x : S27) : ∀ (A B : List S27), (∀ a ∈ A, a.f1 ≤ x.f1) → ins x (A ++ B) = A ++ ins x B
  | [], B, _ => rfl
  | a :: A, B, h => by
    show ins x (a :: (A ++ B)) = a :: (A ++ ins x B)
    rw [ins, if_pos (h a (by simp)), ins_skip x A B (fun b hb => h b (by simp [hb]))]
theorem rs_l1 (l : List S27) (i : Nat) (hi : i < l.length) (hl : l.length ≤ 8) (R : List S27) : ∀ (B A : List S27), A.length + B.length ≤ 8 → (∀ a ∈ A, a.f1 ≤ (l.getD i z_S27).f1) →
    Ev (fun k => foliotref09_sorted.l0 k l ((i + 1 : Nat) : Int) (ins (l.getD i z_S27) (A ++ B))) R → Ev (fun k => foliotref09_sorted.l1 k l (i : Int) (A.length : Int) (A ++ B)) R := by
  have hw : wrap64 ((i : Int) + 1) = ((i + 1 : Nat) : Int) := by rw [w64_in (by omega) (by omega)]; rfl
  have c1 : (0 : Int) ≤ (i : Int) := by omega
  have c2 : (i : Int) < (l.length : Int) := by omega
  intro B
  induction B with
  | nil =>
    intro A hA ha h
    simp only [List.length_nil] at hA
    refine Ev.step (fun k => ?_) h
    have d1 : ((A ++ []).drop 0).take ((A.length : Int) - 0).toNat = A := by simp
    have d2 : ((A ++ []).drop (A.length : Int).toNat).take ((((A ++ []).length : Nat) : Int) - (A.length : Int)).toNat = ([] : List S27) := by simp
    have hlen : (A ++ ([] : List S27)).length = A.length := by simp
    rw [foliotref09_sorted.l1, d1, d2, hlen, rdOf_nat, hw]
    rw [if_neg (by omega), if_pos (by omega), if_pos (by omega), if_pos (by simp; omega), if_pos c1, if_pos c2, if_pos (by simp; omega), if_pos (by omega), if_pos (by omega), if_pos (by omega), if_pos (by simp; omega)]
    rw [ins_skip _ A [] ha]
    simp only [List.append_nil]
    rfl
  | cons b B ih =>
    intro A hA ha h
    simp only [List.length_cons] at hA
    have hlen : (A ++ b :: B).length = A.length + 1 + B.length := by simp; omega
    have r1 : rdOf z_S27 (A ++ b :: B) (A.length : Int) = b := rdOf_mid A b B
    have e1 : wrap64 ((A.length : Int) + 1) = (((A ++ [b]).length : Nat) : Int) := by rw [w64_in (by omega) (by omega)]; simp
    by_cases hc : b.f1 ≤ (l.getD i z_S27).f1
    · have := ih (A ++ [b]) (by simp; omega) (fun a h' => by
        rcases List.mem_append.1 h' with h1 | h1
        · exact ha a h1
        · rw [List.mem_singleton] at h1; rw [h1]; exact hc) (by simpa using h)
      rw [List.append_assoc] at this
      refine Ev.step (fun k => ?_) this
      rw [foliotref09_sorted.l1, r1, rdOf_nat, hlen, e1]
      rw [if_pos (by omega), if_pos (by omega), if_pos (by omega), if_pos c1, if_pos c2, if_pos hc]
      rfl
    · refine Ev.step (fun k => ?_) h
      have d1 : ((A ++ b :: B).drop 0).take ((A.length : Int) - 0).toNat = A := by simp
      have d2 : ((A ++ b :: B).drop (A.length : Int).toNat).take (((A.length + 1 + B.length : Nat) : Int) - (A.length : Int)).toNat = b :: B := by
        rw [Int.toNat_natCast, List.drop_left, List.take_of_length_le (by simp; omega)]
      rw [foliotref09_sorted.l1, hlen, d1, d2, r1, rdOf_nat, hw]
      rw [if_pos (by omega), if_pos (by omega), if_pos (by omega), if_pos c1, if_pos c2, if_neg hc]
      rw [if_pos (by omega), if_pos (by omega), if_pos (by simp; omega), if_pos c1, if_pos c2, if_pos (by simp; omega), if_pos (by omega), if_pos (by omega), if_pos (by omega), if_pos (by simp; omega)]
      rw [ins_skip _ A _ ha, ins, if_neg hc, List.append_assoc]
      rfl
theorem rs_l0 (l : List S27) (hl : l.length ≤ 8) : ∀ (d i : Nat) (A : List S27), i + d = l.length → A.length = i → Ev (fun k => foliotref09_sorted.l0 k l (i : Int) A) ((l.drop i).foldl (fun a x => ins x a) A) := by
  intro d
  induction d with
  | zero =>
    intro i A hi hA
    rw [List.drop_of_length_le (by omega)]
    refine Ev.succ fun k => ?_
    rw [foliotref09_sorted.l0, if_neg (by omega)]
    rfl
  | succ d ih =>
    intro i A hi hA
    have hil : i < l.length := by omega
    have hget : l.getD i z_S27 = l[i] := by rw [List.getD_eq_getElem?_getD, List.getElem?_eq_getElem hil]; rfl
    have h := ih (i + 1) (ins (l.getD i z_S27) A) (by omega) (by rw [(ins_perm _ A).length_eq]; simp [hA])
    rw [List.drop_eq_getElem_cons hil, List.foldl_cons, ← hget]
    refine Ev.step (fun k => ?_) (rs_l1 l i hil hl _ A [] (by simp; omega) (by simp) h)
    rw [foliotref09_sorted.l0, if_pos (by omega)]
    rfl
theorem ref_sorted (l : List S27) (hl : l.length ≤ 8) : Ev (fun k => foliotref09_sorted.f k l) (isort l) := by
  unfold foliotref09_sorted.f isort
  exact rs_l0 l hl l.length 0 [] (by omega) rfl
def newR (told : Bool) (a at_ : Int) : Bool := !told || decide (sinceVal a at_ > 0)
theorem rbest_l1 (told : Bool) (at_ : Int) (L0 : List S27) (b : S27) (t : List S27) (hx : ∀ x ∈ b :: t, XOk x) (hl : t.length ≤ 8) (c0 c1 c2 c3 c4 : Int) (c5 : Bool) (b0 b1 disp b4 j : Int) (hj : Ev (fun k => foliotref01_RMS.f k (t.map (dOf b.f0))) j) :
    ∀ (d i : Nat), i + d = t.length → Ev (fun k => foliotref09_Filter_Best.l1 k ((i + 1 : Nat) : Int) told at_ L0 c0 c1 c2 c3 c4 c5 (b :: t) b0 b1 disp 0 b4 false ((t.take i).map (dOf b.f0))) (b0, b1, disp, mx 4096 j, b4, newR told b4 at_, (told || newR told b4 at_), (bif newR told b4 at_ then b4 else at_), L0) := by
  intro d
  induction d with
  | zero =>
    intro i hi
    rw [List.take_of_length_le (by omega)]
    refine Ev.step (fun k => by rw [foliotref09_Filter_Best.l1, if_neg (by simp; omega)]) ?_
    refine Ev.bind (f := fun k t7 => _) hj ?_
    unfold newR
    cases told with
    | false => exact Ev.now _
    | true =>
      simp only [Bool.not_true, cond_false, Bool.true_or, Bool.false_or]
      refine Ev.bind (f := fun k t8 => _) (Ev.const (ref_since b4 at_)) ?_
      by_cases hc : sinceVal b4 at_ > 0
      · simp only [hc, if_true, decide_true]; exact Ev.now _
      · simp only [hc, if_false, decide_false]; exact Ev.now _
  | succ d ih =>
    intro i hi
    have hil : i < t.length := by omega
    have hget : (b :: t).getD (i + 1) z_S27 = t[i] := by rw [List.getD_eq_getElem?_getD, List.getElem?_cons_succ, List.getElem?_eq_getElem hil]; rfl
    have hw : wrap64 (((i + 1 : Nat) : Int) + 1) = ((i + 1 + 1 : Nat) : Int) := by rw [w64_in (by omega) (by omega)]; rfl
    have hxi : XOk (t[i]) := hx _ (by simp)
    have hxb := hx b (by simp)
    have h := ih (i + 1) (by omega)
    rw [List.take_succ_eq_append_getElem hil, List.map_append] at h
    have hlen : ((t.take i).map (dOf b.f0)).length ≤ 8 := by rw [List.length_map, List.length_take]; omega
    have r0 : rdOf z_S27 (b :: t) 0 = b := rfl
    have c1' : (((i + 1 : Nat) : Int)) < (((b :: t).length : Nat) : Int) := by simp; omega
    generalize (t.take i).map (dOf b.f0) = D at *
    refine Ev.step (fun k => by rw [foliotref09_Filter_Best.l1, if_pos c1', if_pos (by omega), if_pos c1', if_pos (by rw [List.length_cons]; omega), rdOf_nat, hget, r0, hw]) ?_
    refine Ev.bind (f := fun k t6 => _) (ref_sub _ _ hxi.a0 hxi.a1 hxb.a0 hxb.a1) ?_
    refine Ev.congr (fun k => by rw [if_pos (by simp; omega)]) ?_
    exact h
theorem rbest_l0 (told : Bool) (at_ : Int) (L0 : List S27) (b : S27) (t : List S27) (hx : ∀ x ∈ b :: t, XOk x) (hl : (b :: t).length ≤ 8) (now c0 c1 c2 c3 c4 : Int) (c5 : Bool) (b0 b1 b4 j : Int) (hj : Ev (fun k => foliotref01_RMS.f k (t.map (dOf b.f0))) j) :
    ∀ (d i : Nat) (disp : Int), i + d = 8 → (-9223372036854775808 ≤ disp ∧ disp ≤ 9223372036854775807) →
    Ev (fun k => foliotref09_Filter_Best.l0 k now ((i + 1 : Nat) : Int) told at_ L0 c0 c1 c2 c3 c4 c5 (b :: t) b0 b1 disp 0 b4 false) (b0, b1, dispGo now (b :: t) d i disp, mx 4096 j, b4, newR told b4 at_, (told || newR told b4 at_), (bif newR told b4 at_ then b4 else at_), L0) := by
  intro d
  induction d with
  | zero =>
    intro i disp hi _
    refine Ev.step (fun k => by rw [foliotref09_Filter_Best.l0, if_neg (by omega)]) ?_
    exact rbest_l1 told at_ L0 b t hx (by simp at hl; omega) c0 c1 c2 c3 c4 c5 b0 b1 disp b4 j hj t.length 0 (by omega)
  | succ d ih =>
    intro i disp hi hd
    have hw : wrap64 (((i + 1 : Nat) : Int) + 1) = ((i + 1 + 1 : Nat) : Int) := by rw [w64_in (by omega) (by omega)]; rfl
    have hw2 : wrap64 (((i + 1 : Nat) : Int) - 1) = (i : Int) := by rw [w64_in (by omega) (by omega)]; omega
    have hn : wrap64 (-((i + 1 : Nat) : Int)) = -(i : Int) - 1 := by rw [w64_in (by omega) (by omega)]; omega
    have htb := term_bd now (b :: t) i
    have hsh : -4611686018427387904 ≤ shiftVal (termVal now (b :: t) i) (-(i : Int) - 1) ∧ shiftVal (termVal now (b :: t) i) (-(i : Int) - 1) ≤ 4611686018427387904 := by
      unfold shiftVal; split <;> exact sat_in _
    have hs := sat_in (disp + shiftVal (termVal now (b :: t) i) (-(i : Int) - 1))
    have next := ih (i + 1) (sat (disp + shiftVal (termVal now (b :: t) i) (-(i : Int) - 1))) (by omega) (by omega)
    have rsh := ref_shift (termVal now (b :: t) i) (-(i : Int) - 1) (by omega) (by omega) (by omega) (by omega)
    have rad := ref_add disp (shiftVal (termVal now (b :: t) i) (-(i : Int) - 1)) hd.1 hd.2 (by omega) (by omega)
    by_cases hc : i < (b :: t).length
    · have hget : (b :: t).getD i z_S27 = (b :: t)[i] := by rw [List.getD_eq_getElem?_getD, List.getElem?_eq_getElem hc]; rfl
      have hxi : XOk ((b :: t).getD i z_S27) := by rw [hget]; exact hx _ (List.getElem_mem _)
      have ht : termVal now (b :: t) i = grownVal ((b :: t).getD i z_S27) now := by unfold termVal; rw [if_pos hc]
      rw [ht] at rsh rad
      refine Ev.step (fun k => by rw [foliotref09_Filter_Best.l0, if_pos (by omega), if_pos (by omega), hw2, if_pos (by omega), if_pos (by omega), rdOf_nat, hn, hw]) ?_
      refine Ev.bind (f := fun k t1 => _) (ref_grown _ hxi now) ?_
      refine Ev.bind (f := fun k t2 => _) rsh ?_
      refine Ev.bind (f := fun k t3 => _) rad ?_
      rw [ht] at next
      rw [dispGo, ht]
      exact next
    · have ht : termVal now (b :: t) i = 68719476736 := by unfold termVal; rw [if_neg hc]
      rw [ht] at rsh rad next
      refine Ev.step (fun k => by rw [foliotref09_Filter_Best.l0, if_pos (by omega), if_neg (by omega), hn, hw]) ?_
      refine Ev.bind (f := fun k t2 => _) rsh ?_
      refine Ev.bind (f := fun k t3 => _) rad ?_
      rw [dispGo, ht]
      exact next
theorem ref_best (told : Bool) (at_ : Int) (h : List S27) (h8 : h.length ≤ 8) (hx : ∀ x ∈ h, XOk x) (now : Int) {b : S27} {t : List S27} (hb : isort h = b :: t) (j : Int) (hj : Ev (fun k => foliotref01_RMS.f k (t.map (dOf b.f0))) j) :
    Ev (fun k => foliotref09_Filter_Best.f k now told at_ h) (b.f0, b.f1, dispGo now (b :: t) 8 0 0, mx 4096 j, b.f3, newR told b.f3 at_, (told || newR told b.f3 at_), (bif newR told b.f3 at_ then b.f3 else at_), h) := by
  have hlen := isort_len h
  have hxs : ∀ x ∈ b :: t, XOk x := fun x hm => hx x ((isort_perm h).mem_iff.1 (by rw [hb]; exact hm))
  rw [hb] at hlen
  have hl : (b :: t).length ≤ 8 := by omega
  have hpos : 0 < (b :: t).length := by simp
  unfold foliotref09_Filter_Best.f
  refine Ev.congr (fun k => by rw [if_neg (show ¬ (h.length : Int) = 0 by omega)]) ?_
  refine Ev.bind (f := fun k t0 => _) (ref_sorted h h8) ?_
  rw [hb]
  refine Ev.congr (fun k => by rw [if_pos (by omega), if_pos (by omega), if_pos (by omega)]) ?_
  exact rbest_l0 told at_ h b t hxs hl now 0 0 0 0 0 false b.f0 b.f1 b.f3 j hj 8 0 0 (by omega) (by omega)
/-- Both tell the same middle. -/
theorem rms_both (t : List S27) (b0 : Int) : ∃ j, Ev (fun k => fixed_RMS.f k (t.map (dOf b0))) j ∧ Ev (fun k => foliotref01_RMS.f k (t.map (dOf b0))) j := by
  have hb : ∀ x ∈ t.map (dOf b0), -9223372036854775808 ≤ x ∧ x ≤ 9223372036854775807 := fun x hx => by
    obtain ⟨y, _, rfl⟩ := List.mem_map.1 hx
    have := sat_in (y.f0 - b0)
    unfold dOf; omega
  rcases ev_rms _ hb with ⟨e, h⟩ | ⟨e, q, h, hr⟩
  · rcases ref_rms _ hb with ⟨e', h'⟩ | ⟨e', _⟩
    · exact ⟨_, h, h'⟩
    · exact absurd e e'
  · rcases ref_rms _ hb with ⟨e', _⟩ | ⟨e', q', h', hr'⟩
    · exact absurd e' e
    · obtain rfl := hr.uniq hr'
      exact ⟨_, h, h'⟩
theorem mx_swap (a b : Int) : mx a b = mx b a := by
  unfold mx; (repeat' split) <;> omega
/-- What both filters are: h, the newest first. -/
structure Two (s : FS) (h : List S27) (told : Bool) (at_ : Int) : Prop where
  ok : s.Ok h
  tl : s.told = told
  al : told = true → s.at_ = at_
  x : ∀ x ∈ h, XOk x
theorem two_best {s : FS} {h : List S27} {told : Bool} {at_ : Int} (tw : Two s h told at_) (now : Int) : ∃ (o d p j a : Int) (n : Bool) (s' : FS) (told' : Bool) (at' : Int),
    Ev (fun k => filter_Filter_Best.f k now s.r0.f0 s.r0.f1 s.r0.f2 s.r0.f3 s.r1.f0 s.r1.f1 s.r1.f2 s.r1.f3 s.r2.f0 s.r2.f1 s.r2.f2 s.r2.f3 s.r3.f0 s.r3.f1 s.r3.f2 s.r3.f3 s.r4.f0 s.r4.f1 s.r4.f2 s.r4.f3 s.r5.f0 s.r5.f1 s.r5.f2 s.r5.f3 s.r6.f0 s.r6.f1 s.r6.f2 s.r6.f3 s.r7.f0 s.r7.f1 s.r7.f2 s.r7.f3 s.n s.m s.told s.at_) (o, d, p, j, a, n, (s').r0.f0, (s').r0.f1, (s').r0.f2, (s').r0.f3, (s').r1.f0, (s').r1.f1, (s').r1.f2, (s').r1.f3, (s').r2.f0, (s').r2.f1, (s').r2.f2, (s').r2.f3, (s').r3.f0, (s').r3.f1, (s').r3.f2, (s').r3.f3, (s').r4.f0, (s').r4.f1, (s').r4.f2, (s').r4.f3, (s').r5.f0, (s').r5.f1, (s').r5.f2, (s').r5.f3, (s').r6.f0, (s').r6.f1, (s').r6.f2, (s').r6.f3, (s').r7.f0, (s').r7.f1, (s').r7.f2, (s').r7.f3, (s').n, (s').m, (s').told, (s').at_) ∧ Ev (fun k => foliotref09_Filter_Best.f k now told at_ h) (o, d, p, j, a, n, told', at', h) ∧ Two s' h told' at' := by
  obtain ⟨ok, e1, e2, hx⟩ := tw
  cases hb : isort h with
  | nil =>
    have hh : h = [] := by have := isort_len h; rw [hb] at this; exact List.length_eq_zero_iff.1 this.symm
    subst hh
    refine ⟨0, 0, 68719476736, 0, 0, false, s, told, at_, ev_best_nil ok now, ?_, ⟨ok, e1, e2, hx⟩⟩
    unfold foliotref09_Filter_Best.f
    exact Ev.now _
  | cons b t =>
    obtain ⟨j, hj, hj'⟩ := rms_both t b.f0
    have en : newOf s b.f3 = newR told b.f3 at_ := by
      unfold newOf newR
      rw [e1]
      cases told with
      | false => rfl
      | true => rw [e2 rfl]
    refine ⟨_, _, _, _, _, _, s.tell b.f3 (newOf s b.f3), (told || newOf s b.f3), (bif newOf s b.f3 then b.f3 else at_), ev_best ok hx now hb j hj, ?_, ⟨ok.tell _ _, ?_, ?_, hx⟩⟩
    · have := ref_best told at_ h ok.2.2.2.1 hx now hb j hj'
      rw [mx_swap, ← en] at this
      exact this
    · show (bif newOf s b.f3 then true else s.told) = _
      rw [e1]
      cases newOf s b.f3 <;> simp
    · intro h1
      show (bif newOf s b.f3 then b.f3 else s.at_) = _
      cases hn : newOf s b.f3 with
      | true => rfl
      | false =>
        rw [hn] at h1
        simp only [cond_false]
        exact e2 (by simpa using h1)
theorem ref_fadd (x0 x1 x2 x3 : Int) (told : Bool) (at_ : Int) (h : List S27) (h8 : h.length ≤ 8) : foliotref09_Filter_Add.f x0 x1 x2 x3 told at_ h = some (told, at_, h, ((⟨x0, x1, x2, x3⟩ : S27) :: h).take 8) := by
  unfold foliotref09_Filter_Add.f
  have hl : (([(⟨x0, x1, x2, x3⟩ : S27)] : List S27) ++ h).length = h.length + 1 := by simp
  rw [if_pos (by simp), if_pos (by simp; omega), hl]
  have e : mn ((h.length + 1 : Nat) : Int) 8 = ((min (h.length + 1) 8 : Nat) : Int) := by unfold mn; split <;> omega
  rw [e, if_pos (by omega), if_pos (by omega)]
  rw [show ((((min (h.length + 1) 8 : Nat) : Int)) - 0).toNat = min (h.length + 1) 8 from by omega]
  rcases Nat.le_total (h.length + 1) 8 with c | c
  · rw [Nat.min_eq_left c, ← hl, List.take_length, List.take_of_length_le (by simp; omega)]; rfl
  · rw [Nat.min_eq_right c]; rfl
theorem Two.add {s : FS} {h : List S27} {told : Bool} {at_ : Int} (tw : Two s h told at_) {x : S27} (hx : XOk x) : Two (s.add x) ((x :: h).take 8) told at_ :=
  ⟨tw.ok.add x, (add_told s x).1.trans tw.tl, fun h => (add_told s x).2.trans (tw.al h), hist_ok tw.x hx⟩
theorem two_new : Two FS.new [] false 0 := ⟨FS.new_ok, rfl, (fun h => by cases h), by simp⟩
theorem same_l0 (l : List S27) (hl : l.length ≤ 8) : ∀ (d i : Nat), i + d = l.length → Ev (fun k => foliotlaw09_same.l0 k l l (i : Int)) true := by
  intro d
  induction d with
  | zero =>
    intro i hi
    refine Ev.succ fun k => ?_
    rw [foliotlaw09_same.l0, if_neg (by omega)]
  | succ d ih =>
    intro i hi
    have hw : wrap64 ((i : Int) + 1) = ((i + 1 : Nat) : Int) := by rw [w64_in (by omega) (by omega)]; rfl
    refine Ev.step (fun k => ?_) (ih (i + 1) (by omega))
    rw [foliotlaw09_same.l0, if_pos (by omega), if_pos (by omega), if_pos (by omega), if_pos (by omega), if_pos (by omega), if_neg (fun h => h ⟨rfl, rfl, rfl, rfl⟩), hw]
theorem ev_same (l : List S27) (hl : l.length ≤ 8) : Ev (fun k => foliotlaw09_same.f k l l) true := by
  unfold foliotlaw09_same.f
  refine Ev.congr (fun k => by rw [if_neg (fun h => h rfl)]) ?_
  exact same_l0 l hl l.length 0 (by omega)
end Go.Proofs.Ytblmlfocmgpggaa.Q
