/- The evaluator's slices with a capacity, appends of a row's own parts in place, elements that are cleared and copied, each sound. -/
import Derived.Test.YtjfcfljdojkcdaaEvX
namespace Go.Proofs.Ytjfcfljdojkcdaa.Ev
open Go Go.RowKit
set_option linter.unusedVariables false
set_option linter.unusedSimpArgs false
section
variable {R : Ro} {P : Program} {X : Type}
/-! ### Slices with a capacity -/
theorem bound3_ok {x : Value} {k : IntKind} {i : Int} {y : Nat} (hx : x = .int k i) (h0 : 0 ≤ i) (h1 : i ≤ y) (code : BoundsCode) (w : World) : (Instr.sliceBound x y code).run P w = .ok i.toNat w := bound_ok hx h0 h1 code w
theorem bounds3_ok {ρ : Ow} {w : World} {lo : Option (Tv R.D)} {vlo : Option Value} {vhi vmx : Value} {kb kx : IntKind} {len cap : Nat} {a b x : Int} (hlo : ivOf lo 0 = some a) (hhi : vhi = .int kb b) (hmx : vmx = .int kx x) (h1 : ∀ v, lo = some v → ∃ u, vlo = some u ∧ IsT R ρ w v u) (h1' : lo = none → vlo = none)
    (ha : 0 ≤ a) (hab : a ≤ b) (hbx : b ≤ x) (hx : x ≤ cap) (isS : Bool) : (Instr.sliceBounds isS len cap vlo (some vhi) (some vmx)).run P w = .ok (a.toNat, b.toNat, x.toNat) w := by
  have hM : (Instr.sliceBound vmx cap (if isS = true then BoundsCode.slice3Acap else .slice3Alen)).run P w = .ok x.toNat w := bound_ok hmx (by omega) hx _ w
  have hH : (Instr.sliceBound vhi x.toNat .slice3B).run P w = .ok b.toNat w := bound_ok hhi (by omega) (by omega) _ w
  have hL : (match vlo with | some v => Instr.sliceBound v b.toNat (if (some vmx : Option Value).isSome = true then BoundsCode.slice3C else .sliceB) | none => (pure 0 : Sem Nat)).run P w = .ok a.toNat w := by
    cases lo with
    | none =>
      rw [h1' rfl]
      simp only [ivOf, Option.some.injEq] at hlo
      subst hlo
      simp
    | some v =>
      obtain ⟨u, rfl, hu⟩ := h1 v rfl
      unfold ivOf at hlo
      split at hlo
      · rename_i heq; cases heq
      · rename_i n heq
        cases heq
        cases hlo
        obtain ⟨rfl, _⟩ := is_int hu
        exact bound_ok rfl ha (by omega) _ w
      · cases hlo
  unfold Instr.sliceBounds
  simp only [Sem.run_bind]
  rw [hM]
  simp only [Result.andThen_ok]
  rw [hH]
  simp only [Result.andThen_ok]
  cases vlo with
  | none =>
    simp only [Sem.run_pure, Result.ok.injEq] at hL
    simp only [Sem.run_bind, Sem.run_pure, Result.andThen_ok, hL.1]
  | some z =>
    simp only [Sem.run_bind] at hL ⊢
    rw [hL]
    rfl
theorem sliceAt_slice3 {t e : TypeId} {el : Nat} {b : Bool} (hu : P.underlying t = some (.slice e)) (hti : tiF P e = some (el, b)) {a : Option Addr} {len cap x y z : Nat} {vlo vhi vmx : Option Value} {w : World} (hb : (Instr.sliceBounds true len cap vlo vhi vmx).run P w = .ok (x, y, z) w) :
    (Instr.sliceAt t (.slice a len cap) vlo vhi vmx).run P w = .ok (.slice (if z = x then a else a.map (·.add (x * el))) (y - x) (z - x)) w := by
  unfold Instr.sliceAt
  simp only [Sem.run_bind, run_underlying hu, Result.andThen_ok]
  unfold Instr.slice
  simp only [Sem.run_bind, run_underlying hu, Result.andThen_ok, hb, (tiF_run hti w).1, Sem.run_pure]
def evSlice3 (R : Ro) (tab : Nat → Option TI) (t : TypeId) (v : Tv R.D) (lo : Option (Tv R.D)) (hi mx : Tv R.D) (m : List (Ent R.D)) (K : Tv R.D → Option X) : Option X :=
  match tab t with
  | some ti => match Nat.beq ti.kd 3 with
    | true => match ivOf lo 0 with
      | some a => match hi with
        | .lf (.v (.int _ b)) => match mx with
          | .lf (.v (.int _ x)) => match v with
            | .lf (.row c h) => match Nat.beq ti.el (R.sz c) with
              | true => match rowLen m c h with
                | some ln => if 0 ≤ a then (if a ≤ b then (if b ≤ x then (if x = (ln : Int) then K (.lf (.sl c h a.toNat (b - a).toNat)) else none) else none) else none) else none
                | none => none
              | false => none
            | .lf (.sl c h o n) => match Nat.beq ti.el (R.sz c) with
              | true => match rowLen m c h with
                | some ln => if 0 ≤ a then (if a ≤ b then (if b ≤ x then (if x ≤ (n : Int) ∧ (o : Int) + x = (ln : Int) then K (.lf (.sl c h (o + a.toNat) (b - a).toNat)) else none) else none) else none) else none
                | none => none
              | false => none
            | .lf (.ro c l) => if a = 0 then (if b = (l.length : Int) then (if x = (l.length : Int) then K (.lf (.full c l)) else none) else none) else none
            | _ => none
          | _ => none
        | _ => none
      | none => none
    | false => none
  | none => none
theorem evSlice3_ok {tab : Nat → Option TI} (ht : TabOk P tab) {t : TypeId} {v : Tv R.D} {lo : Option (Tv R.D)} {hi mx : Tv R.D} {m : List (Ent R.D)} {K : Tv R.D → Option X} {x : X} (h : evSlice3 R tab t v lo hi mx m K = some x) :
    ∃ r, K r = some x ∧ ∀ ρ w (u : Value) (vlo : Option Value) (vhi vmx : Value), Rel R ρ m w → IsT R ρ w v u → (∀ v, lo = some v → ∃ u, vlo = some u ∧ IsT R ρ w v u) → (lo = none → vlo = none) → IsT R ρ w hi vhi → IsT R ρ w mx vmx →
      ∃ q, (Instr.sliceAt t u vlo (some vhi) (some vmx)).run P w = .ok q w ∧ IsT R ρ w r q := by
  unfold evSlice3 at h
  split at h
  case h_2 => exact none_some h
  rename_i ti hti
  split at h
  case h_2 => exact none_some h
  rename_i hk
  obtain ⟨e, hu, htf⟩ := tiOf_slice (ht _ _ hti) (Nat.eq_of_beq_eq_true hk)
  split at h
  case h_2 => exact none_some h
  rename_i a ha
  split at h
  case h_2 => exact none_some h
  rename_i kb b
  split at h
  case h_2 => exact none_some h
  rename_i kx y
  split at h
  · rename_i c hh
    split at h
    case h_2 => exact none_some h
    rename_i hel
    have hel := Nat.eq_of_beq_eq_true hel
    split at h
    case h_2 => exact none_some h
    rename_i ln hrow
    obtain ⟨l, et, hm, rfl⟩ := rowLen_ok hrow
    split at h
    case isFalse => exact none_some h
    rename_i h0
    split at h
    case isFalse => exact none_some h
    rename_i h1
    split at h
    case isFalse => exact none_some h
    rename_i h2
    split at h
    case isFalse => exact none_some h
    rename_i h3
    refine ⟨_, h, fun ρ w u vlo vhi vmx hr hp l1 l2 l3 l4 => ?_⟩
    obtain ⟨e3, _⟩ := is_int l3
    obtain ⟨e4, _⟩ := is_int l4
    rcases hr.row hm with ⟨b0, cap, len, hq, _, rfl, k1, k2, us, zs, hw, hau, k3⟩ | ⟨hq, rfl⟩
    · cases hp with
      | rnil _ _ a' hb' => rw [hq] at hb'; cases hb'
      | row _ _ b' cap' len' hb' =>
        rw [hq] at hb'
        cases hb'
        refine ⟨_, sliceAt_slice3 hu htf (bounds3_ok ha e3 e4 l1 l2 h0 h1 h2 (by omega) true), ?_⟩
        rw [show b.toNat - a.toNat = (b - a).toNat by omega]
        refine Is.sl c hh _ _ _ _ (by omega) (by omega) ?_
        by_cases hca : y.toNat = a.toNat
        · exact .inl ⟨by omega, fun e => ⟨_, hq, by show l.length = 0; omega⟩⟩
        · rw [if_neg hca]
          refine .inr ⟨b0, cap, _, hq, by omega, by omega, ?_, by omega⟩
          simp only [Option.map_some, add_at, hel, Nat.zero_add]
    · cases hp with
      | row _ _ b' cap' len' hb' => rw [hq] at hb'; cases hb'
      | rnil _ _ a' hb' =>
        have e5 : y = 0 := by simpa using h3
        have e1 : a = 0 := by omega
        have e2 : b = 0 := by omega
        subst e1
        subst e2
        subst e5
        refine ⟨_, sliceAt_slice3 hu htf (bounds3_ok ha e3 e4 l1 l2 (by omega) (by omega) (by omega) (by omega) true), ?_⟩
        exact Is.sl c hh _ _ _ _ (by omega) (by omega) (.inl ⟨rfl, fun _ => ⟨_, hq, trivial⟩⟩)
  · rename_i c hh o n
    split at h
    case h_2 => exact none_some h
    rename_i hel
    have hel := Nat.eq_of_beq_eq_true hel
    split at h
    case h_2 => exact none_some h
    rename_i ln hrow
    obtain ⟨l, et, hm, rfl⟩ := rowLen_ok hrow
    split at h
    case isFalse => exact none_some h
    rename_i h0
    split at h
    case isFalse => exact none_some h
    rename_i h1
    split at h
    case isFalse => exact none_some h
    rename_i h2
    split at h
    case isFalse => exact none_some h
    rename_i h3
    obtain ⟨h3, h4⟩ := h3
    refine ⟨_, h, fun ρ w u vlo vhi vmx hr hp l1 l2 l3 l4 => ?_⟩
    obtain ⟨e3, _⟩ := is_int l3
    obtain ⟨e4, _⟩ := is_int l4
    cases hp with
    | sl _ _ _ _ a0 k hk' hL hbb =>
    refine ⟨_, sliceAt_slice3 hu htf (bounds3_ok ha e3 e4 l1 l2 h0 h1 h2 (by omega) true), ?_⟩
    rw [show b.toNat - a.toNat = (b - a).toNat by omega]
    refine Is.sl c hh _ _ _ _ (by omega) (by omega) ?_
    rcases hbb with ⟨rfl, hk0⟩ | ⟨b0, cap, len, hq, k1, k2, rfl, hk1⟩
    · exact .inl ⟨by omega, fun e => hk0 (by omega)⟩
    · have hlen : l.length = len := by
        rcases hr.row hm with ⟨b1, cap1, len1, hq1, _, g1, _⟩ | ⟨hq1, rfl⟩
        · rw [hq] at hq1; cases hq1; exact g1
        · rw [hq] at hq1; cases hq1
      by_cases hca : y.toNat = a.toNat
      · exact .inl ⟨by omega, fun e => ⟨_, hq, by show _ = 0; omega⟩⟩
      · rw [if_neg hca]
        refine .inr ⟨b0, cap, len, hq, by omega, by omega, ?_, by omega⟩
        simp only [Option.map_some, add_at, hel, Nat.add_mul]
  · rename_i c l
    split at h
    case isFalse => exact none_some h
    rename_i h0
    split at h
    case isFalse => exact none_some h
    rename_i h1
    split at h
    case isFalse => exact none_some h
    rename_i h2
    refine ⟨_, h, fun ρ w u vlo vhi vmx hr hp l1 l2 l3 l4 => ?_⟩
    obtain ⟨e3, _⟩ := is_int l3
    obtain ⟨e4, _⟩ := is_int l4
    subst h0
    subst h1
    subst h2
    have go : ∀ (a0 : Option Addr) (cap : Nat), u = .slice a0 l.length cap → l.length ≤ cap → (∀ a1 : Option Addr, (a1 = a0 ∨ l = []) → Is R ρ w (.ro c l) (.slice a1 l.length l.length)) → ∃ q, (Instr.sliceAt t u vlo (some vhi) (some vmx)).run P w = .ok q w ∧ IsT R ρ w (.lf (.full c l)) q := by
      intro a0 cap e hc hi
      subst e
      refine ⟨_, sliceAt_slice3 hu htf (bounds3_ok ha e3 e4 l1 l2 (by omega) (by omega) (by omega) (by omega) true), ?_⟩
      rw [show ((l.length : Int).toNat - (0 : Int).toNat) = l.length by omega]
      refine Is.full c l _ (hi _ ?_)
      by_cases h : (l.length : Int).toNat = (0 : Int).toNat
      · exact .inr (List.length_eq_zero_iff.1 (by omega))
      · rw [if_neg h]
        left
        cases a0 with
        | none => rfl
        | some a0 => simp [Addr.add]
    cases hp with
    | nil _ a0 cap => exact go a0 cap rfl (by simp) fun a1 _ => Is.nil c a1 _
    | ro _ _ b0 o0 cap f hL hl hb hn hc hv =>
      refine go _ cap rfl hl fun a1 h1 => ?_
      rcases h1 with h1 | h1
      · rw [h1]
        exact Is.ro c l b0 o0 _ f hL (Nat.le_refl _) hb hn hc hv
      · subst h1
        exact Is.nil c a1 _
  · exact none_some h

/-! ### Elements of a row that are written -/
theorem row_put {ρ : Ow} {m : List (Ent R.D)} {w w' : World} (hr : Rel R ρ m w) {h c b cap len : Nat} {l l' : List (R.D c)} {e : TypeId} (hq : ρ.r[h]? = some (.row b cap len)) (hm : m[h]? = some (.row c l e)) {o : Nat} {news : List Value} (hnews : All2 (Is R ρ w) (encs R c l') news) (hin : o + l'.length ≤ l.length)
    {cs : List Value} (hw : w.heap[b]? = some (.cells cs.toArray e (0, 0))) (hput : Put w w' b (cs.take (o * R.sz c) ++ news ++ cs.drop (o * R.sz c + news.length)) e) :
    Go R ρ m w ρ (m.set h (.row c (l.take o ++ l' ++ l.drop (o + l'.length)) e)) w' ∧ Rel R ρ (m.set h (.row c (l.take o ++ l' ++ l.drop (o + l'.length)) e)) w' := by
  rcases hr.row hm with ⟨b', cap', len', hq', hheld, rfl, h2, h3, us, zs, hw', ha, h4⟩ | ⟨hq', _⟩
  case inr => rw [hq'] at hq; cases hq
  rw [hq'] at hq
  cases hq
  rw [hw'] at hw
  have hcs : us ++ zs = cs := by
    have := Option.some.inj hw
    injection this with h1 _ _
    exact List.toArray_inj h1
  subst hcs
  have hus : us.length = l.length * R.sz c := by rw [← ha.length, encs_len]
  have hnl : news.length = l'.length * R.sz c := by rw [← hnews.length, encs_len]
  have hle : (o + l'.length) * R.sz c ≤ us.length := by rw [hus]; exact Nat.mul_le_mul_right _ hin
  rw [Nat.add_mul] at hle
  have hrow : (us ++ zs).take (o * R.sz c) ++ news ++ (us ++ zs).drop (o * R.sz c + news.length) = (us.take (o * R.sz c) ++ news ++ us.drop (o * R.sz c + news.length)) ++ zs := by
    rw [List.take_append_of_le_length (by omega), List.drop_append_of_le_length (by omega)]
    simp only [List.append_assoc]
  rw [hrow] at hput
  refine hr.turn (w' := w') hq' hm trivial (b := b) rfl hput.os hput.tape hput.output hput.size hput.far (e := .row c (l.take o ++ l' ++ l.drop (o + l'.length)) e) fun hf => ?_
  have hlen : (l.take o ++ l' ++ l.drop (o + l'.length)).length = l.length := by simp; omega
  refine ⟨hlen, h2, h3, _, zs, hput.at_, ?_, ?_⟩
  · rw [encs_app, encs_app, encs_take, encs_drop, Nat.add_mul, ← hnl]
    exact (((ha.take _).append hnews).append (ha.drop _)).imp fun _ _ h' => h'.keep hf hr.fits (Le.refl ρ w)
  · have : (us.take (o * R.sz c) ++ news ++ us.drop (o * R.sz c + news.length)).length = us.length := by
      simp only [List.length_append, List.length_take, List.length_drop]
      omega
    rw [this]
    exact h4
theorem set_same {ρ : Ow} {m : List (Ent R.D)} {w : World} (hr : Rel R ρ m w) {h : Nat} {e e' : Ent R.D} (hm : m[h]? = some e) (he : e' = e) : Go R ρ m w ρ (m.set h e') w ∧ Rel R ρ (m.set h e') w := by
  have : m.set h e' = m := by
    subst he
    apply List.ext_getElem?
    intro j
    by_cases hj : h = j
    · subst hj
      rw [List.getElem?_set_self (List.getElem?_eq_some_iff.1 hm).1, hm]
    · rw [List.getElem?_set_ne hj]
  rw [this]
  exact ⟨Go.refl ρ m w, hr⟩
/-- An append to a part of a row, from its beginning, of another part of that row: in place. -/
def evAppendI (tab : Nat → Option TI) (ts : List TypeId) (c h n o' n' : Nat) (m : List (Ent R.D)) (K : Tv R.D → List (Ent R.D) → Option X) : Option X :=
  match ts with
  | [t, tx] => match tab t with
    | some ti => match Nat.beq ti.kd 3 with
      | true => match tab tx with
        | some xi => match Nat.beq xi.kd 3 with
          | true => match tab ti.elt with
            | some ei => match elemOk R ei c with
              | true => match rowE m c ti.elt h with
                | some l => if n + n' ≤ l.length then K (.lf (.sl c h 0 (n + n'))) (m.set h (.row c (l.take n ++ (l.drop o').take n' ++ l.drop (n + n')) ti.elt)) else none
                | none => none
              | false => none
            | none => none
          | false => none
        | none => none
      | false => none
    | none => none
  | _ => none
theorem srcOf_sl {m : List (Ent R.D)} {c h o n : Nat} {l : List (R.D c)} {e : TypeId} (hm : m[h]? = some (.row c l e)) : srcOf m c (.lf (.sl c h o n)) = some ((l.drop o).take n) := by
  have hb : Nat.beq c c = true := Nat.beq_refl c
  unfold srcOf
  simp only [hm]
  split
  · split
    · rename_i h1 h2
      rfl
    · rename_i h1 h2; rw [hb] at h2; cases h2
  · rename_i h1; rw [hb] at h1; cases h1
theorem evAppendI_ok {tab : Nat → Option TI} (ht : TabOk P tab) {ts : List TypeId} {c h n o' n' : Nat} {m : List (Ent R.D)} {K : Tv R.D → List (Ent R.D) → Option X} {x : X} (ty : TypeId) (hK : evAppendI tab ts c h n o' n' m K = some x) :
    ∃ r m', K r m' = some x ∧ ∀ (ρ : Ow) (w : World) (us : List Value), Rel R ρ m w → All2 (IsT R ρ w) [.lf (.sl c h 0 n), .lf (.sl c h o' n')] us → ∃ q w' ρ', (Builtin.append_ ts.toArray ty us.toArray).run P w = .ok q w' ∧ Go R ρ m w ρ' m' w' ∧ Rel R ρ' m' w' ∧ IsT R ρ' w' r q := by
  unfold evAppendI at hK
  split at hK
  case h_2 => exact none_some hK
  rename_i t tx
  split at hK
  case h_2 => exact none_some hK
  rename_i ti hti
  split at hK
  case h_2 => exact none_some hK
  rename_i hk
  obtain ⟨hu, _⟩ := tiOf_sliceE (ht _ _ hti) (Nat.eq_of_beq_eq_true hk)
  split at hK
  case h_2 => exact none_some hK
  rename_i xi hxi
  split at hK
  case h_2 => exact none_some hK
  rename_i hxk
  obtain ⟨e', hxu, _⟩ := tiOf_slice (ht _ _ hxi) (Nat.eq_of_beq_eq_true hxk)
  split at hK
  case h_2 => exact none_some hK
  rename_i ei hei
  split at hK
  case h_2 => exact none_some hK
  rename_i hel
  obtain ⟨i, z, hi, hz, hsz, hzl, hby, _⟩ := elemOk_ok (ht _ _ hei) hel
  split at hK
  case h_2 => exact none_some hK
  rename_i l hrow
  have hm := rowE_ok hrow
  split at hK
  case isFalse => exact none_some hK
  rename_i hle
  refine ⟨_, _, hK, fun ρ w us hr ha => ?_⟩
  cases ha with
  | cons h0 h1 =>
  cases h1 with
  | cons h2 h3 =>
  cases h3
  have hsrc0 := srcOf_ok (srcOf_sl hm) hr h2
  obtain ⟨news, hsrc, hnews⟩ := hsrc0.src (P := P) hxu
  rw [← hsz] at hsrc
  have hln : ((l.drop o').take n').length = n' := by
    obtain ⟨a1, cap1, us1, e1, _⟩ := hsrc0
    cases h2 with
    | sl _ _ _ _ a2 k2 _ _ _ =>
      injection e1 with _ e2 _
      exact e2.symm
  have hs := Apps.ofSrc (ty := ty) (z := z) hu hi hz hsrc
  cases h0 with
  | sl _ _ _ _ a k hkk hL hb =>
  rcases hb with ⟨rfl, hk0⟩ | ⟨b, cap, len, hq, k1, k2, rfl, hk1⟩
  · obtain ⟨q, hq, hq0⟩ := hk0 rfl
    have hl0 : l = [] := by
      rcases hr.row hm with ⟨b, cap, len, hq', _, rfl, _⟩ | ⟨hq', rfl⟩
      · rw [hq] at hq'; cases hq'
        exact List.length_eq_zero_iff.1 hq0
      · rfl
    subst hl0
    have hn0 : n = 0 := by omega
    have hn0' : n' = 0 := by simpa using hln.symm
    subst hn0
    subst hn0'
    have hrun := hs.nothing (by simp) a
    obtain ⟨g1, g2⟩ := set_same hr hm (e' := .row c (([] : List (R.D c)).take 0 ++ (([] : List (R.D c)).drop o').take 0 ++ ([] : List (R.D c)).drop (0 + 0)) ti.elt) (by simp)
    exact ⟨_, w, ρ, hrun, g1, g2, Is.sl c h 0 0 a 0 (by omega) (by omega) (.inl ⟨rfl, fun _ => ⟨q, hq, hq0⟩⟩)⟩
  · rcases hr.row hm with ⟨b', cap', len', hq', _, rfl, g1, g2, us, zs, hw, ha, g3⟩ | ⟨hq', rfl⟩
    case inr => rw [hq] at hq'; cases hq'
    rw [hq'] at hq
    cases hq
    have hus : us.length = l.length * i.size := by rw [← ha.length, encs_len, hsz]
    have hnl := hs.newsLen
    rw [hln] at hnl
    have hroom : n * i.size + news.length ≤ (us ++ zs).length := by
      rw [hnl, ← Nat.add_mul, List.length_append, hus]
      have : (n + n') * i.size ≤ l.length * i.size := Nat.mul_le_mul_right _ hle
      omega
    obtain ⟨w', hrun, hput⟩ := hs.room (b := b) (sLen := n) (sCap := k) (by rw [hln]; omega) hw hroom
    rw [hsz] at hput
    obtain ⟨g4, g5⟩ := row_put hr hq' hm hnews (by rw [hln]; exact hle) hw hput
    rw [hln] at g4 g5 hrun
    refine ⟨_, w', ρ, by simpa using hrun, g4, g5, ?_⟩
    exact Is.sl c h 0 (n + n') _ k (by omega) (by omega) (.inr ⟨b, cap, _, hq', by omega, by omega, by simp, by omega⟩)

/-! ### clear, copy -/
theorem clear_run {t e : TypeId} {i : TypeInfo} {z : Value} (hu : P.underlying t = some (.slice e)) (hi : P.info? e = some i) (hz : i.zero = some z) (ts : List TypeId) (ty : TypeId) (a : Addr) (n k : Nat) (hn : n ≠ 0) (w : World) :
    (Builtin.clear_ (t :: ts).toArray ty #[.slice (some a) n k]).run P w = ((storeCells a (Builtin.zeroCells z.cells n).toList).run P w).andThen fun _ w' => .ok (.tuple #[]) w' := by
  cases n with
  | zero => exact absurd rfl hn
  | succ n => simp [Builtin.clear_, run_underlying hu, zeroValue, typeInfo, hi, hz]
theorem clear_run0 {t e : TypeId} (hu : P.underlying t = some (.slice e)) (ts : List TypeId) (ty : TypeId) (a : Option Addr) (k : Nat) (w : World) :
    (Builtin.clear_ (t :: ts).toArray ty #[.slice a 0 k]).run P w = .ok (.tuple #[]) w := by
  cases a <;> simp [Builtin.clear_, run_underlying hu]
def evClear (code : TypeId → Option (RoT R)) (tab : Nat → Option TI) (ts : List TypeId) (args : List (Tv R.D)) (m : List (Ent R.D)) (K : Tv R.D → List (Ent R.D) → Option X) : Option X :=
  match ts with
  | t :: _ => match args with
    | [.lf (.sl c h o n)] => match tab t with
      | some ti => match Nat.beq ti.kd 3 with
        | true => match tab ti.elt with
          | some ei => match code ti.elt with
            | some oc => match Nat.beq c oc.c with
              | true => match elemOk R ei oc.c with
                | true => match ei.zero.all okV with
                  | true => match decO oc (ei.zero.map .v) with
                    | some x0 => match rowE m oc.c ti.elt h with
                      | some l => K (.tup []) (m.set h (.row oc.c (l.take o ++ List.replicate n x0 ++ l.drop (o + n)) ti.elt))
                      | none => none
                    | none => none
                  | false => none
                | false => none
              | false => none
            | none => none
          | none => none
        | false => none
      | none => none
    | _ => none
  | _ => none
theorem evClear_ok {code : TypeId → Option (RoT R)} {tab : Nat → Option TI} (ht : TabOk P tab) {ts : List TypeId} {args : List (Tv R.D)} {m : List (Ent R.D)} {K : Tv R.D → List (Ent R.D) → Option X} {x : X} (ty : TypeId) (h : evClear code tab ts args m K = some x) :
    ∃ r m', K r m' = some x ∧ ∀ (ρ : Ow) (w : World) (us : List Value), Rel R ρ m w → All2 (IsT R ρ w) args us → ∃ q w' ρ', (Builtin.clear_ ts.toArray ty us.toArray).run P w = .ok q w' ∧ Go R ρ m w ρ' m' w' ∧ Rel R ρ' m' w' ∧ IsT R ρ' w' r q := by
  unfold evClear at h
  split at h
  case h_2 => exact none_some h
  rename_i t tl
  split at h
  case h_2 => exact none_some h
  rename_i c hh o n
  split at h
  case h_2 => exact none_some h
  rename_i ti hti
  split at h
  case h_2 => exact none_some h
  rename_i hk
  obtain ⟨hu, _⟩ := tiOf_sliceE (ht _ _ hti) (Nat.eq_of_beq_eq_true hk)
  split at h
  case h_2 => exact none_some h
  rename_i ei hei
  split at h
  case h_2 => exact none_some h
  rename_i oc hoc
  split at h
  case h_2 => exact none_some h
  rename_i hc
  have hc := Nat.eq_of_beq_eq_true hc
  subst hc
  split at h
  case h_2 => exact none_some h
  rename_i hel
  obtain ⟨i, z, hi, hz, hsz, hzl, hby, hzz⟩ := elemOk_ok (ht _ _ hei) hel
  split at h
  case h_2 => exact none_some h
  rename_i hall
  split at h
  case h_2 => exact none_some h
  rename_i x0 hx0
  split at h
  case h_2 => exact none_some h
  rename_i l hrow
  have hm := rowE_ok hrow
  refine ⟨_, _, h, fun ρ w us hr ha => ?_⟩
  cases ha with
  | cons h0 h1 =>
  cases h1
  have hz0 : All2 (Is R ρ w) (R.enc oc.c x0) ei.zero := rf_is (decO_ok hx0) (all2_vs _ hall)
  have hnil : n = 0 → (l.take o ++ List.replicate n x0 ++ l.drop (o + n)) = l := fun e => by subst e; simp
  cases h0 with
  | sl _ _ _ _ a k hkk hL hb =>
  by_cases hn : n = 0
  · obtain ⟨g1, g2⟩ := set_same hr hm (e' := .row oc.c (l.take o ++ List.replicate n x0 ++ l.drop (o + n)) ti.elt) (by rw [hnil hn])
    subst hn
    exact ⟨_, w, ρ, clear_run0 hu _ _ _ _ _, g1, g2, [], rfl, .nil⟩
  · rcases hb with ⟨rfl, hk0⟩ | ⟨b, cap, len, hq, k1, k2, rfl, hk1⟩
    · exact absurd (by omega) hn
    · rcases hr.row hm with ⟨b', cap', len', hq', _, rfl, g1, g2, us, zs, hw, hau, g3⟩ | ⟨hq', rfl⟩
      case inr => rw [hq] at hq'; cases hq'
      rw [hq'] at hq
      cases hq
      have hzc : (Builtin.zeroCells z.cells n).toList = repL n ei.zero := by
        have := zeros_rep z.cells n
        rw [← hzz]
        exact this
      have hzlen : ei.zero.length = R.sz oc.c := by rw [← hz0.length, R.len]
      have hnews : All2 (Is R ρ w) (encs R oc.c (List.replicate n x0)) (repL n ei.zero) := by
        rw [encs_rep]
        exact all2_rep hz0 n
      have hus : us.length = l.length * R.sz oc.c := by rw [← hau.length, encs_len]
      have hfit : o * R.sz oc.c + 0 + (repL n ei.zero).length ≤ (us ++ zs).length := by
        rw [repL_len, hzlen, Nat.add_zero, ← Nat.add_mul, List.length_append, hus]
        have : (o + n) * R.sz oc.c ≤ l.length * R.sz oc.c := Nat.mul_le_mul_right _ k1
        omega
      obtain ⟨w', hrun, hput⟩ := run_storeCells (P := P) (repL n ei.zero) (w := w) (b := b) (o := o * R.sz oc.c) (us := us ++ zs) (t := ti.elt) 0 hw (all2_one hnews) hfit
      rw [Nat.add_zero] at hput
      obtain ⟨g4, g5⟩ := row_put hr hq' hm hnews (by rw [List.length_replicate]; exact k1) hw hput
      rw [List.length_replicate] at g4 g5
      refine ⟨_, w', ρ, ?_, g4, g5, [], rfl, .nil⟩
      have := clear_run (P := P) hu hi hz tl ty ⟨b, o * R.sz oc.c, none⟩ n k hn w
      rw [hzc, hrun] at this
      exact this
theorem copy_run {t e : TypeId} {i : TypeInfo} (hu : P.underlying t = some (.slice e)) (hi : P.info? e = some i) (ts : List TypeId) (ty : TypeId) (a : Option Addr) (n k : Nat) {x : Value} {sl : Nat} {w : World} (hl : (Builtin.lenOf x).run P w = .ok sl w) {cs : List Value} (hc : (Builtin.firstCells i.size (Nat.min sl n) x).run P w = .ok cs.toArray w) :
    (Builtin.copy_ (t :: ts).toArray ty #[.slice a n k, x]).run P w = (match a with | some a => ((storeCells a cs).run P w).andThen fun _ w' => .ok (goInt (Nat.min sl n)) w' | none => .ok (goInt (Nat.min sl n)) w) := by
  cases a <;> simp [Builtin.copy_, run_underlying hu, sizeOf, typeInfo, hi, hl, hc]
def evCopy (tab : Nat → Option TI) (ts : List TypeId) (args : List (Tv R.D)) (m : List (Ent R.D)) (K : Tv R.D → List (Ent R.D) → Option X) : Option X :=
  match ts with
  | t :: _ => match args with
    | [.lf (.sl c h o n), x] => match tab t with
      | some ti => match Nat.beq ti.kd 3 with
        | true => match tab ti.elt with
          | some ei => match elemOk R ei c with
            | true => match rowE m c ti.elt h with
              | some l => match srcOf m c x with
                | some l' => K (.lf (.v (.int .i64 ((Nat.min l'.length n : Nat) : Int)))) (m.set h (.row c (l.take o ++ l'.take n ++ l.drop (o + Nat.min l'.length n)) ti.elt))
                | none => none
              | none => none
            | false => none
          | none => none
        | false => none
      | none => none
    | _ => none
  | _ => none
theorem Holds.first {ρ : Ow} {w : World} {c : Nat} {l : List (R.D c)} {u : Value} (h : Holds R ρ w c l u) (n : Nat) {sz : Nat} (hsz : sz = R.sz c) : (Builtin.lenOf u).run P w = .ok l.length w ∧ ∃ cs : List Value, (Builtin.firstCells sz (Nat.min l.length n) u).run P w = .ok cs.toArray w ∧ All2 (Is R ρ w) (encs R c (l.take n)) cs := by
  obtain ⟨a, cap, us, rfl, h1, h2, ha, hs⟩ := h
  refine ⟨by simp [Builtin.lenOf], us.take (n * R.sz c), ?_, by rw [encs_take]; exact ha.take _⟩
  have hus : us.length = l.length * R.sz c := by rw [← ha.length, encs_len]
  have hlen : (us.take (n * R.sz c)).length = Nat.min l.length n * sz := by
    rw [List.length_take, hus, hsz]
    show min (n * R.sz c) (l.length * R.sz c) = min l.length n * R.sz c
    rw [Nat.min_comm, ← Nat.mul_min_mul_right]
  rcases hs with rfl | ⟨b, o, rfl, hc⟩
  · have : us = [] := List.length_eq_zero_iff.1 (by simpa using hus)
    subst this
    cases a with
    | none => simpa using run_firstCells_none (P := P) (w := w) sz (Nat.min 0 n) 0 cap
    | some a => exact run_firstCells_some (P := P) (w := w) sz _ a _ cap _ hlen (by simp)
  · refine run_firstCells_some (P := P) (w := w) sz _ _ _ cap _ hlen fun j v hj => ?_
    rw [add_at]
    rw [List.getElem?_take] at hj
    split at hj
    · exact hc j v hj
    · cases hj
theorem evCopy_ok {tab : Nat → Option TI} (ht : TabOk P tab) {ts : List TypeId} {args : List (Tv R.D)} {m : List (Ent R.D)} {K : Tv R.D → List (Ent R.D) → Option X} {x : X} (ty : TypeId) (h : evCopy tab ts args m K = some x) :
    ∃ r m', K r m' = some x ∧ ∀ (ρ : Ow) (w : World) (us : List Value), Rel R ρ m w → All2 (IsT R ρ w) args us → ∃ q w' ρ', (Builtin.copy_ ts.toArray ty us.toArray).run P w = .ok q w' ∧ Go R ρ m w ρ' m' w' ∧ Rel R ρ' m' w' ∧ IsT R ρ' w' r q := by
  unfold evCopy at h
  split at h
  case h_2 => exact none_some h
  rename_i t tl
  split at h
  case h_2 => exact none_some h
  rename_i c hh o n xv
  split at h
  case h_2 => exact none_some h
  rename_i ti hti
  split at h
  case h_2 => exact none_some h
  rename_i hk
  obtain ⟨hu, _⟩ := tiOf_sliceE (ht _ _ hti) (Nat.eq_of_beq_eq_true hk)
  split at h
  case h_2 => exact none_some h
  rename_i ei hei
  split at h
  case h_2 => exact none_some h
  rename_i hel
  obtain ⟨i, z, hi, hz, hsz, hzl, hby, hzz⟩ := elemOk_ok (ht _ _ hei) hel
  split at h
  case h_2 => exact none_some h
  rename_i l hrow
  have hm := rowE_ok hrow
  split at h
  case h_2 => exact none_some h
  rename_i l' hl'
  refine ⟨_, _, h, fun ρ w us hr ha => ?_⟩
  cases ha with
  | cons h0 h1 =>
  cases h1 with
  | @cons _ xu _ _ h2 h3 =>
  cases h3
  have hhold := srcOf_ok hl' hr h2
  obtain ⟨hlen, cs, hcs, hnews⟩ := hhold.first (P := P) n hsz
  have htl : (l'.take n).length = Nat.min l'.length n := by rw [List.length_take]; exact Nat.min_comm _ _
  have hbound : Nat.min l'.length n ≤ 9223372036854775807 := by
    obtain ⟨_, _, _, _, _, hb, _⟩ := hhold
    exact Nat.le_trans (Nat.min_le_left _ _) hb
  have hint : ∀ ρ' w', IsT R ρ' w' (.lf (.v (.int .i64 ((Nat.min l'.length n : Nat) : Int)))) (goInt (Nat.min l'.length n)) := fun ρ' w' => Is.v _ (wf_nat hbound)
  cases h0 with
  | sl _ _ _ _ a k hkk hL hb =>
  have hrun := copy_run (P := P) hu hi tl ty a n k hlen hcs
  by_cases hn : Nat.min l'.length n = 0
  · have hcs0 : cs = [] := by
      have := hnews.length
      rw [encs_len, htl, hn] at this
      exact List.length_eq_zero_iff.1 (by omega)
    subst hcs0
    have ht0 : l'.take n = [] := List.length_eq_zero_iff.1 (by rw [htl, hn])
    obtain ⟨g1, g2⟩ := set_same hr hm (e' := .row c (l.take o ++ l'.take n ++ l.drop (o + Nat.min l'.length n)) ti.elt) (by rw [ht0, hn]; simp)
    refine ⟨_, w, ρ, ?_, g1, g2, hint ρ w⟩
    cases a <;> simpa [storeCells] using hrun
  · have hn1 : Nat.min l'.length n ≤ n := Nat.min_le_right _ _
    rcases hb with ⟨rfl, hk0⟩ | ⟨b, cap, len, hq, k1, k2, rfl, hk1⟩
    · exact absurd (by omega) hn
    · rcases hr.row hm with ⟨b', cap', len', hq', _, rfl, g1, g2, us, zs, hw, hau, g3⟩ | ⟨hq', rfl⟩
      case inr => rw [hq] at hq'; cases hq'
      rw [hq'] at hq
      cases hq
      have hus : us.length = l.length * R.sz c := by rw [← hau.length, encs_len]
      have hcl : cs.length = Nat.min l'.length n * R.sz c := by rw [← hnews.length, encs_len, htl]
      have hfit : o * R.sz c + 0 + cs.length ≤ (us ++ zs).length := by
        rw [hcl, Nat.add_zero, ← Nat.add_mul, List.length_append, hus]
        have : (o + Nat.min l'.length n) * R.sz c ≤ l.length * R.sz c := Nat.mul_le_mul_right _ (by omega)
        omega
      obtain ⟨w', hst, hput⟩ := run_storeCells (P := P) cs (w := w) (b := b) (o := o * R.sz c) (us := us ++ zs) (t := ti.elt) 0 hw (all2_one hnews) hfit
      rw [Nat.add_zero] at hput
      obtain ⟨g4, g5⟩ := row_put hr hq' hm hnews (by rw [htl]; omega) hw hput
      rw [htl] at g4 g5
      refine ⟨_, w', ρ, ?_, g4, g5, hint ρ w'⟩
      refine hrun.trans ?_
      show ((storeCells ⟨b, o * R.sz c, none⟩ cs).run P w).andThen _ = _
      rw [hst]
      rfl
/-! ### Builtins that write -/
def selfA : List (Tv R.D) → Option (Nat × Nat × Nat × Nat × Nat)
  | [.lf (.sl c h o n), .lf (.sl c' h' o' n')] => match Nat.beq c c' with
    | true => match Nat.beq h h' with
      | true => match Nat.beq o 0 with
        | true => some (c, h, n, o', n')
        | false => none
      | false => none
    | false => none
  | _ => none
theorem selfA_ok {args : List (Tv R.D)} {c h n o' n' : Nat} (hs : selfA args = some (c, h, n, o', n')) : args = [.lf (.sl c h 0 n), .lf (.sl c h o' n')] := by
  unfold selfA at hs
  split at hs
  · split at hs
    case h_2 => cases hs
    rename_i h1
    split at hs
    case h_2 => cases hs
    rename_i h2
    split at hs
    case h_2 => cases hs
    rename_i h3
    cases hs
    rw [Nat.eq_of_beq_eq_true h1, Nat.eq_of_beq_eq_true h2, Nat.eq_of_beq_eq_true h3]
  · cases hs
/-! ### An append to plain data without room: always a new row -/
theorem nextcap_le2 (need cap : Nat) (h : cap < need) : Builtin.nextslicecap need cap ≤ need + need / 4 + 512 := by
  unfold Builtin.nextslicecap
  split
  · omega
  · split
    · omega
    · have : ∀ (r c : Nat), c < need → Builtin.growBy need r c ≤ need + (need + 768) / 4 := by
        intro r
        induction r with
        | zero => intro c hc; simp [Builtin.growBy]; omega
        | succ r ih =>
          intro c hc
          unfold Builtin.growBy
          split
          · omega
          · rcases Nat.lt_or_ge (c + (c + 768) / 4) need with h1 | h1
            · exact ih _ h1
            · have : ∀ r : Nat, Builtin.growBy need r (c + (c + 768) / 4) = c + (c + 768) / 4 := by
                intro r
                cases r with
                | zero => rfl
                | succ r => unfold Builtin.growBy; rw [if_pos h1]
              rw [this]
              omega
      have := this 4 cap h
      omega
def isFull : List (Tv R.D) → Bool
  | [.lf (.full _ _), _] => true
  | _ => false
def evAppendF (code : TypeId → Option (RoT R)) (tab : Nat → Option TI) (ts : List TypeId) (args : List (Tv R.D)) (m : List (Ent R.D)) (K : Tv R.D → List (Ent R.D) → Option X) : Option X :=
  match ts with
  | [t, tx] => match args with
    | [.lf (.full c l), x] => match tab t with
      | some ti => match Nat.beq ti.kd 3 with
        | true => match tab tx with
          | some xi => match Nat.beq xi.kd 3 with
            | true => match tab ti.elt with
              | some ei => match code ti.elt with
                | some o => match Nat.beq o.c c with
                  | true => match elemOk R ei c with
                    | true => match srcOf m c x with
                      | some l' => match l' with
                        | _ :: _ => if (l.length + l'.length + (l.length + l'.length) / 4 + 512) * (max ei.bytes 1) ≤ 281474976710656 then K (.lf (.row c m.length)) (m ++ [.row c (l ++ l') ti.elt]) else none
                        | [] => none
                      | none => none
                    | false => none
                  | false => none
                | none => none
              | none => none
            | false => none
          | none => none
        | false => none
      | none => none
    | _ => none
  | _ => none
theorem evAppendF_ok {code : TypeId → Option (RoT R)} {tab : Nat → Option TI} (ht : TabOk P tab) {ts : List TypeId} {args : List (Tv R.D)} {m : List (Ent R.D)} {K : Tv R.D → List (Ent R.D) → Option X} {x : X} (ty : TypeId) (h : evAppendF code tab ts args m K = some x) :
    ∃ r m', K r m' = some x ∧ ∀ (ρ : Ow) (w : World) (us : List Value), Rel R ρ m w → All2 (IsT R ρ w) args us → ∃ q w' ρ', (Builtin.append_ ts.toArray ty us.toArray).run P w = .ok q w' ∧ Go R ρ m w ρ' m' w' ∧ Rel R ρ' m' w' ∧ IsT R ρ' w' r q := by
  unfold evAppendF at h
  split at h
  case h_2 => exact none_some h
  rename_i t tx
  split at h
  case h_2 => exact none_some h
  rename_i c l xv
  split at h
  case h_2 => exact none_some h
  rename_i ti hti
  split at h
  case h_2 => exact none_some h
  rename_i hk
  obtain ⟨hu, _⟩ := tiOf_sliceE (ht _ _ hti) (Nat.eq_of_beq_eq_true hk)
  split at h
  case h_2 => exact none_some h
  rename_i xi hxi
  split at h
  case h_2 => exact none_some h
  rename_i hxk
  obtain ⟨e', hxu, _⟩ := tiOf_slice (ht _ _ hxi) (Nat.eq_of_beq_eq_true hxk)
  split at h
  case h_2 => exact none_some h
  rename_i ei hei
  split at h
  case h_2 => exact none_some h
  rename_i o ho
  split at h
  case h_2 => exact none_some h
  split at h
  case h_2 => exact none_some h
  rename_i hel
  obtain ⟨i, z, hi, hz, hsz, hzl, hby, _⟩ := elemOk_ok (ht _ _ hei) hel
  split at h
  case h_2 => exact none_some h
  rename_i l' hl'
  split at h
  case h_2 => exact none_some h
  rename_i x1 l1
  generalize hl1 : x1 :: l1 = l' at h hl'
  have hpos : 0 < l'.length := by rw [← hl1]; simp
  clear hl1
  split at h
  case isFalse => exact none_some h
  rename_i hfit
  refine ⟨_, _, h, fun ρ w us hr ha => ?_⟩
  cases ha with
  | cons h0 h1 =>
  cases h1 with
  | cons h2 h3 =>
  cases h3
  rw [← hby] at hfit
  have hf2 : (l.length + l'.length + (l.length + l'.length) / 4 + 512) * i.bytes ≤ 281474976710656 := Nat.le_trans (Nat.mul_le_mul_left _ (by omega)) hfit
  have hf3 : (l.length + l'.length + (l.length + l'.length) / 4 + 512) * 1 ≤ 281474976710656 := Nat.le_trans (Nat.mul_le_mul_left _ (by omega)) hfit
  obtain ⟨news, hsrc, hnews⟩ := (srcOf_ok hl' hr h2).src (P := P) hxu
  rw [← hsz] at hsrc
  have hs := Apps.ofSrc (ty := ty) hu hi hz hsrc
  have hnl := hs.newsLen
  have hd : Fr (Held ρ m) w w.drew := drew_fr _ w
  have hr1 : Rel R ρ m w.drew := hr.same hd hr.fits fun b _ => rfl
  cases h0 with
  | full _ _ a hro =>
  have hro1 : Is R ρ w.drew (.ro c l) (.slice a l.length l.length) := hro.keep hd hr.fits (Le.refl ρ w)
  obtain ⟨_, us0, hold, hus0⟩ := (ro_holds hro1).first (P := P) l.length hsz
  rw [show Nat.min l.length l.length = l.length from Nat.min_self _] at hold
  rw [List.take_length] at hus0
  have hk0 : l.length < l.length + l'.length := by omega
  have hcapb : Builtin.nextslicecap (l.length + l'.length) l.length * i.bytes ≤ 281474976710656 := Nat.le_trans (Nat.mul_le_mul_right _ (nextcap_le2 _ _ hk0)) hf2
  have hrun := hs.grow a l.length l.length us0 hold hk0 (by omega) hcapb
  have hge := grown_ge w (l.length + l'.length) l.length ti.elt
  have hmax : grownCap w (l.length + l'.length) l.length ti.elt ≤ 9223372036854775807 := by
    have := grownCap_le_maxLen w (l.length + l'.length) l.length ti.elt (by simp only [maxLen]; omega)
    simpa [maxLen] using this
  have hg1 : Go R ρ m w ρ m w.drew := ⟨Ext.refl ρ m w, hd⟩
  obtain ⟨h1, h2⟩ := hr1.more (w' := w.drew.alloc (.cells ((us0 ++ news).toArray ++ Builtin.zeroCells z.cells (grownCap w (l.length + l'.length) l.length ti.elt - (l.length + l'.length))) ti.elt)) rfl (.row w.heap.size (grownCap w (l.length + l'.length) l.length ti.elt) (l.length + l'.length)) (.row c (l ++ l') ti.elt) rfl fun ρ' hle hf => by
    refine ⟨by simp, hge, hmax, us0 ++ news, (Builtin.zeroCells z.cells (grownCap w (l.length + l'.length) l.length ti.elt - (l.length + l'.length))).toList, ?_, ?_, ?_⟩
    · show (w.heap.push _)[w.heap.size]? = _
      rw [Array.getElem?_push, if_pos rfl]
      congr 2
      apply Array.ext'
      simp
    · rw [encs_app]
      have hn1 : All2 (Is R ρ w.drew) (encs R c l') news := hnews.imp fun _ _ h' => h'.keep hd hr.fits (Le.refl ρ w)
      exact (hus0.append hn1).imp fun _ _ h' => h'.keep hf hr1.fits hle
    · have e1 : (Builtin.zeroCells z.cells (grownCap w (l.length + l'.length) l.length ti.elt - (l.length + l'.length))).toList.length = (grownCap w (l.length + l'.length) l.length ti.elt - (l.length + l'.length)) * R.sz c := by
        simp [Builtin.zeroCells, hzl]
      have e2 : us0.length = l.length * R.sz c := by rw [← hus0.length, encs_len]
      rw [List.length_append, hnl, e2, e1, hsz, ← Nat.add_mul, ← Nat.add_mul]
      exact Nat.mul_le_mul_right _ (by omega)
  refine ⟨_, _, _, hrun, hg1.trans hr h1, h2, Is.row c m.length _ _ _ ?_⟩
  show (ρ.r ++ [_])[m.length]? = _
  rw [← hr.len]
  simp
def isMem : Builtin → Bool
  | .append => true
  | .clear => true
  | .copy => true
  | _ => false
def evMem (code : TypeId → Option (RoT R)) (tab : Nat → Option TI) (b : Builtin) (ts : List TypeId) (args : List (Tv R.D)) (m : List (Ent R.D)) (K : Tv R.D → List (Ent R.D) → Option X) : Option X :=
  match b with
  | .append => match selfA args with
    | some (c, h, n, o', n') => evAppendI tab ts c h n o' n' m K
    | none => match isFull args with
      | true => evAppendF code tab ts args m K
      | false => evAppend code tab ts args m K
  | .clear => evClear code tab ts args m K
  | .copy => evCopy tab ts args m K
  | _ => none
theorem evMem_ok {code : TypeId → Option (RoT R)} {tab : Nat → Option TI} (ht : TabOk P tab) {b : Builtin} {ts : List TypeId} {args : List (Tv R.D)} {m : List (Ent R.D)} {K : Tv R.D → List (Ent R.D) → Option X} {x : X} (ty : TypeId) (cs : Array Bool) (h : evMem code tab b ts args m K = some x) :
    ∃ r m', K r m' = some x ∧ ∀ (ρ : Ow) (w : World) (us : List Value), Rel R ρ m w → All2 (IsT R ρ w) args us → ∃ q w' ρ', (builtin b ts.toArray ty cs us.toArray).run P w = .ok (.value q) w' ∧ Go R ρ m w ρ' m' w' ∧ Rel R ρ' m' w' ∧ IsT R ρ' w' r q := by
  unfold evMem at h
  split at h
  · have key : ∃ r m', K r m' = some x ∧ ∀ (ρ : Ow) (w : World) (us : List Value), Rel R ρ m w → All2 (IsT R ρ w) args us → ∃ q w' ρ', (Builtin.append_ ts.toArray ty us.toArray).run P w = .ok q w' ∧ Go R ρ m w ρ' m' w' ∧ Rel R ρ' m' w' ∧ IsT R ρ' w' r q := by
      split at h
      · rename_i c hh n o' n' hs
        have := selfA_ok hs
        subst this
        exact evAppendI_ok ht ty h
      · split at h
        · exact evAppendF_ok ht ty h
        · exact evAppend_ok ht ty h
    obtain ⟨r, m', hr, hq⟩ := key
    refine ⟨r, m', hr, fun ρ w us hrel ha => ?_⟩
    obtain ⟨q, w', ρ', hrun, hg⟩ := hq ρ w us hrel ha
    exact ⟨q, w', ρ', by simp only [builtin, Sem.run_bind, hrun, Result.andThen_ok, Sem.run_pure], hg⟩
  · obtain ⟨r, m', hr, hq⟩ := evClear_ok ht ty h
    refine ⟨r, m', hr, fun ρ w us hrel ha => ?_⟩
    obtain ⟨q, w', ρ', hrun, hg⟩ := hq ρ w us hrel ha
    exact ⟨q, w', ρ', by simp only [builtin, Sem.run_bind, hrun, Result.andThen_ok, Sem.run_pure], hg⟩
  · obtain ⟨r, m', hr, hq⟩ := evCopy_ok ht ty h
    refine ⟨r, m', hr, fun ρ w us hrel ha => ?_⟩
    obtain ⟨q, w', ρ', hrun, hg⟩ := hq ρ w us hrel ha
    exact ⟨q, w', ρ', by simp only [builtin, Sem.run_bind, hrun, Result.andThen_ok, Sem.run_pure], hg⟩
  · exact none_some h
end
end Go.Proofs.Ytjfcfljdojkcdaa.Ev
