/- The evaluator's comparison of structs, sound. -/
import Derived.Test.YtjfcfljdojkcdaaEvZ
import Derived.Laws.StructEq
namespace Go.Proofs.Ytjfcfljdojkcdaa.Ev
open Go Go.RowKit
set_option linter.unusedVariables false
set_option linter.unusedSimpArgs false
/-- The kinds of a type's cells (0 a whole number, 1 a bool, 2 a string), where its values may be compared. -/
def eqFs (P : Program) (g : TypeId → Option (List Nat)) : List Field → Nat → Option (List Nat)
  | [], _ => some []
  | f :: fs, off => if f.name ≠ "_" ∧ f.offset = off then (match g f.type with
    | some l => (match tiF P f.type with
      | some (n, _) => if n = l.length then (match eqFs P g fs (off + l.length) with
        | some r => some (l ++ r)
        | none => none) else none
      | none => none)
    | none => none) else none
def eqKinds (P : Program) : Nat → TypeId → Option (List Nat)
  | 0, _ => none
  | d + 1, t => match P.underlying t with
    | some .bool => some [1]
    | some (.int _) => some [0]
    | some .string => some [2]
    | some (.struct fs) => if P.stoodInHeld t = true then none else eqFs P (eqKinds P d) fs.toList 0
    | _ => none
def vEq : Value → Value → Bool
  | .int _ a, .int _ b => a == b
  | .bool a, .bool b => a == b
  | .string a, .string b => a == b
  | _, _ => false
/-- A value of a kind. -/
def ofK : Nat → Value → Value → Prop
  | 0, u, v => ∃ k a b, u = .int k a ∧ v = .int k b
  | 1, u, v => ∃ a b, u = .bool a ∧ v = .bool b
  | 2, u, v => ∃ a b, u = .string a ∧ v = .string b
  | _, _, _ => False
inductive OfKs : List Nat → List Value → List Value → Prop
  | nil : OfKs [] [] []
  | cons {k : Nat} {u v : Value} {ks : List Nat} {us vs : List Value} : ofK k u v → OfKs ks us vs → OfKs (k :: ks) (u :: us) (v :: vs)
theorem OfKs.len {ks : List Nat} {us vs : List Value} (h : OfKs ks us vs) : us.length = ks.length ∧ vs.length = ks.length := by
  induction h with
  | nil => exact ⟨rfl, rfl⟩
  | cons _ _ ih => exact ⟨by simp [ih.1], by simp [ih.2]⟩
theorem OfKs.split : ∀ {a b : List Nat} {us vs : List Value}, OfKs (a ++ b) us vs → OfKs a (us.take a.length) (vs.take a.length) ∧ OfKs b (us.drop a.length) (vs.drop a.length)
  | [], b, us, vs, h => by simpa using ⟨.nil, h⟩
  | k :: a, b, _, _, .cons h0 h1 => by
    obtain ⟨h2, h3⟩ := OfKs.split h1
    exact ⟨.cons h0 h2, h3⟩
def eqVs : List Value → List Value → Bool
  | u :: us, v :: vs => vEq u v && eqVs us vs
  | _, _ => true
theorem eqVs_app : ∀ {a a' b b' : List Value}, a.length = a'.length → eqVs (a ++ b) (a' ++ b') = (eqVs a a' && eqVs b b')
  | [], [], b, b', _ => by simp [eqVs]
  | [], _ :: _, b, b', h => by simp at h
  | _ :: _, [], b, b', h => by simp at h
  | u :: a, v :: a', b, b', h => by simp [eqVs, eqVs_app (a := a) (a' := a') (by simpa using h), Bool.and_assoc]
section
variable {P : Program}
/-- A value out of its cells. -/
def valOf (P : Program) (t : TypeId) (us : List Value) (u : Value) : Prop := match P.underlying t with
  | some (.struct _) => u = .agg us.toArray
  | some _ => us = [u]
  | none => False
theorem part_of {t : TypeId} {n : Nat} {b : Bool} (hti : tiF P t = some (n, b)) {d : Nat} {ks : List Nat} (hk : eqKinds P d t = some ks) (hn : n = ks.length) {xs : List Value} {off : Nat} (hl : off + n ≤ xs.length) (w : World) :
    ∃ u, (part t xs.toArray off).run P w = .ok u w ∧ valOf P t ((xs.drop off).take n) u := by
  obtain ⟨hs, ha⟩ := tiF_run hti w
  unfold part
  simp only [Sem.run_bind, ha, Result.andThen_ok]
  have hti' := hti
  unfold tiF at hti'
  obtain ⟨i, hi, hti'⟩ := Option.bind_eq_some_iff.1 hti'
  obtain ⟨u, hu, hti'⟩ := Option.bind_eq_some_iff.1 hti'
  simp only [Option.some.injEq, Prod.mk.injEq] at hti'
  obtain ⟨hsz, rfl⟩ := hti'
  have lf : aggD u = false → ks.length = 1 → ∃ v, (if aggD u = true then do pure (Value.agg (xs.toArray.extract off (off + (← sizeOf t)))) else match xs.toArray[off]? with | some v => pure v | none => stuck "part: no such cell" : Sem Value).run P w = .ok v w ∧ (xs.drop off).take n = [v] := by
    intro hag h1
    have hlt : off < xs.length := by omega
    refine ⟨xs[off], by simp [hag, hlt], ?_⟩
    rw [hn, h1, List.drop_eq_getElem_cons hlt]
    rfl
  cases d with
  | zero => simp [eqKinds] at hk
  | succ d =>
    unfold eqKinds at hk
    rw [hu] at hk
    cases u with
    | bool =>
      cases hk
      obtain ⟨v, h1, h2⟩ := lf rfl rfl
      exact ⟨v, h1, by unfold valOf; rw [hu]; exact h2⟩
    | int k =>
      cases hk
      obtain ⟨v, h1, h2⟩ := lf rfl rfl
      exact ⟨v, h1, by unfold valOf; rw [hu]; exact h2⟩
    | string =>
      cases hk
      obtain ⟨v, h1, h2⟩ := lf rfl rfl
      exact ⟨v, h1, by unfold valOf; rw [hu]; exact h2⟩
    | struct fs =>
      refine ⟨.agg (xs.toArray.extract off (off + n)), ?_, ?_⟩
      · simp only [aggD, if_true, Sem.run_bind, hs, Result.andThen_ok, Sem.run_pure]
      · unfold valOf
        rw [hu]
        simp only [Value.agg.injEq]
        apply Array.ext'
        simp [List.extract_eq_take_drop]
    | _ => cases hk
theorem eq_run : ∀ (d : Nat) {t : TypeId} {ks : List Nat}, eqKinds P d t = some ks → ∀ (D : Nat) (w : World) {x y : Value} {xs ys : List Value}, valOf P t xs x → valOf P t ys y → OfKs ks xs ys → (Op.equalIn (D + d) t x y).run P w = .ok (eqVs xs ys) w
  | 0, t, ks, h => by simp [eqKinds] at h
  | d + 1, t, ks, h => by
    intro D w x y xs ys hx hy hk
    unfold eqKinds at h
    unfold valOf at hx hy
    split at h
    · rename_i hu
      rw [hu] at hx hy
      cases h
      dsimp only at hx hy
      subst hx; subst hy
      cases hk with
      | cons h0 h1 =>
      obtain ⟨a, b, rfl, rfl⟩ := h0
      rw [show D + (d + 1) = (D + d) + 1 from rfl, run_equalIn_bool' w _ t a b hu]
      simp [eqVs, vEq]
    · rename_i k hu
      rw [hu] at hx hy
      cases h
      dsimp only at hx hy
      subst hx; subst hy
      cases hk with
      | cons h0 h1 =>
      obtain ⟨k', a, b, rfl, rfl⟩ := h0
      rw [show D + (d + 1) = (D + d) + 1 from rfl, run_equalIn_int w _ t k' k a b hu]
      simp [eqVs, vEq]
    · rename_i hu
      rw [hu] at hx hy
      cases h
      dsimp only at hx hy
      subst hx; subst hy
      cases hk with
      | cons h0 h1 =>
      obtain ⟨a, b, rfl, rfl⟩ := h0
      rw [show D + (d + 1) = (D + d) + 1 from rfl, run_equalIn_string w _ t a b hu]
      simp [eqVs, vEq, beq_toListBytes]
    · rename_i fs hu
      rw [hu] at hx hy
      dsimp only at hx hy
      subst hx; subst hy
      split at h
      · cases h
      · rename_i hstood
        have hstood : P.stoodInHeld t = false := by simpa using hstood
        have hfs : P.fieldsOf t = fs := by simp [Program.fieldsOf, hu]
        rw [show D + (d + 1) = (D + d) + 1 from rfl, run_equalIn_struct w (D + d) t _ _ (by rw [hfs]; exact hu) hstood, hfs]
        have key : ∀ (fl : List Field) (off : Nat) (ks : List Nat), eqFs P (eqKinds P d) fl off = some ks → OfKs ks (xs.drop off) (ys.drop off) → off ≤ xs.length → off ≤ ys.length → (Op.eqFields (D + d) xs.toArray ys.toArray fl).run P w = .ok (eqVs (xs.drop off) (ys.drop off)) w := by
          intro fl
          induction fl with
          | nil =>
            intro off ks h hk _ _
            simp only [eqFs, Option.some.injEq] at h
            subst h
            generalize xs.drop off = a at hk
            generalize ys.drop off = b at hk
            cases hk
            simp [Op.eqFields, eqVs]
          | cons f fl ih =>
            intro off ks h hk hl1 hl2
            simp only [eqFs] at h
            split at h
            case isFalse => cases h
            rename_i hc
            obtain ⟨hname, hoff⟩ := hc
            split at h
            case h_2 => cases h
            rename_i l hl
            split at h
            case h_2 => cases h
            rename_i n b hti
            split at h
            case isFalse => cases h
            rename_i hn
            split at h
            case h_2 => cases h
            rename_i r hr
            cases h
            obtain ⟨k1, k2⟩ := hk.split
            obtain ⟨q1, q2⟩ := hk.len
            simp only [List.length_drop, List.length_append] at q1 q2
            obtain ⟨u, hu1, hv1⟩ := part_of hti hl hn (xs := xs) (off := off) (by omega) w
            obtain ⟨v, hu2, hv2⟩ := part_of hti hl hn (xs := ys) (off := off) (by omega) w
            rw [hn] at hv1 hv2
            have hrun := eq_run d hl D w hv1 hv2 k1
            rw [List.drop_drop, List.drop_drop] at k2
            have hrest := ih (off + l.length) r hr k2 (by omega) (by omega)
            subst hoff
            have happ : eqVs (xs.drop f.offset) (ys.drop f.offset) = (eqVs ((xs.drop f.offset).take l.length) ((ys.drop f.offset).take l.length) && eqVs (xs.drop (f.offset + l.length)) (ys.drop (f.offset + l.length))) := by
              rw [← eqVs_app (by simp; omega)]
              rw [← List.drop_drop, ← List.drop_drop, List.take_append_drop, List.take_append_drop]
            rw [happ]
            simp only [Op.eqFields, hname, ne_eq, not_false_eq_true, if_true, Sem.run_bind, hu1, hu2, hrun, Result.andThen_ok]
            cases eqVs ((xs.drop f.offset).take l.length) ((ys.drop f.offset).take l.length)
            · simp
            · simpa using hrest
        exact key fs.toList 0 ks h (by simpa using hk) (by simp) (by simp)
    · cases h
variable {R : Ro} {X : Type}
/-- A test, and that it can be made. -/
structure DP where
  p : Prop
  d : Decidable p
def eqLf {D : Nat → Type} (k : Nat) (l l' : Lf D) : Option DP :=
  match k with
  | 0 => match l with
    | .v (.int k a) => match l' with
      | .v (.int k' b) => match Nat.beq (ikN k) (ikN k') with
        | true => some ⟨a = b, inferInstance⟩
        | false => none
      | _ => none
    | _ => none
  | 1 => match lfB l with
    | some a => match lfB l' with
      | some b => some ⟨a = b, inferInstance⟩
      | none => none
    | none => none
  | 2 => match l with
    | .v (.string a) => match l' with
      | .v (.string b) => some ⟨a = b, inferInstance⟩
      | _ => none
    | _ => none
  | _ => none
def eqLs {D : Nat → Type} : List Nat → List (Lf D) → List (Lf D) → Option DP
  | [k], [l], [l'] => eqLf k l l'
  | k :: ks, l :: ls, l' :: ls' => match eqLf k l l' with
    | some a => match eqLs ks ls ls' with
      | some b => some ⟨a.p ∧ b.p, @instDecidableAnd _ _ a.d b.d⟩
      | none => none
    | none => none
  | _, _, _ => none
theorem bytes_beq {a b : ByteArray} : (vEq (.string a) (.string b) = true ↔ a = b) := by
  simp only [vEq, beq_toListBytes, beq_iff_eq, ByteArray.toList_eq]
  constructor
  · intro h
    cases a
    cases b
    simp only [Array.toList_inj] at h
    rw [h]
  · intro h; rw [h]
theorem eqLf_ok {ρ : Ow} {w : World} {k : Nat} {l l' : Lf R.D} {c : DP} (h : eqLf k l l' = some c) {u v : Value} (hu : Is R ρ w l u) (hv : Is R ρ w l' v) : ofK k u v ∧ (vEq u v = true ↔ c.p) := by
  unfold eqLf at h
  split at h
  · split at h
    case h_2 => cases h
    split at h
    case h_2 => cases h
    split at h
    case h_2 => cases h
    rename_i hk
    have := ikN_inj hk
    subst this
    cases h
    obtain ⟨rfl, _⟩ := is_int hu
    obtain ⟨rfl, _⟩ := is_int hv
    exact ⟨⟨_, _, _, rfl, rfl⟩, by simp [vEq]⟩
  · split at h
    case h_2 => cases h
    rename_i a ha
    split at h
    case h_2 => cases h
    rename_i b hb
    cases h
    rw [lfB_ok ha hu, lfB_ok hb hv]
    exact ⟨⟨_, _, rfl, rfl⟩, by simp [vEq]⟩
  · split at h
    case h_2 => cases h
    split at h
    case h_2 => cases h
    cases h
    cases hu
    cases hv
    exact ⟨⟨_, _, rfl, rfl⟩, bytes_beq⟩
  · cases h
theorem eqLs_ok {ρ : Ow} {w : World} : ∀ {ks : List Nat} {ls ls' : List (Lf R.D)} {c : DP}, eqLs ks ls ls' = some c → ∀ {us vs : List Value}, All2 (Is R ρ w) ls us → All2 (Is R ρ w) ls' vs → OfKs ks us vs ∧ (eqVs us vs = true ↔ c.p) := by
  intro ks ls ls' c h
  induction ks generalizing ls ls' c with
  | nil => simp [eqLs] at h
  | cons k ks ih =>
    intro us vs hu hv
    have one : ∀ (l l' : Lf R.D) (c1 : DP), eqLf k l l' = some c1 → ls = [l] → ls' = [l'] → ks = [] → OfKs (k :: ks) us vs ∧ (eqVs us vs = true ↔ c1.p) := by
      intro l l' c1 hc e1 e2 e3
      rw [e1] at hu
      rw [e2] at hv
      rw [e3]
      cases hu with
      | cons h0 h1 =>
      cases h1
      cases hv with
      | cons h2 h3 =>
      cases h3
      obtain ⟨k1, k2⟩ := eqLf_ok hc h0 h2
      exact ⟨.cons k1 .nil, by simp only [eqVs, Bool.and_true]; exact k2⟩
    unfold eqLs at h
    split at h
    · rename_i k' l l' heq
      cases heq
      exact one _ _ _ h rfl rfl rfl
    · rename_i k' ks' l ls1 l' ls2 _ heq
      cases heq
      split at h
      case h_2 => cases h
      rename_i a ha
      split at h
      case h_2 => cases h
      rename_i b hb
      cases h
      cases hu with
      | cons h0 h1 =>
      cases hv with
      | cons h2 h3 =>
      obtain ⟨k1, k2⟩ := eqLf_ok ha h0 h2
      obtain ⟨k3, k4⟩ := ih hb h1 h3
      exact ⟨.cons k1 k3, by simp only [eqVs, Bool.and_eq_true, k2, k4]⟩
    · cases h
def EqOk (P : Program) (eqt : TypeId → Option (List Nat)) : Prop := ∀ t ks, eqt t = some ks → eqKinds P 30 t = some ks ∧ P.eqGuardType P.depth t = false ∧ (match P.underlying t with | some (.struct _) => true | _ => false) = true
def eqtOf : List (Nat × List Nat) → TypeId → Option (List Nat)
  | [], _ => none
  | (j, v) :: r, i => match Nat.beq j i with
    | true => some v
    | false => eqtOf r i
theorem eqtOf_ok : ∀ (l : List (Nat × List Nat)), (l.all fun p => (eqKinds P 30 p.1 == some p.2) && !(P.eqGuardType P.depth p.1) && (match P.underlying p.1 with | some (.struct _) => true | _ => false)) = true → EqOk P (eqtOf l)
  | [], _ => fun t ks h => by simp [eqtOf] at h
  | (j, v) :: r, h => by
    rw [List.all_cons, Bool.and_eq_true] at h
    obtain ⟨h0, h1⟩ := h
    intro t ks ht
    unfold eqtOf at ht
    split at ht
    · rename_i hj
      cases ht
      rw [← Nat.eq_of_beq_eq_true hj]
      simp only [Bool.and_eq_true, beq_iff_eq, Bool.not_eq_true'] at h0
      exact ⟨h0.1.1, h0.1.2, h0.2⟩
    · exact eqtOf_ok r h1 t ks ht
def evBinX (eqt : TypeId → Option (List Nat)) (tab : Nat → Option TI) (op : BinOp) (t : TypeId) (x y : Tv R.D) (lit : Bool) (K : Tv R.D → Option X) : Option X :=
  match x with
  | .agg cs => match y with
    | .agg ds => match eqt t with
      | some ks => match eqLs ks cs ds with
        | some c => match op with
          | .eql => K (.lf (.cmp c.p c.d))
          | .neq => K (.lf (.cmp (¬ c.p) (@instDecidableNot _ c.d)))
          | _ => none
        | none => none
      | none => none
    | _ => none
  | .lf (.v (.string a)) => match y with
    | .lf (.v (.string b)) => match op with
      | .eql => K (.lf (.cmp (a = b) inferInstance))
      | .neq => K (.lf (.cmp (¬ a = b) inferInstance))
      | _ => none
    | _ => none
  | x => evBin tab op t x y lit K
theorem evBinX_ok {eqt : TypeId → Option (List Nat)} (he : EqOk P eqt) {tab : Nat → Option TI} (ht : TabOk P tab) {op : BinOp} {t : TypeId} {x y : Tv R.D} {lit : Bool} {K : Tv R.D → Option X} {z : X} (h : evBinX eqt tab op t x y lit K = some z) :
    ∃ r, K r = some z ∧ ∀ ρ w (u v : Value), IsT R ρ w x u → IsT R ρ w y v → ∃ q, (∀ e f : Operand, (do eqGuard op t e f u v; binOp op t u v : Sem Value).run P w = .ok q w) ∧ IsT R ρ w r q := by
  unfold evBinX at h
  split at h
  · rename_i cs
    split at h
    case h_2 => exact none_some h
    rename_i ds
    split at h
    case h_2 => exact none_some h
    rename_i ks hks
    obtain ⟨hk, hg, hst⟩ := he t ks hks
    split at h
    case h_2 => exact none_some h
    rename_i c hc
    have run : ∀ {ρ : Ow} {w : World} {us vs : List Value}, All2 (Is R ρ w) cs us → All2 (Is R ρ w) ds vs → ∃ b : Bool, (Op.equalIn 10000 t (.agg us.toArray) (.agg vs.toArray)).run P w = .ok b w ∧ (b = true ↔ c.p) := by
      intro ρ w us vs hu hv
      obtain ⟨k1, k2⟩ := eqLs_ok hc hu hv
      have val : ∀ us : List Value, valOf P t us (.agg us.toArray) := fun us => by
        unfold valOf
        split at hst
        · rename_i heq; rw [heq]
        · cases hst
      exact ⟨_, eq_run 30 hk 9970 w (val us) (val vs) k1, k2⟩
    split at h
    · refine ⟨_, h, fun ρ w u v hu hv => ?_⟩
      obtain ⟨us, rfl, hu⟩ := hu
      obtain ⟨vs, rfl, hv⟩ := hv
      obtain ⟨b, hb, hbc⟩ := run hu hv
      refine ⟨.bool b, fun e f => ?_, ?_⟩
      · rw [Sem.run_bind, run_eqGuard_agg w _ t e f _ _ hg]
        simp only [Result.andThen_ok]
        rw [run_eql_struct, hb]
        rfl
      · have : b = @decide c.p c.d := by
          rcases Classical.em c.p with hp | hp
          · rw [hbc.2 hp]; exact (@decide_eq_true _ c.d hp).symm
          · have hb' : b = false := by
              cases b
              · rfl
              · exact absurd (hbc.1 rfl) hp
            rw [hb']; exact (@decide_eq_false _ c.d hp).symm
        rw [this]
        exact Is.cmp c.p c.d
    · refine ⟨_, h, fun ρ w u v hu hv => ?_⟩
      obtain ⟨us, rfl, hu⟩ := hu
      obtain ⟨vs, rfl, hv⟩ := hv
      obtain ⟨b, hb, hbc⟩ := run hu hv
      refine ⟨.bool (!b), fun e f => ?_, ?_⟩
      · rw [Sem.run_bind, run_eqGuard_agg w _ t e f _ _ hg]
        simp only [Result.andThen_ok]
        rw [run_neq_struct, hb]
        rfl
      · have : (!b) = @decide (¬ c.p) (@instDecidableNot _ c.d) := by
          rcases Classical.em c.p with hp | hp
          · rw [hbc.2 hp]; exact (@decide_eq_false _ (@instDecidableNot _ c.d) (fun h => h hp)).symm
          · have hb' : b = false := by
              cases b
              · rfl
              · exact absurd (hbc.1 rfl) hp
            rw [hb']; exact (@decide_eq_true _ (@instDecidableNot _ c.d) hp).symm
        rw [this]
        exact Is.cmp _ _
    · exact none_some h
  · rename_i a
    split at h
    case h_2 => exact none_some h
    rename_i b
    have hbs : (a.toList == b.toList) = decide (a = b) := by
      have := bytes_beq (a := a) (b := b)
      simp only [vEq, beq_toListBytes] at this
      rcases Classical.em (a = b) with hp | hp
      · rw [this.2 hp, decide_eq_true hp]
      · rw [decide_eq_false hp]
        exact Bool.eq_false_iff.2 fun e => hp (this.1 e)
    split at h
    · refine ⟨_, h, fun ρ w u v hu hv => ?_⟩
      have hu := Is.val hu
      have hv := Is.val hv
      subst hu
      subst hv
      refine ⟨.bool (decide (a = b)), fun e f => ?_, Is.cmp _ _⟩
      rw [← hbs]
      simp [binOp, eqGuard, Op.stringOp]
    · refine ⟨_, h, fun ρ w u v hu hv => ?_⟩
      have hu := Is.val hu
      have hv := Is.val hv
      subst hu
      subst hv
      refine ⟨.bool (decide (¬ a = b)), fun e f => ?_, Is.cmp _ _⟩
      rw [show decide (¬ a = b) = !(a.toList == b.toList) by rw [hbs]; exact decide_not]
      simp [binOp, eqGuard, Op.stringOp]
    · exact none_some h
  · obtain ⟨r, hr, hq⟩ := evBin_ok ht h
    refine ⟨r, hr, fun ρ w u v hu hv => ?_⟩
    obtain ⟨q, hrun, hi⟩ := hq ρ w u v hu hv
    exact ⟨q, hrun, hi⟩
end
end Go.Proofs.Ytjfcfljdojkcdaa.Ev
