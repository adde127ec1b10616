/- The evaluator's regions, in the order of the text. -/
import Derived.Test.YtjfcfljdojkcdaaEvJ
namespace Go.Proofs.Ytjfcfljdojkcdaa.Ev
open Go Go.RowKit
set_option linter.unusedVariables false
set_option linter.unusedSimpArgs false
section
variable {R : Ro} {P : Program} {X : Type}
def putS {D : Nat → Type} (n : Nat) (dst : Option Tmp) (v : Tv D) (σ : List (Nat × Tv D)) (K : List (Nat × Tv D) → Option X) : Option X :=
  match dst with
  | none => K σ
  | some d => match Nat.blt d n with
    | true => K ((d, v) :: σ)
    | false => none
theorem putS_ok {n : Nat} {dst : Option Tmp} {v : Tv R.D} {σ : List (Nat × Tv R.D)} {K : List (Nat × Tv R.D) → Option X} {x : X} (h : putS n dst v σ K = some x) :
    ∃ σ', K σ' = some x ∧ ∀ (ρ : Ow) (w : World) (a : Act) (u : Value), Sat R ρ w n σ a → IsT R ρ w v u → Sat R ρ w n σ' (a.put dst u) := by
  unfold putS at h
  split at h
  · exact ⟨_, h, fun ρ w a u hs hi => hs⟩
  · split at h
    · rename_i hlt
      exact ⟨_, h, fun ρ w a u hs hi => hs.put (by rw [← Nat.blt_eq]; exact hlt) hi⟩
    · exact none_some h
def litB {D : Nat → Type} (b : Bool) : Tv D := .lf (.v (.bool b))
def eqB : Bool → Bool → Bool
  | true, b => b
  | false, true => false
  | false, false => true
/-- Is an operation carried out? Both ways. -/
def evGuard {D : Nat → Type} (ops : Array Oper) (g : Option (Nat × Bool)) (σ : List (Nat × Tv D)) (K : Bool → List (Nat × Tv D) → Option X) : Option X :=
  match g with
  | none => K true σ
  | some (j, want) => match ops[j]? with
    | some oj => match oj.dst with
      | some d => match Sg.find σ d with
        | some .un => K false σ
        | some v => brT v fun t => K (eqB t want) ((d, litB t) :: σ)
        | none => none
      | none => none
    | none => none
theorem evGuard_ok {ops : Array Oper} {o : Oper} {n : Nat} {σ : List (Nat × Tv R.D)} {K : Bool → List (Nat × Tv R.D) → Option X} {x : X} (h : evGuard ops o.guard σ K = some x) :
    ∃ t σ', K t σ' = some x ∧ ∀ (ρ : Ow) (w : World) (a : Act), Sat R ρ w n σ a → Sat R ρ w n σ' a ∧ Region.wanted o (yielded ops a.tmps) = t := by
  unfold evGuard at h
  split at h
  · rename_i hg
    exact ⟨_, _, h, fun ρ w a hs => ⟨hs, by simp [Region.wanted, hg]⟩⟩
  · rename_i j want hg
    split at h
    · rename_i oj hj
      split at h
      · rename_i d hd
        split at h
        · rename_i hf
          refine ⟨_, _, h, fun ρ w a hs => ⟨hs, ?_⟩⟩
          obtain ⟨u, hu, hi⟩ := hs.at_ _ _ hf
          have hi : u = undef := hi
          subst hi
          simp [Region.wanted, hg, yielded, hj, hd, hu, undef]
        · rename_i v _ hf
          obtain ⟨t, h, hb⟩ := brT_ok h
          refine ⟨_, _, h, fun ρ w a hs => ?_⟩
          obtain ⟨u, hu, hi⟩ := hs.at_ _ _ hf
          have := hb ρ w u hi
          subst this
          refine ⟨⟨hs.size, hs.defers, fun i v' hv' => ?_⟩, ?_⟩
          · simp only [Sg.find] at hv'
            split at hv'
            · rename_i he
              have := Nat.eq_of_beq_eq_true he
              subst this
              simp only [Option.some.injEq] at hv'
              subst hv'
              exact ⟨_, hu, Is.v _ rfl⟩
            · exact hs.at_ i v' hv'
          · simp only [Region.wanted, hg, yielded, hj, hd, hu, Option.bind_some]
            cases t <;> cases want <;> rfl
        · exact none_some h
      · exact none_some h
    · exact none_some h
/-- Is a slice nil? What it holds does not always tell. -/
structure NilT (D : Nat → Type) where
  c : Nat
  l : List (D c)
  b : Bool
def codeTv {D : Nat → Type} : Tv D → Option Nat
  | .lf (.ro c _) => some c
  | .lf (.row c _) => some c
  | .lf (.sl c _ _ _) => some c
  | _ => none
def nilQ {D : Nat → Type} (tab : Nat → Option TI) (σ : List (Nat × Tv D)) (m : List (Ent D)) (op : Op) : Option (NilT D) :=
  match op with
  | .binOp bop t x y _ => match (match bop with | .eql => some true | .neq => some false | _ => none) with
    | some b => match tab t with
      | some ti => match Nat.beq ti.kd 3 with
        | true => match opd σ y with
          | some (.lf (.v (.slice none 0 0))) => match opd σ x with
            | some v => match codeTv v with
              | some c => match srcOf m c v with
                | some l => some ⟨c, l, b⟩
                | none => none
              | none => none
            | none => none
          | _ => none
        | false => none
      | none => none
    | none => none
  | _ => none
theorem run_eqIn_nil (w : World) (d : Nat) (t e : TypeId) (a : Option Addr) (l c : Nat) (h : P.underlying t = some (.slice e)) : (Op.equalIn (d + 1) t (.slice a l c) (.slice none 0 0)).run P w = .ok a.isNone w := by
  cases a <;> simp [Op.equalIn, run_underlying h]
theorem run_eq_nil (w : World) (t e : TypeId) (a : Option Addr) (l c : Nat) (h : P.underlying t = some (.slice e)) : (Op.equal t (.slice a l c) (.slice none 0 0)).run P w = .ok a.isNone w := run_eqIn_nil w 9999 t e a l c h
theorem run_nil_eql (w : World) (t e : TypeId) (a : Option Addr) (l c : Nat) (h : P.underlying t = some (.slice e)) (x y : Operand) : (do eqGuard .eql t x y (.slice a l c) (.slice none 0 0); binOp .eql t (.slice a l c) (.slice none 0 0) : Sem Value).run P w = .ok (.bool a.isNone) w := by
  have := run_eq_nil w t e a l c h
  simp [binOp, eqGuard, this]
theorem run_nil_neq (w : World) (t e : TypeId) (a : Option Addr) (l c : Nat) (h : P.underlying t = some (.slice e)) (x y : Operand) : (do eqGuard .neq t x y (.slice a l c) (.slice none 0 0); binOp .neq t (.slice a l c) (.slice none 0 0) : Sem Value).run P w = .ok (.bool (!a.isNone)) w := by
  have := run_eq_nil w t e a l c h
  simp [binOp, eqGuard, this]
theorem nilQ_ok {tab : Nat → Option TI} (ht : TabOk P tab) {n : Nat} {σ : List (Nat × Tv R.D)} {m : List (Ent R.D)} {o : Oper} {q : NilT R.D} (h : nilQ tab σ m o.op = some q) {ρ : Ow} {w : World} {a : Act} (hr : Rel R ρ m w) (hs : Sat R ρ w n σ a) :
    Yld P o a w fun u w' => w' = w ∧ (u = .bool (!q.b) ∨ (q.l = [] ∧ u = .bool q.b)) := by
  unfold nilQ at h
  split at h
  case h_2 => cases h
  rename_i bop t x y yt ho
  split at h
  case h_2 => cases h
  rename_i b hb
  split at h
  case h_2 => cases h
  rename_i ti hti
  split at h
  case h_2 => cases h
  rename_i hk
  obtain ⟨hu, _⟩ := tiOf_sliceE (ht _ _ hti) (Nat.eq_of_beq_eq_true hk)
  split at h
  case h_2 => cases h
  rename_i hy
  split at h
  case h_2 => cases h
  rename_i v hv
  split at h
  case h_2 => cases h
  rename_i c hc
  split at h
  case h_2 => cases h
  rename_i l hl
  cases h
  have hyv := opd_ok hs hy
  have hxv := srcOf_ok hl hr (opd_ok hs hv)
  obtain ⟨ad, cap, us, hx, h1, h2, ha, hnil⟩ := hxv
  have hyv := Is.val hyv
  have key : ∀ q : Bool, (q = ad.isNone ∧ b = true ∨ q = (!ad.isNone) ∧ b = false) → q = (!b) ∨ (l = [] ∧ q = b) := by
    intro q hq
    rcases hnil with rfl | ⟨b0, o0, rfl, _⟩
    · rcases hq with ⟨rfl, rfl⟩ | ⟨rfl, rfl⟩ <;> cases ad <;> simp
    · rcases hq with ⟨rfl, rfl⟩ | ⟨rfl, rfl⟩ <;> simp
  have fin : ∀ q : Bool, (q = ad.isNone ∧ b = true ∨ q = (!ad.isNone) ∧ b = false) → Value.bool q = .bool (!b) ∨ (l = [] ∧ Value.bool q = .bool b) := fun q hq => (key q hq).imp (fun h => by rw [h]) fun h => ⟨h.1, by rw [h.2]⟩
  split at hb
  · cases hb
    refine Yld.val (u := .bool ad.isNone) ?_ ⟨rfl, fin _ (.inl ⟨rfl, rfl⟩)⟩
    unfold execOp
    simp only [ho]
    rw [Sem.run_bind, hx, hyv, run_nil_eql w t _ ad l.length cap hu x y]
    rfl
  · cases hb
    refine Yld.val (u := .bool (!ad.isNone)) ?_ ⟨rfl, fin _ (.inr ⟨rfl, rfl⟩)⟩
    unfold execOp
    simp only [ho]
    rw [Sem.run_bind, hx, hyv, run_nil_neq w t _ ad l.length cap hu x y]
    rfl
  · cases hb
/-- A region, in the order of the text. -/
noncomputable def evOps (E : Env R) (ops : Array Oper) : List Oper → List (Nat × Tv R.D) → List (Ent R.D) → (List (Nat × Tv R.D) → List (Ent R.D) → Option X) → Option X
  | [], σ, m, K => K σ m
  | o :: r, σ, m, K => evGuard ops o.guard σ fun t σ => match t with
    | true => match nilQ E.tab σ m o.op with
      | some q => nilc q.l (putS E.n o.dst (litB q.b) σ fun σ => evOps E ops r σ m K) (putS E.n o.dst (litB (!q.b)) σ fun σ => evOps E ops r σ m K)
      | none => evOp E σ o.op m fun v m => putS E.n o.dst v σ fun σ => evOps E ops r σ m K
    | false => putS E.n o.dst .un σ fun σ => evOps E ops r σ m K
theorem wpOps_at {ops : Array Oper} {Q : Exit → Act → World → Prop} {k : Nat} {o : Oper} (hk : ops[k]? = some o) (rest : List Nat) (a : Act) (w : World) :
    wpOps P ops Q (k :: rest) a w = if Region.wanted o (yielded ops a.tmps) then o.wp P a w (wpOps P ops Q rest) Q ∨ (o.asks P a w ∧ LetsOut Q) else wpOps P ops Q rest (a.put o.dst undef) w := by
  simp only [wpOps, hk]
theorem evOps_ok {E : Env R} (hE : EnvOk P E) {ops : Array Oper} : ∀ (l : List Oper) (k : Nat) {σ : List (Nat × Tv R.D)} {m : List (Ent R.D)} {K : List (Nat × Tv R.D) → List (Ent R.D) → Option X} {x : X}, (∀ j, l[j]? = ops[k + j]?) → evOps E ops l σ m K = some x →
    ∀ (ρ : Ow) (w : World) (a : Act) (Q : Exit → Act → World → Prop), Rel R ρ m w → Sat R ρ w E.n σ a →
      (∀ σ' m' ρ' a' w', K σ' m' = some x → Go R ρ m w ρ' m' w' → Rel R ρ' m' w' → Sat R ρ' w' E.n σ' a' → Q .normal a' w') → wpOps P ops Q (List.range' k l.length) a w
  | [], k, σ, m, K, x, _, h => fun ρ w a Q hr hs hq => hq σ m ρ a w h (Go.refl ρ m w) hr hs
  | o :: l, k, σ, m, K, x, hl, h => by
    have hk : ops[k]? = some o := by simpa using (hl 0).symm
    have hl' : ∀ j, l[j]? = ops[k + 1 + j]? := fun j => by have := hl (j + 1); simpa [Nat.add_assoc, Nat.add_comm 1 j] using this
    simp only [evOps] at h
    obtain ⟨t, σ1, h, hg⟩ := evGuard_ok (n := E.n) h
    cases t
    · obtain ⟨σ2, h, hp⟩ := putS_ok h
      intro ρ w a Q hr hs hq
      obtain ⟨hs1, hw⟩ := hg ρ w a hs
      rw [List.length_cons, List.range'_succ, wpOps_at hk, hw]
      simp only [Bool.false_eq_true, if_false]
      exact evOps_ok hE l (k + 1) hl' h ρ w _ Q hr (hp ρ w a undef hs1 rfl) hq
    · simp only at h
      split at h
      · rename_i q hqq
        intro ρ w a Q hr hs hq
        obtain ⟨hs1, hw⟩ := hg ρ w a hs
        rw [List.length_cons, List.range'_succ, wpOps_at hk, hw]
        simp only [if_true]
        refine .inl ((nilQ_ok hE.tab hqq hr hs1).wp fun u w' ⟨hw', hu⟩ => ?_)
        subst hw'
        obtain ⟨hA, hB⟩ := nilc_ok h
        rcases hu with rfl | ⟨hnil, rfl⟩
        · obtain ⟨σ2, h, hp⟩ := putS_ok hB
          exact evOps_ok hE l (k + 1) hl' h ρ w' _ Q hr (hp ρ w' a _ hs1 (Is.v _ rfl)) hq
        · obtain ⟨σ2, h, hp⟩ := putS_ok (hA hnil)
          exact evOps_ok hE l (k + 1) hl' h ρ w' _ Q hr (hp ρ w' a _ hs1 (Is.v _ rfl)) hq
      · obtain ⟨v, m1, h, hop⟩ := evOp_ok (n := E.n) hE o h
        obtain ⟨σ2, h, hp⟩ := putS_ok h
        intro ρ w a Q hr hs hq
        obtain ⟨hs1, hw⟩ := hg ρ w a hs
        rw [List.length_cons, List.range'_succ, wpOps_at hk, hw]
        simp only [if_true]
        refine .inl ((hop ρ w a hr hs1).wp fun u w' ⟨ρ', hgo, hr', hi⟩ => ?_)
        exact evOps_ok hE l (k + 1) hl' h ρ' w' _ Q hr' (hp _ _ _ u (hs1.keep hgo.fr hr.fits hgo.ext.toLe) hi) fun σ' m' ρ'' a' w'' hK hgo' hr'' hs'' => hq σ' m' ρ'' a' w'' hK (hgo.trans hr hgo') hr'' hs''
end
end Go.Proofs.Ytjfcfljdojkcdaa.Ev
