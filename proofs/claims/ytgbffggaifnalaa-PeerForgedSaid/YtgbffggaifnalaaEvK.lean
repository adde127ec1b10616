/- The evaluator's regions, in the order of the text. -/
import Derived.Test.YtgbffggaifnalaaEvJ
namespace Go.Proofs.Ytgbffggaifnalaa.Ev
open Go Go.RowKit
set_option linter.unusedVariables false
set_option linter.unusedSimpArgs false
section
variable {R : Ro} {P : Program} {X : Type}
def putS {D : Nat → Type} (n : Nat) (dst : Option Tmp) (v : Tv D) (σ : List (Nat × Tv D)) (K : List (Nat × Tv D) → Option X) : Option X :=
  match dst with
  | none => K σ
  | some d => match Nat.blt d n with
    | true => K ((d, v) :: σ)
    | false => none
theorem putS_ok {n : Nat} {dst : Option Tmp} {v : Tv R.D} {σ : List (Nat × Tv R.D)} {K : List (Nat × Tv R.D) → Option X} {x : X} (h : putS n dst v σ K = some x) :
    ∃ σ', K σ' = some x ∧ ∀ (ρ : Ow) (w : World) (a : Act) (u : Value), Sat R ρ w n σ a → IsT R ρ w v u → Sat R ρ w n σ' (a.put dst u) := by
  unfold putS at h
  split at h
  · exact ⟨_, h, fun ρ w a u hs hi => hs⟩
  · split at h
    · rename_i hlt
      exact ⟨_, h, fun ρ w a u hs hi => hs.put (by rw [← Nat.blt_eq]; exact hlt) hi⟩
    · exact none_some h
def litB {D : Nat → Type} (b : Bool) : Tv D := .lf (.v (.bool b))
def eqB : Bool → Bool → Bool
  | true, b => b
  | false, true => false
  | false, false => true
/-- Is an operation carried out? Both ways. -/
def evGuard {D : Nat → Type} (ops : Array Oper) (g : Option (Nat × Bool)) (σ : List (Nat × Tv D)) (K : Bool → List (Nat × Tv D) → Option X) : Option X :=
  match g with
  | none => K true σ
  | some (j, want) => match ops[j]? with
    | some oj => match oj.dst with
      | some d => match Sg.find σ d with
        | some .un => K false σ
        | some v => brT v fun t => K (eqB t want) ((d, litB t) :: σ)
        | none => none
      | none => none
    | none => none
theorem evGuard_ok {ops : Array Oper} {o : Oper} {n : Nat} {σ : List (Nat × Tv R.D)} {K : Bool → List (Nat × Tv R.D) → Option X} {x : X} (h : evGuard ops o.guard σ K = some x) :
    ∃ t σ', K t σ' = some x ∧ ∀ (ρ : Ow) (w : World) (a : Act), Sat R ρ w n σ a → Sat R ρ w n σ' a ∧ Region.wanted o (yielded ops a.tmps) = t := by
  unfold evGuard at h
  split at h
  · rename_i hg
    exact ⟨_, _, h, fun ρ w a hs => ⟨hs, by simp [Region.wanted, hg]⟩⟩
  · rename_i j want hg
    split at h
    · rename_i oj hj
      split at h
      · rename_i d hd
        split at h
        · rename_i hf
          refine ⟨_, _, h, fun ρ w a hs => ⟨hs, ?_⟩⟩
          obtain ⟨u, hu, hi⟩ := hs.at_ _ _ hf
          have hi : u = undef := hi
          subst hi
          simp [Region.wanted, hg, yielded, hj, hd, hu, undef]
        · rename_i v _ hf
          obtain ⟨t, h, hb⟩ := brT_ok h
          refine ⟨_, _, h, fun ρ w a hs => ?_⟩
          obtain ⟨u, hu, hi⟩ := hs.at_ _ _ hf
          have := hb ρ w u hi
          subst this
          refine ⟨⟨hs.size, hs.defers, fun i v' hv' => ?_⟩, ?_⟩
          · simp only [Sg.find] at hv'
            split at hv'
            · rename_i he
              have := Nat.eq_of_beq_eq_true he
              subst this
              simp only [Option.some.injEq] at hv'
              subst hv'
              exact ⟨_, hu, Is.v _ rfl⟩
            · exact hs.at_ i v' hv'
          · simp only [Region.wanted, hg, yielded, hj, hd, hu, Option.bind_some]
            cases t <;> cases want <;> rfl
        · exact none_some h
      · exact none_some h
    · exact none_some h
/-- A region, in the order of the text. -/
def evOps (E : Env R) (ops : Array Oper) : List Oper → List (Nat × Tv R.D) → List (Ent R.D) → (List (Nat × Tv R.D) → List (Ent R.D) → Option X) → Option X
  | [], σ, m, K => K σ m
  | o :: r, σ, m, K => evGuard ops o.guard σ fun t σ => match t with
    | true => evOp E σ o.op m fun v m => putS E.n o.dst v σ fun σ => evOps E ops r σ m K
    | false => putS E.n o.dst .un σ fun σ => evOps E ops r σ m K
theorem wpOps_at {ops : Array Oper} {Q : Exit → Act → World → Prop} {k : Nat} {o : Oper} (hk : ops[k]? = some o) (rest : List Nat) (a : Act) (w : World) :
    wpOps P ops Q (k :: rest) a w = if Region.wanted o (yielded ops a.tmps) then o.wp P a w (wpOps P ops Q rest) Q ∨ (o.asks P a w ∧ LetsOut Q) else wpOps P ops Q rest (a.put o.dst undef) w := by
  simp only [wpOps, hk]
theorem evOps_ok {E : Env R} (hE : EnvOk P E) {ops : Array Oper} : ∀ (l : List Oper) (k : Nat) {σ : List (Nat × Tv R.D)} {m : List (Ent R.D)} {K : List (Nat × Tv R.D) → List (Ent R.D) → Option X} {x : X}, (∀ j, l[j]? = ops[k + j]?) → evOps E ops l σ m K = some x →
    ∃ σ' m', K σ' m' = some x ∧ ∀ (ρ : Ow) (w : World) (a : Act) (Q : Exit → Act → World → Prop), Rel R ρ m w → Sat R ρ w E.n σ a →
      (∀ ρ' a' w', Go R ρ m w ρ' m' w' → Rel R ρ' m' w' → Sat R ρ' w' E.n σ' a' → Q .normal a' w') → wpOps P ops Q (List.range' k l.length) a w
  | [], k, σ, m, K, x, _, h => ⟨σ, m, h, fun ρ w a Q hr hs hq => hq ρ a w (Go.refl ρ m w) hr hs⟩
  | o :: l, k, σ, m, K, x, hl, h => by
    have hk : ops[k]? = some o := by simpa using (hl 0).symm
    have hl' : ∀ j, l[j]? = ops[k + 1 + j]? := fun j => by have := hl (j + 1); simpa [Nat.add_assoc, Nat.add_comm 1 j] using this
    simp only [evOps] at h
    obtain ⟨t, σ1, h, hg⟩ := evGuard_ok (n := E.n) h
    cases t
    · obtain ⟨σ2, h, hp⟩ := putS_ok h
      obtain ⟨σ', m', h, hrest⟩ := evOps_ok hE l (k + 1) hl' h
      refine ⟨σ', m', h, fun ρ w a Q hr hs hq => ?_⟩
      obtain ⟨hs1, hw⟩ := hg ρ w a hs
      rw [List.length_cons, List.range'_succ, wpOps_at hk, hw]
      simp only [Bool.false_eq_true, if_false]
      exact hrest ρ w _ Q hr (hp ρ w a undef hs1 rfl) hq
    · obtain ⟨v, m1, h, hop⟩ := evOp_ok (n := E.n) hE o h
      obtain ⟨σ2, h, hp⟩ := putS_ok h
      obtain ⟨σ', m', h, hrest⟩ := evOps_ok hE l (k + 1) hl' h
      refine ⟨σ', m', h, fun ρ w a Q hr hs hq => ?_⟩
      obtain ⟨hs1, hw⟩ := hg ρ w a hs
      rw [List.length_cons, List.range'_succ, wpOps_at hk, hw]
      simp only [if_true]
      refine .inl ((hop ρ w a hr hs1).wp fun u w' ⟨ρ', hgo, hr', hi⟩ => ?_)
      exact hrest ρ' w' _ Q hr' (hp _ _ _ u (hs1.keep hgo.fr hr.fits hgo.ext.toLe) hi) fun ρ'' a' w'' hgo' hr'' hs'' => hq ρ'' a' w'' (hgo.trans hr hgo') hr'' hs''
end
end Go.Proofs.Ytgbffggaifnalaa.Ev
