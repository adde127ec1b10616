/- The evaluator over what is left to do, sound for every cut. -/
import Derived.Test.YtjfcfljdojkcdaaEvL
namespace Go.Proofs.Ytjfcfljdojkcdaa.Ev
open Go Go.RowKit
set_option linter.unusedVariables false
set_option linter.unusedSimpArgs false
section
variable {R : Ro} {P : Program} {X : Type}

/-! ### Where the regions stand -/
def posOf : Code → List Item → List (Nat × List Item)
  | .region id ops d, k => [(2 * id, .code (.region id ops d) :: k), (2 * id + 1, k)]
  | .seq a b, k => posOf a (.code b :: k) ++ posOf b k
  | .cond _ x y, k => posOf x k ++ posOf y k
  | .block id b, k => posOf b (.inBlock id :: k)
  | .loop b, k => posOf b (.inLoop b :: k)
  | .scope b, k => posOf b (.inScope b :: k)
  | _, _ => []
def AllIn (L : List (Nat × List Item)) : List Item → Prop
  | [] => True
  | x :: k => AllIn L k ∧ match x with
    | .code c => ∀ p ∈ posOf c k, p ∈ L
    | .inLoop b => ∀ p ∈ posOf b (.inLoop b :: k), p ∈ L
    | .inScope b => ∀ p ∈ posOf b (.inScope b :: k), p ∈ L
    | _ => True
theorem AllIn.exit {L : List (Nat × List Item)} {id : Nat} : ∀ {k k' : List Item}, AllIn L k → exitTo id k = some k' → AllIn L k'
  | [], k', _, h => by simp [exitTo] at h
  | x :: k, k', hL, h => by
    cases x <;> simp only [exitTo] at h <;> first
      | exact AllIn.exit hL.1 h
      | (split at h
         · simp only [Option.some.injEq] at h; subst h; exact hL.1
         · exact AllIn.exit hL.1 h)
theorem findLabel_pos {l : Nat} : ∀ {c r : Code} (k : List Item), findLabel c l = some r → ∀ p ∈ posOf r k, p ∈ posOf c k := by
  intro c
  induction c with
  | seq a b iha ihb =>
    intro r k h p hp
    simp only [findLabel] at h
    split at h
    · rename_i rest hr
      simp only [Option.some.injEq] at h
      subst h
      simp only [posOf, List.mem_append] at hp ⊢
      exact hp.imp (iha _ hr p) id
    · simp only [posOf, List.mem_append]
      exact .inr (ihb k h p hp)
  | label l' =>
    intro r k h p hp
    simp only [findLabel] at h
    split at h
    · simp only [Option.some.injEq] at h; subst h; simp [posOf] at hp
    · cases h
  | _ => intro r k h; simp [findLabel] at h
theorem AllIn.goto {L : List (Nat × List Item)} {l : Nat} : ∀ {k k' : List Item}, AllIn L k → gotoIn l k = some k' → AllIn L k'
  | [], k', _, h => by simp [gotoIn] at h
  | x :: k, k', hL, h => by
    cases x <;> simp only [gotoIn] at h <;> first
      | exact AllIn.goto hL.1 h
      | (split at h
         · rename_i rest hr
           simp only [Option.some.injEq] at h
           subst h
           exact ⟨hL, fun p hp => hL.2 p (findLabel_pos _ hr p hp)⟩
         · exact AllIn.goto hL.1 h)
def lookL : List (Nat × List Item) → Nat → Option (List Item)
  | [], _ => none
  | (j, t) :: r, i => match Nat.beq j i with
    | true => some t
    | false => lookL r i
def keysB : List (Nat × List Item) → List Nat
  | [] => []
  | (j, _) :: r => j :: keysB r
theorem lookL_ok : ∀ {L : List (Nat × List Item)}, nodupB (keysB L) = true → ∀ {key : Nat} {t : List Item}, (key, t) ∈ L → lookL L key = some t := by
  have mem : ∀ {L : List (Nat × List Item)} {key : Nat} {t : List Item}, (key, t) ∈ L → key ∈ keysB L := by
    intro L
    induction L with
    | nil => intro key t h; simp at h
    | cons p L ih =>
      obtain ⟨j, s⟩ := p
      intro key t h
      simp only [keysB, List.mem_cons]
      rcases List.mem_cons.1 h with h | h
      · exact .inl (Prod.mk.inj h).1
      · exact .inr (ih h)
  intro L
  induction L with
  | nil => intro _ key t h; simp at h
  | cons p L ih =>
    obtain ⟨j, s⟩ := p
    intro hn key t h
    have hnd := nodupB_ok hn
    simp only [keysB, List.nodup_cons] at hnd
    have hn' : nodupB (keysB L) = true := by
      simp only [keysB, nodupB] at hn
      split at hn
      · cases hn
      · exact hn
    simp only [lookL]
    rcases List.mem_cons.1 h with h | h
    · obtain ⟨h1, h2⟩ := Prod.mk.inj h
      subst h1; subst h2
      simp
    · have hne : j ≠ key := fun e => by subst e; exact hnd.1 (mem h)
      split
      · rename_i he; exact absurd (Nat.eq_of_beq_eq_true he) hne
      · exact ih hn' h

/-! ### Results -/
def tvA {D : Nat → Type} : Tv D → Option (Av D)
  | .lf l => some (.lf l)
  | .agg cs => some (.agg cs)
  | _ => none
def evRes (R : Ro) (tab : Nat → Option TI) (σ : List (Nat × Tv R.D)) (m : List (Ent R.D)) : List ResultVar → Option (List (Av R.D))
  | [] => some []
  | .tmp t :: r => match Sg.find σ t with
    | some v => match tvA v with
      | some a => match evRes R tab σ m r with
        | some l => some (a :: l)
        | none => none
      | none => none
    | none => none
  | .cell t ty :: r => match Sg.find σ t with
    | some v => match evLoad R tab ty v m tvA with
      | some a => match evRes R tab σ m r with
        | some l => some (a :: l)
        | none => none
      | none => none
    | none => none
def resOne (tmps : Array Value) : ResultVar → Sem Value
  | .tmp t => pure (tmps.getD t undef)
  | .cell a t => do loadVar t (← asAddr (tmps.getD a undef))
theorem tvA_ok {ρ : Ow} {w : World} {v : Tv R.D} {a : Av R.D} {u : Value} (h : tvA v = some a) (hu : IsT R ρ w v u) : IsA R ρ w a u := by
  unfold tvA at h
  split at h
  · cases h; exact hu
  · cases h; exact hu
  · exact none_some h
theorem evRes_ok {tab : Nat → Option TI} (ht : TabOk P tab) {n : Nat} {σ : List (Nat × Tv R.D)} {m : List (Ent R.D)} {ρ : Ow} {w : World} {a : Act} (hr : Rel R ρ m w) (hs : Sat R ρ w n σ a) : ∀ (l : List ResultVar) {vs : List (Av R.D)}, evRes R tab σ m l = some vs →
    ∃ us : List Value, (l.mapM (resOne a.tmps)).run P w = .ok us w ∧ All2 (IsA R ρ w) vs us
  | [], vs, h => by simp only [evRes, Option.some.injEq] at h; subst h; exact ⟨[], rfl, .nil⟩
  | .tmp t :: l, vs, h => by
    simp only [evRes] at h
    split at h
    · rename_i v hv
      split at h
      · rename_i av hav
        split at h
        · rename_i r hr'
          simp only [Option.some.injEq] at h
          subst h
          obtain ⟨us, hus, ha⟩ := evRes_ok ht hr hs l hr'
          obtain ⟨u, hu, hi⟩ := hs.at_ _ _ hv
          refine ⟨u :: us, ?_, .cons (tvA_ok hav hi) ha⟩
          have hg : a.tmps.getD t undef = u := by simp [Array.getD_eq_getD_getElem?, hu]
          simp only [List.mapM_cons, resOne, Sem.run_bind, hg, Sem.run_pure, Result.andThen_ok]
          rw [hus]
          rfl
        · exact none_some h
      · exact none_some h
    · exact none_some h
  | .cell t ty :: l, vs, h => by
    simp only [evRes] at h
    split at h
    · rename_i v hv
      split at h
      · rename_i av hav
        split at h
        · rename_i r hr'
          simp only [Option.some.injEq] at h
          subst h
          obtain ⟨us, hus, ha⟩ := evRes_ok ht hr hs l hr'
          obtain ⟨rr, hrr, hrun⟩ := evLoad_run ht hav
          have hpt := opd_ok hs (show opd σ (.tmp t) = some v from hv)
          obtain ⟨ad, u, he, hl, hi⟩ := hrun ρ w _ hr hpt
          have he : a.tmps.getD t undef = .pointer (some ad) := he
          refine ⟨u :: us, ?_, .cons (tvA_ok hrr hi) ha⟩
          simp only [List.mapM_cons, resOne, Sem.run_bind, he, asAddr, Sem.run_pure, Result.andThen_ok, hl]
          rw [hus]
          rfl
        · exact none_some h
      · exact none_some h
    · exact none_some h
def tvOf {D : Nat → Type} : List (Av D) → Tv D
  | [a] => avT a
  | vs => .tup vs
theorem results_ok {tab : Nat → Option TI} (ht : TabOk P tab) {n : Nat} {σ : List (Nat × Tv R.D)} {m : List (Ent R.D)} {ρ : Ow} {w : World} {a : Act} (hr : Rel R ρ m w) (hs : Sat R ρ w n σ a) (fn : Func) {vs : List (Av R.D)} (h : evRes R tab σ m fn.results.toList = some vs) :
    ∃ u, (results fn a.tmps).run P w = .ok u w ∧ IsT R ρ w (tvOf vs) u := by
  obtain ⟨us, hus, ha⟩ := evRes_ok ht hr hs _ h
  have hrun : (results fn a.tmps).run P w = .ok (if h : us.toArray.size = 1 then us.toArray[0] else .tuple us.toArray) w := by
    have e : results fn a.tmps = (do let vs ← fn.results.mapM (resOne a.tmps); pure (if h : vs.size = 1 then vs[0] else .tuple vs) : Sem Value) := rfl
    rw [e, Sem.run_bind, Array.mapM_eq_mapM_toList, Sem.run_map, hus]
    rfl
  refine ⟨_, hrun, ?_⟩
  cases ha with
  | nil => exact ⟨[], rfl, .nil⟩
  | @cons a0 u0 l0 us0 h0 h1 =>
    cases h1 with
    | nil => exact avT_ok h0
    | @cons a1 u1 l1 us1 h1 h2 => exact ⟨u0 :: u1 :: us1, by simp, .cons h0 (.cons h1 h2)⟩
end
end Go.Proofs.Ytjfcfljdojkcdaa.Ev
