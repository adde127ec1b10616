/- Words for the printed contracts: functions that are given by hand, several forms of one function, methods, orders. -/
import Derived.Test.YtjfcfljdojkcdaaEvP
namespace Go.Proofs.Ytjfcfljdojkcdaa.Ev
open Go Go.RowKit
set_option linter.unusedVariables false
set_option linter.unusedSimpArgs false
section
variable {R : Ro} {P : Program} {Y1 Y2 : Type}
theorem Go.form {ρ ρ' : Ow} {m m' : List (Ent R.D)} {w w' : World} {s : List Es} {l : List (Lf R.D)} (h : flatE s m = some l) {ls : List (Lf R.D)} (hr : All2 (Rf R) l ls) (hg : Go R ρ (unflatE s ls) w ρ' m' w') : Go R ρ m w ρ' m' w' :=
  ⟨⟨hg.ext.toLe, fun b hb hn => hg.ext.F2 b hb fun hh => hn ((heldE h hr).1 hh), fun b hb => (hg.ext.held b hb).imp (heldE h hr).1 id, fun i hi => hg.ext.dead i ((deadE h hr).2 hi)⟩, hg.fr.imp fun b hb => (heldE h hr).1 hb⟩
theorem sem_ok {fid : FuncId} {F : FnS R Y1 Y2} {f : Y1 → Option Y2} (h : ∀ y r, f y = some r → ∀ (ρ : Ow) (w : World) (us : List Value), Rel R ρ (unflatE F.esIn (dr (shN F.shIn) (F.DI.enc y))) w → All2 (IsT R ρ w) (unflats F.shIn (F.DI.enc y)) us →
    CallOk P fid us w (Post R ρ (unflatE F.esIn (dr (shN F.shIn) (F.DI.enc y))) w (unflat F.shOut (F.DO.enc r)) (unflatE F.esOut (dr F.shOut.n (F.DO.enc r))))) : CsemOk R P fid (F.sem f) := by
  intro X args m K x hx
  unfold FnS.sem at hx
  split at hx
  · rename_i la hla
    split at hx
    · rename_i lb hlb
      split at hx
      · rename_i y hy
        obtain ⟨r, hr, hx⟩ := Option.bind_eq_some_iff.1 hx
        refine ⟨_, _, hx, fun ρ w us hrel hargs => ?_⟩
        have hrf := F.DI.ok _ _ hy
        obtain ⟨hall, hrest⟩ := flats_ok hla hrf hargs
        exact (h y r hr ρ w us (relE hlb hrest hrel) hall).mono fun u w' ⟨ρ', hg, h1, h2⟩ => ⟨ρ', hg.form hlb hrest, h1, h2⟩
      · cases hx
    · cases hx
  · cases hx
theorem call_enter {fid : FuncId} {fn : Func} {body : Code} (hfn : P.funcs[fid]? = some fn) (hb : fn.body = some body) (hnm : (fn.name == "runtime.NumGoroutine") = false) (us : Array Value) (w : World) : (callFunc fid us).run P w = .ok (.enter fid us) w := by
  unfold callFunc
  simp only [Sem.run_bind, run_program, Result.andThen_ok, hfn, hnm, hb]
  simp
theorem all2_cons {α β : Type} {r : α → β → Prop} {a : α} {l : List α} {m : List β} (h : All2 r (a :: l) m) : ∃ b m', m = b :: m' ∧ r a b ∧ All2 r l m' := by
  cases h with
  | cons h0 h1 => exact ⟨_, _, rfl, h0, h1⟩
theorem post_still {ρ : Ow} {w : World} {v : Tv R.D} {m : List (Ent R.D)} {u : Value} (hr : Rel R ρ m w) (hv : IsT R ρ w v u) : Post R ρ m w v m u w :=
  ⟨ρ, Go.refl ρ m w, hr, hv⟩
theorem u64_ok {n : Int} (h0 : 0 ≤ n) (h1 : n < 18446744073709551616) : okV (.int .u64 n) = true := by
  show (Lit.int .u64 n).wf = true
  have h2 : IntKind.min .u64 = 0 := by decide
  have h3 : IntKind.max .u64 = 18446744073709551615 := by decide
  simp only [Lit.wf, h2, h3, Bool.and_eq_true, decide_eq_true_eq]
  omega
theorem u64_le {n : Int} (h : okV (.int .u64 n) = true) : n ≤ 18446744073709551615 := by
  have h : (Lit.int .u64 n).wf = true := h
  have h3 : IntKind.max .u64 = 18446744073709551615 := by decide
  simp only [Lit.wf, h3, Bool.and_eq_true, decide_eq_true_eq] at h
  exact h.2
theorem is_v {ρ : Ow} {w : World} {v u : Value} (h : IsT R ρ w (.lf (.v v)) u) : u = v ∧ okV v = true := by
  have h : Is R ρ w (.v v) u := h
  cases h with
  | v _ hv => exact ⟨rfl, hv⟩
def dEpt (c j : Nat) : Dl R (R.D c) where
  dec := fun | .ept c' l i j' => (match h : Nat.beq c' c with | true => (match Nat.beq j' j with | true => some ((Nat.eq_of_beq_eq_true h) ▸ (l.getD i.toNat (R.z c'))) | false => none) | false => none) | _ => none
  enc := fun x => .ept c [x] 0 j
  ok := fun l y h => by
    split at h
    · rename_i c' l i j'
      split at h
      · rename_i hc
        split at h
        · rename_i hj
          have := Nat.eq_of_beq_eq_true hc
          subst this
          have := Nat.eq_of_beq_eq_true hj
          subst this
          cases h
          refine ⟨fun ρ w u hu => ?_, fun c x e => by cases e⟩
          cases hu with
          | ept _ _ b o _ _ f hb hn h0 h1 hc hv =>
            have hx : l[i.toNat]? = some (l.getD i.toNat (R.z c')) := by
              rw [List.getD_eq_getElem?_getD, List.getElem?_eq_getElem h1]; rfl
            have := Is.ept (R := R) (ρ := ρ) (w := w) c' [l.getD i.toNat (R.z c')] b (o + i.toNat * R.sz c') 0 j' (fun q p => f (i.toNat + q) p) hb hn (by decide) (by simp) (fun q p hq hp => by
              have hq : q = 0 := by simp at hq; exact hq
              subst hq
              simpa using hc i.toNat p h1 hp) (fun q x p lf hq hp => by
              cases q with
              | zero =>
                simp only [List.getElem?_cons_zero, Option.some.injEq] at hq
                subst hq
                exact hv _ _ _ _ hx hp
              | succ q => simp at hq)
            simpa using this
        · cases h
      · cases h
    · cases h
/-- The same data in another form. -/
def DL.to {Y Z : Type} (d : DL R Y) (f : Y → Z) (g : Z → Y) (h : ∀ y, g (f y) = y) : DL R Z where
  dec := fun ls => match d.dec ls with
    | some y => some (f y)
    | none => none
  enc := fun z => d.enc (g z)
  ok := fun ls y hy => by
    split at hy
    · rename_i y' hd
      cases hy
      rw [h]
      exact d.ok _ _ hd
    · cases hy
def codeOf : List (Nat × RoT R) → Nat → Option (RoT R)
  | [], _ => none
  | (j, o) :: r, i => match Nat.beq j i with
    | true => some o
    | false => codeOf r i
/-- One function in several forms. -/
def FnS.semOr (F : FnS R Y1 Y2) (f : Y1 → Option Y2) (s : Csem R) : Csem R := fun X args m K =>
  match flats F.shIn args with
  | some a => match flatE F.esIn m with
    | some b => match F.DI.dec (a ++ b) with
      | some y => (f y).bind fun r => K (unflat F.shOut (F.DO.enc r)) (unflatE F.esOut (dr F.shOut.n (F.DO.enc r)))
      | none => s X args m K
    | none => s X args m K
  | none => s X args m K
theorem semOr_ok {fid : FuncId} {F : FnS R Y1 Y2} {f : Y1 → Option Y2} {s : Csem R} (h : CsemOk R P fid (F.sem f)) (hs : CsemOk R P fid s) : CsemOk R P fid (F.semOr f s) := by
  intro X args m K x hx
  unfold FnS.semOr at hx
  split at hx
  · rename_i la hla
    split at hx
    · rename_i lb hlb
      split at hx
      · rename_i y hy
        refine h X args m K x ?_
        unfold FnS.sem
        rw [hla]
        dsimp only
        rw [hlb]
        dsimp only
        rw [hy]
        exact hx
      · exact hs X args m K x hx
    · exact hs X args m K x hx
  · exact hs X args m K x hx
def MtOne (P : Program) (t : TypeId) (name : String) (f : FuncId) : Prop := ∀ (a : Addr) (w : World), (method (P.types.size + Made.depth) t (.pointer (some a)) name).run P w = .ok (f, .pointer (some a)) w
def mtOf : List (TypeId × String × FuncId) → TypeId → String → Option FuncId
  | [], _, _ => none
  | (t, n, f) :: r, t', n' => match Nat.beq t t' with
    | true => match n == n' with
      | true => some f
      | false => mtOf r t' n'
    | false => mtOf r t' n'
inductive MtL (P : Program) : List (TypeId × String × FuncId) → Prop
  | nil : MtL P []
  | cons {t : TypeId} {n : String} {f : FuncId} {r : List (TypeId × String × FuncId)} : MtOne P t n f → MtL P r → MtL P ((t, n, f) :: r)
theorem mt_nil : MtL P [] := .nil
theorem mt_cons {t : TypeId} {n : String} {f : FuncId} {r : List (TypeId × String × FuncId)} (h : MtOne P t n f) (hr : MtL P r) : MtL P ((t, n, f) :: r) := .cons h hr
theorem mtOf_ok {l : List (TypeId × String × FuncId)} (h : MtL P l) : MtOk P (mtOf l) := by
  induction h with
  | nil => intro t n f hf; simp [mtOf] at hf
  | cons h0 _ ih =>
    intro t n f hf
    simp only [mtOf] at hf
    split at hf
    · rename_i ht
      split at hf
      · rename_i hn
        cases hf
        rw [← Nat.eq_of_beq_eq_true ht, ← eq_of_beq hn]
        exact h0
      · exact ih t n f hf
    · exact ih t n f hf
def ownOf : List (TypeId × List (Nat × Nat × TypeId × Nat)) → TypeId → List (Nat × Nat × TypeId × Nat)
  | [], _ => []
  | (j, l) :: r, i => match Nat.beq j i with
    | true => l
    | false => ownOf r i
def ordOf : List (Nat × List (Nat × Nat)) → Nat → List (Nat × Nat)
  | [], _ => []
  | (j, o) :: r, i => match Nat.beq j i with
    | true => o
    | false => ordOf r i
end
end Go.Proofs.Ytjfcfljdojkcdaa.Ev
