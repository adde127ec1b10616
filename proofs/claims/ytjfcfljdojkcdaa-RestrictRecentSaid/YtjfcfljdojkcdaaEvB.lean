/- The evaluator's state; operands, tests and whole numbers; each sound. -/
import Derived.Test.YtjfcfljdojkcdaaEvA
namespace Go.Proofs.Ytjfcfljdojkcdaa.Ev
open Go Go.RowKit
set_option linter.unusedVariables false
set_option linter.unusedSimpArgs false

/-- The temporaries that are known, the newest first. -/
def Sg (D : Nat → Type) := List (Nat × Tv D)
def Sg.find {D : Nat → Type} : List (Nat × Tv D) → Nat → Option (Tv D)
  | [], _ => none
  | (j, v) :: r, i => match Nat.beq j i with
    | true => some v
    | false => Sg.find r i
section
variable {R : Ro} {P : Program} {X : Type}
structure Sat (R : Ro) (ρ : Ow) (w : World) (n : Nat) (σ : List (Nat × Tv R.D)) (a : Act) : Prop where
  size : a.tmps.size = n
  defers : a.defers = []
  at_ : ∀ i v, Sg.find σ i = some v → ∃ u, a.tmps[i]? = some u ∧ IsT R ρ w v u
theorem Sat.keep {ρ ρ' : Ow} {w w' : World} {n : Nat} {σ : List (Nat × Tv R.D)} {a : Act} {H : Nat → Prop} (h : Sat R ρ w n σ a) (hf : Fr H w w') (hH : ∀ b, H b → ρ.F b) (hle : Le ρ w ρ') : Sat R ρ' w' n σ a :=
  ⟨h.size, h.defers, fun i v hv => let ⟨u, hu, ht⟩ := h.at_ i v hv; ⟨u, hu, ht.keep hf hH hle⟩⟩
theorem Sat.put {ρ : Ow} {w : World} {n : Nat} {σ : List (Nat × Tv R.D)} {a : Act} (h : Sat R ρ w n σ a) {d : Nat} (hd : d < n) {v : Tv R.D} {u : Value} (hv : IsT R ρ w v u) : Sat R ρ w n ((d, v) :: σ) (a.put (some d) u) := by
  refine ⟨by simp [Act.put, h.size], h.defers, fun i x hx => ?_⟩
  simp only [Sg.find] at hx
  split at hx
  · rename_i he
    have := Nat.eq_of_beq_eq_true he
    subst this
    simp only [Option.some.injEq] at hx
    subst hx
    exact ⟨u, by simp [Act.put, h.size, hd], hv⟩
  · rename_i he
    obtain ⟨y, hy, ht⟩ := h.at_ i x hx
    have hne : d ≠ i := fun e => by subst e; simp at he
    exact ⟨y, by simp [Act.put, Array.getElem?_setIfInBounds_ne hne, hy], ht⟩
theorem Sat.put_none {ρ : Ow} {w : World} {n : Nat} {σ : List (Nat × Tv R.D)} {a : Act} (h : Sat R ρ w n σ a) (u : Value) : Sat R ρ w n σ (a.put none u) := h

/-- A constant. -/
def litV {D : Nat → Type} (v : Value) : Option (Tv D) :=
  match v with
  | .agg cs => match cs.toList.all okV with
    | true => some (.agg (cs.toList.map .v))
    | false => none
  | x => match okV x with
    | true => some (.lf (.v x))
    | false => none
def opd {D : Nat → Type} (σ : List (Nat × Tv D)) : Operand → Option (Tv D)
  | .tmp t => Sg.find σ t
  | .const v => litV v
  | .global g => some (.lf (.v (.pointer (some ⟨g, 0, none⟩))))
  | .func f => some (.lf (.v (.func (.func f) #[] #[])))
theorem all2_vs {ρ : Ow} {w : World} : ∀ (l : List Value), l.all okV = true → All2 (Is R ρ w) (l.map .v) l
  | [], _ => .nil
  | v :: l, h => by
    simp only [List.all_cons, Bool.and_eq_true] at h
    exact .cons (.v v h.1) (all2_vs l h.2)
theorem litV_ok {ρ : Ow} {w : World} {u : Value} {v : Tv R.D} (h : litV u = some v) : IsT R ρ w v u := by
  unfold litV at h
  split at h
  · rename_i cs
    split at h
    · rename_i ha
      simp only [Option.some.injEq] at h
      subst h
      exact ⟨cs.toList, by simp, all2_vs _ ha⟩
    · cases h
  · split at h
    · rename_i ha
      simp only [Option.some.injEq] at h
      subst h
      exact Is.v _ ha
    · cases h
theorem opd_ok {ρ : Ow} {w : World} {n : Nat} {σ : List (Nat × Tv R.D)} {a : Act} (hs : Sat R ρ w n σ a) {x : Operand} {v : Tv R.D} (h : opd σ x = some v) : IsT R ρ w v (a.eval x) := by
  cases x with
  | tmp t =>
    obtain ⟨u, hu, ht⟩ := hs.at_ t v h
    simp only [Act.eval]
    rw [show a.tmps.getD t undef = u by simp [Array.getD_eq_getD_getElem?, hu]]
    exact ht
  | const u => exact litV_ok h
  | global g => simp only [opd, Option.some.injEq] at h; subst h; exact Is.v _ rfl
  | func f => simp only [opd, Option.some.injEq] at h; subst h; exact Is.v _ rfl

/-- Both ways of a test. -/
def brT {D : Nat → Type} (v : Tv D) (K : Bool → Option X) : Option X :=
  match v with
  | .lf (.cmp p d) => @ite _ p d (K true) (K false)
  | .lf (.v (.bool b)) => match b with
    | true => K true
    | false => K false
  | _ => none
theorem brT_ok {v : Tv R.D} {K : Bool → Option X} {x : X} (h : brT v K = some x) : ∃ b, K b = some x ∧ ∀ ρ w u, IsT R ρ w v u → u = .bool b := by
  unfold brT at h
  split at h
  · rename_i p d
    by_cases hp : p
    · rw [if_pos hp] at h
      refine ⟨true, h, fun ρ w u hu => ?_⟩
      cases hu
      exact congrArg _ (decide_eq_true hp)
    · rw [if_neg hp] at h
      refine ⟨false, h, fun ρ w u hu => ?_⟩
      cases hu
      exact congrArg _ (decide_eq_false hp)
  · rename_i b
    cases b
    · exact ⟨false, h, fun ρ w u hu => by cases hu; rfl⟩
    · exact ⟨true, h, fun ρ w u hu => by cases hu; rfl⟩
  · cases h

/-- What is asked of an operation that leaves 'u' in its temporary. -/
def Yld (P : Program) (o : Oper) (a : Act) (w : World) (post : Value → World → Prop) : Prop :=
  (∃ u w', (execOp a.eval o).run P w = .ok (.value u) w' ∧ post u w') ∨
  (∃ w', (execOp a.eval o).run P w = .ok .skip w' ∧ post undef w') ∨
  ∃ f args w', (execOp a.eval o).run P w = .ok (.enter f args) w' ∧ Calls P f args w' fun e w'' => ∃ u, e = .returned u ∧ post u w''
theorem Yld.val {o : Oper} {a : Act} {w w' : World} {u : Value} {post : Value → World → Prop} (h : (execOp a.eval o).run P w = .ok (.value u) w') (hp : post u w') : Yld P o a w post := .inl ⟨u, w', h, hp⟩
theorem Yld.skip {o : Oper} {a : Act} {w w' : World} {post : Value → World → Prop} (h : (execOp a.eval o).run P w = .ok .skip w') (hp : post undef w') : Yld P o a w post := .inr (.inl ⟨w', h, hp⟩)
theorem Yld.enter {o : Oper} {a : Act} {w w' : World} {f : FuncId} {args : Array Value} {post : Value → World → Prop} (h : (execOp a.eval o).run P w = .ok (.enter f args) w')
    (hc : Calls P f args w' fun e w'' => ∃ u, e = .returned u ∧ post u w'') : Yld P o a w post := .inr (.inr ⟨f, args, w', h, hc⟩)
theorem Yld.wp {o : Oper} {a : Act} {w : World} {post : Value → World → Prop} (h : Yld P o a w post) {next : Act → World → Prop} {Q : Exit → Act → World → Prop} (hn : ∀ u w', post u w' → next (a.put o.dst u) w') : o.wp P a w next Q := by
  unfold Oper.wp
  rcases h with ⟨u, w', h, hp⟩ | ⟨w', h, hp⟩ | ⟨f, args, w', h, hc⟩
  · rw [h]; exact hn _ _ hp
  · rw [h]; exact hn _ _ hp
  · rw [h]
    simp only [Oper.upon]
    exact hc.mono fun e w'' ⟨u, he, hp⟩ => by subst he; exact hn _ _ hp
theorem Yld.mono {o : Oper} {a : Act} {w : World} {post post' : Value → World → Prop} (h : Yld P o a w post) (hp : ∀ u w', post u w' → post' u w') : Yld P o a w post' := by
  rcases h with ⟨u, w', h, h'⟩ | ⟨w', h, h'⟩ | ⟨f, args, w', h, hc⟩
  · exact .inl ⟨u, w', h, hp _ _ h'⟩
  · exact .inr (.inl ⟨w', h, hp _ _ h'⟩)
  · exact .inr (.inr ⟨f, args, w', h, hc.mono fun e w'' ⟨u, he, h'⟩ => ⟨u, he, hp _ _ h'⟩⟩)
/-- What an operation does: its value and the memory behind it. -/
def OpOk (R : Ro) (P : Program) (n : Nat) (o : Oper) (σ : List (Nat × Tv R.D)) (m : List (Ent R.D)) (v : Tv R.D) (m' : List (Ent R.D)) : Prop :=
  ∀ (ρ : Ow) (w : World) (a : Act), Rel R ρ m w → Sat R ρ w n σ a → Yld P o a w fun u w' => ∃ ρ', Go R ρ m w ρ' m' w' ∧ Rel R ρ' m' w' ∧ IsT R ρ' w' v u
theorem OpOk.val {n : Nat} {o : Oper} {σ : List (Nat × Tv R.D)} {m : List (Ent R.D)} {v : Tv R.D}
    (h : ∀ (ρ : Ow) (w : World) (a : Act), Rel R ρ m w → Sat R ρ w n σ a → ∃ u, (execOp a.eval o).run P w = .ok (.value u) w ∧ IsT R ρ w v u) : OpOk R P n o σ m v m := by
  intro ρ w a hr hs
  obtain ⟨u, hu, ht⟩ := h ρ w a hr hs
  exact Yld.val hu ⟨ρ, Go.refl ρ m w, hr, ht⟩

/-- What an operation does that looks at no memory. -/
def OpV (R : Ro) (P : Program) (n : Nat) (o : Oper) (σ : List (Nat × Tv R.D)) (v : Tv R.D) : Prop :=
  ∀ (ρ : Ow) (w : World) (a : Act), Sat R ρ w n σ a → ∃ u, (execOp a.eval o).run P w = .ok (.value u) w ∧ IsT R ρ w v u
theorem OpV.ok {n : Nat} {o : Oper} {σ : List (Nat × Tv R.D)} {m : List (Ent R.D)} {v : Tv R.D} (h : OpV R P n o σ v) : OpOk R P n o σ m v m := OpOk.val fun ρ w a _ hs => h ρ w a hs

/-! ### Whole numbers -/
def wr (k : IntKind) (e : Int) : Int :=
  match k with
  | .i64 => wrap64 e
  | .i32 => wrap32 e
  | .u8 => e % 256
  | .u32 => e % 4294967296
  | k => k.wrap e
theorem wrap_i64 (n : Int) : IntKind.i64.wrap n = wrap64 n := by
  show (if (true && decide (n % 18446744073709551616 ≥ 9223372036854775808)) = true then n % 18446744073709551616 - 18446744073709551616 else n % 18446744073709551616) = wrap64 n
  by_cases h : n % 18446744073709551616 ≥ 9223372036854775808
  · simp only [h, decide_true, Bool.and_self, if_true, wrap64]; omega
  · simp only [h, decide_false, Bool.and_false, Bool.false_eq_true, if_false, wrap64]; omega
theorem wrap_i32 (n : Int) : IntKind.i32.wrap n = wrap32 n := by
  show (if (true && decide (n % 4294967296 ≥ 2147483648)) = true then n % 4294967296 - 4294967296 else n % 4294967296) = wrap32 n
  by_cases h : n % 4294967296 ≥ 2147483648
  · simp only [h, decide_true, Bool.and_self, if_true, wrap32]; omega
  · simp only [h, decide_false, Bool.and_false, Bool.false_eq_true, if_false, wrap32]; omega
theorem wr_eq (k : IntKind) (e : Int) : wr k e = k.wrap e := by
  cases k <;> first
    | exact (wrap_i64 e).symm
    | exact (wrap_i32 e).symm
    | rfl
end
end Go.Proofs.Ytjfcfljdojkcdaa.Ev
