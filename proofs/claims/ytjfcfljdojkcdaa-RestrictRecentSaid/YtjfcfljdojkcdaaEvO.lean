/- From plain data to the evaluator's values and back; a function's contract out of one equation for each cut. -/
import Derived.Test.YtjfcfljdojkcdaaEvN
namespace Go.Proofs.Ytjfcfljdojkcdaa.Ev
open Go Go.RowKit
set_option linter.unusedVariables false
set_option linter.unusedSimpArgs false
section
variable {R : Ro} {P : Program}
def dInt (k : IntKind) : Dl R Int where
  dec := fun | .v (.int k' n) => (match Nat.beq (ikN k) (ikN k') with | true => some n | false => none) | _ => none
  enc := fun n => .v (.int k n)
  ok := fun l y h => by
    split at h
    · split at h
      · rename_i hk
        cases h
        rw [ikN_inj hk]
        exact Rf.refl _
      · cases h
    · cases h
def dBool : Dl R Bool where
  dec := lfB
  enc := fun b => .v (.bool b)
  ok := fun l y h => ⟨fun ρ w u hu => by rw [lfB_ok h hu]; exact Is.v _ rfl, fun c x e => by subst e; cases h⟩
def dStr : Dl R ByteArray where
  dec := fun | .v (.string s) => some s | _ => none
  enc := fun s => .v (.string s)
  ok := fun l y h => by
    split at h
    · cases h; exact Rf.refl _
    · cases h
def dRo (c : Nat) : Dl R (List (R.D c)) where
  dec := fun | .ro c' l => (match h : Nat.beq c' c with | true => some ((Nat.eq_of_beq_eq_true h) ▸ l) | false => none) | .v (.slice none 0 0) => some [] | _ => none
  enc := fun l => .ro c l
  ok := fun l y h => by
    split at h
    · rename_i c' l
      split at h
      · rename_i hc
        have := Nat.eq_of_beq_eq_true hc
        subst this
        cases h
        exact Rf.refl _
      · cases h
    · cases h
      exact ⟨fun ρ w u hu => by cases hu; exact Is.nil c none 0, fun c x e => by cases e⟩
    · cases h
def DL.nil : DL R Unit where
  dec := fun | [] => some () | _ => none
  enc := fun _ => []
  ok := fun ls y h => by
    split at h
    · exact .nil
    · cases h
def DL.last {Y : Type} (d : Dl R Y) (r : DL R Unit) : DL R Y where
  dec := fun | l :: ls => (match r.dec ls with | some _ => d.dec l | none => none) | _ => none
  enc := fun y => d.enc y :: r.enc ()
  ok := fun ls y h => by
    split at h
    · split at h
      · rename_i u hr
        exact .cons (d.ok _ _ h) (r.ok _ _ hr)
      · cases h
    · cases h
def DL.cons {Y Z : Type} (d : Dl R Y) (r : DL R Z) : DL R (Y × Z) where
  dec := fun | l :: ls => (match d.dec l with | some y => (match r.dec ls with | some z => some (y, z) | none => none) | none => none) | _ => none
  enc := fun y => d.enc y.1 :: r.enc y.2
  ok := fun ls y h => by
    split at h
    · split at h
      · rename_i y' hy
        split at h
        · rename_i z hz
          cases h
          exact .cons (d.ok _ _ hy) (r.ok _ _ hz)
        · cases h
      · cases h
    · cases h
/-- A pointer that is known. -/
def DL.ptr {Z : Type} (h o : Nat) (r : DL R Z) : DL R Z where
  dec := fun | .ptr h' o' :: ls => (match Nat.beq h' h with | true => (match Nat.beq o' o with | true => r.dec ls | false => none) | false => none) | _ => none
  enc := fun z => .ptr h o :: r.enc z
  ok := fun ls y hh => by
    split at hh
    · split at hh
      · rename_i h1
        split at hh
        · rename_i h2
          rw [← Nat.eq_of_beq_eq_true h1, ← Nat.eq_of_beq_eq_true h2]
          exact .cons (Rf.refl _) (r.ok _ _ hh)
        · cases hh
      · cases hh
    · cases hh
/-- An interface of a pointer that is known. -/
def DL.ifc {Z : Type} (t h o : Nat) (r : DL R Z) : DL R Z where
  dec := fun | .ifc t' h' o' :: ls => (match Nat.beq t' t with | true => (match Nat.beq h' h with | true => (match Nat.beq o' o with | true => r.dec ls | false => none) | false => none) | false => none) | _ => none
  enc := fun z => .ifc t h o :: r.enc z
  ok := fun ls y hh => by
    split at hh
    · split at hh
      · rename_i h0
        split at hh
        · rename_i h1
          split at hh
          · rename_i h2
            rw [← Nat.eq_of_beq_eq_true h1, ← Nat.eq_of_beq_eq_true h2, ← Nat.eq_of_beq_eq_true h0]
            exact .cons (Rf.refl _) (r.ok _ _ hh)
          · cases hh
        · cases hh
      · cases hh
    · cases hh
def beqPs : List (Nat × Nat) → List (Nat × Nat) → Bool
  | [], [] => true
  | (a, b) :: l, (a', b') :: l' => match Nat.beq a a' with
    | true => match Nat.beq b b' with
      | true => beqPs l l'
      | false => false
    | false => false
  | _, _ => false
theorem beqPs_ok : ∀ {l l' : List (Nat × Nat)}, beqPs l l' = true → l = l'
  | [], [], _ => rfl
  | (a, b) :: l, (a', b') :: l', h => by
    simp only [beqPs] at h
    split at h
    · rename_i h0
      split at h
      · rename_i h1
        rw [Nat.eq_of_beq_eq_true h0, Nat.eq_of_beq_eq_true h1, beqPs_ok h]
      · cases h
    · cases h
  | [], _ :: _, h => by simp [beqPs] at h
  | _ :: _, [], h => by simp [beqPs] at h
/-- A closure that is known. -/
def DL.fnc {Z : Type} (f : Nat) (cs : List (Nat × Nat)) (r : DL R Z) : DL R Z where
  dec := fun | .fn f' cs' :: ls => (match Nat.beq f' f with | true => (match beqPs cs' cs with | true => r.dec ls | false => none) | false => none) | _ => none
  enc := fun z => .fn f cs :: r.enc z
  ok := fun ls y hh => by
    split at hh
    · split at hh
      · rename_i h0
        split at hh
        · rename_i h1
          rw [← Nat.eq_of_beq_eq_true h0, ← beqPs_ok h1]
          exact .cons (Rf.refl _) (r.ok _ _ hh)
        · cases hh
      · cases hh
    · cases hh
/-- A function that is known. -/
def DL.fnv {Z : Type} (f : Nat) (r : DL R Z) : DL R Z where
  dec := fun | .v (.func (.func f') ⟨[]⟩ ⟨[]⟩) :: ls => (match Nat.beq f' f with | true => r.dec ls | false => none) | _ => none
  enc := fun z => .v (.func (.func f) #[] #[]) :: r.enc z
  ok := fun ls y hh => by
    split at hh
    · split at hh
      · rename_i h0
        rw [← Nat.eq_of_beq_eq_true h0]
        exact .cons (Rf.refl _) (r.ok _ _ hh)
      · cases hh
    · cases hh
/-- A slice's own row that is known. -/
def DL.row {Z : Type} (c h : Nat) (r : DL R Z) : DL R Z where
  dec := fun | .row c' h' :: ls => (match Nat.beq c' c with | true => (match Nat.beq h' h with | true => r.dec ls | false => none) | false => none) | _ => none
  enc := fun z => .row c h :: r.enc z
  ok := fun ls y hh => by
    split at hh
    · split at hh
      · rename_i h1
        split at hh
        · rename_i h2
          rw [← Nat.eq_of_beq_eq_true h1, ← Nat.eq_of_beq_eq_true h2]
          exact .cons (Rf.refl _) (r.ok _ _ hh)
        · cases hh
      · cases hh
    · cases hh
/-- A part of a slice's own row that is known. -/
def dSl (c h : Nat) : Dl R (Nat × Nat) where
  dec := fun | .sl c' h' o n => (match Nat.beq c' c with | true => (match Nat.beq h' h with | true => some (o, n) | false => none) | false => none) | _ => none
  enc := fun p => .sl c h p.1 p.2
  ok := fun l y hh => by
    split at hh
    · split at hh
      · rename_i h1
        split at hh
        · rename_i h2
          cases hh
          rw [← Nat.eq_of_beq_eq_true h1, ← Nat.eq_of_beq_eq_true h2]
          exact Rf.refl _
        · cases hh
      · cases hh
    · cases hh
/-- Nothing but a nil slice. -/
def DL.nils {Z : Type} (r : DL R Z) : DL R Z where
  dec := fun | .v (.slice none 0 0) :: ls => r.dec ls | _ => none
  enc := fun z => .v (.slice none 0 0) :: r.enc z
  ok := fun ls y hh => by
    split at hh
    · exact .cons (Rf.refl _) (r.ok _ _ hh)
    · cases hh
/-- Nothing but a nil pointer. -/
def DL.nilp {Z : Type} (r : DL R Z) : DL R Z where
  dec := fun | .v (.pointer none) :: ls => r.dec ls | _ => none
  enc := fun z => .v (.pointer none) :: r.enc z
  ok := fun ls y hh => by
    split at hh
    · exact .cons (Rf.refl _) (r.ok _ _ hh)
    · cases hh

inductive Sh where
  | lf
  | agg (n : Nat)
  | tup (l : List (Option Nat))
  | un
def cutN {D : Nat → Type} : Nat → List (Lf D) → Option (List (Lf D))
  | 0, [] => some []
  | n + 1, l :: ls => match cutN n ls with
    | some r => some (l :: r)
    | none => none
  | _, _ => none
theorem cutN_ok {D : Nat → Type} : ∀ {n : Nat} {ls r : List (Lf D)}, cutN n ls = some r → r = ls ∧ ls.length = n
  | 0, [], r, h => by simp only [cutN, Option.some.injEq] at h; subst h; exact ⟨rfl, rfl⟩
  | 0, _ :: _, r, h => by simp [cutN] at h
  | n + 1, [], r, h => by simp [cutN] at h
  | n + 1, l :: ls, r, h => by
    simp only [cutN] at h
    split at h
    · rename_i q hq
      cases h
      obtain ⟨rfl, h1⟩ := cutN_ok hq
      exact ⟨rfl, by simp [h1]⟩
    · cases h
def flatA {D : Nat → Type} : List (Option Nat) → List (Av D) → Option (List (Lf D))
  | [], [] => some []
  | none :: s, .lf l :: vs => match flatA s vs with
    | some r => some (l :: r)
    | none => none
  | some n :: s, .agg cs :: vs => match cutN n cs with
    | some cs => match flatA s vs with
      | some r => some (cs ++ r)
      | none => none
    | none => none
  | _, _ => none
def flat {D : Nat → Type} : Sh → Tv D → Option (List (Lf D))
  | .lf, .lf l => some [l]
  | .agg n, .agg cs => cutN n cs
  | .tup l, .tup vs => flatA l vs
  | .un, .un => some []
  | _, _ => none
/-- The first 'n', and what is left. -/
def tk {D : Nat → Type} : Nat → List (Lf D) → List (Lf D)
  | 0, _ => []
  | _, [] => []
  | n + 1, l :: ls => l :: tk n ls
def dr {D : Nat → Type} : Nat → List (Lf D) → List (Lf D)
  | 0, ls => ls
  | _, [] => []
  | n + 1, _ :: ls => dr n ls
def unflatA {D : Nat → Type} : List (Option Nat) → List (Lf D) → List (Av D)
  | none :: s, l :: ls => .lf l :: unflatA s ls
  | some n :: s, ls => .agg (tk n ls) :: unflatA s (dr n ls)
  | _, _ => []
def Sh.n : Sh → Nat
  | .lf => 1
  | .agg n => n
  | .tup l => go l
  | .un => 0
 where go : List (Option Nat) → Nat
  | [] => 0
  | none :: s => 1 + go s
  | some n :: s => n + go s
def unflat {D : Nat → Type} : Sh → List (Lf D) → Tv D
  | .lf, l :: _ => .lf l
  | .lf, [] => .un
  | .agg n, ls => .agg (tk n ls)
  | .tup l, ls => .tup (unflatA l ls)
  | .un, _ => .un
def flats {D : Nat → Type} : List Sh → List (Tv D) → Option (List (Lf D))
  | [], [] => some []
  | s :: ss, v :: vs => match flat s v with
    | some l => match flats ss vs with
      | some r => some (l ++ r)
      | none => none
    | none => none
  | _, _ => none
def unflats {D : Nat → Type} : List Sh → List (Lf D) → List (Tv D)
  | [], _ => []
  | s :: ss, ls => unflat s ls :: unflats ss (dr s.n ls)
def shN : List Sh → Nat
  | [] => 0
  | s :: ss => s.n + shN ss
/-- An entry's form: a block of so many cells; a row of elements of a code; nothing. -/
inductive Es where
  | blk (n : Nat) (t : TypeId)
  | row (c : Nat) (t : TypeId)
  | dead
def flatE {D : Nat → Type} : List Es → List (Ent D) → Option (List (Lf D))
  | [], [] => some []
  | .blk n t :: s, .blk cs t' :: m => match Nat.beq t' t with
    | true => match cutN n cs with
      | some cs => match flatE s m with
        | some r => some (cs ++ r)
        | none => none
      | none => none
    | false => none
  | .row c t :: s, .row c' l t' :: m => match Nat.beq t' t with
    | true => match Nat.beq c' c with
      | true => match flatE s m with
        | some r => some (.ro c' l :: r)
        | none => none
      | false => none
    | false => none
  | .dead :: s, .dead :: m => flatE s m
  | _, _ => none
def unflatE {D : Nat → Type} : List Es → List (Lf D) → List (Ent D)
  | [], _ => []
  | .blk n t :: s, ls => .blk (tk n ls) t :: unflatE s (dr n ls)
  | .row _ t :: s, .ro c l :: ls => .row c l t :: unflatE s ls
  | .row _ _ :: s, ls => .dead :: unflatE s (dr 1 ls)
  | .dead :: s, ls => .dead :: unflatE s ls
theorem rf_split {l : List (Lf R.D)} : ∀ {r ls : List (Lf R.D)}, All2 (Rf R) (l ++ r) ls → All2 (Rf R) l (tk l.length ls) ∧ All2 (Rf R) r (dr l.length ls) := by
  induction l with
  | nil => intro r ls h; exact ⟨by simp only [List.length_nil, tk]; exact .nil, by simpa [dr] using h⟩
  | cons a l ih =>
    intro r ls h
    cases h with
    | cons h0 h1 =>
    obtain ⟨h2, h3⟩ := ih h1
    exact ⟨.cons h0 h2, h3⟩
theorem rf_all {ρ : Ow} {w : World} {l l' : List (Lf R.D)} (h : All2 (Rf R) l l') : ∀ {us : List Value}, All2 (Is R ρ w) l us → All2 (Is R ρ w) l' us := by
  induction h with
  | nil => intro us h; exact h
  | cons h0 _ ih =>
    intro us h
    cases h with
    | cons h1 h2 => exact .cons (h0.1 _ _ _ h1) (ih h2)
theorem flatA_ok {ρ : Ow} {w : World} : ∀ {s : List (Option Nat)} {vs : List (Av R.D)} {l : List (Lf R.D)}, flatA s vs = some l → ∀ {ls : List (Lf R.D)}, All2 (Rf R) l ls → ∀ {us : List Value}, All2 (IsA R ρ w) vs us → All2 (IsA R ρ w) (unflatA s ls) us
  | [], [], l, h, ls, hr, us, hu => by
    cases hu
    cases ls <;> exact .nil
  | none :: s, .lf a :: vs, l, h, ls, hr, us, hu => by
    simp only [flatA] at h
    split at h
    · rename_i r hfr
      cases h
      cases hr with
      | cons h0 h1 =>
      cases hu with
      | cons u0 u1 => exact .cons (h0.1 _ _ _ u0) (flatA_ok hfr h1 u1)
    · cases h
  | some n :: s, .agg cs :: vs, l, h, ls, hr, us, hu => by
    simp only [flatA] at h
    split at h
    · rename_i cs' hcs
      split at h
      · rename_i r hfr
        cases h
        obtain ⟨rfl, hn⟩ := cutN_ok hcs
        obtain ⟨h0, h1⟩ := rf_split hr
        cases hu with
        | cons u0 u1 =>
        obtain ⟨ys, hy, ha⟩ := u0
        rw [hn] at h0 h1
        exact .cons ⟨ys, hy, rf_all h0 ha⟩ (flatA_ok hfr h1 u1)
      · cases h
    · cases h
  | none :: s, .agg _ :: vs, l, h, _, _, _, _ => by simp [flatA] at h
  | some n :: s, .lf _ :: vs, l, h, _, _, _, _ => by simp [flatA] at h
  | none :: s, [], l, h, _, _, _, _ => by simp [flatA] at h
  | some n :: s, [], l, h, _, _, _, _ => by simp [flatA] at h
  | [], _ :: _, l, h, _, _, _, _ => by simp [flatA] at h
theorem flatA_n : ∀ {s : List (Option Nat)} {vs : List (Av R.D)} {l : List (Lf R.D)}, flatA s vs = some l → l.length = Sh.n.go s
  | [], [], l, h => by simp only [flatA, Option.some.injEq] at h; subst h; rfl
  | none :: s, .lf a :: vs, l, h => by
    simp only [flatA] at h
    split at h
    · rename_i r hfr
      cases h
      simp [Sh.n.go, flatA_n hfr, Nat.add_comm]
    · cases h
  | some n :: s, .agg cs :: vs, l, h => by
    simp only [flatA] at h
    split at h
    · rename_i cs' hcs
      split at h
      · rename_i r hfr
        cases h
        obtain ⟨rfl, hn⟩ := cutN_ok hcs
        simp [Sh.n.go, flatA_n hfr, hn]
      · cases h
    · cases h
  | none :: s, .agg _ :: vs, l, h => by simp [flatA] at h
  | some n :: s, .lf _ :: vs, l, h => by simp [flatA] at h
  | none :: s, [], l, h => by simp [flatA] at h
  | some n :: s, [], l, h => by simp [flatA] at h
  | [], _ :: _, l, h => by simp [flatA] at h
theorem flat_ok {ρ : Ow} {w : World} {s : Sh} {v : Tv R.D} {l : List (Lf R.D)} (h : flat s v = some l) {ls : List (Lf R.D)} (hr : All2 (Rf R) l ls) {u : Value} (hu : IsT R ρ w v u) : IsT R ρ w (unflat s ls) u := by
  unfold flat at h
  split at h
  · cases h
    cases hr with
    | cons h0 h1 => exact h0.1 _ _ _ hu
  · obtain ⟨rfl, hn⟩ := cutN_ok h
    obtain ⟨us, hus, ha⟩ := hu
    have := (rf_split (l := _) (r := []) (by simpa using hr)).1
    rw [hn] at this
    exact ⟨us, hus, rf_all this ha⟩
  · obtain ⟨us, hus, ha⟩ := hu
    exact ⟨us, hus, flatA_ok h hr ha⟩
  · exact hu
  · cases h
theorem flat_n {s : Sh} {v : Tv R.D} {l : List (Lf R.D)} (h : flat s v = some l) : l.length = s.n := by
  unfold flat at h
  split at h
  · cases h; rfl
  · obtain ⟨rfl, hn⟩ := cutN_ok h; exact hn
  · exact flatA_n h
  · cases h; rfl
  · cases h
theorem flat_more {ρ : Ow} {w : World} {s : Sh} {v : Tv R.D} {l r : List (Lf R.D)} (h : flat s v = some l) {ls : List (Lf R.D)} (hr : All2 (Rf R) (l ++ r) ls) {u : Value} (hu : IsT R ρ w v u) : IsT R ρ w (unflat s ls) u ∧ All2 (Rf R) r (dr s.n ls) := by
  obtain ⟨h0, h1⟩ := rf_split hr
  rw [flat_n h] at h0 h1
  refine ⟨?_, h1⟩
  have key : unflat s ls = unflat s (tk s.n ls) := by
    have tt : ∀ (n : Nat) (ls : List (Lf R.D)), tk n (tk n ls) = tk n ls := by
      intro n
      induction n with
      | zero => intro ls; rfl
      | succ n ih => intro ls; cases ls <;> simp [tk, ih]
    cases s with
    | lf => cases ls <;> rfl
    | agg n => simp only [unflat, Sh.n, tt]
    | un => rfl
    | tup l' =>
      simp only [unflat, Sh.n]
      congr 1
      have go : ∀ (s : List (Option Nat)) (ls : List (Lf R.D)) , (∀ n, n ≥ Sh.n.go s → unflatA s ls = unflatA s (tk n ls)) := by
        intro s
        induction s with
        | nil => intro ls n _; cases ls <;> cases n <;> rfl
        | cons a s ih =>
          intro ls n hn
          cases a with
          | none =>
            simp only [Sh.n.go] at hn
            obtain ⟨n, rfl⟩ : ∃ k, n = k + 1 := ⟨n - 1, by omega⟩
            cases ls with
            | nil => rfl
            | cons x ls => simp only [tk, unflatA]; rw [← ih ls n (by omega)]
          | some q =>
            simp only [Sh.n.go] at hn
            simp only [unflatA]
            have t1 : ∀ (q n : Nat) (ls : List (Lf R.D)), q ≤ n → tk q (tk n ls) = tk q ls := by
              intro q
              induction q with
              | zero => intro n ls _; rfl
              | succ q ihq =>
                intro n ls h
                obtain ⟨n, rfl⟩ : ∃ k, n = k + 1 := ⟨n - 1, by omega⟩
                cases ls with
                | nil => rfl
                | cons x ls => simp only [tk]; rw [ihq n ls (by omega)]
            have t2 : ∀ (q n : Nat) (ls : List (Lf R.D)), q ≤ n → dr q (tk n ls) = tk (n - q) (dr q ls) := by
              intro q
              induction q with
              | zero => intro n ls _; rfl
              | succ q ihq =>
                intro n ls h
                obtain ⟨n, rfl⟩ : ∃ k, n = k + 1 := ⟨n - 1, by omega⟩
                cases ls with
                | nil => simp only [tk, dr]; cases (n + 1 - (q + 1)) <;> rfl
                | cons x ls => simp only [tk, dr]; rw [ihq n ls (by omega), Nat.add_sub_add_right]
            rw [t1 q n ls (by omega), t2 q n ls (by omega), ← ih (dr q ls) (n - q) (by omega)]
      exact go l' ls _ (Nat.le_refl _)
  rw [key]
  exact flat_ok h h0 hu
theorem flats_ok {ρ : Ow} {w : World} : ∀ {s : List Sh} {vs : List (Tv R.D)} {l r : List (Lf R.D)}, flats s vs = some l → ∀ {ls : List (Lf R.D)}, All2 (Rf R) (l ++ r) ls → ∀ {us : List Value}, All2 (IsT R ρ w) vs us → All2 (IsT R ρ w) (unflats s ls) us ∧ All2 (Rf R) r (dr (shN s) ls)
  | [], [], l, r, h, ls, hr, us, hu => by
    simp only [flats, Option.some.injEq] at h
    subst h
    cases hu
    exact ⟨.nil, by simpa [shN, dr] using hr⟩
  | s :: ss, v :: vs, l, r, h, ls, hr, us, hu => by
    simp only [flats] at h
    split at h
    · rename_i a ha
      split at h
      · rename_i b hb
        cases h
        cases hu with
        | cons u0 u1 =>
        rw [List.append_assoc] at hr
        obtain ⟨h0, h1⟩ := flat_more ha hr u0
        obtain ⟨h2, h3⟩ := flats_ok hb h1 u1
        refine ⟨.cons h0 h2, ?_⟩
        have dd : ∀ (a b : Nat) (ls : List (Lf R.D)), dr b (dr a ls) = dr (a + b) ls := by
          intro a
          induction a with
          | zero => intro b ls; simp [dr]
          | succ a ih =>
            intro b ls
            cases ls with
            | nil => simp only [dr, Nat.add_right_comm a 1 b]; cases b <;> rfl
            | cons x ls => simp only [dr, Nat.add_right_comm a 1 b]; exact ih b ls
        rwa [dd] at h3
      · cases h
    · cases h
  | [], _ :: _, l, r, h, _, _, _, _ => by simp [flats] at h
  | _ :: _, [], l, r, h, _, _, _, _ => by simp [flats] at h
theorem flatE_ok {ρ : Ow} {w : World} : ∀ {s : List Es} {m : List (Ent R.D)} {l : List (Lf R.D)}, flatE s m = some l → ∀ {ls : List (Lf R.D)}, All2 (Rf R) l ls → (unflatE s ls).length = m.length ∧ ∀ (i : Nat) (b : Bk) (e : Ent R.D), (unflatE s ls)[i]? = some e → ∃ e', m[i]? = some e' ∧ (EntOk R ρ w b e' → EntOk R ρ w b e) ∧ (e.live ↔ e'.live)
  | [], [], l, h, ls, hr => ⟨rfl, fun i b e he => by simp [unflatE] at he⟩
  | .blk n t :: s, .blk cs t' :: m, l, h, ls, hr => by
    simp only [flatE] at h
    split at h
    · rename_i ht
      have ht := Nat.eq_of_beq_eq_true ht
      subst ht
      split at h
      · rename_i cs' hcs
        split at h
        · rename_i r hfr
          cases h
          obtain ⟨rfl, hn⟩ := cutN_ok hcs
          obtain ⟨h0, h1⟩ := rf_split hr
          rw [hn] at h0 h1
          obtain ⟨h2, h3⟩ := flatE_ok (ρ := ρ) (w := w) hfr h1
          refine ⟨by simp [unflatE, h2], fun i b e he => ?_⟩
          cases i with
          | zero =>
            simp only [unflatE, List.getElem?_cons_zero, Option.some.injEq] at he
            subst he
            refine ⟨_, rfl, fun hok => ?_, Iff.rfl⟩
            cases b with
            | blk b => obtain ⟨us, hu, ha⟩ := hok; exact ⟨us, hu, rf_all h0 ha⟩
            | row b cap len => exact hok.elim
            | nil => exact hok.elim
          | succ i => simpa using h3 i b e (by simpa [unflatE] using he)
        · cases h
      · cases h
    · cases h
  | .row c t :: s, .row c' x t' :: m, l, h, ls, hr => by
    simp only [flatE] at h
    split at h
    · rename_i ht
      have ht := Nat.eq_of_beq_eq_true ht
      subst ht
      split at h
      · rename_i hc
        split at h
        · rename_i r hfr
          cases h
          cases hr with
          | cons h0 h1 =>
          have h0 := h0.2 _ _ rfl
          subst h0
          obtain ⟨h2, h3⟩ := flatE_ok (ρ := ρ) (w := w) hfr h1
          refine ⟨by simp [unflatE, h2], fun i b e he => ?_⟩
          cases i with
          | zero =>
            simp only [unflatE, List.getElem?_cons_zero, Option.some.injEq] at he
            subst he
            exact ⟨_, rfl, fun hok => hok, Iff.rfl⟩
          | succ i => simpa using h3 i b e (by simpa [unflatE] using he)
        · cases h
      · cases h
    · cases h
  | .dead :: s, .dead :: m, l, h, ls, hr => by
    simp only [flatE] at h
    obtain ⟨h2, h3⟩ := flatE_ok (ρ := ρ) (w := w) h hr
    refine ⟨by simp [unflatE, h2], fun i b e he => ?_⟩
    cases i with
    | zero =>
      simp only [unflatE, List.getElem?_cons_zero, Option.some.injEq] at he
      subst he
      exact ⟨_, rfl, fun hok => hok, Iff.rfl⟩
    | succ i => simpa using h3 i b e (by simpa [unflatE] using he)
  | .blk n t :: s, .dead :: m, l, h, _, _ => by simp [flatE] at h
  | .blk n t :: s, .row _ _ _ :: m, l, h, _, _ => by simp [flatE] at h
  | .blk n t :: s, [], l, h, _, _ => by simp [flatE] at h
  | .row n t :: s, .dead :: m, l, h, _, _ => by simp [flatE] at h
  | .row n t :: s, .blk _ _ :: m, l, h, _, _ => by simp [flatE] at h
  | .row n t :: s, [], l, h, _, _ => by simp [flatE] at h
  | .dead :: s, .row _ _ _ :: m, l, h, _, _ => by simp [flatE] at h
  | .dead :: s, .blk _ _ :: m, l, h, _, _ => by simp [flatE] at h
  | .dead :: s, [], l, h, _, _ => by simp [flatE] at h
  | [], _ :: _, l, h, _, _ => by simp [flatE] at h
theorem liveE {s : List Es} {m : List (Ent R.D)} {l : List (Lf R.D)} (h : flatE s m = some l) {ls : List (Lf R.D)} (hr : All2 (Rf R) l ls) {i : Nat} : Live (unflatE s ls) i ↔ Live m i := by
  obtain ⟨h0, h1⟩ := flatE_ok (ρ := ⟨fun _ => False, []⟩) (w := default) h hr
  constructor
  · intro ⟨e, he, hl⟩
    obtain ⟨e', he', _, h2⟩ := h1 i .nil e he
    exact ⟨e', he', h2.1 hl⟩
  · intro ⟨e, he, hl⟩
    have hlt : i < (unflatE s ls).length := by rw [h0]; exact (List.getElem?_eq_some_iff.1 he).1
    obtain ⟨e', he', _, h2⟩ := h1 i .nil _ (List.getElem?_eq_getElem hlt)
    rw [he, Option.some.injEq] at he'
    subst he'
    exact ⟨_, List.getElem?_eq_getElem hlt, h2.2 hl⟩
theorem deadE {s : List Es} {m : List (Ent R.D)} {l : List (Lf R.D)} (h : flatE s m = some l) {ls : List (Lf R.D)} (hr : All2 (Rf R) l ls) {i : Nat} : (unflatE s ls)[i]? = some .dead ↔ m[i]? = some .dead := by
  obtain ⟨h0, h1⟩ := flatE_ok (ρ := ⟨fun _ => False, []⟩) (w := default) h hr
  have hl := liveE h hr (i := i)
  rcases Nat.lt_or_ge i m.length with hlt | hge
  · have hlt' : i < (unflatE s ls).length := by omega
    have g1 := List.getElem?_eq_getElem hlt
    have g2 := List.getElem?_eq_getElem hlt'
    constructor
    · intro hd
      generalize hm : m[i] = e at g1
      cases e with
      | dead => exact g1
      | _ =>
        obtain ⟨e, he, hl⟩ := hl.2 ⟨_, g1, trivial⟩
        rw [hd, Option.some.injEq] at he
        subst he
        exact hl.elim
    · intro hd
      generalize hm : (unflatE s ls)[i] = e at g2
      cases e with
      | dead => exact g2
      | _ =>
        obtain ⟨e, he, hl⟩ := hl.1 ⟨_, g2, trivial⟩
        rw [hd, Option.some.injEq] at he
        subst he
        exact hl.elim
  · rw [List.getElem?_eq_none (by omega), List.getElem?_eq_none hge]
theorem heldE {ρ : Ow} {s : List Es} {m : List (Ent R.D)} {l : List (Lf R.D)} (h : flatE s m = some l) {ls : List (Lf R.D)} (hr : All2 (Rf R) l ls) {b : Nat} : Held ρ (unflatE s ls) b ↔ Held ρ m b := by
  constructor
  · intro ⟨i, q, e, h1, h2, h3, h4⟩
    obtain ⟨e', he', hl⟩ := (liveE h hr).1 ⟨e, h2, h3⟩
    exact ⟨i, q, e', h1, he', hl, h4⟩
  · intro ⟨i, q, e, h1, h2, h3, h4⟩
    obtain ⟨e', he', hl⟩ := (liveE h hr).2 ⟨e, h2, h3⟩
    exact ⟨i, q, e', h1, he', hl, h4⟩
theorem relE {ρ : Ow} {w : World} {s : List Es} {m : List (Ent R.D)} {l : List (Lf R.D)} (h : flatE s m = some l) {ls : List (Lf R.D)} (hr : All2 (Rf R) l ls) (hrel : Rel R ρ m w) : Rel R ρ (unflatE s ls) w := by
  obtain ⟨h0, h1⟩ := flatE_ok (ρ := ρ) (w := w) h hr
  refine ⟨by rw [h0]; exact hrel.len, fun i j p q e e' b h2 h3 h4 h5 h6 h7 h8 h9 => ?_, hrel.lt, fun b hb => hrel.fits b ((heldE h hr).1 hb), fun i b e hi he => ?_⟩
  · obtain ⟨e1, k1, k2⟩ := (liveE h hr).1 ⟨e, h4, h6⟩
    obtain ⟨e2, k3, k4⟩ := (liveE h hr).1 ⟨e', h5, h7⟩
    exact hrel.nd i j p q e1 e2 b h2 h3 k1 k3 k2 k4 h8 h9
  · obtain ⟨e', he', hok, _⟩ := h1 i b e he
    exact hok (hrel.ok i b e' hi he')
end
end Go.Proofs.Ytjfcfljdojkcdaa.Ev
