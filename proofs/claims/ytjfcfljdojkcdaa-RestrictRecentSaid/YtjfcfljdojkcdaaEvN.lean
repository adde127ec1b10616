/- The evaluator over what is left to do, sound for every cut. -/
import Derived.Test.YtjfcfljdojkcdaaEvM
namespace Go.Proofs.Ytjfcfljdojkcdaa.Ev
open Go Go.RowKit
set_option linter.unusedVariables false
set_option linter.unusedSimpArgs false
section
variable {R : Ro} {P : Program} {X : Type}
/-- What holds at the end. -/
structure Ends (R : Ro) (np : Nat) (ρ : Ow) (m : List (Ent R.D)) (w : World) (ρ' : Ow) (m' : List (Ent R.D)) : Prop where
  pre : ∀ i, i < np → Live m' i → ρ'.r[i]? = ρ.r[i]?
  F1 : ∀ b, ρ'.F b → ρ.F b ∨ w.heap.size ≤ b
  F2 : ∀ b, ρ.F b → ¬ Held ρ m b → ρ'.F b
  held : ∀ b, Held ρ' m' b → Held ρ m b ∨ w.heap.size ≤ b
  dead : ∀ i, i < np → m[i]? = some .dead → m'[i]? = some .dead
  len : np ≤ m'.length
/-- What is left to do comes to an end, and what is told then. -/
def Fin (R : Ro) (P : Program) (fn : Func) (np : Nat) (ρ : Ow) (m : List (Ent R.D)) (w : World) (todo : List Item) (a : Act) (ok : Tv R.D → List (Ent R.D) → Prop) : Prop :=
  ∀ (b : Frame) (cs : List Frame), ∃ a' todo' w' u, Steps P (lone (b.at a todo) cs w) (lone { b.at a' todo' with mode := .returning } cs w') ∧ a'.defers = [] ∧ (results fn a'.tmps).run P w' = .ok u w' ∧
    ∃ v m' ρ', ok v m' ∧ Rel R ρ' m' w' ∧ IsT R ρ' w' v u ∧ Fr (Held ρ m) w w' ∧ Ends R np ρ m w ρ' m' ∧ (∀ q ∈ tvH v, Live m' q) ∧ (∀ q ∈ entsH m', Live m' q)
variable {fn : Func} {np : Nat}
theorem Fin.step {ρ : Ow} {m : List (Ent R.D)} {w : World} {todo todo' : List Item} {a : Act} {ok : Tv R.D → List (Ent R.D) → Prop} (hs : ∀ (b : Frame) (cs : List Frame), step P (lone (b.at a todo) cs w) = .next (lone (b.at a todo') cs w)) (h : Fin R P fn np ρ m w todo' a ok) : Fin R P fn np ρ m w todo a ok := by
  intro b cs
  obtain ⟨a', t', w', u, h1, h2⟩ := h b cs
  exact ⟨a', t', w', u, .head (hs b cs) h1, h2⟩
theorem Ends.after {ρ ρ1 ρ' : Ow} {m m1 m' : List (Ent R.D)} {w w1 : World} (hr : Rel R ρ m w) (hnp : np ≤ m.length) (hg : Go R ρ m w ρ1 m1 w1) (h : Ends R np ρ1 m1 w1 ρ' m') : Ends R np ρ m w ρ' m' := by
  refine ⟨fun i hi hl => ?_, fun b hb => ?_, fun b hb hn => ?_, fun b hb => ?_, fun i hi hd => h.dead i hi (hg.ext.dead i hd), h.len⟩
  · rw [h.pre i hi hl]
    have hlt : i < ρ.r.length := by rw [hr.len]; omega
    rw [hg.ext.pre i _ (List.getElem?_eq_getElem hlt), List.getElem?_eq_getElem hlt]
  · rcases h.F1 b hb with h1 | h1
    · exact hg.ext.F1 b h1
    · exact .inr (Nat.le_trans hg.fr.size h1)
  · refine h.F2 b (hg.ext.F2 b hb hn) fun h1 => ?_
    rcases hg.ext.held b h1 with h2 | h2
    · exact hn h2
    · have := hr.lt b hb; omega
  · rcases h.held b hb with h1 | h1
    · exact hg.ext.held b h1
    · exact .inr (Nat.le_trans hg.fr.size h1)
theorem Fin.region {ρ : Ow} {m : List (Ent R.D)} {w : World} {id : Nat} {ops : Array Oper} {draw : Bool} {k : List Item} {a : Act} {ok : Tv R.D → List (Ent R.D) → Prop} (hr : Rel R ρ m w) (hnp : np ≤ m.length)
    (h : (Code.region id ops draw).wp P (fun e a' w' => e = .normal ∧ ∃ ρ' m', Go R ρ m w ρ' m' w' ∧ Fin R P fn np ρ' m' w' k a' ok) a w) : Fin R P fn np ρ m w (.code (.region id ops draw) :: k) a ok := by
  intro b cs
  obtain ⟨e, a1, w1, ⟨rfl, ρ1, m1, hg, hf⟩, harr⟩ := h b k cs
  obtain ⟨a', t', w', u, h1, h2, h3, v, m', ρ', h4, h5, h6, h7, h8, h9⟩ := hf b cs
  exact ⟨a', t', w', u, Steps.trans harr h1, h2, h3, v, m', ρ', h4, h5, h6, hg.fr.trans hg.ext.held h7, h8.after hr hnp hg, h9⟩
def upTo : Nat → Nat → List Nat
  | 0, _ => []
  | c + 1, j => j :: upTo c (j + 1)
def preB : Nat → Nat → List Nat → Bool
  | 0, _, _ => true
  | _ + 1, _, [] => false
  | c + 1, j, a :: l => match Nat.beq a j with
    | true => preB c (j + 1) l
    | false => false
theorem preB_ok : ∀ {c j : Nat} {l : List Nat}, preB c j l = true → c ≤ l.length ∧ ∀ i, i < c → l[i]? = some (j + i)
  | 0, j, l, _ => ⟨Nat.zero_le _, fun i hi => by omega⟩
  | c + 1, j, [], h => by simp [preB] at h
  | c + 1, j, a :: l, h => by
    simp only [preB] at h
    split at h
    · rename_i he
      have he := Nat.eq_of_beq_eq_true he
      subst he
      obtain ⟨h0, h1⟩ := preB_ok h
      refine ⟨by simpa using h0, fun i hi => ?_⟩
      cases i with
      | zero => simp
      | succ i => simpa [Nat.add_assoc, Nat.add_comm 1 i] using h1 i (by omega)
    · cases h
def finds {D : Nat → Type} (σ : List (Nat × Tv D)) : List Nat → Option (List (Tv D))
  | [] => some []
  | k :: r => match Sg.find σ k with
    | some v => match finds σ r with
      | some l => some (v :: l)
      | none => none
    | none => none
theorem finds_ok {ρ : Ow} {w : World} {n : Nat} {σ : List (Nat × Tv R.D)} {a : Act} (hs : Sat R ρ w n σ a) : ∀ (l : List Nat) {vs : List (Tv R.D)}, finds σ l = some vs →
    All2 (IsT R ρ w) vs (l.map fun k => a.tmps.getD k undef) ∧ ∀ k ∈ l, k < a.tmps.size
  | [], vs, h => by simp only [finds, Option.some.injEq] at h; subst h; exact ⟨.nil, by simp⟩
  | k :: l, vs, h => by
    simp only [finds] at h
    split at h
    · rename_i v hv
      split at h
      · rename_i r hr
        simp only [Option.some.injEq] at h
        subst h
        obtain ⟨h0, h1⟩ := finds_ok hs l hr
        obtain ⟨u, hu, hi⟩ := hs.at_ _ _ hv
        have hlt : k < a.tmps.size := (Array.getElem?_eq_some_iff.1 hu).1
        refine ⟨.cons ?_ h0, fun q hq => ?_⟩
        · show IsT R ρ w v (a.tmps.getD k undef)
          rw [show a.tmps.getD k undef = u by simp [Array.getD_eq_getD_getElem?, hu]]
          exact hi
        · rcases List.mem_cons.1 hq with rfl | hq
          · exact hlt
          · exact h1 q hq
      · exact none_some h
    · exact none_some h
def zipS {D : Nat → Type} : List Nat → List (Tv D) → List (Nat × Tv D)
  | k :: l, v :: vs => (k, v) :: zipS l vs
  | _, _ => []
theorem zipS_at {ρ : Ow} {w : World} {a : Act} : ∀ (l : List Nat) {vs : List (Tv R.D)}, All2 (IsT R ρ w) vs (l.map fun k => a.tmps.getD k undef) → (∀ k ∈ l, k < a.tmps.size) → ∀ i v, Sg.find (zipS l vs) i = some v → ∃ u, a.tmps[i]? = some u ∧ IsT R ρ w v u
  | [], vs, _, _, i, v, h => by cases vs <;> simp [zipS, Sg.find] at h
  | k :: l, vs, ha, hlt, i, v, h => by
    cases ha with
    | @cons v0 _ vs0 _ h0 h1 =>
    simp only [zipS, Sg.find] at h
    split at h
    · rename_i he
      have he := Nat.eq_of_beq_eq_true he
      subst he
      simp only [Option.some.injEq] at h
      subst h
      have hk := hlt k (List.mem_cons_self ..)
      have h0 : IsT R ρ w v0 (a.tmps.getD k undef) := h0
      rw [show a.tmps.getD k undef = a.tmps[k] by simp [Array.getD_eq_getD_getElem?, hk]] at h0
      exact ⟨a.tmps[k], Array.getElem?_eq_getElem hk, h0⟩
    · exact zipS_at l h1 (fun q hq => hlt q (List.mem_cons_of_mem _ hq)) i v h
/-- The temporaries of a list hold these values. -/
structure AtL (R : Ro) (ρ : Ow) (w : World) (n : Nat) (l : List Nat) (vs : List (Tv R.D)) (a : Act) : Prop where
  size : a.tmps.size = n
  defers : a.defers = []
  all : All2 (IsT R ρ w) vs (l.map fun k => a.tmps.getD k undef)
  lt : ∀ k ∈ l, k < a.tmps.size
theorem AtL.sat {ρ : Ow} {w : World} {n : Nat} {a : Act} {l : List Nat} {vs : List (Tv R.D)} (h : AtL R ρ w n l vs a) : Sat R ρ w n (zipS l vs) a :=
  ⟨h.size, h.defers, zipS_at l h.all h.lt⟩
def cutTo (own : TypeId → List (Nat × Nat × TypeId × Nat)) (np : Nat) (lv : List Nat) (cv : List (Option Cv)) (t : List (Tv R.D) → List (Ent R.D) → Option X) (σ : List (Nat × Tv R.D)) (m : List (Ent R.D)) : Option X :=
  match finds σ lv with
  | some vs => match fixs cv vs (fixM own m) with
    | (vs, m) => loc (upTo np 0) vs m fun s vs' m' => match preB np 0 s with
      | true => t vs' m'
      | false => none
  | none => none
theorem Fin.go {ρ ρ1 : Ow} {m m1 : List (Ent R.D)} {w : World} {todo : List Item} {a : Act} {ok : Tv R.D → List (Ent R.D) → Prop} (hr : Rel R ρ m w) (hnp : np ≤ m.length) (hg : Go R ρ m w ρ1 m1 w) (h : Fin R P fn np ρ1 m1 w todo a ok) : Fin R P fn np ρ m w todo a ok := by
  intro b cs
  obtain ⟨a', t', w', u, h1, h2, h3, v, m', ρ', h4, h5, h6, h7, h8, h9⟩ := h b cs
  exact ⟨a', t', w', u, h1, h2, h3, v, m', ρ', h4, h5, h6, hg.fr.trans hg.ext.held h7, h8.after hr hnp hg, h9⟩
/-- The numbers of blocks fall away behind a cut. -/
theorem Fin.cut {ρ : Ow} {m m1 : List (Ent R.D)} {w : World} {todo : List Item} {a : Act} {ok : Tv R.D → List (Ent R.D) → Prop} {s : List Nat} (hr : Rel R ρ m w) (hp : preB np 0 s = true) (hsel : Sel m s m1) (h : Fin R P fn np (ρ.sub m s) m1 w todo a ok) : Fin R P fn np ρ m w todo a ok := by
  obtain ⟨hpl, hpa⟩ := preB_ok hp
  intro b cs
  obtain ⟨a', t', w', u, h1, h2, h3, v, m', ρ', h4, h5, h6, h7, h8, h9⟩ := h b cs
  have hdead : ∀ i, i < np → m[i]? = some .dead → m'[i]? = some .dead := fun i hi hd => by
    have hsi := hpa i hi
    rw [Nat.zero_add] at hsi
    refine h8.dead i hi ?_
    rw [hsel.get i i hsi, hd]
    rfl
  refine ⟨a', t', w', u, h1, h2, h3, v, m', ρ', h4, h5, h6, h7.imp fun x hx => hsel.Held hr.len hx, ⟨fun i hi hl => ?_, h8.F1, fun x hx hn => h8.F2 x hx fun hh => hn (hsel.Held hr.len hh), fun x hx => (h8.held x hx).imp (hsel.Held hr.len) id, hdead, h8.len⟩, h9⟩
  rw [h8.pre i hi hl]
  have hsi := hpa i hi
  rw [Nat.zero_add] at hsi
  refine sub_at hsi ?_ hr.len
  have hlt := hsel.lt i (List.mem_of_getElem? hsi)
  refine ⟨m[i], List.getElem?_eq_getElem hlt, ?_⟩
  generalize hmi : m[i] = e
  cases e with
  | dead =>
    exfalso
    obtain ⟨e', he', hl'⟩ := hl
    rw [hdead i hi (by rw [List.getElem?_eq_getElem hlt, hmi]), Option.some.injEq] at he'
    subst he'
    exact hl'
  | _ => trivial
/-- An end. -/
def evRet (R : Ro) (tab : Nat → Option TI) (own : TypeId → List (Nat × Nat × TypeId × Nat)) (cvo : List (Option Cv)) (rs : List ResultVar) (np : Nat) (ret : Tv R.D → List (Ent R.D) → Option X) (σ : List (Nat × Tv R.D)) (m : List (Ent R.D)) : Option X :=
  match evRes R tab σ m rs with
  | some vs => match fixT cvo (tvOf vs) (fixM own m) with
    | (v, m) => loc (upTo np 0) [v] m fun s vs' m' => match preB np 0 s with
      | true => match vs' with
        | [v] => ret v m'
        | _ => none
      | false => none
  | none => none
theorem evRet_ok {tab : Nat → Option TI} (ht : TabOk P tab) {own : TypeId → List (Nat × Nat × TypeId × Nat)} {cvo : List (Option Cv)} {n : Nat} {ret : Tv R.D → List (Ent R.D) → Option X} {σ : List (Nat × Tv R.D)} {m : List (Ent R.D)} {x : X} (h : evRet R tab own cvo fn.results.toList np ret σ m = some x) {ρ : Ow} {w : World} {a : Act} (hnp : np ≤ m.length) (hr : Rel R ρ m w) (hs : Sat R ρ w n σ a) {todo todo' : List Item}
    (hst : ∀ (b : Frame) (cs : List Frame), step P (lone (b.at a todo) cs w) = .next (lone { b.at a todo' with mode := .returning } cs w)) : Fin R P fn np ρ m w todo a (fun v m' => ret v m' = some x) := by
  unfold evRet at h
  split at h
  · rename_i vs hvs
    obtain ⟨u, hu, hi⟩ := results_ok ht hr hs fn hvs
    obtain ⟨ρ0, g0, r0⟩ := fixM_ok own m ρ w hr
    have hi0 := hi.keep g0.fr hr.fits g0.ext.toLe
    obtain ⟨ρ1, g1, r1, hi1⟩ := fixT_ok cvo (tvOf vs) (fixM own m) r0 hi0
    refine Fin.go hr hnp (g0.trans hr g1) ?_
    split at h
    rename_i v1 m1 heq
    rw [heq] at r1 hi1
    rw [heq]
    dsimp only at r1 hi1 ⊢
    obtain ⟨s, vs', m', h, hsel, hlv, hle, hloc⟩ := loc_ok h
    split at h
    · rename_i hp
      split at h
      · rename_i v
        obtain ⟨hr', ha'⟩ := hloc ρ1 w [u] r1 (.cons hi1 .nil)
        cases ha' with
        | cons hv _ =>
        refine Fin.cut r1 hp hsel fun b cs => ?_
        exact ⟨a, todo', w, u, .one (hst b cs), hs.defers, hu, v, m', ρ1.sub m1 s, h, hr', hv, Fr.refl _ _, ⟨fun _ _ _ => rfl, fun _ h => .inl h, fun _ h _ => h, fun _ h => .inl h, fun _ _ h => h, by rw [hsel.len]; exact (preB_ok hp).1⟩, fun q hq => hlv v (List.mem_singleton.2 rfl) q hq, hle⟩
      · exact none_some h
    · exact none_some h
  · exact none_some h
def pkC (t : Bool) (x y : Code) : Code := match t with
  | true => x
  | false => y
def refS {D : Nat → Type} (e : Operand) (t : Bool) (σ : List (Nat × Tv D)) : List (Nat × Tv D) := match e with
  | .tmp k => (k, litB t) :: σ
  | _ => σ
theorem refS_ok {ρ : Ow} {w : World} {n : Nat} {σ : List (Nat × Tv R.D)} {a : Act} (hs : Sat R ρ w n σ a) {e : Operand} {t : Bool} {v : Tv R.D} (hv : opd σ e = some v) (hb : a.eval e = .bool t) : Sat R ρ w n (refS e t σ) a := by
  cases e with
  | tmp k =>
    refine ⟨hs.size, hs.defers, fun i v' hv' => ?_⟩
    simp only [refS, Sg.find] at hv'
    split at hv'
    · rename_i he
      have := Nat.eq_of_beq_eq_true he
      subst this
      simp only [Option.some.injEq] at hv'
      subst hv'
      obtain ⟨u, hu, _⟩ := hs.at_ _ _ hv
      refine ⟨_, hu, ?_⟩
      have : a.tmps.getD k undef = u := by simp [Array.getD_eq_getD_getElem?, hu]
      rw [show a.eval (.tmp k) = a.tmps.getD k undef from rfl, this] at hb
      subst hb
      exact Is.v _ rfl
    · exact hs.at_ i v' hv'
  | _ => exact hs
def Cuts (R : Ro) (X : Type) := Nat → Option (List Nat × List (Option Cv) × (List (Tv R.D) → List (Ent R.D) → Option X))
/-- A region (where orders are drawn: EvL). -/
noncomputable def evReg (E : Env R) (id : Nat) (ops : Array Oper) (draw : Bool) (σ : List (Nat × Tv R.D)) (m : List (Ent R.D)) (K : List (Nat × Tv R.D) → List (Ent R.D) → Option X) : Option X :=
  match draw with
  | false => evOps E ops ops.toList σ m K
  | true => evDraw E ops (E.ord id) σ m K
noncomputable def ev (E : Env R) (rs : List ResultVar) (np : Nat) (T : Cuts R X) (ret : Tv R.D → List (Ent R.D) → Option X) : Nat → Bool → List Item → List (Nat × Tv R.D) → List (Ent R.D) → Option X
  | 0, _, _, _, _ => none
  | g + 1, first, todo, σ, m => match todo with
    | [] => evRet R E.tab E.own E.cvo rs np ret σ m
    | .inBlock _ :: k => ev E rs np T ret g first k σ m
    | .inScope _ :: k => ev E rs np T ret g first k σ m
    | .inLoop b :: k => ev E rs np T ret g first (.code b :: .inLoop b :: k) σ m
    | .code c :: k => match c with
      | .ret => evRet R E.tab E.own E.cvo rs np ret σ m
      | .skip => ev E rs np T ret g first k σ m
      | .label _ => ev E rs np T ret g first k σ m
      | .seq a b => ev E rs np T ret g first (.code a :: .code b :: k) σ m
      | .cond e x y => op1 σ e fun v => brT v fun t => ev E rs np T ret g false (.code (pkC t x y) :: k) (refS e t σ) m
      | .block id b => ev E rs np T ret g first (.code b :: .inBlock id :: k) σ m
      | .loop b => ev E rs np T ret g first (.code b :: .inLoop b :: k) σ m
      | .scope b => ev E rs np T ret g first (.code b :: .inScope b :: k) σ m
      | .exit id => match exitTo id k with
        | some k' => ev E rs np T ret g first k' σ m
        | none => none
      | .goto l => match gotoIn l k with
        | some k' => ev E rs np T ret g first k' σ m
        | none => none
      | .region id ops draw => match first with
        | true => evReg E id ops draw σ m fun σ m => match T (2 * id + 1) with
          | some c => cutTo E.own np c.1 c.2.1 c.2.2 σ m
          | none => ev E rs np T ret g false k σ m
        | false => match T (2 * id) with
          | some c => cutTo E.own np c.1 c.2.1 c.2.2 σ m
          | none => evReg E id ops draw σ m fun σ m => match T (2 * id + 1) with
            | some c => cutTo E.own np c.1 c.2.1 c.2.2 σ m
            | none => ev E rs np T ret g false k σ m
      | _ => none
    | _ => none
def TOk (R : Ro) (P : Program) (fn : Func) (np n : Nat) (L : List (Nat × List Item)) (T : Cuts R X) (ret : Tv R.D → List (Ent R.D) → Option X) : Prop :=
  ∀ key c, T key = some c → ∀ todo, (key, todo) ∈ L → ∀ vs m x, c.2.2 vs m = some x → ∀ ρ w a, np ≤ m.length → Rel R ρ m w → AtL R ρ w n c.1 vs a → Fin R P fn np ρ m w todo a (fun v m' => ret v m' = some x)
theorem cutTo_ok {n : Nat} {L : List (Nat × List Item)} {T : Cuts R X} {ret : Tv R.D → List (Ent R.D) → Option X} (hT : TOk R P fn np n L T ret) {key : Nat} {c : List Nat × List (Option Cv) × (List (Tv R.D) → List (Ent R.D) → Option X)} (hc : T key = some c) {todo : List Item} (hL : (key, todo) ∈ L)
    {own : TypeId → List (Nat × Nat × TypeId × Nat)} {σ : List (Nat × Tv R.D)} {m : List (Ent R.D)} {x : X} (h : cutTo own np c.1 c.2.1 c.2.2 σ m = some x) {ρ : Ow} {w : World} {a : Act} (hnp : np ≤ m.length) (hr : Rel R ρ m w) (hs : Sat R ρ w n σ a) : Fin R P fn np ρ m w todo a (fun v m' => ret v m' = some x) := by
  unfold cutTo at h
  split at h
  · rename_i vs hvs
    obtain ⟨ha, hk⟩ := finds_ok hs _ hvs
    obtain ⟨ρ0, g0, r0⟩ := fixM_ok own m ρ w hr
    have ha0 := ha.imp fun a b h => h.keep g0.fr hr.fits g0.ext.toLe
    obtain ⟨ρ1, g1, r1, ha1⟩ := fixs_ok c.2.1 vs (fixM own m) r0 ha0
    refine Fin.go hr hnp (g0.trans hr g1) ?_
    split at h
    rename_i vs1 m1 heq
    rw [heq] at r1 ha1
    rw [heq]
    dsimp only at r1 ha1 ⊢
    obtain ⟨s, vs', m', h, hsel, _, _, hloc⟩ := loc_ok h
    split at h
    · rename_i hp
      obtain ⟨hpl, hpa⟩ := preB_ok hp
      obtain ⟨hr', ha'⟩ := hloc ρ1 w _ r1 ha1
      exact Fin.cut r1 hp hsel (hT key c hc todo hL vs' m' x h (ρ1.sub m1 s) w a (by rw [hsel.len]; exact hpl) hr' ⟨hs.size, hs.defers, ha', hk⟩)
    · exact none_some h
  · exact none_some h
theorem ev_ok {E : Env R} (hE : EnvOk P E) {L : List (Nat × List Item)} {T : Cuts R X} {ret : Tv R.D → List (Ent R.D) → Option X} (hT : TOk R P fn np E.n L T ret) : ∀ (g : Nat) (first : Bool) (todo : List Item) (σ : List (Nat × Tv R.D)) (m : List (Ent R.D)) (x : X),
    AllIn L todo → ev E fn.results.toList np T ret g first todo σ m = some x → ∀ (ρ : Ow) (w : World) (a : Act), np ≤ m.length → Rel R ρ m w → Sat R ρ w E.n σ a → Fin R P fn np ρ m w todo a (fun v m' => ret v m' = some x)
  | 0, first, todo, σ, m, x, _, h => none_some h
  | g + 1, first, todo, σ, m, x, hL, h => by
    intro ρ w a hnp hr hs
    have ih := fun first todo σ m x => ev_ok hE hT g first todo σ m x
    have go : ∀ {first' : Bool} {todo' : List Item} {σ' : List (Nat × Tv R.D)}, ev E fn.results.toList np T ret g first' todo' σ' m = some x → AllIn L todo' → Sat R ρ w E.n σ' a →
        (∀ (b : Frame) (cs : List Frame), step P (lone (b.at a todo) cs w) = .next (lone (b.at a todo') cs w)) → Fin R P fn np ρ m w todo a (fun v m' => ret v m' = some x) :=
      fun h hL hs hst => (ih _ _ _ _ _ hL h ρ w a hnp hr hs).step hst
    unfold ev at h
    split at h
    · exact evRet_ok hE.tab h hnp hr hs fun b cs => step_end
    · exact go h hL.1 hs fun b cs => step_inBlock
    · exact go h hL.1 hs fun b cs => step_lone_go (by simp [stepG, stepG.exec, Frame.at])
    · exact go h ⟨hL, hL.2⟩ hs fun b cs => step_inLoop
    · rename_i c k
      split at h
      · exact evRet_ok hE.tab h hnp hr hs fun b cs => step_ret
      · exact go h hL.1 hs fun b cs => step_skip
      · exact go h hL.1 hs fun b cs => step_label
      · exact go h ⟨⟨hL.1, fun p hp => hL.2 p (List.mem_append.2 (.inr hp))⟩, fun p hp => hL.2 p (List.mem_append.2 (.inl hp))⟩ hs fun b cs => step_seq
      · rename_i e cx cy
        obtain ⟨v, hv, h⟩ := op1_ok h
        obtain ⟨t, h, hb⟩ := brT_ok h
        have he := hb ρ w _ (opd_ok hs hv)
        refine go h ⟨hL.1, fun p hp => hL.2 p ?_⟩ (refS_ok hs hv he) fun b cs => ?_
        · show p ∈ posOf cx k ++ posOf cy k
          rw [List.mem_append]
          cases t
          · exact .inr hp
          · exact .inl hp
        · have := step_cond (P := P) (b := b) (k := k) (cs := cs) (w := w) (x := cx) (y := cy) he
          rw [this]
          cases t <;> rfl
      · exact go h ⟨⟨hL.1, trivial⟩, hL.2⟩ hs fun b cs => step_block
      · exact go h ⟨⟨hL.1, hL.2⟩, hL.2⟩ hs fun b cs => step_loop
      · exact go h ⟨⟨hL.1, hL.2⟩, hL.2⟩ hs fun b cs => step_lone_go (by simp [stepG, stepG.exec, Frame.at])
      · split at h
        · rename_i k' hk'
          exact go h (hL.1.exit hk') hs fun b cs => step_exit hk'
        · exact none_some h
      · split at h
        · rename_i k' hk'
          exact go h (hL.1.goto hk') hs fun b cs => step_goto hk'
        · exact none_some h
      · rename_i id ops draw
        have hk1 : (2 * id + 1, k) ∈ L := hL.2 _ (by simp [posOf])
        have reg : ∀ {h : (evReg E id ops draw σ m fun σ m => match T (2 * id + 1) with
          | some c => cutTo E.own np c.1 c.2.1 c.2.2 σ m
          | none => ev E fn.results.toList np T ret g false k σ m) = some x}, Fin R P fn np ρ m w (.code (.region id ops draw) :: k) a (fun v m' => ret v m' = some x) := by
          intro h
          refine Fin.region hr hnp ?_
          unfold evReg at h
          have last : ∀ {σ' : List (Nat × Tv R.D)} {m' : List (Ent R.D)} {ρ' : Ow} {w' : World} {a' : Act}, (match T (2 * id + 1) with
              | some c => cutTo E.own np c.1 c.2.1 c.2.2 σ' m'
              | none => ev E fn.results.toList np T ret g false k σ' m') = some x → np ≤ m'.length → Rel R ρ' m' w' → Sat R ρ' w' E.n σ' a' → Fin R P fn np ρ' m' w' k a' (fun v m' => ret v m' = some x) := by
            intro σ' m' ρ' w' a' h hnp' hr' hs'
            split at h
            · rename_i c hc
              exact cutTo_ok hT hc hk1 h hnp' hr' hs'
            · exact ih _ _ _ _ _ hL.1 h ρ' w' a' hnp' hr' hs'
          split at h
          · have hrun := evOps_ok hE ops.toList 0 (fun j => by simp) h
            refine wp_region ?_
            have grows : ∀ {ρ' : Ow} {m' : List (Ent R.D)} {w' : World}, Go R ρ m w ρ' m' w' → Rel R ρ' m' w' → np ≤ m'.length := fun {ρ' m' w'} hg hr' => by
              rw [← hr'.len]
              rcases Nat.eq_zero_or_pos np with h0 | h0
              · omega
              · have hlt : np - 1 < ρ.r.length := by rw [hr.len]; omega
                have := (List.getElem?_eq_some_iff.1 (hg.ext.pre _ _ (List.getElem?_eq_getElem hlt))).1
                omega
            have := hrun ρ w a (fun e a' w' => e = .normal ∧ ∃ ρ' m', Go R ρ m w ρ' m' w' ∧ Fin R P fn np ρ' m' w' k a' (fun v m' => ret v m' = some x)) hr hs (fun σ' m' ρ' a' w' h hg hr' hs' => ⟨rfl, ρ', m', hg, last h (grows hg hr') hr' hs'⟩)
            rw [Array.length_toList] at this
            rw [List.range_eq_range']
            exact this
          · have grows : ∀ {ρ' : Ow} {m' : List (Ent R.D)} {w' : World}, Go R ρ m w ρ' m' w' → Rel R ρ' m' w' → np ≤ m'.length := fun {ρ' m' w'} hg hr' => by
              rw [← hr'.len]
              rcases Nat.eq_zero_or_pos np with h0 | h0
              · omega
              · have hlt : np - 1 < ρ.r.length := by rw [hr.len]; omega
                have := (List.getElem?_eq_some_iff.1 (hg.ext.pre _ _ (List.getElem?_eq_getElem hlt))).1
                omega
            exact evDraw_ok hE h hr hs fun σ' m' h ρ' a' w' hg hr' hs' => ⟨rfl, ρ', m', hg, last h (grows hg hr') hr' hs'⟩
        split at h
        · exact reg (h := h)
        · split at h
          · rename_i c hc
            exact cutTo_ok hT hc (hL.2 _ (by simp [posOf])) h hnp hr hs
          · exact reg (h := h)
      · exact none_some h
    · exact none_some h
end
end Go.Proofs.Ytjfcfljdojkcdaa.Ev
