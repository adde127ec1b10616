/- The evaluator's calls, and all its operations, each sound. -/
import Derived.Test.YtjfcfljdojkcdaaEvU
namespace Go.Proofs.Ytjfcfljdojkcdaa.Ev
open Go Go.RowKit
set_option linter.unusedVariables false
set_option linter.unusedSimpArgs false
/-- What a function does, as the evaluator tells it. -/
def Csem (R : Ro) := (X : Type) → List (Tv R.D) → List (Ent R.D) → (Tv R.D → List (Ent R.D) → Option X) → Option X
/-- What is known of the program, and of the function at hand. -/
structure Env (R : Ro) where
  tab : Nat → Option TI
  ct : Nat → Option (Csem R)
  mt : TypeId → String → Option FuncId
  still : FuncId → Bool
  code : TypeId → Option (RoT R)
  rt : Nat → Option (RoT R)
  n : Nat
  ord : Nat → List (Nat × Nat)
  own : TypeId → List (Nat × Nat × TypeId × Nat)
  cvo : List (Option Cv)
  eqt : TypeId → Option (List Nat)
  fresh : FuncId → Bool
  flat : Nat → Bool
  mpt : TypeId → Option MpT
  byt : Option (ByT R)
section
variable {R : Ro} {P : Program} {X : Type}
def CallOk (P : Program) (f : FuncId) (us : List Value) (w : World) (post : Value → World → Prop) : Prop :=
  ((callFunc f us.toArray).run P w = .ok (.enter f us.toArray) w ∧ Calls P f us.toArray w (fun e w' => ∃ u, e = .returned u ∧ post u w')) ∨
  ∃ u w', (callFunc f us.toArray).run P w = .ok (.value u) w' ∧ post u w'
theorem CallOk.mono {f : FuncId} {us : List Value} {w : World} {post post' : Value → World → Prop} (h : CallOk P f us w post) (hp : ∀ u w', post u w' → post' u w') : CallOk P f us w post' := by
  rcases h with ⟨h0, h1⟩ | ⟨u, w', h0, h1⟩
  · exact .inl ⟨h0, h1.mono fun e w' ⟨u, he, hq⟩ => ⟨u, he, hp u w' hq⟩⟩
  · exact .inr ⟨u, w', h0, hp u w' h1⟩
def Post (R : Ro) (ρ : Ow) (m : List (Ent R.D)) (w : World) (v : Tv R.D) (m' : List (Ent R.D)) (u : Value) (w' : World) : Prop :=
  ∃ ρ', Go R ρ m w ρ' m' w' ∧ Rel R ρ' m' w' ∧ IsT R ρ' w' v u
def CsemOk (R : Ro) (P : Program) (f : FuncId) (s : Csem R) : Prop :=
  ∀ (X : Type) (args : List (Tv R.D)) (m : List (Ent R.D)) (K : Tv R.D → List (Ent R.D) → Option X) (x : X), s X args m K = some x →
    ∃ v m', K v m' = some x ∧ ∀ (ρ : Ow) (w : World) (us : List Value), Rel R ρ m w → All2 (IsT R ρ w) args us → CallOk P f us w (Post R ρ m w v m')
def CtOk (R : Ro) (P : Program) (ct : Nat → Option (Csem R)) : Prop := ∀ f s, ct f = some s → CsemOk R P f s
def MtOk (P : Program) (mt : TypeId → String → Option FuncId) : Prop :=
  ∀ t name f, mt t name = some f → ∀ (a : Addr) (w : World), (method (P.types.size + Made.depth) t (.pointer (some a)) name).run P w = .ok (f, .pointer (some a)) w
def evFn1 (s : Csem R) (args : List (Tv R.D)) (m : List (Ent R.D)) (K : Tv R.D → List (Ent R.D) → Option X) : Option X :=
  loc [] args m fun sel args' m' => match liveB m sel with
    | true => s X args' m' fun v mm => K (renTv (back sel m.length) v) (mergeM m sel (mm.map (renEnt (back sel m.length))))
    | false => none
def evFn (E : Env R) (f : FuncId) (args : List (Tv R.D)) (m : List (Ent R.D)) (K : Tv R.D → List (Ent R.D) → Option X) : Option X :=
  match E.ct f with
  | some s => evFn1 s args (fixM (own0 E.own) m) K
  | none => none
theorem evFn_ok {E : Env R} (hct : CtOk R P E.ct) {f : FuncId} {args : List (Tv R.D)} {m : List (Ent R.D)} {K : Tv R.D → List (Ent R.D) → Option X} {x : X} (h : evFn E f args m K = some x) :
    ∃ v m', K v m' = some x ∧ ∀ (ρ : Ow) (w : World) (us : List Value), Rel R ρ m w → All2 (IsT R ρ w) args us → CallOk P f us w (Post R ρ m w v m') := by
  unfold evFn at h
  split at h
  · rename_i s hs
    unfold evFn1 at h
    obtain ⟨sel, args', m', h, hsel, _, _, hloc⟩ := loc_ok h
    split at h
    case h_2 => exact none_some h
    rename_i hlive
    have hlive := liveB_ok hlive
    obtain ⟨v, mm, h, hcall⟩ := hct f s hs X args' m' _ x h
    refine ⟨_, _, h, fun ρ w us hr0 ha0 => ?_⟩
    obtain ⟨ρ0, g0, hr⟩ := fixM_ok (own0 E.own) m ρ w hr0
    have ha := ha0.imp fun a b h => h.keep g0.fr hr0.fits g0.ext.toLe
    obtain ⟨hr', ha'⟩ := hloc ρ0 w us hr ha
    refine (hcall _ w us hr' ha').mono fun u w' ⟨ρ1, hg, hrel, hi⟩ => ?_
    obtain ⟨ρ2, h1, h2, h3⟩ := back_ok hr hsel hlive hg hrel
    exact ⟨ρ2, g0.trans hr0 h1, h2, h3 v u hi⟩
  · exact none_some h
/-- A cell that tells nothing of what others own. -/
def noRo : Lf R.D → Bool
  | .ro _ _ => false
  | .ept _ _ _ _ => false
  | .full _ _ => false
  | _ => true
def noRoA : Av R.D → Bool | .lf l => noRo l | .agg cs => cs.all noRo
def noRoT : Tv R.D → Bool | .lf l => noRo l | .agg cs => cs.all noRo | .tup vs => vs.all noRoA | .un => true
def noRoE (flat : Nat → Bool) : Ent R.D → Bool | .blk cs _ => cs.all noRo | .row c _ _ => flat c | .mp _ => false | .dead => true
theorem Is.noro {ρ ρ' : Ow} {w : World} {f : Nat → Nat} {l : Lf R.D} {u : Value} (hi : Is R ρ w l u) (hn : noRo l = true) (hr : ∀ h ∈ lfH l, ∀ b, ρ.r[h]? = some b → ρ'.r[f h]? = some b) : Is R ρ' w (renLf f l) u := by
  cases hi with
  | v _ h => exact .v _ h
  | cmp p d => exact .cmp p d
  | ptr h off b hb => exact .ptr _ off b (hr h (by simp [lfH]) _ hb)
  | nil c a cap => cases hn
  | ro c l b o cap f' hL hl hb hn' hc hv => cases hn
  | row c h b cap len hb => exact .row c _ b cap len (hr h (by simp [lfH]) _ hb)
  | rnil c h a hb => exact .rnil c _ a (hr h (by simp [lfH]) _ hb)
  | sl c h o n a k hk hL hb => exact .sl c _ o n a k hk hL (hb.imp (fun ⟨h0, h1⟩ => ⟨h0, fun e => (h1 e).imp fun q ⟨h2, h3⟩ => ⟨hr h (by simp [lfH]) _ h2, h3⟩⟩) fun ⟨b, cap, len, h1, h2⟩ => ⟨b, cap, len, hr h (by simp [lfH]) _ h1, h2⟩)
  | rp c h b cap len i j hb h0 h1 => exact .rp c _ b cap len i j (hr h (by simp [lfH]) _ hb) h0 h1
  | ept c l b o i k f' hb hn' h0 h1 hc hv => cases hn
  | fn g caps vs h =>
    refine .fn g _ vs (h.map_left fun c hc u ⟨b, hb, hu⟩ => ⟨b, hr c.1 ?_ _ hb, hu⟩)
    simp only [lfH, List.mem_map]
    exact ⟨c, hc, rfl⟩
  | ifc t h off b hb => exact .ifc t _ off b (hr h (by simp [lfH]) _ hb)
  | mref h b hb => exact .mref _ b (hr h (by simp [lfH]) _ hb)
  | full c l a h => cases hn
theorem noro_all {ρ ρ' : Ow} {w : World} {f : Nat → Nat} {cs : List (Lf R.D)} {us : List Value} (ha : All2 (Is R ρ w) cs us) (hn : cs.all noRo = true) (hr : ∀ h ∈ lfsH cs, ∀ b, ρ.r[h]? = some b → ρ'.r[f h]? = some b) : All2 (Is R ρ' w) (cs.map (renLf f)) us :=
  ha.map_left fun l hl u hi => hi.noro (List.all_eq_true.1 hn l hl) fun h hh => hr h (mem_lfsH hl hh)
theorem IsT.noro {ρ ρ' : Ow} {w : World} {f : Nat → Nat} {v : Tv R.D} {u : Value} (hi : IsT R ρ w v u) (hn : noRoT v = true) (hr : ∀ h ∈ tvH v, ∀ b, ρ.r[h]? = some b → ρ'.r[f h]? = some b) : IsT R ρ' w (renTv f v) u := by
  cases v with
  | lf l => exact Is.noro hi hn hr
  | agg cs => obtain ⟨us, hu, ha⟩ := hi; exact ⟨us, hu, noro_all ha hn hr⟩
  | un => exact hi
  | tup vs =>
    obtain ⟨us, hu, ha⟩ := hi
    refine ⟨us, hu, ha.map_left fun l hl u hi => ?_⟩
    have hn' := List.all_eq_true.1 hn l hl
    cases l with
    | lf l => exact Is.noro hi hn' fun h hh => hr h (mem_avsH hl hh)
    | agg cs => obtain ⟨us, hu, ha⟩ := hi; exact ⟨us, hu, noro_all ha hn' fun h hh => hr h (mem_avsH hl hh)⟩
theorem EntOk.noro {flat : Nat → Bool} (hflat : ∀ c, flat c = true → ∀ x, (R.enc c x).all noRo = true) {ρ ρ' : Ow} {w : World} {b : Bk} {f : Nat → Nat} {e : Ent R.D} (hi : EntOk R ρ w b e) (hn : noRoE flat e = true) (hr : ∀ h ∈ entH e, ∀ b, ρ.r[h]? = some b → ρ'.r[f h]? = some b) : EntOk R ρ' w b (renEnt f e) := by
  cases b with
  | blk b =>
    cases e with
    | blk cs t => obtain ⟨us, hu, ha⟩ := hi; exact ⟨us, hu, noro_all ha hn hr⟩
    | row c l t => exact hi
    | mp l => cases hn
    | dead => trivial
  | row b cap len =>
    cases e with
    | blk cs t => exact hi
    | row c l t =>
      obtain ⟨h1, h2, h2', us, zs, hu, ha, h3⟩ := hi
      refine ⟨h1, h2, h2', us, zs, hu, ?_, h3⟩
      have hall : ∀ a ∈ encs R c l, noRo a = true ∧ lfH a = [] := by
        clear ha h1
        intro a hm
        induction l with
        | nil => simp [encs] at hm
        | cons x l ih =>
          simp only [encs, List.mem_append] at hm
          rcases hm with hm | hm
          · exact ⟨List.all_eq_true.1 (hflat c hn x) a hm, free_none (List.all_eq_true.1 (R.free c x) a hm)⟩
          · exact ih hn hr hm
      have := ha.map_left (g := renLf f) (r := Is R ρ' w) fun a hm u hu => hu.noro (hall a hm).1 fun h hh => by rw [(hall a hm).2] at hh; simp at hh
      rwa [show (encs R c l).map (renLf f) = encs R c l from by
        conv => rhs; rw [← List.map_id (encs R c l)]
        exact List.map_congr_left fun a hm => by rw [ren_none (hall a hm).2]; rfl] at this
    | mp l => cases hn
    | dead => trivial
  | nil =>
    cases e with
    | blk cs t => exact hi
    | row c l t => exact hi
    | mp l => cases hn
    | dead => trivial
structure EnvOk (P : Program) (E : Env R) : Prop where
  tab : TabOk P E.tab
  ct : CtOk R P E.ct
  mt : MtOk P E.mt
  mixed : P.follows .mixedOrders = true
  eqt : EqOk P E.eqt
  flat : ∀ c, E.flat c = true → ∀ x, (R.enc c x).all noRo = true
  mpt : MpOk P E.mpt
/-! ### Calls that are told everything for reading alone -/
def nilB : List Nat → Bool | [] => true | _ => false
/-- A cell, told for reading alone. -/
def roLf (m : List (Ent R.D)) (l : Lf R.D) : Option (Lf R.D) :=
  match l with
  | .row c h => match Nat.ble 1 (R.sz c) with
    | true => match srcOf m c (.lf (.row c h)) with
      | some l => some (.ro c l)
      | none => none
    | false => none
  | .sl c h o n => match Nat.ble 1 (R.sz c) with
    | true => match srcOf m c (.lf (.sl c h o n)) with
      | some l => some (.ro c l)
      | none => none
    | false => none
  | l => match nilB (lfH l) with
    | true => some l
    | false => none
def roLfs (m : List (Ent R.D)) : List (Lf R.D) → Option (List (Lf R.D))
  | [] => some []
  | l :: r => match roLf m l with
    | some l => match roLfs m r with
      | some r => some (l :: r)
      | none => none
    | none => none
def roArg (E : Env R) (m : List (Ent R.D)) (v : Tv R.D) : Option (Tv R.D) :=
  match v with
  | .lf (.ptr h off) => match m[h]? with
    | some (.blk cs t) => match E.code t with
      | some c => match roLfs m cs with
        | some cs => match c.d.dec cs with
          | some x => some (.lf (.ept c.c [x] 0 off))
          | none => none
        | none => none
      | none => none
    | _ => none
  | .lf (.ifc t h off) => none
  | .lf l => match roLf m l with
    | some l => some (.lf l)
    | none => none
  | .agg cs => match roLfs m cs with
    | some cs => some (.agg cs)
    | none => none
  | v => match nilB (tvH v) with
    | true => some v
    | false => none
def roArgs (E : Env R) (m : List (Ent R.D)) : List (Tv R.D) → Option (List (Tv R.D))
  | [] => some []
  | v :: vs => match roArg E m v with
    | some v => match roArgs E m vs with
      | some r => some (v :: r)
      | none => none
    | none => none
def scalL {D : Nat → Type} : Lf D → Bool | .v _ => true | .cmp _ _ => true | _ => false
def scalA {D : Nat → Type} : Av D → Bool | .lf l => scalL l | .agg cs => cs.all scalL
def scalT {D : Nat → Type} : Tv D → Bool | .lf l => scalL l | .agg cs => cs.all scalL | .tup vs => vs.all scalA | .un => true
def evFnR (E : Env R) (f : FuncId) (args : List (Tv R.D)) (m : List (Ent R.D)) (K : Tv R.D → Option X) : Option X :=
  match E.ct f with
  | some s => match roArgs E m args with
    | some args' => s X args' [] fun v _ => match scalT v with
      | true => K v
      | false => none
    | none => none
  | none => none
/-- A call that reads, and makes something new. -/
def evFnN (E : Env R) (f : FuncId) (args : List (Tv R.D)) (m : List (Ent R.D)) (K : Tv R.D → List (Ent R.D) → Option X) : Option X :=
  match E.ct f with
  | some s => match roArgs E m args with
    | some args' => s X args' [] fun v mm => match noRoT v with
      | true => match mm.all (noRoE E.flat) with
        | true => K (renTv (back [] m.length) v) (m ++ mm.map (renEnt (back [] m.length)))
        | false => none
      | false => none
    | none => none
  | none => none
/-- A call that makes something new, out of nothing that is there. -/
def evFnG (E : Env R) (f : FuncId) (args : List (Tv R.D)) (m : List (Ent R.D)) (K : Tv R.D → List (Ent R.D) → Option X) : Option X :=
  match E.ct f with
  | some s => match nilB (tvsH args) with
    | true => s X args [] fun v mm => K (renTv (back [] m.length) v) (appM m (mm.map (renEnt (back [] m.length))))
    | false => none
  | none => none
theorem nilB_ok {l : List Nat} (h : nilB l = true) : l = [] := by cases l <;> simp [nilB] at h ⊢
theorem roLf_ok {m : List (Ent R.D)} {l l' : Lf R.D} (h : roLf m l = some l') {ρ : Ow} {w : World} {u : Value} (hr : Rel R ρ m w) (hu : Is R ρ w l u) : Is R Ow.none w l' u := by
  unfold roLf at h
  split at h
  · split at h
    · rename_i hz
      split at h
      · rename_i l hl
        cases h
        exact (srcOf_ok hl hr hu).ro (Nat.le_of_ble_eq_true hz)
      · cases h
    · cases h
  · split at h
    · rename_i hz
      split at h
      · rename_i l hl
        cases h
        exact (srcOf_ok hl hr hu).ro (Nat.le_of_ble_eq_true hz)
      · cases h
    · cases h
  · split at h
    · rename_i hn
      cases h
      exact hu.free (nilB_ok hn) fun b h => h.elim
    · cases h
theorem roLfs_ok {m : List (Ent R.D)} {ρ : Ow} {w : World} (hr : Rel R ρ m w) : ∀ {ls ls' : List (Lf R.D)} {us : List Value}, roLfs m ls = some ls' → All2 (Is R ρ w) ls us → All2 (Is R Ow.none w) ls' us
  | [], ls', us, h, hu => by simp only [roLfs, Option.some.injEq] at h; subst h; cases hu; exact .nil
  | v :: vs, vs', us, h, hu => by
    simp only [roLfs] at h
    split at h
    · rename_i v1 h1
      split at h
      · rename_i r h2
        cases h
        cases hu with
        | cons u0 u1 => exact .cons (roLf_ok h1 hr u0) (roLfs_ok hr h2 u1)
      · cases h
    · cases h
theorem roArg_ok {E : Env R} {m : List (Ent R.D)} {v v' : Tv R.D} (h : roArg E m v = some v') {ρ : Ow} {w : World} {u : Value} (hr : Rel R ρ m w) (hu : IsT R ρ w v u) : IsT R Ow.none w v' u := by
  unfold roArg at h
  split at h
  · rename_i hh off
    split at h
    · rename_i cs t hm
      split at h
      · rename_i c hc
        split at h
        · rename_i cs' hcs
          split at h
          · rename_i x hx
            cases h
            cases hu with
            | ptr _ _ b hb =>
            have hok := hr.ok _ _ _ hb hm
            have hheld : Held ρ m b := ⟨_, _, _, hb, hm, trivial, rfl⟩
            obtain ⟨us, hus, ha⟩ := hok
            have ha := roLfs_ok hr hcs ha
            have hrf := c.d.ok _ _ hx
            rw [c.enc] at hrf
            have ha' : All2 (Is R Ow.none w) (R.enc c.c x) us := rf_is hrf ha
            have hlen : us.length = R.sz c.c := by rw [← ha'.length, R.len]
            have := Is.ept (R := R) (ρ := Ow.none) (w := w) c.c [x] b 0 0 off (fun _ j => us.getD j undef) (hr.lt b (hr.fits b hheld)) (fun h => h) (by omega) (by simp) (fun i j hi hj => by
              have hi0 : i = 0 := by simpa using hi
              subst hi0
              rw [show 0 + 0 * R.sz c.c + j = j by omega, cell_blk hus]
              have hj' : j < us.length := by rw [hlen]; exact hj
              simp [List.getD, List.getElem?_eq_getElem hj']) (fun i y j lf hi hj => by
              have hi0 : i = 0 := by
                have := (List.getElem?_eq_some_iff.1 hi).1
                simpa using this
              subst hi0
              simp only [List.getElem?_cons_zero, Option.some.injEq] at hi
              subst hi
              obtain ⟨q, hq, hiq⟩ := ha'.get _ _ hj
              simp only [List.getD, hq, Option.getD_some]
              exact hiq)
            show Is R Ow.none w _ _
            simpa using this
          · cases h
        · cases h
      · cases h
    · cases h
  · cases h
  · split at h
    · rename_i l' hl'
      cases h
      exact roLf_ok hl' hr hu
    · cases h
  · split at h
    · rename_i cs' hcs
      cases h
      obtain ⟨us, hus, ha⟩ := hu
      exact ⟨us, hus, roLfs_ok hr hcs ha⟩
    · cases h
  · split at h
    · rename_i hn
      cases h
      exact hu.free (nilB_ok hn) fun b h => h.elim
    · cases h
theorem roArgs_ok {E : Env R} {m : List (Ent R.D)} {ρ : Ow} {w : World} (hr : Rel R ρ m w) : ∀ {vs vs' : List (Tv R.D)} {us : List Value}, roArgs E m vs = some vs' → All2 (IsT R ρ w) vs us → All2 (IsT R Ow.none w) vs' us
  | [], vs', us, h, hu => by simp only [roArgs, Option.some.injEq] at h; subst h; cases hu; exact .nil
  | v :: vs, vs', us, h, hu => by
    simp only [roArgs] at h
    split at h
    · rename_i v1 h1
      split at h
      · rename_i r h2
        cases h
        cases hu with
        | cons u0 u1 => exact .cons (roArg_ok h1 hr u0) (roArgs_ok hr h2 u1)
      · cases h
    · cases h
theorem scal_free {l : Lf R.D} (h : scalL l = true) {ρ ρ' : Ow} {w w' : World} {u : Value} (hi : Is R ρ w l u) : Is R ρ' w' l u := by
  cases hi <;> first
    | (apply Is.v; assumption)
    | exact Is.cmp _ _
    | (simp [scalL] at h)
theorem scals_free {ρ ρ' : Ow} {w w' : World} : ∀ {cs : List (Lf R.D)} {us : List Value}, cs.all scalL = true → All2 (Is R ρ w) cs us → All2 (Is R ρ' w') cs us
  | _, _, _, .nil => .nil
  | _, _, h, .cons h0 h1 => by
    simp only [List.all_cons, Bool.and_eq_true] at h
    exact .cons (scal_free h.1 h0) (scals_free h.2 h1)
theorem scalT_free {v : Tv R.D} (h : scalT v = true) {ρ ρ' : Ow} {w w' : World} {u : Value} (hi : IsT R ρ w v u) : IsT R ρ' w' v u := by
  cases v with
  | lf l => exact scal_free h hi
  | agg cs => obtain ⟨us, hu, ha⟩ := hi; exact ⟨us, hu, scals_free h ha⟩
  | un => exact hi
  | tup vs =>
    obtain ⟨us, hu, ha⟩ := hi
    refine ⟨us, hu, ?_⟩
    clear hu
    simp only [scalT] at h
    induction ha with
    | nil => exact .nil
    | @cons a b l m h0 _ ih =>
      simp only [List.all_cons, Bool.and_eq_true] at h
      refine .cons ?_ (ih h.2)
      cases a with
      | lf l => exact scal_free h.1 h0
      | agg cs => obtain ⟨us, hu, ha⟩ := h0; exact ⟨us, hu, scals_free h.1 ha⟩
theorem evFnR_ok {E : Env R} (hct : CtOk R P E.ct) {f : FuncId} {args : List (Tv R.D)} {m : List (Ent R.D)} {K : Tv R.D → Option X} {x : X} (h : evFnR E f args m K = some x) :
    ∃ v, K v = some x ∧ ∀ (ρ : Ow) (w : World) (us : List Value), Rel R ρ m w → All2 (IsT R ρ w) args us → CallOk P f us w (Post R ρ m w v m) := by
  unfold evFnR at h
  split at h
  · rename_i s hs
    split at h
    · rename_i args' ha
      obtain ⟨v, m', h, hcall⟩ := hct f s hs X args' [] _ x h
      split at h
      · rename_i hsc
        refine ⟨v, h, fun ρ w us hr hargs => (hcall Ow.none w us (Rel.none w) (roArgs_ok hr ha hargs)).mono fun u w' ⟨ρ1, hg, hrel, hi⟩ => ?_⟩
        have hf : Fr (Held ρ m) w w' := hg.fr.imp fun b hb => (held_nil hb).elim
        refine ⟨ρ, ⟨Ext.refl ρ m w, hf⟩, ?_, scalT_free hsc hi⟩
        exact hr.same hf hr.fits fun b hb => hg.fr.blk b (hr.lt b (hr.fits b hb)) held_nil
      · cases h
    · cases h
  · cases h
theorem evFnN_ok {E : Env R} (hE : EnvOk P E) {f : FuncId} {args : List (Tv R.D)} {m : List (Ent R.D)} {K : Tv R.D → List (Ent R.D) → Option X} {x : X} (h : evFnN E f args m K = some x) :
    ∃ v es, K v (m ++ es) = some x ∧ ∀ (ρ : Ow) (w : World) (us : List Value), Rel R ρ m w → All2 (IsT R ρ w) args us → CallOk P f us w (Post R ρ m w v (m ++ es)) := by
  unfold evFnN at h
  split at h
  case h_2 => exact none_some h
  rename_i s hs
  split at h
  case h_2 => exact none_some h
  rename_i args' ha
  obtain ⟨v, mm, h, hcall⟩ := hE.ct f s hs X args' [] _ x h
  split at h
  case h_2 => exact none_some h
  rename_i hn1
  split at h
  case h_2 => exact none_some h
  rename_i hn2
  refine ⟨_, _, h, fun ρ w us hr hargs => (hcall Ow.none w us (Rel.none w) (roArgs_ok hr ha hargs)).mono fun u w' ⟨ρ1, hg, hrel, hi⟩ => ?_⟩
  have hf : Fr (Held ρ m) w w' := hg.fr.imp fun b hb => (held_nil hb).elim
  have hnew : ∀ b, Held ρ1 mm b → w.heap.size ≤ b := fun b hb => (hg.ext.held b hb).resolve_left held_nil
  let ρ2 : Ow := ⟨fun b => ρ.F b ∨ ρ1.F b, ρ.r ++ ρ1.r⟩
  have hlen : mm.length = ρ1.r.length := hrel.len.symm
  have hren : ∀ (q : Nat) (b : Bk), ρ1.r[q]? = some b → ρ2.r[back [] m.length q]? = some b := fun q b hq => by
    show (ρ.r ++ ρ1.r)[back [] m.length q]? = some b
    simp only [back, List.getElem?_nil, List.length_nil, Nat.sub_zero]
    rw [List.getElem?_append_right (by rw [hr.len]; omega), hr.len, show m.length + q - m.length = q by omega]
    exact hq
  have hle : Le ρ w ρ2 := ⟨fun i q hi => by
    show (ρ.r ++ ρ1.r)[i]? = _
    rw [List.getElem?_append_left (List.getElem?_eq_some_iff.1 hi).1]; exact hi, fun b hb => hb.imp id fun h => (hg.ext.F1 b h).resolve_left fun h => h⟩
  have split2 : ∀ {j : Nat} {p : Bk} {e : Ent R.D}, ρ2.r[j]? = some p → (m ++ mm.map (renEnt (back [] m.length)))[j]? = some e → (ρ.r[j]? = some p ∧ m[j]? = some e) ∨ ∃ i e', j = m.length + i ∧ ρ1.r[i]? = some p ∧ mm[i]? = some e' ∧ e = renEnt (back [] m.length) e' := by
    intro j p e hj he
    replace hj : (ρ.r ++ ρ1.r)[j]? = some p := hj
    rcases Nat.lt_or_ge j m.length with hlt | hge
    · rw [List.getElem?_append_left (by rw [hr.len]; exact hlt)] at hj
      rw [List.getElem?_append_left hlt] at he
      exact .inl ⟨hj, he⟩
    · rw [List.getElem?_append_right (by rw [hr.len]; exact hge), hr.len] at hj
      rw [List.getElem?_append_right hge, List.getElem?_map, Option.map_eq_some_iff] at he
      obtain ⟨e', he', rfl⟩ := he
      exact .inr ⟨j - m.length, e', by omega, hj, he', rfl⟩
  have hheld : ∀ b, Held ρ2 (m ++ mm.map (renEnt (back [] m.length))) b → Held ρ m b ∨ Held ρ1 mm b := fun b ⟨j, p, e, hj, he, hl, hp⟩ => by
    rcases split2 hj he with ⟨h1, h2⟩ | ⟨i, e', _, h1, h2, rfl⟩
    · exact .inl ⟨j, p, e, h1, h2, hl, hp⟩
    · exact .inr ⟨i, p, e', h1, h2, renEnt_live.1 hl, hp⟩
  refine ⟨ρ2, ⟨⟨hle, fun b hb _ => .inl hb, fun b hb => (hheld b hb).imp id (hnew b), fun j hj => ?_⟩, hf⟩, ⟨?_, ?_, ?_, ?_, ?_⟩, hi.noro hn1 fun q _ b hb => hren q b hb⟩
  · rw [List.getElem?_append_left (List.getElem?_eq_some_iff.1 hj).1]; exact hj
  · show (ρ.r ++ ρ1.r).length = _
    rw [List.length_append, List.length_append, List.length_map, hr.len, hlen]
  · intro i j p q e e' b hi hj hie hje hl1 hl2 hp hq
    rcases split2 hi hie with ⟨h1, h2⟩ | ⟨i1, e1, rfl, h1, h2, rfl⟩
    · rcases split2 hj hje with ⟨h3, h4⟩ | ⟨i2, e2, rfl, h3, h4, rfl⟩
      · exact hr.nd i j p q e e' b h1 h3 h2 h4 hl1 hl2 hp hq
      · exfalso
        have k1 := hr.lt b (hr.fits b ⟨i, p, e, h1, h2, hl1, hp⟩)
        have k2 := hnew b ⟨i2, q, e2, h3, h4, renEnt_live.1 hl2, hq⟩
        omega
    · rcases split2 hj hje with ⟨h3, h4⟩ | ⟨i2, e2, rfl, h3, h4, rfl⟩
      · exfalso
        have k1 := hr.lt b (hr.fits b ⟨j, q, e', h3, h4, hl2, hq⟩)
        have k2 := hnew b ⟨i1, p, e1, h1, h2, renEnt_live.1 hl1, hp⟩
        omega
      · rw [hrel.nd i1 i2 p q e1 e2 b h1 h3 h2 h4 (renEnt_live.1 hl1) (renEnt_live.1 hl2) hp hq]
  · intro b hb
    rcases hb with hb | hb
    · exact Nat.lt_of_lt_of_le (hr.lt b hb) hf.size
    · exact hrel.lt b hb
  · intro b hb
    exact (hheld b hb).imp (hr.fits b) (hrel.fits b)
  · intro j p e hj he
    rcases split2 hj he with ⟨h1, h2⟩ | ⟨i, e', _, h1, h2, rfl⟩
    · exact (hr.ok j p e h1 h2).keep hf hr.fits hle fun b hb hl => hg.fr.blk b (hr.lt b (hr.fits b ⟨j, p, e, h1, h2, hl, hb⟩)) held_nil
    · exact (hrel.ok i p e' h1 h2).noro hE.flat (List.all_eq_true.1 hn2 e' (List.mem_of_getElem? h2)) fun q _ b hb => hren q b hb
theorem evFnG_okU {E : Env R} (hct : CtOk R P E.ct) {f : FuncId} {args : List (Tv R.D)} {m : List (Ent R.D)} {K : Tv R.D → List (Ent R.D) → Option X} {x : X} (h : evFnG E f args m K = some x) :
    ∃ (v : Tv R.D) (mm : List (Ent R.D)), K (renTv (back [] m.length) v) (appM m (mm.map (renEnt (back [] m.length)))) = some x ∧ ∀ (m0 : List (Ent R.D)) (ρ : Ow) (w : World) (us : List Value), Rel R ρ m0 w → All2 (IsT R ρ w) args us →
      CallOk P f us w (Post R ρ m0 w (renTv (back [] m0.length) v) (appM m0 (mm.map (renEnt (back [] m0.length))))) := by
  unfold evFnG at h
  split at h
  · rename_i s hs
    split at h
    · rename_i hn
      have hn := nilB_ok hn
      obtain ⟨v, mm, h, hcall⟩ := hct f s hs X args [] _ x h
      refine ⟨v, mm, h, fun m0 ρ w us hr hargs => ?_⟩
      have hsub : Rel R (ρ.sub m0 []) [] w := ⟨rfl, fun i j p q e e' b hi => by simp [Ow.sub] at hi, hr.lt, fun b hb => (held_nil hb).elim, fun i b e hi => by simp [Ow.sub] at hi⟩
      have hargs' : All2 (IsT R (ρ.sub m0 []) w) args us := by
        have : ∀ {vs : List (Tv R.D)} {us : List Value}, tvsH vs = [] → All2 (IsT R ρ w) vs us → All2 (IsT R (ρ.sub m0 []) w) vs us := by
          intro vs us h ha
          induction ha with
          | nil => exact .nil
          | cons h0 _ ih =>
            simp only [tvsH, List.append_eq_nil_iff] at h
            exact .cons (h0.free h.1 fun b h => h) (ih h.2)
        exact this hn hargs
      refine (hcall (ρ.sub m0 []) w us hsub hargs').mono fun u w' ⟨ρ1, hg, hrel, hi⟩ => ?_
      obtain ⟨ρ2, h1, h2, h3⟩ := back_ok (s := []) (m' := []) hr ⟨.nil, fun q hq => by simp at hq, rfl, fun i h hi => by simp at hi⟩ (fun q hq => by simp at hq) hg hrel
      exact ⟨ρ2, by simpa only [mergeM] using h1, by simpa only [mergeM] using h2, h3 v u hi⟩
    · cases h
  · cases h
theorem evFnG_ok {E : Env R} (hct : CtOk R P E.ct) {f : FuncId} {args : List (Tv R.D)} {m : List (Ent R.D)} {K : Tv R.D → List (Ent R.D) → Option X} {x : X} (h : evFnG E f args m K = some x) :
    ∃ v es, K v (appM m es) = some x ∧ ∀ (ρ : Ow) (w : World) (us : List Value), Rel R ρ m w → All2 (IsT R ρ w) args us → CallOk P f us w (Post R ρ m w v (appM m es)) := by
  obtain ⟨v, mm, h, hc⟩ := evFnG_okU hct h
  exact ⟨_, _, h, hc m⟩
def op1 {D : Nat → Type} (σ : List (Nat × Tv D)) (x : Operand) (K : Tv D → Option X) : Option X :=
  match opd σ x with
  | some v => K v
  | none => none
theorem op1_ok {D : Nat → Type} {σ : List (Nat × Tv D)} {e : Operand} {K : Tv D → Option X} {x : X} (h : op1 σ e K = some x) : ∃ v, opd σ e = some v ∧ K v = some x := by
  unfold op1 at h
  split at h
  · exact ⟨_, by assumption, h⟩
  · exact none_some h
def opt1 {D : Nat → Type} (σ : List (Nat × Tv D)) (x : Option Operand) (K : Option (Tv D) → Option X) : Option X :=
  match x with
  | some x => match opd σ x with
    | some v => K (some v)
    | none => none
  | none => K none
theorem opt1_ok {σ : List (Nat × Tv R.D)} {e : Option Operand} {K : Option (Tv R.D) → Option X} {x : X} (h : opt1 σ e K = some x) : ∃ v, K v = some x ∧ (∀ {ρ : Ow} {w : World} {n : Nat} {a : Act}, Sat R ρ w n σ a → (∀ q, v = some q → ∃ u, e.map a.eval = some u ∧ IsT R ρ w q u) ∧ (v = none → e.map a.eval = none)) := by
  unfold opt1 at h
  split at h
  · rename_i e
    split at h
    · rename_i v hv
      exact ⟨_, h, fun hs => ⟨fun q hq => (by cases hq; exact ⟨_, rfl, opd_ok hs hv⟩), fun h => (by cases h)⟩⟩
    · exact none_some h
  · exact ⟨_, h, fun hs => ⟨fun q hq => (by cases hq), fun _ => rfl⟩⟩
def opds {D : Nat → Type} (σ : List (Nat × Tv D)) : List Operand → Option (List (Tv D))
  | [] => some []
  | e :: r => match opd σ e with
    | some v => match opds σ r with
      | some l => some (v :: l)
      | none => none
    | none => none
theorem opds_ok {ρ : Ow} {w : World} {n : Nat} {σ : List (Nat × Tv R.D)} {a : Act} (hs : Sat R ρ w n σ a) : ∀ (l : List Operand) {vs : List (Tv R.D)}, opds σ l = some vs → All2 (IsT R ρ w) vs (l.map a.eval)
  | [], vs, h => by simp only [opds, Option.some.injEq] at h; subst h; exact .nil
  | e :: l, vs, h => by
    simp only [opds] at h
    split at h
    · rename_i v hv
      split at h
      · rename_i r hr
        simp only [Option.some.injEq] at h
        subst h
        exact .cons (opd_ok hs hv) (opds_ok hs l hr)
      · exact none_some h
    · exact none_some h
def evBuiltin {D : Nat → Type} (tab : Nat → Option TI) (b : Builtin) (ts : List TypeId) (args : List (Tv D)) (K : Tv D → Option X) : Option X :=
  match b with
  | .len => match ts with
    | t :: _ => match args with
      | [v] => evLen tab t v K
      | _ => none
    | _ => none
  | .max => match args with
    | .lf (.v (.int k a)) :: r => evMM true k a r K
    | _ => none
  | .min => match args with
    | .lf (.v (.int k a)) :: r => evMM false k a r K
    | _ => none
  | _ => none
def evBuiltinX (tab : Nat → Option TI) (b : Builtin) (ts : List TypeId) (args : List (Tv R.D)) (m : List (Ent R.D)) (K : Tv R.D → Option X) : Option X :=
  match b with
  | .len => match ts with
    | t :: _ => match args with
      | [v] => evLenX tab t v m K
      | _ => none
    | _ => none
  | b => evBuiltin tab b ts args K
def capsT {D : Nat → Type} : List (Nat × Nat) → List (Tv D)
  | [] => []
  | c :: r => .lf (.ptr c.1 c.2) :: capsT r
def evCall (E : Env R) (σ : List (Nat × Tv R.D)) (c : Call) (m : List (Ent R.D)) (K : Tv R.D → List (Ent R.D) → Option X) : Option X :=
  match opds σ c.args.toList with
  | some args => match c.callee with
    | .builtin b => match isMem b with
      | true => evMem E.code E.tab b c.argTypes.toList args m K
      | false => evBuiltinX E.tab b c.argTypes.toList args m fun v => K v m
    | .value e => match opd σ e with
      | some (.lf (.v (.func (.func f) a b))) => match a.toList with
        | [] => match b.toList with
          | [] => match E.still f with
            | true => evFnR E f args m fun v => K v m
            | false => match E.fresh f with
              | true => evFnN E f args m K
              | false => evFn E f args m K
          | _ => none
        | _ => none
      | some (.lf (.fn f caps)) => match E.still f with
        | true => evFnR E f (args ++ capsT caps) m fun v => K v m
        | false => match E.fresh f with
          | true => evFnN E f (args ++ capsT caps) m K
          | false => evFn E f (args ++ capsT caps) m K
      | _ => none
    | .invoke e name => match opd σ e with
      | some (.lf (.ifc t h off)) => match E.mt t name with
        | some f => evFn E f (.lf (.ptr h off) :: args) m K
        | none => none
      | _ => none
  | none => none
theorem CallOk.yld {o : Oper} {a : Act} {w : World} {f : FuncId} {us : List Value} {post : Value → World → Prop} (h : CallOk P f us w post) (hx : (execOp a.eval o).run P w = (callFunc f us.toArray).run P w) : Yld P o a w post := by
  rcases h with ⟨h0, h1⟩ | ⟨u, w', h0, h1⟩
  · exact Yld.enter (hx.trans h0) h1
  · exact Yld.val (hx.trans h0) h1
theorem capsT_ok {ρ : Ow} {w : World} : ∀ {caps : List (Nat × Nat)} {vs : List Value}, All2 (fun (c : Nat × Nat) u => ∃ b, ρ.r[c.1]? = some (.blk b) ∧ u = .pointer (some ⟨b, c.2, none⟩)) caps vs → All2 (IsT R ρ w) (capsT caps) vs
  | _, _, .nil => .nil
  | _, _, .cons ⟨b, hb, hu⟩ h => .cons (by subst hu; exact Is.ptr _ _ b hb) (capsT_ok h)
theorem evBuiltin_ok {tab : Nat → Option TI} (ht : TabOk P tab) {b : Builtin} {ts : List TypeId} {args : List (Tv R.D)} {K : Tv R.D → Option X} {x : X} (ty : TypeId) (cs : Array Bool) (h : evBuiltin tab b ts args K = some x) :
    ∃ r, K r = some x ∧ ∀ ρ w (us : List Value), All2 (IsT R ρ w) args us → ∃ q, (builtin b ts.toArray ty cs us.toArray).run P w = .ok (.value q) w ∧ IsT R ρ w r q := by
  unfold evBuiltin at h
  split at h
  · split at h
    · rename_i t tl
      split at h
      · rename_i v
        obtain ⟨r, hr, hq⟩ := evLen_ok ht (ty := ty) h
        refine ⟨r, hr, fun ρ w us ha => ?_⟩
        cases ha with
        | @cons _ u _ _ h0 h1 =>
        cases h1
        obtain ⟨q, hrun, hi⟩ := hq ρ w u (t :: tl).toArray rfl h0
        exact ⟨q, by simp only [builtin, Sem.run_bind, hrun, Result.andThen_ok, Sem.run_pure], hi⟩
      · exact none_some h
    · exact none_some h
  · split at h
    · rename_i k a r
      obtain ⟨z, hz, hq⟩ := evMM_ok (P := P) _ _ h
      refine ⟨z, hz, fun ρ w us ha => ?_⟩
      cases ha with
      | @cons _ u _ us' h0 h1 =>
      obtain ⟨rfl, hw⟩ := is_int h0
      obtain ⟨q, hrun, hi⟩ := hq hw ρ w _ h1
      exact ⟨q, by simp only [builtin, Sem.run_bind, Builtin.max_, hrun, Result.andThen_ok, Sem.run_pure], hi⟩
    · exact none_some h
  · split at h
    · rename_i k a r
      obtain ⟨z, hz, hq⟩ := evMM_ok (P := P) _ _ h
      refine ⟨z, hz, fun ρ w us ha => ?_⟩
      cases ha with
      | @cons _ u _ us' h0 h1 =>
      obtain ⟨rfl, hw⟩ := is_int h0
      obtain ⟨q, hrun, hi⟩ := hq hw ρ w _ h1
      exact ⟨q, by simp only [builtin, Sem.run_bind, Builtin.min_, hrun, Result.andThen_ok, Sem.run_pure], hi⟩
    · exact none_some h
  · exact none_some h
theorem evBuiltinX_ok {tab : Nat → Option TI} (ht : TabOk P tab) {b : Builtin} {ts : List TypeId} {args : List (Tv R.D)} {m : List (Ent R.D)} {K : Tv R.D → Option X} {x : X} (ty : TypeId) (cs : Array Bool) (h : evBuiltinX tab b ts args m K = some x) :
    ∃ r, K r = some x ∧ ∀ ρ w (us : List Value), Rel R ρ m w → All2 (IsT R ρ w) args us → ∃ q, (builtin b ts.toArray ty cs us.toArray).run P w = .ok (.value q) w ∧ IsT R ρ w r q := by
  unfold evBuiltinX at h
  split at h
  · split at h
    · rename_i t tl
      split at h
      · rename_i v
        obtain ⟨r, hr, hq⟩ := evLenX_ok ht (ty := ty) h
        refine ⟨r, hr, fun ρ w us hrel ha => ?_⟩
        cases ha with
        | @cons _ u _ _ h0 h1 =>
        cases h1
        obtain ⟨q, hrun, hi⟩ := hq ρ w u (t :: tl).toArray rfl hrel h0
        exact ⟨q, by simp only [builtin, Sem.run_bind, hrun, Result.andThen_ok, Sem.run_pure], hi⟩
      · exact none_some h
    · exact none_some h
  · obtain ⟨r, hr, hq⟩ := evBuiltin_ok ht ty cs h
    exact ⟨r, hr, fun ρ w us _ ha => hq ρ w us ha⟩
theorem evCall_ok {n : Nat} {σ : List (Nat × Tv R.D)} {E : Env R} (hE : EnvOk P E) {o : Oper} {c : Call} (ho : o.op = .call c)
    {m : List (Ent R.D)} {K : Tv R.D → List (Ent R.D) → Option X} {x : X} (h : evCall E σ c m K = some x) : ∃ r m', K r m' = some x ∧ OpOk R P n o σ m r m' := by
  unfold evCall at h
  split at h
  · rename_i args hargs
    have hmap : ∀ a : Act, c.args.map a.eval = (c.args.toList.map a.eval).toArray := fun a => by
      apply Array.ext'
      rw [Array.toList_map]
    split at h
    · rename_i b hb
      split at h
      · obtain ⟨r, m', hr, hq⟩ := evMem_ok hE.tab o.type (c.args.map fun | .const _ => true | _ => false) h
        refine ⟨r, m', hr, fun ρ w a hrel hs => ?_⟩
        obtain ⟨q, w', ρ', hrun, hgo, hr', hi⟩ := hq ρ w _ hrel (opds_ok hs _ hargs)
        refine Yld.val (u := q) (w' := w') ?_ ⟨ρ', hgo, hr', hi⟩
        unfold execOp
        simp only [ho, Sem.run_bind, resolve, hb, Sem.run_pure, Result.andThen_ok, invoke, hmap]
        rw [← Array.toArray_toList (xs := c.argTypes)]
        exact hrun
      · obtain ⟨r, hr, hq⟩ := evBuiltinX_ok hE.tab (ty := o.type) (cs := c.args.map fun | .const _ => true | _ => false) h
        refine ⟨r, m, hr, OpOk.val fun ρ w a hrel hs => ?_⟩
        obtain ⟨q, hrun, hi⟩ := hq ρ w _ hrel (opds_ok hs _ hargs)
        refine ⟨q, ?_, hi⟩
        unfold execOp
        simp only [ho, Sem.run_bind, resolve, hb, Sem.run_pure, Result.andThen_ok, invoke, hmap]
        rw [← Array.toArray_toList (xs := c.argTypes)]
        exact hrun
    · rename_i e hc
      split at h
      · rename_i f fa fb he
        split at h
        · rename_i ha0
          split at h
          · rename_i hb0
            have hfa : fa = #[] := Array.toList_inj.1 (by simpa using ha0)
            have hfb : fb = #[] := Array.toList_inj.1 (by simpa using hb0)
            subst hfa; subst hfb
            have fin : ∀ {v : Tv R.D} {m' : List (Ent R.D)}, (∀ (ρ : Ow) (w : World) (us : List Value), Rel R ρ m w → All2 (IsT R ρ w) args us → CallOk P f us w (Post R ρ m w v m')) → OpOk R P n o σ m v m' := by
              intro v m' hcall ρ w a hrel hs
              have hev := opd_ok hs he
              generalize heq : a.eval e = ev at hev
              cases hev
              refine (hcall ρ w _ hrel (opds_ok hs _ hargs)).yld ?_
              unfold execOp
              simp only [ho, Sem.run_bind, resolve, hc, heq, Deferred.ofValue, Sem.run_pure, Result.andThen_ok, invoke, hmap, Array.append_empty, Array.empty_append]
            split at h
            · obtain ⟨v, hv, hcall⟩ := evFnR_ok hE.ct h
              exact ⟨v, m, hv, fin hcall⟩
            · split at h
              · obtain ⟨v, es, hv, hcall⟩ := evFnN_ok hE h
                exact ⟨v, _, hv, fin hcall⟩
              · obtain ⟨v, m', hv, hcall⟩ := evFn_ok hE.ct h
                exact ⟨v, m', hv, fin hcall⟩
          · exact none_some h
        · exact none_some h
      · rename_i f caps he
        have fin : ∀ {v : Tv R.D} {m' : List (Ent R.D)}, (∀ (ρ : Ow) (w : World) (us : List Value), Rel R ρ m w → All2 (IsT R ρ w) (args ++ capsT caps) us → CallOk P f us w (Post R ρ m w v m')) → OpOk R P n o σ m v m' := by
          intro v m' hcall ρ w a hrel hs
          have hev := opd_ok hs he
          generalize heq : a.eval e = ev at hev
          cases hev with
          | fn _ _ vs hall =>
          refine (hcall ρ w _ hrel ((opds_ok hs _ hargs).append (capsT_ok hall))).yld ?_
          unfold execOp
          simp only [ho, Sem.run_bind, resolve, hc, heq, Deferred.ofValue, Sem.run_pure, Result.andThen_ok, invoke, hmap, Array.empty_append, List.append_toArray, List.nil_append]
        split at h
        · obtain ⟨v, hv, hcall⟩ := evFnR_ok hE.ct h
          exact ⟨v, m, hv, fin hcall⟩
        · split at h
          · obtain ⟨v, es, hv, hcall⟩ := evFnN_ok hE h
            exact ⟨v, _, hv, fin hcall⟩
          · obtain ⟨v, m', hv, hcall⟩ := evFn_ok hE.ct h
            exact ⟨v, m', hv, fin hcall⟩
      · exact none_some h
    · rename_i e name hc
      split at h
      · rename_i t hh off he
        split at h
        · rename_i f hf
          obtain ⟨v, m', hv, hcall⟩ := evFn_ok hE.ct h
          refine ⟨v, m', hv, fun ρ w a hrel hs => ?_⟩
          have hev := opd_ok hs he
          generalize heq : a.eval e = ev at hev
          cases hev with
          | ifc _ _ _ b hb =>
          refine (hcall ρ w (.pointer (some ⟨b, off, none⟩) :: _) hrel (.cons (Is.ptr _ _ b hb) (opds_ok hs _ hargs))).yld ?_
          unfold execOp
          have e1 : ((#[Value.iface t (.pointer (some ⟨b, off, none⟩))] ++ (c.args.toList.map a.eval).toArray) : Array Value)[0]? = some (Value.iface t (.pointer (some ⟨b, off, none⟩))) := by simp
          have e2 : (#[Value.iface t (.pointer (some ⟨b, off, none⟩))] ++ (c.args.toList.map a.eval).toArray).extract 1 (#[Value.iface t (.pointer (some ⟨b, off, none⟩))] ++ (c.args.toList.map a.eval).toArray).size = (c.args.toList.map a.eval).toArray := by
            apply Array.ext'
            simp
            exact List.take_of_length_le (by simp)
          simp only [ho, Sem.run_bind, resolve, hc, heq, Sem.run_pure, Result.andThen_ok, invoke, hmap, e1, e2, callMethod, run_program, hE.mt t name f hf]
          congr 2
          apply Array.ext'
          simp
        · exact none_some h
      · exact none_some h
  · exact none_some h

/-! ### Closures -/
def ptrsOf {D : Nat → Type} (σ : List (Nat × Tv D)) : List Operand → Option (List (Nat × Nat))
  | [] => some []
  | e :: r => match opd σ e with
    | some (.lf (.ptr h off)) => match ptrsOf σ r with
      | some l => some ((h, off) :: l)
      | none => none
    | _ => none
theorem ptrsOf_ok {ρ : Ow} {w : World} {n : Nat} {σ : List (Nat × Tv R.D)} {a : Act} (hs : Sat R ρ w n σ a) : ∀ (l : List Operand) {cs : List (Nat × Nat)}, ptrsOf σ l = some cs → All2 (fun (c : Nat × Nat) u => ∃ b, ρ.r[c.1]? = some (.blk b) ∧ u = .pointer (some ⟨b, c.2, none⟩)) cs (l.map a.eval)
  | [], cs, h => by simp only [ptrsOf, Option.some.injEq] at h; subst h; exact .nil
  | e :: l, cs, h => by
    simp only [ptrsOf] at h
    split at h
    · rename_i hh off hv
      split at h
      · rename_i r hr
        simp only [Option.some.injEq] at h
        subst h
        have hev := opd_ok hs hv
        refine .cons ?_ (ptrsOf_ok hs l hr)
        generalize a.eval e = ev at hev
        cases hev with
        | ptr _ _ b hb => exact ⟨b, hb, rfl⟩
      · exact none_some h
    · exact none_some h
def evMakeFunc {D : Nat → Type} (σ : List (Nat × Tv D)) (fn : Fn) (first caps : List Operand) (K : Tv D → Option X) : Option X :=
  match fn with
  | .func f => match first with
    | [] => match ptrsOf σ caps with
      | some l => K (.lf (.fn f l))
      | none => none
    | _ => none
  | _ => none
theorem evMakeFunc_ok {n : Nat} {σ : List (Nat × Tv R.D)} {o : Oper} {fn : Fn} {first caps : Array Operand} (ho : o.op = .makeFunc fn first caps) {K : Tv R.D → Option X} {x : X} (h : evMakeFunc σ fn first.toList caps.toList K = some x) : ∃ r, K r = some x ∧ OpV R P n o σ r := by
  unfold evMakeFunc at h
  split at h
  · rename_i f
    split at h
    · rename_i hf
      split at h
      · rename_i l hl
        refine ⟨_, h, fun ρ w a hs => ⟨.func (.func f) #[] (caps.toList.map a.eval).toArray, ?_, Is.fn f l _ (ptrsOf_ok hs _ hl)⟩⟩
        have hfa : first = #[] := Array.toList_inj.1 (by simpa using hf)
        have hmap : caps.map a.eval = (caps.toList.map a.eval).toArray := by
          apply Array.ext'
          rw [Array.toList_map]
        unfold execOp
        simp only [ho, Sem.run_bind, Instr.makeFunc, Sem.run_pure, Result.andThen_ok, hfa, hmap, Array.map_empty]
      · exact none_some h
    · exact none_some h
  · exact none_some h

def pk (t : Bool) (a b : Operand) : Operand := match t with
  | true => a
  | false => b
/-- One operation. -/
def isSl {D : Nat → Type} : Tv D → Bool
  | .lf (.ro _ _) => true
  | .lf (.row _ _) => true
  | .lf (.sl _ _ _ _) => true
  | .lf (.v (.slice none 0 0)) => true
  | _ => false
def isPtr {D : Nat → Type} : Tv D → Bool
  | .lf (.ptr _ _) => true
  | _ => false
def evOp (E : Env R) (σ : List (Nat × Tv R.D)) (op : Op) (m : List (Ent R.D)) (K : Tv R.D → List (Ent R.D) → Option X) : Option X :=
  match op with
  | .move x => op1 σ x fun v => K v m
  | .assign x => op1 σ x fun v => K v m
  | .pick c a b => op1 σ c fun vc => brT vc fun t => op1 σ (pk t a b) fun v => K v m
  | .alloc t => evAlloc E.tab t m K
  | .box t x => op1 σ x fun v => evBox t v m K
  | .build t l => evBuild E.tab σ t l.toList fun v => K v m
  | .load t x => op1 σ x fun v => evLoadX R E.tab t v m fun r => K r m
  | .store t a x => op1 σ a fun p => op1 σ x fun v => evStoreX E.rt E.tab t p v m K
  | .nilCheck x => op1 σ x fun v => evNil v fun r => K r m
  | .binOp op t x y _ => op1 σ x fun a => op1 σ y fun b => evBinX E.eqt E.tab op t a b (isLit y) fun r => K r m
  | .unOp op _ x => op1 σ x fun v => evUn op v fun r => K r m
  | .convert s d x => op1 σ x fun v => match isSl v with
    | true => evBytes E.byt E.tab s d v m fun r => K r m
    | false => evConv E.tab s d v fun r => K r m
  | .fieldAddr t x k => op1 σ x fun v => evFieldAddr E.tab t v k fun r => K r m
  | .field t x k => op1 σ x fun v => evField E.tab t v k fun r => K r m
  | .indexAddr t x y => op1 σ x fun v => op1 σ y fun i => evIndexAddrX R E.tab t v i m fun r => K r m
  | .index t x y => op1 σ x fun v => op1 σ y fun i => evIndex R E.tab t v i fun r => K r m
  | .extract x k => op1 σ x fun v => evExtract v k fun r => K r m
  | .makeInterface t x => op1 σ x fun v => evIface E.tab t v fun r => K r m
  | .call c => evCall E σ c m K
  | .buildSlice t len l => evBuildSliceF E.rt E.code E.tab σ t len l.toList m K
  | .makeSlice t x y => op1 σ x fun l => op1 σ y fun c => evMakeSlice E.rt E.code E.tab t l c m K
  | .slice t x lo hi mx => match mx with
    | none => op1 σ x fun v => match isPtr v with
      | true => opt1 σ lo fun a => opt1 σ hi fun b => evSliceArr R E.code E.tab t v a b m K
      | false => opt1 σ lo fun a => opt1 σ hi fun b => evSlice R E.tab t v a b m fun r => K r m
    | some y => match hi with
      | some z => op1 σ x fun v => op1 σ z fun b => op1 σ y fun q => opt1 σ lo fun a => evSlice3 R E.tab t v a b q m fun r => K r m
      | none => none
  | .makeMap t rs => evMakeMap E.mpt t rs m K
  | .insert t x y z => op1 σ x fun mv => op1 σ y fun kv => op1 σ z fun vv => evInsert E.mpt t mv kv vv m K
  | .lookup t x y ok => op1 σ x fun mv => op1 σ y fun kv => evLookup E.mpt t mv kv ok m fun r => K r m
  | .makeFunc fn first caps => evMakeFunc σ fn first.toList caps.toList fun r => K r m
  | _ => none
theorem evSliceArrOp_ok {n : Nat} {σ : List (Nat × Tv R.D)} {code : TypeId → Option (RoT R)} {tab : Nat → Option TI} (ht : TabOk P tab) {o : Oper} {t : TypeId} {e : Operand} {lo hi : Option Operand} (ho : o.op = .slice t e lo hi none) {m : List (Ent R.D)} {K : Tv R.D → List (Ent R.D) → Option X} {x : X}
    {v : Tv R.D} (hv : opd σ e = some v) (h : (opt1 σ lo fun a => opt1 σ hi fun b => evSliceArr R code tab t v a b m K) = some x) : ∃ r m', K r m' = some x ∧ OpOk R P n o σ m r m' := by
  obtain ⟨a1, h, ha⟩ := opt1_ok h
  obtain ⟨b1, h, hb⟩ := opt1_ok h
  obtain ⟨r, m', hr, hq⟩ := evSliceArr_ok ht h
  refine ⟨r, m', hr, fun ρ w a hrel hs => ?_⟩
  obtain ⟨q, hrun, hi⟩ := hq ρ w (a.eval e) (lo.map a.eval) (hi.map a.eval) hrel (opd_ok hs hv) (ha hs).1 (ha hs).2 (hb hs).1 (hb hs).2
  refine Yld.val (u := q) ?_ hi
  unfold execOp
  simp only [ho, Sem.run_bind, Option.map_none, hrun, Result.andThen_ok, Sem.run_pure]
theorem evSliceOp_ok {n : Nat} {σ : List (Nat × Tv R.D)} {tab : Nat → Option TI} (ht : TabOk P tab) {o : Oper} {t : TypeId} {e : Operand} {lo hi : Option Operand} (ho : o.op = .slice t e lo hi none) {m : List (Ent R.D)} {K : Tv R.D → Option X} {x : X}
    {v : Tv R.D} (hv : opd σ e = some v) (h : (opt1 σ lo fun a => opt1 σ hi fun b => evSlice R tab t v a b m K) = some x) : ∃ r, K r = some x ∧ OpOk R P n o σ m r m := by
  obtain ⟨a1, h, ha⟩ := opt1_ok h
  obtain ⟨b1, h, hb⟩ := opt1_ok h
  obtain ⟨r, hr, hq⟩ := evSlice_ok ht h
  refine ⟨r, hr, OpOk.val fun ρ w a hrel hs => ?_⟩
  obtain ⟨q, hrun, hi⟩ := hq ρ w (a.eval e) (lo.map a.eval) (hi.map a.eval) hrel (opd_ok hs hv) (ha hs).1 (ha hs).2 (hb hs).1 (hb hs).2
  refine ⟨q, ?_, hi⟩
  unfold execOp
  simp only [ho, Sem.run_bind, Option.map_none, hrun, Result.andThen_ok, Sem.run_pure]
theorem evSlice3Op_ok {n : Nat} {σ : List (Nat × Tv R.D)} {tab : Nat → Option TI} (ht : TabOk P tab) {o : Oper} {t : TypeId} {e z y : Operand} {lo : Option Operand} (ho : o.op = .slice t e lo (some z) (some y)) {m : List (Ent R.D)} {K : Tv R.D → Option X} {x : X}
    {v b q : Tv R.D} (hv : opd σ e = some v) (hb : opd σ z = some b) (hq : opd σ y = some q) (h : (opt1 σ lo fun a => evSlice3 R tab t v a b q m K) = some x) : ∃ r, K r = some x ∧ OpOk R P n o σ m r m := by
  obtain ⟨a1, h, ha⟩ := opt1_ok h
  obtain ⟨r, hr, hq'⟩ := evSlice3_ok ht h
  refine ⟨r, hr, OpOk.val fun ρ w a hrel hs => ?_⟩
  obtain ⟨u, hrun, hi⟩ := hq' ρ w (a.eval e) (lo.map a.eval) (a.eval z) (a.eval y) hrel (opd_ok hs hv) (ha hs).1 (ha hs).2 (opd_ok hs hb) (opd_ok hs hq)
  refine ⟨u, ?_, hi⟩
  unfold execOp
  simp only [ho, Sem.run_bind, Option.map_some, hrun, Result.andThen_ok, Sem.run_pure]
theorem evOp_ok {n : Nat} {σ : List (Nat × Tv R.D)} {E : Env R} (hE : EnvOk P E) (o : Oper)
    {m : List (Ent R.D)} {K : Tv R.D → List (Ent R.D) → Option X} {x : X} (h : evOp E σ o.op m K = some x) : ∃ r m', K r m' = some x ∧ OpOk R P n o σ m r m' := by
  have one : ∀ {C : Prop}, (∃ r, K r m = some x ∧ OpOk R P n o σ m r m) → ∃ r m', K r m' = some x ∧ OpOk R P n o σ m r m' := fun ⟨r, h1, h2⟩ => ⟨r, m, h1, h2⟩
  unfold evOp at h
  split at h
  · rename_i e ho
    obtain ⟨v, hv, h⟩ := op1_ok h
    exact ⟨v, m, h, OpOk.val fun ρ w a hr hs => ⟨_, by unfold execOp; simp only [ho, Sem.run_pure], opd_ok hs hv⟩⟩
  · rename_i e ho
    obtain ⟨v, hv, h⟩ := op1_ok h
    exact ⟨v, m, h, OpOk.val fun ρ w a hr hs => ⟨_, by unfold execOp; simp only [ho, Sem.run_pure], opd_ok hs hv⟩⟩
  · rename_i c ea eb ho
    obtain ⟨vc, hvc, h⟩ := op1_ok h
    obtain ⟨t, h, hb⟩ := brT_ok h
    obtain ⟨v, hv, h⟩ := op1_ok h
    refine ⟨v, m, h, OpOk.val fun ρ w a hr hs => ⟨a.eval (pk t ea eb), ?_, opd_ok hs hv⟩⟩
    have := hb ρ w _ (opd_ok hs hvc)
    unfold execOp
    simp only [ho, Sem.run_bind, this, asBool, Sem.run_pure, Result.andThen_ok]
    cases t <;> rfl
  · rename_i t ho
    obtain ⟨r, es, h1, h2⟩ := evAlloc_ok hE.tab ho h
    exact ⟨r, _, h1, h2⟩
  · rename_i t e ho
    obtain ⟨v, hv, h⟩ := op1_ok h
    obtain ⟨r, es, h1, h2⟩ := evBox_ok ho hv h
    exact ⟨r, _, h1, h2⟩
  · rename_i t l ho
    obtain ⟨r, h1, h2⟩ := evBuild_ok hE.tab ho h
    exact ⟨r, m, h1, h2.ok⟩
  · rename_i t e ho
    obtain ⟨v, hv, h⟩ := op1_ok h
    obtain ⟨r, h1, h2⟩ := evLoadX_ok hE.tab ho hv h
    exact ⟨r, m, h1, h2⟩
  · rename_i t e f ho
    obtain ⟨p, hp, h⟩ := op1_ok h
    obtain ⟨v, hv, h⟩ := op1_ok h
    exact evStoreX_ok hE.tab ho hp hv h
  · rename_i e ho
    obtain ⟨v, hv, h⟩ := op1_ok h
    obtain ⟨r, h1, h2⟩ := evNil_ok ho hv h
    exact ⟨r, m, h1, h2.ok⟩
  · rename_i op t e f yt ho
    obtain ⟨p, hp, h⟩ := op1_ok h
    obtain ⟨v, hv, h⟩ := op1_ok h
    obtain ⟨r, hr, hq⟩ := evBinX_ok hE.eqt hE.tab h
    refine ⟨r, m, hr, OpOk.val fun ρ w a hrel hs => ?_⟩
    obtain ⟨q, hrun, hi⟩ := hq ρ w _ _ (opd_ok hs hp) (opd_ok hs hv)
    refine ⟨q, ?_, hi⟩
    unfold execOp
    simp only [ho]
    rw [Sem.run_bind, hrun e f]
    rfl
  · rename_i op t e ho
    obtain ⟨v, hv, h⟩ := op1_ok h
    obtain ⟨r, hr, hq⟩ := evUn_ok (P := P) h
    refine ⟨r, m, hr, OpOk.val fun ρ w a hrel hs => ?_⟩
    obtain ⟨q, hrun, hi⟩ := hq ρ w _ (opd_ok hs hv)
    refine ⟨q, ?_, hi⟩
    unfold execOp
    simp only [ho]
    rw [Sem.run_bind, hrun]
    rfl
  · rename_i s d e ho
    obtain ⟨v, hv, h⟩ := op1_ok h
    split at h
    · obtain ⟨r, hr, hq⟩ := evBytes_ok hE.tab h
      refine ⟨r, m, hr, OpOk.val fun ρ w a hrel hs => ?_⟩
      obtain ⟨q, hrun, hi⟩ := hq ρ w _ hrel (opd_ok hs hv)
      refine ⟨q, ?_, hi⟩
      unfold execOp
      simp only [ho]
      rw [Sem.run_bind, hrun]
      rfl
    · obtain ⟨r, hr, hq⟩ := evConv_ok hE.tab h
      refine ⟨r, m, hr, OpOk.val fun ρ w a hrel hs => ?_⟩
      obtain ⟨q, hrun, hi⟩ := hq ρ w _ (opd_ok hs hv)
      refine ⟨q, ?_, hi⟩
      unfold execOp
      simp only [ho]
      rw [Sem.run_bind, hrun]
      rfl
  · rename_i t e k ho
    obtain ⟨v, hv, h⟩ := op1_ok h
    obtain ⟨r, h1, h2⟩ := evFieldAddr_ok hE.tab ho hv h
    exact ⟨r, m, h1, h2.ok⟩
  · rename_i t e k ho
    obtain ⟨v, hv, h⟩ := op1_ok h
    obtain ⟨r, h1, h2⟩ := evField_ok hE.tab ho hv h
    exact ⟨r, m, h1, h2.ok⟩
  · rename_i t e f ho
    obtain ⟨v, hv, h⟩ := op1_ok h
    obtain ⟨i, hi, h⟩ := op1_ok h
    obtain ⟨r, h1, h2⟩ := evIndexAddrX_ok hE.tab ho hv hi h
    exact ⟨r, m, h1, h2⟩
  · rename_i t e f ho
    obtain ⟨v, hv, h⟩ := op1_ok h
    obtain ⟨i, hi, h⟩ := op1_ok h
    obtain ⟨r, h1, h2⟩ := evIndex_ok hE.tab ho hv hi h
    exact ⟨r, m, h1, h2.ok⟩
  · rename_i e k ho
    obtain ⟨v, hv, h⟩ := op1_ok h
    obtain ⟨r, h1, h2⟩ := evExtract_ok ho hv h
    exact ⟨r, m, h1, h2.ok⟩
  · rename_i t e ho
    obtain ⟨v, hv, h⟩ := op1_ok h
    obtain ⟨r, h1, h2⟩ := evIface_ok hE.tab ho hv h
    exact ⟨r, m, h1, h2.ok⟩
  · rename_i c ho
    exact evCall_ok hE ho h
  · rename_i t len l ho
    exact evBuildSliceF_ok hE.tab ho h
  · rename_i t e f ho
    obtain ⟨l, hl, h⟩ := op1_ok h
    obtain ⟨c, hc, h⟩ := op1_ok h
    obtain ⟨r, es, h1, h2⟩ := evMakeSlice_ok hE.tab ho hl hc h
    exact ⟨r, _, h1, h2⟩
  · rename_i t e lo hi mx ho
    split at h
    · obtain ⟨v, hv, h⟩ := op1_ok h
      split at h
      · exact evSliceArrOp_ok hE.tab ho hv h
      · obtain ⟨r, h1, h2⟩ := evSliceOp_ok hE.tab ho hv h
        exact ⟨r, m, h1, h2⟩
    · split at h
      · obtain ⟨v, hv, h⟩ := op1_ok h
        obtain ⟨b, hb, h⟩ := op1_ok h
        obtain ⟨q, hq, h⟩ := op1_ok h
        obtain ⟨r, h1, h2⟩ := evSlice3Op_ok hE.tab ho hv hb hq h
        exact ⟨r, m, h1, h2⟩
      · exact none_some h
  · rename_i t rs ho
    exact evMakeMap_ok ho h
  · rename_i t e f g ho
    obtain ⟨mv, h1, h⟩ := op1_ok h
    obtain ⟨kv, h2, h⟩ := op1_ok h
    obtain ⟨vv, h3, h⟩ := op1_ok h
    exact evInsert_ok hE.mpt ho h1 h2 h3 h
  · rename_i t e f ok ho
    obtain ⟨mv, h1, h⟩ := op1_ok h
    obtain ⟨kv, h2, h⟩ := op1_ok h
    obtain ⟨r, hr, hq⟩ := evLookup_ok hE.mpt ho h1 h2 h
    exact ⟨r, m, hr, hq⟩
  · rename_i fn first caps ho
    obtain ⟨r, hr, hq⟩ := evMakeFunc_ok ho h
    exact ⟨r, m, hr, hq.ok⟩
  · exact none_some h
end
end Go.Proofs.Ytjfcfljdojkcdaa.Ev
