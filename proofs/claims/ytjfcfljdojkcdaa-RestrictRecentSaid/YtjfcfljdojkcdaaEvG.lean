/- The evaluator's addresses, parts, structs that are built, elements, lengths, greatest and least ones, each sound. -/
import Derived.Test.YtjfcfljdojkcdaaEvF
namespace Go.Proofs.Ytjfcfljdojkcdaa.Ev
open Go Go.RowKit
set_option linter.unusedVariables false
set_option linter.unusedSimpArgs false
section
variable {R : Ro} {P : Program} {X : Type}
def evFieldAddr {D : Nat → Type} (tab : Nat → Option TI) (t : TypeId) (v : Tv D) (k : Nat) (K : Tv D → Option X) : Option X :=
  match tab t with
  | some i => match Nat.beq i.kd 1 with
    | true => match i.flds[k]? with
      | some (o, s, _) => match s with
        | 0 => none
        | _ + 1 => match v with
          | .lf (.ptr h off) => K (.lf (.ptr h (off + o)))
          | .lf (.ept c l q j) => K (.lf (.ept c l q (j + o)))
          | .lf (.rp c h q j) => K (.lf (.rp c h q (j + o)))
          | _ => none
      | none => none
    | false => none
  | none => none
theorem run_fieldAt {t : TypeId} {i : TI} (hi : tiOf P t = some i) (hk : i.kd = 1) {k o s : Nat} {b : Bool} (hf : i.flds[k]? = some (o, s, b)) (hs : s ≠ 0) (g off : Nat) (w : World) :
    (Instr.fieldAt t (.pointer (some ⟨g, off, none⟩)) k).run P w = .ok (.pointer (some ⟨g, off + o, none⟩)) w := by
  obtain ⟨fs, hu, _, hget⟩ := tiOf_struct hi hk
  obtain ⟨f, hfs, rfl, hti⟩ := hget k o s b hf
  have hsz := (tiF_run hti w).1
  unfold Instr.fieldAt
  simp only [Sem.run_bind, run_underlying hu, Result.andThen_ok, hfs, Instr.sureAddr, Sem.run_pure, fieldPlace, hsz, Sem.run_ite, hs, if_false, add_at]
theorem evFieldAddr_ok {n : Nat} {σ : List (Nat × Tv R.D)} {tab : Nat → Option TI} (ht : TabOk P tab) {o : Oper} {t : TypeId} {e : Operand} {k : Nat} (ho : o.op = .fieldAddr t e k) {v : Tv R.D} (hv : opd σ e = some v) {K : Tv R.D → Option X} {x : X}
    (h : evFieldAddr tab t v k K = some x) : ∃ r, K r = some x ∧ OpV R P n o σ r := by
  unfold evFieldAddr at h
  split at h
  · rename_i i hi
    split at h
    · rename_i hk
      have hk := Nat.eq_of_beq_eq_true hk
      split at h
      · rename_i off s b hf
        split at h
        · exact none_some h
        · have run := run_fieldAt (ht _ _ hi) hk hf (by simp)
          split at h
          · rename_i hh oo
            refine ⟨_, h, fun ρ w a hs => ?_⟩
            have hp := opd_ok hs hv
            generalize hev : a.eval e = pv at hp
            cases hp with
            | ptr _ _ g hg =>
              refine ⟨_, ?_, Is.ptr _ _ _ hg⟩
              unfold execOp
              simp only [ho, hev, Sem.run_bind, run, Result.andThen_ok, Sem.run_pure]
          · rename_i c l q j
            refine ⟨_, h, fun ρ w a hs => ?_⟩
            have hp := opd_ok hs hv
            generalize hev : a.eval e = pv at hp
            cases hp with
            | ept _ _ g oo _ _ f hb hn h0 h1 hc hvv =>
              refine ⟨_, ?_, Is.ept _ _ g oo _ (j + off) f hb hn h0 h1 hc hvv⟩
              unfold execOp
              simp only [ho, hev, Sem.run_bind, run, Result.andThen_ok, Sem.run_pure, Nat.add_assoc]
          · rename_i c hh q j
            refine ⟨_, h, fun ρ w a hs => ?_⟩
            have hp := opd_ok hs hv
            generalize hev : a.eval e = pv at hp
            cases hp with
            | rp _ _ b cap len _ _ hb h0 h1 =>
              refine ⟨_, ?_, Is.rp c hh b cap len q (j + off) hb h0 h1⟩
              unfold execOp
              simp only [ho, hev, Sem.run_bind, run, Result.andThen_ok, Sem.run_pure, Nat.add_assoc]
          · exact none_some h
      · exact none_some h
    · exact none_some h
  · exact none_some h

def evPart {D : Nat → Type} (cs : List (Lf D)) (o s : Nat) (agg : Bool) (K : Tv D → Option X) : Option X :=
  match agg with
  | true => K (.agg ((cs.drop o).take s))
  | false => match cs[o]? with
    | some l => K (.lf l)
    | none => none
theorem evPart_ok {t : TypeId} {s : Nat} {b : Bool} (hti : tiF P t = some (s, b)) {cs : List (Lf R.D)} {o : Nat} {K : Tv R.D → Option X} {x : X} (h : evPart cs o s b K = some x) :
    ∃ r, K r = some x ∧ ∀ ρ w (us : List Value), All2 (Is R ρ w) cs us → ∃ u, (part t us.toArray o).run P w = .ok u w ∧ IsT R ρ w r u := by
  unfold evPart at h
  split at h
  · refine ⟨_, h, fun ρ w us ha => ⟨.agg ((us.drop o).take s).toArray, ?_, ⟨_, rfl, (ha.drop o).take s⟩⟩⟩
    unfold part
    simp only [Sem.run_bind, (tiF_run hti w).2, (tiF_run hti w).1, Result.andThen_ok, if_true, Sem.run_pure]
    congr 2
    simp [List.extract_eq_take_drop]
  · split at h
    · rename_i l hl
      refine ⟨_, h, fun ρ w us ha => ?_⟩
      obtain ⟨u, hu, hiu⟩ := ha.get _ _ hl
      refine ⟨u, ?_, hiu⟩
      unfold part
      simp only [Sem.run_bind, (tiF_run hti w).2, Result.andThen_ok, Bool.false_eq_true, if_false, List.getElem?_toArray, hu, Sem.run_pure]
    · exact none_some h
def evField {D : Nat → Type} (tab : Nat → Option TI) (t : TypeId) (v : Tv D) (k : Nat) (K : Tv D → Option X) : Option X :=
  match tab t with
  | some i => match Nat.beq i.kd 1 with
    | true => match i.flds[k]? with
      | some (o, s, b) => match v with
        | .agg cs => evPart cs o s b K
        | _ => none
      | none => none
    | false => none
  | none => none
theorem evField_ok {n : Nat} {σ : List (Nat × Tv R.D)} {tab : Nat → Option TI} (ht : TabOk P tab) {o : Oper} {t : TypeId} {e : Operand} {k : Nat} (ho : o.op = .field t e k) {v : Tv R.D} (hv : opd σ e = some v) {K : Tv R.D → Option X} {x : X}
    (h : evField tab t v k K = some x) : ∃ r, K r = some x ∧ OpV R P n o σ r := by
  unfold evField at h
  split at h
  · rename_i i hi
    split at h
    · rename_i hk
      have hk := Nat.eq_of_beq_eq_true hk
      split at h
      · rename_i off s b hf
        split at h
        · rename_i cs
          obtain ⟨fs, hu, _, hget⟩ := tiOf_struct (ht _ _ hi) hk
          obtain ⟨f, hfs, rfl, hti⟩ := hget k off s b hf
          obtain ⟨r, hr, hp⟩ := evPart_ok hti h
          refine ⟨r, hr, fun ρ w a hs => ?_⟩
          obtain ⟨us, hus, ha⟩ := opd_ok hs hv
          obtain ⟨u, hru, hiu⟩ := hp ρ w us ha
          refine ⟨u, ?_, hiu⟩
          unfold execOp
          simp only [ho, hus, Sem.run_bind, Instr.field, run_underlying hu, Result.andThen_ok, hfs, asAgg, Sem.run_pure, hru]
        · exact none_some h
      · exact none_some h
    · exact none_some h
  · exact none_some h

def avT {D : Nat → Type} : Av D → Tv D
  | .lf l => .lf l
  | .agg cs => .agg cs
theorem avT_ok {ρ : Ow} {w : World} {a : Av R.D} {u : Value} (h : IsA R ρ w a u) : IsT R ρ w (avT a) u := by
  cases a <;> exact h
def evExtract {D : Nat → Type} (v : Tv D) (k : Nat) (K : Tv D → Option X) : Option X :=
  match v with
  | .tup vs => match vs[k]? with
    | some a => K (avT a)
    | none => none
  | _ => none
theorem evExtract_ok {n : Nat} {σ : List (Nat × Tv R.D)} {o : Oper} {e : Operand} {k : Nat} (ho : o.op = .extract e k) {v : Tv R.D} (hv : opd σ e = some v) {K : Tv R.D → Option X} {x : X}
    (h : evExtract v k K = some x) : ∃ r, K r = some x ∧ OpV R P n o σ r := by
  unfold evExtract at h
  split at h
  · rename_i vs
    split at h
    · rename_i av hav
      refine ⟨_, h, fun ρ w a hs => ?_⟩
      obtain ⟨us, hus, ha⟩ := opd_ok hs hv
      obtain ⟨u, hu, hiu⟩ := ha.get _ _ hav
      refine ⟨u, ?_, avT_ok hiu⟩
      unfold execOp
      simp only [ho, hus, Sem.run_bind, Instr.extract, List.getElem?_toArray, hu, Sem.run_pure, Result.andThen_ok]
    · exact none_some h
  · exact none_some h
def evNil {D : Nat → Type} (v : Tv D) (K : Tv D → Option X) : Option X :=
  match v with
  | .lf (.ptr h off) => K (.lf (.ptr h off))
  | .lf (.ept c l q j) => K (.lf (.ept c l q j))
  | .lf (.fn f caps) => K (.lf (.fn f caps))
  | .lf (.v (.func (.func f) a b)) => K (.lf (.v (.func (.func f) a b)))
  | .lf (.rp c h i j) => K (.lf (.rp c h i j))
  | _ => none
theorem evNil_ok {n : Nat} {σ : List (Nat × Tv R.D)} {o : Oper} {e : Operand} (ho : o.op = .nilCheck e) {v : Tv R.D} (hv : opd σ e = some v) {K : Tv R.D → Option X} {x : X}
    (h : evNil v K = some x) : ∃ r, K r = some x ∧ OpV R P n o σ r := by
  unfold evNil at h
  split at h
  case h_6 => exact none_some h
  all_goals
    refine ⟨_, h, fun ρ w a hs => ?_⟩
    have hp := opd_ok hs hv
    refine ⟨_, ?_, hp⟩
    generalize hev : a.eval e = pv at hp
    cases hp <;> (unfold execOp; simp only [ho, hev, Sem.run_pure])

/-! ### Structs and arrays that are built -/
def evFill {D : Nat → Type} (place : List (Nat × Nat)) : List (Lf D) → List (Nat × Tv D) → Option (List (Lf D))
  | cs, [] => some cs
  | cs, (k, v) :: r => match place[k]? with
    | some (o, s) => match tvCells v with
      | some vs => match Nat.beq vs.length s with
        | true => match Nat.ble (o + vs.length) cs.length with
          | true => evFill place (splice cs o vs) r
          | false => none
        | false => none
      | none => none
    | none => none
theorem foldl_set (off : Nat) : ∀ (vs : List Value) (k : Nat) (us : List Value), off + k + vs.length ≤ us.length →
    (vs.toArray.zipIdx k).foldl (fun cs (c, j) => cs.setIfInBounds (off + j) c) us.toArray = (us.take (off + k) ++ vs ++ us.drop (off + k + vs.length)).toArray := by
  intro vs k us h
  rw [← Array.foldl_toList]
  simp only [Array.toList_zipIdx]
  have key : ∀ (vs : List Value) (k : Nat) (us : List Value), off + k + vs.length ≤ us.length → (vs.zipIdx k).foldl (fun cs (c, j) => cs.setIfInBounds (off + j) c) us.toArray = (us.take (off + k) ++ vs ++ us.drop (off + k + vs.length)).toArray := by
    intro vs
    induction vs with
    | nil => intro k us h; simp
    | cons v vs ih =>
      intro k us h
      simp only [List.length_cons] at h
      simp only [List.zipIdx_cons, List.foldl_cons, List.setIfInBounds_toArray]
      rw [ih (k + 1) (us.set (off + k) v) (by simp; omega)]
      congr 1
      rw [List.drop_set_of_lt (by omega), show off + (k + 1) = (off + k) + 1 by omega, List.take_add_one]
      simp only [List.take_set_of_le (Nat.le_refl (off + k)), List.getElem?_set_self (show off + k < us.length by omega), Option.toList_some, List.append_assoc, List.singleton_append, List.cons_append, List.nil_append, List.length_cons]
      congr 3
      rw [show off + k + 1 + vs.length = off + k + (vs.length + 1) by omega]
  exact key vs k us h
theorem evFill_ok {ρ : Ow} {w : World} (place : List (Nat × Nat)) : ∀ (ps : List (Nat × Tv R.D)) (qs : List (Nat × Value)) {cs r : List (Lf R.D)} {us : List Value}, All2 (fun (p : Nat × Tv R.D) (q : Nat × Value) => p.1 = q.1 ∧ IsT R ρ w p.2 q.2) ps qs → All2 (Is R ρ w) cs us → evFill place cs ps = some r →
    ∃ vs : List Value, Instr.fill (place[·]?) us.toArray qs = some vs.toArray ∧ All2 (Is R ρ w) r vs
  | [], _, cs, r, us, h0, ha, h => by
    cases h0
    simp only [evFill, Option.some.injEq] at h
    subst h
    exact ⟨us, rfl, ha⟩
  | (k, v) :: ps, _, cs, r, us, h0, ha, h => by
    cases h0 with
    | @cons _ q _ qs h1 h2 =>
    obtain ⟨k', u⟩ := q
    obtain ⟨rfl, hu⟩ := h1
    simp only [evFill] at h
    split at h
    · rename_i o s hp
      split at h
      · rename_i vs hvs
        split at h
        · rename_i hsz
          have hsz := Nat.eq_of_beq_eq_true hsz
          split at h
          · rename_i hle
            have hle := Nat.le_of_ble_eq_true hle
            obtain ⟨ys, hys, hay⟩ := tvCells_ok hvs hu
            have hl := ha.length
            have hly := hay.length
            have ha' : All2 (Is R ρ w) (splice cs o vs) (us.take (o + 0) ++ ys ++ us.drop (o + 0 + ys.length)) := by
              rw [splice_eq _ _ _ hle, Nat.add_zero, ← hly]
              exact ((ha.take o).append hay).append (ha.drop _)
            obtain ⟨zs, hz, haz⟩ := evFill_ok place ps qs h2 ha' h
            refine ⟨zs, ?_, haz⟩
            simp only [Instr.fill, hp, hys, List.size_toArray]
            rw [if_neg (by simp; omega)]
            rw [foldl_set o ys 0 us (by omega)]
            exact hz
          · exact none_some h
        · exact none_some h
      · exact none_some h
    · exact none_some h
def evParts {D : Nat → Type} (σ : List (Nat × Tv D)) : List (Nat × Operand) → Option (List (Nat × Tv D))
  | [] => some []
  | (k, e) :: r => match opd σ e with
    | some v => match evParts σ r with
      | some l => some ((k, v) :: l)
      | none => none
    | none => none
theorem evParts_ok {ρ : Ow} {w : World} {n : Nat} {σ : List (Nat × Tv R.D)} {a : Act} (hs : Sat R ρ w n σ a) : ∀ (l : List (Nat × Operand)) {ps : List (Nat × Tv R.D)}, evParts σ l = some ps →
    All2 (fun (p : Nat × Tv R.D) (q : Nat × Value) => p.1 = q.1 ∧ IsT R ρ w p.2 q.2) ps (l.map fun p => (p.1, a.eval p.2))
  | [], ps, h => by simp only [evParts, Option.some.injEq] at h; subst h; exact .nil
  | (k, e) :: l, ps, h => by
    simp only [evParts] at h
    split at h
    · rename_i v hv
      split at h
      · rename_i r hr
        simp only [Option.some.injEq] at h
        subst h
        exact .cons ⟨rfl, opd_ok hs hv⟩ (evParts_ok hs l hr)
      · exact none_some h
    · exact none_some h
def evBuild {D : Nat → Type} (tab : Nat → Option TI) (σ : List (Nat × Tv D)) (t : TypeId) (l : List (Nat × Operand)) (K : Tv D → Option X) : Option X :=
  match tab t with
  | some i => match i.zero with
    | [] => none
    | z => match z.all okV with
      | true => match evParts σ l with
        | some ps => match i.kd with
          | 1 => match evFill (i.flds.map fun f => (f.1, f.2.1)) (z.map .v) ps with
            | some cs => K (.agg cs)
            | none => none
          | 2 => match evFill ((List.range i.len).map fun k => (k * i.el, i.el)) (z.map .v) ps with
            | some cs => K (.agg cs)
            | none => none
          | _ => none
        | none => none
      | false => none
  | none => none
theorem run_places (w : World) : ∀ (fs : List Field) {l : List (Nat × Nat × Bool)}, tiFs P fs = some l → (fs.mapM fun f => (do pure (f.offset, ← sizeOf f.type) : Sem (Nat × Nat))).run P w = .ok (l.map fun f => (f.1, f.2.1)) w
  | [], l, h => by simp only [tiFs, Option.some.injEq] at h; subst h; rfl
  | f :: fs, l, h => by
    simp only [tiFs] at h
    obtain ⟨x, hx, h⟩ := Option.bind_eq_some_iff.1 h
    obtain ⟨r, hr, h⟩ := Option.bind_eq_some_iff.1 h
    simp only [Option.some.injEq] at h
    subst h
    simp only [List.mapM_cons, Sem.run_bind, (tiF_run hx w).1, Result.andThen_ok, Sem.run_pure, run_places w fs hr, List.map_cons]
theorem fill_congr {p q : Nat → Option (Nat × Nat)} : ∀ (l : List (Nat × Value)) (cs : Array Value), (∀ x ∈ l, p x.1 = q x.1) → Instr.fill p cs l = Instr.fill q cs l
  | [], cs, _ => rfl
  | (k, v) :: l, cs, h => by
    have h0 := h (k, v) (List.mem_cons_self ..)
    have ih := fun cs => fill_congr l cs (fun x hx => h x (List.mem_cons_of_mem _ hx))
    simp only [Instr.fill, h0, ih]
theorem tiOf_structs {t : TypeId} {i : TI} (h : tiOf P t = some i) (hk : i.kd = 1) : ∃ fs, P.underlying t = some (.struct fs) ∧ tiFs P fs.toList = some i.flds := by
  obtain ⟨f, d, hf, hd, h⟩ := tiOf_d h
  cases d with
  | struct fs => obtain ⟨l, hl, h⟩ := Option.bind_eq_some_iff.1 h; cases h; exact ⟨fs, hd, hl⟩
  | array n e => obtain ⟨_, _, h⟩ := Option.bind_eq_some_iff.1 h; cases h; simp at hk
  | slice e => obtain ⟨_, _, h⟩ := Option.bind_eq_some_iff.1 h; cases h; simp at hk
  | int k' => cases h; cases k' <;> simp [ikN] at hk
  | _ => cases h; simp at hk
theorem fill_places : ∀ (n e : Nat) (qs : List (Nat × Value)) (us vs : Array Value), Instr.fill (((List.range n).map fun k => (k * e, e))[·]?) us qs = some vs → Instr.fill (fun k => some (k * e, e)) us qs = some vs
  | n, e, [], us, vs, h => h
  | n, e, (k, v) :: qs, us, vs, h => by
    simp only [Instr.fill] at h ⊢
    by_cases hk : k < n
    · have e1 : ((List.range n).map fun k => (k * e, e))[k]? = some (k * e, e) := by simp [hk]
      rw [e1] at h
      dsimp only at h
      split at h
      · cases h
      · rename_i hc
        rw [if_neg hc]
        exact fill_places n e qs _ _ h
    · have : ((List.range n).map fun k => (k * e, e))[k]? = none := by simp; omega
      rw [this] at h
      cases h
theorem evBuild_ok {n : Nat} {σ : List (Nat × Tv R.D)} {tab : Nat → Option TI} (ht : TabOk P tab) {o : Oper} {t : TypeId} {l : Array (Nat × Operand)} (ho : o.op = .build t l) {K : Tv R.D → Option X} {x : X}
    (h : evBuild tab σ t l.toList K = some x) : ∃ r, K r = some x ∧ OpV R P n o σ r := by
  unfold evBuild at h
  split at h
  · rename_i i hi
    split at h
    · exact none_some h
    · rename_i hz
      split at h
      · rename_i hall
        split at h
        · rename_i ps hps
          have hlist : ∀ a : Act, (l.map fun (i, x) => (i, a.eval x)).toList = l.toList.map fun p => (p.1, a.eval p.2) := fun a => by simp [Array.toList_map]
          split at h
          · rename_i hk
            split at h
            · rename_i cs hcs
              refine ⟨_, h, fun ρ w a hs => ?_⟩
              obtain ⟨z, hzr, hzc⟩ := tiOf_zero (ht _ _ hi) (fun e => hz e) w
              obtain ⟨vs, hfill, hav⟩ := evFill_ok _ _ _ (evParts_ok hs _ hps) (all2_vs (R := R) (ρ := ρ) (w := w) _ hall) hcs
              refine ⟨.agg vs.toArray, ?_, ⟨vs, rfl, hav⟩⟩
              obtain ⟨fs, hu, hfs⟩ := tiOf_structs (ht _ _ hi) hk
              have hzc' : z.cells = i.zero.toArray := by rw [← hzc]
              unfold execOp
              simp only [ho, Sem.run_bind, Instr.build, hzr, Result.andThen_ok, run_underlying hu, Array.mapM_eq_mapM_toList, Sem.run_map, run_places w _ hfs, hlist, hzc']
              simp only [List.getElem?_toArray, hfill, Result.andThen_ok, Sem.run_pure]
            · exact none_some h
          · rename_i hk
            split at h
            · rename_i cs hcs
              refine ⟨_, h, fun ρ w a hs => ?_⟩
              obtain ⟨z, hzr, hzc⟩ := tiOf_zero (ht _ _ hi) (fun e => hz e) w
              obtain ⟨vs, hfill, hav⟩ := evFill_ok _ _ _ (evParts_ok hs _ hps) (all2_vs (R := R) (ρ := ρ) (w := w) _ hall) hcs
              refine ⟨.agg vs.toArray, ?_, ⟨vs, rfl, hav⟩⟩
              obtain ⟨e, hu, he⟩ := tiOf_array (ht _ _ hi) hk
              have hzc' : z.cells = i.zero.toArray := by rw [← hzc]
              have hfill' := fill_places _ _ _ _ _ hfill
              unfold execOp
              simp only [ho, Sem.run_bind, Instr.build, hzr, Result.andThen_ok, run_underlying hu, (tiF_run he w).1, hlist, hzc', hfill', Sem.run_pure]
            · exact none_some h
          · exact none_some h
        · exact none_some h
      · exact none_some h
  · exact none_some h
end
end Go.Proofs.Ytjfcfljdojkcdaa.Ev
