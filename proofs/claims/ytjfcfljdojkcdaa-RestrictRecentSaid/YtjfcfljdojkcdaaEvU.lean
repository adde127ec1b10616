/- The evaluator's maps that are written out: made, filled with constants, asked; each sound. -/
import Derived.Test.YtjfcfljdojkcdaaEvT
import Derived.MapKept
namespace Go.Proofs.Ytjfcfljdojkcdaa.Ev
open Go Go.RowKit Go.MapKept
set_option linter.unusedVariables false
set_option linter.unusedSimpArgs false
/-- Of a map's type: its keys' type and kind, its elements' type, and their zero. -/
structure MpT where
  kt : TypeId
  kk : IntKind
  et : TypeId
  z : Value
def mptOf (P : Program) (t : TypeId) : Option MpT :=
  match P.underlying t with
  | some (.map kt et) => match P.underlying kt with
    | some (.int kk) => match (P.info? et).bind (·.zero) with
      | some z => some ⟨kt, kk, et, z⟩
      | none => none
    | _ => none
  | _ => none
def MpOk (P : Program) (f : TypeId → Option MpT) : Prop := ∀ t i, f t = some i → mptOf P t = some i
def mpsOf : List (Nat × MpT) → TypeId → Option MpT
  | [], _ => none
  | (j, v) :: r, i => match Nat.beq j i with
    | true => some v
    | false => mpsOf r i
theorem mpsOf_ok {P : Program} (l : List (Nat × MpT)) (h : l.map (fun p => mptOf P p.1) = l.map (fun p => some p.2)) : MpOk P (mpsOf l) := by
  induction l with
  | nil => intro t i hi; simp [mpsOf] at hi
  | cons p l ih =>
    simp only [List.map_cons, List.cons.injEq] at h
    intro t i hi
    obtain ⟨j, v⟩ := p
    simp only [mpsOf] at hi
    split at hi
    · rename_i he
      have := Nat.eq_of_beq_eq_true he
      subst this
      simp only [Option.some.injEq] at hi
      subst hi
      exact h.1
    · exact ih h.2 t i hi
theorem mptOf_ok {P : Program} {t : TypeId} {i : MpT} (h : mptOf P t = some i) : P.underlying t = some (.map i.kt i.et) ∧ P.underlying i.kt = some (.int i.kk) ∧ ∀ w, (zeroValue i.et).run P w = .ok i.z w := by
  unfold mptOf at h
  split at h
  · rename_i kt et hm
    split at h
    · rename_i kk hk
      split at h
      · rename_i z hz
        simp only [Option.some.injEq] at h
        subst h
        refine ⟨hm, hk, fun w => ?_⟩
        obtain ⟨f, hf, hz⟩ := Option.bind_eq_some_iff.1 hz
        simp [zeroValue, typeInfo, hf, hz]
      · cases h
    · cases h
  · cases h
def isAggV : Value → Bool | .agg _ => true | _ => false
def pickV : List (Value × Value) → Int → Option Value
  | [], _ => none
  | (.int _ k, v) :: r, n => if n = k then some v else pickV r n
  | _ :: r, n => pickV r n
def mkeysB (kk : IntKind) : List (Value × Value) → Bool
  | [] => true
  | (.int k _, _) :: r => match Nat.beq (ikN k) (ikN kk) with
    | true => mkeysB kk r
    | false => false
  | _ => false
theorem find_pick {kk : IntKind} {n : Int} : ∀ (es : List MapEntry) (i : Nat), mkeysB kk (es.map fun e => (e.key, e.val)) = true → ∃ r, Instr.findNow (.int kk) (.int kk n) es i = some r ∧ r.map (·.2) = pickV (es.map fun e => (e.key, e.val)) n
  | [], i, _ => ⟨none, rfl, rfl⟩
  | e :: es, i, h => by
    obtain ⟨key, val, born⟩ := e
    cases key with
    | int k x =>
      simp only [List.map_cons, mkeysB] at h
      split at h
      · rename_i hk
        have := ikN_inj hk
        subst this
        simp only [List.map_cons, pickV, Instr.findNow, Instr.sameNow, if_true]
        by_cases hn : n = x
        · subst hn
          simp
        · have : (n == x) = false := by simpa using hn
          rw [this, if_neg hn]
          exact find_pick es (i + 1) h
      · cases h
    | _ => simp [mkeysB] at h
def col (vk : IntKind) (j : Nat) : List (Value × Value) → Option (List (Int × Int))
  | [] => some []
  | (.int _ k, v) :: r => match v.cells.toList[j]? with
    | some (.int vk' x) => match Nat.beq (ikN vk) (ikN vk') with
      | true => match (Lit.int vk x).wf with
        | true => match col vk j r with
          | some ps => some ((k, x) :: ps)
          | none => none
        | false => none
      | false => none
    | _ => none
  | _ => none
theorem col_ok {vk : IntKind} {j : Nat} {n d : Int} (hd : (Lit.int vk d).wf = true) : ∀ (l : List (Value × Value)) {ps : List (Int × Int)}, col vk j l = some ps →
    (Lit.int vk (mapv d ps n)).wf = true ∧ (pickV l n = none → mapv d ps n = d) ∧ ∀ v, pickV l n = some v → v.cells.toList[j]? = some (.int vk (mapv d ps n))
  | [], ps, h => by simp only [col, Option.some.injEq] at h; subst h; exact ⟨hd, fun _ => rfl, fun v hv => by simp [pickV] at hv⟩
  | (key, v) :: r, ps, h => by
    cases key with
    | int k' k =>
      simp only [col] at h
      split at h
      · rename_i vk' x hc
        split at h
        · rename_i hk
          have := ikN_inj hk
          subst this
          split at h
          · rename_i hw
            split at h
            · rename_i ps' hp
              simp only [Option.some.injEq] at h
              subst h
              obtain ⟨a, b, c⟩ := col_ok (n := n) hd r hp
              simp only [mapv, pickV]
              by_cases hn : n = k
              · simp only [hn, if_true]
                refine ⟨hw, fun h => by simp at h, fun v' hv' => ?_⟩
                simp only [Option.some.injEq] at hv'
                subst hv'
                exact hc
              · simp only [hn, if_false]
                exact ⟨a, b, c⟩
            · cases h
          · cases h
        · cases h
      · cases h
    | _ => simp [col] at h
section
variable {R : Ro} {P : Program} {X : Type}
def cols {D : Nat → Type} (l : List (Value × Value)) (n : Int) : List Value → Nat → Option (List (Lf D))
  | [], _ => some []
  | .int vk zn :: r, j => match (Lit.int vk zn).wf with
    | true => match col vk j l with
      | some ps => match cols l n r (j + 1) with
        | some cs => some (.v (.int vk (mapv zn ps n)) :: cs)
        | none => none
      | none => none
    | false => none
  | _, _ => none
def theV (z : Value) (l : List (Value × Value)) (n : Int) : Value := (pickV l n).getD z
theorem cols_ok {ρ : Ow} {w : World} {l : List (Value × Value)} {n : Int} {z : Value} (hlen : (theV z l n).cells.toList.length = z.cells.toList.length) : ∀ (zs : List Value) (j : Nat) {cs : List (Lf R.D)}, (∀ i : Nat, zs[i]? = z.cells.toList[j + i]?) → cols l n zs j = some cs → All2 (Is R ρ w) cs ((theV z l n).cells.toList.drop j)
  | [], j, cs, hz, h => by
    simp only [cols, Option.some.injEq] at h
    subst h
    have := hz 0
    simp only [List.getElem?_nil, Nat.add_zero] at this
    rw [List.drop_of_length_le (by rw [hlen]; exact List.getElem?_eq_none_iff.1 this.symm)]
    exact .nil
  | zc :: r, j, cs, hz, h => by
    have h0 := hz 0
    simp only [List.getElem?_cons_zero, Nat.add_zero] at h0
    cases zc with
    | int vk zn =>
      simp only [cols] at h
      split at h
      · rename_i hw
        split at h
        · rename_i ps hp
          split at h
          · rename_i cs' hcs
            simp only [Option.some.injEq] at h
            subst h
            obtain ⟨a, b, c⟩ := col_ok (n := n) hw l hp
            have hat : (theV z l n).cells.toList[j]? = some (.int vk (mapv zn ps n)) := by
              unfold theV
              cases hpk : pickV l n with
              | none => rw [b hpk]; exact h0.symm
              | some v => exact c v hpk
            obtain ⟨hlt, he⟩ := List.getElem?_eq_some_iff.1 hat
            rw [List.drop_eq_getElem_cons hlt, he]
            exact .cons (.v _ a) (cols_ok hlen r (j + 1) (fun i => by
              have := hz (i + 1)
              rw [List.getElem?_cons_succ] at this
              rw [this]; congr 1; omega) hcs)
          · cases h
        · cases h
      · cases h
    | _ => simp [cols] at h
def aggsB (g : Bool) (n : Nat) : List (Value × Value) → Bool
  | [] => true
  | (_, v) :: r => match eqBB (isAggV v) g with
    | true => match Nat.beq v.cells.toList.length n with
      | true => aggsB g n r
      | false => false
    | false => false
 where eqBB : Bool → Bool → Bool
  | true, b => b
  | false, true => false
  | false, false => true
theorem aggsB_ok {g : Bool} {n : Nat} {k : Int} : ∀ (l : List (Value × Value)) {v : Value}, aggsB g n l = true → pickV l k = some v → isAggV v = g ∧ v.cells.toList.length = n
  | [], v, _, h => by simp [pickV] at h
  | (key, u) :: r, v, h, hv => by
    simp only [aggsB] at h
    split at h
    · rename_i he
      split at h
      · rename_i hn
        have hn := Nat.eq_of_beq_eq_true hn
        have he : isAggV u = g := by cases hx : isAggV u <;> cases g <;> rw [hx] at he <;> first | rfl | (simp [aggsB.eqBB] at he)
        cases key with
        | int k' x =>
          simp only [pickV] at hv
          split at hv
          · simp only [Option.some.injEq] at hv; subst hv; exact ⟨he, hn⟩
          · exact aggsB_ok r h hv
        | _ => exact aggsB_ok r h (by simpa [pickV] using hv)
      · cases h
    · cases h
def evMakeMap (mpt : TypeId → Option MpT) (t : TypeId) (rs : Option Operand) (m : List (Ent R.D)) (K : Tv R.D → List (Ent R.D) → Option X) : Option X :=
  match rs with
  | none => K (.lf (.mref m.length)) (m ++ [.mp []])
  | some _ => none
theorem evMakeMap_ok {n : Nat} {σ : List (Nat × Tv R.D)} {mpt : TypeId → Option MpT} {o : Oper} {t : TypeId} {rs : Option Operand} (ho : o.op = .makeMap t rs) {m : List (Ent R.D)} {K : Tv R.D → List (Ent R.D) → Option X} {x : X} (h : evMakeMap mpt t rs m K = some x) :
    ∃ r m', K r m' = some x ∧ OpOk R P n o σ m r m' := by
  unfold evMakeMap at h
  split at h
  · refine ⟨_, _, h, fun ρ w a hr hs => ?_⟩
    obtain ⟨h1, h2⟩ := hr.more (w' := { w with heap := w.heap.push (.map #[] 0) }) rfl (.blk w.heap.size) (.mp []) rfl fun ρ' hle hf => ⟨#[], 0, by
      show (w.heap.push _)[w.heap.size]? = _
      rw [Array.getElem?_push, if_pos rfl], rfl⟩
    refine Yld.val (w' := { w with heap := w.heap.push (.map #[] 0) }) (u := .map (some w.heap.size)) ?_ ⟨_, h1, h2, Is.mref m.length _ (by show (ρ.r ++ [_])[m.length]? = _; rw [← hr.len]; simp)⟩
    unfold execOp
    simp only [ho, Option.map_none, Sem.run_bind, Instr.makeMap, run_newObj, Result.andThen_ok, Sem.run_pure]
  · exact none_some h
def closedV {D : Nat → Type} : List (Lf D) → Option (List Value)
  | [] => some []
  | .v u :: r => match closedV r with
    | some l => some (u :: l)
    | none => none
  | _ => none
theorem closedV_ok {ρ : Ow} {w : World} : ∀ (cs : List (Lf R.D)) {l us : List Value}, closedV cs = some l → All2 (Is R ρ w) cs us → us = l
  | [], l, us, h, ha => by simp only [closedV, Option.some.injEq] at h; subst h; cases ha; rfl
  | c :: cs, l, us, h, ha => by
    cases ha with
    | cons h0 h1 =>
    unfold closedV at h
    split at h
    · contradiction
    · rename_i u r heq
      cases heq
      split at h
      · rename_i l' hl
        simp only [Option.some.injEq] at h
        subst h
        rw [closedV_ok cs hl h1]
        cases h0
        rfl
      · cases h
    · cases h
def closedT {D : Nat → Type} : Tv D → Option Value
  | .lf (.v u) => some u
  | .agg cs => match closedV cs with
    | some l => some (.agg l.toArray)
    | none => none
  | _ => none
theorem closedT_ok {ρ : Ow} {w : World} {v : Tv R.D} {c u : Value} (h : closedT v = some c) (hu : IsT R ρ w v u) : u = c := by
  unfold closedT at h
  split at h
  · simp only [Option.some.injEq] at h
    subst h
    cases hu
    rfl
  · split at h
    · rename_i l hl
      simp only [Option.some.injEq] at h
      subst h
      obtain ⟨us, rfl, ha⟩ := hu
      rw [closedV_ok _ hl ha]
    · cases h
  · cases h
def evInsert (mpt : TypeId → Option MpT) (t : TypeId) (mv kv vv : Tv R.D) (m : List (Ent R.D)) (K : Tv R.D → List (Ent R.D) → Option X) : Option X :=
  match mv with
  | .lf (.mref h) => match m[h]? with
    | some (.mp l) => match mpt t with
      | some i => match kv with
        | .lf (.v (.int k n)) => match Nat.beq (ikN k) (ikN i.kk) with
          | true => match mkeysB i.kk l with
            | true => match pickV l n with
              | none => match closedT vv with
                | some v => K .un (m.set h (.mp (l ++ [(.int k n, v)])))
                | none => none
              | some _ => none
            | false => none
          | false => none
        | _ => none
      | none => none
    | _ => none
  | _ => none
theorem Rel.mp {ρ : Ow} {m : List (Ent R.D)} {w : World} (h : Rel R ρ m w) {i : Nat} {l : List (Value × Value)} (hi : m[i]? = some (.mp l)) : ∃ b, ρ.r[i]? = some (.blk b) ∧ ∃ (es : Array MapEntry) (clock : Nat), w.heap[b]? = some (.map es clock) ∧ es.toList.map (fun e => (e.key, e.val)) = l := by
  obtain ⟨q, hq, hok⟩ := h.at hi
  cases q with
  | blk b => exact ⟨b, hq, hok⟩
  | row b cap len => exact hok.elim
  | nil => exact hok.elim
theorem evInsert_ok {n : Nat} {σ : List (Nat × Tv R.D)} {mpt : TypeId → Option MpT} (hmp : MpOk P mpt) {o : Oper} {t : TypeId} {e f g : Operand} (ho : o.op = .insert t e f g) {mv kv vv : Tv R.D} (h1 : opd σ e = some mv) (h2 : opd σ f = some kv) (h3 : opd σ g = some vv)
    {m : List (Ent R.D)} {K : Tv R.D → List (Ent R.D) → Option X} {x : X} (h : evInsert mpt t mv kv vv m K = some x) : ∃ r m', K r m' = some x ∧ OpOk R P n o σ m r m' := by
  unfold evInsert at h
  split at h
  case h_2 => exact none_some h
  rename_i hh
  split at h
  case h_2 => exact none_some h
  rename_i l hm
  split at h
  case h_2 => exact none_some h
  rename_i i hi
  split at h
  case h_2 => exact none_some h
  rename_i k nn
  split at h
  case h_2 => exact none_some h
  rename_i hk
  have hk := ikN_inj hk
  subst hk
  split at h
  case h_2 => exact none_some h
  rename_i hkeys
  split at h
  case h_2 => exact none_some h
  rename_i hpick
  split at h
  case h_2 => exact none_some h
  rename_i v hv
  refine ⟨_, _, h, fun ρ w a hr hs => ?_⟩
  obtain ⟨hu, hku, hz⟩ := mptOf_ok (hmp _ _ hi)
  have q1 := opd_ok hs h1
  have q2 := opd_ok hs h2
  have q3 := closedT_ok hv (opd_ok hs h3)
  generalize hev : a.eval e = pv at q1
  generalize hek : a.eval f = kv' at q2
  obtain ⟨b, hb, es, clock, hheap, hes⟩ := hr.mp hm
  cases q1 with
  | mref _ b' hb' =>
    have : b' = b := by rw [hb, Option.some.injEq, Bk.blk.injEq] at hb'; exact hb'.symm
    subst this
    cases q2
    subst hes
    obtain ⟨r, hr1, hr2⟩ := find_pick (n := nn) es.toList 0 hkeys
    rw [hpick] at hr2
    have hr0 : r = none := by cases r <;> simp at hr2 ⊢
    subst hr0
    have hset := heap_set (o' := .map (es.push ⟨.int i.kk nn, v, clock⟩) (clock + 1)) hheap
    have hsz : (w.heap.setIfInBounds b' (.map (es.push ⟨.int i.kk nn, v, clock⟩) (clock + 1))).size = w.heap.size := by simp
    obtain ⟨hgo, hr'⟩ := hr.turn (w' := { w with heap := w.heap.setIfInBounds b' (.map (es.push ⟨.int i.kk nn, v, clock⟩) (clock + 1)) }) (e := .mp (es.toList.map (fun e => (e.key, e.val)) ++ [(.int i.kk nn, v)])) hb hm trivial rfl rfl rfl rfl hsz (fun k hk => hset.2 k hk) fun _ => ⟨_, _, hset.1, by simp⟩
    refine Yld.skip (w' := { w with heap := w.heap.setIfInBounds b' (.map (es.push ⟨.int i.kk nn, v, clock⟩) (clock + 1)) }) ?_ ⟨ρ, hgo, hr', rfl⟩
    unfold execOp
    have hck := run_checkKey (w := w) (k := .int i.kk nn) hku (by show IsKey (.int i.kk) _; simp [IsKey]) false 9999
    simp only [ho, hev, hek, q3, Sem.run_bind, Instr.mapUpdate, run_underlying hu, Go.MapKept.run_getObj_map hheap, hck, run_findKey hku hr1, Go.MapKept.run_setObj_map _ hheap, Result.andThen_ok, Sem.run_pure]
def evLookup (mpt : TypeId → Option MpT) (t : TypeId) (mv kv : Tv R.D) (ok : Bool) (m : List (Ent R.D)) (K : Tv R.D → Option X) : Option X :=
  match mv with
  | .lf (.mref h) => match m[h]? with
    | some (.mp l) => match mpt t with
      | some i => match kv with
        | .lf (.v (.int k n)) => match Nat.beq (ikN k) (ikN i.kk) with
          | true => match mkeysB i.kk l with
            | true => match aggsB (isAggV i.z) i.z.cells.toList.length l with
              | true => match cols l n i.z.cells.toList 0 with
                | some cs => match ok with
                  | false => match isAggV i.z with
                    | true => K (.agg cs)
                    | false => match cs with
                      | [c] => K (.lf c)
                      | _ => none
                  | true => none
                | none => none
              | false => none
            | false => none
          | false => none
        | _ => none
      | none => none
    | _ => none
  | _ => none
theorem cells_agg {v : Value} (h : isAggV v = true) : v = .agg v.cells := by cases v <;> first | rfl | (simp [isAggV] at h)
theorem cells_lf {v : Value} (h : isAggV v = false) : v.cells = #[v] := by cases v <;> first | rfl | (simp [isAggV] at h)
theorem evLookup_ok {n : Nat} {σ : List (Nat × Tv R.D)} {mpt : TypeId → Option MpT} (hmp : MpOk P mpt) {o : Oper} {t : TypeId} {e f : Operand} {ok : Bool} (ho : o.op = .lookup t e f ok) {mv kv : Tv R.D} (h1 : opd σ e = some mv) (h2 : opd σ f = some kv)
    {m : List (Ent R.D)} {K : Tv R.D → Option X} {x : X} (h : evLookup mpt t mv kv ok m K = some x) : ∃ r, K r = some x ∧ OpOk R P n o σ m r m := by
  unfold evLookup at h
  split at h
  case h_2 => exact none_some h
  rename_i hh
  split at h
  case h_2 => exact none_some h
  rename_i l hm
  split at h
  case h_2 => exact none_some h
  rename_i i hi
  split at h
  case h_2 => exact none_some h
  rename_i k nn
  split at h
  case h_2 => exact none_some h
  rename_i hk
  have hk := ikN_inj hk
  subst hk
  split at h
  case h_2 => exact none_some h
  rename_i hkeys
  split at h
  case h_2 => exact none_some h
  rename_i haggs
  split at h
  case h_2 => exact none_some h
  rename_i cs hcs
  split at h
  case h_2 => exact none_some h
  have key : ∀ r, (∀ ρ w, All2 (Is R ρ w) cs (theV i.z l nn).cells.toList → isAggV (theV i.z l nn) = isAggV i.z → IsT R ρ w r (theV i.z l nn)) → OpOk R P n o σ m r m := by
    intro r hres
    refine OpOk.val fun ρ w a hr hs => ?_
    obtain ⟨hu, hku, hz⟩ := mptOf_ok (hmp _ _ hi)
    have q1 := opd_ok hs h1
    have q2 := opd_ok hs h2
    generalize hev : a.eval e = pv at q1
    generalize hek : a.eval f = kv' at q2
    obtain ⟨b, hb, es, clock, hheap, hes⟩ := hr.mp hm
    have hth : isAggV (theV i.z l nn) = isAggV i.z ∧ (theV i.z l nn).cells.toList.length = i.z.cells.toList.length := by
      unfold theV
      cases hp : pickV l nn with
      | none => exact ⟨rfl, rfl⟩
      | some v => exact aggsB_ok l haggs hp
    have hall := cols_ok (R := R) (ρ := ρ) (w := w) hth.2 i.z.cells.toList 0 (fun j => by rw [Nat.zero_add]) hcs
    rw [List.drop_zero] at hall
    cases q1 with
    | mref _ b' hb' =>
      have : b' = b := by rw [hb, Option.some.injEq, Bk.blk.injEq] at hb'; exact hb'.symm
      subst this
      cases q2
      refine ⟨_, ?_, hres ρ w hall hth.1⟩
      subst hes
      obtain ⟨r, hr1, hr2⟩ := find_pick (n := nn) es.toList 0 hkeys
      have hck := run_checkKey (w := w) (k := .int i.kk nn) hku (by show IsKey (.int i.kk) _; simp [IsKey]) es.isEmpty 9999
      unfold execOp
      simp only [ho, hev, hek, Sem.run_bind, Instr.lookup, run_underlying hu, Go.MapKept.run_getObj_map hheap, hck, run_findKey hku hr1, Result.andThen_ok, Sem.run_pure]
      unfold theV
      cases r with
      | none =>
        simp only [Option.map_none] at hr2
        rw [← hr2]
        simp only [Sem.run_bind, hz, Result.andThen_ok, Sem.run_pure, Option.getD_none]
        rfl
      | some p =>
        simp only [Option.map_some] at hr2
        rw [← hr2]
        simp only [Sem.run_bind, Result.andThen_ok, Sem.run_pure, Option.getD_some]
        rfl
  split at h
  · rename_i hg
    refine ⟨_, h, key _ fun ρ w ha hq => ?_⟩
    rw [hg] at hq
    exact ⟨_, by rw [Array.toArray_toList]; exact cells_agg hq, ha⟩
  · rename_i hg
    split at h
    · refine ⟨_, h, key _ fun ρ w ha hq => ?_⟩
      rw [hg] at hq
      rw [cells_lf hq] at ha
      cases ha with
      | cons h0 h1 => exact h0
    · exact none_some h
end
end Go.Proofs.Ytjfcfljdojkcdaa.Ev
