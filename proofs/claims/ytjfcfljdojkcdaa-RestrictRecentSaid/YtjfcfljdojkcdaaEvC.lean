/- What the evaluator knows of the program's types; cells that are read and written. -/
import Derived.Test.YtjfcfljdojkcdaaEvB
namespace Go.Proofs.Ytjfcfljdojkcdaa.Ev
open Go Go.RowKit
set_option linter.unusedVariables false
set_option linter.unusedSimpArgs false

/-- A type: its cells; 1 a struct, 2 an array, 3 a slice, 4 bool, 5 a pointer, 6 a string, 0 another; its zero's cells; a struct's fields (begin, cells, are they a struct or an array); an array's, or a slice's, elements. -/
structure TI where
  sz : Nat
  kd : Nat
  zero : List Value
  flds : List (Nat × Nat × Bool)
  el : Nat
  ela : Bool
  len : Nat
  elt : Nat
  bytes : Nat
def ikN : IntKind → Nat | .i8 => 0 | .i16 => 1 | .i32 => 2 | .i64 => 3 | .u8 => 4 | .u16 => 5 | .u32 => 6 | .u64 => 7
theorem ikN_inj {k k' : IntKind} (h : Nat.beq (ikN k) (ikN k') = true) : k = k' := by
  cases k <;> cases k' <;> first | rfl | (simp [ikN] at h)
def ikOf : Nat → Option IntKind | 10 => some .i8 | 11 => some .i16 | 12 => some .i32 | 13 => some .i64 | 14 => some .u8 | 15 => some .u16 | 16 => some .u32 | 17 => some .u64 | _ => none
def TI.agg (i : TI) : Bool := match i.kd with | 1 => true | 2 => true | _ => false
def aggD : TypeDesc → Bool | .struct _ | .array _ _ => true | _ => false
def tiF (P : Program) (t : TypeId) : Option (Nat × Bool) := (P.info? t).bind fun i => (P.underlying t).bind fun u => some (i.size, aggD u)
def tiFs (P : Program) : List Field → Option (List (Nat × Nat × Bool))
  | [] => some []
  | f :: fs => (tiF P f.type).bind fun x => (tiFs P fs).bind fun l => some ((f.offset, x.1, x.2) :: l)
def zeroL (f : TypeInfo) : List Value := match f.zero with | some z => z.cells.toList | none => []
def tiD (P : Program) (f : TypeInfo) : TypeDesc → Option TI
  | .struct fs => (tiFs P fs.toList).bind fun l => some ⟨f.size, 1, zeroL f, l, 0, false, 0, 0, f.bytes⟩
  | .array n e => (tiF P e).bind fun x => some ⟨f.size, 2, zeroL f, [], x.1, x.2, n, e, f.bytes⟩
  | .slice e => (tiF P e).bind fun x => some ⟨f.size, 3, zeroL f, [], x.1, x.2, 0, e, f.bytes⟩
  | .bool => some ⟨f.size, 4, zeroL f, [], 0, false, 0, 0, f.bytes⟩
  | .pointer _ => some ⟨f.size, 5, zeroL f, [], 0, false, 0, 0, f.bytes⟩
  | .string => some ⟨f.size, 6, zeroL f, [], 0, false, 0, 0, f.bytes⟩
  | .int k => some ⟨f.size, 10 + ikN k, zeroL f, [], 0, false, 0, 0, f.bytes⟩
  | _ => some ⟨f.size, 0, zeroL f, [], 0, false, 0, 0, f.bytes⟩
def tiOf (P : Program) (t : TypeId) : Option TI := (P.info? t).bind fun f => (P.underlying t).bind fun d => tiD P f d
def TabOk (P : Program) (tab : Nat → Option TI) : Prop := ∀ t i, tab t = some i → tiOf P t = some i
def tabOf : List (Nat × TI) → Nat → Option TI
  | [], _ => none
  | (j, v) :: r, i => match Nat.beq j i with
    | true => some v
    | false => tabOf r i
theorem tabOf_ok (P : Program) (l : List (Nat × TI)) (h : l.map (fun p => tiOf P p.1) = l.map (fun p => some p.2)) : TabOk P (tabOf l) := by
  induction l with
  | nil => intro t i hi; simp [tabOf] at hi
  | cons p l ih =>
    simp only [List.map_cons, List.cons.injEq] at h
    intro t i hi
    obtain ⟨j, v⟩ := p
    simp only [tabOf] at hi
    split at hi
    · rename_i he
      have := Nat.eq_of_beq_eq_true he
      subst this
      simp only [Option.some.injEq] at hi
      subst hi
      exact h.1
    · exact ih h.2 t i hi
section
variable {P : Program}
theorem tiF_run {t : TypeId} {x : Nat × Bool} (h : tiF P t = some x) (w : World) : (sizeOf t).run P w = .ok x.1 w ∧ (isAgg t).run P w = .ok x.2 w := by
  unfold tiF at h
  obtain ⟨i, hi, h⟩ := Option.bind_eq_some_iff.1 h
  obtain ⟨d, hd, h⟩ := Option.bind_eq_some_iff.1 h
  simp only [Option.some.injEq] at h
  subst h
  refine ⟨by simp [sizeOf, typeInfo, hi], ?_⟩
  unfold isAgg
  rw [Sem.run_bind, run_underlying hd w]
  cases d <;> rfl
theorem tiOf_d {t : TypeId} {i : TI} (h : tiOf P t = some i) : ∃ f d, P.info? t = some f ∧ P.underlying t = some d ∧ tiD P f d = some i := by
  unfold tiOf at h
  obtain ⟨f, hf, h⟩ := Option.bind_eq_some_iff.1 h
  obtain ⟨d, hd, h⟩ := Option.bind_eq_some_iff.1 h
  exact ⟨f, d, hf, hd, h⟩
theorem tiD_ex {f : TypeInfo} {d : TypeDesc} {i : TI} (h : tiD P f d = some i) : f.size = i.sz ∧ aggD d = i.agg ∧ i.zero = zeroL f := by
  cases d with
  | struct fs => obtain ⟨_, _, h⟩ := Option.bind_eq_some_iff.1 h; cases h; exact ⟨rfl, rfl, rfl⟩
  | array n e => obtain ⟨_, _, h⟩ := Option.bind_eq_some_iff.1 h; cases h; exact ⟨rfl, rfl, rfl⟩
  | slice e => obtain ⟨_, _, h⟩ := Option.bind_eq_some_iff.1 h; cases h; exact ⟨rfl, rfl, rfl⟩
  | int k => cases h; cases k <;> exact ⟨rfl, rfl, rfl⟩
  | _ => cases h; exact ⟨rfl, rfl, rfl⟩
theorem tiOf_ex {t : TypeId} {i : TI} (h : tiOf P t = some i) : ∃ f d, P.info? t = some f ∧ P.underlying t = some d ∧ f.size = i.sz ∧ aggD d = i.agg :=
  let ⟨f, d, hf, hd, h⟩ := tiOf_d h; ⟨f, d, hf, hd, (tiD_ex h).1, (tiD_ex h).2.1⟩
theorem tiOf_run {t : TypeId} {i : TI} (h : tiOf P t = some i) (w : World) : (sizeOf t).run P w = .ok i.sz w ∧ (isAgg t).run P w = .ok i.agg w := by
  obtain ⟨f, d, hf, hd, hs, ha⟩ := tiOf_ex h
  have := tiF_run (P := P) (t := t) (x := (f.size, aggD d)) (by simp [tiF, hf, hd]) w
  rwa [hs, ha] at this
theorem tiOf_zero {t : TypeId} {i : TI} (h : tiOf P t = some i) (hz : i.zero ≠ []) (w : World) : ∃ z, (zeroValue t).run P w = .ok z w ∧ z.cells.toList = i.zero := by
  obtain ⟨f, d, hf, hd, h⟩ := tiOf_d h
  have hzero := (tiD_ex h).2.2
  rw [hzero] at hz ⊢
  unfold zeroL at hz ⊢
  cases hq : f.zero with
  | none => rw [hq] at hz; exact absurd rfl hz
  | some z => exact ⟨z, by simp [zeroValue, typeInfo, hf, hq], rfl⟩
theorem tiFs_get : ∀ {fs : List Field} {l : List (Nat × Nat × Bool)}, tiFs P fs = some l → fs.length = l.length ∧ ∀ (k o s : Nat) (b : Bool), l[k]? = some (o, s, b) → ∃ f, fs[k]? = some f ∧ f.offset = o ∧ tiF P f.type = some (s, b)
  | [], l, h => by simp only [tiFs, Option.some.injEq] at h; subst h; exact ⟨rfl, fun k o s b h => by simp at h⟩
  | f :: fs, l, h => by
    simp only [tiFs] at h
    obtain ⟨x, hx, h⟩ := Option.bind_eq_some_iff.1 h
    obtain ⟨r, hr, h⟩ := Option.bind_eq_some_iff.1 h
    simp only [Option.some.injEq] at h
    subst h
    obtain ⟨h0, h1⟩ := tiFs_get hr
    refine ⟨by simp [h0], fun k o s b hk => ?_⟩
    cases k with
    | zero =>
      simp only [List.getElem?_cons_zero, Option.some.injEq, Prod.mk.injEq] at hk
      obtain ⟨rfl, rfl, rfl⟩ := hk
      exact ⟨f, by simp, rfl, hx⟩
    | succ k => simpa using h1 k o s b (by simpa using hk)
theorem tiOf_struct {t : TypeId} {i : TI} (h : tiOf P t = some i) (hk : i.kd = 1) : ∃ fs, P.underlying t = some (.struct fs) ∧ fs.toList.length = i.flds.length ∧ ∀ (k o s : Nat) (b : Bool), i.flds[k]? = some (o, s, b) → ∃ f, fs[k]? = some f ∧ f.offset = o ∧ tiF P f.type = some (s, b) := by
  obtain ⟨f, d, hf, hd, h⟩ := tiOf_d h
  cases d with
  | struct fs => 
    obtain ⟨l, hl, h⟩ := Option.bind_eq_some_iff.1 h
    cases h
    obtain ⟨h0, h1⟩ := tiFs_get hl
    exact ⟨fs, hd, h0, fun k o s b hb => by simpa using h1 k o s b hb⟩
  | array n e => obtain ⟨_, _, h⟩ := Option.bind_eq_some_iff.1 h; cases h; simp [ikOf] at hk
  | slice e => obtain ⟨_, _, h⟩ := Option.bind_eq_some_iff.1 h; cases h; simp [ikOf] at hk
  | int k' => cases h; cases k' <;> simp [ikN] at hk
  | bool  => cases h; simp [ikOf] at hk
  | pointer e => cases h; simp [ikOf] at hk
  | string  => cases h; simp [ikOf] at hk
  | _ => cases h; simp [ikOf] at hk
theorem tiOf_array {t : TypeId} {i : TI} (h : tiOf P t = some i) (hk : i.kd = 2) : ∃ e, P.underlying t = some (.array i.len e) ∧ tiF P e = some (i.el, i.ela) := by
  obtain ⟨f, d, hf, hd, h⟩ := tiOf_d h
  cases d with
  | struct fs => obtain ⟨_, _, h⟩ := Option.bind_eq_some_iff.1 h; cases h; simp [ikOf] at hk
  | array n e => obtain ⟨x, hx, h⟩ := Option.bind_eq_some_iff.1 h; cases h; exact ⟨_, hd, hx⟩
  | slice e => obtain ⟨_, _, h⟩ := Option.bind_eq_some_iff.1 h; cases h; simp [ikOf] at hk
  | int k' => cases h; cases k' <;> simp [ikN] at hk
  | bool  => cases h; simp [ikOf] at hk
  | pointer e => cases h; simp [ikOf] at hk
  | string  => cases h; simp [ikOf] at hk
  | _ => cases h; simp [ikOf] at hk
theorem tiOf_slice {t : TypeId} {i : TI} (h : tiOf P t = some i) (hk : i.kd = 3) : ∃ e, P.underlying t = some (.slice e) ∧ tiF P e = some (i.el, i.ela) := by
  obtain ⟨f, d, hf, hd, h⟩ := tiOf_d h
  cases d with
  | struct fs => obtain ⟨_, _, h⟩ := Option.bind_eq_some_iff.1 h; cases h; simp [ikOf] at hk
  | array n e => obtain ⟨_, _, h⟩ := Option.bind_eq_some_iff.1 h; cases h; simp [ikOf] at hk
  | slice e => obtain ⟨x, hx, h⟩ := Option.bind_eq_some_iff.1 h; cases h; exact ⟨_, hd, hx⟩
  | int k' => cases h; cases k' <;> simp [ikN] at hk
  | bool  => cases h; simp [ikOf] at hk
  | pointer e => cases h; simp [ikOf] at hk
  | string  => cases h; simp [ikOf] at hk
  | _ => cases h; simp [ikOf] at hk
theorem tiOf_sliceE {t : TypeId} {i : TI} (h : tiOf P t = some i) (hk : i.kd = 3) : P.underlying t = some (.slice i.elt) ∧ tiF P i.elt = some (i.el, i.ela) := by
  obtain ⟨f, d, hf, hd, h⟩ := tiOf_d h
  cases d with
  | struct fs => obtain ⟨_, _, h⟩ := Option.bind_eq_some_iff.1 h; cases h; simp [ikOf] at hk
  | array n e => obtain ⟨_, _, h⟩ := Option.bind_eq_some_iff.1 h; cases h; simp [ikOf] at hk
  | slice e => obtain ⟨x, hx, h⟩ := Option.bind_eq_some_iff.1 h; cases h; exact ⟨hd, hx⟩
  | int k' => cases h; cases k' <;> simp [ikN] at hk
  | bool  => cases h; simp [ikOf] at hk
  | pointer e => cases h; simp [ikOf] at hk
  | string  => cases h; simp [ikOf] at hk
  | _ => cases h; simp [ikOf] at hk
theorem tiOf_bytes {t : TypeId} {i : TI} (h : tiOf P t = some i) : ∃ f, P.info? t = some f ∧ f.size = i.sz ∧ f.bytes = i.bytes ∧ i.zero = zeroL f := by
  obtain ⟨f, d, hf, hd, h⟩ := tiOf_d h
  refine ⟨f, hf, ?_⟩
  cases d with
  | struct fs => obtain ⟨_, _, h⟩ := Option.bind_eq_some_iff.1 h; cases h; exact ⟨rfl, rfl, rfl⟩
  | array n e => obtain ⟨_, _, h⟩ := Option.bind_eq_some_iff.1 h; cases h; exact ⟨rfl, rfl, rfl⟩
  | slice e => obtain ⟨_, _, h⟩ := Option.bind_eq_some_iff.1 h; cases h; exact ⟨rfl, rfl, rfl⟩
  | int k => cases h; cases k <;> exact ⟨rfl, rfl, rfl⟩
  | _ => cases h; exact ⟨rfl, rfl, rfl⟩
theorem tiOf_bool {t : TypeId} {i : TI} (h : tiOf P t = some i) (hk : i.kd = 4) : P.underlying t = some .bool := by
  obtain ⟨f, d, hf, hd, h⟩ := tiOf_d h
  cases d with
  | struct fs => obtain ⟨_, _, h⟩ := Option.bind_eq_some_iff.1 h; cases h; simp [ikOf] at hk
  | array n e => obtain ⟨_, _, h⟩ := Option.bind_eq_some_iff.1 h; cases h; simp [ikOf] at hk
  | slice e => obtain ⟨_, _, h⟩ := Option.bind_eq_some_iff.1 h; cases h; simp [ikOf] at hk
  | int k' => cases h; cases k' <;> simp [ikN] at hk
  | bool  => exact hd
  | pointer e => cases h; simp [ikOf] at hk
  | string  => cases h; simp [ikOf] at hk
  | _ => cases h; simp [ikOf] at hk
theorem tiOf_pointer {t : TypeId} {i : TI} (h : tiOf P t = some i) (hk : i.kd = 5) : ∃ e, P.underlying t = some (.pointer e) := by
  obtain ⟨f, d, hf, hd, h⟩ := tiOf_d h
  cases d with
  | struct fs => obtain ⟨_, _, h⟩ := Option.bind_eq_some_iff.1 h; cases h; simp [ikOf] at hk
  | array n e => obtain ⟨_, _, h⟩ := Option.bind_eq_some_iff.1 h; cases h; simp [ikOf] at hk
  | slice e => obtain ⟨_, _, h⟩ := Option.bind_eq_some_iff.1 h; cases h; simp [ikOf] at hk
  | int k' => cases h; cases k' <;> simp [ikN] at hk
  | bool  => cases h; simp [ikOf] at hk
  | pointer e => exact ⟨_, hd⟩
  | string  => cases h; simp [ikOf] at hk
  | _ => cases h; simp [ikOf] at hk
theorem tiOf_string {t : TypeId} {i : TI} (h : tiOf P t = some i) (hk : i.kd = 6) : P.underlying t = some .string := by
  obtain ⟨f, d, hf, hd, h⟩ := tiOf_d h
  cases d with
  | struct fs => obtain ⟨_, _, h⟩ := Option.bind_eq_some_iff.1 h; cases h; simp [ikOf] at hk
  | array n e => obtain ⟨_, _, h⟩ := Option.bind_eq_some_iff.1 h; cases h; simp [ikOf] at hk
  | slice e => obtain ⟨_, _, h⟩ := Option.bind_eq_some_iff.1 h; cases h; simp [ikOf] at hk
  | int k' => cases h; cases k' <;> simp [ikN] at hk
  | bool  => cases h; simp [ikOf] at hk
  | pointer e => cases h; simp [ikOf] at hk
  | string  => exact hd
  | _ => cases h; simp [ikOf] at hk
theorem tiOf_int {t : TypeId} {i : TI} {k : IntKind} (h : tiOf P t = some i) (hk : ikOf i.kd = some k) : P.underlying t = some (.int k) := by
  obtain ⟨f, d, hf, hd, h⟩ := tiOf_d h
  cases d with
  | struct fs => obtain ⟨_, _, h⟩ := Option.bind_eq_some_iff.1 h; cases h; simp [ikOf] at hk
  | array n e => obtain ⟨_, _, h⟩ := Option.bind_eq_some_iff.1 h; cases h; simp [ikOf] at hk
  | slice e => obtain ⟨_, _, h⟩ := Option.bind_eq_some_iff.1 h; cases h; simp [ikOf] at hk
  | int k' => cases h; cases k' <;> simp [ikOf, ikN] at hk <;> (subst hk; exact hd)
  | bool  => cases h; simp [ikOf] at hk
  | pointer e => cases h; simp [ikOf] at hk
  | string  => cases h; simp [ikOf] at hk
  | _ => cases h; simp [ikOf] at hk
theorem tiOf_some {t : TypeId} {i : TI} (h : tiOf P t = some i) : ∃ d, P.underlying t = some d :=
  let ⟨_, d, _, hd, _⟩ := tiOf_ex h; ⟨d, hd⟩

/-! ### Cells that are read -/
theorem add_at (b o n : Nat) : Addr.add ⟨b, o, none⟩ n = ⟨b, o + n, none⟩ := by
  unfold Addr.add; split <;> simp_all
theorem run_loadVar_agg {w : World} {t : TypeId} {b o n : Nat} {us : List Value} (ha : (isAgg t).run P w = .ok true w) (hs : (sizeOf t).run P w = .ok n w) (hn : us.length = n)
    (hc : ∀ j u, us[j]? = some u → w.cell? ⟨b, o + j, none⟩ = some u) : (loadVar t ⟨b, o, none⟩).run P w = .ok (.agg us.toArray) w := by
  have := run_loadCells_list (P := P) w ⟨b, o, none⟩ us (fun j v hv => by rw [add_at]; exact hc j v hv)
  unfold loadVar
  simp only [Sem.run_bind, ha, Result.andThen_ok, if_true, hs, ← hn, this, Sem.run_pure]
theorem run_loadVar_one {w : World} {t : TypeId} {b o : Nat} {u : Value} (ha : (isAgg t).run P w = .ok false w)
    (hc : w.cell? ⟨b, o, none⟩ = some u) : (loadVar t ⟨b, o, none⟩).run P w = .ok u w := by
  unfold loadVar
  simp [Sem.run_bind, ha, hc]
theorem cell_blk {w : World} {b : Nat} {us : List Value} {t : TypeId} (h : w.heap[b]? = some (.cells us.toArray t (0, 0))) (j : Nat) : w.cell? ⟨b, j, none⟩ = us[j]? := by
  simp [World.cell?, h]

/-! ### Cells that are written -/
theorem frozen_blk {w : World} {b : Nat} {us : List Value} {t : TypeId} (h : w.heap[b]? = some (.cells us.toArray t (0, 0))) (j : Nat) : w.frozen? ⟨b, j, none⟩ = false := by
  simp [World.frozen?, h]
/-- Another content of a block. -/
structure Put (w w' : World) (b : Nat) (us : List Value) (t : TypeId) : Prop where
  os : w'.os = w.os
  tape : w'.tape = w.tape
  output : w'.output = w.output
  size : w'.heap.size = w.heap.size
  at_ : w'.heap[b]? = some (.cells us.toArray t (0, 0))
  far : ∀ k, k ≠ b → w'.heap[k]? = w.heap[k]?
theorem put_one {w : World} {b o : Nat} {us : List Value} {t : TypeId} (h : w.heap[b]? = some (.cells us.toArray t (0, 0))) {v : Value} : Put w (w.setCell ⟨b, o, none⟩ v) b (us.set o v) t := by
  refine ⟨rfl, rfl, rfl, by simp [World.setCell], ?_, fun k hk => Below.heap_setCell _ _ _ _ hk⟩
  simp [World.setCell, Array.getElem?_modify, h]
theorem run_storeCells : ∀ (vs : List Value) {w : World} {b o : Nat} {us : List Value} {t : TypeId} (i : Nat), w.heap[b]? = some (.cells us.toArray t (0, 0)) → (∀ v ∈ vs, v.oneCell' = true) → o + i + vs.length ≤ us.length →
    ∃ w', (storeCells ⟨b, o, none⟩ vs i).run P w = .ok () w' ∧ Put w w' b (us.take (o + i) ++ vs ++ us.drop (o + i + vs.length)) t
  | [], w, b, o, us, t, i, h, _, _ => ⟨w, rfl, rfl, rfl, rfl, rfl, by simpa using h, fun _ _ => rfl⟩
  | v :: vs, w, b, o, us, t, i, h, hv, hl => by
    simp only [List.length_cons] at hl
    have hp := put_one h (o := o + i) (v := v)
    obtain ⟨w', hr, hq⟩ := run_storeCells vs (w := w.setCell ⟨b, o + i, none⟩ v) (b := b) (o := o) (us := us.set (o + i) v) (t := t) (i + 1) hp.at_ (fun x hx => hv x (List.mem_cons_of_mem _ hx)) (by simp; omega)
    refine ⟨w', ?_, ?_⟩
    · have hc : w.cell? ⟨b, o + i, none⟩ = some (us[o + i]'(by omega)) := by rw [cell_blk h, List.getElem?_eq_getElem]
      simp only [storeCells, Sem.run_bind, add_at, run_store P w _ v _ (hv v (List.mem_cons_self ..)), hc, frozen_blk h, Bool.false_eq_true, if_false, Result.andThen_ok]
      exact hr
    · have e : (us.set (o + i) v).take (o + (i + 1)) ++ vs ++ (us.set (o + i) v).drop (o + (i + 1) + vs.length) = us.take (o + i) ++ (v :: vs) ++ us.drop (o + i + (vs.length + 1)) := by
        rw [List.drop_set_of_lt (by omega), show o + (i + 1) = (o + i) + 1 by omega, List.take_add_one]
        simp only [List.take_set_of_le (Nat.le_refl (o + i)), List.getElem?_set_self (show o + i < us.length by omega), Option.toList_some, List.append_assoc, List.singleton_append, List.cons_append, List.nil_append]
        congr 3
        rw [show o + i + 1 + vs.length = o + i + (vs.length + 1) by omega]
      rw [e] at hq
      exact ⟨hq.os.trans hp.os, hq.tape.trans hp.tape, hq.output.trans hp.output, hq.size.trans hp.size, hq.at_, fun k hk => (hq.far k hk).trans (hp.far k hk)⟩
end
end Go.Proofs.Ytjfcfljdojkcdaa.Ev
