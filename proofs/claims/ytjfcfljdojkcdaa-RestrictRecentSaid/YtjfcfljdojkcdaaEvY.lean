/- The evaluator's slices that are made, and cleared, each sound. -/
import Derived.Test.YtjfcfljdojkcdaaEvXx
namespace Go.Proofs.Ytjfcfljdojkcdaa.Ev
open Go Go.RowKit
set_option linter.unusedVariables false
set_option linter.unusedSimpArgs false
section
variable {R : Ro} {P : Program} {X : Type}
def placesOf (n e : Nat) : List (Nat × Nat) := (List.range n).map fun k => (k * e, e)
def evBuildSlice (rt : Nat → Option (RoT R)) (code : TypeId → Option (RoT R)) (tab : Nat → Option TI) (σ : List (Nat × Tv R.D)) (t : TypeId) (len : Nat) (l : List (Nat × Operand)) (m : List (Ent R.D)) (K : Tv R.D → List (Ent R.D) → Option X) : Option X :=
  match tab t with
  | some ti => match Nat.beq ti.kd 3 with
    | true => match tab ti.elt with
      | some ei => match code ti.elt with
        | some o => match elemOk R ei o.c with
          | true => match Nat.ble (len * R.sz o.c) 16777216 with
            | true => match ei.zero.all okV with
              | true => match evParts σ l with
                | some ps => match evFill (placesOf len (R.sz o.c)) (repL len (ei.zero.map .v)) ps with
                  | some cs => match decs o len cs with
                    | some xs => K (.lf (.row o.c m.length)) (m ++ [.row o.c xs ti.elt])
                    | none => none
                  | none => none
                | none => none
              | false => none
            | false => none
          | false => none
        | none => none
      | none => none
    | false => none
  | none => none
/-- A new row. -/
theorem Rel.newrow {ρ : Ow} {m : List (Ent R.D)} {w : World} (h : Rel R ρ m w) {c : Nat} {e : TypeId} {xs : List (R.D c)} {cap : Nat} {us zs : List Value} (ha : All2 (Is R ρ w) (encs R c xs) us) (hl : xs.length ≤ cap) (hc : cap ≤ 9223372036854775807) (hz : cap * R.sz c ≤ us.length + zs.length) :
    ∃ (w' : World) (ρ' : Ow), w' = { w with heap := w.heap.push (.cells (us ++ zs).toArray e) } ∧ Go R ρ m w ρ' (m ++ [.row c xs e]) w' ∧ Rel R ρ' (m ++ [.row c xs e]) w' ∧ Is R ρ' w' (.row c m.length) (.slice (some ⟨w.heap.size, 0, none⟩) xs.length cap) := by
  obtain ⟨h1, h2⟩ := h.more (w' := { w with heap := w.heap.push (.cells (us ++ zs).toArray e) }) rfl (.row w.heap.size cap xs.length) (.row c xs e) rfl fun ρ' hle hf => ⟨rfl, hl, hc, us, zs, by
    show (w.heap.push _)[w.heap.size]? = _
    rw [Array.getElem?_push, if_pos rfl], ha.imp fun _ _ h' => h'.keep hf h.fits hle, hz⟩
  refine ⟨_, _, rfl, h1, h2, Is.row c _ _ _ _ ?_⟩
  show (ρ.r ++ [_])[m.length]? = _
  rw [← h.len]; simp
theorem evBuildSlice_ok {n : Nat} {σ : List (Nat × Tv R.D)} {rt : Nat → Option (RoT R)} {code : TypeId → Option (RoT R)} {tab : Nat → Option TI} (ht : TabOk P tab) {o : Oper} {t : TypeId} {len : Nat} {l : Array (Nat × Operand)} (ho : o.op = .buildSlice t len l) {m : List (Ent R.D)} {K : Tv R.D → List (Ent R.D) → Option X} {x : X}
    (h : evBuildSlice rt code tab σ t len l.toList m K = some x) : ∃ r es, K r (m ++ es) = some x ∧ OpOk R P n o σ m r (m ++ es) := by
  unfold evBuildSlice at h
  split at h
  case h_2 => exact none_some h
  rename_i ti hti
  split at h
  case h_2 => exact none_some h
  rename_i hk
  obtain ⟨hu, _⟩ := tiOf_sliceE (ht _ _ hti) (Nat.eq_of_beq_eq_true hk)
  split at h
  case h_2 => exact none_some h
  rename_i ei hei
  split at h
  case h_2 => exact none_some h
  rename_i oc hoc
  split at h
  case h_2 => exact none_some h
  rename_i hel
  obtain ⟨i, z, hi, hz, hsz, hzl, hby, hzz⟩ := elemOk_ok (ht _ _ hei) hel
  split at h
  case h_2 => exact none_some h
  rename_i hle
  have hle := Nat.le_of_ble_eq_true hle
  split at h
  case h_2 => exact none_some h
  rename_i hall
  split at h
  case h_2 => exact none_some h
  rename_i ps hps
  split at h
  case h_2 => exact none_some h
  rename_i cs hcs
  split at h
  case h_2 => exact none_some h
  rename_i xs hxs
  refine ⟨_, _, h, fun ρ w a hr hs => ?_⟩
  obtain ⟨hrf, hxl⟩ := decs_ok hxs
  have hparts := evParts_ok hs _ hps
  have hzero : All2 (Is R ρ w) (repL len (ei.zero.map .v)) (repL len ei.zero) := all2_rep (all2_vs _ hall) len
  obtain ⟨vs, hfill, hvs⟩ := evFill_ok _ _ _ hparts hzero hcs
  have hfill := fill_places _ _ _ _ _ hfill
  have hvs' := rf_is hrf hvs
  have hvl : vs.length = len * R.sz oc.c := by rw [← hvs'.length, encs_len, hxl]
  have hmx : len ≤ 9223372036854775807 := by
    have hpos : 0 < R.sz oc.c := by
      simp only [elemOk, Bool.and_eq_true, Bool.not_eq_true'] at hel
      obtain ⟨⟨h1, h2⟩, h3⟩ := hel
      have h1 := Nat.eq_of_beq_eq_true h1
      have h2 := Nat.eq_of_beq_eq_true h2
      rw [h1, ← h2]
      exact Nat.pos_of_ne_zero fun e => by rw [e] at h3; exact absurd h3 (by decide)
    have : len * 1 ≤ len * R.sz oc.c := Nat.mul_le_mul_left _ hpos
    omega
  obtain ⟨w', ρ', hw, hgo, hr', hrow⟩ := hr.newrow (e := ti.elt) (zs := []) hvs' (cap := len) (by omega) hmx (by rw [hvl]; simp)
  refine Yld.val (w' := w') (u := .slice (some ⟨w.heap.size, 0, none⟩) len len) ?_ ⟨ρ', hgo, hr', by rw [hxl] at hrow; exact hrow⟩
  have hmap : (l.map fun p => (p.1, a.eval p.2)).toList = l.toList.map fun p => (p.1, a.eval p.2) := by simp
  have hzr : (Array.range (len * i.size)).map (fun j => z.cells[j % z.cells.size]!) = (repL len ei.zero).toArray := by
    apply Array.ext'
    rw [hsz, ← hzl, zeros_rep, hzz]
  unfold execOp
  simp only [ho, Sem.run_bind, Instr.buildSlice, run_underlying hu, Result.andThen_ok, sizeOf, typeInfo, Sem.run_pure, run_program, hi]
  rw [if_neg (by rw [hsz]; omega)]
  by_cases h0 : len * i.size = 0
  · have hrep : repL len ei.zero = [] := List.length_eq_zero_iff.1 (by rw [repL_len, ← hzz, Array.length_toList, hzl, ← hsz]; exact h0)
    rw [hrep] at hfill
    simp only [h0, if_true, Sem.run_bind, Sem.run_pure, Result.andThen_ok, hmap]
    rw [show ((Array.range 0).map fun j => (#[] : Array Value)[j % (#[] : Array Value).size]!) = #[] by simp]
    rw [hsz, hfill]
    simp only [newRow, Sem.run_bind, run_newObj, Result.andThen_ok, Sem.run_pure]
    rw [hw]
    simp
  · rw [if_neg h0]
    simp only [zeroValue, typeInfo, Sem.run_bind, run_program, Result.andThen_ok, hi, hz, Sem.run_pure, hzr, hmap]
    rw [hsz, hfill]
    simp only [newRow, Sem.run_bind, run_newObj, Result.andThen_ok, Sem.run_pure]
    rw [hw]
    simp
def evMakeSlice (rt : Nat → Option (RoT R)) (code : TypeId → Option (RoT R)) (tab : Nat → Option TI) (t : TypeId) (lv cv : Tv R.D) (m : List (Ent R.D)) (K : Tv R.D → List (Ent R.D) → Option X) : Option X :=
  match tab t with
  | some ti => match Nat.beq ti.kd 3 with
    | true => match tab ti.elt with
      | some ei => match code ti.elt with
        | some o => match elemOk R ei o.c with
          | true => match ei.zero.all okV with
            | true => match decO o (ei.zero.map .v) with
              | some x0 => match lv with
                | .lf (.v (.int _ l)) => match cv with
                  | .lf (.v (.int _ c)) => if 0 ≤ l then (if l ≤ c then (if c * ((ei.bytes : Int) + 1) ≤ 140737488355328 then K (.lf (.row o.c m.length)) (m ++ [.row o.c (List.replicate l.toNat x0) ti.elt]) else none) else none) else none
                  | _ => none
                | _ => none
              | none => none
            | false => none
          | false => none
        | none => none
      | none => none
    | false => none
  | none => none
theorem repL_add {α : Type} (l : List α) (b : Nat) : ∀ a, repL (a + b) l = repL a l ++ repL b l
  | 0 => by simp [repL]
  | a + 1 => by rw [Nat.add_right_comm, repL, repL_add l b a, repL, List.append_assoc]
theorem evMakeSlice_ok {n : Nat} {σ : List (Nat × Tv R.D)} {rt : Nat → Option (RoT R)} {code : TypeId → Option (RoT R)} {tab : Nat → Option TI} (ht : TabOk P tab) {o : Oper} {t : TypeId} {e f : Operand} (ho : o.op = .makeSlice t e f) {lv cv : Tv R.D} (hlv : opd σ e = some lv) (hcv : opd σ f = some cv) {m : List (Ent R.D)} {K : Tv R.D → List (Ent R.D) → Option X} {x : X}
    (h : evMakeSlice rt code tab t lv cv m K = some x) : ∃ r es, K r (m ++ es) = some x ∧ OpOk R P n o σ m r (m ++ es) := by
  unfold evMakeSlice at h
  split at h
  case h_2 => exact none_some h
  rename_i ti hti
  split at h
  case h_2 => exact none_some h
  rename_i hk
  obtain ⟨hu, _⟩ := tiOf_sliceE (ht _ _ hti) (Nat.eq_of_beq_eq_true hk)
  split at h
  case h_2 => exact none_some h
  rename_i ei hei
  split at h
  case h_2 => exact none_some h
  rename_i oc hoc
  split at h
  case h_2 => exact none_some h
  rename_i hel
  obtain ⟨i, z, hi, hz, hsz, hzl, hby, hzz⟩ := elemOk_ok (ht _ _ hei) hel
  split at h
  case h_2 => exact none_some h
  rename_i hall
  split at h
  case h_2 => exact none_some h
  rename_i x0 hx0
  split at h
  case h_2 => exact none_some h
  rename_i k1 l
  split at h
  case h_2 => exact none_some h
  rename_i k2 c
  split at h
  case isFalse => exact none_some h
  rename_i h0
  split at h
  case isFalse => exact none_some h
  rename_i h1
  split at h
  case isFalse => exact none_some h
  rename_i h2
  refine ⟨_, _, h, fun ρ w a hr hs => ?_⟩
  have hq1 := opd_ok hs hlv
  have hq2 := opd_ok hs hcv
  generalize hev : a.eval e = pv at hq1
  generalize hef : a.eval f = qv at hq2
  obtain ⟨rfl, _⟩ := is_int hq1
  obtain ⟨rfl, _⟩ := is_int hq2
  have hb0 : (0 : Int) ≤ (ei.bytes : Int) := Int.natCast_nonneg _
  have hcb : c ≤ 140737488355328 := by
    have : c * 1 ≤ c * ((ei.bytes : Int) + 1) := Int.mul_le_mul_of_nonneg_left (by omega) (by omega)
    omega
  have hcb2 : (i.bytes : Int) * c ≤ 140737488355328 := by
    rw [hby, Int.mul_comm]
    have : c * (ei.bytes : Int) ≤ c * ((ei.bytes : Int) + 1) := Int.mul_le_mul_of_nonneg_left (by omega) (by omega)
    omega
  have wrapped : ∀ v : Int, 0 ≤ v → v ≤ 140737488355328 → IntKind.i64.wrap v = v := fun v h3 h4 => by rw [wrap_i64]; unfold wrap64; omega
  have hz0 : All2 (Is R ρ w) (R.enc oc.c x0) ei.zero := rf_is (decO_ok hx0) (all2_vs _ hall)
  obtain ⟨w', ρ', hw, hgo, hr', hrow⟩ := hr.newrow (e := ti.elt) (xs := List.replicate l.toNat x0) (us := repL l.toNat ei.zero) (zs := repL (c.toNat - l.toNat) ei.zero) (cap := c.toNat) (by rw [encs_rep]; exact all2_rep hz0 _) (by simp; omega) (by omega) (by
    rw [repL_len, repL_len, ← Nat.add_mul, ← hzz, Array.length_toList, hzl]
    exact Nat.mul_le_mul_right _ (by omega))
  refine Yld.val (w' := w') (u := .slice (some ⟨w.heap.size, 0, none⟩) l.toNat c.toNat) ?_ ⟨ρ', hgo, hr', by rw [List.length_replicate] at hrow; exact hrow⟩
  have hzr : (Array.range (c.toNat * i.size)).map (fun j => z.cells[j % z.cells.size]!) = (repL l.toNat ei.zero ++ repL (c.toNat - l.toNat) ei.zero).toArray := by
    apply Array.ext'
    rw [hsz, ← hzl, zeros_rep, hzz, ← repL_add]
    congr 1
    omega
  have rti : ∀ w0 : World, (typeInfo ti.elt).run P w0 = .ok i w0 := fun w0 => by simp only [typeInfo, Sem.run_bind, run_program, Result.andThen_ok, hi, Sem.run_pure]
  have rsz : ∀ w0 : World, (sizeOf ti.elt).run P w0 = .ok i.size w0 := fun w0 => by simp only [sizeOf, Sem.run_bind, rti, Result.andThen_ok, Sem.run_pure]
  have rzv : ∀ w0 : World, (zeroValue ti.elt).run P w0 = .ok z w0 := fun w0 => by simp only [zeroValue, Sem.run_bind, rti, Result.andThen_ok, hz, Sem.run_pure]
  have hroom : ∀ b : Nat, b ≤ 140737488355328 → ∀ w0 : World, (askRoom b).run P w0 = .ok () w0 := fun b hb w0 => by unfold askRoom; rw [if_neg (by unfold roomBytes; omega)]; rfl
  have hroom := hroom (c.toNat * i.bytes) (by
    have : ((c.toNat * i.bytes : Nat) : Int) = (i.bytes : Int) * c := by
      rw [Int.natCast_mul, Int.toNat_of_nonneg (by omega), Int.mul_comm]
    omega)
  have hnot : ¬ ((decide (c < 0) || decide ((i.bytes : Int) * c > 2 ^ 48) || decide (l < 0) || decide (l > c)) = true) := by
    simp only [Bool.or_eq_true, decide_eq_true_eq, not_or]
    omega
  unfold execOp
  simp only [ho, hev, hef]
  rw [show ((do pure (Next.value (← Instr.makeSlice t (.int k1 l) (.int k2 c))) : Sem Next)) = Instr.makeSlice t (.int k1 l) (.int k2 c) >>= fun v => pure (Next.value v) from rfl, Sem.run_bind]
  unfold Instr.makeSlice
  simp only [Sem.run_bind, run_underlying hu, Result.andThen_ok, asInt, asIntOf, Sem.run_pure, rti, wrapped l h0 (by omega), wrapped c (by omega) hcb]
  rw [if_neg (by simpa using hnot)]
  simp only [Sem.run_bind, hroom, Result.andThen_ok, rsz]
  by_cases h3 : c.toNat * i.size = 0
  · have hrep : (repL l.toNat ei.zero ++ repL (c.toNat - l.toNat) ei.zero) = [] := List.length_eq_zero_iff.1 (by
      rw [List.length_append, repL_len, repL_len, ← Nat.add_mul, ← hzz, Array.length_toList, hzl, ← hsz, show l.toNat + (c.toNat - l.toNat) = c.toNat by omega]
      exact h3)
    rw [if_pos h3]
    simp only [Sem.run_pure, Result.andThen_ok, h3, newRow, Sem.run_bind, run_newObj]
    rw [hw, hrep]
    have : ∀ g : Nat → Value, (Array.range 0).map g = #[] := fun g => by simp
    rw [this]
  · rw [if_neg h3]
    simp only [Sem.run_bind, rzv, Result.andThen_ok, Sem.run_pure, hzr, newRow, run_newObj]
    rw [hw]
end
end Go.Proofs.Ytjfcfljdojkcdaa.Ev
