-- Pruned by a program (prune.py) for one law.
/- A whole variable of a struct type is loaded in one step. -/
import Derived.Test.YtbcdoncnhhjjeaaVSystemLostWMore
namespace Go.Proofs.YtbcdoncnhhjjeaaW.PrintWords
open Go Go.RowKit
set_option linter.unusedVariables false
set_option linter.unusedSimpArgs false
theorem add_off (g i : Nat) : Addr.add ⟨g, 0, none⟩ i = ⟨g, i, none⟩ := by
  unfold Addr.add; split <;> simp_all
theorem loadCellsFrom_run {P : Program} {W : World} {g : Nat} {cs : Array Value} {t : TypeId} (hb : W.heap[g]? = some (.cells cs t (0, 0))) : ∀ (n i : Nat) (acc : Array Value), i + n ≤ cs.size → (loadCellsFrom ⟨g, 0, none⟩ i n acc).run P W = .ok (acc ++ cs.extract i (i + n)) W
  | 0, i, acc, _ => by
    have : cs.extract i (i + 0) = #[] := by apply Array.eq_empty_of_size_eq_zero; simp; omega
    rw [this]; simp [loadCellsFrom, pure, Sem.run]
  | n + 1, i, acc, hi => by
    have hc : W.cell? (Addr.add ⟨g, 0, none⟩ i) = some (cs[i]'(by omega)) := by
      have := blk_cell hb i
      rw [Array.getElem?_eq_getElem (by omega)] at this
      rw [add_off]; exact this
    have ih := loadCellsFrom_run (P := P) hb n (i + 1) (acc.push (cs[i]'(by omega))) (by omega)
    have e : (loadCellsFrom ⟨g, 0, none⟩ i (n + 1) acc).run P W = (loadCellsFrom ⟨g, 0, none⟩ (i + 1) n (acc.push (cs[i]'(by omega)))).run P W := by
      show (Sem.load .plain (Addr.add ⟨g, 0, none⟩ i) fun v => (Sem.pure v).bind fun v => loadCellsFrom ⟨g, 0, none⟩ (i + 1) n (acc.push v)).run P W = _
      rw [Sem.run, hc]
      rfl
    rw [e, ih]
    congr 1
    apply Array.ext'
    simp only [Array.toList_append, Array.toList_push, Array.toList_extract, List.append_assoc]
    congr 1
    rw [show i + 1 + n = i + (n + 1) by omega]
    simp only [List.extract_eq_take_drop]
    rw [show i + (n + 1) - i = n + 1 by omega, show i + (n + 1) - (i + 1) = n by omega]
    rw [List.drop_eq_getElem_cons (l := cs.toList) (i := i) (by simpa using (by omega : i < cs.size))]
    simp
theorem loadVar_run {P : Program} {W : World} {g : Nat} {cs : Array Value} {t t' : TypeId} (ha : (isAgg t).run P W = .ok true W) (hs : (sizeOf t).run P W = .ok cs.size W) (hb : W.heap[g]? = some (.cells cs t' (0, 0))) : (loadVar t ⟨g, 0, none⟩).run P W = .ok (.agg cs) W := by
  have h := loadCellsFrom_run (P := P) hb cs.size 0 #[] (by omega)
  have e : (loadVar t ⟨g, 0, none⟩).run P W = .ok (.agg (#[] ++ cs.extract 0 (0 + cs.size))) W := by
    unfold loadVar
    simp only [Sem.run_bind, ha, Result.andThen, if_true, hs, loadCells, h]
    rfl
  rw [e]; simp
theorem isAgg_run {P : Program} {W : World} {t : TypeId} {fs} (ht : P.underlying t = some (.struct fs)) : (isAgg t).run P W = .ok true W := by
  have hu : (underlying t).run P W = .ok (.struct fs) W := by
    unfold underlying
    simp only [bind, Sem.bind, program, Sem.run, ht]
    rfl
  unfold isAgg
  rw [Sem.run_bind, hu]
  rfl
theorem load_event {P : Program} {ops : Array Oper} {o : Oper} {rest : List Oper} {a : Act} {Q : Exit → Act → World → Prop} {W : World} (hgd : o.guard = none) {t : TypeId} {x : Operand} (ho : o.op = .load t x) (g : Nat) (cs : Array Value) {t' : TypeId} {fs}
    (hx : a.eval x = .pointer (some ⟨g, 0, none⟩)) (ht : P.underlying t = some (.struct fs)) (hs : (P.info? t).map (·.size) = some cs.size) (hb : W.heap[g]? = some (.cells cs t' (0, 0)))
    (h : wpList P ops Q rest (a.put o.dst (.agg cs)) W) : wpList P ops Q (o :: rest) a W := by
  have hsz : (sizeOf t).run P W = .ok cs.size W := by
    obtain ⟨i, hi, he⟩ := Option.map_eq_some_iff.1 hs
    unfold sizeOf typeInfo
    simp only [bind, Sem.bind, program, Sem.run, hi]
    show Result.ok i.size W = _
    rw [he]
  refine Kd.event_run hgd ?_ h
  unfold execOp
  simp only [ho, hx, Instr.loadAt, Instr.sureAddr, Sem.run_bind]
  have := loadVar_run (isAgg_run ht) hsz hb
  simp only [pure, Sem.run, Result.andThen, bind, Sem.bind, this]
def chainW (g : Nat) : List Value → Nat → World → World
  | [], _, W => W
  | v :: vs, i, W => chainW g vs (i + 1) (W.setCell ⟨g, i, none⟩ v)
theorem storeCells_run {P : Program} {g : Nat} {t : TypeId} : ∀ (vs : List Value) (i : Nat) (W : World) (cs : Array Value), W.heap[g]? = some (.cells cs t (0, 0)) → i + vs.length ≤ cs.size → vs.all (·.oneCell') = true → (storeCells ⟨g, 0, none⟩ vs i).run P W = .ok () (chainW g vs i W)
  | [], i, W, cs, hb, hi, h1 => rfl
  | v :: vs, i, W, cs, hb, hi, h1 => by
    simp only [List.all_cons, Bool.and_eq_true] at h1
    simp only [List.length_cons] at hi
    have hc : W.cell? (Addr.add ⟨g, 0, none⟩ i) = some (cs[i]'(by omega)) := by
      have := blk_cell hb i
      rw [Array.getElem?_eq_getElem (by omega)] at this
      rw [add_off]; exact this
    have hf : W.frozen? (Addr.add ⟨g, 0, none⟩ i) = false := by rw [add_off]; exact blk_frozen hb i
    have e : (store (Addr.add ⟨g, 0, none⟩ i) v).run P W = .ok () (W.setCell ⟨g, i, none⟩ v) := by
      rw [run_store P W _ v _ h1.1, hc, hf, add_off]; rfl
    have ih := storeCells_run (P := P) vs (i + 1) (W.setCell ⟨g, i, none⟩ v) (cs.setIfInBounds i v) (blk_set hb i v) (by simp; omega) h1.2
    unfold storeCells
    rw [Sem.run_bind, e]
    exact ih
theorem store_run {P : Program} {o : Oper} {a : Act} {W W1 : World} {t : TypeId} {p : Tmp} {v : Operand} (ho : o.op = .store t (.tmp p) v) (g : Nat) (vs : List Value) {cs : Array Value} {t' : TypeId}
    (hx : a.eval (.tmp p) = .pointer (some ⟨g, 0, none⟩)) (hv : a.eval v = .agg vs.toArray) (hs : (P.info? t).map (·.size) = some vs.length) (hb : W.heap[g]? = some (.cells cs t' (0, 0))) (hn : vs.length ≤ cs.size) (h1 : vs.all (·.oneCell') = true)
    (hW : chainW g vs 0 W = W1) : (execOp a.eval o).run P W = .ok .skip W1 := by
  have hsz : (sizeOf t).run P W = .ok vs.length W := by
    obtain ⟨i, hi, he⟩ := Option.map_eq_some_iff.1 hs
    unfold sizeOf typeInfo
    simp only [bind, Sem.bind, program, Sem.run, hi]
    show Result.ok i.size W = _
    rw [he]
  have hr := storeCells_run (P := P) vs 0 W cs hb (by omega) h1
  have hsv : (storeVar t ⟨g, 0, none⟩ (.agg vs.toArray)).run P W = .ok () (chainW g vs 0 W) := by
    unfold storeVar
    rw [Sem.run_bind, hsz]
    simp only [Result.andThen, Value.cells, List.size_toArray, ne_eq, not_true_eq_false, if_false, Sem.run_bind]
    exact hr
  unfold execOp
  simp only [ho, hx, hv, Instr.storeAt, Instr.sureAddr, Sem.run_bind]
  simp only [pure, Sem.run, Result.andThen, bind, Sem.bind, hsv, hW]
end Go.Proofs.YtbcdoncnhhjjeaaW.PrintWords

