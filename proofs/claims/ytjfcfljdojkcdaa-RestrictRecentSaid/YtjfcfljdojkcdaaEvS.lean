/- What comes in, opened: any struct, any slice of rows, told with 'Is' where nobody owns anything. -/
import Derived.Test.YtjfcfljdojkcdaaEvQ
import Derived.ChangeArms
import Derived.SizedLaws
import Derived.WideShapes
import Derived.DataElems
import Derived.OpenShut
namespace Go.Proofs.Ytjfcfljdojkcdaa.Ev
open Go Go.RowKit Go.ChangeShapes Go.WideShapes
set_option linter.unusedVariables false
section
variable {R : Ro} {P : Program}
/-- Data as cells. -/
structure Cs (R : Ro) (α : Type) where
  ls : α → List (Lf R.D)
  sz : Nat
  len : ∀ a, (ls a).length = sz
def Opens {α : Type} (c : Cs R α) (P : Program) (t : TypeId) (good : α → Prop) : Prop :=
  ∀ {H : Type} {enc : TypeId × Value → H} {w : World} {fuel : Nat} {cs : List Value} {x : DataW H × List MemPlace},
    DataW.trod enc P w 0 (fun _ => true) true fuel t cs = some x → (∀ n ∈ x.1.weights P t, n ≤ reachBytes) → ∃ a, All2 (Is R Ow.none w) (c.ls a) cs ∧ good a
def OpensF {α : Type} (c : Cs R α) (P : Program) (fs : List Field) (off : Nat) (good : α → Prop) : Prop :=
  ∀ {H : Type} {enc : TypeId × Value → H} {w : World} {fuel : Nat} {cs : List Value} {xs : List (DataW H × List MemPlace)},
    (∀ (i : Nat) (f : Field), fs[i]? = some f → DataW.trod enc P w 0 (fun _ => true) true fuel f.type ((cs.drop f.offset).take (P.cellsOf f.type)) = xs[i]?) → xs.length = fs.length → cs.length = off + c.sz →
    (∀ n ∈ DataW.weightsEach P (fs.map (·.type)) (xs.map (·.1)), n ≤ reachBytes) → ∃ a, All2 (Is R Ow.none w) (c.ls a) (cs.drop off) ∧ good a
def Cs.int (k : IntKind) : Cs R Int := ⟨fun n => [.v (.int k n)], 1, fun _ => rfl⟩
def Cs.bool : Cs R Bool := ⟨fun b => [.v (.bool b)], 1, fun _ => rfl⟩
def Cs.str : Cs R ByteArray := ⟨fun s => [.v (.string s)], 1, fun _ => rfl⟩
def Cs.row (c : Nat) : Cs R (R.D c) := ⟨R.enc c, R.sz c, R.len c⟩
def Cs.ro (c : Nat) : Cs R (List (R.D c)) := ⟨fun l => [.ro c l], 1, fun _ => rfl⟩
def Cs.pair {α β : Type} (c : Cs R α) (d : Cs R β) : Cs R (α × β) := ⟨fun p => c.ls p.1 ++ d.ls p.2, c.sz + d.sz, fun p => by simp [c.len, d.len]⟩
theorem Opens.int {t : TypeId} {k : IntKind} (ht : P.underlying t = some (.int k)) : Opens (R := R) (Cs.int k) P t (fun n => (Lit.int k n).wf = true) := by
  intro H enc w fuel cs x h _
  obtain ⟨n, rfl, _, hw⟩ := DataW.trod_int ht h
  exact ⟨n, .cons (Is.v _ hw) .nil, hw⟩
theorem Opens.bool {t : TypeId} (ht : P.underlying t = some .bool) : Opens (R := R) Cs.bool P t (fun _ => True) := by
  intro H enc w fuel cs x h _
  obtain ⟨b, rfl, _⟩ := DataW.trod_bool ht h
  exact ⟨b, .cons (Is.v _ rfl) .nil, trivial⟩
theorem Opens.string {t : TypeId} (ht : P.underlying t = some .string) : Opens (R := R) Cs.str P t (fun s => s.size ≤ 140737488351232) := by
  intro H enc w fuel cs x h hn
  obtain ⟨s, rfl, rfl, _⟩ := DataW.trod_string ht h
  have hs : s.size ≤ 140737488351232 := by
    have := hn s.data.toList.length (by simp [DataW.weights])
    simpa [reachBytes] using this
  refine ⟨s, .cons (Is.v _ ?_) .nil, hs⟩
  show Nat.ble s.size 9223372036854775807 = true
  exact Nat.ble_eq_true_of_le (by omega)
theorem is_bool {ρ : Ow} {w : World} {b : Bool} {u : Value} (h : IsT R ρ w (.lf (.v (.bool b))) u) : u = .bool b := by
  have h : Is R ρ w (.v (.bool b)) u := h
  cases h with
  | v _ _ => rfl
/-- The same cells told by other data. -/
theorem Opens.to {α β : Type} {c : Cs R α} {d : Cs R β} {t : TypeId} {g : α → Prop} {g' : β → Prop} (f : α → β) (hf : ∀ a, d.ls (f a) = c.ls a) (hg : ∀ a, g a → g' (f a)) (h : Opens c P t g) : Opens d P t g' := by
  intro H enc w fuel cs x hx hn
  obtain ⟨a, ha, hga⟩ := h hx hn
  exact ⟨f a, by rw [hf]; exact ha, hg a hga⟩
theorem weights_all {H : Type} {e : TypeId} : ∀ {ds : List (DataW H)} {d : DataW H}, d ∈ ds → ∀ n ∈ d.weights P e, n ∈ DataW.weightsAll P e ds
  | d0 :: ds, d, hd, n, hn => by
    simp only [DataW.weightsAll, List.mem_append]
    rcases List.mem_cons.1 hd with rfl | hd
    · exact .inl hn
    · exact .inr (weights_all hd n hn)
/-- Any slice, of any capacity. -/
theorem Opens.ro {c : Nat} {t e : TypeId} {g : R.D c → Prop} {B : Nat} (hz : 0 < R.sz c) (ht : P.underlying t = some (.slice e)) (hc : P.cellsOf e = R.sz c) (hB : P.bytesOf e = B) (h : Opens (Cs.row c) P e g) :
    Opens (Cs.ro c) P t (fun l => l.length ≤ 9223372036854775807 ∧ l.length * B ≤ 140737488351232 ∧ ∀ x ∈ l, g x) := by
  intro H enc w fuel cs x hx hn
  rcases DataW.trod_slice ht hx with ⟨rfl, _⟩ | ⟨a, len, cap, elems, rest, n, _, rfl, rfl, hb, hl, hm, hlen, hel, hsp, hns⟩
  · exact ⟨[], .cons (.nil c none 0) .nil, by simp, by simp, by simp⟩
  have hw : ∀ y ∈ elems, ∀ n ∈ y.1.weights P e, n ≤ reachBytes := by
    intro y hy m hm2
    refine hn m ?_
    simp only [DataW.weights, ht, List.mem_cons, List.mem_append]
    exact .inr (.inl (weights_all (List.mem_map_of_mem hy) m hm2))
  have hsize : (elems.length + rest.length) * P.bytesOf e ≤ reachBytes := hn _ (by simp [DataW.weights, ht])
  have each : ∀ i, i < len → ∃ (b : R.D c) (cs' : List Value), w.cells? 0 (a.add (i * R.sz c)) (R.sz c) = some cs' ∧ All2 (Is R Ow.none w) (R.enc c b) cs' ∧ g b := by
    intro i hi
    have h1 := hel i hi
    rw [List.getElem?_eq_getElem (by omega), Option.bind_eq_some_iff] at h1
    obtain ⟨cs', h2, h3⟩ := h1
    obtain ⟨b, hb1, hb2⟩ := h h3 (hw _ (List.getElem_mem _))
    rw [hc] at h2
    exact ⟨b, cs', h2, hb1, hb2⟩
  clear hel hsp hns hx
  have main : ∀ m, m ≤ len → ∃ l : List (R.D c), l.length = m ∧ (∀ (j : Nat) (p : R.D c), l[j]? = some p → ∃ cs' : List Value, w.cells? 0 (a.add (j * R.sz c)) (R.sz c) = some cs' ∧ All2 (Is R Ow.none w) (R.enc c p) cs') ∧ ∀ x ∈ l, g x := by
    intro m
    induction m with
    | zero => intro _; exact ⟨[], rfl, by simp, by simp⟩
    | succ m ih =>
      intro hm2
      obtain ⟨l, h1, h2, h3⟩ := ih (by omega)
      obtain ⟨b, cs', h4, h5, h6⟩ := each m (by omega)
      refine ⟨l ++ [b], by simp [h1], ?_, ?_⟩
      · intro j p hj
        by_cases hj2 : j < m
        · rw [List.getElem?_append_left (by omega)] at hj
          exact h2 j p hj
        · have hj3 : j = m := by
            have := (List.getElem?_eq_some_iff.1 hj).1
            simp only [List.length_append, List.length_singleton] at this
            omega
          subst hj3
          rw [← h1, List.getElem?_concat_length] at hj
          injection hj with hj
          subst hj
          exact ⟨cs', h4, h5⟩
      · intro x hx
        rcases List.mem_append.1 hx with hx | hx
        · exact h3 x hx
        · rw [List.mem_singleton.1 hx]
          exact h6
  obtain ⟨l, h1, h2, h3⟩ := main len (Nat.le_refl _)
  subst h1
  have hgood : l.length ≤ 9223372036854775807 ∧ l.length * B ≤ 140737488351232 ∧ ∀ x ∈ l, g x := by
    refine ⟨?_, ?_, h3⟩
    · have := Nat.le_trans hl hm
      simpa [maxLen] using this
    · rw [hB] at hsize
      exact Nat.le_trans (Nat.mul_le_mul_right _ (by omega)) hsize
  cases l with
  | nil => exact ⟨[], .cons (.nil c (some a) cap) .nil, hgood⟩
  | cons x0 l0 =>
    obtain ⟨k, off, sp⟩ := a
    obtain ⟨cs0, h4, h5⟩ := h2 0 x0 rfl
    have hsp : sp = none := by
      obtain ⟨_, h6, h7⟩ := World.cells?_some h4
      have h8 := h7 0 hz
      rw [List.getElem?_eq_getElem (by omega)] at h8
      simp only [Nat.zero_mul, Addr.add, if_true, World.cell?] at h8
      split at h8
      · cases sp with
        | none => rfl
        | some q => simp at h8
      · cases h8
    subst hsp
    have adds : ∀ q r : Nat, (Addr.add (Addr.add ⟨k, off, none⟩ q) r) = ⟨k, off + q + r, none⟩ := fun q r => by
      simp only [Addr.add]
      split <;> split <;> simp_all
    have cell : ∀ i j, i < (x0 :: l0).length → j < R.sz c → ∃ u, w.cell? ⟨k, off + i * R.sz c + j, none⟩ = some u := by
      intro i j hi hj
      obtain ⟨cs', h4, _⟩ := h2 i _ (List.getElem?_eq_getElem hi)
      obtain ⟨_, h6, h7⟩ := World.cells?_some h4
      have h8 := h7 j hj
      rw [adds, List.getElem?_eq_getElem (by omega)] at h8
      exact ⟨_, h8⟩
    have hb : k < w.heap.size := by
      obtain ⟨u, hu⟩ := cell 0 0 (by simp) hz
      simp only [World.cell?] at hu
      split at hu
      · rename_i h9
        exact (Array.getElem?_eq_some_iff.1 h9).1
      · cases hu
    refine ⟨x0 :: l0, .cons (.ro c (x0 :: l0) k off cap (fun i j => (w.cell? ⟨k, off + i * R.sz c + j, none⟩).getD undef) hgood.1 hl hb (fun h => h) (fun i j hi hj => ?_) (fun i x j lf hi hj => ?_)) .nil, hgood⟩
    · obtain ⟨u, hu⟩ := cell i j hi hj
      simp [hu]
    · obtain ⟨cs', h4, h5⟩ := h2 i x hi
      obtain ⟨_, h6, h7⟩ := World.cells?_some h4
      obtain ⟨u, hu, his⟩ := h5.get j lf hj
      have hlt : j < R.sz c := by
        have := (List.getElem?_eq_some_iff.1 hj).1
        rw [R.len] at this
        exact this
      have h8 := h7 j hlt
      rw [adds, hu] at h8
      rw [h8]
      exact his
theorem OpensF.one {α : Type} {c : Cs R α} {f : Field} {off : Nat} {g : α → Prop} (hk : Opens c P f.type g) (ho : f.offset = off) (hc : P.cellsOf f.type = c.sz) : OpensF c P [f] off g := by
  intro H enc w fuel cs xs h hl hcs hn
  have h0 := h 0 f rfl
  obtain ⟨y, rfl⟩ : ∃ y, xs = [y] := by
    match xs, hl with
    | [y], _ => exact ⟨y, rfl⟩
  rw [ho, hc, List.take_of_length_le (by simp [hcs])] at h0
  exact hk h0 (fun n hn2 => hn n (by simp [DataW.weightsEach, hn2]))
theorem OpensF.cons {α β : Type} {c : Cs R α} {d : Cs R β} {f : Field} {fs : List Field} {off off2 : Nat} {g : α → Prop} {g' : β → Prop} (hk : Opens c P f.type g) (ho : f.offset = off) (hc : P.cellsOf f.type = c.sz) (ho2 : off2 = off + c.sz)
    (hr : OpensF d P fs off2 g') : OpensF (Cs.pair c d) P (f :: fs) off (fun a => g a.1 ∧ g' a.2) := by
  intro H enc w fuel cs xs h hl hcs hn
  subst ho2
  have h0 := h 0 f rfl
  obtain ⟨y, ys, rfl⟩ : ∃ y ys, xs = y :: ys := by
    match xs, hl with
    | y :: ys, _ => exact ⟨y, ys, rfl⟩
  have hcs2 : cs.length = off + (c.sz + d.sz) := hcs
  rw [ho, hc] at h0
  obtain ⟨a, ha, hga⟩ := hk h0 (fun n hn2 => hn n (by simp [DataW.weightsEach, hn2]))
  obtain ⟨b, hb, hgb⟩ := hr (xs := ys) (fun i f2 hf => h (i + 1) f2 hf) (by simpa using hl) (by omega) (fun n hn2 => hn n (by
    simp only [List.map_cons, DataW.weightsEach, List.mem_append]
    exact .inr hn2))
  refine ⟨(a, b), ?_, hga, hgb⟩
  have := ha.append hb
  rwa [← List.drop_drop, List.take_append_drop] at this
theorem Opens.struct {α : Type} {c : Cs R α} {t : TypeId} {fs : List Field} {g : α → Prop} (ht : P.underlying t = some (.struct fs.toArray)) (hc : P.cellsOf t = c.sz) (hf : OpensF c P fs 0 g) : Opens c P t g := by
  intro H enc w fuel cs x h hn
  obtain ⟨xs, n, rfl, rfl, hl, hx, hs⟩ := DataW.trod_struct ht h
  have hn2 : ∀ n ∈ DataW.weightsEach P (fs.map (·.type)) (xs.map (·.1)), n ≤ reachBytes := by
    intro n h2
    refine hn n ?_
    simp only [DataW.weights, ht]
    simpa using h2
  obtain ⟨a, ha, hga⟩ := hf (cs := cs) (xs := xs) (fun i f hi => hs i f (by simpa using hi)) (by simpa using hx) (by rw [hl, hc, Nat.zero_add]) hn2
  exact ⟨a, by simpa using ha, hga⟩
theorem weights_arr {H : Type} (P : Program) (e : TypeId) : ∀ xs : List (DataW H), DataW.weightsAll P e xs = DataW.weightsEach P (List.replicate xs.length e) xs
  | [] => by simp [DataW.weightsAll, DataW.weightsEach]
  | x :: xs => by
    have := weights_arr P e xs
    simp [DataW.weightsAll, DataW.weightsEach, List.replicate_succ, this]
/-- An array, element for element as fields of a struct. -/
theorem Opens.array {α : Type} {c : Cs R α} {t : TypeId} {n e : Nat} {g : α → Prop} (fs : List Field) (ht : P.underlying t = some (.array n e)) (hl : fs.length = n) (hft : fs.map (·.type) = List.replicate n e) (hfo : ∀ (i : Nat) (f : Field), fs[i]? = some f → f.type = e ∧ f.offset = i * P.cellsOf e) (hc : P.cellsOf t = c.sz) (hf : OpensF c P fs 0 g) : Opens c P t g := by
  intro H enc w fuel cs x h hn
  obtain ⟨xs, m, rfl, rfl, hcl, hx, hs⟩ := DataW.trod_array ht h
  have hn2 : ∀ n ∈ DataW.weightsEach P (fs.map (·.type)) (xs.map (·.1)), n ≤ reachBytes := by
    intro n h2
    refine hn n ?_
    simp only [DataW.weights, ht]
    rw [weights_arr, List.length_map, hx, ← hft]
    exact h2
  obtain ⟨a, ha, hga⟩ := hf (cs := cs) (xs := xs) (fun i f hi => by
    have hin : i < n := by
      have := (List.getElem?_eq_some_iff.1 hi).1
      omega
    obtain ⟨h1, h2⟩ := hfo i f hi
    rw [h1, h2]
    exact hs i hin) (by omega) (by rw [hcl, hc, Nat.zero_add]) hn2
  exact ⟨a, by simpa using ha, hga⟩
/-! ### A row's arguments -/
theorem open_cells {α : Type} {c : Cs R α} {t : TypeId} {g : α → Prop} (ho : Opens c P t g) {H : Type} {enc : TypeId × Value → H} {W : World} {v : Value} {x : DataW H} {p : List MemPlace} {ts : List TypeId} {ds : List (DataW H)} {j : Nat}
    (hsz : (DataW.weightsEach P ts ds).all (· ≤ reachBytes) = true) (ht : ts[j]? = some t) (hd : ds[j]? = some x) (h : DataW.Trod enc P W 0 (fun _ => true) true t v x p) : ∃ a, All2 (Is R Ow.none W) (c.ls a) v.cells.toList ∧ g a := by
  obtain ⟨fuel, hf⟩ := h
  exact ho hf (fun n hn => by
    have := List.all_eq_true.1 hsz n (DataW.weights_mem_each ht hd n hn)
    simpa using this)
theorem top_lf {W : World} {l : Lf R.D} {v : Value} (hv : v.cells = #[v]) (h : All2 (Is R Ow.none W) [l] v.cells.toList) : IsT R Ow.none W (.lf l) v := by
  rw [hv] at h
  cases h with
  | cons h0 _ => exact h0
theorem top_agg {W : World} {ls : List (Lf R.D)} {v : Value} {b : Array Value} (hv : v = .agg b) (h : All2 (Is R Ow.none W) ls v.cells.toList) : IsT R Ow.none W (.agg ls) v := by
  subst hv
  exact ⟨b.toList, by simp, h⟩
theorem okW_int {w : World} {r : Reach} {base : Nat} {t : TypeId} {v : Value} {k : IntKind} (ht : P.underlying t = some (.int k)) (h : Value.okWide P w r base t v) : v.cells = #[v] := by
  simp only [Value.okWide, ht, Cell.okWide] at h
  cases v <;> simp_all [Cell.ok, Value.cells]
theorem okW_bool {w : World} {r : Reach} {base : Nat} {t : TypeId} {v : Value} (ht : P.underlying t = some .bool) (h : Value.okWide P w r base t v) : v.cells = #[v] := by
  simp only [Value.okWide, ht, Cell.okWide] at h
  cases v <;> simp_all [Cell.ok, Value.cells]
theorem okW_string {w : World} {r : Reach} {base : Nat} {t : TypeId} {v : Value} (ht : P.underlying t = some .string) (h : Value.okWide P w r base t v) : v.cells = #[v] := by
  simp only [Value.okWide, ht, Cell.okWide] at h
  cases v <;> simp_all [Cell.ok, Value.cells]
theorem okW_slice {w : World} {r : Reach} {base : Nat} {t e : TypeId} {v : Value} (ht : P.underlying t = some (.slice e)) (h : Value.okWide P w r base t v) : v.cells = #[v] := by
  simp only [Value.okWide, ht, Cell.okWide] at h
  cases v <;> simp_all [Cell.ok, Value.cells]
theorem okW_array {w : World} {r : Reach} {base : Nat} {t : TypeId} {v : Value} {n e : Nat} (ht : P.underlying t = some (.array n e)) (h : Value.okWide P w r base t v) : ∃ cs, v = .agg cs := by
  simp only [Value.okWide, ht] at h
  obtain ⟨cs, h1, h2, _⟩ := h
  exact ⟨cs, h1⟩
theorem okW_struct {w : World} {r : Reach} {base : Nat} {t : TypeId} {v : Value} {fs : Array Field} (ht : P.underlying t = some (.struct fs)) (h : Value.okWide P w r base t v) : ∃ cs, v = .agg cs := by
  simp only [Value.okWide, ht] at h
  obtain ⟨cs, h1, h2, _⟩ := h
  exact ⟨cs, h1⟩
/-- A law's contract, at the arguments of its row. -/
theorem law_calls {Y1 : Type} {fid : FuncId} {fn : Func} {body : Code} (hfn : P.funcs[fid]? = some fn) (hb : fn.body = some body) (hnm : (fn.name == "runtime.NumGoroutine") = false) {F : FnS R Y1 Bool} {p : Y1 → Option Bool} (hok : CsemOk R P fid (F.sem p))
    (hsh : F.shOut = .lf) (hei : F.esIn = []) (heo : F.esOut = []) (hD : F.DO = .last dBool .nil) {y : Y1} {la : List (Lf R.D)} (h1 : flats F.shIn (unflats F.shIn (F.DI.enc y)) = some la) (h2 : F.DI.dec (la ++ []) = some y) (h : p y = some true) {us : List Value} {W : World}
    (hargs : All2 (IsT R Ow.none W) (unflats F.shIn (F.DI.enc y)) us) : Calls P fid us.toArray W (fun e W' => e = .returned (.bool true) ∧ Below W.heap.size W W') := by
  have hs : F.sem p (Tv R.D × List (Ent R.D)) (unflats F.shIn (F.DI.enc y)) [] (fun v m => some (v, m)) = some (.lf (.v (.bool true)), []) := by
    unfold FnS.sem
    rw [h1, hei]
    simp only [flatE]
    rw [h2]
    simp only [h, Option.bind_some]
    rw [hsh, heo, hD]
    rfl
  obtain ⟨v, m, hvm, hc⟩ := hok _ _ _ _ _ hs
  simp only [Option.some.injEq, Prod.mk.injEq] at hvm
  obtain ⟨rfl, rfl⟩ := hvm
  rcases hc Ow.none W us (Rel.none W) hargs with ⟨_, hcall⟩ | ⟨u, w', hrun, _⟩
  · refine hcall.mono fun e w' ⟨u, he, hp⟩ => ?_
    obtain ⟨ρ', hg, _, hu⟩ := hp
    rw [is_bool hu] at he
    exact ⟨he, (hg.fr.imp fun b hb => (held_nil hb).elim).below⟩
  · exfalso
    unfold callFunc at hrun
    simp only [Sem.run_bind, run_program, Result.andThen_ok, hfn, hnm, hb] at hrun
    simp at hrun
end
end Go.Proofs.Ytjfcfljdojkcdaa.Ev
