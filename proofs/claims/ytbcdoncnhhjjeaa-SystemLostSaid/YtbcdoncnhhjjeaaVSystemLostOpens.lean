-- Pruned by a program (prune.py) for one law.
/- What comes in, opened: any struct, any slice of anything, read out of a row's own data. -/
import Derived.Test.YtbcdoncnhhjjeaaVSystemLostWWords
import Derived.ChangeArms
import Derived.SizedLaws
import Derived.WideShapes
import Derived.DataElems
import Derived.OpenShut
namespace Go.Proofs.Ytbcdoncnhhjjeaa.Opens
open Go Go.RowKit Go.ChangeShapes Go.WideShapes Go.Proofs.YtbcdoncnhhjjeaaW.PrintWords
set_option linter.unusedVariables false
def Opens {α : Type} (d : Kd α) (P : Program) (t : TypeId) (good : α → Prop) : Prop :=
  ∀ {H : Type} {enc : TypeId × Value → H} {w : World} {fuel : Nat} {cs : List Value} {x : DataW H × List MemPlace},
    DataW.trod enc P w 0 (fun _ => true) true fuel t cs = some x → (∀ n ∈ x.1.weights P t, n ≤ reachBytes) → ∃ a, d.K w a cs ∧ good a
def OpensF {α : Type} (d : Kd α) (P : Program) (fs : List Field) (off : Nat) (good : α → Prop) : Prop :=
  ∀ {H : Type} {enc : TypeId × Value → H} {w : World} {fuel : Nat} {cs : List Value} {xs : List (DataW H × List MemPlace)},
    (∀ (i : Nat) (f : Field), fs[i]? = some f → DataW.trod enc P w 0 (fun _ => true) true fuel f.type ((cs.drop f.offset).take (P.cellsOf f.type)) = xs[i]?) → xs.length = fs.length → cs.length = off + d.sz →
    (∀ n ∈ DataW.weightsEach P (fs.map (·.type)) (xs.map (·.1)), n ≤ reachBytes) → ∃ a, d.K w a (cs.drop off) ∧ good a
theorem Opens.int {P : Program} {t : TypeId} {k : IntKind} (ht : P.underlying t = some (.int k)) : Opens (Kd.int k) P t (fun n => (Lit.int k n).wf = true) := by
  intro H enc w fuel cs x h _
  obtain ⟨n, rfl, _, hw⟩ := DataW.trod_int ht h
  exact ⟨n, rfl, hw⟩
theorem Opens.bool {P : Program} {t : TypeId} (ht : P.underlying t = some .bool) : Opens Kd.bool P t (fun _ => True) := by
  intro H enc w fuel cs x h _
  obtain ⟨b, rfl, _⟩ := DataW.trod_bool ht h
  exact ⟨b, rfl, trivial⟩
theorem Opens.string {P : Program} {t : TypeId} (ht : P.underlying t = some .string) : Opens Kd.string P t (fun s => s.size ≤ 140737488351232) := by
  intro H enc w fuel cs x h hn
  obtain ⟨s, rfl, rfl, _⟩ := DataW.trod_string ht h
  refine ⟨s, rfl, ?_⟩
  have := hn s.data.toList.length (by simp [DataW.weights])
  simpa [reachBytes] using this
theorem Opens.imp {α : Type} {d : Kd α} {P : Program} {t : TypeId} {g g' : α → Prop} (h : Opens d P t g) (hg : ∀ a, g a → g' a) : Opens d P t g' := by
  intro H enc w fuel cs x hx hn
  obtain ⟨a, ha, hga⟩ := h hx hn
  exact ⟨a, ha, hg a hga⟩
theorem Opens.iso {α β : Type} {d : Kd α} {f : β → α} {P : Program} {t : TypeId} {g : α → Prop} (hf : ∀ y, ∃ x, f x = y) (h : Opens d P t g) : Opens (Kd.iso d f) P t (fun x => g (f x)) := by
  intro H enc w fuel cs x hx hn
  obtain ⟨a, ha, hga⟩ := h hx hn
  obtain ⟨b, rfl⟩ := hf a
  exact ⟨b, ha, hga⟩
theorem weights_all {H : Type} {P : Program} {e : TypeId} : ∀ {ds : List (DataW H)} {d : DataW H}, d ∈ ds → ∀ n ∈ d.weights P e, n ∈ DataW.weightsAll P e ds
  | d0 :: ds, d, hd, n, hn => by
    simp only [DataW.weightsAll, List.mem_append]
    rcases List.mem_cons.1 hd with rfl | hd
    · exact .inl hn
    · exact .inr (weights_all hd n hn)
theorem Opens.slice {α : Type} {d : Kd α} {P : Program} {t e : TypeId} {g : α → Prop} {B : Nat} (q : Nat) (ht : P.underlying t = some (.slice e)) (hc : P.cellsOf e = d.sz) (hB : P.bytesOf e = B) (h : Opens d P e g) :
    Opens (Kd.slice q d) P t (fun l => l.length ≤ maxLen ∧ l.length * B ≤ 140737488351232 ∧ ∀ x ∈ l, g x) := by
  intro H enc w fuel cs x hx hn
  rcases DataW.trod_slice ht hx with ⟨rfl, _⟩ | ⟨a, len, cap, elems, rest, n, _, rfl, rfl, hb, hl, hm, hlen, hel, hsp, hns⟩
  · exact ⟨[], ⟨none, 0, rfl, Nat.le_refl _, rfl, by simp, fun h => absurd h (by simp)⟩, by simp, by simp, by simp⟩
  have hw : ∀ y ∈ elems, ∀ n ∈ y.1.weights P e, n ≤ reachBytes := by
    intro y hy m hm2
    refine hn m ?_
    simp only [DataW.weights, ht, List.mem_cons, List.mem_append]
    exact .inr (.inl (weights_all (List.mem_map_of_mem hy) m hm2))
  have hsize : (elems.length + rest.length) * P.bytesOf e ≤ reachBytes := hn _ (by simp [DataW.weights, ht])
  have each : ∀ i, i < len → ∃ b cs', w.cells? 0 (a.add (i * d.sz)) d.sz = some cs' ∧ d.K w b cs' ∧ g b := by
    intro i hi
    have h1 := hel i hi
    rw [List.getElem?_eq_getElem (by omega), Option.bind_eq_some_iff] at h1
    obtain ⟨cs', h2, h3⟩ := h1
    obtain ⟨b, hb1, hb2⟩ := h h3 (hw _ (List.getElem_mem _))
    rw [hc] at h2
    exact ⟨b, cs', h2, hb1, hb2⟩
  clear hel hsp hns hx
  have main : ∀ m, m ≤ len → ∃ l : List α, l.length = m ∧ (∀ j p, l[j]? = some p → ∃ cs', w.cells? 0 (a.add (j * d.sz)) d.sz = some cs' ∧ d.K w p cs') ∧ ∀ x ∈ l, g x := by
    intro m
    induction m with
    | zero => intro _; exact ⟨[], rfl, by simp, by simp⟩
    | succ m ih =>
      intro hm2
      obtain ⟨l, h1, h2, h3⟩ := ih (by omega)
      obtain ⟨b, cs', h4, h5, h6⟩ := each m (by omega)
      refine ⟨l ++ [b], by simp [h1], ?_, ?_⟩
      · intro j p hj
        by_cases hj2 : j < m
        · rw [List.getElem?_append_left (by omega)] at hj
          exact h2 j p hj
        · have hj3 : j = m := by
            have := (List.getElem?_eq_some_iff.1 hj).1
            simp only [List.length_append, List.length_singleton] at this
            omega
          subst hj3
          rw [← h1, List.getElem?_concat_length] at hj
          injection hj with hj
          subst hj
          exact ⟨cs', h4, h5⟩
      · intro x hx
        rcases List.mem_append.1 hx with hx | hx
        · exact h3 x hx
        · rw [List.mem_singleton.1 hx]
          exact h6
  obtain ⟨l, h1, h2, h3⟩ := main len (Nat.le_refl _)
  subst h1
  refine ⟨l, ⟨some a, cap, rfl, hl, rfl, ?_, fun _ => ⟨a, rfl, fun j p hj => ?_⟩⟩, Nat.le_trans hl hm, ?_, h3⟩
  · have := Nat.le_trans hl hm
    simpa [maxLen] using this
  · obtain ⟨cs', h4, h5⟩ := h2 j p hj
    obtain ⟨_, h6, h7⟩ := World.cells?_some h4
    refine ⟨cs', h6, h5, fun i u hi => ?_⟩
    have hlt : i < d.sz := by
      have := (List.getElem?_eq_some_iff.1 hi).1
      omega
    have h8 := h7 i hlt
    rw [hi] at h8
    rw [← h8, Addr.add_add]
  · rw [hB] at hsize
    exact Nat.le_trans (Nat.mul_le_mul_right _ (by omega)) hsize
theorem OpensF.one {α : Type} {d : Kd α} {P : Program} {f : Field} {off : Nat} {g : α → Prop} (hk : Opens d P f.type g) (ho : f.offset = off) (hc : P.cellsOf f.type = d.sz) : OpensF d P [f] off g := by
  intro H enc w fuel cs xs h hl hcs hn
  have h0 := h 0 f rfl
  obtain ⟨y, rfl⟩ : ∃ y, xs = [y] := by
    match xs, hl with
    | [y], _ => exact ⟨y, rfl⟩
  rw [ho, hc, List.take_of_length_le (by simp [hcs])] at h0
  exact hk h0 (fun n hn2 => hn n (by simp [DataW.weightsEach, hn2]))
theorem OpensF.cons {α β : Type} {d : Kd α} {d' : Kd β} {P : Program} {f : Field} {fs : List Field} {off off2 : Nat} {g : α → Prop} {g' : β → Prop} (hk : Opens d P f.type g) (ho : f.offset = off) (hc : P.cellsOf f.type = d.sz) (ho2 : off2 = off + d.sz)
    (hr : OpensF d' P fs off2 g') : OpensF (Kd.pair d d') P (f :: fs) off (fun a => g a.1 ∧ g' a.2) := by
  intro H enc w fuel cs xs h hl hcs hn
  subst ho2
  have h0 := h 0 f rfl
  obtain ⟨y, ys, rfl⟩ : ∃ y ys, xs = y :: ys := by
    match xs, hl with
    | y :: ys, _ => exact ⟨y, ys, rfl⟩
  have hcs2 : cs.length = off + (d.sz + d'.sz) := hcs
  rw [ho, hc] at h0
  obtain ⟨a, ha, hga⟩ := hk h0 (fun n hn2 => hn n (by simp [DataW.weightsEach, hn2]))
  obtain ⟨b, hb, hgb⟩ := hr (xs := ys) (fun i f2 hf => h (i + 1) f2 hf) (by simpa using hl) (by omega) (fun n hn2 => hn n (by
    simp only [List.map_cons, DataW.weightsEach, List.mem_append]
    exact .inr hn2))
  refine ⟨(a, b), ⟨(cs.drop off).take d.sz, cs.drop (off + d.sz), ?_, ha, hb⟩, hga, hgb⟩
  rw [← List.drop_drop, List.take_append_drop]
theorem Opens.struct {α : Type} {d : Kd α} {P : Program} {t : TypeId} {fs : List Field} {g : α → Prop} (ht : P.underlying t = some (.struct fs.toArray)) (hc : P.cellsOf t = d.sz) (hf : OpensF d P fs 0 g) : Opens d P t g := by
  intro H enc w fuel cs x h hn
  obtain ⟨xs, n, rfl, rfl, hl, hx, hs⟩ := DataW.trod_struct ht h
  have hn2 : ∀ n ∈ DataW.weightsEach P (fs.map (·.type)) (xs.map (·.1)), n ≤ reachBytes := by
    intro n h2
    refine hn n ?_
    simp only [DataW.weights, ht]
    simpa using h2
  obtain ⟨a, ha, hga⟩ := hf (cs := cs) (xs := xs) (fun i f hi => hs i f (by simpa using hi)) (by simpa using hx) (by rw [hl, hc, Nat.zero_add]) hn2
  exact ⟨a, by simpa using ha, hga⟩
theorem weights_arr {H : Type} (P : Program) (e : TypeId) : ∀ xs : List (DataW H), DataW.weightsAll P e xs = DataW.weightsEach P (List.replicate xs.length e) xs
  | [] => by simp [DataW.weightsAll, DataW.weightsEach]
  | x :: xs => by
    have := weights_arr P e xs
    simp [DataW.weightsAll, DataW.weightsEach, List.replicate_succ, this]
theorem Opens.array {α : Type} {d : Kd α} {P : Program} {t : TypeId} {n e : Nat} {g : α → Prop} (fs : List Field) (ht : P.underlying t = some (.array n e)) (hl : fs.length = n) (hft : fs.map (·.type) = List.replicate n e) (hfo : ∀ (i : Nat) (f : Field), fs[i]? = some f → f.type = e ∧ f.offset = i * P.cellsOf e) (hc : P.cellsOf t = d.sz) (hf : OpensF d P fs 0 g) : Opens d P t g := by
  intro H enc w fuel cs x h hn
  obtain ⟨xs, m, rfl, rfl, hcl, hx, hs⟩ := DataW.trod_array ht h
  have hn2 : ∀ n ∈ DataW.weightsEach P (fs.map (·.type)) (xs.map (·.1)), n ≤ reachBytes := by
    intro n h2
    refine hn n ?_
    simp only [DataW.weights, ht]
    rw [weights_arr, List.length_map, hx, ← hft]
    exact h2
  obtain ⟨a, ha, hga⟩ := hf (cs := cs) (xs := xs) (fun i f hi => by
    have hin : i < n := by
      have := (List.getElem?_eq_some_iff.1 hi).1
      omega
    obtain ⟨h1, h2⟩ := hfo i f hi
    rw [h1, h2]
    exact hs i hin) (by omega) (by rw [hcl, hc, Nat.zero_add]) hn2
  exact ⟨a, by simpa using ha, hga⟩
theorem open_top {α : Type} {d : Kd α} {P : Program} {t : TypeId} {g : α → Prop} (ho : Opens d P t g) {H : Type} {enc : TypeId × Value → H} {W : World} {v : Value} {x : DataW H} {p : List MemPlace} {ts : List TypeId} {ds : List (DataW H)} {j : Nat}
    (hsz : (DataW.weightsEach P ts ds).all (· ≤ reachBytes) = true) (ht : ts[j]? = some t) (hd : ds[j]? = some x) (h : DataW.Trod enc P W 0 (fun _ => true) true t v x p) : ∃ a, d.K W a v.cells.toList ∧ g a := by
  obtain ⟨fuel, hf⟩ := h
  exact ho hf (fun n hn => by
    have := List.all_eq_true.1 hsz n (DataW.weights_mem_each ht hd n hn)
    simpa using this)
end Go.Proofs.Ytbcdoncnhhjjeaa.Opens

