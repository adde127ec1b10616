/- The evaluator's operations on memory, each sound. -/
import Derived.Test.YtjfcfljdojkcdaaEvE
namespace Go.Proofs.Ytjfcfljdojkcdaa.Ev
open Go Go.RowKit
set_option linter.unusedVariables false
set_option linter.unusedSimpArgs false
section
variable {R : Ro} {P : Program} {X : Type}
def tvCells {D : Nat → Type} : Tv D → Option (List (Lf D))
  | .lf l => some [l]
  | .agg cs => some cs
  | _ => none
theorem cells_one {u : Value} (h : u.oneCell' = true) : u.cells = #[u] := by
  cases u <;> first | rfl | (simp [Value.oneCell'] at h)
theorem tvCells_ok {ρ : Ow} {w : World} {v : Tv R.D} {cs : List (Lf R.D)} {u : Value} (h : tvCells v = some cs) (hu : IsT R ρ w v u) : ∃ us : List Value, u.cells = us.toArray ∧ All2 (Is R ρ w) cs us := by
  unfold tvCells at h
  split at h
  · cases h
    exact ⟨[u], by rw [cells_one (Is.one hu)], .cons hu .nil⟩
  · cases h
    obtain ⟨us, rfl, ha⟩ := hu
    exact ⟨us, rfl, ha⟩
  · exact none_some h
theorem all2_one {ρ : Ow} {w : World} {cs : List (Lf R.D)} {us : List Value} (h : All2 (Is R ρ w) cs us) : ∀ v ∈ us, v.oneCell' = true := by
  induction h with
  | nil => intro v hv; simp at hv
  | cons h0 _ ih =>
    intro v hv
    rcases List.mem_cons.1 hv with rfl | hv
    · exact h0.one
    · exact ih v hv

/-! ### New blocks -/
theorem live_lt {m : List (Ent R.D)} {i : Nat} {e : Ent R.D} (h : m[i]? = some e) : i < m.length := (List.getElem?_eq_some_iff.1 h).1
/-- One more handle, over a block that is new. -/
theorem Rel.more {ρ : Ow} {m : List (Ent R.D)} {w w' : World} (h : Rel R ρ m w) {x : Obj} (hw : w' = { w with heap := w.heap.push x }) (q : Bk) (e : Ent R.D) (hq : q.b? = some w.heap.size)
    (hok : ∀ ρ' : Ow, Le ρ w ρ' → Fr (Held ρ m) w w' → EntOk R ρ' w' q e) : Go R ρ m w ⟨fun b => ρ.F b ∨ b = w.heap.size, ρ.r ++ [q]⟩ (m ++ [e]) w' ∧ Rel R ⟨fun b => ρ.F b ∨ b = w.heap.size, ρ.r ++ [q]⟩ (m ++ [e]) w' := by
  have hsz : w'.heap.size = w.heap.size + 1 := by rw [hw]; simp
  have hf : Fr (Held ρ m) w w' := ⟨by rw [hw], by rw [hw], by rw [hw], by omega, fun b hb _ => by
    rw [hw]
    show (w.heap.push _)[b]? = _
    rw [Array.getElem?_push, if_neg (by omega)]⟩
  have hle : Le ρ w ⟨fun b => ρ.F b ∨ b = w.heap.size, ρ.r ++ [q]⟩ := ⟨fun i p hp => by
    show (ρ.r ++ [q])[i]? = _
    rw [List.getElem?_append_left (List.getElem?_eq_some_iff.1 hp).1]; exact hp, fun b hb => hb.imp id fun h => by omega⟩
  have split : ∀ {i : Nat} {p : Bk} {e' : Ent R.D}, (ρ.r ++ [q])[i]? = some p → (m ++ [e])[i]? = some e' → (ρ.r[i]? = some p ∧ m[i]? = some e') ∨ (i = m.length ∧ p = q ∧ e' = e) := by
    intro i p e' hi he
    rcases Nat.lt_or_ge i m.length with hlt | hge
    · rw [List.getElem?_append_left (by rw [h.len]; exact hlt)] at hi
      rw [List.getElem?_append_left hlt] at he
      exact .inl ⟨hi, he⟩
    · have h1 := (List.getElem?_eq_some_iff.1 he).1
      simp only [List.length_append, List.length_singleton] at h1
      have hi' : i = m.length := by omega
      subst hi'
      rw [List.getElem?_append_right (by rw [h.len]; exact Nat.le_refl _), h.len] at hi
      rw [List.getElem?_append_right (Nat.le_refl _)] at he
      simp at hi he
      exact .inr ⟨rfl, hi.symm, he.symm⟩
  have hheld : ∀ b, Held (⟨fun b => ρ.F b ∨ b = w.heap.size, ρ.r ++ [q]⟩ : Ow) (m ++ [e]) b → Held ρ m b ∨ b = w.heap.size := by
    intro b ⟨i, p, e', hi, he, hl, hp⟩
    rcases split hi he with ⟨h1, h2⟩ | ⟨_, rfl, rfl⟩
    · exact .inl ⟨i, p, e', h1, h2, hl, hp⟩
    · rw [hq] at hp; exact .inr (Option.some.inj hp).symm
  refine ⟨⟨⟨hle, fun b hb _ => .inl hb, fun b hb => (hheld b hb).imp id fun h => by omega, fun i hi => ?_⟩, hf⟩, ⟨?_, ?_, ?_, ?_, ?_⟩⟩
  · rw [List.getElem?_append_left (live_lt hi)]; exact hi
  · simp [h.len]
  · intro i j p p' e1 e2 b hi hj hie hje hl hl' hp hp'
    rcases split hi hie with ⟨h1, h2⟩ | ⟨rfl, rfl, rfl⟩
    · rcases split hj hje with ⟨h3, h4⟩ | ⟨rfl, rfl, rfl⟩
      · exact h.nd i j p p' e1 e2 b h1 h3 h2 h4 hl hl' hp hp'
      · exfalso
        rw [hq] at hp'
        have := h.lt b (h.fits b ⟨i, p, e1, h1, h2, hl, hp⟩)
        have := Option.some.inj hp'
        omega
    · rcases split hj hje with ⟨h3, h4⟩ | ⟨rfl, rfl, rfl⟩
      · exfalso
        rw [hq] at hp
        have := h.lt b (h.fits b ⟨j, p', e2, h3, h4, hl', hp'⟩)
        have := Option.some.inj hp
        omega
      · rfl
  · intro b hb
    rcases hb with hb | hb
    · have := h.lt b hb; omega
    · omega
  · intro b hb
    exact (hheld b hb).imp (h.fits b) id
  · intro i p e' hi he
    rcases split hi he with ⟨h1, h2⟩ | ⟨rfl, rfl, rfl⟩
    · refine (h.ok i p e' h1 h2).keep hf (h.fits) hle fun b hb hl => ?_
      have := h.lt b (h.fits b ⟨i, p, e', h1, h2, hl, hb⟩)
      rw [hw]
      show (w.heap.push _)[b]? = _
      rw [Array.getElem?_push, if_neg (by omega)]
    · exact hok _ hle hf
theorem Rel.push {ρ : Ow} {m : List (Ent R.D)} {w : World} (h : Rel R ρ m w) {cs : List (Lf R.D)} {us : List Value} (ha : All2 (Is R ρ w) cs us) (t : TypeId) :
    ∃ (w' : World) (ρ' : Ow), w' = { w with heap := w.heap.push (.cells us.toArray t) } ∧ Go R ρ m w ρ' (m ++ [.blk cs t]) w' ∧ Rel R ρ' (m ++ [.blk cs t]) w' ∧ ρ'.r[m.length]? = some (.blk w.heap.size) := by
  obtain ⟨h1, h2⟩ := h.more (w' := { w with heap := w.heap.push (.cells us.toArray t) }) rfl (.blk w.heap.size) (.blk cs t) rfl fun ρ' hle hf => ⟨us, by
    show (w.heap.push _)[w.heap.size]? = _
    rw [Array.getElem?_push, if_pos rfl], ha.imp fun _ _ h' => h'.keep hf h.fits hle⟩
  exact ⟨_, _, rfl, h1, h2, by show (ρ.r ++ [_])[m.length]? = _; rw [← h.len]; simp⟩
/-- A handle's new content; its block, and nothing else, has changed. -/
theorem Rel.turn {ρ : Ow} {m : List (Ent R.D)} {w w' : World} (h : Rel R ρ m w) {i b : Nat} {q : Bk} {e0 e : Ent R.D} (hi : ρ.r[i]? = some q) (hm : m[i]? = some e0) (hl : e0.live) (hq : q.b? = some b)
    (os : w'.os = w.os) (tape : w'.tape = w.tape) (output : w'.output = w.output) (size : w'.heap.size = w.heap.size) (far : ∀ k, k ≠ b → w'.heap[k]? = w.heap[k]?) (hok : Fr (Held ρ m) w w' → EntOk R ρ w' q e) : Go R ρ m w ρ (m.set i e) w' ∧ Rel R ρ (m.set i e) w' := by
  have hb : Held ρ m b := ⟨i, q, e0, hi, hm, hl, hq⟩
  have hf : Fr (Held ρ m) w w' := ⟨os, tape, output, by omega, fun k hk hn => far k (fun e => hn (e ▸ hb))⟩
  have hlt := live_lt hm
  have split : ∀ {j : Nat} {e' : Ent R.D}, (m.set i e)[j]? = some e' → (j ≠ i ∧ m[j]? = some e') ∨ (j = i ∧ e' = e) := by
    intro j e' he
    by_cases hji : j = i
    · subst hji
      rw [List.getElem?_set_self hlt, Option.some.injEq] at he
      exact .inr ⟨rfl, he.symm⟩
    · rw [List.getElem?_set_ne (Ne.symm hji)] at he
      exact .inl ⟨hji, he⟩
  have hheld : ∀ b', Held ρ (m.set i e) b' → Held ρ m b' := by
    intro b' ⟨j, p, e', hj, he, hl', hp⟩
    rcases split he with ⟨_, h1⟩ | ⟨rfl, rfl⟩
    · exact ⟨j, p, e', hj, h1, hl', hp⟩
    · rw [hi, Option.some.injEq] at hj
      subst hj
      exact ⟨j, q, e0, hi, hm, hl, hp⟩
  refine ⟨⟨⟨Le.refl ρ w, fun _ hb _ => hb, fun b' hb' => .inl (hheld b' hb'), fun j hj => ?_⟩, hf⟩, ⟨by simp [h.len], ?_, fun b' hb' => by rw [size]; exact h.lt b' hb', fun b' hb' => h.fits b' (hheld b' hb'), ?_⟩⟩
  · have hne : j ≠ i := fun e1 => by subst e1; rw [hm, Option.some.injEq] at hj; subst hj; exact hl
    rw [List.getElem?_set_ne (Ne.symm hne)]; exact hj
  · intro j k p p' e1 e2 b' hj hk hje hke hl1 hl2 hp hp'
    have back : ∀ {j : Nat} {p : Bk} {e' : Ent R.D}, ρ.r[j]? = some p → (m.set i e)[j]? = some e' → e'.live → ∃ e'', m[j]? = some e'' ∧ e''.live := by
      intro j p e' hj he hl'
      rcases split he with ⟨_, h1⟩ | ⟨rfl, rfl⟩
      · exact ⟨e', h1, hl'⟩
      · exact ⟨e0, hm, hl⟩
    obtain ⟨f1, g1, g2⟩ := back hj hje hl1
    obtain ⟨f2, g3, g4⟩ := back hk hke hl2
    exact h.nd j k p p' f1 f2 b' hj hk g1 g3 g2 g4 hp hp'
  · intro j p e' hj he
    rcases split he with ⟨hne, h1⟩ | ⟨rfl, rfl⟩
    · refine (h.ok j p e' hj h1).keep hf h.fits (Le.refl ρ w) fun b' hb' hl' => far b' fun e1 => ?_
      subst e1
      exact hne (h.nd j i p q e' e0 b' hj hi h1 hm hl' hl hb' hq)
    · rw [hi, Option.some.injEq] at hj
      subst hj
      exact hok hf
/-- A block's new content. -/
theorem Rel.put {ρ : Ow} {m : List (Ent R.D)} {w w' : World} (h : Rel R ρ m w) {i b : Nat} (hi : ρ.r[i]? = some (.blk b)) {cs0 : List (Lf R.D)} {t0 t : TypeId} (hm : m[i]? = some (.blk cs0 t0)) {cs : List (Lf R.D)} {us : List Value} (hp : Put w w' b us t) (ha : All2 (Is R ρ w) cs us) :
    Go R ρ m w ρ (m.set i (.blk cs t)) w' ∧ Rel R ρ (m.set i (.blk cs t)) w' :=
  h.turn hi hm trivial rfl hp.os hp.tape hp.output hp.size hp.far fun hf => ⟨us, hp.at_, ha.imp fun _ _ h' => h'.keep hf h.fits (Le.refl ρ w)⟩

def evBox {D : Nat → Type} (t : TypeId) (v : Tv D) (m : List (Ent D)) (K : Tv D → List (Ent D) → Option X) : Option X :=
  match tvCells v with
  | some cs => K (.lf (.ptr m.length 0)) (m ++ [.blk cs t])
  | none => none
def evAlloc {D : Nat → Type} (tab : Nat → Option TI) (t : TypeId) (m : List (Ent D)) (K : Tv D → List (Ent D) → Option X) : Option X :=
  match tab t with
  | some i => match i.zero with
    | [] => none
    | z => match z.all okV with
      | true => K (.lf (.ptr m.length 0)) (m ++ [.blk (z.map .v) t])
      | false => none
  | none => none
theorem evBox_ok {n : Nat} {σ : List (Nat × Tv R.D)} {o : Oper} {t : TypeId} {e : Operand} (ho : o.op = .box t e) {v : Tv R.D} (hv : opd σ e = some v) {m : List (Ent R.D)} {K : Tv R.D → List (Ent R.D) → Option X} {x : X} (h : evBox t v m K = some x) :
    ∃ r es, K r (m ++ es) = some x ∧ OpOk R P n o σ m r (m ++ es) := by
  unfold evBox at h
  split at h
  · rename_i cs hcs
    refine ⟨_, _, h, fun ρ w a hr hs => ?_⟩
    obtain ⟨us, hu, ha⟩ := tvCells_ok hcs (opd_ok hs hv)
    obtain ⟨w', ρ', hw, hgo, hr', hq⟩ := hr.push ha t
    refine Yld.val (w' := w') (u := .pointer (some ⟨w.heap.size, 0, none⟩)) ?_ ⟨ρ', hgo, hr', Is.ptr m.length 0 _ hq⟩
    unfold execOp
    simp only [ho, Sem.run_bind, Instr.box, newVar, newRow, hu, run_newObj, Result.andThen_ok, Sem.run_pure]
    rw [hw]
  · exact none_some h
theorem evAlloc_ok {n : Nat} {σ : List (Nat × Tv R.D)} {tab : Nat → Option TI} (ht : TabOk P tab) {o : Oper} {t : TypeId} (ho : o.op = .alloc t) {m : List (Ent R.D)} {K : Tv R.D → List (Ent R.D) → Option X} {x : X} (h : evAlloc tab t m K = some x) :
    ∃ r es, K r (m ++ es) = some x ∧ OpOk R P n o σ m r (m ++ es) := by
  unfold evAlloc at h
  split at h
  · rename_i i hi
    split at h
    · exact none_some h
    · rename_i hz
      split at h
      · rename_i hall
        refine ⟨_, _, h, fun ρ w a hr hs => ?_⟩
        obtain ⟨z, hzr, hzc⟩ := tiOf_zero (ht _ _ hi) (fun e => hz e) w
        obtain ⟨w', ρ', hw, hgo, hr', hq⟩ := hr.push (all2_vs (R := R) (ρ := ρ) (w := w) _ hall) t
        refine Yld.val (w' := w') (u := .pointer (some ⟨w.heap.size, 0, none⟩)) ?_ ⟨ρ', hgo, hr', Is.ptr m.length 0 _ hq⟩
        unfold execOp
        simp only [ho, Sem.run_bind, Instr.alloc, hzr, newVar, newRow, run_newObj, Result.andThen_ok, Sem.run_pure]
        rw [hw, ← hzc]
      · exact none_some h
  · exact none_some h

/-! ### Loads and stores -/
def ldc {D : Nat → Type} (i : TI) (cs : List (Lf D)) (off : Nat) (K : Tv D → Option X) : Option X :=
  match i.agg with
  | true => match Nat.ble (off + i.sz) cs.length with
    | true => K (.agg ((cs.drop off).take i.sz))
    | false => none
  | false => match cs[off]? with
    | some l => K (.lf l)
    | none => none
theorem ldc_ok {t : TypeId} {i : TI} (hi : tiOf P t = some i) {cs : List (Lf R.D)} {off : Nat} {K : Tv R.D → Option X} {x : X} (h : ldc i cs off K = some x) :
    ∃ r, K r = some x ∧ ∀ (ρ : Ow) (w : World) (us : List Value) (b o : Nat), All2 (Is R ρ w) cs us → (∀ j u, us[j]? = some u → w.cell? ⟨b, o + j, none⟩ = some u) →
      ∃ u, (loadVar t ⟨b, o + off, none⟩).run P w = .ok u w ∧ IsT R ρ w r u := by
  unfold ldc at h
  split at h
  · rename_i hagg
    split at h
    · rename_i hle
      have hle := Nat.le_of_ble_eq_true hle
      refine ⟨_, h, fun ρ w us b o ha hc => ?_⟩
      have hl := ha.length
      refine ⟨_, run_loadVar_agg (us := (us.drop off).take i.sz) (n := i.sz) ?_ (tiOf_run hi w).1 (by simp; omega) (fun j u hj => ?_), ⟨_, rfl, (ha.drop off).take i.sz⟩⟩
      · have := (tiOf_run hi w).2; rwa [hagg] at this
      · rw [Nat.add_assoc]
        refine hc _ _ ?_
        rw [List.getElem?_take] at hj
        split at hj
        · rwa [List.getElem?_drop] at hj
        · cases hj
    · exact none_some h
  · rename_i hagg
    split at h
    · rename_i l hl
      refine ⟨_, h, fun ρ w us b o ha hc => ?_⟩
      obtain ⟨u, hu, hiu⟩ := ha.get _ _ hl
      refine ⟨u, run_loadVar_one ?_ (hc _ _ hu), hiu⟩
      have := (tiOf_run hi w).2; rwa [hagg] at this
    · exact none_some h
def evLoad (R : Ro) (tab : Nat → Option TI) (t : TypeId) (v : Tv R.D) (m : List (Ent R.D)) (K : Tv R.D → Option X) : Option X :=
  match tab t with
  | some i => match v with
    | .lf (.ptr h off) => match m[h]? with
      | some (.blk cs _) => ldc i cs off K
      | _ => none
    | .lf (.ept c l k j) => ldc i (R.enc c (l.getD k.toNat (R.z c))) j K
    | _ => none
  | none => none
theorem evLoad_run {tab : Nat → Option TI} (ht : TabOk P tab) {t : TypeId} {v : Tv R.D} {m : List (Ent R.D)} {K : Tv R.D → Option X} {x : X} (h : evLoad R tab t v m K = some x) :
    ∃ r, K r = some x ∧ ∀ ρ w (pv : Value), Rel R ρ m w → IsT R ρ w v pv → ∃ ad u, pv = .pointer (some ad) ∧ (loadVar t ad).run P w = .ok u w ∧ IsT R ρ w r u := by
  unfold evLoad at h
  split at h
  · rename_i i hi
    split at h
    · rename_i hh off
      split at h
      · rename_i cs tt hm
        obtain ⟨r, hr, hld⟩ := ldc_ok (ht _ _ hi) h
        refine ⟨r, hr, fun ρ w pv hrel hp => ?_⟩
        obtain ⟨b, hb, _, us, hus, ha⟩ := hrel.blk hm
        obtain ⟨u, hu, hit⟩ := hld ρ w us b 0 ha (fun j u hj => by rw [Nat.zero_add, cell_blk hus]; exact hj)
        cases hp with
        | ptr _ _ b' hb' =>
          have : b' = b := by rw [hb, Option.some.injEq, Bk.blk.injEq] at hb'; exact hb'.symm
          subst this
          rw [Nat.zero_add] at hu
          exact ⟨_, u, rfl, hu, hit⟩
      · exact none_some h
    · rename_i c l k j
      obtain ⟨r, hr, hld⟩ := ldc_ok (ht _ _ hi) h
      refine ⟨r, hr, fun ρ w pv hrel hp => ?_⟩
      cases hp with
      | ept _ _ b oo _ _ f hb hn h0 h1 hc hvv =>
        have hx : l[k.toNat]? = some (l.getD k.toNat (R.z c)) := by simp [List.getD, List.getElem?_eq_getElem h1]
        have hlen := R.len c (l.getD k.toNat (R.z c))
        have key : ∀ (es : List (Lf R.D)) (d : Nat), (∀ j lf, es[j]? = some lf → Is R ρ w lf (f k.toNat (d + j))) → All2 (Is R ρ w) es ((List.range es.length).map fun j => f k.toNat (d + j)) := by
          intro es
          induction es with
          | nil => intro d _; exact .nil
          | cons e es ih =>
            intro d hd
            rw [List.length_cons, List.range_succ_eq_map, List.map_cons, List.map_map]
            refine .cons (hd 0 e rfl) ?_
            have := ih (d + 1) (fun j lf hj => by have := hd (j + 1) lf (by simpa using hj); rwa [show d + (j + 1) = d + 1 + j by omega] at this)
            refine cast ?_ this
            congr 2
            funext j
            simp [Nat.add_assoc, Nat.add_comm 1 j]
        have ha := key _ 0 (fun j lf hj => by rw [Nat.zero_add]; exact hvv _ _ _ _ hx hj)
        obtain ⟨u, hu, hit⟩ := hld ρ w _ b (oo + k.toNat * R.sz c) ha (fun j u hj => by
          have hj' := (List.getElem?_eq_some_iff.1 hj).1
          simp only [List.length_map, List.length_range, hlen] at hj'
          rw [hc _ _ h1 hj']
          simp only [List.getElem?_map, Option.map_eq_some_iff] at hj
          obtain ⟨q, hq, rfl⟩ := hj
          have : q = j := by
            rw [List.getElem?_range (by rw [hlen]; exact hj')] at hq
            exact (Option.some.inj hq).symm
          subst this
          rw [Nat.zero_add])
        exact ⟨_, u, rfl, hu, hit⟩
    · exact none_some h
  · exact none_some h
theorem evLoad_ok {n : Nat} {σ : List (Nat × Tv R.D)} {tab : Nat → Option TI} (ht : TabOk P tab) {o : Oper} {t : TypeId} {e : Operand} (ho : o.op = .load t e) {v : Tv R.D} (hv : opd σ e = some v) {m : List (Ent R.D)} {K : Tv R.D → Option X} {x : X} (h : evLoad R tab t v m K = some x) :
    ∃ r, K r = some x ∧ OpOk R P n o σ m r m := by
  obtain ⟨r, hr, hrun⟩ := evLoad_run ht h
  refine ⟨r, hr, OpOk.val fun ρ w a hrel hs => ?_⟩
  obtain ⟨ad, u, he, hl, hi⟩ := hrun ρ w _ hrel (opd_ok hs hv)
  refine ⟨u, ?_, hi⟩
  unfold execOp
  simp only [ho, he, Sem.run_bind, Instr.loadAt, Instr.sureAddr, Sem.run_pure, Result.andThen_ok, hl]
/-- Cells written over. -/
def splice {D : Nat → Type} : List (Lf D) → Nat → List (Lf D) → List (Lf D)
  | cs, _, [] => cs
  | [], _, _ => []
  | _ :: cs, 0, v :: vs => v :: splice cs 0 vs
  | c :: cs, n + 1, vs => c :: splice cs n vs
theorem splice_eq {D : Nat → Type} : ∀ (cs : List (Lf D)) (n : Nat) (vs : List (Lf D)), n + vs.length ≤ cs.length → splice cs n vs = cs.take n ++ vs ++ cs.drop (n + vs.length)
  | cs, n, [], _ => by cases cs <;> simp [splice]
  | [], n, v :: vs, h => by simp at h
  | c :: cs, 0, v :: vs, h => by
    have := splice_eq cs 0 vs (by simp at h; omega)
    simp [splice, this]
  | c :: cs, n + 1, v :: vs, h => by
    have := splice_eq cs n (v :: vs) (by simp at h ⊢; omega)
    simp only [splice, this]
    simp only [List.take_succ_cons, List.cons_append, List.length_cons, List.append_assoc]
    rw [show n + 1 + (vs.length + 1) = (n + (vs.length + 1)) + 1 by omega, List.drop_succ_cons]
def evStore {D : Nat → Type} (tab : Nat → Option TI) (t : TypeId) (p v : Tv D) (m : List (Ent D)) (K : Tv D → List (Ent D) → Option X) : Option X :=
  match tab t with
  | some i => match p with
    | .lf (.ptr h off) => match m[h]? with
      | some (.blk cs tt) => match tvCells v with
        | some vs => match Nat.beq vs.length i.sz with
          | true => match Nat.ble (off + vs.length) cs.length with
            | true => K .un (m.set h (.blk (splice cs off vs) tt))
            | false => none
          | false => none
        | none => none
      | _ => none
    | _ => none
  | none => none
theorem evStore_ok {n : Nat} {σ : List (Nat × Tv R.D)} {tab : Nat → Option TI} (ht : TabOk P tab) {o : Oper} {t : TypeId} {e f : Operand} (ho : o.op = .store t e f) {p v : Tv R.D} (hp : opd σ e = some p) (hv : opd σ f = some v)
    {m : List (Ent R.D)} {K : Tv R.D → List (Ent R.D) → Option X} {x : X} (h : evStore tab t p v m K = some x) : ∃ r m', K r m' = some x ∧ OpOk R P n o σ m r m' := by
  unfold evStore at h
  split at h
  · rename_i i hi
    split at h
    · rename_i hh off
      split at h
      · rename_i cs tt hm
        split at h
        · rename_i vs hvs
          split at h
          · rename_i hsz
            have hsz := Nat.eq_of_beq_eq_true hsz
            split at h
            · rename_i hle
              have hle := Nat.le_of_ble_eq_true hle
              refine ⟨_, _, h, fun ρ w a hr hs => ?_⟩
              have hpp := opd_ok hs hp
              obtain ⟨ys, hys, hay⟩ := tvCells_ok hvs (opd_ok hs hv)
              obtain ⟨b, hb, _, us, hus, ha⟩ := hr.blk hm
              have hl := ha.length
              have hly := hay.length
              obtain ⟨w', hrun, hput⟩ := run_storeCells (P := P) ys (w := w) (b := b) (o := off) (us := us) (t := tt) 0 hus (all2_one hay) (by omega)
              have ha' : All2 (Is R ρ w) (splice cs off vs) (us.take (off + 0) ++ ys ++ us.drop (off + 0 + ys.length)) := by
                rw [splice_eq _ _ _ hle, Nat.add_zero, ← hly]
                exact ((ha.take off).append hay).append (ha.drop _)
              obtain ⟨hgo, hr'⟩ := hr.put hb hm hput ha'
              refine Yld.skip (w' := w') ?_ ⟨ρ, hgo, hr', rfl⟩
              generalize hev : a.eval e = pv at hpp
              cases hpp with
              | ptr _ _ b' hb' =>
                have : b' = b := by rw [hb, Option.some.injEq, Bk.blk.injEq] at hb'; exact hb'.symm
                subst this
                unfold execOp
                simp only [ho, hev, Sem.run_bind, Instr.storeAt, Instr.sureAddr, Sem.run_pure, Result.andThen_ok, storeVar, (tiOf_run (ht _ _ hi) w).1, hys, List.size_toArray]
                rw [if_neg (by omega)]
                simp only [Sem.run_bind, Sem.run_pure, Result.andThen_ok, hrun]
            · exact none_some h
          · exact none_some h
        · exact none_some h
      · exact none_some h
    · exact none_some h
  · exact none_some h
end
end Go.Proofs.Ytjfcfljdojkcdaa.Ev
