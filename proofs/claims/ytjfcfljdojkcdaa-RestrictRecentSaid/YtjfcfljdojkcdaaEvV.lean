/- The evaluator's freezing of rows, arrays that are sliced, bytes told as strings; each sound. -/
import Derived.Test.YtjfcfljdojkcdaaEvY
import Derived.Laws.BytesArg
namespace Go.Proofs.Ytjfcfljdojkcdaa.Ev
open Go Go.RowKit
set_option linter.unusedVariables false
set_option linter.unusedSimpArgs false
section
variable {R : Ro} {P : Program} {X : Type}
theorem Is.free {ρ ρ' : Ow} {w : World} {l : Lf R.D} {u : Value} (h : Is R ρ w l u) (hl : lfH l = []) (hF : ∀ b, ρ'.F b → ρ.F b) : Is R ρ' w l u := by
  have := h.ren (f := fun h => h) (ρ' := ρ') hF (fun q hq => by rw [hl] at hq; simp at hq)
  rwa [ren_none hl] at this
theorem IsT.free {ρ ρ' : Ow} {w : World} {v : Tv R.D} {u : Value} (h : IsT R ρ w v u) (hl : tvH v = []) (hF : ∀ b, ρ'.F b → ρ.F b) : IsT R ρ' w v u := by
  have key : ∀ {cs : List (Lf R.D)} {us : List Value}, lfsH cs = [] → All2 (Is R ρ w) cs us → All2 (Is R ρ' w) cs us := by
    intro cs us hn ha
    induction ha with
    | nil => exact .nil
    | cons h0 _ ih =>
      simp only [lfsH, List.append_eq_nil_iff] at hn
      exact .cons (h0.free hn.1 hF) (ih hn.2)
  cases v with
  | lf l => exact Is.free h hl hF
  | agg cs => obtain ⟨us, hu, ha⟩ := h; exact ⟨us, hu, key hl ha⟩
  | un => exact h
  | tup vs =>
    obtain ⟨us, hu, ha⟩ := h
    refine ⟨us, hu, ?_⟩
    clear hu
    simp only [tvH] at hl
    induction ha with
    | nil => exact .nil
    | @cons a b l m h0 _ ih =>
      simp only [avsH, List.append_eq_nil_iff] at hl
      refine .cons ?_ (ih hl.2)
      cases a with
      | lf l => exact Is.free h0 hl.1 hF
      | agg cs => obtain ⟨us, hu, ha⟩ := h0; exact ⟨us, hu, key hl.1 ha⟩
def Ow.none : Ow := ⟨fun _ => False, []⟩
theorem held_nil {D : Nat → Type} {ρ : Ow} {b : Nat} : ¬ Held ρ ([] : List (Ent D)) b := fun ⟨i, q, e, _, he, _⟩ => by simp at he
theorem Rel.none (w : World) : Rel R Ow.none [] w := ⟨rfl, fun i j p q e e' b hi => by simp [Ow.none] at hi, fun b h => h.elim, fun b h => (held_nil h).elim, fun h b e hb => by simp [Ow.none] at hb⟩
theorem free_all {ρ ρ' : Ow} {w : World} (hF : ∀ b, ρ'.F b → ρ.F b) : ∀ {ls : List (Lf R.D)} {us : List Value}, (∀ l ∈ ls, lfH l = []) → All2 (Is R ρ w) ls us → All2 (Is R ρ' w) ls us
  | _, _, _, .nil => .nil
  | _, _, hf, .cons h0 h1 => .cons (h0.free (hf _ (List.mem_cons_self ..)) hF) (free_all hF (fun l hl => hf l (List.mem_cons_of_mem _ hl)) h1)
theorem encs_free (c : Nat) : ∀ (l : List (R.D c)), ∀ a ∈ encs R c l, lfH a = []
  | [], a, h => by simp [encs] at h
  | x :: l, a, h => by
    simp only [encs, List.mem_append] at h
    rcases h with h | h
    · exact free_none (List.all_eq_true.1 (R.free c x) a h)
    · exact encs_free c l a h
/-- What a slice holds, told for reading alone to one who does not own it. -/
theorem Holds.to {ρ ρ' : Ow} {w : World} {c : Nat} {l : List (R.D c)} {u : Value} (h : Holds R ρ w c l u) (hz : 0 < R.sz c) (hF : ∀ b, ρ'.F b → ρ.F b) (hN : ∀ b o n k, u = .slice (some ⟨b, o, none⟩) n k → 0 < n → ¬ ρ'.F b) : Is R ρ' w (.ro c l) u := by
  obtain ⟨a, cap, us, rfl, h1, h2, ha, hs⟩ := h
  rcases hs with rfl | ⟨b, o, rfl, hc⟩
  · exact Is.nil c a cap
  cases hl : l with
  | nil => exact Is.nil c _ cap
  | cons x0 l0 =>
    rw [← hl]
    have hlen : us.length = l.length * R.sz c := by rw [← ha.length, encs_len]
    have ha' : All2 (Is R ρ' w) (encs R c l) us := free_all (ρ' := ρ') hF (encs_free c l) ha
    have hpos : 0 < us.length := by rw [hlen, hl, List.length_cons, Nat.add_mul, Nat.one_mul]; omega
    have hb : b < w.heap.size := by
      have := hc 0 _ (List.getElem?_eq_getElem hpos)
      simp only [World.cell?] at this
      split at this
      · rename_i h9
        exact (Array.getElem?_eq_some_iff.1 h9).1
      · cases this
    refine Is.ro c l b o cap (fun i j => us.getD (i * R.sz c + j) undef) h2 h1 hb (hN b o _ _ rfl (by rw [hl]; simp)) (fun i j hi hj => ?_) (fun i x j lf hi hj => ?_)
    · have hlt := encs_cell ha hi hj
      rw [Nat.add_assoc, hc _ _ (List.getElem?_eq_getElem hlt)]
      simp [List.getD, List.getElem?_eq_getElem hlt]
    · have hx := encs_at ha' hi
      obtain ⟨v, hv, hiv⟩ := hx.get j lf hj
      rw [List.getElem?_take] at hv
      split at hv
      · rw [List.getElem?_drop] at hv
        simp only [List.getD, hv, Option.getD_some]
        exact hiv
      · cases hv
theorem Holds.ro {ρ : Ow} {w : World} {c : Nat} {l : List (R.D c)} {u : Value} (h : Holds R ρ w c l u) (hz : 0 < R.sz c) : Is R Ow.none w (.ro c l) u := h.to hz (fun b h => False.elim h) fun _ _ _ _ _ _ h => h
/-! ### Rows of one's own that become plain data -/
theorem Rel.freeze {ρ : Ow} {m : List (Ent R.D)} {w : World} (h : Rel R ρ m w) {i b : Nat} {q : Bk} {e0 : Ent R.D} (hi : ρ.r[i]? = some q) (hm : m[i]? = some e0) (hl : e0.live) (hq : q.b? = some b) :
    Go R ρ m w ⟨fun x => ρ.F x ∧ x ≠ b, ρ.r⟩ (m.set i .dead) w ∧ Rel R ⟨fun x => ρ.F x ∧ x ≠ b, ρ.r⟩ (m.set i .dead) w := by
  have hlt := live_lt hm
  have hb : Held ρ m b := ⟨i, q, e0, hi, hm, hl, hq⟩
  have back : ∀ {j : Nat} {e' : Ent R.D}, (m.set i .dead)[j]? = some e' → e'.live → j ≠ i ∧ m[j]? = some e' := by
    intro j e' he hl'
    by_cases hji : j = i
    · subst hji
      rw [List.getElem?_set_self hlt, Option.some.injEq] at he
      subst he
      exact hl'.elim
    · exact ⟨hji, by rwa [List.getElem?_set_ne (Ne.symm hji)] at he⟩
  have hle : Le ρ w ⟨fun x => ρ.F x ∧ x ≠ b, ρ.r⟩ := ⟨fun _ _ h => h, fun _ h => .inl h.1⟩
  have hheld : ∀ b', Held (⟨fun x => ρ.F x ∧ x ≠ b, ρ.r⟩ : Ow) (m.set i .dead) b' → Held ρ m b' ∧ b' ≠ b := fun b' ⟨j, q', e, h1, h2, h3, h4⟩ => by
    obtain ⟨hji, h2'⟩ := back h2 h3
    refine ⟨⟨j, q', e, h1, h2', h3, h4⟩, fun e1 => ?_⟩
    subst e1
    exact hji (h.nd j i q' q e e0 b' h1 hi h2' hm h3 hl h4 hq)
  refine ⟨⟨⟨hle, fun x hx hn => ⟨hx, fun e1 => hn (e1 ▸ hb)⟩, fun b' hb' => .inl (hheld b' hb').1, fun j hj => ?_⟩, Fr.refl _ _⟩, ⟨by simp [h.len], fun j k p q' e e' b' h1 h2 h3 h4 h5 h6 h7 h8 => h.nd j k p q' e e' b' h1 h2 (back h3 h5).2 (back h4 h6).2 h5 h6 h7 h8, fun x hx => h.lt x hx.1, fun b' hb' => ⟨h.fits b' (hheld b' hb').1, (hheld b' hb').2⟩, fun j q' e h1 h2 => ?_⟩⟩
  · by_cases hji : j = i
    · subst hji; rw [List.getElem?_set_self hlt]
    · rw [List.getElem?_set_ne (Ne.symm hji)]; exact hj
  · by_cases hl' : e.live
    · exact (h.ok j q' e h1 (back h2 hl').2).keep (Fr.refl (Held ρ m) w) h.fits hle fun _ _ _ => rfl
    · cases e with
      | dead => exact EntOk.none
      | _ => exact absurd trivial hl'
/-- A cell: a row, or a part of one, as plain data. -/
def frz1 (l : Lf R.D) (m : List (Ent R.D)) : Lf R.D × List (Ent R.D) :=
  match l with
  | .row c h => match rowAt m c h with
    | some (l, _) => match R.sz c with
      | 0 => (.row c h, m)
      | _ => (.ro c l, m.set h .dead)
    | none => (.row c h, m)
  | .sl c h o n => match rowAt m c h with
    | some (l, _) => match R.sz c with
      | 0 => (.sl c h o n, m)
      | _ => (.ro c ((l.drop o).take n), m.set h .dead)
    | none => (.sl c h o n, m)
  | l => (l, m)
theorem match_beq {Y : Type} {b : Bool} (hb : b = true) (f : b = true → Y) : (match (generalizing := false) b with | true => (match (generalizing := false) h : b with | true => some (f h) | false => none) | false => none) = some (f hb) := by cases b <;> first | rfl | cases hb
theorem frz1_ok (l : Lf R.D) (m : List (Ent R.D)) {ρ : Ow} {w : World} (hr : Rel R ρ m w) {u : Value} (hu : Is R ρ w l u) : ∃ ρ', Go R ρ m w ρ' (frz1 l m).2 w ∧ Rel R ρ' (frz1 l m).2 w ∧ Is R ρ' w (frz1 l m).1 u := by
  have same : ∀ {l : Lf R.D}, Is R ρ w l u → ∃ ρ', Go R ρ m w ρ' m w ∧ Rel R ρ' m w ∧ Is R ρ' w l u := fun h => ⟨ρ, Go.refl ρ m w, hr, h⟩
  have key : ∀ {c h : Nat} {l0 : List (R.D c)} {t : TypeId} {l1 : List (R.D c)}, m[h]? = some (.row c l0 t) → R.sz c ≠ 0 → Holds R ρ w c l1 u → (∀ b o n k, u = .slice (some ⟨b, o, none⟩) n k → 0 < n → ∃ cap len, ρ.r[h]? = some (.row b cap len)) →
      ∃ ρ', Go R ρ m w ρ' (m.set h .dead) w ∧ Rel R ρ' (m.set h .dead) w ∧ Is R ρ' w (.ro c l1) u := by
    intro c h l0 t l1 hm hz hh hbk
    rcases hr.row hm with ⟨b, cap, len, hq, _, _⟩ | ⟨hq, _⟩
    · obtain ⟨g, r⟩ := hr.freeze hq hm trivial rfl
      refine ⟨_, g, r, hh.to (Nat.pos_of_ne_zero hz) (fun b h => h.1) fun b' o n k hu' hn hF => ?_⟩
      obtain ⟨cap', len', hq'⟩ := hbk b' o n k hu' hn
      rw [hq] at hq'
      cases hq'
      exact hF.2 rfl
    · obtain ⟨g, r⟩ := hr.kill hm
      refine ⟨_, g, r, hh.to (Nat.pos_of_ne_zero hz) (fun b h => h) fun b' o n k hu' hn hF => ?_⟩
      obtain ⟨cap', len', hq'⟩ := hbk b' o n k hu' hn
      rw [hq] at hq'
      cases hq'
  unfold frz1
  split
  · rename_i c h
    split
    · rename_i l0 t hrow
      have hm := rowAt_ok hrow
      split
      · exact same hu
      · rename_i hz
        have hs : srcOf m c (.lf (.row c h)) = some l0 := by
          simp only [srcOf, hm]
          exact match_beq (Nat.beq_refl c) fun h => castD h l0
        refine key hm (by assumption) (srcOf_ok hs hr (u := u) hu) fun b o n k hu' hn => ?_
        subst hu'
        cases hu with
        | row _ _ b' cap' len' hb => exact ⟨_, _, hb⟩
        | rnil _ _ a hb => omega
    · exact same hu
  · rename_i c h o n
    split
    · rename_i l0 t hrow
      have hm := rowAt_ok hrow
      split
      · exact same hu
      · rename_i hz
        have hs : srcOf m c (.lf (.sl c h o n)) = some ((l0.drop o).take n) := by
          simp only [srcOf, hm]
          exact match_beq (Nat.beq_refl c) fun h => ((castD h l0).drop o).take n
        refine key hm (by assumption) (srcOf_ok hs hr (u := u) hu) fun b o' n' k hu' hn => ?_
        subst hu'
        cases hu with
        | sl _ _ _ _ a k' hk hL hb =>
          rcases hb with ⟨rfl, hk0⟩ | ⟨b', cap, len, h1, h2, h3, h4, _⟩
          · omega
          · cases h4
            exact ⟨_, _, h1⟩
    · exact same hu
  · exact same hu
def frzs : List (Lf R.D) → List (Ent R.D) → List (Lf R.D) × List (Ent R.D)
  | [], m => ([], m)
  | l :: ls, m => match frz1 l m with
    | (l', m1) => match frzs ls m1 with
      | (ls', m2) => (l' :: ls', m2)
theorem frzs_ok : ∀ (ls : List (Lf R.D)) (m : List (Ent R.D)) {ρ : Ow} {w : World}, Rel R ρ m w → ∀ {us : List Value}, All2 (Is R ρ w) ls us → ∃ ρ', Go R ρ m w ρ' (frzs ls m).2 w ∧ Rel R ρ' (frzs ls m).2 w ∧ All2 (Is R ρ' w) (frzs ls m).1 us
  | [], m, ρ, w, hr, us, h => ⟨ρ, Go.refl ρ m w, hr, h⟩
  | l :: ls, m, ρ, w, hr, us, h => by
    cases h with
    | cons h0 h1 =>
    obtain ⟨ρ1, g1, r1, k1⟩ := frz1_ok l m hr h0
    obtain ⟨ρ2, g2, r2, k2⟩ := frzs_ok ls (frz1 l m).2 r1 (h1.imp fun _ _ h => h.keep g1.fr hr.fits g1.ext.toLe)
    exact ⟨ρ2, g1.trans hr g2, r2, .cons (k1.keep g2.fr r1.fits g2.ext.toLe) k2⟩
def frzT (v : Tv R.D) (m : List (Ent R.D)) : Tv R.D × List (Ent R.D) :=
  match v with
  | .lf l => match frz1 l m with
    | (l', m') => (.lf l', m')
  | .agg cs => match frzs cs m with
    | (cs', m') => (.agg cs', m')
  | v => (v, m)
theorem frzT_ok (v : Tv R.D) (m : List (Ent R.D)) {ρ : Ow} {w : World} (hr : Rel R ρ m w) {u : Value} (hu : IsT R ρ w v u) : ∃ ρ', Go R ρ m w ρ' (frzT v m).2 w ∧ Rel R ρ' (frzT v m).2 w ∧ IsT R ρ' w (frzT v m).1 u := by
  unfold frzT
  split
  · exact frz1_ok _ m hr hu
  · obtain ⟨us, hus, ha⟩ := hu
    obtain ⟨ρ', g, r, k⟩ := frzs_ok _ m hr ha
    exact ⟨ρ', g, r, us, hus, k⟩
  · exact ⟨ρ, Go.refl ρ m w, hr, hu⟩
theorem frz1_blk (l : Lf R.D) {m : List (Ent R.D)} {h : Nat} {cs : List (Lf R.D)} {t : TypeId} (hm : m[h]? = some (.blk cs t)) : (frz1 l m).2[h]? = some (.blk cs t) := by
  have key : ∀ {c h' : Nat} {l0 : List (R.D c)} {t' : TypeId}, rowAt m c h' = some (l0, t') → (m.set h' .dead)[h]? = some (.blk cs t) := by
    intro c h' l0 t' hr
    have h1 := rowAt_ok hr
    rw [List.getElem?_set_ne]
    · exact hm
    · intro e
      subst e
      rw [hm] at h1
      cases h1
  unfold frz1
  split
  · split
    · split
      · exact hm
      · exact key (by assumption)
    · exact hm
  · split
    · split
      · exact hm
      · exact key (by assumption)
    · exact hm
  · exact hm
theorem frzs_blk : ∀ (ls : List (Lf R.D)) {m : List (Ent R.D)} {h : Nat} {cs : List (Lf R.D)} {t : TypeId}, m[h]? = some (.blk cs t) → (frzs ls m).2[h]? = some (.blk cs t)
  | [], m, h, cs, t, hm => hm
  | l :: ls, m, h, cs, t, hm => frzs_blk ls (frz1_blk l hm)
theorem frzT_blk (v : Tv R.D) {m : List (Ent R.D)} {h : Nat} {cs : List (Lf R.D)} {t : TypeId} (hm : m[h]? = some (.blk cs t)) : (frzT v m).2[h]? = some (.blk cs t) := by
  unfold frzT
  split
  · exact frz1_blk _ hm
  · exact frzs_blk _ hm
  · exact hm
def frzP : List (Nat × Tv R.D) → List (Ent R.D) → List (Nat × Tv R.D) × List (Ent R.D)
  | [], m => ([], m)
  | (i, v) :: ps, m => match frzT v m with
    | (v', m1) => match frzP ps m1 with
      | (ps', m2) => ((i, v') :: ps', m2)
theorem frzP_ok : ∀ (ps : List (Nat × Tv R.D)) (m : List (Ent R.D)) {ρ : Ow} {w : World}, Rel R ρ m w → ∀ {qs : List (Nat × Value)}, All2 (fun (p : Nat × Tv R.D) (q : Nat × Value) => p.1 = q.1 ∧ IsT R ρ w p.2 q.2) ps qs →
    ∃ ρ', Go R ρ m w ρ' (frzP ps m).2 w ∧ Rel R ρ' (frzP ps m).2 w ∧ All2 (fun (p : Nat × Tv R.D) (q : Nat × Value) => p.1 = q.1 ∧ IsT R ρ' w p.2 q.2) (frzP ps m).1 qs
  | [], m, ρ, w, hr, qs, h => ⟨ρ, Go.refl ρ m w, hr, by cases h; exact .nil⟩
  | (i, v) :: ps, m, ρ, w, hr, qs, h => by
    cases h with
    | cons h0 h1 =>
    obtain ⟨ρ1, g1, r1, k1⟩ := frzT_ok v m hr h0.2
    obtain ⟨ρ2, g2, r2, k2⟩ := frzP_ok ps (frzT v m).2 r1 (h1.imp fun _ _ h => ⟨h.1, h.2.keep g1.fr hr.fits g1.ext.toLe⟩)
    exact ⟨ρ2, g1.trans hr g2, r2, .cons ⟨h0.1, k1.keep g2.fr r1.fits g2.ext.toLe⟩ k2⟩
/-- A slice that is built out of rows (they become plain data). -/
def evBuildSliceF (rt : Nat → Option (RoT R)) (code : TypeId → Option (RoT R)) (tab : Nat → Option TI) (σ : List (Nat × Tv R.D)) (t : TypeId) (len : Nat) (l : List (Nat × Operand)) (m : List (Ent R.D)) (K : Tv R.D → List (Ent R.D) → Option X) : Option X :=
  match tab t with
  | some ti => match Nat.beq ti.kd 3 with
    | true => match tab ti.elt with
      | some ei => match code ti.elt with
        | some o => match elemOk R ei o.c with
          | true => match Nat.ble (len * R.sz o.c) 16777216 with
            | true => match ei.zero.all okV with
              | true => match evParts σ l with
                | some ps => match frzP ps m with
                  | (ps, m) => match evFill (placesOf len (R.sz o.c)) (repL len (ei.zero.map .v)) ps with
                    | some cs => match decs o len cs with
                      | some xs => K (.lf (.row o.c m.length)) (m ++ [.row o.c xs ti.elt])
                      | none => none
                    | none => none
                | none => none
              | false => none
            | false => none
          | false => none
        | none => none
      | none => none
    | false => none
  | none => none
theorem evBuildSliceF_ok {n : Nat} {σ : List (Nat × Tv R.D)} {rt : Nat → Option (RoT R)} {code : TypeId → Option (RoT R)} {tab : Nat → Option TI} (ht : TabOk P tab) {o : Oper} {t : TypeId} {len : Nat} {l : Array (Nat × Operand)} (ho : o.op = .buildSlice t len l) {m : List (Ent R.D)} {K : Tv R.D → List (Ent R.D) → Option X} {x : X}
    (h : evBuildSliceF rt code tab σ t len l.toList m K = some x) : ∃ r m', K r m' = some x ∧ OpOk R P n o σ m r m' := by
  unfold evBuildSliceF at h
  split at h
  case h_2 => exact none_some h
  rename_i ti hti
  split at h
  case h_2 => exact none_some h
  rename_i hk
  obtain ⟨hu, _⟩ := tiOf_sliceE (ht _ _ hti) (Nat.eq_of_beq_eq_true hk)
  split at h
  case h_2 => exact none_some h
  rename_i ei hei
  split at h
  case h_2 => exact none_some h
  rename_i oc hoc
  split at h
  case h_2 => exact none_some h
  rename_i hel
  obtain ⟨i, z, hi, hz, hsz, hzl, hby, hzz⟩ := elemOk_ok (ht _ _ hei) hel
  split at h
  case h_2 => exact none_some h
  rename_i hle
  have hle := Nat.le_of_ble_eq_true hle
  split at h
  case h_2 => exact none_some h
  rename_i hall
  split at h
  case h_2 => exact none_some h
  rename_i ps hps
  split at h
  rename_i ps1 m1 hfz
  split at h
  case h_2 => exact none_some h
  rename_i cs hcs
  split at h
  case h_2 => exact none_some h
  rename_i xs hxs
  refine ⟨_, _, h, fun ρ0 w a hr0 hs => ?_⟩
  obtain ⟨hrf, hxl⟩ := decs_ok hxs
  obtain ⟨ρ, g1, hr, hparts⟩ := frzP_ok ps m hr0 (evParts_ok hs _ hps)
  rw [hfz] at g1 hr hparts
  have hzero : All2 (Is R ρ w) (repL len (ei.zero.map .v)) (repL len ei.zero) := all2_rep (all2_vs _ hall) len
  obtain ⟨vs, hfill, hvs⟩ := evFill_ok _ _ _ hparts hzero hcs
  have hfill := fill_places _ _ _ _ _ hfill
  have hvs' := rf_is hrf hvs
  have hvl : vs.length = len * R.sz oc.c := by rw [← hvs'.length, encs_len, hxl]
  have hmx : len ≤ 9223372036854775807 := by
    have hpos : 0 < R.sz oc.c := by
      simp only [elemOk, Bool.and_eq_true, Bool.not_eq_true'] at hel
      obtain ⟨⟨h1, h2⟩, h3⟩ := hel
      have h1 := Nat.eq_of_beq_eq_true h1
      have h2 := Nat.eq_of_beq_eq_true h2
      rw [h1, ← h2]
      exact Nat.pos_of_ne_zero fun e => by rw [e] at h3; exact absurd h3 (by decide)
    have : len * 1 ≤ len * R.sz oc.c := Nat.mul_le_mul_left _ hpos
    omega
  obtain ⟨w', ρ', hw, hgo, hr', hrow⟩ := hr.newrow (e := ti.elt) (zs := []) hvs' (cap := len) (by omega) hmx (by rw [hvl]; simp)
  refine Yld.val (w' := w') (u := .slice (some ⟨w.heap.size, 0, none⟩) len len) ?_ ⟨ρ', g1.trans hr0 hgo, hr', by rw [hxl] at hrow; exact hrow⟩
  have hmap : (l.map fun p => (p.1, a.eval p.2)).toList = l.toList.map fun p => (p.1, a.eval p.2) := by simp
  have hzr : (Array.range (len * i.size)).map (fun j => z.cells[j % z.cells.size]!) = (repL len ei.zero).toArray := by
    apply Array.ext'
    rw [hsz, ← hzl, zeros_rep, hzz]
  unfold execOp
  simp only [ho, Sem.run_bind, Instr.buildSlice, run_underlying hu, Result.andThen_ok, sizeOf, typeInfo, Sem.run_pure, run_program, hi]
  rw [if_neg (by rw [hsz]; omega)]
  by_cases h0 : len * i.size = 0
  · have hrep : repL len ei.zero = [] := List.length_eq_zero_iff.1 (by rw [repL_len, ← hzz, Array.length_toList, hzl, ← hsz]; exact h0)
    rw [hrep] at hfill
    simp only [h0, if_true, Sem.run_bind, Sem.run_pure, Result.andThen_ok, hmap]
    rw [show ((Array.range 0).map fun j => (#[] : Array Value)[j % (#[] : Array Value).size]!) = #[] by simp]
    rw [hsz, hfill]
    simp only [newRow, Sem.run_bind, run_newObj, Result.andThen_ok, Sem.run_pure]
    rw [hw]
    simp
  · rw [if_neg h0]
    simp only [zeroValue, typeInfo, Sem.run_bind, run_program, Result.andThen_ok, hi, hz, Sem.run_pure, hzr, hmap]
    rw [hsz, hfill]
    simp only [newRow, Sem.run_bind, run_newObj, Result.andThen_ok, Sem.run_pure]
    rw [hw]
    simp
/-! ### An array that is sliced: its block becomes a row -/
def evSliceArr (R : Ro) (code : TypeId → Option (RoT R)) (tab : Nat → Option TI) (t : TypeId) (v : Tv R.D) (lo hi : Option (Tv R.D)) (m : List (Ent R.D)) (K : Tv R.D → List (Ent R.D) → Option X) : Option X :=
  match tab t with
  | some ti => match Nat.beq ti.kd 2 with
    | true => match v with
      | .lf (.ptr h 0) => match m[h]? with
        | some (.blk cs tt) => match code ti.elt with
          | some o => match Nat.beq ti.el (R.sz o.c) with
            | true => match Nat.ble ti.len 9223372036854775807 with
              | true => match decs o ti.len cs with
                | some xs => match ivOf lo 0 with
                  | some a => match ivOf hi (ti.len : Int) with
                    | some b => if 0 ≤ a then (if a ≤ b then (if b ≤ (ti.len : Int) then K (.lf (.sl o.c m.length a.toNat (b - a).toNat)) (m.set h .dead ++ [.row o.c xs tt]) else none) else none) else none
                    | none => none
                  | none => none
                | none => none
              | false => none
            | false => none
          | none => none
        | _ => none
      | _ => none
    | false => none
  | none => none
theorem evSliceArr_ok {code : TypeId → Option (RoT R)} {tab : Nat → Option TI} (ht : TabOk P tab) {t : TypeId} {v : Tv R.D} {lo hi : Option (Tv R.D)} {m : List (Ent R.D)} {K : Tv R.D → List (Ent R.D) → Option X} {x : X} (h : evSliceArr R code tab t v lo hi m K = some x) :
    ∃ r m', K r m' = some x ∧ ∀ ρ w (u : Value) (vlo vhi : Option Value), Rel R ρ m w → IsT R ρ w v u → (∀ v, lo = some v → ∃ u, vlo = some u ∧ IsT R ρ w v u) → (lo = none → vlo = none) → (∀ v, hi = some v → ∃ u, vhi = some u ∧ IsT R ρ w v u) → (hi = none → vhi = none) →
      ∃ q, (Instr.sliceAt t u vlo vhi none).run P w = .ok q w ∧ ∃ ρ', Go R ρ m w ρ' m' w ∧ Rel R ρ' m' w ∧ IsT R ρ' w r q := by
  unfold evSliceArr at h
  split at h
  case h_2 => exact none_some h
  rename_i ti hti
  split at h
  case h_2 => exact none_some h
  rename_i hk
  obtain ⟨e, hu, htf⟩ := tiOf_array (ht _ _ hti) (Nat.eq_of_beq_eq_true hk)
  split at h
  case h_2 => exact none_some h
  rename_i h0
  split at h
  case h_2 => exact none_some h
  rename_i cs tt hm
  split at h
  case h_2 => exact none_some h
  rename_i oc hoc
  split at h
  case h_2 => exact none_some h
  rename_i hel
  have hel := Nat.eq_of_beq_eq_true hel
  split at h
  case h_2 => exact none_some h
  rename_i hln
  have hln := Nat.le_of_ble_eq_true hln
  split at h
  case h_2 => exact none_some h
  rename_i xs hxs
  obtain ⟨hrf, hxl⟩ := decs_ok hxs
  split at h
  case h_2 => exact none_some h
  rename_i a ha
  split at h
  case h_2 => exact none_some h
  rename_i b hb
  split at h
  case isFalse => exact none_some h
  rename_i i0
  split at h
  case isFalse => exact none_some h
  rename_i i1
  split at h
  case isFalse => exact none_some h
  rename_i i2
  refine ⟨_, _, h, fun ρ w u vlo vhi hr hp l1 l2 l3 l4 => ?_⟩
  obtain ⟨bb, hq, hheld, us, hus, hall⟩ := hr.blk hm
  have hval := rf_is hrf hall
  have hlen : us.length = ti.len * R.sz oc.c := by rw [← hval.length, encs_len, hxl]
  obtain ⟨g, r⟩ := hr.renew (w' := w) (q' := .row bb ti.len ti.len) (e' := .row oc.c xs tt) hq hm trivial rfl rfl rfl rfl rfl rfl (fun _ _ => rfl) fun ρ' hle hf =>
    ⟨hxl, Nat.le_refl _, hln, us, [], by rw [List.append_nil]; exact hus, hval.imp fun _ _ h' => h'.keep hf hr.fits hle, by simp [hlen]⟩
  have hM : (⟨ρ.F, ρ.r ++ [.row bb ti.len ti.len]⟩ : Ow).r[m.length]? = some (.row bb ti.len ti.len) := by
    show (ρ.r ++ [_])[m.length]? = _
    rw [← hr.len]; simp
  cases hp with
  | ptr _ _ b' hb' =>
    rw [hq] at hb'
    cases hb'
    refine ⟨.slice (some (if ti.len = a.toNat then ⟨bb, 0, none⟩ else Addr.add ⟨bb, 0, none⟩ (a.toNat * ti.el))) (b.toNat - a.toNat) (ti.len - a.toNat), ?_, _, g, r, ?_⟩
    · unfold Instr.sliceAt
      simp only [Sem.run_bind, run_underlying hu, Result.andThen_ok, Instr.sureAddr, Sem.run_pure, bounds_ok ha hb l1 l2 l3 l4 i0 i1 i2 false, (tiF_run htf w).1]
    · have e1 : (b - a).toNat = b.toNat - a.toNat := by omega
      rw [e1]
      refine Is.sl oc.c _ _ _ _ _ (by omega) (by omega) ?_
      by_cases hz : ti.len = a.toNat
      · exact .inl ⟨by omega, fun e => ⟨_, hM, by show _ = 0; omega⟩⟩
      · refine .inr ⟨bb, ti.len, ti.len, hM, by omega, by omega, ?_, by omega⟩
        rw [if_neg hz, add_at, hel, Nat.zero_add]
/-! ### Bytes as strings -/
/-- The code of rows of bytes. -/
structure ByT (R : Ro) where
  c : Nat
  to : List (R.D c) → List Int
  ok : ∀ l, encs R c l = (to l).map (fun n => .v (.int .u8 n))
  len : ∀ l, (to l).length = l.length
theorem ByT.is {b : ByT R} {ρ : Ow} {w : World} {l : List (R.D b.c)} {us : List Value} (h : All2 (Is R ρ w) (encs R b.c l) us) : us = (b.to l).map (.int .u8) := by
  rw [b.ok] at h
  generalize b.to l = ns at h
  induction ns generalizing us with
  | nil => cases h; rfl
  | cons n ns ih =>
    cases h with
    | cons h0 h1 => cases h0; rw [ih h1]; rfl
def evBytes (byt : Option (ByT R)) (tab : Nat → Option TI) (src dst : TypeId) (v : Tv R.D) (m : List (Ent R.D)) (K : Tv R.D → Option X) : Option X :=
  match byt with
  | some b => match tab src with
    | some si => match Nat.beq si.kd 3 with
      | true => match tab si.elt with
        | some ei => match Nat.beq ei.kd 14 with
          | true => match tab dst with
            | some di => match Nat.beq di.kd 6 with
              | true => match srcOf m b.c v with
                | some l => K (.lf (.v (.string (strOfNums (b.to l)))))
                | none => none
              | false => none
            | none => none
          | false => none
        | none => none
      | false => none
    | none => none
  | none => none
theorem bytes_none (P : Program) (w : World) (src dst e : TypeId) (hs : P.underlying src = some (.slice e)) (he : P.underlying e = some (.int .u8)) (hd : P.underlying dst = some .string) (a : Option Addr) (cap : Nat) :
    (convert src dst (.slice a 0 cap)).run P w = .ok (.string (strOfNums [])) w := by
  cases a with
  | none =>
    rw [run_convert_bytes_string w src dst e none 0 cap hs he hd]
    unfold Conv.bytesToString
    simp [Sem.run_pure]
    rfl
  | some a =>
    have hl : (loadCells a 0).run P w = .ok (([] : List Int).map (Value.int .u8)).toArray w := by
      have := run_loadCells_list (P := P) w a [] (fun j v hj => by simp at hj)
      simpa using this
    rw [run_convert_bytes_string w src dst e _ 0 cap hs he hd, run_bytesToString w _ 0 cap [] hl]
    rfl
theorem evBytes_ok {byt : Option (ByT R)} {tab : Nat → Option TI} (ht : TabOk P tab) {src dst : TypeId} {v : Tv R.D} {m : List (Ent R.D)} {K : Tv R.D → Option X} {z : X} (h : evBytes byt tab src dst v m K = some z) :
    ∃ r, K r = some z ∧ ∀ ρ w u, Rel R ρ m w → IsT R ρ w v u → ∃ q, (convert src dst u).run P w = .ok q w ∧ IsT R ρ w r q := by
  unfold evBytes at h
  split at h
  case h_2 => exact none_some h
  rename_i b
  split at h
  case h_2 => exact none_some h
  rename_i si hsi
  split at h
  case h_2 => exact none_some h
  rename_i hk
  obtain ⟨hu, _⟩ := tiOf_sliceE (ht _ _ hsi) (Nat.eq_of_beq_eq_true hk)
  split at h
  case h_2 => exact none_some h
  rename_i ei hei
  split at h
  case h_2 => exact none_some h
  rename_i hk8
  have hk8 := Nat.eq_of_beq_eq_true hk8
  have he : P.underlying si.elt = some (.int .u8) := tiOf_int (ht _ _ hei) (by rw [hk8]; rfl)
  split at h
  case h_2 => exact none_some h
  rename_i di hdi
  split at h
  case h_2 => exact none_some h
  rename_i hk6
  have hd := tiOf_string (ht _ _ hdi) (Nat.eq_of_beq_eq_true hk6)
  split at h
  case h_2 => exact none_some h
  rename_i l hl
  refine ⟨_, h, fun ρ w u hr hv => ?_⟩
  obtain ⟨a, cap, us, rfl, h1, h2, ha, hs⟩ := srcOf_ok hl hr hv
  have hus := ByT.is ha
  have hlen : (b.to l).length = l.length := b.len l
  have hul : us.length = l.length := by rw [hus, List.length_map, hlen]
  refine ⟨_, ?_, Is.v _ (by
    show Nat.ble (strOfNums (b.to l)).size 9223372036854775807 = true
    rw [strOfNums_size, hlen]
    exact Nat.ble_eq_true_of_le h2)⟩
  rcases hs with h0 | ⟨b0, o, rfl, hc⟩
  · have hn : b.to l = [] := List.length_eq_zero_iff.1 (by rw [hlen, h0]; rfl)
    have hn2 : l.length = 0 := by rw [← hlen, hn]; rfl
    rw [hn, hn2]
    exact bytes_none P w src dst _ hu he hd a cap
  · refine run_convert_bytes_arg w src _ hu he b0 o l.length cap (b.to l) hlen (fun i hi => ?_) dst hd
    rw [hc i (.int .u8 ((b.to l).getD i 0)) (by
      rw [hus, List.getElem?_map, List.getD_eq_getElem?_getD]
      rw [List.getElem?_eq_getElem (by omega)]
      rfl)]
end
end Go.Proofs.Ytjfcfljdojkcdaa.Ev
