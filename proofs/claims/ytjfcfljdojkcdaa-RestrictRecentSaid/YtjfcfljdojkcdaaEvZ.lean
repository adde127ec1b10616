/- What is told in another form at a cut, a call, an end: slices that are nil, as rows of one's own; whole rows, as parts. -/
import Derived.Test.YtjfcfljdojkcdaaEvV
namespace Go.Proofs.Ytjfcfljdojkcdaa.Ev
open Go Go.RowKit
set_option linter.unusedVariables false
set_option linter.unusedSimpArgs false
/-- Told as a row of one's own (elements of code c, type e); as a part of one. -/
inductive Cv where
  | row (c : Nat) (e : TypeId)
  | sl (c : Nat)
  | take (c : Nat) (e : TypeId)
  | frz
  | mv (c : Nat) (e : TypeId)
  | sln (c h : Nat)
  | tmv (c : Nat) (e : TypeId)
section
variable {R : Ro} {P : Program} {X : Type}
theorem Rel.tell {ρ : Ow} {m : List (Ent R.D)} {w : World} (h : Rel R ρ m w) {i : Nat} {q : Bk} {e0 e : Ent R.D} (hi : ρ.r[i]? = some q) (hm : m[i]? = some e0) (hl : e0.live) (hok : EntOk R ρ w q e) : Go R ρ m w ρ (m.set i e) w ∧ Rel R ρ (m.set i e) w := by
  have hlt := live_lt hm
  have split : ∀ {j : Nat} {e' : Ent R.D}, (m.set i e)[j]? = some e' → (j ≠ i ∧ m[j]? = some e') ∨ (j = i ∧ e' = e) := by
    intro j e' he
    by_cases hji : j = i
    · subst hji
      rw [List.getElem?_set_self hlt, Option.some.injEq] at he
      exact .inr ⟨rfl, he.symm⟩
    · rw [List.getElem?_set_ne (Ne.symm hji)] at he
      exact .inl ⟨hji, he⟩
  have back : ∀ {j : Nat} {e' : Ent R.D}, (m.set i e)[j]? = some e' → e'.live → ∃ e'', m[j]? = some e'' ∧ e''.live := by
    intro j e' he hl'
    rcases split he with ⟨_, h1⟩ | ⟨rfl, rfl⟩
    · exact ⟨e', h1, hl'⟩
    · exact ⟨e0, hm, hl⟩
  have hheld : ∀ b', Held ρ (m.set i e) b' → Held ρ m b' := by
    intro b' ⟨j, p, e', hj, he, hl', hp⟩
    obtain ⟨e'', h1, h2⟩ := back he hl'
    exact ⟨j, p, e'', hj, h1, h2, hp⟩
  refine ⟨⟨⟨Le.refl ρ w, fun _ hb _ => hb, fun b' hb' => .inl (hheld b' hb'), fun j hj => ?_⟩, Fr.refl _ _⟩, ⟨by simp [h.len], ?_, h.lt, fun b' hb' => h.fits b' (hheld b' hb'), ?_⟩⟩
  · have hne : j ≠ i := fun e1 => by subst e1; rw [hm, Option.some.injEq] at hj; subst hj; exact hl
    rw [List.getElem?_set_ne (Ne.symm hne)]; exact hj
  · intro j k p p' e1 e2 b' hj hk hje hke hl1 hl2 hp hp'
    obtain ⟨f1, g1, g2⟩ := back hje hl1
    obtain ⟨f2, g3, g4⟩ := back hke hl2
    exact h.nd j k p p' f1 f2 b' hj hk g1 g3 g2 g4 hp hp'
  · intro j p e' hj he
    rcases split he with ⟨hne, h1⟩ | ⟨rfl, rfl⟩
    · exact h.ok j p e' hj h1
    · rw [hi, Option.some.injEq] at hj
      subst hj
      exact hok
/-- A step that leaves the world as it is. -/
def Tells (R : Ro) (m m' : List (Ent R.D)) : Prop := ∀ (ρ : Ow) (w : World), Rel R ρ m w → ∃ ρ', Go R ρ m w ρ' m' w ∧ Rel R ρ' m' w
theorem Tells.refl (m : List (Ent R.D)) : Tells R m m := fun ρ w h => ⟨ρ, Go.refl ρ m w, h⟩
theorem Tells.trans {m m' m'' : List (Ent R.D)} (h : Tells R m m') (h' : Tells R m' m'') : Tells R m m'' := fun ρ w hr => by
  obtain ⟨ρ1, g1, r1⟩ := h ρ w hr
  obtain ⟨ρ2, g2, r2⟩ := h' ρ1 w r1
  exact ⟨ρ2, g1.trans hr g2, r2⟩
/-- Temporaries in another form. -/
def fix0 (cv : Option Cv) (v : Tv R.D) (m : List (Ent R.D)) : Tv R.D × List (Ent R.D) :=
  match cv with
  | none => (v, m)
  | some (.row c e) => match v with
    | .lf (.v (.slice none 0 0)) => (.lf (.row c m.length), m ++ [.row c [] e])
    | v => (v, m)
  | some (.sl c) => match v with
    | .lf (.row c' h) => match Nat.beq c' c with
      | true => match rowLen m c h with
        | some ln => (.lf (.sl c h 0 ln), m)
        | none => (v, m)
      | false => (v, m)
    | v => (v, m)
  | some (.take c e) => match v with
    | .lf (.v (.slice none 0 0)) => (.lf (.row c m.length), m ++ [.row c [] e])
    | .lf (.sl c' h o n) => match Nat.beq c' c with
      | true => match Nat.beq o 0 with
        | true => match rowE m c e h with
          | some l => (.lf (.row c m.length), m.set h .dead ++ [.row c (l.take n) e])
          | none => (v, m)
        | false => (v, m)
      | false => (v, m)
    | v => (v, m)
  | some .frz => frzT v m
  | some (.mv c e) => match v with
    | .lf (.row c' h) => match Nat.beq c' c with
      | true => match rowE m c e h with
        | some l => (.lf (.row c m.length), m.set h .dead ++ [.row c l e])
        | none => (v, m)
      | false => (v, m)
    | .lf (.v (.slice none 0 0)) => (.lf (.row c m.length), m ++ [.row c [] e])
    | v => (v, m)
  | some (.sln c q) => match v with
    | .lf (.v (.slice none 0 0)) => (.lf (.sl c q 1 0), m)
    | .lf (.row c' h) => match Nat.beq c' c with
      | true => match rowLen m c h with
        | some ln => (.lf (.sl c h 0 ln), m)
        | none => (v, m)
      | false => (v, m)
    | v => (v, m)
  | some (.tmv _ _) => (v, m)
theorem fix0_ok (cv : Option Cv) (v : Tv R.D) (m : List (Ent R.D)) {ρ : Ow} {w : World} (hr : Rel R ρ m w) {u : Value} (hu : IsT R ρ w v u) : ∃ ρ', Go R ρ m w ρ' (fix0 cv v m).2 w ∧ Rel R ρ' (fix0 cv v m).2 w ∧ IsT R ρ' w (fix0 cv v m).1 u := by
  have same : ∃ ρ', Go R ρ m w ρ' m w ∧ Rel R ρ' m w ∧ IsT R ρ' w v u := ⟨ρ, Go.refl ρ m w, hr, hu⟩
  have last : ∀ {q : Bk} {l : List Bk}, l.length = m.length → (l ++ [q])[m.length]? = some q := fun h => by rw [← h]; simp
  unfold fix0
  split
  · exact same
  · rename_i c e
    split
    · obtain ⟨g1, r1⟩ := hr.addnil c e
      cases hu
      exact ⟨_, g1, r1, Is.rnil c _ none (last hr.len)⟩
    · exact same
  · rename_i c
    split
    · rename_i c' h
      split
      · rename_i hc
        have := Nat.eq_of_beq_eq_true hc
        subst this
        split
        · rename_i ln hrow
          obtain ⟨l, t, hm, rfl⟩ := rowLen_ok hrow
          refine ⟨ρ, Go.refl ρ m w, hr, ?_⟩
          rcases hr.row hm with ⟨b, cap, len, hq, _, rfl, h1, h2, _⟩ | ⟨hq, rfl⟩
          · cases hu with
            | rnil _ _ a hb => rw [hq] at hb; cases hb
            | row _ _ b' cap' len' hb =>
              rw [hq] at hb
              cases hb
              exact Is.sl c' h 0 _ _ _ h1 (Nat.le_trans h1 h2) (.inr ⟨b, cap, _, hq, by omega, by omega, by simp, by omega⟩)
          · cases hu with
            | rnil _ _ a hb => exact Is.sl c' h 0 0 a 0 (by omega) (by omega) (.inl ⟨rfl, fun _ => ⟨_, hq, trivial⟩⟩)
            | row _ _ b' cap' len' hb => rw [hq] at hb; cases hb
        · exact same
      · exact same
    · exact same
  · rename_i c e
    split
    · obtain ⟨g1, r1⟩ := hr.addnil c e
      cases hu
      exact ⟨_, g1, r1, Is.rnil c _ none (last hr.len)⟩
    · rename_i c' h o n
      split
      · rename_i hc
        have := Nat.eq_of_beq_eq_true hc
        subst this
        split
        · rename_i ho
          have := Nat.eq_of_beq_eq_true ho
          subst this
          split
          · rename_i l hrow
            have hm := rowE_ok hrow
            cases hu with
            | sl _ _ _ _ a k hk hL hb =>
            rcases hb with ⟨rfl, hk0⟩ | ⟨b, cap, len, hq, h1, h2, rfl, hk1⟩
            · have : n = 0 := by omega
              subst this
              obtain ⟨g1, r1⟩ := hr.kill hm
              obtain ⟨g2, r2⟩ := r1.addnil c' e
              exact ⟨_, g1.trans hr g2, r2, Is.rnil c' _ a (last hr.len)⟩
            · rcases hr.row hm with ⟨b', cap', len', hq', _, rfl, h3, h4, us, zs, hw, ha, h5⟩ | ⟨hq', rfl⟩
              · rw [hq] at hq'
                cases hq'
                have hlen : (l.take n).length = n := by simp; omega
                obtain ⟨g2, r2⟩ := hr.renew (w' := w) hq hm trivial (b := b) rfl (q' := .row b k n) (e' := .row c' (l.take n) e) rfl rfl rfl rfl rfl (fun _ _ => rfl) fun ρ' hle hf => by
                  refine ⟨hlen, hk, by omega, us.take (n * R.sz c'), us.drop (n * R.sz c') ++ zs, ?_, ?_, ?_⟩
                  · rw [← List.append_assoc, List.take_append_drop]; exact hw
                  · rw [encs_take]
                    exact (ha.take _).imp fun _ _ h' => h'.keep hf hr.fits hle
                  · have : k * R.sz c' ≤ cap * R.sz c' := Nat.mul_le_mul_right _ (by omega)
                    simp only [List.length_append, List.length_take, List.length_drop]
                    omega
                refine ⟨_, g2, r2, ?_⟩
                have := Is.row (R := R) (ρ := ⟨ρ.F, ρ.r ++ [.row b k n]⟩) (w := w) c' m.length b k n (last hr.len)
                show Is R _ w (.row c' m.length) (.slice (some ⟨b, 0 * R.sz c', none⟩) n k)
                rw [Nat.zero_mul]
                exact this
              · rw [hq] at hq'; cases hq'
          · exact same
        · exact same
      · exact same
    · exact same
  · exact frzT_ok v m hr hu
  · rename_i c e
    split
    · rename_i c' h
      split
      · rename_i hc
        have := Nat.eq_of_beq_eq_true hc
        subst this
        split
        · rename_i l hrow
          have hm := rowE_ok hrow
          rcases hr.row hm with ⟨b, cap, len, hq, _, h1, h2, h3, us, zs, hw, ha, h5⟩ | ⟨hq, rfl⟩
          · obtain ⟨g2, r2⟩ := hr.renew (w' := w) hq hm trivial (b := b) rfl (q' := .row b cap len) (e' := .row c' l e) rfl rfl rfl rfl rfl (fun _ _ => rfl) fun ρ' hle hf =>
              ⟨h1, h2, h3, us, zs, hw, ha.imp fun _ _ h' => h'.keep hf hr.fits hle, h5⟩
            cases hu with
            | rnil _ _ a hb => rw [hq] at hb; cases hb
            | row _ _ b' cap' len' hb =>
              rw [hq] at hb
              cases hb
              exact ⟨_, g2, r2, Is.row c' m.length b cap len (last hr.len)⟩
          · obtain ⟨g1, r1⟩ := hr.kill hm
            obtain ⟨g2, r2⟩ := r1.addnil c' e
            cases hu with
            | rnil _ _ a hb => exact ⟨_, g1.trans hr g2, r2, Is.rnil c' _ a (last hr.len)⟩
            | row _ _ b' cap' len' hb => rw [hq] at hb; cases hb
        · exact same
      · exact same
    · obtain ⟨g1, r1⟩ := hr.addnil c e
      cases hu
      exact ⟨_, g1, r1, Is.rnil c _ none (last hr.len)⟩
    · exact same
  · rename_i c q
    split
    · cases hu
      exact ⟨ρ, Go.refl ρ m w, hr, Is.sl c q 1 0 none 0 (by omega) (by omega) (.inl ⟨rfl, fun e => by omega⟩)⟩
    · rename_i c' h
      split
      · rename_i hc
        have := Nat.eq_of_beq_eq_true hc
        subst this
        split
        · rename_i ln hrow
          obtain ⟨l, t, hm, rfl⟩ := rowLen_ok hrow
          refine ⟨ρ, Go.refl ρ m w, hr, ?_⟩
          rcases hr.row hm with ⟨b, cap, len, hq, _, rfl, h1, h2, _⟩ | ⟨hq, rfl⟩
          · cases hu with
            | rnil _ _ a hb => rw [hq] at hb; cases hb
            | row _ _ b' cap' len' hb =>
              rw [hq] at hb
              cases hb
              exact Is.sl c' h 0 _ _ _ h1 (Nat.le_trans h1 h2) (.inr ⟨b, cap, _, hq, by omega, by omega, by simp, by omega⟩)
          · cases hu with
            | rnil _ _ a hb => exact Is.sl c' h 0 0 a 0 (by omega) (by omega) (.inl ⟨rfl, fun _ => ⟨_, hq, trivial⟩⟩)
            | row _ _ b' cap' len' hb => rw [hq] at hb; cases hb
        · exact same
      · exact same
    · exact same
  · exact same
theorem fix0_blk (cv : Option Cv) (v : Tv R.D) {m : List (Ent R.D)} {h : Nat} {cs : List (Lf R.D)} {t : TypeId} (hm : m[h]? = some (.blk cs t)) : (fix0 cv v m).2[h]? = some (.blk cs t) := by
  have hlt := live_lt hm
  have app : ∀ e : Ent R.D, (m ++ [e])[h]? = some (.blk cs t) := fun e => by rw [List.getElem?_append_left hlt]; exact hm
  unfold fix0
  split
  · exact hm
  · split
    · exact app _
    · exact hm
  · split
    · split
      · split <;> exact hm
      · exact hm
    · exact hm
  · split
    · exact app _
    · rename_i c' h' o n
      split
      · split
        · split
          · rename_i l hrow
            have h2 := rowE_ok hrow
            have hne : h' ≠ h := fun e => by subst e; rw [hm] at h2; cases h2
            rw [List.getElem?_append_left (by simpa using hlt), List.getElem?_set_ne hne]; exact hm
          · exact hm
        · exact hm
      · exact hm
    · exact hm
  · exact frzT_blk v hm
  · split
    · rename_i c' h'
      split
      · split
        · rename_i l hrow
          have h2 := rowE_ok hrow
          have hne : h' ≠ h := fun e => by subst e; rw [hm] at h2; cases h2
          rw [List.getElem?_append_left (by simpa using hlt), List.getElem?_set_ne hne]; exact hm
        · exact hm
      · exact hm
    · exact app _
    · exact hm
  · split
    · exact hm
    · split
      · split <;> exact hm
      · exact hm
    · exact hm
  · exact hm
/-- The same; a row, or a part of one, under a new handle. -/
def fix1 (cv : Option Cv) (v : Tv R.D) (m : List (Ent R.D)) : Tv R.D × List (Ent R.D) :=
  match cv with
  | some (.tmv c e) => match v with
    | .lf (.row c' h) => fix0 (some (.mv c e)) (.lf (.row c' h)) m
    | v => fix0 (some (.take c e)) v m
  | cv => fix0 cv v m
theorem fix1_ok (cv : Option Cv) (v : Tv R.D) (m : List (Ent R.D)) {ρ : Ow} {w : World} (hr : Rel R ρ m w) {u : Value} (hu : IsT R ρ w v u) : ∃ ρ', Go R ρ m w ρ' (fix1 cv v m).2 w ∧ Rel R ρ' (fix1 cv v m).2 w ∧ IsT R ρ' w (fix1 cv v m).1 u := by
  unfold fix1
  split
  · split
    · exact fix0_ok _ _ m hr hu
    · exact fix0_ok _ _ m hr hu
  · exact fix0_ok _ _ m hr hu
theorem fix1_blk (cv : Option Cv) (v : Tv R.D) {m : List (Ent R.D)} {h : Nat} {cs : List (Lf R.D)} {t : TypeId} (hm : m[h]? = some (.blk cs t)) : (fix1 cv v m).2[h]? = some (.blk cs t) := by
  unfold fix1
  split
  · split
    · exact fix0_blk _ _ hm
    · exact fix0_blk _ _ hm
  · exact fix0_blk _ _ hm
/-- Cells of a block that are nil, or parts of rows from their beginning, as rows. -/
def fixCells (h : Nat) : List (Nat × Nat × TypeId × Nat) → List (Ent R.D) → List (Ent R.D)
  | [], m => m
  | (j, c, e, q) :: r, m => match m[h]? with
    | some (.blk cs t) => match cs[j]? with
      | some (.v (.slice none 0 0)) => fixCells h r ((m ++ [(.row c [] e : Ent R.D)]).set h (.blk (cs.set j (.row c m.length)) t))
      | some (.sl c' h' o n) => match fix1 (some (.take c e)) (.lf (.sl c' h' o n)) m with
        | (.lf l', m') => fixCells h r (m'.set h (.blk (cs.set j l') t))
        | _ => fixCells h r m
      | some (.row c' h') => match Nat.blt h' q with
        | true => match fix1 (some (.mv c e)) (.lf (.row c' h')) m with
          | (.lf l', m') => fixCells h r (m'.set h (.blk (cs.set j l') t))
          | _ => fixCells h r m
        | false => fixCells h r m
      | _ => fixCells h r m
    | _ => m
theorem fixCells_ok (h : Nat) : ∀ (l : List (Nat × Nat × TypeId × Nat)) (m : List (Ent R.D)), Tells R m (fixCells h l m)
  | [], m => Tells.refl m
  | (j, c, e, q0) :: r, m => by
    unfold fixCells
    split
    · rename_i cs t hm
      split
      · rename_i hj
        refine Tells.trans ?_ (fixCells_ok h r _)
        intro ρ w hr
        obtain ⟨g1, r1⟩ := hr.addnil c e
        have hlt := live_lt hm
        have hm' : (m ++ [.row c [] e])[h]? = some (.blk cs t) := by rw [List.getElem?_append_left hlt]; exact hm
        obtain ⟨b, hb, hheld, us, hu, ha⟩ := r1.blk hm'
        obtain ⟨u, hju, hiu⟩ := ha.get _ _ hj
        cases hiu
        have hrow : Is R ⟨ρ.F, ρ.r ++ [.nil]⟩ w (.row c m.length) (.slice none 0 0) := Is.rnil c _ none (by show (ρ.r ++ [Bk.nil])[m.length]? = _; rw [← hr.len]; simp)
        have ha' := ha.set hrow j
        have hset : us.set j (.slice none 0 0) = us := by
          apply List.ext_getElem?
          intro k
          by_cases hk : j = k
          · subst hk
            rw [List.getElem?_set_self (List.getElem?_eq_some_iff.1 hju).1, hju]
          · rw [List.getElem?_set_ne hk]
        rw [hset] at ha'
        obtain ⟨g2, r2⟩ := r1.tell hb hm' trivial (e := .blk (cs.set j (.row c m.length)) t) ⟨us, hu, ha'⟩
        exact ⟨_, g1.trans hr g2, r2⟩
      · rename_i c' h' o n hj
        split
        · rename_i l' m' heq
          refine Tells.trans ?_ (fixCells_ok h r _)
          intro ρ w hr
          obtain ⟨b, hb, hheld, us, hu, ha⟩ := hr.blk hm
          obtain ⟨u, hju, hiu⟩ := ha.get _ _ hj
          obtain ⟨ρ1, g1, r1, k1⟩ := fix1_ok (some (.take c e)) (.lf (.sl c' h' o n)) m hr (u := u) hiu
          have hm1 := fix1_blk (some (.take c e)) (.lf (.sl c' h' o n)) hm
          rw [heq] at g1 r1 k1 hm1
          have ha1 := (ha.imp fun _ _ q => q.keep g1.fr hr.fits g1.ext.toLe).set (show Is R ρ1 w l' u from k1) j
          have hset : us.set j u = us := by
            apply List.ext_getElem?
            intro k
            by_cases hk : j = k
            · subst hk
              rw [List.getElem?_set_self (List.getElem?_eq_some_iff.1 hju).1, hju]
            · rw [List.getElem?_set_ne hk]
          rw [hset] at ha1
          obtain ⟨g2, r2⟩ := r1.tell (g1.ext.pre _ _ hb) hm1 trivial (e := .blk (cs.set j l') t) ⟨us, hu, ha1⟩
          exact ⟨_, g1.trans hr g2, r2⟩
        · exact fixCells_ok h r m
      · rename_i c' h' hj
        split
        case h_2 => exact fixCells_ok h r m
        split
        · rename_i l' m' heq
          refine Tells.trans ?_ (fixCells_ok h r _)
          intro ρ w hr
          obtain ⟨b, hb, hheld, us, hu, ha⟩ := hr.blk hm
          obtain ⟨u, hju, hiu⟩ := ha.get _ _ hj
          obtain ⟨ρ1, g1, r1, k1⟩ := fix1_ok (some (.mv c e)) (.lf (.row c' h')) m hr (u := u) hiu
          have hm1 := fix1_blk (some (.mv c e)) (.lf (.row c' h')) hm
          rw [heq] at g1 r1 k1 hm1
          have ha1 := (ha.imp fun _ _ q => q.keep g1.fr hr.fits g1.ext.toLe).set (show Is R ρ1 w l' u from k1) j
          have hset : us.set j u = us := by
            apply List.ext_getElem?
            intro k
            by_cases hk : j = k
            · subst hk
              rw [List.getElem?_set_self (List.getElem?_eq_some_iff.1 hju).1, hju]
            · rw [List.getElem?_set_ne hk]
          rw [hset] at ha1
          obtain ⟨g2, r2⟩ := r1.tell (g1.ext.pre _ _ hb) hm1 trivial (e := .blk (cs.set j l') t) ⟨us, hu, ha1⟩
          exact ⟨_, g1.trans hr g2, r2⟩
        · exact fixCells_ok h r m
      · exact fixCells_ok h r m
    · exact Tells.refl m
def fixFrom (own : TypeId → List (Nat × Nat × TypeId × Nat)) : Nat → Nat → List (Ent R.D) → List (Ent R.D)
  | 0, _, m => m
  | c + 1, h, m => match m[h]? with
    | some (.blk _ t) => match own t with
      | [] => fixFrom own c (h + 1) m
      | l => fixFrom own c (h + 1) (fixCells h l m)
    | _ => fixFrom own c (h + 1) m
theorem fixFrom_ok (own : TypeId → List (Nat × Nat × TypeId × Nat)) : ∀ (c h : Nat) (m : List (Ent R.D)), Tells R m (fixFrom own c h m)
  | 0, h, m => Tells.refl m
  | c + 1, h, m => by
    unfold fixFrom
    split
    · split
      · exact fixFrom_ok own c (h + 1) m
      · exact (fixCells_ok h _ m).trans (fixFrom_ok own c (h + 1) _)
    · exact fixFrom_ok own c (h + 1) m
/-- The same, no rows moved. -/
def own0 (own : TypeId → List (Nat × Nat × TypeId × Nat)) : TypeId → List (Nat × Nat × TypeId × Nat) := fun t => (own t).map fun x => (x.1, x.2.1, x.2.2.1, 0)
/-- The same, rows with handles below q moved. -/
def ownQ (own : TypeId → List (Nat × Nat × TypeId × Nat)) (q : Nat) : TypeId → List (Nat × Nat × TypeId × Nat) := fun t => (own t).map fun x => (x.1, x.2.1, x.2.2.1, q)
def fixM (own : TypeId → List (Nat × Nat × TypeId × Nat)) (m : List (Ent R.D)) : List (Ent R.D) := fixFrom own m.length 0 m
theorem fixM_ok (own : TypeId → List (Nat × Nat × TypeId × Nat)) (m : List (Ent R.D)) : Tells R m (fixM own m) := fixFrom_ok own _ _ m
def fixs : List (Option Cv) → List (Tv R.D) → List (Ent R.D) → List (Tv R.D) × List (Ent R.D)
  | cv :: cvs, v :: vs, m => match fix1 cv v m with
    | (v', m1) => match fixs cvs vs m1 with
      | (vs', m2) => (v' :: vs', m2)
  | _, vs, m => (vs, m)
theorem fixs_ok : ∀ (cvs : List (Option Cv)) (vs : List (Tv R.D)) (m : List (Ent R.D)) {ρ : Ow} {w : World}, Rel R ρ m w → ∀ {us : List Value}, All2 (IsT R ρ w) vs us → ∃ ρ', Go R ρ m w ρ' (fixs cvs vs m).2 w ∧ Rel R ρ' (fixs cvs vs m).2 w ∧ All2 (IsT R ρ' w) (fixs cvs vs m).1 us
  | [], vs, m, ρ, w, hr, us, hu => by simp only [fixs]; exact ⟨ρ, Go.refl ρ m w, hr, hu⟩
  | cv :: cvs, [], m, ρ, w, hr, us, hu => by simp only [fixs]; exact ⟨ρ, Go.refl ρ m w, hr, hu⟩
  | cv :: cvs, v :: vs, m, ρ, w, hr, us, hu => by
    cases hu with
    | cons h0 h1 =>
    obtain ⟨ρ1, g1, r1, k1⟩ := fix1_ok cv v m hr h0
    obtain ⟨ρ2, g2, r2, k2⟩ := fixs_ok cvs vs (fix1 cv v m).2 r1 (h1.imp fun a b h => h.keep g1.fr hr.fits g1.ext.toLe)
    exact ⟨ρ2, g1.trans hr g2, r2, .cons (k1.keep g2.fr r1.fits g2.ext.toLe) k2⟩
/-- One temporary: a cell, or the cells of what several results make. -/
def fixT (cvs : List (Option Cv)) (v : Tv R.D) (m : List (Ent R.D)) : Tv R.D × List (Ent R.D) :=
  match cvs with
  | [] => (v, m)
  | [cv] => fix1 cv v m
  | cvs => match v with
    | .tup vs => match go cvs vs m with
      | (vs, m) => (.tup vs, m)
    | v => (v, m)
 where
  go : List (Option Cv) → List (Av R.D) → List (Ent R.D) → List (Av R.D) × List (Ent R.D)
  | cv :: cvs, .lf l :: vs, m => match fix1 cv (.lf l) m with
    | (.lf l', m1) => match go cvs vs m1 with
      | (vs', m2) => (.lf l' :: vs', m2)
    | _ => (.lf l :: vs, m)
  | some .frz :: cvs, .agg cs :: vs, m => match frzs cs m with
    | (cs', m1) => match go cvs vs m1 with
      | (vs', m2) => (.agg cs' :: vs', m2)
  | _ :: cvs, .agg cs :: vs, m => match go cvs vs m with
    | (vs', m2) => (.agg cs :: vs', m2)
  | _, vs, m => (vs, m)
theorem fixT_go : ∀ (cvs : List (Option Cv)) (vs : List (Av R.D)) (m : List (Ent R.D)) {ρ : Ow} {w : World}, Rel R ρ m w → ∀ {us : List Value}, All2 (IsA R ρ w) vs us → ∃ ρ', Go R ρ m w ρ' (fixT.go cvs vs m).2 w ∧ Rel R ρ' (fixT.go cvs vs m).2 w ∧ All2 (IsA R ρ' w) (fixT.go cvs vs m).1 us
  | [], vs, m, ρ, w, hr, us, hu => by simp only [fixT.go]; exact ⟨ρ, Go.refl ρ m w, hr, hu⟩
  | cv :: cvs, [], m, ρ, w, hr, us, hu => by simp only [fixT.go]; exact ⟨ρ, Go.refl ρ m w, hr, hu⟩
  | cv :: cvs, .agg cs :: vs, m, ρ, w, hr, us, hu => by
    cases hu with
    | @cons a0 b0 l0 m0 h0 h1 =>
    have hsame : ∃ ρ', Go R ρ m w ρ' (fixT.go cvs vs m).2 w ∧ Rel R ρ' (fixT.go cvs vs m).2 w ∧ All2 (IsA R ρ' w) (.agg cs :: (fixT.go cvs vs m).1) (b0 :: m0) := by
      obtain ⟨ρ2, g2, r2, k2⟩ := fixT_go cvs vs m hr h1
      exact ⟨ρ2, g2, r2, .cons (IsA.keep h0 g2.fr hr.fits g2.ext.toLe) k2⟩
    cases cv with
    | none => simp only [fixT.go]; exact hsame
    | some cv =>
      cases cv with
      | frz =>
        simp only [fixT.go]
        obtain ⟨us, rfl, ha⟩ := h0
        obtain ⟨ρ1, g1, r1, k1⟩ := frzs_ok cs m hr ha
        obtain ⟨ρ2, g2, r2, k2⟩ := fixT_go cvs vs (frzs cs m).2 r1 (h1.imp fun a b h => IsA.keep h g1.fr hr.fits g1.ext.toLe)
        exact ⟨ρ2, g1.trans hr g2, r2, .cons (IsA.keep (a := .agg (frzs cs m).1) ⟨us, rfl, k1⟩ g2.fr r1.fits g2.ext.toLe) k2⟩
      | _ => simp only [fixT.go]; exact hsame
  | cv :: cvs, .lf l :: vs, m, ρ, w, hr, us, hu => by
    cases hu with
    | cons h0 h1 =>
    simp only [fixT.go]
    obtain ⟨ρ1, g1, r1, k1⟩ := fix1_ok cv (.lf l) m hr h0
    split
    · rename_i l' m1 heq
      rw [heq] at g1 r1 k1
      obtain ⟨ρ2, g2, r2, k2⟩ := fixT_go cvs vs m1 r1 (h1.imp fun a b h => IsA.keep h g1.fr hr.fits g1.ext.toLe)
      exact ⟨ρ2, g1.trans hr g2, r2, .cons (IsA.keep (a := .lf l') k1 g2.fr r1.fits g2.ext.toLe) k2⟩
    · exact ⟨ρ, Go.refl ρ m w, hr, .cons h0 h1⟩
theorem fixT_ok (cvs : List (Option Cv)) (v : Tv R.D) (m : List (Ent R.D)) {ρ : Ow} {w : World} (hr : Rel R ρ m w) {u : Value} (hu : IsT R ρ w v u) : ∃ ρ', Go R ρ m w ρ' (fixT cvs v m).2 w ∧ Rel R ρ' (fixT cvs v m).2 w ∧ IsT R ρ' w (fixT cvs v m).1 u := by
  unfold fixT
  split
  · exact ⟨ρ, Go.refl ρ m w, hr, hu⟩
  · exact fix1_ok _ v m hr hu
  · split
    · rename_i vs
      obtain ⟨us, hus, ha⟩ := hu
      obtain ⟨ρ', g, r, k⟩ := fixT_go _ vs m hr ha
      exact ⟨ρ', g, r, us, hus, k⟩
    · exact ⟨ρ, Go.refl ρ m w, hr, hu⟩
end
end Go.Proofs.Ytjfcfljdojkcdaa.Ev
