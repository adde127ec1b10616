/- Slices of one's own: rows that grow and are written; what a slice holds, however it is told. -/
import Derived.Test.YtjfcfljdojkcdaaEvI
import Derived.Deep.AppendSrc
namespace Go.Proofs.Ytjfcfljdojkcdaa.Ev
open Go Go.RowKit
set_option linter.unusedVariables false
set_option linter.unusedSimpArgs false
/-- Whatever one cell means the other means, too. -/
def Rf (R : Ro) (l l' : Lf R.D) : Prop := (∀ ρ w u, Is R ρ w l u → Is R ρ w l' u) ∧ ∀ c x, l = .ro c x → l' = .ro c x
theorem Rf.refl {R : Ro} (l : Lf R.D) : Rf R l l := ⟨fun _ _ _ h => h, fun _ _ h => h⟩
structure Dl (R : Ro) (Y : Type) where
  dec : Lf R.D → Option Y
  enc : Y → Lf R.D
  ok : ∀ l y, dec l = some y → Rf R l (enc y)
structure DL (R : Ro) (Y : Type) where
  dec : List (Lf R.D) → Option Y
  enc : Y → List (Lf R.D)
  ok : ∀ ls y, dec ls = some y → All2 (Rf R) ls (enc y)
/-- A struct that may be told as an element of a row that is only read. -/
structure RoT (R : Ro) where
  c : Nat
  d : DL R (R.D c)
  enc : ∀ x, d.enc x = R.enc c x

section
variable {R : Ro} {P : Program} {X : Type}
/-! ### Elements of a row -/
theorem encs_len (c : Nat) : ∀ l : List (R.D c), (encs R c l).length = l.length * R.sz c
  | [] => by simp [encs]
  | x :: l => by simp [encs, R.len, encs_len c l, Nat.add_mul, Nat.add_comm]
theorem encs_app (c : Nat) : ∀ l l' : List (R.D c), encs R c (l ++ l') = encs R c l ++ encs R c l'
  | [], l' => rfl
  | x :: l, l' => by simp [encs, encs_app c l l']
theorem all2_split {α β : Type} {r : α → β → Prop} {l l' : List α} {m : List β} (h : All2 r (l ++ l') m) : ∃ m1 m2, m = m1 ++ m2 ∧ All2 r l m1 ∧ All2 r l' m2 := by
  refine ⟨m.take l.length, m.drop l.length, (List.take_append_drop _ _).symm, ?_, ?_⟩
  · have := h.take l.length
    rwa [List.take_left' rfl] at this
  · have := h.drop l.length
    rwa [List.drop_left' rfl] at this
theorem encs_at {ρ : Ow} {w : World} {c : Nat} : ∀ {l : List (R.D c)} {us : List Value}, All2 (Is R ρ w) (encs R c l) us → ∀ {i : Nat} {x : R.D c}, l[i]? = some x → All2 (Is R ρ w) (R.enc c x) ((us.drop (i * R.sz c)).take (R.sz c))
  | [], us, _, i, x, h => by simp at h
  | y :: l, us, ha, i, x, h => by
    simp only [encs] at ha
    obtain ⟨u1, u2, rfl, h1, h2⟩ := all2_split ha
    have hl : u1.length = R.sz c := by rw [← h1.length, R.len]
    cases i with
    | zero =>
      simp only [List.getElem?_cons_zero, Option.some.injEq] at h
      subst h
      rw [Nat.zero_mul, List.drop_zero, List.take_left' hl]
      exact h1
    | succ i =>
      have := encs_at h2 (i := i) (by simpa using h)
      rwa [show (i + 1) * R.sz c = R.sz c + i * R.sz c by rw [Nat.add_mul, Nat.one_mul, Nat.add_comm], ← List.drop_drop, List.drop_left' hl]
theorem encs_cell {ρ : Ow} {w : World} {c : Nat} {l : List (R.D c)} {us : List Value} (ha : All2 (Is R ρ w) (encs R c l) us) {i j : Nat} (hi : i < l.length) (hj : j < R.sz c) : i * R.sz c + j < us.length := by
  rw [← ha.length, encs_len]
  have : (i + 1) * R.sz c ≤ l.length * R.sz c := Nat.mul_le_mul_right _ hi
  rw [Nat.add_mul, Nat.one_mul] at this
  omega
theorem encs_set {ρ : Ow} {w : World} {c : Nat} {x : R.D c} {vs : List Value} (hv : All2 (Is R ρ w) (R.enc c x) vs) : ∀ {l : List (R.D c)} {us : List Value}, All2 (Is R ρ w) (encs R c l) us → ∀ {i : Nat}, i < l.length → All2 (Is R ρ w) (encs R c (l.set i x)) (us.take (i * R.sz c) ++ vs ++ us.drop (i * R.sz c + R.sz c))
  | [], us, _, i, h => by simp at h
  | y :: l, us, ha, i, h => by
    simp only [encs] at ha
    obtain ⟨u1, u2, rfl, h1, h2⟩ := all2_split ha
    have hl : u1.length = R.sz c := by rw [← h1.length, R.len]
    cases i with
    | zero =>
      rw [Nat.zero_mul, List.take_zero, List.nil_append, Nat.zero_add, List.drop_left' hl, List.set_cons_zero]
      exact hv.append h2
    | succ i =>
      have := encs_set hv h2 (i := i) (by simpa using h)
      have e1 : (i + 1) * R.sz c = u1.length + i * R.sz c := by rw [hl, Nat.add_mul, Nat.one_mul, Nat.add_comm]
      rw [e1, List.take_length_add_append, Nat.add_assoc, List.drop_length_add_append, List.set_cons_succ, List.append_assoc, List.append_assoc]
      rw [List.append_assoc] at this
      exact h1.append this

/-! ### A row that is one's own -/
theorem Rel.row {ρ : Ow} {m : List (Ent R.D)} {w : World} (h : Rel R ρ m w) {i : Nat} {c : Nat} {l : List (R.D c)} {t : TypeId} (hi : m[i]? = some (.row c l t)) :
    (∃ b cap len, ρ.r[i]? = some (.row b cap len) ∧ Held ρ m b ∧ l.length = len ∧ len ≤ cap ∧ cap ≤ 9223372036854775807 ∧ ∃ us zs : List Value, w.heap[b]? = some (.cells (us ++ zs).toArray t (0, 0)) ∧ All2 (Is R ρ w) (encs R c l) us ∧ cap * R.sz c ≤ us.length + zs.length) ∨ (ρ.r[i]? = some .nil ∧ l = []) := by
  obtain ⟨q, hq, hok⟩ := h.at hi
  cases q with
  | blk b => exact hok.elim
  | row b cap len => exact .inl ⟨b, cap, len, hq, ⟨i, _, _, hq, hi, trivial, rfl⟩, hok⟩
  | nil => exact .inr ⟨hq, hok⟩
theorem row_cell {w : World} {b : Nat} {us zs : List Value} {t : TypeId} (h : w.heap[b]? = some (.cells (us ++ zs).toArray t (0, 0))) (j : Nat) : w.cell? ⟨b, j, none⟩ = (us ++ zs)[j]? := cell_blk h j
/-- A handle is given up. -/
theorem Rel.kill {ρ : Ow} {m : List (Ent R.D)} {w : World} (h : Rel R ρ m w) {i : Nat} {e0 : Ent R.D} (hm : m[i]? = some e0) : Go R ρ m w ρ (m.set i .dead) w ∧ Rel R ρ (m.set i .dead) w := by
  have hlt := live_lt hm
  have back : ∀ {j : Nat} {e' : Ent R.D}, (m.set i .dead)[j]? = some e' → e'.live → m[j]? = some e' := by
    intro j e' he hl
    by_cases hji : j = i
    · subst hji
      rw [List.getElem?_set_self hlt, Option.some.injEq] at he
      subst he
      exact hl.elim
    · rwa [List.getElem?_set_ne (Ne.symm hji)] at he
  have hheld : ∀ b, Held ρ (m.set i .dead) b → Held ρ m b := fun b ⟨j, q, e, h1, h2, h3, h4⟩ => ⟨j, q, e, h1, back h2 h3, h3, h4⟩
  refine ⟨⟨⟨Le.refl ρ w, fun _ hb _ => hb, fun b hb => .inl (hheld b hb), fun j hj => ?_⟩, Fr.refl _ _⟩, ⟨by simp [h.len], fun j k p q e e' b h1 h2 h3 h4 h5 h6 => h.nd j k p q e e' b h1 h2 (back h3 h5) (back h4 h6) h5 h6, h.lt, fun b hb => h.fits b (hheld b hb), fun j q e h1 h2 => ?_⟩⟩
  · by_cases hji : j = i
    · subst hji; rw [List.getElem?_set_self hlt]
    · rw [List.getElem?_set_ne (Ne.symm hji)]; exact hj
  · by_cases hl : e.live
    · exact h.ok j q e h1 (back h2 hl)
    · cases e with
      | dead => exact EntOk.none
      | _ => exact absurd trivial hl
/-- A handle that stands for nothing. -/
theorem Rel.addnil {ρ : Ow} {m : List (Ent R.D)} {w : World} (h : Rel R ρ m w) (c : Nat) (t : TypeId) : Go R ρ m w ⟨ρ.F, ρ.r ++ [.nil]⟩ (m ++ [.row c [] t]) w ∧ Rel R ⟨ρ.F, ρ.r ++ [.nil]⟩ (m ++ [.row c [] t]) w := by
  have split : ∀ {i : Nat} {p : Bk} {e' : Ent R.D}, (ρ.r ++ [Bk.nil])[i]? = some p → (m ++ [.row c [] t])[i]? = some e' → (ρ.r[i]? = some p ∧ m[i]? = some e') ∨ (p = .nil ∧ e' = .row c [] t) := by
    intro i p e' hi he
    rcases Nat.lt_or_ge i m.length with hlt | hge
    · rw [List.getElem?_append_left (by rw [h.len]; exact hlt)] at hi
      rw [List.getElem?_append_left hlt] at he
      exact .inl ⟨hi, he⟩
    · have h1 := (List.getElem?_eq_some_iff.1 he).1
      simp only [List.length_append, List.length_singleton] at h1
      have hi' : i = m.length := by omega
      subst hi'
      rw [List.getElem?_append_right (by rw [h.len]; exact Nat.le_refl _), h.len] at hi
      rw [List.getElem?_append_right (Nat.le_refl _)] at he
      simp at hi he
      exact .inr ⟨hi.symm, he.symm⟩
  have hle : Le ρ w ⟨ρ.F, ρ.r ++ [.nil]⟩ := ⟨fun i p hp => by
    show (ρ.r ++ [Bk.nil])[i]? = _
    rw [List.getElem?_append_left (List.getElem?_eq_some_iff.1 hp).1]; exact hp, fun b hb => .inl hb⟩
  have hheld : ∀ b, Held (⟨ρ.F, ρ.r ++ [.nil]⟩ : Ow) (m ++ [.row c [] t]) b → Held ρ m b := fun b ⟨i, q, e, h1, h2, h3, h4⟩ => by
    rcases split h1 h2 with ⟨k1, k2⟩ | ⟨rfl, rfl⟩
    · exact ⟨i, q, e, k1, k2, h3, h4⟩
    · cases h4
  refine ⟨⟨⟨hle, fun _ hb _ => hb, fun b hb => .inl (hheld b hb), fun i hi => ?_⟩, Fr.refl _ _⟩, ⟨by simp [h.len], ?_, h.lt, fun b hb => h.fits b (hheld b hb), fun i q e h1 h2 => ?_⟩⟩
  · rw [List.getElem?_append_left (live_lt hi)]; exact hi
  · intro i j p q e e' b h1 h2 h3 h4 h5 h6 h7 h8
    rcases split h1 h3 with ⟨k1, k2⟩ | ⟨rfl, rfl⟩
    · rcases split h2 h4 with ⟨k3, k4⟩ | ⟨rfl, rfl⟩
      · exact h.nd i j p q e e' b k1 k3 k2 k4 h5 h6 h7 h8
      · cases h8
    · cases h7
  · rcases split h1 h2 with ⟨k1, k2⟩ | ⟨rfl, rfl⟩
    · exact (h.ok i q e k1 k2).keep (Fr.refl (Held ρ m) w) h.fits hle fun _ _ _ => rfl
    · rfl
/-- A row under another handle: the old one is given up; its block has changed, nothing else. -/
theorem Rel.renew {ρ : Ow} {m : List (Ent R.D)} {w w' : World} (h : Rel R ρ m w) {i b : Nat} {q q' : Bk} {e0 e' : Ent R.D} (hi : ρ.r[i]? = some q) (hm : m[i]? = some e0) (hl : e0.live) (hq : q.b? = some b) (hq' : q'.b? = some b)
    (os : w'.os = w.os) (tape : w'.tape = w.tape) (output : w'.output = w.output) (size : w'.heap.size = w.heap.size) (far : ∀ k, k ≠ b → w'.heap[k]? = w.heap[k]?) (hok : ∀ ρ' : Ow, Le ρ w ρ' → Fr (Held ρ m) w w' → EntOk R ρ' w' q' e') :
    Go R ρ m w ⟨ρ.F, ρ.r ++ [q']⟩ (m.set i .dead ++ [e']) w' ∧ Rel R ⟨ρ.F, ρ.r ++ [q']⟩ (m.set i .dead ++ [e']) w' := by
  have hb : Held ρ m b := ⟨i, q, e0, hi, hm, hl, hq⟩
  have hf : Fr (Held ρ m) w w' := ⟨os, tape, output, by omega, fun k hk hn => far k (fun e => hn (e ▸ hb))⟩
  have hlt := live_lt hm
  have hlen : (m.set i (.dead : Ent R.D)).length = m.length := by simp
  have split : ∀ {j : Nat} {p : Bk} {e : Ent R.D}, (ρ.r ++ [q'])[j]? = some p → (m.set i .dead ++ [e'])[j]? = some e → e.live → (j ≠ i ∧ ρ.r[j]? = some p ∧ m[j]? = some e) ∨ (j = m.length ∧ p = q' ∧ e = e') := by
    intro j p e hj he hle
    rcases Nat.lt_or_ge j m.length with hlt' | hge
    · rw [List.getElem?_append_left (by rw [h.len]; exact hlt')] at hj
      rw [List.getElem?_append_left (by rw [hlen]; exact hlt')] at he
      by_cases hji : j = i
      · subst hji
        rw [List.getElem?_set_self hlt, Option.some.injEq] at he
        subst he
        exact hle.elim
      · rw [List.getElem?_set_ne (Ne.symm hji)] at he
        exact .inl ⟨hji, hj, he⟩
    · have h1 := (List.getElem?_eq_some_iff.1 he).1
      simp only [List.length_append, List.length_singleton, hlen] at h1
      have hj' : j = m.length := by omega
      subst hj'
      rw [List.getElem?_append_right (by rw [h.len]; exact Nat.le_refl _), h.len] at hj
      rw [List.getElem?_append_right (by rw [hlen]; exact Nat.le_refl _), hlen] at he
      simp at hj he
      exact .inr ⟨rfl, hj.symm, he.symm⟩
  have hle : Le ρ w ⟨ρ.F, ρ.r ++ [q']⟩ := ⟨fun j p hp => by
    show (ρ.r ++ [q'])[j]? = _
    rw [List.getElem?_append_left (List.getElem?_eq_some_iff.1 hp).1]; exact hp, fun b hb => .inl hb⟩
  have hheld : ∀ b', Held (⟨ρ.F, ρ.r ++ [q']⟩ : Ow) (m.set i .dead ++ [e']) b' → Held ρ m b' := by
    intro b' ⟨j, p, e, hj, he, hle', hp⟩
    rcases split hj he hle' with ⟨_, h1, h2⟩ | ⟨_, rfl, rfl⟩
    · exact ⟨j, p, e, h1, h2, hle', hp⟩
    · rw [hq'] at hp
      cases hp
      exact hb
  refine ⟨⟨⟨hle, fun _ hb _ => hb, fun b' hb' => .inl (hheld b' hb'), fun j hj => ?_⟩, hf⟩, ⟨by simp [h.len], ?_, fun b' hb' => by rw [size]; exact h.lt b' hb', fun b' hb' => h.fits b' (hheld b' hb'), fun j p e hj he => ?_⟩⟩
  · rw [List.getElem?_append_left (by rw [hlen]; exact live_lt hj)]
    by_cases hji : j = i
    · subst hji; rw [List.getElem?_set_self hlt]
    · rw [List.getElem?_set_ne (Ne.symm hji)]; exact hj
  · intro j k p p' e1 e2 b' hj hk hje hke hl1 hl2 hp hp'
    rcases split hj hje hl1 with ⟨n1, h1, h2⟩ | ⟨rfl, rfl, rfl⟩
    · rcases split hk hke hl2 with ⟨n2, h3, h4⟩ | ⟨rfl, rfl, rfl⟩
      · exact h.nd j k p p' e1 e2 b' h1 h3 h2 h4 hl1 hl2 hp hp'
      · rw [hq'] at hp'
        cases hp'
        exact absurd (h.nd j i p q e1 e0 b h1 hi h2 hm hl1 hl hp hq) n1
    · rcases split hk hke hl2 with ⟨n2, h3, h4⟩ | ⟨rfl, rfl, rfl⟩
      · rw [hq'] at hp
        cases hp
        exact absurd (h.nd k i p' q e2 e0 b h3 hi h4 hm hl2 hl hp' hq) n2
      · rfl
  · by_cases hle' : e.live
    · rcases split hj he hle' with ⟨n1, h1, h2⟩ | ⟨rfl, rfl, rfl⟩
      · refine (h.ok j p e h1 h2).keep hf h.fits hle fun b' hb' _ => far b' fun e1 => ?_
        subst e1
        exact n1 (h.nd j i p q e e0 b' h1 hi h2 hm hle' hl hb' hq)
      · exact hok _ hle hf
    · cases e with
      | dead => exact EntOk.none
      | _ => exact absurd trivial hle'

/-! ### What a slice holds -/
def castD {D : Nat → Type} {c c' : Nat} (h : Nat.beq c c' = true) (l : List (D c)) : List (D c') := (Nat.eq_of_beq_eq_true h) ▸ l
def srcOf {D : Nat → Type} (m : List (Ent D)) (c : Nat) : Tv D → Option (List (D c))
  | .lf (.ro c' l) => match h : Nat.beq c' c with
    | true => some (castD h l)
    | false => none
  | .lf (.row c0 h) => match m[h]? with
    | some (.row c' l _) => match Nat.beq c0 c with
      | true => match h : Nat.beq c' c with
        | true => some (castD h l)
        | false => none
      | false => none
    | _ => none
  | .lf (.sl c0 h o n) => match m[h]? with
    | some (.row c' l _) => match Nat.beq c0 c with
      | true => match h : Nat.beq c' c with
        | true => some (((castD h l).drop o).take n)
        | false => none
      | false => none
    | _ => none
  | .lf (.v (.slice none 0 0)) => some []
  | _ => none
theorem encs_drop {c : Nat} (l : List (R.D c)) : ∀ o, encs R c (l.drop o) = (encs R c l).drop (o * R.sz c) := by
  induction l with
  | nil => intro o; simp [encs]
  | cons x l ih =>
    intro o
    cases o with
    | zero => simp
    | succ o =>
      rw [List.drop_succ_cons, ih, encs, show (o + 1) * R.sz c = R.sz c + o * R.sz c by rw [Nat.add_mul, Nat.one_mul, Nat.add_comm], ← List.drop_drop, List.drop_left' (R.len c x)]
theorem encs_take {c : Nat} (l : List (R.D c)) : ∀ n, encs R c (l.take n) = (encs R c l).take (n * R.sz c) := by
  induction l with
  | nil => intro n; simp [encs]
  | cons x l ih =>
    intro n
    cases n with
    | zero => simp [encs]
    | succ n =>
      have : (n + 1) * R.sz c = (R.enc c x).length + n * R.sz c := by rw [R.len, Nat.add_mul, Nat.one_mul, Nat.add_comm]
      rw [List.take_succ_cons, encs, encs, ih, this, List.take_length_add_append]
/-- The cells of a slice's elements. -/
def Holds (R : Ro) (ρ : Ow) (w : World) (c : Nat) (l : List (R.D c)) (u : Value) : Prop :=
  ∃ (a : Option Addr) (cap : Nat) (us : List Value), u = .slice a l.length cap ∧ l.length ≤ cap ∧ l.length ≤ 9223372036854775807 ∧ All2 (Is R ρ w) (encs R c l) us ∧ (l = [] ∨ ∃ b o, a = some ⟨b, o, none⟩ ∧ ∀ j v, us[j]? = some v → w.cell? ⟨b, o + j, none⟩ = some v)
theorem all2_of_get {α β : Type} {r : α → β → Prop} : ∀ {l : List α} {m : List β}, l.length = m.length → (∀ (i : Nat) (a : α) (b : β), l[i]? = some a → m[i]? = some b → r a b) → All2 r l m
  | [], [], _, _ => .nil
  | [], _ :: _, h, _ => by simp at h
  | _ :: _, [], h, _ => by simp at h
  | a :: l, b :: m, h, hr => .cons (hr 0 a b rfl rfl) (all2_of_get (by simpa using h) fun i a b h1 h2 => hr (i + 1) a b (by simpa using h1) (by simpa using h2))
theorem encs_get {c : Nat} : ∀ {l : List (R.D c)} {k : Nat} {lf : Lf R.D}, (encs R c l)[k]? = some lf → ∃ i x, l[i]? = some x ∧ (R.enc c x)[k - i * R.sz c]? = some lf ∧ i * R.sz c ≤ k ∧ k - i * R.sz c < R.sz c
  | [], k, lf, h => by simp [encs] at h
  | x :: l, k, lf, h => by
    simp only [encs] at h
    rcases Nat.lt_or_ge k (R.sz c) with hk | hk
    · rw [List.getElem?_append_left (by rw [R.len]; exact hk)] at h
      exact ⟨0, x, rfl, by simpa using h, by simp, by simpa using hk⟩
    · rw [List.getElem?_append_right (by rw [R.len]; exact hk), R.len] at h
      obtain ⟨i, y, h1, h2, h3, h4⟩ := encs_get h
      have e : (i + 1) * R.sz c = i * R.sz c + R.sz c := by rw [Nat.add_mul, Nat.one_mul]
      refine ⟨i + 1, y, by simpa using h1, ?_, by omega, by omega⟩
      rw [show k - (i + 1) * R.sz c = k - R.sz c - i * R.sz c by omega]
      exact h2
theorem ro_holds {ρ : Ow} {w : World} {c : Nat} {l : List (R.D c)} {u : Value} (h : Is R ρ w (.ro c l) u) : Holds R ρ w c l u := by
  cases h with
  | nil => exact ⟨_, _, [], rfl, by simp, by simp, .nil, .inl rfl⟩
  | ro _ _ b o cap f hL hl hb hn hc hv =>
    refine ⟨_, cap, (List.range (l.length * R.sz c)).map fun k => f (k / R.sz c) (k % R.sz c), rfl, hl, hL, all2_of_get (by simp [encs_len]) fun k lf v h1 h2 => ?_, .inr ⟨b, o, rfl, fun k v hk => ?_⟩⟩
    · obtain ⟨i, x, h3, h4, h5, h6⟩ := encs_get h1
      have hlt := (List.getElem?_eq_some_iff.1 h2).1
      simp only [List.length_map, List.length_range] at hlt
      rw [List.getElem?_map, List.getElem?_range hlt] at h2
      cases h2
      have e1 : k / R.sz c = i := by
        have := Nat.div_eq_of_lt_le (n := R.sz c) (m := k) (k := i) (by rw [Nat.mul_comm] at h5 ⊢; first | omega | (rw [Nat.mul_comm]; omega)) (by rw [Nat.add_mul, Nat.one_mul]; omega)
        exact this
      have e2 : k % R.sz c = k - i * R.sz c := by
        have := Nat.div_add_mod k (R.sz c)
        rw [e1, Nat.mul_comm] at this
        omega
      show Is R ρ w lf (f (k / R.sz c) (k % R.sz c))
      rw [e1, e2]
      exact hv i x _ lf h3 h4
    · have hlt := (List.getElem?_eq_some_iff.1 hk).1
      simp only [List.length_map, List.length_range] at hlt
      rw [List.getElem?_map, List.getElem?_range hlt] at hk
      cases hk
      have hs : 0 < R.sz c := Nat.pos_of_ne_zero fun e => by rw [e] at hlt; omega
      have h1 : k / R.sz c < l.length := Nat.div_lt_of_lt_mul (by rw [Nat.mul_comm]; exact hlt)
      rw [← hc _ _ h1 (Nat.mod_lt _ hs)]
      congr 2
      have := Nat.div_add_mod k (R.sz c)
      rw [Nat.mul_comm] at this
      omega
theorem srcOf_ok {m : List (Ent R.D)} {c : Nat} {v : Tv R.D} {l : List (R.D c)} (h : srcOf m c v = some l) {ρ : Ow} {w : World} {u : Value} (hr : Rel R ρ m w) (hu : IsT R ρ w v u) : Holds R ρ w c l u := by
  unfold srcOf at h
  split at h
  · split at h
    · rename_i hc
      have := Nat.eq_of_beq_eq_true hc
      subst this
      cases h
      exact ro_holds hu
    · cases h
  · split at h
    · rename_i c' l' t hm
      split at h
      · rename_i hc
        split at h
        · rename_i hc'
          have := Nat.eq_of_beq_eq_true hc
          subst this
          have := Nat.eq_of_beq_eq_true hc'
          subst this
          cases h
          rcases hr.row hm with ⟨b, cap, len, hq, _, rfl, h1, h2, us, zs, hw, ha, h3⟩ | ⟨hq, rfl⟩
          · cases hu with
            | row _ _ b' cap' len' hb =>
              rw [hq] at hb
              cases hb
              refine ⟨_, cap, us, rfl, h1, Nat.le_trans h1 h2, ha, .inr ⟨b, 0, rfl, fun j v hj => ?_⟩⟩
              rw [Nat.zero_add, row_cell hw, List.getElem?_append_left (List.getElem?_eq_some_iff.1 hj).1]
              exact hj
            | rnil _ _ a hb => rw [hq] at hb; cases hb
          · cases hu with
            | row _ _ b' cap' len' hb => rw [hq] at hb; cases hb
            | rnil _ _ a hb => exact ⟨_, _, [], rfl, by simp [castD], by simp [castD], .nil, .inl rfl⟩
        · cases h
      · cases h
    · cases h
  · split at h
    · rename_i c0 h0 o n _ c' l' t hm
      split at h
      · rename_i hc
        split at h
        · rename_i hc'
          have := Nat.eq_of_beq_eq_true hc
          subst this
          have := Nat.eq_of_beq_eq_true hc'
          subst this
          cases h
          show Holds R ρ w _ ((l'.drop o).take n) u
          cases hu with
          | sl _ _ _ _ a k hk hL hb =>
          rcases hb with ⟨rfl, hk0⟩ | ⟨b, cap, len, hb, hon, _, rfl, hk1⟩
          · have : n = 0 := by omega
            subst this
            exact ⟨_, _, [], rfl, by simp, by simp, .nil, .inl (by simp)⟩
          · rcases hr.row hm with ⟨b', cap', len', hq, _, rfl, h1, h2, us, zs, hw, ha, h3⟩ | ⟨hq, rfl⟩
            · rw [hq] at hb
              cases hb
              have hlen : ((l'.drop o).take n).length = n := by simp; omega
              refine ⟨_, k, (us.drop (o * R.sz c')).take (n * R.sz c'), by rw [hlen], by rw [hlen]; exact hk, by rw [hlen]; exact hL, by rw [encs_take, encs_drop]; exact (ha.drop _).take _, .inr ⟨b, o * R.sz c', rfl, fun j v hj => ?_⟩⟩
              rw [List.getElem?_take] at hj
              split at hj
              · rw [List.getElem?_drop] at hj
                rw [row_cell hw, List.getElem?_append_left (List.getElem?_eq_some_iff.1 hj).1]
                exact hj
              · cases hj
            · rw [hq] at hb; cases hb
        · cases h
      · cases h
    · cases h
  · cases h
    cases hu
    exact ⟨none, 0, [], rfl, by simp, by simp, .nil, .inl rfl⟩
  · cases h
theorem Holds.src {ρ : Ow} {w : World} {c : Nat} {l : List (R.D c)} {u : Value} (h : Holds R ρ w c l u) {tx e' : TypeId} (hk : P.underlying tx = some (.slice e')) : ∃ news, Src P (R.sz c) tx u l.length news w ∧ All2 (Is R ρ w) (encs R c l) news := by
  obtain ⟨a, cap, us, rfl, h1, h2, ha, hs⟩ := h
  refine ⟨us, ?_, ha⟩
  have hlen : us.length = l.length * R.sz c := by rw [← ha.length, encs_len]
  rcases hs with rfl | ⟨b, o, rfl, hc⟩
  · have : us = [] := List.length_eq_zero_iff.1 (by simpa using hlen)
    subst this
    cases a with
    | none => exact Src.ofNil w hk cap
    | some a => exact Src.ofSlice w hk a 0 cap [] (by simp) (by simp) (by simp)
  · exact Src.ofSlice w hk ⟨b, o, none⟩ _ cap us hlen (fun j v hj => by rw [add_at]; exact hc j v hj) (all2_one ha)
end
end Go.Proofs.Ytjfcfljdojkcdaa.Ev
