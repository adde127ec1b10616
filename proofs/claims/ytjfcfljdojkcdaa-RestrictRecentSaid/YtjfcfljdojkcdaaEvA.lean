/- The evaluator's values, what they mean in a world, and how meaning is kept while memory grows. -/
import Derived.Below
import Derived.Orders
import Derived.Laws.Entries
import Derived.KernelRfl
import Derived.OpenShut
namespace Go.Proofs.Ytjfcfljdojkcdaa.Ev
open Go Go.RowKit
set_option linter.unusedVariables false
set_option linter.unusedSimpArgs false

def mx (a b : Int) : Int := if a < b then b else a
def mn (a b : Int) : Int := if b < a then b else a
def shl (k : IntKind) (x y : Int) : Int := k.wrap (x * 2 ^ min y.toNat k.bits)
def shr (k : IntKind) (x y : Int) : Int := x / 2 ^ min y.toNat k.bits
def rd (xs : List Int) (i : Int) : Int := xs.getD i.toNat 0
def rdOf {α : Type} (d : α) (xs : List α) (i : Int) : α := xs.getD i.toNat d
def bt (s : ByteArray) (i : Int) : Int := if h : i.toNat < s.size then ((s[i.toNat]'h).toNat : Int) else 0

/-- What is made of x, told once. -/
def lt {α β : Type} (x : α) (f : α → β) : β := f x
/-- What a map of whole numbers says of one. -/
def mapv (d : Int) : List (Int × Int) → Int → Int
  | [], _ => d
  | (k, v) :: r, n => if n = k then v else mapv d r n
/-- The same both ways. -/
noncomputable def fork {X : Type} (p q : Option X) : Option X := match p with
  | some a => match q with
    | some b => @ite _ (a = b) (Classical.propDecidable _) (some a) none
    | none => none
  | none => none
/-- A slice that holds 'l': what follows if it is nil ('a': only where it holds nothing), and if it is not ('b'). -/
noncomputable def nilc {α X : Type} (l : List α) (a b : Option X) : Option X := match l with
  | [] => fork a b
  | _ :: _ => b
theorem nilc_ok {α X : Type} {l : List α} {a b : Option X} {x : X} (h : nilc l a b = some x) : (l = [] → a = some x) ∧ b = some x := by
  unfold nilc at h
  split at h
  · unfold fork at h
    split at h
    · split at h
      · split at h
        · rename_i e
          cases h
          exact ⟨fun _ => rfl, by rw [e]⟩
        · cases h
      · cases h
    · cases h
  · exact ⟨(fun e => nomatch e), h⟩
theorem nilc_of {α X : Type} {l : List α} {a b : Option X} {x : X} (hb : b = some x) (ha : l = [] → a = some x) : nilc l a b = some x := by
  unfold nilc
  split
  · rw [ha rfl, hb]
    unfold fork
    simp
  · exact hb
/-- What may stand in a cell by itself; a whole number is of its kind. -/
def okV : Value → Bool
  | .agg _ | .tuple _ => false
  | .int k n => (Lit.int k n).wf
  | .string s => Nat.ble s.size 9223372036854775807
  | _ => true
theorem okV_one {v : Value} (h : okV v = true) : v.oneCell' = true := by
  cases v <;> first | rfl | (simp [okV] at h)
/-- A cell. -/
inductive Lf (D : Nat → Type) : Type where
  | v (v : Value)
  | cmp (p : Prop) (d : Decidable p)
  | ptr (h off : Nat)
  | ro (c : Nat) (l : List (D c))
  | row (c h : Nat)
  | sl (c h o n : Nat)
  | rp (c h : Nat) (i : Int) (j : Nat)
  | ept (c : Nat) (l : List (D c)) (i : Int) (j : Nat)
  | fn (f : FuncId) (caps : List (Nat × Nat))
  | ifc (t : TypeId) (h off : Nat)
  | mref (h : Nat)
  | full (c : Nat) (l : List (D c))

def lfFree {D : Nat → Type} : Lf D → Bool
  | .ptr _ _ => false
  | .row _ _ => false
  | .sl _ _ _ _ => false
  | .rp _ _ _ _ => false
  | .fn _ _ => false
  | .ifc _ _ _ => false
  | .mref _ => false
  | _ => true
/-- The kinds of rows that are only read: their elements as plain data, and as cells. -/
structure Ro where
  D : Nat → Type
  enc : (c : Nat) → D c → List (Lf D)
  dec : (c : Nat) → List (Lf D) → Option (D c)
  z : (c : Nat) → D c
  sz : Nat → Nat
  len : ∀ c x, (enc c x).length = sz c
  free : ∀ c x, (enc c x).all lfFree = true

inductive All2 {α β : Type} (r : α → β → Prop) : List α → List β → Prop
  | nil : All2 r [] []
  | cons {a : α} {b : β} {l : List α} {m : List β} : r a b → All2 r l m → All2 r (a :: l) (b :: m)
namespace All2
variable {α β : Type} {r : α → β → Prop}
theorem length {l : List α} {m : List β} (h : All2 r l m) : l.length = m.length := by
  induction h with
  | nil => rfl
  | cons _ _ ih => simp [ih]
theorem get {l : List α} {m : List β} (h : All2 r l m) : ∀ (i : Nat) (a : α), l[i]? = some a → ∃ b, m[i]? = some b ∧ r a b := by
  induction h with
  | nil => intro i a h; simp at h
  | cons h0 _ ih =>
    intro i a h
    cases i with
    | zero => simp at h; subst h; exact ⟨_, by simp, h0⟩
    | succ i => simpa using ih i a (by simpa using h)
theorem imp {r' : α → β → Prop} {l : List α} {m : List β} (h : All2 r l m) (hi : ∀ a b, r a b → r' a b) : All2 r' l m := by
  induction h with
  | nil => exact .nil
  | cons h0 _ ih => exact .cons (hi _ _ h0) ih
theorem append {l l' : List α} {m m' : List β} (h : All2 r l m) (h' : All2 r l' m') : All2 r (l ++ l') (m ++ m') := by
  induction h with
  | nil => exact h'
  | cons h0 _ ih => exact .cons h0 ih
theorem take {l : List α} {m : List β} (h : All2 r l m) : ∀ n, All2 r (l.take n) (m.take n) := by
  induction h with
  | nil => intro n; simp; exact .nil
  | cons h0 _ ih =>
    intro n
    cases n with
    | zero => exact .nil
    | succ n => exact .cons h0 (ih n)
theorem drop {l : List α} {m : List β} (h : All2 r l m) : ∀ n, All2 r (l.drop n) (m.drop n) := by
  induction h with
  | nil => intro n; simp; exact .nil
  | cons h0 h1 ih =>
    intro n
    cases n with
    | zero => exact .cons h0 h1
    | succ n => exact ih n
theorem set {l : List α} {m : List β} (h : All2 r l m) {a : α} {b : β} (h0 : r a b) : ∀ i, All2 r (l.set i a) (m.set i b) := by
  induction h with
  | nil => intro i; exact .nil
  | cons h1 h2 ih =>
    intro i
    cases i with
    | zero => exact .cons h0 h2
    | succ i => exact .cons h1 (ih i)
theorem of_map {γ : Type} {f : γ → α} {g : γ → β} (h : ∀ c, r (f c) (g c)) : ∀ l : List γ, All2 r (l.map f) (l.map g)
  | [] => .nil
  | c :: l => .cons (h c) (of_map h l)
end All2

/-- What a handle stands for: a block; a slice's whole row (its block, how many elements the block bears, how many the slice has); a slice without a row. -/
inductive Bk where
  | blk (b : Nat)
  | row (b cap len : Nat)
  | nil
/-- A slice's row without elements. -/
def Bk.len0 : Bk → Prop
  | .blk _ => False
  | .row _ _ len => len = 0
  | .nil => True
def Bk.b? : Bk → Option Nat
  | .blk b => some b
  | .row b _ _ => some b
  | .nil => none
/-- What is the call's own ('r', by its numbers here), and all blocks that somebody owns ('F'). -/
structure Ow where
  F : Nat → Prop
  r : List Bk
section
variable {R : Ro}
/-- What a cell's value may be, the call's own being 'ρ'. -/
inductive Is (R : Ro) (ρ : Ow) (w : World) : Lf R.D → Value → Prop where
  | v (x : Value) (h : okV x = true) : Is R ρ w (.v x) x
  | cmp (p : Prop) (d : Decidable p) : Is R ρ w (.cmp p d) (.bool (@decide p d))
  | ptr (h off b : Nat) (hb : ρ.r[h]? = some (.blk b)) : Is R ρ w (.ptr h off) (.pointer (some ⟨b, off, none⟩))
  | nil (c : Nat) (a : Option Addr) (cap : Nat) : Is R ρ w (.ro c []) (.slice a 0 cap)
  | ro (c : Nat) (l : List (R.D c)) (b o cap : Nat) (f : Nat → Nat → Value) (hL : l.length ≤ 9223372036854775807) (hl : l.length ≤ cap) (hb : b < w.heap.size) (hn : ¬ ρ.F b)
      (hc : ∀ i j, i < l.length → j < R.sz c → w.cell? ⟨b, o + i * R.sz c + j, none⟩ = some (f i j))
      (hv : ∀ i x j lf, l[i]? = some x → (R.enc c x)[j]? = some lf → Is R ρ w lf (f i j)) : Is R ρ w (.ro c l) (.slice (some ⟨b, o, none⟩) l.length cap)
  | row (c h b cap len : Nat) (hb : ρ.r[h]? = some (.row b cap len)) : Is R ρ w (.row c h) (.slice (some ⟨b, 0, none⟩) len cap)
  | rnil (c h : Nat) (a : Option Addr) (hb : ρ.r[h]? = some .nil) : Is R ρ w (.row c h) (.slice a 0 0)
  | sl (c h o n : Nat) (a : Option Addr) (k : Nat) (hk : n ≤ k) (hL : n ≤ 9223372036854775807) (hb : (k = 0 ∧ (o = 0 → ∃ q, ρ.r[h]? = some q ∧ q.len0)) ∨ ∃ b cap len, ρ.r[h]? = some (.row b cap len) ∧ o + n ≤ len ∧ o + k ≤ cap ∧ a = some ⟨b, o * R.sz c, none⟩ ∧ len ≤ o + k) : Is R ρ w (.sl c h o n) (.slice a n k)
  | rp (c h b cap len : Nat) (i : Int) (j : Nat) (hb : ρ.r[h]? = some (.row b cap len)) (h0 : 0 ≤ i) (h1 : i.toNat < len) : Is R ρ w (.rp c h i j) (.pointer (some ⟨b, i.toNat * R.sz c + j, none⟩))
  | ept (c : Nat) (l : List (R.D c)) (b o : Nat) (i : Int) (k : Nat) (f : Nat → Nat → Value) (hb : b < w.heap.size) (hn : ¬ ρ.F b) (h0 : 0 ≤ i) (h1 : i.toNat < l.length)
      (hc : ∀ i j, i < l.length → j < R.sz c → w.cell? ⟨b, o + i * R.sz c + j, none⟩ = some (f i j))
      (hv : ∀ i x j lf, l[i]? = some x → (R.enc c x)[j]? = some lf → Is R ρ w lf (f i j)) : Is R ρ w (.ept c l i k) (.pointer (some ⟨b, o + i.toNat * R.sz c + k, none⟩))
  | fn (f : FuncId) (caps : List (Nat × Nat)) (vs : List Value) (h : All2 (fun (c : Nat × Nat) u => ∃ b, ρ.r[c.1]? = some (.blk b) ∧ u = .pointer (some ⟨b, c.2, none⟩)) caps vs) : Is R ρ w (.fn f caps) (.func (.func f) #[] vs.toArray)
  | ifc (t : TypeId) (h off b : Nat) (hb : ρ.r[h]? = some (.blk b)) : Is R ρ w (.ifc t h off) (.iface t (.pointer (some ⟨b, off, none⟩)))
  | mref (h b : Nat) (hb : ρ.r[h]? = some (.blk b)) : Is R ρ w (.mref h) (.map (some b))
  | full (c : Nat) (l : List (R.D c)) (a : Option Addr) (h : Is R ρ w (.ro c l) (.slice a l.length l.length)) : Is R ρ w (.full c l) (.slice a l.length l.length)

theorem Is.val {ρ : Ow} {w : World} {x u : Value} (h : Is R ρ w (.v x) u) : u = x := by cases h; rfl
/-- A value: a cell, or a struct's, or an array's, cells. -/
inductive Av (D : Nat → Type) : Type where
  | lf (l : Lf D)
  | agg (cs : List (Lf D))
/-- What a temporary holds. -/
inductive Tv (D : Nat → Type) : Type where
  | lf (l : Lf D)
  | agg (cs : List (Lf D))
  | tup (vs : List (Av D))
  | un
def IsA (R : Ro) (ρ : Ow) (w : World) : Av R.D → Value → Prop
  | .lf l, u => Is R ρ w l u
  | .agg cs, u => ∃ us : List Value, u = .agg us.toArray ∧ All2 (Is R ρ w) cs us
def IsT (R : Ro) (ρ : Ow) (w : World) : Tv R.D → Value → Prop
  | .lf l, u => Is R ρ w l u
  | .agg cs, u => ∃ us : List Value, u = .agg us.toArray ∧ All2 (Is R ρ w) cs us
  | .tup vs, u => ∃ us : List Value, u = .tuple us.toArray ∧ All2 (IsA R ρ w) vs us
  | .un, u => u = undef
theorem Is.one {ρ : Ow} {w : World} {l : Lf R.D} {u : Value} (h : Is R ρ w l u) : u.oneCell' = true := by
  cases h <;> first | rfl | (exact okV_one (by assumption))

/-- What a call may change: what is its own ('H'), and what was not there. -/
structure Fr (H : Nat → Prop) (w w' : World) : Prop where
  os : w'.os = w.os
  tape : w'.tape = w.tape
  output : w'.output = w.output
  size : w.heap.size ≤ w'.heap.size
  blk : ∀ b, b < w.heap.size → ¬ H b → w'.heap[b]? = w.heap[b]?
theorem Fr.refl (H : Nat → Prop) (w : World) : Fr H w w := ⟨rfl, rfl, rfl, Nat.le_refl _, fun _ _ _ => rfl⟩
theorem Fr.of_heap {H : Nat → Prop} {w w' : World} (os : w'.os = w.os) (tape : w'.tape = w.tape) (output : w'.output = w.output) (h : w'.heap = w.heap) : Fr H w w' :=
  ⟨os, tape, output, by rw [h]; exact Nat.le_refl _, fun b _ _ => by rw [h]⟩
theorem Fr.trans {H H' : Nat → Prop} {w w' w'' : World} (h : Fr H w w') (hs : ∀ b, H' b → H b ∨ w.heap.size ≤ b) (h' : Fr H' w' w'') : Fr H w w'' :=
  ⟨h'.os.trans h.os, h'.tape.trans h.tape, h'.output.trans h.output, Nat.le_trans h.size h'.size, fun b hb hn => by
    rw [h'.blk b (Nat.lt_of_lt_of_le hb h.size) (fun hm => by
      rcases hs b hm with h1 | h1
      · exact hn h1
      · omega), h.blk b hb hn]⟩
theorem Fr.imp {H H' : Nat → Prop} {w w' : World} (h : Fr H w w') (hi : ∀ b, H b → H' b) : Fr H' w w' :=
  ⟨h.os, h.tape, h.output, h.size, fun b hb hn => h.blk b hb fun hh => hn (hi b hh)⟩
theorem Fr.below {w w' : World} (h : Fr (fun _ => False) w w') : Below w.heap.size w w' := ⟨h.os, h.tape, h.output, h.size, fun k hk => h.blk k hk (fun h => h)⟩
theorem cell_of_block {w w' : World} {b o : Nat} (h : w'.heap[b]? = w.heap[b]?) : w'.cell? ⟨b, o, none⟩ = w.cell? ⟨b, o, none⟩ := by
  simp only [World.cell?, h]
/-- One's own grows. -/
structure Le (ρ : Ow) (w : World) (ρ' : Ow) : Prop where
  pre : ∀ (h : Nat) (q : Bk), ρ.r[h]? = some q → ρ'.r[h]? = some q
  F1 : ∀ b, ρ'.F b → ρ.F b ∨ w.heap.size ≤ b
theorem Le.refl (ρ : Ow) (w : World) : Le ρ w ρ := ⟨fun _ _ h => h, fun _ h => .inl h⟩
theorem Is.keep {ρ ρ' : Ow} {w w' : World} {l : Lf R.D} {u : Value} {H : Nat → Prop} (hi : Is R ρ w l u) (hf : Fr H w w') (hH : ∀ b, H b → ρ.F b) (hle : Le ρ w ρ') : Is R ρ' w' l u := by
  have hnF : ∀ b, b < w.heap.size → ¬ ρ.F b → ¬ ρ'.F b := fun b hb hn h => by
    rcases hle.F1 b h with h | h
    · exact hn h
    · omega
  induction hi with
  | v x h => exact .v x h
  | cmp p d => exact .cmp p d
  | ptr h off b hb => exact .ptr h off b (hle.pre _ _ hb)
  | nil c a cap => exact .nil c a cap
  | ro c l b o cap f hL hl hb hn hc hv ih =>
    refine .ro c l b o cap f hL hl (Nat.lt_of_lt_of_le hb hf.size) (hnF b hb hn) (fun i j h0 h1 => ?_) (fun i x j lf h0 h1 => ih i x j lf h0 h1)
    rw [cell_of_block (hf.blk b hb (fun h => hn (hH b h)))]; exact hc i j h0 h1
  | row c h b cap len hb => exact .row c h b cap len (hle.pre _ _ hb)
  | rnil c h a hb => exact .rnil c h a (hle.pre _ _ hb)
  | sl c h o n a k hk hL hb => exact .sl c h o n a k hk hL (hb.imp (fun ⟨h0, h1⟩ => ⟨h0, fun e => (h1 e).imp fun q ⟨h2, h3⟩ => ⟨hle.pre _ _ h2, h3⟩⟩) fun ⟨b, cap, len, h1, h2⟩ => ⟨b, cap, len, hle.pre _ _ h1, h2⟩)
  | rp c h b cap len i j hb h0 h1 => exact .rp c h b cap len i j (hle.pre _ _ hb) h0 h1
  | ept c l b o i k f hb hn h0 h1 hc hv ih =>
    refine .ept c l b o i k f (Nat.lt_of_lt_of_le hb hf.size) (hnF b hb hn) h0 h1 (fun i j h0 h1 => ?_) (fun i x j lf h0 h1 => ih i x j lf h0 h1)
    rw [cell_of_block (hf.blk b hb (fun h => hn (hH b h)))]; exact hc i j h0 h1
  | fn f caps vs h => exact .fn f caps vs (h.imp fun c u ⟨b, hb, hu⟩ => ⟨b, hle.pre _ _ hb, hu⟩)
  | ifc t h off b hb => exact .ifc t h off b (hle.pre _ _ hb)
  | mref h b hb => exact .mref h b (hle.pre _ _ hb)
  | full c l a h ih => exact .full c l a ih
theorem IsA.keep {ρ ρ' : Ow} {w w' : World} {a : Av R.D} {u : Value} {H : Nat → Prop} (hi : IsA R ρ w a u) (hf : Fr H w w') (hH : ∀ b, H b → ρ.F b) (hle : Le ρ w ρ') : IsA R ρ' w' a u := by
  cases a with
  | lf l => exact Is.keep hi hf hH hle
  | agg cs => obtain ⟨us, rfl, h⟩ := hi; exact ⟨us, rfl, h.imp fun _ _ h => h.keep hf hH hle⟩
theorem IsT.keep {ρ ρ' : Ow} {w w' : World} {a : Tv R.D} {u : Value} {H : Nat → Prop} (hi : IsT R ρ w a u) (hf : Fr H w w') (hH : ∀ b, H b → ρ.F b) (hle : Le ρ w ρ') : IsT R ρ' w' a u := by
  cases a with
  | lf l => exact Is.keep hi hf hH hle
  | agg cs => obtain ⟨us, rfl, h⟩ := hi; exact ⟨us, rfl, h.imp fun _ _ h => h.keep hf hH hle⟩
  | tup vs => obtain ⟨us, rfl, h⟩ := hi; exact ⟨us, rfl, h.imp fun _ _ h => h.keep hf hH hle⟩
  | un => exact hi

/-- What stands behind a handle: a block; a slice's row (of elements of code c, the block's type); nothing any more. -/
inductive Ent (D : Nat → Type) : Type where
  | blk (cs : List (Lf D)) (t : TypeId)
  | row (c : Nat) (l : List (D c)) (t : TypeId)
  | mp (l : List (Value × Value))
  | dead
def Ent.live {D : Nat → Type} : Ent D → Prop
  | .dead => False
  | _ => True
def encs (R : Ro) (c : Nat) : List (R.D c) → List (Lf R.D)
  | [] => []
  | x :: l => R.enc c x ++ encs R c l
def EntOk (R : Ro) (ρ : Ow) (w : World) : Bk → Ent R.D → Prop
  | .blk b, .blk cs t => ∃ us : List Value, w.heap[b]? = some (.cells us.toArray t (0, 0)) ∧ All2 (Is R ρ w) cs us
  | .row b cap len, .row c l t => l.length = len ∧ len ≤ cap ∧ cap ≤ 9223372036854775807 ∧ ∃ us zs : List Value, w.heap[b]? = some (.cells (us ++ zs).toArray t (0, 0)) ∧ All2 (Is R ρ w) (encs R c l) us ∧ cap * R.sz c ≤ us.length + zs.length
  | .nil, .row _ l _ => l = []
  | .blk b, .mp l => ∃ (es : Array MapEntry) (clock : Nat), w.heap[b]? = some (.map es clock) ∧ es.toList.map (fun e => (e.key, e.val)) = l
  | _, .dead => True
  | _, _ => False
/-- A block that stands behind a handle. -/
def Held {D : Nat → Type} (ρ : Ow) (m : List (Ent D)) (b : Nat) : Prop := ∃ (i : Nat) (q : Bk) (e : Ent D), ρ.r[i]? = some q ∧ m[i]? = some e ∧ e.live ∧ q.b? = some b
/-- What is one's own: where it is, and what it holds. -/
structure Rel (R : Ro) (ρ : Ow) (m : List (Ent R.D)) (w : World) : Prop where
  len : ρ.r.length = m.length
  nd : ∀ (i j : Nat) (p q : Bk) (e e' : Ent R.D) (b : Nat), ρ.r[i]? = some p → ρ.r[j]? = some q → m[i]? = some e → m[j]? = some e' → e.live → e'.live → p.b? = some b → q.b? = some b → i = j
  lt : ∀ b, ρ.F b → b < w.heap.size
  fits : ∀ b, Held ρ m b → ρ.F b
  ok : ∀ (h : Nat) (q : Bk) (e : Ent R.D), ρ.r[h]? = some q → m[h]? = some e → EntOk R ρ w q e
theorem Rel.at {ρ : Ow} {m : List (Ent R.D)} {w : World} (h : Rel R ρ m w) {i : Nat} {e : Ent R.D} (hi : m[i]? = some e) : ∃ q, ρ.r[i]? = some q ∧ EntOk R ρ w q e := by
  obtain ⟨hlt, _⟩ := List.getElem?_eq_some_iff.1 hi
  have : i < ρ.r.length := by rw [h.len]; exact hlt
  exact ⟨ρ.r[i], List.getElem?_eq_getElem this, h.ok i _ e (List.getElem?_eq_getElem this) hi⟩
theorem Rel.blk {ρ : Ow} {m : List (Ent R.D)} {w : World} (h : Rel R ρ m w) {i : Nat} {cs : List (Lf R.D)} {t : TypeId} (hi : m[i]? = some (.blk cs t)) : ∃ b, ρ.r[i]? = some (.blk b) ∧ Held ρ m b ∧ ∃ us : List Value, w.heap[b]? = some (.cells us.toArray t (0, 0)) ∧ All2 (Is R ρ w) cs us := by
  obtain ⟨q, hq, hok⟩ := h.at hi
  cases q with
  | blk b => exact ⟨b, hq, ⟨i, _, _, hq, hi, trivial, rfl⟩, hok⟩
  | row b cap len => exact hok.elim
  | nil => exact hok.elim
theorem EntOk.keep {ρ ρ' : Ow} {w w' : World} {q : Bk} {e : Ent R.D} {H : Nat → Prop} (h : EntOk R ρ w q e) (hf : Fr H w w') (hH : ∀ b, H b → ρ.F b) (hle : Le ρ w ρ') (hb : ∀ b, q.b? = some b → e.live → w'.heap[b]? = w.heap[b]?) : EntOk R ρ' w' q e := by
  cases q with
  | blk b =>
    cases e with
    | blk cs t =>
      obtain ⟨us, hu, ha⟩ := h
      exact ⟨us, by rw [hb b rfl trivial]; exact hu, ha.imp fun _ _ h' => h'.keep hf hH hle⟩
    | row c l t => exact h
    | mp l =>
      obtain ⟨es, clock, hu, hl⟩ := h
      exact ⟨es, clock, by rw [hb b rfl trivial]; exact hu, hl⟩
    | dead => trivial
  | row b cap len =>
    cases e with
    | blk cs t => exact h
    | row c l t =>
      obtain ⟨h1, h2, h2', us, zs, hu, ha, h3⟩ := h
      exact ⟨h1, h2, h2', us, zs, by rw [hb b rfl trivial]; exact hu, ha.imp fun _ _ h' => h'.keep hf hH hle, h3⟩
    | mp l => exact h
    | dead => trivial
  | nil =>
    cases e with
    | blk cs t => exact h
    | row c l t => exact h
    | mp l => exact h
    | dead => trivial
/-- One's own blocks being as they were. -/
theorem Rel.same {ρ : Ow} {m : List (Ent R.D)} {w w' : World} {H : Nat → Prop} (h : Rel R ρ m w) (hf : Fr H w w') (hH : ∀ b, H b → ρ.F b) (hb : ∀ b, Held ρ m b → w'.heap[b]? = w.heap[b]?) : Rel R ρ m w' := by
  refine ⟨h.len, h.nd, fun b hm => Nat.lt_of_lt_of_le (h.lt b hm) hf.size, h.fits, fun i q e hi he => ?_⟩
  exact (h.ok i q e hi he).keep hf hH (Le.refl ρ w) fun b hq hl => hb b ⟨i, q, e, hi, he, hl, hq⟩
/-- From one's own here, to one's own then. -/
structure Ext (ρ : Ow) (m : List (Ent R.D)) (w : World) (ρ' : Ow) (m' : List (Ent R.D)) : Prop extends Le ρ w ρ' where
  F2 : ∀ b, ρ.F b → ¬ Held ρ m b → ρ'.F b
  held : ∀ b, Held ρ' m' b → Held ρ m b ∨ w.heap.size ≤ b
  dead : ∀ h : Nat, m[h]? = some .dead → m'[h]? = some .dead
theorem Ext.refl (ρ : Ow) (m : List (Ent R.D)) (w : World) : Ext ρ m w ρ m := ⟨Le.refl ρ w, fun _ h _ => h, fun _ h => .inl h, fun _ h => h⟩
theorem Ext.trans {ρ ρ' ρ'' : Ow} {m m' m'' : List (Ent R.D)} {w w' : World} (h : Ext ρ m w ρ' m') (hr : Rel R ρ m w) (hs : w.heap.size ≤ w'.heap.size) (h' : Ext ρ' m' w' ρ'' m'') : Ext ρ m w ρ'' m'' := by
  refine ⟨⟨fun q b hb => h'.pre _ _ (h.pre _ _ hb), fun b hb => ?_⟩, fun b hb hn => ?_, fun b hb => ?_, fun q hq => h'.dead q (h.dead q hq)⟩
  · rcases h'.F1 b hb with h1 | h1
    · exact h.F1 b h1
    · exact .inr (Nat.le_trans hs h1)
  · refine h'.F2 b (h.F2 b hb hn) fun h1 => ?_
    rcases h.held b h1 with h2 | h2
    · exact hn h2
    · have := hr.lt b hb; omega
  · rcases h'.held b hb with h1 | h1
    · exact h.held b h1
    · exact .inr (Nat.le_trans hs h1)
/-- From one world to the next. -/
structure Go (R : Ro) (ρ : Ow) (m : List (Ent R.D)) (w : World) (ρ' : Ow) (m' : List (Ent R.D)) (w' : World) : Prop where
  ext : Ext ρ m w ρ' m'
  fr : Fr (Held ρ m) w w'
theorem Go.refl (ρ : Ow) (m : List (Ent R.D)) (w : World) : Go R ρ m w ρ m w := ⟨Ext.refl ρ m w, Fr.refl _ _⟩
theorem Go.trans {ρ ρ' ρ'' : Ow} {m m' m'' : List (Ent R.D)} {w w' w'' : World} (h : Go R ρ m w ρ' m' w') (hr : Rel R ρ m w) (h' : Go R ρ' m' w' ρ'' m'' w'') : Go R ρ m w ρ'' m'' w'' :=
  ⟨h.ext.trans hr h.fr.size h'.ext, h.fr.trans h.ext.held h'.fr⟩
end
end Go.Proofs.Ytjfcfljdojkcdaa.Ev
