/- The evaluator's operations on two operands, and conversions, each sound. -/
import Derived.Test.YtjfcfljdojkcdaaEvD
namespace Go.Proofs.Ytjfcfljdojkcdaa.Ev
open Go Go.RowKit
set_option linter.unusedVariables false
set_option linter.unusedSimpArgs false
section
variable {R : Ro} {P : Program} {X : Type}
theorem is_int {ρ : Ow} {w : World} {k : IntKind} {a : Int} {u : Value} (h : Is R ρ w (.v (.int k a)) u) : u = .int k a ∧ (Lit.int k a).wf = true := by
  cases h with
  | v _ h => exact ⟨rfl, h⟩
/-- What a pure computation comes to. -/
def Pays (P : Program) (s : Sem Value) (u : Value) : Prop := ∀ w, s.run P w = .ok u w
theorem evInt_ok {op : BinOp} {k : IntKind} {a b : Int} {lit : Bool} {K : Lf R.D → Option X} {x : X} (t : TypeId) (h : evInt op k a b lit K = some x) :
    ∃ l, K l = some x ∧ ((Lit.int k a).wf = true → ∃ u, Pays P (binOp op t (.int k a) (.int k b)) u ∧ ∀ ρ w, Is R ρ w l u) := by
  cases op
  case add => exact ⟨_, h, fun hw => ⟨_, fun w => by simp only [binOp, ne_eq, not_true_eq_false, if_false, Op.intArith, Sem.run_pure]; rw [← wr_eq], fun ρ w => Is.v _ (wf_wr _ _)⟩⟩
  case sub => exact ⟨_, h, fun hw => ⟨_, fun w => by simp only [binOp, ne_eq, not_true_eq_false, if_false, Op.intArith, Sem.run_pure]; rw [← wr_eq], fun ρ w => Is.v _ (wf_wr _ _)⟩⟩
  case mul => exact ⟨_, h, fun hw => ⟨_, fun w => by simp only [binOp, ne_eq, not_true_eq_false, if_false, Op.intArith, Sem.run_pure]; rw [← wr_eq], fun ρ w => Is.v _ (wf_wr _ _)⟩⟩
  case quo =>
    simp only [evInt] at h
    split at h
    · split at h
      · exact none_some h
      · rename_i hq
        have hb : ¬ b = 0 := by rintro rfl; simp at hq
        exact ⟨_, h, fun hw => ⟨_, fun w => by simp only [binOp, ne_eq, not_true_eq_false, if_false, Op.intDiv, hb, Sem.run_pure]; rw [← wr_eq], fun ρ w => Is.v _ (wf_wr _ _)⟩⟩
    · split at h
      · exact none_some h
      rename_i hb
      exact ⟨_, h, fun hw => ⟨_, fun w => by simp only [binOp, ne_eq, not_true_eq_false, if_false, Op.intDiv, hb, Sem.run_pure]; rw [← wr_eq], fun ρ w => Is.v _ (wf_wr _ _)⟩⟩
  case rem =>
    simp only [evInt] at h
    split at h
    · split at h
      · exact none_some h
      · rename_i hq
        have hb : ¬ b = 0 := by rintro rfl; simp at hq
        exact ⟨_, h, fun hw => ⟨_, fun w => by simp only [binOp, ne_eq, not_true_eq_false, if_false, Op.intDiv, hb, Sem.run_pure], fun ρ w => Is.v _ (wf_tmod hw)⟩⟩
    · split at h
      · exact none_some h
      rename_i hb
      exact ⟨_, h, fun hw => ⟨_, fun w => by simp only [binOp, ne_eq, not_true_eq_false, if_false, Op.intDiv, hb, Sem.run_pure], fun ρ w => Is.v _ (wf_tmod hw)⟩⟩
  case and => exact ⟨_, h, fun hw => ⟨_, fun w => by simp only [binOp, ne_eq, not_true_eq_false, if_false]; rfl, fun ρ w => Is.v _ (wf_bits .and k _ _)⟩⟩
  case or => exact ⟨_, h, fun hw => ⟨_, fun w => by simp only [binOp, ne_eq, not_true_eq_false, if_false]; rfl, fun ρ w => Is.v _ (wf_bits .or k _ _)⟩⟩
  case xor => exact ⟨_, h, fun hw => ⟨_, fun w => by simp only [binOp, ne_eq, not_true_eq_false, if_false]; rfl, fun ρ w => Is.v _ (wf_bits .xor k _ _)⟩⟩
  case andNot => exact ⟨_, h, fun hw => ⟨_, fun w => by simp only [binOp, ne_eq, not_true_eq_false, if_false]; rfl, fun ρ w => Is.v _ (wf_bits .andNot k _ _)⟩⟩
  case eql => exact ⟨_, h, fun hw => ⟨_, fun w => by simp only [binOp, ne_eq, not_true_eq_false, if_false]; rfl, fun ρ w => Is.cmp (a = b) _⟩⟩
  case neq =>
    refine ⟨_, h, fun hw => ⟨_, fun w => by simp only [binOp, ne_eq, not_true_eq_false, if_false]; rfl, fun ρ w => ?_⟩⟩
    have : (a != b) = decide (¬ a = b) := by simp [bne, BEq.beq]
    rw [this]
    exact Is.cmp (¬ a = b) _
  case lss => exact ⟨_, h, fun hw => ⟨_, fun w => by simp only [binOp, ne_eq, not_true_eq_false, if_false]; rfl, fun ρ w => Is.cmp (a < b) _⟩⟩
  case leq => exact ⟨_, h, fun hw => ⟨_, fun w => by simp only [binOp, ne_eq, not_true_eq_false, if_false]; rfl, fun ρ w => Is.cmp (a ≤ b) _⟩⟩
  case gtr => exact ⟨_, h, fun hw => ⟨_, fun w => by simp only [binOp, ne_eq, not_true_eq_false, if_false]; rfl, fun ρ w => Is.cmp (a > b) _⟩⟩
  case geq => exact ⟨_, h, fun hw => ⟨_, fun w => by simp only [binOp, ne_eq, not_true_eq_false, if_false]; rfl, fun ρ w => Is.cmp (a ≥ b) _⟩⟩
  all_goals exact none_some h
theorem evShift_ok {left : Bool} {k yk : IntKind} {a b : Int} {lit : Bool} {K : Lf R.D → Option X} {x : X} (h : evShift left k a b lit K = some x) :
    ∃ l, K l = some x ∧ ((Lit.int k a).wf = true → ∃ u, Pays P (Op.shift (match left with | true => .shl | false => .shr) k a yk b) u ∧ ∀ ρ w, Is R ρ w l u) := by
  have hd : ∀ n : Nat, a.fdiv (2 ^ n) = a / 2 ^ n := fun n => Int.fdiv_eq_ediv_of_nonneg _ (Int.le_of_lt (Int.pow_pos (by decide)))
  unfold evShift at h
  split at h
  · split at h
    · rename_i hle
      have hle' := Nat.le_of_ble_eq_true hle
      split at h
      · rename_i hb
        have hnb : ¬ b < 0 := by omega
        have hmin : min b.toNat k.bits = b.toNat := Nat.min_eq_left hle'
        split at h
        · exact ⟨_, h, fun hw => ⟨_, fun w => by simp only [Op.shift, hnb, if_false, hmin, Sem.run_pure]; rw [← wr_eq], fun ρ w => Is.v _ (wf_wr _ _)⟩⟩
        · exact ⟨_, h, fun hw => ⟨_, fun w => by simp only [Op.shift, hnb, if_false, hmin, Sem.run_pure, hd], fun ρ w => Is.v _ (wf_div hw _)⟩⟩
      · exact none_some h
    · exact none_some h
  · split at h
    · rename_i hb
      have hnb : ¬ b < 0 := by omega
      split at h
      · exact ⟨_, h, fun hw => ⟨_, fun w => by simp only [Op.shift, hnb, if_false, Sem.run_pure]; rfl, fun ρ w => Is.v _ (wf_wrap _ _)⟩⟩
      · exact ⟨_, h, fun hw => ⟨_, fun w => by simp only [Op.shift, hnb, if_false, Sem.run_pure, hd]; rfl, fun ρ w => Is.v _ (wf_div hw _)⟩⟩
    · exact none_some h

def isLit : Operand → Bool | .const _ => true | _ => false
def evBin {D : Nat → Type} (tab : Nat → Option TI) (op : BinOp) (t : TypeId) (x y : Tv D) (lit : Bool) (K : Tv D → Option X) : Option X :=
  match x with
  | .lf (.v (.int k a)) => match y with
    | .lf (.v (.int k' b)) => match op with
      | .shl => evShift true k a b lit fun l => K (.lf l)
      | .shr => evShift false k a b lit fun l => K (.lf l)
      | op => match Nat.beq (ikN k) (ikN k') with
        | true => evInt op k a b lit fun l => K (.lf l)
        | false => none
    | _ => none
  | .lf (.ptr h o) => match y with
    | .lf (.v (.pointer none)) => match tab t with
      | some i => match Nat.beq i.kd 5 with
        | true => match op with
          | .eql => K (.lf (.v (.bool false)))
          | .neq => K (.lf (.v (.bool true)))
          | _ => none
        | false => none
      | none => none
    | _ => none
  | .lf (.v (.pointer none)) => match y with
    | .lf (.v (.pointer none)) => match tab t with
      | some i => match Nat.beq i.kd 5 with
        | true => match op with
          | .eql => K (.lf (.v (.bool true)))
          | .neq => K (.lf (.v (.bool false)))
          | _ => none
        | false => none
      | none => none
    | _ => none
  | .lf lx => match y with
    | .lf ly => match tab t with
      | some i => match Nat.beq i.kd 4 with
        | true => match lfB lx with
          | some a => match lfB ly with
            | some b => match op with
              | .eql => K (.lf (.v (.bool (a == b))))
              | .neq => K (.lf (.v (.bool (a != b))))
              | _ => none
            | none => none
          | none => none
        | false => none
      | none => none
    | _ => none
  | _ => none
theorem eqGuard_pure (op : BinOp) (t : TypeId) (x y : Operand) {a b : Value} (ha : a.oneCell' = true) (hb : ¬ (a = .nilIface)) (w : World) : (eqGuard op t x y a b).run P w = .ok () w := by
  unfold eqGuard
  cases op <;> first | rfl | (cases a <;> first | rfl | (exact absurd rfl hb) | (simp [Value.oneCell'] at ha))
theorem run_equal_bool {t : TypeId} (hu : P.underlying t = some .bool) (a b : Bool) (w : World) : (Op.equal t (.bool a) (.bool b)).run P w = .ok (a == b) w := by
  have : ∀ d, (Op.equalIn (d + 1) t (.bool a) (.bool b)).run P w = .ok (a == b) w := fun d => by
    simp only [Op.equalIn, Sem.run_bind, run_underlying hu, Result.andThen_ok, Sem.run_pure]
  exact this 9999
theorem run_equal_nil {t e : TypeId} (hu : P.underlying t = some (.pointer e)) (a : Addr) (w : World) : (Op.equal t (.pointer (some a)) (.pointer none)).run P w = .ok false w := by
  have : ∀ d, (Op.equalIn (d + 1) t (.pointer (some a)) (.pointer none)).run P w = .ok false w := fun d => by
    simp only [Op.equalIn, Sem.run_bind, run_underlying hu, Result.andThen_ok, Sem.run_pure]
  exact this 9999
theorem run_equal_nils {t e : TypeId} (hu : P.underlying t = some (.pointer e)) (w : World) : (Op.equal t (.pointer none) (.pointer none)).run P w = .ok true w := by
  have : ∀ d, (Op.equalIn (d + 1) t (.pointer none) (.pointer none)).run P w = .ok true w := fun d => by
    simp only [Op.equalIn, Sem.run_bind, run_underlying hu, Result.andThen_ok, Sem.run_pure, Option.isNone_none]
  exact this 9999
theorem evBin_ok {tab : Nat → Option TI} (ht : TabOk P tab) {op : BinOp} {t : TypeId} {x y : Tv R.D} {lit : Bool} {K : Tv R.D → Option X} {z : X} (h : evBin tab op t x y lit K = some z) :
    ∃ r, K r = some z ∧ ∀ ρ w u v, IsT R ρ w x u → IsT R ρ w y v → ∃ q, (∀ (ox oy : Operand), (do eqGuard op t ox oy u v; binOp op t u v : Sem Value).run P w = .ok q w) ∧ IsT R ρ w r q := by
  unfold evBin at h
  split at h
  · rename_i k a
    split at h
    · rename_i k' b
      have fin : ∀ {ρ w u v} {s : Sem Value} {q : Value}, IsT R ρ w (.lf (.v (.int k a))) u → IsT R ρ w (.lf (.v (.int k' b))) v → Pays P (binOp op t (.int k a) (.int k' b)) q →
          ∀ (ox oy : Operand), (do eqGuard op t ox oy u v; binOp op t u v : Sem Value).run P w = .ok q w := by
        intro ρ w u v s q hu hv hp ox oy
        obtain ⟨rfl, _⟩ := is_int hu
        obtain ⟨rfl, _⟩ := is_int hv
        rw [Sem.run_bind, eqGuard_pure op t ox oy (by rfl) (by simp) w, Result.andThen_ok]
        exact hp w
      split at h
      · obtain ⟨l, hl, hq⟩ := evShift_ok (P := P) (yk := k') h
        refine ⟨_, hl, fun ρ w u v hu hv => ?_⟩
        obtain ⟨q, hp, hi⟩ := hq (is_int hu).2
        exact ⟨q, fin (s := .pure q) hu hv hp, hi ρ w⟩
      · obtain ⟨l, hl, hq⟩ := evShift_ok (P := P) (yk := k') h
        refine ⟨_, hl, fun ρ w u v hu hv => ?_⟩
        obtain ⟨q, hp, hi⟩ := hq (is_int hu).2
        exact ⟨q, fin (s := .pure q) hu hv hp, hi ρ w⟩
      · split at h
        · rename_i hk
          have hk := ikN_inj hk
          subst hk
          obtain ⟨l, hl, hq⟩ := evInt_ok (P := P) t h
          refine ⟨_, hl, fun ρ w u v hu hv => ?_⟩
          obtain ⟨q, hp, hi⟩ := hq (is_int hu).2
          exact ⟨q, fin (s := .pure q) hu hv hp, hi ρ w⟩
        · exact none_some h
    · exact none_some h
  · rename_i hh oo
    split at h
    · split at h
      · rename_i i hi
        split at h
        · rename_i hk
          obtain ⟨e, he⟩ := tiOf_pointer (ht t i hi) (Nat.eq_of_beq_eq_true hk)
          have fin : ∀ {ρ w u v}, IsT R ρ w (.lf (.ptr hh oo)) u → IsT R ρ w (.lf (.v (.pointer none))) v → ∀ (ox oy : Operand), (do eqGuard op t ox oy u v; binOp op t u v : Sem Value).run P w = (binOp op t u v).run P w := by
            intro ρ w u v hu hv ox oy
            cases hu
            rw [Sem.run_bind, eqGuard_pure op t ox oy (by rfl) (by simp) w, Result.andThen_ok]
          cases op
          case eql =>
            refine ⟨_, h, fun ρ w u v hu hv => ⟨.bool false, fun ox oy => ?_, Is.v _ rfl⟩⟩
            rw [fin hu hv]
            cases hu; cases hv
            simp only [binOp, Sem.run_bind, run_equal_nil he, Result.andThen_ok, Sem.run_pure]
          case neq =>
            refine ⟨_, h, fun ρ w u v hu hv => ⟨.bool true, fun ox oy => ?_, Is.v _ rfl⟩⟩
            rw [fin hu hv]
            cases hu; cases hv
            simp only [binOp, Sem.run_bind, run_equal_nil he, Result.andThen_ok, Sem.run_pure, Bool.not_false]
          all_goals exact none_some h
        · exact none_some h
      · exact none_some h
    · exact none_some h
  · split at h
    · split at h
      · rename_i i hi
        split at h
        · rename_i hk
          obtain ⟨e, he⟩ := tiOf_pointer (ht t i hi) (Nat.eq_of_beq_eq_true hk)
          have fin : ∀ {ρ w u v}, IsT R ρ w (.lf (.v (.pointer none))) u → IsT R ρ w (.lf (.v (.pointer none))) v → ∀ (ox oy : Operand), (do eqGuard op t ox oy u v; binOp op t u v : Sem Value).run P w = (binOp op t u v).run P w := by
            intro ρ w u v hu hv ox oy
            cases hu
            rw [Sem.run_bind, eqGuard_pure op t ox oy (by rfl) (by simp) w, Result.andThen_ok]
          cases op
          case eql =>
            refine ⟨_, h, fun ρ w u v hu hv => ⟨.bool true, fun ox oy => ?_, Is.v _ rfl⟩⟩
            rw [fin hu hv]
            cases hu; cases hv
            simp only [binOp, Sem.run_bind, run_equal_nils he, Result.andThen_ok, Sem.run_pure]
          case neq =>
            refine ⟨_, h, fun ρ w u v hu hv => ⟨.bool false, fun ox oy => ?_, Is.v _ rfl⟩⟩
            rw [fin hu hv]
            cases hu; cases hv
            simp only [binOp, Sem.run_bind, run_equal_nils he, Result.andThen_ok, Sem.run_pure, Bool.not_true]
          all_goals exact none_some h
        · exact none_some h
      · exact none_some h
    · exact none_some h
  · rename_i lx _ _ _
    split at h
    · rename_i ly
      split at h
      · rename_i i hi
        split at h
        · rename_i hk
          have he := tiOf_bool (ht t i hi) (Nat.eq_of_beq_eq_true hk)
          split at h
          · rename_i a ha
            split at h
            · rename_i b hb
              cases op
              case eql =>
                refine ⟨_, h, fun ρ w u v hu hv => ⟨.bool (a == b), fun ox oy => ?_, Is.v _ rfl⟩⟩
                have := lfB_ok ha hu; subst this
                have := lfB_ok hb hv; subst this
                rw [Sem.run_bind, eqGuard_pure .eql t ox oy (by rfl) (by simp) w, Result.andThen_ok]
                simp only [binOp, Sem.run_bind, run_equal_bool he, Result.andThen_ok, Sem.run_pure]
              case neq =>
                refine ⟨_, h, fun ρ w u v hu hv => ⟨.bool (a != b), fun ox oy => ?_, Is.v _ rfl⟩⟩
                have := lfB_ok ha hu; subst this
                have := lfB_ok hb hv; subst this
                rw [Sem.run_bind, eqGuard_pure .neq t ox oy (by rfl) (by simp) w, Result.andThen_ok]
                simp only [binOp, Sem.run_bind, run_equal_bool he, Result.andThen_ok, Sem.run_pure]
                rfl
              all_goals exact none_some h
            · exact none_some h
          · exact none_some h
        · exact none_some h
      · exact none_some h
    · exact none_some h
  · exact none_some h

def evConv {D : Nat → Type} (tab : Nat → Option TI) (src dst : TypeId) (v : Tv D) (K : Tv D → Option X) : Option X :=
  match tab src with
  | some _ => match tab dst with
    | some i => match v with
      | .lf (.v (.int k x)) => match ikOf i.kd with
        | some kd => match Nat.beq (ikN k) (ikN kd) with
          | true => K (.lf (.v (.int k x)))
          | false => K (.lf (.v (.int kd (wr kd x))))
        | none => none
      | .lf (.v (.string s)) => match Nat.beq i.kd 6 with
        | true => K (.lf (.v (.string s)))
        | false => none
      | _ => none
    | none => none
  | none => none
theorem evConv_ok {tab : Nat → Option TI} (ht : TabOk P tab) {src dst : TypeId} {v : Tv R.D} {K : Tv R.D → Option X} {z : X} (h : evConv tab src dst v K = some z) :
    ∃ r, K r = some z ∧ ∀ ρ w u, IsT R ρ w v u → ∃ q, (convert src dst u).run P w = .ok q w ∧ IsT R ρ w r q := by
  unfold evConv at h
  split at h
  · rename_i si hsi
    obtain ⟨sd, hsd⟩ := tiOf_some (ht _ _ hsi)
    split at h
    · rename_i i hi
      split at h
      · rename_i k x
        split at h
        · rename_i kd hkd
          have hd := tiOf_int (ht _ _ hi) hkd
          have run : ∀ w, (convert src dst (.int k x)).run P w = .ok (.int kd (kd.wrap x)) w := fun w => by
            simp only [convert, Sem.run_bind, run_underlying hsd, run_underlying hd, Result.andThen_ok, Conv.intToInt, Sem.run_pure]
          split at h
          · rename_i hk
            have hk := ikN_inj hk
            subst hk
            refine ⟨_, h, fun ρ w u hu => ?_⟩
            obtain ⟨rfl, hw⟩ := is_int hu
            refine ⟨_, run w, ?_⟩
            have : k.wrap x = x := by
              have := wf_bound hw
              cases k <;> simp [IntKind.wrap, IntKind.min, IntKind.max, IntKind.signed, IntKind.bits] at this ⊢ <;> (try split) <;> omega
            rw [this]
            exact Is.v _ hw
          · refine ⟨_, h, fun ρ w u hu => ?_⟩
            obtain ⟨rfl, hw⟩ := is_int hu
            exact ⟨_, run w, by rw [← wr_eq]; exact Is.v _ (wf_wr _ _)⟩
        · exact none_some h
      · rename_i s
        split at h
        · rename_i hk
          have hd := tiOf_string (ht _ _ hi) (Nat.eq_of_beq_eq_true hk)
          refine ⟨_, h, fun ρ w u hu => ?_⟩
          have hu' : IsT R ρ w (.lf (.v (.string s))) u := hu
          cases hu
          refine ⟨.string s, ?_, hu'⟩
          simp only [convert, Sem.run_bind, run_underlying hsd, run_underlying hd, Result.andThen_ok, Sem.run_pure]
        · exact none_some h
      · exact none_some h
    · exact none_some h
  · exact none_some h
end
end Go.Proofs.Ytjfcfljdojkcdaa.Ev
