/- The evaluator's operations that call nothing, each sound. -/
import Derived.Test.YtjfcfljdojkcdaaEvC
namespace Go.Proofs.Ytjfcfljdojkcdaa.Ev
open Go Go.RowKit
set_option linter.unusedVariables false
set_option linter.unusedSimpArgs false
section
variable {R : Ro} {P : Program} {X : Type}

/-! ### Whole numbers, bools -/
def lfB {D : Nat → Type} : Lf D → Option Bool
  | .cmp p d => some (@decide p d)
  | .v (.bool b) => some b
  | _ => none
theorem lfB_ok {ρ : Ow} {w : World} {l : Lf R.D} {b : Bool} {u : Value} (h : lfB l = some b) (hu : Is R ρ w l u) : u = .bool b := by
  unfold lfB at h
  split at h
  · cases h; cases hu; rfl
  · cases h; cases hu; rfl
  · cases h
def evUn {D : Nat → Type} (op : UnOp) (v : Tv D) (K : Tv D → Option X) : Option X :=
  match v with
  | .lf (.v (.int k x)) => match op with
    | .neg => K (.lf (.v (.int k (wr k (-x)))))
    | .xor => K (.lf (.v (.int k (bits .xor k (match k.signed with | true => -1 | false => k.max) x))))
    | _ => none
  | .lf (.cmp p d) => match op with
    | .not => K (.lf (.cmp (¬ p) (@instDecidableNot p d)))
    | _ => none
  | .lf (.v (.bool b)) => match op with
    | .not => K (.lf (.v (.bool (!b))))
    | _ => none
  | .lf (.v (.float k b)) => match op with
    | .neg => K (.lf (.v (.float k (Op.negFloat k b))))
    | _ => none
  | .lf (.v (.complex k a b)) => match op with
    | .neg => K (.lf (.v (.complex k (Op.negFloat k a) (Op.negFloat k b))))
    | _ => none
  | _ => none
theorem wf_wr (k : IntKind) (e : Int) : (Lit.int k (wr k e)).wf = true := by rw [wr_eq]; exact wf_wrap k e
theorem none_some {x : X} {C : Prop} (h : (none : Option X) = some x) : C := nomatch h
theorem evUn_ok {op : UnOp} {v : Tv R.D} {K : Tv R.D → Option X} {x : X} (h : evUn op v K = some x) : ∃ r, K r = some x ∧ ∀ ρ w u, IsT R ρ w v u → ∃ u', (Op.unary op u).run P w = .ok u' w ∧ IsT R ρ w r u' := by
  unfold evUn at h
  split at h
  · rename_i k n
    cases op
    case neg =>
      refine ⟨_, h, fun ρ w u hu => ?_⟩
      cases hu
      exact ⟨_, rfl, by rw [show k.wrap (0 - n) = wr k (-n) by rw [wr_eq, Int.zero_sub]]; exact Is.v _ (wf_wr _ _)⟩
    case xor =>
      refine ⟨_, h, fun ρ w u hu => ?_⟩
      cases hu
      refine ⟨_, rfl, ?_⟩
      have e : (if k.signed = true then (-1 : Int) else k.max) = (match k.signed with | true => -1 | false => k.max) := by cases k.signed <;> rfl
      rw [← e]
      exact Is.v _ (wf_bits .xor k _ n)
    all_goals exact none_some h
  · rename_i p d
    cases op
    case not =>
      refine ⟨_, h, fun ρ w u hu => ?_⟩
      cases hu
      refine ⟨_, rfl, ?_⟩
      have : (!(@decide p d)) = @decide (¬ p) (@instDecidableNot p d) := by simp
      rw [this]
      exact Is.cmp _ _
    all_goals exact none_some h
  · rename_i b
    cases op
    case not => exact ⟨_, h, fun ρ w u hu => by cases hu; exact ⟨_, rfl, Is.v _ rfl⟩⟩
    all_goals exact none_some h
  · rename_i k b
    cases op
    case neg => exact ⟨_, h, fun ρ w u hu => by cases hu; exact ⟨_, rfl, Is.v _ rfl⟩⟩
    all_goals exact none_some h
  · rename_i k a b
    cases op
    case neg => exact ⟨_, h, fun ρ w u hu => by cases hu; exact ⟨_, rfl, Is.v _ rfl⟩⟩
    all_goals exact none_some h
  · exact none_some h

/-- Two whole numbers of one kind; 'lit': the second one is a constant. -/
def evInt {D : Nat → Type} (op : BinOp) (k : IntKind) (a b : Int) (lit : Bool) (K : Lf D → Option X) : Option X :=
  match op with
  | .add => K (.v (.int k (wr k (a + b))))
  | .sub => K (.v (.int k (wr k (a - b))))
  | .mul => K (.v (.int k (wr k (a * b))))
  | .quo => match lit with
    | true => match Nat.beq b.natAbs 0 with
      | true => none
      | false => K (.v (.int k (wr k (Int.tdiv a b))))
    | false => if b = 0 then none else K (.v (.int k (wr k (Int.tdiv a b))))
  | .rem => match lit with
    | true => match Nat.beq b.natAbs 0 with
      | true => none
      | false => K (.v (.int k (Int.tmod a b)))
    | false => if b = 0 then none else K (.v (.int k (Int.tmod a b)))
  | .and => K (.v (.int k (bits .and k a b)))
  | .or => K (.v (.int k (bits .or k a b)))
  | .xor => K (.v (.int k (bits .xor k a b)))
  | .andNot => K (.v (.int k (bits .andNot k a b)))
  | .eql => K (.cmp (a = b) inferInstance)
  | .neq => K (.cmp (¬ a = b) inferInstance)
  | .lss => K (.cmp (a < b) inferInstance)
  | .leq => K (.cmp (a ≤ b) inferInstance)
  | .gtr => K (.cmp (a > b) inferInstance)
  | .geq => K (.cmp (a ≥ b) inferInstance)
  | _ => none
def evShift {D : Nat → Type} (left : Bool) (k : IntKind) (a b : Int) (lit : Bool) (K : Lf D → Option X) : Option X :=
  match lit with
  | true => match Nat.ble b.toNat k.bits with
    | true => if 0 ≤ b then (match left with
      | true => K (.v (.int k (wr k (a * 2 ^ b.toNat))))
      | false => K (.v (.int k (a / 2 ^ b.toNat)))) else none
    | false => none
  | false => if 0 ≤ b then (match left with
      | true => K (.v (.int k (shl k a b)))
      | false => K (.v (.int k (shr k a b)))) else none
theorem wf_bound {k : IntKind} {n : Int} (h : (Lit.int k n).wf = true) : k.min ≤ n ∧ n ≤ k.max := by simpa [Lit.wf] using h
theorem wf_of {k : IntKind} {n : Int} (h : k.min ≤ n ∧ n ≤ k.max) : (Lit.int k n).wf = true := by simpa [Lit.wf] using h
theorem min_le (k : IntKind) : k.min ≤ 0 ∧ 0 ≤ k.max := by cases k <;> decide
theorem wf_div {k : IntKind} {a : Int} (h : (Lit.int k a).wf = true) (n : Nat) : (Lit.int k (a / 2 ^ n)).wf = true := by
  obtain ⟨h0, h1⟩ := wf_bound h
  obtain ⟨m0, m1⟩ := min_le k
  have hp : (0 : Int) < 2 ^ n := Int.pow_pos (by decide)
  refine wf_of ⟨?_, ?_⟩
  · rcases Int.le_total 0 a with ha | ha
    · exact Int.le_trans m0 (Int.ediv_nonneg ha (Int.le_of_lt hp))
    · refine Int.le_trans h0 ?_
      rw [Int.le_ediv_iff_mul_le hp]
      have h2 : (1 : Int) ≤ 2 ^ n := hp
      have := Int.mul_le_mul_of_nonpos_left ha h2
      simpa using this
  · rcases Int.le_total 0 a with ha | ha
    · exact Int.le_trans (Int.ediv_le_self _ ha) h1
    · refine Int.le_trans ?_ m1
      have := Int.ediv_le_ediv hp ha
      simpa using this
theorem wf_tmod {k : IntKind} {a b : Int} (h : (Lit.int k a).wf = true) : (Lit.int k (Int.tmod a b)).wf = true := by
  obtain ⟨h0, h1⟩ := wf_bound h
  obtain ⟨m0, m1⟩ := min_le k
  refine wf_of ?_
  have h2 : (Int.tmod a b).natAbs ≤ a.natAbs := by rw [Int.natAbs_tmod]; exact Nat.mod_le _ _
  rcases Int.le_total 0 a with ha | ha
  · have := Int.tmod_nonneg b ha
    omega
  · have h3 : Int.tmod (-a) b = - Int.tmod a b := Int.neg_tmod ..
    have h4 := Int.tmod_nonneg b (show 0 ≤ -a by omega)
    omega
end
end Go.Proofs.Ytjfcfljdojkcdaa.Ev
