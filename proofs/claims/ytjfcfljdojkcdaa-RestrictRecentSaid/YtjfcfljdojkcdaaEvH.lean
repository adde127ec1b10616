/- The evaluator's elements, lengths, greatest and least ones, interfaces of pointers, each sound. -/
import Derived.Test.YtjfcfljdojkcdaaEvG
namespace Go.Proofs.Ytjfcfljdojkcdaa.Ev
open Go Go.RowKit
set_option linter.unusedVariables false
set_option linter.unusedSimpArgs false
section
variable {R : Ro} {P : Program} {X : Type}
/-- A number from 'j' on, way by way. -/
def evSel (n : Int) : Nat → Nat → (Nat → Option X) → Option X
  | 0, _, _ => none
  | c + 1, j, K => if n = (j : Int) then K j else evSel n c (j + 1) K
theorem evSel_ok {n : Int} {x : X} : ∀ (c j : Nat) {K : Nat → Option X}, evSel n c j K = some x → ∃ q, q < j + c ∧ n = (q : Int) ∧ K q = some x
  | 0, j, K, h => none_some h
  | c + 1, j, K, h => by
    simp only [evSel] at h
    split at h
    · rename_i hn
      exact ⟨j, by omega, hn, h⟩
    · obtain ⟨q, hq, hn, hk⟩ := evSel_ok c (j + 1) h
      exact ⟨q, by omega, hn, hk⟩
def evIndexAddr (R : Ro) (tab : Nat → Option TI) (t : TypeId) (v iv : Tv R.D) (K : Tv R.D → Option X) : Option X :=
  match tab t with
  | some i => match iv with
    | .lf (.v (.int ik n)) => match v with
      | .lf (.ro c l) => match Nat.beq i.kd 3 with
        | true => match Nat.beq i.el (R.sz c) with
          | true => if 0 ≤ n then (if n < (l.length : Int) then K (.lf (.ept c l n 0)) else none) else none
          | false => none
        | false => none
      | .lf (.ptr h off) => match Nat.beq i.kd 2 with
        | true => evSel n i.len 0 fun q => K (.lf (.ptr h (off + q * i.el)))
        | false => none
      | _ => none
    | _ => none
  | none => none
theorem evIndexAddr_ok {n : Nat} {σ : List (Nat × Tv R.D)} {tab : Nat → Option TI} (ht : TabOk P tab) {o : Oper} {t : TypeId} {e f : Operand} (ho : o.op = .indexAddr t e f) {v iv : Tv R.D} (hv : opd σ e = some v) (hiv : opd σ f = some iv)
    {K : Tv R.D → Option X} {x : X} (h : evIndexAddr R tab t v iv K = some x) : ∃ r, K r = some x ∧ OpV R P n o σ r := by
  unfold evIndexAddr at h
  split at h
  · rename_i i hi
    split at h
    · rename_i ik nn
      split at h
      · rename_i c l
        split at h
        · rename_i hk
          obtain ⟨et, hu, hti⟩ := tiOf_slice (ht _ _ hi) (Nat.eq_of_beq_eq_true hk)
          split at h
          · rename_i hel
            have hel := Nat.eq_of_beq_eq_true hel
            split at h
            · rename_i h0
              split at h
              · rename_i h1
                refine ⟨_, h, fun ρ w a hs => ?_⟩
                have hp := opd_ok hs hv
                have hq := opd_ok hs hiv
                generalize hev : a.eval e = pv at hp
                generalize hef : a.eval f = qv at hq
                obtain ⟨rfl, _⟩ := is_int hq
                cases hp with
                | nil => simp at h1; omega
                | ro _ _ b oo cap ff hL hl hb hn hc hvv =>
                  refine ⟨_, ?_, Is.ept c l b oo nn 0 ff hb hn h0 (by omega) hc hvv⟩
                  unfold execOp
                  simp only [ho, hev, hef, Sem.run_bind, Instr.indexAt, asIntOf, run_underlying hu, Result.andThen_ok, Sem.run_pure, Sem.run_ite, h0, h1, and_self, if_true, (tiF_run hti w).1, add_at, hel, Nat.add_zero]
              · exact none_some h
            · exact none_some h
          · exact none_some h
        · exact none_some h
      · rename_i hh off
        split at h
        · rename_i hk
          obtain ⟨et, hu, hti⟩ := tiOf_array (ht _ _ hi) (Nat.eq_of_beq_eq_true hk)
          obtain ⟨q, hq, hn, h'⟩ := evSel_ok _ _ h
          subst hn
          refine ⟨_, h', fun ρ w a hs => ?_⟩
          have hp := opd_ok hs hv
          have hiq := opd_ok hs hiv
          generalize hev : a.eval e = pv at hp
          generalize hef : a.eval f = qv at hiq
          obtain ⟨rfl, _⟩ := is_int hiq
          cases hp with
          | ptr _ _ b hb =>
            refine ⟨_, ?_, Is.ptr hh (off + q * i.el) b hb⟩
            have hlt : ((q : Int) < (i.len : Int)) := by omega
            unfold execOp
            simp only [ho, hev, hef, Sem.run_bind, Instr.indexAt, asIntOf, run_underlying hu, Result.andThen_ok, Sem.run_pure, Instr.sureAddr, Sem.run_ite, Int.natCast_nonneg, hlt, and_self, if_true, (tiF_run hti w).1, add_at, Int.toNat_natCast]
        · exact none_some h
      · exact none_some h
    · exact none_some h
  · exact none_some h

def intsOf {D : Nat → Type} (k : IntKind) : List (Lf D) → Option (List Int)
  | [] => some []
  | .v (.int k' n) :: r => match Nat.beq (ikN k) (ikN k') with
    | true => match intsOf k r with
      | some l => some (n :: l)
      | none => none
    | false => none
  | _ => none
theorem intsOf_ok {ρ : Ow} {w : World} {k : IntKind} : ∀ (cs : List (Lf R.D)) {xs : List Int} {us : List Value}, intsOf k cs = some xs → All2 (Is R ρ w) cs us → us = xs.map (.int k) ∧ ∀ n ∈ xs, (Lit.int k n).wf = true
  | [], xs, us, h, ha => by cases ha; simp only [intsOf, Option.some.injEq] at h; subst h; exact ⟨rfl, by simp⟩
  | c :: cs, xs, us, h, ha => by
    cases ha with
    | cons h0 h1 =>
    unfold intsOf at h
    split at h
    · contradiction
    · rename_i k' n r heq
      cases heq
      split at h
      · rename_i hk
        have hk := ikN_inj hk
        subst hk
        split at h
        · rename_i l hl
          simp only [Option.some.injEq] at h
          subst h
          obtain ⟨rfl, hw⟩ := is_int h0
          obtain ⟨rfl, hws⟩ := intsOf_ok cs hl h1
          exact ⟨rfl, fun n hn => by
            rcases List.mem_cons.1 hn with rfl | hn
            · exact hw
            · exact hws n hn⟩
        · exact none_some h
      · exact none_some h
    · exact none_some h
def evIndex (R : Ro) (tab : Nat → Option TI) (t : TypeId) (v iv : Tv R.D) (K : Tv R.D → Option X) : Option X :=
  match tab t with
  | some i => match iv with
    | .lf (.v (.int ik n)) => match v with
      | .lf (.v (.string s)) => match Nat.beq i.kd 6 with
        | true => if 0 ≤ n then (if n < (s.size : Int) then K (.lf (.v (.int .u8 (bt s n)))) else none) else none
        | false => none
      | .agg cs => match Nat.beq i.kd 2 with
        | true => match cs with
          | .v (.int k _) :: _ => match intsOf k cs with
            | some xs => match Nat.beq i.len xs.length with
              | true => match Nat.beq i.el 1 with
                | true => match i.ela with
                  | false => if 0 ≤ n then (if n < (i.len : Int) then K (.lf (.v (.int k (rd xs n)))) else none) else none
                  | true => none
                | false => none
              | false => none
            | none => evSel n i.len 0 fun q => evPart cs (q * i.el) i.el i.ela K
          | _ => evSel n i.len 0 fun q => evPart cs (q * i.el) i.el i.ela K
        | false => none
      | _ => none
    | _ => none
  | none => none
theorem evIndex_ok {n : Nat} {σ : List (Nat × Tv R.D)} {tab : Nat → Option TI} (ht : TabOk P tab) {o : Oper} {t : TypeId} {e f : Operand} (ho : o.op = .index t e f) {v iv : Tv R.D} (hv : opd σ e = some v) (hiv : opd σ f = some iv)
    {K : Tv R.D → Option X} {x : X} (h : evIndex R tab t v iv K = some x) : ∃ r, K r = some x ∧ OpV R P n o σ r := by
  unfold evIndex at h
  split at h
  · rename_i i hi
    split at h
    · rename_i ik nn
      split at h
      · rename_i s
        split at h
        · rename_i hk
          have hu := tiOf_string (ht _ _ hi) (Nat.eq_of_beq_eq_true hk)
          split at h
          · rename_i h0
            split at h
            · rename_i h1
              refine ⟨_, h, fun ρ w a hs => ?_⟩
              have hp := opd_ok hs hv
              have hq := opd_ok hs hiv
              generalize hev : a.eval e = pv at hp
              generalize hef : a.eval f = qv at hq
              obtain ⟨rfl, _⟩ := is_int hq
              cases hp
              have h2 : nn.toNat < s.size := by omega
              have hb : bt s nn = ((s[nn.toNat]'h2).toNat : Int) := by simp [bt, h2]
              have hg : s[nn.toNat]? = some (s[nn.toNat]'h2) := by rw [getElem?_pos]
              refine ⟨.int .u8 (bt s nn), ?_, Is.v _ ?_⟩
              · unfold execOp
                simp only [ho, hev, hef, Sem.run_bind, Instr.index, asIntOf, run_underlying hu, Result.andThen_ok, Sem.run_pure, h0, if_true, hg, hb]
              · refine wf_of ⟨?_, ?_⟩
                · rw [hb]; show (0 : Int) ≤ _; exact Int.natCast_nonneg _
                · rw [hb]; show _ ≤ (255 : Int)
                  have := (s[nn.toNat]'h2).toNat_lt
                  omega
            · exact none_some h
          · exact none_some h
        · exact none_some h
      · rename_i cs
        split at h
        · rename_i hk
          obtain ⟨et, hu, hti⟩ := tiOf_array (ht _ _ hi) (Nat.eq_of_beq_eq_true hk)
          have sel : ∀ {y : X}, (evSel nn i.len 0 fun q => evPart cs (q * i.el) i.el i.ela K) = some y → ∃ r, K r = some y ∧ OpV R P n o σ r := by
            intro y h
            obtain ⟨q, hq, hn, h'⟩ := evSel_ok _ _ h
            subst hn
            obtain ⟨r, hr, hp⟩ := evPart_ok hti h'
            refine ⟨r, hr, fun ρ w a hs => ?_⟩
            obtain ⟨us, hus, ha⟩ := opd_ok hs hv
            have hiq := opd_ok hs hiv
            generalize hef : a.eval f = qv at hiq
            obtain ⟨rfl, _⟩ := is_int hiq
            obtain ⟨u, hru, hiu⟩ := hp ρ w us ha
            refine ⟨u, ?_, hiu⟩
            have hlt : ((q : Int) < (i.len : Int)) := by omega
            unfold execOp
            simp only [ho, hus, hef, Sem.run_bind, Instr.index, asIntOf, run_underlying hu, Result.andThen_ok, Sem.run_pure, Sem.run_ite, Int.natCast_nonneg, hlt, and_self, if_true, (tiF_run hti w).1, Int.toNat_natCast, hru]
          split at h
          · rename_i k _ _
            split at h
            · rename_i xs hxs
              split at h
              · rename_i hlen
                have hlen := Nat.eq_of_beq_eq_true hlen
                split at h
                · rename_i hel
                  have hel := Nat.eq_of_beq_eq_true hel
                  split at h
                  · rename_i hela
                    split at h
                    · rename_i h0
                      split at h
                      · rename_i h1
                        refine ⟨_, h, fun ρ w a hs => ?_⟩
                        obtain ⟨us, hus, ha⟩ := opd_ok hs hv
                        have hiq := opd_ok hs hiv
                        generalize hef : a.eval f = qv at hiq
                        obtain ⟨rfl, _⟩ := is_int hiq
                        obtain ⟨rfl, hws⟩ := intsOf_ok _ hxs ha
                        have h2 : nn.toNat < xs.length := by omega
                        have hr : rd xs nn = xs[nn.toNat]'h2 := by simp [rd, List.getD, List.getElem?_eq_getElem h2]
                        refine ⟨.int k (rd xs nn), ?_, Is.v _ (by rw [hr]; exact hws _ (List.getElem_mem _))⟩
                        unfold execOp
                        simp only [ho, hus, hef, Sem.run_bind, Instr.index, asIntOf, run_underlying hu, Result.andThen_ok, Sem.run_pure, Sem.run_ite, h0, h1, and_self, if_true, (tiF_run hti w).1, hel, Nat.mul_one, part, (tiF_run hti w).2, hela, Bool.false_eq_true, if_false, List.getElem?_toArray, List.getElem?_map, List.getElem?_eq_getElem h2, Option.map_some, hr]
                      · exact none_some h
                    · exact none_some h
                  · exact none_some h
                · exact none_some h
              · exact none_some h
            · exact sel h
          · exact sel h
        · exact none_some h
      · exact none_some h
    · exact none_some h
  · exact none_some h

/-! ### Builtins -/
def evLen {D : Nat → Type} (tab : Nat → Option TI) (t : TypeId) (v : Tv D) (K : Tv D → Option X) : Option X :=
  match tab t with
  | some i => match v with
    | .lf (.ro c l) => match Nat.beq i.kd 3 with
      | true => K (.lf (.v (.int .i64 (l.length : Int))))
      | false => none
    | .lf (.v (.string s)) => match Nat.beq i.kd 6 with
      | true => K (.lf (.v (.int .i64 (s.size : Int))))
      | false => none
    | .agg _ => match Nat.beq i.kd 2 with
      | true => match Nat.ble i.len 9223372036854775807 with
        | true => K (.lf (.v (.int .i64 (i.len : Int))))
        | false => none
      | false => none
    | _ => none
  | none => none
theorem wf_nat {n : Nat} (h : n ≤ 9223372036854775807) : (Lit.int .i64 (n : Int)).wf = true := wf_of ⟨by show (-9223372036854775808 : Int) ≤ _; omega, by show _ ≤ (9223372036854775807 : Int); omega⟩
theorem evLen_ok {tab : Nat → Option TI} (ht : TabOk P tab) {t ty : TypeId} {v : Tv R.D} {K : Tv R.D → Option X} {x : X} (h : evLen tab t v K = some x) :
    ∃ r, K r = some x ∧ ∀ ρ w u (ts : Array TypeId), ts[0]? = some t → IsT R ρ w v u → ∃ q, (Builtin.len_ ts ty #[u]).run P w = .ok q w ∧ IsT R ρ w r q := by
  unfold evLen at h
  split at h
  · rename_i i hi
    split at h
    · rename_i c l
      split at h
      · rename_i hk
        obtain ⟨et, hu, hti⟩ := tiOf_slice (ht _ _ hi) (Nat.eq_of_beq_eq_true hk)
        refine ⟨_, h, fun ρ w u ts h0 hp => ?_⟩
        cases hp with
        | nil => exact ⟨_, by simp only [Builtin.len_, h0, List.getElem?_toArray, List.getElem?_cons_zero, Sem.run_bind, run_underlying hu, Result.andThen_ok, Sem.run_pure, goInt]; rfl, Is.v _ (show (Lit.int .i64 (0 : Int)).wf = true by decide)⟩
        | ro _ _ b oo cap ff hL hl hb hn hc hvv => exact ⟨_, by simp only [Builtin.len_, h0, List.getElem?_toArray, List.getElem?_cons_zero, Sem.run_bind, run_underlying hu, Result.andThen_ok, Sem.run_pure, goInt], Is.v _ (wf_nat hL)⟩
      · exact none_some h
    · rename_i s
      split at h
      · rename_i hk
        have hu := tiOf_string (ht _ _ hi) (Nat.eq_of_beq_eq_true hk)
        refine ⟨_, h, fun ρ w u ts h0 hp => ?_⟩
        cases hp with
        | v _ hok => exact ⟨_, by simp only [Builtin.len_, h0, List.getElem?_toArray, List.getElem?_cons_zero, Sem.run_bind, run_underlying hu, Result.andThen_ok, Sem.run_pure, goInt], Is.v _ (wf_nat (Nat.le_of_ble_eq_true hok))⟩
      · exact none_some h
    · split at h
      · rename_i hk
        obtain ⟨et, hu, hti⟩ := tiOf_array (ht _ _ hi) (Nat.eq_of_beq_eq_true hk)
        split at h
        · rename_i hle
          refine ⟨_, h, fun ρ w u ts h0 hp => ?_⟩
          exact ⟨_, by simp only [Builtin.len_, h0, List.getElem?_toArray, List.getElem?_cons_zero, Sem.run_bind, run_underlying hu, Result.andThen_ok, Sem.run_pure, goInt], Is.v _ (wf_nat (Nat.le_of_ble_eq_true hle))⟩
        · exact none_some h
      · exact none_some h
    · exact none_some h
  · exact none_some h
/-- The greatest, or the least, of whole numbers. -/
def evMM {D : Nat → Type} (up : Bool) (k : IntKind) : Int → List (Tv D) → (Tv D → Option X) → Option X
  | a, [], K => K (.lf (.v (.int k a)))
  | a, .lf (.v (.int k' b)) :: r, K => match Nat.beq (ikN k) (ikN k') with
    | true => evMM up k (match up with | true => mx a b | false => mn a b) r K
    | false => none
  | _, _, _ => none
theorem mx_cases (a b : Int) : mx a b = a ∨ mx a b = b := by unfold mx; split <;> simp
theorem mn_cases (a b : Int) : mn a b = a ∨ mn a b = b := by unfold mn; split <;> simp
theorem evMM_ok {up : Bool} {k : IntKind} {K : Tv R.D → Option X} {x : X} : ∀ (vs : List (Tv R.D)) (a : Int), evMM up k a vs K = some x → ∃ r, K r = some x ∧
    ((Lit.int k a).wf = true → ∀ ρ w (us : List Value), All2 (IsT R ρ w) vs us → ∃ q, (us.foldlM (match up with | true => Builtin.max2 | false => Builtin.min2) (.int k a)).run P w = .ok q w ∧ IsT R ρ w r q)
  | [], a, h => ⟨_, h, fun hw ρ w us ha => by cases ha; exact ⟨_, rfl, Is.v _ hw⟩⟩
  | v :: vs, a, h => by
    unfold evMM at h
    split at h
    · contradiction
    · rename_i hvv
      cases hvv
      split at h
      · rename_i hk
        have hk := ikN_inj hk
        subst hk
        obtain ⟨r, hr, hq⟩ := evMM_ok vs _ h
        refine ⟨r, hr, fun hw ρ w us ha => ?_⟩
        cases ha with
        | cons h0 h1 =>
        obtain ⟨rfl, hwb⟩ := is_int h0
        obtain ⟨q, hrun, hi⟩ := hq (by
          cases up
          · dsimp only
            unfold mn; split <;> assumption
          · dsimp only
            unfold mx; split <;> assumption) ρ w _ h1
        refine ⟨q, ?_, hi⟩
        rw [List.foldlM_cons, Sem.run_bind]
        cases up <;> exact hrun
      · exact none_some h
    · exact none_some h
def evIface {D : Nat → Type} (tab : Nat → Option TI) (t : TypeId) (v : Tv D) (K : Tv D → Option X) : Option X :=
  match tab t with
  | some i => match Nat.beq i.kd 5 with
    | true => match v with
      | .lf (.ptr h off) => K (.lf (.ifc t h off))
      | _ => none
    | false => none
  | none => none
theorem evIface_ok {n : Nat} {σ : List (Nat × Tv R.D)} {tab : Nat → Option TI} (ht : TabOk P tab) {o : Oper} {t : TypeId} {e : Operand} (ho : o.op = .makeInterface t e) {v : Tv R.D} (hv : opd σ e = some v) {K : Tv R.D → Option X} {x : X}
    (h : evIface tab t v K = some x) : ∃ r, K r = some x ∧ OpV R P n o σ r := by
  unfold evIface at h
  split at h
  · rename_i i hi
    split at h
    · rename_i hk
      obtain ⟨et, hu⟩ := tiOf_pointer (ht _ _ hi) (Nat.eq_of_beq_eq_true hk)
      split at h
      · rename_i hh off
        refine ⟨_, h, fun ρ w a hs => ?_⟩
        have hp := opd_ok hs hv
        generalize hev : a.eval e = pv at hp
        cases hp with
        | ptr _ _ b hb =>
          refine ⟨_, ?_, Is.ifc t hh off b hb⟩
          unfold execOp
          simp only [ho, hev, Sem.run_bind, Instr.makeInterface, run_underlying hu, Result.andThen_ok, Sem.run_pure]
      · exact none_some h
    · exact none_some h
  · exact none_some h
end
end Go.Proofs.Ytjfcfljdojkcdaa.Ev
