/- The evaluator's operations on rows that are one's own, each sound. -/
import Derived.Test.YtjfcfljdojkcdaaEvR
namespace Go.Proofs.Ytjfcfljdojkcdaa.Ev
open Go Go.RowKit
set_option linter.unusedVariables false
set_option linter.unusedSimpArgs false
section
variable {R : Ro} {P : Program} {X : Type}
/-! ### Elements out of cells -/
def decE (rt : Nat → Option (RoT R)) (c : Nat) (ls : List (Lf R.D)) : Option (R.D c) :=
  match rt c with
  | some o => match h : Nat.beq o.c c with
    | true => match o.d.dec ls with
      | some x => some ((Nat.eq_of_beq_eq_true h) ▸ x)
      | none => none
    | false => none
  | none => none
theorem decE_ok {rt : Nat → Option (RoT R)} {c : Nat} {ls : List (Lf R.D)} {x : R.D c} (h : decE rt c ls = some x) : All2 (Rf R) ls (R.enc c x) := by
  unfold decE at h
  split at h
  · rename_i o ho
    split at h
    · rename_i hc
      split at h
      · rename_i y hy
        have hcc := Nat.eq_of_beq_eq_true hc
        cases o with
        | mk c' d he =>
        dsimp only at hcc
        subst hcc
        cases h
        have := d.ok _ _ hy
        rwa [he] at this
      · cases h
    · cases h
  · cases h
theorem rf_is {ρ : Ow} {w : World} {l l' : List (Lf R.D)} (h : All2 (Rf R) l l') : ∀ {us : List Value}, All2 (Is R ρ w) l us → All2 (Is R ρ w) l' us := by
  induction h with
  | nil => intro us h; exact h
  | cons h0 _ ih =>
    intro us h
    cases h with
    | cons h1 h2 => exact .cons (h0.1 _ _ _ h1) (ih h2)
def decO (o : RoT R) (ls : List (Lf R.D)) : Option (R.D o.c) := o.d.dec ls
theorem decO_ok {o : RoT R} {ls : List (Lf R.D)} {x : R.D o.c} (h : decO o ls = some x) : All2 (Rf R) ls (R.enc o.c x) := by
  have := o.d.ok _ _ h
  rwa [o.enc] at this
def decs (o : RoT R) : Nat → List (Lf R.D) → Option (List (R.D o.c))
  | 0, [] => some []
  | 0, _ :: _ => none
  | n + 1, ls => match decO o (ls.take (R.sz o.c)) with
    | some x => match decs o n (ls.drop (R.sz o.c)) with
      | some r => some (x :: r)
      | none => none
    | none => none
theorem decs_ok {o : RoT R} : ∀ {n : Nat} {ls : List (Lf R.D)} {xs : List (R.D o.c)}, decs o n ls = some xs → All2 (Rf R) ls (encs R o.c xs) ∧ xs.length = n
  | 0, [], xs, h => by simp only [decs, Option.some.injEq] at h; subst h; exact ⟨.nil, rfl⟩
  | 0, _ :: _, xs, h => by simp [decs] at h
  | n + 1, ls, xs, h => by
    simp only [decs] at h
    split at h
    · rename_i x hx
      split at h
      · rename_i r hr
        cases h
        obtain ⟨h1, h2⟩ := decs_ok hr
        refine ⟨?_, by simp [h2]⟩
        have := (decO_ok hx).append h1
        rwa [List.take_append_drop] at this
      · cases h
    · cases h

/-! ### Cells of a row, read and written -/
def evLoadX (R : Ro) (tab : Nat → Option TI) (t : TypeId) (v : Tv R.D) (m : List (Ent R.D)) (K : Tv R.D → Option X) : Option X :=
  match v with
  | .lf (.rp c h i j) => match tab t with
    | some ti => match m[h]? with
      | some (.row c' l _) => match Nat.beq c' c with
        | true => ldc ti (R.enc c' (l.getD i.toNat (R.z c'))) j K
        | false => none
      | _ => none
    | none => none
  | v => evLoad R tab t v m K
theorem evLoadX_run {tab : Nat → Option TI} (ht : TabOk P tab) {t : TypeId} {v : Tv R.D} {m : List (Ent R.D)} {K : Tv R.D → Option X} {x : X} (h : evLoadX R tab t v m K = some x) :
    ∃ r, K r = some x ∧ ∀ ρ w (pv : Value), Rel R ρ m w → IsT R ρ w v pv → ∃ ad u, pv = .pointer (some ad) ∧ (loadVar t ad).run P w = .ok u w ∧ IsT R ρ w r u := by
  unfold evLoadX at h
  split at h
  · rename_i c hh i j
    split at h
    · rename_i ti hti
      split at h
      · rename_i c' l et hm
        split at h
        · rename_i hc
          have hc := Nat.eq_of_beq_eq_true hc
          subst hc
          obtain ⟨r, hr, hld⟩ := ldc_ok (ht _ _ hti) h
          refine ⟨r, hr, fun ρ w pv hrel hp => ?_⟩
          cases hp with
          | rp _ _ b cap len _ _ hb h0 h1 =>
          rcases hrel.row hm with ⟨b', cap', len', hq, _, rfl, h2, h3, us, zs, hw, ha, h4⟩ | ⟨hq, _⟩
          · rw [hq] at hb
            cases hb
            have hx : l[i.toNat]? = some (l.getD i.toNat (R.z c')) := by simp [List.getD, List.getElem?_eq_getElem h1]
            have hcell := encs_at ha hx
            obtain ⟨u, hu, hit⟩ := hld ρ w _ b (i.toNat * R.sz c') hcell (fun k u hk => by
              rw [List.getElem?_take] at hk
              split at hk
              · rw [List.getElem?_drop] at hk
                rw [row_cell hw, List.getElem?_append_left (List.getElem?_eq_some_iff.1 hk).1]
                exact hk
              · cases hk)
            exact ⟨_, u, rfl, hu, hit⟩
          · rw [hq] at hb; cases hb
        · exact none_some h
      · exact none_some h
    · exact none_some h
  · exact evLoad_run ht h
theorem evLoadX_ok {n : Nat} {σ : List (Nat × Tv R.D)} {tab : Nat → Option TI} (ht : TabOk P tab) {o : Oper} {t : TypeId} {e : Operand} (ho : o.op = .load t e) {v : Tv R.D} (hv : opd σ e = some v) {m : List (Ent R.D)} {K : Tv R.D → Option X} {x : X} (h : evLoadX R tab t v m K = some x) :
    ∃ r, K r = some x ∧ OpOk R P n o σ m r m := by
  obtain ⟨r, hr, hrun⟩ := evLoadX_run ht h
  refine ⟨r, hr, OpOk.val fun ρ w a hrel hs => ?_⟩
  obtain ⟨ad, u, he, hl, hi⟩ := hrun ρ w _ hrel (opd_ok hs hv)
  refine ⟨u, ?_, hi⟩
  unfold execOp
  simp only [ho, he, Sem.run_bind, Instr.loadAt, Instr.sureAddr, Sem.run_pure, Result.andThen_ok, hl]
def evStoreX (rt : Nat → Option (RoT R)) (tab : Nat → Option TI) (t : TypeId) (p v : Tv R.D) (m : List (Ent R.D)) (K : Tv R.D → List (Ent R.D) → Option X) : Option X :=
  match p with
  | .lf (.rp c h i j) => match tab t with
    | some ti => match m[h]? with
      | some (.row c' l et) => match Nat.beq c' c with
        | true => match tvCells v with
          | some vs => match Nat.beq vs.length ti.sz with
            | true => match Nat.ble (j + vs.length) (R.sz c') with
              | true => match decE rt c' (splice (R.enc c' (l.getD i.toNat (R.z c'))) j vs) with
                | some x => K .un (m.set h (.row c' (l.set i.toNat x) et))
                | none => none
              | false => none
            | false => none
          | none => none
        | false => none
      | _ => none
    | none => none
  | p => evStore tab t p v m K
theorem evStoreX_ok {n : Nat} {σ : List (Nat × Tv R.D)} {rt : Nat → Option (RoT R)} {tab : Nat → Option TI} (ht : TabOk P tab) {o : Oper} {t : TypeId} {e f : Operand} (ho : o.op = .store t e f) {p v : Tv R.D} (hp : opd σ e = some p) (hv : opd σ f = some v)
    {m : List (Ent R.D)} {K : Tv R.D → List (Ent R.D) → Option X} {x : X} (h : evStoreX rt tab t p v m K = some x) : ∃ r m', K r m' = some x ∧ OpOk R P n o σ m r m' := by
  unfold evStoreX at h
  split at h
  · rename_i c hh i j
    split at h
    case h_2 => exact none_some h
    rename_i ti hti
    split at h
    case h_2 => exact none_some h
    rename_i c' l et hm
    split at h
    case h_2 => exact none_some h
    rename_i hc
    have hc := Nat.eq_of_beq_eq_true hc
    subst hc
    split at h
    case h_2 => exact none_some h
    rename_i vs hvs
    split at h
    case h_2 => exact none_some h
    rename_i hsz
    have hsz := Nat.eq_of_beq_eq_true hsz
    split at h
    case h_2 => exact none_some h
    rename_i hle
    have hle := Nat.le_of_ble_eq_true hle
    split at h
    case h_2 => exact none_some h
    rename_i y hy
    refine ⟨_, _, h, fun ρ w a hr hs => ?_⟩
    have hpp := opd_ok hs hp
    obtain ⟨ys, hys, hay⟩ := tvCells_ok hvs (opd_ok hs hv)
    have hly := hay.length
    generalize hev : a.eval e = pv at hpp
    cases hpp with
    | rp _ _ b cap len _ _ hb h0 h1 =>
    rcases hr.row hm with ⟨b', cap', len', hq, hheld, rfl, h2, h3, us, zs, hw, ha, h4⟩ | ⟨hq, _⟩
    case inr => rw [hq] at hb; cases hb
    rw [hq] at hb
    cases hb
    have hx : l[i.toNat]? = some (l.getD i.toNat (R.z c')) := by simp [List.getD, List.getElem?_eq_getElem h1]
    have hcell := encs_at ha hx
    have hlen : us.length = l.length * R.sz c' := by rw [← ha.length, encs_len]
    have hin : i.toNat * R.sz c' + R.sz c' ≤ us.length := by
      rw [hlen]
      have : (i.toNat + 1) * R.sz c' ≤ l.length * R.sz c' := Nat.mul_le_mul_right _ h1
      rwa [Nat.add_mul, Nat.one_mul] at this
    have henc : (R.enc c' (l.getD i.toNat (R.z c'))).length = R.sz c' := R.len _ _
    let cs0 := (us.drop (i.toNat * R.sz c')).take (R.sz c')
    have hcs0 : cs0.length = R.sz c' := by simp [cs0]; omega
    have ha' : All2 (Is R ρ w) (R.enc c' y) (cs0.take j ++ ys ++ cs0.drop (j + ys.length)) := by
      refine rf_is (decE_ok hy) ?_
      rw [splice_eq _ _ _ (by rw [henc]; exact hle), ← hly]
      exact ((hcell.take j).append hay).append (hcell.drop _)
    have hset := encs_set ha' ha h1
    obtain ⟨w', hrun, hput⟩ := run_storeCells (P := P) ys (w := w) (b := b) (o := i.toNat * R.sz c' + j) (us := us ++ zs) (t := et) 0 hw (all2_one hay) (by simp; omega)
    have hrow : (us ++ zs).take (i.toNat * R.sz c' + j + 0) ++ ys ++ (us ++ zs).drop (i.toNat * R.sz c' + j + 0 + ys.length) = (us.take (i.toNat * R.sz c') ++ (cs0.take j ++ ys ++ cs0.drop (j + ys.length)) ++ us.drop (i.toNat * R.sz c' + R.sz c')) ++ zs := by
      have e1 : us.take (i.toNat * R.sz c' + j) = us.take (i.toNat * R.sz c') ++ cs0.take j := by
        rw [List.take_add, List.take_take, Nat.min_eq_left (by omega)]
      have e2 : us.drop (i.toNat * R.sz c' + j + ys.length) = cs0.drop (j + ys.length) ++ us.drop (i.toNat * R.sz c' + R.sz c') := by
        have : us.drop (i.toNat * R.sz c') = cs0 ++ us.drop (i.toNat * R.sz c' + R.sz c') := by
          rw [← List.drop_drop, List.take_append_drop]
        rw [Nat.add_assoc, ← List.drop_drop, this, List.drop_append_of_le_length (by omega)]
      rw [Nat.add_zero, List.take_append_of_le_length (by omega), List.drop_append_of_le_length (by omega), e1, e2]
      simp only [List.append_assoc]
    rw [hrow] at hput
    obtain ⟨hgo, hr'⟩ := hr.turn (w' := w') hq hm trivial (b := b) rfl hput.os hput.tape hput.output hput.size hput.far (e := .row c' (l.set i.toNat y) et) fun hf => by
      refine ⟨by simp, by simpa using h2, h3, _, zs, hput.at_, hset.imp fun _ _ h' => h'.keep hf hr.fits (Le.refl ρ w), ?_⟩
      have : (us.take (i.toNat * R.sz c') ++ (cs0.take j ++ ys ++ cs0.drop (j + ys.length)) ++ us.drop (i.toNat * R.sz c' + R.sz c')).length = us.length := by
        simp only [List.length_append, List.length_take, List.length_drop, hcs0]
        omega
      rw [this]
      exact h4
    refine Yld.skip (w' := w') ?_ ⟨ρ, hgo, hr', rfl⟩
    unfold execOp
    simp only [ho, hev, Sem.run_bind, Instr.storeAt, Instr.sureAddr, Sem.run_pure, Result.andThen_ok, storeVar, (tiOf_run (ht _ _ hti) w).1, hys, List.size_toArray]
    rw [if_neg (by omega)]
    simp only [Sem.run_bind, Sem.run_pure, Result.andThen_ok, hrun]
  · exact evStore_ok ht ho hp hv h

/-! ### Addresses of elements, lengths, parts -/
def rowAt (m : List (Ent R.D)) (c h : Nat) : Option (List (R.D c) × TypeId) := match m[h]? with
  | some (.row c' l t) => match h : Nat.beq c' c with
    | true => some (castD h l, t)
    | false => none
  | _ => none
theorem rowAt_ok {m : List (Ent R.D)} {c h : Nat} {l : List (R.D c)} {t : TypeId} (hh : rowAt m c h = some (l, t)) : m[h]? = some (.row c l t) := by
  unfold rowAt at hh
  split at hh
  · rename_i c' l' t' hm
    split at hh
    · rename_i hc
      have := Nat.eq_of_beq_eq_true hc
      subst this
      cases hh
      exact hm
    · cases hh
  · cases hh
def rowLen (m : List (Ent R.D)) (c h : Nat) : Option Nat := match m[h]? with
  | some (.row c' l _) => match Nat.beq c' c with
    | true => some l.length
    | false => none
  | _ => none
theorem rowLen_ok {m : List (Ent R.D)} {c h n : Nat} (hh : rowLen m c h = some n) : ∃ (l : List (R.D c)) (t : TypeId), m[h]? = some (.row c l t) ∧ l.length = n := by
  unfold rowLen at hh
  split at hh
  · rename_i c' l' t' hm
    split at hh
    · rename_i hc
      have := Nat.eq_of_beq_eq_true hc
      subst this
      cases hh
      exact ⟨l', t', hm, rfl⟩
    · cases hh
  · cases hh
def evIndexAddrX (R : Ro) (tab : Nat → Option TI) (t : TypeId) (v iv : Tv R.D) (m : List (Ent R.D)) (K : Tv R.D → Option X) : Option X :=
  match v with
  | .lf (.row c h) => match tab t with
    | some i => match iv with
      | .lf (.v (.int ik n)) => match Nat.beq i.kd 3 with
        | true => match Nat.beq i.el (R.sz c) with
          | true => match rowLen m c h with
            | some ln => if 0 ≤ n then (if n < (ln : Int) then K (.lf (.rp c h n 0)) else none) else none
            | none => none
          | false => none
        | false => none
      | _ => none
    | none => none
  | .lf (.sl c h o k) => match tab t with
    | some i => match iv with
      | .lf (.v (.int ik n)) => match Nat.beq i.kd 3 with
        | true => match Nat.beq i.el (R.sz c) with
          | true => if 0 ≤ n then (if n < (k : Int) then K (.lf (.rp c h (n + (o : Int)) 0)) else none) else none
          | false => none
        | false => none
      | _ => none
    | none => none
  | v => evIndexAddr R tab t v iv K
theorem evIndexAddrX_ok {n : Nat} {σ : List (Nat × Tv R.D)} {tab : Nat → Option TI} (ht : TabOk P tab) {o : Oper} {t : TypeId} {e f : Operand} (ho : o.op = .indexAddr t e f) {v iv : Tv R.D} (hv : opd σ e = some v) (hiv : opd σ f = some iv)
    {m : List (Ent R.D)} {K : Tv R.D → Option X} {x : X} (h : evIndexAddrX R tab t v iv m K = some x) : ∃ r, K r = some x ∧ OpOk R P n o σ m r m := by
  unfold evIndexAddrX at h
  split at h
  · rename_i c hh
    split at h
    case h_2 => exact none_some h
    rename_i i hi
    split at h
    case h_2 => exact none_some h
    rename_i ik nn
    split at h
    case h_2 => exact none_some h
    rename_i hk
    obtain ⟨et, hu, hti⟩ := tiOf_slice (ht _ _ hi) (Nat.eq_of_beq_eq_true hk)
    split at h
    case h_2 => exact none_some h
    rename_i hel
    have hel := Nat.eq_of_beq_eq_true hel
    split at h
    case h_2 => exact none_some h
    rename_i ln hrow
    obtain ⟨l, lt, hm, rfl⟩ := rowLen_ok hrow
    split at h
    case isFalse => exact none_some h
    rename_i h0
    split at h
    case isFalse => exact none_some h
    rename_i h1
    refine ⟨_, h, OpOk.val fun ρ w a hrel hs => ?_⟩
    have hp := opd_ok hs hv
    have hq := opd_ok hs hiv
    generalize hev : a.eval e = pv at hp
    generalize hef : a.eval f = qv at hq
    obtain ⟨rfl, _⟩ := is_int hq
    rcases hrel.row hm with ⟨b, cap, len, hb, _, rfl, _, _, _⟩ | ⟨hb, rfl⟩
    · cases hp with
      | rnil _ _ a' hb' => rw [hb] at hb'; cases hb'
      | row _ _ b' cap' len' hb' =>
        rw [hb] at hb'
        cases hb'
        refine ⟨_, ?_, Is.rp c hh b cap _ nn 0 hb h0 (by omega)⟩
        unfold execOp
        simp only [ho, hev, hef, Sem.run_bind, Instr.indexAt, asIntOf, run_underlying hu, Result.andThen_ok, Sem.run_pure, Sem.run_ite, h0, h1, and_self, if_true, (tiF_run hti w).1, add_at, hel, Nat.add_zero, Nat.zero_add]
    · simp at h1
      omega
  · rename_i c hh oo k
    split at h
    case h_2 => exact none_some h
    rename_i i hi
    split at h
    case h_2 => exact none_some h
    rename_i ik nn
    split at h
    case h_2 => exact none_some h
    rename_i hk
    obtain ⟨et, hu, hti⟩ := tiOf_slice (ht _ _ hi) (Nat.eq_of_beq_eq_true hk)
    split at h
    case h_2 => exact none_some h
    rename_i hel
    have hel := Nat.eq_of_beq_eq_true hel
    split at h
    case isFalse => exact none_some h
    rename_i h0
    split at h
    case isFalse => exact none_some h
    rename_i h1
    refine ⟨_, h, OpOk.val fun ρ w a hrel hs => ?_⟩
    have hp := opd_ok hs hv
    have hq := opd_ok hs hiv
    generalize hev : a.eval e = pv at hp
    generalize hef : a.eval f = qv at hq
    obtain ⟨rfl, _⟩ := is_int hq
    cases hp with
    | sl _ _ _ _ a' kk hkk hL hb =>
    rcases hb with ⟨rfl, hk0⟩ | ⟨b, cap, len, hb, h2, h3, rfl, hk1⟩
    · have : k = 0 := by omega
      subst this
      simp at h1
      omega
    · refine ⟨_, ?_, Is.rp c hh b cap _ (nn + (oo : Int)) 0 hb (by omega) (by omega)⟩
      unfold execOp
      have e1 : (nn + (oo : Int)).toNat * R.sz c = oo * R.sz c + nn.toNat * R.sz c := by
        rw [← Nat.add_mul]
        congr 1
        omega
      simp only [ho, hev, hef, Sem.run_bind, Instr.indexAt, asIntOf, run_underlying hu, Result.andThen_ok, Sem.run_pure, Sem.run_ite, h0, h1, and_self, if_true, (tiF_run hti w).1, add_at, hel, Nat.add_zero, e1]
  · obtain ⟨r, h1, h2⟩ := evIndexAddr_ok ht ho hv hiv h
    exact ⟨r, h1, h2.ok⟩
def evLenX (tab : Nat → Option TI) (t : TypeId) (v : Tv R.D) (m : List (Ent R.D)) (K : Tv R.D → Option X) : Option X :=
  match v with
  | .lf (.row c h) => match tab t with
    | some i => match Nat.beq i.kd 3 with
      | true => match rowLen m c h with
        | some ln => K (.lf (.v (.int .i64 (ln : Int))))
        | none => none
      | false => none
    | none => none
  | .lf (.sl c h o n) => match tab t with
    | some i => match Nat.beq i.kd 3 with
      | true => K (.lf (.v (.int .i64 (n : Int))))
      | false => none
    | none => none
  | .lf (.v (.slice none 0 0)) => match tab t with
    | some i => match Nat.beq i.kd 3 with
      | true => K (.lf (.v (.int .i64 0)))
      | false => none
    | none => none
  | v => evLen tab t v K
theorem run_len {t et ty : TypeId} (hu : P.underlying t = some (.slice et)) {ts : Array TypeId} (h0 : ts[0]? = some t) (a : Option Addr) (n k : Nat) (w : World) : (Builtin.len_ ts ty #[.slice a n k]).run P w = .ok (.int .i64 (n : Int)) w := by
  simp only [Builtin.len_, h0, List.getElem?_toArray, List.getElem?_cons_zero, Sem.run_bind, run_underlying hu, Result.andThen_ok, Sem.run_pure, goInt]
theorem evLenX_ok {tab : Nat → Option TI} (ht : TabOk P tab) {t ty : TypeId} {v : Tv R.D} {m : List (Ent R.D)} {K : Tv R.D → Option X} {x : X} (h : evLenX tab t v m K = some x) :
    ∃ r, K r = some x ∧ ∀ ρ w u (ts : Array TypeId), ts[0]? = some t → Rel R ρ m w → IsT R ρ w v u → ∃ q, (Builtin.len_ ts ty #[u]).run P w = .ok q w ∧ IsT R ρ w r q := by
  unfold evLenX at h
  split at h
  · rename_i c hh
    split at h
    case h_2 => exact none_some h
    rename_i i hi
    split at h
    case h_2 => exact none_some h
    rename_i hk
    obtain ⟨et, hu, _⟩ := tiOf_slice (ht _ _ hi) (Nat.eq_of_beq_eq_true hk)
    split at h
    case h_2 => exact none_some h
    rename_i ln hrow
    obtain ⟨l, lt, hm, rfl⟩ := rowLen_ok hrow
    refine ⟨_, h, fun ρ w u ts h0 hr hp => ?_⟩
    rcases hr.row hm with ⟨b, cap, len, hb, _, rfl, h1, h2, _⟩ | ⟨hb, rfl⟩
    · cases hp with
      | rnil _ _ a' hb' => rw [hb] at hb'; cases hb'
      | row _ _ b' cap' len' hb' =>
        rw [hb] at hb'
        cases hb'
        exact ⟨_, run_len hu h0 _ _ _ w, Is.v _ (wf_nat (Nat.le_trans h1 h2))⟩
    · cases hp with
      | rnil _ _ a' hb' => exact ⟨_, run_len hu h0 _ _ _ w, Is.v _ (show (Lit.int .i64 (0 : Int)).wf = true by decide)⟩
      | row _ _ b' cap' len' hb' => rw [hb] at hb'; cases hb'
  · split at h
    case h_2 => exact none_some h
    rename_i i hi
    split at h
    case h_2 => exact none_some h
    rename_i hk
    obtain ⟨et, hu, _⟩ := tiOf_slice (ht _ _ hi) (Nat.eq_of_beq_eq_true hk)
    refine ⟨_, h, fun ρ w u ts h0 hr hp => ?_⟩
    cases hp with
    | sl _ _ _ _ a' k hk' hL hb => exact ⟨_, run_len hu h0 _ _ _ w, Is.v _ (wf_nat hL)⟩
  · split at h
    case h_2 => exact none_some h
    rename_i i hi
    split at h
    case h_2 => exact none_some h
    rename_i hk
    obtain ⟨et, hu, _⟩ := tiOf_slice (ht _ _ hi) (Nat.eq_of_beq_eq_true hk)
    refine ⟨_, h, fun ρ w u ts h0 hr hp => ?_⟩
    cases hp
    exact ⟨_, run_len hu h0 _ _ _ w, Is.v _ (wf_nat (n := 0) (by omega))⟩
  · obtain ⟨r, hr, hq⟩ := evLen_ok (ty := ty) ht h
    exact ⟨r, hr, fun ρ w u ts h0 _ hp => hq ρ w u ts h0 hp⟩
end
end Go.Proofs.Ytjfcfljdojkcdaa.Ev
