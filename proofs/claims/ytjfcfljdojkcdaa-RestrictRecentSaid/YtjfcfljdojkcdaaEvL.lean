/- The evaluator's regions that draw their order: one order that is walked serves every order. -/
import Derived.Test.YtjfcfljdojkcdaaEvK
namespace Go.Proofs.Ytjfcfljdojkcdaa.Ev
open Go Go.RowKit
set_option linter.unusedVariables false
set_option linter.unusedSimpArgs false
section
variable {R : Ro} {P : Program} {X : Type}
/-- A temporary that holds a slice. -/
def tmpSl {D : Nat → Type} (x : Operand) (v : Tv D) : Bool := match x with
  | .tmp _ => isSl v
  | _ => false
/-- An operation that leaves memory as it is. -/
def evStill (E : Env R) (σ : List (Nat × Tv R.D)) (op : Op) (m : List (Ent R.D)) (K : Tv R.D → Option X) : Option X :=
  match op with
  | .move x => op1 σ x K
  | .assign x => op1 σ x K
  | .pick c a b => op1 σ c fun vc => brT vc fun t => op1 σ (pk t a b) K
  | .build t l => evBuild E.tab σ t l.toList K
  | .load t x => op1 σ x fun v => evLoadX R E.tab t v m K
  | .nilCheck x => op1 σ x fun v => evNil v K
  | .binOp op t x y _ => op1 σ x fun a => op1 σ y fun b => evBinX E.eqt E.tab op t a b (isLit y) K
  | .unOp op _ x => op1 σ x fun v => evUn op v K
  | .convert s d x => op1 σ x fun v => match tmpSl x v with
    | true => evBytes E.byt E.tab s d v m K
    | false => evConv E.tab s d v K
  | .fieldAddr t x k => op1 σ x fun v => evFieldAddr E.tab t v k K
  | .field t x k => op1 σ x fun v => evField E.tab t v k K
  | .indexAddr t x y => op1 σ x fun v => op1 σ y fun i => evIndexAddrX R E.tab t v i m K
  | .index t x y => op1 σ x fun v => op1 σ y fun i => evIndex R E.tab t v i K
  | .extract x k => op1 σ x fun v => evExtract v k K
  | .makeInterface t x => op1 σ x fun v => evIface E.tab t v K
  | .call c => match opds σ c.args.toList with
    | some args => match c.callee with
      | .builtin b => evBuiltinX E.tab b c.argTypes.toList args m K
      | .value (.func f) => match E.still f with
        | true => evFnR E f args m K
        | false => none
      | .invoke e name => match opd σ e with
        | some (.lf (.ifc t h off)) => match E.mt t name with
          | some f => match E.still f with
            | true => evFnR E f (.lf (.ptr h off) :: args) m K
            | false => none
          | none => none
        | _ => none
      | _ => none
    | none => none
  | .slice t x lo hi mx => match mx with
    | none => op1 σ x fun v => opt1 σ lo fun a => opt1 σ hi fun b => evSlice R E.tab t v a b m K
    | some y => match hi with
      | some z => op1 σ x fun v => op1 σ z fun b => op1 σ y fun q => opt1 σ lo fun a => evSlice3 R E.tab t v a b q m K
      | none => none
  | .makeFunc fn first caps => evMakeFunc σ fn first.toList caps.toList K
  | _ => none
theorem run_invoke {o : Oper} {c : Call} (ho : o.op = .call c) {e : Operand} {name : String} (hc : c.callee = .invoke e name) {mt : TypeId → String → Option FuncId} (hmt : MtOk P mt) {t : TypeId} {f : FuncId} (hf : mt t name = some f) (a : Act) (w : World) {b off : Nat} (heq : a.eval e = .iface t (.pointer (some ⟨b, off, none⟩))) :
    (execOp a.eval o).run P w = (callFunc f (Value.pointer (some ⟨b, off, none⟩) :: c.args.toList.map a.eval).toArray).run P w := by
  have hmap : c.args.map a.eval = (c.args.toList.map a.eval).toArray := by
    apply Array.ext'
    rw [Array.toList_map]
  unfold execOp
  have e1 : ((#[Value.iface t (.pointer (some ⟨b, off, none⟩))] ++ (c.args.toList.map a.eval).toArray) : Array Value)[0]? = some (Value.iface t (.pointer (some ⟨b, off, none⟩))) := by simp
  have e2 : (#[Value.iface t (.pointer (some ⟨b, off, none⟩))] ++ (c.args.toList.map a.eval).toArray).extract 1 (#[Value.iface t (.pointer (some ⟨b, off, none⟩))] ++ (c.args.toList.map a.eval).toArray).size = (c.args.toList.map a.eval).toArray := by
    apply Array.ext'
    simp
    exact List.take_of_length_le (by simp)
  simp only [ho, Sem.run_bind, resolve, hc, heq, Sem.run_pure, Result.andThen_ok, invoke, hmap, e1, e2, callMethod, run_program, hmt t name f hf]
  congr 2
  apply Array.ext'
  simp
theorem run_call {o : Oper} {c : Call} (ho : o.op = .call c) {f : FuncId} (hc : c.callee = .value (.func f)) (a : Act) (w : World) : (execOp a.eval o).run P w = (callFunc f (c.args.toList.map a.eval).toArray).run P w := by
  have hmap : c.args.map a.eval = (c.args.toList.map a.eval).toArray := by
    apply Array.ext'
    rw [Array.toList_map]
  have heq : a.eval (.func f) = .func (.func f) #[] #[] := rfl
  unfold execOp
  simp only [ho, Sem.run_bind, resolve, hc, heq, Deferred.ofValue, Sem.run_pure, Result.andThen_ok, invoke, hmap, Array.append_empty, Array.empty_append]
theorem evStill_ok {n : Nat} {σ : List (Nat × Tv R.D)} {E : Env R} (hE : EnvOk P E) (o : Oper) {m : List (Ent R.D)} {K : Tv R.D → Option X} {x : X} (h : evStill E σ o.op m K = some x) : ∃ r, K r = some x ∧ OpOk R P n o σ m r m := by
  unfold evStill at h
  split at h
  · rename_i e ho
    obtain ⟨v, hv, h⟩ := op1_ok h
    exact ⟨v, h, OpOk.val fun ρ w a hr hs => ⟨_, by unfold execOp; simp only [ho, Sem.run_pure], opd_ok hs hv⟩⟩
  · rename_i e ho
    obtain ⟨v, hv, h⟩ := op1_ok h
    exact ⟨v, h, OpOk.val fun ρ w a hr hs => ⟨_, by unfold execOp; simp only [ho, Sem.run_pure], opd_ok hs hv⟩⟩
  · rename_i c ea eb ho
    obtain ⟨vc, hvc, h⟩ := op1_ok h
    obtain ⟨t, h, hb⟩ := brT_ok h
    obtain ⟨v, hv, h⟩ := op1_ok h
    refine ⟨v, h, OpOk.val fun ρ w a hr hs => ⟨a.eval (pk t ea eb), ?_, opd_ok hs hv⟩⟩
    have := hb ρ w _ (opd_ok hs hvc)
    unfold execOp
    simp only [ho, Sem.run_bind, this, asBool, Sem.run_pure, Result.andThen_ok]
    cases t <;> rfl
  · rename_i t l ho
    obtain ⟨r, h1, h2⟩ := evBuild_ok hE.tab ho h
    exact ⟨r, h1, h2.ok⟩
  · rename_i t e ho
    obtain ⟨v, hv, h⟩ := op1_ok h
    exact evLoadX_ok hE.tab ho hv h
  · rename_i e ho
    obtain ⟨v, hv, h⟩ := op1_ok h
    obtain ⟨r, h1, h2⟩ := evNil_ok ho hv h
    exact ⟨r, h1, h2.ok⟩
  · rename_i op t e f yt ho
    obtain ⟨p, hp, h⟩ := op1_ok h
    obtain ⟨v, hv, h⟩ := op1_ok h
    obtain ⟨r, hr, hq⟩ := evBinX_ok hE.eqt hE.tab h
    refine ⟨r, hr, OpOk.val fun ρ w a hrel hs => ?_⟩
    obtain ⟨q, hrun, hi⟩ := hq ρ w _ _ (opd_ok hs hp) (opd_ok hs hv)
    refine ⟨q, ?_, hi⟩
    unfold execOp
    simp only [ho]
    rw [Sem.run_bind, hrun e f]
    rfl
  · rename_i op t e ho
    obtain ⟨v, hv, h⟩ := op1_ok h
    obtain ⟨r, hr, hq⟩ := evUn_ok (P := P) h
    refine ⟨r, hr, OpOk.val fun ρ w a hrel hs => ?_⟩
    obtain ⟨q, hrun, hi⟩ := hq ρ w _ (opd_ok hs hv)
    refine ⟨q, ?_, hi⟩
    unfold execOp
    simp only [ho]
    rw [Sem.run_bind, hrun]
    rfl
  · rename_i s d e ho
    obtain ⟨v, hv, h⟩ := op1_ok h
    split at h
    · obtain ⟨r, hr, hq⟩ := evBytes_ok hE.tab h
      refine ⟨r, hr, OpOk.val fun ρ w a hrel hs => ?_⟩
      obtain ⟨q, hrun, hi⟩ := hq ρ w _ hrel (opd_ok hs hv)
      refine ⟨q, ?_, hi⟩
      unfold execOp
      simp only [ho]
      rw [Sem.run_bind, hrun]
      rfl
    · obtain ⟨r, hr, hq⟩ := evConv_ok hE.tab h
      refine ⟨r, hr, OpOk.val fun ρ w a hrel hs => ?_⟩
      obtain ⟨q, hrun, hi⟩ := hq ρ w _ (opd_ok hs hv)
      refine ⟨q, ?_, hi⟩
      unfold execOp
      simp only [ho]
      rw [Sem.run_bind, hrun]
      rfl
  · rename_i t e k ho
    obtain ⟨v, hv, h⟩ := op1_ok h
    obtain ⟨r, h1, h2⟩ := evFieldAddr_ok hE.tab ho hv h
    exact ⟨r, h1, h2.ok⟩
  · rename_i t e k ho
    obtain ⟨v, hv, h⟩ := op1_ok h
    obtain ⟨r, h1, h2⟩ := evField_ok hE.tab ho hv h
    exact ⟨r, h1, h2.ok⟩
  · rename_i t e f ho
    obtain ⟨v, hv, h⟩ := op1_ok h
    obtain ⟨i, hi, h⟩ := op1_ok h
    exact evIndexAddrX_ok hE.tab ho hv hi h
  · rename_i t e f ho
    obtain ⟨v, hv, h⟩ := op1_ok h
    obtain ⟨i, hi, h⟩ := op1_ok h
    obtain ⟨r, h1, h2⟩ := evIndex_ok hE.tab ho hv hi h
    exact ⟨r, h1, h2.ok⟩
  · rename_i e k ho
    obtain ⟨v, hv, h⟩ := op1_ok h
    obtain ⟨r, h1, h2⟩ := evExtract_ok ho hv h
    exact ⟨r, h1, h2.ok⟩
  · rename_i t e ho
    obtain ⟨v, hv, h⟩ := op1_ok h
    obtain ⟨r, h1, h2⟩ := evIface_ok hE.tab ho hv h
    exact ⟨r, h1, h2.ok⟩
  · rename_i c ho
    split at h
    · rename_i args hargs
      split at h
      · rename_i b hb
        obtain ⟨r, hr, hq⟩ := evBuiltinX_ok hE.tab (ty := o.type) (cs := c.args.map fun | .const _ => true | _ => false) h
        refine ⟨r, hr, OpOk.val fun ρ w a hrel hs => ?_⟩
        obtain ⟨q, hrun, hi⟩ := hq ρ w _ hrel (opds_ok hs _ hargs)
        refine ⟨q, ?_, hi⟩
        have hmap : c.args.map a.eval = (c.args.toList.map a.eval).toArray := by
          apply Array.ext'
          rw [Array.toList_map]
        unfold execOp
        simp only [ho, Sem.run_bind, resolve, hb, Sem.run_pure, Result.andThen_ok, invoke, hmap]
        rw [← Array.toArray_toList (xs := c.argTypes)]
        exact hrun
      · rename_i f hc
        split at h
        · obtain ⟨v, hv, hcall⟩ := evFnR_ok hE.ct h
          exact ⟨v, hv, fun ρ w a hrel hs => (hcall ρ w _ hrel (opds_ok hs _ hargs)).yld (run_call ho hc a w)⟩
        · cases h
      · rename_i e name hc
        split at h
        · rename_i t hh off he
          split at h
          · rename_i f hf
            split at h
            · obtain ⟨v, hv, hcall⟩ := evFnR_ok hE.ct h
              refine ⟨v, hv, fun ρ w a hrel hs => ?_⟩
              have hev := opd_ok hs he
              generalize heq : a.eval e = ev at hev
              cases hev with
              | ifc _ _ _ b hb =>
              exact (hcall ρ w (.pointer (some ⟨b, off, none⟩) :: _) hrel (.cons (Is.ptr _ _ b hb) (opds_ok hs _ hargs))).yld (run_invoke ho hc hE.mt hf a w heq)
            · cases h
          · cases h
        · cases h
      · cases h
    · cases h
  · rename_i t e lo hi mx ho
    split at h
    · obtain ⟨v, hv, h⟩ := op1_ok h
      exact evSliceOp_ok hE.tab ho hv h
    · split at h
      · obtain ⟨v, hv, h⟩ := op1_ok h
        obtain ⟨b, hb, h⟩ := op1_ok h
        obtain ⟨q, hq, h⟩ := op1_ok h
        exact evSlice3Op_ok hE.tab ho hv hb hq h
      · cases h
  · rename_i fn first caps ho
    obtain ⟨r, hr, hq⟩ := evMakeFunc_ok ho h
    exact ⟨r, hr, hq.ok⟩
  · cases h

/-- A load tells the same of every memory in which its own cell is the same. -/
theorem ldc_some {i : TI} {cs : List (Lf R.D)} {off : Nat} {K : Tv R.D → Option X} {x : X} (h : ldc i cs off K = some x) : ∃ r, ldc i cs off some = some r ∧ K r = some x := by
  unfold ldc at h ⊢
  split at h
  · split at h
    · exact ⟨_, rfl, h⟩
    · cases h
  · split at h
    · exact ⟨_, rfl, h⟩
    · cases h
theorem evLoadX_keep {tab : Nat → Option TI} {t : TypeId} {v : Tv R.D} {m : List (Ent R.D)} {K : Tv R.D → Option X} {x : X} (h : evLoadX R tab t v m K = some x) :
    ∃ r, K r = some x ∧ ∀ m1 : List (Ent R.D), (∀ q ∈ tvH v, m1[q]? = m[q]?) → evLoadX R tab t v m1 some = some r := by
  unfold evLoadX at h
  split at h
  · rename_i c hh i j
    split at h
    · rename_i ti hti
      split at h
      · rename_i c' l et hm
        split at h
        · rename_i hc
          obtain ⟨r, h1, h2⟩ := ldc_some h
          refine ⟨r, h2, fun m1 h3 => ?_⟩
          have := h3 hh (by simp [tvH, lfH])
          unfold evLoadX
          simp only [hti, this, hm, hc]
          exact h1
        · cases h
      · cases h
    · cases h
  · rename_i hv
    unfold evLoad at h
    split at h
    · rename_i i hi
      split at h
      · rename_i hh off
        split at h
        · rename_i cs tt hm
          obtain ⟨r, h1, h2⟩ := ldc_some h
          refine ⟨r, h2, fun m1 h3 => ?_⟩
          have := h3 hh (by simp [tvH, lfH])
          unfold evLoadX evLoad
          simp only [hi, this, hm]
          exact h1
        · cases h
      · obtain ⟨r, h1, h2⟩ := ldc_some h
        refine ⟨r, h2, fun m1 h3 => ?_⟩
        unfold evLoadX evLoad
        simp only [hi]
        exact h1
      · cases h
    · cases h
/-- A load of what stands behind a temporary; the length of one. -/
def keyT (op : Op) : Option Tmp := match op with
  | .load _ (.tmp e) => some e
  | .convert _ _ (.tmp e) => some e
  | .call c => match c.callee with
    | .builtin .len => match c.args.toList with
      | [.tmp e] => some e
      | _ => none
    | _ => none
  | _ => none
theorem evLen_keep {tab : Nat → Option TI} {t : TypeId} {v : Tv R.D} {K : Tv R.D → Option X} {x : X} (h : evLen tab t v K = some x) : ∃ r, K r = some x ∧ evLen tab t v some = some r := by
  unfold evLen at h ⊢
  repeat' split at h
  all_goals first | cases h | skip
  all_goals (first | exact ⟨_, h, by simp_all⟩ | exact ⟨_, h, rfl⟩)
theorem evLenX_keep {tab : Nat → Option TI} {t : TypeId} {v : Tv R.D} {m : List (Ent R.D)} {K : Tv R.D → Option X} {x : X} (h : evLenX tab t v m K = some x) :
    ∃ r, K r = some x ∧ ∀ m1 : List (Ent R.D), (∀ q ∈ tvH v, m1[q]? = m[q]?) → evLenX tab t v m1 some = some r := by
  unfold evLenX at h
  split at h
  · rename_i c hh
    split at h
    · rename_i i hi
      split at h
      · rename_i hk
        split at h
        · rename_i ln hl
          refine ⟨_, h, fun m1 h3 => ?_⟩
          have := h3 hh (by simp [tvH, lfH])
          have hl1 : rowLen m1 c hh = some ln := by
            unfold rowLen at hl ⊢
            rw [this]
            exact hl
          unfold evLenX
          simp only [hi, hk, hl1]
        · cases h
      · cases h
    · cases h
  · rename_i c hh o n
    split at h
    · rename_i i hi
      split at h
      · rename_i hk
        refine ⟨_, h, fun m1 h3 => ?_⟩
        unfold evLenX
        simp only [hi, hk]
      · cases h
    · cases h
  · split at h
    · rename_i i hi
      split at h
      · rename_i hk
        refine ⟨_, h, fun m1 h3 => ?_⟩
        unfold evLenX
        simp only [hi, hk]
      · cases h
    · cases h
  · rename_i h1 h2 h3
    obtain ⟨r, h4, h5⟩ := evLen_keep h
    refine ⟨r, h4, fun m1 _ => ?_⟩
    unfold evLenX
    split
    · exact absurd rfl (h1 _ _)
    · exact absurd rfl (h2 _ _ _ _)
    · exact absurd rfl h3
    · exact h5
theorem evStill_load {n : Nat} {σ : List (Nat × Tv R.D)} {E : Env R} (hE : EnvOk P E) (o : Oper) {t : TypeId} {e : Tmp} (ho : o.op = .load t (.tmp e)) {m : List (Ent R.D)} {K : Tv R.D → Option X} {x : X} (h : evStill E σ o.op m K = some x) :
    ∃ r p, Sg.find σ e = some p ∧ K r = some x ∧ ∀ m1 : List (Ent R.D), (∀ q ∈ tvH p, m1[q]? = m[q]?) → OpOk R P n o σ m1 r m1 := by
  rw [ho] at h
  obtain ⟨p, hp, h⟩ := op1_ok (show op1 σ (.tmp e) (fun v => evLoadX R E.tab t v m K) = some x from h)
  obtain ⟨r, h1, h2⟩ := evLoadX_keep h
  refine ⟨r, p, hp, h1, fun m1 h3 => ?_⟩
  have h4 : evStill E σ o.op m1 some = some r := by
    rw [ho]
    show op1 σ (.tmp e) (fun v => evLoadX R E.tab t v m1 some) = some r
    unfold op1
    rw [hp]
    exact h2 m1 h3
  obtain ⟨r', h5, h6⟩ := evStill_ok (n := n) hE o h4
  cases h5
  exact h6

theorem srcOf_keep {m m1 : List (Ent R.D)} {c : Nat} {v : Tv R.D} {l : List (R.D c)} (h : srcOf m c v = some l) (hk : ∀ q ∈ tvH v, m1[q]? = m[q]?) : srcOf m1 c v = some l := by
  unfold srcOf at h ⊢
  split at h
  · exact h
  · rename_i c0 hh
    simp only [hk hh (by simp [tvH, lfH])]
    exact h
  · rename_i c0 hh o n
    simp only [hk hh (by simp [tvH, lfH])]
    exact h
  · exact h
  · cases h
theorem evConv_keep {tab : Nat → Option TI} {src dst : TypeId} {v : Tv R.D} {K : Tv R.D → Option X} {x : X} (h : evConv tab src dst v K = some x) : ∃ r, K r = some x ∧ evConv tab src dst v some = some r := by
  unfold evConv at h ⊢
  repeat' split at h
  all_goals first | cases h | skip
  all_goals (first | exact ⟨_, h, by simp_all⟩ | exact ⟨_, h, rfl⟩)
theorem evBytes_keep {byt : Option (ByT R)} {tab : Nat → Option TI} {src dst : TypeId} {v : Tv R.D} {m : List (Ent R.D)} {K : Tv R.D → Option X} {x : X} (h : evBytes byt tab src dst v m K = some x) :
    ∃ r, K r = some x ∧ ∀ m1 : List (Ent R.D), (∀ q ∈ tvH v, m1[q]? = m[q]?) → evBytes byt tab src dst v m1 some = some r := by
  unfold evBytes at h
  split at h
  case h_2 => cases h
  rename_i b
  split at h
  case h_2 => cases h
  rename_i si hsi
  split at h
  case h_2 => cases h
  rename_i hk
  split at h
  case h_2 => cases h
  rename_i ei hei
  split at h
  case h_2 => cases h
  rename_i hk8
  split at h
  case h_2 => cases h
  rename_i di hdi
  split at h
  case h_2 => cases h
  rename_i hk6
  split at h
  case h_2 => cases h
  rename_i l hl
  refine ⟨_, h, fun m1 h1 => ?_⟩
  unfold evBytes
  simp only [hsi, hk, hei, hk8, hdi, hk6, srcOf_keep hl h1]
theorem evStill_key {n : Nat} {σ : List (Nat × Tv R.D)} {E : Env R} (hE : EnvOk P E) (o : Oper) {e : Tmp} (ho : keyT o.op = some e) {m : List (Ent R.D)} {K : Tv R.D → Option X} {x : X} (h : evStill E σ o.op m K = some x) :
    ∃ r p, Sg.find σ e = some p ∧ K r = some x ∧ ∀ m1 : List (Ent R.D), (∀ q ∈ tvH p, m1[q]? = m[q]?) → OpOk R P n o σ m1 r m1 := by
  unfold keyT at ho
  split at ho
  · rename_i t e' hop
    cases ho
    exact evStill_load hE o hop h
  · rename_i sT dT e' hop
    cases ho
    rw [hop] at h
    obtain ⟨p, hp, h⟩ := op1_ok (show op1 σ (.tmp e) (fun v => match tmpSl (.tmp e) v with
      | true => evBytes E.byt E.tab sT dT v m K
      | false => evConv E.tab sT dT v K) = some x from h)
    have fin : ∀ {r : Tv R.D} {m1 : List (Ent R.D)}, evStill E σ o.op m1 some = some r → OpOk R P n o σ m1 r m1 := fun h4 => by
      obtain ⟨r', h5, h6⟩ := evStill_ok (n := n) hE o h4
      cases h5
      exact h6
    split at h
    · rename_i hts
      obtain ⟨r, h1, h2⟩ := evBytes_keep h
      refine ⟨r, p, hp, h1, fun m1 h3 => fin ?_⟩
      rw [hop]
      show op1 σ (.tmp e) (fun v => match tmpSl (.tmp e) v with
        | true => evBytes E.byt E.tab sT dT v m1 some
        | false => evConv E.tab sT dT v some) = some r
      unfold op1
      simp only [hp, hts]
      exact h2 m1 h3
    · rename_i hts
      obtain ⟨r, h1, h2⟩ := evConv_keep h
      refine ⟨r, p, hp, h1, fun m1 h3 => fin ?_⟩
      rw [hop]
      show op1 σ (.tmp e) (fun v => match tmpSl (.tmp e) v with
        | true => evBytes E.byt E.tab sT dT v m1 some
        | false => evConv E.tab sT dT v some) = some r
      unfold op1
      simp only [hp, hts]
      exact h2
  · rename_i c hop
    split at ho
    · rename_i hc
      split at ho
      · rename_i e' ha
        cases ho
        rw [hop] at h
        unfold evStill at h
        simp only [hc, ha, opds, evBuiltinX] at h
        cases hp : opd σ (.tmp e) with
        | none => simp only [hp] at h; cases h
        | some p =>
          simp only [hp] at h
          split at h
          · rename_i t ts hts
            obtain ⟨r, h1, h2⟩ := evLenX_keep h
            refine ⟨r, p, hp, h1, fun m1 h3 => ?_⟩
            have h4 : evStill E σ o.op m1 some = some r := by
              rw [hop]
              unfold evStill
              simp only [hc, ha, opds, evBuiltinX, hp, hts]
              exact h2 m1 h3
            obtain ⟨r', h5, h6⟩ := evStill_ok (n := n) hE o h4
            cases h5
            exact h6
          · cases h
      · cases ho
    · cases ho
  · cases ho
/-- Operations that look at no memory. -/
def pureOp : Op → Bool
  | .move _ => true
  | .assign _ => true
  | .pick _ _ _ => true
  | .build _ _ => true
  | .nilCheck _ => true
  | .binOp _ _ _ _ _ => true
  | .unOp _ _ _ => true
  | .convert _ _ x => match x with | .tmp _ => false | _ => true
  | .fieldAddr _ _ _ => true
  | .field _ _ _ => true
  | .index _ _ _ => true
  | .extract _ _ => true
  | .makeInterface _ _ => true
  | .makeFunc _ _ _ => true
  | _ => false
theorem evPure_ok {n : Nat} {σ : List (Nat × Tv R.D)} {E : Env R} (hE : EnvOk P E) (o : Oper) (hp : pureOp o.op = true) {m : List (Ent R.D)} {K : Tv R.D → Option X} {x : X} (h : evStill E σ o.op m K = some x) : ∃ r, K r = some x ∧ OpV R P n o σ r := by
  unfold evStill at h
  split at h
  · rename_i e ho
    obtain ⟨v, hv, h⟩ := op1_ok h
    exact ⟨v, h, fun ρ w a hs => ⟨_, by unfold execOp; simp only [ho, Sem.run_pure], opd_ok hs hv⟩⟩
  · rename_i e ho
    obtain ⟨v, hv, h⟩ := op1_ok h
    exact ⟨v, h, fun ρ w a hs => ⟨_, by unfold execOp; simp only [ho, Sem.run_pure], opd_ok hs hv⟩⟩
  · rename_i c ea eb ho
    obtain ⟨vc, hvc, h⟩ := op1_ok h
    obtain ⟨t, h, hb⟩ := brT_ok h
    obtain ⟨v, hv, h⟩ := op1_ok h
    refine ⟨v, h, fun ρ w a hs => ⟨a.eval (pk t ea eb), ?_, opd_ok hs hv⟩⟩
    have := hb ρ w _ (opd_ok hs hvc)
    unfold execOp
    simp only [ho, Sem.run_bind, this, asBool, Sem.run_pure, Result.andThen_ok]
    cases t <;> rfl
  · rename_i t l ho
    exact evBuild_ok hE.tab ho h
  · rename_i t e ho
    rw [ho] at hp; cases hp
  · rename_i e ho
    obtain ⟨v, hv, h⟩ := op1_ok h
    exact evNil_ok ho hv h
  · rename_i op t e f yt ho
    obtain ⟨p, hp, h⟩ := op1_ok h
    obtain ⟨v, hv, h⟩ := op1_ok h
    obtain ⟨r, hr, hq⟩ := evBinX_ok hE.eqt hE.tab h
    refine ⟨r, hr, fun ρ w a hs => ?_⟩
    obtain ⟨q, hrun, hi⟩ := hq ρ w _ _ (opd_ok hs hp) (opd_ok hs hv)
    refine ⟨q, ?_, hi⟩
    unfold execOp
    simp only [ho]
    rw [Sem.run_bind, hrun e f]
    rfl
  · rename_i op t e ho
    obtain ⟨v, hv, h⟩ := op1_ok h
    obtain ⟨r, hr, hq⟩ := evUn_ok (P := P) h
    refine ⟨r, hr, fun ρ w a hs => ?_⟩
    obtain ⟨q, hrun, hi⟩ := hq ρ w _ (opd_ok hs hv)
    refine ⟨q, ?_, hi⟩
    unfold execOp
    simp only [ho]
    rw [Sem.run_bind, hrun]
    rfl
  · rename_i s d e ho
    obtain ⟨v, hv, h⟩ := op1_ok h
    have hts : tmpSl e v = false := by
      rw [ho] at hp
      unfold pureOp at hp
      unfold tmpSl
      cases e <;> first | rfl | cases hp
    simp only [hts] at h
    obtain ⟨r, hr, hq⟩ := evConv_ok hE.tab h
    refine ⟨r, hr, fun ρ w a hs => ?_⟩
    obtain ⟨q, hrun, hi⟩ := hq ρ w _ (opd_ok hs hv)
    refine ⟨q, ?_, hi⟩
    unfold execOp
    simp only [ho]
    rw [Sem.run_bind, hrun]
    rfl
  · rename_i t e k ho
    obtain ⟨v, hv, h⟩ := op1_ok h
    exact evFieldAddr_ok hE.tab ho hv h
  · rename_i t e k ho
    obtain ⟨v, hv, h⟩ := op1_ok h
    exact evField_ok hE.tab ho hv h
  · rename_i t e f ho
    rw [ho] at hp; cases hp
  · rename_i t e f ho
    obtain ⟨v, hv, h⟩ := op1_ok h
    obtain ⟨i, hi, h⟩ := op1_ok h
    exact evIndex_ok hE.tab ho hv hi h
  · rename_i e k ho
    obtain ⟨v, hv, h⟩ := op1_ok h
    exact evExtract_ok ho hv h
  · rename_i t e ho
    obtain ⟨v, hv, h⟩ := op1_ok h
    exact evIface_ok hE.tab ho hv h
  · rename_i c ho
    rw [ho] at hp; cases hp
  · rename_i t e lo hi mx ho
    rw [ho] at hp; cases hp
  · rename_i fn first caps ho
    exact evMakeFunc_ok ho h
  · cases h

/-! ### What an operation is told: no more than it looks at -/
def opTmps (o : Oper) : List Tmp := o.op.operands.toList.filterMap fun | .tmp t => some t | _ => none
def restr {D : Nat → Type} (σ : List (Nat × Tv D)) : List Nat → List (Nat × Tv D)
  | [] => []
  | k :: l => match Sg.find σ k with
    | some v => (k, v) :: restr σ l
    | none => restr σ l
def sgH {D : Nat → Type} : List (Nat × Tv D) → List Nat
  | [] => []
  | (_, v) :: r => tvH v ++ sgH r
def ltB (n : Nat) : List Nat → Bool
  | [] => true
  | a :: l => match Nat.blt a n with
    | true => ltB n l
    | false => false
theorem ltB_ok {n : Nat} : ∀ {l : List Nat}, ltB n l = true → ∀ a ∈ l, a < n
  | [], _, a, h => by simp at h
  | b :: l, h, a, hm => by
    simp only [ltB] at h
    split at h
    · rename_i hb
      rcases List.mem_cons.1 hm with rfl | hm
      · rw [← Nat.blt_eq]; exact hb
      · exact ltB_ok h a hm
    · cases h
theorem restr_find {D : Nat → Type} {σ : List (Nat × Tv D)} : ∀ {l : List Nat} {k : Nat} {v : Tv D}, Sg.find (restr σ l) k = some v → k ∈ l ∧ Sg.find σ k = some v
  | [], k, v, h => by simp [restr, Sg.find] at h
  | a :: l, k, v, h => by
    simp only [restr] at h
    split at h
    · rename_i u hu
      simp only [Sg.find] at h
      split at h
      · rename_i he
        have := Nat.eq_of_beq_eq_true he
        subst this
        cases h
        exact ⟨List.mem_cons_self .., hu⟩
      · obtain ⟨h1, h2⟩ := restr_find h
        exact ⟨List.mem_cons_of_mem _ h1, h2⟩
    · obtain ⟨h1, h2⟩ := restr_find h
      exact ⟨List.mem_cons_of_mem _ h1, h2⟩
theorem find_sgH {D : Nat → Type} : ∀ {σ : List (Nat × Tv D)} {k : Nat} {v : Tv D}, Sg.find σ k = some v → ∀ h ∈ tvH v, h ∈ sgH σ
  | [], k, v, h, _, _ => by simp [Sg.find] at h
  | (j, u) :: σ, k, v, h, q, hq => by
    simp only [Sg.find] at h
    simp only [sgH, List.mem_append]
    split at h
    · cases h; exact .inl hq
    · exact .inr (find_sgH h q hq)
theorem brT_free {v : Tv R.D} {K : Bool → Option X} {x : X} (h : brT v K = some x) : tvH v = [] := by
  unfold brT at h
  split at h <;> first | rfl | cases h
/-- One value is what the other one is, or tells less, and nothing of blocks. -/
def Imp (R : Ro) (v0 v : Tv R.D) : Prop := v0 = v ∨ ((tvH v = [] ∧ tvH v0 = []) ∧ ∀ ρ w u, IsT R ρ w v0 u → IsT R ρ w v u)
theorem Imp.rfl {v : Tv R.D} : Imp R v v := .inl (Eq.refl _)
theorem Imp.to {v0 v : Tv R.D} (h : Imp R v0 v) {ρ : Ow} {w : World} {u : Value} (hu : IsT R ρ w v0 u) : IsT R ρ w v u := by
  rcases h with rfl | ⟨_, h⟩
  · exact hu
  · exact h ρ w u hu
theorem Imp.trans {a b c : Tv R.D} (h : Imp R a b) (h' : Imp R b c) : Imp R a c := by
  rcases h' with rfl | ⟨hn, h'⟩
  · exact h
  · refine .inr ⟨⟨hn.1, ?_⟩, fun ρ w u hu => h' ρ w u (h.to hu)⟩
    rcases h with rfl | ⟨hm, _⟩
    · exact hn.2
    · exact hm.2
/-- 'σ'' is told by 'σ', or better. -/
def Ref (R : Ro) (σ σ' : List (Nat × Tv R.D)) (k : Nat) (v : Tv R.D) : Prop := Sg.find σ' k = some v → ∃ v0, Sg.find σ k = some v0 ∧ Imp R v0 v
def Refs (R : Ro) (σ σ' : List (Nat × Tv R.D)) : Prop := ∀ k v, Ref R σ σ' k v
theorem Refs.refl (σ : List (Nat × Tv R.D)) : Refs R σ σ := fun k v h => ⟨v, h, Imp.rfl⟩
theorem Refs.trans {a b c : List (Nat × Tv R.D)} (h : Refs R a b) (h' : Refs R b c) : Refs R a c := fun k v hc => by
  obtain ⟨v1, h1, e1⟩ := h' k v hc
  obtain ⟨v0, h0, e0⟩ := h k v1 h1
  exact ⟨v0, h0, e0.trans e1⟩
theorem Refs.put {σ σ' : List (Nat × Tv R.D)} (h : Refs R σ σ') (d : Nat) (v : Tv R.D) : Refs R ((d, v) :: σ) ((d, v) :: σ') := by
  intro k u hk
  simp only [Sg.find] at hk ⊢
  split at hk
  · exact ⟨u, hk, Imp.rfl⟩
  · exact h k u hk
theorem Refs.sat {σ σ' : List (Nat × Tv R.D)} (h : Refs R σ σ') {ρ : Ow} {w : World} {n : Nat} {a : Act} (hs : Sat R ρ w n σ a) : Sat R ρ w n σ' a :=
  ⟨hs.size, hs.defers, fun i v hv => by
    obtain ⟨v0, h0, e0⟩ := h i v hv
    obtain ⟨u, hu, hi⟩ := hs.at_ i v0 h0
    exact ⟨u, hu, e0.to hi⟩⟩

/-! ### An operation, by what it looks at alone -/
variable {ops : Array Oper} {n : Nat}
def looks (ops : Array Oper) (o : Oper) (k : Nat) : Prop := k ∈ o.looksAt ops
/-- What operation 'o' does at 'σ' and 'm'. -/
def Does (R : Ro) (P : Program) (n : Nat) (ops : Array Oper) (o : Oper) (σ : List (Nat × Tv R.D)) (m : List (Ent R.D)) (v : Tv R.D) (m' : List (Ent R.D)) : Prop :=
  ∃ t, (∃ σg : List (Nat × Tv R.D), (∀ k u, Sg.find σg k = some u → k ∈ o.looksAt ops ∧ Ref R σ σg k u) ∧ ∀ (ρ : Ow) (w : World) (a : Act), Sat R ρ w n σg a → Region.wanted o (yielded ops a.tmps) = t) ∧
    ((t = true ∧ ∃ σr : List (Nat × Tv R.D), (∀ k u, Sg.find σr k = some u → k ∈ o.looksAt ops ∧ Ref R σ σr k u) ∧ OpOk R P n o σr m v m') ∨ (t = false ∧ v = .un ∧ m' = m))
theorem Does.congr {o : Oper} {σ σ1 : List (Nat × Tv R.D)} {m m' : List (Ent R.D)} {v : Tv R.D} (h : Does R P n ops o σ m v m') (hs : ∀ k ∈ o.looksAt ops, ∀ u, Ref R σ1 σ k u) : Does R P n ops o σ1 m v m' := by
  have up : ∀ {σr : List (Nat × Tv R.D)}, (∀ k u, Sg.find σr k = some u → k ∈ o.looksAt ops ∧ Ref R σ σr k u) → ∀ k u, Sg.find σr k = some u → k ∈ o.looksAt ops ∧ Ref R σ1 σr k u := fun hr k u hk => by
    obtain ⟨h1, h2⟩ := hr k u hk
    refine ⟨h1, fun _ => ?_⟩
    obtain ⟨v1, hv1, e1⟩ := h2 hk
    obtain ⟨v0, hv0, e0⟩ := hs k h1 v1 hv1
    exact ⟨v0, hv0, e0.trans e1⟩
  obtain ⟨t, ⟨σg, hg, hw⟩, h⟩ := h
  refine ⟨t, ⟨σg, up hg, hw⟩, ?_⟩
  rcases h with ⟨ht, σr, hr, hop⟩ | h
  · exact .inl ⟨ht, σr, up hr, hop⟩
  · exact .inr h
theorem refs_sat {σ σr : List (Nat × Tv R.D)} (h : ∀ k u, Sg.find σr k = some u → Ref R σ σr k u) {ρ : Ow} {w : World} {a : Act} (hs : Sat R ρ w n σ a) : Sat R ρ w n σr a :=
  Refs.sat (fun k v hv => h k v hv hv) hs
/-- More memory makes no difference to an operation that leaves memory as it is and looks at none of the new blocks. -/
theorem OpOk.more {o : Oper} {σ : List (Nat × Tv R.D)} {m : List (Ent R.D)} {v : Tv R.D} (h : OpOk R P n o σ m v m) (hH : ∀ q ∈ sgH σ, q < m.length) (hm : ∀ q ∈ entsH m, q < m.length) (es : List (Ent R.D)) : OpOk R P n o σ (m ++ es) v (m ++ es) := by
  intro ρ w a hr hs
  have hlen : m.length ≤ ρ.r.length := by rw [hr.len]; simp
  have htk : ∀ (i : Nat) (b : Bk), i < m.length → ρ.r[i]? = some b → (ρ.r.take m.length)[i]? = some b := fun i b hi hb => by rw [List.getElem?_take, if_pos hi]; exact hb
  have hun : ∀ (i : Nat) (b : Bk), (ρ.r.take m.length)[i]? = some b → ρ.r[i]? = some b := fun i b hb => by
    rw [List.getElem?_take] at hb
    split at hb
    · exact hb
    · cases hb
  have hin : ∀ {i : Nat} {e : Ent R.D}, m[i]? = some e → (m ++ es)[i]? = some e := fun {i e} he => by rw [List.getElem?_append_left (List.getElem?_eq_some_iff.1 he).1]; exact he
  have hheld : ∀ b, Held (⟨ρ.F, ρ.r.take m.length⟩ : Ow) m b → Held ρ (m ++ es) b := fun b ⟨i, q, e, h1, h2, h3, h4⟩ => ⟨i, q, e, hun i q h1, hin h2, h3, h4⟩
  have hr0 : Rel R ⟨ρ.F, ρ.r.take m.length⟩ m w := by
    refine ⟨by show (ρ.r.take m.length).length = _; rw [List.length_take]; omega, fun i j p q e e' b h1 h2 h3 h4 => hr.nd i j p q e e' b (hun i p h1) (hun j q h2) (hin h3) (hin h4), hr.lt, fun b hb => hr.fits b (hheld b hb), fun i b e hi he => ?_⟩
    exact (hr.ok i b e (hun i b hi) (hin he)).to (fun _ h => h) fun q hq b' hb' => htk q b' (hm q (mem_entsH (List.mem_of_getElem? he) hq)) hb'
  have hs0 : Sat R ⟨ρ.F, ρ.r.take m.length⟩ w n σ a := ⟨hs.size, hs.defers, fun i v hv => by
    obtain ⟨u, hu, hi⟩ := hs.at_ i v hv
    exact ⟨u, hu, hi.to (fun _ h => h) fun q hq b' hb' => htk q b' (hH q (find_sgH hv q hq)) hb'⟩⟩
  refine (h _ w a hr0 hs0).mono fun u w' ⟨ρ1, hg, hrel, hi⟩ => ?_
  have hlen1 : ρ1.r.length = m.length := hrel.len
  have h1r : ∀ i q, ρ1.r[i]? = some q → ρ.r[i]? = some q := fun i q hq => by
    have hlt : i < m.length := by rw [← hlen1]; exact (List.getElem?_eq_some_iff.1 hq).1
    have hlt' : i < ρ.r.length := by omega
    have h1 := hg.ext.pre i ρ.r[i] (htk i _ hlt (List.getElem?_eq_getElem hlt'))
    rw [hq, Option.some.injEq] at h1
    rw [h1]
    exact List.getElem?_eq_getElem hlt'
  have hr1 : ∀ i q, i < m.length → ρ.r[i]? = some q → ρ1.r[i]? = some q := fun i q hlt hq => hg.ext.pre i q (htk i q hlt hq)
  have h1held : ∀ b, Held ρ1 m b → Held (⟨ρ.F, ρ.r.take m.length⟩ : Ow) m b := fun b ⟨i, q, e, h1, h2, h3, h4⟩ => ⟨i, q, e, htk i q (List.getElem?_eq_some_iff.1 h2).1 (h1r i q h1), h2, h3, h4⟩
  have hfr : Fr (Held ρ (m ++ es)) w w' := hg.fr.imp hheld
  have hout : ∀ {i : Nat} {q : Bk} {e : Ent R.D} {b : Nat}, m.length ≤ i → ρ.r[i]? = some q → (m ++ es)[i]? = some e → e.live → q.b? = some b → ¬ Held (⟨ρ.F, ρ.r.take m.length⟩ : Ow) m b := fun {i q e b} hge h1 h2 h3 h4 ⟨j, p, e', k1, k2, k3, k4⟩ => by
    have := hr.nd i j q p e e' b h1 (hun j p k1) h2 (hin k2) h3 k3 h4 k4
    have := (List.getElem?_eq_some_iff.1 k2).1
    omega
  have hle : Le ρ w ⟨ρ1.F, ρ.r⟩ := ⟨fun _ _ h => h, hg.ext.F1⟩
  refine ⟨⟨ρ1.F, ρ.r⟩, ⟨⟨hle, fun b hb hn => hg.ext.F2 b hb fun hh => hn (hheld b hh), fun b hb => .inl hb, fun _ h => h⟩, hfr⟩, ⟨hr.len, hr.nd, hrel.lt, fun b hb => ?_, fun i q e hi he => ?_⟩, hi.to (fun _ h => h) fun q _ b' hb' => h1r q b' hb'⟩
  · obtain ⟨i, q, e, h1, h2, h3, h4⟩ := hb
    rcases Nat.lt_or_ge i m.length with hlt | hge
    · rw [List.getElem?_append_left hlt] at h2
      exact hrel.fits b ⟨i, q, e, hr1 i q hlt h1, h2, h3, h4⟩
    · exact hg.ext.F2 b (hr.fits b ⟨i, q, e, h1, h2, h3, h4⟩) (hout hge h1 h2 h3 h4)
  · rcases Nat.lt_or_ge i m.length with hlt | hge
    · rw [List.getElem?_append_left hlt] at he
      exact (hrel.ok i q e (hr1 i q hlt hi) he).to (fun _ h => h) fun q' _ b' hb' => h1r q' b' hb'
    · refine (hr.ok i q e hi he).keep hfr hr.fits hle fun b hb hl => ?_
      exact hg.fr.blk b (hr.lt b (hr.fits b ⟨i, q, e, hi, he, hl, hb⟩)) (hout hge hi he hl hb)

/-! ### Whatever order comes -/
def putσ {D : Nat → Type} (dst : Option Tmp) (v : Tv D) (σ : List (Nat × Tv D)) : List (Nat × Tv D) := match dst with
  | some d => (d, v) :: σ
  | none => σ
def dep (ops : Array Oper) (j i : Nat) : Bool := match ops[j]? with
  | some o => o.after.any fun e => Region.binds .any e && e.on == i
  | none => false
def waits (ops : Array Oper) (j : Nat) : List Nat := match ops[j]? with
  | some o => o.after.toList.filterMap fun e => match Region.binds .any e with
    | true => some e.on
    | false => none
  | none => []
/-- What an operation waits for, and what that waits for. -/
def anc (ops : Array Oper) : Nat → List Nat → List Nat → List Nat
  | 0, done, _ => done
  | _ + 1, done, [] => done
  | g + 1, done, j :: todo => match memB j done with
    | true => anc ops g done todo
    | false => anc ops g (j :: done) (waits ops j ++ todo)
def depT (ops : Array Oper) (j i : Nat) : Bool := memB i (anc ops (2 * ops.size * ops.size + 100) [] (waits ops j))
/-- Operations that make a row. -/
def mkOp : Op → Bool
  | .buildSlice _ _ _ => true
  | _ => false
def pureAt (ops : Array Oper) (i : Nat) : Bool := match ops[i]? with
  | some o => pureOp o.op || mkOp o.op
  | none => false
/-- Every other operation that looks at memory waits for 'j', or 'j' for it. -/
def alone (ops : Array Oper) (j : Nat) : Bool := (List.range ops.size).all fun i => i == j || pureAt ops i || depT ops j i || depT ops i j
theorem opTmps_looks {o : Oper} {k : Nat} (h : k ∈ opTmps o) : k ∈ o.looksAt ops := List.mem_append_left _ h
theorem load_looks {o : Oper} {e : Tmp} (h : keyT o.op = some e) : e ∈ o.looksAt ops := opTmps_looks (by
  unfold keyT at h
  unfold opTmps
  split at h
  · rename_i t e' hop
    cases h
    rw [hop]
    simp [Op.operands]
  · rename_i hop
    cases h
    rw [hop]
    simp [Op.operands]
  · rename_i c hop
    split at h
    · split at h
      · rename_i ha
        cases h
        rw [hop, List.mem_filterMap]
        refine ⟨.tmp e, ?_, rfl⟩
        simp only [Op.operands, Call.operands, Array.mem_append, Array.mem_toList_iff]
        exact .inr (by rw [← Array.mem_toList_iff, ha]; exact List.mem_singleton.2 rfl)
      · cases h
    · cases h
  · cases h)
/-- A load whose cell stays as it was. -/
def Keeps (R : Ro) (ops : Array Oper) (σ : List (Nat × Tv R.D)) (m m' : List (Ent R.D)) (i : Nat) : Prop :=
  ∃ o e v, ops[i]? = some o ∧ keyT o.op = some e ∧ (∀ x ox, ops[x]? = some ox → ox.dst = some e → depT ops i x = true) ∧ Sg.find σ e = some v ∧ ∀ q ∈ tvH v, q < m.length ∧ m'[q]? = m[q]?
def AGood (R : Ro) (P : Program) (n : Nat) (ops : Array Oper) (QF : List (Nat × Tv R.D) → List (Ent R.D) → Prop) : Nat → Array Bool → List (Nat × Tv R.D) → List (Ent R.D) → Prop
  | 0, listed, σ, m => Region.ready .any ops listed = [] ∧ QF σ m
  | g + 1, listed, σ, m => (Region.ready .any ops listed = [] → QF σ m) ∧ ∀ i ∈ Region.ready .any ops listed, ∃ o v m', ops[i]? = some o ∧ (∀ d, o.dst = some d → d < n) ∧ Does R P n ops o σ m v m' ∧ ((∃ es, m' = m ++ es) ∨ (m.length ≤ m'.length ∧ ∀ i', i' < ops.size → listed.getD i' false = true → pureAt ops i' = true ∨ depT ops i i' = true ∨ depT ops i' i = true ∨ Keeps R ops σ m m' i')) ∧
      AGood R P n ops QF g (listed.setIfInBounds i true) (putσ o.dst v σ) m'
theorem putσ_refs {σ σ' : List (Nat × Tv R.D)} (h : Refs R σ σ') (d : Option Tmp) (v : Tv R.D) : Refs R (putσ d v σ) (putσ d v σ') := by
  cases d with
  | none => exact h
  | some d => exact h.put d v
theorem AGood.congr {QF : List (Nat × Tv R.D) → List (Ent R.D) → Prop} (hQ : ∀ σ σ' m, Refs R σ σ' → QF σ' m → QF σ m) : ∀ (g : Nat) {listed : Array Bool} {σ σ' : List (Nat × Tv R.D)} {m : List (Ent R.D)}, Refs R σ σ' → AGood R P n ops QF g listed σ' m → AGood R P n ops QF g listed σ m
  | 0, listed, σ, σ', m, hr, h => ⟨h.1, hQ _ _ _ hr h.2⟩
  | g + 1, listed, σ, σ', m, hr, h => ⟨fun h0 => hQ _ _ _ hr (h.1 h0), fun i hi => by
    obtain ⟨o, v, m', h1, h2, h3, h4, h5⟩ := h.2 i hi
    refine ⟨o, v, m', h1, h2, h3.congr fun k _ u => hr k u, ?_, AGood.congr hQ g (putσ_refs hr _ _) h5⟩
    rcases h4 with h4 | ⟨h4, h6⟩
    · exact .inl h4
    · exact .inr ⟨h4, fun i' hl' hi' => (h6 i' hl' hi').imp_right fun h => h.imp_right fun h => h.imp_right fun ⟨oi, e, u, k1, k2, kd, k3, k5⟩ => by
        obtain ⟨u0, hu0, himp⟩ := hr e u k3
        rcases himp with rfl | ⟨hn, _⟩
        · exact ⟨oi, e, u0, k1, k2, kd, hu0, k5⟩
        · exact ⟨oi, e, u0, k1, k2, kd, hu0, fun q hq => by rw [hn.2] at hq; cases hq⟩⟩⟩
theorem AGood.wp {QF : List (Nat × Tv R.D) → List (Ent R.D) → Prop} {Q : Exit → Act → World → Prop} : ∀ (g : Nat) {listed : Array Bool} {σ : List (Nat × Tv R.D)} {m : List (Ent R.D)}, AGood R P n ops QF g listed σ m → ∀ (ρ : Ow) (w : World) (a : Act), Rel R ρ m w → Sat R ρ w n σ a →
    (∀ σ' m' ρ' a' w', QF σ' m' → Go R ρ m w ρ' m' w' → Rel R ρ' m' w' → Sat R ρ' w' n σ' a' → Q .normal a' w') → wpAny P .any ops Q g listed a w
  | 0, listed, σ, m, h, ρ, w, a, hr, hs, hq => ⟨h.1, hq σ m ρ a w h.2 (Go.refl ρ m w) hr hs⟩
  | g + 1, listed, σ, m, h, ρ, w, a, hr, hs, hq => ⟨fun h0 => hq σ m ρ a w (h.1 h0) (Go.refl ρ m w) hr hs, fun i hi => by
    obtain ⟨o, v, m', ho, hd, ⟨t, ⟨σg, hg, hw⟩, hdo⟩, _, hrest⟩ := h.2 i hi
    have hwt := hw ρ w a (refs_sat (fun k u hk => (hg k u hk).2) hs)
    have put : ∀ {ρ' : Ow} {w' : World} {u : Value}, Sat R ρ' w' n σ a → IsT R ρ' w' v u → Sat R ρ' w' n (putσ o.dst v σ) (a.put o.dst u) := by
      intro ρ' w' u hs' hi'
      cases hdst : o.dst with
      | none => exact hs'
      | some d => exact hs'.put (hd d hdst) hi'
    unfold wpOp
    simp only [ho, hwt]
    rcases hdo with ⟨rfl, σr, hσr, hop⟩ | ⟨rfl, rfl, rfl⟩
    · simp only [if_true]
      refine .inl ((hop ρ w a hr (refs_sat (fun k u hk => (hσr k u hk).2) hs)).wp fun u w' ⟨ρ', hgo, hr', hiu⟩ => ?_)
      exact AGood.wp g hrest ρ' w' _ hr' (put (hs.keep hgo.fr hr.fits hgo.ext.toLe) hiu) fun σ' m'' ρ'' a' w'' hqf hgo' hr'' hs'' => hq σ' m'' ρ'' a' w'' hqf (hgo.trans hr hgo') hr'' hs''
    · simp only [Bool.false_eq_true, if_false]
      exact AGood.wp g hrest ρ w _ hr (put hs rfl) hq⟩
/-- An operation that leaves memory as it is does the same whenever it comes. -/
def Stable (R : Ro) (P : Program) (n : Nat) (ops : Array Oper) (o : Oper) (σ : List (Nat × Tv R.D)) (m : List (Ent R.D)) (v : Tv R.D) : Prop :=
  ∀ (σ1 : List (Nat × Tv R.D)) (es : List (Ent R.D)), (∀ k ∈ o.looksAt ops, ∀ u, Ref R σ1 σ k u) → Does R P n ops o σ1 (m ++ es) v (m ++ es)
theorem Stable.next {o : Oper} {σ σ1 : List (Nat × Tv R.D)} {m : List (Ent R.D)} {v : Tv R.D} (h : Stable R P n ops o σ m v) (hs : ∀ k ∈ o.looksAt ops, ∀ u, Ref R σ1 σ k u) (es : List (Ent R.D)) : Stable R P n ops o σ1 (m ++ es) v := by
  intro σ2 es' h2
  rw [List.append_assoc]
  exact h σ2 (es ++ es') fun k hk u hu => by
    obtain ⟨v1, h1, e1⟩ := hs k hk u hu
    obtain ⟨v0, h0, e0⟩ := h2 k hk v1 h1
    exact ⟨v0, h0, e0.trans e1⟩
/-- The same, whatever memory. -/
def StableP (R : Ro) (P : Program) (n : Nat) (ops : Array Oper) (o : Oper) (σ : List (Nat × Tv R.D)) (v : Tv R.D) : Prop :=
  ∀ (σ1 : List (Nat × Tv R.D)) (m : List (Ent R.D)), (∀ k ∈ o.looksAt ops, ∀ u, Ref R σ1 σ k u) → Does R P n ops o σ1 m v m
theorem StableP.next {o : Oper} {σ σ1 : List (Nat × Tv R.D)} {v : Tv R.D} (h : StableP R P n ops o σ v) (hs : ∀ k ∈ o.looksAt ops, ∀ u, Ref R σ1 σ k u) : StableP R P n ops o σ1 v := by
  intro σ2 m h2
  exact h σ2 m fun k hk u hu => by
    obtain ⟨v1, h1, e1⟩ := hs k hk u hu
    obtain ⟨v0, h0, e0⟩ := h2 k hk v1 h1
    exact ⟨v0, h0, e0.trans e1⟩
theorem StableP.at {o : Oper} {σ : List (Nat × Tv R.D)} {v : Tv R.D} (h : StableP R P n ops o σ v) (m : List (Ent R.D)) : Stable R P n ops o σ m v := fun σ1 es h1 => h σ1 (m ++ es) h1
/-- A load does the same wherever its cell is the same. -/
def StableL (R : Ro) (P : Program) (n : Nat) (ops : Array Oper) (o : Oper) (σ : List (Nat × Tv R.D)) (m : List (Ent R.D)) (v : Tv R.D) : Prop :=
  ∀ e u, keyT o.op = some e → Sg.find σ e = some u → ∀ (σ1 : List (Nat × Tv R.D)) (m1 : List (Ent R.D)), (∀ k ∈ o.looksAt ops, ∀ u, Ref R σ1 σ k u) → (∀ q ∈ tvH u, q < m.length → m1[q]? = m[q]?) → Does R P n ops o σ1 m1 v m1
theorem find_put_ne {D : Nat → Type} {σ : List (Nat × Tv D)} {dst : Option Tmp} {v : Tv D} {k : Nat} (h : ∀ d, dst = some d → k ≠ d) : Sg.find (putσ dst v σ) k = Sg.find σ k := by
  cases dst with
  | none => rfl
  | some d =>
    have := h d rfl
    simp only [putσ, Sg.find]
    split
    · rename_i he; exact absurd (Nat.eq_of_beq_eq_true he).symm this
    · rfl
theorem put_swap {σ : List (Nat × Tv R.D)} {d e : Option Tmp} {v u : Tv R.D} (h : ∀ x, d = some x → e ≠ some x) : Refs R (putσ d v (putσ e u σ)) (putσ e u (putσ d v σ)) := by
  intro k q hk
  refine ⟨q, ?_, Imp.rfl⟩
  rw [← hk]
  by_cases h1 : d = some k
  · subst h1
    have h2 : ∀ x, e = some x → k ≠ x := fun x hx hkx => h k rfl (hkx ▸ hx)
    rw [find_put_ne h2]
    simp [putσ, Sg.find]
  · have h1' : ∀ x, d = some x → k ≠ x := fun x hx hkx => h1 (hkx ▸ hx)
    rw [find_put_ne h1']
    by_cases h2 : e = some k
    · subst h2; simp [putσ, Sg.find]
    · have h2' : ∀ x, e = some x → k ≠ x := fun x hx hkx => h2 (hkx ▸ hx)
      rw [find_put_ne h2', find_put_ne h2', find_put_ne h1']
/-- What is listed waits for nothing that is not. -/
def Closed (ops : Array Oper) (listed : Array Bool) : Prop := ∀ (p : Nat) (o : Oper), ops[p]? = some o → listed.getD p false = true → ∀ e ∈ o.after, Region.binds .any e = true → listed.getD e.on false = true
theorem set_listed {listed : Array Bool} {j x : Nat} (h : listed.getD x false = true) : (listed.setIfInBounds j true).getD x false = true := by
  by_cases hx : j = x
  · subst hx
    rcases Nat.lt_or_ge j listed.size with hl | hl
    · simp [hl]
    · simp [Array.getElem?_eq_none hl] at h
  · rw [getD_set_ne false hx]; exact h
theorem Closed.set {listed : Array Bool} (h : Closed ops listed) {j : Nat} (hj : j ∈ Region.ready .any ops listed) : Closed ops (listed.setIfInBounds j true) := by
  intro p o ho hp e he hb
  refine set_listed ?_
  by_cases hx : j = p
  · subst hx
    obtain ⟨_, o', ho', hall⟩ := mem_ready.1 hj
    rw [ho, Option.some.injEq] at ho'
    subst ho'
    exact hall e he hb
  · rw [getD_set_ne false hx] at hp
    exact h p o ho hp e he hb
theorem closed_nil (ops : Array Oper) (n : Nat) : Closed ops (Array.replicate n false) := by
  intro p o ho hp
  rcases Nat.lt_or_ge p n with h | h
  · simp [h] at hp
  · simp [h] at hp
theorem waits_listed {listed : Array Bool} {j : Nat} (h : ∀ o, ops[j]? = some o → ∀ e ∈ o.after, Region.binds .any e = true → listed.getD e.on false = true) : ∀ x ∈ waits ops j, listed.getD x false = true := by
  intro x hx
  unfold waits at hx
  split at hx
  · rename_i o ho
    obtain ⟨e, he, hb⟩ := List.mem_filterMap.1 hx
    split at hb
    · rename_i hb1
      cases hb
      exact h o ho e (Array.mem_toList_iff.1 he) hb1
    · cases hb
  · cases hx
theorem anc_listed {listed : Array Bool} (hc : Closed ops listed) : ∀ (g : Nat) {done todo : List Nat}, (∀ x ∈ done, listed.getD x false = true) → (∀ x ∈ todo, listed.getD x false = true) → ∀ x ∈ anc ops g done todo, listed.getD x false = true
  | 0, done, todo, hd, ht => hd
  | g + 1, done, [], hd, ht => hd
  | g + 1, done, j :: todo, hd, ht => by
    have hj := ht j (List.mem_cons_self ..)
    have ht' : ∀ x ∈ todo, listed.getD x false = true := fun x hx => ht x (List.mem_cons_of_mem _ hx)
    unfold anc
    split
    · exact anc_listed hc g hd ht'
    · refine anc_listed hc g (fun x hx => ?_) (fun x hx => ?_)
      · rcases List.mem_cons.1 hx with rfl | hx
        · exact hj
        · exact hd x hx
      · rcases List.mem_append.1 hx with hx | hx
        · exact waits_listed (fun o ho => hc j o ho hj) x hx
        · exact ht' x hx
theorem dep_listed {i j : Nat} {listed : Array Bool} (hc : Closed ops listed) (hj : j ∈ Region.ready .any ops listed) (hd : depT ops j i = true) : listed.getD i false = true := by
  obtain ⟨_, o, ho, hall⟩ := mem_ready.1 hj
  exact anc_listed hc _ (fun x hx => by cases hx) (waits_listed fun o' ho' e he hb => by
    rw [ho, Option.some.injEq] at ho'
    subst ho'
    exact hall e he hb) i (memB_iff.1 hd)
theorem listed_dep {i j : Nat} {listed : Array Bool} (hc : Closed ops listed) (hj : listed.getD j false = true) (hd : depT ops j i = true) : listed.getD i false = true :=
  anc_listed hc _ (fun x hx => by cases hx) (waits_listed fun o' ho' e he hb => hc j o' ho' hj e he hb) i (memB_iff.1 hd)
theorem ready_un {i : Nat} {listed : Array Bool} (hi : i ∈ Region.ready .any ops listed) : listed.getD i false = false := by
  have := (mem_ready.1 hi).1
  rcases Nat.lt_or_ge i listed.size with h | h
  · simpa [h] using this
  · simp [Array.getElem?_eq_none h] at this
theorem alone_or {i : Nat} {listed : Array Bool} (h : alone ops i = true) (i' : Nat) (hl : i' < ops.size) (hi' : listed.getD i' false = true) (hr : i ∈ Region.ready .any ops listed) {A : Prop} : pureAt ops i' = true ∨ depT ops i i' = true ∨ depT ops i' i = true ∨ A := by
  unfold alone at h
  rw [List.all_eq_true] at h
  have h1 := h i' (by rw [List.mem_range]; exact hl)
  simp only [Bool.or_eq_true, beq_iff_eq] at h1
  rcases h1 with ((h1 | h1) | h1) | h1
  · subst h1; rw [ready_un hr] at hi'; cases hi'
  · exact .inl h1
  · exact .inr (.inl h1)
  · exact .inr (.inr (.inl h1))
theorem AGood.first {QF : List (Nat × Tv R.D) → List (Ent R.D) → Prop} (hQ : ∀ σ σ' m, Refs R σ σ' → QF σ' m → QF σ m) {i : Nat} {o : Oper} {v : Tv R.D} (hi : ops[i]? = some o) (hd : ∀ d, o.dst = some d → d < n) :
    ∀ (g : Nat) {listed : Array Bool} {σ : List (Nat × Tv R.D)} {m : List (Ent R.D)},
      Closed ops listed → (∀ j oj, ops[j]? = some oj → j ≠ i → listed.getD j true = false → (∀ e ∈ oj.after, Region.binds .any e = true → e.on ≠ i) → o.apart ops oj = true) →
      i ∈ Region.ready .any ops listed → Stable R P n ops o σ m v → (pureAt ops i = true → StableP R P n ops o σ v) → StableL R P n ops o σ m v → AGood R P n ops QF g (listed.setIfInBounds i true) (putσ o.dst v σ) m → AGood R P n ops QF (g + 1) listed σ m := by
  intro g
  induction g with
  | zero =>
    intro listed σ m _ _ hr hst hsp hsl H
    refine ⟨fun h => (by rw [h] at hr; cases hr), fun j hj => ?_⟩
    by_cases hji : j = i
    · subst hji
      exact ⟨o, v, m, hi, hd, by simpa using hst σ [] (fun k _ u h => ⟨u, h, Imp.rfl⟩), .inl ⟨[], by simp⟩, H⟩
    · have := ready_mono hj hji
      rw [H.1] at this
      cases this
  | succ g ih =>
    intro listed σ m hcl hfree hr hst hsp hsl H
    refine ⟨fun h => (by rw [h] at hr; cases hr), fun j hj => ?_⟩
    by_cases hji : j = i
    · subst hji
      exact ⟨o, v, m, hi, hd, by simpa using hst σ [] (fun k _ u h => ⟨u, h, Imp.rfl⟩), .inl ⟨[], by simp⟩, H⟩
    · obtain ⟨oj, vj, mj, hoj, hdj, hdo, hext, hrest⟩ := H.2 j (ready_mono hj hji)
      have hjun := (mem_ready.1 hj).1
      have hnot : ∀ e ∈ oj.after, Region.binds .any e = true → e.on ≠ i := fun e he hb heq => by
        obtain ⟨_, oj', hoj', hall⟩ := mem_ready.1 hj
        rw [hoj, Option.some.injEq] at hoj'
        subst hoj'
        have h1 := hall e he hb
        rw [heq, ready_un hr] at h1
        cases h1
      have hap := hfree j oj hoj hji hjun hnot
      obtain ⟨a1, a2, a3⟩ := Oper.apart_spec hap
      have hboth : Stable R P n ops o σ mj v ∧ StableL R P n ops o σ mj v := by
        rcases hext with ⟨es, rfl⟩ | ⟨hle, h⟩
        · exact ⟨hst.next (fun k _ u hu => ⟨u, hu, Imp.rfl⟩) es, fun e u h1 h2 σ1 m1 h3 h4 => hsl e u h1 h2 σ1 m1 h3 fun q hq hqm => by
            rw [h4 q hq (by simp; omega), List.getElem?_append_left hqm]⟩
        · have hli : (listed.setIfInBounds i true).getD i false = true := by
            have hsz := (mem_ready.1 hr).1
            have : i < listed.size := by
              rcases Nat.lt_or_ge i listed.size with h | h
              · exact h
              · simp [Array.getElem?_eq_none h] at hsz
            simp [this]
          rcases h i (Array.getElem?_eq_some_iff.1 hi).1 hli with h1 | h1 | h1 | ⟨oi, e, u, k1, k2, kd, k3, k5⟩
          · exact ⟨(hsp h1).at mj, fun e u h2 _ => by
              unfold pureAt at h1; rw [hi] at h1
              change (pureOp o.op || mkOp o.op) = true at h1
              unfold keyT at h2
              split at h2
              · rename_i hop; rw [hop] at h1; simp only [pureOp, mkOp] at h1; cases h1
              · rename_i hop; rw [hop] at h1; simp only [pureOp, mkOp] at h1; cases h1
              · rename_i hop; rw [hop] at h1; simp only [pureOp, mkOp] at h1; cases h1
              · cases h2⟩
          · have := dep_listed hcl hj h1; rw [ready_un hr] at this; cases this
          · have := dep_listed hcl hr h1; rw [ready_un hj] at this; cases this
          · rw [hi, Option.some.injEq] at k1
            subst k1
            rw [find_put_ne (fun d hd' hkd => by
              have h6 := dep_listed hcl hr (kd i o hi (hkd ▸ hd'))
              rw [ready_un hr] at h6; cases h6)] at k3
            have hl := hsl e u k2 k3
            refine ⟨fun σ1 es h3 => hl σ1 (mj ++ es) h3 fun q hq _ => ?_, fun e' u' h5 h6 => ?_⟩
            · have := k5 q hq
              rw [List.getElem?_append_left (by omega), this.2]
            · rw [k2] at h5
              cases h5
              rw [k3, Option.some.injEq] at h6
              subst h6
              exact fun σ1 m1 h7 h8 => hl σ1 m1 h7 fun q hq hqm => by rw [h8 q hq (by omega), (k5 q hq).2]
      obtain ⟨hstj, hslj⟩ := hboth
      have hskip : ∀ k ∈ o.looksAt ops, ∀ u, Ref R (putσ oj.dst vj σ) σ k u := fun k hk u hu => ⟨u, by
        rw [find_put_ne (fun d hd' hkd => a3 d hd' (hkd ▸ hk))]
        exact hu, Imp.rfl⟩
      have hext' : (∃ es, mj = m ++ es) ∨ (m.length ≤ mj.length ∧ ∀ i', i' < ops.size → listed.getD i' false = true → pureAt ops i' = true ∨ depT ops j i' = true ∨ depT ops i' j = true ∨ Keeps R ops σ m mj i') := by
        rcases hext with h | ⟨h, h2⟩
        · exact .inl h
        · exact .inr ⟨h, fun i' hl' hi' => (h2 i' hl' (set_listed hi')).imp_right fun h => h.imp_right fun h => h.imp_right fun ⟨oi, e, u, k1, k2, kd, k3, k5⟩ => ⟨oi, e, u, k1, k2, kd, by
            rwa [find_put_ne (fun d hd' hkd => by
              have h6 := listed_dep hcl hi' (kd i o hi (hkd ▸ hd'))
              rw [ready_un hr] at h6; cases h6)] at k3, k5⟩⟩
      refine ⟨oj, vj, mj, hoj, hdj, hdo.congr fun k hk u hu => ⟨u, ?_, Imp.rfl⟩, hext', ?_⟩
      · rw [find_put_ne (fun d hd' hkd => a1 d hd' (hkd ▸ hk))] at hu
        exact hu
      · refine ih (hcl.set hj) (fun k ok hk hki hun hno => ?_) (ready_mono hr (Ne.symm hji)) (by simpa using hstj.next hskip []) (fun hpi => (hsp hpi).next hskip) (fun e u h5 h6 => ?_) ?_
        · refine hfree k ok hk hki ?_ hno
          by_cases hjk : j = k
          · subst hjk; exact hjun
          · rw [getD_set_ne true hjk] at hun; exact hun
        · have he := load_looks (ops := ops) h5
          rw [find_put_ne (fun d hd' hkd => a3 d hd' (hkd ▸ he))] at h6
          have hl := hslj e u h5 h6
          refine fun σ1 m1 h7 h8 => hl σ1 m1 (fun k hk u hu => ?_) h8
          obtain ⟨v1, h1, e1⟩ := hskip k hk u hu
          obtain ⟨v0, h0, e0⟩ := h7 k hk v1 h1
          exact ⟨v0, h0, e0.trans e1⟩
        · rw [Array.setIfInBounds_comm _ _ hji]
          refine AGood.congr hQ g (put_swap fun x hx hx' => a2 x hx hx') hrest

/-! ### Blocks in another order -/
structure Pm (B L : Nat) (f g : Nat → Nat) : Prop where
  fg : ∀ h, f (g h) = h
  gf : ∀ h, g (f h) = h
  lo : ∀ h, h < B → f h = h
  hi : ∀ h, L ≤ h → f h = h
theorem Pm.inv {B L : Nat} {f g : Nat → Nat} (p : Pm B L f g) : Pm B L g f :=
  ⟨p.gf, p.fg, fun h hh => by have := p.gf h; rwa [p.lo h hh] at this, fun h hh => by have := p.gf h; rwa [p.hi h hh] at this⟩
theorem Pm.lt {B L : Nat} {f g : Nat → Nat} (p : Pm B L f g) {N h : Nat} (hN : L ≤ N) (hh : h < N) : f h < N := by
  rcases Nat.lt_or_ge (f h) N with h1 | h1
  · exact h1
  · have h2 := p.hi _ (Nat.le_trans hN h1)
    have h3 := congrArg g h2
    rw [p.gf, p.gf] at h3
    omega
def pmL {α : Type} (d : α) (g : Nat → Nat) (l : List α) : List α := (List.range l.length).map fun i => l.getD (g i) d
theorem pmL_len {α : Type} (d : α) (g : Nat → Nat) (l : List α) : (pmL d g l).length = l.length := by simp [pmL]
theorem pmL_get {α : Type} {d : α} {B L : Nat} {f g : Nat → Nat} (p : Pm B L f g) {l : List α} (hl : L ≤ l.length) (i : Nat) : (pmL d g l)[i]? = l[g i]? := by
  rcases Nat.lt_or_ge i l.length with h | h
  · have h1 := p.inv.lt hl h
    simp [pmL, h, h1]
  · have h1 := p.inv.hi i (Nat.le_trans hl h)
    rw [List.getElem?_eq_none (by rw [pmL_len]; exact h), h1, List.getElem?_eq_none h]
theorem pmL_inv {α : Type} {d d' : α} {B L : Nat} {f g : Nat → Nat} (p : Pm B L f g) {l : List α} (hl : L ≤ l.length) : pmL d f (pmL d' g l) = l := by
  apply List.ext_getElem?
  intro i
  rw [pmL_get p.inv (by rw [pmL_len]; exact hl), pmL_get p hl, p.gf]
theorem pmL_mem {α : Type} {d : α} {B L : Nat} {f g : Nat → Nat} (p : Pm B L f g) {l : List α} (hl : L ≤ l.length) {b : α} : b ∈ pmL d g l ↔ b ∈ l := by
  rw [List.mem_iff_getElem?, List.mem_iff_getElem?]
  constructor
  · rintro ⟨i, hi⟩; rw [pmL_get p hl] at hi; exact ⟨_, hi⟩
  · rintro ⟨i, hi⟩; exact ⟨f i, by rw [pmL_get p hl, p.gf]; exact hi⟩
def pmM {D : Nat → Type} (f g : Nat → Nat) (m : List (Ent D)) : List (Ent D) := (pmL .dead g m).map (renEnt f)
def pmO (g : Nat → Nat) (ρ : Ow) : Ow := ⟨ρ.F, pmL .nil g ρ.r⟩
def pmS {D : Nat → Type} (f : Nat → Nat) (σ : List (Nat × Tv D)) : List (Nat × Tv D) := σ.map fun p => (p.1, renTv f p.2)
theorem ren_lf2 {f g : Nat → Nat} (h : ∀ x, g (f x) = x) (l : Lf R.D) : renLf g (renLf f l) = l := by
  cases l <;> simp [renLf, h, Function.comp_def]
theorem ren_lfs2 {f g : Nat → Nat} (h : ∀ x, g (f x) = x) (cs : List (Lf R.D)) : (cs.map (renLf f)).map (renLf g) = cs := by
  rw [List.map_map]; simp [Function.comp_def, ren_lf2 h]
theorem ren_av2 {f g : Nat → Nat} (h : ∀ x, g (f x) = x) (l : Av R.D) : renAv g (renAv f l) = l := by
  cases l with
  | lf l => simp [renAv, ren_lf2 h]
  | agg cs => simp only [renAv, ren_lfs2 h]
theorem ren_tv2 {f g : Nat → Nat} (h : ∀ x, g (f x) = x) (l : Tv R.D) : renTv g (renTv f l) = l := by
  cases l with
  | lf l => simp [renTv, ren_lf2 h]
  | agg cs => simp only [renTv, ren_lfs2 h]
  | tup vs => simp only [renTv, List.map_map]; simp [Function.comp_def, ren_av2 h]
  | un => rfl
theorem ren_ent2 {f g : Nat → Nat} (h : ∀ x, g (f x) = x) (l : Ent R.D) : renEnt g (renEnt f l) = l := by
  cases l with
  | blk cs t => simp only [renEnt, ren_lfs2 h]
  | row c l t => rfl
  | mp l => rfl
  | dead => rfl
theorem pmM_len {f g : Nat → Nat} (m : List (Ent R.D)) : (pmM f g m).length = m.length := by simp [pmM, pmL_len]
theorem pmM_get {B L : Nat} {f g : Nat → Nat} (p : Pm B L f g) {m : List (Ent R.D)} (hl : L ≤ m.length) (i : Nat) : (pmM f g m)[i]? = (m[g i]?).map (renEnt f) := by
  rw [pmM, List.getElem?_map, pmL_get p hl]
theorem pmM_inv {B L : Nat} {f g : Nat → Nat} (p : Pm B L f g) {m : List (Ent R.D)} (hl : L ≤ m.length) : pmM g f (pmM f g m) = m := by
  apply List.ext_getElem?
  intro i
  rw [pmM_get p.inv (by rw [pmM_len]; exact hl), pmM_get p hl, p.gf, Option.map_map]
  cases m[i]? <;> simp [ren_ent2 p.gf]
theorem pmS_find {f : Nat → Nat} : ∀ (σ : List (Nat × Tv R.D)) (k : Nat), Sg.find (pmS f σ) k = (Sg.find σ k).map (renTv f)
  | [], k => rfl
  | (j, v) :: σ, k => by
    have ih := pmS_find (f := f) σ k
    simp only [pmS, List.map_cons, Sg.find] at ih ⊢
    split
    · rfl
    · exact ih
theorem pmS_inv {f g : Nat → Nat} (h : ∀ x, g (f x) = x) (σ : List (Nat × Tv R.D)) : pmS g (pmS f σ) = σ := by
  simp [pmS, List.map_map, Function.comp_def, ren_tv2 h]
theorem pmO_inv {B L : Nat} {f g : Nat → Nat} (p : Pm B L f g) {ρ : Ow} (hl : L ≤ ρ.r.length) : pmO f (pmO g ρ) = ρ := by
  cases ρ
  simp only [pmO, pmL_inv p hl]
theorem pmO_get {B L : Nat} {f g : Nat → Nat} (p : Pm B L f g) {ρ : Ow} (hl : L ≤ ρ.r.length) {h : Nat} {b : Bk} (hb : ρ.r[h]? = some b) : (pmO g ρ).r[f h]? = some b := by
  show (pmL .nil g ρ.r)[f h]? = some b
  rw [pmL_get p hl, p.gf]; exact hb
theorem pmO_at {B L : Nat} {f g : Nat → Nat} (p : Pm B L f g) {ρ : Ow} (hl : L ≤ ρ.r.length) (h : Nat) : (pmO g ρ).r[h]? = ρ.r[g h]? := pmL_get p hl h
theorem Held.pm {B L : Nat} {f g : Nat → Nat} (p : Pm B L f g) {ρ : Ow} {m : List (Ent R.D)} (hl' : L ≤ ρ.r.length) (hl : L ≤ m.length) {b : Nat} : Held (pmO g ρ) (pmM f g m) b ↔ Held ρ m b := by
  constructor
  · intro ⟨i, q, e, h1, h2, h3, h4⟩
    rw [pmM_get p hl] at h2
    obtain ⟨e0, he0, rfl⟩ := Option.map_eq_some_iff.1 h2
    rw [pmO_at p hl'] at h1
    exact ⟨g i, q, e0, h1, he0, renEnt_live.1 h3, h4⟩
  · intro ⟨i, q, e, h1, h2, h3, h4⟩
    refine ⟨f i, q, renEnt f e, pmO_get p hl' h1, ?_, renEnt_live.2 h3, h4⟩
    rw [pmM_get p hl, p.gf, h2]
    rfl
theorem Rel.pm {B L : Nat} {f g : Nat → Nat} (p : Pm B L f g) {ρ : Ow} {m : List (Ent R.D)} {w : World} (h : Rel R ρ m w) (hl : L ≤ m.length) : Rel R (pmO g ρ) (pmM f g m) w := by
  have hl' : L ≤ ρ.r.length := by rw [h.len]; exact hl
  refine ⟨by show (pmL .nil g ρ.r).length = _; rw [pmL_len, pmM_len, h.len], fun i j q q' e e' b h1 h2 h3 h4 h5 h6 h7 h8 => ?_, h.lt, fun b hb => h.fits b ((Held.pm p hl' hl).1 hb), fun i b e hi he => ?_⟩
  · rw [pmO_at p hl'] at h1 h2
    rw [pmM_get p hl] at h3 h4
    obtain ⟨e1, he1, rfl⟩ := Option.map_eq_some_iff.1 h3
    obtain ⟨e2, he2, rfl⟩ := Option.map_eq_some_iff.1 h4
    have := congrArg f (h.nd (g i) (g j) q q' e1 e2 b h1 h2 he1 he2 (renEnt_live.1 h5) (renEnt_live.1 h6) h7 h8)
    rwa [p.fg, p.fg] at this
  · rw [pmM_get p hl] at he
    obtain ⟨e0, he0, rfl⟩ := Option.map_eq_some_iff.1 he
    rw [pmO_at p hl'] at hi
    exact (h.ok (g i) b e0 hi he0).ren (fun _ h => h) fun q _ b' hb' => pmO_get p hl' hb'
theorem Sat.pm {B L : Nat} {f g : Nat → Nat} (p : Pm B L f g) {ρ : Ow} {w : World} {σ : List (Nat × Tv R.D)} {a : Act} (h : Sat R ρ w n σ a) (hl : L ≤ ρ.r.length) : Sat R (pmO g ρ) w n (pmS f σ) a :=
  ⟨h.size, h.defers, fun i v hv => by
    rw [pmS_find] at hv
    obtain ⟨v0, hv0, rfl⟩ := Option.map_eq_some_iff.1 hv
    obtain ⟨u, hu, hi⟩ := h.at_ i v0 hv0
    exact ⟨u, hu, hi.ren (fun _ h => h) fun q _ b' hb' => pmO_get p hl hb'⟩⟩
theorem Go.pm {B L : Nat} {f g : Nat → Nat} (p : Pm B L f g) {ρ ρ' : Ow} {m m' : List (Ent R.D)} {w w' : World} (h : Go R ρ m w ρ' m' w') (hr : Rel R ρ m w) (hr' : Rel R ρ' m' w') (hl : L ≤ m.length) (hl' : L ≤ m'.length) : Go R (pmO g ρ) (pmM f g m) w (pmO g ρ') (pmM f g m') w' := by
  have k1 : L ≤ ρ.r.length := by rw [hr.len]; exact hl
  have k2 : L ≤ ρ'.r.length := by rw [hr'.len]; exact hl'
  refine ⟨⟨⟨fun i q hi => ?_, h.ext.F1⟩, fun b hb hn => h.ext.F2 b hb fun hh => hn ((Held.pm p k1 hl).2 hh), fun b hb => (h.ext.held b ((Held.pm p k2 hl').1 hb)).imp (Held.pm p k1 hl).2 id, fun i hi => ?_⟩, h.fr.imp fun b hb => (Held.pm p k1 hl).2 hb⟩
  · rw [pmO_at p k1] at hi
    rw [pmO_at p k2]
    exact h.ext.pre _ _ hi
  · rw [pmM_get p hl] at hi
    obtain ⟨e, he, h1⟩ := Option.map_eq_some_iff.1 hi
    rw [renEnt_dead] at h1
    subst h1
    rw [pmM_get p hl', h.ext.dead _ he]
    rfl
theorem OpOk.pm {B L : Nat} {f g : Nat → Nat} (p : Pm B L f g) {o : Oper} {σ : List (Nat × Tv R.D)} {m m' : List (Ent R.D)} {v : Tv R.D} (h : OpOk R P n o σ m v m') (hl : L ≤ m.length) (hl' : L ≤ m'.length) : OpOk R P n o (pmS f σ) (pmM f g m) (renTv f v) (pmM f g m') := by
  intro ρ w a hr hs
  have hlr : L ≤ ρ.r.length := by rw [hr.len, pmM_len]; exact hl
  have hr0 := hr.pm p.inv (by rw [pmM_len]; exact hl)
  rw [pmM_inv p hl] at hr0
  have hs0 := hs.pm p.inv hlr
  rw [pmS_inv p.gf] at hs0
  refine (h _ w a hr0 hs0).mono fun u w' ⟨ρ1, hg, hrel, hi⟩ => ?_
  have hg' := hg.pm p hr0 hrel hl hl'
  rw [pmO_inv p.inv hlr] at hg'
  exact ⟨pmO g ρ1, hg', hrel.pm p hl', hi.ren (fun _ h => h) fun q _ b' hb' => pmO_get p (by rw [hrel.len]; exact hl') hb'⟩
theorem ren_nil {f : Nat → Nat} {v : Tv R.D} (h : tvH v = []) : renTv f v = v := by
  have hl : ∀ {l : Lf R.D}, lfH l = [] → renLf f l = l := fun h => ren_none h
  have hls : ∀ {cs : List (Lf R.D)}, lfsH cs = [] → cs.map (renLf f) = cs := by
    intro cs
    induction cs with
    | nil => intro _; rfl
    | cons c cs ih =>
      intro h
      simp only [lfsH, List.append_eq_nil_iff] at h
      simp only [List.map_cons, hl h.1, ih h.2]
  have hav : ∀ {l : Av R.D}, avH l = [] → renAv f l = l := by
    intro l h
    cases l with
    | lf l => simp only [renAv, hl h]
    | agg cs => simp only [renAv, hls h]
  cases v with
  | lf l => simp only [renTv, hl h]
  | agg cs => simp only [renTv, hls h]
  | tup vs =>
    have : ∀ {cs : List (Av R.D)}, avsH cs = [] → cs.map (renAv f) = cs := by
      intro cs
      induction cs with
      | nil => intro _; rfl
      | cons c cs ih =>
        intro h
        simp only [avsH, List.append_eq_nil_iff] at h
        simp only [List.map_cons, hav h.1, ih h.2]
    simp only [renTv, this h]
  | un => rfl
theorem Imp.pm {B L : Nat} {f g : Nat → Nat} (p : Pm B L f g) {v0 v : Tv R.D} (h : Imp R v0 v) : Imp R (renTv f v0) (renTv f v) := by
  rcases h with rfl | ⟨hn, h⟩
  · exact Imp.rfl
  · refine .inr ⟨⟨by rw [ren_nil hn.1]; exact hn.1, by rw [ren_nil hn.2]; exact hn.2⟩, fun ρ w u hu => ?_⟩
    rw [ren_nil hn.1]
    let ρ' : Ow := ⟨ρ.F, (List.range (L + ρ.r.length)).map fun i => ρ.r.getD (f i) .nil⟩
    have h1 := hu.ren (ρ' := ρ') (f := g) (fun _ h => h) fun q _ b hb => by
      have hq : g q < L + ρ.r.length := p.inv.lt (by omega) (by have := (List.getElem?_eq_some_iff.1 hb).1; omega)
      show ((List.range (L + ρ.r.length)).map fun i => ρ.r.getD (f i) .nil)[g q]? = some b
      simp [hq, p.fg, hb]
    rw [ren_tv2 p.gf] at h1
    exact (h ρ' w u h1).free hn.1 (fun b h => h)
theorem Ref.pm {B L : Nat} {f g : Nat → Nat} (p : Pm B L f g) {σ σ' : List (Nat × Tv R.D)} {k : Nat} (h : ∀ v, Ref R σ σ' k v) (v : Tv R.D) : Ref R (pmS f σ) (pmS f σ') k v := fun hv => by
  rw [pmS_find] at hv
  obtain ⟨v', hv', rfl⟩ := Option.map_eq_some_iff.1 hv
  obtain ⟨v0, hv0, e⟩ := h v' hv'
  exact ⟨renTv f v0, by rw [pmS_find, hv0]; rfl, e.pm p⟩
theorem Does.pm {B L : Nat} {f g : Nat → Nat} (p : Pm B L f g) {o : Oper} {σ : List (Nat × Tv R.D)} {m m' : List (Ent R.D)} {v : Tv R.D} (h : Does R P n ops o σ m v m') (hl : L ≤ m.length) (hl' : L ≤ m'.length) : Does R P n ops o (pmS f σ) (pmM f g m) (renTv f v) (pmM f g m') := by
  have up : ∀ {σr : List (Nat × Tv R.D)}, (∀ k u, Sg.find σr k = some u → k ∈ o.looksAt ops ∧ Ref R σ σr k u) → ∀ k u, Sg.find (pmS f σr) k = some u → k ∈ o.looksAt ops ∧ Ref R (pmS f σ) (pmS f σr) k u := fun {σr} hr k u hk => by
    have hk0 := hk
    rw [pmS_find] at hk
    obtain ⟨u0, hu0, _⟩ := Option.map_eq_some_iff.1 hk
    exact ⟨(hr k u0 hu0).1, Ref.pm p (fun v hv => (hr k v hv).2 hv) u⟩
  obtain ⟨t, ⟨σg, hg, hw⟩, h⟩ := h
  refine ⟨t, ⟨pmS f σg, up hg, fun ρ w a hs => ?_⟩, ?_⟩
  · let ρ' : Ow := ⟨ρ.F, (List.range (L + ρ.r.length)).map fun i => ρ.r.getD (f i) .nil⟩
    refine hw ρ' w a ⟨hs.size, hs.defers, fun i v hv => ?_⟩
    obtain ⟨u, hu, hi⟩ := hs.at_ i (renTv f v) (by rw [pmS_find, hv]; rfl)
    have h1 := hi.ren (ρ' := ρ') (f := g) (fun _ h => h) fun q _ b hb => by
      have hq : g q < L + ρ.r.length := p.inv.lt (by omega) (by have := (List.getElem?_eq_some_iff.1 hb).1; omega)
      show ((List.range (L + ρ.r.length)).map fun i => ρ.r.getD (f i) .nil)[g q]? = some b
      simp [hq, p.fg, hb]
    rw [ren_tv2 p.gf] at h1
    exact ⟨u, hu, h1⟩
  · rcases h with ⟨ht, σr, hr, hop⟩ | ⟨ht, rfl, rfl⟩
    · exact .inl ⟨ht, pmS f σr, up hr, hop.pm p hl hl'⟩
    · exact .inr ⟨ht, rfl, rfl⟩
theorem pmM_app {B L : Nat} {f g : Nat → Nat} (p : Pm B L f g) {m : List (Ent R.D)} (hl : L ≤ m.length) (es : List (Ent R.D)) : pmM f g (m ++ es) = pmM f g m ++ es.map (renEnt f) := by
  apply List.ext_getElem?
  intro i
  rw [pmM_get p (by simp; omega)]
  rcases Nat.lt_or_ge i m.length with h | h
  · rw [List.getElem?_append_left (p.inv.lt hl h), List.getElem?_append_left (by rw [pmM_len]; exact h), pmM_get p hl]
  · rw [p.inv.hi i (Nat.le_trans hl h), List.getElem?_append_right h, List.getElem?_append_right (by rw [pmM_len]; exact h), pmM_len, List.getElem?_map]
theorem pmS_put {f : Nat → Nat} (d : Option Tmp) (v : Tv R.D) (σ : List (Nat × Tv R.D)) : pmS f (putσ d v σ) = putσ d (renTv f v) (pmS f σ) := by
  cases d <;> rfl
theorem AGood.pm {B L : Nat} {f g : Nat → Nat} (p : Pm B L f g) {QF : List (Nat × Tv R.D) → List (Ent R.D) → Prop} (hq : ∀ σ m, L ≤ m.length → QF σ m → QF (pmS f σ) (pmM f g m)) : ∀ (c : Nat) {listed : Array Bool} {σ : List (Nat × Tv R.D)} {m : List (Ent R.D)}, L ≤ m.length → AGood R P n ops QF c listed σ m → AGood R P n ops QF c listed (pmS f σ) (pmM f g m)
  | 0, listed, σ, m, hl, h => ⟨h.1, hq _ _ hl h.2⟩
  | c + 1, listed, σ, m, hl, h => ⟨fun h0 => hq _ _ hl (h.1 h0), fun i hi => by
    obtain ⟨o, v, m', h1, h2, h3, h4, h5⟩ := h.2 i hi
    have hlen : m.length ≤ m'.length := by
      rcases h4 with ⟨es, rfl⟩ | h4
      · simp
      · exact h4.1
    refine ⟨o, renTv f v, pmM f g m', h1, h2, h3.pm p hl (Nat.le_trans hl hlen), ?_, ?_⟩
    · rcases h4 with ⟨es, rfl⟩ | h4
      · exact .inl ⟨_, pmM_app p hl es⟩
      · refine .inr ⟨by rw [pmM_len, pmM_len]; exact h4.1, fun i' hl' hi' => (h4.2 i' hl' hi').imp_right fun h => h.imp_right fun h => h.imp_right fun ⟨oi, e, u, k1, k2, kd, k3, k5⟩ => ?_⟩
        refine ⟨oi, e, renTv f u, k1, k2, kd, by rw [pmS_find, k3]; rfl, fun q hq => ?_⟩
        · rw [tvH_ren] at hq
          obtain ⟨q0, hq0, rfl⟩ := List.mem_map.1 hq
          have := k5 q0 hq0
          rw [pmM_len, pmM_get p hl, pmM_get p (Nat.le_trans hl hlen), p.gf, this.2]
          exact ⟨p.lt hl this.1, rfl⟩
    · rw [← pmS_put]
      exact AGood.pm p hq c (Nat.le_trans hl hlen) h5⟩

theorem ren_lf_c {f s s' : Nat → Nat} {l : Lf R.D} (h : ∀ q ∈ lfH l, f (s q) = s' q) : renLf f (renLf s l) = renLf s' l := by
  cases l with
  | ptr p o => simp only [renLf, h p (by simp [lfH])]
  | row c p => simp only [renLf, h p (by simp [lfH])]
  | sl c p o n => simp only [renLf, h p (by simp [lfH])]
  | rp c p i j => simp only [renLf, h p (by simp [lfH])]
  | ifc t p o => simp only [renLf, h p (by simp [lfH])]
  | mref p => simp only [renLf, h p (by simp [lfH])]
  | fn g caps =>
    simp only [renLf, List.map_map, Lf.fn.injEq, true_and]
    exact List.map_congr_left fun c hc => by simp only [Function.comp_def, h c.1 (by simp only [lfH, List.mem_map]; exact ⟨c, hc, rfl⟩)]
  | _ => rfl
theorem ren_lfs_c {f s s' : Nat → Nat} {cs : List (Lf R.D)} (h : ∀ q ∈ lfsH cs, f (s q) = s' q) : (cs.map (renLf s)).map (renLf f) = cs.map (renLf s') := by
  rw [List.map_map]; exact List.map_congr_left fun l hl => ren_lf_c fun q hq => h q (mem_lfsH hl hq)
theorem ren_av_c {f s s' : Nat → Nat} {l : Av R.D} (h : ∀ q ∈ avH l, f (s q) = s' q) : renAv f (renAv s l) = renAv s' l := by
  cases l with
  | lf l => simp only [renAv, ren_lf_c h]
  | agg cs => simp only [renAv, ren_lfs_c h]
theorem ren_tv_c {f s s' : Nat → Nat} {l : Tv R.D} (h : ∀ q ∈ tvH l, f (s q) = s' q) : renTv f (renTv s l) = renTv s' l := by
  cases l with
  | lf l => simp only [renTv, ren_lf_c h]
  | agg cs => simp only [renTv, ren_lfs_c h]
  | tup vs =>
    simp only [renTv, List.map_map, Tv.tup.injEq]
    exact List.map_congr_left fun l hl => ren_av_c fun q hq => h q (mem_avsH hl hq)
  | un => rfl
theorem ren_ent_c {f s s' : Nat → Nat} {l : Ent R.D} (h : ∀ q ∈ entH l, f (s q) = s' q) : renEnt f (renEnt s l) = renEnt s' l := by
  cases l with
  | blk cs t => simp only [renEnt, ren_lfs_c h]
  | row c l t => rfl
  | mp l => rfl
  | dead => rfl
theorem ren_tv_same {f : Nat → Nat} {v : Tv R.D} (h : ∀ q ∈ tvH v, f q = q) : renTv f v = v := by
  have := ren_tv_c (s := fun q => q) (s' := fun q => q) (f := f) h
  rwa [ren_idT] at this
theorem ren_ent_same {f : Nat → Nat} {v : Ent R.D} (h : ∀ q ∈ entH v, f q = q) : renEnt f v = v := by
  have := ren_ent_c (s := fun q => q) (s' := fun q => q) (f := f) h
  rwa [ren_idE] at this
theorem Pm.up {B B' L L' : Nat} {f g : Nat → Nat} (p : Pm B L f g) (hB : B' ≤ B) (h : L ≤ L') : Pm B' L' f g := ⟨p.fg, p.gf, fun q hq => p.lo q (by omega), fun q hq => p.hi q (by omega)⟩
theorem Pm.comp {B L : Nat} {f g f2 g2 : Nat → Nat} (p : Pm B L f g) (p2 : Pm B L f2 g2) : Pm B L (fun h => f2 (f h)) (fun h => g (g2 h)) :=
  ⟨fun h => by rw [p.fg, p2.fg], fun h => by rw [p2.gf, p.gf], fun h hh => by rw [p.lo h hh, p2.lo h hh], fun h hh => by rw [p.hi h hh, p2.hi h hh]⟩
theorem pmS_c {f f2 : Nat → Nat} (σ : List (Nat × Tv R.D)) : pmS f2 (pmS f σ) = pmS (fun h => f2 (f h)) σ := by
  simp only [pmS, List.map_map]
  exact List.map_congr_left fun p _ => by simp only [Function.comp_def, ren_tv_c (s' := fun h => f2 (f h)) (fun q _ => rfl)]
theorem pmM_c {B L : Nat} {f g f2 g2 : Nat → Nat} (p : Pm B L f g) (p2 : Pm B L f2 g2) {m : List (Ent R.D)} (hl : L ≤ m.length) : pmM f2 g2 (pmM f g m) = pmM (fun h => f2 (f h)) (fun h => g (g2 h)) m := by
  apply List.ext_getElem?
  intro i
  rw [pmM_get p2 (by rw [pmM_len]; exact hl), pmM_get p hl, pmM_get (p.comp p2) hl, Option.map_map]
  congr 1
  funext e
  exact ren_ent_c fun q _ => rfl
def QFp (R : Ro) (B : Nat) (σ' : List (Nat × Tv R.D)) (m' : List (Ent R.D)) (s : List (Nat × Tv R.D)) (mm : List (Ent R.D)) : Prop :=
  ∃ f g, Pm B m'.length f g ∧ Refs R s (pmS f σ') ∧ mm = pmM f g m'
theorem pm_id (B L : Nat) : Pm B L (fun h => h) (fun h => h) := ⟨fun _ => rfl, fun _ => rfl, fun _ _ => rfl, fun _ _ => rfl⟩
theorem pmS_id (σ : List (Nat × Tv R.D)) : pmS (fun h => h) σ = σ := by
  simp [pmS, ren_idT]
theorem pmM_id (m : List (Ent R.D)) : pmM (fun h => h) (fun h => h) m = m := by
  apply List.ext_getElem?
  intro i
  rw [pmM_get (pm_id 0 0) (Nat.zero_le _)]
  cases m[i]? <;> simp [ren_idE]
theorem QFp.self {B : Nat} {s σ' : List (Nat × Tv R.D)} {m' : List (Ent R.D)} (h : Refs R s σ') : QFp R B σ' m' s m' :=
  ⟨_, _, pm_id _ _, by rw [pmS_id]; exact h, (pmM_id _).symm⟩
theorem QFp.refs {B : Nat} {s s' σ' : List (Nat × Tv R.D)} {m' mm : List (Ent R.D)} (h : Refs R s s') (hq : QFp R B σ' m' s' mm) : QFp R B σ' m' s mm := by
  obtain ⟨f, g, p, h1, h2⟩ := hq
  exact ⟨f, g, p, h.trans h1, h2⟩
theorem QFp.pm {B L : Nat} {f g : Nat → Nat} (p : Pm B L f g) {s σ' : List (Nat × Tv R.D)} {m' mm : List (Ent R.D)} (hl : L ≤ mm.length) (hq : QFp R B σ' m' s mm) : QFp R B σ' m' (pmS f s) (pmM f g mm) := by
  obtain ⟨f0, g0, p0, h1, rfl⟩ := hq
  rw [pmM_len] at hl
  have p' := p.up (Nat.le_refl _) hl
  refine ⟨_, _, p0.comp p', ?_, pmM_c p0 p' (Nat.le_refl _)⟩
  intro k v
  have := Ref.pm p (fun v => h1 k v) v
  rwa [pmS_c] at this
def swp (M a b h : Nat) : Nat := if h < M then h else if h < M + a then h + b else if h < M + a + b then h - a else h
theorem swp_swp (M a b h : Nat) : swp M a b (swp M b a h) = h := by
  unfold swp
  (repeat' split) <;> omega
theorem swp_pm (M a b : Nat) : Pm M (M + a + b) (swp M a b) (swp M b a) :=
  ⟨swp_swp M a b, swp_swp M b a, fun h hh => by unfold swp; split <;> omega, fun h hh => by unfold swp; (repeat' split) <;> omega⟩
theorem back_nil (M h : Nat) : back [] M h = M + h := by simp [back]
theorem pair_mem {m mi mj : List (Ent R.D)} (hm : ∀ q ∈ entsH m, q < m.length) (hi : ∀ q ∈ entsH mi, q < mi.length) (hj : ∀ q ∈ entsH mj, q < mj.length) :
    pmM (swp m.length mi.length mj.length) (swp m.length mj.length mi.length) (m ++ mi.map (renEnt (back [] m.length)) ++ mj.map (renEnt (back [] (m.length + mi.length)))) = m ++ mj.map (renEnt (back [] m.length)) ++ mi.map (renEnt (back [] (m.length + mj.length))) := by
  apply List.ext_getElem?
  intro i
  rw [pmM_get (swp_pm _ _ _) (by simp; omega)]
  generalize hM : m.length = M at *
  generalize ha : mi.length = a at *
  generalize hb : mj.length = b at *
  by_cases h1 : i < M
  · have e : swp M b a i = i := by unfold swp; split <;> omega
    rw [e, List.append_assoc, List.append_assoc, List.getElem?_append_left (by omega), List.getElem?_append_left (by omega)]
    cases hq : m[i]? with
    | none => rfl
    | some q =>
      simp only [Option.map_some, Option.some.injEq]
      exact ren_ent_same fun h hh => by
        have := hm h (mem_entsH (List.mem_of_getElem? hq) hh)
        unfold swp; split <;> omega
  · by_cases h2 : i < M + b
    · have e : swp M b a i = i + a := by unfold swp; (repeat' split) <;> omega
      rw [e, List.getElem?_append_right (by simp; omega), List.append_assoc, List.getElem?_append_right (by omega), List.getElem?_append_left (by simp; omega)]
      have e2 : i + a - (m ++ mi.map (renEnt (back [] M))).length = i - m.length := by simp; omega
      rw [e2, List.getElem?_map, List.getElem?_map, Option.map_map]
      cases hq : mj[i - m.length]? with
      | none => rfl
      | some q =>
        simp only [Option.map_some, Option.some.injEq, Function.comp]
        exact ren_ent_c fun h hh => by
          have := hj h (mem_entsH (List.mem_of_getElem? hq) hh)
          rw [back_nil, back_nil]
          unfold swp; (repeat' split) <;> omega
    · by_cases h3 : i < M + b + a
      · have e : swp M b a i = i - b := by unfold swp; (repeat' split) <;> omega
        rw [e, List.append_assoc, List.getElem?_append_right (by omega), List.getElem?_append_left (by simp; omega), List.getElem?_append_right (by simp; omega)]
        have e2 : i - (m ++ mj.map (renEnt (back [] M))).length = i - b - m.length := by simp; omega
        rw [e2, List.getElem?_map, List.getElem?_map, Option.map_map]
        cases hq : mi[i - b - m.length]? with
        | none => rfl
        | some q =>
          simp only [Option.map_some, Option.some.injEq, Function.comp]
          exact ren_ent_c fun h hh => by
            have := hi h (mem_entsH (List.mem_of_getElem? hq) hh)
            rw [back_nil, back_nil]
            unfold swp; (repeat' split) <;> omega
      · have e : swp M b a i = i := by unfold swp; (repeat' split) <;> omega
        rw [e, List.getElem?_eq_none (by simp; omega), List.getElem?_eq_none (by simp; omega)]
        rfl

/-! ### The order that is walked -/
def oneB (i : Nat) : List Nat → Bool | [j] => Nat.beq j i | _ => false
def chk1 (ops : Array Oper) (listed : Array Bool) (i k : Nat) : Bool :=
  match memB i (Region.ready .any ops listed) with
  | true => match k with
    | 0 => Region.free .any ops listed i
    | 1 => oneB i (Region.ready .any ops listed)
    | _ => oneB i (Region.ready .any ops listed)
  | false => false
def twoB (i j : Nat) : List Nat → Bool | [a, b] => (Nat.beq a i && Nat.beq b j) || (Nat.beq a j && Nat.beq b i) | _ => false
def noneB {α : Type} : Option α → Bool | none => true | _ => false
/-- Two that make something new, in either order. -/
def chkP (ops : Array Oper) (listed : Array Bool) (i j : Nat) : Bool :=
  match ops[i]? with
  | some oi => match ops[j]? with
    | some oj => match oi.dst with
      | some di => match oj.dst with
        | some dj => twoB i j (Region.ready .any ops listed) && oneB j (Region.ready .any ops (listed.setIfInBounds i true)) && oneB i (Region.ready .any ops (listed.setIfInBounds j true)) &&
          noneB oi.guard && noneB oj.guard && !(Nat.beq di dj) && !(memB di (oj.looksAt ops)) && !(memB dj (oi.looksAt ops)) && !(Nat.beq i j)
        | none => false
      | none => false
    | none => false
  | none => false
/-- Which operation a late one is. -/
def jOf (k : Nat) : Nat := match Nat.ble 4000 k with
  | true => k - 4000
  | false => k - 2000
def tgt (i k : Nat) : Nat := match Nat.beq k 1999 with
  | true => i
  | false => jOf k
def headB (j : Nat) : List (Nat × Nat) → Bool
  | (i, k) :: _ => match Nat.ble 1999 k with
    | true => Nat.beq (tgt i k) j
    | false => false
  | [] => false
/-- An operation beside one that makes something new and comes later ('2000 + j': it leaves memory as it is; '4000 + j': it makes something, too); the late one (1999). -/
def chkT (ops : Array Oper) (listed : Array Bool) (i k : Nat) (r : List (Nat × Nat)) : Bool :=
  match Nat.beq k 1999 with
  | true => match ops[i]? with
    | some o => oneB i (Region.ready .any ops listed) && noneB o.guard
    | none => false
  | false => match ops[i]? with
    | some oi => match ops[jOf k]? with
      | some oj => match oi.dst with
        | some di => match oj.dst with
          | some dj => twoB i (jOf k) (Region.ready .any ops listed) && oneB i (Region.ready .any ops (listed.setIfInBounds (jOf k) true)) &&
            noneB oi.guard && noneB oj.guard && !(Nat.beq di dj) && !(memB di (oj.looksAt ops)) && !(memB dj (oi.looksAt ops)) && !(Nat.beq i (jOf k)) && headB (jOf k) r
          | none => false
        | none => false
      | none => false
    | none => false
def chk (ops : Array Oper) : List (Nat × Nat) → Array Bool → Bool
  | [], listed => nilB (Region.ready .any ops listed)
  | (i, k) :: r, listed => match Nat.ble 1999 k with
   | true => match chkT ops listed i k r with
    | true => chk ops r (listed.setIfInBounds i true)
    | false => false
   | false => match Nat.ble 3 k with
    | true => match chkP ops listed i (k - 3) with
      | true => chk ops r ((listed.setIfInBounds i true).setIfInBounds (k - 3) true)
      | false => false
    | false => match chk1 ops listed i k with
      | true => chk ops r (listed.setIfInBounds i true)
      | false => false
def cnt : List (Nat × Nat) → Nat
  | [] => 0
  | (_, k) :: r => match Nat.ble 1999 k with
    | true => cnt r + 1
    | false => match Nat.ble 3 k with
      | true => cnt r + 2
      | false => cnt r + 1
def evGrow (E : Env R) (σ : List (Nat × Tv R.D)) (op : Op) (m : List (Ent R.D)) (K : Tv R.D → List (Ent R.D) → Option X) : Option X :=
  match op with
  | .alloc t => evAlloc E.tab t m K
  | .box t x => op1 σ x fun v => evBox t v m K
  | .buildSlice t len l => evBuildSlice E.rt E.code E.tab σ t len l.toList m K
  | .makeSlice t x y => op1 σ x fun l => op1 σ y fun c => evMakeSlice E.rt E.code E.tab t l c m K
  | .call c => match opds σ c.args.toList with
    | some args => match c.callee with
      | .value (.func f) => match E.fresh f with
        | true => evFnN E f args m K
        | false => evFnG E f args m K
      | _ => none
    | none => none
  | _ => none
theorem evGrow_ok {E : Env R} (hE : EnvOk P E) {σ : List (Nat × Tv R.D)} (o : Oper) {m : List (Ent R.D)} {K : Tv R.D → List (Ent R.D) → Option X} {x : X} (h : evGrow E σ o.op m K = some x) : ∃ r es, K r (m ++ es) = some x ∧ OpOk R P n o σ m r (m ++ es) := by
  unfold evGrow at h
  split at h
  · rename_i t ho
    exact evAlloc_ok hE.tab ho h
  · rename_i t e ho
    obtain ⟨v, hv, h⟩ := op1_ok h
    exact evBox_ok ho hv h
  · rename_i t len l ho
    exact evBuildSlice_ok hE.tab ho h
  · rename_i t e f ho
    obtain ⟨l, hl, h⟩ := op1_ok h
    obtain ⟨c, hc, h⟩ := op1_ok h
    exact evMakeSlice_ok hE.tab ho hl hc h
  · rename_i c ho
    split at h
    · rename_i args hargs
      split at h
      · rename_i f hc
        split at h
        · obtain ⟨v, es, hv, hcall⟩ := evFnN_ok hE h
          exact ⟨v, es, hv, fun ρ w a hrel hs => (hcall ρ w _ hrel (opds_ok hs _ hargs)).yld (run_call ho hc a w)⟩
        · obtain ⟨v, es, hv, hcall⟩ := evFnG_ok hE.ct h
          rw [appM_eq] at hv hcall
          exact ⟨v, es, hv, fun ρ w a hrel hs => (hcall ρ w _ hrel (opds_ok hs _ hargs)).yld (run_call ho hc a w)⟩
      · cases h
    · cases h
  · cases h
/-- A row that is built of plain data: the same whatever memory. -/
def evBuildSliceU (rt : Nat → Option (RoT R)) (code : TypeId → Option (RoT R)) (tab : Nat → Option TI) (σ : List (Nat × Tv R.D)) (t : TypeId) (len : Nat) (l : List (Nat × Operand)) (m : List (Ent R.D)) (K : Tv R.D → List (Ent R.D) → Option X) : Option X :=
  evBuildSlice rt code tab σ t len l [] fun v es => K (renTv (back [] m.length) v) (m ++ es.map (renEnt (back [] m.length)))
theorem evBuildSlice_mem {rt : Nat → Option (RoT R)} {code : TypeId → Option (RoT R)} {tab : Nat → Option TI} {σ : List (Nat × Tv R.D)} {t : TypeId} {len : Nat} {l : List (Nat × Operand)} {K : Tv R.D → List (Ent R.D) → Option X} {x : X} (h : evBuildSlice rt code tab σ t len l [] K = some x) :
    ∃ c e xs, K (.lf (.row c 0)) [.row c xs e] = some x ∧ ∀ m0 : List (Ent R.D), evBuildSlice rt code tab σ t len l m0 (fun a b => some (a, b)) = some (.lf (.row c m0.length), m0 ++ [.row c xs e]) := by
  unfold evBuildSlice at h
  split at h
  case h_2 => cases h
  rename_i ti hti
  split at h
  case h_2 => cases h
  rename_i hk
  split at h
  case h_2 => cases h
  rename_i ei hei
  split at h
  case h_2 => cases h
  rename_i oc hoc
  split at h
  case h_2 => cases h
  rename_i hel
  split at h
  case h_2 => cases h
  rename_i hle
  split at h
  case h_2 => cases h
  rename_i hall
  split at h
  case h_2 => cases h
  rename_i ps hps
  split at h
  case h_2 => cases h
  rename_i cs hcs
  split at h
  case h_2 => cases h
  rename_i xs hxs
  refine ⟨_, _, _, h, fun m0 => ?_⟩
  unfold evBuildSlice
  simp only [hti, hk, hei, hoc, hel, hle, hall, hps, hcs, hxs]
theorem evBuildSliceU_ok {n : Nat} {σ : List (Nat × Tv R.D)} {rt : Nat → Option (RoT R)} {code : TypeId → Option (RoT R)} {tab : Nat → Option TI} (ht : TabOk P tab) {o : Oper} {t : TypeId} {len : Nat} {l : Array (Nat × Operand)} (ho : o.op = .buildSlice t len l) {m : List (Ent R.D)} {K : Tv R.D → List (Ent R.D) → Option X} {x : X}
    (h : evBuildSliceU rt code tab σ t len l.toList m K = some x) :
    ∃ (v : Tv R.D) (mm : List (Ent R.D)), K (renTv (back [] m.length) v) (m ++ mm.map (renEnt (back [] m.length))) = some x ∧ ∀ m0 : List (Ent R.D), OpOk R P n o σ m0 (renTv (back [] m0.length) v) (m0 ++ mm.map (renEnt (back [] m0.length))) := by
  unfold evBuildSliceU at h
  obtain ⟨c, e, xs, h, hall⟩ := evBuildSlice_mem h
  refine ⟨_, _, h, fun m0 => ?_⟩
  have e1 : renTv (back [] m0.length) (Tv.lf (Lf.row c 0) : Tv R.D) = .lf (.row c m0.length) := by simp [renTv, renLf, back]
  have e2 : ([Ent.row c xs e] : List (Ent R.D)).map (renEnt (back [] m0.length)) = [.row c xs e] := rfl
  rw [e1, e2]
  obtain ⟨r, es, h1, h2⟩ := evBuildSlice_ok (n := n) ht ho (hall m0)
  have h4 := Option.some.inj h1
  have e3 : r = _ := congrArg Prod.fst h4
  have e4 : m0 ++ es = _ := congrArg Prod.snd h4
  rw [e3, e4] at h2
  exact h2
/-- A block that is made: the same whatever memory. -/
def evAllocU (tab : Nat → Option TI) (t : TypeId) (m : List (Ent R.D)) (K : Tv R.D → List (Ent R.D) → Option X) : Option X :=
  evAlloc tab t [] fun v es => K (renTv (back [] m.length) v) (m ++ es.map (renEnt (back [] m.length)))
theorem evAllocU_ok {n : Nat} {σ : List (Nat × Tv R.D)} {tab : Nat → Option TI} (ht : TabOk P tab) {o : Oper} {t : TypeId} (ho : o.op = .alloc t) {m : List (Ent R.D)} {K : Tv R.D → List (Ent R.D) → Option X} {x : X} (h : evAllocU tab t m K = some x) :
    ∃ (v : Tv R.D) (mm : List (Ent R.D)), K (renTv (back [] m.length) v) (m ++ mm.map (renEnt (back [] m.length))) = some x ∧ ∀ m0 : List (Ent R.D), OpOk R P n o σ m0 (renTv (back [] m0.length) v) (m0 ++ mm.map (renEnt (back [] m0.length))) := by
  unfold evAllocU evAlloc at h
  split at h
  case h_2 => cases h
  rename_i i hi
  split at h
  · cases h
  rename_i hz
  split at h
  case h_2 => cases h
  rename_i hall
  refine ⟨_, _, h, fun m0 => ?_⟩
  have e1 : renTv (back [] m0.length) (Tv.lf (Lf.ptr ([] : List (Ent R.D)).length 0) : Tv R.D) = .lf (.ptr m0.length 0) := by simp [renTv, renLf, back]
  have e0 : ∀ (f : Nat → Nat) (l : List Value), (l.map (Lf.v (D := R.D))).map (renLf f) = l.map .v := fun f l => by
    rw [List.map_map]
    exact List.map_congr_left fun x _ => rfl
  have e2 : (([] : List (Ent R.D)) ++ [Ent.blk (i.zero.map .v) t]).map (renEnt (back [] m0.length)) = [Ent.blk (i.zero.map .v) t] := by
    simp only [List.nil_append, List.map_cons, List.map_nil, renEnt, e0]
  rw [e1, e2]
  have h0 : evAlloc tab t m0 (fun a b => some (a, b)) = some (.lf (.ptr m0.length 0), m0 ++ [.blk (i.zero.map .v) t]) := by
    unfold evAlloc
    simp only [hi]
    cases hzz : i.zero with
    | nil => exact absurd hzz hz
    | cons z zs =>
      rw [hzz] at hall
      simp only [hall]
  obtain ⟨r, es, h1, h2⟩ := evAlloc_ok (R := R) (n := n) (σ := σ) ht ho h0
  have h4 := Option.some.inj h1
  have e3 : r = _ := congrArg Prod.fst h4
  have e4 : m0 ++ es = _ := congrArg Prod.snd h4
  rw [e3, e4] at h2
  exact h2
def evGrowC (E : Env R) (σ : List (Nat × Tv R.D)) (op : Op) (m : List (Ent R.D)) (K : Tv R.D → List (Ent R.D) → Option X) : Option X :=
  match op with
  | .call c => match opds σ c.args.toList with
    | some args => match c.callee with
      | .value (.func f) => evFnG E f args m K
      | _ => none
    | none => none
  | .buildSlice t len l => evBuildSliceU E.rt E.code E.tab σ t len l.toList m K
  | .alloc t => evAllocU E.tab t m K
  | _ => none
theorem evGrowC_ok {E : Env R} (hE : EnvOk P E) {σ : List (Nat × Tv R.D)} (o : Oper) {m : List (Ent R.D)} {K : Tv R.D → List (Ent R.D) → Option X} {x : X} (h : evGrowC E σ o.op m K = some x) :
    ∃ (v : Tv R.D) (mm : List (Ent R.D)), K (renTv (back [] m.length) v) (m ++ mm.map (renEnt (back [] m.length))) = some x ∧ ∀ m0 : List (Ent R.D), OpOk R P n o σ m0 (renTv (back [] m0.length) v) (m0 ++ mm.map (renEnt (back [] m0.length))) := by
  unfold evGrowC at h
  split at h
  · rename_i c ho
    split at h
    · rename_i args hargs
      split at h
      · rename_i f hc
        obtain ⟨v, mm, hv, hcall⟩ := evFnG_okU hE.ct h
        simp only [appM_eq] at hv hcall
        exact ⟨v, mm, hv, fun m0 ρ w a hrel hs => (hcall m0 ρ w _ hrel (opds_ok hs _ hargs)).yld (run_call ho hc a w)⟩
      · cases h
    · cases h
  · rename_i t len l ho
    exact evBuildSliceU_ok hE.tab ho h
  · rename_i t ho
    exact evAllocU_ok hE.tab ho h
  · cases h
/-! ### What an operation leaves alone -/
theorem evStoreX_frame {rt : Nat → Option (RoT R)} {tab : Nat → Option TI} {t : TypeId} {p v : Tv R.D} {m : List (Ent R.D)} {K : Tv R.D → List (Ent R.D) → Option X} {x : X} (h : evStoreX rt tab t p v m K = some x) :
    ∃ r m', K r m' = some x ∧ evStoreX rt tab t p v m (fun a b => some (a, b)) = some (r, m') ∧ m'.length = m.length ∧ ∀ q, q ∉ tvH p → m'[q]? = m[q]? := by
  unfold evStoreX at h ⊢
  split at h
  · split at h
    · split at h
      · split at h
        · split at h
          · split at h
            · split at h
              · split at h
                · refine ⟨_, _, h, by simp_all, by simp, fun q hq => ?_⟩
                  rw [List.getElem?_set_ne (fun e => hq (by simp [tvH, lfH, e]))]
                · cases h
              · cases h
            · cases h
          · cases h
        · cases h
      · cases h
    · cases h
  · unfold evStore at h ⊢
    split at h
    · split at h
      · split at h
        · split at h
          · split at h
            · split at h
              · refine ⟨_, _, h, by simp_all, by simp, fun q hq => ?_⟩
                rw [List.getElem?_set_ne (fun e => hq (by simp [tvH, lfH, e]))]
              · cases h
            · cases h
          · cases h
        · cases h
      · cases h
    · cases h
theorem mergeM_frame {D : Nat → Type} : ∀ (s : List Nat) (m es : List (Ent D)) (q : Nat), q < m.length → q ∉ s → (mergeM m s es)[q]? = m[q]?
  | [], m, es, q, hq, _ => by simp only [mergeM, appM_eq]; exact List.getElem?_append_left hq
  | h :: s, m, [], q, hq, _ => by simp [mergeM]
  | h :: s, m, e :: es, q, hq, hn => by
    simp only [mergeM]
    rw [mergeM_frame s (m.set h e) es q (by simpa using hq) (fun hm => hn (List.mem_cons_of_mem _ hm)), List.getElem?_set_ne (fun he => hn (by simp [he]))]
theorem mergeM_ge {D : Nat → Type} : ∀ (s : List Nat) (m es : List (Ent D)), m.length ≤ (mergeM m s es).length
  | [], m, es => by simp [mergeM, appM_eq]
  | h :: s, m, [] => by simp [mergeM]
  | h :: s, m, e :: es => by
    simp only [mergeM]
    have := mergeM_ge s (m.set h e) es
    simpa using this
theorem frz1_frame (l : Lf R.D) (m : List (Ent R.D)) : (frz1 l m).2.length = m.length ∧ ∀ q, q ∉ lfH l → (frz1 l m).2[q]? = m[q]? := by
  have key : ∀ {h : Nat}, (m.set h (.dead : Ent R.D)).length = m.length ∧ ∀ q, q ∉ [h] → (m.set h .dead)[q]? = m[q]? := fun {h} => ⟨by simp, fun q hq => by
    rw [List.getElem?_set_ne]
    intro e
    exact hq (by rw [e]; exact List.mem_singleton.2 rfl)⟩
  unfold frz1
  split
  · split
    · split
      · exact ⟨rfl, fun _ _ => rfl⟩
      · exact key
    · exact ⟨rfl, fun _ _ => rfl⟩
  · split
    · split
      · exact ⟨rfl, fun _ _ => rfl⟩
      · exact key
    · exact ⟨rfl, fun _ _ => rfl⟩
  · exact ⟨rfl, fun _ _ => rfl⟩
theorem frzs_frame : ∀ (ls : List (Lf R.D)) (m : List (Ent R.D)), (frzs ls m).2.length = m.length ∧ ∀ q, q ∉ lfsH ls → (frzs ls m).2[q]? = m[q]?
  | [], m => ⟨rfl, fun _ _ => rfl⟩
  | l :: ls, m => by
    obtain ⟨h1, h2⟩ := frz1_frame l m
    obtain ⟨h3, h4⟩ := frzs_frame ls (frz1 l m).2
    refine ⟨by show (frzs ls (frz1 l m).2).2.length = _; rw [h3, h1], fun q hq => ?_⟩
    show (frzs ls (frz1 l m).2).2[q]? = _
    simp only [lfsH, List.mem_append, not_or] at hq
    rw [h4 q hq.2, h2 q hq.1]
theorem frzT_frame (v : Tv R.D) (m : List (Ent R.D)) : (frzT v m).2.length = m.length ∧ ∀ q, q ∉ tvH v → (frzT v m).2[q]? = m[q]? := by
  unfold frzT
  split
  · exact frz1_frame _ m
  · exact frzs_frame _ m
  · exact ⟨rfl, fun _ _ => rfl⟩
def psH {D : Nat → Type} : List (Nat × Tv D) → List Nat
  | [] => []
  | (_, v) :: r => tvH v ++ psH r
theorem frzP_frame : ∀ (ps : List (Nat × Tv R.D)) (m : List (Ent R.D)), (frzP ps m).2.length = m.length ∧ ∀ q, q ∉ psH ps → (frzP ps m).2[q]? = m[q]?
  | [], m => ⟨rfl, fun _ _ => rfl⟩
  | (i, v) :: ps, m => by
    obtain ⟨h1, h2⟩ := frzT_frame v m
    obtain ⟨h3, h4⟩ := frzP_frame ps (frzT v m).2
    refine ⟨by show (frzP ps (frzT v m).2).2.length = _; rw [h3, h1], fun q hq => ?_⟩
    show (frzP ps (frzT v m).2).2[q]? = _
    simp only [psH, List.mem_append, not_or] at hq
    rw [h4 q hq.2, h2 q hq.1]
theorem evBuildSliceF_frame {σ : List (Nat × Tv R.D)} {rt : Nat → Option (RoT R)} {code : TypeId → Option (RoT R)} {tab : Nat → Option TI} {t : TypeId} {len : Nat} {l : List (Nat × Operand)} {ps : List (Nat × Tv R.D)} (hps : evParts σ l = some ps) {m : List (Ent R.D)} {K : Tv R.D → List (Ent R.D) → Option X} {x : X}
    (h : evBuildSliceF rt code tab σ t len l m K = some x) : ∃ r m', K r m' = some x ∧ evBuildSliceF rt code tab σ t len l m (fun r m => some (r, m)) = some (r, m') ∧ m.length ≤ m'.length ∧ ∀ q, q < m.length → q ∉ psH ps → m'[q]? = m[q]? := by
  unfold evBuildSliceF at h ⊢
  split at h
  case h_2 => cases h
  rename_i ti hti
  split at h
  case h_2 => cases h
  rename_i hk
  split at h
  case h_2 => cases h
  rename_i ei hei
  split at h
  case h_2 => cases h
  rename_i o ho
  split at h
  case h_2 => cases h
  rename_i hel
  split at h
  case h_2 => cases h
  rename_i hle
  split at h
  case h_2 => cases h
  rename_i hall
  rw [hps] at h
  simp only at h
  split at h
  case h_2 => cases h
  rename_i cs hcs
  split at h
  case h_2 => cases h
  rename_i xs hxs
  obtain ⟨h1, h2⟩ := frzP_frame ps m
  refine ⟨_, _, h, by simp only [hps, hcs, hxs], by simp; omega, fun q hq hn => ?_⟩
  rw [List.getElem?_append_left (by omega)]
  exact h2 q hn
def evOpA (E : Env R) (σ : List (Nat × Tv R.D)) (op : Op) (m : List (Ent R.D)) (K : List Nat → Tv R.D → List (Ent R.D) → Option X) : Option X :=
  match op with
  | .store t a y => op1 σ a fun p => op1 σ y fun v => evStoreX E.rt E.tab t p v m (K (tvH p))
  | .buildSlice t len l => match evParts σ l.toList with
    | some ps => evBuildSliceF E.rt E.code E.tab σ t len l.toList m (K (psH ps))
    | none => none
  | .call c => match opds σ c.args.toList with
    | some args => match c.callee with
      | .value (.func f) => match E.ct f with
        | some s => loc [] args m fun sel args' m' => match liveB m sel with
          | true => s X args' m' fun v mm => K sel (renTv (back sel m.length) v) (mergeM m sel (mm.map (renEnt (back sel m.length))))
          | false => none
        | none => none
      | _ => none
    | none => none
  | _ => none
theorem evOpA_ok {E : Env R} (hE : EnvOk P E) {n : Nat} {σ : List (Nat × Tv R.D)} (o : Oper) {m : List (Ent R.D)} {K : List Nat → Tv R.D → List (Ent R.D) → Option X} {x : X} (h : evOpA E σ o.op m K = some x) :
    ∃ S r m', K S r m' = some x ∧ OpOk R P n o σ m r m' ∧ m.length ≤ m'.length ∧ ∀ q, q < m.length → q ∉ S → m'[q]? = m[q]? := by
  unfold evOpA at h
  split at h
  · rename_i t a y ho
    obtain ⟨p, hp, h⟩ := op1_ok h
    obtain ⟨v, hv, h⟩ := op1_ok h
    obtain ⟨r, m', h1, h2, h3, h4⟩ := evStoreX_frame h
    obtain ⟨r', m'', h5, h6⟩ := evStoreX_ok (n := n) hE.tab ho hp hv h2
    cases h5
    exact ⟨_, _, _, h1, h6, by omega, fun q _ hq => h4 q hq⟩
  · rename_i t len l ho
    split at h
    case h_2 => cases h
    rename_i ps hps
    obtain ⟨r, m', h1, h2, h3, h4⟩ := evBuildSliceF_frame hps h
    obtain ⟨r', m'', h5, h6⟩ := evBuildSliceF_ok (n := n) hE.tab ho h2
    cases h5
    exact ⟨_, _, _, h1, h6, h3, h4⟩
  · rename_i c ho
    split at h
    · rename_i args hargs
      split at h
      · rename_i f hc
        split at h
        · rename_i s hs
          obtain ⟨sel, args', m', h, hsel, _, _, hloc⟩ := loc_ok h
          split at h
          case h_2 => exact none_some h
          rename_i hlive
          have hlive := liveB_ok hlive
          obtain ⟨v, mm, h, hcall⟩ := hE.ct f s hs X args' m' _ x h
          refine ⟨_, _, _, h, fun ρ w a hr hs' => ?_, mergeM_ge _ _ _, fun q hq hn => mergeM_frame _ _ _ q hq hn⟩
          obtain ⟨hr', ha'⟩ := hloc ρ w _ hr (opds_ok hs' _ hargs)
          have hp : CallOk P f (c.args.toList.map a.eval) w (Post R ρ m w (renTv (back sel m.length) v) (mergeM m sel (mm.map (renEnt (back sel m.length))))) := (hcall _ w _ hr' ha').mono fun u w' ⟨ρ1, hg, hrel, hi⟩ => by
            obtain ⟨ρ2, h1, h2, h3⟩ := back_ok hr hsel hlive hg hrel
            exact ⟨ρ2, h1, h2, h3 v u hi⟩
          exact hp.yld (run_call ho hc a w)
        · cases h
      · cases h
    · cases h
  · cases h
/-- A call, by what it is told of one's own alone. -/
def evCallU (E : Env R) (σ : List (Nat × Tv R.D)) (op : Op) (m : List (Ent R.D)) (K : List Nat → Tv R.D → List (Ent R.D) → Option X) : Option X :=
  match op with
  | .call c => match opds σ c.args.toList with
    | some args => match c.callee with
      | .value (.func f) => match E.ct f with
        | some s => loc [] args m fun sel args' m' => match liveB m sel with
          | true => s X args' m' fun v mm => K sel v mm
          | false => none
        | none => none
      | _ => none
    | none => none
  | _ => none
theorem Rel.pre {ρ : Ow} {m es : List (Ent R.D)} {w : World} (hr : Rel R ρ (m ++ es) w) (hm : ∀ q ∈ entsH m, q < m.length) : Rel R ⟨ρ.F, ρ.r.take m.length⟩ m w := by
  have hlen : m.length ≤ ρ.r.length := by rw [hr.len]; simp
  have htk : ∀ (i : Nat) (b : Bk), i < m.length → ρ.r[i]? = some b → (ρ.r.take m.length)[i]? = some b := fun i b hi hb => by rw [List.getElem?_take, if_pos hi]; exact hb
  have hun : ∀ (i : Nat) (b : Bk), (ρ.r.take m.length)[i]? = some b → ρ.r[i]? = some b := fun i b hb => by
    rw [List.getElem?_take] at hb
    split at hb
    · exact hb
    · cases hb
  have hin : ∀ {i : Nat} {e : Ent R.D}, m[i]? = some e → (m ++ es)[i]? = some e := fun {i e} he => by rw [List.getElem?_append_left (List.getElem?_eq_some_iff.1 he).1]; exact he
  have hheld : ∀ b, Held (⟨ρ.F, ρ.r.take m.length⟩ : Ow) m b → Held ρ (m ++ es) b := fun b ⟨i, q, e, h1, h2, h3, h4⟩ => ⟨i, q, e, hun i q h1, hin h2, h3, h4⟩
  refine ⟨by show (ρ.r.take m.length).length = _; rw [List.length_take]; omega, fun i j p q e e' b h1 h2 h3 h4 => hr.nd i j p q e e' b (hun i p h1) (hun j q h2) (hin h3) (hin h4), hr.lt, fun b hb => hr.fits b (hheld b hb), fun i b e hi he => ?_⟩
  exact (hr.ok i b e (hun i b hi) (hin he)).to (fun _ h => h) fun q hq b' hb' => htk q b' (hm q (mem_entsH (List.mem_of_getElem? he) hq)) hb'
theorem evCallU_ok {E : Env R} (hE : EnvOk P E) {σ : List (Nat × Tv R.D)} (o : Oper) {m : List (Ent R.D)} {K : List Nat → Tv R.D → List (Ent R.D) → Option X} {x : X} (h : evCallU E σ o.op m K = some x) (hH : ∀ q ∈ sgH σ, q < m.length) (hm : ∀ q ∈ entsH m, q < m.length) :
    ∃ s v mm, K s v mm = some x ∧ s.Nodup ∧ (∀ q ∈ s, q < m.length) ∧ ∀ es : List (Ent R.D), OpOk R P n o σ (m ++ es) (renTv (back s (m ++ es).length) v) (mergeM (m ++ es) s (mm.map (renEnt (back s (m ++ es).length)))) := by
  unfold evCallU at h
  split at h
  case h_2 => cases h
  rename_i c ho
  split at h
  case h_2 => cases h
  rename_i args hargs
  split at h
  case h_2 => cases h
  rename_i f hc
  split at h
  case h_2 => cases h
  rename_i s hs
  obtain ⟨sel, args', m', h, hsel, _, _, hloc⟩ := loc_ok h
  split at h
  case h_2 => cases h
  rename_i hlive
  have hlive := liveB_ok hlive
  obtain ⟨v, mm, h, hcall⟩ := hE.ct f s hs X args' m' _ x h
  refine ⟨sel, v, mm, h, hsel.nd, hsel.lt, fun es ρ w a hr hst => ?_⟩
  have hin : ∀ {i : Nat} {e : Ent R.D}, m[i]? = some e → (m ++ es)[i]? = some e := fun {i e} he => by rw [List.getElem?_append_left (List.getElem?_eq_some_iff.1 he).1]; exact he
  have hlt : ∀ {i : Nat}, i < m.length → (m ++ es)[i]? = m[i]? := fun {i} hi => List.getElem?_append_left hi
  have hr0 := hr.pre hm
  have htk : ∀ (i : Nat) (b : Bk), i < m.length → ρ.r[i]? = some b → (ρ.r.take m.length)[i]? = some b := fun i b hi hb => by rw [List.getElem?_take, if_pos hi]; exact hb
  have hs0 : Sat R ⟨ρ.F, ρ.r.take m.length⟩ w n σ a := ⟨hst.size, hst.defers, fun i v hv => by
    obtain ⟨u, hu, hi⟩ := hst.at_ i v hv
    exact ⟨u, hu, hi.to (fun _ h => h) fun q hq b' hb' => htk q b' (hH q (find_sgH hv q hq)) hb'⟩⟩
  obtain ⟨hr', ha'⟩ := hloc _ w _ hr0 (opds_ok hs0 _ hargs)
  have hsub : (⟨ρ.F, ρ.r.take m.length⟩ : Ow).sub m sel = ρ.sub (m ++ es) sel := by
    unfold Ow.sub
    congr 1
    refine List.map_congr_left fun q hq => ?_
    have hq := hsel.lt q hq
    unfold subBk
    rw [hlt hq]
    have : (ρ.r.take m.length).getD q .nil = ρ.r.getD q .nil := by
      simp only [List.getD, List.getElem?_take, if_pos hq]
    rw [this]
  rw [hsub] at hr' ha'
  have hsel' : Sel (m ++ es) sel m' := ⟨hsel.nd, fun q hq => by have := hsel.lt q hq; simp; omega, hsel.len, fun i q hi => by rw [hsel.get i q hi, hlt (hsel.lt q (List.mem_of_getElem? hi))]⟩
  have hlive' : ∀ q ∈ sel, Live (m ++ es) q := fun q hq => by
    obtain ⟨e, he, hl⟩ := hlive q hq
    exact ⟨e, hin he, hl⟩
  have hp : CallOk P f (c.args.toList.map a.eval) w (Post R ρ (m ++ es) w (renTv (back sel (m ++ es).length) v) (mergeM (m ++ es) sel (mm.map (renEnt (back sel (m ++ es).length))))) := (hcall _ w _ hr' ha').mono fun u w' ⟨ρ1, hg, hrel, hi⟩ => by
    obtain ⟨ρ2, h1, h2, h3⟩ := back_ok hr hsel' hlive' hg hrel
    exact ⟨ρ2, h1, h2, h3 v u hi⟩
  exact hp.yld (run_call ho hc a w)
theorem pair_memC {m mi mm : List (Ent R.D)} {s : List Nat} (hs : ∀ q ∈ s, q < m.length) (hnd : s.Nodup) (hge : s.length ≤ mm.length) (hm : ∀ q ∈ entsH m, q < m.length) (hi : ∀ q ∈ entsH mi, q < mi.length) (hmm : ∀ q ∈ entsH mm, q < mm.length) :
    pmM (swp m.length mi.length (mm.length - s.length)) (swp m.length (mm.length - s.length) mi.length) (mergeM (m ++ mi.map (renEnt (back [] m.length))) s (mm.map (renEnt (back s (m.length + mi.length))))) = mergeM m s (mm.map (renEnt (back s m.length))) ++ mi.map (renEnt (back [] (m.length + (mm.length - s.length)))) := by
  have hl1 : (mergeM (m ++ mi.map (renEnt (back [] m.length))) s (mm.map (renEnt (back s (m.length + mi.length))))).length = m.length + mi.length + (mm.length - s.length) := by
    rw [mergeM_len _ _ _ (by simpa using hge)]; simp
  have hl2 : (mergeM m s (mm.map (renEnt (back s m.length)))).length = m.length + (mm.length - s.length) := by
    rw [mergeM_len _ _ _ (by simpa using hge)]; simp
  have hlm : (m ++ mi.map (renEnt (back [] m.length))).length = m.length + mi.length := by simp
  have hbk : ∀ h, h < mm.length → swp m.length mi.length (mm.length - s.length) (back s (m.length + mi.length) h) = back s m.length h := fun h hh => by
    unfold back
    cases hq : s[h]? with
    | some q =>
      have := hs q (List.mem_of_getElem? hq)
      dsimp only
      unfold swp; split <;> omega
    | none =>
      have := List.getElem?_eq_none_iff.1 hq
      dsimp only
      unfold swp; (repeat' split) <;> omega
  have hren : ∀ (o : Option (Ent R.D)), (∀ e, o = some e → e ∈ mm) → (o.map (renEnt (back s (m.length + mi.length)))).map (renEnt (swp m.length mi.length (mm.length - s.length))) = o.map (renEnt (back s m.length)) := fun o ho => by
    cases o with
    | none => rfl
    | some e =>
      simp only [Option.map_some, Option.some.injEq]
      exact ren_ent_c fun h hh => hbk h (hmm h (mem_entsH (ho e rfl) hh))
  apply List.ext_getElem?
  intro i
  rw [pmM_get (swp_pm _ _ _) (by rw [hl1]; omega)]
  by_cases h1 : i < m.length
  · have e : swp m.length (mm.length - s.length) mi.length i = i := by unfold swp; split <;> omega
    rw [e, List.getElem?_append_left (by rw [hl2]; omega)]
    by_cases hqs : i ∈ s
    · obtain ⟨k, hk⟩ := List.getElem?_of_mem hqs
      rw [mergeM_at _ _ _ k i hnd hk (by rw [hlm]; omega) (by simpa using hge), mergeM_at _ _ _ k i hnd hk h1 (by simpa using hge), List.getElem?_map, List.getElem?_map]
      exact hren _ fun e he => List.mem_of_getElem? he
    · rw [mergeM_far _ _ _ i hqs (by rw [hlm]; omega), mergeM_far _ _ _ i hqs h1, List.getElem?_append_left h1]
      cases hq : m[i]? with
      | none => rfl
      | some q =>
        simp only [Option.map_some, Option.some.injEq]
        exact ren_ent_same fun h hh => by
          have := hm h (mem_entsH (List.mem_of_getElem? hq) hh)
          unfold swp; split <;> omega
  · by_cases h2 : i < m.length + (mm.length - s.length)
    · have e : swp m.length (mm.length - s.length) mi.length i = (m ++ mi.map (renEnt (back [] m.length))).length + (i - m.length) := by rw [hlm]; unfold swp; (repeat' split) <;> omega
      rw [e, mergeM_new _ _ _ _ (by simpa using hge), List.getElem?_append_left (by rw [hl2]; exact h2)]
      have e2 : i = m.length + (i - m.length) := by omega
      have h3 := mergeM_new s m (mm.map (renEnt (back s m.length))) (i - m.length) (by simpa using hge)
      rw [← e2] at h3
      rw [h3, List.getElem?_map, List.getElem?_map]
      exact hren _ fun e he => List.mem_of_getElem? he
    · by_cases h3 : i < m.length + (mm.length - s.length) + mi.length
      · have e : swp m.length (mm.length - s.length) mi.length i = i - (mm.length - s.length) := by unfold swp; (repeat' split) <;> omega
        have hns : i - (mm.length - s.length) ∉ s := fun h => by have := hs _ h; omega
        rw [e, mergeM_far _ _ _ _ hns (by rw [hlm]; omega), List.getElem?_append_right (by omega), List.getElem?_append_right (by rw [hl2]; omega), hl2, List.getElem?_map, List.getElem?_map, show i - (mm.length - s.length) - m.length = i - (m.length + (mm.length - s.length)) by omega]
        cases hq : mi[i - (m.length + (mm.length - s.length))]? with
        | none => rfl
        | some q =>
          simp only [Option.map_some, Option.some.injEq]
          exact ren_ent_c fun h hh => by
            have := hi h (mem_entsH (List.mem_of_getElem? hq) hh)
            rw [back_nil, back_nil]
            unfold swp; (repeat' split) <;> omega
      · have e : swp m.length (mm.length - s.length) mi.length i = i := by unfold swp; (repeat' split) <;> omega
        rw [e, List.getElem?_eq_none (by rw [hl1]; omega), List.getElem?_eq_none (by rw [List.length_append, hl2]; simp; omega)]
        rfl
def evPair (E : Env R) (oi oj : Oper) (σ : List (Nat × Tv R.D)) (m : List (Ent R.D)) (K : Tv R.D → Tv R.D → List (Ent R.D) → Option X) : Option X :=
  match ltB m.length (sgH σ) with
  | true => match ltB m.length (entsH m) with
    | true => evGrowC E (restr σ (opTmps oi)) oi.op m fun v m1 => match ltB m1.length (tvH v) with
      | true => match ltB m1.length (entsH m1) with
        | true => evGrowC E (restr σ (opTmps oj)) oj.op m1 fun v' m2 => match ltB m2.length (tvH v') with
          | true => match ltB m2.length (entsH m2) with
            | true => K v v' m2
            | false => none
          | false => none
        | false => none
      | false => none
    | false => none
  | false => none
def dstB (o : Oper) (e : Tmp) : Bool := match o.dst with
  | some d => Nat.beq d e
  | none => false
/-- Every other operation that looks at memory waits for 'j', or 'j' for it, or it is a load from what 'j' leaves alone. -/
def awayB (ops : Array Oper) (σ : List (Nat × Tv R.D)) (n : Nat) (S : List Nat) (j : Nat) : Bool :=
  (List.range ops.size).all fun i => i == j || pureAt ops i || depT ops j i || depT ops i j || match ops[i]? with
    | some o => match keyT o.op with
      | some e => match Sg.find σ e with
        | some v => (tvH v).all (fun q => Nat.blt q n && !(memB q S)) && (List.range ops.size).all fun x => match ops[x]? with
          | some ox => !(dstB ox e) || depT ops i x
          | none => true
        | none => false
      | _ => false
    | none => false
theorem awayB_ok {ops : Array Oper} {σ σ0 : List (Nat × Tv R.D)} {m m' : List (Ent R.D)} {S : List Nat} {j n : Nat} (hnm : n ≤ m.length) (h : awayB ops σ n S j = true) (hf : ∀ q, q < n → q ∉ S → m'[q]? = m[q]?) (hr0 : Refs R σ0 σ) {listed : Array Bool} (hr : j ∈ Region.ready .any ops listed) (i : Nat) (hl : i < ops.size) (hi : listed.getD i false = true) :
    pureAt ops i = true ∨ depT ops j i = true ∨ depT ops i j = true ∨ Keeps R ops σ0 m m' i := by
  unfold awayB at h
  rw [List.all_eq_true] at h
  have h1 := h i (by rw [List.mem_range]; exact hl)
  simp only [Bool.or_eq_true, beq_iff_eq] at h1
  rcases h1 with (((h1 | h1) | h1) | h1) | h1
  · subst h1; rw [ready_un hr] at hi; cases hi
  · exact .inl h1
  · exact .inr (.inl h1)
  · exact .inr (.inr (.inl h1))
  · refine .inr (.inr (.inr ?_))
    split at h1
    · rename_i o ho
      split at h1
      · rename_i e hop
        split at h1
        · rename_i v hv
          simp only [Bool.and_eq_true, List.all_eq_true, Bool.not_eq_true', Nat.blt_eq] at h1
          obtain ⟨h3, h4⟩ := h1
          obtain ⟨v0, hv0, himp⟩ := hr0 e v hv
          have hdst : ∀ x ox, ops[x]? = some ox → ox.dst = some e → depT ops i x = true := by
            intro x ox hx hd
            · have := h4 x (by rw [List.mem_range]; exact (Array.getElem?_eq_some_iff.1 hx).1)
              rw [hx] at this
              have hb : dstB ox e = true := by unfold dstB; rw [hd]; exact Nat.beq_refl e
              simpa [hb] using this
          rcases himp with rfl | ⟨hn, _⟩
          · refine ⟨o, e, v0, ho, hop, hdst, hv0, fun q hq => ⟨Nat.lt_of_lt_of_le (h3 q hq).1 hnm, hf q (h3 q hq).1 fun hm => ?_⟩⟩
            · have := (h3 q hq).2
              rw [memB_iff.2 hm] at this
              cases this
          · exact ⟨o, e, v0, ho, hop, hdst, hv0, fun q hq => by rw [hn.2] at hq; cases hq⟩
        · cases h1
      · cases h1
    · cases h1
/-- One that makes a row of plain data, and a call, in either order. -/
def evPairC (E : Env R) (ops : Array Oper) (j : Nat) (oi oj : Oper) (σ : List (Nat × Tv R.D)) (m : List (Ent R.D)) (K : Tv R.D → Tv R.D → List (Ent R.D) → Option X) : Option X :=
  match ltB m.length (sgH σ) with
  | true => match ltB m.length (entsH m) with
    | true => evGrowC E (restr σ (opTmps oi)) oi.op m fun v m1 => match ltB m1.length (tvH v) with
      | true => match ltB m1.length (entsH m1) with
        | true => match ltB m.length (sgH (restr σ (opTmps oj))) with
          | true => evCallU E (restr σ (opTmps oj)) oj.op m fun s v' mm => match Nat.ble s.length mm.length with
            | true => match ltB mm.length (tvH v') with
              | true => match ltB mm.length (entsH mm) with
                | true => match awayB ops σ m.length s j with
                  | true => match awayB ops (putσ oi.dst v σ) m.length s j with
                    | true => K v (renTv (back s m1.length) v') (mergeM m1 s (mm.map (renEnt (back s m1.length))))
                    | false => none
                  | false => none
                | false => none
              | false => none
            | false => none
          | false => none
        | false => none
      | false => none
    | false => none
  | false => none
theorem swp_back {M a b : Nat} {s : List Nat} (hs : ∀ q ∈ s, q < M) {h : Nat} (hh : h < s.length + b) : swp M a b (back s (M + a) h) = back s M h := by
  unfold back
  cases hq : s[h]? with
  | some q =>
    have := hs q (List.mem_of_getElem? hq)
    dsimp only
    unfold swp; split <;> omega
  | none =>
    have := List.getElem?_eq_none_iff.1 hq
    dsimp only
    unfold swp; (repeat' split) <;> omega
def callOp : Op → Bool
  | .call _ => true
  | _ => false
def evPairX (E : Env R) (ops : Array Oper) (j : Nat) (oi oj : Oper) (σ : List (Nat × Tv R.D)) (m : List (Ent R.D)) (K : Tv R.D → Tv R.D → List (Ent R.D) → Option X) : Option X :=
  match mkOp oi.op && callOp oj.op with
  | true => evPairC E ops j oi oj σ m K
  | false => evPair E oi oj σ m K
def evSeq (E : Env R) (ops : Array Oper) : List (Nat × Nat) → List (Nat × Tv R.D) → List (Ent R.D) → (List (Nat × Tv R.D) → List (Ent R.D) → Option X) → Option X
  | [], σ, m, K => K σ m
  | (i, k) :: r, σ, m, K => match Nat.ble 1999 k with
   | true => match ops[i]? with
    | some o => match ltB m.length (sgH σ) with
      | true => match ltB m.length (entsH m) with
        | true => match Nat.beq k 1999 || Nat.ble 4000 k with
          | true => evGrowC E (restr σ (opTmps o)) o.op m fun v m' => match ltB m'.length (tvH v) with
            | true => match ltB m'.length (entsH m') with
              | true => putS E.n o.dst v σ fun σ' => evSeq E ops r σ' m' K
              | false => none
            | false => none
          | false => match ltB m.length (sgH (restr σ (opTmps o))) with
            | true => evStill E (restr σ (opTmps o)) o.op m fun v => match ltB m.length (tvH v) with
              | true => putS E.n o.dst v σ fun σ' => evSeq E ops r σ' m K
              | false => none
            | false => none
        | false => none
      | false => none
    | none => none
   | false => match Nat.ble 3 k with
   | true => match ops[i]? with
    | some oi => match ops[k - 3]? with
      | some oj => evPairX E ops (k - 3) oi oj σ m fun v v' m2 => putS E.n oi.dst v σ fun σ1 => putS E.n oj.dst v' σ1 fun σ2 => evSeq E ops r σ2 m2 K
      | none => none
    | none => none
   | false => match ops[i]? with
    | some o => evGuard ops o.guard σ fun t σ1 => match t with
      | false => putS E.n o.dst .un σ1 fun σ' => evSeq E ops r σ' m K
      | true => match k with
        | 0 => match ltB m.length (entsH m) with
          | true => match ltB m.length (sgH (restr σ1 (opTmps o))) with
            | true => evStill E (restr σ1 (opTmps o)) o.op m fun v => putS E.n o.dst v σ1 fun σ' => evSeq E ops r σ' m K
            | false => none
          | false => none
        | 1 => evGrow E (restr σ1 (opTmps o)) o.op m fun v m' => putS E.n o.dst v σ1 fun σ' => evSeq E ops r σ' m' K
        | _ => match awayB ops σ1 0 [] i with
          | true => evOp E (restr σ1 (opTmps o)) o.op m fun v m' => match Nat.ble m.length m'.length with
            | true => putS E.n o.dst v σ1 fun σ' => evSeq E ops r σ' m' K
            | false => none
          | false => evOpA E (restr σ1 (opTmps o)) o.op m fun S v m' => match awayB ops σ1 m.length S i with
            | true => putS E.n o.dst v σ1 fun σ' => evSeq E ops r σ' m' K
            | false => none
    | none => none
/-! ### The check of an order, by lists alone -/
def listedOf (n : Nat) : List Nat → Array Bool
  | [] => Array.replicate n false
  | i :: r => (listedOf n r).setIfInBounds i true
def allM (d : List Nat) : List Nat → Bool
  | [] => true
  | a :: l => match memB a d with
    | true => allM d l
    | false => false
def rdyGo (ops : Array Oper) (d : List Nat) : List Nat → List Nat
  | [] => []
  | i :: r => match memB i d with
    | true => rdyGo ops d r
    | false => match ops[i]? with
      | some _ => match allM d (waits ops i) with
        | true => i :: rdyGo ops d r
        | false => rdyGo ops d r
      | none => rdyGo ops d r
def upN : Nat → Nat → List Nat
  | 0, _ => []
  | c + 1, j => j :: upN c (j + 1)
def rdy (ops : Array Oper) (d : List Nat) : List Nat := rdyGo ops d (upN ops.size 0)
def freeGo (ops : Array Oper) (d : List Nat) (i : Nat) (oi : Oper) : List Nat → Bool
  | [] => true
  | j :: r => match Nat.beq j i with
    | true => freeGo ops d i oi r
    | false => match memB j d with
      | true => freeGo ops d i oi r
      | false => match ops[j]? with
        | some oj => match memB i (waits ops j) with
          | true => freeGo ops d i oi r
          | false => match oi.apart ops oj with
            | true => freeGo ops d i oi r
            | false => false
        | none => freeGo ops d i oi r
def freeL (ops : Array Oper) (d : List Nat) (i : Nat) : Bool := match ops[i]? with
  | some oi => freeGo ops d i oi (upN ops.size 0)
  | none => false
theorem listedOf_size (n : Nat) : ∀ d : List Nat, (listedOf n d).size = n
  | [] => by simp [listedOf]
  | i :: r => by simp [listedOf, listedOf_size n r]
theorem listedOf_getD (n : Nat) (b : Bool) : ∀ (d : List Nat) (x : Nat), (listedOf n d).getD x b = if x < n then memB x d else b
  | [], x => by
    by_cases h : x < n
    · simp [listedOf, h, memB]
    · simp [listedOf, h]
  | i :: r, x => by
    have ih := listedOf_getD n b r x
    have hsz := listedOf_size n r
    unfold listedOf memB
    by_cases hi : i = x
    · subst hi
      by_cases h : i < n
      · simp [hsz, h]
      · simp [hsz, h]
    · rw [getD_set_ne b hi, ih]
      have : Nat.beq i x = false := by
        cases hb : Nat.beq i x
        · rfl
        · exact absurd (Nat.eq_of_beq_eq_true hb) hi
      rw [this]
theorem upN_eq : ∀ (c j : Nat), upN c j = List.range' j c
  | 0, j => rfl
  | c + 1, j => by rw [upN, List.range'_succ, upN_eq c (j + 1)]
theorem upN_range (n : Nat) : upN n 0 = List.range n := by rw [upN_eq, List.range_eq_range']
theorem allM_eq (d : List Nat) : ∀ l : List Nat, allM d l = l.all fun a => memB a d
  | [] => rfl
  | a :: l => by
    rw [allM, List.all_cons, allM_eq d l]
    cases memB a d <;> rfl
theorem waits_all {o : Oper} {i : Nat} (ho : ops[i]? = some o) (p : Nat → Bool) : (o.after.all fun e => !Region.binds .any e || p e.on) = (waits ops i).all p := by
  unfold waits
  rw [ho]
  dsimp only
  rw [← Array.all_toList]
  induction o.after.toList with
  | nil => rfl
  | cons e l ih =>
    rw [List.all_cons, ih]
    cases hb : Region.binds .any e
    · simp [List.filterMap_cons, hb]
    · simp [List.filterMap_cons, hb]
theorem rdyGo_eq (ops : Array Oper) (d : List Nat) (p : Nat → Bool) (hp : ∀ i, p i = (!memB i d && ((ops[i]?).map fun _ => allM d (waits ops i)).getD false)) : ∀ l : List Nat, rdyGo ops d l = l.filter p
  | [] => rfl
  | i :: r => by
    rw [rdyGo, List.filter_cons, hp i, rdyGo_eq ops d p hp r]
    cases memB i d
    · cases ops[i]? with
      | none => simp
      | some o =>
        simp only [Option.map_some, Option.getD_some, Bool.not_false, Bool.true_and]
        cases allM d (waits ops i) <;> rfl
    · simp
theorem rdy_eq (ops : Array Oper) (d : List Nat) (hd : ∀ x ∈ d, x < ops.size) : rdy ops d = Region.ready .any ops (listedOf ops.size d) := by
  unfold rdy Region.ready
  rw [upN_range, rdyGo_eq ops d _ (fun i => rfl)]
  apply List.filter_congr
  intro i hi
  have hi := List.mem_range.1 hi
  rw [listedOf_getD, if_pos hi]
  congr 1
  cases ho : ops[i]? with
  | none => rfl
  | some o =>
    simp only [Option.map_some, Option.getD_some]
    rw [allM_eq, ← waits_all ho]
    congr 1
    funext e
    rw [listedOf_getD]
    by_cases he : e.on < ops.size
    · rw [if_pos he]
    · rw [if_neg he]
      congr 1
      cases hm : memB e.on d
      · rfl
      · exact absurd (hd _ (memB_iff.1 hm)) he
theorem freeGo_ok {ops : Array Oper} {d : List Nat} {i : Nat} {oi : Oper} : ∀ l : List Nat, (∀ j ∈ l, j < ops.size) → freeGo ops d i oi l = true →
    (l.all fun j => j == i || (listedOf ops.size d).getD j true || match ops[j]? with
      | some oj => oj.after.any (fun e => Region.binds .any e && e.on == i) || oi.apart ops oj
      | none => true) = true
  | [], _, _ => rfl
  | j :: r, hl, h => by
    have ih := freeGo_ok (ops := ops) (d := d) (i := i) (oi := oi) r fun j hj => hl j (List.mem_cons_of_mem _ hj)
    have hj := hl j (List.mem_cons_self ..)
    rw [List.all_cons, listedOf_getD, if_pos hj, Bool.and_eq_true]
    unfold freeGo at h
    split at h
    · rename_i hb
      have := Nat.eq_of_beq_eq_true hb
      exact ⟨by simp [this], ih h⟩
    · split at h
      · rename_i hm
        exact ⟨by simp [hm], ih h⟩
      · split at h
        · rename_i oj hoj
          split at h
          · rename_i hw
            refine ⟨?_, ih h⟩
            have hw := memB_iff.1 hw
            unfold waits at hw
            rw [hoj] at hw
            obtain ⟨e, he, hb⟩ := List.mem_filterMap.1 hw
            split at hb
            · rename_i hbi
              cases hb
              have : oj.after.any (fun e' => Region.binds .any e' && e'.on == e.on) = true := by
                rw [Array.any_eq_true']
                exact ⟨e, Array.mem_toList_iff.1 he, by simp [hbi]⟩
              simp only [hoj, this, Bool.true_or, Bool.or_true]
            · cases hb
          · split at h
            · rename_i ha
              refine ⟨?_, ih h⟩
              simp only [hoj, ha, Bool.or_true]
            · cases h
        · rename_i hn
          exact ⟨by simp [hn], ih h⟩
theorem freeL_ok {ops : Array Oper} {d : List Nat} {i : Nat} (h : freeL ops d i = true) : Region.free .any ops (listedOf ops.size d) i = true := by
  unfold freeL at h
  unfold Region.free
  split at h
  · rename_i oi hoi
    rw [hoi]
    have := freeGo_ok (upN ops.size 0) (fun j hj => by rw [upN_range] at hj; exact List.mem_range.1 hj) h
    rw [upN_range] at this
    exact this
  · cases h
def chkL1 (ops : Array Oper) (d : List Nat) (i k : Nat) : Bool :=
  match memB i (rdy ops d) with
  | true => match k with
    | 0 => freeL ops d i
    | 1 => oneB i (rdy ops d)
    | _ => oneB i (rdy ops d)
  | false => false
def chkLP (ops : Array Oper) (d : List Nat) (i j : Nat) : Bool :=
  match ops[i]? with
  | some oi => match ops[j]? with
    | some oj => match oi.dst with
      | some di => match oj.dst with
        | some dj => twoB i j (rdy ops d) && oneB j (rdy ops (i :: d)) && oneB i (rdy ops (j :: d)) &&
          noneB oi.guard && noneB oj.guard && !(Nat.beq di dj) && !(memB di (oj.looksAt ops)) && !(memB dj (oi.looksAt ops)) && !(Nat.beq i j)
        | none => false
      | none => false
    | none => false
  | none => false
def chkLT (ops : Array Oper) (d : List Nat) (i k : Nat) (r : List (Nat × Nat)) : Bool :=
  match Nat.beq k 1999 with
  | true => match ops[i]? with
    | some o => oneB i (rdy ops d) && noneB o.guard
    | none => false
  | false => match ops[i]? with
    | some oi => match ops[jOf k]? with
      | some oj => match oi.dst with
        | some di => match oj.dst with
          | some dj => twoB i (jOf k) (rdy ops d) && oneB i (rdy ops (jOf k :: d)) &&
            noneB oi.guard && noneB oj.guard && !(Nat.beq di dj) && !(memB di (oj.looksAt ops)) && !(memB dj (oi.looksAt ops)) && !(Nat.beq i (jOf k)) && headB (jOf k) r
          | none => false
        | none => false
      | none => false
    | none => false
theorem chkLT_ok {ops : Array Oper} {d : List Nat} (hd : ∀ x ∈ d, x < ops.size) {i k : Nat} {r : List (Nat × Nat)} (h : chkLT ops d i k r = true) : i < ops.size ∧ chkT ops (listedOf ops.size d) i k r = true := by
  have hi : i < ops.size := by
    unfold chkLT at h
    split at h
    · split at h
      · rename_i o ho; exact (Array.getElem?_eq_some_iff.1 ho).1
      · cases h
    · split at h
      · rename_i o ho; exact (Array.getElem?_eq_some_iff.1 ho).1
      · cases h
  refine ⟨hi, ?_⟩
  rw [← h]
  unfold chkT chkLT
  split
  · rw [rdy_eq ops d hd]
  · split
    · rename_i oi hoi
      split
      · rename_i oj hoj
        have hj : jOf k < ops.size := (Array.getElem?_eq_some_iff.1 hoj).1
        have hd2 : ∀ x ∈ jOf k :: d, x < ops.size := fun x hx => by
          rcases List.mem_cons.1 hx with rfl | hx
          · exact hj
          · exact hd x hx
        rw [rdy_eq ops d hd, rdy_eq ops _ hd2]
        rfl
      · rfl
    · rfl
def chkL (ops : Array Oper) : List (Nat × Nat) → List Nat → Bool
  | [], d => nilB (rdy ops d)
  | (i, k) :: r, d => match Nat.ble 1999 k with
   | true => match chkLT ops d i k r with
    | true => chkL ops r (i :: d)
    | false => false
   | false => match Nat.ble 3 k with
    | true => match chkLP ops d i (k - 3) with
      | true => chkL ops r ((k - 3) :: i :: d)
      | false => false
    | false => match chkL1 ops d i k with
      | true => chkL ops r (i :: d)
      | false => false
theorem chkL_ok {ops : Array Oper} : ∀ (ord : List (Nat × Nat)) {d : List Nat}, (∀ x ∈ d, x < ops.size) → chkL ops ord d = true → chk ops ord (listedOf ops.size d) = true
  | [], d, hd, h => by
    unfold chkL at h
    rw [rdy_eq ops d hd] at h
    exact h
  | (i, k) :: r, d, hd, h => by
    unfold chkL at h
    unfold chk
    split at h
    · split at h
      · rename_i hp
        obtain ⟨hi, hp'⟩ := chkLT_ok hd hp
        rw [hp']
        exact chkL_ok r (d := i :: d) (fun x hx => by
          rcases List.mem_cons.1 hx with rfl | hx
          · exact hi
          · exact hd x hx) h
      · cases h
    split at h
    · rename_i h3
      split at h
      · rename_i hp
        have hij : i < ops.size ∧ k - 3 < ops.size := by
          unfold chkLP at hp
          split at hp
          · rename_i oi hoi
            split at hp
            · rename_i oj hoj
              exact ⟨(Array.getElem?_eq_some_iff.1 hoi).1, (Array.getElem?_eq_some_iff.1 hoj).1⟩
            · cases hp
          · cases hp
        have hd1 : ∀ x ∈ i :: d, x < ops.size := fun x hx => by
          rcases List.mem_cons.1 hx with rfl | hx
          · exact hij.1
          · exact hd x hx
        have hd2 : ∀ x ∈ (k - 3) :: d, x < ops.size := fun x hx => by
          rcases List.mem_cons.1 hx with rfl | hx
          · exact hij.2
          · exact hd x hx
        have hp' : chkP ops (listedOf ops.size d) i (k - 3) = true := by
          rw [← hp]
          unfold chkP chkLP
          rw [rdy_eq ops d hd, rdy_eq ops _ hd1, rdy_eq ops _ hd2]
          rfl
        rw [hp']
        exact chkL_ok r (d := (k - 3) :: i :: d) (fun x hx => by
          rcases List.mem_cons.1 hx with rfl | hx
          · exact hij.2
          · exact hd1 x hx) h
      · cases h
    · rename_i h3
      split at h
      · rename_i hp
        have hi : i < ops.size := by
          unfold chkL1 at hp
          split at hp
          · rename_i hm
            have hm := memB_iff.1 hm
            rw [rdy_eq ops d hd] at hm
            unfold Region.ready at hm
            exact List.mem_range.1 (List.mem_filter.1 hm).1
          · cases hp
        have hp' : chk1 ops (listedOf ops.size d) i k = true := by
          unfold chkL1 at hp
          unfold chk1
          rw [← rdy_eq ops d hd]
          split at hp
          · rename_i hm
            split at hp
            · exact freeL_ok hp
            · exact hp
            · rename_i hk0 hk1
              match k, hk0, hk1, hp with
              | 0, hk0, _, _ => exact absurd rfl hk0
              | 1, _, hk1, _ => exact absurd rfl hk1
              | k + 2, _, _, hp => exact hp
          · cases hp
        rw [hp']
        exact chkL_ok r (d := i :: d) (fun x hx => by
          rcases List.mem_cons.1 hx with rfl | hx
          · exact hi
          · exact hd x hx) h
      · cases h
def evDraw (E : Env R) (ops : Array Oper) (ord : List (Nat × Nat)) (σ : List (Nat × Tv R.D)) (m : List (Ent R.D)) (K : List (Nat × Tv R.D) → List (Ent R.D) → Option X) : Option X :=
  match Nat.beq (cnt ord) ops.size with
  | true => match chkL ops ord [] with
    | true => evSeq E ops ord σ m K
    | false => none
  | false => none
theorem evGuard_ref {ops : Array Oper} {o : Oper} {σ : List (Nat × Tv R.D)} {K : Bool → List (Nat × Tv R.D) → Option X} {x : X} (h : evGuard ops o.guard σ K = some x) :
    ∃ t σ1, K t σ1 = some x ∧ Refs R σ σ1 ∧ ∃ σg : List (Nat × Tv R.D), (∀ k u, Sg.find σg k = some u → k ∈ o.looksAt ops ∧ Ref R σ σg k u) ∧ ∀ (ρ : Ow) (w : World) (a : Act), Sat R ρ w n σg a → Region.wanted o (yielded ops a.tmps) = t := by
  unfold evGuard at h
  split at h
  · rename_i hg
    exact ⟨_, _, h, Refs.refl σ, [], fun k u hk => by simp [Sg.find] at hk, fun ρ w a hs => by simp [Region.wanted, hg]⟩
  · rename_i j want hg
    split at h
    · rename_i oj hj
      split at h
      · rename_i d hd
        have hlook : d ∈ o.looksAt ops := by
          unfold Oper.looksAt
          simp [hg, hj, hd]
        split at h
        · rename_i hf
          refine ⟨_, _, h, Refs.refl σ, [(d, .un)], fun k u hk => ?_, fun ρ w a hs => ?_⟩
          · simp only [Sg.find] at hk
            split at hk
            · rename_i he
              have := Nat.eq_of_beq_eq_true he
              subst this
              cases hk
              exact ⟨hlook, fun _ => ⟨_, hf, Imp.rfl⟩⟩
            · cases hk
          · obtain ⟨u, hu, hi⟩ := hs.at_ d .un (by simp [Sg.find])
            have hi : u = undef := hi
            subst hi
            simp [Region.wanted, hg, yielded, hj, hd, hu, undef]
        · rename_i v _ hf
          have h0 := h
          obtain ⟨t, h, hb⟩ := brT_ok h
          refine ⟨_, _, h, fun k u hk => ?_, [(d, v)], fun k u hk => ?_, fun ρ w a hs => ?_⟩
          · simp only [Sg.find] at hk
            split at hk
            · rename_i he
              have := Nat.eq_of_beq_eq_true he
              subst this
              cases hk
              exact ⟨v, hf, .inr ⟨⟨_root_.rfl, brT_free h0⟩, fun ρ w u hu => by rw [hb ρ w u hu]; exact Is.v _ _root_.rfl⟩⟩
            · exact ⟨u, hk, Imp.rfl⟩
          · simp only [Sg.find] at hk
            split at hk
            · rename_i he
              have := Nat.eq_of_beq_eq_true he
              subst this
              cases hk
              exact ⟨hlook, fun _ => ⟨_, hf, Imp.rfl⟩⟩
            · cases hk
          · obtain ⟨u, hu, hi⟩ := hs.at_ d v (by simp [Sg.find])
            have := hb ρ w u hi
            subst this
            simp only [Region.wanted, hg, yielded, hj, hd, hu, Option.bind_some]
            cases t <;> cases want <;> rfl
        · exact none_some h
      · exact none_some h
    · exact none_some h
theorem putS_eq {dst : Option Tmp} {v : Tv R.D} {σ : List (Nat × Tv R.D)} {K : List (Nat × Tv R.D) → Option X} {x : X} (h : putS n dst v σ K = some x) : K (putσ dst v σ) = some x ∧ ∀ d, dst = some d → d < n := by
  unfold putS at h
  split at h
  · exact ⟨h, fun d hd => by cases hd⟩
  · rename_i d
    split at h
    · rename_i hlt
      exact ⟨h, fun d' hd => by cases hd; rw [← Nat.blt_eq]; exact hlt⟩
    · exact none_some h
theorem restr_ref {σ0 σ1 : List (Nat × Tv R.D)} (h : Refs R σ0 σ1) {o : Oper} : ∀ k u, Sg.find (restr σ1 (opTmps o)) k = some u → k ∈ o.looksAt ops ∧ Ref R σ0 (restr σ1 (opTmps o)) k u := fun k u hk => by
  obtain ⟨h1, h2⟩ := restr_find hk
  exact ⟨opTmps_looks h1, fun _ => h k u h2⟩
theorem entsH_app {D : Nat → Type} : ∀ (a b : List (Ent D)), entsH (a ++ b) = entsH a ++ entsH b
  | [], b => rfl
  | e :: a, b => by simp [entsH, entsH_app a b]
theorem pmS_same {f : Nat → Nat} : ∀ {σ : List (Nat × Tv R.D)}, (∀ q ∈ sgH σ, f q = q) → pmS f σ = σ
  | [], _ => rfl
  | (k, v) :: σ, h => by
    have h1 := pmS_same (f := f) (σ := σ) fun q hq => h q (by simp only [sgH, List.mem_append]; exact .inr hq)
    have h2 : renTv f v = v := ren_tv_same fun q hq => h q (by simp only [sgH, List.mem_append]; exact .inl hq)
    simp only [pmS, List.map_cons] at h1 ⊢
    rw [h2, h1]
theorem evSeq_pair {E : Env R} (hE : EnvOk P E) {ops : Array Oper} {i k c B : Nat} {listed : Array Bool} {σ : List (Nat × Tv R.D)} {m : List (Ent R.D)} {K1 : List (Nat × Tv R.D) → List (Ent R.D) → Option X} {K : List (Nat × Tv R.D) → List (Ent R.D) → Option X} {x : X} (hB : B ≤ m.length) (hcl : Closed ops listed)
    {oi oj : Oper} (hoi : ops[i]? = some oi) (hoj : ops[k]? = some oj) (hc : chkP ops listed i k = true)
    (hnext : ∀ {σ2 : List (Nat × Tv R.D)} {m2 : List (Ent R.D)}, B ≤ m2.length → Closed ops ((listed.setIfInBounds i true).setIfInBounds k true) → K1 σ2 m2 = some x → ∃ σ' m', K σ' m' = some x ∧ ∀ σ0, Refs R σ0 σ2 → AGood R P E.n ops (QFp R B σ' m') c ((listed.setIfInBounds i true).setIfInBounds k true) σ0 m2)
    (h : (evPair E oi oj σ m fun v v' m2 => putS E.n oi.dst v σ fun σ1 => putS E.n oj.dst v' σ1 fun σ2 => K1 σ2 m2) = some x) :
    ∃ σ' m', K σ' m' = some x ∧ ∀ σ0, Refs R σ0 σ → AGood R P E.n ops (QFp R B σ' m') (c + 2) listed σ0 m := by
  unfold chkP at hc
  rw [hoi, hoj] at hc
  dsimp only at hc
  split at hc
  case h_2 => cases hc
  rename_i di hdi
  split at hc
  case h_2 => cases hc
  rename_i dj hdj
  simp only [Bool.and_eq_true, Bool.not_eq_true'] at hc
  obtain ⟨⟨⟨⟨⟨⟨⟨⟨htwo, honej⟩, honei⟩, hgi⟩, hgj⟩, hdd⟩, hlj⟩, hli⟩, hij⟩ := hc
  have hij : i ≠ k := fun e => by rw [e] at hij; simp at hij
  have hdd : di ≠ dj := fun e => by rw [e] at hdd; simp at hdd
  have hgi : oi.guard = none := by cases hg : oi.guard <;> rw [hg] at hgi <;> first | rfl | cases hgi
  have hgj : oj.guard = none := by cases hg : oj.guard <;> rw [hg] at hgj <;> first | rfl | cases hgj
  have hlj : di ∉ oj.looksAt ops := fun hm => by rw [memB_iff.2 hm] at hlj; cases hlj
  have hli : dj ∉ oi.looksAt ops := fun hm => by rw [memB_iff.2 hm] at hli; cases hli
  have one : ∀ {a : Nat} {l : List Nat}, oneB a l = true → l = [a] := by
    intro a l h1
    unfold oneB at h1
    split at h1
    · rw [Nat.eq_of_beq_eq_true h1]
    · cases h1
  have honej := one honej
  have honei := one honei
  have hready : ∀ x, x ∈ Region.ready .any ops listed ↔ x = i ∨ x = k := by
    generalize Region.ready .any ops listed = l at htwo
    unfold twoB at htwo
    split at htwo
    · rename_i a b
      simp only [Bool.or_eq_true, Bool.and_eq_true] at htwo
      intro x
      rcases htwo with ⟨h1, h2⟩ | ⟨h1, h2⟩ <;> rw [Nat.eq_of_beq_eq_true h1, Nat.eq_of_beq_eq_true h2] <;> simp [or_comm]
    · cases htwo
  have hri : i ∈ Region.ready .any ops listed := (hready i).2 (.inl rfl)
  have hrk : k ∈ Region.ready .any ops (listed.setIfInBounds i true) := by rw [honej]; simp
  unfold evPair at h
  split at h
  case h_2 => exact none_some h
  rename_i hs0
  have hs0 := ltB_ok hs0
  split at h
  case h_2 => exact none_some h
  rename_i hm0
  have hm0 := ltB_ok hm0
  obtain ⟨vi, mi, h, hopi⟩ := evGrowC_ok (n := E.n) hE oi h
  split at h
  case h_2 => exact none_some h
  rename_i hvi
  have hvi := ltB_ok hvi
  split at h
  case h_2 => exact none_some h
  rename_i hm1
  have hm1 := ltB_ok hm1
  obtain ⟨vj, mj, h, hopj⟩ := evGrowC_ok (n := E.n) hE oj h
  split at h
  case h_2 => exact none_some h
  rename_i hvj
  have hvj := ltB_ok hvj
  split at h
  case h_2 => exact none_some h
  rename_i hm2
  have hm2 := ltB_ok hm2
  obtain ⟨h, hlti⟩ := putS_eq h
  obtain ⟨h, hltj⟩ := putS_eq h
  obtain ⟨σ', m', hK, hgood⟩ := hnext (by simp; omega) ((hcl.set hri).set hrk) h
  refine ⟨σ', m', hK, fun σ0 hr0 => ?_⟩
  have hQ : ∀ s s' mm, Refs R s s' → QFp R B σ' m' s' mm → QFp R B σ' m' s mm := fun s s' mm h1 h2 => QFp.refs h1 h2
  have wnone : ∀ {o : Oper}, o.guard = none → ∃ σg : List (Nat × Tv R.D), (∀ k u, Sg.find σg k = some u → k ∈ o.looksAt ops ∧ Ref R σ0 σg k u) ∧ ∀ (ρ : Ow) (w : World) (a : Act), Sat R ρ w E.n σg a → Region.wanted o (yielded ops a.tmps) = true := fun hg =>
    ⟨[], fun k u hk => by simp [Sg.find] at hk, fun ρ w a _ => by simp [Region.wanted, hg]⟩
  have doi : ∀ m0 : List (Ent R.D), Does R P E.n ops oi σ0 m0 (renTv (back [] m0.length) vi) (m0 ++ mi.map (renEnt (back [] m0.length))) := fun m0 => ⟨true, wnone hgi, .inl ⟨rfl, _, restr_ref hr0, hopi m0⟩⟩
  have doj : ∀ m0 : List (Ent R.D), Does R P E.n ops oj σ0 m0 (renTv (back [] m0.length) vj) (m0 ++ mj.map (renEnt (back [] m0.length))) := fun m0 => ⟨true, wnone hgj, .inl ⟨rfl, _, restr_ref hr0, hopj m0⟩⟩
  have skipi : ∀ {v : Tv R.D}, ∀ q ∈ oj.looksAt ops, ∀ u, Ref R (putσ oi.dst v σ0) σ0 q u := fun {v} q hq u hu => ⟨u, by
    rw [find_put_ne (fun d hd' hqd => by rw [hdi, Option.some.injEq] at hd'; subst hd'; exact hlj (hqd ▸ hq))]; exact hu, Imp.rfl⟩
  have skipj : ∀ {v : Tv R.D}, ∀ q ∈ oi.looksAt ops, ∀ u, Ref R (putσ oj.dst v σ0) σ0 q u := fun {v} q hq u hu => ⟨u, by
    rw [find_put_ne (fun d hd' hqd => by rw [hdj, Option.some.injEq] at hd'; subst hd'; exact hli (hqd ▸ hq))]; exact hu, Imp.rfl⟩
  have hne : Region.ready .any ops listed ≠ [] := fun e => by rw [e] at hri; cases hri
  refine ⟨fun h0 => absurd h0 hne, fun x hx => ?_⟩
  rcases (hready x).1 hx with rfl | rfl
  · refine ⟨oi, _, _, hoi, hlti, doi m, .inl ⟨_, rfl⟩, ⟨fun h0 => (by rw [honej] at h0; cases h0), fun y hy => ?_⟩⟩
    rw [honej, List.mem_singleton] at hy
    subst hy
    exact ⟨oj, _, _, hoj, hltj, (doj _).congr skipi, .inl ⟨_, rfl⟩, hgood _ (putσ_refs (putσ_refs hr0 _ _) _ _)⟩
  · refine ⟨oj, _, _, hoj, hltj, doj m, .inl ⟨_, rfl⟩, ⟨fun h0 => (by rw [honei] at h0; cases h0), fun y hy => ?_⟩⟩
    rw [honei, List.mem_singleton] at hy
    subst hy
    refine ⟨oi, _, _, hoi, hlti, (doi _).congr skipj, .inl ⟨_, rfl⟩, ?_⟩
    rw [Array.setIfInBounds_comm _ _ (Ne.symm hij)]
    have hi' : ∀ q ∈ tvH vi, q < mi.length := fun q hq => by
      have := hvi (m.length + q) (by rw [tvH_ren, List.mem_map]; exact ⟨q, hq, back_nil _ _⟩)
      simp at this
      omega
    have hj' : ∀ q ∈ tvH vj, q < mj.length := fun q hq => by
      have := hvj ((m ++ mi.map (renEnt (back [] m.length))).length + q) (by rw [tvH_ren, List.mem_map]; exact ⟨q, hq, back_nil _ _⟩)
      simp at this
      omega
    have hei : ∀ q ∈ entsH mi, q < mi.length := fun q hq => by
      have := hm1 (m.length + q) (by rw [entsH_app, List.mem_append, entsH_ren, List.mem_map]; exact .inr ⟨q, hq, back_nil _ _⟩)
      simp at this
      omega
    have hej : ∀ q ∈ entsH mj, q < mj.length := fun q hq => by
      have := hm2 ((m ++ mi.map (renEnt (back [] m.length))).length + q) (by rw [entsH_app, List.mem_append, entsH_ren, List.mem_map]; exact .inr ⟨q, hq, back_nil _ _⟩)
      simp at this
      omega
    have hpm := swp_pm m.length mi.length mj.length
    have G := AGood.pm (hpm.up hB (Nat.le_refl _)) (QF := QFp R B σ' m') (fun s mm hl hq => QFp.pm (hpm.up hB (Nat.le_refl _)) hl hq) c (by simp; omega) (hgood _ (Refs.refl _))
    have hmem := pair_mem hm0 hei hej
    have hlen : (m ++ mi.map (renEnt (back [] m.length))).length = m.length + mi.length := by simp
    have hlen' : (m ++ mj.map (renEnt (back [] m.length))).length = m.length + mj.length := by simp
    rw [hlen] at G
    rw [hmem, pmS_put, pmS_put] at G
    rw [hlen']
    refine AGood.congr hQ c ?_ G
    have e1 : renTv (swp m.length mi.length mj.length) (renTv (back [] m.length) vi) = renTv (back [] (m.length + mj.length)) vi := ren_tv_c fun q hq => by
      have := hi' q hq
      rw [back_nil, back_nil]
      unfold swp; (repeat' split) <;> omega
    have e2 : renTv (swp m.length mi.length mj.length) (renTv (back [] (m.length + mi.length)) vj) = renTv (back [] m.length) vj := ren_tv_c fun q hq => by
      have := hj' q hq
      rw [back_nil, back_nil]
      unfold swp; (repeat' split) <;> omega
    have e3 : pmS (swp m.length mi.length mj.length) σ = σ := pmS_same fun q hq => by
      have := hs0 q hq
      unfold swp; split <;> omega
    rw [e1, e2, e3]
    refine (put_swap (fun x hx hx' => ?_)).trans (putσ_refs (putσ_refs hr0 _ _) _ _)
    rw [hdi, Option.some.injEq] at hx
    rw [hdj, Option.some.injEq] at hx'
    exact hdd (hx.trans hx'.symm)
theorem evSeq_pairC {E : Env R} (hE : EnvOk P E) {ops : Array Oper} {i k c B : Nat} {listed : Array Bool} {σ : List (Nat × Tv R.D)} {m : List (Ent R.D)} {K1 : List (Nat × Tv R.D) → List (Ent R.D) → Option X} {K : List (Nat × Tv R.D) → List (Ent R.D) → Option X} {x : X} (hB : B ≤ m.length) (hcl : Closed ops listed)
    {oi oj : Oper} (hoi : ops[i]? = some oi) (hoj : ops[k]? = some oj) (hc : chkP ops listed i k = true)
    (hnext : ∀ {σ2 : List (Nat × Tv R.D)} {m2 : List (Ent R.D)}, B ≤ m2.length → Closed ops ((listed.setIfInBounds i true).setIfInBounds k true) → K1 σ2 m2 = some x → ∃ σ' m', K σ' m' = some x ∧ ∀ σ0, Refs R σ0 σ2 → AGood R P E.n ops (QFp R B σ' m') c ((listed.setIfInBounds i true).setIfInBounds k true) σ0 m2)
    (h : (evPairC E ops k oi oj σ m fun v v' m2 => putS E.n oi.dst v σ fun σ1 => putS E.n oj.dst v' σ1 fun σ2 => K1 σ2 m2) = some x) :
    ∃ σ' m', K σ' m' = some x ∧ ∀ σ0, Refs R σ0 σ → AGood R P E.n ops (QFp R B σ' m') (c + 2) listed σ0 m := by
  unfold chkP at hc
  rw [hoi, hoj] at hc
  dsimp only at hc
  split at hc
  case h_2 => cases hc
  rename_i di hdi
  split at hc
  case h_2 => cases hc
  rename_i dj hdj
  simp only [Bool.and_eq_true, Bool.not_eq_true'] at hc
  obtain ⟨⟨⟨⟨⟨⟨⟨⟨htwo, honej⟩, honei⟩, hgi⟩, hgj⟩, hdd⟩, hlj⟩, hli⟩, hij⟩ := hc
  have hij : i ≠ k := fun e => by rw [e] at hij; simp at hij
  have hdd : di ≠ dj := fun e => by rw [e] at hdd; simp at hdd
  have hgi : oi.guard = none := by cases hg : oi.guard <;> rw [hg] at hgi <;> first | rfl | cases hgi
  have hgj : oj.guard = none := by cases hg : oj.guard <;> rw [hg] at hgj <;> first | rfl | cases hgj
  have hlj : di ∉ oj.looksAt ops := fun hm => by rw [memB_iff.2 hm] at hlj; cases hlj
  have hli : dj ∉ oi.looksAt ops := fun hm => by rw [memB_iff.2 hm] at hli; cases hli
  have one : ∀ {a : Nat} {l : List Nat}, oneB a l = true → l = [a] := by
    intro a l h1
    unfold oneB at h1
    split at h1
    · rw [Nat.eq_of_beq_eq_true h1]
    · cases h1
  have honej := one honej
  have honei := one honei
  have hready : ∀ x, x ∈ Region.ready .any ops listed ↔ x = i ∨ x = k := by
    generalize Region.ready .any ops listed = l at htwo
    unfold twoB at htwo
    split at htwo
    · rename_i a b
      simp only [Bool.or_eq_true, Bool.and_eq_true] at htwo
      intro x
      rcases htwo with ⟨h1, h2⟩ | ⟨h1, h2⟩ <;> rw [Nat.eq_of_beq_eq_true h1, Nat.eq_of_beq_eq_true h2] <;> simp [or_comm]
    · cases htwo
  have hri : i ∈ Region.ready .any ops listed := (hready i).2 (.inl rfl)
  have hrk : k ∈ Region.ready .any ops (listed.setIfInBounds i true) := by rw [honej]; simp
  unfold evPairC at h
  split at h
  case h_2 => exact none_some h
  rename_i hs0
  have hs0 := ltB_ok hs0
  split at h
  case h_2 => exact none_some h
  rename_i hm0
  have hm0 := ltB_ok hm0
  obtain ⟨vi, mi, h, hopi⟩ := evGrowC_ok (n := E.n) hE oi h
  split at h
  case h_2 => exact none_some h
  rename_i hvi
  have hvi := ltB_ok hvi
  split at h
  case h_2 => exact none_some h
  rename_i hm1
  have hm1 := ltB_ok hm1
  split at h
  case h_2 => exact none_some h
  rename_i hsj
  have hsj := ltB_ok hsj
  obtain ⟨s, vj, mm, h, hnd, hslt, hopj⟩ := evCallU_ok (n := E.n) hE oj h hsj hm0
  split at h
  case h_2 => exact none_some h
  rename_i hge
  have hge := Nat.le_of_ble_eq_true hge
  split at h
  case h_2 => exact none_some h
  rename_i hvj
  have hvj := ltB_ok hvj
  split at h
  case h_2 => exact none_some h
  rename_i hmm
  have hmm := ltB_ok hmm
  split at h
  case h_2 => exact none_some h
  rename_i haw0
  split at h
  case h_2 => exact none_some h
  rename_i haw1
  obtain ⟨h, hlti⟩ := putS_eq h
  obtain ⟨h, hltj⟩ := putS_eq h
  have hl0 : (mergeM m s (mm.map (renEnt (back s m.length)))).length = m.length + (mm.length - s.length) := by
    rw [mergeM_len _ _ _ (by simpa using hge)]; simp
  have hl1 : (mergeM (m ++ mi.map (renEnt (back [] m.length))) s (mm.map (renEnt (back s (m ++ mi.map (renEnt (back [] m.length))).length)))).length = m.length + mi.length + (mm.length - s.length) := by
    rw [mergeM_len _ _ _ (by simpa using hge)]; simp
  obtain ⟨σ', m', hK, hgood⟩ := hnext (by rw [hl1]; omega) ((hcl.set hri).set hrk) h
  refine ⟨σ', m', hK, fun σ0 hr0 => ?_⟩
  have hQ : ∀ s s' mm, Refs R s s' → QFp R B σ' m' s' mm → QFp R B σ' m' s mm := fun s s' mm h1 h2 => QFp.refs h1 h2
  have wnone : ∀ {o : Oper}, o.guard = none → ∃ σg : List (Nat × Tv R.D), (∀ k u, Sg.find σg k = some u → k ∈ o.looksAt ops ∧ Ref R σ0 σg k u) ∧ ∀ (ρ : Ow) (w : World) (a : Act), Sat R ρ w E.n σg a → Region.wanted o (yielded ops a.tmps) = true := fun hg =>
    ⟨[], fun k u hk => by simp [Sg.find] at hk, fun ρ w a _ => by simp [Region.wanted, hg]⟩
  have doi : ∀ m0 : List (Ent R.D), Does R P E.n ops oi σ0 m0 (renTv (back [] m0.length) vi) (m0 ++ mi.map (renEnt (back [] m0.length))) := fun m0 => ⟨true, wnone hgi, .inl ⟨rfl, _, restr_ref hr0, hopi m0⟩⟩
  have doj : ∀ es : List (Ent R.D), Does R P E.n ops oj σ0 (m ++ es) (renTv (back s (m ++ es).length) vj) (mergeM (m ++ es) s (mm.map (renEnt (back s (m ++ es).length)))) := fun es => ⟨true, wnone hgj, .inl ⟨rfl, _, restr_ref hr0, hopj es⟩⟩
  have doj0 : Does R P E.n ops oj σ0 m (renTv (back s m.length) vj) (mergeM m s (mm.map (renEnt (back s m.length)))) := by
    have := doj []
    rwa [List.append_nil] at this
  have skipi : ∀ {v : Tv R.D}, ∀ q ∈ oj.looksAt ops, ∀ u, Ref R (putσ oi.dst v σ0) σ0 q u := fun {v} q hq u hu => ⟨u, by
    rw [find_put_ne (fun d hd' hqd => by rw [hdi, Option.some.injEq] at hd'; subst hd'; exact hlj (hqd ▸ hq))]; exact hu, Imp.rfl⟩
  have skipj : ∀ {v : Tv R.D}, ∀ q ∈ oi.looksAt ops, ∀ u, Ref R (putσ oj.dst v σ0) σ0 q u := fun {v} q hq u hu => ⟨u, by
    rw [find_put_ne (fun d hd' hqd => by rw [hdj, Option.some.injEq] at hd'; subst hd'; exact hli (hqd ▸ hq))]; exact hu, Imp.rfl⟩
  have hne : Region.ready .any ops listed ≠ [] := fun e => by rw [e] at hri; cases hri
  refine ⟨fun h0 => absurd h0 hne, fun x hx => ?_⟩
  rcases (hready x).1 hx with rfl | rfl
  · refine ⟨oi, _, _, hoi, hlti, doi m, .inl ⟨_, rfl⟩, ⟨fun h0 => (by rw [honej] at h0; cases h0), fun y hy => ?_⟩⟩
    rw [honej, List.mem_singleton] at hy
    subst hy
    exact ⟨oj, _, _, hoj, hltj, (doj _).congr skipi, .inr ⟨by rw [hl1]; simp, fun i' hl' hi' => awayB_ok (n := m.length) (by simp) haw1 (fun q hq hn => mergeM_far _ _ _ q hn (by simp; omega)) (putσ_refs hr0 _ _) hrk i' hl' hi'⟩, hgood _ (putσ_refs (putσ_refs hr0 _ _) _ _)⟩
  · refine ⟨oj, _, _, hoj, hltj, doj0, .inr ⟨by rw [hl0]; omega, fun i' hl' hi' => awayB_ok (n := m.length) (Nat.le_refl _) haw0 (fun q hq hn => mergeM_far _ _ _ q hn hq) hr0 hx i' hl' hi'⟩, ⟨fun h0 => (by rw [honei] at h0; cases h0), fun y hy => ?_⟩⟩
    rw [honei, List.mem_singleton] at hy
    subst hy
    refine ⟨oi, _, _, hoi, hlti, (doi _).congr skipj, .inl ⟨_, rfl⟩, ?_⟩
    rw [Array.setIfInBounds_comm _ _ (Ne.symm hij)]
    have hi' : ∀ q ∈ tvH vi, q < mi.length := fun q hq => by
      have := hvi (m.length + q) (by rw [tvH_ren, List.mem_map]; exact ⟨q, hq, back_nil _ _⟩)
      simp at this
      omega
    have hei : ∀ q ∈ entsH mi, q < mi.length := fun q hq => by
      have := hm1 (m.length + q) (by rw [entsH_app, List.mem_append, entsH_ren, List.mem_map]; exact .inr ⟨q, hq, back_nil _ _⟩)
      simp at this
      omega
    have hpm := swp_pm m.length mi.length (mm.length - s.length)
    have G := AGood.pm (hpm.up hB (Nat.le_refl _)) (QF := QFp R B σ' m') (fun s mm hl hq => QFp.pm (hpm.up hB (Nat.le_refl _)) hl hq) c (by rw [hl1]; omega) (hgood _ (Refs.refl _))
    have hmem := pair_memC hslt hnd hge hm0 hei hmm
    have hlen : (m ++ mi.map (renEnt (back [] m.length))).length = m.length + mi.length := by simp
    rw [hlen] at G
    rw [hmem, pmS_put, pmS_put] at G
    rw [hl0]
    refine AGood.congr hQ c ?_ G
    have e1 : renTv (swp m.length mi.length (mm.length - s.length)) (renTv (back [] m.length) vi) = renTv (back [] (m.length + (mm.length - s.length))) vi := ren_tv_c fun q hq => by
      have := hi' q hq
      rw [back_nil, back_nil]
      unfold swp; (repeat' split) <;> omega
    have e2 : renTv (swp m.length mi.length (mm.length - s.length)) (renTv (back s (m.length + mi.length)) vj) = renTv (back s m.length) vj := ren_tv_c fun q hq => swp_back hslt (by
      have := hvj q hq
      omega)
    have e3 : pmS (swp m.length mi.length (mm.length - s.length)) σ = σ := pmS_same fun q hq => by
      have := hs0 q hq
      unfold swp; split <;> omega
    rw [e1, e2, e3]
    refine (put_swap (fun x hx hx' => ?_)).trans (putσ_refs (putσ_refs hr0 _ _) _ _)
    rw [hdi, Option.some.injEq] at hx
    rw [hdj, Option.some.injEq] at hx'
    exact hdd (hx.trans hx'.symm)
/-! ### One that makes something new, and comes later -/
def upK (M k h : Nat) : Nat := if h < M then h else h + k
theorem ren_tv_eq {f g : Nat → Nat} {v : Tv R.D} (h : ∀ q ∈ tvH v, f q = g q) : renTv f v = renTv g v := by
  have h0 : renTv (fun q => q) v = v := ren_tv_same fun _ _ => rfl
  have := ren_tv_c (f := f) (s := fun q => q) (s' := g) (l := v) h
  rwa [h0] at this
theorem ren_ent_eq {f g : Nat → Nat} {v : Ent R.D} (h : ∀ q ∈ entH v, f q = g q) : renEnt f v = renEnt g v := by
  have h0 : renEnt (fun q => q) v = v := ren_ent_same fun _ _ => rfl
  have := ren_ent_c (f := f) (s := fun q => q) (s' := g) (l := v) h
  rwa [h0] at this
theorem pair_memU {m mB mj : List (Ent R.D)} (hm : ∀ q ∈ entsH m, q < m.length) (hB : ∀ q ∈ entsH mB, q < m.length + mB.length) (hj : ∀ q ∈ entsH mj, q < mj.length) :
    pmM (swp m.length mB.length mj.length) (swp m.length mj.length mB.length) (m ++ mB ++ mj.map (renEnt (back [] (m.length + mB.length)))) = m ++ mj.map (renEnt (back [] m.length)) ++ mB.map (renEnt (upK m.length mj.length)) := by
  apply List.ext_getElem?
  intro i
  rw [pmM_get (swp_pm _ _ _) (by simp; omega)]
  generalize hM : m.length = M at *
  generalize ha : mB.length = a at *
  generalize hb : mj.length = b at *
  by_cases h1 : i < M
  · have e : swp M b a i = i := by unfold swp; split <;> omega
    rw [e, List.append_assoc, List.append_assoc, List.getElem?_append_left (by omega), List.getElem?_append_left (by omega)]
    cases hq : m[i]? with
    | none => rfl
    | some q =>
      simp only [Option.map_some, Option.some.injEq]
      exact ren_ent_same fun h hh => by
        have := hm h (mem_entsH (List.mem_of_getElem? hq) hh)
        unfold swp; split <;> omega
  · by_cases h2 : i < M + b
    · have e : swp M b a i = i + a := by unfold swp; (repeat' split) <;> omega
      rw [e, List.getElem?_append_right (by simp; omega), List.append_assoc, List.getElem?_append_right (by omega), List.getElem?_append_left (by simp; omega)]
      have e2 : i + a - (m ++ mB).length = i - m.length := by simp; omega
      rw [e2, List.getElem?_map, List.getElem?_map, Option.map_map]
      cases hq : mj[i - m.length]? with
      | none => rfl
      | some q =>
        simp only [Option.map_some, Option.some.injEq, Function.comp]
        exact ren_ent_c fun h hh => by
          have := hj h (mem_entsH (List.mem_of_getElem? hq) hh)
          rw [back_nil, back_nil]
          unfold swp; (repeat' split) <;> omega
    · by_cases h3 : i < M + b + a
      · have e : swp M b a i = i - b := by unfold swp; (repeat' split) <;> omega
        rw [e, List.append_assoc, List.getElem?_append_right (by omega), List.getElem?_append_left (by omega), List.getElem?_append_right (by simp; omega)]
        have e2 : i - (m ++ mj.map (renEnt (back [] M))).length = i - b - m.length := by simp; omega
        rw [e2, List.getElem?_map]
        cases hq : mB[i - b - m.length]? with
        | none => rfl
        | some q =>
          simp only [Option.map_some, Option.some.injEq]
          exact ren_ent_eq fun h hh => by
            have := hB h (mem_entsH (List.mem_of_getElem? hq) hh)
            unfold swp upK; (repeat' split) <;> omega
      · have e : swp M b a i = i := by unfold swp; (repeat' split) <;> omega
        rw [e, List.getElem?_eq_none (by simp; omega), List.getElem?_eq_none (by simp; omega)]
        rfl
/-- What makes the same whatever memory. -/
def MkAt (R : Ro) (P : Program) (n : Nat) (ops : Array Oper) (oj : Oper) (vj : Tv R.D) (mj : List (Ent R.D)) (σ : List (Nat × Tv R.D)) : Prop :=
  ∀ m0 : List (Ent R.D), Does R P n ops oj σ m0 (renTv (back [] m0.length) vj) (m0 ++ mj.map (renEnt (back [] m0.length)))
theorem MkAt.congr {oj : Oper} {vj : Tv R.D} {mj : List (Ent R.D)} {σ σ1 : List (Nat × Tv R.D)} (h : MkAt R P n ops oj vj mj σ) (hs : ∀ k ∈ oj.looksAt ops, ∀ u, Ref R σ1 σ k u) : MkAt R P n ops oj vj mj σ1 := fun m0 => (h m0).congr hs
inductive BGood (R : Ro) (P : Program) (n : Nat) (ops : Array Oper) (QF : List (Nat × Tv R.D) → List (Ent R.D) → Prop) (j : Nat) (oj : Oper) (vj : Tv R.D) (mj : List (Ent R.D)) : Nat → Array Bool → List (Nat × Tv R.D) → List (Ent R.D) → Prop
  | base {g : Nat} {listed : Array Bool} {σ : List (Nat × Tv R.D)} {m : List (Ent R.D)} (hr : Region.ready .any ops listed = [j]) (hmk : MkAt R P n ops oj vj mj σ)
      (hg : AGood R P n ops QF g (listed.setIfInBounds j true) (putσ oj.dst (renTv (back [] m.length) vj) σ) (m ++ mj.map (renEnt (back [] m.length)))) : BGood R P n ops QF j oj vj mj (g + 1) listed σ m
  | step {g : Nat} {listed : Array Bool} {σ : List (Nat × Tv R.D)} {m : List (Ent R.D)} (i : Nat) (oi : Oper) (vi : Tv R.D) (mB : List (Ent R.D)) (hready : ∀ x, x ∈ Region.ready .any ops listed ↔ x = i ∨ x = j) (hij : i ≠ j)
      (hone : Region.ready .any ops (listed.setIfInBounds j true) = [i]) (hoi : ops[i]? = some oi) (hdi : ∀ d, oi.dst = some d → d < n) (hdd : ∀ d, oi.dst = some d → oj.dst ≠ some d) (hli : ∀ d, oj.dst = some d → d ∉ oi.looksAt ops)
      (hmk : MkAt R P n ops oj vj mj σ) (hs : ∀ q ∈ sgH σ, q < m.length) (hm : ∀ q ∈ entsH m, q < m.length) (hvi : ∀ q ∈ tvH vi, q < m.length + mB.length) (hmB : ∀ q ∈ entsH mB, q < m.length + mB.length)
      (hdo : ∀ es : List (Ent R.D), Does R P n ops oi σ (m ++ es) (renTv (upK m.length es.length) vi) (m ++ es ++ mB.map (renEnt (upK m.length es.length))))
      (hnext : BGood R P n ops QF j oj vj mj g (listed.setIfInBounds i true) (putσ oi.dst vi σ) (m ++ mB)) : BGood R P n ops QF j oj vj mj (g + 1) listed σ m
theorem BGood.mk {QF : List (Nat × Tv R.D) → List (Ent R.D) → Prop} {j : Nat} {oj : Oper} {vj : Tv R.D} {mj : List (Ent R.D)} {g : Nat} {listed : Array Bool} {σ : List (Nat × Tv R.D)} {m : List (Ent R.D)} (h : BGood R P n ops QF j oj vj mj g listed σ m) : MkAt R P n ops oj vj mj σ := by
  cases h <;> assumption
theorem BGood.late {B : Nat} {σ' : List (Nat × Tv R.D)} {m' : List (Ent R.D)} {j : Nat} {oj : Oper} {vj : Tv R.D} {mj : List (Ent R.D)} (hvj : ∀ q ∈ tvH vj, q < mj.length) (hmj : ∀ q ∈ entsH mj, q < mj.length) {g : Nat} {listed : Array Bool} {σ : List (Nat × Tv R.D)} {m : List (Ent R.D)}
    (h : BGood R P n ops (QFp R B σ' m') j oj vj mj g listed σ m) : B ≤ m.length → AGood R P n ops (QFp R B σ' m') (g - 1) (listed.setIfInBounds j true) (putσ oj.dst (renTv (back [] m.length) vj) σ) (m ++ mj.map (renEnt (back [] m.length))) := by
  have hQ : ∀ s s' mm, Refs R s s' → QFp R B σ' m' s' mm → QFp R B σ' m' s mm := fun s s' mm h1 h2 => QFp.refs h1 h2
  induction h with
  | base hr hmk hg => intro _; exact hg
  | @step g listed σ m i oi vi mB hready hij hone hoi hdi hdd hli hmk hs hm hvi hmB hdo hnext ih =>
    intro hB
    have ih := ih (by simp; omega)
    cases g with
    | zero => cases hnext
    | succ g =>
    show AGood R P n ops (QFp R B σ' m') (g + 1) _ _ _
    refine ⟨fun h0 => (by rw [hone] at h0; cases h0), fun x hx => ?_⟩
    rw [hone, List.mem_singleton] at hx
    subst hx
    have hskip : ∀ {v : Tv R.D}, ∀ q ∈ oi.looksAt ops, ∀ u, Ref R (putσ oj.dst v σ) σ q u := fun {v} q hq u hu => ⟨u, by
      rw [find_put_ne (fun d hd' hqd => hli d hd' (hqd ▸ hq))]; exact hu, Imp.rfl⟩
    have hd1 := (hdo (mj.map (renEnt (back [] m.length)))).congr (hskip (v := renTv (back [] m.length) vj))
    refine ⟨oi, _, _, hoi, hdi, hd1, .inl ⟨_, rfl⟩, ?_⟩
    rw [Array.setIfInBounds_comm _ _ (Ne.symm hij)]
    have hpm := swp_pm m.length mB.length mj.length
    have G := AGood.pm (hpm.up hB (Nat.le_refl _)) (QF := QFp R B σ' m') (fun s mm hl hq => QFp.pm (hpm.up hB (Nat.le_refl _)) hl hq) g (by simp; omega) ih
    have hlen : (m ++ mB).length = m.length + mB.length := by simp
    have hlj : (mj.map (renEnt (back [] m.length))).length = mj.length := by simp
    rw [hlen, pair_memU hm hmB hmj, pmS_put, pmS_put] at G
    rw [hlj]
    refine AGood.congr hQ g ?_ G
    have e1 : renTv (swp m.length mB.length mj.length) (renTv (back [] (m.length + mB.length)) vj) = renTv (back [] m.length) vj := ren_tv_c fun q hq => by
      have := hvj q hq
      rw [back_nil, back_nil]
      unfold swp; (repeat' split) <;> omega
    have e2 : renTv (swp m.length mB.length mj.length) vi = renTv (upK m.length mj.length) vi := ren_tv_eq fun q hq => by
      have := hvi q hq
      unfold swp upK; (repeat' split) <;> omega
    have e3 : pmS (swp m.length mB.length mj.length) σ = σ := pmS_same fun q hq => by
      have := hs q hq
      unfold swp; split <;> omega
    rw [e1, e2, e3]
    exact put_swap fun x hx => hdd x hx
theorem BGood.good {B : Nat} {σ' : List (Nat × Tv R.D)} {m' : List (Ent R.D)} {j : Nat} {oj : Oper} {vj : Tv R.D} {mj : List (Ent R.D)} (hoj : ops[j]? = some oj) (hdj : ∀ d, oj.dst = some d → d < n) (hvj : ∀ q ∈ tvH vj, q < mj.length) (hmj : ∀ q ∈ entsH mj, q < mj.length) {g : Nat} {listed : Array Bool} {σ : List (Nat × Tv R.D)} {m : List (Ent R.D)}
    (h : BGood R P n ops (QFp R B σ' m') j oj vj mj g listed σ m) : B ≤ m.length → AGood R P n ops (QFp R B σ' m') g listed σ m := by
  induction h with
  | base hr hmk hg =>
    intro _
    refine ⟨fun h0 => (by rw [hr] at h0; cases h0), fun x hx => ?_⟩
    rw [hr, List.mem_singleton] at hx
    subst hx
    exact ⟨oj, _, _, hoj, hdj, hmk _, .inl ⟨_, rfl⟩, hg⟩
  | @step g listed σ m i oi vi mB hready hij hone hoi hdi hdd hli hmk hs hm hvi hmB hdo hnext ih =>
    intro hB
    have hl := BGood.late hvj hmj (BGood.step i oi vi mB hready hij hone hoi hdi hdd hli hmk hs hm hvi hmB hdo hnext) hB
    refine ⟨fun h0 => (by have := (hready i).2 (.inl rfl); rw [h0] at this; cases this), fun x hx => ?_⟩
    rcases (hready x).1 hx with rfl | rfl
    · have hd := hdo []
      have e1 : renTv (upK m.length ([] : List (Ent R.D)).length) vi = vi := ren_tv_same fun q _ => by unfold upK; simp
      have e2 : mB.map (renEnt (upK m.length ([] : List (Ent R.D)).length)) = mB := by
        conv => rhs; rw [← List.map_id mB]
        exact List.map_congr_left fun a _ => by
          rw [ren_ent_same fun q _ => by unfold upK; simp]; rfl
      rw [e1, e2, List.append_nil] at hd
      exact ⟨oi, _, _, hoi, hdi, hd, .inl ⟨mB, rfl⟩, ih (by simp; omega)⟩
    · exact ⟨oj, _, _, hoj, hdj, hmk _, .inl ⟨_, rfl⟩, hl⟩
/-- What the walk says of an order. -/
def SeqA (R : Ro) (P : Program) (E : Env R) (ops : Array Oper) (X : Type) (ord : List (Nat × Nat)) : Prop :=
  ∀ {listed : Array Bool} {σ : List (Nat × Tv R.D)} {m : List (Ent R.D)} {B : Nat} {K : List (Nat × Tv R.D) → List (Ent R.D) → Option X} {x : X}, B ≤ m.length → Closed ops listed → chk ops ord listed = true → evSeq E ops ord σ m K = some x →
    ∃ σ' m', K σ' m' = some x ∧ ∀ σ0, Refs R σ0 σ → AGood R P E.n ops (QFp R B σ' m') (cnt ord) listed σ0 m
def SeqB (R : Ro) (P : Program) (E : Env R) (ops : Array Oper) (X : Type) (ord : List (Nat × Nat)) : Prop :=
  ∀ {listed : Array Bool} {σ : List (Nat × Tv R.D)} {m : List (Ent R.D)} {B : Nat} {K : List (Nat × Tv R.D) → List (Ent R.D) → Option X} {x : X} {j : Nat}, B ≤ m.length → Closed ops listed → chk ops ord listed = true → evSeq E ops ord σ m K = some x → headB j ord = true →
    ∃ σ' m', K σ' m' = some x ∧ ∃ oj vj mj, ops[j]? = some oj ∧ (∀ d, oj.dst = some d → d < E.n) ∧ (∀ q ∈ tvH vj, q < mj.length) ∧ (∀ q ∈ entsH mj, q < mj.length) ∧ BGood R P E.n ops (QFp R B σ' m') j oj vj mj (cnt ord) listed σ m
theorem seqB_cons {E : Env R} (hE : EnvOk P E) {ops : Array Oper} {r : List (Nat × Nat)} (hA : SeqA R P E ops X r) (hBr : SeqB R P E ops X r) (i k : Nat) : SeqB R P E ops X ((i, k) :: r) := by
  intro listed σ m B K x j hB hcl hc h hh
  simp only [headB] at hh
  split at hh
  case h_2 => cases hh
  rename_i hk
  have hj := Nat.eq_of_beq_eq_true hh
  simp only [chk, hk] at hc
  split at hc
  case h_2 => cases hc
  rename_i hct
  simp only [evSeq, hk] at h
  split at h
  case h_2 => cases h
  rename_i o ho
  split at h
  case h_2 => cases h
  rename_i hs0
  have hs0 := ltB_ok hs0
  split at h
  case h_2 => cases h
  rename_i hm0
  have hm0 := ltB_ok hm0
  have one : ∀ {a : Nat} {l : List Nat}, oneB a l = true → l = [a] := by
    intro a l h1
    unfold oneB at h1
    split at h1
    · rw [Nat.eq_of_beq_eq_true h1]
    · cases h1
  have wnone : o.guard = none → ∃ σg : List (Nat × Tv R.D), (∀ k u, Sg.find σg k = some u → k ∈ o.looksAt ops ∧ Ref R σ σg k u) ∧ ∀ (ρ : Ow) (w : World) (a : Act), Sat R ρ w E.n σg a → Region.wanted o (yielded ops a.tmps) = true := fun hg =>
    ⟨[], fun k u hk => by simp [Sg.find] at hk, fun ρ w a _ => by simp [Region.wanted, hg]⟩
  have noneG : ∀ {g : Option (Nat × Bool)}, noneB g = true → g = none := fun {g} hg => by cases g <;> first | rfl | cases hg
  have mkcase : noneB o.guard = true → (evGrowC E (restr σ (opTmps o)) o.op m fun v m' => match ltB m'.length (tvH v) with
            | true => match ltB m'.length (entsH m') with
              | true => putS E.n o.dst v σ fun σ' => evSeq E ops r σ' m' K
              | false => none
            | false => none) = some x → ∃ vi mi, evSeq E ops r (putσ o.dst (renTv (back [] m.length) vi) σ) (m ++ mi.map (renEnt (back [] m.length))) K = some x ∧ (∀ d, o.dst = some d → d < E.n) ∧ MkAt R P E.n ops o vi mi σ ∧ (∀ q ∈ tvH vi, q < mi.length) ∧ (∀ q ∈ entsH mi, q < mi.length) := by
    intro hg h
    obtain ⟨vi, mi, h, hop⟩ := evGrowC_ok (n := E.n) hE o h
    split at h
    case h_2 => cases h
    rename_i h1
    have h1 := ltB_ok h1
    split at h
    case h_2 => cases h
    rename_i h2
    have h2 := ltB_ok h2
    obtain ⟨h, hd⟩ := putS_eq h
    refine ⟨vi, mi, h, hd, fun m0 => ⟨true, wnone (noneG hg), .inl ⟨rfl, _, restr_ref (Refs.refl σ), hop m0⟩⟩, fun q hq => ?_, fun q hq => ?_⟩
    · have := h1 (m.length + q) (by rw [tvH_ren, List.mem_map]; exact ⟨q, hq, back_nil _ _⟩)
      simp at this
      omega
    · have := h2 (m.length + q) (by rw [entsH_app, List.mem_append, entsH_ren, List.mem_map]; exact .inr ⟨q, hq, back_nil _ _⟩)
      simp at this
      omega
  unfold chkT at hct
  split at hct
  · rename_i hk9
    have hjt : j = i := by rw [← hj]; simp only [tgt, hk9]
    subst hjt
    rw [ho] at hct
    simp only [Bool.and_eq_true] at hct
    obtain ⟨h1, hg⟩ := hct
    simp only [hk9, Bool.true_or] at h
    obtain ⟨vi, mi, h, hd, hmk, hv, hmi⟩ := mkcase hg h
    have hr := one h1
    obtain ⟨σ', m', hK, hgood⟩ := hA (B := B) (by simp; omega) (hcl.set (by rw [hr]; simp)) hc h
    refine ⟨σ', m', hK, o, vi, mi, ho, hd, hv, hmi, ?_⟩
    simp only [cnt, hk]
    exact BGood.base hr hmk (hgood _ (Refs.refl _))
  · rename_i hk9
    have hjt : j = jOf k := by rw [← hj]; simp only [tgt, hk9]
    rw [ho] at hct
    dsimp only at hct
    split at hct
    case h_2 => cases hct
    rename_i oj hoj
    split at hct
    case h_2 => cases hct
    rename_i di hdi
    split at hct
    case h_2 => cases hct
    rename_i dj hdj
    simp only [Bool.and_eq_true, Bool.not_eq_true'] at hct
    obtain ⟨⟨⟨⟨⟨⟨⟨⟨htwo, honei⟩, hgi⟩, hgj⟩, hdd⟩, hlj⟩, hli⟩, hij⟩, hhead⟩ := hct
    rw [← hjt] at htwo honei hij hhead hoj
    have hij : i ≠ j := fun e => by rw [e] at hij; simp at hij
    have hdd : di ≠ dj := fun e => by rw [e] at hdd; simp at hdd
    have hlj : di ∉ oj.looksAt ops := fun hm => by rw [memB_iff.2 hm] at hlj; cases hlj
    have hli : dj ∉ o.looksAt ops := fun hm => by rw [memB_iff.2 hm] at hli; cases hli
    have hready : ∀ x, x ∈ Region.ready .any ops listed ↔ x = i ∨ x = j := by
      generalize Region.ready .any ops listed = l at htwo
      unfold twoB at htwo
      split at htwo
      · rename_i a b
        simp only [Bool.or_eq_true, Bool.and_eq_true] at htwo
        intro x
        rcases htwo with ⟨h1, h2⟩ | ⟨h1, h2⟩ <;> rw [Nat.eq_of_beq_eq_true h1, Nat.eq_of_beq_eq_true h2] <;> simp [or_comm]
      · cases htwo
    have hri : i ∈ Region.ready .any ops listed := (hready i).2 (.inl rfl)
    have fin : ∀ {vi : Tv R.D} {mB : List (Ent R.D)}, evSeq E ops r (putσ o.dst vi σ) (m ++ mB) K = some x → (∀ d, o.dst = some d → d < E.n) → (∀ q ∈ tvH vi, q < m.length + mB.length) → (∀ q ∈ entsH mB, q < m.length + mB.length) →
        (∀ es : List (Ent R.D), Does R P E.n ops o σ (m ++ es) (renTv (upK m.length es.length) vi) (m ++ es ++ mB.map (renEnt (upK m.length es.length)))) →
        ∃ σ' m', K σ' m' = some x ∧ ∃ oj vj mj, ops[j]? = some oj ∧ (∀ d, oj.dst = some d → d < E.n) ∧ (∀ q ∈ tvH vj, q < mj.length) ∧ (∀ q ∈ entsH mj, q < mj.length) ∧ BGood R P E.n ops (QFp R B σ' m') j oj vj mj (cnt ((i, k) :: r)) listed σ m := by
      intro vi mB h hd hvi hmB hdo
      obtain ⟨σ', m', hK, oj', vj, mj, hoj', hdj', hvj, hmj, hgood⟩ := hBr (B := B) (by simp; omega) (hcl.set hri) hc h hhead
      rw [hoj, Option.some.injEq] at hoj'
      subst hoj'
      refine ⟨σ', m', hK, oj, vj, mj, hoj, hdj', hvj, hmj, ?_⟩
      simp only [cnt, hk]
      refine BGood.step i o vi mB hready hij (one honei) ho hd (fun d h1 h2 => ?_) (fun d h1 => ?_) (hgood.mk.congr fun q hq u hu => ⟨u, ?_, Imp.rfl⟩) hs0 hm0 hvi hmB hdo hgood
      · rw [hdi, Option.some.injEq] at h1
        rw [hdj, Option.some.injEq] at h2
        exact hdd (h1.trans h2.symm)
      · rw [hdj, Option.some.injEq] at h1
        subst h1
        exact hli
      · rw [find_put_ne (fun d hd' hqd => by rw [hdi, Option.some.injEq] at hd'; subst hd'; exact hlj (hqd ▸ hq))] at hu
        exact hu
    split at h
    · obtain ⟨vi, mi, h, hd, hmk, hv, hmi⟩ := mkcase hgi h
      have hup : ∀ es : List (Ent R.D), ∀ q, upK m.length es.length (back [] m.length q) = back [] (m ++ es).length q := fun es q => by
        rw [back_nil, back_nil]
        unfold upK
        rw [if_neg (by omega)]
        simp; omega
      refine fin h hd (fun q hq => ?_) (fun q hq => ?_) fun es => ?_
      · rw [tvH_ren, List.mem_map] at hq
        obtain ⟨q0, h0, rfl⟩ := hq
        have := hv q0 h0
        rw [back_nil]; simp; omega
      · rw [entsH_ren, List.mem_map] at hq
        obtain ⟨q0, h0, rfl⟩ := hq
        have := hmi q0 h0
        rw [back_nil]; simp; omega
      · have := hmk (m ++ es)
        have e1 : renTv (upK m.length es.length) (renTv (back [] m.length) vi) = renTv (back [] (m ++ es).length) vi := ren_tv_c fun q _ => hup es q
        have e2 : (mi.map (renEnt (back [] m.length))).map (renEnt (upK m.length es.length)) = mi.map (renEnt (back [] (m ++ es).length)) := by
          rw [List.map_map]
          exact List.map_congr_left fun a _ => ren_ent_c fun q _ => hup es q
        rw [e1, e2]
        exact this
    · split at h
      case h_2 => cases h
      rename_i hsg
      have hsg := ltB_ok hsg
      obtain ⟨v, h, hop⟩ := evStill_ok (n := E.n) hE o h
      split at h
      case h_2 => cases h
      rename_i hv
      have hv := ltB_ok hv
      obtain ⟨h, hd⟩ := putS_eq h
      refine fin (mB := []) (by rw [List.append_nil]; exact h) hd (fun q hq => by have := hv q hq; simpa using this) (fun q hq => by simp [entsH] at hq) fun es => ?_
      have e1 : renTv (upK m.length es.length) v = v := ren_tv_same fun q hq => by
        have := hv q hq
        unfold upK; rw [if_pos this]
      rw [e1, List.map_nil, List.append_nil]
      exact ⟨true, wnone (noneG hgi), .inl ⟨rfl, _, restr_ref (Refs.refl σ), hop.more hsg hm0 es⟩⟩
theorem seqA_cons {E : Env R} (hE : EnvOk P E) {ops : Array Oper} {r : List (Nat × Nat)} (hA : SeqA R P E ops X r) (hBr : SeqB R P E ops X r) (i k : Nat) : SeqA R P E ops X ((i, k) :: r) := by
    intro listed σ m B K x hB hcl hc h
    by_cases hk9 : Nat.ble 1999 k = true
    · obtain ⟨σ', m', hK, oj, vj, mj, hoj, hdj, hvj, hmj, hg⟩ := seqB_cons hE hA hBr i k (B := B) hB hcl hc h (j := tgt i k) (by simp only [headB, hk9]; exact Nat.beq_refl _)
      exact ⟨σ', m', hK, fun σ0 hr0 => AGood.congr (QF := QFp R B σ' m') (fun s s' mm h1 h2 => QFp.refs h1 h2) _ hr0 (hg.good hoj hdj hvj hmj hB)⟩
    have hk9 : Nat.ble 1999 k = false := by
      cases hb : Nat.ble 1999 k with
      | true => exact absurd hb hk9
      | false => rfl
    have hQ : ∀ (σ' : List (Nat × Tv R.D)) (m' : List (Ent R.D)), ∀ s s' mm, Refs R s s' → QFp R B σ' m' s' mm → QFp R B σ' m' s mm := fun σ' m' s s' mm h1 h2 => QFp.refs h1 h2
    simp only [chk, hk9] at hc
    simp only [cnt, hk9]
    split at hc
    · rename_i h3
      split at hc
      · rename_i hcp
        simp only [evSeq, hk9, h3] at h
        split at h
        · rename_i oi hoi
          split at h
          · rename_i oj hoj
            unfold evPairX at h
            split at h
            · exact evSeq_pairC hE hB hcl hoi hoj hcp (fun {σ2 m2} hB2 hcl2 h2 => hA hB2 hcl2 hc h2) h
            · exact evSeq_pair hE hB hcl hoi hoj hcp (fun {σ2 m2} hB2 hcl2 h2 => hA hB2 hcl2 hc h2) h
          · exact none_some h
        · exact none_some h
      · cases hc
    rename_i h3
    split at hc
    · rename_i hc1
      unfold chk1 at hc1
      split at hc1
      · rename_i hmem
        have hmem := memB_iff.1 hmem
        simp only [evSeq, hk9, h3] at h
        split at h
        · rename_i o ho
          obtain ⟨t, σ1, h, href, σg, hσg, hwant⟩ := evGuard_ref (n := E.n) h
          have hone : ∀ {g : Nat} {QF : List (Nat × Tv R.D) → List (Ent R.D) → Prop} {σ0 : List (Nat × Tv R.D)} {v : Tv R.D} {m1 : List (Ent R.D)}, oneB i (Region.ready .any ops listed) = true → (∀ d, o.dst = some d → d < E.n) → Does R P E.n ops o σ0 m v m1 → ((∃ es, m1 = m ++ es) ∨ (m.length ≤ m1.length ∧ ∀ i', i' < ops.size → listed.getD i' false = true → pureAt ops i' = true ∨ depT ops i i' = true ∨ depT ops i' i = true ∨ Keeps R ops σ0 m m1 i')) →
              AGood R P E.n ops QF g (listed.setIfInBounds i true) (putσ o.dst v σ0) m1 → AGood R P E.n ops QF (g + 1) listed σ0 m := by
            intro g QF σ0 v m1 h1 hd hdo hx hrest
            have hl : Region.ready .any ops listed = [i] := by
              generalize Region.ready .any ops listed = l at h1
              unfold oneB at h1
              split at h1
              · rw [Nat.eq_of_beq_eq_true h1]
              · cases h1
            refine ⟨fun h0 => (by rw [hl] at h0; cases h0), fun j hj => ?_⟩
            rw [hl, List.mem_singleton] at hj
            subst hj
            exact ⟨o, v, m1, ho, hd, hdo, hx, hrest⟩
          have hguard : ∀ σ0, Refs R σ0 σ → ∃ σg : List (Nat × Tv R.D), (∀ k u, Sg.find σg k = some u → k ∈ o.looksAt ops ∧ Ref R σ0 σg k u) ∧ ∀ (ρ : Ow) (w : World) (a : Act), Sat R ρ w E.n σg a → Region.wanted o (yielded ops a.tmps) = t := fun σ0 hr =>
            ⟨σg, fun k u hk => ⟨(hσg k u hk).1, fun hk' => by
              obtain ⟨v1, h1, e1⟩ := (hσg k u hk).2 hk'
              obtain ⟨v0, h0, e0⟩ := hr k v1 h1
              exact ⟨v0, h0, e0.trans e1⟩⟩, hwant⟩
          have upr : ∀ {σr σ0 σ2 : List (Nat × Tv R.D)}, (∀ k u, Sg.find σr k = some u → k ∈ o.looksAt ops ∧ Ref R σ σr k u) → Refs R σ0 σ → (∀ k ∈ o.looksAt ops, ∀ u, Ref R σ2 σ0 k u) → ∀ k u, Sg.find σr k = some u → k ∈ o.looksAt ops ∧ Ref R σ2 σr k u := fun hσr hr0 h2 k u hk => by
            obtain ⟨h3, h4⟩ := hσr k u hk
            refine ⟨h3, fun hk' => ?_⟩
            obtain ⟨v1, hv1, e1⟩ := h4 hk'
            obtain ⟨v2, hv2, e2⟩ := hr0 k v1 hv1
            obtain ⟨v3, hv3, e3⟩ := h2 k h3 v2 hv2
            exact ⟨v3, hv3, (e3.trans e2).trans e1⟩
          have upg : ∀ {σ0 σ2 : List (Nat × Tv R.D)}, Refs R σ0 σ → (∀ k ∈ o.looksAt ops, ∀ u, Ref R σ2 σ0 k u) → ∃ σg : List (Nat × Tv R.D), (∀ k u, Sg.find σg k = some u → k ∈ o.looksAt ops ∧ Ref R σ2 σg k u) ∧ ∀ (ρ : Ow) (w : World) (a : Act), Sat R ρ w E.n σg a → Region.wanted o (yielded ops a.tmps) = t := fun hr0 h2 => ⟨σg, upr hσg hr0 h2, hwant⟩
          have stab : ∀ {v : Tv R.D}, (∀ σ0, Refs R σ0 σ → Does R P E.n ops o σ0 m v m) → ((t = true ∧ ∃ σr : List (Nat × Tv R.D), (∀ k u, Sg.find σr k = some u → k ∈ o.looksAt ops ∧ Ref R σ σr k u) ∧ ∀ es, OpOk R P E.n o σr (m ++ es) v (m ++ es)) ∨ (t = false ∧ v = .un)) → ∀ σ0, Refs R σ0 σ → Stable R P E.n ops o σ0 m v := by
            intro v _ hcase σ0 hr0 σ2 es h2
            have up : ∀ {σr : List (Nat × Tv R.D)}, (∀ k u, Sg.find σr k = some u → k ∈ o.looksAt ops ∧ Ref R σ σr k u) → ∀ k u, Sg.find σr k = some u → k ∈ o.looksAt ops ∧ Ref R σ2 σr k u := fun hσr k u hk => by
              obtain ⟨h3, h4⟩ := hσr k u hk
              refine ⟨h3, fun hk' => ?_⟩
              obtain ⟨v1, hv1, e1⟩ := h4 hk'
              obtain ⟨v2, hv2, e2⟩ := hr0 k v1 hv1
              obtain ⟨v3, hv3, e3⟩ := h2 k h3 v2 hv2
              exact ⟨v3, hv3, (e3.trans e2).trans e1⟩
            refine ⟨t, ⟨σg, up hσg, hwant⟩, ?_⟩
            rcases hcase with ⟨ht, σr, hσr, hop⟩ | ⟨ht, rfl⟩
            · exact .inl ⟨ht, σr, up hσr, hop es⟩
            · exact .inr ⟨ht, rfl, rfl⟩
          match t, h, hwant, hguard, @stab, @upg with
          | false, h, hwant, hguard, stab, upg =>
            obtain ⟨h, hd⟩ := putS_eq h
            obtain ⟨σ', m', h, hrest⟩ := hA (B := B) (hB) (hcl.set hmem) hc h
            refine ⟨σ', m', h, fun σ0 hr0 => ?_⟩
            have hdo : ∀ σ0, Refs R σ0 σ → Does R P E.n ops o σ0 m .un m := fun σ0 hr0 => ⟨false, hguard σ0 hr0, .inr ⟨rfl, rfl, rfl⟩⟩
            have hnext := hrest (putσ o.dst .un σ0) (putσ_refs (hr0.trans href) _ _)
            split at hc1
            · exact AGood.first (hQ σ' m') ho hd _ hcl (fun j oj hj hne hun hno => Region.free_spec ho hc1 j oj hj hne hun hno) hmem (stab hdo (.inr ⟨rfl, rfl⟩) σ0 hr0) (fun _ σ2 m2 h2 => by
                have hg2 := upg hr0 h2
                exact ⟨false, hg2, .inr ⟨rfl, rfl, rfl⟩⟩) (fun e u _ _ σ2 m2 h2 _ => ⟨false, upg hr0 h2, .inr ⟨rfl, rfl, rfl⟩⟩) hnext
            · exact hone hc1 hd (hdo σ0 hr0) (.inl ⟨[], by simp⟩) hnext
            · exact hone hc1 hd (hdo σ0 hr0) (.inl ⟨[], by simp⟩) hnext
          | true, h, hwant, hguard, stab, upg =>
            dsimp only at h
            split at h
            · split at h
              · rename_i hents
                have hents := ltB_ok hents
                split at h
                · rename_i hsg
                  have hsg := ltB_ok hsg
                  have hmk : mkOp o.op = false := by
                    cases hop : o.op <;> first | rfl | (rw [hop] at h; simp only [evStill] at h; cases h)
                  have hboth : ∃ v, (putS E.n o.dst v σ1 fun σ' => evSeq E ops r σ' m K) = some x ∧ OpOk R P E.n o (restr σ1 (opTmps o)) m v m ∧ (pureOp o.op = true → OpV R P E.n o (restr σ1 (opTmps o)) v) ∧
                      (∀ e, keyT o.op = some e → ∃ p, Sg.find (restr σ1 (opTmps o)) e = some p ∧ ∀ m1 : List (Ent R.D), (∀ q ∈ tvH p, m1[q]? = m[q]?) → OpOk R P E.n o (restr σ1 (opTmps o)) m1 v m1) := by
                    by_cases hlo : ∃ e, keyT o.op = some e
                    · obtain ⟨e, ho'⟩ := hlo
                      obtain ⟨v, p, h1, h2, h3⟩ := evStill_key (n := E.n) hE o ho' h
                      exact ⟨v, h2, h3 m fun _ _ => rfl, (fun hp => by
                        unfold keyT at ho'
                        split at ho'
                        · rename_i hop; rw [hop] at hp; cases hp
                        · rename_i hop; rw [hop] at hp; cases hp
                        · rename_i hop; rw [hop] at hp; cases hp
                        · cases ho'), (fun e' h4 => by rw [ho'] at h4; cases h4; exact ⟨p, h1, h3⟩)⟩
                    by_cases hpi : pureOp o.op = true
                    · obtain ⟨v, h1, h2⟩ := evPure_ok (n := E.n) hE o hpi h
                      exact ⟨v, h1, h2.ok, fun _ => h2, fun e h3 => absurd ⟨e, h3⟩ hlo⟩
                    · obtain ⟨v, h1, h2⟩ := evStill_ok (n := E.n) hE o h
                      exact ⟨v, h1, h2, fun hp => absurd hp hpi, fun e h3 => absurd ⟨e, h3⟩ hlo⟩
                  obtain ⟨v, h, hop, hpv, hlv⟩ := hboth
                  obtain ⟨h, hd⟩ := putS_eq h
                  obtain ⟨σ', m', h, hrest⟩ := hA (B := B) (hB) (hcl.set hmem) hc h
                  refine ⟨σ', m', h, fun σ0 hr0 => ?_⟩
                  have hdo : ∀ σ0, Refs R σ0 σ → Does R P E.n ops o σ0 m v m := fun σ0 hr0 => ⟨true, hguard σ0 hr0, .inl ⟨rfl, _, restr_ref (hr0.trans href), hop⟩⟩
                  have hnext := hrest (putσ o.dst v σ0) (putσ_refs (hr0.trans href) _ _)
                  exact AGood.first (hQ σ' m') ho hd _ hcl (fun j oj hj hne hun hno => Region.free_spec ho hc1 j oj hj hne hun hno) hmem (stab hdo (.inl ⟨rfl, _, restr_ref href, fun es => hop.more hsg hents es⟩) σ0 hr0) (fun hpi σ2 m2 h2 => by
                    have hpi' : pureOp o.op = true := by
                      unfold pureAt at hpi
                      rw [ho] at hpi
                      change (pureOp o.op || mkOp o.op) = true at hpi
                      rw [hmk, Bool.or_false] at hpi
                      exact hpi
                    exact ⟨true, upg hr0 h2, .inl ⟨rfl, _, upr (restr_ref href) hr0 h2, (hpv hpi').ok⟩⟩) (fun e u h5 h6 σ2 m2 h2 h7 => by
                    obtain ⟨p, hp, hl⟩ := hlv e h5
                    have hp1 := (restr_find hp).2
                    obtain ⟨v1, hv1, e1⟩ := href e p hp1
                    obtain ⟨v0, hv0, e0⟩ := hr0 e v1 hv1
                    rw [h6, Option.some.injEq] at hv0
                    subst hv0
                    refine ⟨true, upg hr0 h2, .inl ⟨rfl, _, upr (restr_ref href) hr0 h2, hl m2 fun q hq => ?_⟩⟩
                    have hqu : q ∈ tvH u := by
                      rcases e0.trans e1 with rfl | ⟨hn, _⟩
                      · exact hq
                      · rw [hn.1] at hq; cases hq
                    exact h7 q hqu (hsg q (find_sgH hp q hq))) hnext
                · exact none_some h
              · exact none_some h
            · obtain ⟨v, es, h, hop⟩ := evGrow_ok (n := E.n) hE o h
              obtain ⟨h, hd⟩ := putS_eq h
              obtain ⟨σ', m', h, hrest⟩ := hA (B := B) (Nat.le_trans hB (by simp)) (hcl.set hmem) hc h
              refine ⟨σ', m', h, fun σ0 hr0 => ?_⟩
              exact hone hc1 hd ⟨true, hguard σ0 hr0, .inl ⟨rfl, _, restr_ref (hr0.trans href), hop⟩⟩ (.inl ⟨es, rfl⟩) (hrest (putσ o.dst v σ0) (putσ_refs (hr0.trans href) _ _))
            · have hc1' : oneB i (Region.ready .any ops listed) = true := by
                split at hc1
                · rename_i hne _; exact absurd rfl hne
                · exact hc1
                · exact hc1
              split at h
              · rename_i hal
                obtain ⟨v, m1, h, hop⟩ := evOp_ok (n := E.n) hE o h
                split at h
                case h_2 => exact none_some h
                rename_i hble
                have hble := Nat.le_of_ble_eq_true hble
                obtain ⟨h, hd⟩ := putS_eq h
                obtain ⟨σ', m', h, hrest⟩ := hA (B := B) (Nat.le_trans hB hble) (hcl.set hmem) hc h
                refine ⟨σ', m', h, fun σ0 hr0 => ?_⟩
                exact hone hc1' hd ⟨true, hguard σ0 hr0, .inl ⟨rfl, _, restr_ref (hr0.trans href), hop⟩⟩ (.inr ⟨hble, fun i' hl' hi' => awayB_ok (Nat.zero_le _) hal (fun q hq => absurd hq (Nat.not_lt_zero q)) (hr0.trans href) hmem i' hl' hi'⟩) (hrest (putσ o.dst v σ0) (putσ_refs (hr0.trans href) _ _))
              · obtain ⟨S, v, m1, h, hop, hle, hfr⟩ := evOpA_ok (n := E.n) hE o h
                split at h
                case h_2 => exact none_some h
                rename_i haw
                obtain ⟨h, hd⟩ := putS_eq h
                obtain ⟨σ', m', h, hrest⟩ := hA (B := B) (Nat.le_trans hB hle) (hcl.set hmem) hc h
                refine ⟨σ', m', h, fun σ0 hr0 => ?_⟩
                exact hone hc1' hd ⟨true, hguard σ0 hr0, .inl ⟨rfl, _, restr_ref (hr0.trans href), hop⟩⟩ (.inr ⟨hle, fun i' hl' hi' => awayB_ok (Nat.le_refl _) haw hfr (hr0.trans href) hmem i' hl' hi'⟩) (hrest (putσ o.dst v σ0) (putσ_refs (hr0.trans href) _ _))
        · exact none_some h
      · cases hc1
    · cases hc
theorem evSeq_both {E : Env R} (hE : EnvOk P E) {ops : Array Oper} : ∀ ord : List (Nat × Nat), SeqA R P E ops X ord ∧ SeqB R P E ops X ord
  | [] => ⟨fun {listed σ m B K x} _ _ hc h => ⟨σ, m, h, fun σ0 hr => ⟨nilB_ok hc, QFp.self hr⟩⟩, fun {listed σ m B K x j} _ _ _ _ hh => by cases hh⟩
  | (i, k) :: r => ⟨seqA_cons hE (evSeq_both hE r).1 (evSeq_both hE r).2 i k, seqB_cons hE (evSeq_both hE r).1 (evSeq_both hE r).2 i k⟩
theorem evSeq_ok {E : Env R} (hE : EnvOk P E) {ops : Array Oper} (ord : List (Nat × Nat)) : SeqA R P E ops X ord := (evSeq_both hE ord).1
theorem evDraw_ok {E : Env R} (hE : EnvOk P E) {id : Nat} {ops : Array Oper} {ord : List (Nat × Nat)} {σ : List (Nat × Tv R.D)} {m : List (Ent R.D)} {K : List (Nat × Tv R.D) → List (Ent R.D) → Option X} {x : X} (h : evDraw E ops ord σ m K = some x)
    {ρ : Ow} {w : World} {a : Act} (hr : Rel R ρ m w) (hs : Sat R ρ w E.n σ a) {Q : Exit → Act → World → Prop}
    (hq : ∀ σ' m', K σ' m' = some x → ∀ ρ' a' w', Go R ρ m w ρ' m' w' → Rel R ρ' m' w' → Sat R ρ' w' E.n σ' a' → Q .normal a' w') : (Code.region id ops true).wp P Q a w := by
  unfold evDraw at h
  split at h
  · rename_i hl
    have hl := Nat.eq_of_beq_eq_true hl
    split at h
    · rename_i hc
      have hc : chk ops ord (Array.replicate ops.size false) = true := chkL_ok ord (d := []) (fun x hx => by cases hx) hc
      obtain ⟨σ', m', h, hgood⟩ := evSeq_ok (B := m.length) hE ord (Nat.le_refl _) (closed_nil ops _) hc h
      have hg := hgood σ (Refs.refl σ)
      rw [hl] at hg
      refine wp_region_any hE.mixed ?_
      have hf : Fr (Held ρ m) w { w with drawn := w.drawn + 1 } := Fr.of_heap rfl rfl rfl rfl
      have hr1 : Rel R ρ m { w with drawn := w.drawn + 1 } := hr.same hf hr.fits fun b _ => rfl
      have hs1 : Sat R ρ { w with drawn := w.drawn + 1 } E.n σ a := hs.keep hf hr.fits (Le.refl ρ w)
      refine AGood.wp _ hg ρ _ a hr1 hs1 fun σ2 m2 ρ2 a' w' hqf hgo hr2 hs2 => ?_
      obtain ⟨f, g, p, href, rfl⟩ := hqf
      have hlr : m'.length ≤ ρ2.r.length := by rw [hr2.len, pmM_len]; exact Nat.le_refl _
      have hr3 := hr2.pm p.inv (by rw [pmM_len]; exact Nat.le_refl _)
      rw [pmM_inv p (Nat.le_refl _)] at hr3
      have hs3 := (href.sat hs2).pm p.inv hlr
      rw [pmS_inv p.gf] at hs3
      have hheld : ∀ b, Held (pmO f ρ2) m' b → Held ρ2 (pmM f g m') b := fun b hb => by
        have := (Held.pm (R := R) p.inv (ρ := ρ2) (m := pmM f g m') hlr (by rw [pmM_len]; exact Nat.le_refl _) (b := b)).1
        rw [pmM_inv p (Nat.le_refl _)] at this
        exact this hb
      refine hq σ' _ h (pmO f ρ2) a' w' ⟨⟨⟨fun i q hi => ?_, hgo.ext.F1⟩, hgo.ext.F2, fun b hb => hgo.ext.held b (hheld b hb), fun i hi => ?_⟩, ⟨hgo.fr.os, hgo.fr.tape, hgo.fr.output, hgo.fr.size, hgo.fr.blk⟩⟩ hr3 hs3
      · rw [pmO_at p.inv hlr, p.lo i (by rw [← hr.len]; exact (List.getElem?_eq_some_iff.1 hi).1)]
        exact hgo.ext.pre i q hi
      · have h1 := hgo.ext.dead i hi
        rw [pmM_get p (Nat.le_refl _)] at h1
        have h2 : g i = i := p.inv.lo i (List.getElem?_eq_some_iff.1 hi).1
        rw [h2] at h1
        obtain ⟨e, he, h3⟩ := Option.map_eq_some_iff.1 h1
        rw [renEnt_dead] at h3
        subst h3
        exact he
    · exact none_some h
  · exact none_some h
end
end Go.Proofs.Ytjfcfljdojkcdaa.Ev
