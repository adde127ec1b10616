/- A function's contract out of one equation for each cut. -/
import Derived.Test.YtjfcfljdojkcdaaEvO
namespace Go.Proofs.Ytjfcfljdojkcdaa.Ev
open Go Go.RowKit
set_option linter.unusedVariables false
set_option linter.unusedSimpArgs false
/-- A cut: the temporaries that are asked for behind it, and what is left to do as a plain function. -/
structure CutS (R : Ro) (Y : Type) where
  key : Nat
  lv : List Nat
  cv : List (Option Cv)
  sh : List Sh
  es : List Es
  Z : Type
  D : DL R Z
  l : Nat → Z → Option Y
structure FnS (R : Ro) (Y1 Y2 : Type) where
  shIn : List Sh
  esIn : List Es
  DI : DL R Y1
  shOut : Sh
  esOut : List Es
  DO : DL R Y2
section
variable {R : Ro} {P : Program} {Y1 Y2 : Type}
def CutS.t (c : CutS R Y2) (k : Nat) (vs : List (Tv R.D)) (m : List (Ent R.D)) : Option Y2 :=
  match flats c.sh vs with
  | some a => match flatE c.es m with
    | some b => match c.D.dec (a ++ b) with
      | some z => c.l k z
      | none => none
    | none => none
  | none => none
def cutsT (cuts : List (CutS R Y2)) (k : Nat) : Cuts R Y2 := fun key =>
  match cuts with
  | [] => none
  | c :: r => match Nat.beq c.key key with
    | true => some (c.lv, c.cv, c.t k)
    | false => cutsT r k key
noncomputable def CutS.run (E : Nat → Env R) (rs : List ResultVar) (np : Nat) (body : Code) (cuts : List (CutS R Y2)) (ret : Tv R.D → List (Ent R.D) → Option Y2) (c : CutS R Y2) (k : Nat) (z : c.Z) : Option Y2 :=
  match lookL (posOf body []) c.key with
  | some todo => ev (E k) rs np (cutsT cuts k) ret 5000 (Nat.beq (c.key % 2) 0) todo (zipS c.lv (unflats c.sh (c.D.enc z))) (unflatE c.es (dr (shN c.sh) (c.D.enc z)))
  | none => none
structure CutS.Ok (E : Nat → Env R) (rs : List ResultVar) (np : Nat) (body : Code) (cuts : List (CutS R Y2)) (ret : Tv R.D → List (Ent R.D) → Option Y2) (c : CutS R Y2) : Prop where
  zero : ∀ z, c.l 0 z = none
  succ : ∀ k z, c.l (k + 1) z = c.run E rs np body cuts ret k z
def FnS.sem (F : FnS R Y1 Y2) (f : Y1 → Option Y2) : Csem R := fun X args m K =>
  match flats F.shIn args with
  | some a => match flatE F.esIn m with
    | some b => match F.DI.dec (a ++ b) with
      | some y => (f y).bind fun r => K (unflat F.shOut (F.DO.enc r)) (unflatE F.esOut (dr F.shOut.n (F.DO.enc r)))
      | none => none
    | none => none
  | none => none
def FnS.ret (F : FnS R Y1 Y2) (v : Tv R.D) (m : List (Ent R.D)) : Option Y2 :=
  match flat F.shOut v with
  | some a => match flatE F.esOut m with
    | some b => F.DO.dec (a ++ b)
    | none => none
  | none => none
noncomputable def FnS.run (F : FnS R Y1 Y2) (E : Nat → Env R) (rs : List ResultVar) (body : Code) (cuts : List (CutS R Y2)) (k : Nat) (y : Y1) : Option Y2 :=
  ev (E k) rs F.esIn.length (cutsT cuts k) F.ret 5000 false [.code body] (zipS (upTo F.shIn.length 0) (unflats F.shIn (F.DI.enc y))) (unflatE F.esIn (dr (shN F.shIn) (F.DI.enc y)))

theorem Fin.form {fn : Func} {np : Nat} {ρ : Ow} {m : List (Ent R.D)} {w : World} {todo : List Item} {a : Act} {ok : Tv R.D → List (Ent R.D) → Prop} {s : List Es} {l : List (Lf R.D)} (h : flatE s m = some l) {ls : List (Lf R.D)} (hr : All2 (Rf R) l ls) (hf : Fin R P fn np ρ (unflatE s ls) w todo a ok) : Fin R P fn np ρ m w todo a ok := by
  intro b cs
  obtain ⟨a', t', w', u, h1, h2, h3, v, m', ρ', h4, h5, h6, h7, h8, h9⟩ := hf b cs
  exact ⟨a', t', w', u, h1, h2, h3, v, m', ρ', h4, h5, h6, h7.imp fun b hb => (heldE h hr).1 hb, ⟨h8.pre, h8.F1, fun b hb hn => h8.F2 b hb fun hh => hn ((heldE h hr).1 hh), fun b hb => (h8.held b hb).imp (heldE h hr).1 id, fun i hi hd => h8.dead i hi ((deadE h hr).2 hd), h8.len⟩, h9⟩
theorem cutsT_mem {k : Nat} : ∀ {cuts : List (CutS R Y2)} {key : Nat} {q : List Nat × List (Option Cv) × (List (Tv R.D) → List (Ent R.D) → Option Y2)}, cutsT cuts k key = some q → ∃ c ∈ cuts, c.key = key ∧ q = (c.lv, c.cv, c.t k)
  | [], key, q, h => by simp [cutsT] at h
  | c :: r, key, q, h => by
    unfold cutsT at h
    split at h
    · rename_i hk
      cases h
      exact ⟨c, List.mem_cons_self .., Nat.eq_of_beq_eq_true hk, rfl⟩
    · obtain ⟨c', hc, h1⟩ := cutsT_mem h
      exact ⟨c', List.mem_cons_of_mem _ hc, h1⟩
theorem allIn_pos {L : List (Nat × List Item)} : ∀ {c : Code} {k : List Item}, AllIn L (.code c :: k) → ∀ {key : Nat} {todo : List Item}, (key, todo) ∈ posOf c k → AllIn L todo := by
  intro c
  induction c with
  | region id ops d =>
    intro k hL key todo hm
    simp only [posOf, List.mem_cons, Prod.mk.injEq, List.not_mem_nil, or_false] at hm
    rcases hm with ⟨_, rfl⟩ | ⟨_, rfl⟩
    · exact hL
    · exact hL.1
  | seq x y ihx ihy =>
    intro k hL key todo hm
    have hy : AllIn L (.code y :: k) := ⟨hL.1, fun p hp => hL.2 p (List.mem_append.2 (.inr hp))⟩
    rcases List.mem_append.1 hm with hm | hm
    · exact ihx ⟨hy, fun p hp => hL.2 p (List.mem_append.2 (.inl hp))⟩ hm
    · exact ihy hy hm
  | cond e x y ihx ihy =>
    intro k hL key todo hm
    rcases List.mem_append.1 hm with hm | hm
    · exact ihx ⟨hL.1, fun p hp => hL.2 p (List.mem_append.2 (.inl hp))⟩ hm
    · exact ihy ⟨hL.1, fun p hp => hL.2 p (List.mem_append.2 (.inr hp))⟩ hm
  | block id b ih =>
    intro k hL key todo hm
    exact ih (k := .inBlock id :: k) ⟨⟨hL.1, trivial⟩, hL.2⟩ hm
  | loop b ih =>
    intro k hL key todo hm
    exact ih (k := .inLoop b :: k) ⟨⟨hL.1, hL.2⟩, hL.2⟩ hm
  | scope b ih =>
    intro k hL key todo hm
    exact ih (k := .inScope b :: k) ⟨⟨hL.1, hL.2⟩, hL.2⟩ hm
  | _ => intro k hL key todo hm; simp [posOf] at hm
theorem allIn_self (body : Code) : AllIn (posOf body []) [.code body] := ⟨trivial, fun p hp => hp⟩
theorem allIn_of_mem {body : Code} {key : Nat} {todo : List Item} (h : (key, todo) ∈ posOf body []) : AllIn (posOf body []) todo := allIn_pos (allIn_self body) h
theorem cuts_ok {E : Nat → Env R} (hE : ∀ k, EnvOk P (E k)) {n : Nat} (hn : ∀ k, (E k).n = n) {fn : Func} {np : Nat} {body : Code} {cuts : List (CutS R Y2)} {ret : Tv R.D → List (Ent R.D) → Option Y2} (hnd : nodupB (keysB (posOf body [])) = true)
    (hcuts : ∀ c ∈ cuts, c.Ok E fn.results.toList np body cuts ret) : ∀ k, TOk R P fn np n (posOf body []) (cutsT cuts k) ret
  | 0 => by
    intro key q hq todo hL vs m x h
    obtain ⟨c, hc, _, rfl⟩ := cutsT_mem hq
    simp only [CutS.t] at h
    split at h
    · split at h
      · split at h
        · rw [(hcuts c hc).zero] at h
          cases h
        · cases h
      · cases h
    · cases h
  | k + 1 => by
    intro key q hq todo hL vs m x h ρ w a hnp hr hs
    obtain ⟨c, hc, hkey, rfl⟩ := cutsT_mem hq
    simp only [CutS.t] at h
    split at h
    · rename_i la hla
      split at h
      · rename_i lb hlb
        split at h
        · rename_i z hz
          rw [(hcuts c hc).succ] at h
          unfold CutS.run at h
          rw [hkey, lookL_ok hnd hL] at h
          dsimp only at h
          have hrf := c.D.ok _ _ hz
          obtain ⟨hall, hrest⟩ := flats_ok hla hrf hs.all
          have hr' := relE hlb hrest hr
          have hlen : (unflatE c.es (dr (shN c.sh) (c.D.enc z))).length = m.length := by rw [← hr'.len, hr.len]
          refine Fin.form hlb hrest (ev_ok (hE k) (by rw [hn k]; exact cuts_ok hE hn hnd hcuts k) _ _ _ _ _ _ (allIn_of_mem hL) h ρ w a (by rw [hlen]; exact hnp) hr' ?_)
          rw [hn k]
          exact (AtL.sat ⟨hs.size, hs.defers, hall, hs.lt⟩)
        · cases h
      · cases h
    · cases h
theorem upTo_get (us : List Value) (x : Array Value) : ∀ (c j : Nat), j + c = us.length → (upTo c j).map (fun k => (us.toArray ++ x).getD k undef) = us.drop j
  | 0, j, h => by simp only [upTo, List.map_nil]; rw [List.drop_of_length_le (by omega)]
  | c + 1, j, h => by
    have hj : j < us.length := by omega
    simp only [upTo, List.map_cons, upTo_get us x c (j + 1) (by omega)]
    rw [List.drop_eq_getElem_cons hj]
    congr 1
    have h1 : j < (us.toArray ++ x).size := by simp; omega
    rw [Array.getD_eq_getD_getElem?, Array.getElem?_eq_getElem h1, Option.getD_some, Array.getElem_append_left (by simpa using hj)]
    simp
theorem upTo_lt : ∀ (c j : Nat), ∀ k ∈ upTo c j, k < j + c
  | 0, j, k, h => by simp [upTo] at h
  | c + 1, j, k, h => by
    simp only [upTo, List.mem_cons] at h
    rcases h with rfl | h
    · omega
    · have := upTo_lt c (j + 1) k h; omega
theorem unflats_len {D : Nat → Type} : ∀ (s : List Sh) (ls : List (Lf D)), (unflats s ls).length = s.length
  | [], _ => rfl
  | s :: ss, ls => by simp [unflats, unflats_len ss]
/-- THE CONTRACT of a function, out of one equation for each cut and one for its begin. -/
theorem fn_ok {E : Nat → Env R} (hE : ∀ k, EnvOk P (E k)) {n : Nat} (hn : ∀ k, (E k).n = n) {fid : FuncId} {fn : Func} {body : Code} (hfn : P.funcs[fid]? = some fn) (hb : fn.body = some body) (hnm : (fn.name == "runtime.NumGoroutine") = false) (hN : fn.ntmps = n) {F : FnS R Y1 Y2} (hle : F.shIn.length ≤ n)
    (hnd : nodupB (keysB (posOf body [])) = true) {cuts : List (CutS R Y2)} (hcuts : ∀ c ∈ cuts, c.Ok E fn.results.toList F.esIn.length body cuts F.ret) {f : Nat → Y1 → Option Y2} (hf : ∀ k y, f k y = F.run E fn.results.toList body cuts k y) (k : Nat) : CsemOk R P fid (F.sem (f k)) := by
  intro X args m K x h
  unfold FnS.sem at h
  split at h
  · rename_i la hla
    split at h
    · rename_i lb hlb
      split at h
      · rename_i y hy
        obtain ⟨r, hr, h⟩ := Option.bind_eq_some_iff.1 h
        refine ⟨_, _, h, fun ρ w us hrel hargs => ?_⟩
        rw [hf] at hr
        have hrf := F.DI.ok _ _ hy
        obtain ⟨hall, hrest⟩ := flats_ok hla hrf hargs
        have hrel' := relE hlb hrest hrel
        have hnp : F.esIn.length = m.length := by
          have : ∀ (s : List Es) (ls : List (Lf R.D)), (unflatE s ls).length = s.length := by
            intro s
            induction s with
            | nil => intro ls; rfl
            | cons p s ih =>
              intro ls
              cases p with
              | blk n t => simp [unflatE, ih]
              | row c t => unfold unflatE; split <;> simp_all
              | dead => simp [unflatE, ih]
          rw [← this F.esIn (dr (shN F.shIn) (F.DI.enc y)), ← hrel'.len, hrel.len]
        have hul : us.length = F.shIn.length := by rw [← hall.length, unflats_len]
        refine .inl ⟨?_, fun cs => ?_⟩
        · unfold callFunc
          simp only [Sem.run_bind, run_program, Result.andThen_ok, hfn, hnm, hb]
          simp
        · let b : Frame := { (default : Frame) with fn := fid, kind := .normal }
          have hsz : us.length + (fn.ntmps - us.length) = n := by rw [hN]; omega
          have henter : Frame.enter P fid us.toArray .normal = b.at { tmps := us.toArray ++ Array.replicate (fn.ntmps - us.toArray.size) undef, defers := [] } [.code body] := by
            simp [Frame.enter, Frame.at, hfn, hb, b]
          have hat : AtL R ρ w n (upTo F.shIn.length 0) (unflats F.shIn (F.DI.enc y)) { tmps := us.toArray ++ Array.replicate (fn.ntmps - us.toArray.size) undef, defers := [] } := by
            refine ⟨by simp; omega, rfl, ?_, fun k hk => ?_⟩
            · rw [upTo_get us _ _ _ (by omega)]
              exact hall
            · have := upTo_lt _ _ k hk
              simp
              omega
          have hfin := ev_ok (hE k) (by rw [hn k]; exact cuts_ok hE hn hnd hcuts k) _ _ _ _ _ _ (allIn_self body) hr ρ w _ (by rw [← hrel'.len, hrel.len]; omega) hrel' (by rw [hn k]; exact hat.sat)
          obtain ⟨a', todo', w', u, hst, hdf, hres, v, m', ρ', hret, hrel2, hi2, hfr, hends, hlv, hle⟩ := hfin b cs
          rw [← henter] at hst
          refine ⟨.returned u, w', _, ⟨u, rfl, ?_⟩, hst, rfl, rfl, hdf, rfl, fn, hfn, hres⟩
          unfold FnS.ret at hret
          split at hret
          · rename_i ra hra
            split at hret
            · rename_i rb hrb
              have hro := F.DO.ok _ _ hret
              obtain ⟨hv', hrest'⟩ := flat_more hra hro hi2
              have hnl : F.esIn.length = ρ.r.length := by rw [hrel.len]; exact hnp
              have hm'len : F.esIn.length ≤ ρ'.r.length := by rw [hrel2.len]; exact hends.len
              let ρ2 : Ow := ⟨ρ'.F, ρ.r ++ ρ'.r.drop F.esIn.length⟩
              have hr2len : ρ2.r.length = ρ'.r.length := by
                show (ρ.r ++ _).length = _
                rw [List.length_append, List.length_drop]
                omega
              have hsame : ∀ i, Live m' i → ρ2.r[i]? = ρ'.r[i]? := fun i hl => by
                show (ρ.r ++ _)[i]? = _
                rcases Nat.lt_or_ge i F.esIn.length with hlt | hge
                · rw [hends.pre i hlt hl, List.getElem?_append_left (by omega)]
                · rw [List.getElem?_append_right (by omega), List.getElem?_drop]
                  congr 1
                  omega
              have hheld : ∀ b, Held ρ2 m' b ↔ Held ρ' m' b := fun b => by
                constructor
                · intro ⟨i, q, e, h1, h2, h3, h4⟩
                  exact ⟨i, q, e, by rw [← hsame i ⟨e, h2, h3⟩]; exact h1, h2, h3, h4⟩
                · intro ⟨i, q, e, h1, h2, h3, h4⟩
                  exact ⟨i, q, e, by rw [hsame i ⟨e, h2, h3⟩]; exact h1, h2, h3, h4⟩
              have hrel3 : Rel R ρ2 m' w' := by
                refine ⟨by rw [hr2len]; exact hrel2.len, fun i j p q e e' b h1 h2 h3 h4 h5 h6 h7 h8 => ?_, hrel2.lt, fun b hb => hrel2.fits b ((hheld b).1 hb), fun i q e hi he => ?_⟩
                · rw [hsame i ⟨e, h3, h5⟩] at h1
                  rw [hsame j ⟨e', h4, h6⟩] at h2
                  exact hrel2.nd i j p q e e' b h1 h2 h3 h4 h5 h6 h7 h8
                · by_cases hl : e.live
                  · rw [hsame i ⟨e, he, hl⟩] at hi
                    exact (hrel2.ok i q e hi he).to (fun _ h => h) fun q' hq' b' hb' => by rw [hsame q' (hle q' (mem_entsH (List.mem_of_getElem? he) hq'))]; exact hb'
                  · cases e with
                    | dead => exact EntOk.none
                    | _ => exact absurd trivial hl
              have hi3 : IsT R ρ2 w' v u := hi2.to (fun _ h => h) fun q hq b' hb' => by rw [hsame q (hlv q hq)]; exact hb'
              obtain ⟨hv3, hrest3⟩ := flat_more hra hro hi3
              refine ⟨ρ2, ⟨⟨⟨fun i q hi => ?_, hends.F1⟩, fun b hb hn => hends.F2 b hb fun hh => hn ((heldE hlb hrest).1 hh), fun b hb => ?_, fun i hi => ?_⟩, hfr.imp fun b hb => (heldE hlb hrest).1 hb⟩, relE hrb hrest3 hrel3, hv3⟩
              · show (ρ.r ++ _)[i]? = _
                rw [List.getElem?_append_left (List.getElem?_eq_some_iff.1 hi).1]; exact hi
              · have h1 := (hheld b).1 ((heldE hrb hrest3).1 hb)
                exact (hends.held b h1).imp (heldE hlb hrest).1 id
              · have hlt : i < F.esIn.length := by rw [hnp]; exact (List.getElem?_eq_some_iff.1 hi).1
                exact (deadE hrb hrest3).2 (hends.dead i hlt ((deadE hlb hrest).2 hi))
            · cases hret
          · cases hret
      · cases h
    · cases h
  · cases h
def ctOf : List (Nat × Csem R) → Nat → Option (Csem R)
  | [], _ => none
  | (j, s) :: r, i => match Nat.beq j i with
    | true => some s
    | false => ctOf r i
theorem ctOf_ok : ∀ {l : List (Nat × Csem R)}, (∀ p ∈ l, CsemOk R P p.1 p.2) → CtOk R P (ctOf l)
  | [], _, f, s, h => by simp [ctOf] at h
  | (j, q) :: r, hl, f, s, h => by
    simp only [ctOf] at h
    split at h
    · rename_i he
      cases h
      rw [← Nat.eq_of_beq_eq_true he]
      exact hl _ (List.mem_cons_self ..)
    · exact ctOf_ok (fun p hp => hl p (List.mem_cons_of_mem _ hp)) f s h
theorem all_nil {α : Type 1} {p : α → Prop} : ∀ q ∈ ([] : List α), p q := fun q h => by simp at h
theorem all_cons {α : Type 1} {p : α → Prop} {a : α} {l : List α} (h : p a) (hl : ∀ q ∈ l, p q) : ∀ q ∈ a :: l, p q := fun q hq => by
  rcases List.mem_cons.1 hq with rfl | hq
  · exact h
  · exact hl q hq
def bodyOf (fn : Func) : Code := match fn.body with
  | some c => c
  | none => .skip
def mtNone : TypeId → String → Option FuncId := fun _ _ => none
theorem mtNone_ok : MtOk P mtNone := fun t n f h => by simp [mtNone] at h
end
end Go.Proofs.Ytjfcfljdojkcdaa.Ev
