/- Contracts of functions that call themselves, and of functions whose ends have unlike forms. -/
import Derived.Test.YtjfcfljdojkcdaaEvQ
namespace Go.Proofs.Ytjfcfljdojkcdaa.Ev
open Go Go.RowKit
set_option linter.unusedVariables false
set_option linter.unusedSimpArgs false
/-- What is told at an end. -/
structure OutS (R : Ro) (Y : Type) where
  ret : Tv R.D → List (Ent R.D) → Option Y
  tv : Y → Tv R.D
  es : Y → List (Ent R.D)
  outK : (X : Type) → Y → (Tv R.D → List (Ent R.D) → Option X) → Option X
  k_ok : ∀ X y K x, outK X y K = some x → K (tv y) (es y) = some x
  tell : ∀ v m y, ret v m = some y → ∀ (ρ : Ow) (w : World) (u : Value), Rel R ρ m w → IsT R ρ w v u → Rel R ρ (es y) w ∧ IsT R ρ w (tv y) u
  held : ∀ v m y, ret v m = some y → ∀ (ρ : Ow) (b : Nat), Held ρ (es y) b ↔ Held ρ m b
  dead : ∀ v m y, ret v m = some y → ∀ i : Nat, (es y)[i]? = some (Ent.dead : Ent R.D) ↔ m[i]? = some (Ent.dead : Ent R.D)
section
variable {R : Ro} {P : Program} {Y1 Y2 Y3 : Type}
theorem flat_rest {s : Sh} {v : Tv R.D} {l r : List (Lf R.D)} (h : flat s v = some l) {ls : List (Lf R.D)} (hr : All2 (Rf R) (l ++ r) ls) : All2 (Rf R) r (dr s.n ls) := by
  obtain ⟨h0, h1⟩ := rf_split hr
  rw [flat_n h] at h1
  exact h1
def OutS.one (sh : Sh) (es : List Es) (D : DL R Y2) : OutS R Y2 where
  ret := fun v m => match flat sh v with
    | some a => match flatE es m with
      | some b => D.dec (a ++ b)
      | none => none
    | none => none
  tv := fun r => unflat sh (D.enc r)
  es := fun r => unflatE es (dr sh.n (D.enc r))
  outK := fun X r K => K (unflat sh (D.enc r)) (unflatE es (dr sh.n (D.enc r)))
  k_ok := fun X y K x h => h
  tell := fun v m y h ρ w u hr hu => by
    split at h
    · rename_i ra hra
      split at h
      · rename_i rb hrb
        have hro := D.ok _ _ h
        obtain ⟨h1, h2⟩ := flat_more hra hro hu
        exact ⟨relE hrb h2 hr, h1⟩
      · cases h
    · cases h
  held := fun v m y h ρ b => by
    split at h
    · rename_i ra hra
      split at h
      · rename_i rb hrb
        exact heldE hrb (flat_rest hra (D.ok _ _ h))
      · cases h
    · cases h
  dead := fun v m y h i => by
    split at h
    · rename_i ra hra
      split at h
      · rename_i rb hrb
        exact deadE hrb (flat_rest hra (D.ok _ _ h))
      · cases h
    · cases h
/-- Ends of either form. -/
def OutS.alt (a : OutS R Y2) (b : OutS R Y3) : OutS R (Y2 ⊕ Y3) where
  ret := fun v m => match a.ret v m with
    | some y => some (.inl y)
    | none => match b.ret v m with
      | some z => some (.inr z)
      | none => none
  tv := fun r => match r with | .inl y => a.tv y | .inr z => b.tv z
  es := fun r => match r with | .inl y => a.es y | .inr z => b.es z
  outK := fun X r K => Sum.elim (fun y => a.outK X y K) (fun z => b.outK X z K) r
  k_ok := fun X r K x h => match r, h with
    | .inl y, h => a.k_ok X y K x h
    | .inr z, h => b.k_ok X z K x h
  tell := fun v m r h ρ w u hr hu => by
    split at h
    · rename_i y hy
      cases h
      exact a.tell v m y hy ρ w u hr hu
    · split at h
      · rename_i z hz
        cases h
        exact b.tell v m z hz ρ w u hr hu
      · cases h
  held := fun v m r h ρ x => by
    split at h
    · rename_i y hy
      cases h
      exact a.held v m y hy ρ x
    · split at h
      · rename_i z hz
        cases h
        exact b.held v m z hz ρ x
      · cases h
  dead := fun v m r h i => by
    split at h
    · rename_i y hy
      cases h
      exact a.dead v m y hy i
    · split at h
      · rename_i z hz
        cases h
        exact b.dead v m z hz i
      · cases h
structure FnG (R : Ro) (Y1 Y2 : Type) where
  shIn : List Sh
  esIn : List Es
  DI : DL R Y1
  out : OutS R Y2
def FnG.sem (F : FnG R Y1 Y2) (f : Y1 → Option Y2) : Csem R := fun X args m K =>
  match flats F.shIn args with
  | some a => match flatE F.esIn m with
    | some b => match F.DI.dec (a ++ b) with
      | some y => (f y).bind fun r => F.out.outK X r K
      | none => none
    | none => none
  | none => none
def FnG.ret (F : FnG R Y1 Y2) (v : Tv R.D) (m : List (Ent R.D)) : Option Y2 := F.out.ret v m
noncomputable def FnG.run (F : FnG R Y1 Y2) (E : Nat → Env R) (rs : List ResultVar) (body : Code) (cuts : List (CutS R Y2)) (k : Nat) (y : Y1) : Option Y2 :=
  ev (E k) rs F.esIn.length (cutsT cuts k) F.ret 5000 false [.code body] (zipS (upTo F.shIn.length 0) (unflats F.shIn (F.DI.enc y))) (unflatE F.esIn (dr (shN F.shIn) (F.DI.enc y)))
/-- One function in several forms. -/
def FnG.semOr (F : FnG R Y1 Y2) (f : Y1 → Option Y2) (s : Csem R) : Csem R := fun X args m K =>
  match flats F.shIn args with
  | some a => match flatE F.esIn m with
    | some b => match F.DI.dec (a ++ b) with
      | some y => (f y).bind fun r => F.out.outK X r K
      | none => s X args m K
    | none => s X args m K
  | none => s X args m K
theorem semOrG_ok {fid : FuncId} {F : FnG R Y1 Y2} {f : Y1 → Option Y2} {s : Csem R} (h : CsemOk R P fid (F.sem f)) (hs : CsemOk R P fid s) : CsemOk R P fid (F.semOr f s) := by
  intro X args m K x hx
  unfold FnG.semOr at hx
  split at hx
  · rename_i la hla
    split at hx
    · rename_i lb hlb
      split at hx
      · rename_i y hy
        refine h X args m K x ?_
        unfold FnG.sem
        rw [hla]
        dsimp only
        rw [hlb]
        dsimp only
        rw [hy]
        exact hx
      · exact hs X args m K x hx
    · exact hs X args m K x hx
  · exact hs X args m K x hx
/-- What one run of a function's code shows, what is left to do behind cuts being known. -/
theorem fn_runG {E : Env R} (hE : EnvOk P E) {n : Nat} (hn : E.n = n) {fid : FuncId} {fn : Func} {body : Code} (hfn : P.funcs[fid]? = some fn) (hb : fn.body = some body) (hnm : (fn.name == "runtime.NumGoroutine") = false) (hN : fn.ntmps = n) {F : FnG R Y1 Y2} (hle : F.shIn.length ≤ n)
    {T : Cuts R Y2} (hT : TOk R P fn F.esIn.length n (posOf body []) T F.ret) {f : Y1 → Option Y2}
    (hf : ∀ y, f y = ev E fn.results.toList F.esIn.length T F.ret 5000 false [.code body] (zipS (upTo F.shIn.length 0) (unflats F.shIn (F.DI.enc y))) (unflatE F.esIn (dr (shN F.shIn) (F.DI.enc y)))) : CsemOk R P fid (F.sem f) := by
  intro X args m K x h
  unfold FnG.sem at h
  split at h
  · rename_i la hla
    split at h
    · rename_i lb hlb
      split at h
      · rename_i y hy
        obtain ⟨r, hr, h⟩ := Option.bind_eq_some_iff.1 h
        refine ⟨_, _, F.out.k_ok _ _ _ _ h, fun ρ w us hrel hargs => ?_⟩
        rw [hf] at hr
        have hrf := F.DI.ok _ _ hy
        obtain ⟨hall, hrest⟩ := flats_ok hla hrf hargs
        have hrel' := relE hlb hrest hrel
        have hnp : F.esIn.length = m.length := by
          have : ∀ (s : List Es) (ls : List (Lf R.D)), (unflatE s ls).length = s.length := by
            intro s
            induction s with
            | nil => intro ls; rfl
            | cons p s ih =>
              intro ls
              cases p with
              | blk n t => simp [unflatE, ih]
              | row c t => unfold unflatE; split <;> simp_all
              | dead => simp [unflatE, ih]
          rw [← this F.esIn (dr (shN F.shIn) (F.DI.enc y)), ← hrel'.len, hrel.len]
        have hul : us.length = F.shIn.length := by rw [← hall.length, unflats_len]
        refine .inl ⟨?_, fun cs => ?_⟩
        · unfold callFunc
          simp only [Sem.run_bind, run_program, Result.andThen_ok, hfn, hnm, hb]
          simp
        · let b : Frame := { (default : Frame) with fn := fid, kind := .normal }
          have hsz : us.length + (fn.ntmps - us.length) = n := by rw [hN]; omega
          have henter : Frame.enter P fid us.toArray .normal = b.at { tmps := us.toArray ++ Array.replicate (fn.ntmps - us.toArray.size) undef, defers := [] } [.code body] := by
            simp [Frame.enter, Frame.at, hfn, hb, b]
          have hat : AtL R ρ w n (upTo F.shIn.length 0) (unflats F.shIn (F.DI.enc y)) { tmps := us.toArray ++ Array.replicate (fn.ntmps - us.toArray.size) undef, defers := [] } := by
            refine ⟨by simp; omega, rfl, ?_, fun k hk => ?_⟩
            · rw [upTo_get us _ _ _ (by omega)]
              exact hall
            · have := upTo_lt _ _ k hk
              simp
              omega
          have hfin := ev_ok hE (by rw [hn]; exact hT) _ _ _ _ _ _ (allIn_self body) hr ρ w _ (by rw [← hrel'.len, hrel.len]; omega) hrel' (by rw [hn]; exact hat.sat)
          obtain ⟨a', todo', w', u, hst, hdf, hres, v, m', ρ', hret, hrel2, hi2, hfr, hends, hlv, hle⟩ := hfin b cs
          rw [← henter] at hst
          refine ⟨.returned u, w', _, ⟨u, rfl, ?_⟩, hst, rfl, rfl, hdf, rfl, fn, hfn, hres⟩
          have hret : F.out.ret v m' = some r := hret
          have hnl : F.esIn.length = ρ.r.length := by rw [hrel.len]; exact hnp
          have hm'len : F.esIn.length ≤ ρ'.r.length := by rw [hrel2.len]; exact hends.len
          let ρ2 : Ow := ⟨ρ'.F, ρ.r ++ ρ'.r.drop F.esIn.length⟩
          have hr2len : ρ2.r.length = ρ'.r.length := by
            show (ρ.r ++ _).length = _
            rw [List.length_append, List.length_drop]
            omega
          have hsame : ∀ i, Live m' i → ρ2.r[i]? = ρ'.r[i]? := fun i hl => by
            show (ρ.r ++ _)[i]? = _
            rcases Nat.lt_or_ge i F.esIn.length with hlt | hge
            · rw [hends.pre i hlt hl, List.getElem?_append_left (by omega)]
            · rw [List.getElem?_append_right (by omega), List.getElem?_drop]
              congr 1
              omega
          have hheld : ∀ b, Held ρ2 m' b ↔ Held ρ' m' b := fun b => by
            constructor
            · intro ⟨i, q, e, h1, h2, h3, h4⟩
              exact ⟨i, q, e, by rw [← hsame i ⟨e, h2, h3⟩]; exact h1, h2, h3, h4⟩
            · intro ⟨i, q, e, h1, h2, h3, h4⟩
              exact ⟨i, q, e, by rw [hsame i ⟨e, h2, h3⟩]; exact h1, h2, h3, h4⟩
          have hrel3 : Rel R ρ2 m' w' := by
            refine ⟨by rw [hr2len]; exact hrel2.len, fun i j p q e e' b h1 h2 h3 h4 h5 h6 h7 h8 => ?_, hrel2.lt, fun b hb => hrel2.fits b ((hheld b).1 hb), fun i q e hi he => ?_⟩
            · rw [hsame i ⟨e, h3, h5⟩] at h1
              rw [hsame j ⟨e', h4, h6⟩] at h2
              exact hrel2.nd i j p q e e' b h1 h2 h3 h4 h5 h6 h7 h8
            · by_cases hl : e.live
              · rw [hsame i ⟨e, he, hl⟩] at hi
                exact (hrel2.ok i q e hi he).to (fun _ h => h) fun q' hq' b' hb' => by rw [hsame q' (hle q' (mem_entsH (List.mem_of_getElem? he) hq'))]; exact hb'
              · cases e with
                | dead => exact EntOk.none
                | _ => exact absurd trivial hl
          have hi3 : IsT R ρ2 w' v u := hi2.to (fun _ h => h) fun q hq b' hb' => by rw [hsame q (hlv q hq)]; exact hb'
          obtain ⟨hrel4, hv3⟩ := F.out.tell v m' r hret ρ2 w' u hrel3 hi3
          refine ⟨ρ2, ⟨⟨⟨fun i q hi => ?_, hends.F1⟩, fun b hb hn => hends.F2 b hb fun hh => hn ((heldE hlb hrest).1 hh), fun b hb => ?_, fun i hi => ?_⟩, hfr.imp fun b hb => (heldE hlb hrest).1 hb⟩, hrel4, hv3⟩
          · show (ρ.r ++ _)[i]? = _
            rw [List.getElem?_append_left (List.getElem?_eq_some_iff.1 hi).1]; exact hi
          · have h1 := (hheld b).1 ((F.out.held v m' r hret ρ2 b).1 hb)
            exact (hends.held b h1).imp (heldE hlb hrest).1 id
          · have hlt : i < F.esIn.length := by rw [hnp]; exact (List.getElem?_eq_some_iff.1 hi).1
            exact (F.out.dead v m' r hret i).2 (hends.dead i hlt ((deadE hlb hrest).2 hi))
      · cases h
    · cases h
  · cases h
theorem cuts_stepG {E : Nat → Env R} {n k : Nat} (hE : EnvOk P (E k)) (hn : (E k).n = n) {fn : Func} {np : Nat} {body : Code} {cuts : List (CutS R Y2)} {ret : Tv R.D → List (Ent R.D) → Option Y2} (hnd : nodupB (keysB (posOf body [])) = true)
    (hcuts : ∀ c ∈ cuts, c.Ok E fn.results.toList np body cuts ret) (ih : TOk R P fn np n (posOf body []) (cutsT cuts k) ret) : TOk R P fn np n (posOf body []) (cutsT cuts (k + 1)) ret := by
  intro key q hq todo hL vs m x h ρ w a hnp hr hs
  obtain ⟨c, hc, hkey, rfl⟩ := cutsT_mem hq
  simp only [CutS.t] at h
  split at h
  · rename_i la hla
    split at h
    · rename_i lb hlb
      split at h
      · rename_i z hz
        rw [(hcuts c hc).succ] at h
        unfold CutS.run at h
        rw [hkey, lookL_ok hnd hL] at h
        dsimp only at h
        have hrf := c.D.ok _ _ hz
        obtain ⟨hall, hrest⟩ := flats_ok hla hrf hs.all
        have hr' := relE hlb hrest hr
        have hlen : (unflatE c.es (dr (shN c.sh) (c.D.enc z))).length = m.length := by rw [← hr'.len, hr.len]
        refine Fin.form hlb hrest (ev_ok hE (by rw [hn]; exact ih) _ _ _ _ _ _ (allIn_of_mem hL) h ρ w a (by rw [hlen]; exact hnp) hr' ?_)
        rw [hn]
        exact (AtL.sat ⟨hs.size, hs.defers, hall, hs.lt⟩)
      · cases h
    · cases h
  · cases h
theorem cuts_zeroG {E : Nat → Env R} {n : Nat} {fn : Func} {np : Nat} {body : Code} {cuts : List (CutS R Y2)} {ret : Tv R.D → List (Ent R.D) → Option Y2} (hcuts : ∀ c ∈ cuts, c.Ok E fn.results.toList np body cuts ret) : TOk R P fn np n (posOf body []) (cutsT cuts 0) ret := by
  intro key q hq todo hL vs m x h
  obtain ⟨c, hc, _, rfl⟩ := cutsT_mem hq
  simp only [CutS.t] at h
  split at h
  · split at h
    · split at h
      · rw [(hcuts c hc).zero] at h
        cases h
      · cases h
    · cases h
  · cases h
/-- A function whose ends have any forms. -/
theorem fnG_ok {E : Nat → Env R} (hE : ∀ k, EnvOk P (E k)) {n : Nat} (hn : ∀ k, (E k).n = n) {fid : FuncId} {fn : Func} {body : Code} (hfn : P.funcs[fid]? = some fn) (hb : fn.body = some body) (hnm : (fn.name == "runtime.NumGoroutine") = false) (hN : fn.ntmps = n) {F : FnG R Y1 Y2} (hle : F.shIn.length ≤ n)
    (hnd : nodupB (keysB (posOf body [])) = true) {cuts : List (CutS R Y2)} (hcuts : ∀ c ∈ cuts, c.Ok E fn.results.toList F.esIn.length body cuts F.ret) {f : Nat → Y1 → Option Y2} (hf : ∀ k y, f k y = F.run E fn.results.toList body cuts k y) (k : Nat) : CsemOk R P fid (F.sem (f k)) :=
  fn_runG (hE k) (hn k) hfn hb hnm hN hle (cuts_ok hE hn hnd hcuts k) (fun y => hf k y)
/-- A function that calls itself. -/
theorem fnR_ok {E : Nat → Env R} {n : Nat} (hn : ∀ k, (E k).n = n) {fid : FuncId} {fn : Func} {body : Code} (hfn : P.funcs[fid]? = some fn) (hb : fn.body = some body) (hnm : (fn.name == "runtime.NumGoroutine") = false) (hN : fn.ntmps = n) {F : FnG R Y1 Y2} (hle : F.shIn.length ≤ n)
    (hnd : nodupB (keysB (posOf body [])) = true) {cuts : List (CutS R Y2)} (hcuts : ∀ c ∈ cuts, c.Ok E fn.results.toList F.esIn.length body cuts F.ret) {f : Nat → Y1 → Option Y2} (hE : ∀ k, CsemOk R P fid (F.sem (f k)) → EnvOk P (E k)) (h0 : ∀ y, f 0 y = none) (hf : ∀ k y, f (k + 1) y = F.run E fn.results.toList body cuts k y) (k : Nat) : CsemOk R P fid (F.sem (f k)) := by
  have key : ∀ k, CsemOk R P fid (F.sem (f k)) ∧ TOk R P fn F.esIn.length n (posOf body []) (cutsT cuts k) F.ret := by
    intro k
    induction k with
    | zero =>
      refine ⟨?_, cuts_zeroG hcuts⟩
      intro X args m K x h
      unfold FnG.sem at h
      split at h
      · split at h
        · split at h
          · rw [h0] at h
            cases h
          · cases h
        · cases h
      · cases h
    | succ k ih =>
      have he := hE k ih.1
      exact ⟨fn_runG he (hn k) hfn hb hnm hN hle ih.2 (fun y => hf k y), cuts_stepG he (hn k) hnd hcuts ih.2⟩
  exact (key k).1
end
end Go.Proofs.Ytjfcfljdojkcdaa.Ev
