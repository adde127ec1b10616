/- Blocks under other numbers: what a call, or what stands behind a cut, is told of memory. -/
import Derived.Test.YtjfcfljdojkcdaaEvH
namespace Go.Proofs.Ytjfcfljdojkcdaa.Ev
open Go Go.RowKit
set_option linter.unusedVariables false
set_option linter.unusedSimpArgs false
section
variable {D : Nat → Type}
def lfH : Lf D → List Nat
  | .ptr h _ => [h]
  | .row _ h => [h]
  | .sl _ h _ _ => [h]
  | .rp _ h _ _ => [h]
  | .fn _ caps => caps.map (·.1)
  | .ifc _ h _ => [h]
  | .mref h => [h]
  | _ => []
def lfsH : List (Lf D) → List Nat
  | [] => []
  | l :: r => lfH l ++ lfsH r
def avH : Av D → List Nat
  | .lf l => lfH l
  | .agg cs => lfsH cs
def avsH : List (Av D) → List Nat
  | [] => []
  | l :: r => avH l ++ avsH r
def tvH : Tv D → List Nat
  | .lf l => lfH l
  | .agg cs => lfsH cs
  | .tup vs => avsH vs
  | .un => []
def tvsH : List (Tv D) → List Nat
  | [] => []
  | l :: r => tvH l ++ tvsH r
def entH : Ent D → List Nat
  | .blk cs _ => lfsH cs
  | .row _ _ _ => []
  | .mp _ => []
  | .dead => []
def entsH : List (Ent D) → List Nat
  | [] => []
  | l :: r => entH l ++ entsH r
def renLf (f : Nat → Nat) : Lf D → Lf D
  | .ptr h o => .ptr (f h) o
  | .row c h => .row c (f h)
  | .sl c h o n => .sl c (f h) o n
  | .rp c h i j => .rp c (f h) i j
  | .fn g caps => .fn g (caps.map fun c => (f c.1, c.2))
  | .ifc t h o => .ifc t (f h) o
  | .mref h => .mref (f h)
  | l => l
def renAv (f : Nat → Nat) : Av D → Av D
  | .lf l => .lf (renLf f l)
  | .agg cs => .agg (cs.map (renLf f))
def renTv (f : Nat → Nat) : Tv D → Tv D
  | .lf l => .lf (renLf f l)
  | .agg cs => .agg (cs.map (renLf f))
  | .tup vs => .tup (vs.map (renAv f))
  | .un => .un
def renEnt (f : Nat → Nat) : Ent D → Ent D
  | .blk cs t => .blk (cs.map (renLf f)) t
  | .row c l t => .row c l t
  | .mp l => .mp l
  | .dead => .dead
theorem free_none {l : Lf D} (h : lfFree l = true) : lfH l = [] := by
  cases l <;> first | rfl | (simp [lfFree] at h)
theorem ren_none {f : Nat → Nat} {l : Lf D} (h : lfH l = []) : renLf f l = l := by
  cases l <;> simp [lfH] at h <;> first | rfl | (subst h; rfl)
theorem mem_lfsH {l : Lf D} {h : Nat} : ∀ {cs : List (Lf D)}, l ∈ cs → h ∈ lfH l → h ∈ lfsH cs
  | c :: cs, hm, hh => by
    simp only [lfsH, List.mem_append]
    rcases List.mem_cons.1 hm with rfl | hm
    · exact .inl hh
    · exact .inr (mem_lfsH hm hh)
theorem mem_avsH {l : Av D} {h : Nat} : ∀ {cs : List (Av D)}, l ∈ cs → h ∈ avH l → h ∈ avsH cs
  | c :: cs, hm, hh => by
    simp only [avsH, List.mem_append]
    rcases List.mem_cons.1 hm with rfl | hm
    · exact .inl hh
    · exact .inr (mem_avsH hm hh)
theorem mem_tvsH {l : Tv D} {h : Nat} : ∀ {cs : List (Tv D)}, l ∈ cs → h ∈ tvH l → h ∈ tvsH cs
  | c :: cs, hm, hh => by
    simp only [tvsH, List.mem_append]
    rcases List.mem_cons.1 hm with rfl | hm
    · exact .inl hh
    · exact .inr (mem_tvsH hm hh)
theorem mem_entsH {l : Ent D} {h : Nat} : ∀ {cs : List (Ent D)}, l ∈ cs → h ∈ entH l → h ∈ entsH cs
  | c :: cs, hm, hh => by
    simp only [entsH, List.mem_append]
    rcases List.mem_cons.1 hm with rfl | hm
    · exact .inl hh
    · exact .inr (mem_entsH hm hh)
end
theorem All2.map_left {α β γ : Type} {r : γ → β → Prop} {q : α → β → Prop} {g : α → γ} : ∀ {l : List α} {m : List β}, All2 q l m → (∀ a ∈ l, ∀ b, q a b → r (g a) b) → All2 r (l.map g) m
  | _, _, .nil, _ => .nil
  | _, _, .cons h0 h1, h => .cons (h _ (List.mem_cons_self ..) _ h0) (h1.map_left fun a ha b hb => h a (List.mem_cons_of_mem _ ha) b hb)
section
variable {R : Ro} {P : Program} {X : Type}
theorem Is.ren {ρ ρ' : Ow} {w : World} {f : Nat → Nat} {l : Lf R.D} {u : Value} (hi : Is R ρ w l u) (hF : ∀ b, ρ'.F b → ρ.F b) (hr : ∀ h ∈ lfH l, ∀ b, ρ.r[h]? = some b → ρ'.r[f h]? = some b) : Is R ρ' w (renLf f l) u := by
  induction hi with
  | v x h => exact .v x h
  | cmp p d => exact .cmp p d
  | ptr h off b hb => exact .ptr _ off b (hr h (by simp [lfH]) _ hb)
  | nil c a cap => exact .nil c a cap
  | ro c l b o cap f' hL hl hb hn hc hv ih =>
    refine .ro c l b o cap f' hL hl hb (fun h => hn (hF b h)) hc (fun i x j lf h0 h1 => ?_)
    have hfree := free_none (List.all_eq_true.1 (R.free c x) lf (List.mem_of_getElem? h1))
    have := ih i x j lf h0 h1 (fun h hh => by rw [hfree] at hh; simp at hh)
    rwa [ren_none hfree] at this
  | row c h b cap len hb => exact .row c _ b cap len (hr h (by simp [lfH]) _ hb)
  | rnil c h a hb => exact .rnil c _ a (hr h (by simp [lfH]) _ hb)
  | sl c h o n a k hk hL hb => exact .sl c _ o n a k hk hL (hb.imp (fun ⟨h0, h1⟩ => ⟨h0, fun e => (h1 e).imp fun q ⟨h2, h3⟩ => ⟨hr h (by simp [lfH]) _ h2, h3⟩⟩) fun ⟨b, cap, len, h1, h2⟩ => ⟨b, cap, len, hr h (by simp [lfH]) _ h1, h2⟩)
  | rp c h b cap len i j hb h0 h1 => exact .rp c _ b cap len i j (hr h (by simp [lfH]) _ hb) h0 h1
  | ept c l b o i k f' hb hn h0 h1 hc hv ih =>
    refine .ept c l b o i k f' hb (fun h => hn (hF b h)) h0 h1 hc (fun i x j lf h0 h1 => ?_)
    have hfree := free_none (List.all_eq_true.1 (R.free c x) lf (List.mem_of_getElem? h1))
    have := ih i x j lf h0 h1 (fun h hh => by rw [hfree] at hh; simp at hh)
    rwa [ren_none hfree] at this
  | fn g caps vs h =>
    refine .fn g _ vs (h.map_left fun c hc u ⟨b, hb, hu⟩ => ⟨b, hr c.1 ?_ _ hb, hu⟩)
    simp only [lfH, List.mem_map]
    exact ⟨c, hc, rfl⟩
  | ifc t h off b hb => exact .ifc t _ off b (hr h (by simp [lfH]) _ hb)
  | mref h b hb => exact .mref _ b (hr h (by simp [lfH]) _ hb)
  | full c l a h ih => exact .full c l a (ih (fun h hh => by simp [lfH] at hh))
theorem ren_all {ρ ρ' : Ow} {w : World} {f : Nat → Nat} {cs : List (Lf R.D)} {us : List Value} (ha : All2 (Is R ρ w) cs us) (hF : ∀ b, ρ'.F b → ρ.F b) (hr : ∀ h ∈ lfsH cs, ∀ b, ρ.r[h]? = some b → ρ'.r[f h]? = some b) : All2 (Is R ρ' w) (cs.map (renLf f)) us :=
  ha.map_left fun l hl u hi => hi.ren hF fun h hh => hr h (mem_lfsH hl hh)
theorem IsA.ren {ρ ρ' : Ow} {w : World} {f : Nat → Nat} {l : Av R.D} {u : Value} (hi : IsA R ρ w l u) (hF : ∀ b, ρ'.F b → ρ.F b) (hr : ∀ h ∈ avH l, ∀ b, ρ.r[h]? = some b → ρ'.r[f h]? = some b) : IsA R ρ' w (renAv f l) u := by
  cases l with
  | lf l => exact Is.ren hi hF hr
  | agg cs => obtain ⟨us, hu, ha⟩ := hi; exact ⟨us, hu, ren_all ha hF hr⟩
theorem IsT.ren {ρ ρ' : Ow} {w : World} {f : Nat → Nat} {l : Tv R.D} {u : Value} (hi : IsT R ρ w l u) (hF : ∀ b, ρ'.F b → ρ.F b) (hr : ∀ h ∈ tvH l, ∀ b, ρ.r[h]? = some b → ρ'.r[f h]? = some b) : IsT R ρ' w (renTv f l) u := by
  cases l with
  | lf l => exact Is.ren hi hF hr
  | agg cs => obtain ⟨us, hu, ha⟩ := hi; exact ⟨us, hu, ren_all ha hF hr⟩
  | tup vs => obtain ⟨us, hu, ha⟩ := hi; exact ⟨us, hu, ha.map_left fun l hl u hi => hi.ren hF fun h hh => hr h (mem_avsH hl hh)⟩
  | un => exact hi
theorem EntOk.ren {ρ ρ' : Ow} {w : World} {b : Bk} {f : Nat → Nat} {e : Ent R.D} (hi : EntOk R ρ w b e) (hF : ∀ b, ρ'.F b → ρ.F b) (hr : ∀ h ∈ entH e, ∀ b, ρ.r[h]? = some b → ρ'.r[f h]? = some b) : EntOk R ρ' w b (renEnt f e) := by
  have rows : ∀ {c : Nat} {l : List (R.D c)} {us : List Value}, All2 (Is R ρ w) (encs R c l) us → All2 (Is R ρ' w) (encs R c l) us := by
    intro c l us ha
    have hfree : ∀ a ∈ encs R c l, lfH a = [] := by
      intro a hm
      clear hi ha
      induction l with
      | nil => simp [encs] at hm
      | cons x l ih =>
        simp only [encs, List.mem_append] at hm
        rcases hm with hm | hm
        · exact free_none (List.all_eq_true.1 (R.free c x) a hm)
        · exact ih hm
    have := ha.map_left (g := renLf f) (r := Is R ρ' w) fun a hm u hu => hu.ren hF fun h hh => by rw [hfree a hm] at hh; simp at hh
    rwa [show (encs R c l).map (renLf f) = encs R c l from by
      conv => rhs; rw [← List.map_id (encs R c l)]
      exact List.map_congr_left fun a hm => by rw [ren_none (hfree a hm)]; rfl] at this
  cases b with
  | blk b =>
    cases e with
    | blk cs t => obtain ⟨us, hu, ha⟩ := hi; exact ⟨us, hu, ren_all ha hF hr⟩
    | row c l t => exact hi
    | mp l => exact hi
    | dead => trivial
  | row b cap len =>
    cases e with
    | blk cs t => exact hi
    | row c l t => obtain ⟨h1, h2, h2', us, zs, hu, ha, h3⟩ := hi; exact ⟨h1, h2, h2', us, zs, hu, rows ha, h3⟩
    | mp l => exact hi
    | dead => trivial
  | nil =>
    cases e with
    | blk cs t => exact hi
    | row c l t => exact hi
    | mp l => exact hi
    | dead => trivial
theorem EntOk.none {ρ : Ow} {w : World} {b : Bk} : EntOk R ρ w b (.dead : Ent R.D) := by cases b <;> trivial
theorem renEnt_live {f : Nat → Nat} {e : Ent R.D} : (renEnt f e).live ↔ e.live := by cases e <;> exact Iff.rfl
theorem renEnt_dead {f : Nat → Nat} {e : Ent R.D} : renEnt f e = .dead ↔ e = .dead := by cases e <;> simp [renEnt]

theorem ren_id (l : Lf R.D) : renLf (fun h => h) l = l := by
  cases l <;> simp [renLf]
theorem ren_fun : (renLf fun h => h : Lf R.D → Lf R.D) = id := funext ren_id
theorem ren_idA (l : Av R.D) : renAv (fun h => h) l = l := by
  cases l <;> simp [renAv, ren_id, ren_fun]
theorem ren_funA : (renAv fun h => h : Av R.D → Av R.D) = id := funext ren_idA
theorem ren_idT (l : Tv R.D) : renTv (fun h => h) l = l := by
  cases l <;> simp [renTv, ren_id, ren_fun, ren_funA]
theorem ren_idE (l : Ent R.D) : renEnt (fun h => h) l = l := by
  cases l <;> simp [renEnt, ren_fun]
theorem IsT.to {ρ ρ' : Ow} {w : World} {l : Tv R.D} {u : Value} (hi : IsT R ρ w l u) (hF : ∀ b, ρ'.F b → ρ.F b) (hr : ∀ h ∈ tvH l, ∀ b, ρ.r[h]? = some b → ρ'.r[h]? = some b) : IsT R ρ' w l u := by
  have := hi.ren (f := fun h => h) hF hr
  rwa [ren_idT] at this
theorem EntOk.to {ρ ρ' : Ow} {w : World} {b : Bk} {e : Ent R.D} (hi : EntOk R ρ w b e) (hF : ∀ b, ρ'.F b → ρ.F b) (hr : ∀ h ∈ entH e, ∀ b, ρ.r[h]? = some b → ρ'.r[h]? = some b) : EntOk R ρ' w b e := by
  have := hi.ren (f := fun h => h) hF hr
  rwa [ren_idE] at this
theorem lfH_ren {f : Nat → Nat} (l : Lf R.D) : lfH (renLf f l) = (lfH l).map f := by
  cases l <;> simp [lfH, renLf]
theorem lfsH_ren {f : Nat → Nat} : ∀ (cs : List (Lf R.D)), lfsH (cs.map (renLf f)) = (lfsH cs).map f
  | [] => rfl
  | c :: cs => by simp [lfsH, lfH_ren, lfsH_ren cs]
theorem avH_ren {f : Nat → Nat} (l : Av R.D) : avH (renAv f l) = (avH l).map f := by
  cases l <;> simp [avH, renAv, lfH_ren, lfsH_ren]
theorem avsH_ren {f : Nat → Nat} : ∀ (cs : List (Av R.D)), avsH (cs.map (renAv f)) = (avsH cs).map f
  | [] => rfl
  | c :: cs => by simp [avsH, avH_ren, avsH_ren cs]
theorem tvH_ren {f : Nat → Nat} (l : Tv R.D) : tvH (renTv f l) = (tvH l).map f := by
  cases l <;> simp [tvH, renTv, lfH_ren, lfsH_ren, avsH_ren]
theorem entH_ren {f : Nat → Nat} (l : Ent R.D) : entH (renEnt f l) = (entH l).map f := by
  cases l <;> simp [entH, renEnt, lfsH_ren]
theorem entsH_ren {f : Nat → Nat} : ∀ (m : List (Ent R.D)), entsH (m.map (renEnt f)) = (entsH m).map f
  | [] => rfl
  | e :: m => by simp [entsH, entH_ren, entsH_ren m]
/-! ### A part of memory -/
def memB (h : Nat) : List Nat → Bool
  | [] => false
  | a :: l => match Nat.beq a h with
    | true => true
    | false => memB h l
theorem memB_iff {h : Nat} : ∀ {l : List Nat}, memB h l = true ↔ h ∈ l
  | [] => by simp [memB]
  | a :: l => by
    simp only [memB, List.mem_cons]
    split
    · rename_i he
      simp [Nat.eq_of_beq_eq_true he]
    · rename_i he
      have : a ≠ h := fun e => by subst e; simp at he
      rw [memB_iff]
      exact ⟨.inr, fun h1 => h1.resolve_left (Ne.symm this)⟩
def allB (s : List Nat) : List Nat → Bool
  | [] => true
  | a :: l => match memB a s with
    | true => allB s l
    | false => false
theorem allB_ok {s : List Nat} : ∀ {l : List Nat}, allB s l = true → ∀ h ∈ l, h ∈ s
  | [], _, h, hm => by simp at hm
  | a :: l, hb, h, hm => by
    simp only [allB] at hb
    split at hb
    · rename_i h0
      rcases List.mem_cons.1 hm with rfl | hm
      · exact memB_iff.1 h0
      · exact allB_ok hb h hm
    · cases hb
def nodupB : List Nat → Bool
  | [] => true
  | a :: l => match memB a l with
    | true => false
    | false => nodupB l
theorem nodupB_ok : ∀ {l : List Nat}, nodupB l = true → l.Nodup
  | [], _ => .nil
  | a :: l, h => by
    simp only [nodupB] at h
    split at h
    · cases h
    · rename_i h0
      rw [List.nodup_cons]
      exact ⟨fun hm => (by rw [memB_iff.2 hm] at h0; exact Bool.noConfusion h0), nodupB_ok h⟩
def idx : List Nat → Nat → Nat
  | [], _ => 0
  | a :: l, h => match Nat.beq a h with
    | true => 0
    | false => idx l h + 1
theorem idx_ok {h : Nat} : ∀ {l : List Nat}, h ∈ l → l[idx l h]? = some h
  | a :: l, hm => by
    simp only [idx]
    split
    · rename_i he; simp [Nat.eq_of_beq_eq_true he]
    · rename_i he
      have : a ≠ h := fun e => by subst e; simp at he
      simpa using idx_ok ((List.mem_cons.1 hm).resolve_left (Ne.symm this))
def hsAt {D : Nat → Type} (m : List (Ent D)) (h : Nat) : List Nat := match m[h]? with
  | some e => entH e
  | none => []
/-- All blocks that one comes to. -/
def clo {D : Nat → Type} (m : List (Ent D)) : Nat → List Nat → List Nat → List Nat
  | 0, done, _ => done
  | _ + 1, done, [] => done
  | g + 1, done, h :: todo => match memB h done with
    | true => clo m g done todo
    | false => clo m g (done ++ [h]) (todo ++ hsAt m h)
def ents {D : Nat → Type} (m : List (Ent D)) : List Nat → Option (List (Ent D))
  | [] => some []
  | h :: r => match m[h]? with
    | some e => match ents m r with
      | some l => some (e :: l)
      | none => none
    | none => none
theorem ents_ok {D : Nat → Type} {m : List (Ent D)} : ∀ {s : List Nat} {l : List (Ent D)}, ents m s = some l → l.length = s.length ∧ ∀ (i h : Nat), s[i]? = some h → l[i]? = m[h]? ∧ h < m.length
  | [], l, h => by simp only [ents, Option.some.injEq] at h; subst h; exact ⟨rfl, fun i h hi => by simp at hi⟩
  | a :: s, l, h => by
    simp only [ents] at h
    split at h
    · rename_i e he
      split at h
      · rename_i r hr
        simp only [Option.some.injEq] at h
        subst h
        obtain ⟨h0, h1⟩ := ents_ok hr
        refine ⟨by simp [h0], fun i q hi => ?_⟩
        cases i with
        | zero => simp only [List.getElem?_cons_zero, Option.some.injEq] at hi; subst hi; exact ⟨by simp [he], (List.getElem?_eq_some_iff.1 he).1⟩
        | succ i => simpa using h1 i q (by simpa using hi)
      · exact none_some h
    · exact none_some h
def liveB {D : Nat → Type} (m : List (Ent D)) : List Nat → Bool
  | [] => true
  | h :: l => match m[h]? with
    | some .dead => false
    | some _ => liveB m l
    | none => false
def Live {D : Nat → Type} (m : List (Ent D)) (h : Nat) : Prop := ∃ e, m[h]? = some e ∧ e.live
theorem liveB_ok {D : Nat → Type} {m : List (Ent D)} : ∀ {l : List Nat}, liveB m l = true → ∀ h ∈ l, Live m h
  | [], _, h, hm => by simp at hm
  | a :: l, hb, h, hm => by
    unfold liveB at hb
    split at hb
    · cases hb
    · rename_i e he hd
      rcases List.mem_cons.1 hm with rfl | hm
      · exact ⟨e, hd, by cases e <;> first | trivial | exact absurd rfl he⟩
      · exact liveB_ok hb h hm
    · cases hb
def locAt {D : Nat → Type} (vs : List (Tv D)) (m : List (Ent D)) (K : List Nat → List (Tv D) → List (Ent D) → Option X) (s : List Nat) : Option X :=
  match nodupB s with
  | true => match ents m s with
    | some l => match allB s (tvsH vs) with
      | true => match allB s (entsH l) with
        | true => match liveB m (tvsH vs) with
          | true => match liveB m (entsH l) with
            | true => K s (vs.map (renTv (idx s))) (l.map (renEnt (idx s)))
            | false => none
          | false => none
        | false => none
      | false => none
    | none => none
  | false => none
def loc {D : Nat → Type} (pre : List Nat) (vs : List (Tv D)) (m : List (Ent D)) (K : List Nat → List (Tv D) → List (Ent D) → Option X) : Option X := locAt vs m K (clo m 1000 [] (pre ++ tvsH vs))
/-- The blocks of a part. -/
def subBk {D : Nat → Type} (ρ : Ow) (m : List (Ent D)) (h : Nat) : Bk := match m[h]? with
  | some .dead => .nil
  | _ => ρ.r.getD h .nil
def Ow.sub {D : Nat → Type} (ρ : Ow) (m : List (Ent D)) (s : List Nat) : Ow := ⟨ρ.F, s.map (subBk ρ m)⟩
theorem sub_at {ρ : Ow} {m : List (Ent R.D)} {s : List Nat} {i h : Nat} (hi : s[i]? = some h) (hl : Live m h) (hlen : ρ.r.length = m.length) : (ρ.sub m s).r[i]? = ρ.r[h]? := by
  obtain ⟨e, he, hl⟩ := hl
  have hlt : h < ρ.r.length := by rw [hlen]; exact (List.getElem?_eq_some_iff.1 he).1
  show (s.map _)[i]? = _
  rw [List.getElem?_map, hi, List.getElem?_eq_getElem hlt]
  simp only [Option.map_some, subBk, he, Option.some.injEq]
  cases e with
  | dead => exact hl.elim
  | _ => simp [List.getD, List.getElem?_eq_getElem hlt]
theorem sub_dead {ρ : Ow} {m : List (Ent R.D)} {s : List Nat} {i h : Nat} (hi : s[i]? = some h) (hd : m[h]? = some .dead) : (ρ.sub m s).r[i]? = some .nil := by
  show (s.map _)[i]? = _
  rw [List.getElem?_map, hi]
  simp [subBk, hd]
/-- A part of memory. -/
structure Sel (m : List (Ent R.D)) (s : List Nat) (m' : List (Ent R.D)) : Prop where
  nd : s.Nodup
  lt : ∀ q ∈ s, q < m.length
  len : m'.length = s.length
  get : ∀ (i h : Nat), s[i]? = some h → m'[i]? = (m[h]?).map (renEnt (idx s))
theorem Sel.held {ρ : Ow} {m m' : List (Ent R.D)} {s : List Nat} (h : Sel m s m') (hlen : ρ.r.length = m.length) {i : Nat} {q : Bk} {e : Ent R.D} (hi : (ρ.sub m s).r[i]? = some q) (he : m'[i]? = some e) (hl : e.live) : ∃ k e', s[i]? = some k ∧ ρ.r[k]? = some q ∧ m[k]? = some e' ∧ e'.live ∧ e = renEnt (idx s) e' := by
  have hlt : i < s.length := by rw [← h.len]; exact (List.getElem?_eq_some_iff.1 he).1
  have hs := List.getElem?_eq_getElem hlt
  have h1 := h.get i _ hs
  rw [he] at h1
  obtain ⟨e', he', h2⟩ := Option.map_eq_some_iff.1 h1.symm
  have hl' : e'.live := by rw [← h2] at hl; exact renEnt_live.1 hl
  rw [sub_at hs ⟨e', he', hl'⟩ hlen] at hi
  exact ⟨_, e', hs, hi, he', hl', h2.symm⟩
theorem Sel.Held {ρ : Ow} {m m' : List (Ent R.D)} {s : List Nat} (h : Sel m s m') (hlen : ρ.r.length = m.length) {b : Nat} (hb : Held (ρ.sub m s) m' b) : Held ρ m b := by
  obtain ⟨i, q, e, hi, he, hl, hq⟩ := hb
  obtain ⟨k, e', _, h2, h3, h4, _⟩ := h.held hlen hi he hl
  exact ⟨k, q, e', h2, h3, h4, hq⟩
theorem loc_ok {pre : List Nat} {vs : List (Tv R.D)} {m : List (Ent R.D)} {K : List Nat → List (Tv R.D) → List (Ent R.D) → Option X} {x : X} (h : loc pre vs m K = some x) :
    ∃ s vs' m', K s vs' m' = some x ∧ Sel m s m' ∧ (∀ v ∈ vs', ∀ q ∈ tvH v, Live m' q) ∧ (∀ q ∈ entsH m', Live m' q) ∧ ∀ ρ w (us : List Value), Rel R ρ m w → All2 (IsT R ρ w) vs us → Rel R (ρ.sub m s) m' w ∧ All2 (IsT R (ρ.sub m s) w) vs' us := by
  unfold loc at h
  generalize clo m 1000 [] (pre ++ tvsH vs) = s at h
  unfold locAt at h
  split at h
  case h_2 => exact none_some h
  rename_i hnd
  have hnd := nodupB_ok hnd
  split at h
  case h_2 => exact none_some h
  rename_i l hl
  obtain ⟨hlen, hget⟩ := ents_ok hl
  split at h
  case h_2 => exact none_some h
  rename_i hv
  have hv := allB_ok hv
  split at h
  case h_2 => exact none_some h
  rename_i he
  have he := allB_ok he
  split at h
  case h_2 => exact none_some h
  rename_i hlv
  have hlv := liveB_ok hlv
  split at h
  case h_2 => exact none_some h
  rename_i hle
  have hle := liveB_ok hle
  have hsel : Sel m s (l.map (renEnt (idx s))) := by
    refine ⟨hnd, fun q hq => ?_, by simp [hlen], fun i k hi => ?_⟩
    · obtain ⟨i, hi⟩ := List.getElem?_of_mem hq
      exact (hget i q hi).2
    · rw [List.getElem?_map, (hget i k hi).1]
  have hlive : ∀ q ∈ s, Live m q → Live (l.map (renEnt (idx s))) (idx s q) := fun q hq ⟨e, he, hl⟩ => by
    refine ⟨renEnt (idx s) e, ?_, renEnt_live.2 hl⟩
    rw [hsel.get _ _ (idx_ok hq), he]
    rfl
  refine ⟨s, _, _, h, hsel, fun v hvm q hq => ?_, fun q hq => ?_, fun ρ w us hr ha => ?_⟩
  · obtain ⟨v0, hv0, rfl⟩ := List.mem_map.1 hvm
    rw [tvH_ren] at hq
    obtain ⟨q0, hq0, rfl⟩ := List.mem_map.1 hq
    have := mem_tvsH hv0 hq0
    exact hlive q0 (hv q0 this) (hlv q0 this)
  · rw [entsH_ren] at hq
    obtain ⟨q0, hq0, rfl⟩ := List.mem_map.1 hq
    exact hlive q0 (he q0 hq0) (hle q0 hq0)
  have hren : ∀ q ∈ s, Live m q → ∀ b, ρ.r[q]? = some b → (ρ.sub m s).r[idx s q]? = some b := fun q hq hl b hb => by rw [sub_at (idx_ok hq) hl hr.len]; exact hb
  refine ⟨⟨?_, ?_, hr.lt, ?_, ?_⟩, ha.map_left fun a haM u hu => hu.ren (fun _ h => h) fun q hq => hren q (hv q (mem_tvsH haM hq)) (hlv q (mem_tvsH haM hq))⟩
  · show (s.map _).length = _
    simp [hlen]
  · intro i j p q e e' b hi hj hie hje hl1 hl2 hp hq
    obtain ⟨k1, e1, a1, a2, a3, a4, _⟩ := hsel.held hr.len hi hie hl1
    obtain ⟨k2, e2, b1, b2, b3, b4, _⟩ := hsel.held hr.len hj hje hl2
    have := hr.nd k1 k2 p q e1 e2 b a2 b2 a3 b3 a4 b4 hp hq
    subst this
    exact (List.getElem?_inj (List.getElem?_eq_some_iff.1 a1).1 hnd).1 (a1.trans b1.symm)
  · intro b hb
    exact hr.fits b (hsel.Held hr.len hb)
  · intro i b e hi hie
    by_cases hlive' : e.live
    · obtain ⟨k, e', h1, h2, h3, h4, rfl⟩ := hsel.held hr.len hi hie hlive'
      refine (hr.ok k b e' h2 h3).ren (fun _ h => h) fun q hq => ?_
      have hm : e' ∈ l := by
        have := (hget i k h1).1
        rw [h3] at this
        exact List.mem_of_getElem? this
      exact hren q (he q (mem_entsH hm hq)) (hle q (mem_entsH hm hq))
    · cases e with
      | dead => exact EntOk.none
      | _ => exact absurd trivial hlive'

/-! ### And back -/
def back (s : List Nat) (M : Nat) (i : Nat) : Nat := match s[i]? with
  | some h => h
  | none => M + (i - s.length)
def appM {D : Nat → Type} (m : List (Ent D)) : List (Ent D) → List (Ent D)
  | [] => m
  | e :: es => m ++ e :: es
theorem appM_eq {D : Nat → Type} (m es : List (Ent D)) : appM m es = m ++ es := by cases es <;> simp [appM]
def mergeM {D : Nat → Type} : List (Ent D) → List Nat → List (Ent D) → List (Ent D)
  | m, [], es => appM m es
  | m, _ :: _, [] => m
  | m, h :: s, e :: es => mergeM (m.set h e) s es
theorem mergeM_len {D : Nat → Type} : ∀ (s : List Nat) (m es : List (Ent D)), s.length ≤ es.length → (mergeM m s es).length = m.length + (es.length - s.length)
  | [], m, es, _ => by simp [mergeM, appM_eq]
  | h :: s, m, [], hl => by simp at hl
  | h :: s, m, e :: es, hl => by
    simp only [mergeM]
    rw [mergeM_len s _ es (by simpa using hl)]
    simp
theorem mergeM_far {D : Nat → Type} : ∀ (s : List Nat) (m es : List (Ent D)) (j : Nat), j ∉ s → j < m.length → (mergeM m s es)[j]? = m[j]?
  | [], m, es, j, _, hj => by simp [mergeM, appM_eq, List.getElem?_append_left hj]
  | h :: s, m, [], j, _, _ => by simp [mergeM]
  | h :: s, m, e :: es, j, hn, hj => by
    simp only [List.mem_cons, not_or] at hn
    simp only [mergeM]
    rw [mergeM_far s _ es j hn.2 (by simpa using hj), List.getElem?_set_ne (Ne.symm hn.1)]
theorem mergeM_at {D : Nat → Type} : ∀ (s : List Nat) (m es : List (Ent D)) (i j : Nat), s.Nodup → s[i]? = some j → j < m.length → s.length ≤ es.length → (mergeM m s es)[j]? = es[i]?
  | [], m, es, i, j, _, hi, _, _ => by simp at hi
  | h :: s, m, [], i, j, _, _, _, hl => by simp at hl
  | h :: s, m, e :: es, i, j, hnd, hi, hj, hl => by
    rw [List.nodup_cons] at hnd
    simp only [mergeM]
    cases i with
    | zero =>
      simp only [List.getElem?_cons_zero, Option.some.injEq] at hi
      subst hi
      rw [mergeM_far s _ es h hnd.1 (by simpa using hj), List.getElem?_set_self hj, List.getElem?_cons_zero]
    | succ i =>
      rw [mergeM_at s _ es i j hnd.2 (by simpa using hi) (by simpa using hj) (by simpa using hl), List.getElem?_cons_succ]
theorem mergeM_new {D : Nat → Type} : ∀ (s : List Nat) (m es : List (Ent D)) (k : Nat), s.length ≤ es.length → (mergeM m s es)[m.length + k]? = es[s.length + k]?
  | [], m, es, k, _ => by
    simp only [mergeM, appM_eq, List.length_nil, Nat.zero_add]
    rw [List.getElem?_append_right (by omega), show m.length + k - m.length = k by omega]
  | h :: s, m, [], k, hl => by simp at hl
  | h :: s, m, e :: es, k, hl => by
    simp only [mergeM]
    have := mergeM_new s (m.set h e) es k (by simpa using hl)
    rw [List.length_set] at this
    rw [this, List.length_cons, show s.length + 1 + k = (s.length + k) + 1 by omega, List.getElem?_cons_succ]
theorem back_ok {ρ ρ1 : Ow} {m m' mm : List (Ent R.D)} {s : List Nat} {w w' : World} (hr : Rel R ρ m w) (hsel : Sel m s m') (hlive : ∀ q ∈ s, Live m q) (hg : Go R (ρ.sub m s) m' w ρ1 mm w') (hr' : Rel R ρ1 mm w') :
    ∃ ρ2, Go R ρ m w ρ2 (mergeM m s (mm.map (renEnt (back s m.length)))) w' ∧ Rel R ρ2 (mergeM m s (mm.map (renEnt (back s m.length)))) w' ∧ ∀ v u, IsT R ρ1 w' v u → IsT R ρ2 w' (renTv (back s m.length) v) u := by
  have hsl : ∀ {i : Nat}, i < s.length → ∃ k, s[i]? = some k ∧ Live m k ∧ k < m.length := fun {i} hi => ⟨s[i], List.getElem?_eq_getElem hi, hlive _ (List.getElem_mem hi), hsel.lt _ (List.getElem_mem hi)⟩
  have hlenr : (ρ.sub m s).r.length = s.length := by simp [Ow.sub]
  have hge : s.length ≤ mm.length := by
    rw [← hr'.len]
    rcases Nat.lt_or_ge ρ1.r.length s.length with h | h
    · obtain ⟨k, h1, h2, _⟩ := hsl h
      have h3 := List.getElem?_eq_getElem (l := (ρ.sub m s).r) (i := ρ1.r.length) (by rw [hlenr]; exact h)
      have := (List.getElem?_eq_some_iff.1 (hg.ext.pre _ _ h3)).1
      omega
    · exact h
  have hr1 : ∀ {i k : Nat}, s[i]? = some k → ρ1.r[i]? = ρ.r[k]? := fun {i k} hi => by
    have hk := hlive k (List.mem_of_getElem? hi)
    have hkl : k < ρ.r.length := by rw [hr.len]; exact hsel.lt k (List.mem_of_getElem? hi)
    have h1 := sub_at (ρ := ρ) hi hk hr.len
    rw [List.getElem?_eq_getElem hkl] at h1 ⊢
    exact hg.ext.pre _ _ h1
  let ρ2 : Ow := ⟨ρ1.F, ρ.r ++ ρ1.r.drop s.length⟩
  have hold : ∀ {j : Nat}, j < m.length → ρ2.r[j]? = ρ.r[j]? := fun {j} hj => by
    show (ρ.r ++ _)[j]? = _
    rw [List.getElem?_append_left (by rw [hr.len]; exact hj)]
  have hnew : ∀ k, ρ2.r[m.length + k]? = ρ1.r[s.length + k]? := fun k => by
    show (ρ.r ++ _)[_]? = _
    rw [List.getElem?_append_right (by rw [hr.len]; omega), hr.len, show m.length + k - m.length = k by omega, List.getElem?_drop]
  have hren : ∀ (q : Nat) (b : Bk), ρ1.r[q]? = some b → ρ2.r[back s m.length q]? = some b := by
    intro q b hq
    unfold back
    by_cases hqs : q < s.length
    · obtain ⟨k, h1, _, h2⟩ := hsl hqs
      rw [h1]
      dsimp only
      rw [hold h2, ← hr1 h1]
      exact hq
    · rw [List.getElem?_eq_none (Nat.le_of_not_lt hqs)]
      dsimp only
      rw [hnew, show s.length + (q - s.length) = q by omega]
      exact hq
  let M := mergeM m s (mm.map (renEnt (back s m.length)))
  have hM : M = mergeM m s (mm.map (renEnt (back s m.length))) := rfl
  have hMlen : M.length = m.length + (mm.length - s.length) := by rw [hM, mergeM_len _ _ _ (by simpa using hge)]; simp
  -- what stands in the merged memory
  have cases3 : ∀ {j : Nat} {p : Bk} {e : Ent R.D}, ρ2.r[j]? = some p → M[j]? = some e → (j < m.length ∧ j ∉ s ∧ ρ.r[j]? = some p ∧ m[j]? = some e) ∨ ∃ i e', ρ1.r[i]? = some p ∧ mm[i]? = some e' ∧ e = renEnt (back s m.length) e' ∧ j = back s m.length i := by
    intro j p e hj he
    by_cases hjm : j < m.length
    · rw [hold hjm] at hj
      by_cases hjs : j ∈ s
      · obtain ⟨i, hi⟩ := List.getElem?_of_mem hjs
        rw [hM, mergeM_at _ _ _ i j hsel.nd hi hjm (by simpa using hge), List.getElem?_map, Option.map_eq_some_iff] at he
        obtain ⟨e', he', rfl⟩ := he
        exact .inr ⟨i, e', by rw [hr1 hi]; exact hj, he', rfl, by simp [back, hi]⟩
      · rw [hM, mergeM_far _ _ _ j hjs hjm] at he
        exact .inl ⟨hjm, hjs, hj, he⟩
    · obtain ⟨k, rfl⟩ : ∃ k, j = m.length + k := ⟨j - m.length, by omega⟩
      rw [hnew] at hj
      rw [hM, mergeM_new _ _ _ _ (by simpa using hge), List.getElem?_map, Option.map_eq_some_iff] at he
      obtain ⟨e', he', rfl⟩ := he
      exact .inr ⟨_, e', hj, he', rfl, by
        unfold back
        rw [List.getElem?_eq_none (by omega)]
        dsimp only
        omega⟩
  have far : ∀ {j : Nat} {p : Bk} {e : Ent R.D} {b : Nat}, j ∉ s → ρ.r[j]? = some p → m[j]? = some e → e.live → p.b? = some b → ¬ Held (ρ.sub m s) m' b := by
    intro j p e b hjs hj he hl hp ⟨i, q, e', hi, hie, hl', hq⟩
    obtain ⟨k, e'', h1, h2, h3, h4, _⟩ := hsel.held hr.len hi hie hl'
    have := hr.nd j k p q e e'' b hj h2 he h3 hl h4 hp hq
    subst this
    exact hjs (List.mem_of_getElem? h1)
  have hheld : ∀ b, Held ρ2 M b → Held ρ m b ∨ w.heap.size ≤ b := by
    intro b ⟨j, p, e, hj, he, hl, hp⟩
    rcases cases3 hj he with ⟨_, _, h1, h2⟩ | ⟨i, e', h1, h2, rfl, _⟩
    · exact .inl ⟨j, p, e, h1, h2, hl, hp⟩
    · rcases hg.ext.held b ⟨i, p, e', h1, h2, renEnt_live.1 hl, hp⟩ with h | h
      · exact .inl (hsel.Held hr.len h)
      · exact .inr h
  have hle : Le ρ w ρ2 := ⟨fun j q hj => by
    rw [hold (by rw [← hr.len]; exact (List.getElem?_eq_some_iff.1 hj).1)]; exact hj, fun b hb => hg.ext.F1 b hb⟩
  have hf : Fr (Held ρ m) w w' := hg.fr.imp fun b hb => hsel.Held hr.len hb
  refine ⟨ρ2, ⟨⟨hle, fun b hb hn => hg.ext.F2 b hb fun h => hn (hsel.Held hr.len h), hheld, fun j hj => ?_⟩, hf⟩, ⟨?_, ?_, hr'.lt, ?_, ?_⟩, fun v u hv => hv.ren (fun b h => h) fun q _ b hb => hren q b hb⟩
  · have hjs : j ∉ s := fun h => by
      obtain ⟨e, he, hl⟩ := hlive j h
      rw [hj, Option.some.injEq] at he
      subst he
      exact hl
    rw [mergeM_far _ _ _ j hjs (List.getElem?_eq_some_iff.1 hj).1]
    exact hj
  · show (ρ.r ++ ρ1.r.drop s.length).length = M.length
    rw [hMlen, List.length_append, List.length_drop, hr.len, hr'.len]
  · intro i j p q e e' b hi hj hie hje hl1 hl2 hp hq
    rcases cases3 hi hie with ⟨_, s1, h1, h2⟩ | ⟨i1, e1, h1, h2, rfl, rfl⟩
    · rcases cases3 hj hje with ⟨_, s2, h3, h4⟩ | ⟨i2, e2, h3, h4, rfl, rfl⟩
      · exact hr.nd i j p q e e' b h1 h3 h2 h4 hl1 hl2 hp hq
      · exfalso
        rcases hg.ext.held b ⟨i2, q, e2, h3, h4, renEnt_live.1 hl2, hq⟩ with h | h
        · exact far s1 h1 h2 hl1 hp h
        · have := hr.lt b (hr.fits b ⟨i, p, e, h1, h2, hl1, hp⟩); omega
    · rcases cases3 hj hje with ⟨_, s2, h3, h4⟩ | ⟨i2, e2, h3, h4, rfl, rfl⟩
      · exfalso
        rcases hg.ext.held b ⟨i1, p, e1, h1, h2, renEnt_live.1 hl1, hp⟩ with h | h
        · exact far s2 h3 h4 hl2 hq h
        · have := hr.lt b (hr.fits b ⟨j, q, e', h3, h4, hl2, hq⟩); omega
      · rw [hr'.nd i1 i2 p q e1 e2 b h1 h3 h2 h4 (renEnt_live.1 hl1) (renEnt_live.1 hl2) hp hq]
  · intro b ⟨j, p, e, hj, he, hl, hp⟩
    rcases cases3 hj he with ⟨_, s1, h1, h2⟩ | ⟨i, e', h1, h2, rfl, _⟩
    · exact hg.ext.F2 b (hr.fits b ⟨j, p, e, h1, h2, hl, hp⟩) (far s1 h1 h2 hl hp)
    · exact hr'.fits b ⟨i, p, e', h1, h2, renEnt_live.1 hl, hp⟩
  · intro j p e hj he
    rcases cases3 hj he with ⟨_, s1, h1, h2⟩ | ⟨i, e', h1, h2, rfl, _⟩
    · refine (hr.ok j p e h1 h2).keep hf hr.fits hle fun b hb hl => ?_
      exact hg.fr.blk b (hr.lt b (hr.fits b ⟨j, p, e, h1, h2, hl, hb⟩)) (far s1 h1 h2 hl hb)
    · exact (hr'.ok i p e' h1 h2).ren (fun b h => h) fun q _ b hb => hren q b hb
end
end Go.Proofs.Ytjfcfljdojkcdaa.Ev
