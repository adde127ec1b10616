/- What is to be proved of RestrictSorted. -/
import Derived.Test.YtjfcfljdojkcdaaDQ
import Derived.Test.YtjfcfljdojkcdaaSl
namespace Go.Proofs.Ytjfcfljdojkcdaa.Q
open Go Go.RowKit Go.Proofs.Ytjfcfljdojkcdaa.Ev
set_option linter.unusedVariables false
set_option linter.unusedSimpArgs false
set_option maxRecDepth 100000
def okS26 (x : S26) : Prop := (Lit.int .u32 x.f0).wf = true ∧ (Lit.int .i64 x.f1).wf = true ∧ (Lit.int .i64 x.f2).wf = true
theorem insR_f0 (r : S26) (p : Int → Prop) (hr : p r.f0) : ∀ (o : List S26), (∀ x ∈ o, p x.f0) → ∀ x ∈ insR o r, p x.f0
  | [], _, x, hx => by
    have : x = r := by simpa [insR] using hx
    rw [this]; exact hr
  | y :: o, h, x, hx => by
    have hy := h y List.mem_cons_self
    have ho : ∀ x ∈ o, p x.f0 := fun x hx => h x (List.mem_cons_of_mem _ hx)
    simp only [insR] at hx
    split at hx
    · rcases List.mem_cons.1 hx with rfl | hx
      · exact hy
      · exact insR_f0 r p hr o ho x hx
    · split at hx
      · rcases List.mem_cons.1 hx with rfl | hx
        · exact hr
        · exact h x hx
      · rcases List.mem_cons.1 hx with rfl | hx
        · exact hy
        · exact ho x hx
theorem fold_f0 (p : Int → Prop) : ∀ (l o : List S26), (∀ x ∈ l, p x.f0) → (∀ x ∈ o, p x.f0) → ∀ x ∈ l.foldl insR o, p x.f0
  | [], o, _, ho => ho
  | r :: l, o, hl, ho => fold_f0 p l (insR o r) (fun x hx => hl x (List.mem_cons_of_mem _ hx)) (insR_f0 r p (hl r List.mem_cons_self) o ho)
theorem okR_of (x : S26) (h0 : (Lit.int .u32 x.f0).wf = true) (hv : V x) : okR x := by
  unfold V at hv
  refine ⟨h0, ?_, ?_⟩ <;> simp [Lit.wf, IntKind.min, IntKind.max, IntKind.signed, IntKind.bits] <;> omega
def big (n : Nat) : Prop := n ≤ 35184372089832
theorem rs_l1 (l a : List S26) (hl : ∀ r ∈ l, okR r) (ha : ∀ r ∈ a, okR r) (hnl : l.length ≤ 6000000000000) (hna : a.length ≤ 6000000000000) (hs : ∀ D, said D a = said D l) (X : List Int) (hX : ∀ x ∈ X, 0 ≤ x ∧ x ≤ 4294967295) (hb : big X.length) : ∀ (d i : Nat), i + d = X.length → Ev (fun k => foliotlaw06_RestrictSorted.l1 k l X (X.length : Int) (i : Int) a) true
  | 0, i, hd => by
    refine Ev.succ fun k => ?_
    rw [foliotlaw06_RestrictSorted.l1, if_neg (by omega)]
  | d + 1, i, hd => by
    have hi : i < X.length := by omega
    have hm := hX _ (List.getElem_mem hi)
    have e : rd X (i : Int) = X[i] := by simp [rd, hi]
    obtain ⟨D, hD⟩ : ∃ D : Nat, X[i] = (D : Int) := ⟨X[i].toNat, by omega⟩
    rw [hD] at e hm
    have c1 : (i : Int) < (X.length : Int) := by omega
    have c0 : (0 : Int) ≤ (i : Int) := by omega
    refine Ev.step (fun k => by rw [foliotlaw06_RestrictSorted.l1, if_pos c1, if_pos c0, if_pos c1, e]) ?_
    refine Ev.bind (f := fun k t => _) (ev_match D (by omega) a ha hna) ?_
    refine Ev.bind (f := fun k t => _) (ev_match D (by omega) l hl hnl) ?_
    rw [hs D]
    refine Ev.congr (fun k => if_neg (fun h => h rfl)) ?_
    rw [wrap_succ i (by unfold big at hb; omega)]
    exact rs_l1 l a hl ha hnl hna hs X hX hb d (i + 1) (by omega)
theorem xor_rng (x : Int) : 0 ≤ Go.bits .xor .u32 4294967295 x ∧ Go.bits .xor .u32 4294967295 x ≤ 4294967295 := by
  show 0 ≤ IntKind.u32.wrap _ ∧ IntKind.u32.wrap _ ≤ 4294967295
  rw [u32w]; omega
theorem rsl_l0 (l a : List S26) (hl : ∀ r ∈ l, okR r) (ha : ∀ r ∈ a, okR r) (hnl : l.length ≤ 32) (hna : a.length ≤ 6000000000000) (hs : ∀ D, said D a = said D l) : ∀ (d i : Nat) (X : List Int), i + d = l.length → X.length + 4 * d ≤ 35184372089232 → (∀ x ∈ X, 0 ≤ x ∧ x ≤ 4294967295) → Ev (fun k => foliotlaw06_RestrictSorted.l0 k l X l (l.length : Int) (i : Int) a) true
  | 0, i, X, hd, hX, hx => by
    refine Ev.step (fun k => by rw [foliotlaw06_RestrictSorted.l0, if_neg (by omega)]) ?_
    exact rs_l1 l a hl ha (by omega) hna hs X hx (by unfold big; omega) X.length 0 (by omega)
  | d + 1, i, X, hd, hX, hx => by
    have hi : i < l.length := by omega
    have hr := (wf32 (hl _ (List.getElem_mem hi)).1)
    have e := rdl l i hi
    generalize l[i].f0 = v at hr
    have c1 : (i : Int) < (l.length : Int) := by omega
    have c0 : (0 : Int) ≤ (i : Int) := by omega
    have hx4 := xor_rng (rdOf z_S26 l (i : Int)).f0
    have h1 : 0 ≤ ((rdOf z_S26 l (i : Int)).f0 + 1) % 4294967296 ∧ ((rdOf z_S26 l (i : Int)).f0 + 1) % 4294967296 ≤ 4294967295 := by omega
    have h2 : 0 ≤ ((rdOf z_S26 l (i : Int)).f0 - 1) % 4294967296 ∧ ((rdOf z_S26 l (i : Int)).f0 - 1) % 4294967296 ≤ 4294967295 := by omega
    have h3 : 0 ≤ (rdOf z_S26 l (i : Int)).f0 ∧ (rdOf z_S26 l (i : Int)).f0 ≤ 4294967295 := by
      rw [e]; exact wf32 (hl _ (List.getElem_mem hi)).1
    have hfit : (X.length + ([(rdOf z_S26 l (i : Int)).f0, (((rdOf z_S26 l (i : Int)).f0 + 1) % 4294967296), (((rdOf z_S26 l (i : Int)).f0 - 1) % 4294967296), (Go.bits .xor .u32 4294967295 (rdOf z_S26 l (i : Int)).f0)] : List Int).length + (X.length + ([(rdOf z_S26 l (i : Int)).f0, (((rdOf z_S26 l (i : Int)).f0 + 1) % 4294967296), (((rdOf z_S26 l (i : Int)).f0 - 1) % 4294967296), (Go.bits .xor .u32 4294967295 (rdOf z_S26 l (i : Int)).f0)] : List Int).length) / 4 + 512) * 4 ≤ 281474976710656 := by
      simp only [List.length_cons, List.length_nil]; omega
    have hwr := wrap_succ i (by omega)
    refine Ev.step (fun k => by rw [foliotlaw06_RestrictSorted.l0, if_pos c1, if_pos c0, if_pos c1, if_pos rfl, if_pos rfl, if_pos hfit, hwr]) ?_
    refine rsl_l0 l a hl ha hnl hna hs d (i + 1) _ (by omega) (by simp only [List.length_append, List.length_cons, List.length_nil]; omega) ?_
    intro x hm
    rcases List.mem_append.1 hm with hm | hm
    · exact hx x hm
    · simp only [List.mem_cons, List.not_mem_nil, or_false] at hm
      rcases hm with rfl | rfl | rfl | rfl
      · exact h3
      · exact h1
      · exact h2
      · exact hx4
namespace Pure
theorem RestrictSorted (a0 : List S26) (a1 : List Int) (h0 : (a0.length ≤ 9223372036854775807 ∧ a0.length * 24 ≤ 140737488351232 ∧ ∀ x ∈ a0, okS26 x)) (h1 : (a1.length ≤ 9223372036854775807 ∧ a1.length * 4 ≤ 140737488351232 ∧ ∀ x ∈ a1, (Lit.int .u32 x).wf = true)) : ∃ k, foliotlaw06_RestrictSorted.f k a0 a1 = some true := by
  have hl : ∀ r ∈ a0, okR r := h0.2.2
  have h1' : ∀ x ∈ a1, 0 ≤ x ∧ x ≤ 4294967295 := fun x hx => wf32 (h1.2.2 x hx)
  have h1n : a1.length ≤ 35184372088832 := by have := h1.2.1; omega
  clear h1 
  refine Ev.rounds (r := true) ?_
  unfold foliotlaw06_RestrictSorted.f
  refine Ev.bind (f := fun k t => _) ev_shown ?_
  refine Ev.congr (fun k => rfl) ?_
  refine Ev.bind (f := fun k t => _) (ev_sort a0 hl) ?_
  by_cases hz : (sortV a0).1 = 0
  · have hlen : ¬ a0.length > 32 := by
      intro h; unfold sortV at hz; rw [if_pos h] at hz; exact absurd hz (by decide)
    have hv : ∀ x ∈ a0, V x := by
      intro x hx
      by_cases c : V x
      · exact c
      · unfold sortV at hz; rw [if_neg hlen, if_pos ⟨x, hx, c⟩] at hz; exact absurd hz (by decide)
    rw [sortV_ok a0 hlen hv]
    refine Ev.congr (fun k => if_neg (fun h => h rfl)) ?_
    have hva := insR_fold_V a0 [] hv (by simp)
    have hf := fold_f0 (fun n => (Lit.int .u32 n).wf = true) a0 [] (fun x hx => (hl x hx).1) (by simp)
    have hao : ∀ x ∈ a0.foldl insR [], okR x := fun x hx => okR_of x (hf x hx) (hva x hx)
    have hal := insR_fold_len a0 []
    simp only [List.length_nil] at hal
    refine Ev.bind (f := fun k t => _) (ev_sort _ hao) ?_
    rw [sortV_again a0 hlen hv]
    refine Ev.congr (fun k => if_neg (fun h => h rfl)) ?_
    refine Ev.bind (f := fun k t => _) (ev_rules (a0.foldl insR []) (by omega)) ?_
    exact rsl_l0 a0 _ hl hao (by omega) (by omega) (fun D => said_sort D a0 hv) a0.length 0 a1 (by omega) (by omega) h1'
  · have := sortV_bad a0 hz
    refine Ev.congr (fun k => if_pos hz) ?_
    rw [this]
    exact Ev.now _
end Pure
end Go.Proofs.Ytjfcfljdojkcdaa.Q
