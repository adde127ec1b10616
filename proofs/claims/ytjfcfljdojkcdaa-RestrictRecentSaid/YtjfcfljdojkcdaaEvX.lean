/- The evaluator's appends, slices of slices, slices that are made, each sound. -/
import Derived.Test.YtjfcfljdojkcdaaEvW
namespace Go.Proofs.Ytjfcfljdojkcdaa.Ev
open Go Go.RowKit
set_option linter.unusedVariables false
set_option linter.unusedSimpArgs false
def repL {α : Type} : Nat → List α → List α
  | 0, _ => []
  | n + 1, l => l ++ repL n l
theorem repL_len {α : Type} (l : List α) : ∀ n, (repL n l).length = n * l.length
  | 0 => by simp [repL]
  | n + 1 => by simp [repL, repL_len l n, Nat.add_mul, Nat.add_comm]
theorem repL_get {α : Type} (l : List α) : ∀ (n k : Nat), k < n * l.length → (repL n l)[k]? = l[k % l.length]?
  | 0, k, h => by simp at h
  | n + 1, k, h => by
    rw [Nat.add_mul, Nat.one_mul] at h
    rw [repL]
    rcases Nat.lt_or_ge k l.length with hk | hk
    · rw [List.getElem?_append_left hk, Nat.mod_eq_of_lt hk]
    · rw [List.getElem?_append_right hk, repL_get l n (k - l.length) (by omega), Nat.mod_eq_sub_mod hk]
theorem zeros_rep (z : Array Value) (n : Nat) : ((Array.range (n * z.size)).map (fun j => z[j % z.size]!)).toList = repL n z.toList := by
  apply List.ext_getElem?
  intro k
  rcases Nat.lt_or_ge k (n * z.size) with h | h
  · have hz : 0 < z.size := Nat.pos_of_ne_zero fun e => by rw [e] at h; simp at h
    have hm : k % z.size < z.size := Nat.mod_lt _ hz
    rw [repL_get _ _ _ (by simpa using h)]
    simp [h, hm]
  · rw [List.getElem?_eq_none (by simpa using h), List.getElem?_eq_none (by rw [repL_len]; simpa using h)]
section
variable {R : Ro} {P : Program} {X : Type}
/-! ### append -/
/-- What is appended to: its elements, and the handle that is given up. -/
def rowE (m : List (Ent R.D)) (c e h : Nat) : Option (List (R.D c)) := match rowAt m c h with
  | some (l, t) => match Nat.beq t e with
    | true => some l
    | false => none
  | none => none
theorem rowE_ok {m : List (Ent R.D)} {c e h : Nat} {l : List (R.D c)} (hh : rowE m c e h = some l) : m[h]? = some (.row c l e) := by
  unfold rowE at hh
  split at hh
  · rename_i l' t hr
    split at hh
    · rename_i ht
      have := Nat.eq_of_beq_eq_true ht
      subst this
      cases hh
      exact rowAt_ok hr
    · cases hh
  · cases hh
def baseOf (m : List (Ent R.D)) (c e : Nat) : Tv R.D → Option (List (R.D c) × Option Nat)
  | .lf (.v (.slice none 0 0)) => some ([], none)
  | .lf (.row c0 h) => match Nat.beq c0 c with
    | true => match rowE m c e h with
      | some l => some (l, some h)
      | none => none
    | false => none
  | .lf (.sl c0 h o n) => match Nat.beq c0 c with
    | true => match Nat.beq o 0 with
      | true => match rowE m c e h with
        | some l => some (l.take n, some h)
        | none => none
      | false => none
    | false => none
  | _ => none
theorem baseOf_at {m : List (Ent R.D)} {c e : Nat} {us : Tv R.D} {l : List (R.D c)} {h : Nat} (hb : baseOf m c e us = some (l, some h)) : ∃ e0, m[h]? = some e0 := by
  unfold baseOf at hb
  split at hb
  · cases hb
  · split at hb
    · split at hb
      · rename_i hrow
        cases hb
        exact ⟨_, rowE_ok hrow⟩
      · cases hb
    · cases hb
  · split at hb
    · split at hb
      · split at hb
        · rename_i hrow
          cases hb
          exact ⟨_, rowE_ok hrow⟩
        · cases hb
      · cases hb
    · cases hb
  · cases hb
def killM (m : List (Ent R.D)) : Option Nat → List (Ent R.D)
  | some h => m.set h .dead
  | none => m
theorem killM_len (m : List (Ent R.D)) (h : Option Nat) : (killM m h).length = m.length := by cases h <;> simp [killM]
theorem nextcap_le (need cap : Nat) (h : cap < need) : Builtin.nextslicecap need cap ≤ 2 * need + 200 := by
  unfold Builtin.nextslicecap
  split
  · omega
  · split
    · omega
    · have : ∀ (r c : Nat), c < need → Builtin.growBy need r c ≤ need + (need + 768) / 4 := by
        intro r
        induction r with
        | zero => intro c hc; simp [Builtin.growBy]; omega
        | succ r ih =>
          intro c hc
          unfold Builtin.growBy
          split
          · omega
          · rcases Nat.lt_or_ge (c + (c + 768) / 4) need with h1 | h1
            · exact ih _ h1
            · have : ∀ r : Nat, Builtin.growBy need r (c + (c + 768) / 4) = c + (c + 768) / 4 := by
                intro r
                cases r with
                | zero => rfl
                | succ r => unfold Builtin.growBy; rw [if_pos h1]
              rw [this]
              omega
      have := this 4 cap h
      omega
theorem grown_ge (w : World) (need old : Nat) (e : TypeId) : need ≤ grownCap w need old e := grownCap_ge w need old e
theorem drew_fr (H : Nat → Prop) (w : World) : Fr H w w.drew := Fr.of_heap rfl rfl rfl rfl
theorem run_append_room_put {w : World} (t tx ty e : TypeId) (i : TypeInfo) (ht : P.underlying t = some (.slice e)) (hi : P.info? e = some i) {b sLen sCap : Nat} {x : Value} {n : Nat} {news : List Value} (hs : Src P i.size tx x n news w)
    (hroom : sLen + n ≤ sCap) {us : List Value} {tt : TypeId} (hw : w.heap[b]? = some (.cells us.toArray tt (0, 0))) (hl : sLen * i.size + news.length ≤ us.length) :
    ∃ w', (Builtin.append_ #[t, tx] ty #[.slice (some ⟨b, 0, none⟩) sLen sCap, x]).run P w = .ok (.slice (some ⟨b, 0, none⟩) (sLen + n) sCap) w' ∧ Put w w' b (us.take (sLen * i.size) ++ news ++ us.drop (sLen * i.size + news.length)) tt := by
  obtain ⟨w', hrun, hput⟩ := run_storeCells (P := P) news (w := w) (b := b) (o := sLen * i.size) (us := us) (t := tt) 0 hw hs.one (by omega)
  refine ⟨w', ?_, by simpa using hput⟩
  rcases hs.kind with ⟨e', hk⟩ | hk <;> simp [Builtin.append_, run_underlying ht, run_underlying hk, sizeOf, typeInfo, hi, hs.len, hroom, hs.cells, add_at, hrun]
theorem run_append_nothing' {w : World} (t tx ty e : TypeId) (i : TypeInfo) (ht : P.underlying t = some (.slice e)) (hi : P.info? e = some i) (a : Option Addr) {x : Value} {news : List Value} (hs : Src P i.size tx x 0 news w) :
    (Builtin.append_ #[t, tx] ty #[.slice a 0 0, x]).run P w = .ok (.slice a 0 0) w := by
  have hn : news = [] := List.length_eq_zero_iff.1 (by simpa using hs.newsLen)
  subst hn
  rcases hs.kind with ⟨e', hk⟩ | hk <;> cases a <;> simp [Builtin.append_, run_underlying ht, run_underlying hk, sizeOf, typeInfo, hi, hs.len, hs.cells, storeCells]
theorem all2_rep {r : Lf R.D → Value → Prop} {l : List (Lf R.D)} {m : List Value} (h : All2 r l m) : ∀ n, All2 r (repL n l) (repL n m)
  | 0 => .nil
  | n + 1 => h.append (all2_rep h n)
theorem encs_rep (c : Nat) (x : R.D c) : ∀ n, encs R c (List.replicate n x) = repL n (R.enc c x)
  | 0 => rfl
  | n + 1 => by rw [List.replicate_succ, encs, encs_rep c x n, repL]
/-- What an append makes of its second argument. -/
structure Apps (P : Program) (t tx ty e : TypeId) (i : TypeInfo) (z : Value) (x : Value) (n : Nat) (news : List Value) (w : World) : Prop where
  newsLen : news.length = n * i.size
  nothing : n = 0 → ∀ a : Option Addr, (Builtin.append_ #[t, tx] ty #[.slice a 0 0, x]).run P w = .ok (.slice a 0 0) w
  room : ∀ {b sLen sCap : Nat} {us : List Value} {tt : TypeId}, sLen + n ≤ sCap → w.heap[b]? = some (.cells us.toArray tt (0, 0)) → sLen * i.size + news.length ≤ us.length →
    ∃ w', (Builtin.append_ #[t, tx] ty #[.slice (some ⟨b, 0, none⟩) sLen sCap, x]).run P w = .ok (.slice (some ⟨b, 0, none⟩) (sLen + n) sCap) w' ∧ Put w w' b (us.take (sLen * i.size) ++ news ++ us.drop (sLen * i.size + news.length)) tt
  grow : ∀ (base : Option Addr) (sLen sCap : Nat) (olds : List Value), (Builtin.firstCells i.size sLen (.slice base sLen sCap)).run P w.drew = .ok olds.toArray w.drew → sCap < sLen + n → ((sLen + n : Nat) : Int) ≤ 9223372036854775807 → Builtin.nextslicecap (sLen + n) sCap * i.bytes ≤ 281474976710656 →
    (Builtin.append_ #[t, tx] ty #[.slice base sLen sCap, x]).run P w =
      .ok (.slice (some ⟨w.heap.size, 0, none⟩) (sLen + n) (grownCap w (sLen + n) sCap e))
        (w.drew.alloc (.cells ((olds ++ news).toArray ++ Builtin.zeroCells z.cells (grownCap w (sLen + n) sCap e - (sLen + n))) e))
theorem Apps.ofSrc {w : World} {t tx ty e : TypeId} {i : TypeInfo} {z : Value} (ht : P.underlying t = some (.slice e)) (hi : P.info? e = some i) (hz : i.zero = some z) {x : Value} {n : Nat} {news : List Value} (hs : Src P i.size tx x n news w) : Apps P t tx ty e i z x n news w :=
  ⟨hs.newsLen, fun h0 a => by subst h0; exact run_append_nothing' t tx ty e i ht hi a hs, fun hroom hw hl => run_append_room_put t tx ty e i ht hi hs hroom hw hl,
    fun base sLen sCap olds hold hg h63 hfit => run_append_grow_src (P := P) w t tx ty e i z ht hi hz base sLen sCap olds hold x n news hs hg h63 hfit⟩
theorem Apps.ofZeros {w : World} {t tx ty e : TypeId} {i : TypeInfo} {z : Value} {k k0 : IntKind} (ht : P.underlying t = some (.slice e)) (hi : P.info? e = some i) (hz : i.zero = some z) (hx : P.underlying tx = some (.int k0)) {y : Int} (h0 : 0 ≤ y) (h1 : y ≤ 281474976710656) (h2 : y * i.bytes ≤ 281474976710656)
    (hsz : z.cells.size = i.size) (h1c : ∀ v ∈ z.cells.toList, v.oneCell' = true) : Apps P t tx ty e i z (.int k y) y.toNat (repL y.toNat z.cells.toList) w := by
  obtain ⟨N, rfl⟩ := Int.eq_ofNat_of_zero_le h0
  rw [Int.toNat_natCast]
  have hwr : IntKind.i64.wrap (N : Int) = (N : Int) := by rw [wrap_i64]; unfold wrap64; omega
  have hneg : ¬ (N : Int) < 0 := by omega
  have hbig : ¬ 281474976710656 < (N : Int) * (i.bytes : Int) := by omega
  have hlen : (repL N z.cells.toList).length = N * i.size := by rw [repL_len, Array.length_toList, hsz]
  have hzc : Builtin.zeroCells z.cells N = (repL N z.cells.toList).toArray := by
    apply Array.ext'
    simp only [Builtin.zeroCells]
    exact zeros_rep z.cells N
  have hone : ∀ v ∈ repL N z.cells.toList, v.oneCell' = true := by
    intro v hv
    obtain ⟨q, hq, hqv⟩ := List.getElem_of_mem hv
    have hg : (repL N z.cells.toList)[q]? = some v := by rw [List.getElem?_eq_getElem hq, hqv]
    rw [repL_get _ _ _ (by rw [repL_len] at hq; exact hq)] at hg
    exact h1c v (List.mem_of_getElem? hg)
  have hnone : N * i.size = 0 → repL N z.cells.toList = [] := fun h => List.length_eq_zero_iff.1 (by rw [hlen]; exact h)
  refine ⟨hlen, fun hn a => ?_, fun {b sLen sCap us tt} hroom hw hl => ?_, fun base sLen sCap olds hold hg h63 hfit => ?_⟩
  · subst hn
    have hwr0 : IntKind.i64.wrap 0 = 0 := rfl
    cases a <;> simp [Builtin.append_, run_underlying ht, run_underlying hx, sizeOf, typeInfo, hi, asInt, asIntOf, hwr0, storeCells]
  · obtain ⟨w', hrun, hput⟩ := run_storeCells (P := P) (repL N z.cells.toList) (w := w) (b := b) (o := sLen * i.size) (us := us) (t := tt) 0 hw hone (by omega)
    refine ⟨w', ?_, by simpa using hput⟩
    by_cases hn : N * i.size = 0
    · rw [hnone hn] at hrun
      simp [Builtin.append_, run_underlying ht, run_underlying hx, sizeOf, typeInfo, hi, asInt, asIntOf, hwr, hneg, hbig, hn, hroom, add_at, hrun]
    · simp [Builtin.append_, run_underlying ht, run_underlying hx, sizeOf, typeInfo, zeroValue, hi, hz, asInt, asIntOf, hwr, hneg, hbig, hn, hroom, hzc, add_at, hrun]
  · have hn : ¬ (sLen + N ≤ sCap) := by omega
    have h63' : ¬ (9223372036854775807 < ((sLen : Int) + (N : Int))) := by omega
    have h48' : ¬ (281474976710656 < Builtin.nextslicecap (sLen + N) sCap * i.bytes) := by omega
    by_cases hn0 : N * i.size = 0
    · rw [hnone hn0]
      simp [Builtin.append_, run_underlying ht, run_underlying hx, sizeOf, typeInfo, zeroValue, hi, hz, asInt, asIntOf, hwr, hneg, hbig, hn0, hn, h63', h48', Question.forced, hold, newRow, grownCap]
    · simp [Builtin.append_, run_underlying ht, run_underlying hx, sizeOf, typeInfo, zeroValue, hi, hz, asInt, asIntOf, hwr, hneg, hbig, hn0, hn, hzc, h63', h48', Question.forced, hold, newRow, grownCap]
      congr 2
      apply Array.ext'
      simp [List.append_assoc]
/-- An append, from one world to the next: the old handle is given up, a new one stands for what comes. -/
theorem append_ok {t tx ty e c : TypeId} {i : TypeInfo} {z : Value} (ht : P.underlying t = some (.slice e)) (hi : P.info? e = some i) (hz : i.zero = some z) (hsz : i.size = R.sz c) (hzl : z.cells.size = R.sz c)
    {ρ : Ow} {m : List (Ent R.D)} {w : World} (hr : Rel R ρ m w) {us : Tv R.D} {u x : Value} {l l' : List (R.D c)} {h : Option Nat} (hb : baseOf m c e us = some (l, h)) (hu : IsT R ρ w us u) {news : List Value} (hs : Apps P t tx ty e i z x l'.length news w) (hnews : All2 (Is R ρ w) (encs R c l') news)
    (hfit : (2 * (l.length + l'.length) + 200) * i.bytes ≤ 281474976710656) (hbound : l.length + l'.length ≤ 4611686018427387904) :
    ∃ (q : Value) (w' : World) (ρ' : Ow), (Builtin.append_ #[t, tx] ty #[u, x]).run P w = .ok q w' ∧ Go R ρ m w ρ' (killM m h ++ [.row c (l ++ l') e]) w' ∧ Rel R ρ' (killM m h ++ [.row c (l ++ l') e]) w' ∧ Is R ρ' w' (.row c m.length) q := by
  have hnl := hs.newsLen
  -- the base, as it stands in memory
  have base : (∃ a, u = .slice a 0 0 ∧ l = []) ∨ ∃ hh b k sc len us0 zs l0, h = some hh ∧ u = .slice (some ⟨b, 0, none⟩) l.length k ∧ ρ.r[hh]? = some (.row b sc len) ∧ m[hh]? = some (.row c l0 e) ∧ l.length ≤ k ∧ k ≤ 9223372036854775807 ∧
      w.heap[b]? = some (.cells (us0 ++ zs).toArray e (0, 0)) ∧ All2 (Is R ρ w) (encs R c l) us0 ∧ k * R.sz c ≤ us0.length + zs.length := by
    unfold baseOf at hb
    split at hb
    · cases hb
      cases hu
      exact .inl ⟨none, rfl, rfl⟩
    · split at hb
      case h_2 => cases hb
      rename_i hc
      have hc := Nat.eq_of_beq_eq_true hc
      subst hc
      split at hb
      case h_2 => cases hb
      rename_i l1 hrow
      cases hb
      have hm := rowE_ok hrow
      rcases hr.row hm with ⟨b, cap, len, hq, _, rfl, h1, h2, us0, zs, hw, ha, h3⟩ | ⟨hq, rfl⟩
      · cases hu with
        | rnil _ _ a' hb' => rw [hq] at hb'; cases hb'
        | row _ _ b' cap' len' hb' =>
          rw [hq] at hb'
          cases hb'
          exact .inr ⟨_, b, cap, cap, _, us0, zs, l, rfl, rfl, hq, hm, h1, h2, hw, ha, h3⟩
      · cases hu with
        | rnil _ _ a' hb' => exact .inl ⟨a', rfl, rfl⟩
        | row _ _ b' cap' len' hb' => rw [hq] at hb'; cases hb'
    · rename_i c0 h0 o0 n0
      split at hb
      case h_2 => cases hb
      rename_i hc
      have hc := Nat.eq_of_beq_eq_true hc
      subst hc
      split at hb
      case h_2 => cases hb
      rename_i ho
      have ho := Nat.eq_of_beq_eq_true ho
      subst ho
      split at hb
      case h_2 => cases hb
      rename_i l1 hrow
      cases hb
      have hm := rowE_ok hrow
      cases hu with
      | sl _ _ _ _ a k hk hL hb' =>
      rcases hb' with ⟨rfl, hk0⟩ | ⟨b, cap, len, hq, h1, h2, rfl, hk1⟩
      · have : n0 = 0 := by omega
        subst this
        exact .inl ⟨a, rfl, by simp⟩
      · rcases hr.row hm with ⟨b', cap', len', hq', _, rfl, h3, h4, us0, zs, hw, ha, h5⟩ | ⟨hq', rfl⟩
        · rw [hq] at hq'
          cases hq'
          have hlen : (l1.take n0).length = n0 := by simp; omega
          refine .inr ⟨_, b, k, cap, _, us0.take (n0 * R.sz _), us0.drop (n0 * R.sz _) ++ zs, l1, rfl, by rw [hlen, Nat.zero_mul], hq, hm, by rw [hlen]; exact hk, by omega, by rw [← List.append_assoc, List.take_append_drop]; exact hw, by rw [encs_take]; exact ha.take _, ?_⟩
          have h6 : k * R.sz c0 ≤ cap * R.sz c0 := Nat.mul_le_mul_right _ (by omega)
          simp only [List.length_take, List.length_drop, List.length_append]
          omega
        · rw [hq] at hq'; cases hq'
    · cases hb
  -- a new row
  have grow : ∀ (a : Option Addr) (k : Nat) (us0 : List Value), u = .slice a l.length k → k < l.length + l'.length → All2 (Is R ρ w) (encs R c l) us0 → (Builtin.firstCells i.size l.length (.slice a l.length k)).run P w.drew = .ok us0.toArray w.drew →
      ∃ (q : Value) (w' : World) (ρ' : Ow), (Builtin.append_ #[t, tx] ty #[u, x]).run P w = .ok q w' ∧ Go R ρ m w ρ' (killM m h ++ [.row c (l ++ l') e]) w' ∧ Rel R ρ' (killM m h ++ [.row c (l ++ l') e]) w' ∧ Is R ρ' w' (.row c m.length) q := by
    intro a k us0 hu0 hk0 ha hold
    subst hu0
    have hcapb : Builtin.nextslicecap (l.length + l'.length) k * i.bytes ≤ 281474976710656 := Nat.le_trans (Nat.mul_le_mul_right _ (nextcap_le _ _ hk0)) hfit
    have hrun := hs.grow a l.length k us0 hold hk0 (by omega) hcapb
    have hge := grown_ge w (l.length + l'.length) k e
    have hmax : grownCap w (l.length + l'.length) k e ≤ 9223372036854775807 := by
      have := grownCap_le_maxLen w (l.length + l'.length) k e (by simp only [maxLen]; omega)
      simpa [maxLen] using this
    have hkill : ∃ m0, m0 = killM m h ∧ Go R ρ m w ρ m0 w ∧ Rel R ρ m0 w := by
      cases h with
      | none => exact ⟨m, rfl, Go.refl ρ m w, hr⟩
      | some hh =>
        have hex := baseOf_at hb
        obtain ⟨e0, he0⟩ := hex
        obtain ⟨g1, g2⟩ := hr.kill he0
        exact ⟨_, rfl, g1, g2⟩
    obtain ⟨m0, hm0, hg0, hr0⟩ := hkill
    rw [← hm0]
    have hlen0 : m0.length = m.length := by rw [hm0, killM_len]
    have hd : Fr (Held ρ m0) w w.drew := drew_fr _ w
    have hr1 : Rel R ρ m0 w.drew := hr0.same hd hr0.fits fun b _ => rfl
    have hg1 : Go R ρ m w ρ m0 w.drew := ⟨hg0.ext, hg0.fr.trans hg0.ext.held hd⟩
    obtain ⟨h1, h2⟩ := hr1.more (w' := w.drew.alloc (.cells ((us0 ++ news).toArray ++ Builtin.zeroCells z.cells (grownCap w (l.length + l'.length) k e - (l.length + l'.length))) e)) rfl (.row w.heap.size (grownCap w (l.length + l'.length) k e) (l.length + l'.length)) (.row c (l ++ l') e) rfl fun ρ' hle hf => by
      refine ⟨by simp, hge, hmax, us0 ++ news, (Builtin.zeroCells z.cells (grownCap w (l.length + l'.length) k e - (l.length + l'.length))).toList, ?_, ?_, ?_⟩
      · show (w.heap.push _)[w.heap.size]? = _
        rw [Array.getElem?_push, if_pos rfl]
        congr 2
        apply Array.ext'
        simp
      · rw [encs_app]
        refine (ha.append hnews).imp fun _ _ h' => ?_
        have := h'.keep (hd.imp fun b hb => hb) hr0.fits (Le.refl ρ w)
        exact this.keep hf hr1.fits hle
      · have e1 : (Builtin.zeroCells z.cells (grownCap w (l.length + l'.length) k e - (l.length + l'.length))).toList.length = (grownCap w (l.length + l'.length) k e - (l.length + l'.length)) * R.sz c := by
          simp [Builtin.zeroCells, hzl]
        have e2 : us0.length = l.length * R.sz c := by rw [← ha.length, encs_len]
        rw [List.length_append, hnl, e2, e1, hsz, ← Nat.add_mul, ← Nat.add_mul]
        exact Nat.mul_le_mul_right _ (by omega)
    refine ⟨_, _, _, hrun, hg1.trans hr h1, h2, Is.row c m.length _ _ _ ?_⟩
    show (ρ.r ++ [_])[m.length]? = _
    rw [← hr.len]
    simp
  rcases base with ⟨a, rfl, rfl⟩ | ⟨hh, b, k, sc, len, us0, zs, l0, rfl, rfl, hq, hm, h1, h2, hw, ha, h3⟩
  · rcases Nat.eq_zero_or_pos l'.length with h0 | h0
    · have : l' = [] := List.length_eq_zero_iff.1 h0
      subst this
      have hrun := hs.nothing rfl a
      cases h with
      | none =>
        obtain ⟨g1, g2⟩ := hr.addnil c e
        refine ⟨_, w, _, hrun, g1, g2, Is.rnil c _ a ?_⟩
        show (ρ.r ++ [_])[m.length]? = _
        rw [← hr.len]; simp
      | some hh =>
        have hex := baseOf_at hb
        obtain ⟨e0, he0⟩ := hex
        obtain ⟨g1, g2⟩ := hr.kill he0
        obtain ⟨g3, g4⟩ := g2.addnil c e
        refine ⟨_, w, _, hrun, g1.trans hr g3, g4, Is.rnil c _ a ?_⟩
        show (ρ.r ++ [_])[m.length]? = _
        rw [← hr.len]; simp
    · exact grow a 0 [] (by simp) (by simpa using h0) .nil (by cases a <;> first | exact run_firstCells_none _ _ _ _ _ | exact run_firstCells_some w.drew i.size 0 _ 0 0 [] (by simp) (by simp))
  · rcases Nat.lt_or_ge k (l.length + l'.length) with hlt | hge
    · refine grow _ k us0 rfl hlt ha ?_
      have hus : us0.length = l.length * i.size := by rw [← ha.length, encs_len, hsz]
      refine run_firstCells_some w.drew i.size l.length _ l.length k us0 hus fun j v hj => ?_
      rw [add_at]
      have := row_cell hw (0 + j)
      show w.cell? _ = _
      rw [this, Nat.zero_add, List.getElem?_append_left (List.getElem?_eq_some_iff.1 hj).1]
      exact hj
    · have hus : us0.length = l.length * i.size := by rw [← ha.length, encs_len, hsz]
      have hroom : l.length * i.size + news.length ≤ (us0 ++ zs).length := by
        rw [hnl, ← Nat.add_mul, List.length_append]
        have : (l.length + l'.length) * R.sz c ≤ k * R.sz c := Nat.mul_le_mul_right _ hge
        rw [hsz]
        omega
      obtain ⟨w', hrun, hput⟩ := hs.room (b := b) (sLen := l.length) (sCap := k) hge hw hroom
      have hcells : (us0 ++ zs).take (l.length * i.size) ++ news ++ (us0 ++ zs).drop (l.length * i.size + news.length) = (us0 ++ news) ++ zs.drop news.length := by
        rw [← hus, List.take_left' rfl, List.drop_length_add_append]
      rw [hcells] at hput
      obtain ⟨g1, g2⟩ := hr.renew (w' := w') hq hm trivial (b := b) rfl (q' := .row b k (l.length + l'.length)) (e' := .row c (l ++ l') e) rfl hput.os hput.tape hput.output hput.size hput.far fun ρ' hle hf => by
        refine ⟨by simp, hge, h2, us0 ++ news, zs.drop news.length, hput.at_, ?_, ?_⟩
        · rw [encs_app]
          exact (ha.append hnews).imp fun _ _ h' => h'.keep hf hr.fits hle
        · simp only [List.length_append, List.length_drop] at hroom ⊢
          omega
      refine ⟨_, w', _, hrun, g1, g2, Is.row c _ b k _ ?_⟩
      show (ρ.r ++ [_])[m.length]? = _
      rw [← hr.len]; simp
/-- A type's zero, and its bytes, where a row of that type is made. -/
def elemOk (R : Ro) (ei : TI) (c : Nat) : Bool := Nat.beq (R.sz c) ei.sz && Nat.beq ei.zero.length ei.sz && !(Nat.beq ei.zero.length 0)
theorem elemOk_ok {e : TypeId} {ei : TI} {c : Nat} (h : tiOf P e = some ei) (hk : elemOk R ei c = true) : ∃ i z, P.info? e = some i ∧ i.zero = some z ∧ i.size = R.sz c ∧ z.cells.size = R.sz c ∧ i.bytes = ei.bytes ∧ z.cells.toList = ei.zero := by
  simp only [elemOk, Bool.and_eq_true, Bool.not_eq_true'] at hk
  obtain ⟨⟨h1, h2⟩, h3⟩ := hk
  have h1 := Nat.eq_of_beq_eq_true h1
  have h2 := Nat.eq_of_beq_eq_true h2
  obtain ⟨f, hf, hs, hb, hz⟩ := tiOf_bytes h
  unfold zeroL at hz
  cases hfz : f.zero with
  | none => rw [hfz] at hz; rw [hz] at h3; exact absurd h3 (by decide)
  | some z =>
    rw [hfz] at hz
    exact ⟨f, z, hf, hfz, by rw [hs, h1], by rw [h1, ← h2, hz, Array.length_toList], hb, hz.symm⟩
def evAppend (code : TypeId → Option (RoT R)) (tab : Nat → Option TI) (ts : List TypeId) (args : List (Tv R.D)) (m : List (Ent R.D)) (K : Tv R.D → List (Ent R.D) → Option X) : Option X :=
  match ts with
  | [t, tx] => match args with
    | [s, x] => match tab t with
      | some ti => match Nat.beq ti.kd 3 with
        | true => match tab tx with
          | some xi => match Nat.beq xi.kd 3 with
            | true => match tab ti.elt with
              | some ei => match code ti.elt with
                | some o => match elemOk R ei o.c with
                  | true => match srcOf m o.c x with
                    | some l' => match baseOf m o.c ti.elt s with
                      | some (l, h) => if (2 * (l.length + l'.length) + 200) * (max ei.bytes 1) ≤ 281474976710656 then K (.lf (.row o.c m.length)) (killM m h ++ [.row o.c (l ++ l') ti.elt]) else none
                      | none => none
                    | none => none
                  | false => none
                | none => none
              | none => none
            | false => match ikOf xi.kd with
              | some _ => match tab ti.elt with
                | some ei => match code ti.elt with
                  | some o => match elemOk R ei o.c with
                    | true => match ei.zero.all okV with
                      | true => match decO o (ei.zero.map .v) with
                        | some x0 => match x with
                          | .lf (.v (.int _ n)) => match baseOf m o.c ti.elt s with
                            | some (l, h) => if 0 ≤ n then (if (2 * (l.length + n.toNat) + 200) * (max ei.bytes 1) ≤ 281474976710656 then K (.lf (.row o.c m.length)) (killM m h ++ [.row o.c (l ++ List.replicate n.toNat x0) ti.elt]) else none) else none
                            | none => none
                          | _ => none
                        | none => none
                      | false => none
                    | false => none
                  | none => none
                | none => none
              | none => none
          | none => none
        | false => none
      | none => none
    | _ => none
  | _ => none
theorem evAppend_ok {code : TypeId → Option (RoT R)} {tab : Nat → Option TI} (ht : TabOk P tab) {ts : List TypeId} {args : List (Tv R.D)} {m : List (Ent R.D)} {K : Tv R.D → List (Ent R.D) → Option X} {x : X} (ty : TypeId) (h : evAppend code tab ts args m K = some x) :
    ∃ r m', K r m' = some x ∧ ∀ (ρ : Ow) (w : World) (us : List Value), Rel R ρ m w → All2 (IsT R ρ w) args us → ∃ q w' ρ', (Builtin.append_ ts.toArray ty us.toArray).run P w = .ok q w' ∧ Go R ρ m w ρ' m' w' ∧ Rel R ρ' m' w' ∧ IsT R ρ' w' r q := by
  unfold evAppend at h
  split at h
  case h_2 => exact none_some h
  rename_i t tx
  split at h
  case h_2 => exact none_some h
  rename_i sv xv
  split at h
  case h_2 => exact none_some h
  rename_i ti hti
  split at h
  case h_2 => exact none_some h
  rename_i hk
  obtain ⟨hu, _⟩ := tiOf_sliceE (ht _ _ hti) (Nat.eq_of_beq_eq_true hk)
  split at h
  case h_2 => exact none_some h
  rename_i xi hxi
  split at h
  case h_2 =>
    split at h
    case h_2 => exact none_some h
    rename_i k0 hik
    have hxu := tiOf_int (ht _ _ hxi) hik
    split at h
    case h_2 => exact none_some h
    rename_i ei hei
    split at h
    case h_2 => exact none_some h
    rename_i o ho
    split at h
    case h_2 => exact none_some h
    rename_i hel
    obtain ⟨i, z, hi, hz, hsz, hzl, hby, hzz⟩ := elemOk_ok (ht _ _ hei) hel
    split at h
    case h_2 => exact none_some h
    rename_i hall
    split at h
    case h_2 => exact none_some h
    rename_i x0 hx0
    split at h
    case h_2 => exact none_some h
    rename_i k1 n
    split at h
    case h_2 => exact none_some h
    rename_i l hh hb
    split at h
    case isFalse => exact none_some h
    rename_i hn0
    split at h
    case isFalse => exact none_some h
    rename_i hfit
    refine ⟨_, _, h, fun ρ w us hr ha => ?_⟩
    cases ha with
    | cons h0 h1 =>
    cases h1 with
    | cons h2 h3 =>
    cases h3
    rw [← hby] at hfit
    have hf2 : (2 * (l.length + n.toNat) + 200) * i.bytes ≤ 281474976710656 := Nat.le_trans (Nat.mul_le_mul_left _ (by omega)) hfit
    have hf3 : (2 * (l.length + n.toNat) + 200) * 1 ≤ 281474976710656 := Nat.le_trans (Nat.mul_le_mul_left _ (by omega)) hfit
    have hf4 : n * (i.bytes : Int) ≤ 281474976710656 := by
      have h9 : n.toNat * i.bytes ≤ 281474976710656 := Nat.le_trans (Nat.mul_le_mul_right _ (by omega)) hf2
      have h10 : ((n.toNat * i.bytes : Nat) : Int) = n * (i.bytes : Int) := by rw [Int.natCast_mul, Int.toNat_of_nonneg hn0]
      omega
    have h2 := Is.val h2
    subst h2
    have hz0 : All2 (Is R ρ w) (R.enc o.c x0) ei.zero := rf_is (decO_ok hx0) (all2_vs _ hall)
    have hone : ∀ v ∈ z.cells.toList, v.oneCell' = true := by
      rw [hzz]
      exact all2_one hz0
    have hs := Apps.ofZeros (P := P) (w := w) (ty := ty) (k := k1) hu hi hz hxu hn0 (by omega) hf4 (by rw [hzl, hsz]) hone
    rw [show n.toNat = (List.replicate n.toNat x0).length by simp] at hs
    obtain ⟨q, w', ρ', g1, g2, g3, g4⟩ := append_ok (ty := ty) (tx := tx) hu hi hz hsz hzl hr hb h0 (l' := List.replicate n.toNat x0) hs (by rw [encs_rep, hzz, List.length_replicate]; exact all2_rep hz0 _) (by rw [List.length_replicate]; exact hf2) (by rw [List.length_replicate]; omega)
    exact ⟨q, w', ρ', g1, g2, g3, g4⟩
  rename_i hxk
  obtain ⟨e', hxu, _⟩ := tiOf_slice (ht _ _ hxi) (Nat.eq_of_beq_eq_true hxk)
  split at h
  case h_2 => exact none_some h
  rename_i ei hei
  split at h
  case h_2 => exact none_some h
  rename_i o ho
  split at h
  case h_2 => exact none_some h
  rename_i hel
  obtain ⟨i, z, hi, hz, hsz, hzl, hby, _⟩ := elemOk_ok (ht _ _ hei) hel
  split at h
  case h_2 => exact none_some h
  rename_i l' hl'
  split at h
  case h_2 => exact none_some h
  rename_i l hh hb
  split at h
  case isFalse => exact none_some h
  rename_i hfit
  refine ⟨_, _, h, fun ρ w us hr ha => ?_⟩
  cases ha with
  | cons h0 h1 =>
  cases h1 with
  | cons h2 h3 =>
  cases h3
  rw [← hby] at hfit
  have hf2 : (2 * (l.length + l'.length) + 200) * i.bytes ≤ 281474976710656 := Nat.le_trans (Nat.mul_le_mul_left _ (by omega)) hfit
  have hf3 : (2 * (l.length + l'.length) + 200) * 1 ≤ 281474976710656 := Nat.le_trans (Nat.mul_le_mul_left _ (by omega)) hfit
  obtain ⟨news, hsrc, hnews⟩ := (srcOf_ok hl' hr h2).src (P := P) hxu
  rw [← hsz] at hsrc
  obtain ⟨q, w', ρ', g1, g2, g3, g4⟩ := append_ok (ty := ty) (tx := tx) hu hi hz hsz hzl hr hb h0 (Apps.ofSrc (ty := ty) hu hi hz hsrc) hnews hf2 (by omega)
  exact ⟨q, w', ρ', g1, g2, g3, g4⟩

/-! ### Slices of slices -/
def ivOf : Option (Tv R.D) → Int → Option Int
  | none, d => some d
  | some (.lf (.v (.int _ n))), _ => some n
  | _, _ => none
theorem bound_ok {x : Value} {k : IntKind} {i : Int} {y : Nat} (hx : x = .int k i) (h0 : 0 ≤ i) (h1 : i ≤ y) (code : BoundsCode) (w : World) : (Instr.sliceBound x y code).run P w = .ok i.toNat w := by
  subst hx
  unfold Instr.sliceBound
  simp only [asIntOf, Sem.run_bind, Sem.run_pure, Result.andThen_ok]
  rw [if_pos ⟨h0, h1⟩]
  rfl
/-- 'lo' and 'hi' of a slice's part, and what comes of them. -/
theorem bounds_ok {ρ : Ow} {w : World} {lo hi : Option (Tv R.D)} {vlo vhi : Option Value} {len cap : Nat} {a b : Int} (hlo : ivOf lo 0 = some a) (hhi : ivOf hi (len : Int) = some b) (h1 : ∀ v, lo = some v → ∃ u, vlo = some u ∧ IsT R ρ w v u) (h1' : lo = none → vlo = none)
    (h2 : ∀ v, hi = some v → ∃ u, vhi = some u ∧ IsT R ρ w v u) (h2' : hi = none → vhi = none) (ha : 0 ≤ a) (hab : a ≤ b) (hb : b ≤ cap) (isS : Bool) : (Instr.sliceBounds isS len cap vlo vhi none).run P w = .ok (a.toNat, b.toNat, cap) w := by
  have hH : (match vhi with | some v => Instr.sliceBound v cap (if isS = true then BoundsCode.sliceAcap else .sliceAlen) | none => (pure len : Sem Nat)).run P w = .ok b.toNat w := by
    cases hi with
    | none =>
      rw [h2' rfl]
      simp only [ivOf, Option.some.injEq] at hhi
      subst hhi
      simp
    | some v =>
      obtain ⟨u, rfl, hu⟩ := h2 v rfl
      unfold ivOf at hhi
      split at hhi
      · rename_i heq; cases heq
      · rename_i n heq
        cases heq
        cases hhi
        obtain ⟨rfl, _⟩ := is_int hu
        exact bound_ok rfl (by omega) hb _ w
      · cases hhi
  have hL : (match vlo with | some v => Instr.sliceBound v b.toNat (if (none : Option Value).isSome = true then BoundsCode.slice3C else .sliceB) | none => (pure 0 : Sem Nat)).run P w = .ok a.toNat w := by
    cases lo with
    | none =>
      rw [h1' rfl]
      simp only [ivOf, Option.some.injEq] at hlo
      subst hlo
      simp
    | some v =>
      obtain ⟨u, rfl, hu⟩ := h1 v rfl
      unfold ivOf at hlo
      split at hlo
      · rename_i heq; cases heq
      · rename_i n heq
        cases heq
        cases hlo
        obtain ⟨rfl, _⟩ := is_int hu
        exact bound_ok rfl ha (by omega) _ w
      · cases hlo
  unfold Instr.sliceBounds
  cases vhi with
  | none =>
    cases vlo with
    | none =>
      simp only [Sem.run_pure, Result.ok.injEq] at hH hL
      simp only [Sem.run_bind, Sem.run_pure, Result.andThen_ok, hH.1, hL.1]
    | some y =>
      simp only [Sem.run_pure, Result.ok.injEq] at hH
      simp only [Sem.run_bind, Sem.run_pure, Result.andThen_ok]
      rw [hH.1]
      simp only [Sem.run_bind] at hL ⊢
      rw [hL]
      rfl
  | some y =>
    cases vlo with
    | none =>
      simp only [Sem.run_pure, Result.ok.injEq] at hL
      simp only [Sem.run_bind, Sem.run_pure, Result.andThen_ok]
      rw [hH]
      simp only [Result.andThen_ok, hL.1]
    | some z =>
      simp only [Sem.run_bind, Sem.run_pure, Result.andThen_ok]
      rw [hH]
      simp only [Result.andThen_ok]
      rw [hL]
      rfl
def bothB {α β : Type} : Option α → Option β → Bool
  | some _, some _ => true
  | _, _ => false
def evSlice (R : Ro) (tab : Nat → Option TI) (t : TypeId) (v : Tv R.D) (lo hi : Option (Tv R.D)) (m : List (Ent R.D)) (K : Tv R.D → Option X) : Option X :=
  match tab t with
  | some ti => match v with
    | .lf (.ro c l) => match Nat.beq ti.kd 3 with
      | true => match Nat.beq ti.el (R.sz c) with
        | true => match ivOf lo 0 with
          | some a => match ivOf hi (l.length : Int) with
            | some b => if 0 ≤ a then (if a ≤ b then (if b ≤ (l.length : Int) then K (.lf (.ro c ((l.drop a.toNat).take (b - a).toNat))) else none) else none) else none
            | none => none
          | none => none
        | false => none
      | false => none
    | .lf (.row c h) => match Nat.beq ti.kd 3 with
      | true => match Nat.beq ti.el (R.sz c) with
        | true => match rowLen m c h with
          | some ln => match ivOf lo 0 with
            | some a => match ivOf hi (ln : Int) with
              | some b => if 0 ≤ a then (if a ≤ b then (if b ≤ (ln : Int) then K (.lf (.sl c h a.toNat (b - a).toNat)) else none) else none) else none
              | none => none
            | none => none
          | none => none
        | false => none
      | false => none
    | .lf (.sl c h o n) => match Nat.beq ti.kd 3 with
      | true => match Nat.beq ti.el (R.sz c) with
        | true => match ivOf lo 0 with
          | some a => match ivOf hi (n : Int) with
            | some b => match bothB lo hi with
              | true => match rowLen m c h with
                | some ln => if 0 ≤ a then (if a ≤ b then (if b ≤ (n : Int) ∨ (o = 0 ∧ b ≤ (ln : Int)) then K (.lf (.sl c h (o + a.toNat) (b - a).toNat)) else none) else none) else none
                | none => none
              | false => if 0 ≤ a then (if a ≤ b then (if b ≤ (n : Int) then K (.lf (.sl c h (o + a.toNat) (b - a).toNat)) else none) else none) else none
            | none => none
          | none => none
        | false => none
      | false => none
    | .lf (.v (.slice none 0 0)) => match Nat.beq ti.kd 3 with
      | true => match ivOf lo 0 with
        | some a => match ivOf hi 0 with
          | some b => if a = 0 then (if b = 0 then K (.lf (.v (.slice none 0 0))) else none) else none
          | none => none
        | none => none
      | false => none
    | .lf (.v (.string s)) => match Nat.beq ti.kd 6 with
      | true => match ivOf lo 0 with
        | some a => match ivOf hi (s.size : Int) with
          | some b => if 0 ≤ a then (if a ≤ b then (if b ≤ (s.size : Int) then K (.lf (.v (.string (s.extract a.toNat b.toNat)))) else none) else none) else none
          | none => none
        | none => none
      | false => none
    | _ => none
  | none => none
/-- What the model's operation gives. -/
def SliceRun (P : Program) (t : TypeId) (u : Value) (vlo vhi : Option Value) (w : World) (q : Value) : Prop := (Instr.sliceAt t u vlo vhi none).run P w = .ok q w
theorem sliceAt_slice {t e : TypeId} {el : Nat} {b : Bool} (hu : P.underlying t = some (.slice e)) (hti : tiF P e = some (el, b)) {a : Option Addr} {len cap x y : Nat} {vlo vhi : Option Value} {w : World} (hb : (Instr.sliceBounds true len cap vlo vhi none).run P w = .ok (x, y, cap) w) :
    (Instr.sliceAt t (.slice a len cap) vlo vhi none).run P w = .ok (.slice (if cap = x then a else a.map (·.add (x * el))) (y - x) (cap - x)) w := by
  unfold Instr.sliceAt
  simp only [Sem.run_bind, run_underlying hu, Result.andThen_ok]
  unfold Instr.slice
  simp only [Sem.run_bind, run_underlying hu, Result.andThen_ok, hb, (tiF_run hti w).1, Sem.run_pure]
theorem sliceAt_string {t : TypeId} (hu : P.underlying t = some .string) {s : ByteArray} {x y : Nat} {vlo vhi : Option Value} {w : World} (hb : (Instr.sliceBounds false s.size s.size vlo vhi none).run P w = .ok (x, y, s.size) w) :
    (Instr.sliceAt t (.string s) vlo vhi none).run P w = .ok (.string (s.extract x y)) w := by
  unfold Instr.sliceAt
  simp only [Sem.run_bind, run_underlying hu, Result.andThen_ok]
  unfold Instr.slice
  simp only [Sem.run_bind, run_underlying hu, Result.andThen_ok, Option.isSome_none, Bool.false_eq_true, if_false, Sem.run_pure, hb]
theorem evSlice_ok {tab : Nat → Option TI} (ht : TabOk P tab) {t : TypeId} {v : Tv R.D} {lo hi : Option (Tv R.D)} {m : List (Ent R.D)} {K : Tv R.D → Option X} {x : X} (h : evSlice R tab t v lo hi m K = some x) :
    ∃ r, K r = some x ∧ ∀ ρ w (u : Value) (vlo vhi : Option Value), Rel R ρ m w → IsT R ρ w v u → (∀ v, lo = some v → ∃ u, vlo = some u ∧ IsT R ρ w v u) → (lo = none → vlo = none) → (∀ v, hi = some v → ∃ u, vhi = some u ∧ IsT R ρ w v u) → (hi = none → vhi = none) →
      ∃ q, (Instr.sliceAt t u vlo vhi none).run P w = .ok q w ∧ IsT R ρ w r q := by
  unfold evSlice at h
  split at h
  case h_2 => exact none_some h
  rename_i ti hti
  split at h
  · rename_i c l
    split at h
    case h_2 => exact none_some h
    rename_i hk
    obtain ⟨e, hu, htf⟩ := tiOf_slice (ht _ _ hti) (Nat.eq_of_beq_eq_true hk)
    split at h
    case h_2 => exact none_some h
    rename_i hel
    have hel := Nat.eq_of_beq_eq_true hel
    split at h
    case h_2 => exact none_some h
    rename_i a ha
    split at h
    case h_2 => exact none_some h
    rename_i b hb
    split at h
    case isFalse => exact none_some h
    rename_i h0
    split at h
    case isFalse => exact none_some h
    rename_i h1
    split at h
    case isFalse => exact none_some h
    rename_i h2
    refine ⟨_, h, fun ρ w u vlo vhi hr hp l1 l2 l3 l4 => ?_⟩
    have hlen : ((l.drop a.toNat).take (b - a).toNat).length = b.toNat - a.toNat := by simp; omega
    cases hp with
    | nil _ a0 cap =>
      have e1 : a = 0 := by simp at h2; omega
      have e2 : b = 0 := by simp at h2; omega
      subst e1
      subst e2
      refine ⟨_, sliceAt_slice hu htf (bounds_ok ha hb l1 l2 l3 l4 (by omega) (by omega) (by omega) true), ?_⟩
      have : (([] : List (R.D c)).drop (0 : Int).toNat).take ((0 : Int) - 0).toNat = [] := by simp
      rw [this]
      exact Is.nil c _ _
    | ro _ _ b0 o cap f hL hl hbb hn hc hv =>
      refine ⟨_, sliceAt_slice hu htf (bounds_ok ha hb l1 l2 l3 l4 h0 h1 (by omega) true), ?_⟩
      show Is R ρ w (.ro c ((l.drop a.toNat).take (b - a).toNat)) _
      by_cases hz : b.toNat - a.toNat = 0
      · have : (l.drop a.toNat).take (b - a).toNat = [] := List.length_eq_zero_iff.1 (by rw [hlen]; exact hz)
        rw [this, hz]
        exact Is.nil c _ _
      · rw [if_neg (by omega), ← hlen]
        simp only [Option.map_some, add_at]
        refine Is.ro c _ b0 (o + a.toNat * ti.el) (cap - a.toNat) (fun i j => f (a.toNat + i) j) (by omega) (by omega) hbb hn (fun i j hi hj => ?_) (fun i x j lf hi hj => ?_)
        · have := hc (a.toNat + i) j (by omega) hj
          rw [← this, hel, Nat.add_mul]
          congr 2
          omega
        · rw [List.getElem?_take] at hi
          split at hi
          · rw [List.getElem?_drop] at hi
            exact hv _ x j lf hi hj
          · cases hi
  · rename_i c hh
    split at h
    case h_2 => exact none_some h
    rename_i hk
    obtain ⟨e, hu, htf⟩ := tiOf_slice (ht _ _ hti) (Nat.eq_of_beq_eq_true hk)
    split at h
    case h_2 => exact none_some h
    rename_i hel
    have hel := Nat.eq_of_beq_eq_true hel
    split at h
    case h_2 => exact none_some h
    rename_i ln hrow
    obtain ⟨l, et, hm, rfl⟩ := rowLen_ok hrow
    split at h
    case h_2 => exact none_some h
    rename_i a ha
    split at h
    case h_2 => exact none_some h
    rename_i b hb
    split at h
    case isFalse => exact none_some h
    rename_i h0
    split at h
    case isFalse => exact none_some h
    rename_i h1
    split at h
    case isFalse => exact none_some h
    rename_i h2
    refine ⟨_, h, fun ρ w u vlo vhi hr hp l1 l2 l3 l4 => ?_⟩
    rcases hr.row hm with ⟨b0, cap, len, hq, _, rfl, k1, k2, us, zs, hw, hau, k3⟩ | ⟨hq, rfl⟩
    · cases hp with
      | rnil _ _ a' hb' => rw [hq] at hb'; cases hb'
      | row _ _ b' cap' len' hb' =>
        rw [hq] at hb'
        cases hb'
        refine ⟨_, sliceAt_slice hu htf (bounds_ok ha hb l1 l2 l3 l4 h0 h1 (by omega) true), ?_⟩
        rw [show b.toNat - a.toNat = (b - a).toNat by omega]
        refine Is.sl c hh _ _ _ _ (by omega) (by omega) ?_
        by_cases hca : cap = a.toNat
        · exact .inl ⟨by omega, fun e => ⟨_, hq, by show l.length = 0; omega⟩⟩
        · rw [if_neg hca]
          refine .inr ⟨b0, cap, _, hq, by omega, by omega, ?_, by omega⟩
          simp only [Option.map_some, add_at, hel, Nat.zero_add]
    · cases hp with
      | row _ _ b' cap' len' hb' => rw [hq] at hb'; cases hb'
      | rnil _ _ a' hb' =>
        have e1 : a = 0 := by simp at h2; omega
        have e2 : b = 0 := by simp at h2; omega
        subst e1
        subst e2
        refine ⟨_, sliceAt_slice hu htf (bounds_ok ha hb l1 l2 l3 l4 (by omega) (by omega) (by omega) true), ?_⟩
        exact Is.sl c hh _ _ _ _ (by omega) (by omega) (.inl ⟨rfl, fun _ => ⟨_, hq, trivial⟩⟩)
  · rename_i c hh o n
    split at h
    case h_2 => exact none_some h
    rename_i hk
    obtain ⟨e, hu, htf⟩ := tiOf_slice (ht _ _ hti) (Nat.eq_of_beq_eq_true hk)
    split at h
    case h_2 => exact none_some h
    rename_i hel
    have hel := Nat.eq_of_beq_eq_true hel
    split at h
    case h_2 => exact none_some h
    rename_i a ha
    split at h
    case h_2 => exact none_some h
    rename_i b hb
    split at h
    · split at h
      case h_2 => exact none_some h
      rename_i ln hrow
      obtain ⟨l0, et0, hm0, rfl⟩ := rowLen_ok hrow
      split at h
      case isFalse => exact none_some h
      rename_i h0
      split at h
      case isFalse => exact none_some h
      rename_i h1
      split at h
      case isFalse => exact none_some h
      rename_i h2
      refine ⟨_, h, fun ρ w u vlo vhi hr hp l1 l2 l3 l4 => ?_⟩
      cases hp with
      | sl _ _ _ _ a0 k hk' hL hbb =>
      have hbk : b.toNat ≤ k ∧ b ≤ 9223372036854775807 ∧ ((k = 0 ∧ (o = 0 → ∃ q, ρ.r[hh]? = some q ∧ q.len0)) ∨ ∃ b0 cap len, ρ.r[hh]? = some (.row b0 cap len) ∧ o + b.toNat ≤ len ∧ o + k ≤ cap ∧ a0 = some ⟨b0, o * R.sz c, none⟩ ∧ len ≤ o + k) := by
        rcases hbb with ⟨rfl, hk0⟩ | ⟨b0, cap, len, hq, k1, k2, rfl, hk1⟩
        · rcases h2 with h2 | ⟨rfl, h2⟩
          · exact ⟨by omega, by omega, .inl ⟨rfl, hk0⟩⟩
          · obtain ⟨q, hq, hq0⟩ := hk0 rfl
            rcases hr.row hm0 with ⟨b0, cap, len, hq', _, rfl, _⟩ | ⟨hq', rfl⟩
            · rw [hq] at hq'; cases hq'
              have : l0.length = 0 := hq0
              exact ⟨by omega, by omega, .inl ⟨rfl, hk0⟩⟩
            · simp at h2
              exact ⟨by omega, by omega, .inl ⟨rfl, hk0⟩⟩
        · rcases h2 with h2 | ⟨rfl, h2⟩
          · exact ⟨by omega, by omega, .inr ⟨b0, cap, len, hq, by omega, k2, rfl, hk1⟩⟩
          · rcases hr.row hm0 with ⟨b0', cap', len', hq', _, rfl, g1, g2, _⟩ | ⟨hq', rfl⟩
            · rw [hq] at hq'; cases hq'
              exact ⟨by omega, by omega, .inr ⟨b0, cap, _, hq, by omega, k2, rfl, hk1⟩⟩
            · rw [hq] at hq'; cases hq'
      obtain ⟨hbk1, hbk2, hbk3⟩ := hbk
      clear hbb h2
      have f1 : b ≤ (k : Int) := by clear hbk3; omega
      have f2 : b.toNat - a.toNat = (b - a).toNat := by clear hbk3; omega
      have f3 : (b - a).toNat ≤ k - a.toNat := by clear hbk3; omega
      have f4 : (b - a).toNat ≤ 9223372036854775807 := by clear hbk3; omega
      refine ⟨_, sliceAt_slice hu htf (bounds_ok ha hb l1 l2 l3 l4 h0 h1 f1 true), ?_⟩
      rw [f2]
      refine Is.sl c hh _ _ _ _ f3 f4 ?_
      rcases hbk3 with ⟨rfl, hk0⟩ | ⟨b0, cap, len, hq, k1, k2, rfl, hk1⟩
      · exact .inl ⟨by omega, fun e => hk0 (by omega)⟩
      · by_cases hca : k = a.toNat
        · exact .inl ⟨by omega, fun e => ⟨_, hq, by show _ = 0; omega⟩⟩
        · rw [if_neg hca]
          refine .inr ⟨b0, cap, len, hq, by omega, by omega, ?_, by omega⟩
          simp only [Option.map_some, add_at, hel, Nat.add_mul]
    split at h
    case isFalse => exact none_some h
    rename_i h0
    split at h
    case isFalse => exact none_some h
    rename_i h1
    split at h
    case isFalse => exact none_some h
    rename_i h2
    refine ⟨_, h, fun ρ w u vlo vhi hr hp l1 l2 l3 l4 => ?_⟩
    cases hp with
    | sl _ _ _ _ a0 k hk' hL hbb =>
    refine ⟨_, sliceAt_slice hu htf (bounds_ok ha hb l1 l2 l3 l4 h0 h1 (by omega) true), ?_⟩
    rw [show b.toNat - a.toNat = (b - a).toNat by omega]
    refine Is.sl c hh _ _ _ _ (by omega) (by omega) ?_
    rcases hbb with ⟨rfl, hk0⟩ | ⟨b0, cap, len, hq, k1, k2, rfl, hk1⟩
    · exact .inl ⟨by omega, fun e => hk0 (by omega)⟩
    · by_cases hca : k = a.toNat
      · exact .inl ⟨by omega, fun e => ⟨_, hq, by show _ = 0; omega⟩⟩
      · rw [if_neg hca]
        refine .inr ⟨b0, cap, _, hq, by omega, by omega, ?_, by omega⟩
        simp only [Option.map_some, add_at, hel, Nat.add_mul]
  · split at h
    case h_2 => exact none_some h
    rename_i hk
    obtain ⟨e, hu, htf⟩ := tiOf_slice (ht _ _ hti) (Nat.eq_of_beq_eq_true hk)
    split at h
    case h_2 => exact none_some h
    rename_i a ha
    split at h
    case h_2 => exact none_some h
    rename_i b hb
    split at h
    case isFalse => exact none_some h
    rename_i h0
    split at h
    case isFalse => exact none_some h
    rename_i h1
    subst h0
    subst h1
    refine ⟨_, h, fun ρ w u vlo vhi hr hp l1 l2 l3 l4 => ?_⟩
    cases hp
    exact ⟨_, sliceAt_slice hu htf (bounds_ok ha hb l1 l2 l3 l4 (by omega) (by omega) (by omega) true), Is.v _ rfl⟩
  · rename_i s
    split at h
    case h_2 => exact none_some h
    rename_i hk
    have hu := tiOf_string (ht _ _ hti) (Nat.eq_of_beq_eq_true hk)
    split at h
    case h_2 => exact none_some h
    rename_i a ha
    split at h
    case h_2 => exact none_some h
    rename_i b hb
    split at h
    case isFalse => exact none_some h
    rename_i h0
    split at h
    case isFalse => exact none_some h
    rename_i h1
    split at h
    case isFalse => exact none_some h
    rename_i h2
    refine ⟨_, h, fun ρ w u vlo vhi hr hp l1 l2 l3 l4 => ?_⟩
    cases hp with
    | v _ hok =>
    refine ⟨_, sliceAt_string hu (bounds_ok ha hb l1 l2 l3 l4 h0 h1 (by omega) false), Is.v _ ?_⟩
    have hok := Nat.le_of_ble_eq_true hok
    show Nat.ble _ _ = true
    refine Nat.ble_eq_true_of_le ?_
    have : (s.extract a.toNat b.toNat).size ≤ s.size := by simp [ByteArray.size_extract]; omega
    omega
  · exact none_some h
end
end Go.Proofs.Ytjfcfljdojkcdaa.Ev
