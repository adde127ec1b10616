-- Written by a program (extend_print.py). Not trusted: Lean checks it.
import Derived.Test.YtbcdoncnhhjjeaaQSystemLost
import Derived.Laws.Externs
import Derived.Test.YtbcdoncnhhjjeaaPSystemLostx0
namespace Go.Proofs.Ytbcdoncnhhjjeaa.PSystemLost
open Go.RowKit Go.Proofs.YtbcdoncnhhjjeaaW.PrintWords Go.Proofs.YtbcdoncnhhjjeaaW.PrintLast Go.Proofs.YtbcdoncnhhjjeaaW.PrintMore
attribute [local go_sem] max2_int min2_int max_two min_two max_three min_three max_four min_four
set_option linter.unusedVariables false
set_option linter.unusedSimpArgs false
-- EXTIMPORTS Derived.Laws.Externs
def CallsX (P : Program) (f : FuncId) (args : Array Value) (w : World) (R : Ending → World → Prop) : Prop := ∃ v w', R (.returned v) w' ∧ (callFunc f args).run P w = .ok (.value v) w'
theorem CallsX.mono {P : Program} {f : FuncId} {args : Array Value} {w : World} {R R' : Ending → World → Prop} (h : CallsX P f args w R) (k : ∀ e w', R e w' → R' e w') : CallsX P f args w R' := by
 obtain ⟨v, w', hR, hr⟩ := h
 exact ⟨v, w', k _ _ hR, hr⟩
theorem goesX_ {P : Program} {ops : Array Oper} {Q : Exit → Act → World → Prop} {rest : List Oper} {oi : Oper} {a : Act} {w : World} (N : Option Tmp) (hd : oi.dst = N) (hg : oi.guard = none) {f : FuncId} {xs : Array Operand} {ts : Array TypeId} (args : Array Value)
  (hop : oi.op = .call { callee := .value (.func f), args := xs, argTypes := ts }) (hargs : xs.map a.eval = args)
  (h : CallsX P f args w fun e w' => ∃ v, e = .returned v ∧ wpList P ops Q rest (a.put N v) w') : wpList P ops Q (oi :: rest) a w := by
 obtain ⟨v, w', ⟨v', hv, hk⟩, hr⟩ := h
 refine wpList_plain hg fun K hK => ?_
 have hrun : (execOp a.eval oi).run P w = .ok (.value v) w' := by
  unfold execOp
  simp [hop, resolve, Deferred.ofValue, invoke, Act.eval, hargs, hr]
 unfold Oper.wp
 rw [hrun, Oper.upon_value]
 subst hd
 injection hv with hv
 subst hv
 exact hK _ _ hk
def bits_Add64.f (a0 : Int) (a1 : Int) (a2 : Int) : Option (Int × Int) := if 0 ≤ a0 ∧ 0 ≤ a1 ∧ 0 ≤ a2 ∧ a2 ≤ 1 then some ((a0 + a1 + a2) % 18446744073709551616, (a0 + a1 + a2) / 18446744073709551616) else none
theorem bits_Add64.calls (a0 : Int) (a1 : Int) (a2 : Int) (r1 : Int) (r2 : Int) (w : World) (h : bits_Add64.f a0 a1 a2 = some (r1, r2)) :
  CallsX Try.prog 59 #[.int .u64 a0, .int .u64 a1, .int .u64 a2] w fun e w' => e = .returned (.tuple #[.int .u64 r1, .int .u64 r2]) ∧ Drawn0 w w' := by
 unfold bits_Add64.f at h
 split at h
 ·rename_i hb
  obtain ⟨h0, h1, h2, h3⟩ := hb
  injection h with h
  injection h with e1 e2
  refine ⟨_, w, ⟨rfl, Drawn0.refl _⟩, ?_⟩
  rw [run_callFunc_extern Try.func59 q12 rfl rfl (e := add64Entry) rfl, run_add64 a0 a1 a2 h0 h1 h2 h3 w, ← e1, ← e2]
  rfl
 ·cases h
end Go.Proofs.Ytbcdoncnhhjjeaa.PSystemLost
