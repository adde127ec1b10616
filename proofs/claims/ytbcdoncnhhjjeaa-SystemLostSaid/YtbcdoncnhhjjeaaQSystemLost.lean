-- Written by a program (squeeze.py): tactic blocks that are used many times.
import Derived.Test.YtbcdoncnhhjjeaaProg
import Derived.Below
import Derived.Deep.Draws
import Derived.Deep.AppendLies
import Derived.Maps.AppendAt
import Derived.OwnWalk
import Derived.Laws.BytesArg
import Derived.Laws.MakeOwn
import Derived.Laws.OwnMore
import Derived.Deep.OwnRows
import Derived.Tactics
import Derived.Lib.ConvBytes
import Derived.Laws.Slices
import Derived.WalkKit
import Derived.KernelRfl
import Derived.RowKit3
import Derived.Deep.LoopGhost
import Derived.Deep.QuietTactic
import Derived.BigQuiet
import Derived.WideLaws
import Derived.Deep.DeepCutAuto
import Derived.Deep.CutBlock
import Derived.Deep.RegionHeld3
import Derived.Laws.Rows
import Derived.Lib.AppendStr
import Derived.ArgAppend
import Derived.Laws.IdiomCopy
import Derived.OrdersHeld
import Derived.Laws.BitsLemmas
import Derived.RowKit
import Derived.Test.YtbcdoncnhhjjeaaVSystemLostWWords
import Derived.Test.YtbcdoncnhhjjeaaVSystemLostWLast
import Derived.Test.YtbcdoncnhhjjeaaVSystemLostWTab
import Derived.Test.YtbcdoncnhhjjeaaVSystemLostWQPut
import Derived.Test.YtbcdoncnhhjjeaaVSystemLostWApart
import Derived.Test.YtbcdoncnhhjjeaaVSystemLostWArr
import Derived.Test.YtbcdoncnhhjjeaaVSystemLostWZeros
import Derived.Test.YtbcdoncnhhjjeaaVSystemLostWFoot
import Derived.Test.YtbcdoncnhhjjeaaVSystemLostWKept
import Derived.Test.YtbcdoncnhhjjeaaVSystemLostWShare
import Derived.Test.YtbcdoncnhhjjeaaVSystemLostWN
import Derived.Test.YtbcdoncnhhjjeaaVSystemLostWEqStruct
import Derived.Test.YtbcdoncnhhjjeaaVSystemLostWRepsOne
import Derived.Test.YtbcdoncnhhjjeaaVSystemLostWNEv
import Derived.Test.YtbcdoncnhhjjeaaVSystemLostWMore
import Derived.Test.YtbcdoncnhhjjeaaVSystemLostLoads
import Derived.Test.YtbcdoncnhhjjeaaVSystemLostShort
import Derived.Laws.Externs
import Derived.Lib.Strings
import Derived.Lib.Slices
import Derived.Lib.Small
import Derived.Lib.Walk
import Derived.Lib.BitFns
import Derived.Test.YtbcdoncnhhjjeaaVSystemLostArrs
namespace Go.Proofs.Ytbcdoncnhhjjeaa.PSystemLost
open Go.RowKit Go.Proofs.YtbcdoncnhhjjeaaW.PrintWords Go.Proofs.YtbcdoncnhhjjeaaW.PrintLast Go.Proofs.YtbcdoncnhhjjeaaW.PrintMore
set_option linter.unusedVariables false
theorem q0 {p_ : Prop} (h_ : p_ := by repeat (first | (with_reducible first | exact HB.out | apply below_alloc | apply pw_below_drewN | apply below_drew1) | exact HB.out)) : p_ := h_
theorem q1 {p_ : Prop} (h_ : p_ := by repeat (first | (with_reducible first | exact HB.out | apply below_alloc | apply pw_below_drewN | apply below_drew1 | refine below_set ?_ GE167.out | refine below_set ?_ GE168.out | refine below_set ?_ GE169.out | refine below_set ?_ GE181.out) | exact HB.out)) : p_ := h_
theorem q2 {p_ : Prop} (h_ : p_ := by repeat (first | (with_reducible first | exact HB.out | apply below_alloc | apply pw_below_drewN | apply below_drew1 | refine below_set ?_ GE149.out | refine below_set ?_ GE150.out | refine below_set ?_ GE151.out | refine below_set ?_ GE152.out) | exact HB.out)) : p_ := h_
theorem q3 {p_ : Prop} (h_ : p_ := by (try simp only [List.map_toArray, List.map_cons, List.map_nil]); first | done | rfl | (simp only [List.length_drop, List.length_take]; rfl)) : p_ := h_
theorem q4 {p_ : Prop} (h_ : p_ := by repeat (first | (with_reducible first | exact HB.out | apply below_alloc | apply pw_below_drewN | apply below_drew1 | refine below_set ?_ GE130.out) | exact HB.out)) : p_ := h_
theorem q5 {p_ : Prop} (h_ : p_ := by repeat (first | (with_reducible first | exact HB.out | apply below_alloc | apply pw_below_drewN | apply below_drew1 | refine below_set ?_ GE167.out | refine below_set ?_ GE168.out | refine below_set ?_ GE169.out | refine below_set ?_ GE181.out | refine below_set ?_ GE205.out) | exact HB.out)) : p_ := h_
theorem q6 {p_ : Prop} (h_ : p_ := by repeat (first | (with_reducible first | exact HB.out | apply below_alloc | apply pw_below_drewN | apply below_drew1 | refine below_set ?_ GE167.out | refine below_set ?_ GE168.out | refine below_set ?_ GE169.out | refine below_set ?_ GE181.out | refine below_set ?_ GE205.out | refine below_set ?_ GE217.out) | exact HB.out)) : p_ := h_
theorem q7 {p_ : Prop} (h_ : p_ := by (with_reducible repeat (first | refine blk_drewN ?_ _ | refine blk_drew ?_ | refine blk_alloc ?_ _)); refine blk_put (cs := #[.int .i64 a2_0, .int .i64 a2_1, .int .i64 a2_2, .int .i64 a2_3, .int .i64 a2_4, .int .i64 a2_5, .int .i64 a2_6, .int .i64 a2_7, .int .u32 a2_8, .int .u64 a2_9, .int .u64 a2_10, .int .u64 a2_11, .int .u64 a2_12, .slice A2_13 l2_13.length c2_13, .int .i64 a2_14, .bool a2_15, .slice A2_16 l2_16.length c2_16]) ?_ 2 _ rfl; (with_reducible repeat (first | refine blk_drewN ?_ _ | refine blk_drew ?_ | refine blk_alloc ?_ _)); exact BK169.out) : p_ := h_
theorem q8 {p_ : Prop} (h_ : p_ := by repeat (first | (with_reducible first | exact HB.out | apply below_alloc | apply pw_below_drewN | apply below_drew1 | refine below_set ?_ GE167.out | refine below_set ?_ GE168.out | refine below_set ?_ GE169.out) | exact HB.out)) : p_ := h_
theorem q9 {p_ : Prop} (h_ : p_ := by first | rfl | (simp [errW_none, errW_some] <;> rfl) | (simp [*, errW_none, errW_some] <;> rfl)) : p_ := h_
theorem q10 {p_ : Prop} (h_ : p_ := by rw [hw]; exact (by (with_reducible repeat (first | apply Kd.R_alloc | apply Kd.R_drewN | apply Kd.R_drew)); exact Kd.R_mono (Kd.R_far (p := ⟨gb217, 10, none⟩) (Kd.R_far (p := ⟨gb217, 9, none⟩) (Kd.R_far (p := ⟨gb217, 8, none⟩) (Kd.R_far (p := ⟨gb217, 7, none⟩) (Kd.R_far (p := ⟨gb217, 6, none⟩) (Kd.R_far (p := ⟨gb217, 5, none⟩) (Kd.R_far (p := ⟨gb217, 4, none⟩) (Kd.R_far (p := ⟨gb217, 3, none⟩) (Kd.R_far (p := ⟨gb217, 2, none⟩) (Kd.R_far (p := ⟨gb217, 1, none⟩) (Kd.R_far (p := ⟨gb217, 0, none⟩) (Kd.R_types HO203.out BK217.out (by decide)) (fun _ hk => hk.2) (.int .i64 t206)) (fun _ hk => hk.2) (.int .i64 t207)) (fun _ hk => hk.2) (.int .i64 t208)) (fun _ hk => hk.2) (.int .i64 t209)) (fun _ hk => hk.2) (.int .i64 t210)) (fun _ hk => hk.2) (.int .u32 t211)) (fun _ hk => hk.2) (.int .u64 t212)) (fun _ hk => hk.2) (.int .i64 t213)) (fun _ hk => hk.2) (.int .i64 t214)) (fun _ hk => hk.2) (.int .i64 t215)) (fun _ hk => hk.2) (.int .i64 t216)) (fun _ hk => trivial))) : p_ := h_
theorem q11 {p_ : Prop} (h_ : p_ := by rw [hw]; exact (by (with_reducible repeat (first | apply Kd.S_alloc | apply Kd.S_drewN | apply Kd.S_drew)); exact Kd.S_mono (Kd.S_far (p := ⟨gb217, 10, none⟩) (Kd.S_far (p := ⟨gb217, 9, none⟩) (Kd.S_far (p := ⟨gb217, 8, none⟩) (Kd.S_far (p := ⟨gb217, 7, none⟩) (Kd.S_far (p := ⟨gb217, 6, none⟩) (Kd.S_far (p := ⟨gb217, 5, none⟩) (Kd.S_far (p := ⟨gb217, 4, none⟩) (Kd.S_far (p := ⟨gb217, 3, none⟩) (Kd.S_far (p := ⟨gb217, 2, none⟩) (Kd.S_far (p := ⟨gb217, 1, none⟩) (Kd.S_far (p := ⟨gb217, 0, none⟩) (Kd.S_types HO198.out BK217.out (by decide)) (fun _ hk => hk.2) (.int .i64 t206)) (fun _ hk => hk.2) (.int .i64 t207)) (fun _ hk => hk.2) (.int .i64 t208)) (fun _ hk => hk.2) (.int .i64 t209)) (fun _ hk => hk.2) (.int .i64 t210)) (fun _ hk => hk.2) (.int .u32 t211)) (fun _ hk => hk.2) (.int .u64 t212)) (fun _ hk => hk.2) (.int .i64 t213)) (fun _ hk => hk.2) (.int .i64 t214)) (fun _ hk => hk.2) (.int .i64 t215)) (fun _ hk => hk.2) (.int .i64 t216)) (fun _ hk => hk.1))) : p_ := h_
theorem q12 {p_ : Prop} (h_ : p_ := by kernel_rfl) : p_ := h_
theorem q13 {p_ : Prop} (h_ : p_ := by repeat (first | (with_reducible first | exact HB.out | apply below_alloc | apply pw_below_drewN | apply below_drew1 | refine below_set ?_ GE167.out | refine below_set ?_ GE168.out) | exact HB.out)) : p_ := h_
theorem q14 {p_ : Prop} (h_ : p_ := by repeat (first | (with_reducible first | exact HB.out | apply below_alloc | apply pw_below_drewN | apply below_drew1 | refine below_set ?_ GE101.out | refine below_set ?_ GE102.out) | exact HB.out)) : p_ := h_
theorem q15 {p_ : Prop} (h_ : p_ := by (with_reducible repeat (first | refine blk_drewN ?_ _ | refine blk_drew ?_ | refine blk_alloc ?_ _)); exact BK151.out) : p_ := h_
theorem q16 {p_ : Prop} (h_ : p_ := by (with_reducible repeat (first | refine blk_drewN ?_ _ | refine blk_drew ?_ | refine blk_alloc ?_ _)); exact BK149.out) : p_ := h_
theorem q17 {p_ : Prop} (h_ : p_ := by (with_reducible repeat (first | refine blk_drewN ?_ _ | refine blk_drew ?_ | refine blk_alloc ?_ _)); exact BK152.out) : p_ := h_
theorem q18 {p_ : Prop} (h_ : p_ := by repeat (first | (with_reducible first | exact HB.out | apply below_alloc | apply pw_below_drewN | apply below_drew1 | refine below_set ?_ GE167.out) | exact HB.out)) : p_ := h_
theorem q19 {p_ : Prop} (h_ : p_ := by repeat (first | (with_reducible first | exact HB.out | apply below_alloc | apply pw_below_drewN | apply below_drew1 | refine below_set ?_ GE101.out) | exact HB.out)) : p_ := h_
theorem q20 {p_ : Prop} (h_ : p_ := by repeat (first | exact Drawn0.refl _ | apply Drawn0.step)) : p_ := h_
theorem q21 {p_ : Prop} (h_ : p_ := by (with_reducible repeat (first | refine blk_drewN ?_ _ | refine blk_drew ?_ | refine blk_alloc ?_ _)); exact BK150.out) : p_ := h_
theorem q22 {p_ : Prop} (h_ : p_ := by (with_reducible repeat (first | refine blk_drewN ?_ _ | refine blk_drew ?_ | refine blk_alloc ?_ _)); refine blk_far ?_ NB181_169.out _; (with_reducible repeat (first | refine blk_drewN ?_ _ | refine blk_drew ?_ | refine blk_alloc ?_ _)); exact BK181.out) : p_ := h_
theorem q23 {p_ : Prop} (h_ : p_ := by (with_reducible repeat (first | apply Kd.R_alloc | apply Kd.R_drewN | apply Kd.R_drew)); exact HO203.out) : p_ := h_
theorem q24 {p_ : Prop} (h_ : p_ := by (with_reducible repeat (first | refine blk_drewN ?_ _ | refine blk_drew ?_ | refine blk_alloc ?_ _)); exact BK181.out) : p_ := h_
theorem q25 {p_ : Prop} (h_ : p_ := by repeat (first | (with_reducible first | exact HB.out | apply below_alloc | apply pw_below_drewN | apply below_drew1 | refine below_set ?_ GE107.out) | exact HB.out)) : p_ := h_
theorem q26 {p_ : Prop} (h_ : p_ := by (with_reducible repeat (first | apply Kd.S_alloc | apply Kd.S_drewN | apply Kd.S_drew)); exact HO198.out) : p_ := h_
theorem q27 {p_ : Prop} (h_ : p_ := by repeat (first | (with_reducible first | exact HB.out | apply below_alloc | apply pw_below_drewN | apply below_drew1 | refine below_set ?_ GE101.out | refine below_set ?_ GE102.out | refine below_set ?_ GE103.out) | exact HB.out)) : p_ := h_
theorem q28 {p_ : Prop} (h_ : p_ := by first | rfl | (simp; done) | (simp [*]; done) | (simp only [Value.int.injEq, true_and]; unfold wrap64; omega)) : p_ := h_
theorem q29 {p_ : Prop} (h_ : p_ := by repeat (first | (with_reducible first | exact HB.out | apply below_alloc | apply pw_below_drewN | apply below_drew1 | refine below_set ?_ GE143.out | refine below_set ?_ GE144.out) | exact HB.out)) : p_ := h_
theorem q30 {p_ : Prop} (h_ : p_ := by first | rfl | (simp; done) | (simp [*]; done)) : p_ := h_
theorem q31 {p_ : Prop} (h_ : p_ := by rw [hw]; exact (by apply Eq.trans; (case h₁ => repeat (first | (with_reducible first | exact BK205.out | apply blk_set | apply blk_drewN | apply blk_drew | apply blk_alloc))); simp only [List.setIfInBounds_toArray, List.set_cons_zero, List.set_cons_succ])) : p_ := h_
theorem q32 {p_ : Prop} (h_ : p_ := by (with_reducible repeat (first | refine blk_drewN ?_ _ | refine blk_drew ?_ | refine blk_alloc ?_ _)); refine blk_put (cs := #[.int .u64 (IntKind.u64.wrap (Int.tdiv a0_0 a1)), .int .u64 t132, .bool false]) ?_ 2 _ rfl; (with_reducible repeat (first | refine blk_drewN ?_ _ | refine blk_drew ?_ | refine blk_alloc ?_ _)); refine blk_put (cs := #[.int .u64 (IntKind.u64.wrap (Int.tdiv a0_0 a1)), .int .u64 0, .bool false]) ?_ 1 _ rfl; (with_reducible repeat (first | refine blk_drewN ?_ _ | refine blk_drew ?_ | refine blk_alloc ?_ _)); refine blk_put (cs := #[.int .u64 0, .int .u64 0, .bool false]) ?_ 0 _ rfl; (with_reducible repeat (first | refine blk_drewN ?_ _ | refine blk_drew ?_ | refine blk_alloc ?_ _)); exact BK131.out) : p_ := h_
theorem q33 {p_ : Prop} (h_ : p_ := by repeat (first | (with_reducible first | exact HB.out | apply below_alloc | apply pw_below_drewN | apply below_drew1 | refine below_set ?_ GE110.out) | exact HB.out)) : p_ := h_
theorem q34 {p_ : Prop} (h_ : p_ := by first | (with_reducible assumption) | assumption) : p_ := h_
theorem q35 {p_ : Prop} (h_ : p_ := by (with_reducible repeat (first | refine blk_drewN ?_ _ | refine blk_drew ?_ | refine blk_alloc ?_ _)); exact BK217.out) : p_ := h_
theorem q36 {p_ : Prop} (h_ : p_ := by repeat (first | (with_reducible first | exact BK181.out | refine blk_drewN ?_ _ | refine blk_drew ?_ | refine blk_alloc ?_ _) | refine blk_far ?_ NB181_205.out _ | exact BK181.out)) : p_ := h_
theorem q37 {p_ : Prop} (h_ : p_ := by repeat (first | (with_reducible first | exact BK169.out | refine blk_drewN ?_ _ | refine blk_drew ?_ | refine blk_alloc ?_ _) | refine blk_far ?_ NB169_205.out _ | exact BK169.out)) : p_ := h_
theorem q38 {p_ : Prop} (h_ : p_ := by repeat (first | (with_reducible first | exact BK168.out | refine blk_drewN ?_ _ | refine blk_drew ?_ | refine blk_alloc ?_ _) | refine blk_far ?_ NB168_205.out _ | exact BK168.out)) : p_ := h_
theorem q39 {p_ : Prop} (h_ : p_ := by repeat (first | (with_reducible first | exact BK167.out | refine blk_drewN ?_ _ | refine blk_drew ?_ | refine blk_alloc ?_ _) | refine blk_far ?_ NB167_205.out _ | exact BK167.out)) : p_ := h_
theorem q40 {p_ : Prop} (h_ : p_ := by rw [hw]; exact (by apply Eq.trans; (case h₁ => repeat (first | (with_reducible first | exact BK217.out | apply blk_set | apply blk_drewN | apply blk_drew | apply blk_alloc))); simp only [List.setIfInBounds_toArray, List.set_cons_zero, List.set_cons_succ])) : p_ := h_
theorem q41 {p_ : Prop} (h_ : p_ := by rw [hw]; exact (by apply Eq.trans; (case h₁ => repeat (first | (with_reducible first | exact BK181.out | apply blk_set | apply blk_drewN | apply blk_drew | apply blk_alloc))); simp only [List.setIfInBounds_toArray, List.set_cons_zero, List.set_cons_succ])) : p_ := h_
theorem q42 {p_ : Prop} (h_ : p_ := by (with_reducible repeat (first | refine blk_drewN ?_ _ | refine blk_drew ?_ | refine blk_alloc ?_ _)); refine blk_far ?_ NB168_169.out _; (with_reducible repeat (first | refine blk_drewN ?_ _ | refine blk_drew ?_ | refine blk_alloc ?_ _)); exact BK168.out) : p_ := h_
theorem q43 {p_ : Prop} (h_ : p_ := by (with_reducible repeat (first | refine blk_drewN ?_ _ | refine blk_drew ?_ | refine blk_alloc ?_ _)); refine blk_far ?_ NB167_169.out _; (with_reducible repeat (first | refine blk_drewN ?_ _ | refine blk_drew ?_ | refine blk_alloc ?_ _)); exact BK167.out) : p_ := h_
theorem q44 {p_ : Prop} (h_ : p_ := by repeat (first | (with_reducible first | exact HB.out | apply below_alloc | apply pw_below_drewN | apply below_drew1 | refine below_set ?_ GE121.out) | exact HB.out)) : p_ := h_
theorem q45 {p_ : Prop} (h_ : p_ := by (with_reducible repeat (first | refine blk_drewN ?_ _ | refine blk_drew ?_ | refine blk_alloc ?_ _)); exact BK103.out) : p_ := h_
theorem q46 {p_ : Prop} (h_ : p_ := by repeat (first | (with_reducible first | exact HB.out | apply below_alloc | apply pw_below_drewN | apply below_drew1 | refine below_set ?_ GE149.out | refine below_set ?_ GE150.out | refine below_set ?_ GE151.out) | exact HB.out)) : p_ := h_
theorem q47 {p_ : Prop} (h_ : p_ := by (with_reducible repeat (first | refine blk_drewN ?_ _ | refine blk_drew ?_ | refine blk_alloc ?_ _)); refine blk_put (cs := #[.int .i64 t153, .int .i64 t154, .int .i64 t155, .int .i64 t156, .int .i64 t157, .int .u32 t158, .int .u64 t159, .int .i64 t160, .int .i64 t161, .int .i64 t162, .int .i64 t163]) ?_ 1 _ rfl; (with_reducible repeat (first | refine blk_drewN ?_ _ | refine blk_drew ?_ | refine blk_alloc ?_ _)); exact BK149.out) : p_ := h_
theorem q48 {p_ : Prop} (h_ : p_ := by omega) : p_ := h_
theorem q49 {p_ : Prop} (h_ : p_ := by repeat (first | (with_reducible first | exact HB.out | apply below_alloc | apply pw_below_drewN | apply below_drew1 | refine below_set ?_ GE149.out | refine below_set ?_ GE150.out) | exact HB.out)) : p_ := h_
theorem q50 {p_ : Prop} (h_ : p_ := by repeat (first | (with_reducible first | exact HB.out | apply below_alloc | apply pw_below_drewN | apply below_drew1 | refine below_set ?_ GE130.out | refine below_set ?_ GE131.out) | exact HB.out)) : p_ := h_
theorem q51 {p_ : Prop} (h_ : p_ := by repeat (first | (with_reducible first | exact BK205.out | refine blk_drewN ?_ _ | refine blk_drew ?_ | refine blk_alloc ?_ _) | refine blk_far ?_ NB205_217.out _ | exact BK205.out)) : p_ := h_
theorem q52 {p_ : Prop} (h_ : p_ := by repeat (first | (with_reducible first | exact BK181.out | refine blk_drewN ?_ _ | refine blk_drew ?_ | refine blk_alloc ?_ _) | refine blk_far ?_ NB181_217.out _ | exact BK181.out)) : p_ := h_
theorem q53 {p_ : Prop} (h_ : p_ := by repeat (first | (with_reducible first | exact BK169.out | refine blk_drewN ?_ _ | refine blk_drew ?_ | refine blk_alloc ?_ _) | refine blk_far ?_ NB169_217.out _ | exact BK169.out)) : p_ := h_
theorem q54 {p_ : Prop} (h_ : p_ := by repeat (first | (with_reducible first | exact BK169.out | refine blk_drewN ?_ _ | refine blk_drew ?_ | refine blk_alloc ?_ _) | refine blk_far ?_ NB169_181.out _ | exact BK169.out)) : p_ := h_
theorem q55 {p_ : Prop} (h_ : p_ := by repeat (first | (with_reducible first | exact BK168.out | refine blk_drewN ?_ _ | refine blk_drew ?_ | refine blk_alloc ?_ _) | refine blk_far ?_ NB168_217.out _ | exact BK168.out)) : p_ := h_
theorem q56 {p_ : Prop} (h_ : p_ := by repeat (first | (with_reducible first | exact BK168.out | refine blk_drewN ?_ _ | refine blk_drew ?_ | refine blk_alloc ?_ _) | refine blk_far ?_ NB168_181.out _ | exact BK168.out)) : p_ := h_
theorem q57 {p_ : Prop} (h_ : p_ := by repeat (first | (with_reducible first | exact BK167.out | refine blk_drewN ?_ _ | refine blk_drew ?_ | refine blk_alloc ?_ _) | refine blk_far ?_ NB167_217.out _ | exact BK167.out)) : p_ := h_
theorem q58 {p_ : Prop} (h_ : p_ := by repeat (first | (with_reducible first | exact BK167.out | refine blk_drewN ?_ _ | refine blk_drew ?_ | refine blk_alloc ?_ _) | refine blk_far ?_ NB167_181.out _ | exact BK167.out)) : p_ := h_
theorem q59 {p_ : Prop} (h_ : p_ := by first | rfl | exact congrArg (fun b_ : Bool => Ending.returned (Value.bool b_)) (by assumption) | (simp [errW_none, errW_some] <;> rfl) | (simp [*, errW_none, errW_some] <;> rfl)) : p_ := h_
theorem q60 {p_ : Prop} (h_ : p_ := by (with_reducible repeat (first | refine blk_drewN ?_ _ | refine blk_drew ?_ | refine blk_alloc ?_ _)); exact BK205.out) : p_ := h_
theorem q61 {p_ : Prop} (h_ : p_ := by (with_reducible repeat (first | refine blk_drewN ?_ _ | refine blk_drew ?_ | refine blk_alloc ?_ _)); exact BK107.out) : p_ := h_
end Go.Proofs.Ytbcdoncnhhjjeaa.PSystemLost
