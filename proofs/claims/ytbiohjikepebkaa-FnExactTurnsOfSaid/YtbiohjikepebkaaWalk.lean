/-
  The walks: the program computes what the functions of plain data compute, wherever these come to a result; printed by a program of the prover.
-/
import Derived.Test.YtbiohjikepebkaaDefs
import Derived.Test.YtbiohjikepebkaaProg
import Derived.Test.YtbiohjikepebkaaAlive
namespace Go.Ev
open Go.Proofs
set_option linter.unusedVariables false
set_option linter.unusedSimpArgs false
set_option maxRecDepth 100000
def tys : List (Nat × Ty) := [(3, I), (4, .bool), (5, (.int .u8)), (22, (.sl (.int .u8))), (23, (.sl (.sl I))), (25, tQueues), (33, tQueues), (40, (.sl I)), (75, (.sl .bool)), (78, tl20Rd)]
def tups : List (Nat × List Ty) := []
def tab : Tab := tabOf tys tups
def tns (t : Turn) (a n : Nat) : List (Nat × Turn) := (List.range' a n).map fun i => (i, t)
abbrev SemF (f : Nat) (sa : List S2) (ba : List SB) {ρ : Type} (F : FAr sa ba → Option ρ) (out : ρ → AV × Store) : Prop := ∀ x y, F x = some y → SemCall Try.prog f (encAr sa ba x).1 (encAr sa ba x).2 (out y).1 (out y).2
noncomputable abbrev evF (C : Cfg) (O : Oracle) (L : Loops) (f : Nat) (sa : List S2) (ba : List SB) (x : FAr sa ba) := evBodyK Try.prog C O L f (encAr sa ba x).1 (encAr sa ba x).2 (fun v s => some (v, s))
noncomputable abbrev rdF (C : Cfg) (O : Oracle) (L : Loops) (f b i : Nat) (sh : List (Nat × S2)) (bs : List SB) (x : FSt sh bs) := roundK C.T (C.hint f) C.mode O L b (lp Try.prog f i) (encSt sh bs x) (fun e s => some (e, s))
abbrev loF (C : Cfg) (O : Oracle) (L : Loops) (f b i : Nat) (lc : LCon) := LConOk C.T (C.hint f) C.mode O L b (lp Try.prog f i) lc
theorem okP : progOk Try.prog = true := by kernel_rfl
theorem tabP : TabOk Try.prog tab := tabOf_ok (by kernel_rfl)
theorem folP : Try.prog.follows .mixedOrders = true := by kernel_rfl
/-! 17 -/
def C_0 : Cfg := { T := tab, hint := fun _ => { mu := [0, 1], keepR := [0], res := [0] }, mode := fun _ => .borrow }
noncomputable def O_0 : Oracle := Oracle.of []
noncomputable def L_0 : Loops := Loops.of []
theorem lf_0 : LoopsFn Try.prog C_0 O_0 17 L_0 := LoopsFn.nil' (by kernel_rfl)
def sa_0 : List S2 := []
def ba_0 : List SB := []
def out_0 (r : (List (List Int))) : AV × Store := out1 (.agg [.all 0]) [.data (.sl I)] (r, ())
theorem w_0 (x : FAr sa_0 ba_0) : evF C_0 O_0 L_0 17 sa_0 ba_0 x =
 impl_NewQueuesK  (fun r => some (out_0 r)) := by kernel_rfl
theorem sem_0 : SemF 17 sa_0 ba_0 (fun x => impl_NewQueues) out_0 :=
 sem_of folP okP tabP (Oracle.of_ok Oracle.nil_ok) lf_0 fun x => (w_0 x).trans (impl_NewQueues_eq  _)
noncomputable def c_0 : Con := Con.shape sa_0 ba_0 (fun x => impl_NewQueues) out_0
theorem ok_0 : ConOk Try.prog 17 c_0 := Con.shape_ok sem_0

/-! 19 -/
def C_1 : Cfg := { T := tab, hint := fun _ => { mu := [0, 1], keepR := [0], res := [0] }, mode := fun _ => .borrow }
noncomputable def O_1 : Oracle := Oracle.of []
noncomputable def L_1 : Loops := Loops.of []
theorem lf_1 : LoopsFn Try.prog C_1 O_1 19 L_1 := LoopsFn.nil' (by kernel_rfl)
def sa_1 : List S2 := []
def ba_1 : List SB := []
def out_1 (r : (List (List Int))) : AV × Store := out1 (.agg [.all 0]) [.data (.sl I)] (r, ())
theorem w_1 (x : FAr sa_1 ba_1) : evF C_1 O_1 L_1 19 sa_1 ba_1 x =
 spec_NewQueuesK  (fun r => some (out_1 r)) := by kernel_rfl
theorem sem_1 : SemF 19 sa_1 ba_1 (fun x => spec_NewQueues) out_1 :=
 sem_of folP okP tabP (Oracle.of_ok Oracle.nil_ok) lf_1 fun x => (w_1 x).trans (spec_NewQueues_eq  _)
noncomputable def c_1 : Con := Con.shape sa_1 ba_1 (fun x => spec_NewQueues) out_1
theorem ok_1 : ConOk Try.prog 19 c_1 := Con.shape_ok sem_1

/-! 44 -/
def C_2 : Cfg := { T := tab, hint := fun _ => { keepR := [0, 1, 4, 5, 10, 14, 25], res := [4], order := [(6, tns .read 0 5 ++ tns .forced 5 4)], keepL := [(0, [0, 1, 5])], keepX := [(0, []), (1, [0, 1, 5])] }, mode := fun _ => .borrow }
noncomputable def O_2 : Oracle := Oracle.of []
def sh_2_l0 : List (Nat × S2) := [(0, .one (.dat (.sl I))), (1, .one (.dat (.sl I))), (5, .one (.dat I))]
def bs_2_l0 : List SB := []
def xs_2_l0 : List (Nat × S2) := []
def xb_2_l0 : List SB := []
def ys_2_l0 : List (Nat × S2) := [(4, .one (.dat .bool))]
def yb_2_l0 : List SB := []
noncomputable def lc_2_l0 : LCon := LCon.shape sh_2_l0 bs_2_l0 laws_sameInts_l0 (fun a => (.exit 0, encSt xs_2_l0 xb_2_l0 a)) (fun b => encSt ys_2_l0 yb_2_l0 b)
noncomputable def L_2 : Loops := Loops.of [(0, lc_2_l0)]
theorem r_2_l0 (x : FSt sh_2_l0 bs_2_l0) : rdF C_2 O_2 L_2 44 0 0 sh_2_l0 bs_2_l0 x =
 laws_sameInts_l0K x.1 x.2.1 x.2.2.1 (fun y => some (Ex.normal, encSt sh_2_l0 bs_2_l0 y)) (fun a => some (Ex.exit 0, encSt xs_2_l0 xb_2_l0 a)) (fun b => some (Ex.ret, encSt ys_2_l0 yb_2_l0 b)) := by kernel_rfl
theorem lo_2_l0 : loF C_2 O_2 L_2 44 0 0 lc_2_l0 :=
 LCon.shape_ok (fun a => by simp) fun x => (r_2_l0 x).trans (laws_sameInts_l0_eq x.1 x.2.1 x.2.2.1 _ _ _)
theorem lf_2 : LoopsFn Try.prog C_2 O_2 44 L_2 := LoopsFn.all (by kernel_rfl) (by decide) ⟨lo_2_l0, trivial⟩
def sa_2 : List S2 := [.one (.dat (.sl I)), .one (.dat (.sl I))]
def ba_2 : List SB := []
def out_2 (r : Bool) : AV × Store := out1 (.one (.dat .bool)) [] (r, ())
theorem w_2 (x : FAr sa_2 ba_2) : evF C_2 O_2 L_2 44 sa_2 ba_2 x =
 laws_sameIntsK x.1 x.2.1 (fun r => some (out_2 r)) := by kernel_rfl
theorem sem_2 : SemF 44 sa_2 ba_2 (fun x => laws_sameInts x.1 x.2.1) out_2 :=
 sem_of folP okP tabP (Oracle.of_ok Oracle.nil_ok) lf_2 fun x => (w_2 x).trans (laws_sameInts_eq x.1 x.2.1 _)
noncomputable def c_2 : Con := Con.shape sa_2 ba_2 (fun x => laws_sameInts x.1 x.2.1) out_2
theorem ok_2 : ConOk Try.prog 44 c_2 := Con.shape_ok sem_2

/-! 54 -/
def C_3 : Cfg := { T := tab, hint := fun _ => { keepR := [0, 1, 4, 5, 10, 14, 26], res := [4], order := [(6, tns .read 0 5 ++ tns .forced 5 5)], keepL := [(0, [0, 1, 5])], keepX := [(0, []), (1, [0, 1, 5])] }, mode := fun _ => .borrow }
noncomputable def O_3 : Oracle := Oracle.of [(44, c_2)]
def sh_3_l0 : List (Nat × S2) := [(0, .one (.dat (.sl (.sl I)))), (1, .one (.dat (.sl (.sl I)))), (5, .one (.dat I))]
def bs_3_l0 : List SB := []
def xs_3_l0 : List (Nat × S2) := []
def xb_3_l0 : List SB := []
def ys_3_l0 : List (Nat × S2) := [(4, .one (.dat .bool))]
def yb_3_l0 : List SB := []
noncomputable def lc_3_l0 : LCon := LCon.shape sh_3_l0 bs_3_l0 laws_sameRows_l0 (fun a => (.exit 0, encSt xs_3_l0 xb_3_l0 a)) (fun b => encSt ys_3_l0 yb_3_l0 b)
noncomputable def L_3 : Loops := Loops.of [(0, lc_3_l0)]
theorem r_3_l0 (x : FSt sh_3_l0 bs_3_l0) : rdF C_3 O_3 L_3 54 0 0 sh_3_l0 bs_3_l0 x =
 laws_sameRows_l0K x.1 x.2.1 x.2.2.1 (fun y => some (Ex.normal, encSt sh_3_l0 bs_3_l0 y)) (fun a => some (Ex.exit 0, encSt xs_3_l0 xb_3_l0 a)) (fun b => some (Ex.ret, encSt ys_3_l0 yb_3_l0 b)) := by kernel_rfl
theorem lo_3_l0 : loF C_3 O_3 L_3 54 0 0 lc_3_l0 :=
 LCon.shape_ok (fun a => by simp) fun x => (r_3_l0 x).trans (laws_sameRows_l0_eq x.1 x.2.1 x.2.2.1 _ _ _)
theorem lf_3 : LoopsFn Try.prog C_3 O_3 54 L_3 := LoopsFn.all (by kernel_rfl) (by decide) ⟨lo_3_l0, trivial⟩
def sa_3 : List S2 := [.one (.dat (.sl (.sl I))), .one (.dat (.sl (.sl I)))]
def ba_3 : List SB := []
def out_3 (r : Bool) : AV × Store := out1 (.one (.dat .bool)) [] (r, ())
theorem w_3 (x : FAr sa_3 ba_3) : evF C_3 O_3 L_3 54 sa_3 ba_3 x =
 laws_sameRowsK x.1 x.2.1 (fun r => some (out_3 r)) := by kernel_rfl
theorem sem_3 : SemF 54 sa_3 ba_3 (fun x => laws_sameRows x.1 x.2.1) out_3 :=
 sem_of folP okP tabP (Oracle.of_ok (Oracle.cons_ok ok_2 Oracle.nil_ok)) lf_3 fun x => (w_3 x).trans (laws_sameRows_eq x.1 x.2.1 _)
noncomputable def c_3 : Con := Con.shape sa_3 ba_3 (fun x => laws_sameRows x.1 x.2.1) out_3
theorem ok_3 : ConOk Try.prog 54 c_3 := Con.shape_ok sem_3

/-! 18 -/
def C_4 : Cfg := { T := tab, hint := fun _ => { keepR := [2, 3, 4], res := [4] }, mode := fun _ => .borrow }
noncomputable def O_4 : Oracle := Oracle.of [(54, c_3)]
noncomputable def L_4 : Loops := Loops.of []
theorem lf_4 : LoopsFn Try.prog C_4 O_4 18 L_4 := LoopsFn.nil' (by kernel_rfl)
def sa_4 : List S2 := [.one (.dat tQueues), .one (.dat tQueues)]
def ba_4 : List SB := []
def out_4 (r : Bool) : AV × Store := out1 (.one (.dat .bool)) [] (r, ())
theorem w_4 (x : FAr sa_4 ba_4) : evF C_4 O_4 L_4 18 sa_4 ba_4 x =
 laws_sameQueuesK x.1 x.2.1 (fun r => some (out_4 r)) := by kernel_rfl
theorem sem_4 : SemF 18 sa_4 ba_4 (fun x => laws_sameQueues x.1 x.2.1) out_4 :=
 sem_of folP okP tabP (Oracle.of_ok (Oracle.cons_ok ok_3 Oracle.nil_ok)) lf_4 fun x => (w_4 x).trans (laws_sameQueues_eq x.1 x.2.1 _)
noncomputable def c_4 : Con := Con.shape sa_4 ba_4 (fun x => laws_sameQueues x.1 x.2.1) out_4
theorem ok_4 : ConOk Try.prog 18 c_4 := Con.shape_ok sem_4

/-! 91 -/
def C_5 : Cfg := { T := tab, hint := fun _ => { mu := [22], keepR := [0, 1, 4, 6, 16], res := [4], fillR := true, refR := true }, mode := fun _ => .borrow }
noncomputable def O_5 : Oracle := Oracle.of []
noncomputable def L_5 : Loops := Loops.of []
theorem lf_5 : LoopsFn Try.prog C_5 O_5 91 L_5 := LoopsFn.nil' (by kernel_rfl)
def sa_5 : List S2 := [.one (.e0 I), .one (.dat I)]
def ba_5 : List SB := []
def out_5 (r : Nat × (List Int)) : AV × Store := out1 (.one (.refn 0)) [.data I] (r.1, r.2, ())
theorem w_5 (x : FAr sa_5 ba_5) : evF C_5 O_5 L_5 91 sa_5 ba_5 x =
 slices_Grow_intK x.1 (fun r => some (out_5 r)) := by kernel_rfl
theorem sem_5 : SemF 91 sa_5 ba_5 (fun x => slices_Grow_int x.1) out_5 :=
 sem_of folP okP tabP (Oracle.of_ok Oracle.nil_ok) lf_5 fun x => (w_5 x).trans (slices_Grow_int_eq x.1 _)
noncomputable def c_5 : Con := Con.shape sa_5 ba_5 (fun x => slices_Grow_int x.1) out_5
theorem ok_5 : ConOk Try.prog 91 c_5 := Con.shape_ok sem_5

/-! 61 -/
def C_6 : Cfg := { T := tab, hint := fun _ => { keepR := [0, 2, 3, 5, 6, 8, 9, 10, 11, 12, 20, 25, 26, 27, 28], res := [2], keepL := [(0, [0, 3, 9, 10, 11]), (2, [6, 25, 26, 27])], keepX := [(0, [0, 3]), (1, [0, 3, 9, 10, 11]), (2, [6]), (3, [6, 25, 26, 27])] }, mode := modeOf [(91, .sub)] }
noncomputable def O_6 : Oracle := Oracle.of [(91, c_5)]
def sh_6_l0 : List (Nat × S2) := [(0, .one (.dat (.sl (.sl I)))), (3, .one (.dat I)), (9, .one (.dat (.sl (.sl I)))), (10, .one (.dat I)), (11, .one (.dat I))]
def bs_6_l0 : List SB := []
def xs_6_l0 : List (Nat × S2) := [(0, .one (.dat (.sl (.sl I)))), (3, .one (.dat I))]
def xb_6_l0 : List SB := []
noncomputable def lc_6_l0 : LCon := LCon.shape1 sh_6_l0 bs_6_l0 slices_Concat_int_l0 (fun a => (.exit 0, encSt xs_6_l0 xb_6_l0 a))
def sh_6_l2 : List (Nat × S2) := [(6, .one (.refn 0)), (25, .one (.dat (.sl (.sl I)))), (26, .one (.dat I)), (27, .one (.dat I))]
def bs_6_l2 : List SB := [.data I]
def xs_6_l2 : List (Nat × S2) := [(6, .one (.refn 0))]
def xb_6_l2 : List SB := [.data I]
noncomputable def lc_6_l2 : LCon := LCon.shape1 sh_6_l2 bs_6_l2 slices_Concat_int_l2 (fun a => (.exit 2, encSt xs_6_l2 xb_6_l2 a))
noncomputable def L_6 : Loops := Loops.of [(0, lc_6_l0), (2, lc_6_l2)]
theorem r_6_l0 (x : FSt sh_6_l0 bs_6_l0) : rdF C_6 O_6 L_6 61 0 0 sh_6_l0 bs_6_l0 x =
 slices_Concat_int_l0K x.1 x.2.1 x.2.2.1 x.2.2.2.1 x.2.2.2.2.1 (fun y => some (Ex.normal, encSt sh_6_l0 bs_6_l0 y)) (fun a => some (Ex.exit 0, encSt xs_6_l0 xb_6_l0 a)) := by kernel_rfl
theorem lo_6_l0 : loF C_6 O_6 L_6 61 0 0 lc_6_l0 :=
 LCon.shape1_ok (fun a => by simp) fun x => (r_6_l0 x).trans (slices_Concat_int_l0_eq x.1 x.2.1 x.2.2.1 x.2.2.2.1 x.2.2.2.2.1 _ _)
theorem r_6_l2 (x : FSt sh_6_l2 bs_6_l2) : rdF C_6 O_6 L_6 61 2 1 sh_6_l2 bs_6_l2 x =
 slices_Concat_int_l2K x.1 x.2.1 x.2.2.1 x.2.2.2.1 x.2.2.2.2.1 (fun y => some (Ex.normal, encSt sh_6_l2 bs_6_l2 y)) (fun a => some (Ex.exit 2, encSt xs_6_l2 xb_6_l2 a)) := by kernel_rfl
theorem lo_6_l2 : loF C_6 O_6 L_6 61 2 1 lc_6_l2 :=
 LCon.shape1_ok (fun a => by simp) fun x => (r_6_l2 x).trans (slices_Concat_int_l2_eq x.1 x.2.1 x.2.2.1 x.2.2.2.1 x.2.2.2.2.1 _ _)
theorem lf_6 : LoopsFn Try.prog C_6 O_6 61 L_6 := LoopsFn.all (by kernel_rfl) (by decide) ⟨lo_6_l0, lo_6_l2, trivial⟩
def sa_6 : List S2 := [.one (.dat (.sl (.sl I)))]
def ba_6 : List SB := []
def out_6 (r : Nat × (List Int)) : AV × Store := out1 (.one (.refn 0)) [.data I] (r.1, r.2, ())
theorem w_6 (x : FAr sa_6 ba_6) : evF C_6 O_6 L_6 61 sa_6 ba_6 x =
 slices_Concat_intK x.1 (fun r => some (out_6 r)) := by kernel_rfl
theorem sem_6 : SemF 61 sa_6 ba_6 (fun x => slices_Concat_int x.1) out_6 :=
 sem_of folP okP tabP (Oracle.of_ok (Oracle.cons_ok ok_5 Oracle.nil_ok)) lf_6 fun x => (w_6 x).trans (slices_Concat_int_eq x.1 _)
noncomputable def c_6 : Con := Con.shape sa_6 ba_6 (fun x => slices_Concat_int x.1) out_6
theorem ok_6 : ConOk Try.prog 61 c_6 := Con.shape_ok sem_6

/-! 85 -/
def C_7 : Cfg := { T := tab, hint := fun _ => { keepR := [0, 1, 2, 6], res := [6] }, mode := fun _ => .borrow }
noncomputable def O_7 : Oracle := Oracle.of []
noncomputable def L_7 : Loops := Loops.of []
theorem lf_7 : LoopsFn Try.prog C_7 O_7 85 L_7 := LoopsFn.nil' (by kernel_rfl)
def sa_7 : List S2 := [.one (.dat I), .one (.dat I), .one (.dat I)]
def ba_7 : List SB := []
def out_7 (r : Bool) : AV × Store := out1 (.one (.dat .bool)) [] (r, ())
theorem w_7 (x : FAr sa_7 ba_7) : evF C_7 O_7 L_7 85 sa_7 ba_7 x =
 impl_inK x.1 x.2.1 x.2.2.1 (fun r => some (out_7 r)) := by kernel_rfl
theorem sem_7 : SemF 85 sa_7 ba_7 (fun x => impl_in x.1 x.2.1 x.2.2.1) out_7 :=
 sem_of folP okP tabP (Oracle.of_ok Oracle.nil_ok) lf_7 fun x => (w_7 x).trans (impl_in_eq x.1 x.2.1 x.2.2.1 _)
noncomputable def c_7 : Con := Con.shape sa_7 ba_7 (fun x => impl_in x.1 x.2.1 x.2.2.1) out_7
theorem ok_7 : ConOk Try.prog 85 c_7 := Con.shape_ok sem_7

/-! 55 -/
def C_8 : Cfg := { T := tab, hint := fun _ => { keepR := [0, 2], res := [2] }, mode := fun _ => .borrow }
noncomputable def O_8 : Oracle := Oracle.of [(85, c_7)]
noncomputable def L_8 : Loops := Loops.of []
theorem lf_8 : LoopsFn Try.prog C_8 O_8 55 L_8 := LoopsFn.nil' (by kernel_rfl)
def sa_8 : List S2 := [.one (.dat I)]
def ba_8 : List SB := []
def out_8 (r : Bool) : AV × Store := out1 (.one (.dat .bool)) [] (r, ())
theorem w_8 (x : FAr sa_8 ba_8) : evF C_8 O_8 L_8 55 sa_8 ba_8 x =
 impl_isThreadK x.1 (fun r => some (out_8 r)) := by kernel_rfl
theorem sem_8 : SemF 55 sa_8 ba_8 (fun x => impl_isThread x.1) out_8 :=
 sem_of folP okP tabP (Oracle.of_ok (Oracle.cons_ok ok_7 Oracle.nil_ok)) lf_8 fun x => (w_8 x).trans (impl_isThread_eq x.1 _)
noncomputable def c_8 : Con := Con.shape sa_8 ba_8 (fun x => impl_isThread x.1) out_8
theorem ok_8 : ConOk Try.prog 55 c_8 := Con.shape_ok sem_8

/-! 99 -/
def C_9 : Cfg := { T := tab, hint := fun _ => { keepR := [0, 1, 4, 5, 7, 8, 9, 16], res := [4], keepL := [(0, [0, 1, 7, 8])], keepX := [(0, []), (1, [0, 1, 7, 8])] }, mode := fun _ => .borrow }
noncomputable def O_9 : Oracle := Oracle.of []
def sh_9_l0 : List (Nat × S2) := [(0, .one (.dat (.sl I))), (1, .one (.dat I)), (7, .one (.dat I)), (8, .one (.dat I))]
def bs_9_l0 : List SB := []
def xs_9_l0 : List (Nat × S2) := []
def xb_9_l0 : List SB := []
def ys_9_l0 : List (Nat × S2) := [(4, .one (.dat I))]
def yb_9_l0 : List SB := []
noncomputable def lc_9_l0 : LCon := LCon.shape sh_9_l0 bs_9_l0 slices_Index_int_l0 (fun a => (.exit 0, encSt xs_9_l0 xb_9_l0 a)) (fun b => encSt ys_9_l0 yb_9_l0 b)
noncomputable def L_9 : Loops := Loops.of [(0, lc_9_l0)]
theorem r_9_l0 (x : FSt sh_9_l0 bs_9_l0) : rdF C_9 O_9 L_9 99 0 0 sh_9_l0 bs_9_l0 x =
 slices_Index_int_l0K x.1 x.2.1 x.2.2.1 x.2.2.2.1 (fun y => some (Ex.normal, encSt sh_9_l0 bs_9_l0 y)) (fun a => some (Ex.exit 0, encSt xs_9_l0 xb_9_l0 a)) (fun b => some (Ex.ret, encSt ys_9_l0 yb_9_l0 b)) := by kernel_rfl
theorem lo_9_l0 : loF C_9 O_9 L_9 99 0 0 lc_9_l0 :=
 LCon.shape_ok (fun a => by simp) fun x => (r_9_l0 x).trans (slices_Index_int_l0_eq x.1 x.2.1 x.2.2.1 x.2.2.2.1 _ _ _)
theorem lf_9 : LoopsFn Try.prog C_9 O_9 99 L_9 := LoopsFn.all (by kernel_rfl) (by decide) ⟨lo_9_l0, trivial⟩
def sa_9 : List S2 := [.one (.dat (.sl I)), .one (.dat I)]
def ba_9 : List SB := []
def out_9 (r : Int) : AV × Store := out1 (.one (.dat I)) [] (r, ())
theorem w_9 (x : FAr sa_9 ba_9) : evF C_9 O_9 L_9 99 sa_9 ba_9 x =
 slices_Index_intK x.1 x.2.1 (fun r => some (out_9 r)) := by kernel_rfl
theorem sem_9 : SemF 99 sa_9 ba_9 (fun x => slices_Index_int x.1 x.2.1) out_9 :=
 sem_of folP okP tabP (Oracle.of_ok Oracle.nil_ok) lf_9 fun x => (w_9 x).trans (slices_Index_int_eq x.1 x.2.1 _)
noncomputable def c_9 : Con := Con.shape sa_9 ba_9 (fun x => slices_Index_int x.1 x.2.1) out_9
theorem ok_9 : ConOk Try.prog 99 c_9 := Con.shape_ok sem_9

/-! 88 -/
def C_10 : Cfg := { T := tab, hint := fun _ => { keepR := [0, 1, 4], res := [4] }, mode := fun _ => .borrow }
noncomputable def O_10 : Oracle := Oracle.of [(99, c_9)]
noncomputable def L_10 : Loops := Loops.of []
theorem lf_10 : LoopsFn Try.prog C_10 O_10 88 L_10 := LoopsFn.nil' (by kernel_rfl)
def sa_10 : List S2 := [.one (.dat (.sl I)), .one (.dat I)]
def ba_10 : List SB := []
def out_10 (r : Bool) : AV × Store := out1 (.one (.dat .bool)) [] (r, ())
theorem w_10 (x : FAr sa_10 ba_10) : evF C_10 O_10 L_10 88 sa_10 ba_10 x =
 slices_Contains_intK x.1 x.2.1 (fun r => some (out_10 r)) := by kernel_rfl
theorem sem_10 : SemF 88 sa_10 ba_10 (fun x => slices_Contains_int x.1 x.2.1) out_10 :=
 sem_of folP okP tabP (Oracle.of_ok (Oracle.cons_ok ok_9 Oracle.nil_ok)) lf_10 fun x => (w_10 x).trans (slices_Contains_int_eq x.1 x.2.1 _)
noncomputable def c_10 : Con := Con.shape sa_10 ba_10 (fun x => slices_Contains_int x.1 x.2.1) out_10
theorem ok_10 : ConOk Try.prog 88 c_10 := Con.shape_ok sem_10

/-! 60 -/
def C_11 : Cfg := { T := tab, hint := fun _ => { keepR := [0, 2, 3, 4, 5, 6, 7, 8, 21], res := [2], keepL := [(0, [0, 5, 6, 7])], keepX := [(0, []), (1, [0, 5, 6, 7])] }, mode := fun _ => .borrow }
noncomputable def O_11 : Oracle := Oracle.of [(55, c_8), (88, c_10)]
def sh_11_l0 : List (Nat × S2) := [(0, .one (.dat (.sl I))), (5, .one (.dat (.sl I))), (6, .one (.dat I)), (7, .one (.dat I))]
def bs_11_l0 : List SB := []
def xs_11_l0 : List (Nat × S2) := []
def xb_11_l0 : List SB := []
def ys_11_l0 : List (Nat × S2) := [(2, .one (.dat .bool))]
def yb_11_l0 : List SB := []
noncomputable def lc_11_l0 : LCon := LCon.shape sh_11_l0 bs_11_l0 impl_different_l0 (fun a => (.exit 0, encSt xs_11_l0 xb_11_l0 a)) (fun b => encSt ys_11_l0 yb_11_l0 b)
noncomputable def L_11 : Loops := Loops.of [(0, lc_11_l0)]
theorem r_11_l0 (x : FSt sh_11_l0 bs_11_l0) : rdF C_11 O_11 L_11 60 0 0 sh_11_l0 bs_11_l0 x =
 impl_different_l0K x.1 x.2.1 x.2.2.1 x.2.2.2.1 (fun y => some (Ex.normal, encSt sh_11_l0 bs_11_l0 y)) (fun a => some (Ex.exit 0, encSt xs_11_l0 xb_11_l0 a)) (fun b => some (Ex.ret, encSt ys_11_l0 yb_11_l0 b)) := by kernel_rfl
theorem lo_11_l0 : loF C_11 O_11 L_11 60 0 0 lc_11_l0 :=
 LCon.shape_ok (fun a => by simp) fun x => (r_11_l0 x).trans (impl_different_l0_eq x.1 x.2.1 x.2.2.1 x.2.2.2.1 _ _ _)
theorem lf_11 : LoopsFn Try.prog C_11 O_11 60 L_11 := LoopsFn.all (by kernel_rfl) (by decide) ⟨lo_11_l0, trivial⟩
def sa_11 : List S2 := [.one (.dat (.sl I))]
def ba_11 : List SB := []
def out_11 (r : Bool) : AV × Store := out1 (.one (.dat .bool)) [] (r, ())
theorem w_11 (x : FAr sa_11 ba_11) : evF C_11 O_11 L_11 60 sa_11 ba_11 x =
 impl_differentK x.1 (fun r => some (out_11 r)) := by kernel_rfl
theorem sem_11 : SemF 60 sa_11 ba_11 (fun x => impl_different x.1) out_11 :=
 sem_of folP okP tabP (Oracle.of_ok (Oracle.cons_ok ok_8 (Oracle.cons_ok ok_10 Oracle.nil_ok))) lf_11 fun x => (w_11 x).trans (impl_different_eq x.1 _)
noncomputable def c_11 : Con := Con.shape sa_11 ba_11 (fun x => impl_different x.1) out_11
theorem ok_11 : ConOk Try.prog 60 c_11 := Con.shape_ok sem_11

/-! 21 -/
def C_12 : Cfg := { T := tab, hint := fun _ => { keepR := [1, 2], res := [2] }, mode := fun _ => .borrow }
noncomputable def O_12 : Oracle := Oracle.of [(60, c_11), (61, c_6)]
noncomputable def L_12 : Loops := Loops.of []
theorem lf_12 : LoopsFn Try.prog C_12 O_12 21 L_12 := LoopsFn.nil' (by kernel_rfl)
def sa_12 : List S2 := [.one (.dat tQueues)]
def ba_12 : List SB := []
def out_12 (r : Bool) : AV × Store := out1 (.one (.dat .bool)) [] (r, ())
theorem w_12 (x : FAr sa_12 ba_12) : evF C_12 O_12 L_12 21 sa_12 ba_12 x =
 impl_QueuesValidK x.1 (fun r => some (out_12 r)) := by kernel_rfl
theorem sem_12 : SemF 21 sa_12 ba_12 (fun x => impl_QueuesValid x.1) out_12 :=
 sem_of folP okP tabP (Oracle.of_ok (Oracle.cons_ok ok_11 (Oracle.cons_ok ok_6 Oracle.nil_ok))) lf_12 fun x => (w_12 x).trans (impl_QueuesValid_eq x.1 _)
noncomputable def c_12 : Con := Con.shape sa_12 ba_12 (fun x => impl_QueuesValid x.1) out_12
theorem ok_12 : ConOk Try.prog 21 c_12 := Con.shape_ok sem_12

/-! 56 -/
def C_13 : Cfg := { T := tab, hint := fun _ => { keepR := [0, 2], res := [2] }, mode := fun _ => .borrow }
noncomputable def O_13 : Oracle := Oracle.of [(85, c_7)]
noncomputable def L_13 : Loops := Loops.of []
theorem lf_13 : LoopsFn Try.prog C_13 O_13 56 L_13 := LoopsFn.nil' (by kernel_rfl)
def sa_13 : List S2 := [.one (.dat I)]
def ba_13 : List SB := []
def out_13 (r : Bool) : AV × Store := out1 (.one (.dat .bool)) [] (r, ())
theorem w_13 (x : FAr sa_13 ba_13) : evF C_13 O_13 L_13 56 sa_13 ba_13 x =
 impl_isPrioK x.1 (fun r => some (out_13 r)) := by kernel_rfl
theorem sem_13 : SemF 56 sa_13 ba_13 (fun x => impl_isPrio x.1) out_13 :=
 sem_of folP okP tabP (Oracle.of_ok (Oracle.cons_ok ok_7 Oracle.nil_ok)) lf_13 fun x => (w_13 x).trans (impl_isPrio_eq x.1 _)
noncomputable def c_13 : Con := Con.shape sa_13 ba_13 (fun x => impl_isPrio x.1) out_13
theorem ok_13 : ConOk Try.prog 56 c_13 := Con.shape_ok sem_13

/-! 90 -/
def C_14 : Cfg := { T := tab, hint := fun _ => { mu := [2, 7], keepR := [0, 2, 4], res := [2] }, mode := fun _ => .borrow }
noncomputable def O_14 : Oracle := Oracle.of []
noncomputable def L_14 : Loops := Loops.of []
theorem lf_14 : LoopsFn Try.prog C_14 O_14 90 L_14 := LoopsFn.nil' (by kernel_rfl)
def sa_14 : List S2 := [.one (.dat (.sl I))]
def ba_14 : List SB := []
def out_14 (r : (List Int)) : AV × Store := out1 (.one (.all 0)) [.data I] (r, ())
theorem w_14 (x : FAr sa_14 ba_14) : evF C_14 O_14 L_14 90 sa_14 ba_14 x =
 slices_Clone_intR x.1 (fun r => some (out_14 r)) := by kernel_rfl
theorem sem_14 : SemF 90 sa_14 ba_14 (fun x => slices_Clone_int x.1) out_14 :=
 sem_of folP okP tabP (Oracle.of_ok Oracle.nil_ok) lf_14 fun x => (w_14 x).trans ((slices_Clone_int_raw x.1 _).trans (slices_Clone_int_eq x.1 _))
noncomputable def c_14 : Con := Con.shape sa_14 ba_14 (fun x => slices_Clone_int x.1) out_14
theorem ok_14 : ConOk Try.prog 90 c_14 := Con.shape_ok sem_14

/-! 89 -/
def C_15 : Cfg := { T := tab, hint := fun _ => { mu := [8], keepR := [0, 2], res := [2], base := 1 }, mode := fun _ => .borrow }
noncomputable def O_15 : Oracle := Oracle.of []
noncomputable def L_15 : Loops := Loops.of []
theorem lf_15 : LoopsFn Try.prog C_15 O_15 89 L_15 := LoopsFn.nil' (by kernel_rfl)
def sa_15 : List S2 := [.one (.all 0)]
def ba_15 : List SB := [.data I]
def out_15 (r : (List Int)) : AV × Store := out1 (.one (.all 0)) [.data I] (r, ())
theorem w_15 (x : FAr sa_15 ba_15) : evF C_15 O_15 L_15 89 sa_15 ba_15 x =
 slices_Clip_intK x.1 (fun r => some (out_15 r)) := by kernel_rfl
theorem sem_15 : SemF 89 sa_15 ba_15 (fun x => slices_Clip_int x.1) out_15 :=
 sem_of folP okP tabP (Oracle.of_ok Oracle.nil_ok) lf_15 fun x => (w_15 x).trans (slices_Clip_int_eq x.1 _)
noncomputable def c_15 : Con := Con.shape sa_15 ba_15 (fun x => slices_Clip_int x.1) out_15
theorem ok_15 : ConOk Try.prog 89 c_15 := Con.shape_ok sem_15

/-! 59 -/
def C_16 : Cfg := { T := tab, hint := fun _ => { mu := [4], keepR := [0, 2], res := [2] }, mode := modeOf [(89, .sub)] }
noncomputable def O_16 : Oracle := Oracle.of [(89, c_15), (90, c_14)]
noncomputable def L_16 : Loops := Loops.of []
theorem lf_16 : LoopsFn Try.prog C_16 O_16 59 L_16 := LoopsFn.nil' (by kernel_rfl)
def sa_16 : List S2 := [.one (.dat (.sl I))]
def ba_16 : List SB := []
def out_16 (r : (List Int)) : AV × Store := out1 (.one (.all 0)) [.data I] (r, ())
theorem w_16 (x : FAr sa_16 ba_16) : evF C_16 O_16 L_16 59 sa_16 ba_16 x =
 impl_clone_intK x.1 (fun r => some (out_16 r)) := by kernel_rfl
theorem sem_16 : SemF 59 sa_16 ba_16 (fun x => impl_clone_int x.1) out_16 :=
 sem_of folP okP tabP (Oracle.of_ok (Oracle.cons_ok ok_15 (Oracle.cons_ok ok_14 Oracle.nil_ok))) lf_16 fun x => (w_16 x).trans (impl_clone_int_eq x.1 _)
noncomputable def c_16 : Con := Con.shape sa_16 ba_16 (fun x => impl_clone_int x.1) out_16
theorem ok_16 : ConOk Try.prog 59 c_16 := Con.shape_ok sem_16

/-! 57 -/
def C_17 : Cfg := { T := tab, hint := fun _ => { mu := [2, 3, 9], keepR := [1, 2, 3, 4, 5, 12, 13, 14, 15], res := [2], order := [(5, [(0, .read), (1, .read), (2, .read)] ++ tns .forced 3 4)], keepL := [(0, [2, 3, 12, 13, 14])], keepX := [(0, [2, 3]), (1, [2, 3, 12, 13, 14])] }, mode := fun _ => .borrow }
noncomputable def O_17 : Oracle := Oracle.of [(59, c_16)]
def sh_17_l0 : List (Nat × S2) := [(2, .one (.ptr 0 0 0)), (3, .one (.ptr 1 0 0)), (12, .one (.dat (.sl (.sl I)))), (13, .one (.dat I)), (14, .one (.dat I))]
def bs_17_l0 : List SB := [.var [.e0 (.sl I)], .cell (.all 2), .data (.sl I)]
def xs_17_l0 : List (Nat × S2) := [(2, .one (.ptr 0 0 0)), (3, .one (.ptr 1 0 0))]
def xb_17_l0 : List SB := [.var [.e0 (.sl I)], .cell (.all 2), .data (.sl I)]
noncomputable def lc_17_l0 : LCon := LCon.shape1 sh_17_l0 bs_17_l0 impl_Queues_copyOf_l0 (fun a => (.exit 0, encSt xs_17_l0 xb_17_l0 a))
noncomputable def L_17 : Loops := Loops.of [(0, lc_17_l0)]
theorem r_17_l0 (x : FSt sh_17_l0 bs_17_l0) : rdF C_17 O_17 L_17 57 0 0 sh_17_l0 bs_17_l0 x =
 impl_Queues_copyOf_l0K x.1 x.2.1 x.2.2.1 x.2.2.2.1 (fun y => some (Ex.normal, encSt sh_17_l0 bs_17_l0 y)) (fun a => some (Ex.exit 0, encSt xs_17_l0 xb_17_l0 a)) := by kernel_rfl
theorem lo_17_l0 : loF C_17 O_17 L_17 57 0 0 lc_17_l0 :=
 LCon.shape1_ok (fun a => by simp) fun x => (r_17_l0 x).trans (impl_Queues_copyOf_l0_eq x.1 x.2.1 x.2.2.1 x.2.2.2.1 _ _)
theorem lf_17 : LoopsFn Try.prog C_17 O_17 57 L_17 := LoopsFn.all (by kernel_rfl) (by decide) ⟨lo_17_l0, trivial⟩
def sa_17 : List S2 := [.one (.dat tQueues)]
def ba_17 : List SB := []
def out_17 (r : (List (List Int))) : AV × Store := out1 (.agg [.all 0]) [.data (.sl I)] (r, ())
theorem w_17 (x : FAr sa_17 ba_17) : evF C_17 O_17 L_17 57 sa_17 ba_17 x =
 impl_Queues_copyOfK x.1 (fun r => some (out_17 r)) := by kernel_rfl
theorem sem_17 : SemF 57 sa_17 ba_17 (fun x => impl_Queues_copyOf x.1) out_17 :=
 sem_of folP okP tabP (Oracle.of_ok (Oracle.cons_ok ok_16 Oracle.nil_ok)) lf_17 fun x => (w_17 x).trans (impl_Queues_copyOf_eq x.1 _)
noncomputable def c_17 : Con := Con.shape sa_17 ba_17 (fun x => impl_Queues_copyOf x.1) out_17
theorem ok_17 : ConOk Try.prog 57 c_17 := Con.shape_ok sem_17

/-! 87 -/
def C_18 : Cfg := { T := tab, hint := fun _ => { keepR := [0, 1, 3], res := [3] }, mode := fun _ => .borrow }
noncomputable def O_18 : Oracle := Oracle.of [(88, c_10)]
noncomputable def L_18 : Loops := Loops.of []
theorem lf_18 : LoopsFn Try.prog C_18 O_18 87 L_18 := LoopsFn.nil' (by kernel_rfl)
def sa_18 : List S2 := [.one (.dat (.sl I)), .one (.cdat I 0)]
def ba_18 : List SB := []
def out_18 (r : Bool) : AV × Store := out1 (.one (.dat .bool)) [] (r, ())
theorem w_18 (x : FAr sa_18 ba_18) : evF C_18 O_18 L_18 87 sa_18 ba_18 x =
 impl_Queues_prio_c1K x.1 x.2.1 (fun r => some (out_18 r)) := by kernel_rfl
theorem sem_18 : SemF 87 sa_18 ba_18 (fun x => impl_Queues_prio_c1 x.1 x.2.1) out_18 :=
 sem_of folP okP tabP (Oracle.of_ok (Oracle.cons_ok ok_10 Oracle.nil_ok)) lf_18 fun x => (w_18 x).trans (impl_Queues_prio_c1_eq x.1 x.2.1 _)
noncomputable def c_18 : Con := Con.shape sa_18 ba_18 (fun x => impl_Queues_prio_c1 x.1 x.2.1) out_18
theorem ok_18 : ConOk Try.prog 87 c_18 := Con.shape_ok sem_18

/-! 86 -/
def C_19 : Cfg := { T := tab, hint := fun _ => { keepR := [0, 1, 4, 5, 7, 8, 9, 16], res := [4], keepL := [(0, [0, 1, 7, 8])], keepX := [(0, []), (1, [0, 1, 7, 8])] }, mode := fun _ => .borrow }
noncomputable def O_19 : Oracle := Oracle.of [(87, c_18)]
def sh_19_l0 : List (Nat × S2) := [(0, .one (.dat (.sl (.sl I)))), (1, .fn 87 [.cdat I 0]), (7, .one (.dat I)), (8, .one (.dat I))]
def bs_19_l0 : List SB := []
def xs_19_l0 : List (Nat × S2) := []
def xb_19_l0 : List SB := []
def ys_19_l0 : List (Nat × S2) := [(4, .one (.dat I))]
def yb_19_l0 : List SB := []
noncomputable def lc_19_l0 : LCon := LCon.shape sh_19_l0 bs_19_l0 slices_IndexFunc_int_l0 (fun a => (.exit 0, encSt xs_19_l0 xb_19_l0 a)) (fun b => encSt ys_19_l0 yb_19_l0 b)
noncomputable def L_19 : Loops := Loops.of [(0, lc_19_l0)]
theorem r_19_l0 (x : FSt sh_19_l0 bs_19_l0) : rdF C_19 O_19 L_19 86 0 0 sh_19_l0 bs_19_l0 x =
 slices_IndexFunc_int_l0K x.1 x.2.1 x.2.2.1 x.2.2.2.1 (fun y => some (Ex.normal, encSt sh_19_l0 bs_19_l0 y)) (fun a => some (Ex.exit 0, encSt xs_19_l0 xb_19_l0 a)) (fun b => some (Ex.ret, encSt ys_19_l0 yb_19_l0 b)) := by kernel_rfl
theorem lo_19_l0 : loF C_19 O_19 L_19 86 0 0 lc_19_l0 :=
 LCon.shape_ok (fun a => by simp) fun x => (r_19_l0 x).trans (slices_IndexFunc_int_l0_eq x.1 x.2.1 x.2.2.1 x.2.2.2.1 _ _ _)
theorem lf_19 : LoopsFn Try.prog C_19 O_19 86 L_19 := LoopsFn.all (by kernel_rfl) (by decide) ⟨lo_19_l0, trivial⟩
def sa_19 : List S2 := [.one (.dat (.sl (.sl I))), .fn 87 [.cdat I 0]]
def ba_19 : List SB := []
def out_19 (r : Int) : AV × Store := out1 (.one (.dat I)) [] (r, ())
theorem w_19 (x : FAr sa_19 ba_19) : evF C_19 O_19 L_19 86 sa_19 ba_19 x =
 slices_IndexFunc_intK x.1 x.2.1 (fun r => some (out_19 r)) := by kernel_rfl
theorem sem_19 : SemF 86 sa_19 ba_19 (fun x => slices_IndexFunc_int x.1 x.2.1) out_19 :=
 sem_of folP okP tabP (Oracle.of_ok (Oracle.cons_ok ok_18 Oracle.nil_ok)) lf_19 fun x => (w_19 x).trans (slices_IndexFunc_int_eq x.1 x.2.1 _)
noncomputable def c_19 : Con := Con.shape sa_19 ba_19 (fun x => slices_IndexFunc_int x.1 x.2.1) out_19
theorem ok_19 : ConOk Try.prog 86 c_19 := Con.shape_ok sem_19

/-! 58 -/
def C_20 : Cfg := { T := tab, hint := fun _ => { keepR := [2, 3, 4], res := [4] }, mode := fun _ => .borrow }
noncomputable def O_20 : Oracle := Oracle.of [(86, c_19)]
noncomputable def L_20 : Loops := Loops.of []
theorem lf_20 : LoopsFn Try.prog C_20 O_20 58 L_20 := LoopsFn.nil' (by kernel_rfl)
def sa_20 : List S2 := [.one (.dat tQueues), .one (.dat I)]
def ba_20 : List SB := []
def out_20 (r : Int) : AV × Store := out1 (.one (.dat I)) [] (r, ())
theorem w_20 (x : FAr sa_20 ba_20) : evF C_20 O_20 L_20 58 sa_20 ba_20 x =
 impl_Queues_prioK x.1 x.2.1 (fun r => some (out_20 r)) := by kernel_rfl
theorem sem_20 : SemF 58 sa_20 ba_20 (fun x => impl_Queues_prio x.1 x.2.1) out_20 :=
 sem_of folP okP tabP (Oracle.of_ok (Oracle.cons_ok ok_19 Oracle.nil_ok)) lf_20 fun x => (w_20 x).trans (impl_Queues_prio_eq x.1 x.2.1 _)
noncomputable def c_20 : Con := Con.shape sa_20 ba_20 (fun x => impl_Queues_prio x.1 x.2.1) out_20
theorem ok_20 : ConOk Try.prog 58 c_20 := Con.shape_ok sem_20

/-! 92 -/
def C_21 : Cfg := { T := tab, hint := fun _ => { keepR := [0, 1, 4, 10], res := [4] }, mode := fun _ => .borrow }
noncomputable def O_21 : Oracle := Oracle.of []
noncomputable def L_21 : Loops := Loops.of []
theorem lf_21 : LoopsFn Try.prog C_21 O_21 92 L_21 := LoopsFn.nil' (by kernel_rfl)
def sa_21 : List S2 := [.one (.dat (.sl I)), .one (.dat I)]
def ba_21 : List SB := []
def out_21 (r : Int) : AV × Store := out1 (.one (.dat I)) [] (r, ())
theorem w_21 (x : FAr sa_21 ba_21) : evF C_21 O_21 L_21 92 sa_21 ba_21 x =
 laws_szIntSK x.1 x.2.1 (fun r => some (out_21 r)) := by kernel_rfl
theorem sem_21 : SemF 92 sa_21 ba_21 (fun x => laws_szIntS x.1 x.2.1) out_21 :=
 sem_of folP okP tabP (Oracle.of_ok Oracle.nil_ok) lf_21 fun x => (w_21 x).trans (laws_szIntS_eq x.1 x.2.1 _)
noncomputable def c_21 : Con := Con.shape sa_21 ba_21 (fun x => laws_szIntS x.1 x.2.1) out_21
theorem ok_21 : ConOk Try.prog 92 c_21 := Con.shape_ok sem_21

/-! 63 -/
def C_22 : Cfg := { T := tab, hint := fun _ => { keepR := [0, 1, 4, 5, 11, 15, 25], res := [4], keepL := [(0, [0, 1, 5])], keepX := [(0, [1]), (1, [0, 1, 5])] }, mode := fun _ => .borrow }
noncomputable def O_22 : Oracle := Oracle.of [(92, c_21)]
def sh_22_l0 : List (Nat × S2) := [(0, .one (.dat (.sl (.sl I)))), (1, .one (.dat I)), (5, .one (.dat I))]
def bs_22_l0 : List SB := []
def xs_22_l0 : List (Nat × S2) := [(1, .one (.dat I))]
def xb_22_l0 : List SB := []
def ys_22_l0 : List (Nat × S2) := [(4, .one (.dat I))]
def yb_22_l0 : List SB := []
noncomputable def lc_22_l0 : LCon := LCon.shape sh_22_l0 bs_22_l0 laws_szIntSS_l0 (fun a => (.exit 0, encSt xs_22_l0 xb_22_l0 a)) (fun b => encSt ys_22_l0 yb_22_l0 b)
noncomputable def L_22 : Loops := Loops.of [(0, lc_22_l0)]
theorem r_22_l0 (x : FSt sh_22_l0 bs_22_l0) : rdF C_22 O_22 L_22 63 0 0 sh_22_l0 bs_22_l0 x =
 laws_szIntSS_l0K x.1 x.2.1 x.2.2.1 (fun y => some (Ex.normal, encSt sh_22_l0 bs_22_l0 y)) (fun a => some (Ex.exit 0, encSt xs_22_l0 xb_22_l0 a)) (fun b => some (Ex.ret, encSt ys_22_l0 yb_22_l0 b)) := by kernel_rfl
theorem lo_22_l0 : loF C_22 O_22 L_22 63 0 0 lc_22_l0 :=
 LCon.shape_ok (fun a => by simp) fun x => (r_22_l0 x).trans (laws_szIntSS_l0_eq x.1 x.2.1 x.2.2.1 _ _ _)
theorem lf_22 : LoopsFn Try.prog C_22 O_22 63 L_22 := LoopsFn.all (by kernel_rfl) (by decide) ⟨lo_22_l0, trivial⟩
def sa_22 : List S2 := [.one (.dat (.sl (.sl I))), .one (.dat I)]
def ba_22 : List SB := []
def out_22 (r : Int) : AV × Store := out1 (.one (.dat I)) [] (r, ())
theorem w_22 (x : FAr sa_22 ba_22) : evF C_22 O_22 L_22 63 sa_22 ba_22 x =
 laws_szIntSSK x.1 x.2.1 (fun r => some (out_22 r)) := by kernel_rfl
theorem sem_22 : SemF 63 sa_22 ba_22 (fun x => laws_szIntSS x.1 x.2.1) out_22 :=
 sem_of folP okP tabP (Oracle.of_ok (Oracle.cons_ok ok_21 Oracle.nil_ok)) lf_22 fun x => (w_22 x).trans (laws_szIntSS_eq x.1 x.2.1 _)
noncomputable def c_22 : Con := Con.shape sa_22 ba_22 (fun x => laws_szIntSS x.1 x.2.1) out_22
theorem ok_22 : ConOk Try.prog 63 c_22 := Con.shape_ok sem_22

/-! 23 -/
def C_23 : Cfg := { T := tab, hint := fun _ => { keepR := [1, 2, 4, 10], res := [4] }, mode := fun _ => .borrow }
noncomputable def O_23 : Oracle := Oracle.of [(63, c_22)]
noncomputable def L_23 : Loops := Loops.of []
theorem lf_23 : LoopsFn Try.prog C_23 O_23 23 L_23 := LoopsFn.nil' (by kernel_rfl)
def sa_23 : List S2 := [.one (.dat tQueues), .one (.dat I)]
def ba_23 : List SB := []
def out_23 (r : Int) : AV × Store := out1 (.one (.dat I)) [] (r, ())
theorem w_23 (x : FAr sa_23 ba_23) : evF C_23 O_23 L_23 23 sa_23 ba_23 x =
 laws_szQueuesK x.1 x.2.1 (fun r => some (out_23 r)) := by kernel_rfl
theorem sem_23 : SemF 23 sa_23 ba_23 (fun x => laws_szQueues x.1 x.2.1) out_23 :=
 sem_of folP okP tabP (Oracle.of_ok (Oracle.cons_ok ok_22 Oracle.nil_ok)) lf_23 fun x => (w_23 x).trans (laws_szQueues_eq x.1 x.2.1 _)
noncomputable def c_23 : Con := Con.shape sa_23 ba_23 (fun x => laws_szQueues x.1 x.2.1) out_23
theorem ok_23 : ConOk Try.prog 23 c_23 := Con.shape_ok sem_23

/-! 93 -/
def C_24 : Cfg := { T := tab, hint := fun _ => { mu := [7], keepR := [0, 2, 3, 4, 11], res := [2], keepL := [(0, [0, 3, 4])], keepX := [(0, [3]), (1, [0, 3, 4])] }, mode := fun _ => .borrow }
noncomputable def O_24 : Oracle := Oracle.of []
def sh_24_l0 : List (Nat × S2) := [(0, .one (.dat (.sl I))), (3, .one (.all 0)), (4, .one (.dat I))]
def bs_24_l0 : List SB := [.data I]
def xs_24_l0 : List (Nat × S2) := [(3, .one (.all 0))]
def xb_24_l0 : List SB := [.data I]
noncomputable def lc_24_l0 : LCon := LCon.shape1 sh_24_l0 bs_24_l0 laws_toIntS_l0 (fun a => (.exit 0, encSt xs_24_l0 xb_24_l0 a))
noncomputable def L_24 : Loops := Loops.of [(0, lc_24_l0)]
theorem r_24_l0 (x : FSt sh_24_l0 bs_24_l0) : rdF C_24 O_24 L_24 93 0 0 sh_24_l0 bs_24_l0 x =
 laws_toIntS_l0K x.1 x.2.1 x.2.2.1 (fun y => some (Ex.normal, encSt sh_24_l0 bs_24_l0 y)) (fun a => some (Ex.exit 0, encSt xs_24_l0 xb_24_l0 a)) := by kernel_rfl
theorem lo_24_l0 : loF C_24 O_24 L_24 93 0 0 lc_24_l0 :=
 LCon.shape1_ok (fun a => by simp) fun x => (r_24_l0 x).trans (laws_toIntS_l0_eq x.1 x.2.1 x.2.2.1 _ _)
theorem lf_24 : LoopsFn Try.prog C_24 O_24 93 L_24 := LoopsFn.all (by kernel_rfl) (by decide) ⟨lo_24_l0, trivial⟩
def sa_24 : List S2 := [.one (.dat (.sl I))]
def ba_24 : List SB := []
def out_24 (r : (List Int)) : AV × Store := out1 (.one (.all 0)) [.data I] (r, ())
theorem w_24 (x : FAr sa_24 ba_24) : evF C_24 O_24 L_24 93 sa_24 ba_24 x =
 laws_toIntSK x.1 (fun r => some (out_24 r)) := by kernel_rfl
theorem sem_24 : SemF 93 sa_24 ba_24 (fun x => laws_toIntS x.1) out_24 :=
 sem_of folP okP tabP (Oracle.of_ok Oracle.nil_ok) lf_24 fun x => (w_24 x).trans (laws_toIntS_eq x.1 _)
noncomputable def c_24 : Con := Con.shape sa_24 ba_24 (fun x => laws_toIntS x.1) out_24
theorem ok_24 : ConOk Try.prog 93 c_24 := Con.shape_ok sem_24

/-! 68 -/
def C_25 : Cfg := { T := tab, hint := fun _ => { mu := [7], keepR := [0, 2, 3, 4, 11], res := [2], keepL := [(0, [0, 3, 4])], keepX := [(0, [3]), (1, [0, 3, 4])] }, mode := fun _ => .borrow }
noncomputable def O_25 : Oracle := Oracle.of [(93, c_24)]
def sh_25_l0 : List (Nat × S2) := [(0, .one (.dat (.sl (.sl I)))), (3, .one (.all 0)), (4, .one (.dat I))]
def bs_25_l0 : List SB := [.data (.sl I)]
def xs_25_l0 : List (Nat × S2) := [(3, .one (.all 0))]
def xb_25_l0 : List SB := [.data (.sl I)]
noncomputable def lc_25_l0 : LCon := LCon.shape1 sh_25_l0 bs_25_l0 laws_toIntSS_l0 (fun a => (.exit 0, encSt xs_25_l0 xb_25_l0 a))
noncomputable def L_25 : Loops := Loops.of [(0, lc_25_l0)]
theorem r_25_l0 (x : FSt sh_25_l0 bs_25_l0) : rdF C_25 O_25 L_25 68 0 0 sh_25_l0 bs_25_l0 x =
 laws_toIntSS_l0K x.1 x.2.1 x.2.2.1 (fun y => some (Ex.normal, encSt sh_25_l0 bs_25_l0 y)) (fun a => some (Ex.exit 0, encSt xs_25_l0 xb_25_l0 a)) := by kernel_rfl
theorem lo_25_l0 : loF C_25 O_25 L_25 68 0 0 lc_25_l0 :=
 LCon.shape1_ok (fun a => by simp) fun x => (r_25_l0 x).trans (laws_toIntSS_l0_eq x.1 x.2.1 x.2.2.1 _ _)
theorem lf_25 : LoopsFn Try.prog C_25 O_25 68 L_25 := LoopsFn.all (by kernel_rfl) (by decide) ⟨lo_25_l0, trivial⟩
def sa_25 : List S2 := [.one (.dat (.sl (.sl I)))]
def ba_25 : List SB := []
def out_25 (r : (List (List Int))) : AV × Store := out1 (.one (.all 0)) [.data (.sl I)] (r, ())
theorem w_25 (x : FAr sa_25 ba_25) : evF C_25 O_25 L_25 68 sa_25 ba_25 x =
 laws_toIntSSK x.1 (fun r => some (out_25 r)) := by kernel_rfl
theorem sem_25 : SemF 68 sa_25 ba_25 (fun x => laws_toIntSS x.1) out_25 :=
 sem_of folP okP tabP (Oracle.of_ok (Oracle.cons_ok ok_24 Oracle.nil_ok)) lf_25 fun x => (w_25 x).trans (laws_toIntSS_eq x.1 _)
noncomputable def c_25 : Con := Con.shape sa_25 ba_25 (fun x => laws_toIntSS x.1) out_25
theorem ok_25 : ConOk Try.prog 68 c_25 := Con.shape_ok sem_25

/-! 25 -/
def C_26 : Cfg := { T := tab, hint := fun _ => { mu := [2, 3, 6], keepR := [1, 2, 3], res := [2] }, mode := fun _ => .borrow }
noncomputable def O_26 : Oracle := Oracle.of [(68, c_25)]
noncomputable def L_26 : Loops := Loops.of []
theorem lf_26 : LoopsFn Try.prog C_26 O_26 25 L_26 := LoopsFn.nil' (by kernel_rfl)
def sa_26 : List S2 := [.one (.dat tQueues)]
def ba_26 : List SB := []
def out_26 (r : (List (List Int))) : AV × Store := out1 (.agg [.all 0]) [.data (.sl I)] (r, ())
theorem w_26 (x : FAr sa_26 ba_26) : evF C_26 O_26 L_26 25 sa_26 ba_26 x =
 laws_toQueuesK x.1 (fun r => some (out_26 r)) := by kernel_rfl
theorem sem_26 : SemF 25 sa_26 ba_26 (fun x => laws_toQueues x.1) out_26 :=
 sem_of folP okP tabP (Oracle.of_ok (Oracle.cons_ok ok_25 Oracle.nil_ok)) lf_26 fun x => (w_26 x).trans (laws_toQueues_eq x.1 _)
noncomputable def c_26 : Con := Con.shape sa_26 ba_26 (fun x => laws_toQueues x.1) out_26
theorem ok_26 : ConOk Try.prog 25 c_26 := Con.shape_ok sem_26

/-! 65 -/
def C_27 : Cfg := { T := tab, hint := fun _ => { keepR := [0, 1, 2, 6], res := [6] }, mode := fun _ => .borrow }
noncomputable def O_27 : Oracle := Oracle.of []
noncomputable def L_27 : Loops := Loops.of []
theorem lf_27 : LoopsFn Try.prog C_27 O_27 65 L_27 := LoopsFn.nil' (by kernel_rfl)
def sa_27 : List S2 := [.one (.dat I), .one (.dat I), .one (.dat I)]
def ba_27 : List SB := []
def out_27 (r : Bool) : AV × Store := out1 (.one (.dat .bool)) [] (r, ())
theorem w_27 (x : FAr sa_27 ba_27) : evF C_27 O_27 L_27 65 sa_27 ba_27 x =
 spec_l1InK x.1 x.2.1 x.2.2.1 (fun r => some (out_27 r)) := by kernel_rfl
theorem sem_27 : SemF 65 sa_27 ba_27 (fun x => spec_l1In x.1 x.2.1 x.2.2.1) out_27 :=
 sem_of folP okP tabP (Oracle.of_ok Oracle.nil_ok) lf_27 fun x => (w_27 x).trans (spec_l1In_eq x.1 x.2.1 x.2.2.1 _)
noncomputable def c_27 : Con := Con.shape sa_27 ba_27 (fun x => spec_l1In x.1 x.2.1 x.2.2.1) out_27
theorem ok_27 : ConOk Try.prog 65 c_27 := Con.shape_ok sem_27

/-! 64 -/
def C_28 : Cfg := { T := tab, hint := fun _ => { mu := [7], keepR := [1, 2, 3, 4, 5, 6, 12, 22, 41], res := [2], keepL := [(0, [1, 3, 4]), (2, [1, 3, 4, 5])], keepX := [(0, [1]), (1, [1, 3, 4]), (2, [1, 3, 4]), (3, [1, 3, 4, 5])] }, mode := fun _ => .borrow }
noncomputable def O_28 : Oracle := Oracle.of [(65, c_27)]
def sh_28_l0 : List (Nat × S2) := [(1, .one (.cdat tQueues 0)), (3, .one (.all 0)), (4, .one (.dat I))]
def bs_28_l0 : List SB := [.data .bool]
def xs_28_l0 : List (Nat × S2) := [(1, .one (.cdat tQueues 0))]
def xb_28_l0 : List SB := []
def ys_28_l0 : List (Nat × S2) := [(2, .one (.dat .bool))]
def yb_28_l0 : List SB := []
noncomputable def lc_28_l0 : LCon := LCon.shape sh_28_l0 bs_28_l0 spec_QueuesValid_l0 (fun a => (.exit 0, encSt xs_28_l0 xb_28_l0 a)) (fun b => encSt ys_28_l0 yb_28_l0 b)
def sh_28_l2 : List (Nat × S2) := [(1, .one (.cdat tQueues 0)), (3, .one (.all 0)), (4, .one (.dat I)), (5, .one (.dat I))]
def bs_28_l2 : List SB := [.data .bool]
def xs_28_l2 : List (Nat × S2) := [(1, .one (.cdat tQueues 0)), (3, .one (.all 0)), (4, .one (.dat I))]
def xb_28_l2 : List SB := [.data .bool]
def ys_28_l2 : List (Nat × S2) := [(2, .one (.dat .bool))]
def yb_28_l2 : List SB := []
noncomputable def lc_28_l2 : LCon := LCon.shape sh_28_l2 bs_28_l2 spec_QueuesValid_l2 (fun a => (.exit 2, encSt xs_28_l2 xb_28_l2 a)) (fun b => encSt ys_28_l2 yb_28_l2 b)
noncomputable def L_28 : Loops := Loops.of [(0, lc_28_l0), (2, lc_28_l2)]
theorem r_28_l0 (x : FSt sh_28_l0 bs_28_l0) : rdF C_28 O_28 L_28 64 0 0 sh_28_l0 bs_28_l0 x =
 spec_QueuesValid_l0K x.1 x.2.1 x.2.2.1 (fun y => some (Ex.normal, encSt sh_28_l0 bs_28_l0 y)) (fun a => some (Ex.exit 0, encSt xs_28_l0 xb_28_l0 a)) (fun b => some (Ex.ret, encSt ys_28_l0 yb_28_l0 b)) := by kernel_rfl
theorem lo_28_l0 : loF C_28 O_28 L_28 64 0 0 lc_28_l0 :=
 LCon.shape_ok (fun a => by simp) fun x => (r_28_l0 x).trans (spec_QueuesValid_l0_eq x.1 x.2.1 x.2.2.1 _ _ _)
theorem r_28_l2 (x : FSt sh_28_l2 bs_28_l2) : rdF C_28 O_28 L_28 64 2 1 sh_28_l2 bs_28_l2 x =
 spec_QueuesValid_l2K x.1 x.2.1 x.2.2.1 x.2.2.2.1 (fun y => some (Ex.normal, encSt sh_28_l2 bs_28_l2 y)) (fun a => some (Ex.exit 2, encSt xs_28_l2 xb_28_l2 a)) (fun b => some (Ex.ret, encSt ys_28_l2 yb_28_l2 b)) := by kernel_rfl
theorem lo_28_l2 : loF C_28 O_28 L_28 64 2 1 lc_28_l2 :=
 LCon.shape_ok (fun a => by simp) fun x => (r_28_l2 x).trans (spec_QueuesValid_l2_eq x.1 x.2.1 x.2.2.1 x.2.2.2.1 _ _ _)
theorem lf_28 : LoopsFn Try.prog C_28 O_28 64 L_28 := LoopsFn.all (by kernel_rfl) (by decide) ⟨lo_28_l0, lo_28_l2, trivial⟩
def sa_28 : List S2 := [.one (.dat tQueues)]
def ba_28 : List SB := []
def out_28 (r : Bool) : AV × Store := out1 (.one (.dat .bool)) [] (r, ())
theorem w_28 (x : FAr sa_28 ba_28) : evF C_28 O_28 L_28 64 sa_28 ba_28 x =
 spec_QueuesValidK x.1 (fun r => some (out_28 r)) := by kernel_rfl
theorem sem_28 : SemF 64 sa_28 ba_28 (fun x => spec_QueuesValid x.1) out_28 :=
 sem_of folP okP tabP (Oracle.of_ok (Oracle.cons_ok ok_27 Oracle.nil_ok)) lf_28 fun x => (w_28 x).trans (spec_QueuesValid_eq x.1 _)
noncomputable def c_28 : Con := Con.shape sa_28 ba_28 (fun x => spec_QueuesValid x.1) out_28
theorem ok_28 : ConOk Try.prog 64 c_28 := Con.shape_ok sem_28

/-! 66 -/
def C_29 : Cfg := { T := tab, hint := fun _ => { mu := [2, 3, 23], keepR := [1, 2, 3, 4, 10], res := [2], order := [(5, tns .read 2 6 ++ [(8, .pure), (0, .read), (1, .read)] ++ tns .forced 9 4)], keepL := [(0, [1, 2, 3, 4])], keepX := [(0, [2, 3]), (1, [1, 2, 3, 4])], fill := [(0, [1, 2, 3, 4])] }, mode := fun _ => .borrow }
noncomputable def O_29 : Oracle := Oracle.of []
def sh_29_l0 : List (Nat × S2) := [(1, .one (.cdat tQueues 0)), (2, .one (.ptr 0 0 0)), (3, .one (.ptr 1 0 0)), (4, .one (.dat I))]
def bs_29_l0 : List SB := [.var [.all 2], .cell (.all 3), .data (.sl I), .data (.sl I)]
def xs_29_l0 : List (Nat × S2) := [(2, .one (.ptr 0 0 0)), (3, .one (.ptr 1 0 0))]
def xb_29_l0 : List SB := [.var [.all 2], .cell (.all 3), .data (.sl I), .data (.sl I)]
noncomputable def lc_29_l0 : LCon := LCon.shape1 sh_29_l0 bs_29_l0 spec_l8Copy_l0 (fun a => (.exit 0, encSt xs_29_l0 xb_29_l0 a))
noncomputable def L_29 : Loops := Loops.of [(0, lc_29_l0)]
theorem r_29_l0 (x : FSt sh_29_l0 bs_29_l0) : rdF C_29 O_29 L_29 66 0 0 sh_29_l0 bs_29_l0 x =
 spec_l8Copy_l0K x.1 x.2.1 x.2.2.1 x.2.2.2.1 (fun y => some (Ex.normal, encSt sh_29_l0 bs_29_l0 y)) (fun a => some (Ex.exit 0, encSt xs_29_l0 xb_29_l0 a)) := by kernel_rfl
theorem lo_29_l0 : loF C_29 O_29 L_29 66 0 0 lc_29_l0 :=
 LCon.shape1_ok (fun a => by simp) fun x => (r_29_l0 x).trans (spec_l8Copy_l0_eq x.1 x.2.1 x.2.2.1 x.2.2.2.1 _ _)
theorem lf_29 : LoopsFn Try.prog C_29 O_29 66 L_29 := LoopsFn.all (by kernel_rfl) (by decide) ⟨lo_29_l0, trivial⟩
def sa_29 : List S2 := [.one (.dat tQueues)]
def ba_29 : List SB := []
def out_29 (r : (List (List Int))) : AV × Store := out1 (.agg [.all 0]) [.data (.sl I)] (r, ())
theorem w_29 (x : FAr sa_29 ba_29) : evF C_29 O_29 L_29 66 sa_29 ba_29 x =
 spec_l8CopyK x.1 (fun r => some (out_29 r)) := by kernel_rfl
theorem sem_29 : SemF 66 sa_29 ba_29 (fun x => spec_l8Copy x.1) out_29 :=
 sem_of folP okP tabP (Oracle.of_ok Oracle.nil_ok) lf_29 fun x => (w_29 x).trans (spec_l8Copy_eq x.1 _)
noncomputable def c_29 : Con := Con.shape sa_29 ba_29 (fun x => spec_l8Copy x.1) out_29
theorem ok_29 : ConOk Try.prog 66 c_29 := Con.shape_ok sem_29

/-! 67 -/
def C_30 : Cfg := { T := tab, hint := fun _ => { keepR := [1, 2, 4, 5, 6, 15, 25, 37], res := [4], keepL := [(0, [1, 2, 5]), (2, [1, 2, 5, 6])], keepX := [(0, []), (1, [1, 2, 5]), (2, [1, 2, 5]), (3, [1, 2, 5, 6])] }, mode := fun _ => .borrow }
noncomputable def O_30 : Oracle := Oracle.of [(64, c_28)]
def sh_30_l0 : List (Nat × S2) := [(1, .one (.dat I)), (2, .one (.cdat tQueues 0)), (5, .one (.dat I))]
def bs_30_l0 : List SB := []
def xs_30_l0 : List (Nat × S2) := []
def xb_30_l0 : List SB := []
def ys_30_l0 : List (Nat × S2) := [(4, .one (.dat I))]
def yb_30_l0 : List SB := []
noncomputable def lc_30_l0 : LCon := LCon.shape sh_30_l0 bs_30_l0 spec_ReadyPrio_l0 (fun a => (.exit 0, encSt xs_30_l0 xb_30_l0 a)) (fun b => encSt ys_30_l0 yb_30_l0 b)
def sh_30_l2 : List (Nat × S2) := [(1, .one (.dat I)), (2, .one (.cdat tQueues 0)), (5, .one (.dat I)), (6, .one (.dat I))]
def bs_30_l2 : List SB := []
def xs_30_l2 : List (Nat × S2) := [(1, .one (.dat I)), (2, .one (.cdat tQueues 0)), (5, .one (.dat I))]
def xb_30_l2 : List SB := []
def ys_30_l2 : List (Nat × S2) := [(4, .one (.dat I))]
def yb_30_l2 : List SB := []
noncomputable def lc_30_l2 : LCon := LCon.shape sh_30_l2 bs_30_l2 spec_ReadyPrio_l2 (fun a => (.exit 2, encSt xs_30_l2 xb_30_l2 a)) (fun b => encSt ys_30_l2 yb_30_l2 b)
noncomputable def L_30 : Loops := Loops.of [(0, lc_30_l0), (2, lc_30_l2)]
theorem r_30_l0 (x : FSt sh_30_l0 bs_30_l0) : rdF C_30 O_30 L_30 67 0 0 sh_30_l0 bs_30_l0 x =
 spec_ReadyPrio_l0K x.1 x.2.1 x.2.2.1 (fun y => some (Ex.normal, encSt sh_30_l0 bs_30_l0 y)) (fun a => some (Ex.exit 0, encSt xs_30_l0 xb_30_l0 a)) (fun b => some (Ex.ret, encSt ys_30_l0 yb_30_l0 b)) := by kernel_rfl
theorem lo_30_l0 : loF C_30 O_30 L_30 67 0 0 lc_30_l0 :=
 LCon.shape_ok (fun a => by simp) fun x => (r_30_l0 x).trans (spec_ReadyPrio_l0_eq x.1 x.2.1 x.2.2.1 _ _ _)
theorem r_30_l2 (x : FSt sh_30_l2 bs_30_l2) : rdF C_30 O_30 L_30 67 2 1 sh_30_l2 bs_30_l2 x =
 spec_ReadyPrio_l2K x.1 x.2.1 x.2.2.1 x.2.2.2.1 (fun y => some (Ex.normal, encSt sh_30_l2 bs_30_l2 y)) (fun a => some (Ex.exit 2, encSt xs_30_l2 xb_30_l2 a)) (fun b => some (Ex.ret, encSt ys_30_l2 yb_30_l2 b)) := by kernel_rfl
theorem lo_30_l2 : loF C_30 O_30 L_30 67 2 1 lc_30_l2 :=
 LCon.shape_ok (fun a => by simp) fun x => (r_30_l2 x).trans (spec_ReadyPrio_l2_eq x.1 x.2.1 x.2.2.1 x.2.2.2.1 _ _ _)
theorem lf_30 : LoopsFn Try.prog C_30 O_30 67 L_30 := LoopsFn.all (by kernel_rfl) (by decide) ⟨lo_30_l0, lo_30_l2, trivial⟩
def sa_30 : List S2 := [.one (.dat tQueues), .one (.dat I)]
def ba_30 : List SB := []
def out_30 (r : Int) : AV × Store := out1 (.one (.dat I)) [] (r, ())
theorem w_30 (x : FAr sa_30 ba_30) : evF C_30 O_30 L_30 67 sa_30 ba_30 x =
 spec_ReadyPrioK x.1 x.2.1 (fun r => some (out_30 r)) := by kernel_rfl
theorem sem_30 : SemF 67 sa_30 ba_30 (fun x => spec_ReadyPrio x.1 x.2.1) out_30 :=
 sem_of folP okP tabP (Oracle.of_ok (Oracle.cons_ok ok_28 Oracle.nil_ok)) lf_30 fun x => (w_30 x).trans (spec_ReadyPrio_eq x.1 x.2.1 _)
noncomputable def c_30 : Con := Con.shape sa_30 ba_30 (fun x => spec_ReadyPrio x.1 x.2.1) out_30
theorem ok_30 : ConOk Try.prog 67 c_30 := Con.shape_ok sem_30

/-! 72 -/
def C_31 : Cfg := { T := tab, hint := fun _ => { keepR := [1, 2, 3, 13, 22], res := [2], keepL := [(0, [1, 3])], keepX := [(0, []), (1, [1, 3])] }, mode := fun _ => .borrow }
noncomputable def O_31 : Oracle := Oracle.of [(64, c_28)]
def sh_31_l0 : List (Nat × S2) := [(1, .one (.cdat tQueues 0)), (3, .one (.dat I))]
def bs_31_l0 : List SB := []
def xs_31_l0 : List (Nat × S2) := []
def xb_31_l0 : List SB := []
def ys_31_l0 : List (Nat × S2) := [(2, .one (.dat I))]
def yb_31_l0 : List SB := []
noncomputable def lc_31_l0 : LCon := LCon.shape sh_31_l0 bs_31_l0 spec_ReadyNext_l0 (fun a => (.exit 0, encSt xs_31_l0 xb_31_l0 a)) (fun b => encSt ys_31_l0 yb_31_l0 b)
noncomputable def L_31 : Loops := Loops.of [(0, lc_31_l0)]
theorem r_31_l0 (x : FSt sh_31_l0 bs_31_l0) : rdF C_31 O_31 L_31 72 0 0 sh_31_l0 bs_31_l0 x =
 spec_ReadyNext_l0K x.1 x.2.1 (fun y => some (Ex.normal, encSt sh_31_l0 bs_31_l0 y)) (fun a => some (Ex.exit 0, encSt xs_31_l0 xb_31_l0 a)) (fun b => some (Ex.ret, encSt ys_31_l0 yb_31_l0 b)) := by kernel_rfl
theorem lo_31_l0 : loF C_31 O_31 L_31 72 0 0 lc_31_l0 :=
 LCon.shape_ok (fun a => by simp) fun x => (r_31_l0 x).trans (spec_ReadyNext_l0_eq x.1 x.2.1 _ _ _)
theorem lf_31 : LoopsFn Try.prog C_31 O_31 72 L_31 := LoopsFn.all (by kernel_rfl) (by decide) ⟨lo_31_l0, trivial⟩
def sa_31 : List S2 := [.one (.dat tQueues)]
def ba_31 : List SB := []
def out_31 (r : Int) : AV × Store := out1 (.one (.dat I)) [] (r, ())
theorem w_31 (x : FAr sa_31 ba_31) : evF C_31 O_31 L_31 72 sa_31 ba_31 x =
 spec_ReadyNextK x.1 (fun r => some (out_31 r)) := by kernel_rfl
theorem sem_31 : SemF 72 sa_31 ba_31 (fun x => spec_ReadyNext x.1) out_31 :=
 sem_of folP okP tabP (Oracle.of_ok (Oracle.cons_ok ok_28 Oracle.nil_ok)) lf_31 fun x => (w_31 x).trans (spec_ReadyNext_eq x.1 _)
noncomputable def c_31 : Con := Con.shape sa_31 ba_31 (fun x => spec_ReadyNext x.1) out_31
theorem ok_31 : ConOk Try.prog 72 c_31 := Con.shape_ok sem_31

/-! 29 -/
def C_32 : Cfg := { T := tab, hint := fun _ => { mu := [2, 3, 11, 29], keepR := [1, 2, 3, 4, 5, 8, 15], res := [2], order := [(7, tns .read 3 7 ++ [(2, .pure), (11, .pure), (12, .pure), (0, .aside [] [29]), (1, .aside [] [29]), (10, .forced), (13, .forced), (14, .forced), (15, .forced)])], fillR := true }, mode := fun _ => .borrow }
noncomputable def O_32 : Oracle := Oracle.of [(64, c_28), (66, c_29), (67, c_30), (72, c_31)]
noncomputable def L_32 : Loops := Loops.of []
theorem lf_32 : LoopsFn Try.prog C_32 O_32 29 L_32 := LoopsFn.nil' (by kernel_rfl)
def sa_32 : List S2 := [.one (.dat tQueues)]
def ba_32 : List SB := []
def out_32 (r : (List (List Int))) : AV × Store := out1 (.agg [.all 0]) [.data (.sl I)] (r, ())
theorem w_32 (x : FAr sa_32 ba_32) : evF C_32 O_32 L_32 29 sa_32 ba_32 x =
 spec_ReadyTurnK x.1 (fun r => some (out_32 r)) := by kernel_rfl
theorem sem_32 : SemF 29 sa_32 ba_32 (fun x => spec_ReadyTurn x.1) out_32 :=
 sem_of folP okP tabP (Oracle.of_ok (Oracle.cons_ok ok_28 (Oracle.cons_ok ok_29 (Oracle.cons_ok ok_30 (Oracle.cons_ok ok_31 Oracle.nil_ok))))) lf_32 fun x => (w_32 x).trans (spec_ReadyTurn_eq x.1 _)
noncomputable def c_32 : Con := Con.shape sa_32 ba_32 (fun x => spec_ReadyTurn x.1) out_32
theorem ok_32 : ConOk Try.prog 29 c_32 := Con.shape_ok sem_32

/-! 81 -/
def C_33 : Cfg := { T := tab, hint := fun _ => { keepR := [1, 2, 3, 5, 14], res := [2], keepL := [(0, [1, 3])], keepX := [(0, []), (1, [1, 3])] }, mode := fun _ => .borrow }
noncomputable def O_33 : Oracle := Oracle.of []
def sh_33_l0 : List (Nat × S2) := [(1, .one (.cdat tQueues 0)), (3, .one (.dat I))]
def bs_33_l0 : List SB := []
def xs_33_l0 : List (Nat × S2) := []
def xb_33_l0 : List SB := []
def ys_33_l0 : List (Nat × S2) := [(2, .one (.dat I))]
def yb_33_l0 : List SB := []
noncomputable def lc_33_l0 : LCon := LCon.shape sh_33_l0 bs_33_l0 impl_Queues_top_l0 (fun a => (.exit 0, encSt xs_33_l0 xb_33_l0 a)) (fun b => encSt ys_33_l0 yb_33_l0 b)
noncomputable def L_33 : Loops := Loops.of [(0, lc_33_l0)]
theorem r_33_l0 (x : FSt sh_33_l0 bs_33_l0) : rdF C_33 O_33 L_33 81 0 0 sh_33_l0 bs_33_l0 x =
 impl_Queues_top_l0K x.1 x.2.1 (fun y => some (Ex.normal, encSt sh_33_l0 bs_33_l0 y)) (fun a => some (Ex.exit 0, encSt xs_33_l0 xb_33_l0 a)) (fun b => some (Ex.ret, encSt ys_33_l0 yb_33_l0 b)) := by kernel_rfl
theorem lo_33_l0 : loF C_33 O_33 L_33 81 0 0 lc_33_l0 :=
 LCon.shape_ok (fun a => by simp) fun x => (r_33_l0 x).trans (impl_Queues_top_l0_eq x.1 x.2.1 _ _ _)
theorem lf_33 : LoopsFn Try.prog C_33 O_33 81 L_33 := LoopsFn.all (by kernel_rfl) (by decide) ⟨lo_33_l0, trivial⟩
def sa_33 : List S2 := [.one (.dat tQueues)]
def ba_33 : List SB := []
def out_33 (r : Int) : AV × Store := out1 (.one (.dat I)) [] (r, ())
theorem w_33 (x : FAr sa_33 ba_33) : evF C_33 O_33 L_33 81 sa_33 ba_33 x =
 impl_Queues_topK x.1 (fun r => some (out_33 r)) := by kernel_rfl
theorem sem_33 : SemF 81 sa_33 ba_33 (fun x => impl_Queues_top x.1) out_33 :=
 sem_of folP okP tabP (Oracle.of_ok Oracle.nil_ok) lf_33 fun x => (w_33 x).trans (impl_Queues_top_eq x.1 _)
noncomputable def c_33 : Con := Con.shape sa_33 ba_33 (fun x => impl_Queues_top x.1) out_33
theorem ok_33 : ConOk Try.prog 81 c_33 := Con.shape_ok sem_33

/-! 73 -/
def C_34 : Cfg := { T := tab, hint := fun _ => { mu := [1, 18], keepR := [1, 2, 3, 7], res := [], base := 1, order := [(4, [(3, .read), (4, .read)] ++ tns .read 6 4 ++ [(2, .pure), (0, .aside [] [18]), (1, .aside [] [18]), (5, .forced)] ++ tns .forced 10 4)] }, mode := fun _ => .borrow }
noncomputable def O_34 : Oracle := Oracle.of [(59, c_16), (81, c_33)]
noncomputable def L_34 : Loops := Loops.of []
theorem lf_34 : LoopsFn Try.prog C_34 O_34 73 L_34 := LoopsFn.nil' (by kernel_rfl)
def sa_34 : List S2 := [.agg [.all 0]]
def ba_34 : List SB := [.data (.sl I)]
def out_34 (r : (List (List Int))) : AV × Store := outT [] [.data (.sl I)] (r, ())
theorem w_34 (x : FAr sa_34 ba_34) : evF C_34 O_34 L_34 73 sa_34 ba_34 x =
 impl_Queues_turnK x.1 (fun r => some (out_34 r)) := by kernel_rfl
theorem sem_34 : SemF 73 sa_34 ba_34 (fun x => impl_Queues_turn x.1) out_34 :=
 sem_of folP okP tabP (Oracle.of_ok (Oracle.cons_ok ok_16 (Oracle.cons_ok ok_33 Oracle.nil_ok))) lf_34 fun x => (w_34 x).trans (impl_Queues_turn_eq x.1 _)
noncomputable def c_34 : Con := Con.shape sa_34 ba_34 (fun x => impl_Queues_turn x.1) out_34
theorem ok_34 : ConOk Try.prog 73 c_34 := Con.shape_ok sem_34

/-! 30 -/
def C_35 : Cfg := { T := tab, hint := fun _ => { mu := [2, 3, 9], keepR := [1, 2, 3, 6], res := [2], fillR := true }, mode := modeOf [(73, .sub)] }
noncomputable def O_35 : Oracle := Oracle.of [(21, c_12), (57, c_17), (73, c_34)]
noncomputable def L_35 : Loops := Loops.of []
theorem lf_35 : LoopsFn Try.prog C_35 O_35 30 L_35 := LoopsFn.nil' (by kernel_rfl)
def sa_35 : List S2 := [.one (.dat tQueues)]
def ba_35 : List SB := []
def out_35 (r : (List (List Int))) : AV × Store := out1 (.agg [.all 0]) [.data (.sl I)] (r, ())
theorem w_35 (x : FAr sa_35 ba_35) : evF C_35 O_35 L_35 30 sa_35 ba_35 x =
 impl_ReadyTurnK x.1 (fun r => some (out_35 r)) := by kernel_rfl
theorem sem_35 : SemF 30 sa_35 ba_35 (fun x => impl_ReadyTurn x.1) out_35 :=
 sem_of folP okP tabP (Oracle.of_ok (Oracle.cons_ok ok_12 (Oracle.cons_ok ok_17 (Oracle.cons_ok ok_34 Oracle.nil_ok)))) lf_35 fun x => (w_35 x).trans (impl_ReadyTurn_eq x.1 _)
noncomputable def c_35 : Con := Con.shape sa_35 ba_35 (fun x => impl_ReadyTurn x.1) out_35
theorem ok_35 : ConOk Try.prog 30 c_35 := Con.shape_ok sem_35

/-! 33 -/
def C_36 : Cfg := { T := tab, hint := fun _ => { keepR := [0, 1, 4, 5, 10, 14, 25], res := [4], order := [(6, tns .read 0 5 ++ tns .forced 5 4)], keepL := [(0, [0, 1, 5])], keepX := [(0, []), (1, [0, 1, 5])] }, mode := fun _ => .borrow }
noncomputable def O_36 : Oracle := Oracle.of []
def sh_36_l0 : List (Nat × S2) := [(0, .one (.dat (.sl I))), (1, .one (.dat (.sl I))), (5, .one (.dat I))]
def bs_36_l0 : List SB := []
def xs_36_l0 : List (Nat × S2) := []
def xb_36_l0 : List SB := []
def ys_36_l0 : List (Nat × S2) := [(4, .one (.dat .bool))]
def yb_36_l0 : List SB := []
noncomputable def lc_36_l0 : LCon := LCon.shape sh_36_l0 bs_36_l0 laws_eqIntS_l0 (fun a => (.exit 0, encSt xs_36_l0 xb_36_l0 a)) (fun b => encSt ys_36_l0 yb_36_l0 b)
noncomputable def L_36 : Loops := Loops.of [(0, lc_36_l0)]
theorem r_36_l0 (x : FSt sh_36_l0 bs_36_l0) : rdF C_36 O_36 L_36 33 0 0 sh_36_l0 bs_36_l0 x =
 laws_eqIntS_l0K x.1 x.2.1 x.2.2.1 (fun y => some (Ex.normal, encSt sh_36_l0 bs_36_l0 y)) (fun a => some (Ex.exit 0, encSt xs_36_l0 xb_36_l0 a)) (fun b => some (Ex.ret, encSt ys_36_l0 yb_36_l0 b)) := by kernel_rfl
theorem lo_36_l0 : loF C_36 O_36 L_36 33 0 0 lc_36_l0 :=
 LCon.shape_ok (fun a => by simp) fun x => (r_36_l0 x).trans (laws_eqIntS_l0_eq x.1 x.2.1 x.2.2.1 _ _ _)
theorem lf_36 : LoopsFn Try.prog C_36 O_36 33 L_36 := LoopsFn.all (by kernel_rfl) (by decide) ⟨lo_36_l0, trivial⟩
def sa_36 : List S2 := [.one (.dat (.sl I)), .one (.dat (.sl I))]
def ba_36 : List SB := []
def out_36 (r : Bool) : AV × Store := out1 (.one (.dat .bool)) [] (r, ())
theorem w_36 (x : FAr sa_36 ba_36) : evF C_36 O_36 L_36 33 sa_36 ba_36 x =
 laws_eqIntSK x.1 x.2.1 (fun r => some (out_36 r)) := by kernel_rfl
theorem sem_36 : SemF 33 sa_36 ba_36 (fun x => laws_eqIntS x.1 x.2.1) out_36 :=
 sem_of folP okP tabP (Oracle.of_ok Oracle.nil_ok) lf_36 fun x => (w_36 x).trans (laws_eqIntS_eq x.1 x.2.1 _)
noncomputable def c_36 : Con := Con.shape sa_36 ba_36 (fun x => laws_eqIntS x.1 x.2.1) out_36
theorem ok_36 : ConOk Try.prog 33 c_36 := Con.shape_ok sem_36

/-! 69 -/
def C_37 : Cfg := { T := tab, hint := fun _ => { keepR := [0, 1, 4, 5, 10, 14, 26], res := [4], order := [(6, tns .read 0 5 ++ tns .forced 5 5)], keepL := [(0, [0, 1, 5])], keepX := [(0, []), (1, [0, 1, 5])] }, mode := fun _ => .borrow }
noncomputable def O_37 : Oracle := Oracle.of [(33, c_36)]
def sh_37_l0 : List (Nat × S2) := [(0, .one (.dat (.sl (.sl I)))), (1, .one (.dat (.sl (.sl I)))), (5, .one (.dat I))]
def bs_37_l0 : List SB := []
def xs_37_l0 : List (Nat × S2) := []
def xb_37_l0 : List SB := []
def ys_37_l0 : List (Nat × S2) := [(4, .one (.dat .bool))]
def yb_37_l0 : List SB := []
noncomputable def lc_37_l0 : LCon := LCon.shape sh_37_l0 bs_37_l0 laws_eqIntSS_l0 (fun a => (.exit 0, encSt xs_37_l0 xb_37_l0 a)) (fun b => encSt ys_37_l0 yb_37_l0 b)
noncomputable def L_37 : Loops := Loops.of [(0, lc_37_l0)]
theorem r_37_l0 (x : FSt sh_37_l0 bs_37_l0) : rdF C_37 O_37 L_37 69 0 0 sh_37_l0 bs_37_l0 x =
 laws_eqIntSS_l0K x.1 x.2.1 x.2.2.1 (fun y => some (Ex.normal, encSt sh_37_l0 bs_37_l0 y)) (fun a => some (Ex.exit 0, encSt xs_37_l0 xb_37_l0 a)) (fun b => some (Ex.ret, encSt ys_37_l0 yb_37_l0 b)) := by kernel_rfl
theorem lo_37_l0 : loF C_37 O_37 L_37 69 0 0 lc_37_l0 :=
 LCon.shape_ok (fun a => by simp) fun x => (r_37_l0 x).trans (laws_eqIntSS_l0_eq x.1 x.2.1 x.2.2.1 _ _ _)
theorem lf_37 : LoopsFn Try.prog C_37 O_37 69 L_37 := LoopsFn.all (by kernel_rfl) (by decide) ⟨lo_37_l0, trivial⟩
def sa_37 : List S2 := [.one (.dat (.sl (.sl I))), .one (.dat (.sl (.sl I)))]
def ba_37 : List SB := []
def out_37 (r : Bool) : AV × Store := out1 (.one (.dat .bool)) [] (r, ())
theorem w_37 (x : FAr sa_37 ba_37) : evF C_37 O_37 L_37 69 sa_37 ba_37 x =
 laws_eqIntSSK x.1 x.2.1 (fun r => some (out_37 r)) := by kernel_rfl
theorem sem_37 : SemF 69 sa_37 ba_37 (fun x => laws_eqIntSS x.1 x.2.1) out_37 :=
 sem_of folP okP tabP (Oracle.of_ok (Oracle.cons_ok ok_36 Oracle.nil_ok)) lf_37 fun x => (w_37 x).trans (laws_eqIntSS_eq x.1 x.2.1 _)
noncomputable def c_37 : Con := Con.shape sa_37 ba_37 (fun x => laws_eqIntSS x.1 x.2.1) out_37
theorem ok_37 : ConOk Try.prog 69 c_37 := Con.shape_ok sem_37

/-! 26 -/
def C_38 : Cfg := { T := tab, hint := fun _ => { keepR := [2, 3, 4, 10], res := [4] }, mode := fun _ => .borrow }
noncomputable def O_38 : Oracle := Oracle.of [(69, c_37)]
noncomputable def L_38 : Loops := Loops.of []
theorem lf_38 : LoopsFn Try.prog C_38 O_38 26 L_38 := LoopsFn.nil' (by kernel_rfl)
def sa_38 : List S2 := [.one (.dat tQueues), .one (.dat tQueues)]
def ba_38 : List SB := []
def out_38 (r : Bool) : AV × Store := out1 (.one (.dat .bool)) [] (r, ())
theorem w_38 (x : FAr sa_38 ba_38) : evF C_38 O_38 L_38 26 sa_38 ba_38 x =
 laws_eqQueuesK x.1 x.2.1 (fun r => some (out_38 r)) := by kernel_rfl
theorem sem_38 : SemF 26 sa_38 ba_38 (fun x => laws_eqQueues x.1 x.2.1) out_38 :=
 sem_of folP okP tabP (Oracle.of_ok (Oracle.cons_ok ok_37 Oracle.nil_ok)) lf_38 fun x => (w_38 x).trans (laws_eqQueues_eq x.1 x.2.1 _)
noncomputable def c_38 : Con := Con.shape sa_38 ba_38 (fun x => laws_eqQueues x.1 x.2.1) out_38
theorem ok_38 : ConOk Try.prog 26 c_38 := Con.shape_ok sem_38

/-! 31 -/
def C_39 : Cfg := { T := tab, hint := fun _ => { mu := [2, 7, 26], keepR := [1, 2, 4, 5, 6, 15, 19], res := [4], keepL := [(0, [1, 2, 5, 6])], keepX := [(0, [5]), (1, [1, 2, 5, 6])] }, mode := fun _ => .borrow }
noncomputable def O_39 : Oracle := Oracle.of [(29, c_32), (64, c_28), (65, c_27), (72, c_31)]
def sh_39_l0 : List (Nat × S2) := [(1, .one (.dat I)), (2, .one (.ptr 0 0 0)), (5, .one (.all 1)), (6, .one (.dat I))]
def bs_39_l0 : List SB := [.one tQueues, .data I]
def xs_39_l0 : List (Nat × S2) := [(5, .one (.all 0))]
def xb_39_l0 : List SB := [.data I]
noncomputable def lc_39_l0 : LCon := LCon.shape1 sh_39_l0 bs_39_l0 spec_RunTurns_l0 (fun a => (.exit 0, encSt xs_39_l0 xb_39_l0 a))
noncomputable def L_39 : Loops := Loops.of [(0, lc_39_l0)]
theorem r_39_l0 (x : FSt sh_39_l0 bs_39_l0) : rdF C_39 O_39 L_39 31 0 0 sh_39_l0 bs_39_l0 x =
 spec_RunTurns_l0K x.1 x.2.1 x.2.2.1 x.2.2.2.1 (fun y => some (Ex.normal, encSt sh_39_l0 bs_39_l0 y)) (fun a => some (Ex.exit 0, encSt xs_39_l0 xb_39_l0 a)) := by kernel_rfl
theorem lo_39_l0 : loF C_39 O_39 L_39 31 0 0 lc_39_l0 :=
 LCon.shape1_ok (fun a => by simp) fun x => (r_39_l0 x).trans (spec_RunTurns_l0_eq x.1 x.2.1 x.2.2.1 x.2.2.2.1 _ _)
theorem lf_39 : LoopsFn Try.prog C_39 O_39 31 L_39 := LoopsFn.all (by kernel_rfl) (by decide) ⟨lo_39_l0, trivial⟩
def sa_39 : List S2 := [.one (.dat tQueues), .one (.dat I)]
def ba_39 : List SB := []
def out_39 (r : (List Int)) : AV × Store := out1 (.one (.all 0)) [.data I] (r, ())
theorem w_39 (x : FAr sa_39 ba_39) : evF C_39 O_39 L_39 31 sa_39 ba_39 x =
 spec_RunTurnsK x.1 x.2.1 (fun r => some (out_39 r)) := by kernel_rfl
theorem sem_39 : SemF 31 sa_39 ba_39 (fun x => spec_RunTurns x.1 x.2.1) out_39 :=
 sem_of folP okP tabP (Oracle.of_ok (Oracle.cons_ok ok_32 (Oracle.cons_ok ok_28 (Oracle.cons_ok ok_27 (Oracle.cons_ok ok_31 Oracle.nil_ok))))) lf_39 fun x => (w_39 x).trans (spec_RunTurns_eq x.1 x.2.1 _)
noncomputable def c_39 : Con := Con.shape sa_39 ba_39 (fun x => spec_RunTurns x.1 x.2.1) out_39
theorem ok_39 : ConOk Try.prog 31 c_39 := Con.shape_ok sem_39

/-! 74 -/
def C_40 : Cfg := { T := tab, hint := fun _ => { keepR := [1, 2, 4], res := [4] }, mode := fun _ => .borrow }
noncomputable def O_40 : Oracle := Oracle.of [(21, c_12), (85, c_7)]
noncomputable def L_40 : Loops := Loops.of []
theorem lf_40 : LoopsFn Try.prog C_40 O_40 74 L_40 := LoopsFn.nil' (by kernel_rfl)
def sa_40 : List S2 := [.one (.dat tQueues), .one (.dat I)]
def ba_40 : List SB := []
def out_40 (r : Bool) : AV × Store := out1 (.one (.dat .bool)) [] (r, ())
theorem w_40 (x : FAr sa_40 ba_40) : evF C_40 O_40 L_40 74 sa_40 ba_40 x =
 impl_turnedK x.1 x.2.1 (fun r => some (out_40 r)) := by kernel_rfl
theorem sem_40 : SemF 74 sa_40 ba_40 (fun x => impl_turned x.1 x.2.1) out_40 :=
 sem_of folP okP tabP (Oracle.of_ok (Oracle.cons_ok ok_12 (Oracle.cons_ok ok_7 Oracle.nil_ok))) lf_40 fun x => (w_40 x).trans (impl_turned_eq x.1 x.2.1 _)
noncomputable def c_40 : Con := Con.shape sa_40 ba_40 (fun x => impl_turned x.1 x.2.1) out_40
theorem ok_40 : ConOk Try.prog 74 c_40 := Con.shape_ok sem_40

/-! 62 -/
def C_41 : Cfg := { T := tab, hint := fun _ => { keepR := [1, 2, 3, 7], res := [2] }, mode := fun _ => .borrow }
noncomputable def O_41 : Oracle := Oracle.of [(81, c_33)]
noncomputable def L_41 : Loops := Loops.of []
theorem lf_41 : LoopsFn Try.prog C_41 O_41 62 L_41 := LoopsFn.nil' (by kernel_rfl)
def sa_41 : List S2 := [.one (.dat tQueues)]
def ba_41 : List SB := []
def out_41 (r : Int) : AV × Store := out1 (.one (.dat I)) [] (r, ())
theorem w_41 (x : FAr sa_41 ba_41) : evF C_41 O_41 L_41 62 sa_41 ba_41 x =
 impl_Queues_nextK x.1 (fun r => some (out_41 r)) := by kernel_rfl
theorem sem_41 : SemF 62 sa_41 ba_41 (fun x => impl_Queues_next x.1) out_41 :=
 sem_of folP okP tabP (Oracle.of_ok (Oracle.cons_ok ok_33 Oracle.nil_ok)) lf_41 fun x => (w_41 x).trans (impl_Queues_next_eq x.1 _)
noncomputable def c_41 : Con := Con.shape sa_41 ba_41 (fun x => impl_Queues_next x.1) out_41
theorem ok_41 : ConOk Try.prog 62 c_41 := Con.shape_ok sem_41

/-! 32 -/
def C_42 : Cfg := { T := tab, hint := fun _ => { mu := [4, 5, 13, 15], keepR := [1, 2, 4, 5, 6, 7, 11, 17, 18, 19], res := [4], keepL := [(0, [5, 6, 17, 18])], keepX := [(0, [6]), (1, [5, 6, 17, 18])] }, mode := modeOf [(73, .sub)] }
noncomputable def O_42 : Oracle := Oracle.of [(57, c_17), (62, c_41), (73, c_34), (74, c_40)]
def sh_42_l0 : List (Nat × S2) := [(5, .one (.ptr 0 0 0)), (6, .one (.all 1)), (17, .one (.dat I)), (18, .one (.dat I))]
def bs_42_l0 : List SB := [.cell (.all 2), .data I, .data (.sl I)]
def xs_42_l0 : List (Nat × S2) := [(6, .one (.all 0))]
def xb_42_l0 : List SB := [.data I]
noncomputable def lc_42_l0 : LCon := LCon.shape1 sh_42_l0 bs_42_l0 impl_RunTurns_l0 (fun a => (.exit 0, encSt xs_42_l0 xb_42_l0 a))
noncomputable def L_42 : Loops := Loops.of [(0, lc_42_l0)]
theorem r_42_l0 (x : FSt sh_42_l0 bs_42_l0) : rdF C_42 O_42 L_42 32 0 0 sh_42_l0 bs_42_l0 x =
 impl_RunTurns_l0K x.1 x.2.1 x.2.2.1 x.2.2.2.1 (fun y => some (Ex.normal, encSt sh_42_l0 bs_42_l0 y)) (fun a => some (Ex.exit 0, encSt xs_42_l0 xb_42_l0 a)) := by kernel_rfl
theorem lo_42_l0 : loF C_42 O_42 L_42 32 0 0 lc_42_l0 :=
 LCon.shape1_ok (fun a => by simp) fun x => (r_42_l0 x).trans (impl_RunTurns_l0_eq x.1 x.2.1 x.2.2.1 x.2.2.2.1 _ _)
theorem lf_42 : LoopsFn Try.prog C_42 O_42 32 L_42 := LoopsFn.all (by kernel_rfl) (by decide) ⟨lo_42_l0, trivial⟩
def sa_42 : List S2 := [.one (.dat tQueues), .one (.dat I)]
def ba_42 : List SB := []
def out_42 (r : (List Int)) : AV × Store := out1 (.one (.all 0)) [.data I] (r, ())
theorem w_42 (x : FAr sa_42 ba_42) : evF C_42 O_42 L_42 32 sa_42 ba_42 x =
 impl_RunTurnsK x.1 x.2.1 (fun r => some (out_42 r)) := by kernel_rfl
theorem sem_42 : SemF 32 sa_42 ba_42 (fun x => impl_RunTurns x.1 x.2.1) out_42 :=
 sem_of folP okP tabP (Oracle.of_ok (Oracle.cons_ok ok_17 (Oracle.cons_ok ok_41 (Oracle.cons_ok ok_34 (Oracle.cons_ok ok_40 Oracle.nil_ok))))) lf_42 fun x => (w_42 x).trans (impl_RunTurns_eq x.1 x.2.1 _)
noncomputable def c_42 : Con := Con.shape sa_42 ba_42 (fun x => impl_RunTurns x.1 x.2.1) out_42
theorem ok_42 : ConOk Try.prog 32 c_42 := Con.shape_ok sem_42

/-! 36 -/
def C_43 : Cfg := { T := tab, hint := fun _ => { keepR := [1, 2, 3, 6, 7, 8, 9, 17, 24, 36], res := [6], keepL := [(0, [1, 7, 8, 9])], keepX := [(0, [7]), (1, [1, 7, 8, 9])] }, mode := fun _ => .borrow }
noncomputable def O_43 : Oracle := Oracle.of [(31, c_39), (64, c_28), (65, c_27)]
def sh_43_l0 : List (Nat × S2) := [(1, .one (.dat I)), (7, .one (.dat I)), (8, .one (.dat (.sl I))), (9, .one (.dat I))]
def bs_43_l0 : List SB := []
def xs_43_l0 : List (Nat × S2) := [(7, .one (.dat I))]
def xb_43_l0 : List SB := []
noncomputable def lc_43_l0 : LCon := LCon.shape1 sh_43_l0 bs_43_l0 spec_TurnsOf_l0 (fun a => (.exit 0, encSt xs_43_l0 xb_43_l0 a))
noncomputable def L_43 : Loops := Loops.of [(0, lc_43_l0)]
theorem r_43_l0 (x : FSt sh_43_l0 bs_43_l0) : rdF C_43 O_43 L_43 36 0 0 sh_43_l0 bs_43_l0 x =
 spec_TurnsOf_l0K x.1 x.2.1 x.2.2.1 x.2.2.2.1 (fun y => some (Ex.normal, encSt sh_43_l0 bs_43_l0 y)) (fun a => some (Ex.exit 0, encSt xs_43_l0 xb_43_l0 a)) := by kernel_rfl
theorem lo_43_l0 : loF C_43 O_43 L_43 36 0 0 lc_43_l0 :=
 LCon.shape1_ok (fun a => by simp) fun x => (r_43_l0 x).trans (spec_TurnsOf_l0_eq x.1 x.2.1 x.2.2.1 x.2.2.2.1 _ _)
theorem lf_43 : LoopsFn Try.prog C_43 O_43 36 L_43 := LoopsFn.all (by kernel_rfl) (by decide) ⟨lo_43_l0, trivial⟩
def sa_43 : List S2 := [.one (.dat tQueues), .one (.dat I), .one (.dat I)]
def ba_43 : List SB := []
def out_43 (r : Int) : AV × Store := out1 (.one (.dat I)) [] (r, ())
theorem w_43 (x : FAr sa_43 ba_43) : evF C_43 O_43 L_43 36 sa_43 ba_43 x =
 spec_TurnsOfK x.1 x.2.1 x.2.2.1 (fun r => some (out_43 r)) := by kernel_rfl
theorem sem_43 : SemF 36 sa_43 ba_43 (fun x => spec_TurnsOf x.1 x.2.1 x.2.2.1) out_43 :=
 sem_of folP okP tabP (Oracle.of_ok (Oracle.cons_ok ok_39 (Oracle.cons_ok ok_28 (Oracle.cons_ok ok_27 Oracle.nil_ok)))) lf_43 fun x => (w_43 x).trans (spec_TurnsOf_eq x.1 x.2.1 x.2.2.1 _)
noncomputable def c_43 : Con := Con.shape sa_43 ba_43 (fun x => spec_TurnsOf x.1 x.2.1 x.2.2.1) out_43
theorem ok_43 : ConOk Try.prog 36 c_43 := Con.shape_ok sem_43

/-! 37 -/
def C_44 : Cfg := { T := tab, hint := fun _ => { keepR := [1, 2, 3, 6, 7, 9, 10, 15, 21, 22, 23, 24, 29], res := [6], keepL := [(1, [1, 7, 21, 22, 23])], keepX := [(0, [1, 2, 3]), (1, [7]), (2, [1, 7, 21, 22, 23])] }, mode := fun _ => .borrow }
noncomputable def O_44 : Oracle := Oracle.of [(32, c_42), (55, c_8), (74, c_40)]
def sh_44_l1 : List (Nat × S2) := [(1, .one (.dat I)), (7, .one (.dat I)), (21, .one (.dat (.sl I))), (22, .one (.dat I)), (23, .one (.dat I))]
def bs_44_l1 : List SB := []
def xs_44_l1 : List (Nat × S2) := [(7, .one (.dat I))]
def xb_44_l1 : List SB := []
noncomputable def lc_44_l1 : LCon := LCon.shape1 sh_44_l1 bs_44_l1 impl_TurnsOf_l1 (fun a => (.exit 1, encSt xs_44_l1 xb_44_l1 a))
noncomputable def L_44 : Loops := Loops.of [(1, lc_44_l1)]
theorem r_44_l1 (x : FSt sh_44_l1 bs_44_l1) : rdF C_44 O_44 L_44 37 1 0 sh_44_l1 bs_44_l1 x =
 impl_TurnsOf_l1K x.1 x.2.1 x.2.2.1 x.2.2.2.1 x.2.2.2.2.1 (fun y => some (Ex.normal, encSt sh_44_l1 bs_44_l1 y)) (fun a => some (Ex.exit 1, encSt xs_44_l1 xb_44_l1 a)) := by kernel_rfl
theorem lo_44_l1 : loF C_44 O_44 L_44 37 1 0 lc_44_l1 :=
 LCon.shape1_ok (fun a => by simp) fun x => (r_44_l1 x).trans (impl_TurnsOf_l1_eq x.1 x.2.1 x.2.2.1 x.2.2.2.1 x.2.2.2.2.1 _ _)
theorem lf_44 : LoopsFn Try.prog C_44 O_44 37 L_44 := LoopsFn.all (by kernel_rfl) (by decide) ⟨lo_44_l1, trivial⟩
def sa_44 : List S2 := [.one (.dat tQueues), .one (.dat I), .one (.dat I)]
def ba_44 : List SB := []
def out_44 (r : Int) : AV × Store := out1 (.one (.dat I)) [] (r, ())
theorem w_44 (x : FAr sa_44 ba_44) : evF C_44 O_44 L_44 37 sa_44 ba_44 x =
 impl_TurnsOfK x.1 x.2.1 x.2.2.1 (fun r => some (out_44 r)) := by kernel_rfl
theorem sem_44 : SemF 37 sa_44 ba_44 (fun x => impl_TurnsOf x.1 x.2.1 x.2.2.1) out_44 :=
 sem_of folP okP tabP (Oracle.of_ok (Oracle.cons_ok ok_42 (Oracle.cons_ok ok_8 (Oracle.cons_ok ok_40 Oracle.nil_ok)))) lf_44 fun x => (w_44 x).trans (impl_TurnsOf_eq x.1 x.2.1 x.2.2.1 _)
noncomputable def c_44 : Con := Con.shape sa_44 ba_44 (fun x => impl_TurnsOf x.1 x.2.1 x.2.2.1) out_44
theorem ok_44 : ConOk Try.prog 37 c_44 := Con.shape_ok sem_44

/-! 7 -/
def C_45 : Cfg := { T := tab, hint := fun _ => { mu := [9], keepR := [1, 2, 3, 6, 7, 8, 9, 10, 15, 29, 34], res := [6], order := [(10, [(0, .read)] ++ tns .forced 1 4)] }, mode := fun _ => .borrow }
noncomputable def O_45 : Oracle := Oracle.of [(23, c_23), (25, c_26), (26, c_38), (36, c_43), (37, c_44)]
noncomputable def L_45 : Loops := Loops.of []
theorem lf_45 : LoopsFn Try.prog C_45 O_45 7 L_45 := LoopsFn.nil' (by kernel_rfl)
def sa_45 : List S2 := [.one (.dat tQueues), .one (.dat I), .one (.dat I)]
def ba_45 : List SB := []
def out_45 (r : Bool) : AV × Store := out1 (.one (.dat .bool)) [] (r, ())
theorem w_45 (x : FAr sa_45 ba_45) : evF C_45 O_45 L_45 7 sa_45 ba_45 x =
 laws_FnExactTurnsOfK x.1 x.2.1 x.2.2.1 (fun r => some (out_45 r)) := by kernel_rfl
theorem sem_45 : SemF 7 sa_45 ba_45 (fun x => laws_FnExactTurnsOf x.1 x.2.1 x.2.2.1) out_45 :=
 sem_of folP okP tabP (Oracle.of_ok (Oracle.cons_ok ok_23 (Oracle.cons_ok ok_26 (Oracle.cons_ok ok_38 (Oracle.cons_ok ok_43 (Oracle.cons_ok ok_44 Oracle.nil_ok)))))) lf_45 fun x => (w_45 x).trans (laws_FnExactTurnsOf_eq x.1 x.2.1 x.2.2.1 _)
noncomputable def c_45 : Con := Con.shape sa_45 ba_45 (fun x => laws_FnExactTurnsOf x.1 x.2.1 x.2.2.1) out_45
theorem ok_45 : ConOk Try.prog 7 c_45 := Con.shape_ok sem_45

/-! 77 -/
def C_46 : Cfg := { T := tab, hint := fun _ => { mu := [10], keepR := [0, 2, 5], res := [2] }, mode := fun _ => .borrow }
noncomputable def O_46 : Oracle := Oracle.of []
noncomputable def L_46 : Loops := Loops.of []
theorem lf_46 : LoopsFn Try.prog C_46 O_46 77 L_46 := LoopsFn.nil' (by kernel_rfl)
def sa_46 : List S2 := [.one (.dat (.sl (.int .u8)))]
def ba_46 : List SB := []
def out_46 (r : Dl20Rd) : AV × Store := out1 (.one (.ptr 0 0 0)) [.one tl20Rd] (r, ())
theorem w_46 (x : FAr sa_46 ba_46) : evF C_46 O_46 L_46 77 sa_46 ba_46 x =
 spec_l20OpenK x.1 (fun r => some (out_46 r)) := by kernel_rfl
theorem sem_46 : SemF 77 sa_46 ba_46 (fun x => spec_l20Open x.1) out_46 :=
 sem_of folP okP tabP (Oracle.of_ok Oracle.nil_ok) lf_46 fun x => (w_46 x).trans (spec_l20Open_eq x.1 _)
noncomputable def c_46 : Con := Con.shape sa_46 ba_46 (fun x => spec_l20Open x.1) out_46
theorem ok_46 : ConOk Try.prog 77 c_46 := Con.shape_ok sem_46

/-! 79 -/
def C_47 : Cfg := { T := tab, hint := fun _ => { keepR := [0, 1, 4, 5, 6, 24, 36], res := [4], base := 1, order := [(7, tns .read 0 37 ++ tns .forced 37 9)] }, mode := fun _ => .borrow }
noncomputable def O_47 : Oracle := Oracle.of []
noncomputable def L_47 : Loops := Loops.of []
theorem lf_47 : LoopsFn Try.prog C_47 O_47 79 L_47 := LoopsFn.nil' (by kernel_rfl)
def sa_47 : List S2 := [.one (.ptr 0 0 0), .one (.dat I)]
def ba_47 : List SB := [.one tl20Rd]
def out_47 (r : Int × Dl20Rd) : AV × Store := out1 (.one (.dat I)) [.one tl20Rd] (r.1, r.2, ())
theorem w_47 (x : FAr sa_47 ba_47) : evF C_47 O_47 L_47 79 sa_47 ba_47 x =
 spec_l20Rd_pickK x.1 x.2.1 (fun r => some (out_47 r)) := by kernel_rfl
theorem sem_47 : SemF 79 sa_47 ba_47 (fun x => spec_l20Rd_pick x.1 x.2.1) out_47 :=
 sem_of folP okP tabP (Oracle.of_ok Oracle.nil_ok) lf_47 fun x => (w_47 x).trans (spec_l20Rd_pick_eq x.1 x.2.1 _)
noncomputable def c_47 : Con := Con.shape sa_47 ba_47 (fun x => spec_l20Rd_pick x.1 x.2.1) out_47
theorem ok_47 : ConOk Try.prog 79 c_47 := Con.shape_ok sem_47

/-! 50 -/
def C_48 : Cfg := { T := tab, hint := fun _ => { keepR := [0, 2, 3, 4, 8, 16, 19, 30], res := [2], order := [(9, tns .read 0 5 ++ tns .forced 5 4)], keepL := [(0, [0, 3]), (2, [0, 3, 4])], keepX := [(0, [0]), (1, [0, 3]), (2, [0, 3]), (3, [0, 3, 4])] }, mode := fun _ => .borrow }
noncomputable def O_48 : Oracle := Oracle.of [(65, c_27)]
def sh_48_l0 : List (Nat × S2) := [(0, .one (.dat (.sl I))), (3, .one (.dat I))]
def bs_48_l0 : List SB := []
def xs_48_l0 : List (Nat × S2) := [(0, .one (.dat (.sl I)))]
def xb_48_l0 : List SB := []
def ys_48_l0 : List (Nat × S2) := [(2, .one (.dat .bool))]
def yb_48_l0 : List SB := []
noncomputable def lc_48_l0 : LCon := LCon.shape sh_48_l0 bs_48_l0 spec_CallsValid_l0 (fun a => (.exit 0, encSt xs_48_l0 xb_48_l0 a)) (fun b => encSt ys_48_l0 yb_48_l0 b)
def sh_48_l2 : List (Nat × S2) := [(0, .one (.dat (.sl I))), (3, .one (.dat I)), (4, .one (.dat I))]
def bs_48_l2 : List SB := []
def xs_48_l2 : List (Nat × S2) := [(0, .one (.dat (.sl I))), (3, .one (.dat I))]
def xb_48_l2 : List SB := []
def ys_48_l2 : List (Nat × S2) := [(2, .one (.dat .bool))]
def yb_48_l2 : List SB := []
noncomputable def lc_48_l2 : LCon := LCon.shape sh_48_l2 bs_48_l2 spec_CallsValid_l2 (fun a => (.exit 2, encSt xs_48_l2 xb_48_l2 a)) (fun b => encSt ys_48_l2 yb_48_l2 b)
noncomputable def L_48 : Loops := Loops.of [(0, lc_48_l0), (2, lc_48_l2)]
theorem r_48_l0 (x : FSt sh_48_l0 bs_48_l0) : rdF C_48 O_48 L_48 50 0 0 sh_48_l0 bs_48_l0 x =
 spec_CallsValid_l0K x.1 x.2.1 (fun y => some (Ex.normal, encSt sh_48_l0 bs_48_l0 y)) (fun a => some (Ex.exit 0, encSt xs_48_l0 xb_48_l0 a)) (fun b => some (Ex.ret, encSt ys_48_l0 yb_48_l0 b)) := by kernel_rfl
theorem lo_48_l0 : loF C_48 O_48 L_48 50 0 0 lc_48_l0 :=
 LCon.shape_ok (fun a => by simp) fun x => (r_48_l0 x).trans (spec_CallsValid_l0_eq x.1 x.2.1 _ _ _)
theorem r_48_l2 (x : FSt sh_48_l2 bs_48_l2) : rdF C_48 O_48 L_48 50 2 1 sh_48_l2 bs_48_l2 x =
 spec_CallsValid_l2K x.1 x.2.1 x.2.2.1 (fun y => some (Ex.normal, encSt sh_48_l2 bs_48_l2 y)) (fun a => some (Ex.exit 2, encSt xs_48_l2 xb_48_l2 a)) (fun b => some (Ex.ret, encSt ys_48_l2 yb_48_l2 b)) := by kernel_rfl
theorem lo_48_l2 : loF C_48 O_48 L_48 50 2 1 lc_48_l2 :=
 LCon.shape_ok (fun a => by simp) fun x => (r_48_l2 x).trans (spec_CallsValid_l2_eq x.1 x.2.1 x.2.2.1 _ _ _)
theorem lf_48 : LoopsFn Try.prog C_48 O_48 50 L_48 := LoopsFn.all (by kernel_rfl) (by decide) ⟨lo_48_l0, lo_48_l2, trivial⟩
def sa_48 : List S2 := [.one (.dat (.sl I))]
def ba_48 : List SB := []
def out_48 (r : Bool) : AV × Store := out1 (.one (.dat .bool)) [] (r, ())
theorem w_48 (x : FAr sa_48 ba_48) : evF C_48 O_48 L_48 50 sa_48 ba_48 x =
 spec_CallsValidK x.1 (fun r => some (out_48 r)) := by kernel_rfl
theorem sem_48 : SemF 50 sa_48 ba_48 (fun x => spec_CallsValid x.1) out_48 :=
 sem_of folP okP tabP (Oracle.of_ok (Oracle.cons_ok ok_27 Oracle.nil_ok)) lf_48 fun x => (w_48 x).trans (spec_CallsValid_eq x.1 _)
noncomputable def c_48 : Con := Con.shape sa_48 ba_48 (fun x => spec_CallsValid x.1) out_48
theorem ok_48 : ConOk Try.prog 50 c_48 := Con.shape_ok sem_48

/-! 98 -/
def C_49 : Cfg := { T := tab, hint := fun _ => { mu := [16, 19, 36], keepR := [0, 1, 4, 5, 6, 7, 15, 23, 31], res := [4, 5], keepL := [(0, [0, 1, 6, 7])], keepX := [(0, [1, 6]), (1, [0, 1, 6, 7])] }, mode := fun _ => .borrow }
noncomputable def O_49 : Oracle := Oracle.of [(50, c_48), (65, c_27)]
def sh_49_l0 : List (Nat × S2) := [(0, .one (.dat (.sl I))), (1, .one (.dat I)), (6, .one (.all 0)), (7, .one (.dat I))]
def bs_49_l0 : List SB := [.data I]
def xs_49_l0 : List (Nat × S2) := [(1, .one (.dat I)), (6, .one (.all 0))]
def xb_49_l0 : List SB := [.data I]
def ys_49_l0 : List (Nat × S2) := [(4, .one (.all 0)), (5, .one (.dat .bool))]
def yb_49_l0 : List SB := [.data I]
noncomputable def lc_49_l0 : LCon := LCon.shape sh_49_l0 bs_49_l0 spec_PushCall_l0 (fun a => (.exit 0, encSt xs_49_l0 xb_49_l0 a)) (fun b => encSt ys_49_l0 yb_49_l0 b)
noncomputable def L_49 : Loops := Loops.of [(0, lc_49_l0)]
theorem r_49_l0 (x : FSt sh_49_l0 bs_49_l0) : rdF C_49 O_49 L_49 98 0 0 sh_49_l0 bs_49_l0 x =
 spec_PushCall_l0K x.1 x.2.1 x.2.2.1 x.2.2.2.1 (fun y => some (Ex.normal, encSt sh_49_l0 bs_49_l0 y)) (fun a => some (Ex.exit 0, encSt xs_49_l0 xb_49_l0 a)) (fun b => some (Ex.ret, encSt ys_49_l0 yb_49_l0 b)) := by kernel_rfl
theorem lo_49_l0 : loF C_49 O_49 L_49 98 0 0 lc_49_l0 :=
 LCon.shape_ok (fun a => by simp) fun x => (r_49_l0 x).trans (spec_PushCall_l0_eq x.1 x.2.1 x.2.2.1 x.2.2.2.1 _ _ _)
theorem lf_49 : LoopsFn Try.prog C_49 O_49 98 L_49 := LoopsFn.all (by kernel_rfl) (by decide) ⟨lo_49_l0, trivial⟩
def sa_49 : List S2 := [.one (.dat (.sl I)), .one (.dat I)]
def ba_49 : List SB := []
def out_49 (r : Bool × (List Int)) : AV × Store := outT [.one (.all 0), .one (.dat .bool)] [.data I] (r.1, r.2, ())
theorem w_49 (x : FAr sa_49 ba_49) : evF C_49 O_49 L_49 98 sa_49 ba_49 x =
 spec_PushCallK x.1 x.2.1 (fun r => some (out_49 r)) := by kernel_rfl
theorem sem_49 : SemF 98 sa_49 ba_49 (fun x => spec_PushCall x.1 x.2.1) out_49 :=
 sem_of folP okP tabP (Oracle.of_ok (Oracle.cons_ok ok_48 (Oracle.cons_ok ok_27 Oracle.nil_ok))) lf_49 fun x => (w_49 x).trans (spec_PushCall_eq x.1 x.2.1 _)
noncomputable def c_49 : Con := Con.shape sa_49 ba_49 (fun x => spec_PushCall x.1 x.2.1) out_49
theorem ok_49 : ConOk Try.prog 98 c_49 := Con.shape_ok sem_49

/-! 84 -/
def C_50 : Cfg := { T := tab, hint := fun _ => { keepR := [0, 1, 4], res := [4], base := 1 }, mode := modeOf [(79, .sub)] }
noncomputable def O_50 : Oracle := Oracle.of [(79, c_47)]
noncomputable def L_50 : Loops := Loops.of []
theorem lf_50 : LoopsFn Try.prog C_50 O_50 84 L_50 := LoopsFn.nil' (by kernel_rfl)
def sa_50 : List S2 := [.one (.ptr 0 0 0), .one (.dat I)]
def ba_50 : List SB := [.one tl20Rd]
def out_50 (r : Bool × Dl20Rd) : AV × Store := out1 (.one (.dat .bool)) [.one tl20Rd] (r.1, r.2, ())
theorem w_50 (x : FAr sa_50 ba_50) : evF C_50 O_50 L_50 84 sa_50 ba_50 x =
 spec_l20Rd_oddK x.1 x.2.1 (fun r => some (out_50 r)) := by kernel_rfl
theorem sem_50 : SemF 84 sa_50 ba_50 (fun x => spec_l20Rd_odd x.1 x.2.1) out_50 :=
 sem_of folP okP tabP (Oracle.of_ok (Oracle.cons_ok ok_47 Oracle.nil_ok)) lf_50 fun x => (w_50 x).trans (spec_l20Rd_odd_eq x.1 x.2.1 _)
noncomputable def c_50 : Con := Con.shape sa_50 ba_50 (fun x => spec_l20Rd_odd x.1 x.2.1) out_50
theorem ok_50 : ConOk Try.prog 84 c_50 := Con.shape_ok sem_50

/-! 82 -/
def C_51 : Cfg := { T := tab, hint := fun _ => { mu := [7, 18, 31], keepR := [0, 1, 4, 5, 6, 11, 23], res := [4], base := 1, keepL := [(0, [0, 1, 5, 6])], keepX := [(0, [0, 1, 5]), (1, [0, 1, 5, 6])] }, mode := modeOf [(79, .sub), (84, .sub)] }
noncomputable def O_51 : Oracle := Oracle.of [(79, c_47), (84, c_50), (98, c_49)]
def sh_51_l0 : List (Nat × S2) := [(0, .one (.ptr 0 0 0)), (1, .one (.dat I)), (5, .one (.all 1)), (6, .one (.dat I))]
def bs_51_l0 : List SB := [.one tl20Rd, .data I]
def xs_51_l0 : List (Nat × S2) := [(0, .one (.ptr 0 0 0)), (1, .one (.dat I)), (5, .one (.all 1))]
def xb_51_l0 : List SB := [.one tl20Rd, .data I]
noncomputable def lc_51_l0 : LCon := LCon.shape1 sh_51_l0 bs_51_l0 spec_l20Calls_l0 (fun a => (.exit 0, encSt xs_51_l0 xb_51_l0 a))
noncomputable def L_51 : Loops := Loops.of [(0, lc_51_l0)]
theorem r_51_l0 (x : FSt sh_51_l0 bs_51_l0) : rdF C_51 O_51 L_51 82 0 0 sh_51_l0 bs_51_l0 x =
 spec_l20Calls_l0K x.1 x.2.1 x.2.2.1 x.2.2.2.1 (fun y => some (Ex.normal, encSt sh_51_l0 bs_51_l0 y)) (fun a => some (Ex.exit 0, encSt xs_51_l0 xb_51_l0 a)) := by kernel_rfl
theorem lo_51_l0 : loF C_51 O_51 L_51 82 0 0 lc_51_l0 :=
 LCon.shape1_ok (fun a => by simp) fun x => (r_51_l0 x).trans (spec_l20Calls_l0_eq x.1 x.2.1 x.2.2.1 x.2.2.2.1 _ _)
theorem lf_51 : LoopsFn Try.prog C_51 O_51 82 L_51 := LoopsFn.all (by kernel_rfl) (by decide) ⟨lo_51_l0, trivial⟩
def sa_51 : List S2 := [.one (.ptr 0 0 0), .one (.dat I)]
def ba_51 : List SB := [.one tl20Rd]
def out_51 (r : Dl20Rd × (List Int)) : AV × Store := out1 (.one (.all 1)) [.one tl20Rd, .data I] (r.1, r.2, ())
theorem w_51 (x : FAr sa_51 ba_51) : evF C_51 O_51 L_51 82 sa_51 ba_51 x =
 spec_l20CallsK x.1 x.2.1 (fun r => some (out_51 r)) := by kernel_rfl
theorem sem_51 : SemF 82 sa_51 ba_51 (fun x => spec_l20Calls x.1 x.2.1) out_51 :=
 sem_of folP okP tabP (Oracle.of_ok (Oracle.cons_ok ok_47 (Oracle.cons_ok ok_50 (Oracle.cons_ok ok_49 Oracle.nil_ok)))) lf_51 fun x => (w_51 x).trans (spec_l20Calls_eq x.1 x.2.1 _)
noncomputable def c_51 : Con := Con.shape sa_51 ba_51 (fun x => spec_l20Calls x.1 x.2.1) out_51
theorem ok_51 : ConOk Try.prog 82 c_51 := Con.shape_ok sem_51

/-! 48 -/
def C_52 : Cfg := { T := tab, hint := fun _ => { mu := [4], keepR := [0, 2], res := [2] }, mode := modeOf [(82, .sub)] }
noncomputable def O_52 : Oracle := Oracle.of [(77, c_46), (82, c_51)]
noncomputable def L_52 : Loops := Loops.of []
theorem lf_52 : LoopsFn Try.prog C_52 O_52 48 L_52 := LoopsFn.nil' (by kernel_rfl)
def sa_52 : List S2 := [.one (.dat (.sl (.int .u8)))]
def ba_52 : List SB := []
def out_52 (r : (List Int)) : AV × Store := out1 (.one (.all 0)) [.data I] (r, ())
theorem w_52 (x : FAr sa_52 ba_52) : evF C_52 O_52 L_52 48 sa_52 ba_52 x =
 spec_DrawCallsValidK x.1 (fun r => some (out_52 r)) := by kernel_rfl
theorem sem_52 : SemF 48 sa_52 ba_52 (fun x => spec_DrawCallsValid x.1) out_52 :=
 sem_of folP okP tabP (Oracle.of_ok (Oracle.cons_ok ok_46 (Oracle.cons_ok ok_51 Oracle.nil_ok))) lf_52 fun x => (w_52 x).trans (spec_DrawCallsValid_eq x.1 _)
noncomputable def c_52 : Con := Con.shape sa_52 ba_52 (fun x => spec_DrawCallsValid x.1) out_52
theorem ok_52 : ConOk Try.prog 48 c_52 := Con.shape_ok sem_52

/-! 49 -/
def C_53 : Cfg := { T := tab, hint := fun _ => { keepR := [0, 2], res := [2] }, mode := fun _ => .borrow }
noncomputable def O_53 : Oracle := Oracle.of [(60, c_11)]
noncomputable def L_53 : Loops := Loops.of []
theorem lf_53 : LoopsFn Try.prog C_53 O_53 49 L_53 := LoopsFn.nil' (by kernel_rfl)
def sa_53 : List S2 := [.one (.dat (.sl I))]
def ba_53 : List SB := []
def out_53 (r : Bool) : AV × Store := out1 (.one (.dat .bool)) [] (r, ())
theorem w_53 (x : FAr sa_53 ba_53) : evF C_53 O_53 L_53 49 sa_53 ba_53 x =
 impl_CallsValidK x.1 (fun r => some (out_53 r)) := by kernel_rfl
theorem sem_53 : SemF 49 sa_53 ba_53 (fun x => impl_CallsValid x.1) out_53 :=
 sem_of folP okP tabP (Oracle.of_ok (Oracle.cons_ok ok_11 Oracle.nil_ok)) lf_53 fun x => (w_53 x).trans (impl_CallsValid_eq x.1 _)
noncomputable def c_53 : Con := Con.shape sa_53 ba_53 (fun x => impl_CallsValid x.1) out_53
theorem ok_53 : ConOk Try.prog 49 c_53 := Con.shape_ok sem_53

/-! 41 -/
def sa_54 : List S2 := []
def ba_54 : List SB := []
def out_54 (r : Bool) : AV × Store := out1 (.one (.dat .bool)) [] (r, ())
theorem sem_54 : SemF 41 sa_54 ba_54 (fun x => laws_alive) out_54 := fun x y h => by
  have e : y = true := (Option.some.inj h).symm
  subst e
  exact sem_of_below ⟨_, _, Try.func41, rfl, by kernel_rfl⟩ Try.aliveCalls
noncomputable def c_54 : Con := Con.shape sa_54 ba_54 (fun x => laws_alive) out_54
theorem ok_54 : ConOk Try.prog 41 c_54 := Con.shape_ok sem_54

end Go.Ev
