/-
  The walks: the program computes what the functions of plain data compute, wherever these come to a result; printed by a program of the prover.
-/
import Derived.Test.YtbiohjikepebkaaDefs
import Derived.Test.YtbiohjikepebkaaProg
import Derived.Test.YtbiohjikepebkaaAlive
namespace Go.Ev
open Go.Proofs
set_option linter.unusedVariables false
set_option linter.unusedSimpArgs false
set_option maxRecDepth 100000
def tys : List (Nat × Ty) := [(3, I), (4, .bool), (5, (.int .u8)), (22, (.sl (.int .u8))), (23, (.sl (.sl I))), (25, tQueues), (33, tQueues), (40, (.sl I)), (75, (.sl .bool)), (78, tl20Rd)]
def tups : List (Nat × List Ty) := [(28, [tQueues, .bool]), (47, [tQueues, I, I]), (54, [tQueues, I])]
def tab : Tab := tabOf tys tups
def tns (t : Turn) (a n : Nat) : List (Nat × Turn) := (List.range' a n).map fun i => (i, t)
abbrev SemF (f : Nat) (sa : List S2) (ba : List SB) {ρ : Type} (F : FAr sa ba → Option ρ) (out : ρ → AV × Store) : Prop := ∀ x y, F x = some y → SemCall Try.prog f (encAr sa ba x).1 (encAr sa ba x).2 (out y).1 (out y).2
noncomputable abbrev evF (C : Cfg) (O : Oracle) (L : Loops) (f : Nat) (sa : List S2) (ba : List SB) (x : FAr sa ba) := evBodyK Try.prog C O L f (encAr sa ba x).1 (encAr sa ba x).2 (fun v s => some (v, s))
noncomputable abbrev rdF (C : Cfg) (O : Oracle) (L : Loops) (f b i : Nat) (sh : List (Nat × S2)) (bs : List SB) (x : FSt sh bs) := roundK C.T (C.hint f) C.mode O L b (lp Try.prog f i) (encSt sh bs x) (fun e s => some (e, s))
abbrev loF (C : Cfg) (O : Oracle) (L : Loops) (f b i : Nat) (lc : LCon) := LConOk C.T (C.hint f) C.mode O L b (lp Try.prog f i) lc
theorem okP : progOk Try.prog = true := by kernel_rfl
theorem tabP : TabOk Try.prog tab := tabOf_ok (by kernel_rfl)
theorem folP : Try.prog.follows .mixedOrders = true := by kernel_rfl
/-! 17 -/
def C_0 : Cfg := { T := tab, hint := fun _ => { mu := [0, 1], keepR := [0], res := [0] }, mode := fun _ => .borrow }
noncomputable def O_0 : Oracle := Oracle.of []
noncomputable def L_0 : Loops := Loops.of []
theorem lf_0 : LoopsFn Try.prog C_0 O_0 17 L_0 := LoopsFn.nil' (by kernel_rfl)
def sa_0 : List S2 := []
def ba_0 : List SB := []
def out_0 (r : (List (List Int))) : AV × Store := out1 (.agg [.all 0]) [.deep I] (r, ())
theorem w_0 (x : FAr sa_0 ba_0) : evF C_0 O_0 L_0 17 sa_0 ba_0 x =
 impl_NewQueuesK  (fun r => some (out_0 r)) := by kernel_rfl
theorem sem_0 : SemF 17 sa_0 ba_0 (fun x => impl_NewQueues) out_0 :=
 sem_of folP okP tabP (Oracle.of_ok Oracle.nil_ok) lf_0 fun x => (w_0 x).trans (impl_NewQueues_eq  _)
noncomputable def c_0 : Con := Con.shape sa_0 ba_0 (fun x => impl_NewQueues) out_0
theorem ok_0 : ConOk Try.prog 17 c_0 := Con.shape_ok sem_0

/-! 19 -/
def C_1 : Cfg := { T := tab, hint := fun _ => { mu := [0, 1], keepR := [0], res := [0] }, mode := fun _ => .borrow }
noncomputable def O_1 : Oracle := Oracle.of []
noncomputable def L_1 : Loops := Loops.of []
theorem lf_1 : LoopsFn Try.prog C_1 O_1 19 L_1 := LoopsFn.nil' (by kernel_rfl)
def sa_1 : List S2 := []
def ba_1 : List SB := []
def out_1 (r : (List (List Int))) : AV × Store := out1 (.agg [.all 0]) [.deep I] (r, ())
theorem w_1 (x : FAr sa_1 ba_1) : evF C_1 O_1 L_1 19 sa_1 ba_1 x =
 spec_NewQueuesK  (fun r => some (out_1 r)) := by kernel_rfl
theorem sem_1 : SemF 19 sa_1 ba_1 (fun x => spec_NewQueues) out_1 :=
 sem_of folP okP tabP (Oracle.of_ok Oracle.nil_ok) lf_1 fun x => (w_1 x).trans (spec_NewQueues_eq  _)
noncomputable def c_1 : Con := Con.shape sa_1 ba_1 (fun x => spec_NewQueues) out_1
theorem ok_1 : ConOk Try.prog 19 c_1 := Con.shape_ok sem_1

/-! 44 -/
def C_2 : Cfg := { T := tab, hint := fun _ => { keepR := [0, 1, 4, 5, 10, 14, 25], res := [4], order := [(6, tns .read 0 5 ++ tns .forced 5 4)], keepL := [(0, [0, 1, 5])], keepX := [(0, []), (1, [0, 1, 5])] }, mode := fun _ => .borrow }
noncomputable def O_2 : Oracle := Oracle.of []
def sh_2_l0 : List (Nat × S2) := [(0, .one (.dat (.sl I))), (1, .one (.dat (.sl I))), (5, .one (.dat I))]
def bs_2_l0 : List SB := []
def xs_2_l0 : List (Nat × S2) := []
def xb_2_l0 : List SB := []
def ys_2_l0 : List (Nat × S2) := [(4, .one (.dat .bool))]
def yb_2_l0 : List SB := []
noncomputable def lc_2_l0 : LCon := LCon.shape sh_2_l0 bs_2_l0 laws_sameInts_l0 (fun a => (.exit 0, encSt xs_2_l0 xb_2_l0 a)) (fun b => encSt ys_2_l0 yb_2_l0 b)
noncomputable def L_2 : Loops := Loops.of [(0, lc_2_l0)]
theorem r_2_l0 (x : FSt sh_2_l0 bs_2_l0) : rdF C_2 O_2 L_2 44 0 0 sh_2_l0 bs_2_l0 x =
 laws_sameInts_l0K x.1 x.2.1 x.2.2.1 (fun y => some (Ex.normal, encSt sh_2_l0 bs_2_l0 y)) (fun a => some (Ex.exit 0, encSt xs_2_l0 xb_2_l0 a)) (fun b => some (Ex.ret, encSt ys_2_l0 yb_2_l0 b)) := by kernel_rfl
theorem lo_2_l0 : loF C_2 O_2 L_2 44 0 0 lc_2_l0 :=
 LCon.shape_ok (fun a => by simp) fun x => (r_2_l0 x).trans (laws_sameInts_l0_eq x.1 x.2.1 x.2.2.1 _ _ _)
theorem lf_2 : LoopsFn Try.prog C_2 O_2 44 L_2 := LoopsFn.all (by kernel_rfl) (by decide) ⟨lo_2_l0, trivial⟩
def sa_2 : List S2 := [.one (.dat (.sl I)), .one (.dat (.sl I))]
def ba_2 : List SB := []
def out_2 (r : Bool) : AV × Store := out1 (.one (.dat .bool)) [] (r, ())
theorem w_2 (x : FAr sa_2 ba_2) : evF C_2 O_2 L_2 44 sa_2 ba_2 x =
 laws_sameIntsK x.1 x.2.1 (fun r => some (out_2 r)) := by kernel_rfl
theorem sem_2 : SemF 44 sa_2 ba_2 (fun x => laws_sameInts x.1 x.2.1) out_2 :=
 sem_of folP okP tabP (Oracle.of_ok Oracle.nil_ok) lf_2 fun x => (w_2 x).trans (laws_sameInts_eq x.1 x.2.1 _)
noncomputable def c_2 : Con := Con.shape sa_2 ba_2 (fun x => laws_sameInts x.1 x.2.1) out_2
theorem ok_2 : ConOk Try.prog 44 c_2 := Con.shape_ok sem_2

/-! 54 -/
def C_3 : Cfg := { T := tab, hint := fun _ => { keepR := [0, 1, 4, 5, 10, 14, 26], res := [4], order := [(6, tns .read 0 5 ++ tns .forced 5 5)], keepL := [(0, [0, 1, 5])], keepX := [(0, []), (1, [0, 1, 5])] }, mode := fun _ => .borrow }
noncomputable def O_3 : Oracle := Oracle.of [(44, c_2)]
def sh_3_l0 : List (Nat × S2) := [(0, .one (.dat (.sl (.sl I)))), (1, .one (.dat (.sl (.sl I)))), (5, .one (.dat I))]
def bs_3_l0 : List SB := []
def xs_3_l0 : List (Nat × S2) := []
def xb_3_l0 : List SB := []
def ys_3_l0 : List (Nat × S2) := [(4, .one (.dat .bool))]
def yb_3_l0 : List SB := []
noncomputable def lc_3_l0 : LCon := LCon.shape sh_3_l0 bs_3_l0 laws_sameRows_l0 (fun a => (.exit 0, encSt xs_3_l0 xb_3_l0 a)) (fun b => encSt ys_3_l0 yb_3_l0 b)
noncomputable def L_3 : Loops := Loops.of [(0, lc_3_l0)]
theorem r_3_l0 (x : FSt sh_3_l0 bs_3_l0) : rdF C_3 O_3 L_3 54 0 0 sh_3_l0 bs_3_l0 x =
 laws_sameRows_l0K x.1 x.2.1 x.2.2.1 (fun y => some (Ex.normal, encSt sh_3_l0 bs_3_l0 y)) (fun a => some (Ex.exit 0, encSt xs_3_l0 xb_3_l0 a)) (fun b => some (Ex.ret, encSt ys_3_l0 yb_3_l0 b)) := by kernel_rfl
theorem lo_3_l0 : loF C_3 O_3 L_3 54 0 0 lc_3_l0 :=
 LCon.shape_ok (fun a => by simp) fun x => (r_3_l0 x).trans (laws_sameRows_l0_eq x.1 x.2.1 x.2.2.1 _ _ _)
theorem lf_3 : LoopsFn Try.prog C_3 O_3 54 L_3 := LoopsFn.all (by kernel_rfl) (by decide) ⟨lo_3_l0, trivial⟩
def sa_3 : List S2 := [.one (.dat (.sl (.sl I))), .one (.dat (.sl (.sl I)))]
def ba_3 : List SB := []
def out_3 (r : Bool) : AV × Store := out1 (.one (.dat .bool)) [] (r, ())
theorem w_3 (x : FAr sa_3 ba_3) : evF C_3 O_3 L_3 54 sa_3 ba_3 x =
 laws_sameRowsK x.1 x.2.1 (fun r => some (out_3 r)) := by kernel_rfl
theorem sem_3 : SemF 54 sa_3 ba_3 (fun x => laws_sameRows x.1 x.2.1) out_3 :=
 sem_of folP okP tabP (Oracle.of_ok (Oracle.cons_ok ok_2 Oracle.nil_ok)) lf_3 fun x => (w_3 x).trans (laws_sameRows_eq x.1 x.2.1 _)
noncomputable def c_3 : Con := Con.shape sa_3 ba_3 (fun x => laws_sameRows x.1 x.2.1) out_3
theorem ok_3 : ConOk Try.prog 54 c_3 := Con.shape_ok sem_3

/-! 18 -/
def C_4 : Cfg := { T := tab, hint := fun _ => { keepR := [2, 3, 4], res := [4] }, mode := fun _ => .borrow }
noncomputable def O_4 : Oracle := Oracle.of [(54, c_3)]
noncomputable def L_4 : Loops := Loops.of []
theorem lf_4 : LoopsFn Try.prog C_4 O_4 18 L_4 := LoopsFn.nil' (by kernel_rfl)
def sa_4 : List S2 := [.one (.dat tQueues), .one (.dat tQueues)]
def ba_4 : List SB := []
def out_4 (r : Bool) : AV × Store := out1 (.one (.dat .bool)) [] (r, ())
theorem w_4 (x : FAr sa_4 ba_4) : evF C_4 O_4 L_4 18 sa_4 ba_4 x =
 laws_sameQueuesK x.1 x.2.1 (fun r => some (out_4 r)) := by kernel_rfl
theorem sem_4 : SemF 18 sa_4 ba_4 (fun x => laws_sameQueues x.1 x.2.1) out_4 :=
 sem_of folP okP tabP (Oracle.of_ok (Oracle.cons_ok ok_3 Oracle.nil_ok)) lf_4 fun x => (w_4 x).trans (laws_sameQueues_eq x.1 x.2.1 _)
noncomputable def c_4 : Con := Con.shape sa_4 ba_4 (fun x => laws_sameQueues x.1 x.2.1) out_4
theorem ok_4 : ConOk Try.prog 18 c_4 := Con.shape_ok sem_4

/-! 91 -/
def C_5 : Cfg := { T := tab, hint := fun _ => { mu := [22], keepR := [0, 1, 4, 6, 16], res := [4], fillR := true, refR := true }, mode := fun _ => .borrow }
noncomputable def O_5 : Oracle := Oracle.of []
noncomputable def L_5 : Loops := Loops.of []
theorem lf_5 : LoopsFn Try.prog C_5 O_5 91 L_5 := LoopsFn.nil' (by kernel_rfl)
def sa_5 : List S2 := [.one (.e0 I), .one (.dat I)]
def ba_5 : List SB := []
def out_5 (r : Nat × (List Int)) : AV × Store := out1 (.one (.refn 0)) [.data I] (r.1, r.2, ())
theorem w_5 (x : FAr sa_5 ba_5) : evF C_5 O_5 L_5 91 sa_5 ba_5 x =
 slices_Grow_intK x.1 (fun r => some (out_5 r)) := by kernel_rfl
theorem sem_5 : SemF 91 sa_5 ba_5 (fun x => slices_Grow_int x.1) out_5 :=
 sem_of folP okP tabP (Oracle.of_ok Oracle.nil_ok) lf_5 fun x => (w_5 x).trans (slices_Grow_int_eq x.1 _)
noncomputable def c_5 : Con := Con.shape sa_5 ba_5 (fun x => slices_Grow_int x.1) out_5
theorem ok_5 : ConOk Try.prog 91 c_5 := Con.shape_ok sem_5

/-! 61 -/
def C_6 : Cfg := { T := tab, hint := fun _ => { keepR := [0, 2, 3, 5, 6, 8, 9, 10, 11, 12, 20, 25, 26, 27, 28], res := [2], keepL := [(0, [0, 3, 9, 10, 11]), (2, [6, 25, 26, 27])], keepX := [(0, [0, 3]), (1, [0, 3, 9, 10, 11]), (2, [6]), (3, [6, 25, 26, 27])] }, mode := modeOf [(91, .sub)] }
noncomputable def O_6 : Oracle := Oracle.of [(91, c_5)]
def sh_6_l0 : List (Nat × S2) := [(0, .one (.dat (.sl (.sl I)))), (3, .one (.dat I)), (9, .one (.dat (.sl (.sl I)))), (10, .one (.dat I)), (11, .one (.dat I))]
def bs_6_l0 : List SB := []
def xs_6_l0 : List (Nat × S2) := [(0, .one (.dat (.sl (.sl I)))), (3, .one (.dat I))]
def xb_6_l0 : List SB := []
noncomputable def lc_6_l0 : LCon := LCon.shape1 sh_6_l0 bs_6_l0 slices_Concat_int_l0 (fun a => (.exit 0, encSt xs_6_l0 xb_6_l0 a))
def sh_6_l2 : List (Nat × S2) := [(6, .one (.refn 0)), (25, .one (.dat (.sl (.sl I)))), (26, .one (.dat I)), (27, .one (.dat I))]
def bs_6_l2 : List SB := [.data I]
def xs_6_l2 : List (Nat × S2) := [(6, .one (.refn 0))]
def xb_6_l2 : List SB := [.data I]
noncomputable def lc_6_l2 : LCon := LCon.shape1 sh_6_l2 bs_6_l2 slices_Concat_int_l2 (fun a => (.exit 2, encSt xs_6_l2 xb_6_l2 a))
noncomputable def L_6 : Loops := Loops.of [(0, lc_6_l0), (2, lc_6_l2)]
theorem r_6_l0 (x : FSt sh_6_l0 bs_6_l0) : rdF C_6 O_6 L_6 61 0 0 sh_6_l0 bs_6_l0 x =
 slices_Concat_int_l0K x.1 x.2.1 x.2.2.1 x.2.2.2.1 x.2.2.2.2.1 (fun y => some (Ex.normal, encSt sh_6_l0 bs_6_l0 y)) (fun a => some (Ex.exit 0, encSt xs_6_l0 xb_6_l0 a)) := by kernel_rfl
theorem lo_6_l0 : loF C_6 O_6 L_6 61 0 0 lc_6_l0 :=
 LCon.shape1_ok (fun a => by simp) fun x => (r_6_l0 x).trans (slices_Concat_int_l0_eq x.1 x.2.1 x.2.2.1 x.2.2.2.1 x.2.2.2.2.1 _ _)
theorem r_6_l2 (x : FSt sh_6_l2 bs_6_l2) : rdF C_6 O_6 L_6 61 2 1 sh_6_l2 bs_6_l2 x =
 slices_Concat_int_l2K x.1 x.2.1 x.2.2.1 x.2.2.2.1 x.2.2.2.2.1 (fun y => some (Ex.normal, encSt sh_6_l2 bs_6_l2 y)) (fun a => some (Ex.exit 2, encSt xs_6_l2 xb_6_l2 a)) := by kernel_rfl
theorem lo_6_l2 : loF C_6 O_6 L_6 61 2 1 lc_6_l2 :=
 LCon.shape1_ok (fun a => by simp) fun x => (r_6_l2 x).trans (slices_Concat_int_l2_eq x.1 x.2.1 x.2.2.1 x.2.2.2.1 x.2.2.2.2.1 _ _)
theorem lf_6 : LoopsFn Try.prog C_6 O_6 61 L_6 := LoopsFn.all (by kernel_rfl) (by decide) ⟨lo_6_l0, lo_6_l2, trivial⟩
def sa_6 : List S2 := [.one (.dat (.sl (.sl I)))]
def ba_6 : List SB := []
def out_6 (r : Nat × (List Int)) : AV × Store := out1 (.one (.refn 0)) [.data I] (r.1, r.2, ())
theorem w_6 (x : FAr sa_6 ba_6) : evF C_6 O_6 L_6 61 sa_6 ba_6 x =
 slices_Concat_intK x.1 (fun r => some (out_6 r)) := by kernel_rfl
theorem sem_6 : SemF 61 sa_6 ba_6 (fun x => slices_Concat_int x.1) out_6 :=
 sem_of folP okP tabP (Oracle.of_ok (Oracle.cons_ok ok_5 Oracle.nil_ok)) lf_6 fun x => (w_6 x).trans (slices_Concat_int_eq x.1 _)
noncomputable def c_6 : Con := Con.shape sa_6 ba_6 (fun x => slices_Concat_int x.1) out_6
theorem ok_6 : ConOk Try.prog 61 c_6 := Con.shape_ok sem_6

/-! 85 -/
def C_7 : Cfg := { T := tab, hint := fun _ => { keepR := [0, 1, 2, 6], res := [6] }, mode := fun _ => .borrow }
noncomputable def O_7 : Oracle := Oracle.of []
noncomputable def L_7 : Loops := Loops.of []
theorem lf_7 : LoopsFn Try.prog C_7 O_7 85 L_7 := LoopsFn.nil' (by kernel_rfl)
def sa_7 : List S2 := [.one (.dat I), .one (.dat I), .one (.dat I)]
def ba_7 : List SB := []
def out_7 (r : Bool) : AV × Store := out1 (.one (.dat .bool)) [] (r, ())
theorem w_7 (x : FAr sa_7 ba_7) : evF C_7 O_7 L_7 85 sa_7 ba_7 x =
 impl_inK x.1 x.2.1 x.2.2.1 (fun r => some (out_7 r)) := by kernel_rfl
theorem sem_7 : SemF 85 sa_7 ba_7 (fun x => impl_in x.1 x.2.1 x.2.2.1) out_7 :=
 sem_of folP okP tabP (Oracle.of_ok Oracle.nil_ok) lf_7 fun x => (w_7 x).trans (impl_in_eq x.1 x.2.1 x.2.2.1 _)
noncomputable def c_7 : Con := Con.shape sa_7 ba_7 (fun x => impl_in x.1 x.2.1 x.2.2.1) out_7
theorem ok_7 : ConOk Try.prog 85 c_7 := Con.shape_ok sem_7

/-! 55 -/
def C_8 : Cfg := { T := tab, hint := fun _ => { keepR := [0, 2], res := [2] }, mode := fun _ => .borrow }
noncomputable def O_8 : Oracle := Oracle.of [(85, c_7)]
noncomputable def L_8 : Loops := Loops.of []
theorem lf_8 : LoopsFn Try.prog C_8 O_8 55 L_8 := LoopsFn.nil' (by kernel_rfl)
def sa_8 : List S2 := [.one (.dat I)]
def ba_8 : List SB := []
def out_8 (r : Bool) : AV × Store := out1 (.one (.dat .bool)) [] (r, ())
theorem w_8 (x : FAr sa_8 ba_8) : evF C_8 O_8 L_8 55 sa_8 ba_8 x =
 impl_isThreadK x.1 (fun r => some (out_8 r)) := by kernel_rfl
theorem sem_8 : SemF 55 sa_8 ba_8 (fun x => impl_isThread x.1) out_8 :=
 sem_of folP okP tabP (Oracle.of_ok (Oracle.cons_ok ok_7 Oracle.nil_ok)) lf_8 fun x => (w_8 x).trans (impl_isThread_eq x.1 _)
noncomputable def c_8 : Con := Con.shape sa_8 ba_8 (fun x => impl_isThread x.1) out_8
theorem ok_8 : ConOk Try.prog 55 c_8 := Con.shape_ok sem_8

/-! 99 -/
def C_9 : Cfg := { T := tab, hint := fun _ => { keepR := [0, 1, 4, 5, 7, 8, 9, 16], res := [4], keepL := [(0, [0, 1, 7, 8])], keepX := [(0, []), (1, [0, 1, 7, 8])] }, mode := fun _ => .borrow }
noncomputable def O_9 : Oracle := Oracle.of []
def sh_9_l0 : List (Nat × S2) := [(0, .one (.dat (.sl I))), (1, .one (.dat I)), (7, .one (.dat I)), (8, .one (.dat I))]
def bs_9_l0 : List SB := []
def xs_9_l0 : List (Nat × S2) := []
def xb_9_l0 : List SB := []
def ys_9_l0 : List (Nat × S2) := [(4, .one (.dat I))]
def yb_9_l0 : List SB := []
noncomputable def lc_9_l0 : LCon := LCon.shape sh_9_l0 bs_9_l0 slices_Index_int_l0 (fun a => (.exit 0, encSt xs_9_l0 xb_9_l0 a)) (fun b => encSt ys_9_l0 yb_9_l0 b)
noncomputable def L_9 : Loops := Loops.of [(0, lc_9_l0)]
theorem r_9_l0 (x : FSt sh_9_l0 bs_9_l0) : rdF C_9 O_9 L_9 99 0 0 sh_9_l0 bs_9_l0 x =
 slices_Index_int_l0K x.1 x.2.1 x.2.2.1 x.2.2.2.1 (fun y => some (Ex.normal, encSt sh_9_l0 bs_9_l0 y)) (fun a => some (Ex.exit 0, encSt xs_9_l0 xb_9_l0 a)) (fun b => some (Ex.ret, encSt ys_9_l0 yb_9_l0 b)) := by kernel_rfl
theorem lo_9_l0 : loF C_9 O_9 L_9 99 0 0 lc_9_l0 :=
 LCon.shape_ok (fun a => by simp) fun x => (r_9_l0 x).trans (slices_Index_int_l0_eq x.1 x.2.1 x.2.2.1 x.2.2.2.1 _ _ _)
theorem lf_9 : LoopsFn Try.prog C_9 O_9 99 L_9 := LoopsFn.all (by kernel_rfl) (by decide) ⟨lo_9_l0, trivial⟩
def sa_9 : List S2 := [.one (.dat (.sl I)), .one (.dat I)]
def ba_9 : List SB := []
def out_9 (r : Int) : AV × Store := out1 (.one (.dat I)) [] (r, ())
theorem w_9 (x : FAr sa_9 ba_9) : evF C_9 O_9 L_9 99 sa_9 ba_9 x =
 slices_Index_intK x.1 x.2.1 (fun r => some (out_9 r)) := by kernel_rfl
theorem sem_9 : SemF 99 sa_9 ba_9 (fun x => slices_Index_int x.1 x.2.1) out_9 :=
 sem_of folP okP tabP (Oracle.of_ok Oracle.nil_ok) lf_9 fun x => (w_9 x).trans (slices_Index_int_eq x.1 x.2.1 _)
noncomputable def c_9 : Con := Con.shape sa_9 ba_9 (fun x => slices_Index_int x.1 x.2.1) out_9
theorem ok_9 : ConOk Try.prog 99 c_9 := Con.shape_ok sem_9

/-! 88 -/
def C_10 : Cfg := { T := tab, hint := fun _ => { keepR := [0, 1, 4], res := [4] }, mode := fun _ => .borrow }
noncomputable def O_10 : Oracle := Oracle.of [(99, c_9)]
noncomputable def L_10 : Loops := Loops.of []
theorem lf_10 : LoopsFn Try.prog C_10 O_10 88 L_10 := LoopsFn.nil' (by kernel_rfl)
def sa_10 : List S2 := [.one (.dat (.sl I)), .one (.dat I)]
def ba_10 : List SB := []
def out_10 (r : Bool) : AV × Store := out1 (.one (.dat .bool)) [] (r, ())
theorem w_10 (x : FAr sa_10 ba_10) : evF C_10 O_10 L_10 88 sa_10 ba_10 x =
 slices_Contains_intK x.1 x.2.1 (fun r => some (out_10 r)) := by kernel_rfl
theorem sem_10 : SemF 88 sa_10 ba_10 (fun x => slices_Contains_int x.1 x.2.1) out_10 :=
 sem_of folP okP tabP (Oracle.of_ok (Oracle.cons_ok ok_9 Oracle.nil_ok)) lf_10 fun x => (w_10 x).trans (slices_Contains_int_eq x.1 x.2.1 _)
noncomputable def c_10 : Con := Con.shape sa_10 ba_10 (fun x => slices_Contains_int x.1 x.2.1) out_10
theorem ok_10 : ConOk Try.prog 88 c_10 := Con.shape_ok sem_10

/-! 60 -/
def C_11 : Cfg := { T := tab, hint := fun _ => { keepR := [0, 2, 3, 4, 5, 6, 7, 8, 21], res := [2], keepL := [(0, [0, 5, 6, 7])], keepX := [(0, []), (1, [0, 5, 6, 7])] }, mode := fun _ => .borrow }
noncomputable def O_11 : Oracle := Oracle.of [(55, c_8), (88, c_10)]
def sh_11_l0 : List (Nat × S2) := [(0, .one (.dat (.sl I))), (5, .one (.dat (.sl I))), (6, .one (.dat I)), (7, .one (.dat I))]
def bs_11_l0 : List SB := []
def xs_11_l0 : List (Nat × S2) := []
def xb_11_l0 : List SB := []
def ys_11_l0 : List (Nat × S2) := [(2, .one (.dat .bool))]
def yb_11_l0 : List SB := []
noncomputable def lc_11_l0 : LCon := LCon.shape sh_11_l0 bs_11_l0 impl_different_l0 (fun a => (.exit 0, encSt xs_11_l0 xb_11_l0 a)) (fun b => encSt ys_11_l0 yb_11_l0 b)
noncomputable def L_11 : Loops := Loops.of [(0, lc_11_l0)]
theorem r_11_l0 (x : FSt sh_11_l0 bs_11_l0) : rdF C_11 O_11 L_11 60 0 0 sh_11_l0 bs_11_l0 x =
 impl_different_l0K x.1 x.2.1 x.2.2.1 x.2.2.2.1 (fun y => some (Ex.normal, encSt sh_11_l0 bs_11_l0 y)) (fun a => some (Ex.exit 0, encSt xs_11_l0 xb_11_l0 a)) (fun b => some (Ex.ret, encSt ys_11_l0 yb_11_l0 b)) := by kernel_rfl
theorem lo_11_l0 : loF C_11 O_11 L_11 60 0 0 lc_11_l0 :=
 LCon.shape_ok (fun a => by simp) fun x => (r_11_l0 x).trans (impl_different_l0_eq x.1 x.2.1 x.2.2.1 x.2.2.2.1 _ _ _)
theorem lf_11 : LoopsFn Try.prog C_11 O_11 60 L_11 := LoopsFn.all (by kernel_rfl) (by decide) ⟨lo_11_l0, trivial⟩
def sa_11 : List S2 := [.one (.dat (.sl I))]
def ba_11 : List SB := []
def out_11 (r : Bool) : AV × Store := out1 (.one (.dat .bool)) [] (r, ())
theorem w_11 (x : FAr sa_11 ba_11) : evF C_11 O_11 L_11 60 sa_11 ba_11 x =
 impl_differentK x.1 (fun r => some (out_11 r)) := by kernel_rfl
theorem sem_11 : SemF 60 sa_11 ba_11 (fun x => impl_different x.1) out_11 :=
 sem_of folP okP tabP (Oracle.of_ok (Oracle.cons_ok ok_8 (Oracle.cons_ok ok_10 Oracle.nil_ok))) lf_11 fun x => (w_11 x).trans (impl_different_eq x.1 _)
noncomputable def c_11 : Con := Con.shape sa_11 ba_11 (fun x => impl_different x.1) out_11
theorem ok_11 : ConOk Try.prog 60 c_11 := Con.shape_ok sem_11

/-! 21 -/
def C_12 : Cfg := { T := tab, hint := fun _ => { keepR := [1, 2], res := [2] }, mode := fun _ => .borrow }
noncomputable def O_12 : Oracle := Oracle.of [(60, c_11), (61, c_6)]
noncomputable def L_12 : Loops := Loops.of []
theorem lf_12 : LoopsFn Try.prog C_12 O_12 21 L_12 := LoopsFn.nil' (by kernel_rfl)
def sa_12 : List S2 := [.one (.dat tQueues)]
def ba_12 : List SB := []
def out_12 (r : Bool) : AV × Store := out1 (.one (.dat .bool)) [] (r, ())
theorem w_12 (x : FAr sa_12 ba_12) : evF C_12 O_12 L_12 21 sa_12 ba_12 x =
 impl_QueuesValidK x.1 (fun r => some (out_12 r)) := by kernel_rfl
theorem sem_12 : SemF 21 sa_12 ba_12 (fun x => impl_QueuesValid x.1) out_12 :=
 sem_of folP okP tabP (Oracle.of_ok (Oracle.cons_ok ok_11 (Oracle.cons_ok ok_6 Oracle.nil_ok))) lf_12 fun x => (w_12 x).trans (impl_QueuesValid_eq x.1 _)
noncomputable def c_12 : Con := Con.shape sa_12 ba_12 (fun x => impl_QueuesValid x.1) out_12
theorem ok_12 : ConOk Try.prog 21 c_12 := Con.shape_ok sem_12

/-! 56 -/
def C_13 : Cfg := { T := tab, hint := fun _ => { keepR := [0, 2], res := [2] }, mode := fun _ => .borrow }
noncomputable def O_13 : Oracle := Oracle.of [(85, c_7)]
noncomputable def L_13 : Loops := Loops.of []
theorem lf_13 : LoopsFn Try.prog C_13 O_13 56 L_13 := LoopsFn.nil' (by kernel_rfl)
def sa_13 : List S2 := [.one (.dat I)]
def ba_13 : List SB := []
def out_13 (r : Bool) : AV × Store := out1 (.one (.dat .bool)) [] (r, ())
theorem w_13 (x : FAr sa_13 ba_13) : evF C_13 O_13 L_13 56 sa_13 ba_13 x =
 impl_isPrioK x.1 (fun r => some (out_13 r)) := by kernel_rfl
theorem sem_13 : SemF 56 sa_13 ba_13 (fun x => impl_isPrio x.1) out_13 :=
 sem_of folP okP tabP (Oracle.of_ok (Oracle.cons_ok ok_7 Oracle.nil_ok)) lf_13 fun x => (w_13 x).trans (impl_isPrio_eq x.1 _)
noncomputable def c_13 : Con := Con.shape sa_13 ba_13 (fun x => impl_isPrio x.1) out_13
theorem ok_13 : ConOk Try.prog 56 c_13 := Con.shape_ok sem_13

/-! 90 -/
def C_14 : Cfg := { T := tab, hint := fun _ => { mu := [2, 7], keepR := [0, 2, 4], res := [2] }, mode := fun _ => .borrow }
noncomputable def O_14 : Oracle := Oracle.of []
noncomputable def L_14 : Loops := Loops.of []
theorem lf_14 : LoopsFn Try.prog C_14 O_14 90 L_14 := LoopsFn.nil' (by kernel_rfl)
def sa_14 : List S2 := [.one (.dat (.sl I))]
def ba_14 : List SB := []
def out_14 (r : (List Int)) : AV × Store := out1 (.one (.all 0)) [.data I] (r, ())
theorem w_14 (x : FAr sa_14 ba_14) : evF C_14 O_14 L_14 90 sa_14 ba_14 x =
 slices_Clone_intR x.1 (fun r => some (out_14 r)) := by kernel_rfl
theorem sem_14 : SemF 90 sa_14 ba_14 (fun x => slices_Clone_int x.1) out_14 :=
 sem_of folP okP tabP (Oracle.of_ok Oracle.nil_ok) lf_14 fun x => (w_14 x).trans ((slices_Clone_int_raw x.1 _).trans (slices_Clone_int_eq x.1 _))
noncomputable def c_14 : Con := Con.shape sa_14 ba_14 (fun x => slices_Clone_int x.1) out_14
theorem ok_14 : ConOk Try.prog 90 c_14 := Con.shape_ok sem_14

/-! 89 -/
def C_15 : Cfg := { T := tab, hint := fun _ => { mu := [8], keepR := [0, 2], res := [2], base := 1 }, mode := fun _ => .borrow }
noncomputable def O_15 : Oracle := Oracle.of []
noncomputable def L_15 : Loops := Loops.of []
theorem lf_15 : LoopsFn Try.prog C_15 O_15 89 L_15 := LoopsFn.nil' (by kernel_rfl)
def sa_15 : List S2 := [.one (.all 0)]
def ba_15 : List SB := [.data I]
def out_15 (r : (List Int)) : AV × Store := out1 (.one (.all 0)) [.data I] (r, ())
theorem w_15 (x : FAr sa_15 ba_15) : evF C_15 O_15 L_15 89 sa_15 ba_15 x =
 slices_Clip_intK x.1 (fun r => some (out_15 r)) := by kernel_rfl
theorem sem_15 : SemF 89 sa_15 ba_15 (fun x => slices_Clip_int x.1) out_15 :=
 sem_of folP okP tabP (Oracle.of_ok Oracle.nil_ok) lf_15 fun x => (w_15 x).trans (slices_Clip_int_eq x.1 _)
noncomputable def c_15 : Con := Con.shape sa_15 ba_15 (fun x => slices_Clip_int x.1) out_15
theorem ok_15 : ConOk Try.prog 89 c_15 := Con.shape_ok sem_15

/-! 59 -/
def C_16 : Cfg := { T := tab, hint := fun _ => { mu := [4], keepR := [0, 2], res := [2] }, mode := modeOf [(89, .sub)] }
noncomputable def O_16 : Oracle := Oracle.of [(89, c_15), (90, c_14)]
noncomputable def L_16 : Loops := Loops.of []
theorem lf_16 : LoopsFn Try.prog C_16 O_16 59 L_16 := LoopsFn.nil' (by kernel_rfl)
def sa_16 : List S2 := [.one (.dat (.sl I))]
def ba_16 : List SB := []
def out_16 (r : (List Int)) : AV × Store := out1 (.one (.all 0)) [.data I] (r, ())
theorem w_16 (x : FAr sa_16 ba_16) : evF C_16 O_16 L_16 59 sa_16 ba_16 x =
 impl_clone_intK x.1 (fun r => some (out_16 r)) := by kernel_rfl
theorem sem_16 : SemF 59 sa_16 ba_16 (fun x => impl_clone_int x.1) out_16 :=
 sem_of folP okP tabP (Oracle.of_ok (Oracle.cons_ok ok_15 (Oracle.cons_ok ok_14 Oracle.nil_ok))) lf_16 fun x => (w_16 x).trans (impl_clone_int_eq x.1 _)
noncomputable def c_16 : Con := Con.shape sa_16 ba_16 (fun x => impl_clone_int x.1) out_16
theorem ok_16 : ConOk Try.prog 59 c_16 := Con.shape_ok sem_16

/-! 57 -/
def C_17 : Cfg := { T := tab, hint := fun _ => { mu := [2, 3, 9, 23], keepR := [1, 2, 3, 4, 5, 12, 13, 14, 15], res := [2], order := [(5, [(0, .read), (1, .read), (2, .read)] ++ tns .forced 3 4)], keepL := [(0, [2, 3, 12, 13, 14])], keepX := [(0, [2, 3]), (1, [2, 3, 12, 13, 14])] }, mode := fun _ => .borrow }
noncomputable def O_17 : Oracle := Oracle.of [(59, c_16)]
def sh_17_l0 : List (Nat × S2) := [(2, .one (.ptr 0 0 0)), (3, .one (.ptr 1 0 0)), (12, .one (.dat (.sl (.sl I)))), (13, .one (.dat I)), (14, .one (.dat I))]
def bs_17_l0 : List SB := [.var [.e0 (.sl I)], .cell (.all 2), .deep I]
def xs_17_l0 : List (Nat × S2) := [(2, .one (.ptr 0 0 0)), (3, .one (.ptr 1 0 0))]
def xb_17_l0 : List SB := [.var [.e0 (.sl I)], .cell (.all 2), .deep I]
noncomputable def lc_17_l0 : LCon := LCon.shape1 sh_17_l0 bs_17_l0 impl_Queues_copyOf_l0 (fun a => (.exit 0, encSt xs_17_l0 xb_17_l0 a))
noncomputable def L_17 : Loops := Loops.of [(0, lc_17_l0)]
theorem r_17_l0 (x : FSt sh_17_l0 bs_17_l0) : rdF C_17 O_17 L_17 57 0 0 sh_17_l0 bs_17_l0 x =
 impl_Queues_copyOf_l0K x.1 x.2.1 x.2.2.1 x.2.2.2.1 (fun y => some (Ex.normal, encSt sh_17_l0 bs_17_l0 y)) (fun a => some (Ex.exit 0, encSt xs_17_l0 xb_17_l0 a)) := by kernel_rfl
theorem lo_17_l0 : loF C_17 O_17 L_17 57 0 0 lc_17_l0 :=
 LCon.shape1_ok (fun a => by simp) fun x => (r_17_l0 x).trans (impl_Queues_copyOf_l0_eq x.1 x.2.1 x.2.2.1 x.2.2.2.1 _ _)
theorem lf_17 : LoopsFn Try.prog C_17 O_17 57 L_17 := LoopsFn.all (by kernel_rfl) (by decide) ⟨lo_17_l0, trivial⟩
def sa_17 : List S2 := [.one (.dat tQueues)]
def ba_17 : List SB := []
def out_17 (r : (List (List Int))) : AV × Store := out1 (.agg [.all 0]) [.deep I] (r, ())
theorem w_17 (x : FAr sa_17 ba_17) : evF C_17 O_17 L_17 57 sa_17 ba_17 x =
 impl_Queues_copyOfK x.1 (fun r => some (out_17 r)) := by kernel_rfl
theorem sem_17 : SemF 57 sa_17 ba_17 (fun x => impl_Queues_copyOf x.1) out_17 :=
 sem_of folP okP tabP (Oracle.of_ok (Oracle.cons_ok ok_16 Oracle.nil_ok)) lf_17 fun x => (w_17 x).trans (impl_Queues_copyOf_eq x.1 _)
noncomputable def c_17 : Con := Con.shape sa_17 ba_17 (fun x => impl_Queues_copyOf x.1) out_17
theorem ok_17 : ConOk Try.prog 57 c_17 := Con.shape_ok sem_17

/-! 87 -/
def C_18 : Cfg := { T := tab, hint := fun _ => { keepR := [0, 1, 3], res := [3] }, mode := fun _ => .borrow }
noncomputable def O_18 : Oracle := Oracle.of [(88, c_10)]
noncomputable def L_18 : Loops := Loops.of []
theorem lf_18 : LoopsFn Try.prog C_18 O_18 87 L_18 := LoopsFn.nil' (by kernel_rfl)
def sa_18 : List S2 := [.one (.dat (.sl I)), .one (.cdat I 0)]
def ba_18 : List SB := []
def out_18 (r : Bool) : AV × Store := out1 (.one (.dat .bool)) [] (r, ())
theorem w_18 (x : FAr sa_18 ba_18) : evF C_18 O_18 L_18 87 sa_18 ba_18 x =
 impl_Queues_prio_c1K x.1 x.2.1 (fun r => some (out_18 r)) := by kernel_rfl
theorem sem_18 : SemF 87 sa_18 ba_18 (fun x => impl_Queues_prio_c1 x.1 x.2.1) out_18 :=
 sem_of folP okP tabP (Oracle.of_ok (Oracle.cons_ok ok_10 Oracle.nil_ok)) lf_18 fun x => (w_18 x).trans (impl_Queues_prio_c1_eq x.1 x.2.1 _)
noncomputable def c_18 : Con := Con.shape sa_18 ba_18 (fun x => impl_Queues_prio_c1 x.1 x.2.1) out_18
theorem ok_18 : ConOk Try.prog 87 c_18 := Con.shape_ok sem_18

/-! 86 -/
def C_19 : Cfg := { T := tab, hint := fun _ => { keepR := [0, 1, 4, 5, 7, 8, 9, 16], res := [4], keepL := [(0, [0, 1, 7, 8])], keepX := [(0, []), (1, [0, 1, 7, 8])] }, mode := fun _ => .borrow }
noncomputable def O_19 : Oracle := Oracle.of [(87, c_18)]
def sh_19_l0 : List (Nat × S2) := [(0, .one (.dat (.sl (.sl I)))), (1, .fn 87 [.cdat I 0]), (7, .one (.dat I)), (8, .one (.dat I))]
def bs_19_l0 : List SB := []
def xs_19_l0 : List (Nat × S2) := []
def xb_19_l0 : List SB := []
def ys_19_l0 : List (Nat × S2) := [(4, .one (.dat I))]
def yb_19_l0 : List SB := []
noncomputable def lc_19_l0 : LCon := LCon.shape sh_19_l0 bs_19_l0 slices_IndexFunc_int_l0 (fun a => (.exit 0, encSt xs_19_l0 xb_19_l0 a)) (fun b => encSt ys_19_l0 yb_19_l0 b)
noncomputable def L_19 : Loops := Loops.of [(0, lc_19_l0)]
theorem r_19_l0 (x : FSt sh_19_l0 bs_19_l0) : rdF C_19 O_19 L_19 86 0 0 sh_19_l0 bs_19_l0 x =
 slices_IndexFunc_int_l0K x.1 x.2.1 x.2.2.1 x.2.2.2.1 (fun y => some (Ex.normal, encSt sh_19_l0 bs_19_l0 y)) (fun a => some (Ex.exit 0, encSt xs_19_l0 xb_19_l0 a)) (fun b => some (Ex.ret, encSt ys_19_l0 yb_19_l0 b)) := by kernel_rfl
theorem lo_19_l0 : loF C_19 O_19 L_19 86 0 0 lc_19_l0 :=
 LCon.shape_ok (fun a => by simp) fun x => (r_19_l0 x).trans (slices_IndexFunc_int_l0_eq x.1 x.2.1 x.2.2.1 x.2.2.2.1 _ _ _)
theorem lf_19 : LoopsFn Try.prog C_19 O_19 86 L_19 := LoopsFn.all (by kernel_rfl) (by decide) ⟨lo_19_l0, trivial⟩
def sa_19 : List S2 := [.one (.dat (.sl (.sl I))), .fn 87 [.cdat I 0]]
def ba_19 : List SB := []
def out_19 (r : Int) : AV × Store := out1 (.one (.dat I)) [] (r, ())
theorem w_19 (x : FAr sa_19 ba_19) : evF C_19 O_19 L_19 86 sa_19 ba_19 x =
 slices_IndexFunc_intK x.1 x.2.1 (fun r => some (out_19 r)) := by kernel_rfl
theorem sem_19 : SemF 86 sa_19 ba_19 (fun x => slices_IndexFunc_int x.1 x.2.1) out_19 :=
 sem_of folP okP tabP (Oracle.of_ok (Oracle.cons_ok ok_18 Oracle.nil_ok)) lf_19 fun x => (w_19 x).trans (slices_IndexFunc_int_eq x.1 x.2.1 _)
noncomputable def c_19 : Con := Con.shape sa_19 ba_19 (fun x => slices_IndexFunc_int x.1 x.2.1) out_19
theorem ok_19 : ConOk Try.prog 86 c_19 := Con.shape_ok sem_19

/-! 58 -/
def C_20 : Cfg := { T := tab, hint := fun _ => { keepR := [2, 3, 4], res := [4] }, mode := fun _ => .borrow }
noncomputable def O_20 : Oracle := Oracle.of [(86, c_19)]
noncomputable def L_20 : Loops := Loops.of []
theorem lf_20 : LoopsFn Try.prog C_20 O_20 58 L_20 := LoopsFn.nil' (by kernel_rfl)
def sa_20 : List S2 := [.one (.dat tQueues), .one (.dat I)]
def ba_20 : List SB := []
def out_20 (r : Int) : AV × Store := out1 (.one (.dat I)) [] (r, ())
theorem w_20 (x : FAr sa_20 ba_20) : evF C_20 O_20 L_20 58 sa_20 ba_20 x =
 impl_Queues_prioK x.1 x.2.1 (fun r => some (out_20 r)) := by kernel_rfl
theorem sem_20 : SemF 58 sa_20 ba_20 (fun x => impl_Queues_prio x.1 x.2.1) out_20 :=
 sem_of folP okP tabP (Oracle.of_ok (Oracle.cons_ok ok_19 Oracle.nil_ok)) lf_20 fun x => (w_20 x).trans (impl_Queues_prio_eq x.1 x.2.1 _)
noncomputable def c_20 : Con := Con.shape sa_20 ba_20 (fun x => impl_Queues_prio x.1 x.2.1) out_20
theorem ok_20 : ConOk Try.prog 58 c_20 := Con.shape_ok sem_20

/-! 20 -/
def C_21 : Cfg := { T := tab, hint := fun _ => { mu := [6, 8, 24, 37, 41], keepR := [1, 2, 3, 6, 7, 8, 21, 28], res := [6, 7], order := [(6, tns .read 3 4 ++ [(2, .pure), (8, .pure), (9, .pure), (0, .aside [1] [37]), (1, .aside [1] [37]), (7, .forced)] ++ tns .forced 10 4)], fillR := true }, mode := fun _ => .borrow }
noncomputable def O_21 : Oracle := Oracle.of [(21, c_12), (55, c_8), (56, c_13), (57, c_17), (58, c_20), (59, c_16)]
noncomputable def L_21 : Loops := Loops.of []
theorem lf_21 : LoopsFn Try.prog C_21 O_21 20 L_21 := LoopsFn.nil' (by kernel_rfl)
def sa_21 : List S2 := [.one (.dat tQueues), .one (.dat I), .one (.dat I)]
def ba_21 : List SB := []
def out_21 (r : Bool × (List (List Int))) : AV × Store := outT [.agg [.all 0], .one (.dat .bool)] [.deep I] (r.1, r.2, ())
theorem w_21 (x : FAr sa_21 ba_21) : evF C_21 O_21 L_21 20 sa_21 ba_21 x =
 impl_ReadyAddK x.1 x.2.1 x.2.2.1 (fun r => some (out_21 r)) := by kernel_rfl
theorem sem_21 : SemF 20 sa_21 ba_21 (fun x => impl_ReadyAdd x.1 x.2.1 x.2.2.1) out_21 :=
 sem_of folP okP tabP (Oracle.of_ok (Oracle.cons_ok ok_12 (Oracle.cons_ok ok_8 (Oracle.cons_ok ok_13 (Oracle.cons_ok ok_17 (Oracle.cons_ok ok_20 (Oracle.cons_ok ok_16 Oracle.nil_ok))))))) lf_21 fun x => (w_21 x).trans (impl_ReadyAdd_eq x.1 x.2.1 x.2.2.1 _)
noncomputable def c_21 : Con := Con.shape sa_21 ba_21 (fun x => impl_ReadyAdd x.1 x.2.1 x.2.2.1) out_21
theorem ok_21 : ConOk Try.prog 20 c_21 := Con.shape_ok sem_21

/-! 81 -/
def C_22 : Cfg := { T := tab, hint := fun _ => { keepR := [1, 2, 3, 5, 14], res := [2], keepL := [(0, [1, 3])], keepX := [(0, []), (1, [1, 3])] }, mode := fun _ => .borrow }
noncomputable def O_22 : Oracle := Oracle.of []
def sh_22_l0 : List (Nat × S2) := [(1, .one (.cdat tQueues 0)), (3, .one (.dat I))]
def bs_22_l0 : List SB := []
def xs_22_l0 : List (Nat × S2) := []
def xb_22_l0 : List SB := []
def ys_22_l0 : List (Nat × S2) := [(2, .one (.dat I))]
def yb_22_l0 : List SB := []
noncomputable def lc_22_l0 : LCon := LCon.shape sh_22_l0 bs_22_l0 impl_Queues_top_l0 (fun a => (.exit 0, encSt xs_22_l0 xb_22_l0 a)) (fun b => encSt ys_22_l0 yb_22_l0 b)
noncomputable def L_22 : Loops := Loops.of [(0, lc_22_l0)]
theorem r_22_l0 (x : FSt sh_22_l0 bs_22_l0) : rdF C_22 O_22 L_22 81 0 0 sh_22_l0 bs_22_l0 x =
 impl_Queues_top_l0K x.1 x.2.1 (fun y => some (Ex.normal, encSt sh_22_l0 bs_22_l0 y)) (fun a => some (Ex.exit 0, encSt xs_22_l0 xb_22_l0 a)) (fun b => some (Ex.ret, encSt ys_22_l0 yb_22_l0 b)) := by kernel_rfl
theorem lo_22_l0 : loF C_22 O_22 L_22 81 0 0 lc_22_l0 :=
 LCon.shape_ok (fun a => by simp) fun x => (r_22_l0 x).trans (impl_Queues_top_l0_eq x.1 x.2.1 _ _ _)
theorem lf_22 : LoopsFn Try.prog C_22 O_22 81 L_22 := LoopsFn.all (by kernel_rfl) (by decide) ⟨lo_22_l0, trivial⟩
def sa_22 : List S2 := [.one (.dat tQueues)]
def ba_22 : List SB := []
def out_22 (r : Int) : AV × Store := out1 (.one (.dat I)) [] (r, ())
theorem w_22 (x : FAr sa_22 ba_22) : evF C_22 O_22 L_22 81 sa_22 ba_22 x =
 impl_Queues_topK x.1 (fun r => some (out_22 r)) := by kernel_rfl
theorem sem_22 : SemF 81 sa_22 ba_22 (fun x => impl_Queues_top x.1) out_22 :=
 sem_of folP okP tabP (Oracle.of_ok Oracle.nil_ok) lf_22 fun x => (w_22 x).trans (impl_Queues_top_eq x.1 _)
noncomputable def c_22 : Con := Con.shape sa_22 ba_22 (fun x => impl_Queues_top x.1) out_22
theorem ok_22 : ConOk Try.prog 81 c_22 := Con.shape_ok sem_22

/-! 62 -/
def C_23 : Cfg := { T := tab, hint := fun _ => { keepR := [1, 2, 3, 7], res := [2] }, mode := fun _ => .borrow }
noncomputable def O_23 : Oracle := Oracle.of [(81, c_22)]
noncomputable def L_23 : Loops := Loops.of []
theorem lf_23 : LoopsFn Try.prog C_23 O_23 62 L_23 := LoopsFn.nil' (by kernel_rfl)
def sa_23 : List S2 := [.one (.dat tQueues)]
def ba_23 : List SB := []
def out_23 (r : Int) : AV × Store := out1 (.one (.dat I)) [] (r, ())
theorem w_23 (x : FAr sa_23 ba_23) : evF C_23 O_23 L_23 62 sa_23 ba_23 x =
 impl_Queues_nextK x.1 (fun r => some (out_23 r)) := by kernel_rfl
theorem sem_23 : SemF 62 sa_23 ba_23 (fun x => impl_Queues_next x.1) out_23 :=
 sem_of folP okP tabP (Oracle.of_ok (Oracle.cons_ok ok_22 Oracle.nil_ok)) lf_23 fun x => (w_23 x).trans (impl_Queues_next_eq x.1 _)
noncomputable def c_23 : Con := Con.shape sa_23 ba_23 (fun x => impl_Queues_next x.1) out_23
theorem ok_23 : ConOk Try.prog 62 c_23 := Con.shape_ok sem_23

/-! 22 -/
def C_24 : Cfg := { T := tab, hint := fun _ => { keepR := [1, 2, 5], res := [2] }, mode := fun _ => .borrow }
noncomputable def O_24 : Oracle := Oracle.of [(21, c_12), (62, c_23)]
noncomputable def L_24 : Loops := Loops.of []
theorem lf_24 : LoopsFn Try.prog C_24 O_24 22 L_24 := LoopsFn.nil' (by kernel_rfl)
def sa_24 : List S2 := [.one (.dat tQueues)]
def ba_24 : List SB := []
def out_24 (r : Int) : AV × Store := out1 (.one (.dat I)) [] (r, ())
theorem w_24 (x : FAr sa_24 ba_24) : evF C_24 O_24 L_24 22 sa_24 ba_24 x =
 impl_ReadyNextK x.1 (fun r => some (out_24 r)) := by kernel_rfl
theorem sem_24 : SemF 22 sa_24 ba_24 (fun x => impl_ReadyNext x.1) out_24 :=
 sem_of folP okP tabP (Oracle.of_ok (Oracle.cons_ok ok_12 (Oracle.cons_ok ok_23 Oracle.nil_ok))) lf_24 fun x => (w_24 x).trans (impl_ReadyNext_eq x.1 _)
noncomputable def c_24 : Con := Con.shape sa_24 ba_24 (fun x => impl_ReadyNext x.1) out_24
theorem ok_24 : ConOk Try.prog 22 c_24 := Con.shape_ok sem_24

/-! 3 -/
def C_25 : Cfg := { T := tab, hint := fun _ => { mu := [3, 5], keepR := [0, 2, 3, 4, 5, 6, 9, 14], res := [2], order := [(4, [(0, .read), (1, .forced), (2, .forced), (3, .forced)])] }, mode := fun _ => .borrow }
noncomputable def O_25 : Oracle := Oracle.of [(17, c_0), (18, c_4), (19, c_1), (20, c_21), (21, c_12), (22, c_24)]
noncomputable def L_25 : Loops := Loops.of []
theorem lf_25 : LoopsFn Try.prog C_25 O_25 3 L_25 := LoopsFn.nil' (by kernel_rfl)
def sa_25 : List S2 := [.one (.dat (.sl (.int .u8)))]
def ba_25 : List SB := []
def out_25 (r : Bool) : AV × Store := out1 (.one (.dat .bool)) [] (r, ())
theorem w_25 (x : FAr sa_25 ba_25) : evF C_25 O_25 L_25 3 sa_25 ba_25 x =
 laws_FnNewQueuesK x.1 (fun r => some (out_25 r)) := by kernel_rfl
theorem sem_25 : SemF 3 sa_25 ba_25 (fun x => laws_FnNewQueues x.1) out_25 :=
 sem_of folP okP tabP (Oracle.of_ok (Oracle.cons_ok ok_0 (Oracle.cons_ok ok_4 (Oracle.cons_ok ok_1 (Oracle.cons_ok ok_21 (Oracle.cons_ok ok_12 (Oracle.cons_ok ok_24 Oracle.nil_ok))))))) lf_25 fun x => (w_25 x).trans (laws_FnNewQueues_eq x.1 _)
noncomputable def c_25 : Con := Con.shape sa_25 ba_25 (fun x => laws_FnNewQueues x.1) out_25
theorem ok_25 : ConOk Try.prog 3 c_25 := Con.shape_ok sem_25

/-! 92 -/
def C_26 : Cfg := { T := tab, hint := fun _ => { keepR := [0, 1, 4, 10], res := [4] }, mode := fun _ => .borrow }
noncomputable def O_26 : Oracle := Oracle.of []
noncomputable def L_26 : Loops := Loops.of []
theorem lf_26 : LoopsFn Try.prog C_26 O_26 92 L_26 := LoopsFn.nil' (by kernel_rfl)
def sa_26 : List S2 := [.one (.dat (.sl I)), .one (.dat I)]
def ba_26 : List SB := []
def out_26 (r : Int) : AV × Store := out1 (.one (.dat I)) [] (r, ())
theorem w_26 (x : FAr sa_26 ba_26) : evF C_26 O_26 L_26 92 sa_26 ba_26 x =
 laws_szIntSK x.1 x.2.1 (fun r => some (out_26 r)) := by kernel_rfl
theorem sem_26 : SemF 92 sa_26 ba_26 (fun x => laws_szIntS x.1 x.2.1) out_26 :=
 sem_of folP okP tabP (Oracle.of_ok Oracle.nil_ok) lf_26 fun x => (w_26 x).trans (laws_szIntS_eq x.1 x.2.1 _)
noncomputable def c_26 : Con := Con.shape sa_26 ba_26 (fun x => laws_szIntS x.1 x.2.1) out_26
theorem ok_26 : ConOk Try.prog 92 c_26 := Con.shape_ok sem_26

/-! 63 -/
def C_27 : Cfg := { T := tab, hint := fun _ => { keepR := [0, 1, 4, 5, 11, 15, 25], res := [4], keepL := [(0, [0, 1, 5])], keepX := [(0, [1]), (1, [0, 1, 5])] }, mode := fun _ => .borrow }
noncomputable def O_27 : Oracle := Oracle.of [(92, c_26)]
def sh_27_l0 : List (Nat × S2) := [(0, .one (.dat (.sl (.sl I)))), (1, .one (.dat I)), (5, .one (.dat I))]
def bs_27_l0 : List SB := []
def xs_27_l0 : List (Nat × S2) := [(1, .one (.dat I))]
def xb_27_l0 : List SB := []
def ys_27_l0 : List (Nat × S2) := [(4, .one (.dat I))]
def yb_27_l0 : List SB := []
noncomputable def lc_27_l0 : LCon := LCon.shape sh_27_l0 bs_27_l0 laws_szIntSS_l0 (fun a => (.exit 0, encSt xs_27_l0 xb_27_l0 a)) (fun b => encSt ys_27_l0 yb_27_l0 b)
noncomputable def L_27 : Loops := Loops.of [(0, lc_27_l0)]
theorem r_27_l0 (x : FSt sh_27_l0 bs_27_l0) : rdF C_27 O_27 L_27 63 0 0 sh_27_l0 bs_27_l0 x =
 laws_szIntSS_l0K x.1 x.2.1 x.2.2.1 (fun y => some (Ex.normal, encSt sh_27_l0 bs_27_l0 y)) (fun a => some (Ex.exit 0, encSt xs_27_l0 xb_27_l0 a)) (fun b => some (Ex.ret, encSt ys_27_l0 yb_27_l0 b)) := by kernel_rfl
theorem lo_27_l0 : loF C_27 O_27 L_27 63 0 0 lc_27_l0 :=
 LCon.shape_ok (fun a => by simp) fun x => (r_27_l0 x).trans (laws_szIntSS_l0_eq x.1 x.2.1 x.2.2.1 _ _ _)
theorem lf_27 : LoopsFn Try.prog C_27 O_27 63 L_27 := LoopsFn.all (by kernel_rfl) (by decide) ⟨lo_27_l0, trivial⟩
def sa_27 : List S2 := [.one (.dat (.sl (.sl I))), .one (.dat I)]
def ba_27 : List SB := []
def out_27 (r : Int) : AV × Store := out1 (.one (.dat I)) [] (r, ())
theorem w_27 (x : FAr sa_27 ba_27) : evF C_27 O_27 L_27 63 sa_27 ba_27 x =
 laws_szIntSSK x.1 x.2.1 (fun r => some (out_27 r)) := by kernel_rfl
theorem sem_27 : SemF 63 sa_27 ba_27 (fun x => laws_szIntSS x.1 x.2.1) out_27 :=
 sem_of folP okP tabP (Oracle.of_ok (Oracle.cons_ok ok_26 Oracle.nil_ok)) lf_27 fun x => (w_27 x).trans (laws_szIntSS_eq x.1 x.2.1 _)
noncomputable def c_27 : Con := Con.shape sa_27 ba_27 (fun x => laws_szIntSS x.1 x.2.1) out_27
theorem ok_27 : ConOk Try.prog 63 c_27 := Con.shape_ok sem_27

/-! 23 -/
def C_28 : Cfg := { T := tab, hint := fun _ => { keepR := [1, 2, 4, 10], res := [4] }, mode := fun _ => .borrow }
noncomputable def O_28 : Oracle := Oracle.of [(63, c_27)]
noncomputable def L_28 : Loops := Loops.of []
theorem lf_28 : LoopsFn Try.prog C_28 O_28 23 L_28 := LoopsFn.nil' (by kernel_rfl)
def sa_28 : List S2 := [.one (.dat tQueues), .one (.dat I)]
def ba_28 : List SB := []
def out_28 (r : Int) : AV × Store := out1 (.one (.dat I)) [] (r, ())
theorem w_28 (x : FAr sa_28 ba_28) : evF C_28 O_28 L_28 23 sa_28 ba_28 x =
 laws_szQueuesK x.1 x.2.1 (fun r => some (out_28 r)) := by kernel_rfl
theorem sem_28 : SemF 23 sa_28 ba_28 (fun x => laws_szQueues x.1 x.2.1) out_28 :=
 sem_of folP okP tabP (Oracle.of_ok (Oracle.cons_ok ok_27 Oracle.nil_ok)) lf_28 fun x => (w_28 x).trans (laws_szQueues_eq x.1 x.2.1 _)
noncomputable def c_28 : Con := Con.shape sa_28 ba_28 (fun x => laws_szQueues x.1 x.2.1) out_28
theorem ok_28 : ConOk Try.prog 23 c_28 := Con.shape_ok sem_28

/-! 93 -/
def C_29 : Cfg := { T := tab, hint := fun _ => { mu := [7], keepR := [0, 2, 3, 4, 11], res := [2], keepL := [(0, [0, 3, 4])], keepX := [(0, [3]), (1, [0, 3, 4])] }, mode := fun _ => .borrow }
noncomputable def O_29 : Oracle := Oracle.of []
def sh_29_l0 : List (Nat × S2) := [(0, .one (.dat (.sl I))), (3, .one (.all 0)), (4, .one (.dat I))]
def bs_29_l0 : List SB := [.data I]
def xs_29_l0 : List (Nat × S2) := [(3, .one (.all 0))]
def xb_29_l0 : List SB := [.data I]
noncomputable def lc_29_l0 : LCon := LCon.shape1 sh_29_l0 bs_29_l0 laws_toIntS_l0 (fun a => (.exit 0, encSt xs_29_l0 xb_29_l0 a))
noncomputable def L_29 : Loops := Loops.of [(0, lc_29_l0)]
theorem r_29_l0 (x : FSt sh_29_l0 bs_29_l0) : rdF C_29 O_29 L_29 93 0 0 sh_29_l0 bs_29_l0 x =
 laws_toIntS_l0K x.1 x.2.1 x.2.2.1 (fun y => some (Ex.normal, encSt sh_29_l0 bs_29_l0 y)) (fun a => some (Ex.exit 0, encSt xs_29_l0 xb_29_l0 a)) := by kernel_rfl
theorem lo_29_l0 : loF C_29 O_29 L_29 93 0 0 lc_29_l0 :=
 LCon.shape1_ok (fun a => by simp) fun x => (r_29_l0 x).trans (laws_toIntS_l0_eq x.1 x.2.1 x.2.2.1 _ _)
theorem lf_29 : LoopsFn Try.prog C_29 O_29 93 L_29 := LoopsFn.all (by kernel_rfl) (by decide) ⟨lo_29_l0, trivial⟩
def sa_29 : List S2 := [.one (.dat (.sl I))]
def ba_29 : List SB := []
def out_29 (r : (List Int)) : AV × Store := out1 (.one (.all 0)) [.data I] (r, ())
theorem w_29 (x : FAr sa_29 ba_29) : evF C_29 O_29 L_29 93 sa_29 ba_29 x =
 laws_toIntSK x.1 (fun r => some (out_29 r)) := by kernel_rfl
theorem sem_29 : SemF 93 sa_29 ba_29 (fun x => laws_toIntS x.1) out_29 :=
 sem_of folP okP tabP (Oracle.of_ok Oracle.nil_ok) lf_29 fun x => (w_29 x).trans (laws_toIntS_eq x.1 _)
noncomputable def c_29 : Con := Con.shape sa_29 ba_29 (fun x => laws_toIntS x.1) out_29
theorem ok_29 : ConOk Try.prog 93 c_29 := Con.shape_ok sem_29

/-! 68 -/
def C_30 : Cfg := { T := tab, hint := fun _ => { mu := [7, 20], keepR := [0, 2, 3, 4, 11], res := [2], keepL := [(0, [0, 3, 4])], keepX := [(0, [3]), (1, [0, 3, 4])] }, mode := fun _ => .borrow }
noncomputable def O_30 : Oracle := Oracle.of [(93, c_29)]
def sh_30_l0 : List (Nat × S2) := [(0, .one (.dat (.sl (.sl I)))), (3, .one (.all 0)), (4, .one (.dat I))]
def bs_30_l0 : List SB := [.deep I]
def xs_30_l0 : List (Nat × S2) := [(3, .one (.all 0))]
def xb_30_l0 : List SB := [.deep I]
noncomputable def lc_30_l0 : LCon := LCon.shape1 sh_30_l0 bs_30_l0 laws_toIntSS_l0 (fun a => (.exit 0, encSt xs_30_l0 xb_30_l0 a))
noncomputable def L_30 : Loops := Loops.of [(0, lc_30_l0)]
theorem r_30_l0 (x : FSt sh_30_l0 bs_30_l0) : rdF C_30 O_30 L_30 68 0 0 sh_30_l0 bs_30_l0 x =
 laws_toIntSS_l0K x.1 x.2.1 x.2.2.1 (fun y => some (Ex.normal, encSt sh_30_l0 bs_30_l0 y)) (fun a => some (Ex.exit 0, encSt xs_30_l0 xb_30_l0 a)) := by kernel_rfl
theorem lo_30_l0 : loF C_30 O_30 L_30 68 0 0 lc_30_l0 :=
 LCon.shape1_ok (fun a => by simp) fun x => (r_30_l0 x).trans (laws_toIntSS_l0_eq x.1 x.2.1 x.2.2.1 _ _)
theorem lf_30 : LoopsFn Try.prog C_30 O_30 68 L_30 := LoopsFn.all (by kernel_rfl) (by decide) ⟨lo_30_l0, trivial⟩
def sa_30 : List S2 := [.one (.dat (.sl (.sl I)))]
def ba_30 : List SB := []
def out_30 (r : (List (List Int))) : AV × Store := out1 (.one (.all 0)) [.deep I] (r, ())
theorem w_30 (x : FAr sa_30 ba_30) : evF C_30 O_30 L_30 68 sa_30 ba_30 x =
 laws_toIntSSK x.1 (fun r => some (out_30 r)) := by kernel_rfl
theorem sem_30 : SemF 68 sa_30 ba_30 (fun x => laws_toIntSS x.1) out_30 :=
 sem_of folP okP tabP (Oracle.of_ok (Oracle.cons_ok ok_29 Oracle.nil_ok)) lf_30 fun x => (w_30 x).trans (laws_toIntSS_eq x.1 _)
noncomputable def c_30 : Con := Con.shape sa_30 ba_30 (fun x => laws_toIntSS x.1) out_30
theorem ok_30 : ConOk Try.prog 68 c_30 := Con.shape_ok sem_30

/-! 25 -/
def C_31 : Cfg := { T := tab, hint := fun _ => { mu := [2, 3, 6], keepR := [1, 2, 3], res := [2] }, mode := fun _ => .borrow }
noncomputable def O_31 : Oracle := Oracle.of [(68, c_30)]
noncomputable def L_31 : Loops := Loops.of []
theorem lf_31 : LoopsFn Try.prog C_31 O_31 25 L_31 := LoopsFn.nil' (by kernel_rfl)
def sa_31 : List S2 := [.one (.dat tQueues)]
def ba_31 : List SB := []
def out_31 (r : (List (List Int))) : AV × Store := out1 (.agg [.all 0]) [.deep I] (r, ())
theorem w_31 (x : FAr sa_31 ba_31) : evF C_31 O_31 L_31 25 sa_31 ba_31 x =
 laws_toQueuesK x.1 (fun r => some (out_31 r)) := by kernel_rfl
theorem sem_31 : SemF 25 sa_31 ba_31 (fun x => laws_toQueues x.1) out_31 :=
 sem_of folP okP tabP (Oracle.of_ok (Oracle.cons_ok ok_30 Oracle.nil_ok)) lf_31 fun x => (w_31 x).trans (laws_toQueues_eq x.1 _)
noncomputable def c_31 : Con := Con.shape sa_31 ba_31 (fun x => laws_toQueues x.1) out_31
theorem ok_31 : ConOk Try.prog 25 c_31 := Con.shape_ok sem_31

/-! 65 -/
def C_32 : Cfg := { T := tab, hint := fun _ => { keepR := [0, 1, 2, 6], res := [6] }, mode := fun _ => .borrow }
noncomputable def O_32 : Oracle := Oracle.of []
noncomputable def L_32 : Loops := Loops.of []
theorem lf_32 : LoopsFn Try.prog C_32 O_32 65 L_32 := LoopsFn.nil' (by kernel_rfl)
def sa_32 : List S2 := [.one (.dat I), .one (.dat I), .one (.dat I)]
def ba_32 : List SB := []
def out_32 (r : Bool) : AV × Store := out1 (.one (.dat .bool)) [] (r, ())
theorem w_32 (x : FAr sa_32 ba_32) : evF C_32 O_32 L_32 65 sa_32 ba_32 x =
 spec_l1InK x.1 x.2.1 x.2.2.1 (fun r => some (out_32 r)) := by kernel_rfl
theorem sem_32 : SemF 65 sa_32 ba_32 (fun x => spec_l1In x.1 x.2.1 x.2.2.1) out_32 :=
 sem_of folP okP tabP (Oracle.of_ok Oracle.nil_ok) lf_32 fun x => (w_32 x).trans (spec_l1In_eq x.1 x.2.1 x.2.2.1 _)
noncomputable def c_32 : Con := Con.shape sa_32 ba_32 (fun x => spec_l1In x.1 x.2.1 x.2.2.1) out_32
theorem ok_32 : ConOk Try.prog 65 c_32 := Con.shape_ok sem_32

/-! 64 -/
def C_33 : Cfg := { T := tab, hint := fun _ => { mu := [7], keepR := [1, 2, 3, 4, 5, 6, 12, 22, 41], res := [2], keepL := [(0, [1, 3, 4]), (2, [1, 3, 4, 5])], keepX := [(0, [1]), (1, [1, 3, 4]), (2, [1, 3, 4]), (3, [1, 3, 4, 5])] }, mode := fun _ => .borrow }
noncomputable def O_33 : Oracle := Oracle.of [(65, c_32)]
def sh_33_l0 : List (Nat × S2) := [(1, .one (.cdat tQueues 0)), (3, .one (.all 0)), (4, .one (.dat I))]
def bs_33_l0 : List SB := [.data .bool]
def xs_33_l0 : List (Nat × S2) := [(1, .one (.cdat tQueues 0))]
def xb_33_l0 : List SB := []
def ys_33_l0 : List (Nat × S2) := [(2, .one (.dat .bool))]
def yb_33_l0 : List SB := []
noncomputable def lc_33_l0 : LCon := LCon.shape sh_33_l0 bs_33_l0 spec_QueuesValid_l0 (fun a => (.exit 0, encSt xs_33_l0 xb_33_l0 a)) (fun b => encSt ys_33_l0 yb_33_l0 b)
def sh_33_l2 : List (Nat × S2) := [(1, .one (.cdat tQueues 0)), (3, .one (.all 0)), (4, .one (.dat I)), (5, .one (.dat I))]
def bs_33_l2 : List SB := [.data .bool]
def xs_33_l2 : List (Nat × S2) := [(1, .one (.cdat tQueues 0)), (3, .one (.all 0)), (4, .one (.dat I))]
def xb_33_l2 : List SB := [.data .bool]
def ys_33_l2 : List (Nat × S2) := [(2, .one (.dat .bool))]
def yb_33_l2 : List SB := []
noncomputable def lc_33_l2 : LCon := LCon.shape sh_33_l2 bs_33_l2 spec_QueuesValid_l2 (fun a => (.exit 2, encSt xs_33_l2 xb_33_l2 a)) (fun b => encSt ys_33_l2 yb_33_l2 b)
noncomputable def L_33 : Loops := Loops.of [(0, lc_33_l0), (2, lc_33_l2)]
theorem r_33_l0 (x : FSt sh_33_l0 bs_33_l0) : rdF C_33 O_33 L_33 64 0 0 sh_33_l0 bs_33_l0 x =
 spec_QueuesValid_l0K x.1 x.2.1 x.2.2.1 (fun y => some (Ex.normal, encSt sh_33_l0 bs_33_l0 y)) (fun a => some (Ex.exit 0, encSt xs_33_l0 xb_33_l0 a)) (fun b => some (Ex.ret, encSt ys_33_l0 yb_33_l0 b)) := by kernel_rfl
theorem lo_33_l0 : loF C_33 O_33 L_33 64 0 0 lc_33_l0 :=
 LCon.shape_ok (fun a => by simp) fun x => (r_33_l0 x).trans (spec_QueuesValid_l0_eq x.1 x.2.1 x.2.2.1 _ _ _)
theorem r_33_l2 (x : FSt sh_33_l2 bs_33_l2) : rdF C_33 O_33 L_33 64 2 1 sh_33_l2 bs_33_l2 x =
 spec_QueuesValid_l2K x.1 x.2.1 x.2.2.1 x.2.2.2.1 (fun y => some (Ex.normal, encSt sh_33_l2 bs_33_l2 y)) (fun a => some (Ex.exit 2, encSt xs_33_l2 xb_33_l2 a)) (fun b => some (Ex.ret, encSt ys_33_l2 yb_33_l2 b)) := by kernel_rfl
theorem lo_33_l2 : loF C_33 O_33 L_33 64 2 1 lc_33_l2 :=
 LCon.shape_ok (fun a => by simp) fun x => (r_33_l2 x).trans (spec_QueuesValid_l2_eq x.1 x.2.1 x.2.2.1 x.2.2.2.1 _ _ _)
theorem lf_33 : LoopsFn Try.prog C_33 O_33 64 L_33 := LoopsFn.all (by kernel_rfl) (by decide) ⟨lo_33_l0, lo_33_l2, trivial⟩
def sa_33 : List S2 := [.one (.dat tQueues)]
def ba_33 : List SB := []
def out_33 (r : Bool) : AV × Store := out1 (.one (.dat .bool)) [] (r, ())
theorem w_33 (x : FAr sa_33 ba_33) : evF C_33 O_33 L_33 64 sa_33 ba_33 x =
 spec_QueuesValidK x.1 (fun r => some (out_33 r)) := by kernel_rfl
theorem sem_33 : SemF 64 sa_33 ba_33 (fun x => spec_QueuesValid x.1) out_33 :=
 sem_of folP okP tabP (Oracle.of_ok (Oracle.cons_ok ok_32 Oracle.nil_ok)) lf_33 fun x => (w_33 x).trans (spec_QueuesValid_eq x.1 _)
noncomputable def c_33 : Con := Con.shape sa_33 ba_33 (fun x => spec_QueuesValid x.1) out_33
theorem ok_33 : ConOk Try.prog 64 c_33 := Con.shape_ok sem_33

/-! 66 -/
def C_34 : Cfg := { T := tab, hint := fun _ => { mu := [2, 3, 21, 22, 23], keepR := [1, 2, 3, 4, 10], res := [2], order := [(5, tns .read 2 6 ++ [(0, .aside [] []), (1, .aside [] [])] ++ tns .forced 8 5)], keepL := [(0, [1, 2, 3, 4])], keepX := [(0, [2, 3]), (1, [1, 2, 3, 4])], fill := [(0, [1, 2, 3, 4])] }, mode := fun _ => .borrow }
noncomputable def O_34 : Oracle := Oracle.of []
def sh_34_l0 : List (Nat × S2) := [(1, .one (.cdat tQueues 0)), (2, .one (.ptr 0 0 0)), (3, .one (.ptr 1 0 0)), (4, .one (.dat I))]
def bs_34_l0 : List SB := [.var [.all 2], .cell (.all 3), .deep I, .deep I]
def xs_34_l0 : List (Nat × S2) := [(2, .one (.ptr 0 0 0)), (3, .one (.ptr 1 0 0))]
def xb_34_l0 : List SB := [.var [.all 2], .cell (.all 3), .deep I, .deep I]
noncomputable def lc_34_l0 : LCon := LCon.shape1 sh_34_l0 bs_34_l0 spec_l8Copy_l0 (fun a => (.exit 0, encSt xs_34_l0 xb_34_l0 a))
noncomputable def L_34 : Loops := Loops.of [(0, lc_34_l0)]
theorem r_34_l0 (x : FSt sh_34_l0 bs_34_l0) : rdF C_34 O_34 L_34 66 0 0 sh_34_l0 bs_34_l0 x =
 spec_l8Copy_l0K x.1 x.2.1 x.2.2.1 x.2.2.2.1 (fun y => some (Ex.normal, encSt sh_34_l0 bs_34_l0 y)) (fun a => some (Ex.exit 0, encSt xs_34_l0 xb_34_l0 a)) := by kernel_rfl
theorem lo_34_l0 : loF C_34 O_34 L_34 66 0 0 lc_34_l0 :=
 LCon.shape1_ok (fun a => by simp) fun x => (r_34_l0 x).trans (spec_l8Copy_l0_eq x.1 x.2.1 x.2.2.1 x.2.2.2.1 _ _)
theorem lf_34 : LoopsFn Try.prog C_34 O_34 66 L_34 := LoopsFn.all (by kernel_rfl) (by decide) ⟨lo_34_l0, trivial⟩
def sa_34 : List S2 := [.one (.dat tQueues)]
def ba_34 : List SB := []
def out_34 (r : (List (List Int))) : AV × Store := out1 (.agg [.all 0]) [.deep I] (r, ())
theorem w_34 (x : FAr sa_34 ba_34) : evF C_34 O_34 L_34 66 sa_34 ba_34 x =
 spec_l8CopyK x.1 (fun r => some (out_34 r)) := by kernel_rfl
theorem sem_34 : SemF 66 sa_34 ba_34 (fun x => spec_l8Copy x.1) out_34 :=
 sem_of folP okP tabP (Oracle.of_ok Oracle.nil_ok) lf_34 fun x => (w_34 x).trans (spec_l8Copy_eq x.1 _)
noncomputable def c_34 : Con := Con.shape sa_34 ba_34 (fun x => spec_l8Copy x.1) out_34
theorem ok_34 : ConOk Try.prog 66 c_34 := Con.shape_ok sem_34

/-! 67 -/
def C_35 : Cfg := { T := tab, hint := fun _ => { keepR := [1, 2, 4, 5, 6, 15, 25, 37], res := [4], keepL := [(0, [1, 2, 5]), (2, [1, 2, 5, 6])], keepX := [(0, []), (1, [1, 2, 5]), (2, [1, 2, 5]), (3, [1, 2, 5, 6])] }, mode := fun _ => .borrow }
noncomputable def O_35 : Oracle := Oracle.of [(64, c_33)]
def sh_35_l0 : List (Nat × S2) := [(1, .one (.dat I)), (2, .one (.cdat tQueues 0)), (5, .one (.dat I))]
def bs_35_l0 : List SB := []
def xs_35_l0 : List (Nat × S2) := []
def xb_35_l0 : List SB := []
def ys_35_l0 : List (Nat × S2) := [(4, .one (.dat I))]
def yb_35_l0 : List SB := []
noncomputable def lc_35_l0 : LCon := LCon.shape sh_35_l0 bs_35_l0 spec_ReadyPrio_l0 (fun a => (.exit 0, encSt xs_35_l0 xb_35_l0 a)) (fun b => encSt ys_35_l0 yb_35_l0 b)
def sh_35_l2 : List (Nat × S2) := [(1, .one (.dat I)), (2, .one (.cdat tQueues 0)), (5, .one (.dat I)), (6, .one (.dat I))]
def bs_35_l2 : List SB := []
def xs_35_l2 : List (Nat × S2) := [(1, .one (.dat I)), (2, .one (.cdat tQueues 0)), (5, .one (.dat I))]
def xb_35_l2 : List SB := []
def ys_35_l2 : List (Nat × S2) := [(4, .one (.dat I))]
def yb_35_l2 : List SB := []
noncomputable def lc_35_l2 : LCon := LCon.shape sh_35_l2 bs_35_l2 spec_ReadyPrio_l2 (fun a => (.exit 2, encSt xs_35_l2 xb_35_l2 a)) (fun b => encSt ys_35_l2 yb_35_l2 b)
noncomputable def L_35 : Loops := Loops.of [(0, lc_35_l0), (2, lc_35_l2)]
theorem r_35_l0 (x : FSt sh_35_l0 bs_35_l0) : rdF C_35 O_35 L_35 67 0 0 sh_35_l0 bs_35_l0 x =
 spec_ReadyPrio_l0K x.1 x.2.1 x.2.2.1 (fun y => some (Ex.normal, encSt sh_35_l0 bs_35_l0 y)) (fun a => some (Ex.exit 0, encSt xs_35_l0 xb_35_l0 a)) (fun b => some (Ex.ret, encSt ys_35_l0 yb_35_l0 b)) := by kernel_rfl
theorem lo_35_l0 : loF C_35 O_35 L_35 67 0 0 lc_35_l0 :=
 LCon.shape_ok (fun a => by simp) fun x => (r_35_l0 x).trans (spec_ReadyPrio_l0_eq x.1 x.2.1 x.2.2.1 _ _ _)
theorem r_35_l2 (x : FSt sh_35_l2 bs_35_l2) : rdF C_35 O_35 L_35 67 2 1 sh_35_l2 bs_35_l2 x =
 spec_ReadyPrio_l2K x.1 x.2.1 x.2.2.1 x.2.2.2.1 (fun y => some (Ex.normal, encSt sh_35_l2 bs_35_l2 y)) (fun a => some (Ex.exit 2, encSt xs_35_l2 xb_35_l2 a)) (fun b => some (Ex.ret, encSt ys_35_l2 yb_35_l2 b)) := by kernel_rfl
theorem lo_35_l2 : loF C_35 O_35 L_35 67 2 1 lc_35_l2 :=
 LCon.shape_ok (fun a => by simp) fun x => (r_35_l2 x).trans (spec_ReadyPrio_l2_eq x.1 x.2.1 x.2.2.1 x.2.2.2.1 _ _ _)
theorem lf_35 : LoopsFn Try.prog C_35 O_35 67 L_35 := LoopsFn.all (by kernel_rfl) (by decide) ⟨lo_35_l0, lo_35_l2, trivial⟩
def sa_35 : List S2 := [.one (.dat tQueues), .one (.dat I)]
def ba_35 : List SB := []
def out_35 (r : Int) : AV × Store := out1 (.one (.dat I)) [] (r, ())
theorem w_35 (x : FAr sa_35 ba_35) : evF C_35 O_35 L_35 67 sa_35 ba_35 x =
 spec_ReadyPrioK x.1 x.2.1 (fun r => some (out_35 r)) := by kernel_rfl
theorem sem_35 : SemF 67 sa_35 ba_35 (fun x => spec_ReadyPrio x.1 x.2.1) out_35 :=
 sem_of folP okP tabP (Oracle.of_ok (Oracle.cons_ok ok_33 Oracle.nil_ok)) lf_35 fun x => (w_35 x).trans (spec_ReadyPrio_eq x.1 x.2.1 _)
noncomputable def c_35 : Con := Con.shape sa_35 ba_35 (fun x => spec_ReadyPrio x.1 x.2.1) out_35
theorem ok_35 : ConOk Try.prog 67 c_35 := Con.shape_ok sem_35

/-! 24 -/
def C_36 : Cfg := { T := tab, hint := fun _ => { mu := [6, 8, 24, 37, 40], keepR := [1, 2, 3, 6, 7, 8, 21, 28], res := [6, 7], order := [(6, tns .read 3 4 ++ [(2, .pure), (8, .pure), (9, .pure), (0, .aside [1] [37]), (1, .aside [1] [37]), (7, .forced), (10, .forced), (11, .forced), (12, .forced)])], fillR := true }, mode := fun _ => .borrow }
noncomputable def O_36 : Oracle := Oracle.of [(64, c_33), (65, c_32), (66, c_34), (67, c_35)]
noncomputable def L_36 : Loops := Loops.of []
theorem lf_36 : LoopsFn Try.prog C_36 O_36 24 L_36 := LoopsFn.nil' (by kernel_rfl)
def sa_36 : List S2 := [.one (.dat tQueues), .one (.dat I), .one (.dat I)]
def ba_36 : List SB := []
def out_36 (r : Bool × (List (List Int))) : AV × Store := outT [.agg [.all 0], .one (.dat .bool)] [.deep I] (r.1, r.2, ())
theorem w_36 (x : FAr sa_36 ba_36) : evF C_36 O_36 L_36 24 sa_36 ba_36 x =
 spec_ReadyAddK x.1 x.2.1 x.2.2.1 (fun r => some (out_36 r)) := by kernel_rfl
theorem sem_36 : SemF 24 sa_36 ba_36 (fun x => spec_ReadyAdd x.1 x.2.1 x.2.2.1) out_36 :=
 sem_of folP okP tabP (Oracle.of_ok (Oracle.cons_ok ok_33 (Oracle.cons_ok ok_32 (Oracle.cons_ok ok_34 (Oracle.cons_ok ok_35 Oracle.nil_ok))))) lf_36 fun x => (w_36 x).trans (spec_ReadyAdd_eq x.1 x.2.1 x.2.2.1 _)
noncomputable def c_36 : Con := Con.shape sa_36 ba_36 (fun x => spec_ReadyAdd x.1 x.2.1 x.2.2.1) out_36
theorem ok_36 : ConOk Try.prog 24 c_36 := Con.shape_ok sem_36

/-! 33 -/
def C_37 : Cfg := { T := tab, hint := fun _ => { keepR := [0, 1, 4, 5, 10, 14, 25], res := [4], order := [(6, tns .read 0 5 ++ tns .forced 5 4)], keepL := [(0, [0, 1, 5])], keepX := [(0, []), (1, [0, 1, 5])] }, mode := fun _ => .borrow }
noncomputable def O_37 : Oracle := Oracle.of []
def sh_37_l0 : List (Nat × S2) := [(0, .one (.dat (.sl I))), (1, .one (.dat (.sl I))), (5, .one (.dat I))]
def bs_37_l0 : List SB := []
def xs_37_l0 : List (Nat × S2) := []
def xb_37_l0 : List SB := []
def ys_37_l0 : List (Nat × S2) := [(4, .one (.dat .bool))]
def yb_37_l0 : List SB := []
noncomputable def lc_37_l0 : LCon := LCon.shape sh_37_l0 bs_37_l0 laws_eqIntS_l0 (fun a => (.exit 0, encSt xs_37_l0 xb_37_l0 a)) (fun b => encSt ys_37_l0 yb_37_l0 b)
noncomputable def L_37 : Loops := Loops.of [(0, lc_37_l0)]
theorem r_37_l0 (x : FSt sh_37_l0 bs_37_l0) : rdF C_37 O_37 L_37 33 0 0 sh_37_l0 bs_37_l0 x =
 laws_eqIntS_l0K x.1 x.2.1 x.2.2.1 (fun y => some (Ex.normal, encSt sh_37_l0 bs_37_l0 y)) (fun a => some (Ex.exit 0, encSt xs_37_l0 xb_37_l0 a)) (fun b => some (Ex.ret, encSt ys_37_l0 yb_37_l0 b)) := by kernel_rfl
theorem lo_37_l0 : loF C_37 O_37 L_37 33 0 0 lc_37_l0 :=
 LCon.shape_ok (fun a => by simp) fun x => (r_37_l0 x).trans (laws_eqIntS_l0_eq x.1 x.2.1 x.2.2.1 _ _ _)
theorem lf_37 : LoopsFn Try.prog C_37 O_37 33 L_37 := LoopsFn.all (by kernel_rfl) (by decide) ⟨lo_37_l0, trivial⟩
def sa_37 : List S2 := [.one (.dat (.sl I)), .one (.dat (.sl I))]
def ba_37 : List SB := []
def out_37 (r : Bool) : AV × Store := out1 (.one (.dat .bool)) [] (r, ())
theorem w_37 (x : FAr sa_37 ba_37) : evF C_37 O_37 L_37 33 sa_37 ba_37 x =
 laws_eqIntSK x.1 x.2.1 (fun r => some (out_37 r)) := by kernel_rfl
theorem sem_37 : SemF 33 sa_37 ba_37 (fun x => laws_eqIntS x.1 x.2.1) out_37 :=
 sem_of folP okP tabP (Oracle.of_ok Oracle.nil_ok) lf_37 fun x => (w_37 x).trans (laws_eqIntS_eq x.1 x.2.1 _)
noncomputable def c_37 : Con := Con.shape sa_37 ba_37 (fun x => laws_eqIntS x.1 x.2.1) out_37
theorem ok_37 : ConOk Try.prog 33 c_37 := Con.shape_ok sem_37

/-! 69 -/
def C_38 : Cfg := { T := tab, hint := fun _ => { keepR := [0, 1, 4, 5, 10, 14, 26], res := [4], order := [(6, tns .read 0 5 ++ tns .forced 5 5)], keepL := [(0, [0, 1, 5])], keepX := [(0, []), (1, [0, 1, 5])] }, mode := fun _ => .borrow }
noncomputable def O_38 : Oracle := Oracle.of [(33, c_37)]
def sh_38_l0 : List (Nat × S2) := [(0, .one (.dat (.sl (.sl I)))), (1, .one (.dat (.sl (.sl I)))), (5, .one (.dat I))]
def bs_38_l0 : List SB := []
def xs_38_l0 : List (Nat × S2) := []
def xb_38_l0 : List SB := []
def ys_38_l0 : List (Nat × S2) := [(4, .one (.dat .bool))]
def yb_38_l0 : List SB := []
noncomputable def lc_38_l0 : LCon := LCon.shape sh_38_l0 bs_38_l0 laws_eqIntSS_l0 (fun a => (.exit 0, encSt xs_38_l0 xb_38_l0 a)) (fun b => encSt ys_38_l0 yb_38_l0 b)
noncomputable def L_38 : Loops := Loops.of [(0, lc_38_l0)]
theorem r_38_l0 (x : FSt sh_38_l0 bs_38_l0) : rdF C_38 O_38 L_38 69 0 0 sh_38_l0 bs_38_l0 x =
 laws_eqIntSS_l0K x.1 x.2.1 x.2.2.1 (fun y => some (Ex.normal, encSt sh_38_l0 bs_38_l0 y)) (fun a => some (Ex.exit 0, encSt xs_38_l0 xb_38_l0 a)) (fun b => some (Ex.ret, encSt ys_38_l0 yb_38_l0 b)) := by kernel_rfl
theorem lo_38_l0 : loF C_38 O_38 L_38 69 0 0 lc_38_l0 :=
 LCon.shape_ok (fun a => by simp) fun x => (r_38_l0 x).trans (laws_eqIntSS_l0_eq x.1 x.2.1 x.2.2.1 _ _ _)
theorem lf_38 : LoopsFn Try.prog C_38 O_38 69 L_38 := LoopsFn.all (by kernel_rfl) (by decide) ⟨lo_38_l0, trivial⟩
def sa_38 : List S2 := [.one (.dat (.sl (.sl I))), .one (.dat (.sl (.sl I)))]
def ba_38 : List SB := []
def out_38 (r : Bool) : AV × Store := out1 (.one (.dat .bool)) [] (r, ())
theorem w_38 (x : FAr sa_38 ba_38) : evF C_38 O_38 L_38 69 sa_38 ba_38 x =
 laws_eqIntSSK x.1 x.2.1 (fun r => some (out_38 r)) := by kernel_rfl
theorem sem_38 : SemF 69 sa_38 ba_38 (fun x => laws_eqIntSS x.1 x.2.1) out_38 :=
 sem_of folP okP tabP (Oracle.of_ok (Oracle.cons_ok ok_37 Oracle.nil_ok)) lf_38 fun x => (w_38 x).trans (laws_eqIntSS_eq x.1 x.2.1 _)
noncomputable def c_38 : Con := Con.shape sa_38 ba_38 (fun x => laws_eqIntSS x.1 x.2.1) out_38
theorem ok_38 : ConOk Try.prog 69 c_38 := Con.shape_ok sem_38

/-! 26 -/
def C_39 : Cfg := { T := tab, hint := fun _ => { keepR := [2, 3, 4, 10], res := [4] }, mode := fun _ => .borrow }
noncomputable def O_39 : Oracle := Oracle.of [(69, c_38)]
noncomputable def L_39 : Loops := Loops.of []
theorem lf_39 : LoopsFn Try.prog C_39 O_39 26 L_39 := LoopsFn.nil' (by kernel_rfl)
def sa_39 : List S2 := [.one (.dat tQueues), .one (.dat tQueues)]
def ba_39 : List SB := []
def out_39 (r : Bool) : AV × Store := out1 (.one (.dat .bool)) [] (r, ())
theorem w_39 (x : FAr sa_39 ba_39) : evF C_39 O_39 L_39 26 sa_39 ba_39 x =
 laws_eqQueuesK x.1 x.2.1 (fun r => some (out_39 r)) := by kernel_rfl
theorem sem_39 : SemF 26 sa_39 ba_39 (fun x => laws_eqQueues x.1 x.2.1) out_39 :=
 sem_of folP okP tabP (Oracle.of_ok (Oracle.cons_ok ok_38 Oracle.nil_ok)) lf_39 fun x => (w_39 x).trans (laws_eqQueues_eq x.1 x.2.1 _)
noncomputable def c_39 : Con := Con.shape sa_39 ba_39 (fun x => laws_eqQueues x.1 x.2.1) out_39
theorem ok_39 : ConOk Try.prog 26 c_39 := Con.shape_ok sem_39

/-! 34 -/
def C_40 : Cfg := { T := tab, hint := fun _ => { keepR := [0, 1, 4, 5, 9], res := [4], base := 1, keepL := [(0, [0, 1, 5])], keepX := [(0, [1]), (1, [0, 1, 5])] }, mode := fun _ => .borrow }
noncomputable def O_40 : Oracle := Oracle.of []
def sh_40_l0 : List (Nat × S2) := [(0, .one (.all 0)), (1, .one (.dat I)), (5, .one (.dat I))]
def bs_40_l0 : List SB := [.data I]
def xs_40_l0 : List (Nat × S2) := [(1, .one (.dat I))]
def xb_40_l0 : List SB := [.data I]
noncomputable def lc_40_l0 : LCon := LCon.shape1 sh_40_l0 bs_40_l0 laws_markIntS_l0 (fun a => (.exit 0, encSt xs_40_l0 xb_40_l0 a))
noncomputable def L_40 : Loops := Loops.of [(0, lc_40_l0)]
theorem r_40_l0 (x : FSt sh_40_l0 bs_40_l0) : rdF C_40 O_40 L_40 34 0 0 sh_40_l0 bs_40_l0 x =
 laws_markIntS_l0K x.1 x.2.1 x.2.2.1 (fun y => some (Ex.normal, encSt sh_40_l0 bs_40_l0 y)) (fun a => some (Ex.exit 0, encSt xs_40_l0 xb_40_l0 a)) := by kernel_rfl
theorem lo_40_l0 : loF C_40 O_40 L_40 34 0 0 lc_40_l0 :=
 LCon.shape1_ok (fun a => by simp) fun x => (r_40_l0 x).trans (laws_markIntS_l0_eq x.1 x.2.1 x.2.2.1 _ _)
theorem lf_40 : LoopsFn Try.prog C_40 O_40 34 L_40 := LoopsFn.all (by kernel_rfl) (by decide) ⟨lo_40_l0, trivial⟩
def sa_40 : List S2 := [.one (.all 0), .one (.dat I)]
def ba_40 : List SB := [.data I]
def out_40 (r : Int × (List Int)) : AV × Store := out1 (.one (.dat I)) [.data I] (r.1, r.2, ())
theorem w_40 (x : FAr sa_40 ba_40) : evF C_40 O_40 L_40 34 sa_40 ba_40 x =
 laws_markIntSK x.1 x.2.1 (fun r => some (out_40 r)) := by kernel_rfl
theorem sem_40 : SemF 34 sa_40 ba_40 (fun x => laws_markIntS x.1 x.2.1) out_40 :=
 sem_of folP okP tabP (Oracle.of_ok Oracle.nil_ok) lf_40 fun x => (w_40 x).trans (laws_markIntS_eq x.1 x.2.1 _)
noncomputable def c_40 : Con := Con.shape sa_40 ba_40 (fun x => laws_markIntS x.1 x.2.1) out_40
theorem ok_40 : ConOk Try.prog 34 c_40 := Con.shape_ok sem_40

/-! 70 -/
def C_41 : Cfg := { T := tab, hint := fun _ => { mu := [15], keepR := [0, 1, 4, 5, 9], res := [4], base := 5, keepL := [(0, [0, 1, 5])], keepX := [(0, [1]), (1, [0, 1, 5])] }, mode := modeOf [(34, .sub)] }
noncomputable def O_41 : Oracle := Oracle.of [(34, c_40)]
def sh_41_l0 : List (Nat × S2) := [(0, .one (.all 1)), (1, .one (.dat I)), (5, .one (.dat I))]
def bs_41_l0 : List SB := [.cell (.dat (.sl (.sl I))), .deep I, .cell (.all 1), .cell (.dat (.sl (.sl I))), .var [.all 1]]
def xs_41_l0 : List (Nat × S2) := [(1, .one (.dat I))]
def xb_41_l0 : List SB := [.cell (.dat (.sl (.sl I))), .deep I, .cell (.all 1), .cell (.dat (.sl (.sl I))), .var [.all 1]]
noncomputable def lc_41_l0 : LCon := LCon.shape1 sh_41_l0 bs_41_l0 laws_markIntSS_l0 (fun a => (.exit 0, encSt xs_41_l0 xb_41_l0 a))
noncomputable def L_41 : Loops := Loops.of [(0, lc_41_l0)]
theorem r_41_l0 (x : FSt sh_41_l0 bs_41_l0) : rdF C_41 O_41 L_41 70 0 0 sh_41_l0 bs_41_l0 x =
 laws_markIntSS_l0K x.1 x.2.1 x.2.2.1 x.2.2.2.1 x.2.2.2.2.1 (fun y => some (Ex.normal, encSt sh_41_l0 bs_41_l0 y)) (fun a => some (Ex.exit 0, encSt xs_41_l0 xb_41_l0 a)) := by kernel_rfl
theorem lo_41_l0 : loF C_41 O_41 L_41 70 0 0 lc_41_l0 :=
 LCon.shape1_ok (fun a => by simp) fun x => (r_41_l0 x).trans (laws_markIntSS_l0_eq x.1 x.2.1 x.2.2.1 x.2.2.2.1 x.2.2.2.2.1 _ _)
theorem lf_41 : LoopsFn Try.prog C_41 O_41 70 L_41 := LoopsFn.all (by kernel_rfl) (by decide) ⟨lo_41_l0, trivial⟩
def sa_41 : List S2 := [.one (.all 1), .one (.dat I)]
def ba_41 : List SB := [.cell (.dat (.sl (.sl I))), .deep I, .cell (.all 1), .cell (.dat (.sl (.sl I))), .var [.all 1]]
def out_41 (r : Int × (List (List Int)) × (List (List Int)) × (List (List Int))) : AV × Store := out1 (.one (.dat I)) [.cell (.dat (.sl (.sl I))), .deep I, .cell (.all 1), .cell (.dat (.sl (.sl I))), .var [.all 1]] (r.1, r.2.1, r.2.2.1, r.2.2.2, ())
theorem w_41 (x : FAr sa_41 ba_41) : evF C_41 O_41 L_41 70 sa_41 ba_41 x =
 laws_markIntSSK x.1 x.2.1 x.2.2.1 x.2.2.2.1 (fun r => some (out_41 r)) := by kernel_rfl
theorem sem_41 : SemF 70 sa_41 ba_41 (fun x => laws_markIntSS x.1 x.2.1 x.2.2.1 x.2.2.2.1) out_41 :=
 sem_of folP okP tabP (Oracle.of_ok (Oracle.cons_ok ok_40 Oracle.nil_ok)) lf_41 fun x => (w_41 x).trans (laws_markIntSS_eq x.1 x.2.1 x.2.2.1 x.2.2.2.1 _)
noncomputable def c_41 : Con := Con.shape sa_41 ba_41 (fun x => laws_markIntSS x.1 x.2.1 x.2.2.1 x.2.2.2.1) out_41
theorem ok_41 : ConOk Try.prog 70 c_41 := Con.shape_ok sem_41

/-! 27 -/
def C_42 : Cfg := { T := tab, hint := fun _ => { mu := [2], keepR := [1, 2, 4], res := [4], base := 4 }, mode := modeOf [(70, .whole)] }
noncomputable def O_42 : Oracle := Oracle.of [(70, c_41)]
noncomputable def L_42 : Loops := Loops.of []
theorem lf_42 : LoopsFn Try.prog C_42 O_42 27 L_42 := LoopsFn.nil' (by kernel_rfl)
def sa_42 : List S2 := [.agg [.all 1], .one (.dat I)]
def ba_42 : List SB := [.cell (.dat (.sl (.sl I))), .deep I, .cell (.all 1), .cell (.dat (.sl (.sl I)))]
def out_42 (r : Int × (List (List Int)) × (List (List Int)) × (List (List Int))) : AV × Store := out1 (.one (.dat I)) [.cell (.dat (.sl (.sl I))), .deep I, .cell (.all 1), .cell (.dat (.sl (.sl I)))] (r.1, r.2.1, r.2.2.1, r.2.2.2, ())
theorem w_42 (x : FAr sa_42 ba_42) : evF C_42 O_42 L_42 27 sa_42 ba_42 x =
 laws_markQueuesK x.1 x.2.1 x.2.2.1 x.2.2.2.1 (fun r => some (out_42 r)) := by kernel_rfl
theorem sem_42 : SemF 27 sa_42 ba_42 (fun x => laws_markQueues x.1 x.2.1 x.2.2.1 x.2.2.2.1) out_42 :=
 sem_of folP okP tabP (Oracle.of_ok (Oracle.cons_ok ok_41 Oracle.nil_ok)) lf_42 fun x => (w_42 x).trans (laws_markQueues_eq x.1 x.2.1 x.2.2.1 x.2.2.2.1 _)
noncomputable def c_42 : Con := Con.shape sa_42 ba_42 (fun x => laws_markQueues x.1 x.2.1 x.2.2.1 x.2.2.2.1) out_42
theorem ok_42 : ConOk Try.prog 27 c_42 := Con.shape_ok sem_42

/-! 70 -/
def C_43 : Cfg := { T := tab, hint := fun _ => { mu := [15], keepR := [0, 1, 4, 5, 9], res := [4], base := 6, keepL := [(0, [0, 1, 5])], keepX := [(0, [1]), (1, [0, 1, 5])] }, mode := modeOf [(34, .sub)] }
noncomputable def O_43 : Oracle := Oracle.of [(34, c_40)]
def sh_43_l0 : List (Nat × S2) := [(0, .one (.all 1)), (1, .one (.dat I)), (5, .one (.dat I))]
def bs_43_l0 : List SB := [.cell (.dat (.sl (.sl I))), .deep I, .cell (.all 1), .deep I, .cell (.all 3), .var [.all 1]]
def xs_43_l0 : List (Nat × S2) := [(1, .one (.dat I))]
def xb_43_l0 : List SB := [.cell (.dat (.sl (.sl I))), .deep I, .cell (.all 1), .deep I, .cell (.all 3), .var [.all 1]]
noncomputable def lc_43_l0 : LCon := LCon.shape1 sh_43_l0 bs_43_l0 laws_markIntSS_v2_l0 (fun a => (.exit 0, encSt xs_43_l0 xb_43_l0 a))
noncomputable def L_43 : Loops := Loops.of [(0, lc_43_l0)]
theorem r_43_l0 (x : FSt sh_43_l0 bs_43_l0) : rdF C_43 O_43 L_43 70 0 0 sh_43_l0 bs_43_l0 x =
 laws_markIntSS_v2_l0K x.1 x.2.1 x.2.2.1 x.2.2.2.1 x.2.2.2.2.1 (fun y => some (Ex.normal, encSt sh_43_l0 bs_43_l0 y)) (fun a => some (Ex.exit 0, encSt xs_43_l0 xb_43_l0 a)) := by kernel_rfl
theorem lo_43_l0 : loF C_43 O_43 L_43 70 0 0 lc_43_l0 :=
 LCon.shape1_ok (fun a => by simp) fun x => (r_43_l0 x).trans (laws_markIntSS_v2_l0_eq x.1 x.2.1 x.2.2.1 x.2.2.2.1 x.2.2.2.2.1 _ _)
theorem lf_43 : LoopsFn Try.prog C_43 O_43 70 L_43 := LoopsFn.all (by kernel_rfl) (by decide) ⟨lo_43_l0, trivial⟩
def sa_43 : List S2 := [.one (.all 1), .one (.dat I)]
def ba_43 : List SB := [.cell (.dat (.sl (.sl I))), .deep I, .cell (.all 1), .deep I, .cell (.all 3), .var [.all 1]]
def out_43 (r : Int × (List (List Int)) × (List (List Int)) × (List (List Int))) : AV × Store := out1 (.one (.dat I)) [.cell (.dat (.sl (.sl I))), .deep I, .cell (.all 1), .deep I, .cell (.all 3), .var [.all 1]] (r.1, r.2.1, r.2.2.1, r.2.2.2, ())
theorem w_43 (x : FAr sa_43 ba_43) : evF C_43 O_43 L_43 70 sa_43 ba_43 x =
 laws_markIntSS_v2K x.1 x.2.1 x.2.2.1 x.2.2.2.1 (fun r => some (out_43 r)) := by kernel_rfl
theorem sem_43 : SemF 70 sa_43 ba_43 (fun x => laws_markIntSS_v2 x.1 x.2.1 x.2.2.1 x.2.2.2.1) out_43 :=
 sem_of folP okP tabP (Oracle.of_ok (Oracle.cons_ok ok_40 Oracle.nil_ok)) lf_43 fun x => (w_43 x).trans (laws_markIntSS_v2_eq x.1 x.2.1 x.2.2.1 x.2.2.2.1 _)
noncomputable def c_43 : Con := Con.shape sa_43 ba_43 (fun x => laws_markIntSS_v2 x.1 x.2.1 x.2.2.1 x.2.2.2.1) out_43
theorem ok_43 : ConOk Try.prog 70 c_43 := Con.shape_ok sem_43

/-! 27 -/
def C_44 : Cfg := { T := tab, hint := fun _ => { mu := [2], keepR := [1, 2, 4], res := [4], base := 5 }, mode := modeOf [(70, .whole)] }
noncomputable def O_44 : Oracle := Oracle.of [(70, c_43)]
noncomputable def L_44 : Loops := Loops.of []
theorem lf_44 : LoopsFn Try.prog C_44 O_44 27 L_44 := LoopsFn.nil' (by kernel_rfl)
def sa_44 : List S2 := [.agg [.all 1], .one (.dat I)]
def ba_44 : List SB := [.cell (.dat (.sl (.sl I))), .deep I, .cell (.all 1), .deep I, .cell (.all 3)]
def out_44 (r : Int × (List (List Int)) × (List (List Int)) × (List (List Int))) : AV × Store := out1 (.one (.dat I)) [.cell (.dat (.sl (.sl I))), .deep I, .cell (.all 1), .deep I, .cell (.all 3)] (r.1, r.2.1, r.2.2.1, r.2.2.2, ())
theorem w_44 (x : FAr sa_44 ba_44) : evF C_44 O_44 L_44 27 sa_44 ba_44 x =
 laws_markQueues_v2K x.1 x.2.1 x.2.2.1 x.2.2.2.1 (fun r => some (out_44 r)) := by kernel_rfl
theorem sem_44 : SemF 27 sa_44 ba_44 (fun x => laws_markQueues_v2 x.1 x.2.1 x.2.2.1 x.2.2.2.1) out_44 :=
 sem_of folP okP tabP (Oracle.of_ok (Oracle.cons_ok ok_43 Oracle.nil_ok)) lf_44 fun x => (w_44 x).trans (laws_markQueues_v2_eq x.1 x.2.1 x.2.2.1 x.2.2.2.1 _)
noncomputable def c_44 : Con := Con.shape sa_44 ba_44 (fun x => laws_markQueues_v2 x.1 x.2.1 x.2.2.1 x.2.2.2.1) out_44
theorem ok_44 : ConOk Try.prog 27 c_44 := Con.shape_ok sem_44

/-! 70 -/
def C_45 : Cfg := { T := tab, hint := fun _ => { mu := [15], keepR := [0, 1, 4, 5, 9], res := [4], base := 6, keepL := [(0, [0, 1, 5])], keepX := [(0, [1]), (1, [0, 1, 5])] }, mode := modeOf [(34, .sub)] }
noncomputable def O_45 : Oracle := Oracle.of [(34, c_40)]
def sh_45_l0 : List (Nat × S2) := [(0, .one (.all 3)), (1, .one (.dat I)), (5, .one (.dat I))]
def bs_45_l0 : List SB := [.cell (.dat (.sl (.sl I))), .deep I, .cell (.all 1), .deep I, .cell (.all 3), .var [.all 3]]
def xs_45_l0 : List (Nat × S2) := [(1, .one (.dat I))]
def xb_45_l0 : List SB := [.cell (.dat (.sl (.sl I))), .deep I, .cell (.all 1), .deep I, .cell (.all 3), .var [.all 3]]
noncomputable def lc_45_l0 : LCon := LCon.shape1 sh_45_l0 bs_45_l0 laws_markIntSS_v3_l0 (fun a => (.exit 0, encSt xs_45_l0 xb_45_l0 a))
noncomputable def L_45 : Loops := Loops.of [(0, lc_45_l0)]
theorem r_45_l0 (x : FSt sh_45_l0 bs_45_l0) : rdF C_45 O_45 L_45 70 0 0 sh_45_l0 bs_45_l0 x =
 laws_markIntSS_v3_l0K x.1 x.2.1 x.2.2.1 x.2.2.2.1 x.2.2.2.2.1 (fun y => some (Ex.normal, encSt sh_45_l0 bs_45_l0 y)) (fun a => some (Ex.exit 0, encSt xs_45_l0 xb_45_l0 a)) := by kernel_rfl
theorem lo_45_l0 : loF C_45 O_45 L_45 70 0 0 lc_45_l0 :=
 LCon.shape1_ok (fun a => by simp) fun x => (r_45_l0 x).trans (laws_markIntSS_v3_l0_eq x.1 x.2.1 x.2.2.1 x.2.2.2.1 x.2.2.2.2.1 _ _)
theorem lf_45 : LoopsFn Try.prog C_45 O_45 70 L_45 := LoopsFn.all (by kernel_rfl) (by decide) ⟨lo_45_l0, trivial⟩
def sa_45 : List S2 := [.one (.all 3), .one (.dat I)]
def ba_45 : List SB := [.cell (.dat (.sl (.sl I))), .deep I, .cell (.all 1), .deep I, .cell (.all 3), .var [.all 3]]
def out_45 (r : Int × (List (List Int)) × (List (List Int)) × (List (List Int))) : AV × Store := out1 (.one (.dat I)) [.cell (.dat (.sl (.sl I))), .deep I, .cell (.all 1), .deep I, .cell (.all 3), .var [.all 3]] (r.1, r.2.1, r.2.2.1, r.2.2.2, ())
theorem w_45 (x : FAr sa_45 ba_45) : evF C_45 O_45 L_45 70 sa_45 ba_45 x =
 laws_markIntSS_v3K x.1 x.2.1 x.2.2.1 x.2.2.2.1 (fun r => some (out_45 r)) := by kernel_rfl
theorem sem_45 : SemF 70 sa_45 ba_45 (fun x => laws_markIntSS_v3 x.1 x.2.1 x.2.2.1 x.2.2.2.1) out_45 :=
 sem_of folP okP tabP (Oracle.of_ok (Oracle.cons_ok ok_40 Oracle.nil_ok)) lf_45 fun x => (w_45 x).trans (laws_markIntSS_v3_eq x.1 x.2.1 x.2.2.1 x.2.2.2.1 _)
noncomputable def c_45 : Con := Con.shape sa_45 ba_45 (fun x => laws_markIntSS_v3 x.1 x.2.1 x.2.2.1 x.2.2.2.1) out_45
theorem ok_45 : ConOk Try.prog 70 c_45 := Con.shape_ok sem_45

/-! 27 -/
def C_46 : Cfg := { T := tab, hint := fun _ => { mu := [2], keepR := [1, 2, 4], res := [4], base := 5 }, mode := modeOf [(70, .whole)] }
noncomputable def O_46 : Oracle := Oracle.of [(70, c_45)]
noncomputable def L_46 : Loops := Loops.of []
theorem lf_46 : LoopsFn Try.prog C_46 O_46 27 L_46 := LoopsFn.nil' (by kernel_rfl)
def sa_46 : List S2 := [.agg [.all 3], .one (.dat I)]
def ba_46 : List SB := [.cell (.dat (.sl (.sl I))), .deep I, .cell (.all 1), .deep I, .cell (.all 3)]
def out_46 (r : Int × (List (List Int)) × (List (List Int)) × (List (List Int))) : AV × Store := out1 (.one (.dat I)) [.cell (.dat (.sl (.sl I))), .deep I, .cell (.all 1), .deep I, .cell (.all 3)] (r.1, r.2.1, r.2.2.1, r.2.2.2, ())
theorem w_46 (x : FAr sa_46 ba_46) : evF C_46 O_46 L_46 27 sa_46 ba_46 x =
 laws_markQueues_v3K x.1 x.2.1 x.2.2.1 x.2.2.2.1 (fun r => some (out_46 r)) := by kernel_rfl
theorem sem_46 : SemF 27 sa_46 ba_46 (fun x => laws_markQueues_v3 x.1 x.2.1 x.2.2.1 x.2.2.2.1) out_46 :=
 sem_of folP okP tabP (Oracle.of_ok (Oracle.cons_ok ok_45 Oracle.nil_ok)) lf_46 fun x => (w_46 x).trans (laws_markQueues_v3_eq x.1 x.2.1 x.2.2.1 x.2.2.2.1 _)
noncomputable def c_46 : Con := Con.shape sa_46 ba_46 (fun x => laws_markQueues_v3 x.1 x.2.1 x.2.2.1 x.2.2.2.1) out_46
theorem ok_46 : ConOk Try.prog 27 c_46 := Con.shape_ok sem_46

/-! 35 -/
def C_47 : Cfg := { T := tab, hint := fun _ => { keepR := [0, 1, 4, 5, 9, 17], res := [4], keepL := [(0, [0, 1, 5])], keepX := [(0, [1]), (1, [0, 1, 5])] }, mode := fun _ => .borrow }
noncomputable def O_47 : Oracle := Oracle.of []
def sh_47_l0 : List (Nat × S2) := [(0, .one (.dat (.sl I))), (1, .one (.dat I)), (5, .one (.dat I))]
def bs_47_l0 : List SB := []
def xs_47_l0 : List (Nat × S2) := [(1, .one (.dat I))]
def xb_47_l0 : List SB := []
def ys_47_l0 : List (Nat × S2) := [(4, .one (.dat I))]
def yb_47_l0 : List SB := []
noncomputable def lc_47_l0 : LCon := LCon.shape sh_47_l0 bs_47_l0 laws_heldIntS_l0 (fun a => (.exit 0, encSt xs_47_l0 xb_47_l0 a)) (fun b => encSt ys_47_l0 yb_47_l0 b)
noncomputable def L_47 : Loops := Loops.of [(0, lc_47_l0)]
theorem r_47_l0 (x : FSt sh_47_l0 bs_47_l0) : rdF C_47 O_47 L_47 35 0 0 sh_47_l0 bs_47_l0 x =
 laws_heldIntS_l0K x.1 x.2.1 x.2.2.1 (fun y => some (Ex.normal, encSt sh_47_l0 bs_47_l0 y)) (fun a => some (Ex.exit 0, encSt xs_47_l0 xb_47_l0 a)) (fun b => some (Ex.ret, encSt ys_47_l0 yb_47_l0 b)) := by kernel_rfl
theorem lo_47_l0 : loF C_47 O_47 L_47 35 0 0 lc_47_l0 :=
 LCon.shape_ok (fun a => by simp) fun x => (r_47_l0 x).trans (laws_heldIntS_l0_eq x.1 x.2.1 x.2.2.1 _ _ _)
theorem lf_47 : LoopsFn Try.prog C_47 O_47 35 L_47 := LoopsFn.all (by kernel_rfl) (by decide) ⟨lo_47_l0, trivial⟩
def sa_47 : List S2 := [.one (.dat (.sl I)), .one (.dat I)]
def ba_47 : List SB := []
def out_47 (r : Int) : AV × Store := out1 (.one (.dat I)) [] (r, ())
theorem w_47 (x : FAr sa_47 ba_47) : evF C_47 O_47 L_47 35 sa_47 ba_47 x =
 laws_heldIntSK x.1 x.2.1 (fun r => some (out_47 r)) := by kernel_rfl
theorem sem_47 : SemF 35 sa_47 ba_47 (fun x => laws_heldIntS x.1 x.2.1) out_47 :=
 sem_of folP okP tabP (Oracle.of_ok Oracle.nil_ok) lf_47 fun x => (w_47 x).trans (laws_heldIntS_eq x.1 x.2.1 _)
noncomputable def c_47 : Con := Con.shape sa_47 ba_47 (fun x => laws_heldIntS x.1 x.2.1) out_47
theorem ok_47 : ConOk Try.prog 35 c_47 := Con.shape_ok sem_47

/-! 71 -/
def C_48 : Cfg := { T := tab, hint := fun _ => { keepR := [0, 1, 4, 5, 9, 19], res := [4], keepL := [(0, [0, 1, 5])], keepX := [(0, [1]), (1, [0, 1, 5])] }, mode := fun _ => .borrow }
noncomputable def O_48 : Oracle := Oracle.of [(35, c_47)]
def sh_48_l0 : List (Nat × S2) := [(0, .one (.dat (.sl (.sl I)))), (1, .one (.dat I)), (5, .one (.dat I))]
def bs_48_l0 : List SB := []
def xs_48_l0 : List (Nat × S2) := [(1, .one (.dat I))]
def xb_48_l0 : List SB := []
def ys_48_l0 : List (Nat × S2) := [(4, .one (.dat I))]
def yb_48_l0 : List SB := []
noncomputable def lc_48_l0 : LCon := LCon.shape sh_48_l0 bs_48_l0 laws_heldIntSS_l0 (fun a => (.exit 0, encSt xs_48_l0 xb_48_l0 a)) (fun b => encSt ys_48_l0 yb_48_l0 b)
noncomputable def L_48 : Loops := Loops.of [(0, lc_48_l0)]
theorem r_48_l0 (x : FSt sh_48_l0 bs_48_l0) : rdF C_48 O_48 L_48 71 0 0 sh_48_l0 bs_48_l0 x =
 laws_heldIntSS_l0K x.1 x.2.1 x.2.2.1 (fun y => some (Ex.normal, encSt sh_48_l0 bs_48_l0 y)) (fun a => some (Ex.exit 0, encSt xs_48_l0 xb_48_l0 a)) (fun b => some (Ex.ret, encSt ys_48_l0 yb_48_l0 b)) := by kernel_rfl
theorem lo_48_l0 : loF C_48 O_48 L_48 71 0 0 lc_48_l0 :=
 LCon.shape_ok (fun a => by simp) fun x => (r_48_l0 x).trans (laws_heldIntSS_l0_eq x.1 x.2.1 x.2.2.1 _ _ _)
theorem lf_48 : LoopsFn Try.prog C_48 O_48 71 L_48 := LoopsFn.all (by kernel_rfl) (by decide) ⟨lo_48_l0, trivial⟩
def sa_48 : List S2 := [.one (.dat (.sl (.sl I))), .one (.dat I)]
def ba_48 : List SB := []
def out_48 (r : Int) : AV × Store := out1 (.one (.dat I)) [] (r, ())
theorem w_48 (x : FAr sa_48 ba_48) : evF C_48 O_48 L_48 71 sa_48 ba_48 x =
 laws_heldIntSSK x.1 x.2.1 (fun r => some (out_48 r)) := by kernel_rfl
theorem sem_48 : SemF 71 sa_48 ba_48 (fun x => laws_heldIntSS x.1 x.2.1) out_48 :=
 sem_of folP okP tabP (Oracle.of_ok (Oracle.cons_ok ok_47 Oracle.nil_ok)) lf_48 fun x => (w_48 x).trans (laws_heldIntSS_eq x.1 x.2.1 _)
noncomputable def c_48 : Con := Con.shape sa_48 ba_48 (fun x => laws_heldIntSS x.1 x.2.1) out_48
theorem ok_48 : ConOk Try.prog 71 c_48 := Con.shape_ok sem_48

/-! 28 -/
def C_49 : Cfg := { T := tab, hint := fun _ => { keepR := [1, 2, 4, 10], res := [4] }, mode := fun _ => .borrow }
noncomputable def O_49 : Oracle := Oracle.of [(71, c_48)]
noncomputable def L_49 : Loops := Loops.of []
theorem lf_49 : LoopsFn Try.prog C_49 O_49 28 L_49 := LoopsFn.nil' (by kernel_rfl)
def sa_49 : List S2 := [.one (.dat tQueues), .one (.dat I)]
def ba_49 : List SB := []
def out_49 (r : Int) : AV × Store := out1 (.one (.dat I)) [] (r, ())
theorem w_49 (x : FAr sa_49 ba_49) : evF C_49 O_49 L_49 28 sa_49 ba_49 x =
 laws_heldQueuesK x.1 x.2.1 (fun r => some (out_49 r)) := by kernel_rfl
theorem sem_49 : SemF 28 sa_49 ba_49 (fun x => laws_heldQueues x.1 x.2.1) out_49 :=
 sem_of folP okP tabP (Oracle.of_ok (Oracle.cons_ok ok_48 Oracle.nil_ok)) lf_49 fun x => (w_49 x).trans (laws_heldQueues_eq x.1 x.2.1 _)
noncomputable def c_49 : Con := Con.shape sa_49 ba_49 (fun x => laws_heldQueues x.1 x.2.1) out_49
theorem ok_49 : ConOk Try.prog 28 c_49 := Con.shape_ok sem_49

/-! 4 -/
def C_50 : Cfg := { T := tab, hint := fun _ => { mu := [8, 10, 11, 16, 32, 37], keepR := [1, 2, 3, 6, 7, 8, 9, 10, 11, 12, 13, 14, 15, 16, 17, 22, 48, 53, 69, 77, 80, 97, 102, 105], res := [6], order := [(10, [(0, .read)] ++ tns .forced 1 4)] }, mode := modeOf [(27, .whole)] }
noncomputable def O_50 : Oracle := Oracle.of [(20, c_21), (23, c_28), (24, c_36), (25, c_31), (26, c_39), (27, Con.shape2 sa_44 ba_44 (fun x => laws_markQueues_v2 x.1 x.2.1 x.2.2.1 x.2.2.2.1) out_44 (c_46)), (28, c_49)]
noncomputable def L_50 : Loops := Loops.of []
theorem lf_50 : LoopsFn Try.prog C_50 O_50 4 L_50 := LoopsFn.nil' (by kernel_rfl)
def sa_50 : List S2 := [.one (.dat tQueues), .one (.dat I), .one (.dat I)]
def ba_50 : List SB := []
def out_50 (r : Bool) : AV × Store := out1 (.one (.dat .bool)) [] (r, ())
theorem w_50 (x : FAr sa_50 ba_50) : evF C_50 O_50 L_50 4 sa_50 ba_50 x =
 laws_FnExactReadyAddK x.1 x.2.1 x.2.2.1 (fun r => some (out_50 r)) := by kernel_rfl
theorem sem_50 : SemF 4 sa_50 ba_50 (fun x => laws_FnExactReadyAdd x.1 x.2.1 x.2.2.1) out_50 :=
 sem_of folP okP tabP (Oracle.of_ok (Oracle.cons_ok ok_21 (Oracle.cons_ok ok_28 (Oracle.cons_ok ok_36 (Oracle.cons_ok ok_31 (Oracle.cons_ok ok_39 (Oracle.cons_ok (Con.shape2_ok sem_44 ok_46) (Oracle.cons_ok ok_49 Oracle.nil_ok)))))))) lf_50 fun x => (w_50 x).trans (laws_FnExactReadyAdd_eq x.1 x.2.1 x.2.2.1 _)
noncomputable def c_50 : Con := Con.shape sa_50 ba_50 (fun x => laws_FnExactReadyAdd x.1 x.2.1 x.2.2.1) out_50
theorem ok_50 : ConOk Try.prog 4 c_50 := Con.shape_ok sem_50

/-! 72 -/
def C_51 : Cfg := { T := tab, hint := fun _ => { keepR := [1, 2, 3, 13, 22], res := [2], keepL := [(0, [1, 3])], keepX := [(0, []), (1, [1, 3])] }, mode := fun _ => .borrow }
noncomputable def O_51 : Oracle := Oracle.of [(64, c_33)]
def sh_51_l0 : List (Nat × S2) := [(1, .one (.cdat tQueues 0)), (3, .one (.dat I))]
def bs_51_l0 : List SB := []
def xs_51_l0 : List (Nat × S2) := []
def xb_51_l0 : List SB := []
def ys_51_l0 : List (Nat × S2) := [(2, .one (.dat I))]
def yb_51_l0 : List SB := []
noncomputable def lc_51_l0 : LCon := LCon.shape sh_51_l0 bs_51_l0 spec_ReadyNext_l0 (fun a => (.exit 0, encSt xs_51_l0 xb_51_l0 a)) (fun b => encSt ys_51_l0 yb_51_l0 b)
noncomputable def L_51 : Loops := Loops.of [(0, lc_51_l0)]
theorem r_51_l0 (x : FSt sh_51_l0 bs_51_l0) : rdF C_51 O_51 L_51 72 0 0 sh_51_l0 bs_51_l0 x =
 spec_ReadyNext_l0K x.1 x.2.1 (fun y => some (Ex.normal, encSt sh_51_l0 bs_51_l0 y)) (fun a => some (Ex.exit 0, encSt xs_51_l0 xb_51_l0 a)) (fun b => some (Ex.ret, encSt ys_51_l0 yb_51_l0 b)) := by kernel_rfl
theorem lo_51_l0 : loF C_51 O_51 L_51 72 0 0 lc_51_l0 :=
 LCon.shape_ok (fun a => by simp) fun x => (r_51_l0 x).trans (spec_ReadyNext_l0_eq x.1 x.2.1 _ _ _)
theorem lf_51 : LoopsFn Try.prog C_51 O_51 72 L_51 := LoopsFn.all (by kernel_rfl) (by decide) ⟨lo_51_l0, trivial⟩
def sa_51 : List S2 := [.one (.dat tQueues)]
def ba_51 : List SB := []
def out_51 (r : Int) : AV × Store := out1 (.one (.dat I)) [] (r, ())
theorem w_51 (x : FAr sa_51 ba_51) : evF C_51 O_51 L_51 72 sa_51 ba_51 x =
 spec_ReadyNextK x.1 (fun r => some (out_51 r)) := by kernel_rfl
theorem sem_51 : SemF 72 sa_51 ba_51 (fun x => spec_ReadyNext x.1) out_51 :=
 sem_of folP okP tabP (Oracle.of_ok (Oracle.cons_ok ok_33 Oracle.nil_ok)) lf_51 fun x => (w_51 x).trans (spec_ReadyNext_eq x.1 _)
noncomputable def c_51 : Con := Con.shape sa_51 ba_51 (fun x => spec_ReadyNext x.1) out_51
theorem ok_51 : ConOk Try.prog 72 c_51 := Con.shape_ok sem_51

/-! 29 -/
def C_52 : Cfg := { T := tab, hint := fun _ => { mu := [2, 3, 11, 29, 32], keepR := [1, 2, 3, 4, 5, 8, 15], res := [2], order := [(7, tns .read 3 7 ++ [(2, .pure), (11, .pure), (12, .pure), (0, .aside [] [29]), (1, .aside [] [29]), (10, .forced), (13, .forced), (14, .forced), (15, .forced)])], fillR := true }, mode := fun _ => .borrow }
noncomputable def O_52 : Oracle := Oracle.of [(64, c_33), (66, c_34), (67, c_35), (72, c_51)]
noncomputable def L_52 : Loops := Loops.of []
theorem lf_52 : LoopsFn Try.prog C_52 O_52 29 L_52 := LoopsFn.nil' (by kernel_rfl)
def sa_52 : List S2 := [.one (.dat tQueues)]
def ba_52 : List SB := []
def out_52 (r : (List (List Int))) : AV × Store := out1 (.agg [.all 0]) [.deep I] (r, ())
theorem w_52 (x : FAr sa_52 ba_52) : evF C_52 O_52 L_52 29 sa_52 ba_52 x =
 spec_ReadyTurnK x.1 (fun r => some (out_52 r)) := by kernel_rfl
theorem sem_52 : SemF 29 sa_52 ba_52 (fun x => spec_ReadyTurn x.1) out_52 :=
 sem_of folP okP tabP (Oracle.of_ok (Oracle.cons_ok ok_33 (Oracle.cons_ok ok_34 (Oracle.cons_ok ok_35 (Oracle.cons_ok ok_51 Oracle.nil_ok))))) lf_52 fun x => (w_52 x).trans (spec_ReadyTurn_eq x.1 _)
noncomputable def c_52 : Con := Con.shape sa_52 ba_52 (fun x => spec_ReadyTurn x.1) out_52
theorem ok_52 : ConOk Try.prog 29 c_52 := Con.shape_ok sem_52

/-! 73 -/
def C_53 : Cfg := { T := tab, hint := fun _ => { mu := [1, 12, 18, 24], keepR := [1, 2, 3, 7], res := [], base := 3, order := [(4, [(3, .read), (4, .read)] ++ tns .read 6 4 ++ [(2, .pure), (0, .aside [] [18]), (1, .aside [] [18]), (5, .forced)] ++ tns .forced 10 4)] }, mode := fun _ => .borrow }
noncomputable def O_53 : Oracle := Oracle.of [(59, c_16), (81, c_22)]
noncomputable def L_53 : Loops := Loops.of []
theorem lf_53 : LoopsFn Try.prog C_53 O_53 73 L_53 := LoopsFn.nil' (by kernel_rfl)
def sa_53 : List S2 := [.agg [.all 1]]
def ba_53 : List SB := [.var [.e0 (.sl I)], .deep I, .cell (.all 1)]
def out_53 (r : (List (List Int))) : AV × Store := outT [] [.var [.e0 (.sl I)], .deep I, .cell (.all 1)] (r, ())
theorem w_53 (x : FAr sa_53 ba_53) : evF C_53 O_53 L_53 73 sa_53 ba_53 x =
 impl_Queues_turnK x.1 (fun r => some (out_53 r)) := by kernel_rfl
theorem sem_53 : SemF 73 sa_53 ba_53 (fun x => impl_Queues_turn x.1) out_53 :=
 sem_of folP okP tabP (Oracle.of_ok (Oracle.cons_ok ok_16 (Oracle.cons_ok ok_22 Oracle.nil_ok))) lf_53 fun x => (w_53 x).trans (impl_Queues_turn_eq x.1 _)
noncomputable def c_53 : Con := Con.shape sa_53 ba_53 (fun x => impl_Queues_turn x.1) out_53
theorem ok_53 : ConOk Try.prog 73 c_53 := Con.shape_ok sem_53

/-! 30 -/
def C_54 : Cfg := { T := tab, hint := fun _ => { mu := [2, 3, 9], keepR := [1, 2, 3, 6], res := [2], fillR := true }, mode := modeOf [(73, .whole)] }
noncomputable def O_54 : Oracle := Oracle.of [(21, c_12), (57, c_17), (73, c_53)]
noncomputable def L_54 : Loops := Loops.of []
theorem lf_54 : LoopsFn Try.prog C_54 O_54 30 L_54 := LoopsFn.nil' (by kernel_rfl)
def sa_54 : List S2 := [.one (.dat tQueues)]
def ba_54 : List SB := []
def out_54 (r : (List (List Int))) : AV × Store := out1 (.agg [.all 0]) [.deep I] (r, ())
theorem w_54 (x : FAr sa_54 ba_54) : evF C_54 O_54 L_54 30 sa_54 ba_54 x =
 impl_ReadyTurnK x.1 (fun r => some (out_54 r)) := by kernel_rfl
theorem sem_54 : SemF 30 sa_54 ba_54 (fun x => impl_ReadyTurn x.1) out_54 :=
 sem_of folP okP tabP (Oracle.of_ok (Oracle.cons_ok ok_12 (Oracle.cons_ok ok_17 (Oracle.cons_ok ok_53 Oracle.nil_ok)))) lf_54 fun x => (w_54 x).trans (impl_ReadyTurn_eq x.1 _)
noncomputable def c_54 : Con := Con.shape sa_54 ba_54 (fun x => impl_ReadyTurn x.1) out_54
theorem ok_54 : ConOk Try.prog 30 c_54 := Con.shape_ok sem_54

/-! 5 -/
def C_55 : Cfg := { T := tab, hint := fun _ => { mu := [4, 5, 6, 10, 20, 22], keepR := [1, 2, 3, 4, 5, 6, 7, 8, 9, 10, 15, 26, 31, 42, 50, 53, 60, 65, 68], res := [2], order := [(10, [(0, .read)] ++ tns .forced 1 4)] }, mode := modeOf [(27, .whole)] }
noncomputable def O_55 : Oracle := Oracle.of [(23, c_28), (25, c_31), (26, c_39), (27, Con.shape2 sa_44 ba_44 (fun x => laws_markQueues_v2 x.1 x.2.1 x.2.2.1 x.2.2.2.1) out_44 (c_46)), (28, c_49), (29, c_52), (30, c_54)]
noncomputable def L_55 : Loops := Loops.of []
theorem lf_55 : LoopsFn Try.prog C_55 O_55 5 L_55 := LoopsFn.nil' (by kernel_rfl)
def sa_55 : List S2 := [.one (.dat tQueues)]
def ba_55 : List SB := []
def out_55 (r : Bool) : AV × Store := out1 (.one (.dat .bool)) [] (r, ())
theorem w_55 (x : FAr sa_55 ba_55) : evF C_55 O_55 L_55 5 sa_55 ba_55 x =
 laws_FnExactReadyTurnK x.1 (fun r => some (out_55 r)) := by kernel_rfl
theorem sem_55 : SemF 5 sa_55 ba_55 (fun x => laws_FnExactReadyTurn x.1) out_55 :=
 sem_of folP okP tabP (Oracle.of_ok (Oracle.cons_ok ok_28 (Oracle.cons_ok ok_31 (Oracle.cons_ok ok_39 (Oracle.cons_ok (Con.shape2_ok sem_44 ok_46) (Oracle.cons_ok ok_49 (Oracle.cons_ok ok_52 (Oracle.cons_ok ok_54 Oracle.nil_ok)))))))) lf_55 fun x => (w_55 x).trans (laws_FnExactReadyTurn_eq x.1 _)
noncomputable def c_55 : Con := Con.shape sa_55 ba_55 (fun x => laws_FnExactReadyTurn x.1) out_55
theorem ok_55 : ConOk Try.prog 5 c_55 := Con.shape_ok sem_55

/-! 31 -/
def C_56 : Cfg := { T := tab, hint := fun _ => { mu := [2, 7, 26], keepR := [1, 2, 4, 5, 6, 15, 19], res := [4], keepL := [(0, [1, 2, 5, 6])], keepX := [(0, [5]), (1, [1, 2, 5, 6])] }, mode := fun _ => .borrow }
noncomputable def O_56 : Oracle := Oracle.of [(29, c_52), (64, c_33), (65, c_32), (72, c_51)]
def sh_56_l0 : List (Nat × S2) := [(1, .one (.dat I)), (2, .one (.ptr 0 0 0)), (5, .one (.all 1)), (6, .one (.dat I))]
def bs_56_l0 : List SB := [.one tQueues, .data I]
def xs_56_l0 : List (Nat × S2) := [(5, .one (.all 0))]
def xb_56_l0 : List SB := [.data I]
noncomputable def lc_56_l0 : LCon := LCon.shape1 sh_56_l0 bs_56_l0 spec_RunTurns_l0 (fun a => (.exit 0, encSt xs_56_l0 xb_56_l0 a))
noncomputable def L_56 : Loops := Loops.of [(0, lc_56_l0)]
theorem r_56_l0 (x : FSt sh_56_l0 bs_56_l0) : rdF C_56 O_56 L_56 31 0 0 sh_56_l0 bs_56_l0 x =
 spec_RunTurns_l0K x.1 x.2.1 x.2.2.1 x.2.2.2.1 (fun y => some (Ex.normal, encSt sh_56_l0 bs_56_l0 y)) (fun a => some (Ex.exit 0, encSt xs_56_l0 xb_56_l0 a)) := by kernel_rfl
theorem lo_56_l0 : loF C_56 O_56 L_56 31 0 0 lc_56_l0 :=
 LCon.shape1_ok (fun a => by simp) fun x => (r_56_l0 x).trans (spec_RunTurns_l0_eq x.1 x.2.1 x.2.2.1 x.2.2.2.1 _ _)
theorem lf_56 : LoopsFn Try.prog C_56 O_56 31 L_56 := LoopsFn.all (by kernel_rfl) (by decide) ⟨lo_56_l0, trivial⟩
def sa_56 : List S2 := [.one (.dat tQueues), .one (.dat I)]
def ba_56 : List SB := []
def out_56 (r : (List Int)) : AV × Store := out1 (.one (.all 0)) [.data I] (r, ())
theorem w_56 (x : FAr sa_56 ba_56) : evF C_56 O_56 L_56 31 sa_56 ba_56 x =
 spec_RunTurnsK x.1 x.2.1 (fun r => some (out_56 r)) := by kernel_rfl
theorem sem_56 : SemF 31 sa_56 ba_56 (fun x => spec_RunTurns x.1 x.2.1) out_56 :=
 sem_of folP okP tabP (Oracle.of_ok (Oracle.cons_ok ok_52 (Oracle.cons_ok ok_33 (Oracle.cons_ok ok_32 (Oracle.cons_ok ok_51 Oracle.nil_ok))))) lf_56 fun x => (w_56 x).trans (spec_RunTurns_eq x.1 x.2.1 _)
noncomputable def c_56 : Con := Con.shape sa_56 ba_56 (fun x => spec_RunTurns x.1 x.2.1) out_56
theorem ok_56 : ConOk Try.prog 31 c_56 := Con.shape_ok sem_56

/-! 74 -/
def C_57 : Cfg := { T := tab, hint := fun _ => { keepR := [1, 2, 4], res := [4] }, mode := fun _ => .borrow }
noncomputable def O_57 : Oracle := Oracle.of [(21, c_12), (85, c_7)]
noncomputable def L_57 : Loops := Loops.of []
theorem lf_57 : LoopsFn Try.prog C_57 O_57 74 L_57 := LoopsFn.nil' (by kernel_rfl)
def sa_57 : List S2 := [.one (.dat tQueues), .one (.dat I)]
def ba_57 : List SB := []
def out_57 (r : Bool) : AV × Store := out1 (.one (.dat .bool)) [] (r, ())
theorem w_57 (x : FAr sa_57 ba_57) : evF C_57 O_57 L_57 74 sa_57 ba_57 x =
 impl_turnedK x.1 x.2.1 (fun r => some (out_57 r)) := by kernel_rfl
theorem sem_57 : SemF 74 sa_57 ba_57 (fun x => impl_turned x.1 x.2.1) out_57 :=
 sem_of folP okP tabP (Oracle.of_ok (Oracle.cons_ok ok_12 (Oracle.cons_ok ok_7 Oracle.nil_ok))) lf_57 fun x => (w_57 x).trans (impl_turned_eq x.1 x.2.1 _)
noncomputable def c_57 : Con := Con.shape sa_57 ba_57 (fun x => impl_turned x.1 x.2.1) out_57
theorem ok_57 : ConOk Try.prog 74 c_57 := Con.shape_ok sem_57

/-! 73 -/
def C_58 : Cfg := { T := tab, hint := fun _ => { mu := [1, 12, 18, 24], keepR := [1, 2, 3, 7], res := [], base := 3, order := [(4, [(3, .read), (4, .read)] ++ tns .read 6 4 ++ [(2, .pure), (0, .aside [] [18]), (1, .aside [] [18]), (5, .forced)] ++ tns .forced 10 4)] }, mode := fun _ => .borrow }
noncomputable def O_58 : Oracle := Oracle.of [(59, c_16), (81, c_22)]
noncomputable def L_58 : Loops := Loops.of []
theorem lf_58 : LoopsFn Try.prog C_58 O_58 73 L_58 := LoopsFn.nil' (by kernel_rfl)
def sa_58 : List S2 := [.agg [.all 2]]
def ba_58 : List SB := [.cell (.all 2), .data I, .deep I]
def out_58 (r : (List Int) × (List (List Int))) : AV × Store := outT [] [.cell (.all 2), .data I, .deep I] (r.1, r.2, ())
theorem w_58 (x : FAr sa_58 ba_58) : evF C_58 O_58 L_58 73 sa_58 ba_58 x =
 impl_Queues_turn_v2K x.1 x.2.1 (fun r => some (out_58 r)) := by kernel_rfl
theorem sem_58 : SemF 73 sa_58 ba_58 (fun x => impl_Queues_turn_v2 x.1 x.2.1) out_58 :=
 sem_of folP okP tabP (Oracle.of_ok (Oracle.cons_ok ok_16 (Oracle.cons_ok ok_22 Oracle.nil_ok))) lf_58 fun x => (w_58 x).trans (impl_Queues_turn_v2_eq x.1 x.2.1 _)
noncomputable def c_58 : Con := Con.shape sa_58 ba_58 (fun x => impl_Queues_turn_v2 x.1 x.2.1) out_58
theorem ok_58 : ConOk Try.prog 73 c_58 := Con.shape_ok sem_58

/-! 32 -/
def C_59 : Cfg := { T := tab, hint := fun _ => { mu := [4, 5, 13, 15], keepR := [1, 2, 4, 5, 6, 7, 11, 17, 18, 19], res := [4], keepL := [(0, [5, 6, 17, 18])], keepX := [(0, [6]), (1, [5, 6, 17, 18])] }, mode := modeOf [(73, .whole)] }
noncomputable def O_59 : Oracle := Oracle.of [(57, c_17), (62, c_23), (73, c_58), (74, c_57)]
def sh_59_l0 : List (Nat × S2) := [(5, .one (.ptr 0 0 0)), (6, .one (.all 1)), (17, .one (.dat I)), (18, .one (.dat I))]
def bs_59_l0 : List SB := [.cell (.all 2), .data I, .deep I]
def xs_59_l0 : List (Nat × S2) := [(6, .one (.all 0))]
def xb_59_l0 : List SB := [.data I]
noncomputable def lc_59_l0 : LCon := LCon.shape1 sh_59_l0 bs_59_l0 impl_RunTurns_l0 (fun a => (.exit 0, encSt xs_59_l0 xb_59_l0 a))
noncomputable def L_59 : Loops := Loops.of [(0, lc_59_l0)]
theorem r_59_l0 (x : FSt sh_59_l0 bs_59_l0) : rdF C_59 O_59 L_59 32 0 0 sh_59_l0 bs_59_l0 x =
 impl_RunTurns_l0K x.1 x.2.1 x.2.2.1 x.2.2.2.1 (fun y => some (Ex.normal, encSt sh_59_l0 bs_59_l0 y)) (fun a => some (Ex.exit 0, encSt xs_59_l0 xb_59_l0 a)) := by kernel_rfl
theorem lo_59_l0 : loF C_59 O_59 L_59 32 0 0 lc_59_l0 :=
 LCon.shape1_ok (fun a => by simp) fun x => (r_59_l0 x).trans (impl_RunTurns_l0_eq x.1 x.2.1 x.2.2.1 x.2.2.2.1 _ _)
theorem lf_59 : LoopsFn Try.prog C_59 O_59 32 L_59 := LoopsFn.all (by kernel_rfl) (by decide) ⟨lo_59_l0, trivial⟩
def sa_59 : List S2 := [.one (.dat tQueues), .one (.dat I)]
def ba_59 : List SB := []
def out_59 (r : (List Int)) : AV × Store := out1 (.one (.all 0)) [.data I] (r, ())
theorem w_59 (x : FAr sa_59 ba_59) : evF C_59 O_59 L_59 32 sa_59 ba_59 x =
 impl_RunTurnsK x.1 x.2.1 (fun r => some (out_59 r)) := by kernel_rfl
theorem sem_59 : SemF 32 sa_59 ba_59 (fun x => impl_RunTurns x.1 x.2.1) out_59 :=
 sem_of folP okP tabP (Oracle.of_ok (Oracle.cons_ok ok_17 (Oracle.cons_ok ok_23 (Oracle.cons_ok ok_58 (Oracle.cons_ok ok_57 Oracle.nil_ok))))) lf_59 fun x => (w_59 x).trans (impl_RunTurns_eq x.1 x.2.1 _)
noncomputable def c_59 : Con := Con.shape sa_59 ba_59 (fun x => impl_RunTurns x.1 x.2.1) out_59
theorem ok_59 : ConOk Try.prog 32 c_59 := Con.shape_ok sem_59

/-! 70 -/
def C_60 : Cfg := { T := tab, hint := fun _ => { mu := [15], keepR := [0, 1, 4, 5, 9], res := [4], base := 3, keepL := [(0, [0, 1, 5])], keepX := [(0, [1]), (1, [0, 1, 5])] }, mode := modeOf [(34, .sub)] }
noncomputable def O_60 : Oracle := Oracle.of [(34, c_40)]
def sh_60_l0 : List (Nat × S2) := [(0, .one (.all 0)), (1, .one (.dat I)), (5, .one (.dat I))]
def bs_60_l0 : List SB := [.deep I, .cell (.all 0), .var [.all 0]]
def xs_60_l0 : List (Nat × S2) := [(1, .one (.dat I))]
def xb_60_l0 : List SB := [.deep I, .cell (.all 0), .var [.all 0]]
noncomputable def lc_60_l0 : LCon := LCon.shape1 sh_60_l0 bs_60_l0 laws_markIntSS_v4_l0 (fun a => (.exit 0, encSt xs_60_l0 xb_60_l0 a))
noncomputable def L_60 : Loops := Loops.of [(0, lc_60_l0)]
theorem r_60_l0 (x : FSt sh_60_l0 bs_60_l0) : rdF C_60 O_60 L_60 70 0 0 sh_60_l0 bs_60_l0 x =
 laws_markIntSS_v4_l0K x.1 x.2.1 x.2.2.1 (fun y => some (Ex.normal, encSt sh_60_l0 bs_60_l0 y)) (fun a => some (Ex.exit 0, encSt xs_60_l0 xb_60_l0 a)) := by kernel_rfl
theorem lo_60_l0 : loF C_60 O_60 L_60 70 0 0 lc_60_l0 :=
 LCon.shape1_ok (fun a => by simp) fun x => (r_60_l0 x).trans (laws_markIntSS_v4_l0_eq x.1 x.2.1 x.2.2.1 _ _)
theorem lf_60 : LoopsFn Try.prog C_60 O_60 70 L_60 := LoopsFn.all (by kernel_rfl) (by decide) ⟨lo_60_l0, trivial⟩
def sa_60 : List S2 := [.one (.all 0), .one (.dat I)]
def ba_60 : List SB := [.deep I, .cell (.all 0), .var [.all 0]]
def out_60 (r : Int × (List (List Int))) : AV × Store := out1 (.one (.dat I)) [.deep I, .cell (.all 0), .var [.all 0]] (r.1, r.2, ())
theorem w_60 (x : FAr sa_60 ba_60) : evF C_60 O_60 L_60 70 sa_60 ba_60 x =
 laws_markIntSS_v4K x.1 x.2.1 (fun r => some (out_60 r)) := by kernel_rfl
theorem sem_60 : SemF 70 sa_60 ba_60 (fun x => laws_markIntSS_v4 x.1 x.2.1) out_60 :=
 sem_of folP okP tabP (Oracle.of_ok (Oracle.cons_ok ok_40 Oracle.nil_ok)) lf_60 fun x => (w_60 x).trans (laws_markIntSS_v4_eq x.1 x.2.1 _)
noncomputable def c_60 : Con := Con.shape sa_60 ba_60 (fun x => laws_markIntSS_v4 x.1 x.2.1) out_60
theorem ok_60 : ConOk Try.prog 70 c_60 := Con.shape_ok sem_60

/-! 27 -/
def C_61 : Cfg := { T := tab, hint := fun _ => { mu := [2], keepR := [1, 2, 4], res := [4], base := 2 }, mode := modeOf [(70, .whole)] }
noncomputable def O_61 : Oracle := Oracle.of [(70, c_60)]
noncomputable def L_61 : Loops := Loops.of []
theorem lf_61 : LoopsFn Try.prog C_61 O_61 27 L_61 := LoopsFn.nil' (by kernel_rfl)
def sa_61 : List S2 := [.agg [.all 0], .one (.dat I)]
def ba_61 : List SB := [.deep I, .cell (.all 0)]
def out_61 (r : Int × (List (List Int))) : AV × Store := out1 (.one (.dat I)) [.deep I, .cell (.all 0)] (r.1, r.2, ())
theorem w_61 (x : FAr sa_61 ba_61) : evF C_61 O_61 L_61 27 sa_61 ba_61 x =
 laws_markQueues_v4K x.1 x.2.1 (fun r => some (out_61 r)) := by kernel_rfl
theorem sem_61 : SemF 27 sa_61 ba_61 (fun x => laws_markQueues_v4 x.1 x.2.1) out_61 :=
 sem_of folP okP tabP (Oracle.of_ok (Oracle.cons_ok ok_60 Oracle.nil_ok)) lf_61 fun x => (w_61 x).trans (laws_markQueues_v4_eq x.1 x.2.1 _)
noncomputable def c_61 : Con := Con.shape sa_61 ba_61 (fun x => laws_markQueues_v4 x.1 x.2.1) out_61
theorem ok_61 : ConOk Try.prog 27 c_61 := Con.shape_ok sem_61

/-! 70 -/
def C_62 : Cfg := { T := tab, hint := fun _ => { mu := [15], keepR := [0, 1, 4, 5, 9], res := [4], base := 4, keepL := [(0, [0, 1, 5])], keepX := [(0, [1]), (1, [0, 1, 5])] }, mode := modeOf [(34, .sub)] }
noncomputable def O_62 : Oracle := Oracle.of [(34, c_40)]
def sh_62_l0 : List (Nat × S2) := [(0, .one (.all 0)), (1, .one (.dat I)), (5, .one (.dat I))]
def bs_62_l0 : List SB := [.deep I, .cell (.all 0), .data I, .var [.all 0]]
def xs_62_l0 : List (Nat × S2) := [(1, .one (.dat I))]
def xb_62_l0 : List SB := [.deep I, .cell (.all 0), .data I, .var [.all 0]]
noncomputable def lc_62_l0 : LCon := LCon.shape1 sh_62_l0 bs_62_l0 laws_markIntSS_v5_l0 (fun a => (.exit 0, encSt xs_62_l0 xb_62_l0 a))
noncomputable def L_62 : Loops := Loops.of [(0, lc_62_l0)]
theorem r_62_l0 (x : FSt sh_62_l0 bs_62_l0) : rdF C_62 O_62 L_62 70 0 0 sh_62_l0 bs_62_l0 x =
 laws_markIntSS_v5_l0K x.1 x.2.1 x.2.2.1 x.2.2.2.1 (fun y => some (Ex.normal, encSt sh_62_l0 bs_62_l0 y)) (fun a => some (Ex.exit 0, encSt xs_62_l0 xb_62_l0 a)) := by kernel_rfl
theorem lo_62_l0 : loF C_62 O_62 L_62 70 0 0 lc_62_l0 :=
 LCon.shape1_ok (fun a => by simp) fun x => (r_62_l0 x).trans (laws_markIntSS_v5_l0_eq x.1 x.2.1 x.2.2.1 x.2.2.2.1 _ _)
theorem lf_62 : LoopsFn Try.prog C_62 O_62 70 L_62 := LoopsFn.all (by kernel_rfl) (by decide) ⟨lo_62_l0, trivial⟩
def sa_62 : List S2 := [.one (.all 0), .one (.dat I)]
def ba_62 : List SB := [.deep I, .cell (.all 0), .data I, .var [.all 0]]
def out_62 (r : Int × (List (List Int)) × (List Int)) : AV × Store := out1 (.one (.dat I)) [.deep I, .cell (.all 0), .data I, .var [.all 0]] (r.1, r.2.1, r.2.2, ())
theorem w_62 (x : FAr sa_62 ba_62) : evF C_62 O_62 L_62 70 sa_62 ba_62 x =
 laws_markIntSS_v5K x.1 x.2.1 x.2.2.1 (fun r => some (out_62 r)) := by kernel_rfl
theorem sem_62 : SemF 70 sa_62 ba_62 (fun x => laws_markIntSS_v5 x.1 x.2.1 x.2.2.1) out_62 :=
 sem_of folP okP tabP (Oracle.of_ok (Oracle.cons_ok ok_40 Oracle.nil_ok)) lf_62 fun x => (w_62 x).trans (laws_markIntSS_v5_eq x.1 x.2.1 x.2.2.1 _)
noncomputable def c_62 : Con := Con.shape sa_62 ba_62 (fun x => laws_markIntSS_v5 x.1 x.2.1 x.2.2.1) out_62
theorem ok_62 : ConOk Try.prog 70 c_62 := Con.shape_ok sem_62

/-! 27 -/
def C_63 : Cfg := { T := tab, hint := fun _ => { mu := [2], keepR := [1, 2, 4], res := [4], base := 3 }, mode := modeOf [(70, .whole)] }
noncomputable def O_63 : Oracle := Oracle.of [(70, c_62)]
noncomputable def L_63 : Loops := Loops.of []
theorem lf_63 : LoopsFn Try.prog C_63 O_63 27 L_63 := LoopsFn.nil' (by kernel_rfl)
def sa_63 : List S2 := [.agg [.all 0], .one (.dat I)]
def ba_63 : List SB := [.deep I, .cell (.all 0), .data I]
def out_63 (r : Int × (List (List Int)) × (List Int)) : AV × Store := out1 (.one (.dat I)) [.deep I, .cell (.all 0), .data I] (r.1, r.2.1, r.2.2, ())
theorem w_63 (x : FAr sa_63 ba_63) : evF C_63 O_63 L_63 27 sa_63 ba_63 x =
 laws_markQueues_v5K x.1 x.2.1 x.2.2.1 (fun r => some (out_63 r)) := by kernel_rfl
theorem sem_63 : SemF 27 sa_63 ba_63 (fun x => laws_markQueues_v5 x.1 x.2.1 x.2.2.1) out_63 :=
 sem_of folP okP tabP (Oracle.of_ok (Oracle.cons_ok ok_62 Oracle.nil_ok)) lf_63 fun x => (w_63 x).trans (laws_markQueues_v5_eq x.1 x.2.1 x.2.2.1 _)
noncomputable def c_63 : Con := Con.shape sa_63 ba_63 (fun x => laws_markQueues_v5 x.1 x.2.1 x.2.2.1) out_63
theorem ok_63 : ConOk Try.prog 27 c_63 := Con.shape_ok sem_63

/-! 6 -/
def C_64 : Cfg := { T := tab, hint := fun _ => { mu := [7, 23, 26], keepR := [1, 2, 4, 5, 6, 7, 8, 9, 10, 11, 12, 17, 30, 35, 46, 54, 57, 65, 70, 73], res := [4], order := [(10, [(0, .read)] ++ tns .forced 1 4)] }, mode := modeOf [(27, .whole), (34, .sub)] }
noncomputable def O_64 : Oracle := Oracle.of [(23, c_28), (25, c_31), (26, c_39), (27, c_63), (31, c_56), (32, c_59), (33, c_37), (34, c_40), (35, c_47)]
noncomputable def L_64 : Loops := Loops.of []
theorem lf_64 : LoopsFn Try.prog C_64 O_64 6 L_64 := LoopsFn.nil' (by kernel_rfl)
def sa_64 : List S2 := [.one (.dat tQueues), .one (.dat I)]
def ba_64 : List SB := []
def out_64 (r : Bool) : AV × Store := out1 (.one (.dat .bool)) [] (r, ())
theorem w_64 (x : FAr sa_64 ba_64) : evF C_64 O_64 L_64 6 sa_64 ba_64 x =
 laws_FnExactRunTurnsK x.1 x.2.1 (fun r => some (out_64 r)) := by kernel_rfl
theorem sem_64 : SemF 6 sa_64 ba_64 (fun x => laws_FnExactRunTurns x.1 x.2.1) out_64 :=
 sem_of folP okP tabP (Oracle.of_ok (Oracle.cons_ok ok_28 (Oracle.cons_ok ok_31 (Oracle.cons_ok ok_39 (Oracle.cons_ok ok_63 (Oracle.cons_ok ok_56 (Oracle.cons_ok ok_59 (Oracle.cons_ok ok_37 (Oracle.cons_ok ok_40 (Oracle.cons_ok ok_47 Oracle.nil_ok)))))))))) lf_64 fun x => (w_64 x).trans (laws_FnExactRunTurns_eq x.1 x.2.1 _)
noncomputable def c_64 : Con := Con.shape sa_64 ba_64 (fun x => laws_FnExactRunTurns x.1 x.2.1) out_64
theorem ok_64 : ConOk Try.prog 6 c_64 := Con.shape_ok sem_64

/-! 36 -/
def C_65 : Cfg := { T := tab, hint := fun _ => { keepR := [1, 2, 3, 6, 7, 8, 9, 17, 24, 36], res := [6], keepL := [(0, [1, 7, 8, 9])], keepX := [(0, [7]), (1, [1, 7, 8, 9])] }, mode := fun _ => .borrow }
noncomputable def O_65 : Oracle := Oracle.of [(31, c_56), (64, c_33), (65, c_32)]
def sh_65_l0 : List (Nat × S2) := [(1, .one (.dat I)), (7, .one (.dat I)), (8, .one (.dat (.sl I))), (9, .one (.dat I))]
def bs_65_l0 : List SB := []
def xs_65_l0 : List (Nat × S2) := [(7, .one (.dat I))]
def xb_65_l0 : List SB := []
noncomputable def lc_65_l0 : LCon := LCon.shape1 sh_65_l0 bs_65_l0 spec_TurnsOf_l0 (fun a => (.exit 0, encSt xs_65_l0 xb_65_l0 a))
noncomputable def L_65 : Loops := Loops.of [(0, lc_65_l0)]
theorem r_65_l0 (x : FSt sh_65_l0 bs_65_l0) : rdF C_65 O_65 L_65 36 0 0 sh_65_l0 bs_65_l0 x =
 spec_TurnsOf_l0K x.1 x.2.1 x.2.2.1 x.2.2.2.1 (fun y => some (Ex.normal, encSt sh_65_l0 bs_65_l0 y)) (fun a => some (Ex.exit 0, encSt xs_65_l0 xb_65_l0 a)) := by kernel_rfl
theorem lo_65_l0 : loF C_65 O_65 L_65 36 0 0 lc_65_l0 :=
 LCon.shape1_ok (fun a => by simp) fun x => (r_65_l0 x).trans (spec_TurnsOf_l0_eq x.1 x.2.1 x.2.2.1 x.2.2.2.1 _ _)
theorem lf_65 : LoopsFn Try.prog C_65 O_65 36 L_65 := LoopsFn.all (by kernel_rfl) (by decide) ⟨lo_65_l0, trivial⟩
def sa_65 : List S2 := [.one (.dat tQueues), .one (.dat I), .one (.dat I)]
def ba_65 : List SB := []
def out_65 (r : Int) : AV × Store := out1 (.one (.dat I)) [] (r, ())
theorem w_65 (x : FAr sa_65 ba_65) : evF C_65 O_65 L_65 36 sa_65 ba_65 x =
 spec_TurnsOfK x.1 x.2.1 x.2.2.1 (fun r => some (out_65 r)) := by kernel_rfl
theorem sem_65 : SemF 36 sa_65 ba_65 (fun x => spec_TurnsOf x.1 x.2.1 x.2.2.1) out_65 :=
 sem_of folP okP tabP (Oracle.of_ok (Oracle.cons_ok ok_56 (Oracle.cons_ok ok_33 (Oracle.cons_ok ok_32 Oracle.nil_ok)))) lf_65 fun x => (w_65 x).trans (spec_TurnsOf_eq x.1 x.2.1 x.2.2.1 _)
noncomputable def c_65 : Con := Con.shape sa_65 ba_65 (fun x => spec_TurnsOf x.1 x.2.1 x.2.2.1) out_65
theorem ok_65 : ConOk Try.prog 36 c_65 := Con.shape_ok sem_65

/-! 37 -/
def C_66 : Cfg := { T := tab, hint := fun _ => { keepR := [1, 2, 3, 6, 7, 9, 10, 15, 21, 22, 23, 24, 29], res := [6], keepL := [(1, [1, 7, 21, 22, 23])], keepX := [(0, [1, 2, 3]), (1, [7]), (2, [1, 7, 21, 22, 23])] }, mode := fun _ => .borrow }
noncomputable def O_66 : Oracle := Oracle.of [(32, c_59), (55, c_8), (74, c_57)]
def sh_66_l1 : List (Nat × S2) := [(1, .one (.dat I)), (7, .one (.dat I)), (21, .one (.dat (.sl I))), (22, .one (.dat I)), (23, .one (.dat I))]
def bs_66_l1 : List SB := []
def xs_66_l1 : List (Nat × S2) := [(7, .one (.dat I))]
def xb_66_l1 : List SB := []
noncomputable def lc_66_l1 : LCon := LCon.shape1 sh_66_l1 bs_66_l1 impl_TurnsOf_l1 (fun a => (.exit 1, encSt xs_66_l1 xb_66_l1 a))
noncomputable def L_66 : Loops := Loops.of [(1, lc_66_l1)]
theorem r_66_l1 (x : FSt sh_66_l1 bs_66_l1) : rdF C_66 O_66 L_66 37 1 0 sh_66_l1 bs_66_l1 x =
 impl_TurnsOf_l1K x.1 x.2.1 x.2.2.1 x.2.2.2.1 x.2.2.2.2.1 (fun y => some (Ex.normal, encSt sh_66_l1 bs_66_l1 y)) (fun a => some (Ex.exit 1, encSt xs_66_l1 xb_66_l1 a)) := by kernel_rfl
theorem lo_66_l1 : loF C_66 O_66 L_66 37 1 0 lc_66_l1 :=
 LCon.shape1_ok (fun a => by simp) fun x => (r_66_l1 x).trans (impl_TurnsOf_l1_eq x.1 x.2.1 x.2.2.1 x.2.2.2.1 x.2.2.2.2.1 _ _)
theorem lf_66 : LoopsFn Try.prog C_66 O_66 37 L_66 := LoopsFn.all (by kernel_rfl) (by decide) ⟨lo_66_l1, trivial⟩
def sa_66 : List S2 := [.one (.dat tQueues), .one (.dat I), .one (.dat I)]
def ba_66 : List SB := []
def out_66 (r : Int) : AV × Store := out1 (.one (.dat I)) [] (r, ())
theorem w_66 (x : FAr sa_66 ba_66) : evF C_66 O_66 L_66 37 sa_66 ba_66 x =
 impl_TurnsOfK x.1 x.2.1 x.2.2.1 (fun r => some (out_66 r)) := by kernel_rfl
theorem sem_66 : SemF 37 sa_66 ba_66 (fun x => impl_TurnsOf x.1 x.2.1 x.2.2.1) out_66 :=
 sem_of folP okP tabP (Oracle.of_ok (Oracle.cons_ok ok_59 (Oracle.cons_ok ok_8 (Oracle.cons_ok ok_57 Oracle.nil_ok)))) lf_66 fun x => (w_66 x).trans (impl_TurnsOf_eq x.1 x.2.1 x.2.2.1 _)
noncomputable def c_66 : Con := Con.shape sa_66 ba_66 (fun x => impl_TurnsOf x.1 x.2.1 x.2.2.1) out_66
theorem ok_66 : ConOk Try.prog 37 c_66 := Con.shape_ok sem_66

/-! 7 -/
def C_67 : Cfg := { T := tab, hint := fun _ => { mu := [9], keepR := [1, 2, 3, 6, 7, 8, 9, 10, 15, 29, 34], res := [6], order := [(10, [(0, .read)] ++ tns .forced 1 4)] }, mode := fun _ => .borrow }
noncomputable def O_67 : Oracle := Oracle.of [(23, c_28), (25, c_31), (26, c_39), (36, c_65), (37, c_66)]
noncomputable def L_67 : Loops := Loops.of []
theorem lf_67 : LoopsFn Try.prog C_67 O_67 7 L_67 := LoopsFn.nil' (by kernel_rfl)
def sa_67 : List S2 := [.one (.dat tQueues), .one (.dat I), .one (.dat I)]
def ba_67 : List SB := []
def out_67 (r : Bool) : AV × Store := out1 (.one (.dat .bool)) [] (r, ())
theorem w_67 (x : FAr sa_67 ba_67) : evF C_67 O_67 L_67 7 sa_67 ba_67 x =
 laws_FnExactTurnsOfK x.1 x.2.1 x.2.2.1 (fun r => some (out_67 r)) := by kernel_rfl
theorem sem_67 : SemF 7 sa_67 ba_67 (fun x => laws_FnExactTurnsOf x.1 x.2.1 x.2.2.1) out_67 :=
 sem_of folP okP tabP (Oracle.of_ok (Oracle.cons_ok ok_28 (Oracle.cons_ok ok_31 (Oracle.cons_ok ok_39 (Oracle.cons_ok ok_65 (Oracle.cons_ok ok_66 Oracle.nil_ok)))))) lf_67 fun x => (w_67 x).trans (laws_FnExactTurnsOf_eq x.1 x.2.1 x.2.2.1 _)
noncomputable def c_67 : Con := Con.shape sa_67 ba_67 (fun x => laws_FnExactTurnsOf x.1 x.2.1 x.2.2.1) out_67
theorem ok_67 : ConOk Try.prog 7 c_67 := Con.shape_ok sem_67

/-! 38 -/
def C_68 : Cfg := { T := tab, hint := fun _ => { mu := [4, 6, 14, 24, 53, 63], keepR := [1, 2, 4, 5, 6, 7, 8, 11, 19, 33, 45], res := [4, 5], order := [(12, tns .read 3 4 ++ [(2, .pure)] ++ tns .pure 8 9 ++ [(0, .aside [2] [53]), (1, .aside [2] [53]), (7, .forced), (17, .forced), (18, .forced), (19, .forced)])], keepL := [(0, [1, 2, 4, 6, 7, 8])], keepX := [(0, [4, 6]), (1, [1, 2, 4, 6, 7, 8])], fillR := true }, mode := fun _ => .borrow }
noncomputable def O_68 : Oracle := Oracle.of [(64, c_33), (66, c_34), (67, c_35)]
def sh_68_l0 : List (Nat × S2) := [(1, .one (.dat I)), (2, .one (.cdat tQueues 0)), (4, .one (.ptr 0 0 0)), (6, .one (.ptr 1 0 0)), (7, .one (.dat I)), (8, .one (.dat I))]
def bs_68_l0 : List SB := [.var [.e0 (.sl I)], .cell (.all 2), .deep I]
def xs_68_l0 : List (Nat × S2) := [(4, .one (.ptr 0 0 0)), (6, .one (.ptr 1 0 0))]
def xb_68_l0 : List SB := [.var [.e0 (.sl I)], .cell (.all 2), .deep I]
noncomputable def lc_68_l0 : LCon := LCon.shape1 sh_68_l0 bs_68_l0 spec_ReadyRemove_l0 (fun a => (.exit 0, encSt xs_68_l0 xb_68_l0 a))
noncomputable def L_68 : Loops := Loops.of [(0, lc_68_l0)]
theorem r_68_l0 (x : FSt sh_68_l0 bs_68_l0) : rdF C_68 O_68 L_68 38 0 0 sh_68_l0 bs_68_l0 x =
 spec_ReadyRemove_l0K x.1 x.2.1 x.2.2.1 x.2.2.2.1 x.2.2.2.2.1 (fun y => some (Ex.normal, encSt sh_68_l0 bs_68_l0 y)) (fun a => some (Ex.exit 0, encSt xs_68_l0 xb_68_l0 a)) := by kernel_rfl
theorem lo_68_l0 : loF C_68 O_68 L_68 38 0 0 lc_68_l0 :=
 LCon.shape1_ok (fun a => by simp) fun x => (r_68_l0 x).trans (spec_ReadyRemove_l0_eq x.1 x.2.1 x.2.2.1 x.2.2.2.1 x.2.2.2.2.1 _ _)
theorem lf_68 : LoopsFn Try.prog C_68 O_68 38 L_68 := LoopsFn.all (by kernel_rfl) (by decide) ⟨lo_68_l0, trivial⟩
def sa_68 : List S2 := [.one (.dat tQueues), .one (.dat I)]
def ba_68 : List SB := []
def out_68 (r : Bool × (List (List Int))) : AV × Store := outT [.agg [.all 0], .one (.dat .bool)] [.deep I] (r.1, r.2, ())
theorem w_68 (x : FAr sa_68 ba_68) : evF C_68 O_68 L_68 38 sa_68 ba_68 x =
 spec_ReadyRemoveK x.1 x.2.1 (fun r => some (out_68 r)) := by kernel_rfl
theorem sem_68 : SemF 38 sa_68 ba_68 (fun x => spec_ReadyRemove x.1 x.2.1) out_68 :=
 sem_of folP okP tabP (Oracle.of_ok (Oracle.cons_ok ok_33 (Oracle.cons_ok ok_34 (Oracle.cons_ok ok_35 Oracle.nil_ok)))) lf_68 fun x => (w_68 x).trans (spec_ReadyRemove_eq x.1 x.2.1 _)
noncomputable def c_68 : Con := Con.shape sa_68 ba_68 (fun x => spec_ReadyRemove x.1 x.2.1) out_68
theorem ok_68 : ConOk Try.prog 38 c_68 := Con.shape_ok sem_68

/-! 76 -/
def C_69 : Cfg := { T := tab, hint := fun _ => { keepR := [0, 1, 3], res := [3] }, mode := fun _ => .borrow }
noncomputable def O_69 : Oracle := Oracle.of []
noncomputable def L_69 : Loops := Loops.of []
theorem lf_69 : LoopsFn Try.prog C_69 O_69 76 L_69 := LoopsFn.nil' (by kernel_rfl)
def sa_69 : List S2 := [.one (.dat I), .one (.cdat I 0)]
def ba_69 : List SB := []
def out_69 (r : Bool) : AV × Store := out1 (.one (.dat .bool)) [] (r, ())
theorem w_69 (x : FAr sa_69 ba_69) : evF C_69 O_69 L_69 76 sa_69 ba_69 x =
 impl_ReadyRemove_c1K x.1 x.2.1 (fun r => some (out_69 r)) := by kernel_rfl
theorem sem_69 : SemF 76 sa_69 ba_69 (fun x => impl_ReadyRemove_c1 x.1 x.2.1) out_69 :=
 sem_of folP okP tabP (Oracle.of_ok Oracle.nil_ok) lf_69 fun x => (w_69 x).trans (impl_ReadyRemove_c1_eq x.1 x.2.1 _)
noncomputable def c_69 : Con := Con.shape sa_69 ba_69 (fun x => impl_ReadyRemove_c1 x.1 x.2.1) out_69
theorem ok_69 : ConOk Try.prog 76 c_69 := Con.shape_ok sem_69

/-! 94 -/
def C_70 : Cfg := { T := tab, hint := fun _ => { keepR := [0, 1, 4, 5, 7, 8, 9, 16], res := [4], keepL := [(0, [0, 1, 7, 8])], keepX := [(0, []), (1, [0, 1, 7, 8])] }, mode := fun _ => .borrow }
noncomputable def O_70 : Oracle := Oracle.of [(76, c_69)]
def sh_70_l0 : List (Nat × S2) := [(0, .one (.dat (.sl I))), (1, .fn 76 [.cdat I 0]), (7, .one (.dat I)), (8, .one (.dat I))]
def bs_70_l0 : List SB := []
def xs_70_l0 : List (Nat × S2) := []
def xb_70_l0 : List SB := []
def ys_70_l0 : List (Nat × S2) := [(4, .one (.dat I))]
def yb_70_l0 : List SB := []
noncomputable def lc_70_l0 : LCon := LCon.shape sh_70_l0 bs_70_l0 slices_IndexFunc_int_v2_l0 (fun a => (.exit 0, encSt xs_70_l0 xb_70_l0 a)) (fun b => encSt ys_70_l0 yb_70_l0 b)
noncomputable def L_70 : Loops := Loops.of [(0, lc_70_l0)]
theorem r_70_l0 (x : FSt sh_70_l0 bs_70_l0) : rdF C_70 O_70 L_70 94 0 0 sh_70_l0 bs_70_l0 x =
 slices_IndexFunc_int_v2_l0K x.1 x.2.1 x.2.2.1 x.2.2.2.1 (fun y => some (Ex.normal, encSt sh_70_l0 bs_70_l0 y)) (fun a => some (Ex.exit 0, encSt xs_70_l0 xb_70_l0 a)) (fun b => some (Ex.ret, encSt ys_70_l0 yb_70_l0 b)) := by kernel_rfl
theorem lo_70_l0 : loF C_70 O_70 L_70 94 0 0 lc_70_l0 :=
 LCon.shape_ok (fun a => by simp) fun x => (r_70_l0 x).trans (slices_IndexFunc_int_v2_l0_eq x.1 x.2.1 x.2.2.1 x.2.2.2.1 _ _ _)
theorem lf_70 : LoopsFn Try.prog C_70 O_70 94 L_70 := LoopsFn.all (by kernel_rfl) (by decide) ⟨lo_70_l0, trivial⟩
def sa_70 : List S2 := [.one (.dat (.sl I)), .fn 76 [.cdat I 0]]
def ba_70 : List SB := []
def out_70 (r : Int) : AV × Store := out1 (.one (.dat I)) [] (r, ())
theorem w_70 (x : FAr sa_70 ba_70) : evF C_70 O_70 L_70 94 sa_70 ba_70 x =
 slices_IndexFunc_int_v2K x.1 x.2.1 (fun r => some (out_70 r)) := by kernel_rfl
theorem sem_70 : SemF 94 sa_70 ba_70 (fun x => slices_IndexFunc_int_v2 x.1 x.2.1) out_70 :=
 sem_of folP okP tabP (Oracle.of_ok (Oracle.cons_ok ok_69 Oracle.nil_ok)) lf_70 fun x => (w_70 x).trans (slices_IndexFunc_int_v2_eq x.1 x.2.1 _)
noncomputable def c_70 : Con := Con.shape sa_70 ba_70 (fun x => slices_IndexFunc_int_v2 x.1 x.2.1) out_70
theorem ok_70 : ConOk Try.prog 94 c_70 := Con.shape_ok sem_70

/-! 75 -/
def C_71 : Cfg := { T := tab, hint := fun _ => { keepR := [0, 1, 4, 5, 6, 7, 12, 19, 29], res := [4], base := 1, keepL := [(0, [0, 1, 5, 6])], keepX := [(0, [0, 5]), (1, [0, 1, 5, 6])], refR := true }, mode := fun _ => .borrow }
noncomputable def O_71 : Oracle := Oracle.of [(76, c_69), (94, c_70)]
def sh_71_l0 : List (Nat × S2) := [(0, .one (.all 0)), (1, .fn 76 [.cdat I 0]), (5, .one (.dat I)), (6, .one (.dat I))]
def bs_71_l0 : List SB := [.data I]
def xs_71_l0 : List (Nat × S2) := [(0, .one (.all 0)), (5, .one (.dat I))]
def xb_71_l0 : List SB := [.data I]
noncomputable def lc_71_l0 : LCon := LCon.shape1 sh_71_l0 bs_71_l0 slices_DeleteFunc_int_l0 (fun a => (.exit 0, encSt xs_71_l0 xb_71_l0 a))
noncomputable def L_71 : Loops := Loops.of [(0, lc_71_l0)]
theorem r_71_l0 (x : FSt sh_71_l0 bs_71_l0) : rdF C_71 O_71 L_71 75 0 0 sh_71_l0 bs_71_l0 x =
 slices_DeleteFunc_int_l0K x.1 x.2.1 x.2.2.1 x.2.2.2.1 (fun y => some (Ex.normal, encSt sh_71_l0 bs_71_l0 y)) (fun a => some (Ex.exit 0, encSt xs_71_l0 xb_71_l0 a)) := by kernel_rfl
theorem lo_71_l0 : loF C_71 O_71 L_71 75 0 0 lc_71_l0 :=
 LCon.shape1_ok (fun a => by simp) fun x => (r_71_l0 x).trans (slices_DeleteFunc_int_l0_eq x.1 x.2.1 x.2.2.1 x.2.2.2.1 _ _)
theorem lf_71 : LoopsFn Try.prog C_71 O_71 75 L_71 := LoopsFn.all (by kernel_rfl) (by decide) ⟨lo_71_l0, trivial⟩
def sa_71 : List S2 := [.one (.all 0), .fn 76 [.cdat I 0]]
def ba_71 : List SB := [.data I]
def out_71 (r : Nat × (List Int)) : AV × Store := out1 (.one (.refn 0)) [.data I] (r.1, r.2, ())
theorem w_71 (x : FAr sa_71 ba_71) : evF C_71 O_71 L_71 75 sa_71 ba_71 x =
 slices_DeleteFunc_intK x.1 x.2.1 (fun r => some (out_71 r)) := by kernel_rfl
theorem sem_71 : SemF 75 sa_71 ba_71 (fun x => slices_DeleteFunc_int x.1 x.2.1) out_71 :=
 sem_of folP okP tabP (Oracle.of_ok (Oracle.cons_ok ok_69 (Oracle.cons_ok ok_70 Oracle.nil_ok))) lf_71 fun x => (w_71 x).trans (slices_DeleteFunc_int_eq x.1 x.2.1 _)
noncomputable def c_71 : Con := Con.shape sa_71 ba_71 (fun x => slices_DeleteFunc_int x.1 x.2.1) out_71
theorem ok_71 : ConOk Try.prog 75 c_71 := Con.shape_ok sem_71

/-! 39 -/
def C_72 : Cfg := { T := tab, hint := fun _ => { mu := [4, 6, 13, 27, 30], keepR := [2, 3, 4, 5, 6, 7, 10, 18], res := [4, 5], order := [(7, tns .read 3 4 ++ [(2, .pure), (8, .pure), (0, .aside [1] [27]), (1, .aside [1] [27]), (7, .forced)] ++ tns .forced 9 4)], fillR := true }, mode := modeOf [(75, .sub)] }
noncomputable def O_72 : Oracle := Oracle.of [(21, c_12), (57, c_17), (58, c_20), (59, c_16), (75, c_71)]
noncomputable def L_72 : Loops := Loops.of []
theorem lf_72 : LoopsFn Try.prog C_72 O_72 39 L_72 := LoopsFn.nil' (by kernel_rfl)
def sa_72 : List S2 := [.one (.dat tQueues), .one (.dat I)]
def ba_72 : List SB := []
def out_72 (r : Bool × (List (List Int))) : AV × Store := outT [.agg [.all 0], .one (.dat .bool)] [.deep I] (r.1, r.2, ())
theorem w_72 (x : FAr sa_72 ba_72) : evF C_72 O_72 L_72 39 sa_72 ba_72 x =
 impl_ReadyRemoveK x.1 x.2.1 (fun r => some (out_72 r)) := by kernel_rfl
theorem sem_72 : SemF 39 sa_72 ba_72 (fun x => impl_ReadyRemove x.1 x.2.1) out_72 :=
 sem_of folP okP tabP (Oracle.of_ok (Oracle.cons_ok ok_12 (Oracle.cons_ok ok_17 (Oracle.cons_ok ok_20 (Oracle.cons_ok ok_16 (Oracle.cons_ok ok_71 Oracle.nil_ok)))))) lf_72 fun x => (w_72 x).trans (impl_ReadyRemove_eq x.1 x.2.1 _)
noncomputable def c_72 : Con := Con.shape sa_72 ba_72 (fun x => impl_ReadyRemove x.1 x.2.1) out_72
theorem ok_72 : ConOk Try.prog 39 c_72 := Con.shape_ok sem_72

/-! 8 -/
def C_73 : Cfg := { T := tab, hint := fun _ => { mu := [6, 8, 9, 14, 29, 33], keepR := [1, 2, 4, 5, 6, 7, 8, 9, 10, 11, 12, 13, 14, 15, 20, 44, 49, 65, 73, 76, 92, 97, 100], res := [4], order := [(10, [(0, .read)] ++ tns .forced 1 4)] }, mode := modeOf [(27, .whole)] }
noncomputable def O_73 : Oracle := Oracle.of [(23, c_28), (25, c_31), (26, c_39), (27, Con.shape2 sa_44 ba_44 (fun x => laws_markQueues_v2 x.1 x.2.1 x.2.2.1 x.2.2.2.1) out_44 (c_46)), (28, c_49), (38, c_68), (39, c_72)]
noncomputable def L_73 : Loops := Loops.of []
theorem lf_73 : LoopsFn Try.prog C_73 O_73 8 L_73 := LoopsFn.nil' (by kernel_rfl)
def sa_73 : List S2 := [.one (.dat tQueues), .one (.dat I)]
def ba_73 : List SB := []
def out_73 (r : Bool) : AV × Store := out1 (.one (.dat .bool)) [] (r, ())
theorem w_73 (x : FAr sa_73 ba_73) : evF C_73 O_73 L_73 8 sa_73 ba_73 x =
 laws_FnExactReadyRemoveK x.1 x.2.1 (fun r => some (out_73 r)) := by kernel_rfl
theorem sem_73 : SemF 8 sa_73 ba_73 (fun x => laws_FnExactReadyRemove x.1 x.2.1) out_73 :=
 sem_of folP okP tabP (Oracle.of_ok (Oracle.cons_ok ok_28 (Oracle.cons_ok ok_31 (Oracle.cons_ok ok_39 (Oracle.cons_ok (Con.shape2_ok sem_44 ok_46) (Oracle.cons_ok ok_49 (Oracle.cons_ok ok_68 (Oracle.cons_ok ok_72 Oracle.nil_ok)))))))) lf_73 fun x => (w_73 x).trans (laws_FnExactReadyRemove_eq x.1 x.2.1 _)
noncomputable def c_73 : Con := Con.shape sa_73 ba_73 (fun x => laws_FnExactReadyRemove x.1 x.2.1) out_73
theorem ok_73 : ConOk Try.prog 8 c_73 := Con.shape_ok sem_73

/-! 77 -/
def C_74 : Cfg := { T := tab, hint := fun _ => { mu := [10], keepR := [0, 2, 5], res := [2] }, mode := fun _ => .borrow }
noncomputable def O_74 : Oracle := Oracle.of []
noncomputable def L_74 : Loops := Loops.of []
theorem lf_74 : LoopsFn Try.prog C_74 O_74 77 L_74 := LoopsFn.nil' (by kernel_rfl)
def sa_74 : List S2 := [.one (.dat (.sl (.int .u8)))]
def ba_74 : List SB := []
def out_74 (r : Dl20Rd) : AV × Store := out1 (.one (.ptr 0 0 0)) [.one tl20Rd] (r, ())
theorem w_74 (x : FAr sa_74 ba_74) : evF C_74 O_74 L_74 77 sa_74 ba_74 x =
 spec_l20OpenK x.1 (fun r => some (out_74 r)) := by kernel_rfl
theorem sem_74 : SemF 77 sa_74 ba_74 (fun x => spec_l20Open x.1) out_74 :=
 sem_of folP okP tabP (Oracle.of_ok Oracle.nil_ok) lf_74 fun x => (w_74 x).trans (spec_l20Open_eq x.1 _)
noncomputable def c_74 : Con := Con.shape sa_74 ba_74 (fun x => spec_l20Open x.1) out_74
theorem ok_74 : ConOk Try.prog 77 c_74 := Con.shape_ok sem_74

/-! 79 -/
def C_75 : Cfg := { T := tab, hint := fun _ => { keepR := [0, 1, 4, 5, 6, 24, 36], res := [4], base := 1, order := [(7, tns .read 0 37 ++ tns .forced 37 9)] }, mode := fun _ => .borrow }
noncomputable def O_75 : Oracle := Oracle.of []
noncomputable def L_75 : Loops := Loops.of []
theorem lf_75 : LoopsFn Try.prog C_75 O_75 79 L_75 := LoopsFn.nil' (by kernel_rfl)
def sa_75 : List S2 := [.one (.ptr 0 0 0), .one (.dat I)]
def ba_75 : List SB := [.one tl20Rd]
def out_75 (r : Int × Dl20Rd) : AV × Store := out1 (.one (.dat I)) [.one tl20Rd] (r.1, r.2, ())
theorem w_75 (x : FAr sa_75 ba_75) : evF C_75 O_75 L_75 79 sa_75 ba_75 x =
 spec_l20Rd_pickK x.1 x.2.1 (fun r => some (out_75 r)) := by kernel_rfl
theorem sem_75 : SemF 79 sa_75 ba_75 (fun x => spec_l20Rd_pick x.1 x.2.1) out_75 :=
 sem_of folP okP tabP (Oracle.of_ok Oracle.nil_ok) lf_75 fun x => (w_75 x).trans (spec_l20Rd_pick_eq x.1 x.2.1 _)
noncomputable def c_75 : Con := Con.shape sa_75 ba_75 (fun x => spec_l20Rd_pick x.1 x.2.1) out_75
theorem ok_75 : ConOk Try.prog 79 c_75 := Con.shape_ok sem_75

/-! 84 -/
def C_76 : Cfg := { T := tab, hint := fun _ => { keepR := [0, 1, 4], res := [4], base := 1 }, mode := modeOf [(79, .sub)] }
noncomputable def O_76 : Oracle := Oracle.of [(79, c_75)]
noncomputable def L_76 : Loops := Loops.of []
theorem lf_76 : LoopsFn Try.prog C_76 O_76 84 L_76 := LoopsFn.nil' (by kernel_rfl)
def sa_76 : List S2 := [.one (.ptr 0 0 0), .one (.dat I)]
def ba_76 : List SB := [.one tl20Rd]
def out_76 (r : Bool × Dl20Rd) : AV × Store := out1 (.one (.dat .bool)) [.one tl20Rd] (r.1, r.2, ())
theorem w_76 (x : FAr sa_76 ba_76) : evF C_76 O_76 L_76 84 sa_76 ba_76 x =
 spec_l20Rd_oddK x.1 x.2.1 (fun r => some (out_76 r)) := by kernel_rfl
theorem sem_76 : SemF 84 sa_76 ba_76 (fun x => spec_l20Rd_odd x.1 x.2.1) out_76 :=
 sem_of folP okP tabP (Oracle.of_ok (Oracle.cons_ok ok_75 Oracle.nil_ok)) lf_76 fun x => (w_76 x).trans (spec_l20Rd_odd_eq x.1 x.2.1 _)
noncomputable def c_76 : Con := Con.shape sa_76 ba_76 (fun x => spec_l20Rd_odd x.1 x.2.1) out_76
theorem ok_76 : ConOk Try.prog 84 c_76 := Con.shape_ok sem_76

/-! 78 -/
def C_77 : Cfg := { T := tab, hint := fun _ => { mu := [4, 5, 8, 26, 39, 46, 61, 63], keepR := [0, 1, 4, 5, 6, 7, 15, 31, 33, 48, 54], res := [4], base := 1, order := [(6, [(1, .read), (3, .pure), (4, .pure), (0, .aside [0] []), (2, .forced)] ++ tns .forced 5 4 ++ [(9, .read), (10, .pure), (11, .forced)]), (9, [(6, .pure), (7, .pure), (2, .aside [0] []), (3, .aside [0] []), (4, .aside [0] []), (0, .aside [0, 3] [39]), (1, .aside [0, 3] [39]), (8, .over), (9, .pure), (10, .pure), (11, .pure), (5, .forced), (12, .forced), (13, .forced), (14, .forced)]), (13, [(2, .read), (3, .read), (4, .read), (6, .pure), (0, .aside [3] [61]), (1, .aside [3] [61]), (5, .forced), (7, .forced), (8, .forced), (9, .forced)])], keepL := [(0, [0, 1, 4, 5, 6, 7])], keepX := [(0, [0, 1, 4, 5]), (1, [0, 1, 4, 5, 6, 7]), (2, [4, 5])], refR := true }, mode := modeOf [(79, .sub), (84, .sub)] }
noncomputable def O_77 : Oracle := Oracle.of [(19, c_1), (24, c_36), (79, c_75), (84, c_76)]
def sh_77_l0 : List (Nat × S2) := [(0, .one (.ptr 0 0 0)), (1, .one (.dat I)), (4, .one (.ptr 1 0 0)), (5, .one (.ptr 2 0 0)), (6, .one (.dat I)), (7, .one (.dat I))]
def bs_77_l0 : List SB := [.one tl20Rd, .var [.e0 (.sl I)], .cell (.all 3), .deep I]
def xs_77_l0 : List (Nat × S2) := [(0, .one (.ptr 0 0 0)), (1, .one (.dat I)), (4, .one (.ptr 1 0 0)), (5, .one (.ptr 2 0 0))]
def xb_77_l0 : List SB := [.one tl20Rd, .var [.e0 (.sl I)], .cell (.all 3), .deep I]
noncomputable def lc_77_l0 : LCon := LCon.shape1 sh_77_l0 bs_77_l0 spec_l20Queues_l0 (fun a => (.exit 0, encSt xs_77_l0 xb_77_l0 a))
noncomputable def L_77 : Loops := Loops.of [(0, lc_77_l0)]
theorem r_77_l0 (x : FSt sh_77_l0 bs_77_l0) : rdF C_77 O_77 L_77 78 0 0 sh_77_l0 bs_77_l0 x =
 spec_l20Queues_l0K x.1 x.2.1 x.2.2.1 x.2.2.2.1 x.2.2.2.2.1 (fun y => some (Ex.normal, encSt sh_77_l0 bs_77_l0 y)) (fun a => some (Ex.exit 0, encSt xs_77_l0 xb_77_l0 a)) := by kernel_rfl
theorem lo_77_l0 : loF C_77 O_77 L_77 78 0 0 lc_77_l0 :=
 LCon.shape1_ok (fun a => by simp) fun x => (r_77_l0 x).trans (spec_l20Queues_l0_eq x.1 x.2.1 x.2.2.1 x.2.2.2.1 x.2.2.2.2.1 _ _)
theorem lf_77 : LoopsFn Try.prog C_77 O_77 78 L_77 := LoopsFn.all (by kernel_rfl) (by decide) ⟨lo_77_l0, trivial⟩
def sa_77 : List S2 := [.one (.ptr 0 0 0), .one (.dat I)]
def ba_77 : List SB := [.one tl20Rd]
def out_77 (r : Nat × Nat × Dl20Rd × (List (List Int))) : AV × Store := out1 (.agg [.refg 1]) [.one tl20Rd, .deep I] (r.1, r.2.1, r.2.2.1, r.2.2.2, ())
theorem w_77 (x : FAr sa_77 ba_77) : evF C_77 O_77 L_77 78 sa_77 ba_77 x =
 spec_l20QueuesK x.1 x.2.1 (fun r => some (out_77 r)) := by kernel_rfl
theorem sem_77 : SemF 78 sa_77 ba_77 (fun x => spec_l20Queues x.1 x.2.1) out_77 :=
 sem_of folP okP tabP (Oracle.of_ok (Oracle.cons_ok ok_1 (Oracle.cons_ok ok_36 (Oracle.cons_ok ok_75 (Oracle.cons_ok ok_76 Oracle.nil_ok))))) lf_77 fun x => (w_77 x).trans (spec_l20Queues_eq x.1 x.2.1 _)
noncomputable def c_77 : Con := Con.shape sa_77 ba_77 (fun x => spec_l20Queues x.1 x.2.1) out_77
theorem ok_77 : ConOk Try.prog 78 c_77 := Con.shape_ok sem_77

/-! 40 -/
def C_78 : Cfg := { T := tab, hint := fun _ => { mu := [2, 6, 9], keepR := [0, 2, 3, 4, 5, 6, 7], res := [2, 3, 4], order := [(4, [(2, .read), (1, .pure), (4, .pure), (0, .aside [1] []), (3, .forced), (5, .forced), (6, .pure), (7, .pure), (8, .forced), (9, .forced), (10, .forced)])] }, mode := modeOf [(78, .sub), (79, .sub)] }
noncomputable def O_78 : Oracle := Oracle.of [(77, c_74), (78, c_77), (79, c_75)]
noncomputable def L_78 : Loops := Loops.of []
theorem lf_78 : LoopsFn Try.prog C_78 O_78 40 L_78 := LoopsFn.nil' (by kernel_rfl)
def sa_78 : List S2 := [.one (.dat (.sl (.int .u8)))]
def ba_78 : List SB := []
def out_78 (r : Nat × Nat × Int × Int × (List (List Int))) : AV × Store := outT [.agg [.refg 0], .one (.dat I), .one (.dat I)] [.deep I] (r.1, r.2.1, r.2.2.1, r.2.2.2.1, r.2.2.2.2, ())
theorem w_78 (x : FAr sa_78 ba_78) : evF C_78 O_78 L_78 40 sa_78 ba_78 x =
 spec_DrawReadyAddK x.1 (fun r => some (out_78 r)) := by kernel_rfl
theorem sem_78 : SemF 40 sa_78 ba_78 (fun x => spec_DrawReadyAdd x.1) out_78 :=
 sem_of folP okP tabP (Oracle.of_ok (Oracle.cons_ok ok_74 (Oracle.cons_ok ok_77 (Oracle.cons_ok ok_75 Oracle.nil_ok)))) lf_78 fun x => (w_78 x).trans (spec_DrawReadyAdd_eq x.1 _)
noncomputable def c_78 : Con := Con.shape sa_78 ba_78 (fun x => spec_DrawReadyAdd x.1) out_78
theorem ok_78 : ConOk Try.prog 40 c_78 := Con.shape_ok sem_78

/-! 41 -/
def sa_79 : List S2 := []
def ba_79 : List SB := []
def out_79 (r : Bool) : AV × Store := out1 (.one (.dat .bool)) [] (r, ())
theorem sem_79 : SemF 41 sa_79 ba_79 (fun x => laws_alive) out_79 := fun x y h => by
  have e : y = true := (Option.some.inj h).symm
  subst e
  exact sem_of_below ⟨_, _, Try.func41, rfl, by kernel_rfl⟩ Try.aliveCalls
noncomputable def c_79 : Con := Con.shape sa_79 ba_79 (fun x => laws_alive) out_79
theorem ok_79 : ConOk Try.prog 41 c_79 := Con.shape_ok sem_79

/-! 42 -/
def C_80 : Cfg := { T := tab, hint := fun _ => { keepR := [1, 2, 4, 7], res := [4] }, mode := fun _ => .borrow }
noncomputable def O_80 : Oracle := Oracle.of [(21, c_12), (58, c_20)]
noncomputable def L_80 : Loops := Loops.of []
theorem lf_80 : LoopsFn Try.prog C_80 O_80 42 L_80 := LoopsFn.nil' (by kernel_rfl)
def sa_80 : List S2 := [.one (.dat tQueues), .one (.dat I)]
def ba_80 : List SB := []
def out_80 (r : Int) : AV × Store := out1 (.one (.dat I)) [] (r, ())
theorem w_80 (x : FAr sa_80 ba_80) : evF C_80 O_80 L_80 42 sa_80 ba_80 x =
 impl_ReadyPrioK x.1 x.2.1 (fun r => some (out_80 r)) := by kernel_rfl
theorem sem_80 : SemF 42 sa_80 ba_80 (fun x => impl_ReadyPrio x.1 x.2.1) out_80 :=
 sem_of folP okP tabP (Oracle.of_ok (Oracle.cons_ok ok_12 (Oracle.cons_ok ok_20 Oracle.nil_ok))) lf_80 fun x => (w_80 x).trans (impl_ReadyPrio_eq x.1 x.2.1 _)
noncomputable def c_80 : Con := Con.shape sa_80 ba_80 (fun x => impl_ReadyPrio x.1 x.2.1) out_80
theorem ok_80 : ConOk Try.prog 42 c_80 := Con.shape_ok sem_80

/-! 9 -/
def C_81 : Cfg := { T := tab, hint := fun _ => { mu := [3, 6, 8, 10, 12], keepR := [0, 2, 3, 4, 5, 6, 7, 8, 9, 10, 11, 13, 16, 45, 47], res := [2], order := [(12, [(0, .forced), (1, .forced), (2, .forced), (3, .read), (4, .read), (5, .read)] ++ tns .forced 6 4 ++ tns .read 10 14 ++ tns .forced 24 7 ++ [(31, .read)] ++ tns .forced 32 8)] }, mode := fun _ => .borrow }
noncomputable def O_81 : Oracle := Oracle.of [(18, c_4), (20, c_21), (21, c_12), (24, c_36), (39, c_72), (40, c_78), (41, c_79), (42, c_80)]
noncomputable def L_81 : Loops := Loops.of []
theorem lf_81 : LoopsFn Try.prog C_81 O_81 9 L_81 := LoopsFn.nil' (by kernel_rfl)
def sa_81 : List S2 := [.one (.dat (.sl (.int .u8)))]
def ba_81 : List SB := []
def out_81 (r : Bool) : AV × Store := out1 (.one (.dat .bool)) [] (r, ())
theorem w_81 (x : FAr sa_81 ba_81) : evF C_81 O_81 L_81 9 sa_81 ba_81 x =
 laws_FnReadyAddK x.1 (fun r => some (out_81 r)) := by kernel_rfl
theorem sem_81 : SemF 9 sa_81 ba_81 (fun x => laws_FnReadyAdd x.1) out_81 :=
 sem_of folP okP tabP (Oracle.of_ok (Oracle.cons_ok ok_4 (Oracle.cons_ok ok_21 (Oracle.cons_ok ok_12 (Oracle.cons_ok ok_36 (Oracle.cons_ok ok_72 (Oracle.cons_ok ok_78 (Oracle.cons_ok ok_79 (Oracle.cons_ok ok_80 Oracle.nil_ok))))))))) lf_81 fun x => (w_81 x).trans (laws_FnReadyAdd_eq x.1 _)
noncomputable def c_81 : Con := Con.shape sa_81 ba_81 (fun x => laws_FnReadyAdd x.1) out_81
theorem ok_81 : ConOk Try.prog 9 c_81 := Con.shape_ok sem_81

/-! 43 -/
def C_82 : Cfg := { T := tab, hint := fun _ => { mu := [2, 4], keepR := [0, 2], res := [2] }, mode := modeOf [(78, .sub)] }
noncomputable def O_82 : Oracle := Oracle.of [(77, c_74), (78, c_77)]
noncomputable def L_82 : Loops := Loops.of []
theorem lf_82 : LoopsFn Try.prog C_82 O_82 43 L_82 := LoopsFn.nil' (by kernel_rfl)
def sa_82 : List S2 := [.one (.dat (.sl (.int .u8)))]
def ba_82 : List SB := []
def out_82 (r : Nat × Nat × (List (List Int))) : AV × Store := out1 (.agg [.refg 0]) [.deep I] (r.1, r.2.1, r.2.2, ())
theorem w_82 (x : FAr sa_82 ba_82) : evF C_82 O_82 L_82 43 sa_82 ba_82 x =
 spec_DrawReadyTurnK x.1 (fun r => some (out_82 r)) := by kernel_rfl
theorem sem_82 : SemF 43 sa_82 ba_82 (fun x => spec_DrawReadyTurn x.1) out_82 :=
 sem_of folP okP tabP (Oracle.of_ok (Oracle.cons_ok ok_74 (Oracle.cons_ok ok_77 Oracle.nil_ok))) lf_82 fun x => (w_82 x).trans (spec_DrawReadyTurn_eq x.1 _)
noncomputable def c_82 : Con := Con.shape sa_82 ba_82 (fun x => spec_DrawReadyTurn x.1) out_82
theorem ok_82 : ConOk Try.prog 43 c_82 := Con.shape_ok sem_82

/-! 10 -/
def C_83 : Cfg := { T := tab, hint := fun _ => { mu := [3, 4, 7], keepR := [0, 2, 3, 4, 5, 6, 7, 8, 11, 20, 24, 48, 57, 70], res := [2], order := [(5, [(0, .read)] ++ tns .forced 1 4), (17, tns .read 0 7 ++ tns .forced 7 4)], keepL := [(0, [3, 4, 6, 7, 8])], keepX := [(0, [3, 4, 7]), (1, [3, 4, 6, 7, 8])] }, mode := fun _ => .borrow }
noncomputable def O_83 : Oracle := Oracle.of [(18, c_4), (21, c_12), (22, c_24), (29, c_52), (30, c_54), (41, c_79), (42, c_80), (43, c_82)]
def sh_83_l0 : List (Nat × S2) := [(3, .one (.ptr 0 0 0)), (4, .one (.ptr 1 0 0)), (6, .one (.dat I)), (7, .one (.ptr 2 0 0)), (8, .one (.dat I))]
def bs_83_l0 : List SB := [.cell (.dat (.sl (.sl I))), .cell (.dat (.sl (.sl I))), .cell (.dat (.sl (.sl I)))]
def xs_83_l0 : List (Nat × S2) := [(3, .one (.ptr 0 0 0)), (4, .one (.ptr 1 0 0)), (7, .one (.ptr 2 0 0))]
def xb_83_l0 : List SB := [.cell (.dat (.sl (.sl I))), .cell (.dat (.sl (.sl I))), .cell (.dat (.sl (.sl I)))]
def ys_83_l0 : List (Nat × S2) := [(2, .one (.dat .bool))]
def yb_83_l0 : List SB := []
noncomputable def lc_83_l0 : LCon := LCon.shape sh_83_l0 bs_83_l0 laws_FnReadyTurn_l0 (fun a => (.exit 0, encSt xs_83_l0 xb_83_l0 a)) (fun b => encSt ys_83_l0 yb_83_l0 b)
noncomputable def L_83 : Loops := Loops.of [(0, lc_83_l0)]
theorem r_83_l0 (x : FSt sh_83_l0 bs_83_l0) : rdF C_83 O_83 L_83 10 0 0 sh_83_l0 bs_83_l0 x =
 laws_FnReadyTurn_l0K x.1 x.2.1 x.2.2.1 x.2.2.2.1 x.2.2.2.2.1 (fun y => some (Ex.normal, encSt sh_83_l0 bs_83_l0 y)) (fun a => some (Ex.exit 0, encSt xs_83_l0 xb_83_l0 a)) (fun b => some (Ex.ret, encSt ys_83_l0 yb_83_l0 b)) := by kernel_rfl
theorem lo_83_l0 : loF C_83 O_83 L_83 10 0 0 lc_83_l0 :=
 LCon.shape_ok (fun a => by simp) fun x => (r_83_l0 x).trans (laws_FnReadyTurn_l0_eq x.1 x.2.1 x.2.2.1 x.2.2.2.1 x.2.2.2.2.1 _ _ _)
theorem lf_83 : LoopsFn Try.prog C_83 O_83 10 L_83 := LoopsFn.all (by kernel_rfl) (by decide) ⟨lo_83_l0, trivial⟩
def sa_83 : List S2 := [.one (.dat (.sl (.int .u8)))]
def ba_83 : List SB := []
def out_83 (r : Bool) : AV × Store := out1 (.one (.dat .bool)) [] (r, ())
theorem w_83 (x : FAr sa_83 ba_83) : evF C_83 O_83 L_83 10 sa_83 ba_83 x =
 laws_FnReadyTurnK x.1 (fun r => some (out_83 r)) := by kernel_rfl
theorem sem_83 : SemF 10 sa_83 ba_83 (fun x => laws_FnReadyTurn x.1) out_83 :=
 sem_of folP okP tabP (Oracle.of_ok (Oracle.cons_ok ok_4 (Oracle.cons_ok ok_12 (Oracle.cons_ok ok_24 (Oracle.cons_ok ok_52 (Oracle.cons_ok ok_54 (Oracle.cons_ok ok_79 (Oracle.cons_ok ok_80 (Oracle.cons_ok ok_82 Oracle.nil_ok))))))))) lf_83 fun x => (w_83 x).trans (laws_FnReadyTurn_eq x.1 _)
noncomputable def c_83 : Con := Con.shape sa_83 ba_83 (fun x => laws_FnReadyTurn x.1) out_83
theorem ok_83 : ConOk Try.prog 10 c_83 := Con.shape_ok sem_83

/-! 11 -/
def C_84 : Cfg := { T := tab, hint := fun _ => { mu := [3, 6, 8], keepR := [0, 2, 3, 4, 5, 6, 7, 8, 9, 10, 13, 42, 44, 52], res := [2], order := [(10, [(0, .read)] ++ tns .forced 1 4), (13, [(0, .read), (1, .forced), (2, .forced), (3, .forced), (4, .read), (5, .read)] ++ tns .forced 6 5)] }, mode := fun _ => .borrow }
noncomputable def O_84 : Oracle := Oracle.of [(18, c_4), (20, c_21), (22, c_24), (24, c_36), (32, c_59), (40, c_78), (41, c_79), (42, c_80), (44, c_2)]
noncomputable def L_84 : Loops := Loops.of []
theorem lf_84 : LoopsFn Try.prog C_84 O_84 11 L_84 := LoopsFn.nil' (by kernel_rfl)
def sa_84 : List S2 := [.one (.dat (.sl (.int .u8)))]
def ba_84 : List SB := []
def out_84 (r : Bool) : AV × Store := out1 (.one (.dat .bool)) [] (r, ())
theorem w_84 (x : FAr sa_84 ba_84) : evF C_84 O_84 L_84 11 sa_84 ba_84 x =
 laws_FnQueueFirstK x.1 (fun r => some (out_84 r)) := by kernel_rfl
theorem sem_84 : SemF 11 sa_84 ba_84 (fun x => laws_FnQueueFirst x.1) out_84 :=
 sem_of folP okP tabP (Oracle.of_ok (Oracle.cons_ok ok_4 (Oracle.cons_ok ok_21 (Oracle.cons_ok ok_24 (Oracle.cons_ok ok_36 (Oracle.cons_ok ok_59 (Oracle.cons_ok ok_78 (Oracle.cons_ok ok_79 (Oracle.cons_ok ok_80 (Oracle.cons_ok ok_2 Oracle.nil_ok)))))))))) lf_84 fun x => (w_84 x).trans (laws_FnQueueFirst_eq x.1 _)
noncomputable def c_84 : Con := Con.shape sa_84 ba_84 (fun x => laws_FnQueueFirst x.1) out_84
theorem ok_84 : ConOk Try.prog 11 c_84 := Con.shape_ok sem_84

/-! 45 -/
def C_85 : Cfg := { T := tab, hint := fun _ => { mu := [2, 4], keepR := [0, 2], res := [2] }, mode := modeOf [(78, .sub)] }
noncomputable def O_85 : Oracle := Oracle.of [(77, c_74), (78, c_77)]
noncomputable def L_85 : Loops := Loops.of []
theorem lf_85 : LoopsFn Try.prog C_85 O_85 45 L_85 := LoopsFn.nil' (by kernel_rfl)
def sa_85 : List S2 := [.one (.dat (.sl (.int .u8)))]
def ba_85 : List SB := []
def out_85 (r : Nat × Nat × (List (List Int))) : AV × Store := out1 (.agg [.refg 0]) [.deep I] (r.1, r.2.1, r.2.2, ())
theorem w_85 (x : FAr sa_85 ba_85) : evF C_85 O_85 L_85 45 sa_85 ba_85 x =
 spec_DrawLongestWaitK x.1 (fun r => some (out_85 r)) := by kernel_rfl
theorem sem_85 : SemF 45 sa_85 ba_85 (fun x => spec_DrawLongestWait x.1) out_85 :=
 sem_of folP okP tabP (Oracle.of_ok (Oracle.cons_ok ok_74 (Oracle.cons_ok ok_77 Oracle.nil_ok))) lf_85 fun x => (w_85 x).trans (spec_DrawLongestWait_eq x.1 _)
noncomputable def c_85 : Con := Con.shape sa_85 ba_85 (fun x => spec_DrawLongestWait x.1) out_85
theorem ok_85 : ConOk Try.prog 45 c_85 := Con.shape_ok sem_85

/-! 46 -/
def C_86 : Cfg := { T := tab, hint := fun _ => { keepR := [1, 2, 3, 6, 10], res := [2] }, mode := fun _ => .borrow }
noncomputable def O_86 : Oracle := Oracle.of [(21, c_12), (81, c_22)]
noncomputable def L_86 : Loops := Loops.of []
theorem lf_86 : LoopsFn Try.prog C_86 O_86 46 L_86 := LoopsFn.nil' (by kernel_rfl)
def sa_86 : List S2 := [.one (.dat tQueues)]
def ba_86 : List SB := []
def out_86 (r : Int) : AV × Store := out1 (.one (.dat I)) [] (r, ())
theorem w_86 (x : FAr sa_86 ba_86) : evF C_86 O_86 L_86 46 sa_86 ba_86 x =
 impl_LongestWaitK x.1 (fun r => some (out_86 r)) := by kernel_rfl
theorem sem_86 : SemF 46 sa_86 ba_86 (fun x => impl_LongestWait x.1) out_86 :=
 sem_of folP okP tabP (Oracle.of_ok (Oracle.cons_ok ok_12 (Oracle.cons_ok ok_22 Oracle.nil_ok))) lf_86 fun x => (w_86 x).trans (impl_LongestWait_eq x.1 _)
noncomputable def c_86 : Con := Con.shape sa_86 ba_86 (fun x => impl_LongestWait x.1) out_86
theorem ok_86 : ConOk Try.prog 46 c_86 := Con.shape_ok sem_86

/-! 47 -/
def C_87 : Cfg := { T := tab, hint := fun _ => { keepR := [1, 2, 3, 6, 10], res := [2], order := [(6, [(0, .read), (1, .read), (2, .read)] ++ tns .forced 3 6)] }, mode := fun _ => .borrow }
noncomputable def O_87 : Oracle := Oracle.of [(64, c_33), (67, c_35), (72, c_51)]
noncomputable def L_87 : Loops := Loops.of []
theorem lf_87 : LoopsFn Try.prog C_87 O_87 47 L_87 := LoopsFn.nil' (by kernel_rfl)
def sa_87 : List S2 := [.one (.dat tQueues)]
def ba_87 : List SB := []
def out_87 (r : Int) : AV × Store := out1 (.one (.dat I)) [] (r, ())
theorem w_87 (x : FAr sa_87 ba_87) : evF C_87 O_87 L_87 47 sa_87 ba_87 x =
 spec_LongestWaitK x.1 (fun r => some (out_87 r)) := by kernel_rfl
theorem sem_87 : SemF 47 sa_87 ba_87 (fun x => spec_LongestWait x.1) out_87 :=
 sem_of folP okP tabP (Oracle.of_ok (Oracle.cons_ok ok_33 (Oracle.cons_ok ok_35 (Oracle.cons_ok ok_51 Oracle.nil_ok)))) lf_87 fun x => (w_87 x).trans (spec_LongestWait_eq x.1 _)
noncomputable def c_87 : Con := Con.shape sa_87 ba_87 (fun x => spec_LongestWait x.1) out_87
theorem ok_87 : ConOk Try.prog 47 c_87 := Con.shape_ok sem_87

/-! 12 -/
def C_88 : Cfg := { T := tab, hint := fun _ => { mu := [3], keepR := [0, 2, 3, 4, 5, 6, 9, 17, 19, 46, 54, 68], res := [2], order := [(9, [(0, .read)] ++ tns .forced 1 4), (15, tns .read 0 9 ++ [(9, .forced), (10, .forced), (11, .forced)])], keepL := [(0, [3, 4, 5, 6])], keepX := [(0, [3, 4, 5]), (1, [3, 4, 5, 6])] }, mode := fun _ => .borrow }
noncomputable def O_88 : Oracle := Oracle.of [(22, c_24), (37, c_66), (41, c_79), (42, c_80), (45, c_85), (46, c_86), (47, c_87)]
def sh_88_l0 : List (Nat × S2) := [(3, .one (.ptr 0 0 0)), (4, .one (.dat I)), (5, .one (.dat I)), (6, .one (.dat I))]
def bs_88_l0 : List SB := [.cell (.dat (.sl (.sl I)))]
def xs_88_l0 : List (Nat × S2) := [(3, .one (.ptr 0 0 0)), (4, .one (.dat I)), (5, .one (.dat I))]
def xb_88_l0 : List SB := [.cell (.dat (.sl (.sl I)))]
def ys_88_l0 : List (Nat × S2) := [(2, .one (.dat .bool))]
def yb_88_l0 : List SB := []
noncomputable def lc_88_l0 : LCon := LCon.shape sh_88_l0 bs_88_l0 laws_FnLongestWait_l0 (fun a => (.exit 0, encSt xs_88_l0 xb_88_l0 a)) (fun b => encSt ys_88_l0 yb_88_l0 b)
noncomputable def L_88 : Loops := Loops.of [(0, lc_88_l0)]
theorem r_88_l0 (x : FSt sh_88_l0 bs_88_l0) : rdF C_88 O_88 L_88 12 0 0 sh_88_l0 bs_88_l0 x =
 laws_FnLongestWait_l0K x.1 x.2.1 x.2.2.1 x.2.2.2.1 (fun y => some (Ex.normal, encSt sh_88_l0 bs_88_l0 y)) (fun a => some (Ex.exit 0, encSt xs_88_l0 xb_88_l0 a)) (fun b => some (Ex.ret, encSt ys_88_l0 yb_88_l0 b)) := by kernel_rfl
theorem lo_88_l0 : loF C_88 O_88 L_88 12 0 0 lc_88_l0 :=
 LCon.shape_ok (fun a => by simp) fun x => (r_88_l0 x).trans (laws_FnLongestWait_l0_eq x.1 x.2.1 x.2.2.1 x.2.2.2.1 _ _ _)
theorem lf_88 : LoopsFn Try.prog C_88 O_88 12 L_88 := LoopsFn.all (by kernel_rfl) (by decide) ⟨lo_88_l0, trivial⟩
def sa_88 : List S2 := [.one (.dat (.sl (.int .u8)))]
def ba_88 : List SB := []
def out_88 (r : Bool) : AV × Store := out1 (.one (.dat .bool)) [] (r, ())
theorem w_88 (x : FAr sa_88 ba_88) : evF C_88 O_88 L_88 12 sa_88 ba_88 x =
 laws_FnLongestWaitK x.1 (fun r => some (out_88 r)) := by kernel_rfl
theorem sem_88 : SemF 12 sa_88 ba_88 (fun x => laws_FnLongestWait x.1) out_88 :=
 sem_of folP okP tabP (Oracle.of_ok (Oracle.cons_ok ok_24 (Oracle.cons_ok ok_66 (Oracle.cons_ok ok_79 (Oracle.cons_ok ok_80 (Oracle.cons_ok ok_85 (Oracle.cons_ok ok_86 (Oracle.cons_ok ok_87 Oracle.nil_ok)))))))) lf_88 fun x => (w_88 x).trans (laws_FnLongestWait_eq x.1 _)
noncomputable def c_88 : Con := Con.shape sa_88 ba_88 (fun x => laws_FnLongestWait x.1) out_88
theorem ok_88 : ConOk Try.prog 12 c_88 := Con.shape_ok sem_88

/-! 50 -/
def C_89 : Cfg := { T := tab, hint := fun _ => { keepR := [0, 2, 3, 4, 8, 16, 19, 30], res := [2], order := [(9, tns .read 0 5 ++ tns .forced 5 4)], keepL := [(0, [0, 3]), (2, [0, 3, 4])], keepX := [(0, [0]), (1, [0, 3]), (2, [0, 3]), (3, [0, 3, 4])] }, mode := fun _ => .borrow }
noncomputable def O_89 : Oracle := Oracle.of [(65, c_32)]
def sh_89_l0 : List (Nat × S2) := [(0, .one (.dat (.sl I))), (3, .one (.dat I))]
def bs_89_l0 : List SB := []
def xs_89_l0 : List (Nat × S2) := [(0, .one (.dat (.sl I)))]
def xb_89_l0 : List SB := []
def ys_89_l0 : List (Nat × S2) := [(2, .one (.dat .bool))]
def yb_89_l0 : List SB := []
noncomputable def lc_89_l0 : LCon := LCon.shape sh_89_l0 bs_89_l0 spec_CallsValid_l0 (fun a => (.exit 0, encSt xs_89_l0 xb_89_l0 a)) (fun b => encSt ys_89_l0 yb_89_l0 b)
def sh_89_l2 : List (Nat × S2) := [(0, .one (.dat (.sl I))), (3, .one (.dat I)), (4, .one (.dat I))]
def bs_89_l2 : List SB := []
def xs_89_l2 : List (Nat × S2) := [(0, .one (.dat (.sl I))), (3, .one (.dat I))]
def xb_89_l2 : List SB := []
def ys_89_l2 : List (Nat × S2) := [(2, .one (.dat .bool))]
def yb_89_l2 : List SB := []
noncomputable def lc_89_l2 : LCon := LCon.shape sh_89_l2 bs_89_l2 spec_CallsValid_l2 (fun a => (.exit 2, encSt xs_89_l2 xb_89_l2 a)) (fun b => encSt ys_89_l2 yb_89_l2 b)
noncomputable def L_89 : Loops := Loops.of [(0, lc_89_l0), (2, lc_89_l2)]
theorem r_89_l0 (x : FSt sh_89_l0 bs_89_l0) : rdF C_89 O_89 L_89 50 0 0 sh_89_l0 bs_89_l0 x =
 spec_CallsValid_l0K x.1 x.2.1 (fun y => some (Ex.normal, encSt sh_89_l0 bs_89_l0 y)) (fun a => some (Ex.exit 0, encSt xs_89_l0 xb_89_l0 a)) (fun b => some (Ex.ret, encSt ys_89_l0 yb_89_l0 b)) := by kernel_rfl
theorem lo_89_l0 : loF C_89 O_89 L_89 50 0 0 lc_89_l0 :=
 LCon.shape_ok (fun a => by simp) fun x => (r_89_l0 x).trans (spec_CallsValid_l0_eq x.1 x.2.1 _ _ _)
theorem r_89_l2 (x : FSt sh_89_l2 bs_89_l2) : rdF C_89 O_89 L_89 50 2 1 sh_89_l2 bs_89_l2 x =
 spec_CallsValid_l2K x.1 x.2.1 x.2.2.1 (fun y => some (Ex.normal, encSt sh_89_l2 bs_89_l2 y)) (fun a => some (Ex.exit 2, encSt xs_89_l2 xb_89_l2 a)) (fun b => some (Ex.ret, encSt ys_89_l2 yb_89_l2 b)) := by kernel_rfl
theorem lo_89_l2 : loF C_89 O_89 L_89 50 2 1 lc_89_l2 :=
 LCon.shape_ok (fun a => by simp) fun x => (r_89_l2 x).trans (spec_CallsValid_l2_eq x.1 x.2.1 x.2.2.1 _ _ _)
theorem lf_89 : LoopsFn Try.prog C_89 O_89 50 L_89 := LoopsFn.all (by kernel_rfl) (by decide) ⟨lo_89_l0, lo_89_l2, trivial⟩
def sa_89 : List S2 := [.one (.dat (.sl I))]
def ba_89 : List SB := []
def out_89 (r : Bool) : AV × Store := out1 (.one (.dat .bool)) [] (r, ())
theorem w_89 (x : FAr sa_89 ba_89) : evF C_89 O_89 L_89 50 sa_89 ba_89 x =
 spec_CallsValidK x.1 (fun r => some (out_89 r)) := by kernel_rfl
theorem sem_89 : SemF 50 sa_89 ba_89 (fun x => spec_CallsValid x.1) out_89 :=
 sem_of folP okP tabP (Oracle.of_ok (Oracle.cons_ok ok_32 Oracle.nil_ok)) lf_89 fun x => (w_89 x).trans (spec_CallsValid_eq x.1 _)
noncomputable def c_89 : Con := Con.shape sa_89 ba_89 (fun x => spec_CallsValid x.1) out_89
theorem ok_89 : ConOk Try.prog 50 c_89 := Con.shape_ok sem_89

/-! 98 -/
def C_90 : Cfg := { T := tab, hint := fun _ => { mu := [16, 19, 36], keepR := [0, 1, 4, 5, 6, 7, 15, 23, 31], res := [4, 5], keepL := [(0, [0, 1, 6, 7])], keepX := [(0, [1, 6]), (1, [0, 1, 6, 7])] }, mode := fun _ => .borrow }
noncomputable def O_90 : Oracle := Oracle.of [(50, c_89), (65, c_32)]
def sh_90_l0 : List (Nat × S2) := [(0, .one (.dat (.sl I))), (1, .one (.dat I)), (6, .one (.all 0)), (7, .one (.dat I))]
def bs_90_l0 : List SB := [.data I]
def xs_90_l0 : List (Nat × S2) := [(1, .one (.dat I)), (6, .one (.all 0))]
def xb_90_l0 : List SB := [.data I]
def ys_90_l0 : List (Nat × S2) := [(4, .one (.all 0)), (5, .one (.dat .bool))]
def yb_90_l0 : List SB := [.data I]
noncomputable def lc_90_l0 : LCon := LCon.shape sh_90_l0 bs_90_l0 spec_PushCall_l0 (fun a => (.exit 0, encSt xs_90_l0 xb_90_l0 a)) (fun b => encSt ys_90_l0 yb_90_l0 b)
noncomputable def L_90 : Loops := Loops.of [(0, lc_90_l0)]
theorem r_90_l0 (x : FSt sh_90_l0 bs_90_l0) : rdF C_90 O_90 L_90 98 0 0 sh_90_l0 bs_90_l0 x =
 spec_PushCall_l0K x.1 x.2.1 x.2.2.1 x.2.2.2.1 (fun y => some (Ex.normal, encSt sh_90_l0 bs_90_l0 y)) (fun a => some (Ex.exit 0, encSt xs_90_l0 xb_90_l0 a)) (fun b => some (Ex.ret, encSt ys_90_l0 yb_90_l0 b)) := by kernel_rfl
theorem lo_90_l0 : loF C_90 O_90 L_90 98 0 0 lc_90_l0 :=
 LCon.shape_ok (fun a => by simp) fun x => (r_90_l0 x).trans (spec_PushCall_l0_eq x.1 x.2.1 x.2.2.1 x.2.2.2.1 _ _ _)
theorem lf_90 : LoopsFn Try.prog C_90 O_90 98 L_90 := LoopsFn.all (by kernel_rfl) (by decide) ⟨lo_90_l0, trivial⟩
def sa_90 : List S2 := [.one (.dat (.sl I)), .one (.dat I)]
def ba_90 : List SB := []
def out_90 (r : Bool × (List Int)) : AV × Store := outT [.one (.all 0), .one (.dat .bool)] [.data I] (r.1, r.2, ())
theorem w_90 (x : FAr sa_90 ba_90) : evF C_90 O_90 L_90 98 sa_90 ba_90 x =
 spec_PushCallK x.1 x.2.1 (fun r => some (out_90 r)) := by kernel_rfl
theorem sem_90 : SemF 98 sa_90 ba_90 (fun x => spec_PushCall x.1 x.2.1) out_90 :=
 sem_of folP okP tabP (Oracle.of_ok (Oracle.cons_ok ok_89 (Oracle.cons_ok ok_32 Oracle.nil_ok))) lf_90 fun x => (w_90 x).trans (spec_PushCall_eq x.1 x.2.1 _)
noncomputable def c_90 : Con := Con.shape sa_90 ba_90 (fun x => spec_PushCall x.1 x.2.1) out_90
theorem ok_90 : ConOk Try.prog 98 c_90 := Con.shape_ok sem_90

/-! 82 -/
def C_91 : Cfg := { T := tab, hint := fun _ => { mu := [7, 18, 31], keepR := [0, 1, 4, 5, 6, 11, 23], res := [4], base := 1, keepL := [(0, [0, 1, 5, 6])], keepX := [(0, [0, 1, 5]), (1, [0, 1, 5, 6])] }, mode := modeOf [(79, .sub), (84, .sub)] }
noncomputable def O_91 : Oracle := Oracle.of [(79, c_75), (84, c_76), (98, c_90)]
def sh_91_l0 : List (Nat × S2) := [(0, .one (.ptr 0 0 0)), (1, .one (.dat I)), (5, .one (.all 1)), (6, .one (.dat I))]
def bs_91_l0 : List SB := [.one tl20Rd, .data I]
def xs_91_l0 : List (Nat × S2) := [(0, .one (.ptr 0 0 0)), (1, .one (.dat I)), (5, .one (.all 1))]
def xb_91_l0 : List SB := [.one tl20Rd, .data I]
noncomputable def lc_91_l0 : LCon := LCon.shape1 sh_91_l0 bs_91_l0 spec_l20Calls_l0 (fun a => (.exit 0, encSt xs_91_l0 xb_91_l0 a))
noncomputable def L_91 : Loops := Loops.of [(0, lc_91_l0)]
theorem r_91_l0 (x : FSt sh_91_l0 bs_91_l0) : rdF C_91 O_91 L_91 82 0 0 sh_91_l0 bs_91_l0 x =
 spec_l20Calls_l0K x.1 x.2.1 x.2.2.1 x.2.2.2.1 (fun y => some (Ex.normal, encSt sh_91_l0 bs_91_l0 y)) (fun a => some (Ex.exit 0, encSt xs_91_l0 xb_91_l0 a)) := by kernel_rfl
theorem lo_91_l0 : loF C_91 O_91 L_91 82 0 0 lc_91_l0 :=
 LCon.shape1_ok (fun a => by simp) fun x => (r_91_l0 x).trans (spec_l20Calls_l0_eq x.1 x.2.1 x.2.2.1 x.2.2.2.1 _ _)
theorem lf_91 : LoopsFn Try.prog C_91 O_91 82 L_91 := LoopsFn.all (by kernel_rfl) (by decide) ⟨lo_91_l0, trivial⟩
def sa_91 : List S2 := [.one (.ptr 0 0 0), .one (.dat I)]
def ba_91 : List SB := [.one tl20Rd]
def out_91 (r : Dl20Rd × (List Int)) : AV × Store := out1 (.one (.all 1)) [.one tl20Rd, .data I] (r.1, r.2, ())
theorem w_91 (x : FAr sa_91 ba_91) : evF C_91 O_91 L_91 82 sa_91 ba_91 x =
 spec_l20CallsK x.1 x.2.1 (fun r => some (out_91 r)) := by kernel_rfl
theorem sem_91 : SemF 82 sa_91 ba_91 (fun x => spec_l20Calls x.1 x.2.1) out_91 :=
 sem_of folP okP tabP (Oracle.of_ok (Oracle.cons_ok ok_75 (Oracle.cons_ok ok_76 (Oracle.cons_ok ok_90 Oracle.nil_ok)))) lf_91 fun x => (w_91 x).trans (spec_l20Calls_eq x.1 x.2.1 _)
noncomputable def c_91 : Con := Con.shape sa_91 ba_91 (fun x => spec_l20Calls x.1 x.2.1) out_91
theorem ok_91 : ConOk Try.prog 82 c_91 := Con.shape_ok sem_91

/-! 48 -/
def C_92 : Cfg := { T := tab, hint := fun _ => { mu := [4], keepR := [0, 2], res := [2] }, mode := modeOf [(82, .sub)] }
noncomputable def O_92 : Oracle := Oracle.of [(77, c_74), (82, c_91)]
noncomputable def L_92 : Loops := Loops.of []
theorem lf_92 : LoopsFn Try.prog C_92 O_92 48 L_92 := LoopsFn.nil' (by kernel_rfl)
def sa_92 : List S2 := [.one (.dat (.sl (.int .u8)))]
def ba_92 : List SB := []
def out_92 (r : (List Int)) : AV × Store := out1 (.one (.all 0)) [.data I] (r, ())
theorem w_92 (x : FAr sa_92 ba_92) : evF C_92 O_92 L_92 48 sa_92 ba_92 x =
 spec_DrawCallsValidK x.1 (fun r => some (out_92 r)) := by kernel_rfl
theorem sem_92 : SemF 48 sa_92 ba_92 (fun x => spec_DrawCallsValid x.1) out_92 :=
 sem_of folP okP tabP (Oracle.of_ok (Oracle.cons_ok ok_74 (Oracle.cons_ok ok_91 Oracle.nil_ok))) lf_92 fun x => (w_92 x).trans (spec_DrawCallsValid_eq x.1 _)
noncomputable def c_92 : Con := Con.shape sa_92 ba_92 (fun x => spec_DrawCallsValid x.1) out_92
theorem ok_92 : ConOk Try.prog 48 c_92 := Con.shape_ok sem_92

/-! 49 -/
def C_93 : Cfg := { T := tab, hint := fun _ => { keepR := [0, 2], res := [2] }, mode := fun _ => .borrow }
noncomputable def O_93 : Oracle := Oracle.of [(60, c_11)]
noncomputable def L_93 : Loops := Loops.of []
theorem lf_93 : LoopsFn Try.prog C_93 O_93 49 L_93 := LoopsFn.nil' (by kernel_rfl)
def sa_93 : List S2 := [.one (.dat (.sl I))]
def ba_93 : List SB := []
def out_93 (r : Bool) : AV × Store := out1 (.one (.dat .bool)) [] (r, ())
theorem w_93 (x : FAr sa_93 ba_93) : evF C_93 O_93 L_93 49 sa_93 ba_93 x =
 impl_CallsValidK x.1 (fun r => some (out_93 r)) := by kernel_rfl
theorem sem_93 : SemF 49 sa_93 ba_93 (fun x => impl_CallsValid x.1) out_93 :=
 sem_of folP okP tabP (Oracle.of_ok (Oracle.cons_ok ok_11 Oracle.nil_ok)) lf_93 fun x => (w_93 x).trans (impl_CallsValid_eq x.1 _)
noncomputable def c_93 : Con := Con.shape sa_93 ba_93 (fun x => impl_CallsValid x.1) out_93
theorem ok_93 : ConOk Try.prog 49 c_93 := Con.shape_ok sem_93

/-! 13 -/
def C_94 : Cfg := { T := tab, hint := fun _ => { mu := [6, 8, 65], keepR := [0, 1, 4, 5, 6, 7, 8, 9, 10, 18, 25, 33, 39, 55], res := [4], order := [(12, tns .read 0 11 ++ [(11, .pure), (12, .forced), (13, .forced), (14, .forced)])], keepL := [(0, [1, 5, 6, 7])], keepX := [(0, [5, 6]), (1, [1, 5, 6, 7])] }, mode := fun _ => .borrow }
noncomputable def O_94 : Oracle := Oracle.of [(17, c_0), (20, c_21), (31, c_56), (32, c_59), (41, c_79), (44, c_2), (48, c_92), (49, c_93), (50, c_89)]
def sh_94_l0 : List (Nat × S2) := [(1, .one (.dat (.sl (.int .u8)))), (5, .one (.dat (.sl I))), (6, .one (.ptr 0 0 0)), (7, .one (.dat I))]
def bs_94_l0 : List SB := [.cell (.dat (.sl (.sl I)))]
def xs_94_l0 : List (Nat × S2) := [(5, .one (.dat (.sl I))), (6, .one (.ptr 0 0 0))]
def xb_94_l0 : List SB := [.cell (.dat (.sl (.sl I)))]
def ys_94_l0 : List (Nat × S2) := [(4, .one (.dat .bool))]
def yb_94_l0 : List SB := []
noncomputable def lc_94_l0 : LCon := LCon.shape sh_94_l0 bs_94_l0 laws_FnQueueOrder_l0 (fun a => (.exit 0, encSt xs_94_l0 xb_94_l0 a)) (fun b => encSt ys_94_l0 yb_94_l0 b)
noncomputable def L_94 : Loops := Loops.of [(0, lc_94_l0)]
theorem r_94_l0 (x : FSt sh_94_l0 bs_94_l0) : rdF C_94 O_94 L_94 13 0 0 sh_94_l0 bs_94_l0 x =
 laws_FnQueueOrder_l0K x.1 x.2.1 x.2.2.1 x.2.2.2.1 (fun y => some (Ex.normal, encSt sh_94_l0 bs_94_l0 y)) (fun a => some (Ex.exit 0, encSt xs_94_l0 xb_94_l0 a)) (fun b => some (Ex.ret, encSt ys_94_l0 yb_94_l0 b)) := by kernel_rfl
theorem lo_94_l0 : loF C_94 O_94 L_94 13 0 0 lc_94_l0 :=
 LCon.shape_ok (fun a => by simp) fun x => (r_94_l0 x).trans (laws_FnQueueOrder_l0_eq x.1 x.2.1 x.2.2.1 x.2.2.2.1 _ _ _)
theorem lf_94 : LoopsFn Try.prog C_94 O_94 13 L_94 := LoopsFn.all (by kernel_rfl) (by decide) ⟨lo_94_l0, trivial⟩
def sa_94 : List S2 := [.one (.dat (.sl (.int .u8))), .one (.dat (.sl (.int .u8)))]
def ba_94 : List SB := []
def out_94 (r : Bool) : AV × Store := out1 (.one (.dat .bool)) [] (r, ())
theorem w_94 (x : FAr sa_94 ba_94) : evF C_94 O_94 L_94 13 sa_94 ba_94 x =
 laws_FnQueueOrderK x.1 x.2.1 (fun r => some (out_94 r)) := by kernel_rfl
theorem sem_94 : SemF 13 sa_94 ba_94 (fun x => laws_FnQueueOrder x.1 x.2.1) out_94 :=
 sem_of folP okP tabP (Oracle.of_ok (Oracle.cons_ok ok_0 (Oracle.cons_ok ok_21 (Oracle.cons_ok ok_56 (Oracle.cons_ok ok_59 (Oracle.cons_ok ok_79 (Oracle.cons_ok ok_2 (Oracle.cons_ok ok_92 (Oracle.cons_ok ok_93 (Oracle.cons_ok ok_89 Oracle.nil_ok)))))))))) lf_94 fun x => (w_94 x).trans (laws_FnQueueOrder_eq x.1 x.2.1 _)
noncomputable def c_94 : Con := Con.shape sa_94 ba_94 (fun x => laws_FnQueueOrder x.1 x.2.1) out_94
theorem ok_94 : ConOk Try.prog 13 c_94 := Con.shape_ok sem_94

/-! 51 -/
def C_95 : Cfg := { T := tab, hint := fun _ => { mu := [2, 5, 7], keepR := [0, 2, 3, 4, 5], res := [2, 3], order := [(3, [(1, .read), (4, .pure), (5, .pure), (0, .aside [1] []), (2, .forced), (3, .pure), (6, .forced)] ++ tns .pure 7 4 ++ [(11, .forced), (12, .forced)])] }, mode := modeOf [(78, .sub), (79, .sub)] }
noncomputable def O_95 : Oracle := Oracle.of [(77, c_74), (78, c_77), (79, c_75)]
noncomputable def L_95 : Loops := Loops.of []
theorem lf_95 : LoopsFn Try.prog C_95 O_95 51 L_95 := LoopsFn.nil' (by kernel_rfl)
def sa_95 : List S2 := [.one (.dat (.sl (.int .u8)))]
def ba_95 : List SB := []
def out_95 (r : Nat × Nat × Int × (List (List Int))) : AV × Store := outT [.agg [.refg 0], .one (.dat I)] [.deep I] (r.1, r.2.1, r.2.2.1, r.2.2.2, ())
theorem w_95 (x : FAr sa_95 ba_95) : evF C_95 O_95 L_95 51 sa_95 ba_95 x =
 spec_DrawRunTurnsK x.1 (fun r => some (out_95 r)) := by kernel_rfl
theorem sem_95 : SemF 51 sa_95 ba_95 (fun x => spec_DrawRunTurns x.1) out_95 :=
 sem_of folP okP tabP (Oracle.of_ok (Oracle.cons_ok ok_74 (Oracle.cons_ok ok_77 (Oracle.cons_ok ok_75 Oracle.nil_ok)))) lf_95 fun x => (w_95 x).trans (spec_DrawRunTurns_eq x.1 _)
noncomputable def c_95 : Con := Con.shape sa_95 ba_95 (fun x => spec_DrawRunTurns x.1) out_95
theorem ok_95 : ConOk Try.prog 51 c_95 := Con.shape_ok sem_95

/-! 14 -/
def C_96 : Cfg := { T := tab, hint := fun _ => { mu := [3], keepR := [0, 2, 3, 4, 5, 6, 7, 10, 24, 27, 34, 70], res := [2], order := [(13, tns .read 0 7 ++ tns .forced 7 9 ++ [(16, .read)] ++ tns .forced 17 4 ++ tns .read 21 6 ++ tns .forced 27 7), (15, [(0, .read), (1, .read), (2, .forced), (3, .forced), (4, .forced), (5, .read), (6, .read), (7, .read)] ++ tns .forced 8 5)], keepL := [(0, [3, 4, 5, 6, 7])], keepX := [(0, [3, 4, 5]), (1, [3, 4, 5, 6, 7])] }, mode := fun _ => .borrow }
noncomputable def O_96 : Oracle := Oracle.of [(22, c_24), (31, c_56), (32, c_59), (41, c_79), (42, c_80), (44, c_2), (46, c_86), (51, c_95)]
def sh_96_l0 : List (Nat × S2) := [(3, .one (.ptr 0 0 0)), (4, .one (.dat I)), (5, .one (.dat (.sl I))), (6, .one (.dat I)), (7, .one (.dat I))]
def bs_96_l0 : List SB := [.cell (.dat (.sl (.sl I)))]
def xs_96_l0 : List (Nat × S2) := [(3, .one (.ptr 0 0 0)), (4, .one (.dat I)), (5, .one (.dat (.sl I)))]
def xb_96_l0 : List SB := [.cell (.dat (.sl (.sl I)))]
def ys_96_l0 : List (Nat × S2) := [(2, .one (.dat .bool))]
def yb_96_l0 : List SB := []
noncomputable def lc_96_l0 : LCon := LCon.shape sh_96_l0 bs_96_l0 laws_FnRunTurns_l0 (fun a => (.exit 0, encSt xs_96_l0 xb_96_l0 a)) (fun b => encSt ys_96_l0 yb_96_l0 b)
noncomputable def L_96 : Loops := Loops.of [(0, lc_96_l0)]
theorem r_96_l0 (x : FSt sh_96_l0 bs_96_l0) : rdF C_96 O_96 L_96 14 0 0 sh_96_l0 bs_96_l0 x =
 laws_FnRunTurns_l0K x.1 x.2.1 x.2.2.1 x.2.2.2.1 x.2.2.2.2.1 (fun y => some (Ex.normal, encSt sh_96_l0 bs_96_l0 y)) (fun a => some (Ex.exit 0, encSt xs_96_l0 xb_96_l0 a)) (fun b => some (Ex.ret, encSt ys_96_l0 yb_96_l0 b)) := by kernel_rfl
theorem lo_96_l0 : loF C_96 O_96 L_96 14 0 0 lc_96_l0 :=
 LCon.shape_ok (fun a => by simp) fun x => (r_96_l0 x).trans (laws_FnRunTurns_l0_eq x.1 x.2.1 x.2.2.1 x.2.2.2.1 x.2.2.2.2.1 _ _ _)
theorem lf_96 : LoopsFn Try.prog C_96 O_96 14 L_96 := LoopsFn.all (by kernel_rfl) (by decide) ⟨lo_96_l0, trivial⟩
def sa_96 : List S2 := [.one (.dat (.sl (.int .u8)))]
def ba_96 : List SB := []
def out_96 (r : Bool) : AV × Store := out1 (.one (.dat .bool)) [] (r, ())
theorem w_96 (x : FAr sa_96 ba_96) : evF C_96 O_96 L_96 14 sa_96 ba_96 x =
 laws_FnRunTurnsK x.1 (fun r => some (out_96 r)) := by kernel_rfl
theorem sem_96 : SemF 14 sa_96 ba_96 (fun x => laws_FnRunTurns x.1) out_96 :=
 sem_of folP okP tabP (Oracle.of_ok (Oracle.cons_ok ok_24 (Oracle.cons_ok ok_56 (Oracle.cons_ok ok_59 (Oracle.cons_ok ok_79 (Oracle.cons_ok ok_80 (Oracle.cons_ok ok_2 (Oracle.cons_ok ok_86 (Oracle.cons_ok ok_95 Oracle.nil_ok))))))))) lf_96 fun x => (w_96 x).trans (laws_FnRunTurns_eq x.1 _)
noncomputable def c_96 : Con := Con.shape sa_96 ba_96 (fun x => laws_FnRunTurns x.1) out_96
theorem ok_96 : ConOk Try.prog 14 c_96 := Con.shape_ok sem_96

/-! 83 -/
def C_97 : Cfg := { T := tab, hint := fun _ => { mu := [2, 5, 7], keepR := [0, 2, 3, 4, 5], res := [2, 3], order := [(3, [(1, .read), (0, .aside [1] []), (2, .forced), (3, .pure), (4, .forced), (5, .forced)])] }, mode := modeOf [(78, .sub), (79, .sub)] }
noncomputable def O_97 : Oracle := Oracle.of [(77, c_74), (78, c_77), (79, c_75)]
noncomputable def L_97 : Loops := Loops.of []
theorem lf_97 : LoopsFn Try.prog C_97 O_97 83 L_97 := LoopsFn.nil' (by kernel_rfl)
def sa_97 : List S2 := [.one (.dat (.sl (.int .u8)))]
def ba_97 : List SB := []
def out_97 (r : Nat × Nat × Int × (List (List Int))) : AV × Store := outT [.agg [.refg 0], .one (.dat I)] [.deep I] (r.1, r.2.1, r.2.2.1, r.2.2.2, ())
theorem w_97 (x : FAr sa_97 ba_97) : evF C_97 O_97 L_97 83 sa_97 ba_97 x =
 spec_DrawReadyPrioK x.1 (fun r => some (out_97 r)) := by kernel_rfl
theorem sem_97 : SemF 83 sa_97 ba_97 (fun x => spec_DrawReadyPrio x.1) out_97 :=
 sem_of folP okP tabP (Oracle.of_ok (Oracle.cons_ok ok_74 (Oracle.cons_ok ok_77 (Oracle.cons_ok ok_75 Oracle.nil_ok)))) lf_97 fun x => (w_97 x).trans (spec_DrawReadyPrio_eq x.1 _)
noncomputable def c_97 : Con := Con.shape sa_97 ba_97 (fun x => spec_DrawReadyPrio x.1) out_97
theorem ok_97 : ConOk Try.prog 83 c_97 := Con.shape_ok sem_97

/-! 52 -/
def C_98 : Cfg := { T := tab, hint := fun _ => { mu := [2, 5], keepR := [0, 2, 3], res := [2, 3] }, mode := fun _ => .borrow }
noncomputable def O_98 : Oracle := Oracle.of [(83, c_97)]
noncomputable def L_98 : Loops := Loops.of []
theorem lf_98 : LoopsFn Try.prog C_98 O_98 52 L_98 := LoopsFn.nil' (by kernel_rfl)
def sa_98 : List S2 := [.one (.dat (.sl (.int .u8)))]
def ba_98 : List SB := []
def out_98 (r : Nat × Nat × Int × (List (List Int))) : AV × Store := outT [.agg [.refg 0], .one (.dat I)] [.deep I] (r.1, r.2.1, r.2.2.1, r.2.2.2, ())
theorem w_98 (x : FAr sa_98 ba_98) : evF C_98 O_98 L_98 52 sa_98 ba_98 x =
 spec_DrawReadyRemoveK x.1 (fun r => some (out_98 r)) := by kernel_rfl
theorem sem_98 : SemF 52 sa_98 ba_98 (fun x => spec_DrawReadyRemove x.1) out_98 :=
 sem_of folP okP tabP (Oracle.of_ok (Oracle.cons_ok ok_97 Oracle.nil_ok)) lf_98 fun x => (w_98 x).trans (spec_DrawReadyRemove_eq x.1 _)
noncomputable def c_98 : Con := Con.shape sa_98 ba_98 (fun x => spec_DrawReadyRemove x.1) out_98
theorem ok_98 : ConOk Try.prog 52 c_98 := Con.shape_ok sem_98

/-! 15 -/
def C_99 : Cfg := { T := tab, hint := fun _ => { mu := [3, 5, 7, 9], keepR := [0, 2, 3, 4, 5, 6, 7, 8, 10, 11, 12, 13, 16, 42, 44, 67], res := [2], keepL := [(0, [3, 4, 5, 10, 11, 12, 13])], keepX := [(0, [4, 5, 10, 11, 12]), (1, [3, 4, 5, 10, 11, 12, 13])] }, mode := fun _ => .borrow }
noncomputable def O_99 : Oracle := Oracle.of [(18, c_4), (21, c_12), (22, c_24), (38, c_68), (39, c_72), (41, c_79), (42, c_80), (52, c_98)]
def sh_99_l0 : List (Nat × S2) := [(3, .one (.ptr 0 0 0)), (4, .one (.dat I)), (5, .one (.ptr 1 0 0)), (10, .one (.dat .bool)), (11, .one (.dat I)), (12, .one (.dat I)), (13, .one (.dat I))]
def bs_99_l0 : List SB := [.cell (.dat (.sl (.sl I))), .cell (.dat (.sl (.sl I)))]
def xs_99_l0 : List (Nat × S2) := [(4, .one (.dat I)), (5, .one (.ptr 0 0 0)), (10, .one (.dat .bool)), (11, .one (.dat I)), (12, .one (.dat I))]
def xb_99_l0 : List SB := [.cell (.dat (.sl (.sl I)))]
noncomputable def lc_99_l0 : LCon := LCon.shape1 sh_99_l0 bs_99_l0 laws_FnReadyRemove_l0 (fun a => (.exit 0, encSt xs_99_l0 xb_99_l0 a))
noncomputable def L_99 : Loops := Loops.of [(0, lc_99_l0)]
theorem r_99_l0 (x : FSt sh_99_l0 bs_99_l0) : rdF C_99 O_99 L_99 15 0 0 sh_99_l0 bs_99_l0 x =
 laws_FnReadyRemove_l0K x.1 x.2.1 x.2.2.1 x.2.2.2.1 x.2.2.2.2.1 x.2.2.2.2.2.1 x.2.2.2.2.2.2.1 (fun y => some (Ex.normal, encSt sh_99_l0 bs_99_l0 y)) (fun a => some (Ex.exit 0, encSt xs_99_l0 xb_99_l0 a)) := by kernel_rfl
theorem lo_99_l0 : loF C_99 O_99 L_99 15 0 0 lc_99_l0 :=
 LCon.shape1_ok (fun a => by simp) fun x => (r_99_l0 x).trans (laws_FnReadyRemove_l0_eq x.1 x.2.1 x.2.2.1 x.2.2.2.1 x.2.2.2.2.1 x.2.2.2.2.2.1 x.2.2.2.2.2.2.1 _ _)
theorem lf_99 : LoopsFn Try.prog C_99 O_99 15 L_99 := LoopsFn.all (by kernel_rfl) (by decide) ⟨lo_99_l0, trivial⟩
def sa_99 : List S2 := [.one (.dat (.sl (.int .u8)))]
def ba_99 : List SB := []
def out_99 (r : Bool) : AV × Store := out1 (.one (.dat .bool)) [] (r, ())
theorem w_99 (x : FAr sa_99 ba_99) : evF C_99 O_99 L_99 15 sa_99 ba_99 x =
 laws_FnReadyRemoveK x.1 (fun r => some (out_99 r)) := by kernel_rfl
theorem sem_99 : SemF 15 sa_99 ba_99 (fun x => laws_FnReadyRemove x.1) out_99 :=
 sem_of folP okP tabP (Oracle.of_ok (Oracle.cons_ok ok_4 (Oracle.cons_ok ok_12 (Oracle.cons_ok ok_24 (Oracle.cons_ok ok_68 (Oracle.cons_ok ok_72 (Oracle.cons_ok ok_79 (Oracle.cons_ok ok_80 (Oracle.cons_ok ok_98 Oracle.nil_ok))))))))) lf_99 fun x => (w_99 x).trans (laws_FnReadyRemove_eq x.1 _)
noncomputable def c_99 : Con := Con.shape sa_99 ba_99 (fun x => laws_FnReadyRemove x.1) out_99
theorem ok_99 : ConOk Try.prog 15 c_99 := Con.shape_ok sem_99

/-! 53 -/
def C_100 : Cfg := { T := tab, hint := fun _ => { mu := [2, 6, 9], keepR := [0, 2, 3, 4, 5, 6, 7, 15], res := [2, 3, 4], order := [(6, [(2, .read), (1, .pure), (5, .pure), (0, .aside [1] []), (3, .forced), (4, .pure), (6, .forced), (7, .pure), (8, .pure), (9, .pure), (10, .forced), (11, .forced), (12, .forced)])] }, mode := modeOf [(78, .sub), (79, .sub), (84, .sub)] }
noncomputable def O_100 : Oracle := Oracle.of [(72, c_51), (77, c_74), (78, c_77), (79, c_75), (84, c_76)]
noncomputable def L_100 : Loops := Loops.of []
theorem lf_100 : LoopsFn Try.prog C_100 O_100 53 L_100 := LoopsFn.nil' (by kernel_rfl)
def sa_100 : List S2 := [.one (.dat (.sl (.int .u8)))]
def ba_100 : List SB := []
def out_100 (r : Nat × Nat × Int × Int × (List (List Int))) : AV × Store := outT [.agg [.refg 0], .one (.dat I), .one (.dat I)] [.deep I] (r.1, r.2.1, r.2.2.1, r.2.2.2.1, r.2.2.2.2, ())
theorem w_100 (x : FAr sa_100 ba_100) : evF C_100 O_100 L_100 53 sa_100 ba_100 x =
 spec_DrawTurnsOfK x.1 (fun r => some (out_100 r)) := by kernel_rfl
theorem sem_100 : SemF 53 sa_100 ba_100 (fun x => spec_DrawTurnsOf x.1) out_100 :=
 sem_of folP okP tabP (Oracle.of_ok (Oracle.cons_ok ok_51 (Oracle.cons_ok ok_74 (Oracle.cons_ok ok_77 (Oracle.cons_ok ok_75 (Oracle.cons_ok ok_76 Oracle.nil_ok)))))) lf_100 fun x => (w_100 x).trans (spec_DrawTurnsOf_eq x.1 _)
noncomputable def c_100 : Con := Con.shape sa_100 ba_100 (fun x => spec_DrawTurnsOf x.1) out_100
theorem ok_100 : ConOk Try.prog 53 c_100 := Con.shape_ok sem_100

/-! 16 -/
def C_101 : Cfg := { T := tab, hint := fun _ => { mu := [3], keepR := [0, 2, 3, 4, 5, 6, 7, 8, 9, 10, 13, 29, 31, 40, 44, 60, 75, 77], res := [2], order := [(18, tns .read 0 4 ++ [(4, .forced), (5, .forced), (6, .forced)])], keepL := [(0, [3, 5, 7, 8, 9])], keepX := [(0, [5, 8]), (1, [3, 5, 7, 8, 9])] }, mode := fun _ => .borrow }
noncomputable def O_101 : Oracle := Oracle.of [(22, c_24), (36, c_65), (37, c_66), (41, c_79), (42, c_80), (46, c_86), (53, c_100)]
def sh_101_l0 : List (Nat × S2) := [(3, .one (.ptr 0 0 0)), (5, .one (.dat I)), (7, .one (.dat I)), (8, .one (.dat I)), (9, .one (.dat I))]
def bs_101_l0 : List SB := [.cell (.dat (.sl (.sl I)))]
def xs_101_l0 : List (Nat × S2) := [(5, .one (.dat I)), (8, .one (.dat I))]
def xb_101_l0 : List SB := []
def ys_101_l0 : List (Nat × S2) := [(2, .one (.dat .bool))]
def yb_101_l0 : List SB := []
noncomputable def lc_101_l0 : LCon := LCon.shape sh_101_l0 bs_101_l0 laws_FnTurnsOf_l0 (fun a => (.exit 0, encSt xs_101_l0 xb_101_l0 a)) (fun b => encSt ys_101_l0 yb_101_l0 b)
noncomputable def L_101 : Loops := Loops.of [(0, lc_101_l0)]
theorem r_101_l0 (x : FSt sh_101_l0 bs_101_l0) : rdF C_101 O_101 L_101 16 0 0 sh_101_l0 bs_101_l0 x =
 laws_FnTurnsOf_l0K x.1 x.2.1 x.2.2.1 x.2.2.2.1 x.2.2.2.2.1 (fun y => some (Ex.normal, encSt sh_101_l0 bs_101_l0 y)) (fun a => some (Ex.exit 0, encSt xs_101_l0 xb_101_l0 a)) (fun b => some (Ex.ret, encSt ys_101_l0 yb_101_l0 b)) := by kernel_rfl
theorem lo_101_l0 : loF C_101 O_101 L_101 16 0 0 lc_101_l0 :=
 LCon.shape_ok (fun a => by simp) fun x => (r_101_l0 x).trans (laws_FnTurnsOf_l0_eq x.1 x.2.1 x.2.2.1 x.2.2.2.1 x.2.2.2.2.1 _ _ _)
theorem lf_101 : LoopsFn Try.prog C_101 O_101 16 L_101 := LoopsFn.all (by kernel_rfl) (by decide) ⟨lo_101_l0, trivial⟩
def sa_101 : List S2 := [.one (.dat (.sl (.int .u8)))]
def ba_101 : List SB := []
def out_101 (r : Bool) : AV × Store := out1 (.one (.dat .bool)) [] (r, ())
theorem w_101 (x : FAr sa_101 ba_101) : evF C_101 O_101 L_101 16 sa_101 ba_101 x =
 laws_FnTurnsOfK x.1 (fun r => some (out_101 r)) := by kernel_rfl
theorem sem_101 : SemF 16 sa_101 ba_101 (fun x => laws_FnTurnsOf x.1) out_101 :=
 sem_of folP okP tabP (Oracle.of_ok (Oracle.cons_ok ok_24 (Oracle.cons_ok ok_65 (Oracle.cons_ok ok_66 (Oracle.cons_ok ok_79 (Oracle.cons_ok ok_80 (Oracle.cons_ok ok_86 (Oracle.cons_ok ok_100 Oracle.nil_ok)))))))) lf_101 fun x => (w_101 x).trans (laws_FnTurnsOf_eq x.1 _)
noncomputable def c_101 : Con := Con.shape sa_101 ba_101 (fun x => laws_FnTurnsOf x.1) out_101
theorem ok_101 : ConOk Try.prog 16 c_101 := Con.shape_ok sem_101

end Go.Ev
