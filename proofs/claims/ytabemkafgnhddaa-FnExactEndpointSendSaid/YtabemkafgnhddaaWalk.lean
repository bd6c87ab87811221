/-
  The walks: the program computes what the functions of plain data compute, wherever these come to a result; printed by a program of the prover.
-/
import Derived.Test.YtabemkafgnhddaaDefs
import Derived.Test.YtabemkafgnhddaaProg
import Derived.Test.YtabemkafgnhddaaAlive
namespace Go.Ev
open Go.Proofs
set_option linter.unusedVariables false
set_option linter.unusedSimpArgs false
set_option maxRecDepth 100000
def tys : List (Nat × Ty) := [(3, I), (4, .bool), (5, (.int .u8)), (22, (.sl tWaiter)), (24, tEndpoint), (27, (.sl tWaiter)), (29, tEndpoint), (33, (.sl (.int .u8))), (37, tWaiter), (45, tWaiter), (78, tl20Rd), (88, (.sl I))]
def tups : List (Nat × List Ty) := [(39, [tEndpoint, .bool]), (43, [tEndpoint, I]), (49, [tEndpoint, tWaiter, .bool]), (53, [tEndpoint, tWaiter]), (55, [tEndpoint, I, I])]
def tab : Tab := tabOf tys tups
def tns (t : Turn) (a n : Nat) : List (Nat × Turn) := (List.range' a n).map fun i => (i, t)
abbrev SemF (f : Nat) (sa : List S2) (ba : List SB) {ρ : Type} (F : FAr sa ba → Option ρ) (out : ρ → AV × Store) : Prop := ∀ x y, F x = some y → SemCall Try.prog f (encAr sa ba x).1 (encAr sa ba x).2 (out y).1 (out y).2
noncomputable abbrev evF (C : Cfg) (O : Oracle) (L : Loops) (f : Nat) (sa : List S2) (ba : List SB) (x : FAr sa ba) := evBodyK Try.prog C O L f (encAr sa ba x).1 (encAr sa ba x).2 (fun v s => some (v, s))
noncomputable abbrev rdF (C : Cfg) (O : Oracle) (L : Loops) (f b i : Nat) (sh : List (Nat × S2)) (bs : List SB) (x : FSt sh bs) := roundK C.T (C.hint f) C.mode O L b (lp Try.prog f i) (encSt sh bs x) (fun e s => some (e, s))
abbrev loF (C : Cfg) (O : Oracle) (L : Loops) (f b i : Nat) (lc : LCon) := LConOk C.T (C.hint f) C.mode O L b (lp Try.prog f i) lc
theorem okP : progOk Try.prog = true := by kernel_rfl
theorem tabP : TabOk Try.prog tab := tabOf_ok (by kernel_rfl)
theorem folP : Try.prog.follows .mixedOrders = true := by kernel_rfl
/-! 34 -/
def C_0 : Cfg := { T := tab, hint := fun _ => { keepR := [0, 1, 4, 10], res := [4] }, mode := fun _ => .borrow }
noncomputable def O_0 : Oracle := Oracle.of []
noncomputable def L_0 : Loops := Loops.of []
theorem lf_0 : LoopsFn Try.prog C_0 O_0 34 L_0 := LoopsFn.nil' (by kernel_rfl)
def sa_0 : List S2 := [.one (.dat (.sl tWaiter)), .one (.dat I)]
def ba_0 : List SB := []
def out_0 (r : Int) : AV × Store := out1 (.one (.dat I)) [] (r, ())
theorem w_0 (x : FAr sa_0 ba_0) : evF C_0 O_0 L_0 34 sa_0 ba_0 x =
 laws_szWaiterSK x.1 x.2.1 (fun r => some (out_0 r)) := by kernel_rfl
theorem sem_0 : SemF 34 sa_0 ba_0 (fun x => laws_szWaiterS x.1 x.2.1) out_0 :=
 sem_of folP okP tabP (Oracle.of_ok Oracle.nil_ok) lf_0 fun x => (w_0 x).trans (laws_szWaiterS_eq x.1 x.2.1 _)
noncomputable def c_0 : Con := Con.shape sa_0 ba_0 (fun x => laws_szWaiterS x.1 x.2.1) out_0
theorem ok_0 : ConOk Try.prog 34 c_0 := Con.shape_ok sem_0

/-! 13 -/
def C_1 : Cfg := { T := tab, hint := fun _ => { keepR := [1, 2, 4, 10], res := [4] }, mode := fun _ => .borrow }
noncomputable def O_1 : Oracle := Oracle.of [(34, c_0)]
noncomputable def L_1 : Loops := Loops.of []
theorem lf_1 : LoopsFn Try.prog C_1 O_1 13 L_1 := LoopsFn.nil' (by kernel_rfl)
def sa_1 : List S2 := [.one (.dat tEndpoint), .one (.dat I)]
def ba_1 : List SB := []
def out_1 (r : Int) : AV × Store := out1 (.one (.dat I)) [] (r, ())
theorem w_1 (x : FAr sa_1 ba_1) : evF C_1 O_1 L_1 13 sa_1 ba_1 x =
 laws_szEndpointK x.1 x.2.1 (fun r => some (out_1 r)) := by kernel_rfl
theorem sem_1 : SemF 13 sa_1 ba_1 (fun x => laws_szEndpoint x.1 x.2.1) out_1 :=
 sem_of folP okP tabP (Oracle.of_ok (Oracle.cons_ok ok_0 Oracle.nil_ok)) lf_1 fun x => (w_1 x).trans (laws_szEndpoint_eq x.1 x.2.1 _)
noncomputable def c_1 : Con := Con.shape sa_1 ba_1 (fun x => laws_szEndpoint x.1 x.2.1) out_1
theorem ok_1 : ConOk Try.prog 13 c_1 := Con.shape_ok sem_1

/-! 27 -/
def C_2 : Cfg := { T := tab, hint := fun _ => { mu := [2, 3], keepR := [1, 2, 3], res := [2] }, mode := fun _ => .borrow }
noncomputable def O_2 : Oracle := Oracle.of []
noncomputable def L_2 : Loops := Loops.of []
theorem lf_2 : LoopsFn Try.prog C_2 O_2 27 L_2 := LoopsFn.nil' (by kernel_rfl)
def sa_2 : List S2 := [.one (.dat tWaiter)]
def ba_2 : List SB := []
def out_2 (r : DWaiter) : AV × Store := out1 (.one (.dat tWaiter)) [] (r, ())
theorem w_2 (x : FAr sa_2 ba_2) : evF C_2 O_2 L_2 27 sa_2 ba_2 x =
 laws_toWaiterK x.1 (fun r => some (out_2 r)) := by kernel_rfl
theorem sem_2 : SemF 27 sa_2 ba_2 (fun x => laws_toWaiter x.1) out_2 :=
 sem_of folP okP tabP (Oracle.of_ok Oracle.nil_ok) lf_2 fun x => (w_2 x).trans (laws_toWaiter_eq x.1 _)
noncomputable def c_2 : Con := Con.shape sa_2 ba_2 (fun x => laws_toWaiter x.1) out_2
theorem ok_2 : ConOk Try.prog 27 c_2 := Con.shape_ok sem_2

/-! 36 -/
def C_3 : Cfg := { T := tab, hint := fun _ => { mu := [7], keepR := [0, 2, 3, 4, 11], res := [2], keepL := [(0, [0, 3, 4])], keepX := [(0, [3]), (1, [0, 3, 4])] }, mode := fun _ => .borrow }
noncomputable def O_3 : Oracle := Oracle.of [(27, c_2)]
def sh_3_l0 : List (Nat × S2) := [(0, .one (.dat (.sl tWaiter))), (3, .one (.all 0)), (4, .one (.dat I))]
def bs_3_l0 : List SB := [.data tWaiter]
def xs_3_l0 : List (Nat × S2) := [(3, .one (.all 0))]
def xb_3_l0 : List SB := [.data tWaiter]
noncomputable def lc_3_l0 : LCon := LCon.shape1 sh_3_l0 bs_3_l0 laws_toWaiterS_l0 (fun a => (.exit 0, encSt xs_3_l0 xb_3_l0 a))
noncomputable def L_3 : Loops := Loops.of [(0, lc_3_l0)]
theorem r_3_l0 (x : FSt sh_3_l0 bs_3_l0) : rdF C_3 O_3 L_3 36 0 0 sh_3_l0 bs_3_l0 x =
 laws_toWaiterS_l0K x.1 x.2.1 x.2.2.1 (fun y => some (Ex.normal, encSt sh_3_l0 bs_3_l0 y)) (fun a => some (Ex.exit 0, encSt xs_3_l0 xb_3_l0 a)) := by kernel_rfl
theorem lo_3_l0 : loF C_3 O_3 L_3 36 0 0 lc_3_l0 :=
 LCon.shape1_ok (fun a => by simp) fun x => (r_3_l0 x).trans (laws_toWaiterS_l0_eq x.1 x.2.1 x.2.2.1 _ _)
theorem lf_3 : LoopsFn Try.prog C_3 O_3 36 L_3 := LoopsFn.all (by kernel_rfl) (by decide) ⟨lo_3_l0, trivial⟩
def sa_3 : List S2 := [.one (.dat (.sl tWaiter))]
def ba_3 : List SB := []
def out_3 (r : (List DWaiter)) : AV × Store := out1 (.one (.all 0)) [.data tWaiter] (r, ())
theorem w_3 (x : FAr sa_3 ba_3) : evF C_3 O_3 L_3 36 sa_3 ba_3 x =
 laws_toWaiterSK x.1 (fun r => some (out_3 r)) := by kernel_rfl
theorem sem_3 : SemF 36 sa_3 ba_3 (fun x => laws_toWaiterS x.1) out_3 :=
 sem_of folP okP tabP (Oracle.of_ok (Oracle.cons_ok ok_2 Oracle.nil_ok)) lf_3 fun x => (w_3 x).trans (laws_toWaiterS_eq x.1 _)
noncomputable def c_3 : Con := Con.shape sa_3 ba_3 (fun x => laws_toWaiterS x.1) out_3
theorem ok_3 : ConOk Try.prog 36 c_3 := Con.shape_ok sem_3

/-! 15 -/
def C_4 : Cfg := { T := tab, hint := fun _ => { mu := [2, 3, 9], keepR := [1, 2, 3], res := [2] }, mode := fun _ => .borrow }
noncomputable def O_4 : Oracle := Oracle.of [(36, c_3)]
noncomputable def L_4 : Loops := Loops.of []
theorem lf_4 : LoopsFn Try.prog C_4 O_4 15 L_4 := LoopsFn.nil' (by kernel_rfl)
def sa_4 : List S2 := [.one (.dat tEndpoint)]
def ba_4 : List SB := []
def out_4 (r : Bool × (List DWaiter)) : AV × Store := out1 (.agg [.dat .bool, .all 0]) [.data tWaiter] (r.1, r.2, ())
theorem w_4 (x : FAr sa_4 ba_4) : evF C_4 O_4 L_4 15 sa_4 ba_4 x =
 laws_toEndpointK x.1 (fun r => some (out_4 r)) := by kernel_rfl
theorem sem_4 : SemF 15 sa_4 ba_4 (fun x => laws_toEndpoint x.1) out_4 :=
 sem_of folP okP tabP (Oracle.of_ok (Oracle.cons_ok ok_3 Oracle.nil_ok)) lf_4 fun x => (w_4 x).trans (laws_toEndpoint_eq x.1 _)
noncomputable def c_4 : Con := Con.shape sa_4 ba_4 (fun x => laws_toEndpoint x.1) out_4
theorem ok_4 : ConOk Try.prog 15 c_4 := Con.shape_ok sem_4

/-! 35 -/
def C_5 : Cfg := { T := tab, hint := fun _ => { keepR := [0, 1, 2, 6], res := [6] }, mode := fun _ => .borrow }
noncomputable def O_5 : Oracle := Oracle.of []
noncomputable def L_5 : Loops := Loops.of []
theorem lf_5 : LoopsFn Try.prog C_5 O_5 35 L_5 := LoopsFn.nil' (by kernel_rfl)
def sa_5 : List S2 := [.one (.dat I), .one (.dat I), .one (.dat I)]
def ba_5 : List SB := []
def out_5 (r : Bool) : AV × Store := out1 (.one (.dat .bool)) [] (r, ())
theorem w_5 (x : FAr sa_5 ba_5) : evF C_5 O_5 L_5 35 sa_5 ba_5 x =
 spec_l1InK x.1 x.2.1 x.2.2.1 (fun r => some (out_5 r)) := by kernel_rfl
theorem sem_5 : SemF 35 sa_5 ba_5 (fun x => spec_l1In x.1 x.2.1 x.2.2.1) out_5 :=
 sem_of folP okP tabP (Oracle.of_ok Oracle.nil_ok) lf_5 fun x => (w_5 x).trans (spec_l1In_eq x.1 x.2.1 x.2.2.1 _)
noncomputable def c_5 : Con := Con.shape sa_5 ba_5 (fun x => spec_l1In x.1 x.2.1 x.2.2.1) out_5
theorem ok_5 : ConOk Try.prog 35 c_5 := Con.shape_ok sem_5

/-! 14 -/
def C_6 : Cfg := { T := tab, hint := fun _ => { mu := [4], keepR := [1, 2, 3, 4, 5, 10, 64, 67, 78], res := [2], order := [(5, tns .forced 0 20 ++ tns .read 20 7 ++ tns .forced 27 20), (10, tns .read 0 6 ++ [(6, .forced), (7, .forced), (8, .forced)])], keepL := [(0, [1, 3]), (2, [1, 3, 4, 5])], keepX := [(0, [1]), (1, [1, 3]), (2, [1, 3]), (3, [1, 3, 4, 5])] }, mode := fun _ => .borrow }
noncomputable def O_6 : Oracle := Oracle.of [(35, c_5)]
def sh_6_l0 : List (Nat × S2) := [(1, .one (.cdat tEndpoint 0)), (3, .one (.dat I))]
def bs_6_l0 : List SB := []
def xs_6_l0 : List (Nat × S2) := [(1, .one (.cdat tEndpoint 0))]
def xb_6_l0 : List SB := []
def ys_6_l0 : List (Nat × S2) := [(2, .one (.dat .bool))]
def yb_6_l0 : List SB := []
noncomputable def lc_6_l0 : LCon := LCon.shape sh_6_l0 bs_6_l0 spec_EndpointValid_l0 (fun a => (.exit 0, encSt xs_6_l0 xb_6_l0 a)) (fun b => encSt ys_6_l0 yb_6_l0 b)
def sh_6_l2 : List (Nat × S2) := [(1, .one (.cdat tEndpoint 0)), (3, .one (.dat I)), (4, .one (.ptr 0 0 0)), (5, .one (.dat I))]
def bs_6_l2 : List SB := [.one tWaiter]
def xs_6_l2 : List (Nat × S2) := [(1, .one (.cdat tEndpoint 0)), (3, .one (.dat I))]
def xb_6_l2 : List SB := []
def ys_6_l2 : List (Nat × S2) := [(2, .one (.dat .bool))]
def yb_6_l2 : List SB := []
noncomputable def lc_6_l2 : LCon := LCon.shape sh_6_l2 bs_6_l2 spec_EndpointValid_l2 (fun a => (.exit 2, encSt xs_6_l2 xb_6_l2 a)) (fun b => encSt ys_6_l2 yb_6_l2 b)
noncomputable def L_6 : Loops := Loops.of [(0, lc_6_l0), (2, lc_6_l2)]
theorem r_6_l0 (x : FSt sh_6_l0 bs_6_l0) : rdF C_6 O_6 L_6 14 0 0 sh_6_l0 bs_6_l0 x =
 spec_EndpointValid_l0K x.1 x.2.1 (fun y => some (Ex.normal, encSt sh_6_l0 bs_6_l0 y)) (fun a => some (Ex.exit 0, encSt xs_6_l0 xb_6_l0 a)) (fun b => some (Ex.ret, encSt ys_6_l0 yb_6_l0 b)) := by kernel_rfl
theorem lo_6_l0 : loF C_6 O_6 L_6 14 0 0 lc_6_l0 :=
 LCon.shape_ok (fun a => by simp) fun x => (r_6_l0 x).trans (spec_EndpointValid_l0_eq x.1 x.2.1 _ _ _)
theorem r_6_l2 (x : FSt sh_6_l2 bs_6_l2) : rdF C_6 O_6 L_6 14 2 1 sh_6_l2 bs_6_l2 x =
 spec_EndpointValid_l2K x.1 x.2.1 x.2.2.1 x.2.2.2.1 (fun y => some (Ex.normal, encSt sh_6_l2 bs_6_l2 y)) (fun a => some (Ex.exit 2, encSt xs_6_l2 xb_6_l2 a)) (fun b => some (Ex.ret, encSt ys_6_l2 yb_6_l2 b)) := by kernel_rfl
theorem lo_6_l2 : loF C_6 O_6 L_6 14 2 1 lc_6_l2 :=
 LCon.shape_ok (fun a => by simp) fun x => (r_6_l2 x).trans (spec_EndpointValid_l2_eq x.1 x.2.1 x.2.2.1 x.2.2.2.1 _ _ _)
theorem lf_6 : LoopsFn Try.prog C_6 O_6 14 L_6 := LoopsFn.all (by kernel_rfl) (by decide) ⟨lo_6_l0, lo_6_l2, trivial⟩
def sa_6 : List S2 := [.one (.dat tEndpoint)]
def ba_6 : List SB := []
def out_6 (r : Bool) : AV × Store := out1 (.one (.dat .bool)) [] (r, ())
theorem w_6 (x : FAr sa_6 ba_6) : evF C_6 O_6 L_6 14 sa_6 ba_6 x =
 spec_EndpointValidK x.1 (fun r => some (out_6 r)) := by kernel_rfl
theorem sem_6 : SemF 14 sa_6 ba_6 (fun x => spec_EndpointValid x.1) out_6 :=
 sem_of folP okP tabP (Oracle.of_ok (Oracle.cons_ok ok_5 Oracle.nil_ok)) lf_6 fun x => (w_6 x).trans (spec_EndpointValid_eq x.1 _)
noncomputable def c_6 : Con := Con.shape sa_6 ba_6 (fun x => spec_EndpointValid x.1) out_6
theorem ok_6 : ConOk Try.prog 14 c_6 := Con.shape_ok sem_6

/-! 54 -/
def C_7 : Cfg := { T := tab, hint := fun _ => { keepR := [0, 1, 2, 6], res := [6] }, mode := fun _ => .borrow }
noncomputable def O_7 : Oracle := Oracle.of []
noncomputable def L_7 : Loops := Loops.of []
theorem lf_7 : LoopsFn Try.prog C_7 O_7 54 L_7 := LoopsFn.nil' (by kernel_rfl)
def sa_7 : List S2 := [.one (.dat I), .one (.dat I), .one (.dat I)]
def ba_7 : List SB := []
def out_7 (r : Bool) : AV × Store := out1 (.one (.dat .bool)) [] (r, ())
theorem w_7 (x : FAr sa_7 ba_7) : evF C_7 O_7 L_7 54 sa_7 ba_7 x =
 impl_inK x.1 x.2.1 x.2.2.1 (fun r => some (out_7 r)) := by kernel_rfl
theorem sem_7 : SemF 54 sa_7 ba_7 (fun x => impl_in x.1 x.2.1 x.2.2.1) out_7 :=
 sem_of folP okP tabP (Oracle.of_ok Oracle.nil_ok) lf_7 fun x => (w_7 x).trans (impl_in_eq x.1 x.2.1 x.2.2.1 _)
noncomputable def c_7 : Con := Con.shape sa_7 ba_7 (fun x => impl_in x.1 x.2.1 x.2.2.1) out_7
theorem ok_7 : ConOk Try.prog 54 c_7 := Con.shape_ok sem_7

/-! 52 -/
def C_8 : Cfg := { T := tab, hint := fun _ => { keepR := [0, 2], res := [2] }, mode := fun _ => .borrow }
noncomputable def O_8 : Oracle := Oracle.of [(54, c_7)]
noncomputable def L_8 : Loops := Loops.of []
theorem lf_8 : LoopsFn Try.prog C_8 O_8 52 L_8 := LoopsFn.nil' (by kernel_rfl)
def sa_8 : List S2 := [.one (.dat I)]
def ba_8 : List SB := []
def out_8 (r : Bool) : AV × Store := out1 (.one (.dat .bool)) [] (r, ())
theorem w_8 (x : FAr sa_8 ba_8) : evF C_8 O_8 L_8 52 sa_8 ba_8 x =
 impl_isThreadK x.1 (fun r => some (out_8 r)) := by kernel_rfl
theorem sem_8 : SemF 52 sa_8 ba_8 (fun x => impl_isThread x.1) out_8 :=
 sem_of folP okP tabP (Oracle.of_ok (Oracle.cons_ok ok_7 Oracle.nil_ok)) lf_8 fun x => (w_8 x).trans (impl_isThread_eq x.1 _)
noncomputable def c_8 : Con := Con.shape sa_8 ba_8 (fun x => impl_isThread x.1) out_8
theorem ok_8 : ConOk Try.prog 52 c_8 := Con.shape_ok sem_8

/-! 53 -/
def C_9 : Cfg := { T := tab, hint := fun _ => { keepR := [0, 2], res := [2] }, mode := fun _ => .borrow }
noncomputable def O_9 : Oracle := Oracle.of [(54, c_7)]
noncomputable def L_9 : Loops := Loops.of []
theorem lf_9 : LoopsFn Try.prog C_9 O_9 53 L_9 := LoopsFn.nil' (by kernel_rfl)
def sa_9 : List S2 := [.one (.dat I)]
def ba_9 : List SB := []
def out_9 (r : Bool) : AV × Store := out1 (.one (.dat .bool)) [] (r, ())
theorem w_9 (x : FAr sa_9 ba_9) : evF C_9 O_9 L_9 53 sa_9 ba_9 x =
 impl_isPrioK x.1 (fun r => some (out_9 r)) := by kernel_rfl
theorem sem_9 : SemF 53 sa_9 ba_9 (fun x => impl_isPrio x.1) out_9 :=
 sem_of folP okP tabP (Oracle.of_ok (Oracle.cons_ok ok_7 Oracle.nil_ok)) lf_9 fun x => (w_9 x).trans (impl_isPrio_eq x.1 _)
noncomputable def c_9 : Con := Con.shape sa_9 ba_9 (fun x => impl_isPrio x.1) out_9
theorem ok_9 : ConOk Try.prog 53 c_9 := Con.shape_ok sem_9

/-! 37 -/
def C_10 : Cfg := { T := tab, hint := fun _ => { keepR := [1, 2], res := [2] }, mode := fun _ => .borrow }
noncomputable def O_10 : Oracle := Oracle.of [(52, c_8), (53, c_9), (54, c_7)]
noncomputable def L_10 : Loops := Loops.of []
theorem lf_10 : LoopsFn Try.prog C_10 O_10 37 L_10 := LoopsFn.nil' (by kernel_rfl)
def sa_10 : List S2 := [.one (.dat tWaiter)]
def ba_10 : List SB := []
def out_10 (r : Bool) : AV × Store := out1 (.one (.dat .bool)) [] (r, ())
theorem w_10 (x : FAr sa_10 ba_10) : evF C_10 O_10 L_10 37 sa_10 ba_10 x =
 impl_Waiter_mayK x.1 (fun r => some (out_10 r)) := by kernel_rfl
theorem sem_10 : SemF 37 sa_10 ba_10 (fun x => impl_Waiter_may x.1) out_10 :=
 sem_of folP okP tabP (Oracle.of_ok (Oracle.cons_ok ok_8 (Oracle.cons_ok ok_9 (Oracle.cons_ok ok_7 Oracle.nil_ok)))) lf_10 fun x => (w_10 x).trans (impl_Waiter_may_eq x.1 _)
noncomputable def c_10 : Con := Con.shape sa_10 ba_10 (fun x => impl_Waiter_may x.1) out_10
theorem ok_10 : ConOk Try.prog 37 c_10 := Con.shape_ok sem_10

/-! 56 -/
def C_11 : Cfg := { T := tab, hint := fun _ => { keepR := [1, 2, 3], res := [3] }, mode := fun _ => .borrow }
noncomputable def O_11 : Oracle := Oracle.of []
noncomputable def L_11 : Loops := Loops.of []
theorem lf_11 : LoopsFn Try.prog C_11 O_11 56 L_11 := LoopsFn.nil' (by kernel_rfl)
def sa_11 : List S2 := [.one (.dat tWaiter), .one (.cdat I 0)]
def ba_11 : List SB := []
def out_11 (r : Bool) : AV × Store := out1 (.one (.dat .bool)) [] (r, ())
theorem w_11 (x : FAr sa_11 ba_11) : evF C_11 O_11 L_11 56 sa_11 ba_11 x =
 impl_Endpoint_at_c1K x.1 x.2.1 (fun r => some (out_11 r)) := by kernel_rfl
theorem sem_11 : SemF 56 sa_11 ba_11 (fun x => impl_Endpoint_at_c1 x.1 x.2.1) out_11 :=
 sem_of folP okP tabP (Oracle.of_ok Oracle.nil_ok) lf_11 fun x => (w_11 x).trans (impl_Endpoint_at_c1_eq x.1 x.2.1 _)
noncomputable def c_11 : Con := Con.shape sa_11 ba_11 (fun x => impl_Endpoint_at_c1 x.1 x.2.1) out_11
theorem ok_11 : ConOk Try.prog 56 c_11 := Con.shape_ok sem_11

/-! 55 -/
def C_12 : Cfg := { T := tab, hint := fun _ => { keepR := [0, 1, 4, 5, 7, 8, 9, 16], res := [4], keepL := [(0, [0, 1, 7, 8])], keepX := [(0, []), (1, [0, 1, 7, 8])] }, mode := fun _ => .borrow }
noncomputable def O_12 : Oracle := Oracle.of [(56, c_11)]
def sh_12_l0 : List (Nat × S2) := [(0, .one (.dat (.sl tWaiter))), (1, .fn 56 [.cdat I 0]), (7, .one (.dat I)), (8, .one (.dat I))]
def bs_12_l0 : List SB := []
def xs_12_l0 : List (Nat × S2) := []
def xb_12_l0 : List SB := []
def ys_12_l0 : List (Nat × S2) := [(4, .one (.dat I))]
def yb_12_l0 : List SB := []
noncomputable def lc_12_l0 : LCon := LCon.shape sh_12_l0 bs_12_l0 slices_IndexFunc_Waiter_l0 (fun a => (.exit 0, encSt xs_12_l0 xb_12_l0 a)) (fun b => encSt ys_12_l0 yb_12_l0 b)
noncomputable def L_12 : Loops := Loops.of [(0, lc_12_l0)]
theorem r_12_l0 (x : FSt sh_12_l0 bs_12_l0) : rdF C_12 O_12 L_12 55 0 0 sh_12_l0 bs_12_l0 x =
 slices_IndexFunc_Waiter_l0K x.1 x.2.1 x.2.2.1 x.2.2.2.1 (fun y => some (Ex.normal, encSt sh_12_l0 bs_12_l0 y)) (fun a => some (Ex.exit 0, encSt xs_12_l0 xb_12_l0 a)) (fun b => some (Ex.ret, encSt ys_12_l0 yb_12_l0 b)) := by kernel_rfl
theorem lo_12_l0 : loF C_12 O_12 L_12 55 0 0 lc_12_l0 :=
 LCon.shape_ok (fun a => by simp) fun x => (r_12_l0 x).trans (slices_IndexFunc_Waiter_l0_eq x.1 x.2.1 x.2.2.1 x.2.2.2.1 _ _ _)
theorem lf_12 : LoopsFn Try.prog C_12 O_12 55 L_12 := LoopsFn.all (by kernel_rfl) (by decide) ⟨lo_12_l0, trivial⟩
def sa_12 : List S2 := [.one (.dat (.sl tWaiter)), .fn 56 [.cdat I 0]]
def ba_12 : List SB := []
def out_12 (r : Int) : AV × Store := out1 (.one (.dat I)) [] (r, ())
theorem w_12 (x : FAr sa_12 ba_12) : evF C_12 O_12 L_12 55 sa_12 ba_12 x =
 slices_IndexFunc_WaiterK x.1 x.2.1 (fun r => some (out_12 r)) := by kernel_rfl
theorem sem_12 : SemF 55 sa_12 ba_12 (fun x => slices_IndexFunc_Waiter x.1 x.2.1) out_12 :=
 sem_of folP okP tabP (Oracle.of_ok (Oracle.cons_ok ok_11 Oracle.nil_ok)) lf_12 fun x => (w_12 x).trans (slices_IndexFunc_Waiter_eq x.1 x.2.1 _)
noncomputable def c_12 : Con := Con.shape sa_12 ba_12 (fun x => slices_IndexFunc_Waiter x.1 x.2.1) out_12
theorem ok_12 : ConOk Try.prog 55 c_12 := Con.shape_ok sem_12

/-! 38 -/
def C_13 : Cfg := { T := tab, hint := fun _ => { keepR := [2, 3, 4], res := [4] }, mode := fun _ => .borrow }
noncomputable def O_13 : Oracle := Oracle.of [(55, c_12)]
noncomputable def L_13 : Loops := Loops.of []
theorem lf_13 : LoopsFn Try.prog C_13 O_13 38 L_13 := LoopsFn.nil' (by kernel_rfl)
def sa_13 : List S2 := [.one (.dat tEndpoint), .one (.dat I)]
def ba_13 : List SB := []
def out_13 (r : Int) : AV × Store := out1 (.one (.dat I)) [] (r, ())
theorem w_13 (x : FAr sa_13 ba_13) : evF C_13 O_13 L_13 38 sa_13 ba_13 x =
 impl_Endpoint_atK x.1 x.2.1 (fun r => some (out_13 r)) := by kernel_rfl
theorem sem_13 : SemF 38 sa_13 ba_13 (fun x => impl_Endpoint_at x.1 x.2.1) out_13 :=
 sem_of folP okP tabP (Oracle.of_ok (Oracle.cons_ok ok_12 Oracle.nil_ok)) lf_13 fun x => (w_13 x).trans (impl_Endpoint_at_eq x.1 x.2.1 _)
noncomputable def c_13 : Con := Con.shape sa_13 ba_13 (fun x => impl_Endpoint_at x.1 x.2.1) out_13
theorem ok_13 : ConOk Try.prog 38 c_13 := Con.shape_ok sem_13

/-! 16 -/
def C_14 : Cfg := { T := tab, hint := fun _ => { mu := [4], keepR := [1, 2, 3, 4, 6, 7, 8, 9, 54], res := [2], order := [(4, tns .forced 0 4 ++ tns .read 4 4 ++ tns .forced 8 7 ++ tns .read 15 4 ++ tns .forced 19 23)], keepL := [(0, [1, 6, 7, 8])], keepX := [(0, [1]), (1, [1, 6, 7, 8])] }, mode := fun _ => .borrow }
noncomputable def O_14 : Oracle := Oracle.of [(37, c_10), (38, c_13)]
def sh_14_l0 : List (Nat × S2) := [(1, .one (.cdat tEndpoint 0)), (6, .one (.dat (.sl tWaiter))), (7, .one (.dat I)), (8, .one (.dat I))]
def bs_14_l0 : List SB := []
def xs_14_l0 : List (Nat × S2) := [(1, .one (.cdat tEndpoint 0))]
def xb_14_l0 : List SB := []
def ys_14_l0 : List (Nat × S2) := [(2, .one (.dat .bool))]
def yb_14_l0 : List SB := []
noncomputable def lc_14_l0 : LCon := LCon.shape sh_14_l0 bs_14_l0 impl_EndpointValid_l0 (fun a => (.exit 0, encSt xs_14_l0 xb_14_l0 a)) (fun b => encSt ys_14_l0 yb_14_l0 b)
noncomputable def L_14 : Loops := Loops.of [(0, lc_14_l0)]
theorem r_14_l0 (x : FSt sh_14_l0 bs_14_l0) : rdF C_14 O_14 L_14 16 0 0 sh_14_l0 bs_14_l0 x =
 impl_EndpointValid_l0K x.1 x.2.1 x.2.2.1 x.2.2.2.1 (fun y => some (Ex.normal, encSt sh_14_l0 bs_14_l0 y)) (fun a => some (Ex.exit 0, encSt xs_14_l0 xb_14_l0 a)) (fun b => some (Ex.ret, encSt ys_14_l0 yb_14_l0 b)) := by kernel_rfl
theorem lo_14_l0 : loF C_14 O_14 L_14 16 0 0 lc_14_l0 :=
 LCon.shape_ok (fun a => by simp) fun x => (r_14_l0 x).trans (impl_EndpointValid_l0_eq x.1 x.2.1 x.2.2.1 x.2.2.2.1 _ _ _)
theorem lf_14 : LoopsFn Try.prog C_14 O_14 16 L_14 := LoopsFn.all (by kernel_rfl) (by decide) ⟨lo_14_l0, trivial⟩
def sa_14 : List S2 := [.one (.dat tEndpoint)]
def ba_14 : List SB := []
def out_14 (r : Bool) : AV × Store := out1 (.one (.dat .bool)) [] (r, ())
theorem w_14 (x : FAr sa_14 ba_14) : evF C_14 O_14 L_14 16 sa_14 ba_14 x =
 impl_EndpointValidK x.1 (fun r => some (out_14 r)) := by kernel_rfl
theorem sem_14 : SemF 16 sa_14 ba_14 (fun x => impl_EndpointValid x.1) out_14 :=
 sem_of folP okP tabP (Oracle.of_ok (Oracle.cons_ok ok_10 (Oracle.cons_ok ok_13 Oracle.nil_ok))) lf_14 fun x => (w_14 x).trans (impl_EndpointValid_eq x.1 _)
noncomputable def c_14 : Con := Con.shape sa_14 ba_14 (fun x => impl_EndpointValid x.1) out_14
theorem ok_14 : ConOk Try.prog 16 c_14 := Con.shape_ok sem_14

/-! 31 -/
def C_15 : Cfg := { T := tab, hint := fun _ => { keepR := [2, 3, 4, 9, 14, 19, 24], res := [4] }, mode := fun _ => .borrow }
noncomputable def O_15 : Oracle := Oracle.of []
noncomputable def L_15 : Loops := Loops.of []
theorem lf_15 : LoopsFn Try.prog C_15 O_15 31 L_15 := LoopsFn.nil' (by kernel_rfl)
def sa_15 : List S2 := [.one (.dat tWaiter), .one (.dat tWaiter)]
def ba_15 : List SB := []
def out_15 (r : Bool) : AV × Store := out1 (.one (.dat .bool)) [] (r, ())
theorem w_15 (x : FAr sa_15 ba_15) : evF C_15 O_15 L_15 31 sa_15 ba_15 x =
 laws_eqWaiterK x.1 x.2.1 (fun r => some (out_15 r)) := by kernel_rfl
theorem sem_15 : SemF 31 sa_15 ba_15 (fun x => laws_eqWaiter x.1 x.2.1) out_15 :=
 sem_of folP okP tabP (Oracle.of_ok Oracle.nil_ok) lf_15 fun x => (w_15 x).trans (laws_eqWaiter_eq x.1 x.2.1 _)
noncomputable def c_15 : Con := Con.shape sa_15 ba_15 (fun x => laws_eqWaiter x.1 x.2.1) out_15
theorem ok_15 : ConOk Try.prog 31 c_15 := Con.shape_ok sem_15

/-! 39 -/
def C_16 : Cfg := { T := tab, hint := fun _ => { keepR := [0, 1, 4, 5, 10, 14, 26], res := [4], order := [(6, tns .read 0 5 ++ tns .forced 5 5)], keepL := [(0, [0, 1, 5])], keepX := [(0, []), (1, [0, 1, 5])] }, mode := fun _ => .borrow }
noncomputable def O_16 : Oracle := Oracle.of [(31, c_15)]
def sh_16_l0 : List (Nat × S2) := [(0, .one (.dat (.sl tWaiter))), (1, .one (.dat (.sl tWaiter))), (5, .one (.dat I))]
def bs_16_l0 : List SB := []
def xs_16_l0 : List (Nat × S2) := []
def xb_16_l0 : List SB := []
def ys_16_l0 : List (Nat × S2) := [(4, .one (.dat .bool))]
def yb_16_l0 : List SB := []
noncomputable def lc_16_l0 : LCon := LCon.shape sh_16_l0 bs_16_l0 laws_eqWaiterS_l0 (fun a => (.exit 0, encSt xs_16_l0 xb_16_l0 a)) (fun b => encSt ys_16_l0 yb_16_l0 b)
noncomputable def L_16 : Loops := Loops.of [(0, lc_16_l0)]
theorem r_16_l0 (x : FSt sh_16_l0 bs_16_l0) : rdF C_16 O_16 L_16 39 0 0 sh_16_l0 bs_16_l0 x =
 laws_eqWaiterS_l0K x.1 x.2.1 x.2.2.1 (fun y => some (Ex.normal, encSt sh_16_l0 bs_16_l0 y)) (fun a => some (Ex.exit 0, encSt xs_16_l0 xb_16_l0 a)) (fun b => some (Ex.ret, encSt ys_16_l0 yb_16_l0 b)) := by kernel_rfl
theorem lo_16_l0 : loF C_16 O_16 L_16 39 0 0 lc_16_l0 :=
 LCon.shape_ok (fun a => by simp) fun x => (r_16_l0 x).trans (laws_eqWaiterS_l0_eq x.1 x.2.1 x.2.2.1 _ _ _)
theorem lf_16 : LoopsFn Try.prog C_16 O_16 39 L_16 := LoopsFn.all (by kernel_rfl) (by decide) ⟨lo_16_l0, trivial⟩
def sa_16 : List S2 := [.one (.dat (.sl tWaiter)), .one (.dat (.sl tWaiter))]
def ba_16 : List SB := []
def out_16 (r : Bool) : AV × Store := out1 (.one (.dat .bool)) [] (r, ())
theorem w_16 (x : FAr sa_16 ba_16) : evF C_16 O_16 L_16 39 sa_16 ba_16 x =
 laws_eqWaiterSK x.1 x.2.1 (fun r => some (out_16 r)) := by kernel_rfl
theorem sem_16 : SemF 39 sa_16 ba_16 (fun x => laws_eqWaiterS x.1 x.2.1) out_16 :=
 sem_of folP okP tabP (Oracle.of_ok (Oracle.cons_ok ok_15 Oracle.nil_ok)) lf_16 fun x => (w_16 x).trans (laws_eqWaiterS_eq x.1 x.2.1 _)
noncomputable def c_16 : Con := Con.shape sa_16 ba_16 (fun x => laws_eqWaiterS x.1 x.2.1) out_16
theorem ok_16 : ConOk Try.prog 39 c_16 := Con.shape_ok sem_16

/-! 17 -/
def C_17 : Cfg := { T := tab, hint := fun _ => { keepR := [2, 3, 4, 9, 15], res := [4] }, mode := fun _ => .borrow }
noncomputable def O_17 : Oracle := Oracle.of [(39, c_16)]
noncomputable def L_17 : Loops := Loops.of []
theorem lf_17 : LoopsFn Try.prog C_17 O_17 17 L_17 := LoopsFn.nil' (by kernel_rfl)
def sa_17 : List S2 := [.one (.dat tEndpoint), .one (.dat tEndpoint)]
def ba_17 : List SB := []
def out_17 (r : Bool) : AV × Store := out1 (.one (.dat .bool)) [] (r, ())
theorem w_17 (x : FAr sa_17 ba_17) : evF C_17 O_17 L_17 17 sa_17 ba_17 x =
 laws_eqEndpointK x.1 x.2.1 (fun r => some (out_17 r)) := by kernel_rfl
theorem sem_17 : SemF 17 sa_17 ba_17 (fun x => laws_eqEndpoint x.1 x.2.1) out_17 :=
 sem_of folP okP tabP (Oracle.of_ok (Oracle.cons_ok ok_16 Oracle.nil_ok)) lf_17 fun x => (w_17 x).trans (laws_eqEndpoint_eq x.1 x.2.1 _)
noncomputable def c_17 : Con := Con.shape sa_17 ba_17 (fun x => laws_eqEndpoint x.1 x.2.1) out_17
theorem ok_17 : ConOk Try.prog 17 c_17 := Con.shape_ok sem_17

/-! 3 -/
def C_18 : Cfg := { T := tab, hint := fun _ => { mu := [5], keepR := [1, 2, 3, 4, 5, 6, 11, 21, 26], res := [2], order := [(10, [(0, .read)] ++ tns .forced 1 4)] }, mode := fun _ => .borrow }
noncomputable def O_18 : Oracle := Oracle.of [(13, c_1), (14, c_6), (15, c_4), (16, c_14), (17, c_17)]
noncomputable def L_18 : Loops := Loops.of []
theorem lf_18 : LoopsFn Try.prog C_18 O_18 3 L_18 := LoopsFn.nil' (by kernel_rfl)
def sa_18 : List S2 := [.one (.dat tEndpoint)]
def ba_18 : List SB := []
def out_18 (r : Bool) : AV × Store := out1 (.one (.dat .bool)) [] (r, ())
theorem w_18 (x : FAr sa_18 ba_18) : evF C_18 O_18 L_18 3 sa_18 ba_18 x =
 laws_FnExactEndpointValidK x.1 (fun r => some (out_18 r)) := by kernel_rfl
theorem sem_18 : SemF 3 sa_18 ba_18 (fun x => laws_FnExactEndpointValid x.1) out_18 :=
 sem_of folP okP tabP (Oracle.of_ok (Oracle.cons_ok ok_1 (Oracle.cons_ok ok_6 (Oracle.cons_ok ok_4 (Oracle.cons_ok ok_14 (Oracle.cons_ok ok_17 Oracle.nil_ok)))))) lf_18 fun x => (w_18 x).trans (laws_FnExactEndpointValid_eq x.1 _)
noncomputable def c_18 : Con := Con.shape sa_18 ba_18 (fun x => laws_FnExactEndpointValid x.1) out_18
theorem ok_18 : ConOk Try.prog 3 c_18 := Con.shape_ok sem_18

/-! 41 -/
def C_19 : Cfg := { T := tab, hint := fun _ => { mu := [10], keepR := [0, 2, 5], res := [2] }, mode := fun _ => .borrow }
noncomputable def O_19 : Oracle := Oracle.of []
noncomputable def L_19 : Loops := Loops.of []
theorem lf_19 : LoopsFn Try.prog C_19 O_19 41 L_19 := LoopsFn.nil' (by kernel_rfl)
def sa_19 : List S2 := [.one (.dat (.sl (.int .u8)))]
def ba_19 : List SB := []
def out_19 (r : Dl20Rd) : AV × Store := out1 (.one (.ptr 0 0 0)) [.one tl20Rd] (r, ())
theorem w_19 (x : FAr sa_19 ba_19) : evF C_19 O_19 L_19 41 sa_19 ba_19 x =
 spec_l20OpenK x.1 (fun r => some (out_19 r)) := by kernel_rfl
theorem sem_19 : SemF 41 sa_19 ba_19 (fun x => spec_l20Open x.1) out_19 :=
 sem_of folP okP tabP (Oracle.of_ok Oracle.nil_ok) lf_19 fun x => (w_19 x).trans (spec_l20Open_eq x.1 _)
noncomputable def c_19 : Con := Con.shape sa_19 ba_19 (fun x => spec_l20Open x.1) out_19
theorem ok_19 : ConOk Try.prog 41 c_19 := Con.shape_ok sem_19

/-! 47 -/
def C_20 : Cfg := { T := tab, hint := fun _ => { keepR := [0, 1, 4, 5, 6, 24, 36], res := [4], base := 1, order := [(7, tns .read 0 37 ++ tns .forced 37 9)] }, mode := fun _ => .borrow }
noncomputable def O_20 : Oracle := Oracle.of []
noncomputable def L_20 : Loops := Loops.of []
theorem lf_20 : LoopsFn Try.prog C_20 O_20 47 L_20 := LoopsFn.nil' (by kernel_rfl)
def sa_20 : List S2 := [.one (.ptr 0 0 0), .one (.dat I)]
def ba_20 : List SB := [.one tl20Rd]
def out_20 (r : Int × Dl20Rd) : AV × Store := out1 (.one (.dat I)) [.one tl20Rd] (r.1, r.2, ())
theorem w_20 (x : FAr sa_20 ba_20) : evF C_20 O_20 L_20 47 sa_20 ba_20 x =
 spec_l20Rd_pickK x.1 x.2.1 (fun r => some (out_20 r)) := by kernel_rfl
theorem sem_20 : SemF 47 sa_20 ba_20 (fun x => spec_l20Rd_pick x.1 x.2.1) out_20 :=
 sem_of folP okP tabP (Oracle.of_ok Oracle.nil_ok) lf_20 fun x => (w_20 x).trans (spec_l20Rd_pick_eq x.1 x.2.1 _)
noncomputable def c_20 : Con := Con.shape sa_20 ba_20 (fun x => spec_l20Rd_pick x.1 x.2.1) out_20
theorem ok_20 : ConOk Try.prog 47 c_20 := Con.shape_ok sem_20

/-! 58 -/
def C_21 : Cfg := { T := tab, hint := fun _ => { keepR := [0, 1, 4], res := [4], base := 1 }, mode := modeOf [(47, .sub)] }
noncomputable def O_21 : Oracle := Oracle.of [(47, c_20)]
noncomputable def L_21 : Loops := Loops.of []
theorem lf_21 : LoopsFn Try.prog C_21 O_21 58 L_21 := LoopsFn.nil' (by kernel_rfl)
def sa_21 : List S2 := [.one (.ptr 0 0 0), .one (.dat I)]
def ba_21 : List SB := [.one tl20Rd]
def out_21 (r : Bool × Dl20Rd) : AV × Store := out1 (.one (.dat .bool)) [.one tl20Rd] (r.1, r.2, ())
theorem w_21 (x : FAr sa_21 ba_21) : evF C_21 O_21 L_21 58 sa_21 ba_21 x =
 spec_l20Rd_oddK x.1 x.2.1 (fun r => some (out_21 r)) := by kernel_rfl
theorem sem_21 : SemF 58 sa_21 ba_21 (fun x => spec_l20Rd_odd x.1 x.2.1) out_21 :=
 sem_of folP okP tabP (Oracle.of_ok (Oracle.cons_ok ok_20 Oracle.nil_ok)) lf_21 fun x => (w_21 x).trans (spec_l20Rd_odd_eq x.1 x.2.1 _)
noncomputable def c_21 : Con := Con.shape sa_21 ba_21 (fun x => spec_l20Rd_odd x.1 x.2.1) out_21
theorem ok_21 : ConOk Try.prog 58 c_21 := Con.shape_ok sem_21

/-! 51 -/
def C_22 : Cfg := { T := tab, hint := fun _ => { mu := [4, 5], keepR := [0, 1, 4, 5, 17, 19, 26, 34], res := [4], base := 1, keepX := [(0, [4, 5])] }, mode := modeOf [(47, .sub), (58, .sub)] }
noncomputable def O_22 : Oracle := Oracle.of [(47, c_20), (58, c_21)]
noncomputable def L_22 : Loops := Loops.of []
theorem lf_22 : LoopsFn Try.prog C_22 O_22 51 L_22 := LoopsFn.nil' (by kernel_rfl)
def sa_22 : List S2 := [.one (.ptr 0 0 0), .one (.dat I)]
def ba_22 : List SB := [.one tl20Rd]
def out_22 (r : DWaiter × Dl20Rd) : AV × Store := out1 (.one (.dat tWaiter)) [.one tl20Rd] (r.1, r.2, ())
theorem w_22 (x : FAr sa_22 ba_22) : evF C_22 O_22 L_22 51 sa_22 ba_22 x =
 spec_l20WaiterK x.1 x.2.1 (fun r => some (out_22 r)) := by kernel_rfl
theorem sem_22 : SemF 51 sa_22 ba_22 (fun x => spec_l20Waiter x.1 x.2.1) out_22 :=
 sem_of folP okP tabP (Oracle.of_ok (Oracle.cons_ok ok_20 (Oracle.cons_ok ok_21 Oracle.nil_ok))) lf_22 fun x => (w_22 x).trans (spec_l20Waiter_eq x.1 x.2.1 _)
noncomputable def c_22 : Con := Con.shape sa_22 ba_22 (fun x => spec_l20Waiter x.1 x.2.1) out_22
theorem ok_22 : ConOk Try.prog 51 c_22 := Con.shape_ok sem_22

/-! 57 -/
def C_23 : Cfg := { T := tab, hint := fun _ => { keepR := [1, 2, 4, 5, 10, 20], res := [4], keepL := [(0, [1, 2, 5])], keepX := [(0, []), (1, [1, 2, 5])] }, mode := fun _ => .borrow }
noncomputable def O_23 : Oracle := Oracle.of []
def sh_23_l0 : List (Nat × S2) := [(1, .one (.dat I)), (2, .one (.cdat tEndpoint 0)), (5, .one (.dat I))]
def bs_23_l0 : List SB := []
def xs_23_l0 : List (Nat × S2) := []
def xb_23_l0 : List SB := []
def ys_23_l0 : List (Nat × S2) := [(4, .one (.dat .bool))]
def yb_23_l0 : List SB := []
noncomputable def lc_23_l0 : LCon := LCon.shape sh_23_l0 bs_23_l0 spec_l10Has_l0 (fun a => (.exit 0, encSt xs_23_l0 xb_23_l0 a)) (fun b => encSt ys_23_l0 yb_23_l0 b)
noncomputable def L_23 : Loops := Loops.of [(0, lc_23_l0)]
theorem r_23_l0 (x : FSt sh_23_l0 bs_23_l0) : rdF C_23 O_23 L_23 57 0 0 sh_23_l0 bs_23_l0 x =
 spec_l10Has_l0K x.1 x.2.1 x.2.2.1 (fun y => some (Ex.normal, encSt sh_23_l0 bs_23_l0 y)) (fun a => some (Ex.exit 0, encSt xs_23_l0 xb_23_l0 a)) (fun b => some (Ex.ret, encSt ys_23_l0 yb_23_l0 b)) := by kernel_rfl
theorem lo_23_l0 : loF C_23 O_23 L_23 57 0 0 lc_23_l0 :=
 LCon.shape_ok (fun a => by simp) fun x => (r_23_l0 x).trans (spec_l10Has_l0_eq x.1 x.2.1 x.2.2.1 _ _ _)
theorem lf_23 : LoopsFn Try.prog C_23 O_23 57 L_23 := LoopsFn.all (by kernel_rfl) (by decide) ⟨lo_23_l0, trivial⟩
def sa_23 : List S2 := [.one (.dat tEndpoint), .one (.dat I)]
def ba_23 : List SB := []
def out_23 (r : Bool) : AV × Store := out1 (.one (.dat .bool)) [] (r, ())
theorem w_23 (x : FAr sa_23 ba_23) : evF C_23 O_23 L_23 57 sa_23 ba_23 x =
 spec_l10HasK x.1 x.2.1 (fun r => some (out_23 r)) := by kernel_rfl
theorem sem_23 : SemF 57 sa_23 ba_23 (fun x => spec_l10Has x.1 x.2.1) out_23 :=
 sem_of folP okP tabP (Oracle.of_ok Oracle.nil_ok) lf_23 fun x => (w_23 x).trans (spec_l10Has_eq x.1 x.2.1 _)
noncomputable def c_23 : Con := Con.shape sa_23 ba_23 (fun x => spec_l10Has x.1 x.2.1) out_23
theorem ok_23 : ConOk Try.prog 57 c_23 := Con.shape_ok sem_23

/-! 48 -/
def C_24 : Cfg := { T := tab, hint := fun _ => { keepR := [2, 3, 4], res := [4] }, mode := fun _ => .borrow }
noncomputable def O_24 : Oracle := Oracle.of [(14, c_6), (35, c_5), (57, c_23)]
noncomputable def L_24 : Loops := Loops.of []
theorem lf_24 : LoopsFn Try.prog C_24 O_24 48 L_24 := LoopsFn.nil' (by kernel_rfl)
def sa_24 : List S2 := [.one (.dat tEndpoint), .one (.dat tWaiter)]
def ba_24 : List SB := []
def out_24 (r : Bool) : AV × Store := out1 (.one (.dat .bool)) [] (r, ())
theorem w_24 (x : FAr sa_24 ba_24) : evF C_24 O_24 L_24 48 sa_24 ba_24 x =
 spec_l10WaiterK x.1 x.2.1 (fun r => some (out_24 r)) := by kernel_rfl
theorem sem_24 : SemF 48 sa_24 ba_24 (fun x => spec_l10Waiter x.1 x.2.1) out_24 :=
 sem_of folP okP tabP (Oracle.of_ok (Oracle.cons_ok ok_6 (Oracle.cons_ok ok_5 (Oracle.cons_ok ok_23 Oracle.nil_ok)))) lf_24 fun x => (w_24 x).trans (spec_l10Waiter_eq x.1 x.2.1 _)
noncomputable def c_24 : Con := Con.shape sa_24 ba_24 (fun x => spec_l10Waiter x.1 x.2.1) out_24
theorem ok_24 : ConOk Try.prog 48 c_24 := Con.shape_ok sem_24

/-! 49 -/
def C_25 : Cfg := { T := tab, hint := fun _ => { mu := [33, 36, 38], keepR := [0, 3, 4, 5, 6, 21], res := [4], order := [(2, [(0, .forced), (1, .forced), (2, .forced)] ++ tns .read 3 6 ++ tns .forced 9 4), (5, tns .read 0 4 ++ [(5, .pure), (6, .pure), (8, .pure), (4, .forced), (7, .forced), (9, .forced), (10, .forced)])], keepL := [(0, [0, 3, 5])], keepX := [(0, [0, 3, 5]), (1, [0, 3, 5])] }, mode := fun _ => .borrow }
noncomputable def O_25 : Oracle := Oracle.of []
def sh_25_l0 : List (Nat × S2) := [(0, .one (.dat (.sl tWaiter))), (3, .one (.cdat tWaiter 0)), (5, .one (.dat I))]
def bs_25_l0 : List SB := []
def xs_25_l0 : List (Nat × S2) := [(0, .one (.dat (.sl tWaiter))), (3, .one (.cdat tWaiter 0)), (5, .one (.dat I))]
def xb_25_l0 : List SB := []
noncomputable def lc_25_l0 : LCon := LCon.shape1 sh_25_l0 bs_25_l0 spec_l10Queue_l0 (fun a => (.exit 0, encSt xs_25_l0 xb_25_l0 a))
noncomputable def L_25 : Loops := Loops.of [(0, lc_25_l0)]
theorem r_25_l0 (x : FSt sh_25_l0 bs_25_l0) : rdF C_25 O_25 L_25 49 0 0 sh_25_l0 bs_25_l0 x =
 spec_l10Queue_l0K x.1 x.2.1 x.2.2.1 (fun y => some (Ex.normal, encSt sh_25_l0 bs_25_l0 y)) (fun a => some (Ex.exit 0, encSt xs_25_l0 xb_25_l0 a)) := by kernel_rfl
theorem lo_25_l0 : loF C_25 O_25 L_25 49 0 0 lc_25_l0 :=
 LCon.shape1_ok (fun a => by simp) fun x => (r_25_l0 x).trans (spec_l10Queue_l0_eq x.1 x.2.1 x.2.2.1 _ _)
theorem lf_25 : LoopsFn Try.prog C_25 O_25 49 L_25 := LoopsFn.all (by kernel_rfl) (by decide) ⟨lo_25_l0, trivial⟩
def sa_25 : List S2 := [.one (.dat (.sl tWaiter)), .one (.dat tWaiter)]
def ba_25 : List SB := []
def out_25 (r : (List DWaiter)) : AV × Store := out1 (.one (.all 0)) [.data tWaiter] (r, ())
theorem w_25 (x : FAr sa_25 ba_25) : evF C_25 O_25 L_25 49 sa_25 ba_25 x =
 spec_l10QueueK x.1 x.2.1 (fun r => some (out_25 r)) := by kernel_rfl
theorem sem_25 : SemF 49 sa_25 ba_25 (fun x => spec_l10Queue x.1 x.2.1) out_25 :=
 sem_of folP okP tabP (Oracle.of_ok Oracle.nil_ok) lf_25 fun x => (w_25 x).trans (spec_l10Queue_eq x.1 x.2.1 _)
noncomputable def c_25 : Con := Con.shape sa_25 ba_25 (fun x => spec_l10Queue x.1 x.2.1) out_25
theorem ok_25 : ConOk Try.prog 49 c_25 := Con.shape_ok sem_25

/-! 26 -/
def C_26 : Cfg := { T := tab, hint := fun _ => { mu := [4, 24, 34], keepR := [2, 3, 4, 5, 9, 19], res := [4, 5], order := [(4, tns .read 0 4 ++ tns .pure 6 5 ++ [(4, .forced), (5, .forced), (11, .forced), (12, .forced)])], fillR := true }, mode := fun _ => .borrow }
noncomputable def O_26 : Oracle := Oracle.of [(48, c_24), (49, c_25)]
noncomputable def L_26 : Loops := Loops.of []
theorem lf_26 : LoopsFn Try.prog C_26 O_26 26 L_26 := LoopsFn.nil' (by kernel_rfl)
def sa_26 : List S2 := [.one (.dat tEndpoint), .one (.dat tWaiter)]
def ba_26 : List SB := []
def out_26 (r : Bool × Int × (List DWaiter)) : AV × Store := outT [.agg [.dat .bool, .all 0], .one (.dat I)] [.data tWaiter] (r.1, r.2.1, r.2.2, ())
theorem w_26 (x : FAr sa_26 ba_26) : evF C_26 O_26 L_26 26 sa_26 ba_26 x =
 spec_EndpointSendK x.1 x.2.1 (fun r => some (out_26 r)) := by kernel_rfl
theorem sem_26 : SemF 26 sa_26 ba_26 (fun x => spec_EndpointSend x.1 x.2.1) out_26 :=
 sem_of folP okP tabP (Oracle.of_ok (Oracle.cons_ok ok_24 (Oracle.cons_ok ok_25 Oracle.nil_ok))) lf_26 fun x => (w_26 x).trans (spec_EndpointSend_eq x.1 x.2.1 _)
noncomputable def c_26 : Con := Con.shape sa_26 ba_26 (fun x => spec_EndpointSend x.1 x.2.1) out_26
theorem ok_26 : ConOk Try.prog 26 c_26 := Con.shape_ok sem_26

/-! 29 -/
def C_27 : Cfg := { T := tab, hint := fun _ => { mu := [6, 7, 9, 29, 38], keepR := [1, 2, 3, 6, 7, 8, 9, 16, 20], res := [6, 7, 8], order := [(5, tns .read 4 4 ++ tns .pure 0 4 ++ tns .pure 10 4 ++ [(8, .forced), (9, .forced), (14, .forced), (15, .forced), (16, .forced)])], fillR := true }, mode := fun _ => .borrow }
noncomputable def O_27 : Oracle := Oracle.of [(48, c_24), (49, c_25)]
noncomputable def L_27 : Loops := Loops.of []
theorem lf_27 : LoopsFn Try.prog C_27 O_27 29 L_27 := LoopsFn.nil' (by kernel_rfl)
def sa_27 : List S2 := [.one (.dat tEndpoint), .one (.dat I), .one (.dat I)]
def ba_27 : List SB := []
def out_27 (r : Bool × DWaiter × Bool × (List DWaiter)) : AV × Store := outT [.agg [.dat .bool, .all 0], .one (.dat tWaiter), .one (.dat .bool)] [.data tWaiter] (r.1, r.2.1, r.2.2.1, r.2.2.2, ())
theorem w_27 (x : FAr sa_27 ba_27) : evF C_27 O_27 L_27 29 sa_27 ba_27 x =
 spec_EndpointTakeK x.1 x.2.1 x.2.2.1 (fun r => some (out_27 r)) := by kernel_rfl
theorem sem_27 : SemF 29 sa_27 ba_27 (fun x => spec_EndpointTake x.1 x.2.1 x.2.2.1) out_27 :=
 sem_of folP okP tabP (Oracle.of_ok (Oracle.cons_ok ok_24 (Oracle.cons_ok ok_25 Oracle.nil_ok))) lf_27 fun x => (w_27 x).trans (spec_EndpointTake_eq x.1 x.2.1 x.2.2.1 _)
noncomputable def c_27 : Con := Con.shape sa_27 ba_27 (fun x => spec_EndpointTake x.1 x.2.1 x.2.2.1) out_27
theorem ok_27 : ConOk Try.prog 29 c_27 := Con.shape_ok sem_27

/-! 40 -/
def C_28 : Cfg := { T := tab, hint := fun _ => { mu := [4, 5, 8, 29, 38, 55, 63], keepR := [0, 1, 4, 5, 6, 7, 8, 15, 23, 25, 44, 46, 48, 57], res := [4], base := 1, keepL := [(0, [0, 1, 4, 5, 6, 7])], keepX := [(0, [0, 1, 4, 5]), (1, [0, 1, 4, 5, 6, 7]), (2, [4, 5])], fill := [(0, [0, 1, 4, 5, 6, 7])], fillR := true }, mode := modeOf [(47, .sub), (51, .sub), (58, .sub)] }
noncomputable def O_28 : Oracle := Oracle.of [(26, c_26), (29, c_27), (47, c_20), (51, c_22), (57, c_23), (58, c_21)]
def sh_28_l0 : List (Nat × S2) := [(0, .one (.ptr 0 0 0)), (1, .one (.dat I)), (4, .one (.ptr 1 0 0)), (5, .one (.ptr 2 0 0)), (6, .one (.dat I)), (7, .one (.dat I))]
def bs_28_l0 : List SB := [.one tl20Rd, .var [.dat .bool, .all 3], .var [.dat .bool, .all 4], .data tWaiter, .data tWaiter]
def xs_28_l0 : List (Nat × S2) := [(0, .one (.ptr 0 0 0)), (1, .one (.dat I)), (4, .one (.ptr 1 0 0)), (5, .one (.ptr 2 0 0))]
def xb_28_l0 : List SB := [.one tl20Rd, .var [.dat .bool, .all 3], .var [.dat .bool, .all 4], .data tWaiter, .data tWaiter]
noncomputable def lc_28_l0 : LCon := LCon.shape1 sh_28_l0 bs_28_l0 spec_l20Endpoint_l0 (fun a => (.exit 0, encSt xs_28_l0 xb_28_l0 a))
noncomputable def L_28 : Loops := Loops.of [(0, lc_28_l0)]
theorem r_28_l0 (x : FSt sh_28_l0 bs_28_l0) : rdF C_28 O_28 L_28 40 0 0 sh_28_l0 bs_28_l0 x =
 spec_l20Endpoint_l0K x.1 x.2.1 x.2.2.1 x.2.2.2.1 x.2.2.2.2.1 x.2.2.2.2.2.1 x.2.2.2.2.2.2.1 x.2.2.2.2.2.2.2.1 (fun y => some (Ex.normal, encSt sh_28_l0 bs_28_l0 y)) (fun a => some (Ex.exit 0, encSt xs_28_l0 xb_28_l0 a)) := by kernel_rfl
theorem lo_28_l0 : loF C_28 O_28 L_28 40 0 0 lc_28_l0 :=
 LCon.shape1_ok (fun a => by simp) fun x => (r_28_l0 x).trans (spec_l20Endpoint_l0_eq x.1 x.2.1 x.2.2.1 x.2.2.2.1 x.2.2.2.2.1 x.2.2.2.2.2.1 x.2.2.2.2.2.2.1 x.2.2.2.2.2.2.2.1 _ _)
theorem lf_28 : LoopsFn Try.prog C_28 O_28 40 L_28 := LoopsFn.all (by kernel_rfl) (by decide) ⟨lo_28_l0, trivial⟩
def sa_28 : List S2 := [.one (.ptr 0 0 0), .one (.dat I)]
def ba_28 : List SB := [.one tl20Rd]
def out_28 (r : Bool × Dl20Rd × (List DWaiter)) : AV × Store := out1 (.agg [.dat .bool, .all 1]) [.one tl20Rd, .data tWaiter] (r.1, r.2.1, r.2.2, ())
theorem w_28 (x : FAr sa_28 ba_28) : evF C_28 O_28 L_28 40 sa_28 ba_28 x =
 spec_l20EndpointK x.1 x.2.1 (fun r => some (out_28 r)) := by kernel_rfl
theorem sem_28 : SemF 40 sa_28 ba_28 (fun x => spec_l20Endpoint x.1 x.2.1) out_28 :=
 sem_of folP okP tabP (Oracle.of_ok (Oracle.cons_ok ok_26 (Oracle.cons_ok ok_27 (Oracle.cons_ok ok_20 (Oracle.cons_ok ok_22 (Oracle.cons_ok ok_23 (Oracle.cons_ok ok_21 Oracle.nil_ok))))))) lf_28 fun x => (w_28 x).trans (spec_l20Endpoint_eq x.1 x.2.1 _)
noncomputable def c_28 : Con := Con.shape sa_28 ba_28 (fun x => spec_l20Endpoint x.1 x.2.1) out_28
theorem ok_28 : ConOk Try.prog 40 c_28 := Con.shape_ok sem_28

/-! 18 -/
def C_29 : Cfg := { T := tab, hint := fun _ => { mu := [2, 4], keepR := [0, 2], res := [2] }, mode := modeOf [(40, .sub)] }
noncomputable def O_29 : Oracle := Oracle.of [(40, c_28), (41, c_19)]
noncomputable def L_29 : Loops := Loops.of []
theorem lf_29 : LoopsFn Try.prog C_29 O_29 18 L_29 := LoopsFn.nil' (by kernel_rfl)
def sa_29 : List S2 := [.one (.dat (.sl (.int .u8)))]
def ba_29 : List SB := []
def out_29 (r : Bool × (List DWaiter)) : AV × Store := out1 (.agg [.dat .bool, .all 0]) [.data tWaiter] (r.1, r.2, ())
theorem w_29 (x : FAr sa_29 ba_29) : evF C_29 O_29 L_29 18 sa_29 ba_29 x =
 spec_DrawEndpointValidK x.1 (fun r => some (out_29 r)) := by kernel_rfl
theorem sem_29 : SemF 18 sa_29 ba_29 (fun x => spec_DrawEndpointValid x.1) out_29 :=
 sem_of folP okP tabP (Oracle.of_ok (Oracle.cons_ok ok_28 (Oracle.cons_ok ok_19 Oracle.nil_ok))) lf_29 fun x => (w_29 x).trans (spec_DrawEndpointValid_eq x.1 _)
noncomputable def c_29 : Con := Con.shape sa_29 ba_29 (fun x => spec_DrawEndpointValid x.1) out_29
theorem ok_29 : ConOk Try.prog 18 c_29 := Con.shape_ok sem_29

/-! 19 -/
def sa_30 : List S2 := []
def ba_30 : List SB := []
def out_30 (r : Bool) : AV × Store := out1 (.one (.dat .bool)) [] (r, ())
theorem sem_30 : SemF 19 sa_30 ba_30 (fun x => laws_alive) out_30 := fun x y h => by
  have e : y = true := (Option.some.inj h).symm
  subst e
  exact sem_of_below ⟨_, _, Try.func19, rfl, by kernel_rfl⟩ Try.aliveCalls
noncomputable def c_30 : Con := Con.shape sa_30 ba_30 (fun x => laws_alive) out_30
theorem ok_30 : ConOk Try.prog 19 c_30 := Con.shape_ok sem_30

/-! 4 -/
def C_31 : Cfg := { T := tab, hint := fun _ => { mu := [3, 5, 31], keepR := [0, 2, 3, 4, 5, 8, 16, 24], res := [2], order := [(9, [(2, .read), (3, .read), (4, .read), (0, .aside [] [31]), (1, .aside [] [31]), (6, .aside [] []), (7, .aside [] []), (8, .aside [] []), (9, .aside [] [])] ++ tns .pure 10 5 ++ [(17, .late), (5, .forced), (15, .forced), (16, .forced), (18, .adopt 17), (18, .forced)]), (10, [(0, .read), (1, .read)] ++ tns .forced 2 11)] }, mode := fun _ => .borrow }
noncomputable def O_31 : Oracle := Oracle.of [(14, c_6), (16, c_14), (18, c_29), (19, c_30)]
noncomputable def L_31 : Loops := Loops.of []
theorem lf_31 : LoopsFn Try.prog C_31 O_31 4 L_31 := LoopsFn.nil' (by kernel_rfl)
def sa_31 : List S2 := [.one (.dat (.sl (.int .u8)))]
def ba_31 : List SB := []
def out_31 (r : Bool) : AV × Store := out1 (.one (.dat .bool)) [] (r, ())
theorem w_31 (x : FAr sa_31 ba_31) : evF C_31 O_31 L_31 4 sa_31 ba_31 x =
 laws_FnEndpointValidK x.1 (fun r => some (out_31 r)) := by kernel_rfl
theorem sem_31 : SemF 4 sa_31 ba_31 (fun x => laws_FnEndpointValid x.1) out_31 :=
 sem_of folP okP tabP (Oracle.of_ok (Oracle.cons_ok ok_6 (Oracle.cons_ok ok_14 (Oracle.cons_ok ok_29 (Oracle.cons_ok ok_30 Oracle.nil_ok))))) lf_31 fun x => (w_31 x).trans (laws_FnEndpointValid_eq x.1 _)
noncomputable def c_31 : Con := Con.shape sa_31 ba_31 (fun x => laws_FnEndpointValid x.1) out_31
theorem ok_31 : ConOk Try.prog 4 c_31 := Con.shape_ok sem_31

/-! 20 -/
def C_32 : Cfg := { T := tab, hint := fun _ => { mu := [4, 6, 36], keepR := [1, 2, 4, 5, 6, 7, 10, 17, 27], res := [4, 5], order := [(8, tns .read 0 4 ++ tns .forced 4 7), (10, [(0, .read), (4, .pure), (5, .pure), (6, .pure), (1, .aside [0] []), (2, .aside [0] []), (3, .aside [0] []), (7, .pure), (8, .forced), (9, .forced)])], keepL := [(0, [1, 2, 4, 6, 7])], keepX := [(0, [2, 4, 6]), (1, [1, 2, 4, 6, 7])], fill := [(0, [1, 2, 4, 6, 7])], fillR := true }, mode := fun _ => .borrow }
noncomputable def O_32 : Oracle := Oracle.of [(14, c_6)]
def sh_32_l0 : List (Nat × S2) := [(1, .one (.dat I)), (2, .one (.cdat tEndpoint 0)), (4, .one (.ptr 0 0 0)), (6, .one (.ptr 1 0 0)), (7, .one (.dat I))]
def bs_32_l0 : List SB := [.var [.dat .bool, .all 2], .var [.dat .bool, .all 3], .data tWaiter, .data tWaiter]
def xs_32_l0 : List (Nat × S2) := [(2, .one (.cdat tEndpoint 0)), (4, .one (.ptr 0 0 0)), (6, .one (.ptr 1 0 0))]
def xb_32_l0 : List SB := [.var [.dat .bool, .all 2], .var [.dat .bool, .all 3], .data tWaiter, .data tWaiter]
noncomputable def lc_32_l0 : LCon := LCon.shape1 sh_32_l0 bs_32_l0 spec_EndpointCancel_l0 (fun a => (.exit 0, encSt xs_32_l0 xb_32_l0 a))
noncomputable def L_32 : Loops := Loops.of [(0, lc_32_l0)]
theorem r_32_l0 (x : FSt sh_32_l0 bs_32_l0) : rdF C_32 O_32 L_32 20 0 0 sh_32_l0 bs_32_l0 x =
 spec_EndpointCancel_l0K x.1 x.2.1 x.2.2.1 x.2.2.2.1 x.2.2.2.2.1 x.2.2.2.2.2.1 x.2.2.2.2.2.2.1 (fun y => some (Ex.normal, encSt sh_32_l0 bs_32_l0 y)) (fun a => some (Ex.exit 0, encSt xs_32_l0 xb_32_l0 a)) := by kernel_rfl
theorem lo_32_l0 : loF C_32 O_32 L_32 20 0 0 lc_32_l0 :=
 LCon.shape1_ok (fun a => by simp) fun x => (r_32_l0 x).trans (spec_EndpointCancel_l0_eq x.1 x.2.1 x.2.2.1 x.2.2.2.1 x.2.2.2.2.1 x.2.2.2.2.2.1 x.2.2.2.2.2.2.1 _ _)
theorem lf_32 : LoopsFn Try.prog C_32 O_32 20 L_32 := LoopsFn.all (by kernel_rfl) (by decide) ⟨lo_32_l0, trivial⟩
def sa_32 : List S2 := [.one (.dat tEndpoint), .one (.dat I)]
def ba_32 : List SB := []
def out_32 (r : Bool × Bool × (List DWaiter)) : AV × Store := outT [.agg [.dat .bool, .all 0], .one (.dat .bool)] [.data tWaiter] (r.1, r.2.1, r.2.2, ())
theorem w_32 (x : FAr sa_32 ba_32) : evF C_32 O_32 L_32 20 sa_32 ba_32 x =
 spec_EndpointCancelK x.1 x.2.1 (fun r => some (out_32 r)) := by kernel_rfl
theorem sem_32 : SemF 20 sa_32 ba_32 (fun x => spec_EndpointCancel x.1 x.2.1) out_32 :=
 sem_of folP okP tabP (Oracle.of_ok (Oracle.cons_ok ok_6 Oracle.nil_ok)) lf_32 fun x => (w_32 x).trans (spec_EndpointCancel_eq x.1 x.2.1 _)
noncomputable def c_32 : Con := Con.shape sa_32 ba_32 (fun x => spec_EndpointCancel x.1 x.2.1) out_32
theorem ok_32 : ConOk Try.prog 20 c_32 := Con.shape_ok sem_32

/-! 63 -/
def C_33 : Cfg := { T := tab, hint := fun _ => { mu := [2, 7], keepR := [0, 2, 4], res := [2] }, mode := fun _ => .borrow }
noncomputable def O_33 : Oracle := Oracle.of []
noncomputable def L_33 : Loops := Loops.of []
theorem lf_33 : LoopsFn Try.prog C_33 O_33 63 L_33 := LoopsFn.nil' (by kernel_rfl)
def sa_33 : List S2 := [.one (.dat (.sl tWaiter))]
def ba_33 : List SB := []
def out_33 (r : (List DWaiter)) : AV × Store := out1 (.one (.all 0)) [.data tWaiter] (r, ())
theorem w_33 (x : FAr sa_33 ba_33) : evF C_33 O_33 L_33 63 sa_33 ba_33 x =
 slices_Clone_WaiterR x.1 (fun r => some (out_33 r)) := by kernel_rfl
theorem sem_33 : SemF 63 sa_33 ba_33 (fun x => slices_Clone_Waiter x.1) out_33 :=
 sem_of folP okP tabP (Oracle.of_ok Oracle.nil_ok) lf_33 fun x => (w_33 x).trans ((slices_Clone_Waiter_raw x.1 _).trans (slices_Clone_Waiter_eq x.1 _))
noncomputable def c_33 : Con := Con.shape sa_33 ba_33 (fun x => slices_Clone_Waiter x.1) out_33
theorem ok_33 : ConOk Try.prog 63 c_33 := Con.shape_ok sem_33

/-! 62 -/
def C_34 : Cfg := { T := tab, hint := fun _ => { mu := [8], keepR := [0, 2], res := [2], base := 1 }, mode := fun _ => .borrow }
noncomputable def O_34 : Oracle := Oracle.of []
noncomputable def L_34 : Loops := Loops.of []
theorem lf_34 : LoopsFn Try.prog C_34 O_34 62 L_34 := LoopsFn.nil' (by kernel_rfl)
def sa_34 : List S2 := [.one (.all 0)]
def ba_34 : List SB := [.data tWaiter]
def out_34 (r : (List DWaiter)) : AV × Store := out1 (.one (.all 0)) [.data tWaiter] (r, ())
theorem w_34 (x : FAr sa_34 ba_34) : evF C_34 O_34 L_34 62 sa_34 ba_34 x =
 slices_Clip_WaiterK x.1 (fun r => some (out_34 r)) := by kernel_rfl
theorem sem_34 : SemF 62 sa_34 ba_34 (fun x => slices_Clip_Waiter x.1) out_34 :=
 sem_of folP okP tabP (Oracle.of_ok Oracle.nil_ok) lf_34 fun x => (w_34 x).trans (slices_Clip_Waiter_eq x.1 _)
noncomputable def c_34 : Con := Con.shape sa_34 ba_34 (fun x => slices_Clip_Waiter x.1) out_34
theorem ok_34 : ConOk Try.prog 62 c_34 := Con.shape_ok sem_34

/-! 43 -/
def C_35 : Cfg := { T := tab, hint := fun _ => { mu := [4], keepR := [0, 2], res := [2] }, mode := modeOf [(62, .sub)] }
noncomputable def O_35 : Oracle := Oracle.of [(62, c_34), (63, c_33)]
noncomputable def L_35 : Loops := Loops.of []
theorem lf_35 : LoopsFn Try.prog C_35 O_35 43 L_35 := LoopsFn.nil' (by kernel_rfl)
def sa_35 : List S2 := [.one (.dat (.sl tWaiter))]
def ba_35 : List SB := []
def out_35 (r : (List DWaiter)) : AV × Store := out1 (.one (.all 0)) [.data tWaiter] (r, ())
theorem w_35 (x : FAr sa_35 ba_35) : evF C_35 O_35 L_35 43 sa_35 ba_35 x =
 impl_clone_WaiterK x.1 (fun r => some (out_35 r)) := by kernel_rfl
theorem sem_35 : SemF 43 sa_35 ba_35 (fun x => impl_clone_Waiter x.1) out_35 :=
 sem_of folP okP tabP (Oracle.of_ok (Oracle.cons_ok ok_34 (Oracle.cons_ok ok_33 Oracle.nil_ok))) lf_35 fun x => (w_35 x).trans (impl_clone_Waiter_eq x.1 _)
noncomputable def c_35 : Con := Con.shape sa_35 ba_35 (fun x => impl_clone_Waiter x.1) out_35
theorem ok_35 : ConOk Try.prog 43 c_35 := Con.shape_ok sem_35

/-! 64 -/
def C_36 : Cfg := { T := tab, hint := fun _ => { keepR := [0, 1, 2, 6, 7, 16], res := [6], base := 1, order := [(5, tns .read 0 4 ++ tns .forced 4 4)], refR := true }, mode := fun _ => .borrow }
noncomputable def O_36 : Oracle := Oracle.of []
noncomputable def L_36 : Loops := Loops.of []
theorem lf_36 : LoopsFn Try.prog C_36 O_36 64 L_36 := LoopsFn.nil' (by kernel_rfl)
def sa_36 : List S2 := [.one (.all 0), .one (.dat I), .one (.dat I)]
def ba_36 : List SB := [.data tWaiter]
def out_36 (r : Nat × (List DWaiter)) : AV × Store := out1 (.one (.refn 0)) [.data tWaiter] (r.1, r.2, ())
theorem w_36 (x : FAr sa_36 ba_36) : evF C_36 O_36 L_36 64 sa_36 ba_36 x =
 slices_Delete_WaiterK x.1 x.2.1 x.2.2.1 (fun r => some (out_36 r)) := by kernel_rfl
theorem sem_36 : SemF 64 sa_36 ba_36 (fun x => slices_Delete_Waiter x.1 x.2.1 x.2.2.1) out_36 :=
 sem_of folP okP tabP (Oracle.of_ok Oracle.nil_ok) lf_36 fun x => (w_36 x).trans (slices_Delete_Waiter_eq x.1 x.2.1 x.2.2.1 _)
noncomputable def c_36 : Con := Con.shape sa_36 ba_36 (fun x => slices_Delete_Waiter x.1 x.2.1 x.2.2.1) out_36
theorem ok_36 : ConOk Try.prog 64 c_36 := Con.shape_ok sem_36

/-! 44 -/
def C_37 : Cfg := { T := tab, hint := fun _ => { mu := [4, 8, 13], keepR := [1, 2, 4, 5], res := [4] }, mode := modeOf [(64, .sub)] }
noncomputable def O_37 : Oracle := Oracle.of [(43, c_35), (63, c_33), (64, c_36)]
noncomputable def L_37 : Loops := Loops.of []
theorem lf_37 : LoopsFn Try.prog C_37 O_37 44 L_37 := LoopsFn.nil' (by kernel_rfl)
def sa_37 : List S2 := [.one (.dat tEndpoint), .one (.dat I)]
def ba_37 : List SB := []
def out_37 (r : Bool × (List DWaiter)) : AV × Store := out1 (.agg [.dat .bool, .all 0]) [.data tWaiter] (r.1, r.2, ())
theorem w_37 (x : FAr sa_37 ba_37) : evF C_37 O_37 L_37 44 sa_37 ba_37 x =
 impl_Endpoint_withoutK x.1 x.2.1 (fun r => some (out_37 r)) := by kernel_rfl
theorem sem_37 : SemF 44 sa_37 ba_37 (fun x => impl_Endpoint_without x.1 x.2.1) out_37 :=
 sem_of folP okP tabP (Oracle.of_ok (Oracle.cons_ok ok_35 (Oracle.cons_ok ok_33 (Oracle.cons_ok ok_36 Oracle.nil_ok)))) lf_37 fun x => (w_37 x).trans (impl_Endpoint_without_eq x.1 x.2.1 _)
noncomputable def c_37 : Con := Con.shape sa_37 ba_37 (fun x => impl_Endpoint_without x.1 x.2.1) out_37
theorem ok_37 : ConOk Try.prog 44 c_37 := Con.shape_ok sem_37

/-! 21 -/
def C_38 : Cfg := { T := tab, hint := fun _ => { mu := [4, 20, 24], keepR := [1, 2, 4, 5, 6, 9, 15], res := [4, 5], order := [(5, [(0, .read), (1, .read)] ++ tns .forced 2 6)], fillR := true }, mode := fun _ => .borrow }
noncomputable def O_38 : Oracle := Oracle.of [(16, c_14), (38, c_13), (43, c_35), (44, c_37)]
noncomputable def L_38 : Loops := Loops.of []
theorem lf_38 : LoopsFn Try.prog C_38 O_38 21 L_38 := LoopsFn.nil' (by kernel_rfl)
def sa_38 : List S2 := [.one (.dat tEndpoint), .one (.dat I)]
def ba_38 : List SB := []
def out_38 (r : Bool × Bool × (List DWaiter)) : AV × Store := outT [.agg [.dat .bool, .all 0], .one (.dat .bool)] [.data tWaiter] (r.1, r.2.1, r.2.2, ())
theorem w_38 (x : FAr sa_38 ba_38) : evF C_38 O_38 L_38 21 sa_38 ba_38 x =
 impl_EndpointCancelK x.1 x.2.1 (fun r => some (out_38 r)) := by kernel_rfl
theorem sem_38 : SemF 21 sa_38 ba_38 (fun x => impl_EndpointCancel x.1 x.2.1) out_38 :=
 sem_of folP okP tabP (Oracle.of_ok (Oracle.cons_ok ok_14 (Oracle.cons_ok ok_13 (Oracle.cons_ok ok_35 (Oracle.cons_ok ok_37 Oracle.nil_ok))))) lf_38 fun x => (w_38 x).trans (impl_EndpointCancel_eq x.1 x.2.1 _)
noncomputable def c_38 : Con := Con.shape sa_38 ba_38 (fun x => impl_EndpointCancel x.1 x.2.1) out_38
theorem ok_38 : ConOk Try.prog 21 c_38 := Con.shape_ok sem_38

/-! 45 -/
def C_39 : Cfg := { T := tab, hint := fun _ => { keepR := [0, 1, 4, 5, 9], res := [4], base := 1, keepL := [(0, [0, 1, 5])], keepX := [(0, [1]), (1, [0, 1, 5])] }, mode := fun _ => .borrow }
noncomputable def O_39 : Oracle := Oracle.of []
def sh_39_l0 : List (Nat × S2) := [(0, .one (.all 0)), (1, .one (.dat I)), (5, .one (.dat I))]
def bs_39_l0 : List SB := [.data tWaiter]
def xs_39_l0 : List (Nat × S2) := [(1, .one (.dat I))]
def xb_39_l0 : List SB := [.data tWaiter]
noncomputable def lc_39_l0 : LCon := LCon.shape1 sh_39_l0 bs_39_l0 laws_markWaiterS_l0 (fun a => (.exit 0, encSt xs_39_l0 xb_39_l0 a))
noncomputable def L_39 : Loops := Loops.of [(0, lc_39_l0)]
theorem r_39_l0 (x : FSt sh_39_l0 bs_39_l0) : rdF C_39 O_39 L_39 45 0 0 sh_39_l0 bs_39_l0 x =
 laws_markWaiterS_l0K x.1 x.2.1 x.2.2.1 (fun y => some (Ex.normal, encSt sh_39_l0 bs_39_l0 y)) (fun a => some (Ex.exit 0, encSt xs_39_l0 xb_39_l0 a)) := by kernel_rfl
theorem lo_39_l0 : loF C_39 O_39 L_39 45 0 0 lc_39_l0 :=
 LCon.shape1_ok (fun a => by simp) fun x => (r_39_l0 x).trans (laws_markWaiterS_l0_eq x.1 x.2.1 x.2.2.1 _ _)
theorem lf_39 : LoopsFn Try.prog C_39 O_39 45 L_39 := LoopsFn.all (by kernel_rfl) (by decide) ⟨lo_39_l0, trivial⟩
def sa_39 : List S2 := [.one (.all 0), .one (.dat I)]
def ba_39 : List SB := [.data tWaiter]
def out_39 (r : Int × (List DWaiter)) : AV × Store := out1 (.one (.dat I)) [.data tWaiter] (r.1, r.2, ())
theorem w_39 (x : FAr sa_39 ba_39) : evF C_39 O_39 L_39 45 sa_39 ba_39 x =
 laws_markWaiterSK x.1 x.2.1 (fun r => some (out_39 r)) := by kernel_rfl
theorem sem_39 : SemF 45 sa_39 ba_39 (fun x => laws_markWaiterS x.1 x.2.1) out_39 :=
 sem_of folP okP tabP (Oracle.of_ok Oracle.nil_ok) lf_39 fun x => (w_39 x).trans (laws_markWaiterS_eq x.1 x.2.1 _)
noncomputable def c_39 : Con := Con.shape sa_39 ba_39 (fun x => laws_markWaiterS x.1 x.2.1) out_39
theorem ok_39 : ConOk Try.prog 45 c_39 := Con.shape_ok sem_39

/-! 22 -/
def C_40 : Cfg := { T := tab, hint := fun _ => { mu := [2], keepR := [1, 2, 4], res := [4], base := 1 }, mode := modeOf [(45, .sub)] }
noncomputable def O_40 : Oracle := Oracle.of [(45, c_39)]
noncomputable def L_40 : Loops := Loops.of []
theorem lf_40 : LoopsFn Try.prog C_40 O_40 22 L_40 := LoopsFn.nil' (by kernel_rfl)
def sa_40 : List S2 := [.agg [.dat .bool, .all 0], .one (.dat I)]
def ba_40 : List SB := [.data tWaiter]
def out_40 (r : Int × (List DWaiter)) : AV × Store := out1 (.one (.dat I)) [.data tWaiter] (r.1, r.2, ())
theorem w_40 (x : FAr sa_40 ba_40) : evF C_40 O_40 L_40 22 sa_40 ba_40 x =
 laws_markEndpointK x.1 x.2.1 x.2.2.1 (fun r => some (out_40 r)) := by kernel_rfl
theorem sem_40 : SemF 22 sa_40 ba_40 (fun x => laws_markEndpoint x.1 x.2.1 x.2.2.1) out_40 :=
 sem_of folP okP tabP (Oracle.of_ok (Oracle.cons_ok ok_39 Oracle.nil_ok)) lf_40 fun x => (w_40 x).trans (laws_markEndpoint_eq x.1 x.2.1 x.2.2.1 _)
noncomputable def c_40 : Con := Con.shape sa_40 ba_40 (fun x => laws_markEndpoint x.1 x.2.1 x.2.2.1) out_40
theorem ok_40 : ConOk Try.prog 22 c_40 := Con.shape_ok sem_40

/-! 46 -/
def C_41 : Cfg := { T := tab, hint := fun _ => { keepR := [0, 1, 4, 5, 9, 18, 27, 36, 45], res := [4], keepL := [(0, [0, 1, 5])], keepX := [(0, [1]), (1, [0, 1, 5])] }, mode := fun _ => .borrow }
noncomputable def O_41 : Oracle := Oracle.of []
def sh_41_l0 : List (Nat × S2) := [(0, .one (.dat (.sl tWaiter))), (1, .one (.dat I)), (5, .one (.dat I))]
def bs_41_l0 : List SB := []
def xs_41_l0 : List (Nat × S2) := [(1, .one (.dat I))]
def xb_41_l0 : List SB := []
def ys_41_l0 : List (Nat × S2) := [(4, .one (.dat I))]
def yb_41_l0 : List SB := []
noncomputable def lc_41_l0 : LCon := LCon.shape sh_41_l0 bs_41_l0 laws_heldWaiterS_l0 (fun a => (.exit 0, encSt xs_41_l0 xb_41_l0 a)) (fun b => encSt ys_41_l0 yb_41_l0 b)
noncomputable def L_41 : Loops := Loops.of [(0, lc_41_l0)]
theorem r_41_l0 (x : FSt sh_41_l0 bs_41_l0) : rdF C_41 O_41 L_41 46 0 0 sh_41_l0 bs_41_l0 x =
 laws_heldWaiterS_l0K x.1 x.2.1 x.2.2.1 (fun y => some (Ex.normal, encSt sh_41_l0 bs_41_l0 y)) (fun a => some (Ex.exit 0, encSt xs_41_l0 xb_41_l0 a)) (fun b => some (Ex.ret, encSt ys_41_l0 yb_41_l0 b)) := by kernel_rfl
theorem lo_41_l0 : loF C_41 O_41 L_41 46 0 0 lc_41_l0 :=
 LCon.shape_ok (fun a => by simp) fun x => (r_41_l0 x).trans (laws_heldWaiterS_l0_eq x.1 x.2.1 x.2.2.1 _ _ _)
theorem lf_41 : LoopsFn Try.prog C_41 O_41 46 L_41 := LoopsFn.all (by kernel_rfl) (by decide) ⟨lo_41_l0, trivial⟩
def sa_41 : List S2 := [.one (.dat (.sl tWaiter)), .one (.dat I)]
def ba_41 : List SB := []
def out_41 (r : Int) : AV × Store := out1 (.one (.dat I)) [] (r, ())
theorem w_41 (x : FAr sa_41 ba_41) : evF C_41 O_41 L_41 46 sa_41 ba_41 x =
 laws_heldWaiterSK x.1 x.2.1 (fun r => some (out_41 r)) := by kernel_rfl
theorem sem_41 : SemF 46 sa_41 ba_41 (fun x => laws_heldWaiterS x.1 x.2.1) out_41 :=
 sem_of folP okP tabP (Oracle.of_ok Oracle.nil_ok) lf_41 fun x => (w_41 x).trans (laws_heldWaiterS_eq x.1 x.2.1 _)
noncomputable def c_41 : Con := Con.shape sa_41 ba_41 (fun x => laws_heldWaiterS x.1 x.2.1) out_41
theorem ok_41 : ConOk Try.prog 46 c_41 := Con.shape_ok sem_41

/-! 23 -/
def C_42 : Cfg := { T := tab, hint := fun _ => { keepR := [1, 2, 4, 10], res := [4] }, mode := fun _ => .borrow }
noncomputable def O_42 : Oracle := Oracle.of [(46, c_41)]
noncomputable def L_42 : Loops := Loops.of []
theorem lf_42 : LoopsFn Try.prog C_42 O_42 23 L_42 := LoopsFn.nil' (by kernel_rfl)
def sa_42 : List S2 := [.one (.dat tEndpoint), .one (.dat I)]
def ba_42 : List SB := []
def out_42 (r : Int) : AV × Store := out1 (.one (.dat I)) [] (r, ())
theorem w_42 (x : FAr sa_42 ba_42) : evF C_42 O_42 L_42 23 sa_42 ba_42 x =
 laws_heldEndpointK x.1 x.2.1 (fun r => some (out_42 r)) := by kernel_rfl
theorem sem_42 : SemF 23 sa_42 ba_42 (fun x => laws_heldEndpoint x.1 x.2.1) out_42 :=
 sem_of folP okP tabP (Oracle.of_ok (Oracle.cons_ok ok_41 Oracle.nil_ok)) lf_42 fun x => (w_42 x).trans (laws_heldEndpoint_eq x.1 x.2.1 _)
noncomputable def c_42 : Con := Con.shape sa_42 ba_42 (fun x => laws_heldEndpoint x.1 x.2.1) out_42
theorem ok_42 : ConOk Try.prog 23 c_42 := Con.shape_ok sem_42

/-! 5 -/
def C_43 : Cfg := { T := tab, hint := fun _ => { mu := [6, 8, 9, 14, 29, 33], keepR := [1, 2, 4, 5, 6, 7, 8, 9, 10, 11, 12, 13, 14, 15, 20, 44, 49, 65, 73, 76, 92, 97, 100], res := [4], order := [(10, [(0, .read)] ++ tns .forced 1 4)] }, mode := modeOf [(22, .sub)] }
noncomputable def O_43 : Oracle := Oracle.of [(13, c_1), (15, c_4), (17, c_17), (20, c_32), (21, c_38), (22, c_40), (23, c_42)]
noncomputable def L_43 : Loops := Loops.of []
theorem lf_43 : LoopsFn Try.prog C_43 O_43 5 L_43 := LoopsFn.nil' (by kernel_rfl)
def sa_43 : List S2 := [.one (.dat tEndpoint), .one (.dat I)]
def ba_43 : List SB := []
def out_43 (r : Bool) : AV × Store := out1 (.one (.dat .bool)) [] (r, ())
theorem w_43 (x : FAr sa_43 ba_43) : evF C_43 O_43 L_43 5 sa_43 ba_43 x =
 laws_FnExactEndpointCancelK x.1 x.2.1 (fun r => some (out_43 r)) := by kernel_rfl
theorem sem_43 : SemF 5 sa_43 ba_43 (fun x => laws_FnExactEndpointCancel x.1 x.2.1) out_43 :=
 sem_of folP okP tabP (Oracle.of_ok (Oracle.cons_ok ok_1 (Oracle.cons_ok ok_4 (Oracle.cons_ok ok_17 (Oracle.cons_ok ok_32 (Oracle.cons_ok ok_38 (Oracle.cons_ok ok_40 (Oracle.cons_ok ok_42 Oracle.nil_ok)))))))) lf_43 fun x => (w_43 x).trans (laws_FnExactEndpointCancel_eq x.1 x.2.1 _)
noncomputable def c_43 : Con := Con.shape sa_43 ba_43 (fun x => laws_FnExactEndpointCancel x.1 x.2.1) out_43
theorem ok_43 : ConOk Try.prog 5 c_43 := Con.shape_ok sem_43

/-! 24 -/
def C_44 : Cfg := { T := tab, hint := fun _ => { mu := [2, 5, 8], keepR := [0, 2, 3, 4, 5, 6, 21], res := [2, 3], order := [(5, tns .read 2 4 ++ [(0, .aside [1] []), (1, .aside [1] [])] ++ tns .forced 6 5)] }, mode := modeOf [(40, .sub), (47, .sub)] }
noncomputable def O_44 : Oracle := Oracle.of [(40, c_28), (41, c_19), (47, c_20)]
noncomputable def L_44 : Loops := Loops.of []
theorem lf_44 : LoopsFn Try.prog C_44 O_44 24 L_44 := LoopsFn.nil' (by kernel_rfl)
def sa_44 : List S2 := [.one (.dat (.sl (.int .u8)))]
def ba_44 : List SB := []
def out_44 (r : Bool × Int × (List DWaiter)) : AV × Store := outT [.agg [.dat .bool, .all 0], .one (.dat I)] [.data tWaiter] (r.1, r.2.1, r.2.2, ())
theorem w_44 (x : FAr sa_44 ba_44) : evF C_44 O_44 L_44 24 sa_44 ba_44 x =
 spec_DrawEndpointCancelK x.1 (fun r => some (out_44 r)) := by kernel_rfl
theorem sem_44 : SemF 24 sa_44 ba_44 (fun x => spec_DrawEndpointCancel x.1) out_44 :=
 sem_of folP okP tabP (Oracle.of_ok (Oracle.cons_ok ok_28 (Oracle.cons_ok ok_19 (Oracle.cons_ok ok_20 Oracle.nil_ok)))) lf_44 fun x => (w_44 x).trans (spec_DrawEndpointCancel_eq x.1 _)
noncomputable def c_44 : Con := Con.shape sa_44 ba_44 (fun x => spec_DrawEndpointCancel x.1) out_44
theorem ok_44 : ConOk Try.prog 24 c_44 := Con.shape_ok sem_44

/-! 25 -/
def C_45 : Cfg := { T := tab, hint := fun _ => { keepR := [2, 3, 4, 5, 12, 17, 30], res := [4], order := [(6, tns .read 0 7 ++ tns .forced 7 4)], keepL := [(0, [2, 3, 5])], keepX := [(0, [2, 3]), (1, [2, 3, 5])] }, mode := fun _ => .borrow }
noncomputable def O_45 : Oracle := Oracle.of []
def sh_45_l0 : List (Nat × S2) := [(2, .one (.cdat tEndpoint 0)), (3, .one (.cdat tEndpoint 0)), (5, .one (.dat I))]
def bs_45_l0 : List SB := []
def xs_45_l0 : List (Nat × S2) := [(2, .one (.cdat tEndpoint 0)), (3, .one (.cdat tEndpoint 0))]
def xb_45_l0 : List SB := []
def ys_45_l0 : List (Nat × S2) := [(4, .one (.dat .bool))]
def yb_45_l0 : List SB := []
noncomputable def lc_45_l0 : LCon := LCon.shape sh_45_l0 bs_45_l0 laws_sameEnd_l0 (fun a => (.exit 0, encSt xs_45_l0 xb_45_l0 a)) (fun b => encSt ys_45_l0 yb_45_l0 b)
noncomputable def L_45 : Loops := Loops.of [(0, lc_45_l0)]
theorem r_45_l0 (x : FSt sh_45_l0 bs_45_l0) : rdF C_45 O_45 L_45 25 0 0 sh_45_l0 bs_45_l0 x =
 laws_sameEnd_l0K x.1 x.2.1 x.2.2.1 (fun y => some (Ex.normal, encSt sh_45_l0 bs_45_l0 y)) (fun a => some (Ex.exit 0, encSt xs_45_l0 xb_45_l0 a)) (fun b => some (Ex.ret, encSt ys_45_l0 yb_45_l0 b)) := by kernel_rfl
theorem lo_45_l0 : loF C_45 O_45 L_45 25 0 0 lc_45_l0 :=
 LCon.shape_ok (fun a => by simp) fun x => (r_45_l0 x).trans (laws_sameEnd_l0_eq x.1 x.2.1 x.2.2.1 _ _ _)
theorem lf_45 : LoopsFn Try.prog C_45 O_45 25 L_45 := LoopsFn.all (by kernel_rfl) (by decide) ⟨lo_45_l0, trivial⟩
def sa_45 : List S2 := [.one (.dat tEndpoint), .one (.dat tEndpoint)]
def ba_45 : List SB := []
def out_45 (r : Bool) : AV × Store := out1 (.one (.dat .bool)) [] (r, ())
theorem w_45 (x : FAr sa_45 ba_45) : evF C_45 O_45 L_45 25 sa_45 ba_45 x =
 laws_sameEndK x.1 x.2.1 (fun r => some (out_45 r)) := by kernel_rfl
theorem sem_45 : SemF 25 sa_45 ba_45 (fun x => laws_sameEnd x.1 x.2.1) out_45 :=
 sem_of folP okP tabP (Oracle.of_ok Oracle.nil_ok) lf_45 fun x => (w_45 x).trans (laws_sameEnd_eq x.1 x.2.1 _)
noncomputable def c_45 : Con := Con.shape sa_45 ba_45 (fun x => laws_sameEnd x.1 x.2.1) out_45
theorem ok_45 : ConOk Try.prog 25 c_45 := Con.shape_ok sem_45

/-! 6 -/
def C_46 : Cfg := { T := tab, hint := fun _ => { mu := [3, 5, 7, 9], keepR := [0, 2, 3, 4, 5, 6, 7, 8, 10, 11, 14, 40, 43, 61], res := [2] }, mode := fun _ => .borrow }
noncomputable def O_46 : Oracle := Oracle.of [(14, c_6), (16, c_14), (19, c_30), (20, c_32), (21, c_38), (24, c_44), (25, c_45)]
noncomputable def L_46 : Loops := Loops.of []
theorem lf_46 : LoopsFn Try.prog C_46 O_46 6 L_46 := LoopsFn.nil' (by kernel_rfl)
def sa_46 : List S2 := [.one (.dat (.sl (.int .u8)))]
def ba_46 : List SB := []
def out_46 (r : Bool) : AV × Store := out1 (.one (.dat .bool)) [] (r, ())
theorem w_46 (x : FAr sa_46 ba_46) : evF C_46 O_46 L_46 6 sa_46 ba_46 x =
 laws_FnEndpointCancelK x.1 (fun r => some (out_46 r)) := by kernel_rfl
theorem sem_46 : SemF 6 sa_46 ba_46 (fun x => laws_FnEndpointCancel x.1) out_46 :=
 sem_of folP okP tabP (Oracle.of_ok (Oracle.cons_ok ok_6 (Oracle.cons_ok ok_14 (Oracle.cons_ok ok_30 (Oracle.cons_ok ok_32 (Oracle.cons_ok ok_38 (Oracle.cons_ok ok_44 (Oracle.cons_ok ok_45 Oracle.nil_ok)))))))) lf_46 fun x => (w_46 x).trans (laws_FnEndpointCancel_eq x.1 _)
noncomputable def c_46 : Con := Con.shape sa_46 ba_46 (fun x => laws_FnEndpointCancel x.1) out_46
theorem ok_46 : ConOk Try.prog 6 c_46 := Con.shape_ok sem_46

/-! 67 -/
noncomputable def c_47 : Con := Con.apart
theorem ok_47 : ConOk Try.prog 67 c_47 := Con.apart_ok (A := tWaiter) (tS := 27) (tR := 4) Try.func67 (by kernel_rfl) (by kernel_rfl) (by kernel_rfl) (by kernel_rfl) (tabP _ _ (by kernel_rfl))

/-! 65 -/
def C_48 : Cfg := { T := tab, hint := fun _ => { mu := [25, 40], keepR := [0, 1, 2, 6, 7, 8, 9, 16, 22, 31, 68], res := [6], base := 1, order := [(11, tns .read 0 6 ++ [(6, .forced), (7, .forced), (8, .forced)]), (15, tns .read 0 6 ++ [(6, .forced), (7, .forced), (8, .forced)])], own := true }, mode := modeOf [(67, .sub)] }
noncomputable def O_48 : Oracle := Oracle.of [(67, c_47)]
noncomputable def L_48 : Loops := Loops.of []
theorem lf_48 : LoopsFn Try.prog C_48 O_48 65 L_48 := LoopsFn.nil' (by kernel_rfl)
def sa_48 : List S2 := [.one (.refx 0), .one (.dat I), .one (.dat (.sl tWaiter))]
def ba_48 : List SB := [.data tWaiter]
def out_48 (r : (List DWaiter)) : AV × Store := out1 (.one (.all 1)) [.dead, .data tWaiter] (r, ())
theorem w_48 (x : FAr sa_48 ba_48) : evF C_48 O_48 L_48 65 sa_48 ba_48 x =
 slices_Insert_Waiter_roomK x.1 x.2.1 x.2.2.1 x.2.2.2.1 x.2.2.2.2.1 (fun r => some (out_48 r)) := by kernel_rfl
theorem sem_48 : SemF 65 sa_48 ba_48 (fun x => slices_Insert_Waiter_room x.1 x.2.1 x.2.2.1 x.2.2.2.1 x.2.2.2.2.1) out_48 :=
 sem_of folP okP tabP (Oracle.of_ok (Oracle.cons_ok ok_47 Oracle.nil_ok)) lf_48 fun x => (w_48 x).trans (slices_Insert_Waiter_room_eq x.1 x.2.1 x.2.2.1 x.2.2.2.1 x.2.2.2.2.1 _)
noncomputable def c_48 : Con := Con.shape sa_48 ba_48 (fun x => slices_Insert_Waiter_room x.1 x.2.1 x.2.2.1 x.2.2.2.1 x.2.2.2.2.1) out_48
theorem ok_48 : ConOk Try.prog 65 c_48 := Con.shape_ok sem_48

/-! 65 -/
def out_49 (r : (List DWaiter)) : AV × Store := out1 (.one (.all 1)) [.dead, .data tWaiter] (r, ())
theorem sem_49 : SemF 65 [.one (.all 0), .one (.dat I), .one (.dat (.sl tWaiter))] [.data tWaiter] (fun x => slices_Insert_Waiter x.1 x.2.1 x.2.2.1) out_49 := fun x y h =>
  sem_room rfl fun js => sem_48 (x.2.2.1.length, (x.2.2.1 ++ js).length, x.1, x.2.1, x.2.2.1 ++ js, ()) y (slices_Insert_Waiter_roomy js h)
noncomputable def c_49 : Con := Con.shape [.one (.all 0), .one (.dat I), .one (.dat (.sl tWaiter))] [.data tWaiter] (fun x => slices_Insert_Waiter x.1 x.2.1 x.2.2.1) out_49
theorem ok_49 : ConOk Try.prog 65 c_49 := Con.shape_ok sem_49

/-! 50 -/
def C_50 : Cfg := { T := tab, hint := fun _ => { mu := [6, 29, 34], keepR := [1, 3, 5, 6, 7, 23], res := [6], order := [(2, [(0, .read)] ++ tns .forced 1 5 ++ tns .read 6 6 ++ tns .forced 12 4), (4, [(1, .read), (2, .read), (4, .read), (5, .read), (6, .read), (0, .pure), (3, .forced)] ++ tns .forced 7 4)], keepL := [(0, [1, 3, 5, 6, 7])], keepX := [(0, [1, 3, 5, 6, 7]), (1, [1, 3, 5, 6, 7])] }, mode := modeOf [(65, .sub)] }
noncomputable def O_50 : Oracle := Oracle.of [(43, c_35), (63, c_33), (65, c_49)]
def sh_50_l0 : List (Nat × S2) := [(1, .one (.dat .bool)), (3, .one (.cdat tEndpoint 0)), (5, .one (.cdat tWaiter 0)), (6, .one (.ptr 0 0 0)), (7, .one (.dat I))]
def bs_50_l0 : List SB := [.var [.dat .bool, .e0 tWaiter]]
def xs_50_l0 : List (Nat × S2) := [(1, .one (.dat .bool)), (3, .one (.cdat tEndpoint 0)), (5, .one (.cdat tWaiter 0)), (6, .one (.ptr 0 0 0)), (7, .one (.dat I))]
def xb_50_l0 : List SB := [.var [.dat .bool, .e0 tWaiter]]
noncomputable def lc_50_l0 : LCon := LCon.shape1 sh_50_l0 bs_50_l0 impl_Endpoint_join_l0 (fun a => (.exit 0, encSt xs_50_l0 xb_50_l0 a))
noncomputable def L_50 : Loops := Loops.of [(0, lc_50_l0)]
theorem r_50_l0 (x : FSt sh_50_l0 bs_50_l0) : rdF C_50 O_50 L_50 50 0 0 sh_50_l0 bs_50_l0 x =
 impl_Endpoint_join_l0K x.1 x.2.1 x.2.2.1 x.2.2.2.1 x.2.2.2.2.1 (fun y => some (Ex.normal, encSt sh_50_l0 bs_50_l0 y)) (fun a => some (Ex.exit 0, encSt xs_50_l0 xb_50_l0 a)) := by kernel_rfl
theorem lo_50_l0 : loF C_50 O_50 L_50 50 0 0 lc_50_l0 :=
 LCon.shape1_ok (fun a => by simp) fun x => (r_50_l0 x).trans (impl_Endpoint_join_l0_eq x.1 x.2.1 x.2.2.1 x.2.2.2.1 x.2.2.2.2.1 _ _)
theorem lf_50 : LoopsFn Try.prog C_50 O_50 50 L_50 := LoopsFn.all (by kernel_rfl) (by decide) ⟨lo_50_l0, trivial⟩
def sa_50 : List S2 := [.one (.dat tEndpoint), .one (.dat .bool), .one (.dat tWaiter)]
def ba_50 : List SB := []
def out_50 (r : Bool × (List DWaiter)) : AV × Store := out1 (.agg [.dat .bool, .all 0]) [.data tWaiter] (r.1, r.2, ())
theorem w_50 (x : FAr sa_50 ba_50) : evF C_50 O_50 L_50 50 sa_50 ba_50 x =
 impl_Endpoint_joinK x.1 x.2.1 x.2.2.1 (fun r => some (out_50 r)) := by kernel_rfl
theorem sem_50 : SemF 50 sa_50 ba_50 (fun x => impl_Endpoint_join x.1 x.2.1 x.2.2.1) out_50 :=
 sem_of folP okP tabP (Oracle.of_ok (Oracle.cons_ok ok_35 (Oracle.cons_ok ok_33 (Oracle.cons_ok ok_49 Oracle.nil_ok)))) lf_50 fun x => (w_50 x).trans (impl_Endpoint_join_eq x.1 x.2.1 x.2.2.1 _)
noncomputable def c_50 : Con := Con.shape sa_50 ba_50 (fun x => impl_Endpoint_join x.1 x.2.1 x.2.2.1) out_50
theorem ok_50 : ConOk Try.prog 50 c_50 := Con.shape_ok sem_50

/-! 28 -/
def C_51 : Cfg := { T := tab, hint := fun _ => { mu := [4, 34, 42], keepR := [2, 3, 4, 5, 6, 23], res := [4, 5], order := [(4, [(0, .read)] ++ tns .pure 2 5 ++ [(1, .forced), (7, .forced), (8, .forced)])], keepX := [(0, [2, 3, 4])], fillR := true }, mode := fun _ => .borrow }
noncomputable def O_51 : Oracle := Oracle.of [(16, c_14), (37, c_10), (38, c_13), (44, c_37), (50, c_50)]
noncomputable def L_51 : Loops := Loops.of []
theorem lf_51 : LoopsFn Try.prog C_51 O_51 28 L_51 := LoopsFn.nil' (by kernel_rfl)
def sa_51 : List S2 := [.one (.dat tEndpoint), .one (.dat tWaiter)]
def ba_51 : List SB := []
def out_51 (r : Bool × Int × (List DWaiter)) : AV × Store := outT [.agg [.dat .bool, .all 0], .one (.dat I)] [.data tWaiter] (r.1, r.2.1, r.2.2, ())
theorem w_51 (x : FAr sa_51 ba_51) : evF C_51 O_51 L_51 28 sa_51 ba_51 x =
 impl_EndpointSendK x.1 x.2.1 (fun r => some (out_51 r)) := by kernel_rfl
theorem sem_51 : SemF 28 sa_51 ba_51 (fun x => impl_EndpointSend x.1 x.2.1) out_51 :=
 sem_of folP okP tabP (Oracle.of_ok (Oracle.cons_ok ok_14 (Oracle.cons_ok ok_10 (Oracle.cons_ok ok_13 (Oracle.cons_ok ok_37 (Oracle.cons_ok ok_50 Oracle.nil_ok)))))) lf_51 fun x => (w_51 x).trans (impl_EndpointSend_eq x.1 x.2.1 _)
noncomputable def c_51 : Con := Con.shape sa_51 ba_51 (fun x => impl_EndpointSend x.1 x.2.1) out_51
theorem ok_51 : ConOk Try.prog 28 c_51 := Con.shape_ok sem_51

/-! 7 -/
def C_52 : Cfg := { T := tab, hint := fun _ => { mu := [6, 8, 9, 14, 30, 35], keepR := [2, 3, 4, 5, 6, 7, 8, 9, 10, 11, 12, 13, 14, 15, 20, 46, 51, 67, 75, 78, 95, 100, 103], res := [4], order := [(5, tns .read 0 7 ++ [(7, .pure), (8, .forced), (9, .forced), (10, .forced)]), (7, [(0, .read), (1, .read), (2, .read), (7, .late), (3, .forced), (4, .forced), (5, .read), (6, .pure), (8, .adopt 7), (8, .forced), (9, .forced)]), (10, [(0, .read)] ++ tns .forced 1 4), (24, tns .read 0 7 ++ [(7, .pure), (8, .forced), (9, .forced), (10, .forced)])] }, mode := modeOf [(22, .sub)] }
noncomputable def O_52 : Oracle := Oracle.of [(13, c_1), (15, c_4), (17, c_17), (22, c_40), (23, c_42), (26, c_26), (27, c_2), (28, c_51)]
noncomputable def L_52 : Loops := Loops.of []
theorem lf_52 : LoopsFn Try.prog C_52 O_52 7 L_52 := LoopsFn.nil' (by kernel_rfl)
def sa_52 : List S2 := [.one (.dat tEndpoint), .one (.dat tWaiter)]
def ba_52 : List SB := []
def out_52 (r : Bool) : AV × Store := out1 (.one (.dat .bool)) [] (r, ())
theorem w_52 (x : FAr sa_52 ba_52) : evF C_52 O_52 L_52 7 sa_52 ba_52 x =
 laws_FnExactEndpointSendK x.1 x.2.1 (fun r => some (out_52 r)) := by kernel_rfl
theorem sem_52 : SemF 7 sa_52 ba_52 (fun x => laws_FnExactEndpointSend x.1 x.2.1) out_52 :=
 sem_of folP okP tabP (Oracle.of_ok (Oracle.cons_ok ok_1 (Oracle.cons_ok ok_4 (Oracle.cons_ok ok_17 (Oracle.cons_ok ok_40 (Oracle.cons_ok ok_42 (Oracle.cons_ok ok_26 (Oracle.cons_ok ok_2 (Oracle.cons_ok ok_51 Oracle.nil_ok))))))))) lf_52 fun x => (w_52 x).trans (laws_FnExactEndpointSend_eq x.1 x.2.1 _)
noncomputable def c_52 : Con := Con.shape sa_52 ba_52 (fun x => laws_FnExactEndpointSend x.1 x.2.1) out_52
theorem ok_52 : ConOk Try.prog 7 c_52 := Con.shape_ok sem_52

/-! 30 -/
def C_53 : Cfg := { T := tab, hint := fun _ => { mu := [6, 7, 9, 34, 41], keepR := [1, 2, 3, 6, 7, 8, 9, 13, 30], res := [6, 7, 8], order := [(5, [(0, .read)] ++ tns .pure 2 4 ++ [(1, .forced), (6, .forced), (7, .forced), (8, .forced)])], keepX := [(0, [3, 6, 7, 9])], fillR := true }, mode := fun _ => .borrow }
noncomputable def O_53 : Oracle := Oracle.of [(16, c_14), (37, c_10), (38, c_13), (44, c_37), (50, c_50)]
noncomputable def L_53 : Loops := Loops.of []
theorem lf_53 : LoopsFn Try.prog C_53 O_53 30 L_53 := LoopsFn.nil' (by kernel_rfl)
def sa_53 : List S2 := [.one (.dat tEndpoint), .one (.dat I), .one (.dat I)]
def ba_53 : List SB := []
def out_53 (r : Bool × DWaiter × Bool × (List DWaiter)) : AV × Store := outT [.agg [.dat .bool, .all 0], .one (.dat tWaiter), .one (.dat .bool)] [.data tWaiter] (r.1, r.2.1, r.2.2.1, r.2.2.2, ())
theorem w_53 (x : FAr sa_53 ba_53) : evF C_53 O_53 L_53 30 sa_53 ba_53 x =
 impl_EndpointTakeK x.1 x.2.1 x.2.2.1 (fun r => some (out_53 r)) := by kernel_rfl
theorem sem_53 : SemF 30 sa_53 ba_53 (fun x => impl_EndpointTake x.1 x.2.1 x.2.2.1) out_53 :=
 sem_of folP okP tabP (Oracle.of_ok (Oracle.cons_ok ok_14 (Oracle.cons_ok ok_10 (Oracle.cons_ok ok_13 (Oracle.cons_ok ok_37 (Oracle.cons_ok ok_50 Oracle.nil_ok)))))) lf_53 fun x => (w_53 x).trans (impl_EndpointTake_eq x.1 x.2.1 x.2.2.1 _)
noncomputable def c_53 : Con := Con.shape sa_53 ba_53 (fun x => impl_EndpointTake x.1 x.2.1 x.2.2.1) out_53
theorem ok_53 : ConOk Try.prog 30 c_53 := Con.shape_ok sem_53

/-! 8 -/
def C_54 : Cfg := { T := tab, hint := fun _ => { mu := [8, 9, 11, 12, 13, 18, 19, 36, 41], keepR := [1, 2, 3, 6, 7, 8, 9, 10, 11, 12, 13, 14, 15, 16, 17, 18, 19, 20, 25, 59, 64, 86, 94, 97, 121, 126, 129], res := [6], order := [(10, [(0, .read)] ++ tns .forced 1 4)] }, mode := modeOf [(22, .sub)] }
noncomputable def O_54 : Oracle := Oracle.of [(13, c_1), (15, c_4), (17, c_17), (22, c_40), (23, c_42), (29, c_27), (30, c_53), (31, c_15)]
noncomputable def L_54 : Loops := Loops.of []
theorem lf_54 : LoopsFn Try.prog C_54 O_54 8 L_54 := LoopsFn.nil' (by kernel_rfl)
def sa_54 : List S2 := [.one (.dat tEndpoint), .one (.dat I), .one (.dat I)]
def ba_54 : List SB := []
def out_54 (r : Bool) : AV × Store := out1 (.one (.dat .bool)) [] (r, ())
theorem w_54 (x : FAr sa_54 ba_54) : evF C_54 O_54 L_54 8 sa_54 ba_54 x =
 laws_FnExactEndpointTakeK x.1 x.2.1 x.2.2.1 (fun r => some (out_54 r)) := by kernel_rfl
theorem sem_54 : SemF 8 sa_54 ba_54 (fun x => laws_FnExactEndpointTake x.1 x.2.1 x.2.2.1) out_54 :=
 sem_of folP okP tabP (Oracle.of_ok (Oracle.cons_ok ok_1 (Oracle.cons_ok ok_4 (Oracle.cons_ok ok_17 (Oracle.cons_ok ok_40 (Oracle.cons_ok ok_42 (Oracle.cons_ok ok_27 (Oracle.cons_ok ok_53 (Oracle.cons_ok ok_15 Oracle.nil_ok))))))))) lf_54 fun x => (w_54 x).trans (laws_FnExactEndpointTake_eq x.1 x.2.1 x.2.2.1 _)
noncomputable def c_54 : Con := Con.shape sa_54 ba_54 (fun x => laws_FnExactEndpointTake x.1 x.2.1 x.2.2.1) out_54
theorem ok_54 : ConOk Try.prog 8 c_54 := Con.shape_ok sem_54

/-! 32 -/
def C_55 : Cfg := { T := tab, hint := fun _ => { mu := [2, 3, 5, 7], keepR := [0, 2, 3, 4, 5], res := [2, 3], order := [(3, [(1, .read), (0, .aside [2] []), (2, .forced), (3, .forced), (4, .forced)])] }, mode := modeOf [(40, .sub), (51, .sub)] }
noncomputable def O_55 : Oracle := Oracle.of [(40, c_28), (41, c_19), (51, c_22)]
noncomputable def L_55 : Loops := Loops.of []
theorem lf_55 : LoopsFn Try.prog C_55 O_55 32 L_55 := LoopsFn.nil' (by kernel_rfl)
def sa_55 : List S2 := [.one (.dat (.sl (.int .u8)))]
def ba_55 : List SB := []
def out_55 (r : Bool × DWaiter × (List DWaiter)) : AV × Store := outT [.agg [.dat .bool, .all 0], .one (.dat tWaiter)] [.data tWaiter] (r.1, r.2.1, r.2.2, ())
theorem w_55 (x : FAr sa_55 ba_55) : evF C_55 O_55 L_55 32 sa_55 ba_55 x =
 spec_DrawEndpointSendK x.1 (fun r => some (out_55 r)) := by kernel_rfl
theorem sem_55 : SemF 32 sa_55 ba_55 (fun x => spec_DrawEndpointSend x.1) out_55 :=
 sem_of folP okP tabP (Oracle.of_ok (Oracle.cons_ok ok_28 (Oracle.cons_ok ok_19 (Oracle.cons_ok ok_22 Oracle.nil_ok)))) lf_55 fun x => (w_55 x).trans (spec_DrawEndpointSend_eq x.1 _)
noncomputable def c_55 : Con := Con.shape sa_55 ba_55 (fun x => spec_DrawEndpointSend x.1) out_55
theorem ok_55 : ConOk Try.prog 32 c_55 := Con.shape_ok sem_55

/-! 9 -/
def C_56 : Cfg := { T := tab, hint := fun _ => { mu := [3, 4, 5, 7, 9, 10, 11, 13, 16, 17, 19, 20], keepR := [0, 2, 4, 5, 7, 9, 10, 11, 13, 15, 17, 20, 24, 45, 54], res := [2] }, mode := fun _ => .borrow }
noncomputable def O_56 : Oracle := Oracle.of [(19, c_30), (25, c_45), (26, c_26), (28, c_51), (30, c_53), (32, c_55)]
noncomputable def L_56 : Loops := Loops.of []
theorem lf_56 : LoopsFn Try.prog C_56 O_56 9 L_56 := LoopsFn.nil' (by kernel_rfl)
def sa_56 : List S2 := [.one (.dat (.sl (.int .u8)))]
def ba_56 : List SB := []
def out_56 (r : Bool) : AV × Store := out1 (.one (.dat .bool)) [] (r, ())
theorem w_56 (x : FAr sa_56 ba_56) : evF C_56 O_56 L_56 9 sa_56 ba_56 x =
 laws_FnEndpointOrderK x.1 (fun r => some (out_56 r)) := by kernel_rfl
theorem sem_56 : SemF 9 sa_56 ba_56 (fun x => laws_FnEndpointOrder x.1) out_56 :=
 sem_of folP okP tabP (Oracle.of_ok (Oracle.cons_ok ok_30 (Oracle.cons_ok ok_45 (Oracle.cons_ok ok_26 (Oracle.cons_ok ok_51 (Oracle.cons_ok ok_53 (Oracle.cons_ok ok_55 Oracle.nil_ok))))))) lf_56 fun x => (w_56 x).trans (laws_FnEndpointOrder_eq x.1 _)
noncomputable def c_56 : Con := Con.shape sa_56 ba_56 (fun x => laws_FnEndpointOrder x.1) out_56
theorem ok_56 : ConOk Try.prog 9 c_56 := Con.shape_ok sem_56

/-! 10 -/
def C_57 : Cfg := { T := tab, hint := fun _ => { mu := [3, 4, 5, 7, 9, 10], keepR := [0, 2, 4, 5, 6, 7, 8, 9, 10, 11, 14, 40, 44], res := [2] }, mode := fun _ => .borrow }
noncomputable def O_57 : Oracle := Oracle.of [(19, c_30), (25, c_45), (26, c_26), (28, c_51), (30, c_53), (32, c_55)]
noncomputable def L_57 : Loops := Loops.of []
theorem lf_57 : LoopsFn Try.prog C_57 O_57 10 L_57 := LoopsFn.nil' (by kernel_rfl)
def sa_57 : List S2 := [.one (.dat (.sl (.int .u8)))]
def ba_57 : List SB := []
def out_57 (r : Bool) : AV × Store := out1 (.one (.dat .bool)) [] (r, ())
theorem w_57 (x : FAr sa_57 ba_57) : evF C_57 O_57 L_57 10 sa_57 ba_57 x =
 laws_FnEndpointPairK x.1 (fun r => some (out_57 r)) := by kernel_rfl
theorem sem_57 : SemF 10 sa_57 ba_57 (fun x => laws_FnEndpointPair x.1) out_57 :=
 sem_of folP okP tabP (Oracle.of_ok (Oracle.cons_ok ok_30 (Oracle.cons_ok ok_45 (Oracle.cons_ok ok_26 (Oracle.cons_ok ok_51 (Oracle.cons_ok ok_53 (Oracle.cons_ok ok_55 Oracle.nil_ok))))))) lf_57 fun x => (w_57 x).trans (laws_FnEndpointPair_eq x.1 _)
noncomputable def c_57 : Con := Con.shape sa_57 ba_57 (fun x => laws_FnEndpointPair x.1) out_57
theorem ok_57 : ConOk Try.prog 10 c_57 := Con.shape_ok sem_57

/-! 11 -/
def C_58 : Cfg := { T := tab, hint := fun _ => { mu := [3, 4, 5, 7, 11], keepR := [0, 2, 3, 4, 5, 6, 7, 8, 9, 10, 11, 12, 15, 41, 54, 67, 96, 105, 120], res := [2], order := [(11, tns .forced 0 4 ++ [(4, .read)] ++ tns .forced 5 8 ++ [(13, .read)] ++ tns .forced 14 11), (16, tns .read 0 5 ++ [(5, .forced), (6, .forced)]), (18, [(0, .forced), (1, .forced), (2, .forced)] ++ tns .read 3 6 ++ tns .forced 9 4)], keepL := [(0, [3, 4, 5, 9, 10])], keepX := [(0, [3, 4, 5, 9]), (1, [3, 4, 5, 9, 10])] }, mode := fun _ => .borrow }
noncomputable def O_58 : Oracle := Oracle.of [(14, c_6), (16, c_14), (19, c_30), (21, c_38), (25, c_45), (26, c_26), (28, c_51), (32, c_55)]
def sh_58_l0 : List (Nat × S2) := [(3, .one (.ptr 0 0 0)), (4, .one (.ptr 1 0 0)), (5, .one (.ptr 2 0 0)), (9, .one (.dat I)), (10, .one (.dat I))]
def bs_58_l0 : List SB := [.var [.dat .bool, .dat (.sl tWaiter)], .one tWaiter, .var [.dat .bool, .dat (.sl tWaiter)]]
def xs_58_l0 : List (Nat × S2) := [(3, .one (.ptr 0 0 0)), (4, .one (.ptr 1 0 0)), (5, .one (.ptr 2 0 0)), (9, .one (.dat I))]
def xb_58_l0 : List SB := [.var [.dat .bool, .dat (.sl tWaiter)], .one tWaiter, .var [.dat .bool, .dat (.sl tWaiter)]]
def ys_58_l0 : List (Nat × S2) := [(2, .one (.dat .bool))]
def yb_58_l0 : List SB := []
noncomputable def lc_58_l0 : LCon := LCon.shape sh_58_l0 bs_58_l0 laws_FnEndpointSend_l0 (fun a => (.exit 0, encSt xs_58_l0 xb_58_l0 a)) (fun b => encSt ys_58_l0 yb_58_l0 b)
noncomputable def L_58 : Loops := Loops.of [(0, lc_58_l0)]
theorem r_58_l0 (x : FSt sh_58_l0 bs_58_l0) : rdF C_58 O_58 L_58 11 0 0 sh_58_l0 bs_58_l0 x =
 laws_FnEndpointSend_l0K x.1 x.2.1 x.2.2.1 x.2.2.2.1 x.2.2.2.2.1 x.2.2.2.2.2.1 x.2.2.2.2.2.2.1 (fun y => some (Ex.normal, encSt sh_58_l0 bs_58_l0 y)) (fun a => some (Ex.exit 0, encSt xs_58_l0 xb_58_l0 a)) (fun b => some (Ex.ret, encSt ys_58_l0 yb_58_l0 b)) := by kernel_rfl
theorem lo_58_l0 : loF C_58 O_58 L_58 11 0 0 lc_58_l0 :=
 LCon.shape_ok (fun a => by simp) fun x => (r_58_l0 x).trans (laws_FnEndpointSend_l0_eq x.1 x.2.1 x.2.2.1 x.2.2.2.1 x.2.2.2.2.1 x.2.2.2.2.2.1 x.2.2.2.2.2.2.1 _ _ _)
theorem lf_58 : LoopsFn Try.prog C_58 O_58 11 L_58 := LoopsFn.all (by kernel_rfl) (by decide) ⟨lo_58_l0, trivial⟩
def sa_58 : List S2 := [.one (.dat (.sl (.int .u8)))]
def ba_58 : List SB := []
def out_58 (r : Bool) : AV × Store := out1 (.one (.dat .bool)) [] (r, ())
theorem w_58 (x : FAr sa_58 ba_58) : evF C_58 O_58 L_58 11 sa_58 ba_58 x =
 laws_FnEndpointSendK x.1 (fun r => some (out_58 r)) := by kernel_rfl
theorem sem_58 : SemF 11 sa_58 ba_58 (fun x => laws_FnEndpointSend x.1) out_58 :=
 sem_of folP okP tabP (Oracle.of_ok (Oracle.cons_ok ok_6 (Oracle.cons_ok ok_14 (Oracle.cons_ok ok_30 (Oracle.cons_ok ok_38 (Oracle.cons_ok ok_45 (Oracle.cons_ok ok_26 (Oracle.cons_ok ok_51 (Oracle.cons_ok ok_55 Oracle.nil_ok))))))))) lf_58 fun x => (w_58 x).trans (laws_FnEndpointSend_eq x.1 _)
noncomputable def c_58 : Con := Con.shape sa_58 ba_58 (fun x => laws_FnEndpointSend x.1) out_58
theorem ok_58 : ConOk Try.prog 11 c_58 := Con.shape_ok sem_58

/-! 33 -/
def C_59 : Cfg := { T := tab, hint := fun _ => { mu := [2, 6, 7, 9], keepR := [0, 2, 3, 4, 5, 6, 7], res := [2, 3, 4], order := [(4, [(0, .read), (1, .aside [0] []), (2, .aside [0] []), (3, .aside [0] []), (4, .aside [0] []), (5, .forced), (6, .forced), (7, .forced)])] }, mode := modeOf [(40, .sub), (51, .sub)] }
noncomputable def O_59 : Oracle := Oracle.of [(40, c_28), (41, c_19), (51, c_22)]
noncomputable def L_59 : Loops := Loops.of []
theorem lf_59 : LoopsFn Try.prog C_59 O_59 33 L_59 := LoopsFn.nil' (by kernel_rfl)
def sa_59 : List S2 := [.one (.dat (.sl (.int .u8)))]
def ba_59 : List SB := []
def out_59 (r : Bool × Int × Int × (List DWaiter)) : AV × Store := outT [.agg [.dat .bool, .all 0], .one (.dat I), .one (.dat I)] [.data tWaiter] (r.1, r.2.1, r.2.2.1, r.2.2.2, ())
theorem w_59 (x : FAr sa_59 ba_59) : evF C_59 O_59 L_59 33 sa_59 ba_59 x =
 spec_DrawEndpointTakeK x.1 (fun r => some (out_59 r)) := by kernel_rfl
theorem sem_59 : SemF 33 sa_59 ba_59 (fun x => spec_DrawEndpointTake x.1) out_59 :=
 sem_of folP okP tabP (Oracle.of_ok (Oracle.cons_ok ok_28 (Oracle.cons_ok ok_19 (Oracle.cons_ok ok_22 Oracle.nil_ok)))) lf_59 fun x => (w_59 x).trans (spec_DrawEndpointTake_eq x.1 _)
noncomputable def c_59 : Con := Con.shape sa_59 ba_59 (fun x => spec_DrawEndpointTake x.1) out_59
theorem ok_59 : ConOk Try.prog 33 c_59 := Con.shape_ok sem_59

/-! 12 -/
def C_60 : Cfg := { T := tab, hint := fun _ => { mu := [3, 6, 7, 9, 10, 13], keepR := [0, 2, 3, 4, 5, 6, 7, 8, 9, 10, 11, 12, 13, 14, 17, 53, 54, 59, 70, 98], res := [2], order := [(12, tns .read 0 6 ++ [(6, .forced), (7, .forced), (8, .forced)]), (14, [(0, .forced), (1, .forced), (2, .forced), (3, .read)] ++ tns .forced 4 11 ++ [(15, .read), (16, .read), (17, .read)] ++ tns .forced 18 7)], keepL := [(0, [3, 6, 7, 12])], keepX := [(0, [3, 6, 7]), (1, [3, 6, 7, 12])] }, mode := fun _ => .borrow }
noncomputable def O_60 : Oracle := Oracle.of [(16, c_14), (19, c_30), (21, c_38), (25, c_45), (29, c_27), (30, c_53), (33, c_59)]
def sh_60_l0 : List (Nat × S2) := [(3, .one (.ptr 0 0 0)), (6, .one (.ptr 1 0 0)), (7, .one (.ptr 2 0 0)), (12, .one (.dat I))]
def bs_60_l0 : List SB := [.var [.dat .bool, .dat (.sl tWaiter)], .var [.dat .bool, .dat (.sl tWaiter)], .one tWaiter]
def xs_60_l0 : List (Nat × S2) := [(3, .one (.ptr 0 0 0)), (6, .one (.ptr 1 0 0)), (7, .one (.ptr 2 0 0))]
def xb_60_l0 : List SB := [.var [.dat .bool, .dat (.sl tWaiter)], .var [.dat .bool, .dat (.sl tWaiter)], .one tWaiter]
def ys_60_l0 : List (Nat × S2) := [(2, .one (.dat .bool))]
def yb_60_l0 : List SB := []
noncomputable def lc_60_l0 : LCon := LCon.shape sh_60_l0 bs_60_l0 laws_FnEndpointTake_l0 (fun a => (.exit 0, encSt xs_60_l0 xb_60_l0 a)) (fun b => encSt ys_60_l0 yb_60_l0 b)
noncomputable def L_60 : Loops := Loops.of [(0, lc_60_l0)]
theorem r_60_l0 (x : FSt sh_60_l0 bs_60_l0) : rdF C_60 O_60 L_60 12 0 0 sh_60_l0 bs_60_l0 x =
 laws_FnEndpointTake_l0K x.1 x.2.1 x.2.2.1 x.2.2.2.1 x.2.2.2.2.1 x.2.2.2.2.2.1 (fun y => some (Ex.normal, encSt sh_60_l0 bs_60_l0 y)) (fun a => some (Ex.exit 0, encSt xs_60_l0 xb_60_l0 a)) (fun b => some (Ex.ret, encSt ys_60_l0 yb_60_l0 b)) := by kernel_rfl
theorem lo_60_l0 : loF C_60 O_60 L_60 12 0 0 lc_60_l0 :=
 LCon.shape_ok (fun a => by simp) fun x => (r_60_l0 x).trans (laws_FnEndpointTake_l0_eq x.1 x.2.1 x.2.2.1 x.2.2.2.1 x.2.2.2.2.1 x.2.2.2.2.2.1 _ _ _)
theorem lf_60 : LoopsFn Try.prog C_60 O_60 12 L_60 := LoopsFn.all (by kernel_rfl) (by decide) ⟨lo_60_l0, trivial⟩
def sa_60 : List S2 := [.one (.dat (.sl (.int .u8)))]
def ba_60 : List SB := []
def out_60 (r : Bool) : AV × Store := out1 (.one (.dat .bool)) [] (r, ())
theorem w_60 (x : FAr sa_60 ba_60) : evF C_60 O_60 L_60 12 sa_60 ba_60 x =
 laws_FnEndpointTakeK x.1 (fun r => some (out_60 r)) := by kernel_rfl
theorem sem_60 : SemF 12 sa_60 ba_60 (fun x => laws_FnEndpointTake x.1) out_60 :=
 sem_of folP okP tabP (Oracle.of_ok (Oracle.cons_ok ok_14 (Oracle.cons_ok ok_30 (Oracle.cons_ok ok_38 (Oracle.cons_ok ok_45 (Oracle.cons_ok ok_27 (Oracle.cons_ok ok_53 (Oracle.cons_ok ok_59 Oracle.nil_ok)))))))) lf_60 fun x => (w_60 x).trans (laws_FnEndpointTake_eq x.1 _)
noncomputable def c_60 : Con := Con.shape sa_60 ba_60 (fun x => laws_FnEndpointTake x.1) out_60
theorem ok_60 : ConOk Try.prog 12 c_60 := Con.shape_ok sem_60

end Go.Ev
