/-
  The walks: the program computes what the functions of plain data compute, wherever these come to a result; printed by a program of the prover.
-/
import Derived.Test.YtcjbjcdmefggmaaDefs
import Derived.Test.YtcjbjcdmefggmaaProg
import Derived.Test.YtcjbjcdmefggmaaAlive
namespace Go.Ev
open Go.Proofs
set_option linter.unusedVariables false
set_option linter.unusedSimpArgs false
set_option maxRecDepth 100000
def tys : List (Nat × Ty) := [(3, I), (4, .bool), (5, (.int .u8)), (22, (.sl I)), (27, (.sl (.int .u8))), (36, tl20Rd)]
def tups : List (Nat × List Ty) := []
def tab : Tab := tabOf tys tups
theorem okP : progOk Try.prog = true := by kernel_rfl
theorem tabP : TabOk Try.prog tab := tabOf_ok (by kernel_rfl)
theorem folP : Try.prog.follows .mixedOrders = true := by kernel_rfl
/-! 6 -/
def C_laws_toIntS : Cfg := { T := tab, hint := fun _ => { mu := [7], keepR := [0, 2, 3, 4, 11], res := [2], keepL := [(0, [0, 3, 4])], keepX := [(0, [3]), (1, [0, 3, 4])] }, mode := fun _ => .borrow }
noncomputable def O_laws_toIntS : Oracle := Oracle.of []
def sh_laws_toIntS_l0 : List (Nat × S2) := [(0, .one (.dat (.sl I))), (3, .one (.all 0)), (4, .one (.dat I))]
def bs_laws_toIntS_l0 : List SB := [.data I]
noncomputable def lc_laws_toIntS_l0 : LCon := LCon.shape1 sh_laws_toIntS_l0 bs_laws_toIntS_l0 laws_toIntS_l0 (fun a => (.exit 0, encSt [(3, .one (.all 0))] [.data I] a))
noncomputable def L_laws_toIntS : Loops := Loops.of [(0, lc_laws_toIntS_l0)]
theorem r_laws_toIntS_l0 (x : FSt sh_laws_toIntS_l0 bs_laws_toIntS_l0) : roundK C_laws_toIntS.T (C_laws_toIntS.hint 6) C_laws_toIntS.mode O_laws_toIntS L_laws_toIntS 0 (lp Try.prog 6 0) (encSt sh_laws_toIntS_l0 bs_laws_toIntS_l0 x) (fun e s => some (e, s)) =
    laws_toIntS_l0K x.1 x.2.1 x.2.2.1 (fun y => some (Ex.normal, encSt sh_laws_toIntS_l0 bs_laws_toIntS_l0 y)) (fun a => some (Ex.exit 0, encSt [(3, .one (.all 0))] [.data I] a)) := by kernel_rfl
theorem lo_laws_toIntS_l0 : LConOk C_laws_toIntS.T (C_laws_toIntS.hint 6) C_laws_toIntS.mode O_laws_toIntS L_laws_toIntS 0 (lp Try.prog 6 0) lc_laws_toIntS_l0 :=
  LCon.shape1_ok (fun a => by simp) fun x => (r_laws_toIntS_l0 x).trans (laws_toIntS_l0_eq x.1 x.2.1 x.2.2.1 _ _)
theorem lf_laws_toIntS : LoopsFn Try.prog C_laws_toIntS O_laws_toIntS 6 L_laws_toIntS := LoopsFn.all (by kernel_rfl) (by decide) ⟨lo_laws_toIntS_l0, trivial⟩
def out_laws_toIntS (r : (List Int)) : AV × Store := out1 (.one (.all 0)) [.data I] (r, ())
theorem w_laws_toIntS (x : FAr [.one (.dat (.sl I))] []) : evBodyK Try.prog C_laws_toIntS O_laws_toIntS L_laws_toIntS 6 (encAr [.one (.dat (.sl I))] [] x).1 (encAr [.one (.dat (.sl I))] [] x).2 (fun v s => some (v, s)) =
    laws_toIntSK x.1 (fun r => some (out_laws_toIntS r)) := by kernel_rfl
theorem sem_laws_toIntS : ∀ x y, (fun x => laws_toIntS x.1) x = some y → SemCall Try.prog 6 (encAr [.one (.dat (.sl I))] [] x).1 (encAr [.one (.dat (.sl I))] [] x).2 (out_laws_toIntS y).1 (out_laws_toIntS y).2 :=
  sem_of folP okP tabP (Oracle.of_ok Oracle.nil_ok) lf_laws_toIntS fun x => (w_laws_toIntS x).trans (laws_toIntS_eq x.1 _)
noncomputable def c_laws_toIntS : Con := Con.shape [.one (.dat (.sl I))] [] (fun x => laws_toIntS x.1) out_laws_toIntS
theorem ok_laws_toIntS : ConOk Try.prog 6 c_laws_toIntS := Con.shape_ok sem_laws_toIntS

/-! 5 -/
def C_spec_ImageSum : Cfg := { T := tab, hint := fun _ => { keepR := [0, 2, 3, 4, 5, 9, 18], res := [2], keepL := [(0, [0, 3, 4])], keepX := [(0, [3]), (1, [0, 3, 4])] }, mode := fun _ => .borrow }
noncomputable def O_spec_ImageSum : Oracle := Oracle.of []
def sh_spec_ImageSum_l0 : List (Nat × S2) := [(0, .one (.dat (.sl I))), (3, .one (.dat I)), (4, .one (.dat I))]
def bs_spec_ImageSum_l0 : List SB := []
noncomputable def lc_spec_ImageSum_l0 : LCon := LCon.shape1 sh_spec_ImageSum_l0 bs_spec_ImageSum_l0 spec_ImageSum_l0 (fun a => (.exit 0, encSt [(3, .one (.dat I))] [] a))
noncomputable def L_spec_ImageSum : Loops := Loops.of [(0, lc_spec_ImageSum_l0)]
theorem r_spec_ImageSum_l0 (x : FSt sh_spec_ImageSum_l0 bs_spec_ImageSum_l0) : roundK C_spec_ImageSum.T (C_spec_ImageSum.hint 5) C_spec_ImageSum.mode O_spec_ImageSum L_spec_ImageSum 0 (lp Try.prog 5 0) (encSt sh_spec_ImageSum_l0 bs_spec_ImageSum_l0 x) (fun e s => some (e, s)) =
    spec_ImageSum_l0K x.1 x.2.1 x.2.2.1 (fun y => some (Ex.normal, encSt sh_spec_ImageSum_l0 bs_spec_ImageSum_l0 y)) (fun a => some (Ex.exit 0, encSt [(3, .one (.dat I))] [] a)) := by kernel_rfl
theorem lo_spec_ImageSum_l0 : LConOk C_spec_ImageSum.T (C_spec_ImageSum.hint 5) C_spec_ImageSum.mode O_spec_ImageSum L_spec_ImageSum 0 (lp Try.prog 5 0) lc_spec_ImageSum_l0 :=
  LCon.shape1_ok (fun a => by simp) fun x => (r_spec_ImageSum_l0 x).trans (spec_ImageSum_l0_eq x.1 x.2.1 x.2.2.1 _ _)
theorem lf_spec_ImageSum : LoopsFn Try.prog C_spec_ImageSum O_spec_ImageSum 5 L_spec_ImageSum := LoopsFn.all (by kernel_rfl) (by decide) ⟨lo_spec_ImageSum_l0, trivial⟩
def out_spec_ImageSum (r : Int) : AV × Store := out1 (.one (.dat I)) [] (r, ())
theorem w_spec_ImageSum (x : FAr [.one (.dat (.sl I))] []) : evBodyK Try.prog C_spec_ImageSum O_spec_ImageSum L_spec_ImageSum 5 (encAr [.one (.dat (.sl I))] [] x).1 (encAr [.one (.dat (.sl I))] [] x).2 (fun v s => some (v, s)) =
    spec_ImageSumK x.1 (fun r => some (out_spec_ImageSum r)) := by kernel_rfl
theorem sem_spec_ImageSum : ∀ x y, (fun x => spec_ImageSum x.1) x = some y → SemCall Try.prog 5 (encAr [.one (.dat (.sl I))] [] x).1 (encAr [.one (.dat (.sl I))] [] x).2 (out_spec_ImageSum y).1 (out_spec_ImageSum y).2 :=
  sem_of folP okP tabP (Oracle.of_ok Oracle.nil_ok) lf_spec_ImageSum fun x => (w_spec_ImageSum x).trans (spec_ImageSum_eq x.1 _)
noncomputable def c_spec_ImageSum : Con := Con.shape [.one (.dat (.sl I))] [] (fun x => spec_ImageSum x.1) out_spec_ImageSum
theorem ok_spec_ImageSum : ConOk Try.prog 5 c_spec_ImageSum := Con.shape_ok sem_spec_ImageSum

/-! 7 -/
def C_impl_ImageSum : Cfg := { T := tab, hint := fun _ => { keepR := [0, 2, 3, 5, 6, 7, 8, 9], res := [2], keepL := [(0, [3, 6, 7, 8])], keepX := [(0, [3]), (1, [3, 6, 7, 8])] }, mode := fun _ => .borrow }
noncomputable def O_impl_ImageSum : Oracle := Oracle.of []
def sh_impl_ImageSum_l0 : List (Nat × S2) := [(3, .one (.dat I)), (6, .one (.dat (.sl I))), (7, .one (.dat I)), (8, .one (.dat I))]
def bs_impl_ImageSum_l0 : List SB := []
noncomputable def lc_impl_ImageSum_l0 : LCon := LCon.shape1 sh_impl_ImageSum_l0 bs_impl_ImageSum_l0 impl_ImageSum_l0 (fun a => (.exit 0, encSt [(3, .one (.dat I))] [] a))
noncomputable def L_impl_ImageSum : Loops := Loops.of [(0, lc_impl_ImageSum_l0)]
theorem r_impl_ImageSum_l0 (x : FSt sh_impl_ImageSum_l0 bs_impl_ImageSum_l0) : roundK C_impl_ImageSum.T (C_impl_ImageSum.hint 7) C_impl_ImageSum.mode O_impl_ImageSum L_impl_ImageSum 0 (lp Try.prog 7 0) (encSt sh_impl_ImageSum_l0 bs_impl_ImageSum_l0 x) (fun e s => some (e, s)) =
    impl_ImageSum_l0K x.1 x.2.1 x.2.2.1 x.2.2.2.1 (fun y => some (Ex.normal, encSt sh_impl_ImageSum_l0 bs_impl_ImageSum_l0 y)) (fun a => some (Ex.exit 0, encSt [(3, .one (.dat I))] [] a)) := by kernel_rfl
theorem lo_impl_ImageSum_l0 : LConOk C_impl_ImageSum.T (C_impl_ImageSum.hint 7) C_impl_ImageSum.mode O_impl_ImageSum L_impl_ImageSum 0 (lp Try.prog 7 0) lc_impl_ImageSum_l0 :=
  LCon.shape1_ok (fun a => by simp) fun x => (r_impl_ImageSum_l0 x).trans (impl_ImageSum_l0_eq x.1 x.2.1 x.2.2.1 x.2.2.2.1 _ _)
theorem lf_impl_ImageSum : LoopsFn Try.prog C_impl_ImageSum O_impl_ImageSum 7 L_impl_ImageSum := LoopsFn.all (by kernel_rfl) (by decide) ⟨lo_impl_ImageSum_l0, trivial⟩
def out_impl_ImageSum (r : Int) : AV × Store := out1 (.one (.dat I)) [] (r, ())
theorem w_impl_ImageSum (x : FAr [.one (.dat (.sl I))] []) : evBodyK Try.prog C_impl_ImageSum O_impl_ImageSum L_impl_ImageSum 7 (encAr [.one (.dat (.sl I))] [] x).1 (encAr [.one (.dat (.sl I))] [] x).2 (fun v s => some (v, s)) =
    impl_ImageSumK x.1 (fun r => some (out_impl_ImageSum r)) := by kernel_rfl
theorem sem_impl_ImageSum : ∀ x y, (fun x => impl_ImageSum x.1) x = some y → SemCall Try.prog 7 (encAr [.one (.dat (.sl I))] [] x).1 (encAr [.one (.dat (.sl I))] [] x).2 (out_impl_ImageSum y).1 (out_impl_ImageSum y).2 :=
  sem_of folP okP tabP (Oracle.of_ok Oracle.nil_ok) lf_impl_ImageSum fun x => (w_impl_ImageSum x).trans (impl_ImageSum_eq x.1 _)
noncomputable def c_impl_ImageSum : Con := Con.shape [.one (.dat (.sl I))] [] (fun x => impl_ImageSum x.1) out_impl_ImageSum
theorem ok_impl_ImageSum : ConOk Try.prog 7 c_impl_ImageSum := Con.shape_ok sem_impl_ImageSum

/-! 8 -/
def C_laws_eqIntS : Cfg := { T := tab, hint := fun _ => { keepR := [0, 1, 4, 5, 10, 14, 25], res := [4], order := [(6, [(0, .read), (1, .read), (2, .read), (3, .read), (4, .read), (5, .forced), (6, .forced), (7, .forced), (8, .forced)])], keepL := [(0, [0, 1, 5])], keepX := [(0, []), (1, [0, 1, 5])] }, mode := fun _ => .borrow }
noncomputable def O_laws_eqIntS : Oracle := Oracle.of []
def sh_laws_eqIntS_l0 : List (Nat × S2) := [(0, .one (.dat (.sl I))), (1, .one (.dat (.sl I))), (5, .one (.dat I))]
def bs_laws_eqIntS_l0 : List SB := []
noncomputable def lc_laws_eqIntS_l0 : LCon := LCon.shape sh_laws_eqIntS_l0 bs_laws_eqIntS_l0 laws_eqIntS_l0 (fun a => (.exit 0, encSt [] [] a)) (fun b => encSt [(4, .one (.dat .bool))] [] b)
noncomputable def L_laws_eqIntS : Loops := Loops.of [(0, lc_laws_eqIntS_l0)]
theorem r_laws_eqIntS_l0 (x : FSt sh_laws_eqIntS_l0 bs_laws_eqIntS_l0) : roundK C_laws_eqIntS.T (C_laws_eqIntS.hint 8) C_laws_eqIntS.mode O_laws_eqIntS L_laws_eqIntS 0 (lp Try.prog 8 0) (encSt sh_laws_eqIntS_l0 bs_laws_eqIntS_l0 x) (fun e s => some (e, s)) =
    laws_eqIntS_l0K x.1 x.2.1 x.2.2.1 (fun y => some (Ex.normal, encSt sh_laws_eqIntS_l0 bs_laws_eqIntS_l0 y)) (fun a => some (Ex.exit 0, encSt [] [] a)) (fun b => some (Ex.ret, encSt [(4, .one (.dat .bool))] [] b)) := by kernel_rfl
theorem lo_laws_eqIntS_l0 : LConOk C_laws_eqIntS.T (C_laws_eqIntS.hint 8) C_laws_eqIntS.mode O_laws_eqIntS L_laws_eqIntS 0 (lp Try.prog 8 0) lc_laws_eqIntS_l0 :=
  LCon.shape_ok (fun a => by simp) fun x => (r_laws_eqIntS_l0 x).trans (laws_eqIntS_l0_eq x.1 x.2.1 x.2.2.1 _ _ _)
theorem lf_laws_eqIntS : LoopsFn Try.prog C_laws_eqIntS O_laws_eqIntS 8 L_laws_eqIntS := LoopsFn.all (by kernel_rfl) (by decide) ⟨lo_laws_eqIntS_l0, trivial⟩
def out_laws_eqIntS (r : Bool) : AV × Store := out1 (.one (.dat .bool)) [] (r, ())
theorem w_laws_eqIntS (x : FAr [.one (.dat (.sl I)), .one (.dat (.sl I))] []) : evBodyK Try.prog C_laws_eqIntS O_laws_eqIntS L_laws_eqIntS 8 (encAr [.one (.dat (.sl I)), .one (.dat (.sl I))] [] x).1 (encAr [.one (.dat (.sl I)), .one (.dat (.sl I))] [] x).2 (fun v s => some (v, s)) =
    laws_eqIntSK x.1 x.2.1 (fun r => some (out_laws_eqIntS r)) := by kernel_rfl
theorem sem_laws_eqIntS : ∀ x y, (fun x => laws_eqIntS x.1 x.2.1) x = some y → SemCall Try.prog 8 (encAr [.one (.dat (.sl I)), .one (.dat (.sl I))] [] x).1 (encAr [.one (.dat (.sl I)), .one (.dat (.sl I))] [] x).2 (out_laws_eqIntS y).1 (out_laws_eqIntS y).2 :=
  sem_of folP okP tabP (Oracle.of_ok Oracle.nil_ok) lf_laws_eqIntS fun x => (w_laws_eqIntS x).trans (laws_eqIntS_eq x.1 x.2.1 _)
noncomputable def c_laws_eqIntS : Con := Con.shape [.one (.dat (.sl I)), .one (.dat (.sl I))] [] (fun x => laws_eqIntS x.1 x.2.1) out_laws_eqIntS
theorem ok_laws_eqIntS : ConOk Try.prog 8 c_laws_eqIntS := Con.shape_ok sem_laws_eqIntS

/-! 3 -/
def C_laws_FnExactImageSum : Cfg := { T := tab, hint := fun _ => { keepR := [0, 2, 3, 4, 5, 8, 18, 23], res := [2] }, mode := fun _ => .borrow }
noncomputable def O_laws_FnExactImageSum : Oracle := Oracle.of [(5, c_spec_ImageSum), (6, c_laws_toIntS), (7, c_impl_ImageSum), (8, c_laws_eqIntS)]
noncomputable def L_laws_FnExactImageSum : Loops := Loops.of []
theorem lf_laws_FnExactImageSum : LoopsFn Try.prog C_laws_FnExactImageSum O_laws_FnExactImageSum 3 L_laws_FnExactImageSum := LoopsFn.nil' (by kernel_rfl)
def out_laws_FnExactImageSum (r : Bool) : AV × Store := out1 (.one (.dat .bool)) [] (r, ())
theorem w_laws_FnExactImageSum (x : FAr [.one (.dat (.sl I))] []) : evBodyK Try.prog C_laws_FnExactImageSum O_laws_FnExactImageSum L_laws_FnExactImageSum 3 (encAr [.one (.dat (.sl I))] [] x).1 (encAr [.one (.dat (.sl I))] [] x).2 (fun v s => some (v, s)) =
    laws_FnExactImageSumK x.1 (fun r => some (out_laws_FnExactImageSum r)) := by kernel_rfl
theorem sem_laws_FnExactImageSum : ∀ x y, (fun x => laws_FnExactImageSum x.1) x = some y → SemCall Try.prog 3 (encAr [.one (.dat (.sl I))] [] x).1 (encAr [.one (.dat (.sl I))] [] x).2 (out_laws_FnExactImageSum y).1 (out_laws_FnExactImageSum y).2 :=
  sem_of folP okP tabP (Oracle.of_ok (Oracle.cons_ok ok_spec_ImageSum (Oracle.cons_ok ok_laws_toIntS (Oracle.cons_ok ok_impl_ImageSum (Oracle.cons_ok ok_laws_eqIntS Oracle.nil_ok))))) lf_laws_FnExactImageSum fun x => (w_laws_FnExactImageSum x).trans (laws_FnExactImageSum_eq x.1 _)
noncomputable def c_laws_FnExactImageSum : Con := Con.shape [.one (.dat (.sl I))] [] (fun x => laws_FnExactImageSum x.1) out_laws_FnExactImageSum
theorem ok_laws_FnExactImageSum : ConOk Try.prog 3 c_laws_FnExactImageSum := Con.shape_ok sem_laws_FnExactImageSum

/-! 11 -/
def C_spec_l20Open : Cfg := { T := tab, hint := fun _ => { mu := [10], keepR := [0, 2, 5], res := [2] }, mode := fun _ => .borrow }
noncomputable def O_spec_l20Open : Oracle := Oracle.of []
noncomputable def L_spec_l20Open : Loops := Loops.of []
theorem lf_spec_l20Open : LoopsFn Try.prog C_spec_l20Open O_spec_l20Open 11 L_spec_l20Open := LoopsFn.nil' (by kernel_rfl)
def out_spec_l20Open (r : Dl20Rd) : AV × Store := out1 (.one (.ptr 0 0 0)) [.one tl20Rd] (r, ())
theorem w_spec_l20Open (x : FAr [.one (.dat (.sl (.int .u8)))] []) : evBodyK Try.prog C_spec_l20Open O_spec_l20Open L_spec_l20Open 11 (encAr [.one (.dat (.sl (.int .u8)))] [] x).1 (encAr [.one (.dat (.sl (.int .u8)))] [] x).2 (fun v s => some (v, s)) =
    spec_l20OpenK x.1 (fun r => some (out_spec_l20Open r)) := by kernel_rfl
theorem sem_spec_l20Open : ∀ x y, (fun x => spec_l20Open x.1) x = some y → SemCall Try.prog 11 (encAr [.one (.dat (.sl (.int .u8)))] [] x).1 (encAr [.one (.dat (.sl (.int .u8)))] [] x).2 (out_spec_l20Open y).1 (out_spec_l20Open y).2 :=
  sem_of folP okP tabP (Oracle.of_ok Oracle.nil_ok) lf_spec_l20Open fun x => (w_spec_l20Open x).trans (spec_l20Open_eq x.1 _)
noncomputable def c_spec_l20Open : Con := Con.shape [.one (.dat (.sl (.int .u8)))] [] (fun x => spec_l20Open x.1) out_spec_l20Open
theorem ok_spec_l20Open : ConOk Try.prog 11 c_spec_l20Open := Con.shape_ok sem_spec_l20Open

/-! 12 -/
def C_spec_l20Rd_pick : Cfg := { T := tab, hint := fun _ => { keepR := [0, 1, 4, 5, 6, 24, 36], res := [4], base := 1, order := [(7, [(0, .read), (1, .read), (2, .read), (3, .read), (4, .read), (5, .read), (6, .read), (7, .read), (8, .read), (9, .read), (10, .read), (11, .read), (12, .read), (13, .read), (14, .read), (15, .read), (16, .read), (17, .read), (18, .read), (19, .read), (20, .read), (21, .read), (22, .read), (23, .read), (24, .read), (25, .read), (26, .read), (27, .read), (28, .read), (29, .read), (30, .read), (31, .read), (32, .read), (33, .read), (34, .read), (35, .read), (36, .read), (37, .forced), (38, .forced), (39, .forced), (40, .forced), (41, .forced), (42, .forced), (43, .forced), (44, .forced), (45, .forced)])] }, mode := fun _ => .borrow }
noncomputable def O_spec_l20Rd_pick : Oracle := Oracle.of []
noncomputable def L_spec_l20Rd_pick : Loops := Loops.of []
theorem lf_spec_l20Rd_pick : LoopsFn Try.prog C_spec_l20Rd_pick O_spec_l20Rd_pick 12 L_spec_l20Rd_pick := LoopsFn.nil' (by kernel_rfl)
def out_spec_l20Rd_pick (r : Int × Dl20Rd) : AV × Store := out1 (.one (.dat I)) [.one tl20Rd] (r.1, r.2, ())
theorem w_spec_l20Rd_pick (x : FAr [.one (.ptr 0 0 0), .one (.dat I)] [.one tl20Rd]) : evBodyK Try.prog C_spec_l20Rd_pick O_spec_l20Rd_pick L_spec_l20Rd_pick 12 (encAr [.one (.ptr 0 0 0), .one (.dat I)] [.one tl20Rd] x).1 (encAr [.one (.ptr 0 0 0), .one (.dat I)] [.one tl20Rd] x).2 (fun v s => some (v, s)) =
    spec_l20Rd_pickK x.1 x.2.1 (fun r => some (out_spec_l20Rd_pick r)) := by kernel_rfl
theorem sem_spec_l20Rd_pick : ∀ x y, (fun x => spec_l20Rd_pick x.1 x.2.1) x = some y → SemCall Try.prog 12 (encAr [.one (.ptr 0 0 0), .one (.dat I)] [.one tl20Rd] x).1 (encAr [.one (.ptr 0 0 0), .one (.dat I)] [.one tl20Rd] x).2 (out_spec_l20Rd_pick y).1 (out_spec_l20Rd_pick y).2 :=
  sem_of folP okP tabP (Oracle.of_ok Oracle.nil_ok) lf_spec_l20Rd_pick fun x => (w_spec_l20Rd_pick x).trans (spec_l20Rd_pick_eq x.1 x.2.1 _)
noncomputable def c_spec_l20Rd_pick : Con := Con.shape [.one (.ptr 0 0 0), .one (.dat I)] [.one tl20Rd] (fun x => spec_l20Rd_pick x.1 x.2.1) out_spec_l20Rd_pick
theorem ok_spec_l20Rd_pick : ConOk Try.prog 12 c_spec_l20Rd_pick := Con.shape_ok sem_spec_l20Rd_pick

/-! 9 -/
def C_spec_DrawImageSum : Cfg := { T := tab, hint := fun _ => { mu := [7, 8, 27], keepR := [0, 2, 3, 4, 5, 12], res := [2], keepL := [(0, [3, 4, 5])], keepX := [(0, [4]), (1, [3, 4, 5])] }, mode := modeOf [(12, .sub)] }
noncomputable def O_spec_DrawImageSum : Oracle := Oracle.of [(11, c_spec_l20Open), (12, c_spec_l20Rd_pick)]
def sh_spec_DrawImageSum_l0 : List (Nat × S2) := [(3, .one (.ptr 0 0 0)), (4, .one (.all 1)), (5, .one (.dat I))]
def bs_spec_DrawImageSum_l0 : List SB := [.one tl20Rd, .data I]
noncomputable def lc_spec_DrawImageSum_l0 : LCon := LCon.shape1 sh_spec_DrawImageSum_l0 bs_spec_DrawImageSum_l0 spec_DrawImageSum_l0 (fun a => (.exit 0, encSt [(4, .one (.all 0))] [.data I] a))
noncomputable def L_spec_DrawImageSum : Loops := Loops.of [(0, lc_spec_DrawImageSum_l0)]
theorem r_spec_DrawImageSum_l0 (x : FSt sh_spec_DrawImageSum_l0 bs_spec_DrawImageSum_l0) : roundK C_spec_DrawImageSum.T (C_spec_DrawImageSum.hint 9) C_spec_DrawImageSum.mode O_spec_DrawImageSum L_spec_DrawImageSum 0 (lp Try.prog 9 0) (encSt sh_spec_DrawImageSum_l0 bs_spec_DrawImageSum_l0 x) (fun e s => some (e, s)) =
    spec_DrawImageSum_l0K x.1 x.2.1 x.2.2.1 (fun y => some (Ex.normal, encSt sh_spec_DrawImageSum_l0 bs_spec_DrawImageSum_l0 y)) (fun a => some (Ex.exit 0, encSt [(4, .one (.all 0))] [.data I] a)) := by kernel_rfl
theorem lo_spec_DrawImageSum_l0 : LConOk C_spec_DrawImageSum.T (C_spec_DrawImageSum.hint 9) C_spec_DrawImageSum.mode O_spec_DrawImageSum L_spec_DrawImageSum 0 (lp Try.prog 9 0) lc_spec_DrawImageSum_l0 :=
  LCon.shape1_ok (fun a => by simp) fun x => (r_spec_DrawImageSum_l0 x).trans (spec_DrawImageSum_l0_eq x.1 x.2.1 x.2.2.1 _ _)
theorem lf_spec_DrawImageSum : LoopsFn Try.prog C_spec_DrawImageSum O_spec_DrawImageSum 9 L_spec_DrawImageSum := LoopsFn.all (by kernel_rfl) (by decide) ⟨lo_spec_DrawImageSum_l0, trivial⟩
def out_spec_DrawImageSum (r : (List Int)) : AV × Store := out1 (.one (.all 0)) [.data I] (r, ())
theorem w_spec_DrawImageSum (x : FAr [.one (.dat (.sl (.int .u8)))] []) : evBodyK Try.prog C_spec_DrawImageSum O_spec_DrawImageSum L_spec_DrawImageSum 9 (encAr [.one (.dat (.sl (.int .u8)))] [] x).1 (encAr [.one (.dat (.sl (.int .u8)))] [] x).2 (fun v s => some (v, s)) =
    spec_DrawImageSumK x.1 (fun r => some (out_spec_DrawImageSum r)) := by kernel_rfl
theorem sem_spec_DrawImageSum : ∀ x y, (fun x => spec_DrawImageSum x.1) x = some y → SemCall Try.prog 9 (encAr [.one (.dat (.sl (.int .u8)))] [] x).1 (encAr [.one (.dat (.sl (.int .u8)))] [] x).2 (out_spec_DrawImageSum y).1 (out_spec_DrawImageSum y).2 :=
  sem_of folP okP tabP (Oracle.of_ok (Oracle.cons_ok ok_spec_l20Open (Oracle.cons_ok ok_spec_l20Rd_pick Oracle.nil_ok))) lf_spec_DrawImageSum fun x => (w_spec_DrawImageSum x).trans (spec_DrawImageSum_eq x.1 _)
noncomputable def c_spec_DrawImageSum : Con := Con.shape [.one (.dat (.sl (.int .u8)))] [] (fun x => spec_DrawImageSum x.1) out_spec_DrawImageSum
theorem ok_spec_DrawImageSum : ConOk Try.prog 9 c_spec_DrawImageSum := Con.shape_ok sem_spec_DrawImageSum

/-! 10 -/
def out_laws_alive (r : Bool) : AV × Store := out1 (.one (.dat .bool)) [] (r, ())
theorem sem_laws_alive : ∀ x y, (fun x => laws_alive) x = some y → SemCall Try.prog 10 (encAr [] [] x).1 (encAr [] [] x).2 (out_laws_alive y).1 (out_laws_alive y).2 := fun x y h => by
  have e : y = true := (Option.some.inj h).symm
  subst e
  exact sem_of_below ⟨_, _, Try.func10, rfl, by kernel_rfl⟩ Try.aliveCalls
noncomputable def c_laws_alive : Con := Con.shape [] [] (fun x => laws_alive) out_laws_alive
theorem ok_laws_alive : ConOk Try.prog 10 c_laws_alive := Con.shape_ok sem_laws_alive

/-! 4 -/
def C_laws_FnImageSum : Cfg := { T := tab, hint := fun _ => { mu := [26, 48], keepR := [0, 2, 3, 4, 5, 6, 9, 17, 21, 38], res := [2], keepL := [(0, [3, 4, 5])], keepX := [(0, [3, 4]), (1, [3, 4, 5])] }, mode := fun _ => .borrow }
noncomputable def O_laws_FnImageSum : Oracle := Oracle.of [(5, c_spec_ImageSum), (7, c_impl_ImageSum), (9, c_spec_DrawImageSum), (10, c_laws_alive)]
def sh_laws_FnImageSum_l0 : List (Nat × S2) := [(3, .one (.dat (.sl I))), (4, .one (.dat I)), (5, .one (.dat I))]
def bs_laws_FnImageSum_l0 : List SB := []
noncomputable def lc_laws_FnImageSum_l0 : LCon := LCon.shape sh_laws_FnImageSum_l0 bs_laws_FnImageSum_l0 laws_FnImageSum_l0 (fun a => (.exit 0, encSt [(3, .one (.dat (.sl I))), (4, .one (.dat I))] [] a)) (fun b => encSt [(2, .one (.dat .bool))] [] b)
noncomputable def L_laws_FnImageSum : Loops := Loops.of [(0, lc_laws_FnImageSum_l0)]
theorem r_laws_FnImageSum_l0 (x : FSt sh_laws_FnImageSum_l0 bs_laws_FnImageSum_l0) : roundK C_laws_FnImageSum.T (C_laws_FnImageSum.hint 4) C_laws_FnImageSum.mode O_laws_FnImageSum L_laws_FnImageSum 0 (lp Try.prog 4 0) (encSt sh_laws_FnImageSum_l0 bs_laws_FnImageSum_l0 x) (fun e s => some (e, s)) =
    laws_FnImageSum_l0K x.1 x.2.1 x.2.2.1 (fun y => some (Ex.normal, encSt sh_laws_FnImageSum_l0 bs_laws_FnImageSum_l0 y)) (fun a => some (Ex.exit 0, encSt [(3, .one (.dat (.sl I))), (4, .one (.dat I))] [] a)) (fun b => some (Ex.ret, encSt [(2, .one (.dat .bool))] [] b)) := by kernel_rfl
theorem lo_laws_FnImageSum_l0 : LConOk C_laws_FnImageSum.T (C_laws_FnImageSum.hint 4) C_laws_FnImageSum.mode O_laws_FnImageSum L_laws_FnImageSum 0 (lp Try.prog 4 0) lc_laws_FnImageSum_l0 :=
  LCon.shape_ok (fun a => by simp) fun x => (r_laws_FnImageSum_l0 x).trans (laws_FnImageSum_l0_eq x.1 x.2.1 x.2.2.1 _ _ _)
theorem lf_laws_FnImageSum : LoopsFn Try.prog C_laws_FnImageSum O_laws_FnImageSum 4 L_laws_FnImageSum := LoopsFn.all (by kernel_rfl) (by decide) ⟨lo_laws_FnImageSum_l0, trivial⟩
def out_laws_FnImageSum (r : Bool) : AV × Store := out1 (.one (.dat .bool)) [] (r, ())
theorem w_laws_FnImageSum (x : FAr [.one (.dat (.sl (.int .u8)))] []) : evBodyK Try.prog C_laws_FnImageSum O_laws_FnImageSum L_laws_FnImageSum 4 (encAr [.one (.dat (.sl (.int .u8)))] [] x).1 (encAr [.one (.dat (.sl (.int .u8)))] [] x).2 (fun v s => some (v, s)) =
    laws_FnImageSumK x.1 (fun r => some (out_laws_FnImageSum r)) := by kernel_rfl
theorem sem_laws_FnImageSum : ∀ x y, (fun x => laws_FnImageSum x.1) x = some y → SemCall Try.prog 4 (encAr [.one (.dat (.sl (.int .u8)))] [] x).1 (encAr [.one (.dat (.sl (.int .u8)))] [] x).2 (out_laws_FnImageSum y).1 (out_laws_FnImageSum y).2 :=
  sem_of folP okP tabP (Oracle.of_ok (Oracle.cons_ok ok_spec_ImageSum (Oracle.cons_ok ok_impl_ImageSum (Oracle.cons_ok ok_spec_DrawImageSum (Oracle.cons_ok ok_laws_alive Oracle.nil_ok))))) lf_laws_FnImageSum fun x => (w_laws_FnImageSum x).trans (laws_FnImageSum_eq x.1 _)
noncomputable def c_laws_FnImageSum : Con := Con.shape [.one (.dat (.sl (.int .u8)))] [] (fun x => laws_FnImageSum x.1) out_laws_FnImageSum
theorem ok_laws_FnImageSum : ConOk Try.prog 4 c_laws_FnImageSum := Con.shape_ok sem_laws_FnImageSum

end Go.Ev
