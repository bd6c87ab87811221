/-
  The walks: the program computes what the functions of plain data compute, wherever these come to a result; printed by a program of the prover.
-/
import Derived.Test.YtlogfpbcogihkaaWalkA
namespace Go.Ev
open Go.Proofs
set_option linter.unusedVariables false
set_option linter.unusedSimpArgs false
set_option maxRecDepth 100000
/-! 131 -/
def C_impl_MovePlace_c1 : Cfg := { T := tab, hint := fun _ => { keepR := [0, 1, 2, 3], res := [3] }, mode := fun _ => .borrow }
noncomputable def O_impl_MovePlace_c1 : Oracle := Oracle.of []
noncomputable def L_impl_MovePlace_c1 : Loops := Loops.of []
theorem lf_impl_MovePlace_c1 : LoopsFn Try.prog C_impl_MovePlace_c1 O_impl_MovePlace_c1 131 L_impl_MovePlace_c1 := LoopsFn.nil' (by kernel_rfl)
def out_impl_MovePlace_c1 (r : Bool) : AV × Store := out1 (.one (.dat .bool)) [] (r, ())
theorem w_impl_MovePlace_c1 (x : FAr [.one (.cdat (.sl I) 0), .one (.cdat I 0), .one (.cdat I 0)] []) : evBodyK Try.prog C_impl_MovePlace_c1 O_impl_MovePlace_c1 L_impl_MovePlace_c1 131 (encAr [.one (.cdat (.sl I) 0), .one (.cdat I 0), .one (.cdat I 0)] [] x).1 (encAr [.one (.cdat (.sl I) 0), .one (.cdat I 0), .one (.cdat I 0)] [] x).2 (fun v s => some (v, s)) =
    impl_MovePlace_c1K x.1 x.2.1 x.2.2.1 (fun r => some (out_impl_MovePlace_c1 r)) := by kernel_rfl
theorem sem_impl_MovePlace_c1 : ∀ x y, (fun x => impl_MovePlace_c1 x.1 x.2.1 x.2.2.1) x = some y → SemCall Try.prog 131 (encAr [.one (.cdat (.sl I) 0), .one (.cdat I 0), .one (.cdat I 0)] [] x).1 (encAr [.one (.cdat (.sl I) 0), .one (.cdat I 0), .one (.cdat I 0)] [] x).2 (out_impl_MovePlace_c1 y).1 (out_impl_MovePlace_c1 y).2 :=
  sem_of folP okP tabP (Oracle.of_ok Oracle.nil_ok) lf_impl_MovePlace_c1 fun x => (w_impl_MovePlace_c1 x).trans (impl_MovePlace_c1_eq x.1 x.2.1 x.2.2.1 _)
noncomputable def c_impl_MovePlace_c1 : Con := Con.shape [.one (.cdat (.sl I) 0), .one (.cdat I 0), .one (.cdat I 0)] [] (fun x => impl_MovePlace_c1 x.1 x.2.1 x.2.2.1) out_impl_MovePlace_c1
theorem ok_impl_MovePlace_c1 : ConOk Try.prog 131 c_impl_MovePlace_c1 := Con.shape_ok sem_impl_MovePlace_c1

/-! 130 -/
def C_impl_exchange : Cfg := { T := tab, hint := fun _ => { mu := [8, 15], keepR := [0, 1, 2, 3, 8, 9, 10, 13, 34], res := [8, 9], order := [(6, [(0, .read), (1, .read), (4, .read), (5, .read), (6, .read), (7, .read), (8, .read), (9, .read), (10, .read), (11, .read), (12, .read), (2, .pure), (3, .pure), (13, .forced), (14, .forced), (15, .forced)])] }, mode := fun _ => .borrow }
noncomputable def O_impl_exchange : Oracle := Oracle.of [(72, c_impl_PlacesValid), (73, c_impl_in), (106, c_impl_clone_int), (131, c_impl_MovePlace_c1)]
noncomputable def L_impl_exchange : Loops := Loops.of []
theorem lf_impl_exchange : LoopsFn Try.prog C_impl_exchange O_impl_exchange 130 L_impl_exchange := LoopsFn.nil' (by kernel_rfl)
def out_impl_exchange (r : Bool × (List Int)) : AV × Store := outT [.one (.all 0), .one (.dat .bool)] [.data I] (r.1, r.2, ())
theorem w_impl_exchange (x : FAr [.one (.dat (.sl I)), .one (.dat I), .one (.dat I), .fn 131 [.cdat (.sl I) 0, .cdat I 0, .cdat I 0]] []) : evBodyK Try.prog C_impl_exchange O_impl_exchange L_impl_exchange 130 (encAr [.one (.dat (.sl I)), .one (.dat I), .one (.dat I), .fn 131 [.cdat (.sl I) 0, .cdat I 0, .cdat I 0]] [] x).1 (encAr [.one (.dat (.sl I)), .one (.dat I), .one (.dat I), .fn 131 [.cdat (.sl I) 0, .cdat I 0, .cdat I 0]] [] x).2 (fun v s => some (v, s)) =
    impl_exchangeK x.1 x.2.1 x.2.2.1 x.2.2.2.1 x.2.2.2.2.1 x.2.2.2.2.2.1 (fun r => some (out_impl_exchange r)) := by kernel_rfl
theorem sem_impl_exchange : ∀ x y, (fun x => impl_exchange x.1 x.2.1 x.2.2.1 x.2.2.2.1 x.2.2.2.2.1 x.2.2.2.2.2.1) x = some y → SemCall Try.prog 130 (encAr [.one (.dat (.sl I)), .one (.dat I), .one (.dat I), .fn 131 [.cdat (.sl I) 0, .cdat I 0, .cdat I 0]] [] x).1 (encAr [.one (.dat (.sl I)), .one (.dat I), .one (.dat I), .fn 131 [.cdat (.sl I) 0, .cdat I 0, .cdat I 0]] [] x).2 (out_impl_exchange y).1 (out_impl_exchange y).2 :=
  sem_of folP okP tabP (Oracle.of_ok (Oracle.cons_ok ok_impl_PlacesValid (Oracle.cons_ok ok_impl_in (Oracle.cons_ok ok_impl_clone_int (Oracle.cons_ok ok_impl_MovePlace_c1 Oracle.nil_ok))))) lf_impl_exchange fun x => (w_impl_exchange x).trans (impl_exchange_eq x.1 x.2.1 x.2.2.1 x.2.2.2.1 x.2.2.2.2.1 x.2.2.2.2.2.1 _)
noncomputable def c_impl_exchange : Con := Con.shape [.one (.dat (.sl I)), .one (.dat I), .one (.dat I), .fn 131 [.cdat (.sl I) 0, .cdat I 0, .cdat I 0]] [] (fun x => impl_exchange x.1 x.2.1 x.2.2.1 x.2.2.2.1 x.2.2.2.2.1 x.2.2.2.2.2.1) out_impl_exchange
theorem ok_impl_exchange : ConOk Try.prog 130 c_impl_exchange := Con.shape_ok sem_impl_exchange

/-! 101 -/
def C_impl_MovePlace : Cfg := { T := tab, hint := fun _ => { mu := [12], keepR := [3, 4, 5, 6, 7], res := [6, 7] }, mode := fun _ => .borrow }
noncomputable def O_impl_MovePlace : Oracle := Oracle.of [(130, c_impl_exchange)]
noncomputable def L_impl_MovePlace : Loops := Loops.of []
theorem lf_impl_MovePlace : LoopsFn Try.prog C_impl_MovePlace O_impl_MovePlace 101 L_impl_MovePlace := LoopsFn.nil' (by kernel_rfl)
def out_impl_MovePlace (r : Bool × (List Int)) : AV × Store := outT [.one (.all 0), .one (.dat .bool)] [.data I] (r.1, r.2, ())
theorem w_impl_MovePlace (x : FAr [.one (.dat (.sl I)), .one (.dat I), .one (.dat I)] []) : evBodyK Try.prog C_impl_MovePlace O_impl_MovePlace L_impl_MovePlace 101 (encAr [.one (.dat (.sl I)), .one (.dat I), .one (.dat I)] [] x).1 (encAr [.one (.dat (.sl I)), .one (.dat I), .one (.dat I)] [] x).2 (fun v s => some (v, s)) =
    impl_MovePlaceK x.1 x.2.1 x.2.2.1 (fun r => some (out_impl_MovePlace r)) := by kernel_rfl
theorem sem_impl_MovePlace : ∀ x y, (fun x => impl_MovePlace x.1 x.2.1 x.2.2.1) x = some y → SemCall Try.prog 101 (encAr [.one (.dat (.sl I)), .one (.dat I), .one (.dat I)] [] x).1 (encAr [.one (.dat (.sl I)), .one (.dat I), .one (.dat I)] [] x).2 (out_impl_MovePlace y).1 (out_impl_MovePlace y).2 :=
  sem_of folP okP tabP (Oracle.of_ok (Oracle.cons_ok ok_impl_exchange Oracle.nil_ok)) lf_impl_MovePlace fun x => (w_impl_MovePlace x).trans (impl_MovePlace_eq x.1 x.2.1 x.2.2.1 _)
noncomputable def c_impl_MovePlace : Con := Con.shape [.one (.dat (.sl I)), .one (.dat I), .one (.dat I)] [] (fun x => impl_MovePlace x.1 x.2.1 x.2.2.1) out_impl_MovePlace
theorem ok_impl_MovePlace : ConOk Try.prog 101 c_impl_MovePlace := Con.shape_ok sem_impl_MovePlace

/-! 45 -/
def C_impl_SysMove : Cfg := { T := tab, hint := fun _ => { mu := [6, 8, 16, 22], keepR := [1, 2, 3, 6, 7, 8, 9, 10, 13, 26], res := [6, 7], fillR := true }, mode := fun _ => .borrow }
noncomputable def O_impl_SysMove : Oracle := Oracle.of [(26, c_impl_KernelValid), (56, c_impl_Kernel_copyOf), (101, c_impl_MovePlace)]
noncomputable def L_impl_SysMove : Loops := Loops.of []
theorem lf_impl_SysMove : LoopsFn Try.prog C_impl_SysMove O_impl_SysMove 45 L_impl_SysMove := LoopsFn.nil' (by kernel_rfl)
def out_impl_SysMove (r : Int × Int × Int × Int × Int × (List DEntry) × (List Int)) : AV × Store := outT [.agg [.dat I, .dat I, .dat I, .all 0, .all 1, .dat I], .one (.dat I)] [.data tEntry, .data I] (r.1, r.2.1, r.2.2.1, r.2.2.2.1, r.2.2.2.2.1, r.2.2.2.2.2.1, r.2.2.2.2.2.2, ())
theorem w_impl_SysMove (x : FAr [.one (.dat tKernel), .one (.dat I), .one (.dat I)] []) : evBodyK Try.prog C_impl_SysMove O_impl_SysMove L_impl_SysMove 45 (encAr [.one (.dat tKernel), .one (.dat I), .one (.dat I)] [] x).1 (encAr [.one (.dat tKernel), .one (.dat I), .one (.dat I)] [] x).2 (fun v s => some (v, s)) =
    impl_SysMoveK x.1 x.2.1 x.2.2.1 (fun r => some (out_impl_SysMove r)) := by kernel_rfl
theorem sem_impl_SysMove : ∀ x y, (fun x => impl_SysMove x.1 x.2.1 x.2.2.1) x = some y → SemCall Try.prog 45 (encAr [.one (.dat tKernel), .one (.dat I), .one (.dat I)] [] x).1 (encAr [.one (.dat tKernel), .one (.dat I), .one (.dat I)] [] x).2 (out_impl_SysMove y).1 (out_impl_SysMove y).2 :=
  sem_of folP okP tabP (Oracle.of_ok (Oracle.cons_ok ok_impl_KernelValid (Oracle.cons_ok ok_impl_Kernel_copyOf (Oracle.cons_ok ok_impl_MovePlace Oracle.nil_ok)))) lf_impl_SysMove fun x => (w_impl_SysMove x).trans (impl_SysMove_eq x.1 x.2.1 x.2.2.1 _)
noncomputable def c_impl_SysMove : Con := Con.shape [.one (.dat tKernel), .one (.dat I), .one (.dat I)] [] (fun x => impl_SysMove x.1 x.2.1 x.2.2.1) out_impl_SysMove
theorem ok_impl_SysMove : ConOk Try.prog 45 c_impl_SysMove := Con.shape_ok sem_impl_SysMove

/-! 10 -/
def C_laws_FnExactSysMove : Cfg := { T := tab, hint := fun _ => { mu := [8, 10, 11, 16, 32, 37], keepR := [1, 2, 3, 6, 7, 8, 9, 10, 11, 12, 13, 14, 15, 16, 17, 22, 48, 53, 69, 77, 80, 97, 102, 105], res := [6], order := [(10, [(0, .read), (1, .forced), (2, .forced), (3, .forced), (4, .forced)])] }, mode := modeOf [(35, .sub)] }
noncomputable def O_laws_FnExactSysMove : Oracle := Oracle.of [(34, c_laws_eqKernel), (35, c_laws_markKernel), (36, c_laws_heldKernel), (42, c_laws_szKernel), (43, c_laws_toKernel), (44, c_spec_SysMove), (45, c_impl_SysMove)]
noncomputable def L_laws_FnExactSysMove : Loops := Loops.of []
theorem lf_laws_FnExactSysMove : LoopsFn Try.prog C_laws_FnExactSysMove O_laws_FnExactSysMove 10 L_laws_FnExactSysMove := LoopsFn.nil' (by kernel_rfl)
def out_laws_FnExactSysMove (r : Bool) : AV × Store := out1 (.one (.dat .bool)) [] (r, ())
theorem w_laws_FnExactSysMove (x : FAr [.one (.dat tKernel), .one (.dat I), .one (.dat I)] []) : evBodyK Try.prog C_laws_FnExactSysMove O_laws_FnExactSysMove L_laws_FnExactSysMove 10 (encAr [.one (.dat tKernel), .one (.dat I), .one (.dat I)] [] x).1 (encAr [.one (.dat tKernel), .one (.dat I), .one (.dat I)] [] x).2 (fun v s => some (v, s)) =
    laws_FnExactSysMoveK x.1 x.2.1 x.2.2.1 (fun r => some (out_laws_FnExactSysMove r)) := by kernel_rfl
theorem sem_laws_FnExactSysMove : ∀ x y, (fun x => laws_FnExactSysMove x.1 x.2.1 x.2.2.1) x = some y → SemCall Try.prog 10 (encAr [.one (.dat tKernel), .one (.dat I), .one (.dat I)] [] x).1 (encAr [.one (.dat tKernel), .one (.dat I), .one (.dat I)] [] x).2 (out_laws_FnExactSysMove y).1 (out_laws_FnExactSysMove y).2 :=
  sem_of folP okP tabP (Oracle.of_ok (Oracle.cons_ok ok_laws_eqKernel (Oracle.cons_ok ok_laws_markKernel (Oracle.cons_ok ok_laws_heldKernel (Oracle.cons_ok ok_laws_szKernel (Oracle.cons_ok ok_laws_toKernel (Oracle.cons_ok ok_spec_SysMove (Oracle.cons_ok ok_impl_SysMove Oracle.nil_ok)))))))) lf_laws_FnExactSysMove fun x => (w_laws_FnExactSysMove x).trans (laws_FnExactSysMove_eq x.1 x.2.1 x.2.2.1 _)
noncomputable def c_laws_FnExactSysMove : Con := Con.shape [.one (.dat tKernel), .one (.dat I), .one (.dat I)] [] (fun x => laws_FnExactSysMove x.1 x.2.1 x.2.2.1) out_laws_FnExactSysMove
theorem ok_laws_FnExactSysMove : ConOk Try.prog 10 c_laws_FnExactSysMove := Con.shape_ok sem_laws_FnExactSysMove

/-! 46 -/
def C_spec_DrawKernelValid : Cfg := { T := tab, hint := fun _ => { mu := [2, 4], keepR := [0, 2], res := [2] }, mode := modeOf [(52, .sub)] }
noncomputable def O_spec_DrawKernelValid : Oracle := Oracle.of [(51, c_spec_l20Open), (52, c_spec_l20Kernel)]
noncomputable def L_spec_DrawKernelValid : Loops := Loops.of []
theorem lf_spec_DrawKernelValid : LoopsFn Try.prog C_spec_DrawKernelValid O_spec_DrawKernelValid 46 L_spec_DrawKernelValid := LoopsFn.nil' (by kernel_rfl)
def out_spec_DrawKernelValid (r : Int × Int × Int × Int × (List DEntry) × (List Int)) : AV × Store := out1 (.agg [.dat I, .dat I, .dat I, .all 0, .all 1, .dat I]) [.data tEntry, .data I] (r.1, r.2.1, r.2.2.1, r.2.2.2.1, r.2.2.2.2.1, r.2.2.2.2.2, ())
theorem w_spec_DrawKernelValid (x : FAr [.one (.dat (.sl (.int .u8)))] []) : evBodyK Try.prog C_spec_DrawKernelValid O_spec_DrawKernelValid L_spec_DrawKernelValid 46 (encAr [.one (.dat (.sl (.int .u8)))] [] x).1 (encAr [.one (.dat (.sl (.int .u8)))] [] x).2 (fun v s => some (v, s)) =
    spec_DrawKernelValidK x.1 (fun r => some (out_spec_DrawKernelValid r)) := by kernel_rfl
theorem sem_spec_DrawKernelValid : ∀ x y, (fun x => spec_DrawKernelValid x.1) x = some y → SemCall Try.prog 46 (encAr [.one (.dat (.sl (.int .u8)))] [] x).1 (encAr [.one (.dat (.sl (.int .u8)))] [] x).2 (out_spec_DrawKernelValid y).1 (out_spec_DrawKernelValid y).2 :=
  sem_of folP okP tabP (Oracle.of_ok (Oracle.cons_ok ok_spec_l20Open (Oracle.cons_ok ok_spec_l20Kernel Oracle.nil_ok))) lf_spec_DrawKernelValid fun x => (w_spec_DrawKernelValid x).trans (spec_DrawKernelValid_eq x.1 _)
noncomputable def c_spec_DrawKernelValid : Con := Con.shape [.one (.dat (.sl (.int .u8)))] [] (fun x => spec_DrawKernelValid x.1) out_spec_DrawKernelValid
theorem ok_spec_DrawKernelValid : ConOk Try.prog 46 c_spec_DrawKernelValid := Con.shape_ok sem_spec_DrawKernelValid

/-! 11 -/
def C_laws_FnKernelValid : Cfg := { T := tab, hint := fun _ => { mu := [3, 5, 6, 25], keepR := [0, 2, 3, 4, 5, 6, 9, 17, 19], res := [2] }, mode := fun _ => .borrow }
noncomputable def O_laws_FnKernelValid : Oracle := Oracle.of [(23, c_spec_KernelValid), (24, c_laws_alive), (26, c_impl_KernelValid), (46, c_spec_DrawKernelValid)]
noncomputable def L_laws_FnKernelValid : Loops := Loops.of []
theorem lf_laws_FnKernelValid : LoopsFn Try.prog C_laws_FnKernelValid O_laws_FnKernelValid 11 L_laws_FnKernelValid := LoopsFn.nil' (by kernel_rfl)
def out_laws_FnKernelValid (r : Bool) : AV × Store := out1 (.one (.dat .bool)) [] (r, ())
theorem w_laws_FnKernelValid (x : FAr [.one (.dat (.sl (.int .u8)))] []) : evBodyK Try.prog C_laws_FnKernelValid O_laws_FnKernelValid L_laws_FnKernelValid 11 (encAr [.one (.dat (.sl (.int .u8)))] [] x).1 (encAr [.one (.dat (.sl (.int .u8)))] [] x).2 (fun v s => some (v, s)) =
    laws_FnKernelValidK x.1 (fun r => some (out_laws_FnKernelValid r)) := by kernel_rfl
theorem sem_laws_FnKernelValid : ∀ x y, (fun x => laws_FnKernelValid x.1) x = some y → SemCall Try.prog 11 (encAr [.one (.dat (.sl (.int .u8)))] [] x).1 (encAr [.one (.dat (.sl (.int .u8)))] [] x).2 (out_laws_FnKernelValid y).1 (out_laws_FnKernelValid y).2 :=
  sem_of folP okP tabP (Oracle.of_ok (Oracle.cons_ok ok_spec_KernelValid (Oracle.cons_ok ok_laws_alive (Oracle.cons_ok ok_impl_KernelValid (Oracle.cons_ok ok_spec_DrawKernelValid Oracle.nil_ok))))) lf_laws_FnKernelValid fun x => (w_laws_FnKernelValid x).trans (laws_FnKernelValid_eq x.1 _)
noncomputable def c_laws_FnKernelValid : Con := Con.shape [.one (.dat (.sl (.int .u8)))] [] (fun x => laws_FnKernelValid x.1) out_laws_FnKernelValid
theorem ok_laws_FnKernelValid : ConOk Try.prog 11 c_laws_FnKernelValid := Con.shape_ok sem_laws_FnKernelValid

/-! 12 -/
def C_laws_FnExactSysDelete : Cfg := { T := tab, hint := fun _ => { mu := [6, 8, 9, 14, 29, 33], keepR := [1, 2, 4, 5, 6, 7, 8, 9, 10, 11, 12, 13, 14, 15, 20, 44, 49, 65, 73, 76, 92, 97, 100], res := [4], order := [(10, [(0, .read), (1, .forced), (2, .forced), (3, .forced), (4, .forced)])] }, mode := modeOf [(35, .sub)] }
noncomputable def O_laws_FnExactSysDelete : Oracle := Oracle.of [(34, c_laws_eqKernel), (35, c_laws_markKernel), (36, c_laws_heldKernel), (40, c_impl_SysDelete), (42, c_laws_szKernel), (43, c_laws_toKernel), (47, c_spec_SysDelete)]
noncomputable def L_laws_FnExactSysDelete : Loops := Loops.of []
theorem lf_laws_FnExactSysDelete : LoopsFn Try.prog C_laws_FnExactSysDelete O_laws_FnExactSysDelete 12 L_laws_FnExactSysDelete := LoopsFn.nil' (by kernel_rfl)
def out_laws_FnExactSysDelete (r : Bool) : AV × Store := out1 (.one (.dat .bool)) [] (r, ())
theorem w_laws_FnExactSysDelete (x : FAr [.one (.dat tKernel), .one (.dat I)] []) : evBodyK Try.prog C_laws_FnExactSysDelete O_laws_FnExactSysDelete L_laws_FnExactSysDelete 12 (encAr [.one (.dat tKernel), .one (.dat I)] [] x).1 (encAr [.one (.dat tKernel), .one (.dat I)] [] x).2 (fun v s => some (v, s)) =
    laws_FnExactSysDeleteK x.1 x.2.1 (fun r => some (out_laws_FnExactSysDelete r)) := by kernel_rfl
theorem sem_laws_FnExactSysDelete : ∀ x y, (fun x => laws_FnExactSysDelete x.1 x.2.1) x = some y → SemCall Try.prog 12 (encAr [.one (.dat tKernel), .one (.dat I)] [] x).1 (encAr [.one (.dat tKernel), .one (.dat I)] [] x).2 (out_laws_FnExactSysDelete y).1 (out_laws_FnExactSysDelete y).2 :=
  sem_of folP okP tabP (Oracle.of_ok (Oracle.cons_ok ok_laws_eqKernel (Oracle.cons_ok ok_laws_markKernel (Oracle.cons_ok ok_laws_heldKernel (Oracle.cons_ok ok_impl_SysDelete (Oracle.cons_ok ok_laws_szKernel (Oracle.cons_ok ok_laws_toKernel (Oracle.cons_ok ok_spec_SysDelete Oracle.nil_ok)))))))) lf_laws_FnExactSysDelete fun x => (w_laws_FnExactSysDelete x).trans (laws_FnExactSysDelete_eq x.1 x.2.1 _)
noncomputable def c_laws_FnExactSysDelete : Con := Con.shape [.one (.dat tKernel), .one (.dat I)] [] (fun x => laws_FnExactSysDelete x.1 x.2.1) out_laws_FnExactSysDelete
theorem ok_laws_FnExactSysDelete : ConOk Try.prog 12 c_laws_FnExactSysDelete := Con.shape_ok sem_laws_FnExactSysDelete

/-! 13 -/
def C_laws_FnExactSysMint : Cfg := { T := tab, hint := fun _ => { mu := [12, 14, 15, 20, 38, 45], keepR := [1, 2, 3, 4, 5, 10, 11, 12, 13, 14, 15, 16, 17, 18, 19, 20, 21, 26, 56, 61, 77, 85, 88, 107, 112, 115], res := [10], order := [(10, [(0, .read), (1, .forced), (2, .forced), (3, .forced), (4, .forced)])] }, mode := modeOf [(35, .sub)] }
noncomputable def O_laws_FnExactSysMint : Oracle := Oracle.of [(20, c_impl_SysMint), (21, c_spec_SysMint), (34, c_laws_eqKernel), (35, c_laws_markKernel), (36, c_laws_heldKernel), (42, c_laws_szKernel), (43, c_laws_toKernel)]
noncomputable def L_laws_FnExactSysMint : Loops := Loops.of []
theorem lf_laws_FnExactSysMint : LoopsFn Try.prog C_laws_FnExactSysMint O_laws_FnExactSysMint 13 L_laws_FnExactSysMint := LoopsFn.nil' (by kernel_rfl)
def out_laws_FnExactSysMint (r : Bool) : AV × Store := out1 (.one (.dat .bool)) [] (r, ())
theorem w_laws_FnExactSysMint (x : FAr [.one (.dat tKernel), .one (.dat I), .one (.dat I), .one (.dat I), .one (.dat I)] []) : evBodyK Try.prog C_laws_FnExactSysMint O_laws_FnExactSysMint L_laws_FnExactSysMint 13 (encAr [.one (.dat tKernel), .one (.dat I), .one (.dat I), .one (.dat I), .one (.dat I)] [] x).1 (encAr [.one (.dat tKernel), .one (.dat I), .one (.dat I), .one (.dat I), .one (.dat I)] [] x).2 (fun v s => some (v, s)) =
    laws_FnExactSysMintK x.1 x.2.1 x.2.2.1 x.2.2.2.1 x.2.2.2.2.1 (fun r => some (out_laws_FnExactSysMint r)) := by kernel_rfl
theorem sem_laws_FnExactSysMint : ∀ x y, (fun x => laws_FnExactSysMint x.1 x.2.1 x.2.2.1 x.2.2.2.1 x.2.2.2.2.1) x = some y → SemCall Try.prog 13 (encAr [.one (.dat tKernel), .one (.dat I), .one (.dat I), .one (.dat I), .one (.dat I)] [] x).1 (encAr [.one (.dat tKernel), .one (.dat I), .one (.dat I), .one (.dat I), .one (.dat I)] [] x).2 (out_laws_FnExactSysMint y).1 (out_laws_FnExactSysMint y).2 :=
  sem_of folP okP tabP (Oracle.of_ok (Oracle.cons_ok ok_impl_SysMint (Oracle.cons_ok ok_spec_SysMint (Oracle.cons_ok ok_laws_eqKernel (Oracle.cons_ok ok_laws_markKernel (Oracle.cons_ok ok_laws_heldKernel (Oracle.cons_ok ok_laws_szKernel (Oracle.cons_ok ok_laws_toKernel Oracle.nil_ok)))))))) lf_laws_FnExactSysMint fun x => (w_laws_FnExactSysMint x).trans (laws_FnExactSysMint_eq x.1 x.2.1 x.2.2.1 x.2.2.2.1 x.2.2.2.2.1 _)
noncomputable def c_laws_FnExactSysMint : Con := Con.shape [.one (.dat tKernel), .one (.dat I), .one (.dat I), .one (.dat I), .one (.dat I)] [] (fun x => laws_FnExactSysMint x.1 x.2.1 x.2.2.1 x.2.2.2.1 x.2.2.2.2.1) out_laws_FnExactSysMint
theorem ok_laws_FnExactSysMint : ConOk Try.prog 13 c_laws_FnExactSysMint := Con.shape_ok sem_laws_FnExactSysMint

/-! 14 -/
def C_laws_FnExactSysRevoke : Cfg := { T := tab, hint := fun _ => { mu := [6, 8, 9, 14, 29, 33], keepR := [1, 2, 4, 5, 6, 7, 8, 9, 10, 11, 12, 13, 14, 15, 20, 44, 49, 65, 73, 76, 92, 97, 100], res := [4], order := [(10, [(0, .read), (1, .forced), (2, .forced), (3, .forced), (4, .forced)])] }, mode := modeOf [(35, .sub)] }
noncomputable def O_laws_FnExactSysRevoke : Oracle := Oracle.of [(34, c_laws_eqKernel), (35, c_laws_markKernel), (36, c_laws_heldKernel), (38, c_impl_SysRevoke), (39, c_spec_SysRevoke), (42, c_laws_szKernel), (43, c_laws_toKernel)]
noncomputable def L_laws_FnExactSysRevoke : Loops := Loops.of []
theorem lf_laws_FnExactSysRevoke : LoopsFn Try.prog C_laws_FnExactSysRevoke O_laws_FnExactSysRevoke 14 L_laws_FnExactSysRevoke := LoopsFn.nil' (by kernel_rfl)
def out_laws_FnExactSysRevoke (r : Bool) : AV × Store := out1 (.one (.dat .bool)) [] (r, ())
theorem w_laws_FnExactSysRevoke (x : FAr [.one (.dat tKernel), .one (.dat I)] []) : evBodyK Try.prog C_laws_FnExactSysRevoke O_laws_FnExactSysRevoke L_laws_FnExactSysRevoke 14 (encAr [.one (.dat tKernel), .one (.dat I)] [] x).1 (encAr [.one (.dat tKernel), .one (.dat I)] [] x).2 (fun v s => some (v, s)) =
    laws_FnExactSysRevokeK x.1 x.2.1 (fun r => some (out_laws_FnExactSysRevoke r)) := by kernel_rfl
theorem sem_laws_FnExactSysRevoke : ∀ x y, (fun x => laws_FnExactSysRevoke x.1 x.2.1) x = some y → SemCall Try.prog 14 (encAr [.one (.dat tKernel), .one (.dat I)] [] x).1 (encAr [.one (.dat tKernel), .one (.dat I)] [] x).2 (out_laws_FnExactSysRevoke y).1 (out_laws_FnExactSysRevoke y).2 :=
  sem_of folP okP tabP (Oracle.of_ok (Oracle.cons_ok ok_laws_eqKernel (Oracle.cons_ok ok_laws_markKernel (Oracle.cons_ok ok_laws_heldKernel (Oracle.cons_ok ok_impl_SysRevoke (Oracle.cons_ok ok_spec_SysRevoke (Oracle.cons_ok ok_laws_szKernel (Oracle.cons_ok ok_laws_toKernel Oracle.nil_ok)))))))) lf_laws_FnExactSysRevoke fun x => (w_laws_FnExactSysRevoke x).trans (laws_FnExactSysRevoke_eq x.1 x.2.1 _)
noncomputable def c_laws_FnExactSysRevoke : Con := Con.shape [.one (.dat tKernel), .one (.dat I)] [] (fun x => laws_FnExactSysRevoke x.1 x.2.1) out_laws_FnExactSysRevoke
theorem ok_laws_FnExactSysRevoke : ConOk Try.prog 14 c_laws_FnExactSysRevoke := Con.shape_ok sem_laws_FnExactSysRevoke

/-! 15 -/
def C_laws_FnExactSysRetype : Cfg := { T := tab, hint := fun _ => { mu := [8, 10, 11, 16, 32, 37], keepR := [1, 2, 3, 6, 7, 8, 9, 10, 11, 12, 13, 14, 15, 16, 17, 22, 48, 53, 69, 77, 80, 97, 102, 105], res := [6], order := [(10, [(0, .read), (1, .forced), (2, .forced), (3, .forced), (4, .forced)])] }, mode := modeOf [(35, .sub)] }
noncomputable def O_laws_FnExactSysRetype : Oracle := Oracle.of [(29, c_impl_SysRetype), (30, c_spec_SysRetype), (34, c_laws_eqKernel), (35, c_laws_markKernel), (36, c_laws_heldKernel), (42, c_laws_szKernel), (43, c_laws_toKernel)]
noncomputable def L_laws_FnExactSysRetype : Loops := Loops.of []
theorem lf_laws_FnExactSysRetype : LoopsFn Try.prog C_laws_FnExactSysRetype O_laws_FnExactSysRetype 15 L_laws_FnExactSysRetype := LoopsFn.nil' (by kernel_rfl)
def out_laws_FnExactSysRetype (r : Bool) : AV × Store := out1 (.one (.dat .bool)) [] (r, ())
theorem w_laws_FnExactSysRetype (x : FAr [.one (.dat tKernel), .one (.dat I), .one (.dat I)] []) : evBodyK Try.prog C_laws_FnExactSysRetype O_laws_FnExactSysRetype L_laws_FnExactSysRetype 15 (encAr [.one (.dat tKernel), .one (.dat I), .one (.dat I)] [] x).1 (encAr [.one (.dat tKernel), .one (.dat I), .one (.dat I)] [] x).2 (fun v s => some (v, s)) =
    laws_FnExactSysRetypeK x.1 x.2.1 x.2.2.1 (fun r => some (out_laws_FnExactSysRetype r)) := by kernel_rfl
theorem sem_laws_FnExactSysRetype : ∀ x y, (fun x => laws_FnExactSysRetype x.1 x.2.1 x.2.2.1) x = some y → SemCall Try.prog 15 (encAr [.one (.dat tKernel), .one (.dat I), .one (.dat I)] [] x).1 (encAr [.one (.dat tKernel), .one (.dat I), .one (.dat I)] [] x).2 (out_laws_FnExactSysRetype y).1 (out_laws_FnExactSysRetype y).2 :=
  sem_of folP okP tabP (Oracle.of_ok (Oracle.cons_ok ok_impl_SysRetype (Oracle.cons_ok ok_spec_SysRetype (Oracle.cons_ok ok_laws_eqKernel (Oracle.cons_ok ok_laws_markKernel (Oracle.cons_ok ok_laws_heldKernel (Oracle.cons_ok ok_laws_szKernel (Oracle.cons_ok ok_laws_toKernel Oracle.nil_ok)))))))) lf_laws_FnExactSysRetype fun x => (w_laws_FnExactSysRetype x).trans (laws_FnExactSysRetype_eq x.1 x.2.1 x.2.2.1 _)
noncomputable def c_laws_FnExactSysRetype : Con := Con.shape [.one (.dat tKernel), .one (.dat I), .one (.dat I)] [] (fun x => laws_FnExactSysRetype x.1 x.2.1 x.2.2.1) out_laws_FnExactSysRetype
theorem ok_laws_FnExactSysRetype : ConOk Try.prog 15 c_laws_FnExactSysRetype := Con.shape_ok sem_laws_FnExactSysRetype

/-! 16 -/
def C_laws_FnSysDelete : Cfg := { T := tab, hint := fun _ => { mu := [3, 5, 7], keepR := [0, 2, 3, 4, 5, 6, 7, 8, 9, 12, 38, 40, 56, 74], res := [2], order := [(13, [(0, .read), (1, .forced), (2, .forced), (3, .forced), (4, .read), (5, .read), (6, .read), (7, .read), (8, .read), (9, .read), (10, .read), (11, .forced), (12, .forced), (13, .forced), (14, .forced), (15, .forced)]), (15, [(0, .forced), (1, .forced), (2, .forced), (3, .read), (4, .read), (5, .forced), (6, .forced), (7, .forced), (8, .forced), (9, .forced), (10, .forced), (11, .read), (12, .read), (13, .read), (14, .read), (15, .forced), (16, .forced), (17, .forced), (18, .forced), (19, .forced), (20, .forced), (21, .forced), (22, .forced)])], keepL := [(0, [3, 4, 5, 9])], keepX := [(0, [3, 4, 5]), (1, [3, 4, 5, 9])] }, mode := fun _ => .borrow }
noncomputable def O_laws_FnSysDelete : Oracle := Oracle.of [(22, c_laws_sameKernel), (23, c_spec_KernelValid), (24, c_laws_alive), (26, c_impl_KernelValid), (40, c_impl_SysDelete), (47, c_spec_SysDelete), (48, c_spec_DrawSysDelete)]
def sh_laws_FnSysDelete_l0 : List (Nat × S2) := [(3, .one (.ptr 0 0 0)), (4, .one (.dat I)), (5, .one (.ptr 1 0 0)), (9, .one (.dat I))]
def bs_laws_FnSysDelete_l0 : List SB := [.var [.dat I, .dat I, .dat I, .dat (.sl tEntry), .dat (.sl I), .dat I], .var [.dat I, .dat I, .dat I, .dat (.sl tEntry), .dat (.sl I), .dat I]]
noncomputable def lc_laws_FnSysDelete_l0 : LCon := LCon.shape sh_laws_FnSysDelete_l0 bs_laws_FnSysDelete_l0 laws_FnSysDelete_l0 (fun a => (.exit 0, encSt [(3, .one (.ptr 0 0 0)), (4, .one (.dat I)), (5, .one (.ptr 1 0 0))] [.var [.dat I, .dat I, .dat I, .dat (.sl tEntry), .dat (.sl I), .dat I], .var [.dat I, .dat I, .dat I, .dat (.sl tEntry), .dat (.sl I), .dat I]] a)) (fun b => encSt [(2, .one (.dat .bool))] [] b)
noncomputable def L_laws_FnSysDelete : Loops := Loops.of [(0, lc_laws_FnSysDelete_l0)]
theorem r_laws_FnSysDelete_l0 (x : FSt sh_laws_FnSysDelete_l0 bs_laws_FnSysDelete_l0) : roundK C_laws_FnSysDelete.T (C_laws_FnSysDelete.hint 16) C_laws_FnSysDelete.mode O_laws_FnSysDelete L_laws_FnSysDelete 0 (lp Try.prog 16 0) (encSt sh_laws_FnSysDelete_l0 bs_laws_FnSysDelete_l0 x) (fun e s => some (e, s)) =
    laws_FnSysDelete_l0K x.1 x.2.1 x.2.2.1 x.2.2.2.1 x.2.2.2.2.1 x.2.2.2.2.2.1 x.2.2.2.2.2.2.1 x.2.2.2.2.2.2.2.1 x.2.2.2.2.2.2.2.2.1 x.2.2.2.2.2.2.2.2.2.1 x.2.2.2.2.2.2.2.2.2.2.1 x.2.2.2.2.2.2.2.2.2.2.2.1 x.2.2.2.2.2.2.2.2.2.2.2.2.1 x.2.2.2.2.2.2.2.2.2.2.2.2.2.1 (fun y => some (Ex.normal, encSt sh_laws_FnSysDelete_l0 bs_laws_FnSysDelete_l0 y)) (fun a => some (Ex.exit 0, encSt [(3, .one (.ptr 0 0 0)), (4, .one (.dat I)), (5, .one (.ptr 1 0 0))] [.var [.dat I, .dat I, .dat I, .dat (.sl tEntry), .dat (.sl I), .dat I], .var [.dat I, .dat I, .dat I, .dat (.sl tEntry), .dat (.sl I), .dat I]] a)) (fun b => some (Ex.ret, encSt [(2, .one (.dat .bool))] [] b)) := by kernel_rfl
theorem lo_laws_FnSysDelete_l0 : LConOk C_laws_FnSysDelete.T (C_laws_FnSysDelete.hint 16) C_laws_FnSysDelete.mode O_laws_FnSysDelete L_laws_FnSysDelete 0 (lp Try.prog 16 0) lc_laws_FnSysDelete_l0 :=
  LCon.shape_ok (fun a => by simp) fun x => (r_laws_FnSysDelete_l0 x).trans (laws_FnSysDelete_l0_eq x.1 x.2.1 x.2.2.1 x.2.2.2.1 x.2.2.2.2.1 x.2.2.2.2.2.1 x.2.2.2.2.2.2.1 x.2.2.2.2.2.2.2.1 x.2.2.2.2.2.2.2.2.1 x.2.2.2.2.2.2.2.2.2.1 x.2.2.2.2.2.2.2.2.2.2.1 x.2.2.2.2.2.2.2.2.2.2.2.1 x.2.2.2.2.2.2.2.2.2.2.2.2.1 x.2.2.2.2.2.2.2.2.2.2.2.2.2.1 _ _ _)
theorem lf_laws_FnSysDelete : LoopsFn Try.prog C_laws_FnSysDelete O_laws_FnSysDelete 16 L_laws_FnSysDelete := LoopsFn.all (by kernel_rfl) (by decide) ⟨lo_laws_FnSysDelete_l0, trivial⟩
def out_laws_FnSysDelete (r : Bool) : AV × Store := out1 (.one (.dat .bool)) [] (r, ())
theorem w_laws_FnSysDelete (x : FAr [.one (.dat (.sl (.int .u8)))] []) : evBodyK Try.prog C_laws_FnSysDelete O_laws_FnSysDelete L_laws_FnSysDelete 16 (encAr [.one (.dat (.sl (.int .u8)))] [] x).1 (encAr [.one (.dat (.sl (.int .u8)))] [] x).2 (fun v s => some (v, s)) =
    laws_FnSysDeleteK x.1 (fun r => some (out_laws_FnSysDelete r)) := by kernel_rfl
theorem sem_laws_FnSysDelete : ∀ x y, (fun x => laws_FnSysDelete x.1) x = some y → SemCall Try.prog 16 (encAr [.one (.dat (.sl (.int .u8)))] [] x).1 (encAr [.one (.dat (.sl (.int .u8)))] [] x).2 (out_laws_FnSysDelete y).1 (out_laws_FnSysDelete y).2 :=
  sem_of folP okP tabP (Oracle.of_ok (Oracle.cons_ok ok_laws_sameKernel (Oracle.cons_ok ok_spec_KernelValid (Oracle.cons_ok ok_laws_alive (Oracle.cons_ok ok_impl_KernelValid (Oracle.cons_ok ok_impl_SysDelete (Oracle.cons_ok ok_spec_SysDelete (Oracle.cons_ok ok_spec_DrawSysDelete Oracle.nil_ok)))))))) lf_laws_FnSysDelete fun x => (w_laws_FnSysDelete x).trans (laws_FnSysDelete_eq x.1 _)
noncomputable def c_laws_FnSysDelete : Con := Con.shape [.one (.dat (.sl (.int .u8)))] [] (fun x => laws_FnSysDelete x.1) out_laws_FnSysDelete
theorem ok_laws_FnSysDelete : ConOk Try.prog 16 c_laws_FnSysDelete := Con.shape_ok sem_laws_FnSysDelete

/-! 49 -/
def C_spec_DrawSysMove : Cfg := { T := tab, hint := fun _ => { mu := [2, 6, 9], keepR := [0, 2, 3, 4, 5, 6, 7], res := [2, 3, 4], order := [(4, [(2, .read), (3, .read), (1, .pure), (0, .aside [1, 2, 3]), (4, .forced), (5, .forced), (6, .forced), (7, .forced)])] }, mode := modeOf [(52, .sub), (53, .sub)] }
noncomputable def O_spec_DrawSysMove : Oracle := Oracle.of [(51, c_spec_l20Open), (52, c_spec_l20Kernel), (53, c_spec_l20Site)]
noncomputable def L_spec_DrawSysMove : Loops := Loops.of []
theorem lf_spec_DrawSysMove : LoopsFn Try.prog C_spec_DrawSysMove O_spec_DrawSysMove 49 L_spec_DrawSysMove := LoopsFn.nil' (by kernel_rfl)
def out_spec_DrawSysMove (r : Int × Int × Int × Int × Int × Int × (List DEntry) × (List Int)) : AV × Store := outT [.agg [.dat I, .dat I, .dat I, .all 0, .all 1, .dat I], .one (.dat I), .one (.dat I)] [.data tEntry, .data I] (r.1, r.2.1, r.2.2.1, r.2.2.2.1, r.2.2.2.2.1, r.2.2.2.2.2.1, r.2.2.2.2.2.2.1, r.2.2.2.2.2.2.2, ())
theorem w_spec_DrawSysMove (x : FAr [.one (.dat (.sl (.int .u8)))] []) : evBodyK Try.prog C_spec_DrawSysMove O_spec_DrawSysMove L_spec_DrawSysMove 49 (encAr [.one (.dat (.sl (.int .u8)))] [] x).1 (encAr [.one (.dat (.sl (.int .u8)))] [] x).2 (fun v s => some (v, s)) =
    spec_DrawSysMoveK x.1 (fun r => some (out_spec_DrawSysMove r)) := by kernel_rfl
theorem sem_spec_DrawSysMove : ∀ x y, (fun x => spec_DrawSysMove x.1) x = some y → SemCall Try.prog 49 (encAr [.one (.dat (.sl (.int .u8)))] [] x).1 (encAr [.one (.dat (.sl (.int .u8)))] [] x).2 (out_spec_DrawSysMove y).1 (out_spec_DrawSysMove y).2 :=
  sem_of folP okP tabP (Oracle.of_ok (Oracle.cons_ok ok_spec_l20Open (Oracle.cons_ok ok_spec_l20Kernel (Oracle.cons_ok ok_spec_l20Site Oracle.nil_ok)))) lf_spec_DrawSysMove fun x => (w_spec_DrawSysMove x).trans (spec_DrawSysMove_eq x.1 _)
noncomputable def c_spec_DrawSysMove : Con := Con.shape [.one (.dat (.sl (.int .u8)))] [] (fun x => spec_DrawSysMove x.1) out_spec_DrawSysMove
theorem ok_spec_DrawSysMove : ConOk Try.prog 49 c_spec_DrawSysMove := Con.shape_ok sem_spec_DrawSysMove

/-! 17 -/
def C_laws_FnSysMove : Cfg := { T := tab, hint := fun _ => { mu := [3, 6, 8, 10], keepR := [0, 2, 3, 4, 5, 6, 7, 8, 9, 10, 11, 14, 43, 45], res := [2], order := [(11, [(0, .forced), (1, .forced), (2, .forced), (3, .read), (4, .read), (5, .forced), (6, .forced), (7, .forced), (8, .forced), (9, .forced), (10, .read), (11, .read), (12, .read), (13, .read), (14, .read), (15, .read), (16, .read), (17, .forced), (18, .forced), (19, .forced), (20, .forced), (21, .forced), (22, .forced), (23, .read), (24, .read), (25, .forced), (26, .forced), (27, .forced), (28, .forced), (29, .forced), (30, .forced), (31, .forced), (32, .forced), (33, .forced), (34, .forced), (35, .read), (36, .forced), (37, .forced), (38, .forced), (39, .forced)])] }, mode := fun _ => .borrow }
noncomputable def O_laws_FnSysMove : Oracle := Oracle.of [(22, c_laws_sameKernel), (23, c_spec_KernelValid), (24, c_laws_alive), (26, c_impl_KernelValid), (31, c_laws_sameTree), (44, c_spec_SysMove), (45, c_impl_SysMove), (49, c_spec_DrawSysMove)]
noncomputable def L_laws_FnSysMove : Loops := Loops.of []
theorem lf_laws_FnSysMove : LoopsFn Try.prog C_laws_FnSysMove O_laws_FnSysMove 17 L_laws_FnSysMove := LoopsFn.nil' (by kernel_rfl)
def out_laws_FnSysMove (r : Bool) : AV × Store := out1 (.one (.dat .bool)) [] (r, ())
theorem w_laws_FnSysMove (x : FAr [.one (.dat (.sl (.int .u8)))] []) : evBodyK Try.prog C_laws_FnSysMove O_laws_FnSysMove L_laws_FnSysMove 17 (encAr [.one (.dat (.sl (.int .u8)))] [] x).1 (encAr [.one (.dat (.sl (.int .u8)))] [] x).2 (fun v s => some (v, s)) =
    laws_FnSysMoveK x.1 (fun r => some (out_laws_FnSysMove r)) := by kernel_rfl
theorem sem_laws_FnSysMove : ∀ x y, (fun x => laws_FnSysMove x.1) x = some y → SemCall Try.prog 17 (encAr [.one (.dat (.sl (.int .u8)))] [] x).1 (encAr [.one (.dat (.sl (.int .u8)))] [] x).2 (out_laws_FnSysMove y).1 (out_laws_FnSysMove y).2 :=
  sem_of folP okP tabP (Oracle.of_ok (Oracle.cons_ok ok_laws_sameKernel (Oracle.cons_ok ok_spec_KernelValid (Oracle.cons_ok ok_laws_alive (Oracle.cons_ok ok_impl_KernelValid (Oracle.cons_ok ok_laws_sameTree (Oracle.cons_ok ok_spec_SysMove (Oracle.cons_ok ok_impl_SysMove (Oracle.cons_ok ok_spec_DrawSysMove Oracle.nil_ok))))))))) lf_laws_FnSysMove fun x => (w_laws_FnSysMove x).trans (laws_FnSysMove_eq x.1 _)
noncomputable def c_laws_FnSysMove : Con := Con.shape [.one (.dat (.sl (.int .u8)))] [] (fun x => laws_FnSysMove x.1) out_laws_FnSysMove
theorem ok_laws_FnSysMove : ConOk Try.prog 17 c_laws_FnSysMove := Con.shape_ok sem_laws_FnSysMove

/-! 50 -/
def C_impl_Descendants : Cfg := { T := tab, hint := fun _ => { mu := [4, 11], keepR := [0, 1, 4, 8], res := [4] }, mode := fun _ => .borrow }
noncomputable def O_impl_Descendants : Oracle := Oracle.of [(103, c_impl_alive), (104, c_impl_descendants)]
noncomputable def L_impl_Descendants : Loops := Loops.of []
theorem lf_impl_Descendants : LoopsFn Try.prog C_impl_Descendants O_impl_Descendants 50 L_impl_Descendants := LoopsFn.nil' (by kernel_rfl)
def out_impl_Descendants (r : (List Int)) : AV × Store := out1 (.one (.all 0)) [.data I] (r, ())
theorem w_impl_Descendants (x : FAr [.one (.dat (.sl tEntry)), .one (.dat I)] []) : evBodyK Try.prog C_impl_Descendants O_impl_Descendants L_impl_Descendants 50 (encAr [.one (.dat (.sl tEntry)), .one (.dat I)] [] x).1 (encAr [.one (.dat (.sl tEntry)), .one (.dat I)] [] x).2 (fun v s => some (v, s)) =
    impl_DescendantsK x.1 x.2.1 (fun r => some (out_impl_Descendants r)) := by kernel_rfl
theorem sem_impl_Descendants : ∀ x y, (fun x => impl_Descendants x.1 x.2.1) x = some y → SemCall Try.prog 50 (encAr [.one (.dat (.sl tEntry)), .one (.dat I)] [] x).1 (encAr [.one (.dat (.sl tEntry)), .one (.dat I)] [] x).2 (out_impl_Descendants y).1 (out_impl_Descendants y).2 :=
  sem_of folP okP tabP (Oracle.of_ok (Oracle.cons_ok ok_impl_alive (Oracle.cons_ok ok_impl_descendants Oracle.nil_ok))) lf_impl_Descendants fun x => (w_impl_Descendants x).trans (impl_Descendants_eq x.1 x.2.1 _)
noncomputable def c_impl_Descendants : Con := Con.shape [.one (.dat (.sl tEntry)), .one (.dat I)] [] (fun x => impl_Descendants x.1 x.2.1) out_impl_Descendants
theorem ok_impl_Descendants : ConOk Try.prog 50 c_impl_Descendants := Con.shape_ok sem_impl_Descendants

/-! 18 -/
def C_laws_FnSysRevoke : Cfg := { T := tab, hint := fun _ => { mu := [3, 5, 7], keepR := [0, 2, 3, 4, 5, 6, 7, 8, 9, 10, 11, 12, 13, 16, 42, 44, 68, 81, 87, 112], res := [2], order := [(10, [(0, .read), (1, .read), (2, .read), (3, .read), (4, .forced), (5, .forced), (6, .forced), (7, .forced), (8, .forced)]), (15, [(0, .read), (1, .read), (2, .read), (3, .read), (4, .read), (5, .read), (6, .read), (7, .forced), (8, .forced), (9, .forced), (10, .forced)]), (21, [(0, .forced), (1, .forced), (2, .read), (3, .read), (4, .read), (5, .read), (6, .read), (7, .read), (8, .forced), (9, .forced), (10, .forced), (11, .forced), (12, .forced), (13, .forced)]), (24, [(0, .forced), (1, .forced), (2, .forced), (3, .read), (4, .forced), (5, .forced), (6, .forced), (7, .forced), (8, .forced), (9, .read), (10, .read), (11, .read), (12, .read), (13, .read), (14, .read), (15, .read), (16, .forced), (17, .forced), (18, .forced), (19, .forced), (20, .forced), (21, .forced)])], keepL := [(0, [3, 4, 5, 9, 10, 11]), (2, [3, 4, 5, 9, 10, 11, 12, 13])], keepX := [(0, [3, 4, 5, 9, 10]), (1, [3, 4, 5, 9, 10, 11]), (2, [3, 4, 5, 9, 10, 11, 12]), (3, [3, 4, 5, 9, 10, 11, 12, 13])] }, mode := fun _ => .borrow }
noncomputable def O_laws_FnSysRevoke : Oracle := Oracle.of [(22, c_laws_sameKernel), (23, c_spec_KernelValid), (24, c_laws_alive), (26, c_impl_KernelValid), (37, c_spec_DrawSysRevoke), (38, c_impl_SysRevoke), (39, c_spec_SysRevoke), (50, c_impl_Descendants)]
def sh_laws_FnSysRevoke_l0 : List (Nat × S2) := [(3, .one (.ptr 0 0 0)), (4, .one (.dat I)), (5, .one (.ptr 1 0 0)), (9, .one (.dat (.sl I))), (10, .one (.dat I)), (11, .one (.dat I))]
def bs_laws_FnSysRevoke_l0 : List SB := [.var [.dat I, .dat I, .dat I, .dat (.sl tEntry), .dat (.sl I), .dat I], .var [.dat I, .dat I, .dat I, .dat (.sl tEntry), .dat (.sl I), .dat I]]
noncomputable def lc_laws_FnSysRevoke_l0 : LCon := LCon.shape sh_laws_FnSysRevoke_l0 bs_laws_FnSysRevoke_l0 laws_FnSysRevoke_l0 (fun a => (.exit 0, encSt [(3, .one (.ptr 0 0 0)), (4, .one (.dat I)), (5, .one (.ptr 1 0 0)), (9, .one (.dat (.sl I))), (10, .one (.dat I))] [.var [.dat I, .dat I, .dat I, .dat (.sl tEntry), .dat (.sl I), .dat I], .var [.dat I, .dat I, .dat I, .dat (.sl tEntry), .dat (.sl I), .dat I]] a)) (fun b => encSt [(2, .one (.dat .bool))] [] b)
def sh_laws_FnSysRevoke_l2 : List (Nat × S2) := [(3, .one (.ptr 0 0 0)), (4, .one (.dat I)), (5, .one (.ptr 1 0 0)), (9, .one (.dat (.sl I))), (10, .one (.dat I)), (11, .one (.dat I)), (12, .one (.dat .bool)), (13, .one (.dat I))]
def bs_laws_FnSysRevoke_l2 : List SB := [.var [.dat I, .dat I, .dat I, .dat (.sl tEntry), .dat (.sl I), .dat I], .var [.dat I, .dat I, .dat I, .dat (.sl tEntry), .dat (.sl I), .dat I]]
noncomputable def lc_laws_FnSysRevoke_l2 : LCon := LCon.shape1 sh_laws_FnSysRevoke_l2 bs_laws_FnSysRevoke_l2 laws_FnSysRevoke_l2 (fun a => (.exit 2, encSt [(3, .one (.ptr 0 0 0)), (4, .one (.dat I)), (5, .one (.ptr 1 0 0)), (9, .one (.dat (.sl I))), (10, .one (.dat I)), (11, .one (.dat I)), (12, .one (.dat .bool))] [.var [.dat I, .dat I, .dat I, .dat (.sl tEntry), .dat (.sl I), .dat I], .var [.dat I, .dat I, .dat I, .dat (.sl tEntry), .dat (.sl I), .dat I]] a))
noncomputable def L_laws_FnSysRevoke : Loops := Loops.of [(0, lc_laws_FnSysRevoke_l0), (2, lc_laws_FnSysRevoke_l2)]
theorem r_laws_FnSysRevoke_l0 (x : FSt sh_laws_FnSysRevoke_l0 bs_laws_FnSysRevoke_l0) : roundK C_laws_FnSysRevoke.T (C_laws_FnSysRevoke.hint 18) C_laws_FnSysRevoke.mode O_laws_FnSysRevoke L_laws_FnSysRevoke 0 (lp Try.prog 18 0) (encSt sh_laws_FnSysRevoke_l0 bs_laws_FnSysRevoke_l0 x) (fun e s => some (e, s)) =
    laws_FnSysRevoke_l0K x.1 x.2.1 x.2.2.1 x.2.2.2.1 x.2.2.2.2.1 x.2.2.2.2.2.1 x.2.2.2.2.2.2.1 x.2.2.2.2.2.2.2.1 x.2.2.2.2.2.2.2.2.1 x.2.2.2.2.2.2.2.2.2.1 x.2.2.2.2.2.2.2.2.2.2.1 x.2.2.2.2.2.2.2.2.2.2.2.1 x.2.2.2.2.2.2.2.2.2.2.2.2.1 x.2.2.2.2.2.2.2.2.2.2.2.2.2.1 x.2.2.2.2.2.2.2.2.2.2.2.2.2.2.1 x.2.2.2.2.2.2.2.2.2.2.2.2.2.2.2.1 (fun y => some (Ex.normal, encSt sh_laws_FnSysRevoke_l0 bs_laws_FnSysRevoke_l0 y)) (fun a => some (Ex.exit 0, encSt [(3, .one (.ptr 0 0 0)), (4, .one (.dat I)), (5, .one (.ptr 1 0 0)), (9, .one (.dat (.sl I))), (10, .one (.dat I))] [.var [.dat I, .dat I, .dat I, .dat (.sl tEntry), .dat (.sl I), .dat I], .var [.dat I, .dat I, .dat I, .dat (.sl tEntry), .dat (.sl I), .dat I]] a)) (fun b => some (Ex.ret, encSt [(2, .one (.dat .bool))] [] b)) := by kernel_rfl
theorem lo_laws_FnSysRevoke_l0 : LConOk C_laws_FnSysRevoke.T (C_laws_FnSysRevoke.hint 18) C_laws_FnSysRevoke.mode O_laws_FnSysRevoke L_laws_FnSysRevoke 0 (lp Try.prog 18 0) lc_laws_FnSysRevoke_l0 :=
  LCon.shape_ok (fun a => by simp) fun x => (r_laws_FnSysRevoke_l0 x).trans (laws_FnSysRevoke_l0_eq x.1 x.2.1 x.2.2.1 x.2.2.2.1 x.2.2.2.2.1 x.2.2.2.2.2.1 x.2.2.2.2.2.2.1 x.2.2.2.2.2.2.2.1 x.2.2.2.2.2.2.2.2.1 x.2.2.2.2.2.2.2.2.2.1 x.2.2.2.2.2.2.2.2.2.2.1 x.2.2.2.2.2.2.2.2.2.2.2.1 x.2.2.2.2.2.2.2.2.2.2.2.2.1 x.2.2.2.2.2.2.2.2.2.2.2.2.2.1 x.2.2.2.2.2.2.2.2.2.2.2.2.2.2.1 x.2.2.2.2.2.2.2.2.2.2.2.2.2.2.2.1 _ _ _)
theorem r_laws_FnSysRevoke_l2 (x : FSt sh_laws_FnSysRevoke_l2 bs_laws_FnSysRevoke_l2) : roundK C_laws_FnSysRevoke.T (C_laws_FnSysRevoke.hint 18) C_laws_FnSysRevoke.mode O_laws_FnSysRevoke L_laws_FnSysRevoke 2 (lp Try.prog 18 1) (encSt sh_laws_FnSysRevoke_l2 bs_laws_FnSysRevoke_l2 x) (fun e s => some (e, s)) =
    laws_FnSysRevoke_l2K x.1 x.2.1 x.2.2.1 x.2.2.2.1 x.2.2.2.2.1 x.2.2.2.2.2.1 x.2.2.2.2.2.2.1 x.2.2.2.2.2.2.2.1 x.2.2.2.2.2.2.2.2.1 x.2.2.2.2.2.2.2.2.2.1 x.2.2.2.2.2.2.2.2.2.2.1 x.2.2.2.2.2.2.2.2.2.2.2.1 x.2.2.2.2.2.2.2.2.2.2.2.2.1 x.2.2.2.2.2.2.2.2.2.2.2.2.2.1 x.2.2.2.2.2.2.2.2.2.2.2.2.2.2.1 x.2.2.2.2.2.2.2.2.2.2.2.2.2.2.2.1 x.2.2.2.2.2.2.2.2.2.2.2.2.2.2.2.2.1 x.2.2.2.2.2.2.2.2.2.2.2.2.2.2.2.2.2.1 (fun y => some (Ex.normal, encSt sh_laws_FnSysRevoke_l2 bs_laws_FnSysRevoke_l2 y)) (fun a => some (Ex.exit 2, encSt [(3, .one (.ptr 0 0 0)), (4, .one (.dat I)), (5, .one (.ptr 1 0 0)), (9, .one (.dat (.sl I))), (10, .one (.dat I)), (11, .one (.dat I)), (12, .one (.dat .bool))] [.var [.dat I, .dat I, .dat I, .dat (.sl tEntry), .dat (.sl I), .dat I], .var [.dat I, .dat I, .dat I, .dat (.sl tEntry), .dat (.sl I), .dat I]] a)) := by kernel_rfl
theorem lo_laws_FnSysRevoke_l2 : LConOk C_laws_FnSysRevoke.T (C_laws_FnSysRevoke.hint 18) C_laws_FnSysRevoke.mode O_laws_FnSysRevoke L_laws_FnSysRevoke 2 (lp Try.prog 18 1) lc_laws_FnSysRevoke_l2 :=
  LCon.shape1_ok (fun a => by simp) fun x => (r_laws_FnSysRevoke_l2 x).trans (laws_FnSysRevoke_l2_eq x.1 x.2.1 x.2.2.1 x.2.2.2.1 x.2.2.2.2.1 x.2.2.2.2.2.1 x.2.2.2.2.2.2.1 x.2.2.2.2.2.2.2.1 x.2.2.2.2.2.2.2.2.1 x.2.2.2.2.2.2.2.2.2.1 x.2.2.2.2.2.2.2.2.2.2.1 x.2.2.2.2.2.2.2.2.2.2.2.1 x.2.2.2.2.2.2.2.2.2.2.2.2.1 x.2.2.2.2.2.2.2.2.2.2.2.2.2.1 x.2.2.2.2.2.2.2.2.2.2.2.2.2.2.1 x.2.2.2.2.2.2.2.2.2.2.2.2.2.2.2.1 x.2.2.2.2.2.2.2.2.2.2.2.2.2.2.2.2.1 x.2.2.2.2.2.2.2.2.2.2.2.2.2.2.2.2.2.1 _ _)
theorem lf_laws_FnSysRevoke : LoopsFn Try.prog C_laws_FnSysRevoke O_laws_FnSysRevoke 18 L_laws_FnSysRevoke := LoopsFn.all (by kernel_rfl) (by decide) ⟨lo_laws_FnSysRevoke_l0, lo_laws_FnSysRevoke_l2, trivial⟩
def out_laws_FnSysRevoke (r : Bool) : AV × Store := out1 (.one (.dat .bool)) [] (r, ())
theorem w_laws_FnSysRevoke (x : FAr [.one (.dat (.sl (.int .u8)))] []) : evBodyK Try.prog C_laws_FnSysRevoke O_laws_FnSysRevoke L_laws_FnSysRevoke 18 (encAr [.one (.dat (.sl (.int .u8)))] [] x).1 (encAr [.one (.dat (.sl (.int .u8)))] [] x).2 (fun v s => some (v, s)) =
    laws_FnSysRevokeK x.1 (fun r => some (out_laws_FnSysRevoke r)) := by kernel_rfl
theorem sem_laws_FnSysRevoke : ∀ x y, (fun x => laws_FnSysRevoke x.1) x = some y → SemCall Try.prog 18 (encAr [.one (.dat (.sl (.int .u8)))] [] x).1 (encAr [.one (.dat (.sl (.int .u8)))] [] x).2 (out_laws_FnSysRevoke y).1 (out_laws_FnSysRevoke y).2 :=
  sem_of folP okP tabP (Oracle.of_ok (Oracle.cons_ok ok_laws_sameKernel (Oracle.cons_ok ok_spec_KernelValid (Oracle.cons_ok ok_laws_alive (Oracle.cons_ok ok_impl_KernelValid (Oracle.cons_ok ok_spec_DrawSysRevoke (Oracle.cons_ok ok_impl_SysRevoke (Oracle.cons_ok ok_spec_SysRevoke (Oracle.cons_ok ok_impl_Descendants Oracle.nil_ok))))))))) lf_laws_FnSysRevoke fun x => (w_laws_FnSysRevoke x).trans (laws_FnSysRevoke_eq x.1 _)
noncomputable def c_laws_FnSysRevoke : Con := Con.shape [.one (.dat (.sl (.int .u8)))] [] (fun x => laws_FnSysRevoke x.1) out_laws_FnSysRevoke
theorem ok_laws_FnSysRevoke : ConOk Try.prog 18 c_laws_FnSysRevoke := Con.shape_ok sem_laws_FnSysRevoke

end Go.Ev
