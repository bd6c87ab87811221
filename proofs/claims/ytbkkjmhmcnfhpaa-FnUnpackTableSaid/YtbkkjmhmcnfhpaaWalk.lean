/-
  The walks: the program computes what the functions of plain data compute, wherever these come to a result; printed by a program of the prover.
-/
import Derived.Test.YtbkkjmhmcnfhpaaDefs
import Derived.Test.YtbkkjmhmcnfhpaaProg
import Derived.Test.YtbkkjmhmcnfhpaaAlive
namespace Go.Ev
open Go.Proofs
set_option linter.unusedVariables false
set_option linter.unusedSimpArgs false
set_option maxRecDepth 100000
def tys : List (Nat × Ty) := [(3, I), (4, .bool), (5, (.int .u8)), (22, (.sl tCap)), (24, tTable), (26, (.sl I)), (28, (.sl tCap)), (30, tTable), (41, (.sl (.int .u8))), (50, tCap), (66, tCap), (71, tl20Rd)]
def tups : List (Nat × List Ty) := [(37, [tTable, .bool]), (54, [tCap, .bool])]
def tab : Tab := tabOf tys tups
theorem okP : progOk Try.prog = true := by kernel_rfl
theorem tabP : TabOk Try.prog tab := tabOf_ok (by kernel_rfl)
theorem folP : Try.prog.follows .mixedOrders = true := by kernel_rfl
/-! 26 -/
def C_laws_szCapS : Cfg := { T := tab, hint := fun _ => { keepR := [0, 1, 4, 10], res := [4] }, mode := fun _ => .borrow }
noncomputable def O_laws_szCapS : Oracle := Oracle.of []
noncomputable def L_laws_szCapS : Loops := Loops.of []
theorem lf_laws_szCapS : LoopsFn Try.prog C_laws_szCapS O_laws_szCapS 26 L_laws_szCapS := LoopsFn.nil' (by kernel_rfl)
def out_laws_szCapS (r : Int) : AV × Store := out1 (.one (.dat I)) [] (r, ())
theorem w_laws_szCapS (x : FAr [.one (.dat (.sl tCap)), .one (.dat I)] []) : evBodyK Try.prog C_laws_szCapS O_laws_szCapS L_laws_szCapS 26 (encAr [.one (.dat (.sl tCap)), .one (.dat I)] [] x).1 (encAr [.one (.dat (.sl tCap)), .one (.dat I)] [] x).2 (fun v s => some (v, s)) =
    laws_szCapSK x.1 x.2.1 (fun r => some (out_laws_szCapS r)) := by kernel_rfl
theorem sem_laws_szCapS : ∀ x y, (fun x => laws_szCapS x.1 x.2.1) x = some y → SemCall Try.prog 26 (encAr [.one (.dat (.sl tCap)), .one (.dat I)] [] x).1 (encAr [.one (.dat (.sl tCap)), .one (.dat I)] [] x).2 (out_laws_szCapS y).1 (out_laws_szCapS y).2 :=
  sem_of folP okP tabP (Oracle.of_ok Oracle.nil_ok) lf_laws_szCapS fun x => (w_laws_szCapS x).trans (laws_szCapS_eq x.1 x.2.1 _)
noncomputable def c_laws_szCapS : Con := Con.shape [.one (.dat (.sl tCap)), .one (.dat I)] [] (fun x => laws_szCapS x.1 x.2.1) out_laws_szCapS
theorem ok_laws_szCapS : ConOk Try.prog 26 c_laws_szCapS := Con.shape_ok sem_laws_szCapS

/-! 7 -/
def C_laws_szTable : Cfg := { T := tab, hint := fun _ => { keepR := [1, 2, 4, 10], res := [4] }, mode := fun _ => .borrow }
noncomputable def O_laws_szTable : Oracle := Oracle.of [(26, c_laws_szCapS)]
noncomputable def L_laws_szTable : Loops := Loops.of []
theorem lf_laws_szTable : LoopsFn Try.prog C_laws_szTable O_laws_szTable 7 L_laws_szTable := LoopsFn.nil' (by kernel_rfl)
def out_laws_szTable (r : Int) : AV × Store := out1 (.one (.dat I)) [] (r, ())
theorem w_laws_szTable (x : FAr [.one (.dat tTable), .one (.dat I)] []) : evBodyK Try.prog C_laws_szTable O_laws_szTable L_laws_szTable 7 (encAr [.one (.dat tTable), .one (.dat I)] [] x).1 (encAr [.one (.dat tTable), .one (.dat I)] [] x).2 (fun v s => some (v, s)) =
    laws_szTableK x.1 x.2.1 (fun r => some (out_laws_szTable r)) := by kernel_rfl
theorem sem_laws_szTable : ∀ x y, (fun x => laws_szTable x.1 x.2.1) x = some y → SemCall Try.prog 7 (encAr [.one (.dat tTable), .one (.dat I)] [] x).1 (encAr [.one (.dat tTable), .one (.dat I)] [] x).2 (out_laws_szTable y).1 (out_laws_szTable y).2 :=
  sem_of folP okP tabP (Oracle.of_ok (Oracle.cons_ok ok_laws_szCapS Oracle.nil_ok)) lf_laws_szTable fun x => (w_laws_szTable x).trans (laws_szTable_eq x.1 x.2.1 _)
noncomputable def c_laws_szTable : Con := Con.shape [.one (.dat tTable), .one (.dat I)] [] (fun x => laws_szTable x.1 x.2.1) out_laws_szTable
theorem ok_laws_szTable : ConOk Try.prog 7 c_laws_szTable := Con.shape_ok sem_laws_szTable

/-! 45 -/
def C_laws_toCap : Cfg := { T := tab, hint := fun _ => { mu := [2, 3], keepR := [1, 2, 3], res := [2] }, mode := fun _ => .borrow }
noncomputable def O_laws_toCap : Oracle := Oracle.of []
noncomputable def L_laws_toCap : Loops := Loops.of []
theorem lf_laws_toCap : LoopsFn Try.prog C_laws_toCap O_laws_toCap 45 L_laws_toCap := LoopsFn.nil' (by kernel_rfl)
def out_laws_toCap (r : DCap) : AV × Store := out1 (.one (.dat tCap)) [] (r, ())
theorem w_laws_toCap (x : FAr [.one (.dat tCap)] []) : evBodyK Try.prog C_laws_toCap O_laws_toCap L_laws_toCap 45 (encAr [.one (.dat tCap)] [] x).1 (encAr [.one (.dat tCap)] [] x).2 (fun v s => some (v, s)) =
    laws_toCapK x.1 (fun r => some (out_laws_toCap r)) := by kernel_rfl
theorem sem_laws_toCap : ∀ x y, (fun x => laws_toCap x.1) x = some y → SemCall Try.prog 45 (encAr [.one (.dat tCap)] [] x).1 (encAr [.one (.dat tCap)] [] x).2 (out_laws_toCap y).1 (out_laws_toCap y).2 :=
  sem_of folP okP tabP (Oracle.of_ok Oracle.nil_ok) lf_laws_toCap fun x => (w_laws_toCap x).trans (laws_toCap_eq x.1 _)
noncomputable def c_laws_toCap : Con := Con.shape [.one (.dat tCap)] [] (fun x => laws_toCap x.1) out_laws_toCap
theorem ok_laws_toCap : ConOk Try.prog 45 c_laws_toCap := Con.shape_ok sem_laws_toCap

/-! 28 -/
def C_laws_toCapS : Cfg := { T := tab, hint := fun _ => { mu := [7], keepR := [0, 2, 3, 4, 11], res := [2], keepL := [(0, [0, 3, 4])], keepX := [(0, [3]), (1, [0, 3, 4])] }, mode := fun _ => .borrow }
noncomputable def O_laws_toCapS : Oracle := Oracle.of [(45, c_laws_toCap)]
def sh_laws_toCapS_l0 : List (Nat × S2) := [(0, .one (.dat (.sl tCap))), (3, .one (.all 0)), (4, .one (.dat I))]
def bs_laws_toCapS_l0 : List SB := [.data tCap]
noncomputable def lc_laws_toCapS_l0 : LCon := LCon.shape1 sh_laws_toCapS_l0 bs_laws_toCapS_l0 laws_toCapS_l0 (fun a => (.exit 0, encSt [(3, .one (.all 0))] [.data tCap] a))
noncomputable def L_laws_toCapS : Loops := Loops.of [(0, lc_laws_toCapS_l0)]
theorem r_laws_toCapS_l0 (x : FSt sh_laws_toCapS_l0 bs_laws_toCapS_l0) : roundK C_laws_toCapS.T (C_laws_toCapS.hint 28) C_laws_toCapS.mode O_laws_toCapS L_laws_toCapS 0 (lp Try.prog 28 0) (encSt sh_laws_toCapS_l0 bs_laws_toCapS_l0 x) (fun e s => some (e, s)) =
    laws_toCapS_l0K x.1 x.2.1 x.2.2.1 (fun y => some (Ex.normal, encSt sh_laws_toCapS_l0 bs_laws_toCapS_l0 y)) (fun a => some (Ex.exit 0, encSt [(3, .one (.all 0))] [.data tCap] a)) := by kernel_rfl
theorem lo_laws_toCapS_l0 : LConOk C_laws_toCapS.T (C_laws_toCapS.hint 28) C_laws_toCapS.mode O_laws_toCapS L_laws_toCapS 0 (lp Try.prog 28 0) lc_laws_toCapS_l0 :=
  LCon.shape1_ok (fun a => by simp) fun x => (r_laws_toCapS_l0 x).trans (laws_toCapS_l0_eq x.1 x.2.1 x.2.2.1 _ _)
theorem lf_laws_toCapS : LoopsFn Try.prog C_laws_toCapS O_laws_toCapS 28 L_laws_toCapS := LoopsFn.all (by kernel_rfl) (by decide) ⟨lo_laws_toCapS_l0, trivial⟩
def out_laws_toCapS (r : (List DCap)) : AV × Store := out1 (.one (.all 0)) [.data tCap] (r, ())
theorem w_laws_toCapS (x : FAr [.one (.dat (.sl tCap))] []) : evBodyK Try.prog C_laws_toCapS O_laws_toCapS L_laws_toCapS 28 (encAr [.one (.dat (.sl tCap))] [] x).1 (encAr [.one (.dat (.sl tCap))] [] x).2 (fun v s => some (v, s)) =
    laws_toCapSK x.1 (fun r => some (out_laws_toCapS r)) := by kernel_rfl
theorem sem_laws_toCapS : ∀ x y, (fun x => laws_toCapS x.1) x = some y → SemCall Try.prog 28 (encAr [.one (.dat (.sl tCap))] [] x).1 (encAr [.one (.dat (.sl tCap))] [] x).2 (out_laws_toCapS y).1 (out_laws_toCapS y).2 :=
  sem_of folP okP tabP (Oracle.of_ok (Oracle.cons_ok ok_laws_toCap Oracle.nil_ok)) lf_laws_toCapS fun x => (w_laws_toCapS x).trans (laws_toCapS_eq x.1 _)
noncomputable def c_laws_toCapS : Con := Con.shape [.one (.dat (.sl tCap))] [] (fun x => laws_toCapS x.1) out_laws_toCapS
theorem ok_laws_toCapS : ConOk Try.prog 28 c_laws_toCapS := Con.shape_ok sem_laws_toCapS

/-! 9 -/
def C_laws_toTable : Cfg := { T := tab, hint := fun _ => { mu := [2, 3, 15], keepR := [1, 2, 3], res := [2] }, mode := fun _ => .borrow }
noncomputable def O_laws_toTable : Oracle := Oracle.of [(28, c_laws_toCapS)]
noncomputable def L_laws_toTable : Loops := Loops.of []
theorem lf_laws_toTable : LoopsFn Try.prog C_laws_toTable O_laws_toTable 9 L_laws_toTable := LoopsFn.nil' (by kernel_rfl)
def out_laws_toTable (r : Int × Int × Int × (List DCap)) : AV × Store := out1 (.agg [.dat I, .dat I, .dat I, .all 0]) [.data tCap] (r.1, r.2.1, r.2.2.1, r.2.2.2, ())
theorem w_laws_toTable (x : FAr [.one (.dat tTable)] []) : evBodyK Try.prog C_laws_toTable O_laws_toTable L_laws_toTable 9 (encAr [.one (.dat tTable)] [] x).1 (encAr [.one (.dat tTable)] [] x).2 (fun v s => some (v, s)) =
    laws_toTableK x.1 (fun r => some (out_laws_toTable r)) := by kernel_rfl
theorem sem_laws_toTable : ∀ x y, (fun x => laws_toTable x.1) x = some y → SemCall Try.prog 9 (encAr [.one (.dat tTable)] [] x).1 (encAr [.one (.dat tTable)] [] x).2 (out_laws_toTable y).1 (out_laws_toTable y).2 :=
  sem_of folP okP tabP (Oracle.of_ok (Oracle.cons_ok ok_laws_toCapS Oracle.nil_ok)) lf_laws_toTable fun x => (w_laws_toTable x).trans (laws_toTable_eq x.1 _)
noncomputable def c_laws_toTable : Con := Con.shape [.one (.dat tTable)] [] (fun x => laws_toTable x.1) out_laws_toTable
theorem ok_laws_toTable : ConOk Try.prog 9 c_laws_toTable := Con.shape_ok sem_laws_toTable

/-! 40 -/
def C_spec_l1In : Cfg := { T := tab, hint := fun _ => { keepR := [0, 1, 2, 6], res := [6] }, mode := fun _ => .borrow }
noncomputable def O_spec_l1In : Oracle := Oracle.of []
noncomputable def L_spec_l1In : Loops := Loops.of []
theorem lf_spec_l1In : LoopsFn Try.prog C_spec_l1In O_spec_l1In 40 L_spec_l1In := LoopsFn.nil' (by kernel_rfl)
def out_spec_l1In (r : Bool) : AV × Store := out1 (.one (.dat .bool)) [] (r, ())
theorem w_spec_l1In (x : FAr [.one (.dat I), .one (.dat I), .one (.dat I)] []) : evBodyK Try.prog C_spec_l1In O_spec_l1In L_spec_l1In 40 (encAr [.one (.dat I), .one (.dat I), .one (.dat I)] [] x).1 (encAr [.one (.dat I), .one (.dat I), .one (.dat I)] [] x).2 (fun v s => some (v, s)) =
    spec_l1InK x.1 x.2.1 x.2.2.1 (fun r => some (out_spec_l1In r)) := by kernel_rfl
theorem sem_spec_l1In : ∀ x y, (fun x => spec_l1In x.1 x.2.1 x.2.2.1) x = some y → SemCall Try.prog 40 (encAr [.one (.dat I), .one (.dat I), .one (.dat I)] [] x).1 (encAr [.one (.dat I), .one (.dat I), .one (.dat I)] [] x).2 (out_spec_l1In y).1 (out_spec_l1In y).2 :=
  sem_of folP okP tabP (Oracle.of_ok Oracle.nil_ok) lf_spec_l1In fun x => (w_spec_l1In x).trans (spec_l1In_eq x.1 x.2.1 x.2.2.1 _)
noncomputable def c_spec_l1In : Con := Con.shape [.one (.dat I), .one (.dat I), .one (.dat I)] [] (fun x => spec_l1In x.1 x.2.1 x.2.2.1) out_spec_l1In
theorem ok_spec_l1In : ConOk Try.prog 40 c_spec_l1In := Con.shape_ok sem_spec_l1In

/-! 53 -/
def C_spec_RightsValid : Cfg := { T := tab, hint := fun _ => { keepR := [0, 2], res := [2] }, mode := fun _ => .borrow }
noncomputable def O_spec_RightsValid : Oracle := Oracle.of [(40, c_spec_l1In)]
noncomputable def L_spec_RightsValid : Loops := Loops.of []
theorem lf_spec_RightsValid : LoopsFn Try.prog C_spec_RightsValid O_spec_RightsValid 53 L_spec_RightsValid := LoopsFn.nil' (by kernel_rfl)
def out_spec_RightsValid (r : Bool) : AV × Store := out1 (.one (.dat .bool)) [] (r, ())
theorem w_spec_RightsValid (x : FAr [.one (.dat I)] []) : evBodyK Try.prog C_spec_RightsValid O_spec_RightsValid L_spec_RightsValid 53 (encAr [.one (.dat I)] [] x).1 (encAr [.one (.dat I)] [] x).2 (fun v s => some (v, s)) =
    spec_RightsValidK x.1 (fun r => some (out_spec_RightsValid r)) := by kernel_rfl
theorem sem_spec_RightsValid : ∀ x y, (fun x => spec_RightsValid x.1) x = some y → SemCall Try.prog 53 (encAr [.one (.dat I)] [] x).1 (encAr [.one (.dat I)] [] x).2 (out_spec_RightsValid y).1 (out_spec_RightsValid y).2 :=
  sem_of folP okP tabP (Oracle.of_ok (Oracle.cons_ok ok_spec_l1In Oracle.nil_ok)) lf_spec_RightsValid fun x => (w_spec_RightsValid x).trans (spec_RightsValid_eq x.1 _)
noncomputable def c_spec_RightsValid : Con := Con.shape [.one (.dat I)] [] (fun x => spec_RightsValid x.1) out_spec_RightsValid
theorem ok_spec_RightsValid : ConOk Try.prog 53 c_spec_RightsValid := Con.shape_ok sem_spec_RightsValid

/-! 54 -/
def C_spec_l2Badged : Cfg := { T := tab, hint := fun _ => { keepR := [0, 2], res := [2] }, mode := fun _ => .borrow }
noncomputable def O_spec_l2Badged : Oracle := Oracle.of []
noncomputable def L_spec_l2Badged : Loops := Loops.of []
theorem lf_spec_l2Badged : LoopsFn Try.prog C_spec_l2Badged O_spec_l2Badged 54 L_spec_l2Badged := LoopsFn.nil' (by kernel_rfl)
def out_spec_l2Badged (r : Bool) : AV × Store := out1 (.one (.dat .bool)) [] (r, ())
theorem w_spec_l2Badged (x : FAr [.one (.dat I)] []) : evBodyK Try.prog C_spec_l2Badged O_spec_l2Badged L_spec_l2Badged 54 (encAr [.one (.dat I)] [] x).1 (encAr [.one (.dat I)] [] x).2 (fun v s => some (v, s)) =
    spec_l2BadgedK x.1 (fun r => some (out_spec_l2Badged r)) := by kernel_rfl
theorem sem_spec_l2Badged : ∀ x y, (fun x => spec_l2Badged x.1) x = some y → SemCall Try.prog 54 (encAr [.one (.dat I)] [] x).1 (encAr [.one (.dat I)] [] x).2 (out_spec_l2Badged y).1 (out_spec_l2Badged y).2 :=
  sem_of folP okP tabP (Oracle.of_ok Oracle.nil_ok) lf_spec_l2Badged fun x => (w_spec_l2Badged x).trans (spec_l2Badged_eq x.1 _)
noncomputable def c_spec_l2Badged : Con := Con.shape [.one (.dat I)] [] (fun x => spec_l2Badged x.1) out_spec_l2Badged
theorem ok_spec_l2Badged : ConOk Try.prog 54 c_spec_l2Badged := Con.shape_ok sem_spec_l2Badged

/-! 41 -/
def C_spec_CapValid : Cfg := { T := tab, hint := fun _ => { keepR := [1, 2, 5], res := [2] }, mode := fun _ => .borrow }
noncomputable def O_spec_CapValid : Oracle := Oracle.of [(40, c_spec_l1In), (53, c_spec_RightsValid), (54, c_spec_l2Badged)]
noncomputable def L_spec_CapValid : Loops := Loops.of []
theorem lf_spec_CapValid : LoopsFn Try.prog C_spec_CapValid O_spec_CapValid 41 L_spec_CapValid := LoopsFn.nil' (by kernel_rfl)
def out_spec_CapValid (r : Bool) : AV × Store := out1 (.one (.dat .bool)) [] (r, ())
theorem w_spec_CapValid (x : FAr [.one (.dat tCap)] []) : evBodyK Try.prog C_spec_CapValid O_spec_CapValid L_spec_CapValid 41 (encAr [.one (.dat tCap)] [] x).1 (encAr [.one (.dat tCap)] [] x).2 (fun v s => some (v, s)) =
    spec_CapValidK x.1 (fun r => some (out_spec_CapValid r)) := by kernel_rfl
theorem sem_spec_CapValid : ∀ x y, (fun x => spec_CapValid x.1) x = some y → SemCall Try.prog 41 (encAr [.one (.dat tCap)] [] x).1 (encAr [.one (.dat tCap)] [] x).2 (out_spec_CapValid y).1 (out_spec_CapValid y).2 :=
  sem_of folP okP tabP (Oracle.of_ok (Oracle.cons_ok ok_spec_l1In (Oracle.cons_ok ok_spec_RightsValid (Oracle.cons_ok ok_spec_l2Badged Oracle.nil_ok)))) lf_spec_CapValid fun x => (w_spec_CapValid x).trans (spec_CapValid_eq x.1 _)
noncomputable def c_spec_CapValid : Con := Con.shape [.one (.dat tCap)] [] (fun x => spec_CapValid x.1) out_spec_CapValid
theorem ok_spec_CapValid : ConOk Try.prog 41 c_spec_CapValid := Con.shape_ok sem_spec_CapValid

/-! 22 -/
def C_spec_TableValid : Cfg := { T := tab, hint := fun _ => { keepR := [1, 2, 3, 32, 37, 46], res := [2], order := [(1, [(0, .forced), (1, .forced), (2, .forced), (3, .forced), (4, .forced), (5, .forced), (6, .forced), (7, .forced), (8, .forced), (9, .forced), (10, .forced), (11, .read), (12, .read), (13, .forced), (14, .forced), (15, .forced), (16, .forced), (17, .forced), (18, .forced), (19, .forced), (20, .forced), (21, .read), (22, .read), (23, .read), (24, .forced), (25, .forced), (26, .forced), (27, .forced), (28, .forced)])], keepL := [(0, [1, 3])], keepX := [(0, []), (1, [1, 3])] }, mode := fun _ => .borrow }
noncomputable def O_spec_TableValid : Oracle := Oracle.of [(40, c_spec_l1In), (41, c_spec_CapValid)]
def sh_spec_TableValid_l0 : List (Nat × S2) := [(1, .one (.cdat tTable 0)), (3, .one (.dat I))]
def bs_spec_TableValid_l0 : List SB := []
noncomputable def lc_spec_TableValid_l0 : LCon := LCon.shape sh_spec_TableValid_l0 bs_spec_TableValid_l0 spec_TableValid_l0 (fun a => (.exit 0, encSt [] [] a)) (fun b => encSt [(2, .one (.dat .bool))] [] b)
noncomputable def L_spec_TableValid : Loops := Loops.of [(0, lc_spec_TableValid_l0)]
theorem r_spec_TableValid_l0 (x : FSt sh_spec_TableValid_l0 bs_spec_TableValid_l0) : roundK C_spec_TableValid.T (C_spec_TableValid.hint 22) C_spec_TableValid.mode O_spec_TableValid L_spec_TableValid 0 (lp Try.prog 22 0) (encSt sh_spec_TableValid_l0 bs_spec_TableValid_l0 x) (fun e s => some (e, s)) =
    spec_TableValid_l0K x.1 x.2.1 (fun y => some (Ex.normal, encSt sh_spec_TableValid_l0 bs_spec_TableValid_l0 y)) (fun a => some (Ex.exit 0, encSt [] [] a)) (fun b => some (Ex.ret, encSt [(2, .one (.dat .bool))] [] b)) := by kernel_rfl
theorem lo_spec_TableValid_l0 : LConOk C_spec_TableValid.T (C_spec_TableValid.hint 22) C_spec_TableValid.mode O_spec_TableValid L_spec_TableValid 0 (lp Try.prog 22 0) lc_spec_TableValid_l0 :=
  LCon.shape_ok (fun a => by simp) fun x => (r_spec_TableValid_l0 x).trans (spec_TableValid_l0_eq x.1 x.2.1 _ _ _)
theorem lf_spec_TableValid : LoopsFn Try.prog C_spec_TableValid O_spec_TableValid 22 L_spec_TableValid := LoopsFn.all (by kernel_rfl) (by decide) ⟨lo_spec_TableValid_l0, trivial⟩
def out_spec_TableValid (r : Bool) : AV × Store := out1 (.one (.dat .bool)) [] (r, ())
theorem w_spec_TableValid (x : FAr [.one (.dat tTable)] []) : evBodyK Try.prog C_spec_TableValid O_spec_TableValid L_spec_TableValid 22 (encAr [.one (.dat tTable)] [] x).1 (encAr [.one (.dat tTable)] [] x).2 (fun v s => some (v, s)) =
    spec_TableValidK x.1 (fun r => some (out_spec_TableValid r)) := by kernel_rfl
theorem sem_spec_TableValid : ∀ x y, (fun x => spec_TableValid x.1) x = some y → SemCall Try.prog 22 (encAr [.one (.dat tTable)] [] x).1 (encAr [.one (.dat tTable)] [] x).2 (out_spec_TableValid y).1 (out_spec_TableValid y).2 :=
  sem_of folP okP tabP (Oracle.of_ok (Oracle.cons_ok ok_spec_l1In (Oracle.cons_ok ok_spec_CapValid Oracle.nil_ok))) lf_spec_TableValid fun x => (w_spec_TableValid x).trans (spec_TableValid_eq x.1 _)
noncomputable def c_spec_TableValid : Con := Con.shape [.one (.dat tTable)] [] (fun x => spec_TableValid x.1) out_spec_TableValid
theorem ok_spec_TableValid : ConOk Try.prog 22 c_spec_TableValid := Con.shape_ok sem_spec_TableValid

/-! 27 -/
def C_spec_PackCap : Cfg := { T := tab, hint := fun _ => { keepR := [1, 2, 5], res := [2] }, mode := fun _ => .borrow }
noncomputable def O_spec_PackCap : Oracle := Oracle.of [(41, c_spec_CapValid)]
noncomputable def L_spec_PackCap : Loops := Loops.of []
theorem lf_spec_PackCap : LoopsFn Try.prog C_spec_PackCap O_spec_PackCap 27 L_spec_PackCap := LoopsFn.nil' (by kernel_rfl)
def out_spec_PackCap (r : Int) : AV × Store := out1 (.one (.dat I)) [] (r, ())
theorem w_spec_PackCap (x : FAr [.one (.dat tCap)] []) : evBodyK Try.prog C_spec_PackCap O_spec_PackCap L_spec_PackCap 27 (encAr [.one (.dat tCap)] [] x).1 (encAr [.one (.dat tCap)] [] x).2 (fun v s => some (v, s)) =
    spec_PackCapK x.1 (fun r => some (out_spec_PackCap r)) := by kernel_rfl
theorem sem_spec_PackCap : ∀ x y, (fun x => spec_PackCap x.1) x = some y → SemCall Try.prog 27 (encAr [.one (.dat tCap)] [] x).1 (encAr [.one (.dat tCap)] [] x).2 (out_spec_PackCap y).1 (out_spec_PackCap y).2 :=
  sem_of folP okP tabP (Oracle.of_ok (Oracle.cons_ok ok_spec_CapValid Oracle.nil_ok)) lf_spec_PackCap fun x => (w_spec_PackCap x).trans (spec_PackCap_eq x.1 _)
noncomputable def c_spec_PackCap : Con := Con.shape [.one (.dat tCap)] [] (fun x => spec_PackCap x.1) out_spec_PackCap
theorem ok_spec_PackCap : ConOk Try.prog 27 c_spec_PackCap := Con.shape_ok sem_spec_PackCap

/-! 8 -/
def C_spec_PackTable : Cfg := { T := tab, hint := fun _ => { mu := [8, 19, 35], keepR := [1, 2, 3, 4, 7, 24], res := [2], keepL := [(0, [1, 3, 4])], keepX := [(0, [3]), (1, [1, 3, 4])] }, mode := fun _ => .borrow }
noncomputable def O_spec_PackTable : Oracle := Oracle.of [(22, c_spec_TableValid), (27, c_spec_PackCap)]
def sh_spec_PackTable_l0 : List (Nat × S2) := [(1, .one (.cdat tTable 0)), (3, .one (.all 0)), (4, .one (.dat I))]
def bs_spec_PackTable_l0 : List SB := [.data I]
noncomputable def lc_spec_PackTable_l0 : LCon := LCon.shape1 sh_spec_PackTable_l0 bs_spec_PackTable_l0 spec_PackTable_l0 (fun a => (.exit 0, encSt [(3, .one (.all 0))] [.data I] a))
noncomputable def L_spec_PackTable : Loops := Loops.of [(0, lc_spec_PackTable_l0)]
theorem r_spec_PackTable_l0 (x : FSt sh_spec_PackTable_l0 bs_spec_PackTable_l0) : roundK C_spec_PackTable.T (C_spec_PackTable.hint 8) C_spec_PackTable.mode O_spec_PackTable L_spec_PackTable 0 (lp Try.prog 8 0) (encSt sh_spec_PackTable_l0 bs_spec_PackTable_l0 x) (fun e s => some (e, s)) =
    spec_PackTable_l0K x.1 x.2.1 x.2.2.1 (fun y => some (Ex.normal, encSt sh_spec_PackTable_l0 bs_spec_PackTable_l0 y)) (fun a => some (Ex.exit 0, encSt [(3, .one (.all 0))] [.data I] a)) := by kernel_rfl
theorem lo_spec_PackTable_l0 : LConOk C_spec_PackTable.T (C_spec_PackTable.hint 8) C_spec_PackTable.mode O_spec_PackTable L_spec_PackTable 0 (lp Try.prog 8 0) lc_spec_PackTable_l0 :=
  LCon.shape1_ok (fun a => by simp) fun x => (r_spec_PackTable_l0 x).trans (spec_PackTable_l0_eq x.1 x.2.1 x.2.2.1 _ _)
theorem lf_spec_PackTable : LoopsFn Try.prog C_spec_PackTable O_spec_PackTable 8 L_spec_PackTable := LoopsFn.all (by kernel_rfl) (by decide) ⟨lo_spec_PackTable_l0, trivial⟩
def out_spec_PackTable (r : (List Int)) : AV × Store := out1 (.one (.all 0)) [.data I] (r, ())
theorem w_spec_PackTable (x : FAr [.one (.dat tTable)] []) : evBodyK Try.prog C_spec_PackTable O_spec_PackTable L_spec_PackTable 8 (encAr [.one (.dat tTable)] [] x).1 (encAr [.one (.dat tTable)] [] x).2 (fun v s => some (v, s)) =
    spec_PackTableK x.1 (fun r => some (out_spec_PackTable r)) := by kernel_rfl
theorem sem_spec_PackTable : ∀ x y, (fun x => spec_PackTable x.1) x = some y → SemCall Try.prog 8 (encAr [.one (.dat tTable)] [] x).1 (encAr [.one (.dat tTable)] [] x).2 (out_spec_PackTable y).1 (out_spec_PackTable y).2 :=
  sem_of folP okP tabP (Oracle.of_ok (Oracle.cons_ok ok_spec_TableValid (Oracle.cons_ok ok_spec_PackCap Oracle.nil_ok))) lf_spec_PackTable fun x => (w_spec_PackTable x).trans (spec_PackTable_eq x.1 _)
noncomputable def c_spec_PackTable : Con := Con.shape [.one (.dat tTable)] [] (fun x => spec_PackTable x.1) out_spec_PackTable
theorem ok_spec_PackTable : ConOk Try.prog 8 c_spec_PackTable := Con.shape_ok sem_spec_PackTable

/-! 46 -/
def C_impl_in : Cfg := { T := tab, hint := fun _ => { keepR := [0, 1, 2, 6], res := [6] }, mode := fun _ => .borrow }
noncomputable def O_impl_in : Oracle := Oracle.of []
noncomputable def L_impl_in : Loops := Loops.of []
theorem lf_impl_in : LoopsFn Try.prog C_impl_in O_impl_in 46 L_impl_in := LoopsFn.nil' (by kernel_rfl)
def out_impl_in (r : Bool) : AV × Store := out1 (.one (.dat .bool)) [] (r, ())
theorem w_impl_in (x : FAr [.one (.dat I), .one (.dat I), .one (.dat I)] []) : evBodyK Try.prog C_impl_in O_impl_in L_impl_in 46 (encAr [.one (.dat I), .one (.dat I), .one (.dat I)] [] x).1 (encAr [.one (.dat I), .one (.dat I), .one (.dat I)] [] x).2 (fun v s => some (v, s)) =
    impl_inK x.1 x.2.1 x.2.2.1 (fun r => some (out_impl_in r)) := by kernel_rfl
theorem sem_impl_in : ∀ x y, (fun x => impl_in x.1 x.2.1 x.2.2.1) x = some y → SemCall Try.prog 46 (encAr [.one (.dat I), .one (.dat I), .one (.dat I)] [] x).1 (encAr [.one (.dat I), .one (.dat I), .one (.dat I)] [] x).2 (out_impl_in y).1 (out_impl_in y).2 :=
  sem_of folP okP tabP (Oracle.of_ok Oracle.nil_ok) lf_impl_in fun x => (w_impl_in x).trans (impl_in_eq x.1 x.2.1 x.2.2.1 _)
noncomputable def c_impl_in : Con := Con.shape [.one (.dat I), .one (.dat I), .one (.dat I)] [] (fun x => impl_in x.1 x.2.1 x.2.2.1) out_impl_in
theorem ok_impl_in : ConOk Try.prog 46 c_impl_in := Con.shape_ok sem_impl_in

/-! 60 -/
def C_impl_isObject : Cfg := { T := tab, hint := fun _ => { keepR := [0, 2], res := [2] }, mode := fun _ => .borrow }
noncomputable def O_impl_isObject : Oracle := Oracle.of [(46, c_impl_in)]
noncomputable def L_impl_isObject : Loops := Loops.of []
theorem lf_impl_isObject : LoopsFn Try.prog C_impl_isObject O_impl_isObject 60 L_impl_isObject := LoopsFn.nil' (by kernel_rfl)
def out_impl_isObject (r : Bool) : AV × Store := out1 (.one (.dat .bool)) [] (r, ())
theorem w_impl_isObject (x : FAr [.one (.dat I)] []) : evBodyK Try.prog C_impl_isObject O_impl_isObject L_impl_isObject 60 (encAr [.one (.dat I)] [] x).1 (encAr [.one (.dat I)] [] x).2 (fun v s => some (v, s)) =
    impl_isObjectK x.1 (fun r => some (out_impl_isObject r)) := by kernel_rfl
theorem sem_impl_isObject : ∀ x y, (fun x => impl_isObject x.1) x = some y → SemCall Try.prog 60 (encAr [.one (.dat I)] [] x).1 (encAr [.one (.dat I)] [] x).2 (out_impl_isObject y).1 (out_impl_isObject y).2 :=
  sem_of folP okP tabP (Oracle.of_ok (Oracle.cons_ok ok_impl_in Oracle.nil_ok)) lf_impl_isObject fun x => (w_impl_isObject x).trans (impl_isObject_eq x.1 _)
noncomputable def c_impl_isObject : Con := Con.shape [.one (.dat I)] [] (fun x => impl_isObject x.1) out_impl_isObject
theorem ok_impl_isObject : ConOk Try.prog 60 c_impl_isObject := Con.shape_ok sem_impl_isObject

/-! 55 -/
def C_impl_RightsValid : Cfg := { T := tab, hint := fun _ => { keepR := [0, 2], res := [2] }, mode := fun _ => .borrow }
noncomputable def O_impl_RightsValid : Oracle := Oracle.of [(46, c_impl_in)]
noncomputable def L_impl_RightsValid : Loops := Loops.of []
theorem lf_impl_RightsValid : LoopsFn Try.prog C_impl_RightsValid O_impl_RightsValid 55 L_impl_RightsValid := LoopsFn.nil' (by kernel_rfl)
def out_impl_RightsValid (r : Bool) : AV × Store := out1 (.one (.dat .bool)) [] (r, ())
theorem w_impl_RightsValid (x : FAr [.one (.dat I)] []) : evBodyK Try.prog C_impl_RightsValid O_impl_RightsValid L_impl_RightsValid 55 (encAr [.one (.dat I)] [] x).1 (encAr [.one (.dat I)] [] x).2 (fun v s => some (v, s)) =
    impl_RightsValidK x.1 (fun r => some (out_impl_RightsValid r)) := by kernel_rfl
theorem sem_impl_RightsValid : ∀ x y, (fun x => impl_RightsValid x.1) x = some y → SemCall Try.prog 55 (encAr [.one (.dat I)] [] x).1 (encAr [.one (.dat I)] [] x).2 (out_impl_RightsValid y).1 (out_impl_RightsValid y).2 :=
  sem_of folP okP tabP (Oracle.of_ok (Oracle.cons_ok ok_impl_in Oracle.nil_ok)) lf_impl_RightsValid fun x => (w_impl_RightsValid x).trans (impl_RightsValid_eq x.1 _)
noncomputable def c_impl_RightsValid : Con := Con.shape [.one (.dat I)] [] (fun x => impl_RightsValid x.1) out_impl_RightsValid
theorem ok_impl_RightsValid : ConOk Try.prog 55 c_impl_RightsValid := Con.shape_ok sem_impl_RightsValid

/-! 61 -/
def C_impl_badged : Cfg := { T := tab, hint := fun _ => { keepR := [0, 2], res := [2] }, mode := fun _ => .borrow }
noncomputable def O_impl_badged : Oracle := Oracle.of []
noncomputable def L_impl_badged : Loops := Loops.of []
theorem lf_impl_badged : LoopsFn Try.prog C_impl_badged O_impl_badged 61 L_impl_badged := LoopsFn.nil' (by kernel_rfl)
def out_impl_badged (r : Bool) : AV × Store := out1 (.one (.dat .bool)) [] (r, ())
theorem w_impl_badged (x : FAr [.one (.dat I)] []) : evBodyK Try.prog C_impl_badged O_impl_badged L_impl_badged 61 (encAr [.one (.dat I)] [] x).1 (encAr [.one (.dat I)] [] x).2 (fun v s => some (v, s)) =
    impl_badgedK x.1 (fun r => some (out_impl_badged r)) := by kernel_rfl
theorem sem_impl_badged : ∀ x y, (fun x => impl_badged x.1) x = some y → SemCall Try.prog 61 (encAr [.one (.dat I)] [] x).1 (encAr [.one (.dat I)] [] x).2 (out_impl_badged y).1 (out_impl_badged y).2 :=
  sem_of folP okP tabP (Oracle.of_ok Oracle.nil_ok) lf_impl_badged fun x => (w_impl_badged x).trans (impl_badged_eq x.1 _)
noncomputable def c_impl_badged : Con := Con.shape [.one (.dat I)] [] (fun x => impl_badged x.1) out_impl_badged
theorem ok_impl_badged : ConOk Try.prog 61 c_impl_badged := Con.shape_ok sem_impl_badged

/-! 48 -/
def C_impl_CapValid : Cfg := { T := tab, hint := fun _ => { keepR := [1, 2, 5], res := [2] }, mode := fun _ => .borrow }
noncomputable def O_impl_CapValid : Oracle := Oracle.of [(46, c_impl_in), (55, c_impl_RightsValid), (60, c_impl_isObject), (61, c_impl_badged)]
noncomputable def L_impl_CapValid : Loops := Loops.of []
theorem lf_impl_CapValid : LoopsFn Try.prog C_impl_CapValid O_impl_CapValid 48 L_impl_CapValid := LoopsFn.nil' (by kernel_rfl)
def out_impl_CapValid (r : Bool) : AV × Store := out1 (.one (.dat .bool)) [] (r, ())
theorem w_impl_CapValid (x : FAr [.one (.dat tCap)] []) : evBodyK Try.prog C_impl_CapValid O_impl_CapValid L_impl_CapValid 48 (encAr [.one (.dat tCap)] [] x).1 (encAr [.one (.dat tCap)] [] x).2 (fun v s => some (v, s)) =
    impl_CapValidK x.1 (fun r => some (out_impl_CapValid r)) := by kernel_rfl
theorem sem_impl_CapValid : ∀ x y, (fun x => impl_CapValid x.1) x = some y → SemCall Try.prog 48 (encAr [.one (.dat tCap)] [] x).1 (encAr [.one (.dat tCap)] [] x).2 (out_impl_CapValid y).1 (out_impl_CapValid y).2 :=
  sem_of folP okP tabP (Oracle.of_ok (Oracle.cons_ok ok_impl_in (Oracle.cons_ok ok_impl_RightsValid (Oracle.cons_ok ok_impl_isObject (Oracle.cons_ok ok_impl_badged Oracle.nil_ok))))) lf_impl_CapValid fun x => (w_impl_CapValid x).trans (impl_CapValid_eq x.1 _)
noncomputable def c_impl_CapValid : Con := Con.shape [.one (.dat tCap)] [] (fun x => impl_CapValid x.1) out_impl_CapValid
theorem ok_impl_CapValid : ConOk Try.prog 48 c_impl_CapValid := Con.shape_ok sem_impl_CapValid

/-! 59 -/
def C_impl_anyInvalid_c1 : Cfg := { T := tab, hint := fun _ => { keepR := [1, 2], res := [2] }, mode := fun _ => .borrow }
noncomputable def O_impl_anyInvalid_c1 : Oracle := Oracle.of [(48, c_impl_CapValid)]
noncomputable def L_impl_anyInvalid_c1 : Loops := Loops.of []
theorem lf_impl_anyInvalid_c1 : LoopsFn Try.prog C_impl_anyInvalid_c1 O_impl_anyInvalid_c1 59 L_impl_anyInvalid_c1 := LoopsFn.nil' (by kernel_rfl)
def out_impl_anyInvalid_c1 (r : Bool) : AV × Store := out1 (.one (.dat .bool)) [] (r, ())
theorem w_impl_anyInvalid_c1 (x : FAr [.one (.dat tCap)] []) : evBodyK Try.prog C_impl_anyInvalid_c1 O_impl_anyInvalid_c1 L_impl_anyInvalid_c1 59 (encAr [.one (.dat tCap)] [] x).1 (encAr [.one (.dat tCap)] [] x).2 (fun v s => some (v, s)) =
    impl_anyInvalid_c1K x.1 (fun r => some (out_impl_anyInvalid_c1 r)) := by kernel_rfl
theorem sem_impl_anyInvalid_c1 : ∀ x y, (fun x => impl_anyInvalid_c1 x.1) x = some y → SemCall Try.prog 59 (encAr [.one (.dat tCap)] [] x).1 (encAr [.one (.dat tCap)] [] x).2 (out_impl_anyInvalid_c1 y).1 (out_impl_anyInvalid_c1 y).2 :=
  sem_of folP okP tabP (Oracle.of_ok (Oracle.cons_ok ok_impl_CapValid Oracle.nil_ok)) lf_impl_anyInvalid_c1 fun x => (w_impl_anyInvalid_c1 x).trans (impl_anyInvalid_c1_eq x.1 _)
noncomputable def c_impl_anyInvalid_c1 : Con := Con.shape [.one (.dat tCap)] [] (fun x => impl_anyInvalid_c1 x.1) out_impl_anyInvalid_c1
theorem ok_impl_anyInvalid_c1 : ConOk Try.prog 59 c_impl_anyInvalid_c1 := Con.shape_ok sem_impl_anyInvalid_c1

/-! 64 -/
def C_slices_IndexFunc_Cap : Cfg := { T := tab, hint := fun _ => { keepR := [0, 1, 4, 5, 7, 8, 9, 16], res := [4], keepL := [(0, [0, 1, 7, 8])], keepX := [(0, []), (1, [0, 1, 7, 8])] }, mode := fun _ => .borrow }
noncomputable def O_slices_IndexFunc_Cap : Oracle := Oracle.of [(59, c_impl_anyInvalid_c1)]
def sh_slices_IndexFunc_Cap_l0 : List (Nat × S2) := [(0, .one (.dat (.sl tCap))), (1, .fn 59 []), (7, .one (.dat I)), (8, .one (.dat I))]
def bs_slices_IndexFunc_Cap_l0 : List SB := []
noncomputable def lc_slices_IndexFunc_Cap_l0 : LCon := LCon.shape sh_slices_IndexFunc_Cap_l0 bs_slices_IndexFunc_Cap_l0 slices_IndexFunc_Cap_l0 (fun a => (.exit 0, encSt [] [] a)) (fun b => encSt [(4, .one (.dat I))] [] b)
noncomputable def L_slices_IndexFunc_Cap : Loops := Loops.of [(0, lc_slices_IndexFunc_Cap_l0)]
theorem r_slices_IndexFunc_Cap_l0 (x : FSt sh_slices_IndexFunc_Cap_l0 bs_slices_IndexFunc_Cap_l0) : roundK C_slices_IndexFunc_Cap.T (C_slices_IndexFunc_Cap.hint 64) C_slices_IndexFunc_Cap.mode O_slices_IndexFunc_Cap L_slices_IndexFunc_Cap 0 (lp Try.prog 64 0) (encSt sh_slices_IndexFunc_Cap_l0 bs_slices_IndexFunc_Cap_l0 x) (fun e s => some (e, s)) =
    slices_IndexFunc_Cap_l0K x.1 x.2.1 x.2.2.1 (fun y => some (Ex.normal, encSt sh_slices_IndexFunc_Cap_l0 bs_slices_IndexFunc_Cap_l0 y)) (fun a => some (Ex.exit 0, encSt [] [] a)) (fun b => some (Ex.ret, encSt [(4, .one (.dat I))] [] b)) := by kernel_rfl
theorem lo_slices_IndexFunc_Cap_l0 : LConOk C_slices_IndexFunc_Cap.T (C_slices_IndexFunc_Cap.hint 64) C_slices_IndexFunc_Cap.mode O_slices_IndexFunc_Cap L_slices_IndexFunc_Cap 0 (lp Try.prog 64 0) lc_slices_IndexFunc_Cap_l0 :=
  LCon.shape_ok (fun a => by simp) fun x => (r_slices_IndexFunc_Cap_l0 x).trans (slices_IndexFunc_Cap_l0_eq x.1 x.2.1 x.2.2.1 _ _ _)
theorem lf_slices_IndexFunc_Cap : LoopsFn Try.prog C_slices_IndexFunc_Cap O_slices_IndexFunc_Cap 64 L_slices_IndexFunc_Cap := LoopsFn.all (by kernel_rfl) (by decide) ⟨lo_slices_IndexFunc_Cap_l0, trivial⟩
def out_slices_IndexFunc_Cap (r : Int) : AV × Store := out1 (.one (.dat I)) [] (r, ())
theorem w_slices_IndexFunc_Cap (x : FAr [.one (.dat (.sl tCap)), .fn 59 []] []) : evBodyK Try.prog C_slices_IndexFunc_Cap O_slices_IndexFunc_Cap L_slices_IndexFunc_Cap 64 (encAr [.one (.dat (.sl tCap)), .fn 59 []] [] x).1 (encAr [.one (.dat (.sl tCap)), .fn 59 []] [] x).2 (fun v s => some (v, s)) =
    slices_IndexFunc_CapK x.1 (fun r => some (out_slices_IndexFunc_Cap r)) := by kernel_rfl
theorem sem_slices_IndexFunc_Cap : ∀ x y, (fun x => slices_IndexFunc_Cap x.1) x = some y → SemCall Try.prog 64 (encAr [.one (.dat (.sl tCap)), .fn 59 []] [] x).1 (encAr [.one (.dat (.sl tCap)), .fn 59 []] [] x).2 (out_slices_IndexFunc_Cap y).1 (out_slices_IndexFunc_Cap y).2 :=
  sem_of folP okP tabP (Oracle.of_ok (Oracle.cons_ok ok_impl_anyInvalid_c1 Oracle.nil_ok)) lf_slices_IndexFunc_Cap fun x => (w_slices_IndexFunc_Cap x).trans (slices_IndexFunc_Cap_eq x.1 _)
noncomputable def c_slices_IndexFunc_Cap : Con := Con.shape [.one (.dat (.sl tCap)), .fn 59 []] [] (fun x => slices_IndexFunc_Cap x.1) out_slices_IndexFunc_Cap
theorem ok_slices_IndexFunc_Cap : ConOk Try.prog 64 c_slices_IndexFunc_Cap := Con.shape_ok sem_slices_IndexFunc_Cap

/-! 58 -/
def C_slices_ContainsFunc_Cap : Cfg := { T := tab, hint := fun _ => { keepR := [0, 1, 4], res := [4] }, mode := fun _ => .borrow }
noncomputable def O_slices_ContainsFunc_Cap : Oracle := Oracle.of [(64, c_slices_IndexFunc_Cap)]
noncomputable def L_slices_ContainsFunc_Cap : Loops := Loops.of []
theorem lf_slices_ContainsFunc_Cap : LoopsFn Try.prog C_slices_ContainsFunc_Cap O_slices_ContainsFunc_Cap 58 L_slices_ContainsFunc_Cap := LoopsFn.nil' (by kernel_rfl)
def out_slices_ContainsFunc_Cap (r : Bool) : AV × Store := out1 (.one (.dat .bool)) [] (r, ())
theorem w_slices_ContainsFunc_Cap (x : FAr [.one (.dat (.sl tCap)), .fn 59 []] []) : evBodyK Try.prog C_slices_ContainsFunc_Cap O_slices_ContainsFunc_Cap L_slices_ContainsFunc_Cap 58 (encAr [.one (.dat (.sl tCap)), .fn 59 []] [] x).1 (encAr [.one (.dat (.sl tCap)), .fn 59 []] [] x).2 (fun v s => some (v, s)) =
    slices_ContainsFunc_CapK x.1 (fun r => some (out_slices_ContainsFunc_Cap r)) := by kernel_rfl
theorem sem_slices_ContainsFunc_Cap : ∀ x y, (fun x => slices_ContainsFunc_Cap x.1) x = some y → SemCall Try.prog 58 (encAr [.one (.dat (.sl tCap)), .fn 59 []] [] x).1 (encAr [.one (.dat (.sl tCap)), .fn 59 []] [] x).2 (out_slices_ContainsFunc_Cap y).1 (out_slices_ContainsFunc_Cap y).2 :=
  sem_of folP okP tabP (Oracle.of_ok (Oracle.cons_ok ok_slices_IndexFunc_Cap Oracle.nil_ok)) lf_slices_ContainsFunc_Cap fun x => (w_slices_ContainsFunc_Cap x).trans (slices_ContainsFunc_Cap_eq x.1 _)
noncomputable def c_slices_ContainsFunc_Cap : Con := Con.shape [.one (.dat (.sl tCap)), .fn 59 []] [] (fun x => slices_ContainsFunc_Cap x.1) out_slices_ContainsFunc_Cap
theorem ok_slices_ContainsFunc_Cap : ConOk Try.prog 58 c_slices_ContainsFunc_Cap := Con.shape_ok sem_slices_ContainsFunc_Cap

/-! 47 -/
def C_impl_anyInvalid : Cfg := { T := tab, hint := fun _ => { keepR := [0, 2], res := [2] }, mode := fun _ => .borrow }
noncomputable def O_impl_anyInvalid : Oracle := Oracle.of [(58, c_slices_ContainsFunc_Cap)]
noncomputable def L_impl_anyInvalid : Loops := Loops.of []
theorem lf_impl_anyInvalid : LoopsFn Try.prog C_impl_anyInvalid O_impl_anyInvalid 47 L_impl_anyInvalid := LoopsFn.nil' (by kernel_rfl)
def out_impl_anyInvalid (r : Bool) : AV × Store := out1 (.one (.dat .bool)) [] (r, ())
theorem w_impl_anyInvalid (x : FAr [.one (.dat (.sl tCap))] []) : evBodyK Try.prog C_impl_anyInvalid O_impl_anyInvalid L_impl_anyInvalid 47 (encAr [.one (.dat (.sl tCap))] [] x).1 (encAr [.one (.dat (.sl tCap))] [] x).2 (fun v s => some (v, s)) =
    impl_anyInvalidK x.1 (fun r => some (out_impl_anyInvalid r)) := by kernel_rfl
theorem sem_impl_anyInvalid : ∀ x y, (fun x => impl_anyInvalid x.1) x = some y → SemCall Try.prog 47 (encAr [.one (.dat (.sl tCap))] [] x).1 (encAr [.one (.dat (.sl tCap))] [] x).2 (out_impl_anyInvalid y).1 (out_impl_anyInvalid y).2 :=
  sem_of folP okP tabP (Oracle.of_ok (Oracle.cons_ok ok_slices_ContainsFunc_Cap Oracle.nil_ok)) lf_impl_anyInvalid fun x => (w_impl_anyInvalid x).trans (impl_anyInvalid_eq x.1 _)
noncomputable def c_impl_anyInvalid : Con := Con.shape [.one (.dat (.sl tCap))] [] (fun x => impl_anyInvalid x.1) out_impl_anyInvalid
theorem ok_impl_anyInvalid : ConOk Try.prog 47 c_impl_anyInvalid := Con.shape_ok sem_impl_anyInvalid

/-! 29 -/
def C_impl_TableValid : Cfg := { T := tab, hint := fun _ => { keepR := [1, 2], res := [2], order := [(1, [(0, .forced), (1, .forced), (2, .forced), (3, .forced), (4, .forced), (5, .forced), (6, .forced), (7, .forced), (8, .forced), (9, .read), (10, .read), (11, .forced), (12, .forced), (13, .forced), (14, .forced), (15, .forced), (16, .forced), (17, .forced), (18, .read), (19, .read), (20, .read), (21, .forced), (22, .forced), (23, .forced), (24, .forced), (25, .forced), (26, .forced), (27, .forced), (28, .forced), (29, .forced), (30, .forced), (31, .forced), (32, .forced)])] }, mode := fun _ => .borrow }
noncomputable def O_impl_TableValid : Oracle := Oracle.of [(46, c_impl_in), (47, c_impl_anyInvalid)]
noncomputable def L_impl_TableValid : Loops := Loops.of []
theorem lf_impl_TableValid : LoopsFn Try.prog C_impl_TableValid O_impl_TableValid 29 L_impl_TableValid := LoopsFn.nil' (by kernel_rfl)
def out_impl_TableValid (r : Bool) : AV × Store := out1 (.one (.dat .bool)) [] (r, ())
theorem w_impl_TableValid (x : FAr [.one (.dat tTable)] []) : evBodyK Try.prog C_impl_TableValid O_impl_TableValid L_impl_TableValid 29 (encAr [.one (.dat tTable)] [] x).1 (encAr [.one (.dat tTable)] [] x).2 (fun v s => some (v, s)) =
    impl_TableValidK x.1 (fun r => some (out_impl_TableValid r)) := by kernel_rfl
theorem sem_impl_TableValid : ∀ x y, (fun x => impl_TableValid x.1) x = some y → SemCall Try.prog 29 (encAr [.one (.dat tTable)] [] x).1 (encAr [.one (.dat tTable)] [] x).2 (out_impl_TableValid y).1 (out_impl_TableValid y).2 :=
  sem_of folP okP tabP (Oracle.of_ok (Oracle.cons_ok ok_impl_in (Oracle.cons_ok ok_impl_anyInvalid Oracle.nil_ok))) lf_impl_TableValid fun x => (w_impl_TableValid x).trans (impl_TableValid_eq x.1 _)
noncomputable def c_impl_TableValid : Con := Con.shape [.one (.dat tTable)] [] (fun x => impl_TableValid x.1) out_impl_TableValid
theorem ok_impl_TableValid : ConOk Try.prog 29 c_impl_TableValid := Con.shape_ok sem_impl_TableValid

/-! 30 -/
def C_impl_PackCap : Cfg := { T := tab, hint := fun _ => { keepR := [1, 2, 5], res := [2] }, mode := fun _ => .borrow }
noncomputable def O_impl_PackCap : Oracle := Oracle.of [(48, c_impl_CapValid)]
noncomputable def L_impl_PackCap : Loops := Loops.of []
theorem lf_impl_PackCap : LoopsFn Try.prog C_impl_PackCap O_impl_PackCap 30 L_impl_PackCap := LoopsFn.nil' (by kernel_rfl)
def out_impl_PackCap (r : Int) : AV × Store := out1 (.one (.dat I)) [] (r, ())
theorem w_impl_PackCap (x : FAr [.one (.dat tCap)] []) : evBodyK Try.prog C_impl_PackCap O_impl_PackCap L_impl_PackCap 30 (encAr [.one (.dat tCap)] [] x).1 (encAr [.one (.dat tCap)] [] x).2 (fun v s => some (v, s)) =
    impl_PackCapK x.1 (fun r => some (out_impl_PackCap r)) := by kernel_rfl
theorem sem_impl_PackCap : ∀ x y, (fun x => impl_PackCap x.1) x = some y → SemCall Try.prog 30 (encAr [.one (.dat tCap)] [] x).1 (encAr [.one (.dat tCap)] [] x).2 (out_impl_PackCap y).1 (out_impl_PackCap y).2 :=
  sem_of folP okP tabP (Oracle.of_ok (Oracle.cons_ok ok_impl_CapValid Oracle.nil_ok)) lf_impl_PackCap fun x => (w_impl_PackCap x).trans (impl_PackCap_eq x.1 _)
noncomputable def c_impl_PackCap : Con := Con.shape [.one (.dat tCap)] [] (fun x => impl_PackCap x.1) out_impl_PackCap
theorem ok_impl_PackCap : ConOk Try.prog 30 c_impl_PackCap := Con.shape_ok sem_impl_PackCap

/-! 31 -/
def C_slices_Clip_int : Cfg := { T := tab, hint := fun _ => { mu := [8], keepR := [0, 2], res := [2], base := 1 }, mode := fun _ => .borrow }
noncomputable def O_slices_Clip_int : Oracle := Oracle.of []
noncomputable def L_slices_Clip_int : Loops := Loops.of []
theorem lf_slices_Clip_int : LoopsFn Try.prog C_slices_Clip_int O_slices_Clip_int 31 L_slices_Clip_int := LoopsFn.nil' (by kernel_rfl)
def out_slices_Clip_int (r : (List Int)) : AV × Store := out1 (.one (.all 0)) [.data I] (r, ())
theorem w_slices_Clip_int (x : FAr [.one (.all 0)] [.data I]) : evBodyK Try.prog C_slices_Clip_int O_slices_Clip_int L_slices_Clip_int 31 (encAr [.one (.all 0)] [.data I] x).1 (encAr [.one (.all 0)] [.data I] x).2 (fun v s => some (v, s)) =
    slices_Clip_intK x.1 (fun r => some (out_slices_Clip_int r)) := by kernel_rfl
theorem sem_slices_Clip_int : ∀ x y, (fun x => slices_Clip_int x.1) x = some y → SemCall Try.prog 31 (encAr [.one (.all 0)] [.data I] x).1 (encAr [.one (.all 0)] [.data I] x).2 (out_slices_Clip_int y).1 (out_slices_Clip_int y).2 :=
  sem_of folP okP tabP (Oracle.of_ok Oracle.nil_ok) lf_slices_Clip_int fun x => (w_slices_Clip_int x).trans (slices_Clip_int_eq x.1 _)
noncomputable def c_slices_Clip_int : Con := Con.shape [.one (.all 0)] [.data I] (fun x => slices_Clip_int x.1) out_slices_Clip_int
theorem ok_slices_Clip_int : ConOk Try.prog 31 c_slices_Clip_int := Con.shape_ok sem_slices_Clip_int

/-! 10 -/
def C_impl_PackTable : Cfg := { T := tab, hint := fun _ => { mu := [2, 5, 19, 31], keepR := [1, 2, 3, 5, 8, 21, 22, 23, 24], res := [2], keepL := [(0, [3, 21, 22, 23])], keepX := [(0, [3]), (1, [3, 21, 22, 23])] }, mode := modeOf [(31, .sub)] }
noncomputable def O_impl_PackTable : Oracle := Oracle.of [(29, c_impl_TableValid), (30, c_impl_PackCap), (31, c_slices_Clip_int)]
def sh_impl_PackTable_l0 : List (Nat × S2) := [(3, .one (.all 0)), (21, .one (.dat (.sl tCap))), (22, .one (.dat I)), (23, .one (.dat I))]
def bs_impl_PackTable_l0 : List SB := [.data I]
noncomputable def lc_impl_PackTable_l0 : LCon := LCon.shape1 sh_impl_PackTable_l0 bs_impl_PackTable_l0 impl_PackTable_l0 (fun a => (.exit 0, encSt [(3, .one (.all 0))] [.data I] a))
noncomputable def L_impl_PackTable : Loops := Loops.of [(0, lc_impl_PackTable_l0)]
theorem r_impl_PackTable_l0 (x : FSt sh_impl_PackTable_l0 bs_impl_PackTable_l0) : roundK C_impl_PackTable.T (C_impl_PackTable.hint 10) C_impl_PackTable.mode O_impl_PackTable L_impl_PackTable 0 (lp Try.prog 10 0) (encSt sh_impl_PackTable_l0 bs_impl_PackTable_l0 x) (fun e s => some (e, s)) =
    impl_PackTable_l0K x.1 x.2.1 x.2.2.1 x.2.2.2.1 (fun y => some (Ex.normal, encSt sh_impl_PackTable_l0 bs_impl_PackTable_l0 y)) (fun a => some (Ex.exit 0, encSt [(3, .one (.all 0))] [.data I] a)) := by kernel_rfl
theorem lo_impl_PackTable_l0 : LConOk C_impl_PackTable.T (C_impl_PackTable.hint 10) C_impl_PackTable.mode O_impl_PackTable L_impl_PackTable 0 (lp Try.prog 10 0) lc_impl_PackTable_l0 :=
  LCon.shape1_ok (fun a => by simp) fun x => (r_impl_PackTable_l0 x).trans (impl_PackTable_l0_eq x.1 x.2.1 x.2.2.1 x.2.2.2.1 _ _)
theorem lf_impl_PackTable : LoopsFn Try.prog C_impl_PackTable O_impl_PackTable 10 L_impl_PackTable := LoopsFn.all (by kernel_rfl) (by decide) ⟨lo_impl_PackTable_l0, trivial⟩
def out_impl_PackTable (r : (List Int)) : AV × Store := out1 (.one (.all 0)) [.data I] (r, ())
theorem w_impl_PackTable (x : FAr [.one (.dat tTable)] []) : evBodyK Try.prog C_impl_PackTable O_impl_PackTable L_impl_PackTable 10 (encAr [.one (.dat tTable)] [] x).1 (encAr [.one (.dat tTable)] [] x).2 (fun v s => some (v, s)) =
    impl_PackTableK x.1 (fun r => some (out_impl_PackTable r)) := by kernel_rfl
theorem sem_impl_PackTable : ∀ x y, (fun x => impl_PackTable x.1) x = some y → SemCall Try.prog 10 (encAr [.one (.dat tTable)] [] x).1 (encAr [.one (.dat tTable)] [] x).2 (out_impl_PackTable y).1 (out_impl_PackTable y).2 :=
  sem_of folP okP tabP (Oracle.of_ok (Oracle.cons_ok ok_impl_TableValid (Oracle.cons_ok ok_impl_PackCap (Oracle.cons_ok ok_slices_Clip_int Oracle.nil_ok)))) lf_impl_PackTable fun x => (w_impl_PackTable x).trans (impl_PackTable_eq x.1 _)
noncomputable def c_impl_PackTable : Con := Con.shape [.one (.dat tTable)] [] (fun x => impl_PackTable x.1) out_impl_PackTable
theorem ok_impl_PackTable : ConOk Try.prog 10 c_impl_PackTable := Con.shape_ok sem_impl_PackTable

/-! 11 -/
def C_laws_eqIntS : Cfg := { T := tab, hint := fun _ => { keepR := [0, 1, 4, 5, 10, 14, 25], res := [4], order := [(6, [(0, .read), (1, .read), (2, .read), (3, .read), (4, .read), (5, .forced), (6, .forced), (7, .forced), (8, .forced)])], keepL := [(0, [0, 1, 5])], keepX := [(0, []), (1, [0, 1, 5])] }, mode := fun _ => .borrow }
noncomputable def O_laws_eqIntS : Oracle := Oracle.of []
def sh_laws_eqIntS_l0 : List (Nat × S2) := [(0, .one (.dat (.sl I))), (1, .one (.dat (.sl I))), (5, .one (.dat I))]
def bs_laws_eqIntS_l0 : List SB := []
noncomputable def lc_laws_eqIntS_l0 : LCon := LCon.shape sh_laws_eqIntS_l0 bs_laws_eqIntS_l0 laws_eqIntS_l0 (fun a => (.exit 0, encSt [] [] a)) (fun b => encSt [(4, .one (.dat .bool))] [] b)
noncomputable def L_laws_eqIntS : Loops := Loops.of [(0, lc_laws_eqIntS_l0)]
theorem r_laws_eqIntS_l0 (x : FSt sh_laws_eqIntS_l0 bs_laws_eqIntS_l0) : roundK C_laws_eqIntS.T (C_laws_eqIntS.hint 11) C_laws_eqIntS.mode O_laws_eqIntS L_laws_eqIntS 0 (lp Try.prog 11 0) (encSt sh_laws_eqIntS_l0 bs_laws_eqIntS_l0 x) (fun e s => some (e, s)) =
    laws_eqIntS_l0K x.1 x.2.1 x.2.2.1 (fun y => some (Ex.normal, encSt sh_laws_eqIntS_l0 bs_laws_eqIntS_l0 y)) (fun a => some (Ex.exit 0, encSt [] [] a)) (fun b => some (Ex.ret, encSt [(4, .one (.dat .bool))] [] b)) := by kernel_rfl
theorem lo_laws_eqIntS_l0 : LConOk C_laws_eqIntS.T (C_laws_eqIntS.hint 11) C_laws_eqIntS.mode O_laws_eqIntS L_laws_eqIntS 0 (lp Try.prog 11 0) lc_laws_eqIntS_l0 :=
  LCon.shape_ok (fun a => by simp) fun x => (r_laws_eqIntS_l0 x).trans (laws_eqIntS_l0_eq x.1 x.2.1 x.2.2.1 _ _ _)
theorem lf_laws_eqIntS : LoopsFn Try.prog C_laws_eqIntS O_laws_eqIntS 11 L_laws_eqIntS := LoopsFn.all (by kernel_rfl) (by decide) ⟨lo_laws_eqIntS_l0, trivial⟩
def out_laws_eqIntS (r : Bool) : AV × Store := out1 (.one (.dat .bool)) [] (r, ())
theorem w_laws_eqIntS (x : FAr [.one (.dat (.sl I)), .one (.dat (.sl I))] []) : evBodyK Try.prog C_laws_eqIntS O_laws_eqIntS L_laws_eqIntS 11 (encAr [.one (.dat (.sl I)), .one (.dat (.sl I))] [] x).1 (encAr [.one (.dat (.sl I)), .one (.dat (.sl I))] [] x).2 (fun v s => some (v, s)) =
    laws_eqIntSK x.1 x.2.1 (fun r => some (out_laws_eqIntS r)) := by kernel_rfl
theorem sem_laws_eqIntS : ∀ x y, (fun x => laws_eqIntS x.1 x.2.1) x = some y → SemCall Try.prog 11 (encAr [.one (.dat (.sl I)), .one (.dat (.sl I))] [] x).1 (encAr [.one (.dat (.sl I)), .one (.dat (.sl I))] [] x).2 (out_laws_eqIntS y).1 (out_laws_eqIntS y).2 :=
  sem_of folP okP tabP (Oracle.of_ok Oracle.nil_ok) lf_laws_eqIntS fun x => (w_laws_eqIntS x).trans (laws_eqIntS_eq x.1 x.2.1 _)
noncomputable def c_laws_eqIntS : Con := Con.shape [.one (.dat (.sl I)), .one (.dat (.sl I))] [] (fun x => laws_eqIntS x.1 x.2.1) out_laws_eqIntS
theorem ok_laws_eqIntS : ConOk Try.prog 11 c_laws_eqIntS := Con.shape_ok sem_laws_eqIntS

/-! 49 -/
def C_laws_eqCap : Cfg := { T := tab, hint := fun _ => { keepR := [2, 3, 4, 9, 14, 19, 24], res := [4] }, mode := fun _ => .borrow }
noncomputable def O_laws_eqCap : Oracle := Oracle.of []
noncomputable def L_laws_eqCap : Loops := Loops.of []
theorem lf_laws_eqCap : LoopsFn Try.prog C_laws_eqCap O_laws_eqCap 49 L_laws_eqCap := LoopsFn.nil' (by kernel_rfl)
def out_laws_eqCap (r : Bool) : AV × Store := out1 (.one (.dat .bool)) [] (r, ())
theorem w_laws_eqCap (x : FAr [.one (.dat tCap), .one (.dat tCap)] []) : evBodyK Try.prog C_laws_eqCap O_laws_eqCap L_laws_eqCap 49 (encAr [.one (.dat tCap), .one (.dat tCap)] [] x).1 (encAr [.one (.dat tCap), .one (.dat tCap)] [] x).2 (fun v s => some (v, s)) =
    laws_eqCapK x.1 x.2.1 (fun r => some (out_laws_eqCap r)) := by kernel_rfl
theorem sem_laws_eqCap : ∀ x y, (fun x => laws_eqCap x.1 x.2.1) x = some y → SemCall Try.prog 49 (encAr [.one (.dat tCap), .one (.dat tCap)] [] x).1 (encAr [.one (.dat tCap), .one (.dat tCap)] [] x).2 (out_laws_eqCap y).1 (out_laws_eqCap y).2 :=
  sem_of folP okP tabP (Oracle.of_ok Oracle.nil_ok) lf_laws_eqCap fun x => (w_laws_eqCap x).trans (laws_eqCap_eq x.1 x.2.1 _)
noncomputable def c_laws_eqCap : Con := Con.shape [.one (.dat tCap), .one (.dat tCap)] [] (fun x => laws_eqCap x.1 x.2.1) out_laws_eqCap
theorem ok_laws_eqCap : ConOk Try.prog 49 c_laws_eqCap := Con.shape_ok sem_laws_eqCap

/-! 32 -/
def C_laws_eqCapS : Cfg := { T := tab, hint := fun _ => { keepR := [0, 1, 4, 5, 10, 14, 26], res := [4], order := [(6, [(0, .read), (1, .read), (2, .read), (3, .read), (4, .read), (5, .forced), (6, .forced), (7, .forced), (8, .forced), (9, .forced)])], keepL := [(0, [0, 1, 5])], keepX := [(0, []), (1, [0, 1, 5])] }, mode := fun _ => .borrow }
noncomputable def O_laws_eqCapS : Oracle := Oracle.of [(49, c_laws_eqCap)]
def sh_laws_eqCapS_l0 : List (Nat × S2) := [(0, .one (.dat (.sl tCap))), (1, .one (.dat (.sl tCap))), (5, .one (.dat I))]
def bs_laws_eqCapS_l0 : List SB := []
noncomputable def lc_laws_eqCapS_l0 : LCon := LCon.shape sh_laws_eqCapS_l0 bs_laws_eqCapS_l0 laws_eqCapS_l0 (fun a => (.exit 0, encSt [] [] a)) (fun b => encSt [(4, .one (.dat .bool))] [] b)
noncomputable def L_laws_eqCapS : Loops := Loops.of [(0, lc_laws_eqCapS_l0)]
theorem r_laws_eqCapS_l0 (x : FSt sh_laws_eqCapS_l0 bs_laws_eqCapS_l0) : roundK C_laws_eqCapS.T (C_laws_eqCapS.hint 32) C_laws_eqCapS.mode O_laws_eqCapS L_laws_eqCapS 0 (lp Try.prog 32 0) (encSt sh_laws_eqCapS_l0 bs_laws_eqCapS_l0 x) (fun e s => some (e, s)) =
    laws_eqCapS_l0K x.1 x.2.1 x.2.2.1 (fun y => some (Ex.normal, encSt sh_laws_eqCapS_l0 bs_laws_eqCapS_l0 y)) (fun a => some (Ex.exit 0, encSt [] [] a)) (fun b => some (Ex.ret, encSt [(4, .one (.dat .bool))] [] b)) := by kernel_rfl
theorem lo_laws_eqCapS_l0 : LConOk C_laws_eqCapS.T (C_laws_eqCapS.hint 32) C_laws_eqCapS.mode O_laws_eqCapS L_laws_eqCapS 0 (lp Try.prog 32 0) lc_laws_eqCapS_l0 :=
  LCon.shape_ok (fun a => by simp) fun x => (r_laws_eqCapS_l0 x).trans (laws_eqCapS_l0_eq x.1 x.2.1 x.2.2.1 _ _ _)
theorem lf_laws_eqCapS : LoopsFn Try.prog C_laws_eqCapS O_laws_eqCapS 32 L_laws_eqCapS := LoopsFn.all (by kernel_rfl) (by decide) ⟨lo_laws_eqCapS_l0, trivial⟩
def out_laws_eqCapS (r : Bool) : AV × Store := out1 (.one (.dat .bool)) [] (r, ())
theorem w_laws_eqCapS (x : FAr [.one (.dat (.sl tCap)), .one (.dat (.sl tCap))] []) : evBodyK Try.prog C_laws_eqCapS O_laws_eqCapS L_laws_eqCapS 32 (encAr [.one (.dat (.sl tCap)), .one (.dat (.sl tCap))] [] x).1 (encAr [.one (.dat (.sl tCap)), .one (.dat (.sl tCap))] [] x).2 (fun v s => some (v, s)) =
    laws_eqCapSK x.1 x.2.1 (fun r => some (out_laws_eqCapS r)) := by kernel_rfl
theorem sem_laws_eqCapS : ∀ x y, (fun x => laws_eqCapS x.1 x.2.1) x = some y → SemCall Try.prog 32 (encAr [.one (.dat (.sl tCap)), .one (.dat (.sl tCap))] [] x).1 (encAr [.one (.dat (.sl tCap)), .one (.dat (.sl tCap))] [] x).2 (out_laws_eqCapS y).1 (out_laws_eqCapS y).2 :=
  sem_of folP okP tabP (Oracle.of_ok (Oracle.cons_ok ok_laws_eqCap Oracle.nil_ok)) lf_laws_eqCapS fun x => (w_laws_eqCapS x).trans (laws_eqCapS_eq x.1 x.2.1 _)
noncomputable def c_laws_eqCapS : Con := Con.shape [.one (.dat (.sl tCap)), .one (.dat (.sl tCap))] [] (fun x => laws_eqCapS x.1 x.2.1) out_laws_eqCapS
theorem ok_laws_eqCapS : ConOk Try.prog 32 c_laws_eqCapS := Con.shape_ok sem_laws_eqCapS

/-! 12 -/
def C_laws_eqTable : Cfg := { T := tab, hint := fun _ => { keepR := [2, 3, 4, 9, 14, 19, 25], res := [4] }, mode := fun _ => .borrow }
noncomputable def O_laws_eqTable : Oracle := Oracle.of [(32, c_laws_eqCapS)]
noncomputable def L_laws_eqTable : Loops := Loops.of []
theorem lf_laws_eqTable : LoopsFn Try.prog C_laws_eqTable O_laws_eqTable 12 L_laws_eqTable := LoopsFn.nil' (by kernel_rfl)
def out_laws_eqTable (r : Bool) : AV × Store := out1 (.one (.dat .bool)) [] (r, ())
theorem w_laws_eqTable (x : FAr [.one (.dat tTable), .one (.dat tTable)] []) : evBodyK Try.prog C_laws_eqTable O_laws_eqTable L_laws_eqTable 12 (encAr [.one (.dat tTable), .one (.dat tTable)] [] x).1 (encAr [.one (.dat tTable), .one (.dat tTable)] [] x).2 (fun v s => some (v, s)) =
    laws_eqTableK x.1 x.2.1 (fun r => some (out_laws_eqTable r)) := by kernel_rfl
theorem sem_laws_eqTable : ∀ x y, (fun x => laws_eqTable x.1 x.2.1) x = some y → SemCall Try.prog 12 (encAr [.one (.dat tTable), .one (.dat tTable)] [] x).1 (encAr [.one (.dat tTable), .one (.dat tTable)] [] x).2 (out_laws_eqTable y).1 (out_laws_eqTable y).2 :=
  sem_of folP okP tabP (Oracle.of_ok (Oracle.cons_ok ok_laws_eqCapS Oracle.nil_ok)) lf_laws_eqTable fun x => (w_laws_eqTable x).trans (laws_eqTable_eq x.1 x.2.1 _)
noncomputable def c_laws_eqTable : Con := Con.shape [.one (.dat tTable), .one (.dat tTable)] [] (fun x => laws_eqTable x.1 x.2.1) out_laws_eqTable
theorem ok_laws_eqTable : ConOk Try.prog 12 c_laws_eqTable := Con.shape_ok sem_laws_eqTable

/-! 33 -/
def C_laws_markCapS : Cfg := { T := tab, hint := fun _ => { keepR := [0, 1, 4, 5, 9], res := [4], base := 1, keepL := [(0, [0, 1, 5])], keepX := [(0, [1]), (1, [0, 1, 5])] }, mode := fun _ => .borrow }
noncomputable def O_laws_markCapS : Oracle := Oracle.of []
def sh_laws_markCapS_l0 : List (Nat × S2) := [(0, .one (.all 0)), (1, .one (.dat I)), (5, .one (.dat I))]
def bs_laws_markCapS_l0 : List SB := [.data tCap]
noncomputable def lc_laws_markCapS_l0 : LCon := LCon.shape1 sh_laws_markCapS_l0 bs_laws_markCapS_l0 laws_markCapS_l0 (fun a => (.exit 0, encSt [(1, .one (.dat I))] [.data tCap] a))
noncomputable def L_laws_markCapS : Loops := Loops.of [(0, lc_laws_markCapS_l0)]
theorem r_laws_markCapS_l0 (x : FSt sh_laws_markCapS_l0 bs_laws_markCapS_l0) : roundK C_laws_markCapS.T (C_laws_markCapS.hint 33) C_laws_markCapS.mode O_laws_markCapS L_laws_markCapS 0 (lp Try.prog 33 0) (encSt sh_laws_markCapS_l0 bs_laws_markCapS_l0 x) (fun e s => some (e, s)) =
    laws_markCapS_l0K x.1 x.2.1 x.2.2.1 (fun y => some (Ex.normal, encSt sh_laws_markCapS_l0 bs_laws_markCapS_l0 y)) (fun a => some (Ex.exit 0, encSt [(1, .one (.dat I))] [.data tCap] a)) := by kernel_rfl
theorem lo_laws_markCapS_l0 : LConOk C_laws_markCapS.T (C_laws_markCapS.hint 33) C_laws_markCapS.mode O_laws_markCapS L_laws_markCapS 0 (lp Try.prog 33 0) lc_laws_markCapS_l0 :=
  LCon.shape1_ok (fun a => by simp) fun x => (r_laws_markCapS_l0 x).trans (laws_markCapS_l0_eq x.1 x.2.1 x.2.2.1 _ _)
theorem lf_laws_markCapS : LoopsFn Try.prog C_laws_markCapS O_laws_markCapS 33 L_laws_markCapS := LoopsFn.all (by kernel_rfl) (by decide) ⟨lo_laws_markCapS_l0, trivial⟩
def out_laws_markCapS (r : Int × (List DCap)) : AV × Store := out1 (.one (.dat I)) [.data tCap] (r.1, r.2, ())
theorem w_laws_markCapS (x : FAr [.one (.all 0), .one (.dat I)] [.data tCap]) : evBodyK Try.prog C_laws_markCapS O_laws_markCapS L_laws_markCapS 33 (encAr [.one (.all 0), .one (.dat I)] [.data tCap] x).1 (encAr [.one (.all 0), .one (.dat I)] [.data tCap] x).2 (fun v s => some (v, s)) =
    laws_markCapSK x.1 x.2.1 (fun r => some (out_laws_markCapS r)) := by kernel_rfl
theorem sem_laws_markCapS : ∀ x y, (fun x => laws_markCapS x.1 x.2.1) x = some y → SemCall Try.prog 33 (encAr [.one (.all 0), .one (.dat I)] [.data tCap] x).1 (encAr [.one (.all 0), .one (.dat I)] [.data tCap] x).2 (out_laws_markCapS y).1 (out_laws_markCapS y).2 :=
  sem_of folP okP tabP (Oracle.of_ok Oracle.nil_ok) lf_laws_markCapS fun x => (w_laws_markCapS x).trans (laws_markCapS_eq x.1 x.2.1 _)
noncomputable def c_laws_markCapS : Con := Con.shape [.one (.all 0), .one (.dat I)] [.data tCap] (fun x => laws_markCapS x.1 x.2.1) out_laws_markCapS
theorem ok_laws_markCapS : ConOk Try.prog 33 c_laws_markCapS := Con.shape_ok sem_laws_markCapS

/-! 13 -/
def C_laws_markTable : Cfg := { T := tab, hint := fun _ => { mu := [2], keepR := [1, 2, 4], res := [4], base := 1 }, mode := modeOf [(33, .sub)] }
noncomputable def O_laws_markTable : Oracle := Oracle.of [(33, c_laws_markCapS)]
noncomputable def L_laws_markTable : Loops := Loops.of []
theorem lf_laws_markTable : LoopsFn Try.prog C_laws_markTable O_laws_markTable 13 L_laws_markTable := LoopsFn.nil' (by kernel_rfl)
def out_laws_markTable (r : Int × (List DCap)) : AV × Store := out1 (.one (.dat I)) [.data tCap] (r.1, r.2, ())
theorem w_laws_markTable (x : FAr [.agg [.dat I, .dat I, .dat I, .all 0], .one (.dat I)] [.data tCap]) : evBodyK Try.prog C_laws_markTable O_laws_markTable L_laws_markTable 13 (encAr [.agg [.dat I, .dat I, .dat I, .all 0], .one (.dat I)] [.data tCap] x).1 (encAr [.agg [.dat I, .dat I, .dat I, .all 0], .one (.dat I)] [.data tCap] x).2 (fun v s => some (v, s)) =
    laws_markTableK x.1 x.2.1 x.2.2.1 x.2.2.2.1 x.2.2.2.2.1 (fun r => some (out_laws_markTable r)) := by kernel_rfl
theorem sem_laws_markTable : ∀ x y, (fun x => laws_markTable x.1 x.2.1 x.2.2.1 x.2.2.2.1 x.2.2.2.2.1) x = some y → SemCall Try.prog 13 (encAr [.agg [.dat I, .dat I, .dat I, .all 0], .one (.dat I)] [.data tCap] x).1 (encAr [.agg [.dat I, .dat I, .dat I, .all 0], .one (.dat I)] [.data tCap] x).2 (out_laws_markTable y).1 (out_laws_markTable y).2 :=
  sem_of folP okP tabP (Oracle.of_ok (Oracle.cons_ok ok_laws_markCapS Oracle.nil_ok)) lf_laws_markTable fun x => (w_laws_markTable x).trans (laws_markTable_eq x.1 x.2.1 x.2.2.1 x.2.2.2.1 x.2.2.2.2.1 _)
noncomputable def c_laws_markTable : Con := Con.shape [.agg [.dat I, .dat I, .dat I, .all 0], .one (.dat I)] [.data tCap] (fun x => laws_markTable x.1 x.2.1 x.2.2.1 x.2.2.2.1 x.2.2.2.2.1) out_laws_markTable
theorem ok_laws_markTable : ConOk Try.prog 13 c_laws_markTable := Con.shape_ok sem_laws_markTable

/-! 14 -/
def C_laws_markIntS : Cfg := { T := tab, hint := fun _ => { keepR := [0, 1, 4, 5, 9], res := [4], base := 1, keepL := [(0, [0, 1, 5])], keepX := [(0, [1]), (1, [0, 1, 5])] }, mode := fun _ => .borrow }
noncomputable def O_laws_markIntS : Oracle := Oracle.of []
def sh_laws_markIntS_l0 : List (Nat × S2) := [(0, .one (.all 0)), (1, .one (.dat I)), (5, .one (.dat I))]
def bs_laws_markIntS_l0 : List SB := [.data I]
noncomputable def lc_laws_markIntS_l0 : LCon := LCon.shape1 sh_laws_markIntS_l0 bs_laws_markIntS_l0 laws_markIntS_l0 (fun a => (.exit 0, encSt [(1, .one (.dat I))] [.data I] a))
noncomputable def L_laws_markIntS : Loops := Loops.of [(0, lc_laws_markIntS_l0)]
theorem r_laws_markIntS_l0 (x : FSt sh_laws_markIntS_l0 bs_laws_markIntS_l0) : roundK C_laws_markIntS.T (C_laws_markIntS.hint 14) C_laws_markIntS.mode O_laws_markIntS L_laws_markIntS 0 (lp Try.prog 14 0) (encSt sh_laws_markIntS_l0 bs_laws_markIntS_l0 x) (fun e s => some (e, s)) =
    laws_markIntS_l0K x.1 x.2.1 x.2.2.1 (fun y => some (Ex.normal, encSt sh_laws_markIntS_l0 bs_laws_markIntS_l0 y)) (fun a => some (Ex.exit 0, encSt [(1, .one (.dat I))] [.data I] a)) := by kernel_rfl
theorem lo_laws_markIntS_l0 : LConOk C_laws_markIntS.T (C_laws_markIntS.hint 14) C_laws_markIntS.mode O_laws_markIntS L_laws_markIntS 0 (lp Try.prog 14 0) lc_laws_markIntS_l0 :=
  LCon.shape1_ok (fun a => by simp) fun x => (r_laws_markIntS_l0 x).trans (laws_markIntS_l0_eq x.1 x.2.1 x.2.2.1 _ _)
theorem lf_laws_markIntS : LoopsFn Try.prog C_laws_markIntS O_laws_markIntS 14 L_laws_markIntS := LoopsFn.all (by kernel_rfl) (by decide) ⟨lo_laws_markIntS_l0, trivial⟩
def out_laws_markIntS (r : Int × (List Int)) : AV × Store := out1 (.one (.dat I)) [.data I] (r.1, r.2, ())
theorem w_laws_markIntS (x : FAr [.one (.all 0), .one (.dat I)] [.data I]) : evBodyK Try.prog C_laws_markIntS O_laws_markIntS L_laws_markIntS 14 (encAr [.one (.all 0), .one (.dat I)] [.data I] x).1 (encAr [.one (.all 0), .one (.dat I)] [.data I] x).2 (fun v s => some (v, s)) =
    laws_markIntSK x.1 x.2.1 (fun r => some (out_laws_markIntS r)) := by kernel_rfl
theorem sem_laws_markIntS : ∀ x y, (fun x => laws_markIntS x.1 x.2.1) x = some y → SemCall Try.prog 14 (encAr [.one (.all 0), .one (.dat I)] [.data I] x).1 (encAr [.one (.all 0), .one (.dat I)] [.data I] x).2 (out_laws_markIntS y).1 (out_laws_markIntS y).2 :=
  sem_of folP okP tabP (Oracle.of_ok Oracle.nil_ok) lf_laws_markIntS fun x => (w_laws_markIntS x).trans (laws_markIntS_eq x.1 x.2.1 _)
noncomputable def c_laws_markIntS : Con := Con.shape [.one (.all 0), .one (.dat I)] [.data I] (fun x => laws_markIntS x.1 x.2.1) out_laws_markIntS
theorem ok_laws_markIntS : ConOk Try.prog 14 c_laws_markIntS := Con.shape_ok sem_laws_markIntS

/-! 15 -/
def C_laws_heldIntS : Cfg := { T := tab, hint := fun _ => { keepR := [0, 1, 4, 5, 9, 17], res := [4], keepL := [(0, [0, 1, 5])], keepX := [(0, [1]), (1, [0, 1, 5])] }, mode := fun _ => .borrow }
noncomputable def O_laws_heldIntS : Oracle := Oracle.of []
def sh_laws_heldIntS_l0 : List (Nat × S2) := [(0, .one (.dat (.sl I))), (1, .one (.dat I)), (5, .one (.dat I))]
def bs_laws_heldIntS_l0 : List SB := []
noncomputable def lc_laws_heldIntS_l0 : LCon := LCon.shape sh_laws_heldIntS_l0 bs_laws_heldIntS_l0 laws_heldIntS_l0 (fun a => (.exit 0, encSt [(1, .one (.dat I))] [] a)) (fun b => encSt [(4, .one (.dat I))] [] b)
noncomputable def L_laws_heldIntS : Loops := Loops.of [(0, lc_laws_heldIntS_l0)]
theorem r_laws_heldIntS_l0 (x : FSt sh_laws_heldIntS_l0 bs_laws_heldIntS_l0) : roundK C_laws_heldIntS.T (C_laws_heldIntS.hint 15) C_laws_heldIntS.mode O_laws_heldIntS L_laws_heldIntS 0 (lp Try.prog 15 0) (encSt sh_laws_heldIntS_l0 bs_laws_heldIntS_l0 x) (fun e s => some (e, s)) =
    laws_heldIntS_l0K x.1 x.2.1 x.2.2.1 (fun y => some (Ex.normal, encSt sh_laws_heldIntS_l0 bs_laws_heldIntS_l0 y)) (fun a => some (Ex.exit 0, encSt [(1, .one (.dat I))] [] a)) (fun b => some (Ex.ret, encSt [(4, .one (.dat I))] [] b)) := by kernel_rfl
theorem lo_laws_heldIntS_l0 : LConOk C_laws_heldIntS.T (C_laws_heldIntS.hint 15) C_laws_heldIntS.mode O_laws_heldIntS L_laws_heldIntS 0 (lp Try.prog 15 0) lc_laws_heldIntS_l0 :=
  LCon.shape_ok (fun a => by simp) fun x => (r_laws_heldIntS_l0 x).trans (laws_heldIntS_l0_eq x.1 x.2.1 x.2.2.1 _ _ _)
theorem lf_laws_heldIntS : LoopsFn Try.prog C_laws_heldIntS O_laws_heldIntS 15 L_laws_heldIntS := LoopsFn.all (by kernel_rfl) (by decide) ⟨lo_laws_heldIntS_l0, trivial⟩
def out_laws_heldIntS (r : Int) : AV × Store := out1 (.one (.dat I)) [] (r, ())
theorem w_laws_heldIntS (x : FAr [.one (.dat (.sl I)), .one (.dat I)] []) : evBodyK Try.prog C_laws_heldIntS O_laws_heldIntS L_laws_heldIntS 15 (encAr [.one (.dat (.sl I)), .one (.dat I)] [] x).1 (encAr [.one (.dat (.sl I)), .one (.dat I)] [] x).2 (fun v s => some (v, s)) =
    laws_heldIntSK x.1 x.2.1 (fun r => some (out_laws_heldIntS r)) := by kernel_rfl
theorem sem_laws_heldIntS : ∀ x y, (fun x => laws_heldIntS x.1 x.2.1) x = some y → SemCall Try.prog 15 (encAr [.one (.dat (.sl I)), .one (.dat I)] [] x).1 (encAr [.one (.dat (.sl I)), .one (.dat I)] [] x).2 (out_laws_heldIntS y).1 (out_laws_heldIntS y).2 :=
  sem_of folP okP tabP (Oracle.of_ok Oracle.nil_ok) lf_laws_heldIntS fun x => (w_laws_heldIntS x).trans (laws_heldIntS_eq x.1 x.2.1 _)
noncomputable def c_laws_heldIntS : Con := Con.shape [.one (.dat (.sl I)), .one (.dat I)] [] (fun x => laws_heldIntS x.1 x.2.1) out_laws_heldIntS
theorem ok_laws_heldIntS : ConOk Try.prog 15 c_laws_heldIntS := Con.shape_ok sem_laws_heldIntS

/-! 3 -/
def C_laws_FnExactPackTable : Cfg := { T := tab, hint := fun _ => { mu := [5, 20, 22], keepR := [1, 2, 3, 4, 5, 6, 7, 8, 9, 10, 15, 26, 31, 42, 50, 53, 60, 65, 68], res := [2], order := [(10, [(0, .read), (1, .forced), (2, .forced), (3, .forced), (4, .forced)])] }, mode := modeOf [(13, .sub), (14, .sub)] }
noncomputable def O_laws_FnExactPackTable : Oracle := Oracle.of [(7, c_laws_szTable), (8, c_spec_PackTable), (9, c_laws_toTable), (10, c_impl_PackTable), (11, c_laws_eqIntS), (12, c_laws_eqTable), (13, c_laws_markTable), (14, c_laws_markIntS), (15, c_laws_heldIntS)]
noncomputable def L_laws_FnExactPackTable : Loops := Loops.of []
theorem lf_laws_FnExactPackTable : LoopsFn Try.prog C_laws_FnExactPackTable O_laws_FnExactPackTable 3 L_laws_FnExactPackTable := LoopsFn.nil' (by kernel_rfl)
def out_laws_FnExactPackTable (r : Bool) : AV × Store := out1 (.one (.dat .bool)) [] (r, ())
theorem w_laws_FnExactPackTable (x : FAr [.one (.dat tTable)] []) : evBodyK Try.prog C_laws_FnExactPackTable O_laws_FnExactPackTable L_laws_FnExactPackTable 3 (encAr [.one (.dat tTable)] [] x).1 (encAr [.one (.dat tTable)] [] x).2 (fun v s => some (v, s)) =
    laws_FnExactPackTableK x.1 (fun r => some (out_laws_FnExactPackTable r)) := by kernel_rfl
theorem sem_laws_FnExactPackTable : ∀ x y, (fun x => laws_FnExactPackTable x.1) x = some y → SemCall Try.prog 3 (encAr [.one (.dat tTable)] [] x).1 (encAr [.one (.dat tTable)] [] x).2 (out_laws_FnExactPackTable y).1 (out_laws_FnExactPackTable y).2 :=
  sem_of folP okP tabP (Oracle.of_ok (Oracle.cons_ok ok_laws_szTable (Oracle.cons_ok ok_spec_PackTable (Oracle.cons_ok ok_laws_toTable (Oracle.cons_ok ok_impl_PackTable (Oracle.cons_ok ok_laws_eqIntS (Oracle.cons_ok ok_laws_eqTable (Oracle.cons_ok ok_laws_markTable (Oracle.cons_ok ok_laws_markIntS (Oracle.cons_ok ok_laws_heldIntS Oracle.nil_ok)))))))))) lf_laws_FnExactPackTable fun x => (w_laws_FnExactPackTable x).trans (laws_FnExactPackTable_eq x.1 _)
noncomputable def c_laws_FnExactPackTable : Con := Con.shape [.one (.dat tTable)] [] (fun x => laws_FnExactPackTable x.1) out_laws_FnExactPackTable
theorem ok_laws_FnExactPackTable : ConOk Try.prog 3 c_laws_FnExactPackTable := Con.shape_ok sem_laws_FnExactPackTable

/-! 17 -/
def C_laws_toIntS : Cfg := { T := tab, hint := fun _ => { mu := [7], keepR := [0, 2, 3, 4, 11], res := [2], keepL := [(0, [0, 3, 4])], keepX := [(0, [3]), (1, [0, 3, 4])] }, mode := fun _ => .borrow }
noncomputable def O_laws_toIntS : Oracle := Oracle.of []
def sh_laws_toIntS_l0 : List (Nat × S2) := [(0, .one (.dat (.sl I))), (3, .one (.all 0)), (4, .one (.dat I))]
def bs_laws_toIntS_l0 : List SB := [.data I]
noncomputable def lc_laws_toIntS_l0 : LCon := LCon.shape1 sh_laws_toIntS_l0 bs_laws_toIntS_l0 laws_toIntS_l0 (fun a => (.exit 0, encSt [(3, .one (.all 0))] [.data I] a))
noncomputable def L_laws_toIntS : Loops := Loops.of [(0, lc_laws_toIntS_l0)]
theorem r_laws_toIntS_l0 (x : FSt sh_laws_toIntS_l0 bs_laws_toIntS_l0) : roundK C_laws_toIntS.T (C_laws_toIntS.hint 17) C_laws_toIntS.mode O_laws_toIntS L_laws_toIntS 0 (lp Try.prog 17 0) (encSt sh_laws_toIntS_l0 bs_laws_toIntS_l0 x) (fun e s => some (e, s)) =
    laws_toIntS_l0K x.1 x.2.1 x.2.2.1 (fun y => some (Ex.normal, encSt sh_laws_toIntS_l0 bs_laws_toIntS_l0 y)) (fun a => some (Ex.exit 0, encSt [(3, .one (.all 0))] [.data I] a)) := by kernel_rfl
theorem lo_laws_toIntS_l0 : LConOk C_laws_toIntS.T (C_laws_toIntS.hint 17) C_laws_toIntS.mode O_laws_toIntS L_laws_toIntS 0 (lp Try.prog 17 0) lc_laws_toIntS_l0 :=
  LCon.shape1_ok (fun a => by simp) fun x => (r_laws_toIntS_l0 x).trans (laws_toIntS_l0_eq x.1 x.2.1 x.2.2.1 _ _)
theorem lf_laws_toIntS : LoopsFn Try.prog C_laws_toIntS O_laws_toIntS 17 L_laws_toIntS := LoopsFn.all (by kernel_rfl) (by decide) ⟨lo_laws_toIntS_l0, trivial⟩
def out_laws_toIntS (r : (List Int)) : AV × Store := out1 (.one (.all 0)) [.data I] (r, ())
theorem w_laws_toIntS (x : FAr [.one (.dat (.sl I))] []) : evBodyK Try.prog C_laws_toIntS O_laws_toIntS L_laws_toIntS 17 (encAr [.one (.dat (.sl I))] [] x).1 (encAr [.one (.dat (.sl I))] [] x).2 (fun v s => some (v, s)) =
    laws_toIntSK x.1 (fun r => some (out_laws_toIntS r)) := by kernel_rfl
theorem sem_laws_toIntS : ∀ x y, (fun x => laws_toIntS x.1) x = some y → SemCall Try.prog 17 (encAr [.one (.dat (.sl I))] [] x).1 (encAr [.one (.dat (.sl I))] [] x).2 (out_laws_toIntS y).1 (out_laws_toIntS y).2 :=
  sem_of folP okP tabP (Oracle.of_ok Oracle.nil_ok) lf_laws_toIntS fun x => (w_laws_toIntS x).trans (laws_toIntS_eq x.1 _)
noncomputable def c_laws_toIntS : Con := Con.shape [.one (.dat (.sl I))] [] (fun x => laws_toIntS x.1) out_laws_toIntS
theorem ok_laws_toIntS : ConOk Try.prog 17 c_laws_toIntS := Con.shape_ok sem_laws_toIntS

/-! 34 -/
def C_spec_UnpackCap : Cfg := { T := tab, hint := fun _ => { mu := [2, 4], keepR := [0, 2, 3, 4, 6, 21], res := [2, 3] }, mode := fun _ => .borrow }
noncomputable def O_spec_UnpackCap : Oracle := Oracle.of [(41, c_spec_CapValid)]
noncomputable def L_spec_UnpackCap : Loops := Loops.of []
theorem lf_spec_UnpackCap : LoopsFn Try.prog C_spec_UnpackCap O_spec_UnpackCap 34 L_spec_UnpackCap := LoopsFn.nil' (by kernel_rfl)
def out_spec_UnpackCap (r : DCap × Bool) : AV × Store := outT [.one (.dat tCap), .one (.dat .bool)] [] (r.1, r.2, ())
theorem w_spec_UnpackCap (x : FAr [.one (.dat I)] []) : evBodyK Try.prog C_spec_UnpackCap O_spec_UnpackCap L_spec_UnpackCap 34 (encAr [.one (.dat I)] [] x).1 (encAr [.one (.dat I)] [] x).2 (fun v s => some (v, s)) =
    spec_UnpackCapK x.1 (fun r => some (out_spec_UnpackCap r)) := by kernel_rfl
theorem sem_spec_UnpackCap : ∀ x y, (fun x => spec_UnpackCap x.1) x = some y → SemCall Try.prog 34 (encAr [.one (.dat I)] [] x).1 (encAr [.one (.dat I)] [] x).2 (out_spec_UnpackCap y).1 (out_spec_UnpackCap y).2 :=
  sem_of folP okP tabP (Oracle.of_ok (Oracle.cons_ok ok_spec_CapValid Oracle.nil_ok)) lf_spec_UnpackCap fun x => (w_spec_UnpackCap x).trans (spec_UnpackCap_eq x.1 _)
noncomputable def c_spec_UnpackCap : Con := Con.shape [.one (.dat I)] [] (fun x => spec_UnpackCap x.1) out_spec_UnpackCap
theorem ok_spec_UnpackCap : ConOk Try.prog 34 c_spec_UnpackCap := Con.shape_ok sem_spec_UnpackCap

/-! 16 -/
def C_spec_UnpackTable : Cfg := { T := tab, hint := fun _ => { mu := [2, 4, 6, 53], keepR := [0, 2, 3, 4, 5, 6, 7, 16, 35, 47, 57], res := [2, 3], order := [(3, [(0, .read), (1, .read), (2, .read), (3, .read), (4, .read), (5, .read), (6, .read), (7, .read), (8, .read), (9, .read), (10, .read), (11, .read), (12, .read), (13, .read), (14, .forced), (15, .forced)])], keepL := [(0, [0, 2, 4, 5])], keepX := [(0, [2, 4]), (1, [0, 2, 4, 5])], fill := [(0, [0, 2, 4, 5])], fillR := true }, mode := fun _ => .borrow }
noncomputable def O_spec_UnpackTable : Oracle := Oracle.of [(22, c_spec_TableValid), (34, c_spec_UnpackCap)]
def sh_spec_UnpackTable_l0 : List (Nat × S2) := [(0, .one (.dat (.sl I))), (2, .one (.ptr 0 0 0)), (4, .one (.ptr 1 0 0)), (5, .one (.dat I))]
def bs_spec_UnpackTable_l0 : List SB := [.var [.dat I, .dat I, .dat I, .all 2], .var [.dat I, .dat I, .dat I, .all 3], .data tCap, .data tCap]
noncomputable def lc_spec_UnpackTable_l0 : LCon := LCon.shape sh_spec_UnpackTable_l0 bs_spec_UnpackTable_l0 spec_UnpackTable_l0 (fun a => (.exit 0, encSt [(2, .one (.ptr 0 0 0)), (4, .one (.ptr 1 0 0))] [.var [.dat I, .dat I, .dat I, .all 2], .var [.dat I, .dat I, .dat I, .all 3], .data tCap, .data tCap] a)) (fun b => encSt [(2, .one (.ptr 0 0 0)), (3, .one (.dat .bool))] [.var [.dat I, .dat I, .dat I, .all 1], .data tCap] b)
noncomputable def L_spec_UnpackTable : Loops := Loops.of [(0, lc_spec_UnpackTable_l0)]
theorem r_spec_UnpackTable_l0 (x : FSt sh_spec_UnpackTable_l0 bs_spec_UnpackTable_l0) : roundK C_spec_UnpackTable.T (C_spec_UnpackTable.hint 16) C_spec_UnpackTable.mode O_spec_UnpackTable L_spec_UnpackTable 0 (lp Try.prog 16 0) (encSt sh_spec_UnpackTable_l0 bs_spec_UnpackTable_l0 x) (fun e s => some (e, s)) =
    spec_UnpackTable_l0K x.1 x.2.1 x.2.2.1 x.2.2.2.1 x.2.2.2.2.1 x.2.2.2.2.2.1 x.2.2.2.2.2.2.1 x.2.2.2.2.2.2.2.1 x.2.2.2.2.2.2.2.2.1 x.2.2.2.2.2.2.2.2.2.1 (fun y => some (Ex.normal, encSt sh_spec_UnpackTable_l0 bs_spec_UnpackTable_l0 y)) (fun a => some (Ex.exit 0, encSt [(2, .one (.ptr 0 0 0)), (4, .one (.ptr 1 0 0))] [.var [.dat I, .dat I, .dat I, .all 2], .var [.dat I, .dat I, .dat I, .all 3], .data tCap, .data tCap] a)) (fun b => some (Ex.ret, encSt [(2, .one (.ptr 0 0 0)), (3, .one (.dat .bool))] [.var [.dat I, .dat I, .dat I, .all 1], .data tCap] b)) := by kernel_rfl
theorem lo_spec_UnpackTable_l0 : LConOk C_spec_UnpackTable.T (C_spec_UnpackTable.hint 16) C_spec_UnpackTable.mode O_spec_UnpackTable L_spec_UnpackTable 0 (lp Try.prog 16 0) lc_spec_UnpackTable_l0 :=
  LCon.shape_ok (fun a => by simp) fun x => (r_spec_UnpackTable_l0 x).trans (spec_UnpackTable_l0_eq x.1 x.2.1 x.2.2.1 x.2.2.2.1 x.2.2.2.2.1 x.2.2.2.2.2.1 x.2.2.2.2.2.2.1 x.2.2.2.2.2.2.2.1 x.2.2.2.2.2.2.2.2.1 x.2.2.2.2.2.2.2.2.2.1 _ _ _)
theorem lf_spec_UnpackTable : LoopsFn Try.prog C_spec_UnpackTable O_spec_UnpackTable 16 L_spec_UnpackTable := LoopsFn.all (by kernel_rfl) (by decide) ⟨lo_spec_UnpackTable_l0, trivial⟩
def out_spec_UnpackTable (r : Int × Int × Int × Bool × (List DCap)) : AV × Store := outT [.agg [.dat I, .dat I, .dat I, .all 0], .one (.dat .bool)] [.data tCap] (r.1, r.2.1, r.2.2.1, r.2.2.2.1, r.2.2.2.2, ())
theorem w_spec_UnpackTable (x : FAr [.one (.dat (.sl I))] []) : evBodyK Try.prog C_spec_UnpackTable O_spec_UnpackTable L_spec_UnpackTable 16 (encAr [.one (.dat (.sl I))] [] x).1 (encAr [.one (.dat (.sl I))] [] x).2 (fun v s => some (v, s)) =
    spec_UnpackTableK x.1 (fun r => some (out_spec_UnpackTable r)) := by kernel_rfl
theorem sem_spec_UnpackTable : ∀ x y, (fun x => spec_UnpackTable x.1) x = some y → SemCall Try.prog 16 (encAr [.one (.dat (.sl I))] [] x).1 (encAr [.one (.dat (.sl I))] [] x).2 (out_spec_UnpackTable y).1 (out_spec_UnpackTable y).2 :=
  sem_of folP okP tabP (Oracle.of_ok (Oracle.cons_ok ok_spec_TableValid (Oracle.cons_ok ok_spec_UnpackCap Oracle.nil_ok))) lf_spec_UnpackTable fun x => (w_spec_UnpackTable x).trans (spec_UnpackTable_eq x.1 _)
noncomputable def c_spec_UnpackTable : Con := Con.shape [.one (.dat (.sl I))] [] (fun x => spec_UnpackTable x.1) out_spec_UnpackTable
theorem ok_spec_UnpackTable : ConOk Try.prog 16 c_spec_UnpackTable := Con.shape_ok sem_spec_UnpackTable

/-! 35 -/
def C_impl_UnpackCap : Cfg := { T := tab, hint := fun _ => { mu := [2, 4], keepR := [0, 2, 3, 4, 6, 22], res := [2, 3] }, mode := fun _ => .borrow }
noncomputable def O_impl_UnpackCap : Oracle := Oracle.of [(30, c_impl_PackCap)]
noncomputable def L_impl_UnpackCap : Loops := Loops.of []
theorem lf_impl_UnpackCap : LoopsFn Try.prog C_impl_UnpackCap O_impl_UnpackCap 35 L_impl_UnpackCap := LoopsFn.nil' (by kernel_rfl)
def out_impl_UnpackCap (r : DCap × Bool) : AV × Store := outT [.one (.dat tCap), .one (.dat .bool)] [] (r.1, r.2, ())
theorem w_impl_UnpackCap (x : FAr [.one (.dat I)] []) : evBodyK Try.prog C_impl_UnpackCap O_impl_UnpackCap L_impl_UnpackCap 35 (encAr [.one (.dat I)] [] x).1 (encAr [.one (.dat I)] [] x).2 (fun v s => some (v, s)) =
    impl_UnpackCapK x.1 (fun r => some (out_impl_UnpackCap r)) := by kernel_rfl
theorem sem_impl_UnpackCap : ∀ x y, (fun x => impl_UnpackCap x.1) x = some y → SemCall Try.prog 35 (encAr [.one (.dat I)] [] x).1 (encAr [.one (.dat I)] [] x).2 (out_impl_UnpackCap y).1 (out_impl_UnpackCap y).2 :=
  sem_of folP okP tabP (Oracle.of_ok (Oracle.cons_ok ok_impl_PackCap Oracle.nil_ok)) lf_impl_UnpackCap fun x => (w_impl_UnpackCap x).trans (impl_UnpackCap_eq x.1 _)
noncomputable def c_impl_UnpackCap : Con := Con.shape [.one (.dat I)] [] (fun x => impl_UnpackCap x.1) out_impl_UnpackCap
theorem ok_impl_UnpackCap : ConOk Try.prog 35 c_impl_UnpackCap := Con.shape_ok sem_impl_UnpackCap

/-! 51 -/
def C_slices_Clone_Cap : Cfg := { T := tab, hint := fun _ => { mu := [2, 7], keepR := [0, 2, 4], res := [2] }, mode := fun _ => .borrow }
noncomputable def O_slices_Clone_Cap : Oracle := Oracle.of []
noncomputable def L_slices_Clone_Cap : Loops := Loops.of []
theorem lf_slices_Clone_Cap : LoopsFn Try.prog C_slices_Clone_Cap O_slices_Clone_Cap 51 L_slices_Clone_Cap := LoopsFn.nil' (by kernel_rfl)
def out_slices_Clone_Cap (r : (List DCap)) : AV × Store := out1 (.one (.all 0)) [.data tCap] (r, ())
theorem w_slices_Clone_Cap (x : FAr [.one (.dat (.sl tCap))] []) : evBodyK Try.prog C_slices_Clone_Cap O_slices_Clone_Cap L_slices_Clone_Cap 51 (encAr [.one (.dat (.sl tCap))] [] x).1 (encAr [.one (.dat (.sl tCap))] [] x).2 (fun v s => some (v, s)) =
    slices_Clone_CapR x.1 (fun r => some (out_slices_Clone_Cap r)) := by kernel_rfl
theorem sem_slices_Clone_Cap : ∀ x y, (fun x => slices_Clone_Cap x.1) x = some y → SemCall Try.prog 51 (encAr [.one (.dat (.sl tCap))] [] x).1 (encAr [.one (.dat (.sl tCap))] [] x).2 (out_slices_Clone_Cap y).1 (out_slices_Clone_Cap y).2 :=
  sem_of folP okP tabP (Oracle.of_ok Oracle.nil_ok) lf_slices_Clone_Cap fun x => (w_slices_Clone_Cap x).trans ((slices_Clone_Cap_raw x.1 _).trans (slices_Clone_Cap_eq x.1 _))
noncomputable def c_slices_Clone_Cap : Con := Con.shape [.one (.dat (.sl tCap))] [] (fun x => slices_Clone_Cap x.1) out_slices_Clone_Cap
theorem ok_slices_Clone_Cap : ConOk Try.prog 51 c_slices_Clone_Cap := Con.shape_ok sem_slices_Clone_Cap

/-! 50 -/
def C_slices_Clip_Cap : Cfg := { T := tab, hint := fun _ => { mu := [8], keepR := [0, 2], res := [2], base := 1 }, mode := fun _ => .borrow }
noncomputable def O_slices_Clip_Cap : Oracle := Oracle.of []
noncomputable def L_slices_Clip_Cap : Loops := Loops.of []
theorem lf_slices_Clip_Cap : LoopsFn Try.prog C_slices_Clip_Cap O_slices_Clip_Cap 50 L_slices_Clip_Cap := LoopsFn.nil' (by kernel_rfl)
def out_slices_Clip_Cap (r : (List DCap)) : AV × Store := out1 (.one (.all 0)) [.data tCap] (r, ())
theorem w_slices_Clip_Cap (x : FAr [.one (.all 0)] [.data tCap]) : evBodyK Try.prog C_slices_Clip_Cap O_slices_Clip_Cap L_slices_Clip_Cap 50 (encAr [.one (.all 0)] [.data tCap] x).1 (encAr [.one (.all 0)] [.data tCap] x).2 (fun v s => some (v, s)) =
    slices_Clip_CapK x.1 (fun r => some (out_slices_Clip_Cap r)) := by kernel_rfl
theorem sem_slices_Clip_Cap : ∀ x y, (fun x => slices_Clip_Cap x.1) x = some y → SemCall Try.prog 50 (encAr [.one (.all 0)] [.data tCap] x).1 (encAr [.one (.all 0)] [.data tCap] x).2 (out_slices_Clip_Cap y).1 (out_slices_Clip_Cap y).2 :=
  sem_of folP okP tabP (Oracle.of_ok Oracle.nil_ok) lf_slices_Clip_Cap fun x => (w_slices_Clip_Cap x).trans (slices_Clip_Cap_eq x.1 _)
noncomputable def c_slices_Clip_Cap : Con := Con.shape [.one (.all 0)] [.data tCap] (fun x => slices_Clip_Cap x.1) out_slices_Clip_Cap
theorem ok_slices_Clip_Cap : ConOk Try.prog 50 c_slices_Clip_Cap := Con.shape_ok sem_slices_Clip_Cap

/-! 36 -/
def C_impl_clone_Cap : Cfg := { T := tab, hint := fun _ => { mu := [4], keepR := [0, 2], res := [2] }, mode := modeOf [(50, .sub)] }
noncomputable def O_impl_clone_Cap : Oracle := Oracle.of [(50, c_slices_Clip_Cap), (51, c_slices_Clone_Cap)]
noncomputable def L_impl_clone_Cap : Loops := Loops.of []
theorem lf_impl_clone_Cap : LoopsFn Try.prog C_impl_clone_Cap O_impl_clone_Cap 36 L_impl_clone_Cap := LoopsFn.nil' (by kernel_rfl)
def out_impl_clone_Cap (r : (List DCap)) : AV × Store := out1 (.one (.all 0)) [.data tCap] (r, ())
theorem w_impl_clone_Cap (x : FAr [.one (.dat (.sl tCap))] []) : evBodyK Try.prog C_impl_clone_Cap O_impl_clone_Cap L_impl_clone_Cap 36 (encAr [.one (.dat (.sl tCap))] [] x).1 (encAr [.one (.dat (.sl tCap))] [] x).2 (fun v s => some (v, s)) =
    impl_clone_CapK x.1 (fun r => some (out_impl_clone_Cap r)) := by kernel_rfl
theorem sem_impl_clone_Cap : ∀ x y, (fun x => impl_clone_Cap x.1) x = some y → SemCall Try.prog 36 (encAr [.one (.dat (.sl tCap))] [] x).1 (encAr [.one (.dat (.sl tCap))] [] x).2 (out_impl_clone_Cap y).1 (out_impl_clone_Cap y).2 :=
  sem_of folP okP tabP (Oracle.of_ok (Oracle.cons_ok ok_slices_Clip_Cap (Oracle.cons_ok ok_slices_Clone_Cap Oracle.nil_ok))) lf_impl_clone_Cap fun x => (w_impl_clone_Cap x).trans (impl_clone_Cap_eq x.1 _)
noncomputable def c_impl_clone_Cap : Con := Con.shape [.one (.dat (.sl tCap))] [] (fun x => impl_clone_Cap x.1) out_impl_clone_Cap
theorem ok_impl_clone_Cap : ConOk Try.prog 36 c_impl_clone_Cap := Con.shape_ok sem_impl_clone_Cap

/-! 18 -/
def C_impl_UnpackTable : Cfg := { T := tab, hint := fun _ => { mu := [2, 4, 7, 52, 57], keepR := [0, 2, 3, 4, 6, 7, 8, 17, 34, 35, 36, 37, 46, 61], res := [2, 3], order := [(3, [(0, .read), (1, .read), (2, .read), (3, .read), (4, .read), (5, .read), (6, .read), (7, .read), (8, .read), (9, .read), (10, .read), (11, .read), (12, .read), (13, .read), (14, .forced), (15, .forced)])], keepL := [(0, [2, 4, 34, 35, 36])], keepX := [(0, [2, 4]), (1, [2, 4, 34, 35, 36])], fill := [(0, [2, 4, 34, 35, 36])], fillR := true }, mode := fun _ => .borrow }
noncomputable def O_impl_UnpackTable : Oracle := Oracle.of [(29, c_impl_TableValid), (35, c_impl_UnpackCap), (36, c_impl_clone_Cap)]
def sh_impl_UnpackTable_l0 : List (Nat × S2) := [(2, .one (.ptr 0 0 0)), (4, .one (.ptr 1 0 0)), (34, .one (.dat (.sl I))), (35, .one (.dat I)), (36, .one (.dat I))]
def bs_impl_UnpackTable_l0 : List SB := [.var [.dat I, .dat I, .dat I, .all 2], .var [.dat I, .dat I, .dat I, .all 3], .data tCap, .data tCap]
noncomputable def lc_impl_UnpackTable_l0 : LCon := LCon.shape sh_impl_UnpackTable_l0 bs_impl_UnpackTable_l0 impl_UnpackTable_l0 (fun a => (.exit 0, encSt [(2, .one (.ptr 0 0 0)), (4, .one (.ptr 1 0 0))] [.var [.dat I, .dat I, .dat I, .all 2], .var [.dat I, .dat I, .dat I, .all 3], .data tCap, .data tCap] a)) (fun b => encSt [(2, .one (.ptr 0 0 0)), (3, .one (.dat .bool))] [.var [.dat I, .dat I, .dat I, .all 1], .data tCap] b)
noncomputable def L_impl_UnpackTable : Loops := Loops.of [(0, lc_impl_UnpackTable_l0)]
theorem r_impl_UnpackTable_l0 (x : FSt sh_impl_UnpackTable_l0 bs_impl_UnpackTable_l0) : roundK C_impl_UnpackTable.T (C_impl_UnpackTable.hint 18) C_impl_UnpackTable.mode O_impl_UnpackTable L_impl_UnpackTable 0 (lp Try.prog 18 0) (encSt sh_impl_UnpackTable_l0 bs_impl_UnpackTable_l0 x) (fun e s => some (e, s)) =
    impl_UnpackTable_l0K x.1 x.2.1 x.2.2.1 x.2.2.2.1 x.2.2.2.2.1 x.2.2.2.2.2.1 x.2.2.2.2.2.2.1 x.2.2.2.2.2.2.2.1 x.2.2.2.2.2.2.2.2.1 x.2.2.2.2.2.2.2.2.2.1 x.2.2.2.2.2.2.2.2.2.2.1 (fun y => some (Ex.normal, encSt sh_impl_UnpackTable_l0 bs_impl_UnpackTable_l0 y)) (fun a => some (Ex.exit 0, encSt [(2, .one (.ptr 0 0 0)), (4, .one (.ptr 1 0 0))] [.var [.dat I, .dat I, .dat I, .all 2], .var [.dat I, .dat I, .dat I, .all 3], .data tCap, .data tCap] a)) (fun b => some (Ex.ret, encSt [(2, .one (.ptr 0 0 0)), (3, .one (.dat .bool))] [.var [.dat I, .dat I, .dat I, .all 1], .data tCap] b)) := by kernel_rfl
theorem lo_impl_UnpackTable_l0 : LConOk C_impl_UnpackTable.T (C_impl_UnpackTable.hint 18) C_impl_UnpackTable.mode O_impl_UnpackTable L_impl_UnpackTable 0 (lp Try.prog 18 0) lc_impl_UnpackTable_l0 :=
  LCon.shape_ok (fun a => by simp) fun x => (r_impl_UnpackTable_l0 x).trans (impl_UnpackTable_l0_eq x.1 x.2.1 x.2.2.1 x.2.2.2.1 x.2.2.2.2.1 x.2.2.2.2.2.1 x.2.2.2.2.2.2.1 x.2.2.2.2.2.2.2.1 x.2.2.2.2.2.2.2.2.1 x.2.2.2.2.2.2.2.2.2.1 x.2.2.2.2.2.2.2.2.2.2.1 _ _ _)
theorem lf_impl_UnpackTable : LoopsFn Try.prog C_impl_UnpackTable O_impl_UnpackTable 18 L_impl_UnpackTable := LoopsFn.all (by kernel_rfl) (by decide) ⟨lo_impl_UnpackTable_l0, trivial⟩
def out_impl_UnpackTable (r : Int × Int × Int × Bool × (List DCap)) : AV × Store := outT [.agg [.dat I, .dat I, .dat I, .all 0], .one (.dat .bool)] [.data tCap] (r.1, r.2.1, r.2.2.1, r.2.2.2.1, r.2.2.2.2, ())
theorem w_impl_UnpackTable (x : FAr [.one (.dat (.sl I))] []) : evBodyK Try.prog C_impl_UnpackTable O_impl_UnpackTable L_impl_UnpackTable 18 (encAr [.one (.dat (.sl I))] [] x).1 (encAr [.one (.dat (.sl I))] [] x).2 (fun v s => some (v, s)) =
    impl_UnpackTableK x.1 (fun r => some (out_impl_UnpackTable r)) := by kernel_rfl
theorem sem_impl_UnpackTable : ∀ x y, (fun x => impl_UnpackTable x.1) x = some y → SemCall Try.prog 18 (encAr [.one (.dat (.sl I))] [] x).1 (encAr [.one (.dat (.sl I))] [] x).2 (out_impl_UnpackTable y).1 (out_impl_UnpackTable y).2 :=
  sem_of folP okP tabP (Oracle.of_ok (Oracle.cons_ok ok_impl_TableValid (Oracle.cons_ok ok_impl_UnpackCap (Oracle.cons_ok ok_impl_clone_Cap Oracle.nil_ok)))) lf_impl_UnpackTable fun x => (w_impl_UnpackTable x).trans (impl_UnpackTable_eq x.1 _)
noncomputable def c_impl_UnpackTable : Con := Con.shape [.one (.dat (.sl I))] [] (fun x => impl_UnpackTable x.1) out_impl_UnpackTable
theorem ok_impl_UnpackTable : ConOk Try.prog 18 c_impl_UnpackTable := Con.shape_ok sem_impl_UnpackTable

/-! 37 -/
def C_laws_heldCapS : Cfg := { T := tab, hint := fun _ => { keepR := [0, 1, 4, 5, 9, 18, 27, 36, 45], res := [4], keepL := [(0, [0, 1, 5])], keepX := [(0, [1]), (1, [0, 1, 5])] }, mode := fun _ => .borrow }
noncomputable def O_laws_heldCapS : Oracle := Oracle.of []
def sh_laws_heldCapS_l0 : List (Nat × S2) := [(0, .one (.dat (.sl tCap))), (1, .one (.dat I)), (5, .one (.dat I))]
def bs_laws_heldCapS_l0 : List SB := []
noncomputable def lc_laws_heldCapS_l0 : LCon := LCon.shape sh_laws_heldCapS_l0 bs_laws_heldCapS_l0 laws_heldCapS_l0 (fun a => (.exit 0, encSt [(1, .one (.dat I))] [] a)) (fun b => encSt [(4, .one (.dat I))] [] b)
noncomputable def L_laws_heldCapS : Loops := Loops.of [(0, lc_laws_heldCapS_l0)]
theorem r_laws_heldCapS_l0 (x : FSt sh_laws_heldCapS_l0 bs_laws_heldCapS_l0) : roundK C_laws_heldCapS.T (C_laws_heldCapS.hint 37) C_laws_heldCapS.mode O_laws_heldCapS L_laws_heldCapS 0 (lp Try.prog 37 0) (encSt sh_laws_heldCapS_l0 bs_laws_heldCapS_l0 x) (fun e s => some (e, s)) =
    laws_heldCapS_l0K x.1 x.2.1 x.2.2.1 (fun y => some (Ex.normal, encSt sh_laws_heldCapS_l0 bs_laws_heldCapS_l0 y)) (fun a => some (Ex.exit 0, encSt [(1, .one (.dat I))] [] a)) (fun b => some (Ex.ret, encSt [(4, .one (.dat I))] [] b)) := by kernel_rfl
theorem lo_laws_heldCapS_l0 : LConOk C_laws_heldCapS.T (C_laws_heldCapS.hint 37) C_laws_heldCapS.mode O_laws_heldCapS L_laws_heldCapS 0 (lp Try.prog 37 0) lc_laws_heldCapS_l0 :=
  LCon.shape_ok (fun a => by simp) fun x => (r_laws_heldCapS_l0 x).trans (laws_heldCapS_l0_eq x.1 x.2.1 x.2.2.1 _ _ _)
theorem lf_laws_heldCapS : LoopsFn Try.prog C_laws_heldCapS O_laws_heldCapS 37 L_laws_heldCapS := LoopsFn.all (by kernel_rfl) (by decide) ⟨lo_laws_heldCapS_l0, trivial⟩
def out_laws_heldCapS (r : Int) : AV × Store := out1 (.one (.dat I)) [] (r, ())
theorem w_laws_heldCapS (x : FAr [.one (.dat (.sl tCap)), .one (.dat I)] []) : evBodyK Try.prog C_laws_heldCapS O_laws_heldCapS L_laws_heldCapS 37 (encAr [.one (.dat (.sl tCap)), .one (.dat I)] [] x).1 (encAr [.one (.dat (.sl tCap)), .one (.dat I)] [] x).2 (fun v s => some (v, s)) =
    laws_heldCapSK x.1 x.2.1 (fun r => some (out_laws_heldCapS r)) := by kernel_rfl
theorem sem_laws_heldCapS : ∀ x y, (fun x => laws_heldCapS x.1 x.2.1) x = some y → SemCall Try.prog 37 (encAr [.one (.dat (.sl tCap)), .one (.dat I)] [] x).1 (encAr [.one (.dat (.sl tCap)), .one (.dat I)] [] x).2 (out_laws_heldCapS y).1 (out_laws_heldCapS y).2 :=
  sem_of folP okP tabP (Oracle.of_ok Oracle.nil_ok) lf_laws_heldCapS fun x => (w_laws_heldCapS x).trans (laws_heldCapS_eq x.1 x.2.1 _)
noncomputable def c_laws_heldCapS : Con := Con.shape [.one (.dat (.sl tCap)), .one (.dat I)] [] (fun x => laws_heldCapS x.1 x.2.1) out_laws_heldCapS
theorem ok_laws_heldCapS : ConOk Try.prog 37 c_laws_heldCapS := Con.shape_ok sem_laws_heldCapS

/-! 19 -/
def C_laws_heldTable : Cfg := { T := tab, hint := fun _ => { keepR := [1, 2, 4, 10], res := [4] }, mode := fun _ => .borrow }
noncomputable def O_laws_heldTable : Oracle := Oracle.of [(37, c_laws_heldCapS)]
noncomputable def L_laws_heldTable : Loops := Loops.of []
theorem lf_laws_heldTable : LoopsFn Try.prog C_laws_heldTable O_laws_heldTable 19 L_laws_heldTable := LoopsFn.nil' (by kernel_rfl)
def out_laws_heldTable (r : Int) : AV × Store := out1 (.one (.dat I)) [] (r, ())
theorem w_laws_heldTable (x : FAr [.one (.dat tTable), .one (.dat I)] []) : evBodyK Try.prog C_laws_heldTable O_laws_heldTable L_laws_heldTable 19 (encAr [.one (.dat tTable), .one (.dat I)] [] x).1 (encAr [.one (.dat tTable), .one (.dat I)] [] x).2 (fun v s => some (v, s)) =
    laws_heldTableK x.1 x.2.1 (fun r => some (out_laws_heldTable r)) := by kernel_rfl
theorem sem_laws_heldTable : ∀ x y, (fun x => laws_heldTable x.1 x.2.1) x = some y → SemCall Try.prog 19 (encAr [.one (.dat tTable), .one (.dat I)] [] x).1 (encAr [.one (.dat tTable), .one (.dat I)] [] x).2 (out_laws_heldTable y).1 (out_laws_heldTable y).2 :=
  sem_of folP okP tabP (Oracle.of_ok (Oracle.cons_ok ok_laws_heldCapS Oracle.nil_ok)) lf_laws_heldTable fun x => (w_laws_heldTable x).trans (laws_heldTable_eq x.1 x.2.1 _)
noncomputable def c_laws_heldTable : Con := Con.shape [.one (.dat tTable), .one (.dat I)] [] (fun x => laws_heldTable x.1 x.2.1) out_laws_heldTable
theorem ok_laws_heldTable : ConOk Try.prog 19 c_laws_heldTable := Con.shape_ok sem_laws_heldTable

/-! 4 -/
def C_laws_FnExactUnpackTable : Cfg := { T := tab, hint := fun _ => { mu := [3, 6, 11, 23, 26], keepR := [0, 2, 3, 4, 5, 6, 7, 8, 9, 10, 11, 12, 15, 37, 42, 58, 66, 69, 84, 89, 92], res := [2] }, mode := modeOf [(13, .sub), (14, .sub)] }
noncomputable def O_laws_FnExactUnpackTable : Oracle := Oracle.of [(11, c_laws_eqIntS), (12, c_laws_eqTable), (13, c_laws_markTable), (14, c_laws_markIntS), (16, c_spec_UnpackTable), (17, c_laws_toIntS), (18, c_impl_UnpackTable), (19, c_laws_heldTable)]
noncomputable def L_laws_FnExactUnpackTable : Loops := Loops.of []
theorem lf_laws_FnExactUnpackTable : LoopsFn Try.prog C_laws_FnExactUnpackTable O_laws_FnExactUnpackTable 4 L_laws_FnExactUnpackTable := LoopsFn.nil' (by kernel_rfl)
def out_laws_FnExactUnpackTable (r : Bool) : AV × Store := out1 (.one (.dat .bool)) [] (r, ())
theorem w_laws_FnExactUnpackTable (x : FAr [.one (.dat (.sl I))] []) : evBodyK Try.prog C_laws_FnExactUnpackTable O_laws_FnExactUnpackTable L_laws_FnExactUnpackTable 4 (encAr [.one (.dat (.sl I))] [] x).1 (encAr [.one (.dat (.sl I))] [] x).2 (fun v s => some (v, s)) =
    laws_FnExactUnpackTableK x.1 (fun r => some (out_laws_FnExactUnpackTable r)) := by kernel_rfl
theorem sem_laws_FnExactUnpackTable : ∀ x y, (fun x => laws_FnExactUnpackTable x.1) x = some y → SemCall Try.prog 4 (encAr [.one (.dat (.sl I))] [] x).1 (encAr [.one (.dat (.sl I))] [] x).2 (out_laws_FnExactUnpackTable y).1 (out_laws_FnExactUnpackTable y).2 :=
  sem_of folP okP tabP (Oracle.of_ok (Oracle.cons_ok ok_laws_eqIntS (Oracle.cons_ok ok_laws_eqTable (Oracle.cons_ok ok_laws_markTable (Oracle.cons_ok ok_laws_markIntS (Oracle.cons_ok ok_spec_UnpackTable (Oracle.cons_ok ok_laws_toIntS (Oracle.cons_ok ok_impl_UnpackTable (Oracle.cons_ok ok_laws_heldTable Oracle.nil_ok))))))))) lf_laws_FnExactUnpackTable fun x => (w_laws_FnExactUnpackTable x).trans (laws_FnExactUnpackTable_eq x.1 _)
noncomputable def c_laws_FnExactUnpackTable : Con := Con.shape [.one (.dat (.sl I))] [] (fun x => laws_FnExactUnpackTable x.1) out_laws_FnExactUnpackTable
theorem ok_laws_FnExactUnpackTable : ConOk Try.prog 4 c_laws_FnExactUnpackTable := Con.shape_ok sem_laws_FnExactUnpackTable

/-! 39 -/
def C_spec_l20Open : Cfg := { T := tab, hint := fun _ => { mu := [10], keepR := [0, 2, 5], res := [2] }, mode := fun _ => .borrow }
noncomputable def O_spec_l20Open : Oracle := Oracle.of []
noncomputable def L_spec_l20Open : Loops := Loops.of []
theorem lf_spec_l20Open : LoopsFn Try.prog C_spec_l20Open O_spec_l20Open 39 L_spec_l20Open := LoopsFn.nil' (by kernel_rfl)
def out_spec_l20Open (r : Dl20Rd) : AV × Store := out1 (.one (.ptr 0 0 0)) [.one tl20Rd] (r, ())
theorem w_spec_l20Open (x : FAr [.one (.dat (.sl (.int .u8)))] []) : evBodyK Try.prog C_spec_l20Open O_spec_l20Open L_spec_l20Open 39 (encAr [.one (.dat (.sl (.int .u8)))] [] x).1 (encAr [.one (.dat (.sl (.int .u8)))] [] x).2 (fun v s => some (v, s)) =
    spec_l20OpenK x.1 (fun r => some (out_spec_l20Open r)) := by kernel_rfl
theorem sem_spec_l20Open : ∀ x y, (fun x => spec_l20Open x.1) x = some y → SemCall Try.prog 39 (encAr [.one (.dat (.sl (.int .u8)))] [] x).1 (encAr [.one (.dat (.sl (.int .u8)))] [] x).2 (out_spec_l20Open y).1 (out_spec_l20Open y).2 :=
  sem_of folP okP tabP (Oracle.of_ok Oracle.nil_ok) lf_spec_l20Open fun x => (w_spec_l20Open x).trans (spec_l20Open_eq x.1 _)
noncomputable def c_spec_l20Open : Con := Con.shape [.one (.dat (.sl (.int .u8)))] [] (fun x => spec_l20Open x.1) out_spec_l20Open
theorem ok_spec_l20Open : ConOk Try.prog 39 c_spec_l20Open := Con.shape_ok sem_spec_l20Open

/-! 44 -/
def C_spec_l20Rd_pick : Cfg := { T := tab, hint := fun _ => { keepR := [0, 1, 4, 5, 6, 24, 36], res := [4], base := 1, order := [(7, [(0, .read), (1, .read), (2, .read), (3, .read), (4, .read), (5, .read), (6, .read), (7, .read), (8, .read), (9, .read), (10, .read), (11, .read), (12, .read), (13, .read), (14, .read), (15, .read), (16, .read), (17, .read), (18, .read), (19, .read), (20, .read), (21, .read), (22, .read), (23, .read), (24, .read), (25, .read), (26, .read), (27, .read), (28, .read), (29, .read), (30, .read), (31, .read), (32, .read), (33, .read), (34, .read), (35, .read), (36, .read), (37, .forced), (38, .forced), (39, .forced), (40, .forced), (41, .forced), (42, .forced), (43, .forced), (44, .forced), (45, .forced)])] }, mode := fun _ => .borrow }
noncomputable def O_spec_l20Rd_pick : Oracle := Oracle.of []
noncomputable def L_spec_l20Rd_pick : Loops := Loops.of []
theorem lf_spec_l20Rd_pick : LoopsFn Try.prog C_spec_l20Rd_pick O_spec_l20Rd_pick 44 L_spec_l20Rd_pick := LoopsFn.nil' (by kernel_rfl)
def out_spec_l20Rd_pick (r : Int × Dl20Rd) : AV × Store := out1 (.one (.dat I)) [.one tl20Rd] (r.1, r.2, ())
theorem w_spec_l20Rd_pick (x : FAr [.one (.ptr 0 0 0), .one (.dat I)] [.one tl20Rd]) : evBodyK Try.prog C_spec_l20Rd_pick O_spec_l20Rd_pick L_spec_l20Rd_pick 44 (encAr [.one (.ptr 0 0 0), .one (.dat I)] [.one tl20Rd] x).1 (encAr [.one (.ptr 0 0 0), .one (.dat I)] [.one tl20Rd] x).2 (fun v s => some (v, s)) =
    spec_l20Rd_pickK x.1 x.2.1 (fun r => some (out_spec_l20Rd_pick r)) := by kernel_rfl
theorem sem_spec_l20Rd_pick : ∀ x y, (fun x => spec_l20Rd_pick x.1 x.2.1) x = some y → SemCall Try.prog 44 (encAr [.one (.ptr 0 0 0), .one (.dat I)] [.one tl20Rd] x).1 (encAr [.one (.ptr 0 0 0), .one (.dat I)] [.one tl20Rd] x).2 (out_spec_l20Rd_pick y).1 (out_spec_l20Rd_pick y).2 :=
  sem_of folP okP tabP (Oracle.of_ok Oracle.nil_ok) lf_spec_l20Rd_pick fun x => (w_spec_l20Rd_pick x).trans (spec_l20Rd_pick_eq x.1 x.2.1 _)
noncomputable def c_spec_l20Rd_pick : Con := Con.shape [.one (.ptr 0 0 0), .one (.dat I)] [.one tl20Rd] (fun x => spec_l20Rd_pick x.1 x.2.1) out_spec_l20Rd_pick
theorem ok_spec_l20Rd_pick : ConOk Try.prog 44 c_spec_l20Rd_pick := Con.shape_ok sem_spec_l20Rd_pick

/-! 43 -/
def C_spec_l20Rd_odd : Cfg := { T := tab, hint := fun _ => { keepR := [0, 1, 4], res := [4], base := 1 }, mode := modeOf [(44, .sub)] }
noncomputable def O_spec_l20Rd_odd : Oracle := Oracle.of [(44, c_spec_l20Rd_pick)]
noncomputable def L_spec_l20Rd_odd : Loops := Loops.of []
theorem lf_spec_l20Rd_odd : LoopsFn Try.prog C_spec_l20Rd_odd O_spec_l20Rd_odd 43 L_spec_l20Rd_odd := LoopsFn.nil' (by kernel_rfl)
def out_spec_l20Rd_odd (r : Bool × Dl20Rd) : AV × Store := out1 (.one (.dat .bool)) [.one tl20Rd] (r.1, r.2, ())
theorem w_spec_l20Rd_odd (x : FAr [.one (.ptr 0 0 0), .one (.dat I)] [.one tl20Rd]) : evBodyK Try.prog C_spec_l20Rd_odd O_spec_l20Rd_odd L_spec_l20Rd_odd 43 (encAr [.one (.ptr 0 0 0), .one (.dat I)] [.one tl20Rd] x).1 (encAr [.one (.ptr 0 0 0), .one (.dat I)] [.one tl20Rd] x).2 (fun v s => some (v, s)) =
    spec_l20Rd_oddK x.1 x.2.1 (fun r => some (out_spec_l20Rd_odd r)) := by kernel_rfl
theorem sem_spec_l20Rd_odd : ∀ x y, (fun x => spec_l20Rd_odd x.1 x.2.1) x = some y → SemCall Try.prog 43 (encAr [.one (.ptr 0 0 0), .one (.dat I)] [.one tl20Rd] x).1 (encAr [.one (.ptr 0 0 0), .one (.dat I)] [.one tl20Rd] x).2 (out_spec_l20Rd_odd y).1 (out_spec_l20Rd_odd y).2 :=
  sem_of folP okP tabP (Oracle.of_ok (Oracle.cons_ok ok_spec_l20Rd_pick Oracle.nil_ok)) lf_spec_l20Rd_odd fun x => (w_spec_l20Rd_odd x).trans (spec_l20Rd_odd_eq x.1 x.2.1 _)
noncomputable def c_spec_l20Rd_odd : Con := Con.shape [.one (.ptr 0 0 0), .one (.dat I)] [.one tl20Rd] (fun x => spec_l20Rd_odd x.1 x.2.1) out_spec_l20Rd_odd
theorem ok_spec_l20Rd_odd : ConOk Try.prog 43 c_spec_l20Rd_odd := Con.shape_ok sem_spec_l20Rd_odd

/-! 62 -/
def C_spec_l20Rights : Cfg := { T := tab, hint := fun _ => { keepR := [0, 1, 4, 7], res := [4], base := 1 }, mode := modeOf [(43, .sub), (44, .sub)] }
noncomputable def O_spec_l20Rights : Oracle := Oracle.of [(43, c_spec_l20Rd_odd), (44, c_spec_l20Rd_pick)]
noncomputable def L_spec_l20Rights : Loops := Loops.of []
theorem lf_spec_l20Rights : LoopsFn Try.prog C_spec_l20Rights O_spec_l20Rights 62 L_spec_l20Rights := LoopsFn.nil' (by kernel_rfl)
def out_spec_l20Rights (r : Int × Dl20Rd) : AV × Store := out1 (.one (.dat I)) [.one tl20Rd] (r.1, r.2, ())
theorem w_spec_l20Rights (x : FAr [.one (.ptr 0 0 0), .one (.dat I)] [.one tl20Rd]) : evBodyK Try.prog C_spec_l20Rights O_spec_l20Rights L_spec_l20Rights 62 (encAr [.one (.ptr 0 0 0), .one (.dat I)] [.one tl20Rd] x).1 (encAr [.one (.ptr 0 0 0), .one (.dat I)] [.one tl20Rd] x).2 (fun v s => some (v, s)) =
    spec_l20RightsK x.1 x.2.1 (fun r => some (out_spec_l20Rights r)) := by kernel_rfl
theorem sem_spec_l20Rights : ∀ x y, (fun x => spec_l20Rights x.1 x.2.1) x = some y → SemCall Try.prog 62 (encAr [.one (.ptr 0 0 0), .one (.dat I)] [.one tl20Rd] x).1 (encAr [.one (.ptr 0 0 0), .one (.dat I)] [.one tl20Rd] x).2 (out_spec_l20Rights y).1 (out_spec_l20Rights y).2 :=
  sem_of folP okP tabP (Oracle.of_ok (Oracle.cons_ok ok_spec_l20Rd_odd (Oracle.cons_ok ok_spec_l20Rd_pick Oracle.nil_ok))) lf_spec_l20Rights fun x => (w_spec_l20Rights x).trans (spec_l20Rights_eq x.1 x.2.1 _)
noncomputable def c_spec_l20Rights : Con := Con.shape [.one (.ptr 0 0 0), .one (.dat I)] [.one tl20Rd] (fun x => spec_l20Rights x.1 x.2.1) out_spec_l20Rights
theorem ok_spec_l20Rights : ConOk Try.prog 62 c_spec_l20Rights := Con.shape_ok sem_spec_l20Rights

/-! 52 -/
def C_spec_l20Cap : Cfg := { T := tab, hint := fun _ => { mu := [4, 5], keepR := [0, 1, 4, 5, 21, 28, 30, 32, 40, 48, 51], res := [4], base := 1, keepX := [(0, [4, 5])] }, mode := modeOf [(43, .sub), (44, .sub), (62, .sub)] }
noncomputable def O_spec_l20Cap : Oracle := Oracle.of [(43, c_spec_l20Rd_odd), (44, c_spec_l20Rd_pick), (54, c_spec_l2Badged), (62, c_spec_l20Rights)]
noncomputable def L_spec_l20Cap : Loops := Loops.of []
theorem lf_spec_l20Cap : LoopsFn Try.prog C_spec_l20Cap O_spec_l20Cap 52 L_spec_l20Cap := LoopsFn.nil' (by kernel_rfl)
def out_spec_l20Cap (r : DCap × Dl20Rd) : AV × Store := out1 (.one (.dat tCap)) [.one tl20Rd] (r.1, r.2, ())
theorem w_spec_l20Cap (x : FAr [.one (.ptr 0 0 0), .one (.dat I)] [.one tl20Rd]) : evBodyK Try.prog C_spec_l20Cap O_spec_l20Cap L_spec_l20Cap 52 (encAr [.one (.ptr 0 0 0), .one (.dat I)] [.one tl20Rd] x).1 (encAr [.one (.ptr 0 0 0), .one (.dat I)] [.one tl20Rd] x).2 (fun v s => some (v, s)) =
    spec_l20CapK x.1 x.2.1 (fun r => some (out_spec_l20Cap r)) := by kernel_rfl
theorem sem_spec_l20Cap : ∀ x y, (fun x => spec_l20Cap x.1 x.2.1) x = some y → SemCall Try.prog 52 (encAr [.one (.ptr 0 0 0), .one (.dat I)] [.one tl20Rd] x).1 (encAr [.one (.ptr 0 0 0), .one (.dat I)] [.one tl20Rd] x).2 (out_spec_l20Cap y).1 (out_spec_l20Cap y).2 :=
  sem_of folP okP tabP (Oracle.of_ok (Oracle.cons_ok ok_spec_l20Rd_odd (Oracle.cons_ok ok_spec_l20Rd_pick (Oracle.cons_ok ok_spec_l2Badged (Oracle.cons_ok ok_spec_l20Rights Oracle.nil_ok))))) lf_spec_l20Cap fun x => (w_spec_l20Cap x).trans (spec_l20Cap_eq x.1 x.2.1 _)
noncomputable def c_spec_l20Cap : Con := Con.shape [.one (.ptr 0 0 0), .one (.dat I)] [.one tl20Rd] (fun x => spec_l20Cap x.1 x.2.1) out_spec_l20Cap
theorem ok_spec_l20Cap : ConOk Try.prog 52 c_spec_l20Cap := Con.shape_ok sem_spec_l20Cap

/-! 38 -/
def C_spec_l20Table : Cfg := { T := tab, hint := fun _ => { mu := [6, 7, 9, 49], keepR := [0, 1, 2, 6, 7, 8, 9, 26, 31, 32, 36, 53, 55, 61, 69, 80], res := [6], base := 1, order := [(15, [(2, .read), (0, .aside [0]), (1, .aside [0]), (3, .forced), (4, .forced), (5, .forced)]), (19, [(4, .read), (0, .aside [0]), (1, .aside [0]), (2, .pure), (3, .pure), (5, .forced), (6, .forced), (7, .forced), (8, .forced), (9, .forced)])], keepL := [(0, [0, 1, 2, 6, 7, 8])], keepX := [(0, [0, 2, 6, 7]), (1, [0, 1, 2, 6, 7, 8]), (2, [0, 1, 2, 6, 7, 8, 9]), (3, [6, 7])], fill := [(0, [0, 1, 2, 6, 7, 8])], refR := true }, mode := modeOf [(43, .sub), (44, .sub), (52, .sub)] }
noncomputable def O_spec_l20Table : Oracle := Oracle.of [(43, c_spec_l20Rd_odd), (44, c_spec_l20Rd_pick), (52, c_spec_l20Cap)]
def sh_spec_l20Table_l0 : List (Nat × S2) := [(0, .one (.ptr 0 0 0)), (1, .one (.dat I)), (2, .one (.dat I)), (6, .one (.ptr 1 0 0)), (7, .one (.ptr 2 0 0)), (8, .one (.dat I))]
def bs_spec_l20Table_l0 : List SB := [.one tl20Rd, .var [.dat I, .dat I, .dat I, .all 3], .var [.dat I, .dat I, .dat I, .all 4], .data tCap, .data tCap]
noncomputable def lc_spec_l20Table_l0 : LCon := LCon.shape1 sh_spec_l20Table_l0 bs_spec_l20Table_l0 spec_l20Table_l0 (fun a => (.exit 0, encSt [(0, .one (.ptr 0 0 0)), (2, .one (.dat I)), (6, .one (.ptr 1 0 0)), (7, .one (.ptr 2 0 0))] [.one tl20Rd, .var [.dat I, .dat I, .dat I, .all 3], .var [.dat I, .dat I, .dat I, .all 4], .data tCap, .data tCap] a))
noncomputable def L_spec_l20Table : Loops := Loops.of [(0, lc_spec_l20Table_l0)]
theorem r_spec_l20Table_l0 (x : FSt sh_spec_l20Table_l0 bs_spec_l20Table_l0) : roundK C_spec_l20Table.T (C_spec_l20Table.hint 38) C_spec_l20Table.mode O_spec_l20Table L_spec_l20Table 0 (lp Try.prog 38 0) (encSt sh_spec_l20Table_l0 bs_spec_l20Table_l0 x) (fun e s => some (e, s)) =
    spec_l20Table_l0K x.1 x.2.1 x.2.2.1 x.2.2.2.1 x.2.2.2.2.1 x.2.2.2.2.2.1 x.2.2.2.2.2.2.1 x.2.2.2.2.2.2.2.1 x.2.2.2.2.2.2.2.2.1 x.2.2.2.2.2.2.2.2.2.1 x.2.2.2.2.2.2.2.2.2.2.1 x.2.2.2.2.2.2.2.2.2.2.2.1 (fun y => some (Ex.normal, encSt sh_spec_l20Table_l0 bs_spec_l20Table_l0 y)) (fun a => some (Ex.exit 0, encSt [(0, .one (.ptr 0 0 0)), (2, .one (.dat I)), (6, .one (.ptr 1 0 0)), (7, .one (.ptr 2 0 0))] [.one tl20Rd, .var [.dat I, .dat I, .dat I, .all 3], .var [.dat I, .dat I, .dat I, .all 4], .data tCap, .data tCap] a)) := by kernel_rfl
theorem lo_spec_l20Table_l0 : LConOk C_spec_l20Table.T (C_spec_l20Table.hint 38) C_spec_l20Table.mode O_spec_l20Table L_spec_l20Table 0 (lp Try.prog 38 0) lc_spec_l20Table_l0 :=
  LCon.shape1_ok (fun a => by simp) fun x => (r_spec_l20Table_l0 x).trans (spec_l20Table_l0_eq x.1 x.2.1 x.2.2.1 x.2.2.2.1 x.2.2.2.2.1 x.2.2.2.2.2.1 x.2.2.2.2.2.2.1 x.2.2.2.2.2.2.2.1 x.2.2.2.2.2.2.2.2.1 x.2.2.2.2.2.2.2.2.2.1 x.2.2.2.2.2.2.2.2.2.2.1 x.2.2.2.2.2.2.2.2.2.2.2.1 _ _)
theorem lf_spec_l20Table : LoopsFn Try.prog C_spec_l20Table O_spec_l20Table 38 L_spec_l20Table := LoopsFn.all (by kernel_rfl) (by decide) ⟨lo_spec_l20Table_l0, trivial⟩
def out_spec_l20Table (r : Int × Int × Int × Nat × Nat × Dl20Rd × (List DCap)) : AV × Store := out1 (.agg [.dat I, .dat I, .dat I, .refg 1]) [.one tl20Rd, .data tCap] (r.1, r.2.1, r.2.2.1, r.2.2.2.1, r.2.2.2.2.1, r.2.2.2.2.2.1, r.2.2.2.2.2.2, ())
theorem w_spec_l20Table (x : FAr [.one (.ptr 0 0 0), .one (.dat I), .one (.dat I)] [.one tl20Rd]) : evBodyK Try.prog C_spec_l20Table O_spec_l20Table L_spec_l20Table 38 (encAr [.one (.ptr 0 0 0), .one (.dat I), .one (.dat I)] [.one tl20Rd] x).1 (encAr [.one (.ptr 0 0 0), .one (.dat I), .one (.dat I)] [.one tl20Rd] x).2 (fun v s => some (v, s)) =
    spec_l20TableK x.1 x.2.1 x.2.2.1 (fun r => some (out_spec_l20Table r)) := by kernel_rfl
theorem sem_spec_l20Table : ∀ x y, (fun x => spec_l20Table x.1 x.2.1 x.2.2.1) x = some y → SemCall Try.prog 38 (encAr [.one (.ptr 0 0 0), .one (.dat I), .one (.dat I)] [.one tl20Rd] x).1 (encAr [.one (.ptr 0 0 0), .one (.dat I), .one (.dat I)] [.one tl20Rd] x).2 (out_spec_l20Table y).1 (out_spec_l20Table y).2 :=
  sem_of folP okP tabP (Oracle.of_ok (Oracle.cons_ok ok_spec_l20Rd_odd (Oracle.cons_ok ok_spec_l20Rd_pick (Oracle.cons_ok ok_spec_l20Cap Oracle.nil_ok)))) lf_spec_l20Table fun x => (w_spec_l20Table x).trans (spec_l20Table_eq x.1 x.2.1 x.2.2.1 _)
noncomputable def c_spec_l20Table : Con := Con.shape [.one (.ptr 0 0 0), .one (.dat I), .one (.dat I)] [.one tl20Rd] (fun x => spec_l20Table x.1 x.2.1 x.2.2.1) out_spec_l20Table
theorem ok_spec_l20Table : ConOk Try.prog 38 c_spec_l20Table := Con.shape_ok sem_spec_l20Table

/-! 20 -/
def C_spec_DrawPackTable : Cfg := { T := tab, hint := fun _ => { mu := [2, 4], keepR := [0, 2], res := [2] }, mode := modeOf [(38, .sub)] }
noncomputable def O_spec_DrawPackTable : Oracle := Oracle.of [(38, c_spec_l20Table), (39, c_spec_l20Open)]
noncomputable def L_spec_DrawPackTable : Loops := Loops.of []
theorem lf_spec_DrawPackTable : LoopsFn Try.prog C_spec_DrawPackTable O_spec_DrawPackTable 20 L_spec_DrawPackTable := LoopsFn.nil' (by kernel_rfl)
def out_spec_DrawPackTable (r : Int × Int × Int × Nat × Nat × (List DCap)) : AV × Store := out1 (.agg [.dat I, .dat I, .dat I, .refg 0]) [.data tCap] (r.1, r.2.1, r.2.2.1, r.2.2.2.1, r.2.2.2.2.1, r.2.2.2.2.2, ())
theorem w_spec_DrawPackTable (x : FAr [.one (.dat (.sl (.int .u8)))] []) : evBodyK Try.prog C_spec_DrawPackTable O_spec_DrawPackTable L_spec_DrawPackTable 20 (encAr [.one (.dat (.sl (.int .u8)))] [] x).1 (encAr [.one (.dat (.sl (.int .u8)))] [] x).2 (fun v s => some (v, s)) =
    spec_DrawPackTableK x.1 (fun r => some (out_spec_DrawPackTable r)) := by kernel_rfl
theorem sem_spec_DrawPackTable : ∀ x y, (fun x => spec_DrawPackTable x.1) x = some y → SemCall Try.prog 20 (encAr [.one (.dat (.sl (.int .u8)))] [] x).1 (encAr [.one (.dat (.sl (.int .u8)))] [] x).2 (out_spec_DrawPackTable y).1 (out_spec_DrawPackTable y).2 :=
  sem_of folP okP tabP (Oracle.of_ok (Oracle.cons_ok ok_spec_l20Table (Oracle.cons_ok ok_spec_l20Open Oracle.nil_ok))) lf_spec_DrawPackTable fun x => (w_spec_DrawPackTable x).trans (spec_DrawPackTable_eq x.1 _)
noncomputable def c_spec_DrawPackTable : Con := Con.shape [.one (.dat (.sl (.int .u8)))] [] (fun x => spec_DrawPackTable x.1) out_spec_DrawPackTable
theorem ok_spec_DrawPackTable : ConOk Try.prog 20 c_spec_DrawPackTable := Con.shape_ok sem_spec_DrawPackTable

/-! 21 -/
def C_laws_sameInts : Cfg := { T := tab, hint := fun _ => { keepR := [0, 1, 4, 5, 10, 14, 25], res := [4], order := [(6, [(0, .read), (1, .read), (2, .read), (3, .read), (4, .read), (5, .forced), (6, .forced), (7, .forced), (8, .forced)])], keepL := [(0, [0, 1, 5])], keepX := [(0, []), (1, [0, 1, 5])] }, mode := fun _ => .borrow }
noncomputable def O_laws_sameInts : Oracle := Oracle.of []
def sh_laws_sameInts_l0 : List (Nat × S2) := [(0, .one (.dat (.sl I))), (1, .one (.dat (.sl I))), (5, .one (.dat I))]
def bs_laws_sameInts_l0 : List SB := []
noncomputable def lc_laws_sameInts_l0 : LCon := LCon.shape sh_laws_sameInts_l0 bs_laws_sameInts_l0 laws_sameInts_l0 (fun a => (.exit 0, encSt [] [] a)) (fun b => encSt [(4, .one (.dat .bool))] [] b)
noncomputable def L_laws_sameInts : Loops := Loops.of [(0, lc_laws_sameInts_l0)]
theorem r_laws_sameInts_l0 (x : FSt sh_laws_sameInts_l0 bs_laws_sameInts_l0) : roundK C_laws_sameInts.T (C_laws_sameInts.hint 21) C_laws_sameInts.mode O_laws_sameInts L_laws_sameInts 0 (lp Try.prog 21 0) (encSt sh_laws_sameInts_l0 bs_laws_sameInts_l0 x) (fun e s => some (e, s)) =
    laws_sameInts_l0K x.1 x.2.1 x.2.2.1 (fun y => some (Ex.normal, encSt sh_laws_sameInts_l0 bs_laws_sameInts_l0 y)) (fun a => some (Ex.exit 0, encSt [] [] a)) (fun b => some (Ex.ret, encSt [(4, .one (.dat .bool))] [] b)) := by kernel_rfl
theorem lo_laws_sameInts_l0 : LConOk C_laws_sameInts.T (C_laws_sameInts.hint 21) C_laws_sameInts.mode O_laws_sameInts L_laws_sameInts 0 (lp Try.prog 21 0) lc_laws_sameInts_l0 :=
  LCon.shape_ok (fun a => by simp) fun x => (r_laws_sameInts_l0 x).trans (laws_sameInts_l0_eq x.1 x.2.1 x.2.2.1 _ _ _)
theorem lf_laws_sameInts : LoopsFn Try.prog C_laws_sameInts O_laws_sameInts 21 L_laws_sameInts := LoopsFn.all (by kernel_rfl) (by decide) ⟨lo_laws_sameInts_l0, trivial⟩
def out_laws_sameInts (r : Bool) : AV × Store := out1 (.one (.dat .bool)) [] (r, ())
theorem w_laws_sameInts (x : FAr [.one (.dat (.sl I)), .one (.dat (.sl I))] []) : evBodyK Try.prog C_laws_sameInts O_laws_sameInts L_laws_sameInts 21 (encAr [.one (.dat (.sl I)), .one (.dat (.sl I))] [] x).1 (encAr [.one (.dat (.sl I)), .one (.dat (.sl I))] [] x).2 (fun v s => some (v, s)) =
    laws_sameIntsK x.1 x.2.1 (fun r => some (out_laws_sameInts r)) := by kernel_rfl
theorem sem_laws_sameInts : ∀ x y, (fun x => laws_sameInts x.1 x.2.1) x = some y → SemCall Try.prog 21 (encAr [.one (.dat (.sl I)), .one (.dat (.sl I))] [] x).1 (encAr [.one (.dat (.sl I)), .one (.dat (.sl I))] [] x).2 (out_laws_sameInts y).1 (out_laws_sameInts y).2 :=
  sem_of folP okP tabP (Oracle.of_ok Oracle.nil_ok) lf_laws_sameInts fun x => (w_laws_sameInts x).trans (laws_sameInts_eq x.1 x.2.1 _)
noncomputable def c_laws_sameInts : Con := Con.shape [.one (.dat (.sl I)), .one (.dat (.sl I))] [] (fun x => laws_sameInts x.1 x.2.1) out_laws_sameInts
theorem ok_laws_sameInts : ConOk Try.prog 21 c_laws_sameInts := Con.shape_ok sem_laws_sameInts

/-! 23 -/
def out_laws_alive (r : Bool) : AV × Store := out1 (.one (.dat .bool)) [] (r, ())
theorem sem_laws_alive : ∀ x y, (fun x => laws_alive) x = some y → SemCall Try.prog 23 (encAr [] [] x).1 (encAr [] [] x).2 (out_laws_alive y).1 (out_laws_alive y).2 := fun x y h => by
  have e : y = true := (Option.some.inj h).symm
  subst e
  exact sem_of_below ⟨_, _, Try.func23, rfl, by kernel_rfl⟩ Try.aliveCalls
noncomputable def c_laws_alive : Con := Con.shape [] [] (fun x => laws_alive) out_laws_alive
theorem ok_laws_alive : ConOk Try.prog 23 c_laws_alive := Con.shape_ok sem_laws_alive

/-! 24 -/
def C_laws_sameTable : Cfg := { T := tab, hint := fun _ => { keepR := [2, 3, 4, 5, 12, 17, 30], res := [4], order := [(6, [(0, .read), (1, .read), (2, .read), (3, .read), (4, .read), (5, .read), (6, .read), (7, .forced), (8, .forced), (9, .forced), (10, .forced)])], keepL := [(0, [2, 3, 5])], keepX := [(0, [2, 3]), (1, [2, 3, 5])] }, mode := fun _ => .borrow }
noncomputable def O_laws_sameTable : Oracle := Oracle.of []
def sh_laws_sameTable_l0 : List (Nat × S2) := [(2, .one (.cdat tTable 0)), (3, .one (.cdat tTable 0)), (5, .one (.dat I))]
def bs_laws_sameTable_l0 : List SB := []
noncomputable def lc_laws_sameTable_l0 : LCon := LCon.shape sh_laws_sameTable_l0 bs_laws_sameTable_l0 laws_sameTable_l0 (fun a => (.exit 0, encSt [(2, .one (.cdat tTable 0)), (3, .one (.cdat tTable 0))] [] a)) (fun b => encSt [(4, .one (.dat .bool))] [] b)
noncomputable def L_laws_sameTable : Loops := Loops.of [(0, lc_laws_sameTable_l0)]
theorem r_laws_sameTable_l0 (x : FSt sh_laws_sameTable_l0 bs_laws_sameTable_l0) : roundK C_laws_sameTable.T (C_laws_sameTable.hint 24) C_laws_sameTable.mode O_laws_sameTable L_laws_sameTable 0 (lp Try.prog 24 0) (encSt sh_laws_sameTable_l0 bs_laws_sameTable_l0 x) (fun e s => some (e, s)) =
    laws_sameTable_l0K x.1 x.2.1 x.2.2.1 (fun y => some (Ex.normal, encSt sh_laws_sameTable_l0 bs_laws_sameTable_l0 y)) (fun a => some (Ex.exit 0, encSt [(2, .one (.cdat tTable 0)), (3, .one (.cdat tTable 0))] [] a)) (fun b => some (Ex.ret, encSt [(4, .one (.dat .bool))] [] b)) := by kernel_rfl
theorem lo_laws_sameTable_l0 : LConOk C_laws_sameTable.T (C_laws_sameTable.hint 24) C_laws_sameTable.mode O_laws_sameTable L_laws_sameTable 0 (lp Try.prog 24 0) lc_laws_sameTable_l0 :=
  LCon.shape_ok (fun a => by simp) fun x => (r_laws_sameTable_l0 x).trans (laws_sameTable_l0_eq x.1 x.2.1 x.2.2.1 _ _ _)
theorem lf_laws_sameTable : LoopsFn Try.prog C_laws_sameTable O_laws_sameTable 24 L_laws_sameTable := LoopsFn.all (by kernel_rfl) (by decide) ⟨lo_laws_sameTable_l0, trivial⟩
def out_laws_sameTable (r : Bool) : AV × Store := out1 (.one (.dat .bool)) [] (r, ())
theorem w_laws_sameTable (x : FAr [.one (.dat tTable), .one (.dat tTable)] []) : evBodyK Try.prog C_laws_sameTable O_laws_sameTable L_laws_sameTable 24 (encAr [.one (.dat tTable), .one (.dat tTable)] [] x).1 (encAr [.one (.dat tTable), .one (.dat tTable)] [] x).2 (fun v s => some (v, s)) =
    laws_sameTableK x.1 x.2.1 (fun r => some (out_laws_sameTable r)) := by kernel_rfl
theorem sem_laws_sameTable : ∀ x y, (fun x => laws_sameTable x.1 x.2.1) x = some y → SemCall Try.prog 24 (encAr [.one (.dat tTable), .one (.dat tTable)] [] x).1 (encAr [.one (.dat tTable), .one (.dat tTable)] [] x).2 (out_laws_sameTable y).1 (out_laws_sameTable y).2 :=
  sem_of folP okP tabP (Oracle.of_ok Oracle.nil_ok) lf_laws_sameTable fun x => (w_laws_sameTable x).trans (laws_sameTable_eq x.1 x.2.1 _)
noncomputable def c_laws_sameTable : Con := Con.shape [.one (.dat tTable), .one (.dat tTable)] [] (fun x => laws_sameTable x.1 x.2.1) out_laws_sameTable
theorem ok_laws_sameTable : ConOk Try.prog 24 c_laws_sameTable := Con.shape_ok sem_laws_sameTable

/-! 5 -/
def C_laws_FnPackTable : Cfg := { T := tab, hint := fun _ => { mu := [3, 5], keepR := [0, 2, 3, 4, 5, 6, 9, 18, 21], res := [2] }, mode := fun _ => .borrow }
noncomputable def O_laws_FnPackTable : Oracle := Oracle.of [(8, c_spec_PackTable), (10, c_impl_PackTable), (18, c_impl_UnpackTable), (20, c_spec_DrawPackTable), (21, c_laws_sameInts), (22, c_spec_TableValid), (23, c_laws_alive), (24, c_laws_sameTable)]
noncomputable def L_laws_FnPackTable : Loops := Loops.of []
theorem lf_laws_FnPackTable : LoopsFn Try.prog C_laws_FnPackTable O_laws_FnPackTable 5 L_laws_FnPackTable := LoopsFn.nil' (by kernel_rfl)
def out_laws_FnPackTable (r : Bool) : AV × Store := out1 (.one (.dat .bool)) [] (r, ())
theorem w_laws_FnPackTable (x : FAr [.one (.dat (.sl (.int .u8)))] []) : evBodyK Try.prog C_laws_FnPackTable O_laws_FnPackTable L_laws_FnPackTable 5 (encAr [.one (.dat (.sl (.int .u8)))] [] x).1 (encAr [.one (.dat (.sl (.int .u8)))] [] x).2 (fun v s => some (v, s)) =
    laws_FnPackTableK x.1 (fun r => some (out_laws_FnPackTable r)) := by kernel_rfl
theorem sem_laws_FnPackTable : ∀ x y, (fun x => laws_FnPackTable x.1) x = some y → SemCall Try.prog 5 (encAr [.one (.dat (.sl (.int .u8)))] [] x).1 (encAr [.one (.dat (.sl (.int .u8)))] [] x).2 (out_laws_FnPackTable y).1 (out_laws_FnPackTable y).2 :=
  sem_of folP okP tabP (Oracle.of_ok (Oracle.cons_ok ok_spec_PackTable (Oracle.cons_ok ok_impl_PackTable (Oracle.cons_ok ok_impl_UnpackTable (Oracle.cons_ok ok_spec_DrawPackTable (Oracle.cons_ok ok_laws_sameInts (Oracle.cons_ok ok_spec_TableValid (Oracle.cons_ok ok_laws_alive (Oracle.cons_ok ok_laws_sameTable Oracle.nil_ok))))))))) lf_laws_FnPackTable fun x => (w_laws_FnPackTable x).trans (laws_FnPackTable_eq x.1 _)
noncomputable def c_laws_FnPackTable : Con := Con.shape [.one (.dat (.sl (.int .u8)))] [] (fun x => laws_FnPackTable x.1) out_laws_FnPackTable
theorem ok_laws_FnPackTable : ConOk Try.prog 5 c_laws_FnPackTable := Con.shape_ok sem_laws_FnPackTable

/-! 25 -/
def C_spec_DrawUnpackTable : Cfg := { T := tab, hint := fun _ => { mu := [6, 9, 16], keepR := [0, 2, 3, 4, 11, 13, 17, 32], res := [2], keepX := [(0, [4])], refR := true }, mode := modeOf [(38, .sub), (43, .sub), (44, .sub)] }
noncomputable def O_spec_DrawUnpackTable : Oracle := Oracle.of [(8, c_spec_PackTable), (38, c_spec_l20Table), (39, c_spec_l20Open), (43, c_spec_l20Rd_odd), (44, c_spec_l20Rd_pick)]
noncomputable def L_spec_DrawUnpackTable : Loops := Loops.of []
theorem lf_spec_DrawUnpackTable : LoopsFn Try.prog C_spec_DrawUnpackTable O_spec_DrawUnpackTable 25 L_spec_DrawUnpackTable := LoopsFn.nil' (by kernel_rfl)
def out_spec_DrawUnpackTable (r : Nat × (List Int)) : AV × Store := out1 (.one (.refn 0)) [.data I] (r.1, r.2, ())
theorem w_spec_DrawUnpackTable (x : FAr [.one (.dat (.sl (.int .u8)))] []) : evBodyK Try.prog C_spec_DrawUnpackTable O_spec_DrawUnpackTable L_spec_DrawUnpackTable 25 (encAr [.one (.dat (.sl (.int .u8)))] [] x).1 (encAr [.one (.dat (.sl (.int .u8)))] [] x).2 (fun v s => some (v, s)) =
    spec_DrawUnpackTableK x.1 (fun r => some (out_spec_DrawUnpackTable r)) := by kernel_rfl
theorem sem_spec_DrawUnpackTable : ∀ x y, (fun x => spec_DrawUnpackTable x.1) x = some y → SemCall Try.prog 25 (encAr [.one (.dat (.sl (.int .u8)))] [] x).1 (encAr [.one (.dat (.sl (.int .u8)))] [] x).2 (out_spec_DrawUnpackTable y).1 (out_spec_DrawUnpackTable y).2 :=
  sem_of folP okP tabP (Oracle.of_ok (Oracle.cons_ok ok_spec_PackTable (Oracle.cons_ok ok_spec_l20Table (Oracle.cons_ok ok_spec_l20Open (Oracle.cons_ok ok_spec_l20Rd_odd (Oracle.cons_ok ok_spec_l20Rd_pick Oracle.nil_ok)))))) lf_spec_DrawUnpackTable fun x => (w_spec_DrawUnpackTable x).trans (spec_DrawUnpackTable_eq x.1 _)
noncomputable def c_spec_DrawUnpackTable : Con := Con.shape [.one (.dat (.sl (.int .u8)))] [] (fun x => spec_DrawUnpackTable x.1) out_spec_DrawUnpackTable
theorem ok_spec_DrawUnpackTable : ConOk Try.prog 25 c_spec_DrawUnpackTable := Con.shape_ok sem_spec_DrawUnpackTable

/-! 6 -/
def C_laws_FnUnpackTable : Cfg := { T := tab, hint := fun _ => { mu := [4, 6], keepR := [0, 2, 3, 4, 5, 6, 7, 10, 31], res := [2] }, mode := fun _ => .borrow }
noncomputable def O_laws_FnUnpackTable : Oracle := Oracle.of [(10, c_impl_PackTable), (16, c_spec_UnpackTable), (18, c_impl_UnpackTable), (21, c_laws_sameInts), (23, c_laws_alive), (24, c_laws_sameTable), (25, c_spec_DrawUnpackTable)]
noncomputable def L_laws_FnUnpackTable : Loops := Loops.of []
theorem lf_laws_FnUnpackTable : LoopsFn Try.prog C_laws_FnUnpackTable O_laws_FnUnpackTable 6 L_laws_FnUnpackTable := LoopsFn.nil' (by kernel_rfl)
def out_laws_FnUnpackTable (r : Bool) : AV × Store := out1 (.one (.dat .bool)) [] (r, ())
theorem w_laws_FnUnpackTable (x : FAr [.one (.dat (.sl (.int .u8)))] []) : evBodyK Try.prog C_laws_FnUnpackTable O_laws_FnUnpackTable L_laws_FnUnpackTable 6 (encAr [.one (.dat (.sl (.int .u8)))] [] x).1 (encAr [.one (.dat (.sl (.int .u8)))] [] x).2 (fun v s => some (v, s)) =
    laws_FnUnpackTableK x.1 (fun r => some (out_laws_FnUnpackTable r)) := by kernel_rfl
theorem sem_laws_FnUnpackTable : ∀ x y, (fun x => laws_FnUnpackTable x.1) x = some y → SemCall Try.prog 6 (encAr [.one (.dat (.sl (.int .u8)))] [] x).1 (encAr [.one (.dat (.sl (.int .u8)))] [] x).2 (out_laws_FnUnpackTable y).1 (out_laws_FnUnpackTable y).2 :=
  sem_of folP okP tabP (Oracle.of_ok (Oracle.cons_ok ok_impl_PackTable (Oracle.cons_ok ok_spec_UnpackTable (Oracle.cons_ok ok_impl_UnpackTable (Oracle.cons_ok ok_laws_sameInts (Oracle.cons_ok ok_laws_alive (Oracle.cons_ok ok_laws_sameTable (Oracle.cons_ok ok_spec_DrawUnpackTable Oracle.nil_ok)))))))) lf_laws_FnUnpackTable fun x => (w_laws_FnUnpackTable x).trans (laws_FnUnpackTable_eq x.1 _)
noncomputable def c_laws_FnUnpackTable : Con := Con.shape [.one (.dat (.sl (.int .u8)))] [] (fun x => laws_FnUnpackTable x.1) out_laws_FnUnpackTable
theorem ok_laws_FnUnpackTable : ConOk Try.prog 6 c_laws_FnUnpackTable := Con.shape_ok sem_laws_FnUnpackTable

end Go.Ev
