/-
  The walks: the program computes what the functions of plain data compute, wherever these come to a result; printed by a program of the prover.
-/
import Derived.Test.YtbedpooicdikjaaDefs
import Derived.Test.YtbedpooicdikjaaProg
import Derived.Test.YtbedpooicdikjaaAlive
namespace Go.Ev
open Go.Proofs
set_option linter.unusedVariables false
set_option linter.unusedSimpArgs false
set_option maxRecDepth 100000
def tys : List (Nat × Ty) := [(3, I), (4, .bool), (5, (.int .u8)), (22, (.sl tQuota)), (25, (.sl tQuota)), (31, (.sl (.int .u8))), (34, tQuota), (44, (.sl I)), (47, tQuota), (59, tl20Rd)]
def tups : List (Nat × List Ty) := [(37, [(.sl tQuota), .bool]), (40, [(.sl tQuota), I]), (42, [(.sl tQuota), I, I])]
def tab : Tab := tabOf tys tups
theorem okP : progOk Try.prog = true := by kernel_rfl
theorem tabP : TabOk Try.prog tab := tabOf_ok (by kernel_rfl)
theorem folP : Try.prog.follows .mixedOrders = true := by kernel_rfl
/-! 12 -/
def C_laws_szQuotaS : Cfg := { T := tab, hint := fun _ => { keepR := [0, 1, 4, 10], res := [4] }, mode := fun _ => .borrow }
noncomputable def O_laws_szQuotaS : Oracle := Oracle.of []
noncomputable def L_laws_szQuotaS : Loops := Loops.of []
theorem lf_laws_szQuotaS : LoopsFn Try.prog C_laws_szQuotaS O_laws_szQuotaS 12 L_laws_szQuotaS := LoopsFn.nil' (by kernel_rfl)
def out_laws_szQuotaS (r : Int) : AV × Store := out1 (.one (.dat I)) [] (r, ())
theorem w_laws_szQuotaS (x : FAr [.one (.dat (.sl tQuota)), .one (.dat I)] []) : evBodyK Try.prog C_laws_szQuotaS O_laws_szQuotaS L_laws_szQuotaS 12 (encAr [.one (.dat (.sl tQuota)), .one (.dat I)] [] x).1 (encAr [.one (.dat (.sl tQuota)), .one (.dat I)] [] x).2 (fun v s => some (v, s)) =
    laws_szQuotaSK x.1 x.2.1 (fun r => some (out_laws_szQuotaS r)) := by kernel_rfl
theorem sem_laws_szQuotaS : ∀ x y, (fun x => laws_szQuotaS x.1 x.2.1) x = some y → SemCall Try.prog 12 (encAr [.one (.dat (.sl tQuota)), .one (.dat I)] [] x).1 (encAr [.one (.dat (.sl tQuota)), .one (.dat I)] [] x).2 (out_laws_szQuotaS y).1 (out_laws_szQuotaS y).2 :=
  sem_of folP okP tabP (Oracle.of_ok Oracle.nil_ok) lf_laws_szQuotaS fun x => (w_laws_szQuotaS x).trans (laws_szQuotaS_eq x.1 x.2.1 _)
noncomputable def c_laws_szQuotaS : Con := Con.shape [.one (.dat (.sl tQuota)), .one (.dat I)] [] (fun x => laws_szQuotaS x.1 x.2.1) out_laws_szQuotaS
theorem ok_laws_szQuotaS : ConOk Try.prog 12 c_laws_szQuotaS := Con.shape_ok sem_laws_szQuotaS

/-! 32 -/
def C_laws_toQuota : Cfg := { T := tab, hint := fun _ => { mu := [2, 3], keepR := [1, 2, 3], res := [2] }, mode := fun _ => .borrow }
noncomputable def O_laws_toQuota : Oracle := Oracle.of []
noncomputable def L_laws_toQuota : Loops := Loops.of []
theorem lf_laws_toQuota : LoopsFn Try.prog C_laws_toQuota O_laws_toQuota 32 L_laws_toQuota := LoopsFn.nil' (by kernel_rfl)
def out_laws_toQuota (r : DQuota) : AV × Store := out1 (.one (.dat tQuota)) [] (r, ())
theorem w_laws_toQuota (x : FAr [.one (.dat tQuota)] []) : evBodyK Try.prog C_laws_toQuota O_laws_toQuota L_laws_toQuota 32 (encAr [.one (.dat tQuota)] [] x).1 (encAr [.one (.dat tQuota)] [] x).2 (fun v s => some (v, s)) =
    laws_toQuotaK x.1 (fun r => some (out_laws_toQuota r)) := by kernel_rfl
theorem sem_laws_toQuota : ∀ x y, (fun x => laws_toQuota x.1) x = some y → SemCall Try.prog 32 (encAr [.one (.dat tQuota)] [] x).1 (encAr [.one (.dat tQuota)] [] x).2 (out_laws_toQuota y).1 (out_laws_toQuota y).2 :=
  sem_of folP okP tabP (Oracle.of_ok Oracle.nil_ok) lf_laws_toQuota fun x => (w_laws_toQuota x).trans (laws_toQuota_eq x.1 _)
noncomputable def c_laws_toQuota : Con := Con.shape [.one (.dat tQuota)] [] (fun x => laws_toQuota x.1) out_laws_toQuota
theorem ok_laws_toQuota : ConOk Try.prog 32 c_laws_toQuota := Con.shape_ok sem_laws_toQuota

/-! 14 -/
def C_laws_toQuotaS : Cfg := { T := tab, hint := fun _ => { mu := [7], keepR := [0, 2, 3, 4, 11], res := [2], keepL := [(0, [0, 3, 4])], keepX := [(0, [3]), (1, [0, 3, 4])] }, mode := fun _ => .borrow }
noncomputable def O_laws_toQuotaS : Oracle := Oracle.of [(32, c_laws_toQuota)]
def sh_laws_toQuotaS_l0 : List (Nat × S2) := [(0, .one (.dat (.sl tQuota))), (3, .one (.all 0)), (4, .one (.dat I))]
def bs_laws_toQuotaS_l0 : List SB := [.data tQuota]
noncomputable def lc_laws_toQuotaS_l0 : LCon := LCon.shape1 sh_laws_toQuotaS_l0 bs_laws_toQuotaS_l0 laws_toQuotaS_l0 (fun a => (.exit 0, encSt [(3, .one (.all 0))] [.data tQuota] a))
noncomputable def L_laws_toQuotaS : Loops := Loops.of [(0, lc_laws_toQuotaS_l0)]
theorem r_laws_toQuotaS_l0 (x : FSt sh_laws_toQuotaS_l0 bs_laws_toQuotaS_l0) : roundK C_laws_toQuotaS.T (C_laws_toQuotaS.hint 14) C_laws_toQuotaS.mode O_laws_toQuotaS L_laws_toQuotaS 0 (lp Try.prog 14 0) (encSt sh_laws_toQuotaS_l0 bs_laws_toQuotaS_l0 x) (fun e s => some (e, s)) =
    laws_toQuotaS_l0K x.1 x.2.1 x.2.2.1 (fun y => some (Ex.normal, encSt sh_laws_toQuotaS_l0 bs_laws_toQuotaS_l0 y)) (fun a => some (Ex.exit 0, encSt [(3, .one (.all 0))] [.data tQuota] a)) := by kernel_rfl
theorem lo_laws_toQuotaS_l0 : LConOk C_laws_toQuotaS.T (C_laws_toQuotaS.hint 14) C_laws_toQuotaS.mode O_laws_toQuotaS L_laws_toQuotaS 0 (lp Try.prog 14 0) lc_laws_toQuotaS_l0 :=
  LCon.shape1_ok (fun a => by simp) fun x => (r_laws_toQuotaS_l0 x).trans (laws_toQuotaS_l0_eq x.1 x.2.1 x.2.2.1 _ _)
theorem lf_laws_toQuotaS : LoopsFn Try.prog C_laws_toQuotaS O_laws_toQuotaS 14 L_laws_toQuotaS := LoopsFn.all (by kernel_rfl) (by decide) ⟨lo_laws_toQuotaS_l0, trivial⟩
def out_laws_toQuotaS (r : (List DQuota)) : AV × Store := out1 (.one (.all 0)) [.data tQuota] (r, ())
theorem w_laws_toQuotaS (x : FAr [.one (.dat (.sl tQuota))] []) : evBodyK Try.prog C_laws_toQuotaS O_laws_toQuotaS L_laws_toQuotaS 14 (encAr [.one (.dat (.sl tQuota))] [] x).1 (encAr [.one (.dat (.sl tQuota))] [] x).2 (fun v s => some (v, s)) =
    laws_toQuotaSK x.1 (fun r => some (out_laws_toQuotaS r)) := by kernel_rfl
theorem sem_laws_toQuotaS : ∀ x y, (fun x => laws_toQuotaS x.1) x = some y → SemCall Try.prog 14 (encAr [.one (.dat (.sl tQuota))] [] x).1 (encAr [.one (.dat (.sl tQuota))] [] x).2 (out_laws_toQuotaS y).1 (out_laws_toQuotaS y).2 :=
  sem_of folP okP tabP (Oracle.of_ok (Oracle.cons_ok ok_laws_toQuota Oracle.nil_ok)) lf_laws_toQuotaS fun x => (w_laws_toQuotaS x).trans (laws_toQuotaS_eq x.1 _)
noncomputable def c_laws_toQuotaS : Con := Con.shape [.one (.dat (.sl tQuota))] [] (fun x => laws_toQuotaS x.1) out_laws_toQuotaS
theorem ok_laws_toQuotaS : ConOk Try.prog 14 c_laws_toQuotaS := Con.shape_ok sem_laws_toQuotaS

/-! 31 -/
def C_spec_l1In : Cfg := { T := tab, hint := fun _ => { keepR := [0, 1, 2, 6], res := [6] }, mode := fun _ => .borrow }
noncomputable def O_spec_l1In : Oracle := Oracle.of []
noncomputable def L_spec_l1In : Loops := Loops.of []
theorem lf_spec_l1In : LoopsFn Try.prog C_spec_l1In O_spec_l1In 31 L_spec_l1In := LoopsFn.nil' (by kernel_rfl)
def out_spec_l1In (r : Bool) : AV × Store := out1 (.one (.dat .bool)) [] (r, ())
theorem w_spec_l1In (x : FAr [.one (.dat I), .one (.dat I), .one (.dat I)] []) : evBodyK Try.prog C_spec_l1In O_spec_l1In L_spec_l1In 31 (encAr [.one (.dat I), .one (.dat I), .one (.dat I)] [] x).1 (encAr [.one (.dat I), .one (.dat I), .one (.dat I)] [] x).2 (fun v s => some (v, s)) =
    spec_l1InK x.1 x.2.1 x.2.2.1 (fun r => some (out_spec_l1In r)) := by kernel_rfl
theorem sem_spec_l1In : ∀ x y, (fun x => spec_l1In x.1 x.2.1 x.2.2.1) x = some y → SemCall Try.prog 31 (encAr [.one (.dat I), .one (.dat I), .one (.dat I)] [] x).1 (encAr [.one (.dat I), .one (.dat I), .one (.dat I)] [] x).2 (out_spec_l1In y).1 (out_spec_l1In y).2 :=
  sem_of folP okP tabP (Oracle.of_ok Oracle.nil_ok) lf_spec_l1In fun x => (w_spec_l1In x).trans (spec_l1In_eq x.1 x.2.1 x.2.2.1 _)
noncomputable def c_spec_l1In : Con := Con.shape [.one (.dat I), .one (.dat I), .one (.dat I)] [] (fun x => spec_l1In x.1 x.2.1 x.2.2.1) out_spec_l1In
theorem ok_spec_l1In : ConOk Try.prog 31 c_spec_l1In := Con.shape_ok sem_spec_l1In

/-! 13 -/
def C_spec_QuotasValid : Cfg := { T := tab, hint := fun _ => { mu := [5, 9], keepR := [0, 2, 3, 4, 5, 6, 13, 39, 42, 58, 70], res := [2], order := [(9, [(0, .read), (1, .read), (2, .read), (3, .read), (4, .read), (5, .read), (6, .read), (7, .read), (8, .forced), (9, .forced), (10, .forced), (11, .forced), (12, .forced)]), (13, [(0, .read), (1, .read), (2, .read), (3, .read), (4, .read), (5, .forced), (6, .forced), (7, .forced), (8, .forced), (9, .forced)])], keepL := [(0, [0, 3, 4]), (2, [0, 3, 6])], keepX := [(0, [0, 3]), (1, [0, 3, 4]), (2, [0]), (3, [0, 3, 6])] }, mode := fun _ => .borrow }
noncomputable def O_spec_QuotasValid : Oracle := Oracle.of [(31, c_spec_l1In)]
def sh_spec_QuotasValid_l0 : List (Nat × S2) := [(0, .one (.dat (.sl tQuota))), (3, .one (.all 0)), (4, .one (.dat I))]
def bs_spec_QuotasValid_l0 : List SB := [.data I]
noncomputable def lc_spec_QuotasValid_l0 : LCon := LCon.shape sh_spec_QuotasValid_l0 bs_spec_QuotasValid_l0 spec_QuotasValid_l0 (fun a => (.exit 0, encSt [(0, .one (.dat (.sl tQuota))), (3, .one (.all 0))] [.data I] a)) (fun b => encSt [(2, .one (.dat .bool))] [] b)
def sh_spec_QuotasValid_l2 : List (Nat × S2) := [(0, .one (.dat (.sl tQuota))), (3, .one (.all 0)), (6, .one (.dat I))]
def bs_spec_QuotasValid_l2 : List SB := [.data I]
noncomputable def lc_spec_QuotasValid_l2 : LCon := LCon.shape sh_spec_QuotasValid_l2 bs_spec_QuotasValid_l2 spec_QuotasValid_l2 (fun a => (.exit 2, encSt [(0, .one (.dat (.sl tQuota)))] [] a)) (fun b => encSt [(2, .one (.dat .bool))] [] b)
noncomputable def L_spec_QuotasValid : Loops := Loops.of [(0, lc_spec_QuotasValid_l0), (2, lc_spec_QuotasValid_l2)]
theorem r_spec_QuotasValid_l0 (x : FSt sh_spec_QuotasValid_l0 bs_spec_QuotasValid_l0) : roundK C_spec_QuotasValid.T (C_spec_QuotasValid.hint 13) C_spec_QuotasValid.mode O_spec_QuotasValid L_spec_QuotasValid 0 (lp Try.prog 13 0) (encSt sh_spec_QuotasValid_l0 bs_spec_QuotasValid_l0 x) (fun e s => some (e, s)) =
    spec_QuotasValid_l0K x.1 x.2.1 x.2.2.1 (fun y => some (Ex.normal, encSt sh_spec_QuotasValid_l0 bs_spec_QuotasValid_l0 y)) (fun a => some (Ex.exit 0, encSt [(0, .one (.dat (.sl tQuota))), (3, .one (.all 0))] [.data I] a)) (fun b => some (Ex.ret, encSt [(2, .one (.dat .bool))] [] b)) := by kernel_rfl
theorem lo_spec_QuotasValid_l0 : LConOk C_spec_QuotasValid.T (C_spec_QuotasValid.hint 13) C_spec_QuotasValid.mode O_spec_QuotasValid L_spec_QuotasValid 0 (lp Try.prog 13 0) lc_spec_QuotasValid_l0 :=
  LCon.shape_ok (fun a => by simp) fun x => (r_spec_QuotasValid_l0 x).trans (spec_QuotasValid_l0_eq x.1 x.2.1 x.2.2.1 _ _ _)
theorem r_spec_QuotasValid_l2 (x : FSt sh_spec_QuotasValid_l2 bs_spec_QuotasValid_l2) : roundK C_spec_QuotasValid.T (C_spec_QuotasValid.hint 13) C_spec_QuotasValid.mode O_spec_QuotasValid L_spec_QuotasValid 2 (lp Try.prog 13 1) (encSt sh_spec_QuotasValid_l2 bs_spec_QuotasValid_l2 x) (fun e s => some (e, s)) =
    spec_QuotasValid_l2K x.1 x.2.1 x.2.2.1 (fun y => some (Ex.normal, encSt sh_spec_QuotasValid_l2 bs_spec_QuotasValid_l2 y)) (fun a => some (Ex.exit 2, encSt [(0, .one (.dat (.sl tQuota)))] [] a)) (fun b => some (Ex.ret, encSt [(2, .one (.dat .bool))] [] b)) := by kernel_rfl
theorem lo_spec_QuotasValid_l2 : LConOk C_spec_QuotasValid.T (C_spec_QuotasValid.hint 13) C_spec_QuotasValid.mode O_spec_QuotasValid L_spec_QuotasValid 2 (lp Try.prog 13 1) lc_spec_QuotasValid_l2 :=
  LCon.shape_ok (fun a => by simp) fun x => (r_spec_QuotasValid_l2 x).trans (spec_QuotasValid_l2_eq x.1 x.2.1 x.2.2.1 _ _ _)
theorem lf_spec_QuotasValid : LoopsFn Try.prog C_spec_QuotasValid O_spec_QuotasValid 13 L_spec_QuotasValid := LoopsFn.all (by kernel_rfl) (by decide) ⟨lo_spec_QuotasValid_l0, lo_spec_QuotasValid_l2, trivial⟩
def out_spec_QuotasValid (r : Bool) : AV × Store := out1 (.one (.dat .bool)) [] (r, ())
theorem w_spec_QuotasValid (x : FAr [.one (.dat (.sl tQuota))] []) : evBodyK Try.prog C_spec_QuotasValid O_spec_QuotasValid L_spec_QuotasValid 13 (encAr [.one (.dat (.sl tQuota))] [] x).1 (encAr [.one (.dat (.sl tQuota))] [] x).2 (fun v s => some (v, s)) =
    spec_QuotasValidK x.1 (fun r => some (out_spec_QuotasValid r)) := by kernel_rfl
theorem sem_spec_QuotasValid : ∀ x y, (fun x => spec_QuotasValid x.1) x = some y → SemCall Try.prog 13 (encAr [.one (.dat (.sl tQuota))] [] x).1 (encAr [.one (.dat (.sl tQuota))] [] x).2 (out_spec_QuotasValid y).1 (out_spec_QuotasValid y).2 :=
  sem_of folP okP tabP (Oracle.of_ok (Oracle.cons_ok ok_spec_l1In Oracle.nil_ok)) lf_spec_QuotasValid fun x => (w_spec_QuotasValid x).trans (spec_QuotasValid_eq x.1 _)
noncomputable def c_spec_QuotasValid : Con := Con.shape [.one (.dat (.sl tQuota))] [] (fun x => spec_QuotasValid x.1) out_spec_QuotasValid
theorem ok_spec_QuotasValid : ConOk Try.prog 13 c_spec_QuotasValid := Con.shape_ok sem_spec_QuotasValid

/-! 33 -/
def C_impl_in : Cfg := { T := tab, hint := fun _ => { keepR := [0, 1, 2, 6], res := [6] }, mode := fun _ => .borrow }
noncomputable def O_impl_in : Oracle := Oracle.of []
noncomputable def L_impl_in : Loops := Loops.of []
theorem lf_impl_in : LoopsFn Try.prog C_impl_in O_impl_in 33 L_impl_in := LoopsFn.nil' (by kernel_rfl)
def out_impl_in (r : Bool) : AV × Store := out1 (.one (.dat .bool)) [] (r, ())
theorem w_impl_in (x : FAr [.one (.dat I), .one (.dat I), .one (.dat I)] []) : evBodyK Try.prog C_impl_in O_impl_in L_impl_in 33 (encAr [.one (.dat I), .one (.dat I), .one (.dat I)] [] x).1 (encAr [.one (.dat I), .one (.dat I), .one (.dat I)] [] x).2 (fun v s => some (v, s)) =
    impl_inK x.1 x.2.1 x.2.2.1 (fun r => some (out_impl_in r)) := by kernel_rfl
theorem sem_impl_in : ∀ x y, (fun x => impl_in x.1 x.2.1 x.2.2.1) x = some y → SemCall Try.prog 33 (encAr [.one (.dat I), .one (.dat I), .one (.dat I)] [] x).1 (encAr [.one (.dat I), .one (.dat I), .one (.dat I)] [] x).2 (out_impl_in y).1 (out_impl_in y).2 :=
  sem_of folP okP tabP (Oracle.of_ok Oracle.nil_ok) lf_impl_in fun x => (w_impl_in x).trans (impl_in_eq x.1 x.2.1 x.2.2.1 _)
noncomputable def c_impl_in : Con := Con.shape [.one (.dat I), .one (.dat I), .one (.dat I)] [] (fun x => impl_in x.1 x.2.1 x.2.2.1) out_impl_in
theorem ok_impl_in : ConOk Try.prog 33 c_impl_in := Con.shape_ok sem_impl_in

/-! 34 -/
def C_impl_parts : Cfg := { T := tab, hint := fun _ => { mu := [7], keepR := [0, 1, 4, 5, 7, 8, 9, 10, 11, 17], res := [4], keepL := [(0, [1, 5, 8, 9, 10])], keepX := [(0, [5]), (1, [1, 5, 8, 9, 10])] }, mode := fun _ => .borrow }
noncomputable def O_impl_parts : Oracle := Oracle.of []
def sh_impl_parts_l0 : List (Nat × S2) := [(1, .one (.dat I)), (5, .one (.dat I)), (8, .one (.dat (.sl tQuota))), (9, .one (.dat I)), (10, .one (.dat I))]
def bs_impl_parts_l0 : List SB := []
noncomputable def lc_impl_parts_l0 : LCon := LCon.shape1 sh_impl_parts_l0 bs_impl_parts_l0 impl_parts_l0 (fun a => (.exit 0, encSt [(5, .one (.dat I))] [] a))
noncomputable def L_impl_parts : Loops := Loops.of [(0, lc_impl_parts_l0)]
theorem r_impl_parts_l0 (x : FSt sh_impl_parts_l0 bs_impl_parts_l0) : roundK C_impl_parts.T (C_impl_parts.hint 34) C_impl_parts.mode O_impl_parts L_impl_parts 0 (lp Try.prog 34 0) (encSt sh_impl_parts_l0 bs_impl_parts_l0 x) (fun e s => some (e, s)) =
    impl_parts_l0K x.1 x.2.1 x.2.2.1 x.2.2.2.1 x.2.2.2.2.1 (fun y => some (Ex.normal, encSt sh_impl_parts_l0 bs_impl_parts_l0 y)) (fun a => some (Ex.exit 0, encSt [(5, .one (.dat I))] [] a)) := by kernel_rfl
theorem lo_impl_parts_l0 : LConOk C_impl_parts.T (C_impl_parts.hint 34) C_impl_parts.mode O_impl_parts L_impl_parts 0 (lp Try.prog 34 0) lc_impl_parts_l0 :=
  LCon.shape1_ok (fun a => by simp) fun x => (r_impl_parts_l0 x).trans (impl_parts_l0_eq x.1 x.2.1 x.2.2.1 x.2.2.2.1 x.2.2.2.2.1 _ _)
theorem lf_impl_parts : LoopsFn Try.prog C_impl_parts O_impl_parts 34 L_impl_parts := LoopsFn.all (by kernel_rfl) (by decide) ⟨lo_impl_parts_l0, trivial⟩
def out_impl_parts (r : Int) : AV × Store := out1 (.one (.dat I)) [] (r, ())
theorem w_impl_parts (x : FAr [.one (.dat (.sl tQuota)), .one (.dat I)] []) : evBodyK Try.prog C_impl_parts O_impl_parts L_impl_parts 34 (encAr [.one (.dat (.sl tQuota)), .one (.dat I)] [] x).1 (encAr [.one (.dat (.sl tQuota)), .one (.dat I)] [] x).2 (fun v s => some (v, s)) =
    impl_partsK x.1 x.2.1 (fun r => some (out_impl_parts r)) := by kernel_rfl
theorem sem_impl_parts : ∀ x y, (fun x => impl_parts x.1 x.2.1) x = some y → SemCall Try.prog 34 (encAr [.one (.dat (.sl tQuota)), .one (.dat I)] [] x).1 (encAr [.one (.dat (.sl tQuota)), .one (.dat I)] [] x).2 (out_impl_parts y).1 (out_impl_parts y).2 :=
  sem_of folP okP tabP (Oracle.of_ok Oracle.nil_ok) lf_impl_parts fun x => (w_impl_parts x).trans (impl_parts_eq x.1 x.2.1 _)
noncomputable def c_impl_parts : Con := Con.shape [.one (.dat (.sl tQuota)), .one (.dat I)] [] (fun x => impl_parts x.1 x.2.1) out_impl_parts
theorem ok_impl_parts : ConOk Try.prog 34 c_impl_parts := Con.shape_ok sem_impl_parts

/-! 15 -/
def C_impl_QuotasValid : Cfg := { T := tab, hint := fun _ => { mu := [4, 6], keepR := [0, 2, 3, 4, 5, 6, 7, 8, 9, 10, 33, 35, 36, 37, 38, 47], res := [2], order := [(10, [(0, .read), (1, .read), (2, .read), (3, .forced), (4, .forced), (5, .forced)])], keepL := [(0, [0, 7, 8, 9]), (2, [0, 35, 36, 37])], keepX := [(0, [0]), (1, [0, 7, 8, 9]), (2, [0]), (3, [0, 35, 36, 37])] }, mode := fun _ => .borrow }
noncomputable def O_impl_QuotasValid : Oracle := Oracle.of [(33, c_impl_in), (34, c_impl_parts)]
def sh_impl_QuotasValid_l0 : List (Nat × S2) := [(0, .one (.dat (.sl tQuota))), (7, .one (.dat (.sl tQuota))), (8, .one (.dat I)), (9, .one (.dat I))]
def bs_impl_QuotasValid_l0 : List SB := []
noncomputable def lc_impl_QuotasValid_l0 : LCon := LCon.shape sh_impl_QuotasValid_l0 bs_impl_QuotasValid_l0 impl_QuotasValid_l0 (fun a => (.exit 0, encSt [(0, .one (.dat (.sl tQuota)))] [] a)) (fun b => encSt [(2, .one (.dat .bool))] [] b)
def sh_impl_QuotasValid_l2 : List (Nat × S2) := [(0, .one (.dat (.sl tQuota))), (35, .one (.dat (.sl tQuota))), (36, .one (.dat I)), (37, .one (.dat I))]
def bs_impl_QuotasValid_l2 : List SB := []
noncomputable def lc_impl_QuotasValid_l2 : LCon := LCon.shape sh_impl_QuotasValid_l2 bs_impl_QuotasValid_l2 impl_QuotasValid_l2 (fun a => (.exit 2, encSt [(0, .one (.dat (.sl tQuota)))] [] a)) (fun b => encSt [(2, .one (.dat .bool))] [] b)
noncomputable def L_impl_QuotasValid : Loops := Loops.of [(0, lc_impl_QuotasValid_l0), (2, lc_impl_QuotasValid_l2)]
theorem r_impl_QuotasValid_l0 (x : FSt sh_impl_QuotasValid_l0 bs_impl_QuotasValid_l0) : roundK C_impl_QuotasValid.T (C_impl_QuotasValid.hint 15) C_impl_QuotasValid.mode O_impl_QuotasValid L_impl_QuotasValid 0 (lp Try.prog 15 0) (encSt sh_impl_QuotasValid_l0 bs_impl_QuotasValid_l0 x) (fun e s => some (e, s)) =
    impl_QuotasValid_l0K x.1 x.2.1 x.2.2.1 x.2.2.2.1 (fun y => some (Ex.normal, encSt sh_impl_QuotasValid_l0 bs_impl_QuotasValid_l0 y)) (fun a => some (Ex.exit 0, encSt [(0, .one (.dat (.sl tQuota)))] [] a)) (fun b => some (Ex.ret, encSt [(2, .one (.dat .bool))] [] b)) := by kernel_rfl
theorem lo_impl_QuotasValid_l0 : LConOk C_impl_QuotasValid.T (C_impl_QuotasValid.hint 15) C_impl_QuotasValid.mode O_impl_QuotasValid L_impl_QuotasValid 0 (lp Try.prog 15 0) lc_impl_QuotasValid_l0 :=
  LCon.shape_ok (fun a => by simp) fun x => (r_impl_QuotasValid_l0 x).trans (impl_QuotasValid_l0_eq x.1 x.2.1 x.2.2.1 x.2.2.2.1 _ _ _)
theorem r_impl_QuotasValid_l2 (x : FSt sh_impl_QuotasValid_l2 bs_impl_QuotasValid_l2) : roundK C_impl_QuotasValid.T (C_impl_QuotasValid.hint 15) C_impl_QuotasValid.mode O_impl_QuotasValid L_impl_QuotasValid 2 (lp Try.prog 15 1) (encSt sh_impl_QuotasValid_l2 bs_impl_QuotasValid_l2 x) (fun e s => some (e, s)) =
    impl_QuotasValid_l2K x.1 x.2.1 x.2.2.1 x.2.2.2.1 (fun y => some (Ex.normal, encSt sh_impl_QuotasValid_l2 bs_impl_QuotasValid_l2 y)) (fun a => some (Ex.exit 2, encSt [(0, .one (.dat (.sl tQuota)))] [] a)) (fun b => some (Ex.ret, encSt [(2, .one (.dat .bool))] [] b)) := by kernel_rfl
theorem lo_impl_QuotasValid_l2 : LConOk C_impl_QuotasValid.T (C_impl_QuotasValid.hint 15) C_impl_QuotasValid.mode O_impl_QuotasValid L_impl_QuotasValid 2 (lp Try.prog 15 1) lc_impl_QuotasValid_l2 :=
  LCon.shape_ok (fun a => by simp) fun x => (r_impl_QuotasValid_l2 x).trans (impl_QuotasValid_l2_eq x.1 x.2.1 x.2.2.1 x.2.2.2.1 _ _ _)
theorem lf_impl_QuotasValid : LoopsFn Try.prog C_impl_QuotasValid O_impl_QuotasValid 15 L_impl_QuotasValid := LoopsFn.all (by kernel_rfl) (by decide) ⟨lo_impl_QuotasValid_l0, lo_impl_QuotasValid_l2, trivial⟩
def out_impl_QuotasValid (r : Bool) : AV × Store := out1 (.one (.dat .bool)) [] (r, ())
theorem w_impl_QuotasValid (x : FAr [.one (.dat (.sl tQuota))] []) : evBodyK Try.prog C_impl_QuotasValid O_impl_QuotasValid L_impl_QuotasValid 15 (encAr [.one (.dat (.sl tQuota))] [] x).1 (encAr [.one (.dat (.sl tQuota))] [] x).2 (fun v s => some (v, s)) =
    impl_QuotasValidK x.1 (fun r => some (out_impl_QuotasValid r)) := by kernel_rfl
theorem sem_impl_QuotasValid : ∀ x y, (fun x => impl_QuotasValid x.1) x = some y → SemCall Try.prog 15 (encAr [.one (.dat (.sl tQuota))] [] x).1 (encAr [.one (.dat (.sl tQuota))] [] x).2 (out_impl_QuotasValid y).1 (out_impl_QuotasValid y).2 :=
  sem_of folP okP tabP (Oracle.of_ok (Oracle.cons_ok ok_impl_in (Oracle.cons_ok ok_impl_parts Oracle.nil_ok))) lf_impl_QuotasValid fun x => (w_impl_QuotasValid x).trans (impl_QuotasValid_eq x.1 _)
noncomputable def c_impl_QuotasValid : Con := Con.shape [.one (.dat (.sl tQuota))] [] (fun x => impl_QuotasValid x.1) out_impl_QuotasValid
theorem ok_impl_QuotasValid : ConOk Try.prog 15 c_impl_QuotasValid := Con.shape_ok sem_impl_QuotasValid

/-! 35 -/
def C_laws_eqQuota : Cfg := { T := tab, hint := fun _ => { keepR := [2, 3, 4, 9, 14, 19], res := [4] }, mode := fun _ => .borrow }
noncomputable def O_laws_eqQuota : Oracle := Oracle.of []
noncomputable def L_laws_eqQuota : Loops := Loops.of []
theorem lf_laws_eqQuota : LoopsFn Try.prog C_laws_eqQuota O_laws_eqQuota 35 L_laws_eqQuota := LoopsFn.nil' (by kernel_rfl)
def out_laws_eqQuota (r : Bool) : AV × Store := out1 (.one (.dat .bool)) [] (r, ())
theorem w_laws_eqQuota (x : FAr [.one (.dat tQuota), .one (.dat tQuota)] []) : evBodyK Try.prog C_laws_eqQuota O_laws_eqQuota L_laws_eqQuota 35 (encAr [.one (.dat tQuota), .one (.dat tQuota)] [] x).1 (encAr [.one (.dat tQuota), .one (.dat tQuota)] [] x).2 (fun v s => some (v, s)) =
    laws_eqQuotaK x.1 x.2.1 (fun r => some (out_laws_eqQuota r)) := by kernel_rfl
theorem sem_laws_eqQuota : ∀ x y, (fun x => laws_eqQuota x.1 x.2.1) x = some y → SemCall Try.prog 35 (encAr [.one (.dat tQuota), .one (.dat tQuota)] [] x).1 (encAr [.one (.dat tQuota), .one (.dat tQuota)] [] x).2 (out_laws_eqQuota y).1 (out_laws_eqQuota y).2 :=
  sem_of folP okP tabP (Oracle.of_ok Oracle.nil_ok) lf_laws_eqQuota fun x => (w_laws_eqQuota x).trans (laws_eqQuota_eq x.1 x.2.1 _)
noncomputable def c_laws_eqQuota : Con := Con.shape [.one (.dat tQuota), .one (.dat tQuota)] [] (fun x => laws_eqQuota x.1 x.2.1) out_laws_eqQuota
theorem ok_laws_eqQuota : ConOk Try.prog 35 c_laws_eqQuota := Con.shape_ok sem_laws_eqQuota

/-! 16 -/
def C_laws_eqQuotaS : Cfg := { T := tab, hint := fun _ => { keepR := [0, 1, 4, 5, 10, 14, 26], res := [4], order := [(6, [(0, .read), (1, .read), (2, .read), (3, .read), (4, .read), (5, .forced), (6, .forced), (7, .forced), (8, .forced), (9, .forced)])], keepL := [(0, [0, 1, 5])], keepX := [(0, []), (1, [0, 1, 5])] }, mode := fun _ => .borrow }
noncomputable def O_laws_eqQuotaS : Oracle := Oracle.of [(35, c_laws_eqQuota)]
def sh_laws_eqQuotaS_l0 : List (Nat × S2) := [(0, .one (.dat (.sl tQuota))), (1, .one (.dat (.sl tQuota))), (5, .one (.dat I))]
def bs_laws_eqQuotaS_l0 : List SB := []
noncomputable def lc_laws_eqQuotaS_l0 : LCon := LCon.shape sh_laws_eqQuotaS_l0 bs_laws_eqQuotaS_l0 laws_eqQuotaS_l0 (fun a => (.exit 0, encSt [] [] a)) (fun b => encSt [(4, .one (.dat .bool))] [] b)
noncomputable def L_laws_eqQuotaS : Loops := Loops.of [(0, lc_laws_eqQuotaS_l0)]
theorem r_laws_eqQuotaS_l0 (x : FSt sh_laws_eqQuotaS_l0 bs_laws_eqQuotaS_l0) : roundK C_laws_eqQuotaS.T (C_laws_eqQuotaS.hint 16) C_laws_eqQuotaS.mode O_laws_eqQuotaS L_laws_eqQuotaS 0 (lp Try.prog 16 0) (encSt sh_laws_eqQuotaS_l0 bs_laws_eqQuotaS_l0 x) (fun e s => some (e, s)) =
    laws_eqQuotaS_l0K x.1 x.2.1 x.2.2.1 (fun y => some (Ex.normal, encSt sh_laws_eqQuotaS_l0 bs_laws_eqQuotaS_l0 y)) (fun a => some (Ex.exit 0, encSt [] [] a)) (fun b => some (Ex.ret, encSt [(4, .one (.dat .bool))] [] b)) := by kernel_rfl
theorem lo_laws_eqQuotaS_l0 : LConOk C_laws_eqQuotaS.T (C_laws_eqQuotaS.hint 16) C_laws_eqQuotaS.mode O_laws_eqQuotaS L_laws_eqQuotaS 0 (lp Try.prog 16 0) lc_laws_eqQuotaS_l0 :=
  LCon.shape_ok (fun a => by simp) fun x => (r_laws_eqQuotaS_l0 x).trans (laws_eqQuotaS_l0_eq x.1 x.2.1 x.2.2.1 _ _ _)
theorem lf_laws_eqQuotaS : LoopsFn Try.prog C_laws_eqQuotaS O_laws_eqQuotaS 16 L_laws_eqQuotaS := LoopsFn.all (by kernel_rfl) (by decide) ⟨lo_laws_eqQuotaS_l0, trivial⟩
def out_laws_eqQuotaS (r : Bool) : AV × Store := out1 (.one (.dat .bool)) [] (r, ())
theorem w_laws_eqQuotaS (x : FAr [.one (.dat (.sl tQuota)), .one (.dat (.sl tQuota))] []) : evBodyK Try.prog C_laws_eqQuotaS O_laws_eqQuotaS L_laws_eqQuotaS 16 (encAr [.one (.dat (.sl tQuota)), .one (.dat (.sl tQuota))] [] x).1 (encAr [.one (.dat (.sl tQuota)), .one (.dat (.sl tQuota))] [] x).2 (fun v s => some (v, s)) =
    laws_eqQuotaSK x.1 x.2.1 (fun r => some (out_laws_eqQuotaS r)) := by kernel_rfl
theorem sem_laws_eqQuotaS : ∀ x y, (fun x => laws_eqQuotaS x.1 x.2.1) x = some y → SemCall Try.prog 16 (encAr [.one (.dat (.sl tQuota)), .one (.dat (.sl tQuota))] [] x).1 (encAr [.one (.dat (.sl tQuota)), .one (.dat (.sl tQuota))] [] x).2 (out_laws_eqQuotaS y).1 (out_laws_eqQuotaS y).2 :=
  sem_of folP okP tabP (Oracle.of_ok (Oracle.cons_ok ok_laws_eqQuota Oracle.nil_ok)) lf_laws_eqQuotaS fun x => (w_laws_eqQuotaS x).trans (laws_eqQuotaS_eq x.1 x.2.1 _)
noncomputable def c_laws_eqQuotaS : Con := Con.shape [.one (.dat (.sl tQuota)), .one (.dat (.sl tQuota))] [] (fun x => laws_eqQuotaS x.1 x.2.1) out_laws_eqQuotaS
theorem ok_laws_eqQuotaS : ConOk Try.prog 16 c_laws_eqQuotaS := Con.shape_ok sem_laws_eqQuotaS

/-! 3 -/
def C_laws_FnExactQuotasValid : Cfg := { T := tab, hint := fun _ => { keepR := [0, 2, 3, 4, 5, 6, 11, 21, 26], res := [2] }, mode := fun _ => .borrow }
noncomputable def O_laws_FnExactQuotasValid : Oracle := Oracle.of [(12, c_laws_szQuotaS), (13, c_spec_QuotasValid), (14, c_laws_toQuotaS), (15, c_impl_QuotasValid), (16, c_laws_eqQuotaS)]
noncomputable def L_laws_FnExactQuotasValid : Loops := Loops.of []
theorem lf_laws_FnExactQuotasValid : LoopsFn Try.prog C_laws_FnExactQuotasValid O_laws_FnExactQuotasValid 3 L_laws_FnExactQuotasValid := LoopsFn.nil' (by kernel_rfl)
def out_laws_FnExactQuotasValid (r : Bool) : AV × Store := out1 (.one (.dat .bool)) [] (r, ())
theorem w_laws_FnExactQuotasValid (x : FAr [.one (.dat (.sl tQuota))] []) : evBodyK Try.prog C_laws_FnExactQuotasValid O_laws_FnExactQuotasValid L_laws_FnExactQuotasValid 3 (encAr [.one (.dat (.sl tQuota))] [] x).1 (encAr [.one (.dat (.sl tQuota))] [] x).2 (fun v s => some (v, s)) =
    laws_FnExactQuotasValidK x.1 (fun r => some (out_laws_FnExactQuotasValid r)) := by kernel_rfl
theorem sem_laws_FnExactQuotasValid : ∀ x y, (fun x => laws_FnExactQuotasValid x.1) x = some y → SemCall Try.prog 3 (encAr [.one (.dat (.sl tQuota))] [] x).1 (encAr [.one (.dat (.sl tQuota))] [] x).2 (out_laws_FnExactQuotasValid y).1 (out_laws_FnExactQuotasValid y).2 :=
  sem_of folP okP tabP (Oracle.of_ok (Oracle.cons_ok ok_laws_szQuotaS (Oracle.cons_ok ok_spec_QuotasValid (Oracle.cons_ok ok_laws_toQuotaS (Oracle.cons_ok ok_impl_QuotasValid (Oracle.cons_ok ok_laws_eqQuotaS Oracle.nil_ok)))))) lf_laws_FnExactQuotasValid fun x => (w_laws_FnExactQuotasValid x).trans (laws_FnExactQuotasValid_eq x.1 _)
noncomputable def c_laws_FnExactQuotasValid : Con := Con.shape [.one (.dat (.sl tQuota))] [] (fun x => laws_FnExactQuotasValid x.1) out_laws_FnExactQuotasValid
theorem ok_laws_FnExactQuotasValid : ConOk Try.prog 3 c_laws_FnExactQuotasValid := Con.shape_ok sem_laws_FnExactQuotasValid

/-! 17 -/
def C_spec_QuotaRoom : Cfg := { T := tab, hint := fun _ => { keepR := [0, 1, 4, 5, 16, 18], res := [4], order := [(5, [(0, .read), (1, .read), (2, .read), (3, .read), (4, .read), (5, .read), (6, .read), (7, .forced), (8, .forced), (9, .forced), (10, .forced), (11, .forced), (12, .forced), (13, .forced)])], keepL := [(0, [0, 1, 5])], keepX := [(0, [5]), (1, [0, 1, 5])] }, mode := fun _ => .borrow }
noncomputable def O_spec_QuotaRoom : Oracle := Oracle.of [(13, c_spec_QuotasValid), (31, c_spec_l1In)]
def sh_spec_QuotaRoom_l0 : List (Nat × S2) := [(0, .one (.dat (.sl tQuota))), (1, .one (.dat I)), (5, .one (.dat I))]
def bs_spec_QuotaRoom_l0 : List SB := []
noncomputable def lc_spec_QuotaRoom_l0 : LCon := LCon.shape1 sh_spec_QuotaRoom_l0 bs_spec_QuotaRoom_l0 spec_QuotaRoom_l0 (fun a => (.exit 0, encSt [(5, .one (.dat I))] [] a))
noncomputable def L_spec_QuotaRoom : Loops := Loops.of [(0, lc_spec_QuotaRoom_l0)]
theorem r_spec_QuotaRoom_l0 (x : FSt sh_spec_QuotaRoom_l0 bs_spec_QuotaRoom_l0) : roundK C_spec_QuotaRoom.T (C_spec_QuotaRoom.hint 17) C_spec_QuotaRoom.mode O_spec_QuotaRoom L_spec_QuotaRoom 0 (lp Try.prog 17 0) (encSt sh_spec_QuotaRoom_l0 bs_spec_QuotaRoom_l0 x) (fun e s => some (e, s)) =
    spec_QuotaRoom_l0K x.1 x.2.1 x.2.2.1 (fun y => some (Ex.normal, encSt sh_spec_QuotaRoom_l0 bs_spec_QuotaRoom_l0 y)) (fun a => some (Ex.exit 0, encSt [(5, .one (.dat I))] [] a)) := by kernel_rfl
theorem lo_spec_QuotaRoom_l0 : LConOk C_spec_QuotaRoom.T (C_spec_QuotaRoom.hint 17) C_spec_QuotaRoom.mode O_spec_QuotaRoom L_spec_QuotaRoom 0 (lp Try.prog 17 0) lc_spec_QuotaRoom_l0 :=
  LCon.shape1_ok (fun a => by simp) fun x => (r_spec_QuotaRoom_l0 x).trans (spec_QuotaRoom_l0_eq x.1 x.2.1 x.2.2.1 _ _)
theorem lf_spec_QuotaRoom : LoopsFn Try.prog C_spec_QuotaRoom O_spec_QuotaRoom 17 L_spec_QuotaRoom := LoopsFn.all (by kernel_rfl) (by decide) ⟨lo_spec_QuotaRoom_l0, trivial⟩
def out_spec_QuotaRoom (r : Int) : AV × Store := out1 (.one (.dat I)) [] (r, ())
theorem w_spec_QuotaRoom (x : FAr [.one (.dat (.sl tQuota)), .one (.dat I)] []) : evBodyK Try.prog C_spec_QuotaRoom O_spec_QuotaRoom L_spec_QuotaRoom 17 (encAr [.one (.dat (.sl tQuota)), .one (.dat I)] [] x).1 (encAr [.one (.dat (.sl tQuota)), .one (.dat I)] [] x).2 (fun v s => some (v, s)) =
    spec_QuotaRoomK x.1 x.2.1 (fun r => some (out_spec_QuotaRoom r)) := by kernel_rfl
theorem sem_spec_QuotaRoom : ∀ x y, (fun x => spec_QuotaRoom x.1 x.2.1) x = some y → SemCall Try.prog 17 (encAr [.one (.dat (.sl tQuota)), .one (.dat I)] [] x).1 (encAr [.one (.dat (.sl tQuota)), .one (.dat I)] [] x).2 (out_spec_QuotaRoom y).1 (out_spec_QuotaRoom y).2 :=
  sem_of folP okP tabP (Oracle.of_ok (Oracle.cons_ok ok_spec_QuotasValid (Oracle.cons_ok ok_spec_l1In Oracle.nil_ok))) lf_spec_QuotaRoom fun x => (w_spec_QuotaRoom x).trans (spec_QuotaRoom_eq x.1 x.2.1 _)
noncomputable def c_spec_QuotaRoom : Con := Con.shape [.one (.dat (.sl tQuota)), .one (.dat I)] [] (fun x => spec_QuotaRoom x.1 x.2.1) out_spec_QuotaRoom
theorem ok_spec_QuotaRoom : ConOk Try.prog 17 c_spec_QuotaRoom := Con.shape_ok sem_spec_QuotaRoom

/-! 36 -/
def C_impl_quoted : Cfg := { T := tab, hint := fun _ => { keepR := [0, 1, 4], res := [4] }, mode := fun _ => .borrow }
noncomputable def O_impl_quoted : Oracle := Oracle.of [(15, c_impl_QuotasValid), (33, c_impl_in)]
noncomputable def L_impl_quoted : Loops := Loops.of []
theorem lf_impl_quoted : LoopsFn Try.prog C_impl_quoted O_impl_quoted 36 L_impl_quoted := LoopsFn.nil' (by kernel_rfl)
def out_impl_quoted (r : Bool) : AV × Store := out1 (.one (.dat .bool)) [] (r, ())
theorem w_impl_quoted (x : FAr [.one (.dat (.sl tQuota)), .one (.dat I)] []) : evBodyK Try.prog C_impl_quoted O_impl_quoted L_impl_quoted 36 (encAr [.one (.dat (.sl tQuota)), .one (.dat I)] [] x).1 (encAr [.one (.dat (.sl tQuota)), .one (.dat I)] [] x).2 (fun v s => some (v, s)) =
    impl_quotedK x.1 x.2.1 (fun r => some (out_impl_quoted r)) := by kernel_rfl
theorem sem_impl_quoted : ∀ x y, (fun x => impl_quoted x.1 x.2.1) x = some y → SemCall Try.prog 36 (encAr [.one (.dat (.sl tQuota)), .one (.dat I)] [] x).1 (encAr [.one (.dat (.sl tQuota)), .one (.dat I)] [] x).2 (out_impl_quoted y).1 (out_impl_quoted y).2 :=
  sem_of folP okP tabP (Oracle.of_ok (Oracle.cons_ok ok_impl_QuotasValid (Oracle.cons_ok ok_impl_in Oracle.nil_ok))) lf_impl_quoted fun x => (w_impl_quoted x).trans (impl_quoted_eq x.1 x.2.1 _)
noncomputable def c_impl_quoted : Con := Con.shape [.one (.dat (.sl tQuota)), .one (.dat I)] [] (fun x => impl_quoted x.1 x.2.1) out_impl_quoted
theorem ok_impl_quoted : ConOk Try.prog 36 c_impl_quoted := Con.shape_ok sem_impl_quoted

/-! 18 -/
def C_impl_QuotaRoom : Cfg := { T := tab, hint := fun _ => { keepR := [0, 1, 4, 5, 9, 11], res := [4], order := [(6, [(0, .read), (1, .read), (2, .read), (3, .read), (4, .read), (5, .read), (6, .read), (7, .forced), (8, .forced), (9, .forced), (10, .forced), (11, .forced), (12, .forced), (13, .forced)])], keepL := [(0, [0, 1, 5])], keepX := [(0, [5]), (1, [0, 1, 5])] }, mode := fun _ => .borrow }
noncomputable def O_impl_QuotaRoom : Oracle := Oracle.of [(36, c_impl_quoted)]
def sh_impl_QuotaRoom_l0 : List (Nat × S2) := [(0, .one (.dat (.sl tQuota))), (1, .one (.dat I)), (5, .one (.dat I))]
def bs_impl_QuotaRoom_l0 : List SB := []
noncomputable def lc_impl_QuotaRoom_l0 : LCon := LCon.shape1 sh_impl_QuotaRoom_l0 bs_impl_QuotaRoom_l0 impl_QuotaRoom_l0 (fun a => (.exit 0, encSt [(5, .one (.dat I))] [] a))
noncomputable def L_impl_QuotaRoom : Loops := Loops.of [(0, lc_impl_QuotaRoom_l0)]
theorem r_impl_QuotaRoom_l0 (x : FSt sh_impl_QuotaRoom_l0 bs_impl_QuotaRoom_l0) : roundK C_impl_QuotaRoom.T (C_impl_QuotaRoom.hint 18) C_impl_QuotaRoom.mode O_impl_QuotaRoom L_impl_QuotaRoom 0 (lp Try.prog 18 0) (encSt sh_impl_QuotaRoom_l0 bs_impl_QuotaRoom_l0 x) (fun e s => some (e, s)) =
    impl_QuotaRoom_l0K x.1 x.2.1 x.2.2.1 (fun y => some (Ex.normal, encSt sh_impl_QuotaRoom_l0 bs_impl_QuotaRoom_l0 y)) (fun a => some (Ex.exit 0, encSt [(5, .one (.dat I))] [] a)) := by kernel_rfl
theorem lo_impl_QuotaRoom_l0 : LConOk C_impl_QuotaRoom.T (C_impl_QuotaRoom.hint 18) C_impl_QuotaRoom.mode O_impl_QuotaRoom L_impl_QuotaRoom 0 (lp Try.prog 18 0) lc_impl_QuotaRoom_l0 :=
  LCon.shape1_ok (fun a => by simp) fun x => (r_impl_QuotaRoom_l0 x).trans (impl_QuotaRoom_l0_eq x.1 x.2.1 x.2.2.1 _ _)
theorem lf_impl_QuotaRoom : LoopsFn Try.prog C_impl_QuotaRoom O_impl_QuotaRoom 18 L_impl_QuotaRoom := LoopsFn.all (by kernel_rfl) (by decide) ⟨lo_impl_QuotaRoom_l0, trivial⟩
def out_impl_QuotaRoom (r : Int) : AV × Store := out1 (.one (.dat I)) [] (r, ())
theorem w_impl_QuotaRoom (x : FAr [.one (.dat (.sl tQuota)), .one (.dat I)] []) : evBodyK Try.prog C_impl_QuotaRoom O_impl_QuotaRoom L_impl_QuotaRoom 18 (encAr [.one (.dat (.sl tQuota)), .one (.dat I)] [] x).1 (encAr [.one (.dat (.sl tQuota)), .one (.dat I)] [] x).2 (fun v s => some (v, s)) =
    impl_QuotaRoomK x.1 x.2.1 (fun r => some (out_impl_QuotaRoom r)) := by kernel_rfl
theorem sem_impl_QuotaRoom : ∀ x y, (fun x => impl_QuotaRoom x.1 x.2.1) x = some y → SemCall Try.prog 18 (encAr [.one (.dat (.sl tQuota)), .one (.dat I)] [] x).1 (encAr [.one (.dat (.sl tQuota)), .one (.dat I)] [] x).2 (out_impl_QuotaRoom y).1 (out_impl_QuotaRoom y).2 :=
  sem_of folP okP tabP (Oracle.of_ok (Oracle.cons_ok ok_impl_quoted Oracle.nil_ok)) lf_impl_QuotaRoom fun x => (w_impl_QuotaRoom x).trans (impl_QuotaRoom_eq x.1 x.2.1 _)
noncomputable def c_impl_QuotaRoom : Con := Con.shape [.one (.dat (.sl tQuota)), .one (.dat I)] [] (fun x => impl_QuotaRoom x.1 x.2.1) out_impl_QuotaRoom
theorem ok_impl_QuotaRoom : ConOk Try.prog 18 c_impl_QuotaRoom := Con.shape_ok sem_impl_QuotaRoom

/-! 4 -/
def C_laws_FnExactQuotaRoom : Cfg := { T := tab, hint := fun _ => { keepR := [0, 1, 4, 5, 6, 7, 8, 13, 25, 30], res := [4] }, mode := fun _ => .borrow }
noncomputable def O_laws_FnExactQuotaRoom : Oracle := Oracle.of [(12, c_laws_szQuotaS), (14, c_laws_toQuotaS), (16, c_laws_eqQuotaS), (17, c_spec_QuotaRoom), (18, c_impl_QuotaRoom)]
noncomputable def L_laws_FnExactQuotaRoom : Loops := Loops.of []
theorem lf_laws_FnExactQuotaRoom : LoopsFn Try.prog C_laws_FnExactQuotaRoom O_laws_FnExactQuotaRoom 4 L_laws_FnExactQuotaRoom := LoopsFn.nil' (by kernel_rfl)
def out_laws_FnExactQuotaRoom (r : Bool) : AV × Store := out1 (.one (.dat .bool)) [] (r, ())
theorem w_laws_FnExactQuotaRoom (x : FAr [.one (.dat (.sl tQuota)), .one (.dat I)] []) : evBodyK Try.prog C_laws_FnExactQuotaRoom O_laws_FnExactQuotaRoom L_laws_FnExactQuotaRoom 4 (encAr [.one (.dat (.sl tQuota)), .one (.dat I)] [] x).1 (encAr [.one (.dat (.sl tQuota)), .one (.dat I)] [] x).2 (fun v s => some (v, s)) =
    laws_FnExactQuotaRoomK x.1 x.2.1 (fun r => some (out_laws_FnExactQuotaRoom r)) := by kernel_rfl
theorem sem_laws_FnExactQuotaRoom : ∀ x y, (fun x => laws_FnExactQuotaRoom x.1 x.2.1) x = some y → SemCall Try.prog 4 (encAr [.one (.dat (.sl tQuota)), .one (.dat I)] [] x).1 (encAr [.one (.dat (.sl tQuota)), .one (.dat I)] [] x).2 (out_laws_FnExactQuotaRoom y).1 (out_laws_FnExactQuotaRoom y).2 :=
  sem_of folP okP tabP (Oracle.of_ok (Oracle.cons_ok ok_laws_szQuotaS (Oracle.cons_ok ok_laws_toQuotaS (Oracle.cons_ok ok_laws_eqQuotaS (Oracle.cons_ok ok_spec_QuotaRoom (Oracle.cons_ok ok_impl_QuotaRoom Oracle.nil_ok)))))) lf_laws_FnExactQuotaRoom fun x => (w_laws_FnExactQuotaRoom x).trans (laws_FnExactQuotaRoom_eq x.1 x.2.1 _)
noncomputable def c_laws_FnExactQuotaRoom : Con := Con.shape [.one (.dat (.sl tQuota)), .one (.dat I)] [] (fun x => laws_FnExactQuotaRoom x.1 x.2.1) out_laws_FnExactQuotaRoom
theorem ok_laws_FnExactQuotaRoom : ConOk Try.prog 4 c_laws_FnExactQuotaRoom := Con.shape_ok sem_laws_FnExactQuotaRoom

/-! 38 -/
def C_spec_l20Open : Cfg := { T := tab, hint := fun _ => { mu := [10], keepR := [0, 2, 5], res := [2] }, mode := fun _ => .borrow }
noncomputable def O_spec_l20Open : Oracle := Oracle.of []
noncomputable def L_spec_l20Open : Loops := Loops.of []
theorem lf_spec_l20Open : LoopsFn Try.prog C_spec_l20Open O_spec_l20Open 38 L_spec_l20Open := LoopsFn.nil' (by kernel_rfl)
def out_spec_l20Open (r : Dl20Rd) : AV × Store := out1 (.one (.ptr 0 0 0)) [.one tl20Rd] (r, ())
theorem w_spec_l20Open (x : FAr [.one (.dat (.sl (.int .u8)))] []) : evBodyK Try.prog C_spec_l20Open O_spec_l20Open L_spec_l20Open 38 (encAr [.one (.dat (.sl (.int .u8)))] [] x).1 (encAr [.one (.dat (.sl (.int .u8)))] [] x).2 (fun v s => some (v, s)) =
    spec_l20OpenK x.1 (fun r => some (out_spec_l20Open r)) := by kernel_rfl
theorem sem_spec_l20Open : ∀ x y, (fun x => spec_l20Open x.1) x = some y → SemCall Try.prog 38 (encAr [.one (.dat (.sl (.int .u8)))] [] x).1 (encAr [.one (.dat (.sl (.int .u8)))] [] x).2 (out_spec_l20Open y).1 (out_spec_l20Open y).2 :=
  sem_of folP okP tabP (Oracle.of_ok Oracle.nil_ok) lf_spec_l20Open fun x => (w_spec_l20Open x).trans (spec_l20Open_eq x.1 _)
noncomputable def c_spec_l20Open : Con := Con.shape [.one (.dat (.sl (.int .u8)))] [] (fun x => spec_l20Open x.1) out_spec_l20Open
theorem ok_spec_l20Open : ConOk Try.prog 38 c_spec_l20Open := Con.shape_ok sem_spec_l20Open

/-! 42 -/
def C_spec_l20Rd_pick : Cfg := { T := tab, hint := fun _ => { keepR := [0, 1, 4, 5, 6, 24, 36], res := [4], base := 1, order := [(7, [(0, .read), (1, .read), (2, .read), (3, .read), (4, .read), (5, .read), (6, .read), (7, .read), (8, .read), (9, .read), (10, .read), (11, .read), (12, .read), (13, .read), (14, .read), (15, .read), (16, .read), (17, .read), (18, .read), (19, .read), (20, .read), (21, .read), (22, .read), (23, .read), (24, .read), (25, .read), (26, .read), (27, .read), (28, .read), (29, .read), (30, .read), (31, .read), (32, .read), (33, .read), (34, .read), (35, .read), (36, .read), (37, .forced), (38, .forced), (39, .forced), (40, .forced), (41, .forced), (42, .forced), (43, .forced), (44, .forced), (45, .forced)])] }, mode := fun _ => .borrow }
noncomputable def O_spec_l20Rd_pick : Oracle := Oracle.of []
noncomputable def L_spec_l20Rd_pick : Loops := Loops.of []
theorem lf_spec_l20Rd_pick : LoopsFn Try.prog C_spec_l20Rd_pick O_spec_l20Rd_pick 42 L_spec_l20Rd_pick := LoopsFn.nil' (by kernel_rfl)
def out_spec_l20Rd_pick (r : Int × Dl20Rd) : AV × Store := out1 (.one (.dat I)) [.one tl20Rd] (r.1, r.2, ())
theorem w_spec_l20Rd_pick (x : FAr [.one (.ptr 0 0 0), .one (.dat I)] [.one tl20Rd]) : evBodyK Try.prog C_spec_l20Rd_pick O_spec_l20Rd_pick L_spec_l20Rd_pick 42 (encAr [.one (.ptr 0 0 0), .one (.dat I)] [.one tl20Rd] x).1 (encAr [.one (.ptr 0 0 0), .one (.dat I)] [.one tl20Rd] x).2 (fun v s => some (v, s)) =
    spec_l20Rd_pickK x.1 x.2.1 (fun r => some (out_spec_l20Rd_pick r)) := by kernel_rfl
theorem sem_spec_l20Rd_pick : ∀ x y, (fun x => spec_l20Rd_pick x.1 x.2.1) x = some y → SemCall Try.prog 42 (encAr [.one (.ptr 0 0 0), .one (.dat I)] [.one tl20Rd] x).1 (encAr [.one (.ptr 0 0 0), .one (.dat I)] [.one tl20Rd] x).2 (out_spec_l20Rd_pick y).1 (out_spec_l20Rd_pick y).2 :=
  sem_of folP okP tabP (Oracle.of_ok Oracle.nil_ok) lf_spec_l20Rd_pick fun x => (w_spec_l20Rd_pick x).trans (spec_l20Rd_pick_eq x.1 x.2.1 _)
noncomputable def c_spec_l20Rd_pick : Con := Con.shape [.one (.ptr 0 0 0), .one (.dat I)] [.one tl20Rd] (fun x => spec_l20Rd_pick x.1 x.2.1) out_spec_l20Rd_pick
theorem ok_spec_l20Rd_pick : ConOk Try.prog 42 c_spec_l20Rd_pick := Con.shape_ok sem_spec_l20Rd_pick

/-! 25 -/
def C_spec_UseQuota : Cfg := { T := tab, hint := fun _ => { mu := [19, 22], keepR := [0, 1, 2, 6, 7, 8, 9, 18, 25, 28], res := [6, 7], keepL := [(0, [1, 2, 9])], keepX := [(0, [9]), (1, [1, 2, 9])] }, mode := fun _ => .borrow }
noncomputable def O_spec_UseQuota : Oracle := Oracle.of [(17, c_spec_QuotaRoom)]
def sh_spec_UseQuota_l0 : List (Nat × S2) := [(1, .one (.dat I)), (2, .one (.dat I)), (9, .one (.all 0))]
def bs_spec_UseQuota_l0 : List SB := [.data tQuota]
noncomputable def lc_spec_UseQuota_l0 : LCon := LCon.shape1 sh_spec_UseQuota_l0 bs_spec_UseQuota_l0 spec_UseQuota_l0 (fun a => (.exit 0, encSt [(9, .one (.all 0))] [.data tQuota] a))
noncomputable def L_spec_UseQuota : Loops := Loops.of [(0, lc_spec_UseQuota_l0)]
theorem r_spec_UseQuota_l0 (x : FSt sh_spec_UseQuota_l0 bs_spec_UseQuota_l0) : roundK C_spec_UseQuota.T (C_spec_UseQuota.hint 25) C_spec_UseQuota.mode O_spec_UseQuota L_spec_UseQuota 0 (lp Try.prog 25 0) (encSt sh_spec_UseQuota_l0 bs_spec_UseQuota_l0 x) (fun e s => some (e, s)) =
    spec_UseQuota_l0K x.1 x.2.1 x.2.2.1 (fun y => some (Ex.normal, encSt sh_spec_UseQuota_l0 bs_spec_UseQuota_l0 y)) (fun a => some (Ex.exit 0, encSt [(9, .one (.all 0))] [.data tQuota] a)) := by kernel_rfl
theorem lo_spec_UseQuota_l0 : LConOk C_spec_UseQuota.T (C_spec_UseQuota.hint 25) C_spec_UseQuota.mode O_spec_UseQuota L_spec_UseQuota 0 (lp Try.prog 25 0) lc_spec_UseQuota_l0 :=
  LCon.shape1_ok (fun a => by simp) fun x => (r_spec_UseQuota_l0 x).trans (spec_UseQuota_l0_eq x.1 x.2.1 x.2.2.1 _ _)
theorem lf_spec_UseQuota : LoopsFn Try.prog C_spec_UseQuota O_spec_UseQuota 25 L_spec_UseQuota := LoopsFn.all (by kernel_rfl) (by decide) ⟨lo_spec_UseQuota_l0, trivial⟩
def out_spec_UseQuota (r : Bool × (List DQuota)) : AV × Store := outT [.one (.all 0), .one (.dat .bool)] [.data tQuota] (r.1, r.2, ())
theorem w_spec_UseQuota (x : FAr [.one (.dat (.sl tQuota)), .one (.dat I), .one (.dat I)] []) : evBodyK Try.prog C_spec_UseQuota O_spec_UseQuota L_spec_UseQuota 25 (encAr [.one (.dat (.sl tQuota)), .one (.dat I), .one (.dat I)] [] x).1 (encAr [.one (.dat (.sl tQuota)), .one (.dat I), .one (.dat I)] [] x).2 (fun v s => some (v, s)) =
    spec_UseQuotaK x.1 x.2.1 x.2.2.1 (fun r => some (out_spec_UseQuota r)) := by kernel_rfl
theorem sem_spec_UseQuota : ∀ x y, (fun x => spec_UseQuota x.1 x.2.1 x.2.2.1) x = some y → SemCall Try.prog 25 (encAr [.one (.dat (.sl tQuota)), .one (.dat I), .one (.dat I)] [] x).1 (encAr [.one (.dat (.sl tQuota)), .one (.dat I), .one (.dat I)] [] x).2 (out_spec_UseQuota y).1 (out_spec_UseQuota y).2 :=
  sem_of folP okP tabP (Oracle.of_ok (Oracle.cons_ok ok_spec_QuotaRoom Oracle.nil_ok)) lf_spec_UseQuota fun x => (w_spec_UseQuota x).trans (spec_UseQuota_eq x.1 x.2.1 x.2.2.1 _)
noncomputable def c_spec_UseQuota : Con := Con.shape [.one (.dat (.sl tQuota)), .one (.dat I), .one (.dat I)] [] (fun x => spec_UseQuota x.1 x.2.1 x.2.2.1) out_spec_UseQuota
theorem ok_spec_UseQuota : ConOk Try.prog 25 c_spec_UseQuota := Con.shape_ok sem_spec_UseQuota

/-! 43 -/
def C_spec_l20Rd_odd : Cfg := { T := tab, hint := fun _ => { keepR := [0, 1, 4], res := [4], base := 1 }, mode := modeOf [(42, .sub)] }
noncomputable def O_spec_l20Rd_odd : Oracle := Oracle.of [(42, c_spec_l20Rd_pick)]
noncomputable def L_spec_l20Rd_odd : Loops := Loops.of []
theorem lf_spec_l20Rd_odd : LoopsFn Try.prog C_spec_l20Rd_odd O_spec_l20Rd_odd 43 L_spec_l20Rd_odd := LoopsFn.nil' (by kernel_rfl)
def out_spec_l20Rd_odd (r : Bool × Dl20Rd) : AV × Store := out1 (.one (.dat .bool)) [.one tl20Rd] (r.1, r.2, ())
theorem w_spec_l20Rd_odd (x : FAr [.one (.ptr 0 0 0), .one (.dat I)] [.one tl20Rd]) : evBodyK Try.prog C_spec_l20Rd_odd O_spec_l20Rd_odd L_spec_l20Rd_odd 43 (encAr [.one (.ptr 0 0 0), .one (.dat I)] [.one tl20Rd] x).1 (encAr [.one (.ptr 0 0 0), .one (.dat I)] [.one tl20Rd] x).2 (fun v s => some (v, s)) =
    spec_l20Rd_oddK x.1 x.2.1 (fun r => some (out_spec_l20Rd_odd r)) := by kernel_rfl
theorem sem_spec_l20Rd_odd : ∀ x y, (fun x => spec_l20Rd_odd x.1 x.2.1) x = some y → SemCall Try.prog 43 (encAr [.one (.ptr 0 0 0), .one (.dat I)] [.one tl20Rd] x).1 (encAr [.one (.ptr 0 0 0), .one (.dat I)] [.one tl20Rd] x).2 (out_spec_l20Rd_odd y).1 (out_spec_l20Rd_odd y).2 :=
  sem_of folP okP tabP (Oracle.of_ok (Oracle.cons_ok ok_spec_l20Rd_pick Oracle.nil_ok)) lf_spec_l20Rd_odd fun x => (w_spec_l20Rd_odd x).trans (spec_l20Rd_odd_eq x.1 x.2.1 _)
noncomputable def c_spec_l20Rd_odd : Con := Con.shape [.one (.ptr 0 0 0), .one (.dat I)] [.one tl20Rd] (fun x => spec_l20Rd_odd x.1 x.2.1) out_spec_l20Rd_odd
theorem ok_spec_l20Rd_odd : ConOk Try.prog 43 c_spec_l20Rd_odd := Con.shape_ok sem_spec_l20Rd_odd

/-! 37 -/
def C_spec_l20Quotas : Cfg := { T := tab, hint := fun _ => { mu := [9, 28, 43], keepR := [0, 1, 4, 5, 6, 7, 8, 14, 32, 48, 54, 59, 76], res := [4], base := 1, order := [(15, [(9, .read), (0, .pure), (1, .pure), (2, .pure), (3, .pure), (4, .aside [0]), (5, .aside [0]), (6, .aside [0]), (7, .pure), (8, .pure), (10, .forced), (11, .forced), (12, .forced), (13, .forced), (14, .forced), (15, .forced)])], keepL := [(0, [0, 1, 5, 6]), (2, [0, 1, 5, 7])], keepX := [(0, [0, 1, 5]), (1, [0, 1, 5, 6]), (2, [0, 1, 5]), (3, [0, 1, 5, 7]), (4, [5])] }, mode := modeOf [(42, .sub), (43, .sub)] }
noncomputable def O_spec_l20Quotas : Oracle := Oracle.of [(25, c_spec_UseQuota), (42, c_spec_l20Rd_pick), (43, c_spec_l20Rd_odd)]
def sh_spec_l20Quotas_l0 : List (Nat × S2) := [(0, .one (.ptr 0 0 0)), (1, .one (.dat I)), (5, .one (.all 1)), (6, .one (.dat I))]
def bs_spec_l20Quotas_l0 : List SB := [.one tl20Rd, .data tQuota]
noncomputable def lc_spec_l20Quotas_l0 : LCon := LCon.shape1 sh_spec_l20Quotas_l0 bs_spec_l20Quotas_l0 spec_l20Quotas_l0 (fun a => (.exit 0, encSt [(0, .one (.ptr 0 0 0)), (1, .one (.dat I)), (5, .one (.all 1))] [.one tl20Rd, .data tQuota] a))
def sh_spec_l20Quotas_l2 : List (Nat × S2) := [(0, .one (.ptr 0 0 0)), (1, .one (.dat I)), (5, .one (.all 1)), (7, .one (.dat I))]
def bs_spec_l20Quotas_l2 : List SB := [.one tl20Rd, .data tQuota]
noncomputable def lc_spec_l20Quotas_l2 : LCon := LCon.shape1 sh_spec_l20Quotas_l2 bs_spec_l20Quotas_l2 spec_l20Quotas_l2 (fun a => (.exit 2, encSt [(0, .one (.ptr 0 0 0)), (1, .one (.dat I)), (5, .one (.all 1))] [.one tl20Rd, .data tQuota] a))
noncomputable def L_spec_l20Quotas : Loops := Loops.of [(0, lc_spec_l20Quotas_l0), (2, lc_spec_l20Quotas_l2)]
theorem r_spec_l20Quotas_l0 (x : FSt sh_spec_l20Quotas_l0 bs_spec_l20Quotas_l0) : roundK C_spec_l20Quotas.T (C_spec_l20Quotas.hint 37) C_spec_l20Quotas.mode O_spec_l20Quotas L_spec_l20Quotas 0 (lp Try.prog 37 0) (encSt sh_spec_l20Quotas_l0 bs_spec_l20Quotas_l0 x) (fun e s => some (e, s)) =
    spec_l20Quotas_l0K x.1 x.2.1 x.2.2.1 x.2.2.2.1 (fun y => some (Ex.normal, encSt sh_spec_l20Quotas_l0 bs_spec_l20Quotas_l0 y)) (fun a => some (Ex.exit 0, encSt [(0, .one (.ptr 0 0 0)), (1, .one (.dat I)), (5, .one (.all 1))] [.one tl20Rd, .data tQuota] a)) := by kernel_rfl
theorem lo_spec_l20Quotas_l0 : LConOk C_spec_l20Quotas.T (C_spec_l20Quotas.hint 37) C_spec_l20Quotas.mode O_spec_l20Quotas L_spec_l20Quotas 0 (lp Try.prog 37 0) lc_spec_l20Quotas_l0 :=
  LCon.shape1_ok (fun a => by simp) fun x => (r_spec_l20Quotas_l0 x).trans (spec_l20Quotas_l0_eq x.1 x.2.1 x.2.2.1 x.2.2.2.1 _ _)
theorem r_spec_l20Quotas_l2 (x : FSt sh_spec_l20Quotas_l2 bs_spec_l20Quotas_l2) : roundK C_spec_l20Quotas.T (C_spec_l20Quotas.hint 37) C_spec_l20Quotas.mode O_spec_l20Quotas L_spec_l20Quotas 2 (lp Try.prog 37 1) (encSt sh_spec_l20Quotas_l2 bs_spec_l20Quotas_l2 x) (fun e s => some (e, s)) =
    spec_l20Quotas_l2K x.1 x.2.1 x.2.2.1 x.2.2.2.1 (fun y => some (Ex.normal, encSt sh_spec_l20Quotas_l2 bs_spec_l20Quotas_l2 y)) (fun a => some (Ex.exit 2, encSt [(0, .one (.ptr 0 0 0)), (1, .one (.dat I)), (5, .one (.all 1))] [.one tl20Rd, .data tQuota] a)) := by kernel_rfl
theorem lo_spec_l20Quotas_l2 : LConOk C_spec_l20Quotas.T (C_spec_l20Quotas.hint 37) C_spec_l20Quotas.mode O_spec_l20Quotas L_spec_l20Quotas 2 (lp Try.prog 37 1) lc_spec_l20Quotas_l2 :=
  LCon.shape1_ok (fun a => by simp) fun x => (r_spec_l20Quotas_l2 x).trans (spec_l20Quotas_l2_eq x.1 x.2.1 x.2.2.1 x.2.2.2.1 _ _)
theorem lf_spec_l20Quotas : LoopsFn Try.prog C_spec_l20Quotas O_spec_l20Quotas 37 L_spec_l20Quotas := LoopsFn.all (by kernel_rfl) (by decide) ⟨lo_spec_l20Quotas_l0, lo_spec_l20Quotas_l2, trivial⟩
def out_spec_l20Quotas (r : Dl20Rd × (List DQuota)) : AV × Store := out1 (.one (.all 1)) [.one tl20Rd, .data tQuota] (r.1, r.2, ())
theorem w_spec_l20Quotas (x : FAr [.one (.ptr 0 0 0), .one (.dat I)] [.one tl20Rd]) : evBodyK Try.prog C_spec_l20Quotas O_spec_l20Quotas L_spec_l20Quotas 37 (encAr [.one (.ptr 0 0 0), .one (.dat I)] [.one tl20Rd] x).1 (encAr [.one (.ptr 0 0 0), .one (.dat I)] [.one tl20Rd] x).2 (fun v s => some (v, s)) =
    spec_l20QuotasK x.1 x.2.1 (fun r => some (out_spec_l20Quotas r)) := by kernel_rfl
theorem sem_spec_l20Quotas : ∀ x y, (fun x => spec_l20Quotas x.1 x.2.1) x = some y → SemCall Try.prog 37 (encAr [.one (.ptr 0 0 0), .one (.dat I)] [.one tl20Rd] x).1 (encAr [.one (.ptr 0 0 0), .one (.dat I)] [.one tl20Rd] x).2 (out_spec_l20Quotas y).1 (out_spec_l20Quotas y).2 :=
  sem_of folP okP tabP (Oracle.of_ok (Oracle.cons_ok ok_spec_UseQuota (Oracle.cons_ok ok_spec_l20Rd_pick (Oracle.cons_ok ok_spec_l20Rd_odd Oracle.nil_ok)))) lf_spec_l20Quotas fun x => (w_spec_l20Quotas x).trans (spec_l20Quotas_eq x.1 x.2.1 _)
noncomputable def c_spec_l20Quotas : Con := Con.shape [.one (.ptr 0 0 0), .one (.dat I)] [.one tl20Rd] (fun x => spec_l20Quotas x.1 x.2.1) out_spec_l20Quotas
theorem ok_spec_l20Quotas : ConOk Try.prog 37 c_spec_l20Quotas := Con.shape_ok sem_spec_l20Quotas

/-! 19 -/
def C_spec_DrawQuotasValid : Cfg := { T := tab, hint := fun _ => { mu := [4], keepR := [0, 2], res := [2] }, mode := modeOf [(37, .sub)] }
noncomputable def O_spec_DrawQuotasValid : Oracle := Oracle.of [(37, c_spec_l20Quotas), (38, c_spec_l20Open)]
noncomputable def L_spec_DrawQuotasValid : Loops := Loops.of []
theorem lf_spec_DrawQuotasValid : LoopsFn Try.prog C_spec_DrawQuotasValid O_spec_DrawQuotasValid 19 L_spec_DrawQuotasValid := LoopsFn.nil' (by kernel_rfl)
def out_spec_DrawQuotasValid (r : (List DQuota)) : AV × Store := out1 (.one (.all 0)) [.data tQuota] (r, ())
theorem w_spec_DrawQuotasValid (x : FAr [.one (.dat (.sl (.int .u8)))] []) : evBodyK Try.prog C_spec_DrawQuotasValid O_spec_DrawQuotasValid L_spec_DrawQuotasValid 19 (encAr [.one (.dat (.sl (.int .u8)))] [] x).1 (encAr [.one (.dat (.sl (.int .u8)))] [] x).2 (fun v s => some (v, s)) =
    spec_DrawQuotasValidK x.1 (fun r => some (out_spec_DrawQuotasValid r)) := by kernel_rfl
theorem sem_spec_DrawQuotasValid : ∀ x y, (fun x => spec_DrawQuotasValid x.1) x = some y → SemCall Try.prog 19 (encAr [.one (.dat (.sl (.int .u8)))] [] x).1 (encAr [.one (.dat (.sl (.int .u8)))] [] x).2 (out_spec_DrawQuotasValid y).1 (out_spec_DrawQuotasValid y).2 :=
  sem_of folP okP tabP (Oracle.of_ok (Oracle.cons_ok ok_spec_l20Quotas (Oracle.cons_ok ok_spec_l20Open Oracle.nil_ok))) lf_spec_DrawQuotasValid fun x => (w_spec_DrawQuotasValid x).trans (spec_DrawQuotasValid_eq x.1 _)
noncomputable def c_spec_DrawQuotasValid : Con := Con.shape [.one (.dat (.sl (.int .u8)))] [] (fun x => spec_DrawQuotasValid x.1) out_spec_DrawQuotasValid
theorem ok_spec_DrawQuotasValid : ConOk Try.prog 19 c_spec_DrawQuotasValid := Con.shape_ok sem_spec_DrawQuotasValid

/-! 20 -/
def out_laws_alive (r : Bool) : AV × Store := out1 (.one (.dat .bool)) [] (r, ())
theorem sem_laws_alive : ∀ x y, (fun x => laws_alive) x = some y → SemCall Try.prog 20 (encAr [] [] x).1 (encAr [] [] x).2 (out_laws_alive y).1 (out_laws_alive y).2 := fun x y h => by
  have e : y = true := (Option.some.inj h).symm
  subst e
  exact sem_of_below ⟨_, _, Try.func20, rfl, by kernel_rfl⟩ Try.aliveCalls
noncomputable def c_laws_alive : Con := Con.shape [] [] (fun x => laws_alive) out_laws_alive
theorem ok_laws_alive : ConOk Try.prog 20 c_laws_alive := Con.shape_ok sem_laws_alive

/-! 5 -/
def C_laws_FnQuotasValid : Cfg := { T := tab, hint := fun _ => { mu := [5, 31], keepR := [0, 2, 3, 4, 5, 8, 16], res := [2], order := [(8, [(0, .forced), (1, .forced), (2, .forced), (3, .read), (4, .forced), (5, .forced), (6, .forced), (7, .forced), (8, .forced), (9, .forced), (10, .forced), (11, .read), (12, .read), (14, .aside []), (15, .pure), (13, .forced), (16, .forced), (17, .forced), (18, .forced), (19, .forced), (20, .forced), (21, .forced), (22, .forced), (23, .forced)])] }, mode := fun _ => .borrow }
noncomputable def O_laws_FnQuotasValid : Oracle := Oracle.of [(13, c_spec_QuotasValid), (15, c_impl_QuotasValid), (19, c_spec_DrawQuotasValid), (20, c_laws_alive)]
noncomputable def L_laws_FnQuotasValid : Loops := Loops.of []
theorem lf_laws_FnQuotasValid : LoopsFn Try.prog C_laws_FnQuotasValid O_laws_FnQuotasValid 5 L_laws_FnQuotasValid := LoopsFn.nil' (by kernel_rfl)
def out_laws_FnQuotasValid (r : Bool) : AV × Store := out1 (.one (.dat .bool)) [] (r, ())
theorem w_laws_FnQuotasValid (x : FAr [.one (.dat (.sl (.int .u8)))] []) : evBodyK Try.prog C_laws_FnQuotasValid O_laws_FnQuotasValid L_laws_FnQuotasValid 5 (encAr [.one (.dat (.sl (.int .u8)))] [] x).1 (encAr [.one (.dat (.sl (.int .u8)))] [] x).2 (fun v s => some (v, s)) =
    laws_FnQuotasValidK x.1 (fun r => some (out_laws_FnQuotasValid r)) := by kernel_rfl
theorem sem_laws_FnQuotasValid : ∀ x y, (fun x => laws_FnQuotasValid x.1) x = some y → SemCall Try.prog 5 (encAr [.one (.dat (.sl (.int .u8)))] [] x).1 (encAr [.one (.dat (.sl (.int .u8)))] [] x).2 (out_laws_FnQuotasValid y).1 (out_laws_FnQuotasValid y).2 :=
  sem_of folP okP tabP (Oracle.of_ok (Oracle.cons_ok ok_spec_QuotasValid (Oracle.cons_ok ok_impl_QuotasValid (Oracle.cons_ok ok_spec_DrawQuotasValid (Oracle.cons_ok ok_laws_alive Oracle.nil_ok))))) lf_laws_FnQuotasValid fun x => (w_laws_FnQuotasValid x).trans (laws_FnQuotasValid_eq x.1 _)
noncomputable def c_laws_FnQuotasValid : Con := Con.shape [.one (.dat (.sl (.int .u8)))] [] (fun x => laws_FnQuotasValid x.1) out_laws_FnQuotasValid
theorem ok_laws_FnQuotasValid : ConOk Try.prog 5 c_laws_FnQuotasValid := Con.shape_ok sem_laws_FnQuotasValid

/-! 21 -/
def C_spec_FreeQuota : Cfg := { T := tab, hint := fun _ => { mu := [19, 22], keepR := [0, 1, 2, 6, 7, 8, 9, 10, 18, 31, 40, 50, 53], res := [6, 7], keepL := [(0, [0, 1, 2, 8, 9, 10]), (2, [1, 2, 8])], keepX := [(0, [1, 2, 8, 9]), (1, [0, 1, 2, 8, 9, 10]), (2, [8]), (3, [1, 2, 8])] }, mode := fun _ => .borrow }
noncomputable def O_spec_FreeQuota : Oracle := Oracle.of [(17, c_spec_QuotaRoom)]
def sh_spec_FreeQuota_l0 : List (Nat × S2) := [(0, .one (.dat (.sl tQuota))), (1, .one (.dat I)), (2, .one (.dat I)), (8, .one (.all 0)), (9, .one (.dat I)), (10, .one (.dat I))]
def bs_spec_FreeQuota_l0 : List SB := [.data tQuota]
noncomputable def lc_spec_FreeQuota_l0 : LCon := LCon.shape1 sh_spec_FreeQuota_l0 bs_spec_FreeQuota_l0 spec_FreeQuota_l0 (fun a => (.exit 0, encSt [(1, .one (.dat I)), (2, .one (.dat I)), (8, .one (.all 0)), (9, .one (.dat I))] [.data tQuota] a))
def sh_spec_FreeQuota_l2 : List (Nat × S2) := [(1, .one (.dat I)), (2, .one (.dat I)), (8, .one (.all 0))]
def bs_spec_FreeQuota_l2 : List SB := [.data tQuota]
noncomputable def lc_spec_FreeQuota_l2 : LCon := LCon.shape1 sh_spec_FreeQuota_l2 bs_spec_FreeQuota_l2 spec_FreeQuota_l2 (fun a => (.exit 2, encSt [(8, .one (.all 0))] [.data tQuota] a))
noncomputable def L_spec_FreeQuota : Loops := Loops.of [(0, lc_spec_FreeQuota_l0), (2, lc_spec_FreeQuota_l2)]
theorem r_spec_FreeQuota_l0 (x : FSt sh_spec_FreeQuota_l0 bs_spec_FreeQuota_l0) : roundK C_spec_FreeQuota.T (C_spec_FreeQuota.hint 21) C_spec_FreeQuota.mode O_spec_FreeQuota L_spec_FreeQuota 0 (lp Try.prog 21 0) (encSt sh_spec_FreeQuota_l0 bs_spec_FreeQuota_l0 x) (fun e s => some (e, s)) =
    spec_FreeQuota_l0K x.1 x.2.1 x.2.2.1 x.2.2.2.1 x.2.2.2.2.1 x.2.2.2.2.2.1 (fun y => some (Ex.normal, encSt sh_spec_FreeQuota_l0 bs_spec_FreeQuota_l0 y)) (fun a => some (Ex.exit 0, encSt [(1, .one (.dat I)), (2, .one (.dat I)), (8, .one (.all 0)), (9, .one (.dat I))] [.data tQuota] a)) := by kernel_rfl
theorem lo_spec_FreeQuota_l0 : LConOk C_spec_FreeQuota.T (C_spec_FreeQuota.hint 21) C_spec_FreeQuota.mode O_spec_FreeQuota L_spec_FreeQuota 0 (lp Try.prog 21 0) lc_spec_FreeQuota_l0 :=
  LCon.shape1_ok (fun a => by simp) fun x => (r_spec_FreeQuota_l0 x).trans (spec_FreeQuota_l0_eq x.1 x.2.1 x.2.2.1 x.2.2.2.1 x.2.2.2.2.1 x.2.2.2.2.2.1 _ _)
theorem r_spec_FreeQuota_l2 (x : FSt sh_spec_FreeQuota_l2 bs_spec_FreeQuota_l2) : roundK C_spec_FreeQuota.T (C_spec_FreeQuota.hint 21) C_spec_FreeQuota.mode O_spec_FreeQuota L_spec_FreeQuota 2 (lp Try.prog 21 1) (encSt sh_spec_FreeQuota_l2 bs_spec_FreeQuota_l2 x) (fun e s => some (e, s)) =
    spec_FreeQuota_l2K x.1 x.2.1 x.2.2.1 (fun y => some (Ex.normal, encSt sh_spec_FreeQuota_l2 bs_spec_FreeQuota_l2 y)) (fun a => some (Ex.exit 2, encSt [(8, .one (.all 0))] [.data tQuota] a)) := by kernel_rfl
theorem lo_spec_FreeQuota_l2 : LConOk C_spec_FreeQuota.T (C_spec_FreeQuota.hint 21) C_spec_FreeQuota.mode O_spec_FreeQuota L_spec_FreeQuota 2 (lp Try.prog 21 1) lc_spec_FreeQuota_l2 :=
  LCon.shape1_ok (fun a => by simp) fun x => (r_spec_FreeQuota_l2 x).trans (spec_FreeQuota_l2_eq x.1 x.2.1 x.2.2.1 _ _)
theorem lf_spec_FreeQuota : LoopsFn Try.prog C_spec_FreeQuota O_spec_FreeQuota 21 L_spec_FreeQuota := LoopsFn.all (by kernel_rfl) (by decide) ⟨lo_spec_FreeQuota_l0, lo_spec_FreeQuota_l2, trivial⟩
def out_spec_FreeQuota (r : Bool × (List DQuota)) : AV × Store := outT [.one (.all 0), .one (.dat .bool)] [.data tQuota] (r.1, r.2, ())
theorem w_spec_FreeQuota (x : FAr [.one (.dat (.sl tQuota)), .one (.dat I), .one (.dat I)] []) : evBodyK Try.prog C_spec_FreeQuota O_spec_FreeQuota L_spec_FreeQuota 21 (encAr [.one (.dat (.sl tQuota)), .one (.dat I), .one (.dat I)] [] x).1 (encAr [.one (.dat (.sl tQuota)), .one (.dat I), .one (.dat I)] [] x).2 (fun v s => some (v, s)) =
    spec_FreeQuotaK x.1 x.2.1 x.2.2.1 (fun r => some (out_spec_FreeQuota r)) := by kernel_rfl
theorem sem_spec_FreeQuota : ∀ x y, (fun x => spec_FreeQuota x.1 x.2.1 x.2.2.1) x = some y → SemCall Try.prog 21 (encAr [.one (.dat (.sl tQuota)), .one (.dat I), .one (.dat I)] [] x).1 (encAr [.one (.dat (.sl tQuota)), .one (.dat I), .one (.dat I)] [] x).2 (out_spec_FreeQuota y).1 (out_spec_FreeQuota y).2 :=
  sem_of folP okP tabP (Oracle.of_ok (Oracle.cons_ok ok_spec_QuotaRoom Oracle.nil_ok)) lf_spec_FreeQuota fun x => (w_spec_FreeQuota x).trans (spec_FreeQuota_eq x.1 x.2.1 x.2.2.1 _)
noncomputable def c_spec_FreeQuota : Con := Con.shape [.one (.dat (.sl tQuota)), .one (.dat I), .one (.dat I)] [] (fun x => spec_FreeQuota x.1 x.2.1 x.2.2.1) out_spec_FreeQuota
theorem ok_spec_FreeQuota : ConOk Try.prog 21 c_spec_FreeQuota := Con.shape_ok sem_spec_FreeQuota

/-! 48 -/
def C_slices_Clone_Quota : Cfg := { T := tab, hint := fun _ => { mu := [2, 7], keepR := [0, 2, 4], res := [2] }, mode := fun _ => .borrow }
noncomputable def O_slices_Clone_Quota : Oracle := Oracle.of []
noncomputable def L_slices_Clone_Quota : Loops := Loops.of []
theorem lf_slices_Clone_Quota : LoopsFn Try.prog C_slices_Clone_Quota O_slices_Clone_Quota 48 L_slices_Clone_Quota := LoopsFn.nil' (by kernel_rfl)
def out_slices_Clone_Quota (r : (List DQuota)) : AV × Store := out1 (.one (.all 0)) [.data tQuota] (r, ())
theorem w_slices_Clone_Quota (x : FAr [.one (.dat (.sl tQuota))] []) : evBodyK Try.prog C_slices_Clone_Quota O_slices_Clone_Quota L_slices_Clone_Quota 48 (encAr [.one (.dat (.sl tQuota))] [] x).1 (encAr [.one (.dat (.sl tQuota))] [] x).2 (fun v s => some (v, s)) =
    slices_Clone_QuotaR x.1 (fun r => some (out_slices_Clone_Quota r)) := by kernel_rfl
theorem sem_slices_Clone_Quota : ∀ x y, (fun x => slices_Clone_Quota x.1) x = some y → SemCall Try.prog 48 (encAr [.one (.dat (.sl tQuota))] [] x).1 (encAr [.one (.dat (.sl tQuota))] [] x).2 (out_slices_Clone_Quota y).1 (out_slices_Clone_Quota y).2 :=
  sem_of folP okP tabP (Oracle.of_ok Oracle.nil_ok) lf_slices_Clone_Quota fun x => (w_slices_Clone_Quota x).trans ((slices_Clone_Quota_raw x.1 _).trans (slices_Clone_Quota_eq x.1 _))
noncomputable def c_slices_Clone_Quota : Con := Con.shape [.one (.dat (.sl tQuota))] [] (fun x => slices_Clone_Quota x.1) out_slices_Clone_Quota
theorem ok_slices_Clone_Quota : ConOk Try.prog 48 c_slices_Clone_Quota := Con.shape_ok sem_slices_Clone_Quota

/-! 47 -/
def C_slices_Clip_Quota : Cfg := { T := tab, hint := fun _ => { mu := [8], keepR := [0, 2], res := [2], base := 1 }, mode := fun _ => .borrow }
noncomputable def O_slices_Clip_Quota : Oracle := Oracle.of []
noncomputable def L_slices_Clip_Quota : Loops := Loops.of []
theorem lf_slices_Clip_Quota : LoopsFn Try.prog C_slices_Clip_Quota O_slices_Clip_Quota 47 L_slices_Clip_Quota := LoopsFn.nil' (by kernel_rfl)
def out_slices_Clip_Quota (r : (List DQuota)) : AV × Store := out1 (.one (.all 0)) [.data tQuota] (r, ())
theorem w_slices_Clip_Quota (x : FAr [.one (.all 0)] [.data tQuota]) : evBodyK Try.prog C_slices_Clip_Quota O_slices_Clip_Quota L_slices_Clip_Quota 47 (encAr [.one (.all 0)] [.data tQuota] x).1 (encAr [.one (.all 0)] [.data tQuota] x).2 (fun v s => some (v, s)) =
    slices_Clip_QuotaK x.1 (fun r => some (out_slices_Clip_Quota r)) := by kernel_rfl
theorem sem_slices_Clip_Quota : ∀ x y, (fun x => slices_Clip_Quota x.1) x = some y → SemCall Try.prog 47 (encAr [.one (.all 0)] [.data tQuota] x).1 (encAr [.one (.all 0)] [.data tQuota] x).2 (out_slices_Clip_Quota y).1 (out_slices_Clip_Quota y).2 :=
  sem_of folP okP tabP (Oracle.of_ok Oracle.nil_ok) lf_slices_Clip_Quota fun x => (w_slices_Clip_Quota x).trans (slices_Clip_Quota_eq x.1 _)
noncomputable def c_slices_Clip_Quota : Con := Con.shape [.one (.all 0)] [.data tQuota] (fun x => slices_Clip_Quota x.1) out_slices_Clip_Quota
theorem ok_slices_Clip_Quota : ConOk Try.prog 47 c_slices_Clip_Quota := Con.shape_ok sem_slices_Clip_Quota

/-! 40 -/
def C_impl_clone_Quota : Cfg := { T := tab, hint := fun _ => { mu := [4], keepR := [0, 2], res := [2] }, mode := modeOf [(47, .sub)] }
noncomputable def O_impl_clone_Quota : Oracle := Oracle.of [(47, c_slices_Clip_Quota), (48, c_slices_Clone_Quota)]
noncomputable def L_impl_clone_Quota : Loops := Loops.of []
theorem lf_impl_clone_Quota : LoopsFn Try.prog C_impl_clone_Quota O_impl_clone_Quota 40 L_impl_clone_Quota := LoopsFn.nil' (by kernel_rfl)
def out_impl_clone_Quota (r : (List DQuota)) : AV × Store := out1 (.one (.all 0)) [.data tQuota] (r, ())
theorem w_impl_clone_Quota (x : FAr [.one (.dat (.sl tQuota))] []) : evBodyK Try.prog C_impl_clone_Quota O_impl_clone_Quota L_impl_clone_Quota 40 (encAr [.one (.dat (.sl tQuota))] [] x).1 (encAr [.one (.dat (.sl tQuota))] [] x).2 (fun v s => some (v, s)) =
    impl_clone_QuotaK x.1 (fun r => some (out_impl_clone_Quota r)) := by kernel_rfl
theorem sem_impl_clone_Quota : ∀ x y, (fun x => impl_clone_Quota x.1) x = some y → SemCall Try.prog 40 (encAr [.one (.dat (.sl tQuota))] [] x).1 (encAr [.one (.dat (.sl tQuota))] [] x).2 (out_impl_clone_Quota y).1 (out_impl_clone_Quota y).2 :=
  sem_of folP okP tabP (Oracle.of_ok (Oracle.cons_ok ok_slices_Clip_Quota (Oracle.cons_ok ok_slices_Clone_Quota Oracle.nil_ok))) lf_impl_clone_Quota fun x => (w_impl_clone_Quota x).trans (impl_clone_Quota_eq x.1 _)
noncomputable def c_impl_clone_Quota : Con := Con.shape [.one (.dat (.sl tQuota))] [] (fun x => impl_clone_Quota x.1) out_impl_clone_Quota
theorem ok_impl_clone_Quota : ConOk Try.prog 40 c_impl_clone_Quota := Con.shape_ok sem_impl_clone_Quota

/-! 41 -/
def C_impl_added : Cfg := { T := tab, hint := fun _ => { mu := [9], keepR := [0, 1, 2, 6, 7, 11], res := [6], keepL := [(0, [1, 2, 7])], keepX := [(0, [7]), (1, [1, 2, 7])] }, mode := fun _ => .borrow }
noncomputable def O_impl_added : Oracle := Oracle.of [(40, c_impl_clone_Quota)]
def sh_impl_added_l0 : List (Nat × S2) := [(1, .one (.dat I)), (2, .one (.dat I)), (7, .one (.all 0))]
def bs_impl_added_l0 : List SB := [.data tQuota]
noncomputable def lc_impl_added_l0 : LCon := LCon.shape1 sh_impl_added_l0 bs_impl_added_l0 impl_added_l0 (fun a => (.exit 0, encSt [(7, .one (.all 0))] [.data tQuota] a))
noncomputable def L_impl_added : Loops := Loops.of [(0, lc_impl_added_l0)]
theorem r_impl_added_l0 (x : FSt sh_impl_added_l0 bs_impl_added_l0) : roundK C_impl_added.T (C_impl_added.hint 41) C_impl_added.mode O_impl_added L_impl_added 0 (lp Try.prog 41 0) (encSt sh_impl_added_l0 bs_impl_added_l0 x) (fun e s => some (e, s)) =
    impl_added_l0K x.1 x.2.1 x.2.2.1 (fun y => some (Ex.normal, encSt sh_impl_added_l0 bs_impl_added_l0 y)) (fun a => some (Ex.exit 0, encSt [(7, .one (.all 0))] [.data tQuota] a)) := by kernel_rfl
theorem lo_impl_added_l0 : LConOk C_impl_added.T (C_impl_added.hint 41) C_impl_added.mode O_impl_added L_impl_added 0 (lp Try.prog 41 0) lc_impl_added_l0 :=
  LCon.shape1_ok (fun a => by simp) fun x => (r_impl_added_l0 x).trans (impl_added_l0_eq x.1 x.2.1 x.2.2.1 _ _)
theorem lf_impl_added : LoopsFn Try.prog C_impl_added O_impl_added 41 L_impl_added := LoopsFn.all (by kernel_rfl) (by decide) ⟨lo_impl_added_l0, trivial⟩
def out_impl_added (r : (List DQuota)) : AV × Store := out1 (.one (.all 0)) [.data tQuota] (r, ())
theorem w_impl_added (x : FAr [.one (.dat (.sl tQuota)), .one (.dat I), .one (.dat I)] []) : evBodyK Try.prog C_impl_added O_impl_added L_impl_added 41 (encAr [.one (.dat (.sl tQuota)), .one (.dat I), .one (.dat I)] [] x).1 (encAr [.one (.dat (.sl tQuota)), .one (.dat I), .one (.dat I)] [] x).2 (fun v s => some (v, s)) =
    impl_addedK x.1 x.2.1 x.2.2.1 (fun r => some (out_impl_added r)) := by kernel_rfl
theorem sem_impl_added : ∀ x y, (fun x => impl_added x.1 x.2.1 x.2.2.1) x = some y → SemCall Try.prog 41 (encAr [.one (.dat (.sl tQuota)), .one (.dat I), .one (.dat I)] [] x).1 (encAr [.one (.dat (.sl tQuota)), .one (.dat I), .one (.dat I)] [] x).2 (out_impl_added y).1 (out_impl_added y).2 :=
  sem_of folP okP tabP (Oracle.of_ok (Oracle.cons_ok ok_impl_clone_Quota Oracle.nil_ok)) lf_impl_added fun x => (w_impl_added x).trans (impl_added_eq x.1 x.2.1 x.2.2.1 _)
noncomputable def c_impl_added : Con := Con.shape [.one (.dat (.sl tQuota)), .one (.dat I), .one (.dat I)] [] (fun x => impl_added x.1 x.2.1 x.2.2.1) out_impl_added
theorem ok_impl_added : ConOk Try.prog 41 c_impl_added := Con.shape_ok sem_impl_added

/-! 22 -/
def C_impl_FreeQuota : Cfg := { T := tab, hint := fun _ => { mu := [6, 30, 35], keepR := [0, 1, 2, 6, 7, 8, 17], res := [6, 7], order := [(3, [(0, .read), (1, .read), (2, .read), (3, .read), (4, .read), (5, .read), (6, .read), (7, .read), (8, .forced), (9, .forced), (10, .forced), (11, .forced)])], keepX := [(0, [0, 1, 2])] }, mode := fun _ => .borrow }
noncomputable def O_impl_FreeQuota : Oracle := Oracle.of [(34, c_impl_parts), (36, c_impl_quoted), (40, c_impl_clone_Quota), (41, c_impl_added)]
noncomputable def L_impl_FreeQuota : Loops := Loops.of []
theorem lf_impl_FreeQuota : LoopsFn Try.prog C_impl_FreeQuota O_impl_FreeQuota 22 L_impl_FreeQuota := LoopsFn.nil' (by kernel_rfl)
def out_impl_FreeQuota (r : Bool × (List DQuota)) : AV × Store := outT [.one (.all 0), .one (.dat .bool)] [.data tQuota] (r.1, r.2, ())
theorem w_impl_FreeQuota (x : FAr [.one (.dat (.sl tQuota)), .one (.dat I), .one (.dat I)] []) : evBodyK Try.prog C_impl_FreeQuota O_impl_FreeQuota L_impl_FreeQuota 22 (encAr [.one (.dat (.sl tQuota)), .one (.dat I), .one (.dat I)] [] x).1 (encAr [.one (.dat (.sl tQuota)), .one (.dat I), .one (.dat I)] [] x).2 (fun v s => some (v, s)) =
    impl_FreeQuotaK x.1 x.2.1 x.2.2.1 (fun r => some (out_impl_FreeQuota r)) := by kernel_rfl
theorem sem_impl_FreeQuota : ∀ x y, (fun x => impl_FreeQuota x.1 x.2.1 x.2.2.1) x = some y → SemCall Try.prog 22 (encAr [.one (.dat (.sl tQuota)), .one (.dat I), .one (.dat I)] [] x).1 (encAr [.one (.dat (.sl tQuota)), .one (.dat I), .one (.dat I)] [] x).2 (out_impl_FreeQuota y).1 (out_impl_FreeQuota y).2 :=
  sem_of folP okP tabP (Oracle.of_ok (Oracle.cons_ok ok_impl_parts (Oracle.cons_ok ok_impl_quoted (Oracle.cons_ok ok_impl_clone_Quota (Oracle.cons_ok ok_impl_added Oracle.nil_ok))))) lf_impl_FreeQuota fun x => (w_impl_FreeQuota x).trans (impl_FreeQuota_eq x.1 x.2.1 x.2.2.1 _)
noncomputable def c_impl_FreeQuota : Con := Con.shape [.one (.dat (.sl tQuota)), .one (.dat I), .one (.dat I)] [] (fun x => impl_FreeQuota x.1 x.2.1 x.2.2.1) out_impl_FreeQuota
theorem ok_impl_FreeQuota : ConOk Try.prog 22 c_impl_FreeQuota := Con.shape_ok sem_impl_FreeQuota

/-! 23 -/
def C_laws_markQuotaS : Cfg := { T := tab, hint := fun _ => { keepR := [0, 1, 4, 5, 9], res := [4], base := 1, keepL := [(0, [0, 1, 5])], keepX := [(0, [1]), (1, [0, 1, 5])] }, mode := fun _ => .borrow }
noncomputable def O_laws_markQuotaS : Oracle := Oracle.of []
def sh_laws_markQuotaS_l0 : List (Nat × S2) := [(0, .one (.all 0)), (1, .one (.dat I)), (5, .one (.dat I))]
def bs_laws_markQuotaS_l0 : List SB := [.data tQuota]
noncomputable def lc_laws_markQuotaS_l0 : LCon := LCon.shape1 sh_laws_markQuotaS_l0 bs_laws_markQuotaS_l0 laws_markQuotaS_l0 (fun a => (.exit 0, encSt [(1, .one (.dat I))] [.data tQuota] a))
noncomputable def L_laws_markQuotaS : Loops := Loops.of [(0, lc_laws_markQuotaS_l0)]
theorem r_laws_markQuotaS_l0 (x : FSt sh_laws_markQuotaS_l0 bs_laws_markQuotaS_l0) : roundK C_laws_markQuotaS.T (C_laws_markQuotaS.hint 23) C_laws_markQuotaS.mode O_laws_markQuotaS L_laws_markQuotaS 0 (lp Try.prog 23 0) (encSt sh_laws_markQuotaS_l0 bs_laws_markQuotaS_l0 x) (fun e s => some (e, s)) =
    laws_markQuotaS_l0K x.1 x.2.1 x.2.2.1 (fun y => some (Ex.normal, encSt sh_laws_markQuotaS_l0 bs_laws_markQuotaS_l0 y)) (fun a => some (Ex.exit 0, encSt [(1, .one (.dat I))] [.data tQuota] a)) := by kernel_rfl
theorem lo_laws_markQuotaS_l0 : LConOk C_laws_markQuotaS.T (C_laws_markQuotaS.hint 23) C_laws_markQuotaS.mode O_laws_markQuotaS L_laws_markQuotaS 0 (lp Try.prog 23 0) lc_laws_markQuotaS_l0 :=
  LCon.shape1_ok (fun a => by simp) fun x => (r_laws_markQuotaS_l0 x).trans (laws_markQuotaS_l0_eq x.1 x.2.1 x.2.2.1 _ _)
theorem lf_laws_markQuotaS : LoopsFn Try.prog C_laws_markQuotaS O_laws_markQuotaS 23 L_laws_markQuotaS := LoopsFn.all (by kernel_rfl) (by decide) ⟨lo_laws_markQuotaS_l0, trivial⟩
def out_laws_markQuotaS (r : Int × (List DQuota)) : AV × Store := out1 (.one (.dat I)) [.data tQuota] (r.1, r.2, ())
theorem w_laws_markQuotaS (x : FAr [.one (.all 0), .one (.dat I)] [.data tQuota]) : evBodyK Try.prog C_laws_markQuotaS O_laws_markQuotaS L_laws_markQuotaS 23 (encAr [.one (.all 0), .one (.dat I)] [.data tQuota] x).1 (encAr [.one (.all 0), .one (.dat I)] [.data tQuota] x).2 (fun v s => some (v, s)) =
    laws_markQuotaSK x.1 x.2.1 (fun r => some (out_laws_markQuotaS r)) := by kernel_rfl
theorem sem_laws_markQuotaS : ∀ x y, (fun x => laws_markQuotaS x.1 x.2.1) x = some y → SemCall Try.prog 23 (encAr [.one (.all 0), .one (.dat I)] [.data tQuota] x).1 (encAr [.one (.all 0), .one (.dat I)] [.data tQuota] x).2 (out_laws_markQuotaS y).1 (out_laws_markQuotaS y).2 :=
  sem_of folP okP tabP (Oracle.of_ok Oracle.nil_ok) lf_laws_markQuotaS fun x => (w_laws_markQuotaS x).trans (laws_markQuotaS_eq x.1 x.2.1 _)
noncomputable def c_laws_markQuotaS : Con := Con.shape [.one (.all 0), .one (.dat I)] [.data tQuota] (fun x => laws_markQuotaS x.1 x.2.1) out_laws_markQuotaS
theorem ok_laws_markQuotaS : ConOk Try.prog 23 c_laws_markQuotaS := Con.shape_ok sem_laws_markQuotaS

/-! 24 -/
def C_laws_heldQuotaS : Cfg := { T := tab, hint := fun _ => { keepR := [0, 1, 4, 5, 9, 18, 27, 36], res := [4], keepL := [(0, [0, 1, 5])], keepX := [(0, [1]), (1, [0, 1, 5])] }, mode := fun _ => .borrow }
noncomputable def O_laws_heldQuotaS : Oracle := Oracle.of []
def sh_laws_heldQuotaS_l0 : List (Nat × S2) := [(0, .one (.dat (.sl tQuota))), (1, .one (.dat I)), (5, .one (.dat I))]
def bs_laws_heldQuotaS_l0 : List SB := []
noncomputable def lc_laws_heldQuotaS_l0 : LCon := LCon.shape sh_laws_heldQuotaS_l0 bs_laws_heldQuotaS_l0 laws_heldQuotaS_l0 (fun a => (.exit 0, encSt [(1, .one (.dat I))] [] a)) (fun b => encSt [(4, .one (.dat I))] [] b)
noncomputable def L_laws_heldQuotaS : Loops := Loops.of [(0, lc_laws_heldQuotaS_l0)]
theorem r_laws_heldQuotaS_l0 (x : FSt sh_laws_heldQuotaS_l0 bs_laws_heldQuotaS_l0) : roundK C_laws_heldQuotaS.T (C_laws_heldQuotaS.hint 24) C_laws_heldQuotaS.mode O_laws_heldQuotaS L_laws_heldQuotaS 0 (lp Try.prog 24 0) (encSt sh_laws_heldQuotaS_l0 bs_laws_heldQuotaS_l0 x) (fun e s => some (e, s)) =
    laws_heldQuotaS_l0K x.1 x.2.1 x.2.2.1 (fun y => some (Ex.normal, encSt sh_laws_heldQuotaS_l0 bs_laws_heldQuotaS_l0 y)) (fun a => some (Ex.exit 0, encSt [(1, .one (.dat I))] [] a)) (fun b => some (Ex.ret, encSt [(4, .one (.dat I))] [] b)) := by kernel_rfl
theorem lo_laws_heldQuotaS_l0 : LConOk C_laws_heldQuotaS.T (C_laws_heldQuotaS.hint 24) C_laws_heldQuotaS.mode O_laws_heldQuotaS L_laws_heldQuotaS 0 (lp Try.prog 24 0) lc_laws_heldQuotaS_l0 :=
  LCon.shape_ok (fun a => by simp) fun x => (r_laws_heldQuotaS_l0 x).trans (laws_heldQuotaS_l0_eq x.1 x.2.1 x.2.2.1 _ _ _)
theorem lf_laws_heldQuotaS : LoopsFn Try.prog C_laws_heldQuotaS O_laws_heldQuotaS 24 L_laws_heldQuotaS := LoopsFn.all (by kernel_rfl) (by decide) ⟨lo_laws_heldQuotaS_l0, trivial⟩
def out_laws_heldQuotaS (r : Int) : AV × Store := out1 (.one (.dat I)) [] (r, ())
theorem w_laws_heldQuotaS (x : FAr [.one (.dat (.sl tQuota)), .one (.dat I)] []) : evBodyK Try.prog C_laws_heldQuotaS O_laws_heldQuotaS L_laws_heldQuotaS 24 (encAr [.one (.dat (.sl tQuota)), .one (.dat I)] [] x).1 (encAr [.one (.dat (.sl tQuota)), .one (.dat I)] [] x).2 (fun v s => some (v, s)) =
    laws_heldQuotaSK x.1 x.2.1 (fun r => some (out_laws_heldQuotaS r)) := by kernel_rfl
theorem sem_laws_heldQuotaS : ∀ x y, (fun x => laws_heldQuotaS x.1 x.2.1) x = some y → SemCall Try.prog 24 (encAr [.one (.dat (.sl tQuota)), .one (.dat I)] [] x).1 (encAr [.one (.dat (.sl tQuota)), .one (.dat I)] [] x).2 (out_laws_heldQuotaS y).1 (out_laws_heldQuotaS y).2 :=
  sem_of folP okP tabP (Oracle.of_ok Oracle.nil_ok) lf_laws_heldQuotaS fun x => (w_laws_heldQuotaS x).trans (laws_heldQuotaS_eq x.1 x.2.1 _)
noncomputable def c_laws_heldQuotaS : Con := Con.shape [.one (.dat (.sl tQuota)), .one (.dat I)] [] (fun x => laws_heldQuotaS x.1 x.2.1) out_laws_heldQuotaS
theorem ok_laws_heldQuotaS : ConOk Try.prog 24 c_laws_heldQuotaS := Con.shape_ok sem_laws_heldQuotaS

/-! 6 -/
def C_laws_FnExactFreeQuota : Cfg := { T := tab, hint := fun _ => { mu := [32, 37], keepR := [0, 1, 2, 6, 7, 8, 9, 10, 11, 12, 13, 14, 15, 16, 17, 22, 48, 53, 69, 77, 80, 97, 102, 105], res := [6] }, mode := modeOf [(23, .sub)] }
noncomputable def O_laws_FnExactFreeQuota : Oracle := Oracle.of [(12, c_laws_szQuotaS), (14, c_laws_toQuotaS), (16, c_laws_eqQuotaS), (21, c_spec_FreeQuota), (22, c_impl_FreeQuota), (23, c_laws_markQuotaS), (24, c_laws_heldQuotaS)]
noncomputable def L_laws_FnExactFreeQuota : Loops := Loops.of []
theorem lf_laws_FnExactFreeQuota : LoopsFn Try.prog C_laws_FnExactFreeQuota O_laws_FnExactFreeQuota 6 L_laws_FnExactFreeQuota := LoopsFn.nil' (by kernel_rfl)
def out_laws_FnExactFreeQuota (r : Bool) : AV × Store := out1 (.one (.dat .bool)) [] (r, ())
theorem w_laws_FnExactFreeQuota (x : FAr [.one (.dat (.sl tQuota)), .one (.dat I), .one (.dat I)] []) : evBodyK Try.prog C_laws_FnExactFreeQuota O_laws_FnExactFreeQuota L_laws_FnExactFreeQuota 6 (encAr [.one (.dat (.sl tQuota)), .one (.dat I), .one (.dat I)] [] x).1 (encAr [.one (.dat (.sl tQuota)), .one (.dat I), .one (.dat I)] [] x).2 (fun v s => some (v, s)) =
    laws_FnExactFreeQuotaK x.1 x.2.1 x.2.2.1 (fun r => some (out_laws_FnExactFreeQuota r)) := by kernel_rfl
theorem sem_laws_FnExactFreeQuota : ∀ x y, (fun x => laws_FnExactFreeQuota x.1 x.2.1 x.2.2.1) x = some y → SemCall Try.prog 6 (encAr [.one (.dat (.sl tQuota)), .one (.dat I), .one (.dat I)] [] x).1 (encAr [.one (.dat (.sl tQuota)), .one (.dat I), .one (.dat I)] [] x).2 (out_laws_FnExactFreeQuota y).1 (out_laws_FnExactFreeQuota y).2 :=
  sem_of folP okP tabP (Oracle.of_ok (Oracle.cons_ok ok_laws_szQuotaS (Oracle.cons_ok ok_laws_toQuotaS (Oracle.cons_ok ok_laws_eqQuotaS (Oracle.cons_ok ok_spec_FreeQuota (Oracle.cons_ok ok_impl_FreeQuota (Oracle.cons_ok ok_laws_markQuotaS (Oracle.cons_ok ok_laws_heldQuotaS Oracle.nil_ok)))))))) lf_laws_FnExactFreeQuota fun x => (w_laws_FnExactFreeQuota x).trans (laws_FnExactFreeQuota_eq x.1 x.2.1 x.2.2.1 _)
noncomputable def c_laws_FnExactFreeQuota : Con := Con.shape [.one (.dat (.sl tQuota)), .one (.dat I), .one (.dat I)] [] (fun x => laws_FnExactFreeQuota x.1 x.2.1 x.2.2.1) out_laws_FnExactFreeQuota
theorem ok_laws_FnExactFreeQuota : ConOk Try.prog 6 c_laws_FnExactFreeQuota := Con.shape_ok sem_laws_FnExactFreeQuota

/-! 26 -/
def C_impl_UseQuota : Cfg := { T := tab, hint := fun _ => { mu := [6, 24, 28], keepR := [0, 1, 2, 6, 7, 8, 17], res := [6, 7], keepX := [(0, [0, 1, 2])] }, mode := fun _ => .borrow }
noncomputable def O_impl_UseQuota : Oracle := Oracle.of [(18, c_impl_QuotaRoom), (36, c_impl_quoted), (40, c_impl_clone_Quota), (41, c_impl_added)]
noncomputable def L_impl_UseQuota : Loops := Loops.of []
theorem lf_impl_UseQuota : LoopsFn Try.prog C_impl_UseQuota O_impl_UseQuota 26 L_impl_UseQuota := LoopsFn.nil' (by kernel_rfl)
def out_impl_UseQuota (r : Bool × (List DQuota)) : AV × Store := outT [.one (.all 0), .one (.dat .bool)] [.data tQuota] (r.1, r.2, ())
theorem w_impl_UseQuota (x : FAr [.one (.dat (.sl tQuota)), .one (.dat I), .one (.dat I)] []) : evBodyK Try.prog C_impl_UseQuota O_impl_UseQuota L_impl_UseQuota 26 (encAr [.one (.dat (.sl tQuota)), .one (.dat I), .one (.dat I)] [] x).1 (encAr [.one (.dat (.sl tQuota)), .one (.dat I), .one (.dat I)] [] x).2 (fun v s => some (v, s)) =
    impl_UseQuotaK x.1 x.2.1 x.2.2.1 (fun r => some (out_impl_UseQuota r)) := by kernel_rfl
theorem sem_impl_UseQuota : ∀ x y, (fun x => impl_UseQuota x.1 x.2.1 x.2.2.1) x = some y → SemCall Try.prog 26 (encAr [.one (.dat (.sl tQuota)), .one (.dat I), .one (.dat I)] [] x).1 (encAr [.one (.dat (.sl tQuota)), .one (.dat I), .one (.dat I)] [] x).2 (out_impl_UseQuota y).1 (out_impl_UseQuota y).2 :=
  sem_of folP okP tabP (Oracle.of_ok (Oracle.cons_ok ok_impl_QuotaRoom (Oracle.cons_ok ok_impl_quoted (Oracle.cons_ok ok_impl_clone_Quota (Oracle.cons_ok ok_impl_added Oracle.nil_ok))))) lf_impl_UseQuota fun x => (w_impl_UseQuota x).trans (impl_UseQuota_eq x.1 x.2.1 x.2.2.1 _)
noncomputable def c_impl_UseQuota : Con := Con.shape [.one (.dat (.sl tQuota)), .one (.dat I), .one (.dat I)] [] (fun x => impl_UseQuota x.1 x.2.1 x.2.2.1) out_impl_UseQuota
theorem ok_impl_UseQuota : ConOk Try.prog 26 c_impl_UseQuota := Con.shape_ok sem_impl_UseQuota

/-! 7 -/
def C_laws_FnExactUseQuota : Cfg := { T := tab, hint := fun _ => { mu := [32, 37], keepR := [0, 1, 2, 6, 7, 8, 9, 10, 11, 12, 13, 14, 15, 16, 17, 22, 48, 53, 69, 77, 80, 97, 102, 105], res := [6] }, mode := modeOf [(23, .sub)] }
noncomputable def O_laws_FnExactUseQuota : Oracle := Oracle.of [(12, c_laws_szQuotaS), (14, c_laws_toQuotaS), (16, c_laws_eqQuotaS), (23, c_laws_markQuotaS), (24, c_laws_heldQuotaS), (25, c_spec_UseQuota), (26, c_impl_UseQuota)]
noncomputable def L_laws_FnExactUseQuota : Loops := Loops.of []
theorem lf_laws_FnExactUseQuota : LoopsFn Try.prog C_laws_FnExactUseQuota O_laws_FnExactUseQuota 7 L_laws_FnExactUseQuota := LoopsFn.nil' (by kernel_rfl)
def out_laws_FnExactUseQuota (r : Bool) : AV × Store := out1 (.one (.dat .bool)) [] (r, ())
theorem w_laws_FnExactUseQuota (x : FAr [.one (.dat (.sl tQuota)), .one (.dat I), .one (.dat I)] []) : evBodyK Try.prog C_laws_FnExactUseQuota O_laws_FnExactUseQuota L_laws_FnExactUseQuota 7 (encAr [.one (.dat (.sl tQuota)), .one (.dat I), .one (.dat I)] [] x).1 (encAr [.one (.dat (.sl tQuota)), .one (.dat I), .one (.dat I)] [] x).2 (fun v s => some (v, s)) =
    laws_FnExactUseQuotaK x.1 x.2.1 x.2.2.1 (fun r => some (out_laws_FnExactUseQuota r)) := by kernel_rfl
theorem sem_laws_FnExactUseQuota : ∀ x y, (fun x => laws_FnExactUseQuota x.1 x.2.1 x.2.2.1) x = some y → SemCall Try.prog 7 (encAr [.one (.dat (.sl tQuota)), .one (.dat I), .one (.dat I)] [] x).1 (encAr [.one (.dat (.sl tQuota)), .one (.dat I), .one (.dat I)] [] x).2 (out_laws_FnExactUseQuota y).1 (out_laws_FnExactUseQuota y).2 :=
  sem_of folP okP tabP (Oracle.of_ok (Oracle.cons_ok ok_laws_szQuotaS (Oracle.cons_ok ok_laws_toQuotaS (Oracle.cons_ok ok_laws_eqQuotaS (Oracle.cons_ok ok_laws_markQuotaS (Oracle.cons_ok ok_laws_heldQuotaS (Oracle.cons_ok ok_spec_UseQuota (Oracle.cons_ok ok_impl_UseQuota Oracle.nil_ok)))))))) lf_laws_FnExactUseQuota fun x => (w_laws_FnExactUseQuota x).trans (laws_FnExactUseQuota_eq x.1 x.2.1 x.2.2.1 _)
noncomputable def c_laws_FnExactUseQuota : Con := Con.shape [.one (.dat (.sl tQuota)), .one (.dat I), .one (.dat I)] [] (fun x => laws_FnExactUseQuota x.1 x.2.1 x.2.2.1) out_laws_FnExactUseQuota
theorem ok_laws_FnExactUseQuota : ConOk Try.prog 7 c_laws_FnExactUseQuota := Con.shape_ok sem_laws_FnExactUseQuota

/-! 27 -/
def C_spec_DrawQuotaRoom : Cfg := { T := tab, hint := fun _ => { mu := [7], keepR := [0, 2, 3, 4, 5], res := [2, 3] }, mode := modeOf [(37, .sub), (42, .sub)] }
noncomputable def O_spec_DrawQuotaRoom : Oracle := Oracle.of [(37, c_spec_l20Quotas), (38, c_spec_l20Open), (42, c_spec_l20Rd_pick)]
noncomputable def L_spec_DrawQuotaRoom : Loops := Loops.of []
theorem lf_spec_DrawQuotaRoom : LoopsFn Try.prog C_spec_DrawQuotaRoom O_spec_DrawQuotaRoom 27 L_spec_DrawQuotaRoom := LoopsFn.nil' (by kernel_rfl)
def out_spec_DrawQuotaRoom (r : Int × (List DQuota)) : AV × Store := outT [.one (.all 0), .one (.dat I)] [.data tQuota] (r.1, r.2, ())
theorem w_spec_DrawQuotaRoom (x : FAr [.one (.dat (.sl (.int .u8)))] []) : evBodyK Try.prog C_spec_DrawQuotaRoom O_spec_DrawQuotaRoom L_spec_DrawQuotaRoom 27 (encAr [.one (.dat (.sl (.int .u8)))] [] x).1 (encAr [.one (.dat (.sl (.int .u8)))] [] x).2 (fun v s => some (v, s)) =
    spec_DrawQuotaRoomK x.1 (fun r => some (out_spec_DrawQuotaRoom r)) := by kernel_rfl
theorem sem_spec_DrawQuotaRoom : ∀ x y, (fun x => spec_DrawQuotaRoom x.1) x = some y → SemCall Try.prog 27 (encAr [.one (.dat (.sl (.int .u8)))] [] x).1 (encAr [.one (.dat (.sl (.int .u8)))] [] x).2 (out_spec_DrawQuotaRoom y).1 (out_spec_DrawQuotaRoom y).2 :=
  sem_of folP okP tabP (Oracle.of_ok (Oracle.cons_ok ok_spec_l20Quotas (Oracle.cons_ok ok_spec_l20Open (Oracle.cons_ok ok_spec_l20Rd_pick Oracle.nil_ok)))) lf_spec_DrawQuotaRoom fun x => (w_spec_DrawQuotaRoom x).trans (spec_DrawQuotaRoom_eq x.1 _)
noncomputable def c_spec_DrawQuotaRoom : Con := Con.shape [.one (.dat (.sl (.int .u8)))] [] (fun x => spec_DrawQuotaRoom x.1) out_spec_DrawQuotaRoom
theorem ok_spec_DrawQuotaRoom : ConOk Try.prog 27 c_spec_DrawQuotaRoom := Con.shape_ok sem_spec_DrawQuotaRoom

/-! 8 -/
def C_laws_FnQuotaRoom : Cfg := { T := tab, hint := fun _ => { keepR := [0, 2, 3, 4, 5, 7, 9, 12, 25, 27], res := [2], order := [(11, [(0, .read), (1, .read), (2, .read), (3, .read), (4, .read), (5, .read), (6, .read), (7, .forced), (8, .forced), (9, .forced), (10, .forced), (11, .forced), (12, .forced), (13, .forced), (14, .read), (15, .forced), (16, .forced), (17, .forced), (18, .forced), (19, .forced), (20, .forced), (21, .read), (22, .read), (23, .read), (24, .forced), (25, .forced), (26, .forced), (27, .forced), (28, .forced), (29, .forced), (30, .forced), (31, .forced), (32, .forced), (33, .forced), (34, .forced), (35, .forced), (36, .forced), (37, .forced), (38, .forced), (39, .forced)])] }, mode := fun _ => .borrow }
noncomputable def O_laws_FnQuotaRoom : Oracle := Oracle.of [(17, c_spec_QuotaRoom), (18, c_impl_QuotaRoom), (20, c_laws_alive), (26, c_impl_UseQuota), (27, c_spec_DrawQuotaRoom)]
noncomputable def L_laws_FnQuotaRoom : Loops := Loops.of []
theorem lf_laws_FnQuotaRoom : LoopsFn Try.prog C_laws_FnQuotaRoom O_laws_FnQuotaRoom 8 L_laws_FnQuotaRoom := LoopsFn.nil' (by kernel_rfl)
def out_laws_FnQuotaRoom (r : Bool) : AV × Store := out1 (.one (.dat .bool)) [] (r, ())
theorem w_laws_FnQuotaRoom (x : FAr [.one (.dat (.sl (.int .u8)))] []) : evBodyK Try.prog C_laws_FnQuotaRoom O_laws_FnQuotaRoom L_laws_FnQuotaRoom 8 (encAr [.one (.dat (.sl (.int .u8)))] [] x).1 (encAr [.one (.dat (.sl (.int .u8)))] [] x).2 (fun v s => some (v, s)) =
    laws_FnQuotaRoomK x.1 (fun r => some (out_laws_FnQuotaRoom r)) := by kernel_rfl
theorem sem_laws_FnQuotaRoom : ∀ x y, (fun x => laws_FnQuotaRoom x.1) x = some y → SemCall Try.prog 8 (encAr [.one (.dat (.sl (.int .u8)))] [] x).1 (encAr [.one (.dat (.sl (.int .u8)))] [] x).2 (out_laws_FnQuotaRoom y).1 (out_laws_FnQuotaRoom y).2 :=
  sem_of folP okP tabP (Oracle.of_ok (Oracle.cons_ok ok_spec_QuotaRoom (Oracle.cons_ok ok_impl_QuotaRoom (Oracle.cons_ok ok_laws_alive (Oracle.cons_ok ok_impl_UseQuota (Oracle.cons_ok ok_spec_DrawQuotaRoom Oracle.nil_ok)))))) lf_laws_FnQuotaRoom fun x => (w_laws_FnQuotaRoom x).trans (laws_FnQuotaRoom_eq x.1 _)
noncomputable def c_laws_FnQuotaRoom : Con := Con.shape [.one (.dat (.sl (.int .u8)))] [] (fun x => laws_FnQuotaRoom x.1) out_laws_FnQuotaRoom
theorem ok_laws_FnQuotaRoom : ConOk Try.prog 8 c_laws_FnQuotaRoom := Con.shape_ok sem_laws_FnQuotaRoom

/-! 28 -/
def C_spec_DrawUseQuota : Cfg := { T := tab, hint := fun _ => { mu := [9], keepR := [0, 2, 3, 4, 5, 6, 7], res := [2, 3, 4], order := [(4, [(2, .read), (0, .pure), (1, .pure), (4, .pure), (5, .pure), (9, .pure), (10, .pure), (3, .forced), (6, .forced), (7, .pure), (8, .pure), (11, .forced), (12, .read), (13, .read), (14, .read), (15, .read), (16, .forced), (17, .forced), (18, .forced)])] }, mode := modeOf [(37, .sub), (42, .sub)] }
noncomputable def O_spec_DrawUseQuota : Oracle := Oracle.of [(17, c_spec_QuotaRoom), (37, c_spec_l20Quotas), (38, c_spec_l20Open), (42, c_spec_l20Rd_pick)]
noncomputable def L_spec_DrawUseQuota : Loops := Loops.of []
theorem lf_spec_DrawUseQuota : LoopsFn Try.prog C_spec_DrawUseQuota O_spec_DrawUseQuota 28 L_spec_DrawUseQuota := LoopsFn.nil' (by kernel_rfl)
def out_spec_DrawUseQuota (r : Int × Int × (List DQuota)) : AV × Store := outT [.one (.all 0), .one (.dat I), .one (.dat I)] [.data tQuota] (r.1, r.2.1, r.2.2, ())
theorem w_spec_DrawUseQuota (x : FAr [.one (.dat (.sl (.int .u8)))] []) : evBodyK Try.prog C_spec_DrawUseQuota O_spec_DrawUseQuota L_spec_DrawUseQuota 28 (encAr [.one (.dat (.sl (.int .u8)))] [] x).1 (encAr [.one (.dat (.sl (.int .u8)))] [] x).2 (fun v s => some (v, s)) =
    spec_DrawUseQuotaK x.1 (fun r => some (out_spec_DrawUseQuota r)) := by kernel_rfl
theorem sem_spec_DrawUseQuota : ∀ x y, (fun x => spec_DrawUseQuota x.1) x = some y → SemCall Try.prog 28 (encAr [.one (.dat (.sl (.int .u8)))] [] x).1 (encAr [.one (.dat (.sl (.int .u8)))] [] x).2 (out_spec_DrawUseQuota y).1 (out_spec_DrawUseQuota y).2 :=
  sem_of folP okP tabP (Oracle.of_ok (Oracle.cons_ok ok_spec_QuotaRoom (Oracle.cons_ok ok_spec_l20Quotas (Oracle.cons_ok ok_spec_l20Open (Oracle.cons_ok ok_spec_l20Rd_pick Oracle.nil_ok))))) lf_spec_DrawUseQuota fun x => (w_spec_DrawUseQuota x).trans (spec_DrawUseQuota_eq x.1 _)
noncomputable def c_spec_DrawUseQuota : Con := Con.shape [.one (.dat (.sl (.int .u8)))] [] (fun x => spec_DrawUseQuota x.1) out_spec_DrawUseQuota
theorem ok_spec_DrawUseQuota : ConOk Try.prog 28 c_spec_DrawUseQuota := Con.shape_ok sem_spec_DrawUseQuota

/-! 29 -/
def C_laws_sameQuotas : Cfg := { T := tab, hint := fun _ => { keepR := [0, 1, 4, 5, 10, 14, 25], res := [4], order := [(6, [(0, .read), (1, .read), (2, .read), (3, .read), (4, .read), (5, .forced), (6, .forced), (7, .forced), (8, .forced)])], keepL := [(0, [0, 1, 5])], keepX := [(0, []), (1, [0, 1, 5])] }, mode := fun _ => .borrow }
noncomputable def O_laws_sameQuotas : Oracle := Oracle.of []
def sh_laws_sameQuotas_l0 : List (Nat × S2) := [(0, .one (.dat (.sl tQuota))), (1, .one (.dat (.sl tQuota))), (5, .one (.dat I))]
def bs_laws_sameQuotas_l0 : List SB := []
noncomputable def lc_laws_sameQuotas_l0 : LCon := LCon.shape sh_laws_sameQuotas_l0 bs_laws_sameQuotas_l0 laws_sameQuotas_l0 (fun a => (.exit 0, encSt [] [] a)) (fun b => encSt [(4, .one (.dat .bool))] [] b)
noncomputable def L_laws_sameQuotas : Loops := Loops.of [(0, lc_laws_sameQuotas_l0)]
theorem r_laws_sameQuotas_l0 (x : FSt sh_laws_sameQuotas_l0 bs_laws_sameQuotas_l0) : roundK C_laws_sameQuotas.T (C_laws_sameQuotas.hint 29) C_laws_sameQuotas.mode O_laws_sameQuotas L_laws_sameQuotas 0 (lp Try.prog 29 0) (encSt sh_laws_sameQuotas_l0 bs_laws_sameQuotas_l0 x) (fun e s => some (e, s)) =
    laws_sameQuotas_l0K x.1 x.2.1 x.2.2.1 (fun y => some (Ex.normal, encSt sh_laws_sameQuotas_l0 bs_laws_sameQuotas_l0 y)) (fun a => some (Ex.exit 0, encSt [] [] a)) (fun b => some (Ex.ret, encSt [(4, .one (.dat .bool))] [] b)) := by kernel_rfl
theorem lo_laws_sameQuotas_l0 : LConOk C_laws_sameQuotas.T (C_laws_sameQuotas.hint 29) C_laws_sameQuotas.mode O_laws_sameQuotas L_laws_sameQuotas 0 (lp Try.prog 29 0) lc_laws_sameQuotas_l0 :=
  LCon.shape_ok (fun a => by simp) fun x => (r_laws_sameQuotas_l0 x).trans (laws_sameQuotas_l0_eq x.1 x.2.1 x.2.2.1 _ _ _)
theorem lf_laws_sameQuotas : LoopsFn Try.prog C_laws_sameQuotas O_laws_sameQuotas 29 L_laws_sameQuotas := LoopsFn.all (by kernel_rfl) (by decide) ⟨lo_laws_sameQuotas_l0, trivial⟩
def out_laws_sameQuotas (r : Bool) : AV × Store := out1 (.one (.dat .bool)) [] (r, ())
theorem w_laws_sameQuotas (x : FAr [.one (.dat (.sl tQuota)), .one (.dat (.sl tQuota))] []) : evBodyK Try.prog C_laws_sameQuotas O_laws_sameQuotas L_laws_sameQuotas 29 (encAr [.one (.dat (.sl tQuota)), .one (.dat (.sl tQuota))] [] x).1 (encAr [.one (.dat (.sl tQuota)), .one (.dat (.sl tQuota))] [] x).2 (fun v s => some (v, s)) =
    laws_sameQuotasK x.1 x.2.1 (fun r => some (out_laws_sameQuotas r)) := by kernel_rfl
theorem sem_laws_sameQuotas : ∀ x y, (fun x => laws_sameQuotas x.1 x.2.1) x = some y → SemCall Try.prog 29 (encAr [.one (.dat (.sl tQuota)), .one (.dat (.sl tQuota))] [] x).1 (encAr [.one (.dat (.sl tQuota)), .one (.dat (.sl tQuota))] [] x).2 (out_laws_sameQuotas y).1 (out_laws_sameQuotas y).2 :=
  sem_of folP okP tabP (Oracle.of_ok Oracle.nil_ok) lf_laws_sameQuotas fun x => (w_laws_sameQuotas x).trans (laws_sameQuotas_eq x.1 x.2.1 _)
noncomputable def c_laws_sameQuotas : Con := Con.shape [.one (.dat (.sl tQuota)), .one (.dat (.sl tQuota))] [] (fun x => laws_sameQuotas x.1 x.2.1) out_laws_sameQuotas
theorem ok_laws_sameQuotas : ConOk Try.prog 29 c_laws_sameQuotas := Con.shape_ok sem_laws_sameQuotas

/-! 9 -/
def C_laws_FnQuotaShrinks : Cfg := { T := tab, hint := fun _ => { keepR := [0, 2, 3, 4, 5, 6, 7, 8, 9, 12, 41, 43], res := [2] }, mode := fun _ => .borrow }
noncomputable def O_laws_FnQuotaShrinks : Oracle := Oracle.of [(18, c_impl_QuotaRoom), (20, c_laws_alive), (25, c_spec_UseQuota), (26, c_impl_UseQuota), (28, c_spec_DrawUseQuota), (29, c_laws_sameQuotas)]
noncomputable def L_laws_FnQuotaShrinks : Loops := Loops.of []
theorem lf_laws_FnQuotaShrinks : LoopsFn Try.prog C_laws_FnQuotaShrinks O_laws_FnQuotaShrinks 9 L_laws_FnQuotaShrinks := LoopsFn.nil' (by kernel_rfl)
def out_laws_FnQuotaShrinks (r : Bool) : AV × Store := out1 (.one (.dat .bool)) [] (r, ())
theorem w_laws_FnQuotaShrinks (x : FAr [.one (.dat (.sl (.int .u8)))] []) : evBodyK Try.prog C_laws_FnQuotaShrinks O_laws_FnQuotaShrinks L_laws_FnQuotaShrinks 9 (encAr [.one (.dat (.sl (.int .u8)))] [] x).1 (encAr [.one (.dat (.sl (.int .u8)))] [] x).2 (fun v s => some (v, s)) =
    laws_FnQuotaShrinksK x.1 (fun r => some (out_laws_FnQuotaShrinks r)) := by kernel_rfl
theorem sem_laws_FnQuotaShrinks : ∀ x y, (fun x => laws_FnQuotaShrinks x.1) x = some y → SemCall Try.prog 9 (encAr [.one (.dat (.sl (.int .u8)))] [] x).1 (encAr [.one (.dat (.sl (.int .u8)))] [] x).2 (out_laws_FnQuotaShrinks y).1 (out_laws_FnQuotaShrinks y).2 :=
  sem_of folP okP tabP (Oracle.of_ok (Oracle.cons_ok ok_impl_QuotaRoom (Oracle.cons_ok ok_laws_alive (Oracle.cons_ok ok_spec_UseQuota (Oracle.cons_ok ok_impl_UseQuota (Oracle.cons_ok ok_spec_DrawUseQuota (Oracle.cons_ok ok_laws_sameQuotas Oracle.nil_ok))))))) lf_laws_FnQuotaShrinks fun x => (w_laws_FnQuotaShrinks x).trans (laws_FnQuotaShrinks_eq x.1 _)
noncomputable def c_laws_FnQuotaShrinks : Con := Con.shape [.one (.dat (.sl (.int .u8)))] [] (fun x => laws_FnQuotaShrinks x.1) out_laws_FnQuotaShrinks
theorem ok_laws_FnQuotaShrinks : ConOk Try.prog 9 c_laws_FnQuotaShrinks := Con.shape_ok sem_laws_FnQuotaShrinks

/-! 10 -/
def C_laws_FnUseQuota : Cfg := { T := tab, hint := fun _ => { keepR := [0, 2, 3, 4, 5, 6, 7, 8, 9, 10, 11, 12, 13, 14, 15, 18, 47, 49, 64, 75, 90, 93], res := [2], order := [(14, [(0, .read), (1, .read), (2, .read), (3, .read), (4, .read), (5, .forced), (6, .forced), (7, .forced), (8, .forced)]), (16, [(0, .read), (1, .read), (2, .read), (3, .read), (4, .read), (5, .read), (6, .read), (7, .read), (8, .read), (9, .read), (10, .forced), (11, .forced), (12, .forced)])], keepL := [(0, [3, 4, 5, 6, 10, 11]), (2, [3, 4, 5, 6, 10, 12, 13])], keepX := [(0, [3, 4, 5, 6, 10]), (1, [3, 4, 5, 6, 10, 11]), (2, [3, 4, 5, 6, 10, 12]), (3, [3, 4, 5, 6, 10, 12, 13])] }, mode := fun _ => .borrow }
noncomputable def O_laws_FnUseQuota : Oracle := Oracle.of [(15, c_impl_QuotasValid), (20, c_laws_alive), (22, c_impl_FreeQuota), (25, c_spec_UseQuota), (26, c_impl_UseQuota), (28, c_spec_DrawUseQuota), (29, c_laws_sameQuotas)]
def sh_laws_FnUseQuota_l0 : List (Nat × S2) := [(3, .one (.dat (.sl tQuota))), (4, .one (.dat I)), (5, .one (.dat I)), (6, .one (.dat (.sl tQuota))), (10, .one (.dat I)), (11, .one (.dat I))]
def bs_laws_FnUseQuota_l0 : List SB := []
noncomputable def lc_laws_FnUseQuota_l0 : LCon := LCon.shape sh_laws_FnUseQuota_l0 bs_laws_FnUseQuota_l0 laws_FnUseQuota_l0 (fun a => (.exit 0, encSt [(3, .one (.dat (.sl tQuota))), (4, .one (.dat I)), (5, .one (.dat I)), (6, .one (.dat (.sl tQuota))), (10, .one (.dat I))] [] a)) (fun b => encSt [(2, .one (.dat .bool))] [] b)
def sh_laws_FnUseQuota_l2 : List (Nat × S2) := [(3, .one (.dat (.sl tQuota))), (4, .one (.dat I)), (5, .one (.dat I)), (6, .one (.dat (.sl tQuota))), (10, .one (.dat I)), (12, .one (.dat I)), (13, .one (.dat I))]
def bs_laws_FnUseQuota_l2 : List SB := []
noncomputable def lc_laws_FnUseQuota_l2 : LCon := LCon.shape1 sh_laws_FnUseQuota_l2 bs_laws_FnUseQuota_l2 laws_FnUseQuota_l2 (fun a => (.exit 2, encSt [(3, .one (.dat (.sl tQuota))), (4, .one (.dat I)), (5, .one (.dat I)), (6, .one (.dat (.sl tQuota))), (10, .one (.dat I)), (12, .one (.dat I))] [] a))
noncomputable def L_laws_FnUseQuota : Loops := Loops.of [(0, lc_laws_FnUseQuota_l0), (2, lc_laws_FnUseQuota_l2)]
theorem r_laws_FnUseQuota_l0 (x : FSt sh_laws_FnUseQuota_l0 bs_laws_FnUseQuota_l0) : roundK C_laws_FnUseQuota.T (C_laws_FnUseQuota.hint 10) C_laws_FnUseQuota.mode O_laws_FnUseQuota L_laws_FnUseQuota 0 (lp Try.prog 10 0) (encSt sh_laws_FnUseQuota_l0 bs_laws_FnUseQuota_l0 x) (fun e s => some (e, s)) =
    laws_FnUseQuota_l0K x.1 x.2.1 x.2.2.1 x.2.2.2.1 x.2.2.2.2.1 x.2.2.2.2.2.1 (fun y => some (Ex.normal, encSt sh_laws_FnUseQuota_l0 bs_laws_FnUseQuota_l0 y)) (fun a => some (Ex.exit 0, encSt [(3, .one (.dat (.sl tQuota))), (4, .one (.dat I)), (5, .one (.dat I)), (6, .one (.dat (.sl tQuota))), (10, .one (.dat I))] [] a)) (fun b => some (Ex.ret, encSt [(2, .one (.dat .bool))] [] b)) := by kernel_rfl
theorem lo_laws_FnUseQuota_l0 : LConOk C_laws_FnUseQuota.T (C_laws_FnUseQuota.hint 10) C_laws_FnUseQuota.mode O_laws_FnUseQuota L_laws_FnUseQuota 0 (lp Try.prog 10 0) lc_laws_FnUseQuota_l0 :=
  LCon.shape_ok (fun a => by simp) fun x => (r_laws_FnUseQuota_l0 x).trans (laws_FnUseQuota_l0_eq x.1 x.2.1 x.2.2.1 x.2.2.2.1 x.2.2.2.2.1 x.2.2.2.2.2.1 _ _ _)
theorem r_laws_FnUseQuota_l2 (x : FSt sh_laws_FnUseQuota_l2 bs_laws_FnUseQuota_l2) : roundK C_laws_FnUseQuota.T (C_laws_FnUseQuota.hint 10) C_laws_FnUseQuota.mode O_laws_FnUseQuota L_laws_FnUseQuota 2 (lp Try.prog 10 1) (encSt sh_laws_FnUseQuota_l2 bs_laws_FnUseQuota_l2 x) (fun e s => some (e, s)) =
    laws_FnUseQuota_l2K x.1 x.2.1 x.2.2.1 x.2.2.2.1 x.2.2.2.2.1 x.2.2.2.2.2.1 x.2.2.2.2.2.2.1 (fun y => some (Ex.normal, encSt sh_laws_FnUseQuota_l2 bs_laws_FnUseQuota_l2 y)) (fun a => some (Ex.exit 2, encSt [(3, .one (.dat (.sl tQuota))), (4, .one (.dat I)), (5, .one (.dat I)), (6, .one (.dat (.sl tQuota))), (10, .one (.dat I)), (12, .one (.dat I))] [] a)) := by kernel_rfl
theorem lo_laws_FnUseQuota_l2 : LConOk C_laws_FnUseQuota.T (C_laws_FnUseQuota.hint 10) C_laws_FnUseQuota.mode O_laws_FnUseQuota L_laws_FnUseQuota 2 (lp Try.prog 10 1) lc_laws_FnUseQuota_l2 :=
  LCon.shape1_ok (fun a => by simp) fun x => (r_laws_FnUseQuota_l2 x).trans (laws_FnUseQuota_l2_eq x.1 x.2.1 x.2.2.1 x.2.2.2.1 x.2.2.2.2.1 x.2.2.2.2.2.1 x.2.2.2.2.2.2.1 _ _)
theorem lf_laws_FnUseQuota : LoopsFn Try.prog C_laws_FnUseQuota O_laws_FnUseQuota 10 L_laws_FnUseQuota := LoopsFn.all (by kernel_rfl) (by decide) ⟨lo_laws_FnUseQuota_l0, lo_laws_FnUseQuota_l2, trivial⟩
def out_laws_FnUseQuota (r : Bool) : AV × Store := out1 (.one (.dat .bool)) [] (r, ())
theorem w_laws_FnUseQuota (x : FAr [.one (.dat (.sl (.int .u8)))] []) : evBodyK Try.prog C_laws_FnUseQuota O_laws_FnUseQuota L_laws_FnUseQuota 10 (encAr [.one (.dat (.sl (.int .u8)))] [] x).1 (encAr [.one (.dat (.sl (.int .u8)))] [] x).2 (fun v s => some (v, s)) =
    laws_FnUseQuotaK x.1 (fun r => some (out_laws_FnUseQuota r)) := by kernel_rfl
theorem sem_laws_FnUseQuota : ∀ x y, (fun x => laws_FnUseQuota x.1) x = some y → SemCall Try.prog 10 (encAr [.one (.dat (.sl (.int .u8)))] [] x).1 (encAr [.one (.dat (.sl (.int .u8)))] [] x).2 (out_laws_FnUseQuota y).1 (out_laws_FnUseQuota y).2 :=
  sem_of folP okP tabP (Oracle.of_ok (Oracle.cons_ok ok_impl_QuotasValid (Oracle.cons_ok ok_laws_alive (Oracle.cons_ok ok_impl_FreeQuota (Oracle.cons_ok ok_spec_UseQuota (Oracle.cons_ok ok_impl_UseQuota (Oracle.cons_ok ok_spec_DrawUseQuota (Oracle.cons_ok ok_laws_sameQuotas Oracle.nil_ok)))))))) lf_laws_FnUseQuota fun x => (w_laws_FnUseQuota x).trans (laws_FnUseQuota_eq x.1 _)
noncomputable def c_laws_FnUseQuota : Con := Con.shape [.one (.dat (.sl (.int .u8)))] [] (fun x => laws_FnUseQuota x.1) out_laws_FnUseQuota
theorem ok_laws_FnUseQuota : ConOk Try.prog 10 c_laws_FnUseQuota := Con.shape_ok sem_laws_FnUseQuota

/-! 30 -/
def C_spec_DrawFreeQuota : Cfg := { T := tab, hint := fun _ => { mu := [9], keepR := [0, 2, 3, 4, 5, 6, 7], res := [2, 3, 4], order := [(4, [(2, .read), (0, .pure), (1, .pure), (5, .pure), (6, .pure), (3, .forced), (4, .pure), (7, .forced), (8, .read), (9, .read), (10, .read), (11, .read), (12, .forced), (13, .forced), (14, .forced)])] }, mode := modeOf [(37, .sub), (42, .sub)] }
noncomputable def O_spec_DrawFreeQuota : Oracle := Oracle.of [(37, c_spec_l20Quotas), (38, c_spec_l20Open), (42, c_spec_l20Rd_pick)]
noncomputable def L_spec_DrawFreeQuota : Loops := Loops.of []
theorem lf_spec_DrawFreeQuota : LoopsFn Try.prog C_spec_DrawFreeQuota O_spec_DrawFreeQuota 30 L_spec_DrawFreeQuota := LoopsFn.nil' (by kernel_rfl)
def out_spec_DrawFreeQuota (r : Int × Int × (List DQuota)) : AV × Store := outT [.one (.all 0), .one (.dat I), .one (.dat I)] [.data tQuota] (r.1, r.2.1, r.2.2, ())
theorem w_spec_DrawFreeQuota (x : FAr [.one (.dat (.sl (.int .u8)))] []) : evBodyK Try.prog C_spec_DrawFreeQuota O_spec_DrawFreeQuota L_spec_DrawFreeQuota 30 (encAr [.one (.dat (.sl (.int .u8)))] [] x).1 (encAr [.one (.dat (.sl (.int .u8)))] [] x).2 (fun v s => some (v, s)) =
    spec_DrawFreeQuotaK x.1 (fun r => some (out_spec_DrawFreeQuota r)) := by kernel_rfl
theorem sem_spec_DrawFreeQuota : ∀ x y, (fun x => spec_DrawFreeQuota x.1) x = some y → SemCall Try.prog 30 (encAr [.one (.dat (.sl (.int .u8)))] [] x).1 (encAr [.one (.dat (.sl (.int .u8)))] [] x).2 (out_spec_DrawFreeQuota y).1 (out_spec_DrawFreeQuota y).2 :=
  sem_of folP okP tabP (Oracle.of_ok (Oracle.cons_ok ok_spec_l20Quotas (Oracle.cons_ok ok_spec_l20Open (Oracle.cons_ok ok_spec_l20Rd_pick Oracle.nil_ok)))) lf_spec_DrawFreeQuota fun x => (w_spec_DrawFreeQuota x).trans (spec_DrawFreeQuota_eq x.1 _)
noncomputable def c_spec_DrawFreeQuota : Con := Con.shape [.one (.dat (.sl (.int .u8)))] [] (fun x => spec_DrawFreeQuota x.1) out_spec_DrawFreeQuota
theorem ok_spec_DrawFreeQuota : ConOk Try.prog 30 c_spec_DrawFreeQuota := Con.shape_ok sem_spec_DrawFreeQuota

/-! 11 -/
def C_laws_FnFreeQuota : Cfg := { T := tab, hint := fun _ => { keepR := [0, 2, 3, 4, 5, 6, 7, 8, 9, 10, 11, 12, 13, 16, 45, 47, 69, 78], res := [2], keepL := [(0, [3, 4, 6, 10, 11, 12, 13])], keepX := [(0, [3, 4, 6, 10, 11, 12]), (1, [3, 4, 6, 10, 11, 12, 13])] }, mode := fun _ => .borrow }
noncomputable def O_laws_FnFreeQuota : Oracle := Oracle.of [(15, c_impl_QuotasValid), (18, c_impl_QuotaRoom), (20, c_laws_alive), (21, c_spec_FreeQuota), (22, c_impl_FreeQuota), (26, c_impl_UseQuota), (29, c_laws_sameQuotas), (30, c_spec_DrawFreeQuota)]
def sh_laws_FnFreeQuota_l0 : List (Nat × S2) := [(3, .one (.dat (.sl tQuota))), (4, .one (.dat I)), (6, .one (.dat (.sl tQuota))), (10, .one (.dat (.sl tQuota))), (11, .one (.dat .bool)), (12, .one (.dat I)), (13, .one (.dat I))]
def bs_laws_FnFreeQuota_l0 : List SB := []
noncomputable def lc_laws_FnFreeQuota_l0 : LCon := LCon.shape1 sh_laws_FnFreeQuota_l0 bs_laws_FnFreeQuota_l0 laws_FnFreeQuota_l0 (fun a => (.exit 0, encSt [(3, .one (.dat (.sl tQuota))), (4, .one (.dat I)), (6, .one (.dat (.sl tQuota))), (10, .one (.dat (.sl tQuota))), (11, .one (.dat .bool)), (12, .one (.dat I))] [] a))
noncomputable def L_laws_FnFreeQuota : Loops := Loops.of [(0, lc_laws_FnFreeQuota_l0)]
theorem r_laws_FnFreeQuota_l0 (x : FSt sh_laws_FnFreeQuota_l0 bs_laws_FnFreeQuota_l0) : roundK C_laws_FnFreeQuota.T (C_laws_FnFreeQuota.hint 11) C_laws_FnFreeQuota.mode O_laws_FnFreeQuota L_laws_FnFreeQuota 0 (lp Try.prog 11 0) (encSt sh_laws_FnFreeQuota_l0 bs_laws_FnFreeQuota_l0 x) (fun e s => some (e, s)) =
    laws_FnFreeQuota_l0K x.1 x.2.1 x.2.2.1 x.2.2.2.1 x.2.2.2.2.1 x.2.2.2.2.2.1 x.2.2.2.2.2.2.1 (fun y => some (Ex.normal, encSt sh_laws_FnFreeQuota_l0 bs_laws_FnFreeQuota_l0 y)) (fun a => some (Ex.exit 0, encSt [(3, .one (.dat (.sl tQuota))), (4, .one (.dat I)), (6, .one (.dat (.sl tQuota))), (10, .one (.dat (.sl tQuota))), (11, .one (.dat .bool)), (12, .one (.dat I))] [] a)) := by kernel_rfl
theorem lo_laws_FnFreeQuota_l0 : LConOk C_laws_FnFreeQuota.T (C_laws_FnFreeQuota.hint 11) C_laws_FnFreeQuota.mode O_laws_FnFreeQuota L_laws_FnFreeQuota 0 (lp Try.prog 11 0) lc_laws_FnFreeQuota_l0 :=
  LCon.shape1_ok (fun a => by simp) fun x => (r_laws_FnFreeQuota_l0 x).trans (laws_FnFreeQuota_l0_eq x.1 x.2.1 x.2.2.1 x.2.2.2.1 x.2.2.2.2.1 x.2.2.2.2.2.1 x.2.2.2.2.2.2.1 _ _)
theorem lf_laws_FnFreeQuota : LoopsFn Try.prog C_laws_FnFreeQuota O_laws_FnFreeQuota 11 L_laws_FnFreeQuota := LoopsFn.all (by kernel_rfl) (by decide) ⟨lo_laws_FnFreeQuota_l0, trivial⟩
def out_laws_FnFreeQuota (r : Bool) : AV × Store := out1 (.one (.dat .bool)) [] (r, ())
theorem w_laws_FnFreeQuota (x : FAr [.one (.dat (.sl (.int .u8)))] []) : evBodyK Try.prog C_laws_FnFreeQuota O_laws_FnFreeQuota L_laws_FnFreeQuota 11 (encAr [.one (.dat (.sl (.int .u8)))] [] x).1 (encAr [.one (.dat (.sl (.int .u8)))] [] x).2 (fun v s => some (v, s)) =
    laws_FnFreeQuotaK x.1 (fun r => some (out_laws_FnFreeQuota r)) := by kernel_rfl
theorem sem_laws_FnFreeQuota : ∀ x y, (fun x => laws_FnFreeQuota x.1) x = some y → SemCall Try.prog 11 (encAr [.one (.dat (.sl (.int .u8)))] [] x).1 (encAr [.one (.dat (.sl (.int .u8)))] [] x).2 (out_laws_FnFreeQuota y).1 (out_laws_FnFreeQuota y).2 :=
  sem_of folP okP tabP (Oracle.of_ok (Oracle.cons_ok ok_impl_QuotasValid (Oracle.cons_ok ok_impl_QuotaRoom (Oracle.cons_ok ok_laws_alive (Oracle.cons_ok ok_spec_FreeQuota (Oracle.cons_ok ok_impl_FreeQuota (Oracle.cons_ok ok_impl_UseQuota (Oracle.cons_ok ok_laws_sameQuotas (Oracle.cons_ok ok_spec_DrawFreeQuota Oracle.nil_ok))))))))) lf_laws_FnFreeQuota fun x => (w_laws_FnFreeQuota x).trans (laws_FnFreeQuota_eq x.1 _)
noncomputable def c_laws_FnFreeQuota : Con := Con.shape [.one (.dat (.sl (.int .u8)))] [] (fun x => laws_FnFreeQuota x.1) out_laws_FnFreeQuota
theorem ok_laws_FnFreeQuota : ConOk Try.prog 11 c_laws_FnFreeQuota := Con.shape_ok sem_laws_FnFreeQuota

end Go.Ev
