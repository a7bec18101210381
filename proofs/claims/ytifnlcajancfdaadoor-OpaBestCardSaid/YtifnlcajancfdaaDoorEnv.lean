/- MADE BY PROGRAM (wip/gen/emit2.py): the instructions are those of the program. -/
import Derived.Test.YtifnlcajancfdaaDoorCode
import Derived.Test.YtifnlcajancfdaaDoorSh
import Derived.Test.YtifnlcajancfdaaDoorX
import Derived.Test.YtifnlcajancfdaaDoorChecked
import Derived.Laws.Externs
import Derived.KernelRfl
set_option maxRecDepth 100000
namespace Go.L.Try
open Go Go.L Go.Proofs Go.Shelf
theorem of_law19_OpaBest : FnC.of Tryd.prog n_law19_OpaBest c_law19_OpaBest := ⟨false, by kernel_rfl⟩
theorem of_law19_awake : FnC.of Tryd.prog n_law19_awake c_law19_awake := ⟨false, by kernel_rfl⟩
theorem of_ref04_Set : FnC.of Tryd.prog n_ref04_Set c_ref04_Set := ⟨false, by kernel_rfl⟩
theorem of_opa_Assign : FnC.of Tryd.prog n_opa_Assign c_opa_Assign := ⟨false, by kernel_rfl⟩
theorem of_order_All : FnC.of Tryd.prog n_order_All c_order_All := ⟨false, by kernel_rfl⟩
theorem of_order_Apply : FnC.of Tryd.prog n_order_Apply c_order_Apply := ⟨false, by kernel_rfl⟩
theorem of_ref14_Tests : FnC.of Tryd.prog n_ref14_Tests c_ref14_Tests := ⟨false, by kernel_rfl⟩
theorem of_ref04_rest : FnC.of Tryd.prog n_ref04_rest c_ref04_rest := ⟨false, by kernel_rfl⟩
theorem of_ref04_turns : FnC.of Tryd.prog n_ref04_turns c_ref04_turns := ⟨false, by kernel_rfl⟩
theorem of_opa_may : FnC.of Tryd.prog n_opa_may c_opa_may := ⟨false, by kernel_rfl⟩
theorem of_marks_Below : FnC.of Tryd.prog n_marks_Below c_marks_Below := ⟨false, by kernel_rfl⟩
theorem of_opa_search_pick : FnC.of Tryd.prog n_opa_search_pick c_opa_search_pick := ⟨false, by kernel_rfl⟩
theorem of_marks_Set_Without : FnC.of Tryd.prog n_marks_Set_Without c_marks_Set_Without := ⟨false, by kernel_rfl⟩
theorem of_order_All_f1 : FnC.of Tryd.prog n_order_All_f1 c_order_All_f1 := ⟨false, by kernel_rfl⟩
theorem of_order_from : FnC.of Tryd.prog n_order_from c_order_from := ⟨false, by kernel_rfl⟩
theorem of_order_Valid : FnC.of Tryd.prog n_order_Valid c_order_Valid := ⟨false, by kernel_rfl⟩
theorem of_slices_Clone_api_Task_api_Task : FnC.of Tryd.prog n_slices_Clone_api_Task_api_Task c_slices_Clone_api_Task_api_Task := ⟨false, by kernel_rfl⟩
theorem of_ref14_Bound : FnC.of Tryd.prog n_ref14_Bound c_ref14_Bound := ⟨false, by kernel_rfl⟩
theorem of_ref04_CheckAll : FnC.of Tryd.prog n_ref04_CheckAll c_ref04_CheckAll := ⟨false, by kernel_rfl⟩
theorem of_task_CheckAll : FnC.of Tryd.prog n_task_CheckAll c_task_CheckAll := ⟨false, by kernel_rfl⟩
theorem of_marks_Set_All : FnC.of Tryd.prog n_marks_Set_All c_marks_Set_All := ⟨false, by kernel_rfl⟩
theorem of_opa_Fits : FnC.of Tryd.prog n_opa_Fits c_opa_Fits := ⟨false, by kernel_rfl⟩
theorem of_marks_in : FnC.of Tryd.prog n_marks_in c_marks_in := ⟨false, by kernel_rfl⟩
theorem of_slices_rotateRight_int : FnC.of Tryd.prog n_slices_rotateRight_int c_slices_rotateRight_int := ⟨false, by kernel_rfl⟩
theorem of_slices_Clone_int_int : FnC.of Tryd.prog n_slices_Clone_int_int c_slices_Clone_int_int := ⟨false, by kernel_rfl⟩
theorem of_ref13_Is : FnC.of Tryd.prog n_ref13_Is c_ref13_Is := ⟨false, by kernel_rfl⟩
theorem of_ref13_Need : FnC.of Tryd.prog n_ref13_Need c_ref13_Need := ⟨false, by kernel_rfl⟩
theorem of_ref04_Check : FnC.of Tryd.prog n_ref04_Check c_ref04_Check := ⟨false, by kernel_rfl⟩
theorem of_task_Check : FnC.of Tryd.prog n_task_Check c_task_Check := ⟨false, by kernel_rfl⟩
theorem of_marks_Set_All_f1 : FnC.of Tryd.prog n_marks_Set_All_f1 c_marks_Set_All_f1 := ⟨false, by kernel_rfl⟩
theorem of_marks_Set_First : FnC.of Tryd.prog n_marks_Set_First c_marks_Set_First := ⟨false, by kernel_rfl⟩
theorem of_marks_Set_Next : FnC.of Tryd.prog n_marks_Set_Next c_marks_Set_Next := ⟨false, by kernel_rfl⟩
theorem of_marks_Set_Has : FnC.of Tryd.prog n_marks_Set_Has c_marks_Set_Has := ⟨false, by kernel_rfl⟩
theorem of_rta_Bound : FnC.of Tryd.prog n_rta_Bound c_rta_Bound := ⟨false, by kernel_rfl⟩
theorem of_slices_rotateLeft_int : FnC.of Tryd.prog n_slices_rotateLeft_int c_slices_rotateLeft_int := ⟨false, by kernel_rfl⟩
theorem of_ref01_Sum : FnC.of Tryd.prog n_ref01_Sum c_ref01_Sum := ⟨false, by kernel_rfl⟩
theorem of_ref13_Block : FnC.of Tryd.prog n_ref13_Block c_ref13_Block := ⟨false, by kernel_rfl⟩
theorem of_ref13_Higher : FnC.of Tryd.prog n_ref13_Higher c_ref13_Higher := ⟨false, by kernel_rfl⟩
theorem of_ref03_Word : FnC.of Tryd.prog n_ref03_Word c_ref03_Word := ⟨false, by kernel_rfl⟩
theorem of_ref04_in : FnC.of Tryd.prog n_ref04_in c_ref04_in := ⟨false, by kernel_rfl⟩
theorem of_scan_Word : FnC.of Tryd.prog n_scan_Word c_scan_Word := ⟨false, by kernel_rfl⟩
theorem of_task_Check_f1 : FnC.of Tryd.prog n_task_Check_f1 c_task_Check_f1 := ⟨false, by kernel_rfl⟩
theorem of_task_Check_f2 : FnC.of Tryd.prog n_task_Check_f2 c_task_Check_f2 := ⟨false, by kernel_rfl⟩
theorem of_task_Check_f3 : FnC.of Tryd.prog n_task_Check_f3 c_task_Check_f3 := ⟨false, by kernel_rfl⟩
theorem of_task_first : FnC.of Tryd.prog n_task_first c_task_first := ⟨false, by kernel_rfl⟩
theorem of_num_Mul : FnC.of Tryd.prog n_num_Mul c_num_Mul := ⟨false, by kernel_rfl⟩
theorem of_num_Add : FnC.of Tryd.prog n_num_Add c_num_Add := ⟨false, by kernel_rfl⟩
theorem of_rta_is : FnC.of Tryd.prog n_rta_is c_rta_is := ⟨false, by kernel_rfl⟩
theorem of_rta_Each : FnC.of Tryd.prog n_rta_Each c_rta_Each := ⟨false, by kernel_rfl⟩
theorem of_slices_Reverse_int_int : FnC.of Tryd.prog n_slices_Reverse_int_int c_slices_Reverse_int_int := ⟨false, by kernel_rfl⟩
theorem of_ref01_End : FnC.of Tryd.prog n_ref01_End c_ref01_End := ⟨false, by kernel_rfl⟩
theorem of_ref01_Add : FnC.of Tryd.prog n_ref01_Add c_ref01_Add := ⟨false, by kernel_rfl⟩
theorem of_ref01_Ceil : FnC.of Tryd.prog n_ref01_Ceil c_ref01_Ceil := ⟨false, by kernel_rfl⟩
theorem of_ref01_Mul : FnC.of Tryd.prog n_ref01_Mul c_ref01_Mul := ⟨false, by kernel_rfl⟩
theorem of_ref03_one : FnC.of Tryd.prog n_ref03_one c_ref03_one := ⟨false, by kernel_rfl⟩
theorem of_scan_letter : FnC.of Tryd.prog n_scan_letter c_scan_letter := ⟨false, by kernel_rfl⟩
theorem of_scan_long : FnC.of Tryd.prog n_scan_long c_scan_long := ⟨false, by kernel_rfl⟩
theorem of_scan_goes : FnC.of Tryd.prog n_scan_goes c_scan_goes := ⟨false, by kernel_rfl⟩
theorem of_math_bits_Mul64 : FnC.of Tryd.prog n_math_bits_Mul64 c_math_bits_Mul64 := ⟨false, by kernel_rfl⟩
theorem of_rta_Each_f1 : FnC.of Tryd.prog n_rta_Each_f1 c_rta_Each_f1 := ⟨false, by kernel_rfl⟩
theorem of_demand_Need : FnC.of Tryd.prog n_demand_Need c_demand_Need := ⟨false, by kernel_rfl⟩
theorem of_ref03_letter : FnC.of Tryd.prog n_ref03_letter c_ref03_letter := ⟨false, by kernel_rfl⟩
theorem of_ref03_digit : FnC.of Tryd.prog n_ref03_digit c_ref03_digit := ⟨false, by kernel_rfl⟩
theorem of_scan_digit : FnC.of Tryd.prog n_scan_digit c_scan_digit := ⟨false, by kernel_rfl⟩
theorem of_demand_is : FnC.of Tryd.prog n_demand_is c_demand_is := ⟨false, by kernel_rfl⟩
theorem of_num_Sum : FnC.of Tryd.prog n_num_Sum c_num_Sum := ⟨false, by kernel_rfl⟩
theorem of_demand_Block : FnC.of Tryd.prog n_demand_Block c_demand_Block := ⟨false, by kernel_rfl⟩
theorem of_demand_Higher : FnC.of Tryd.prog n_demand_Higher c_demand_Higher := ⟨false, by kernel_rfl⟩
theorem of_task_Lower : FnC.of Tryd.prog n_task_Lower c_task_Lower := ⟨false, by kernel_rfl⟩
theorem of_task_Higher : FnC.of Tryd.prog n_task_Higher c_task_Higher := ⟨false, by kernel_rfl⟩
theorem of_num_Times : FnC.of Tryd.prog n_num_Times c_num_Times := ⟨false, by kernel_rfl⟩
theorem of_demand_often : FnC.of Tryd.prog n_demand_often c_demand_often := ⟨false, by kernel_rfl⟩
theorem of_task_those : FnC.of Tryd.prog n_task_those c_task_those := ⟨false, by kernel_rfl⟩
theorem of_task_Lower_f1 : FnC.of Tryd.prog n_task_Lower_f1 c_task_Lower_f1 := ⟨false, by kernel_rfl⟩
theorem of_task_Higher_f1 : FnC.of Tryd.prog n_task_Higher_f1 c_task_Higher_f1 := ⟨false, by kernel_rfl⟩
theorem of_num_Ceil : FnC.of Tryd.prog n_num_Ceil c_num_Ceil := ⟨false, by kernel_rfl⟩
theorem of_marks_Set_With : FnC.of Tryd.prog n_marks_Set_With c_marks_Set_With := ⟨false, by kernel_rfl⟩
def tab : List (Nat × Bool × FnC) := [(n_law19_OpaBest, false, c_law19_OpaBest), (n_law19_awake, false, c_law19_awake), (n_ref04_Set, false, c_ref04_Set), (n_opa_Assign, false, c_opa_Assign), (n_order_All, false, c_order_All), (n_order_Apply, false, c_order_Apply), (n_ref14_Tests, false, c_ref14_Tests), (n_ref04_rest, false, c_ref04_rest), (n_ref04_turns, false, c_ref04_turns), (n_opa_may, false, c_opa_may), (n_marks_Below, false, c_marks_Below), (n_opa_search_pick, false, c_opa_search_pick), (n_marks_Set_Without, false, c_marks_Set_Without), (n_order_All_f1, false, c_order_All_f1), (n_order_from, false, c_order_from), (n_order_Valid, false, c_order_Valid), (n_slices_Clone_api_Task_api_Task, false, c_slices_Clone_api_Task_api_Task), (n_ref14_Bound, false, c_ref14_Bound), (n_ref04_CheckAll, false, c_ref04_CheckAll), (n_task_CheckAll, false, c_task_CheckAll), (n_marks_Set_All, false, c_marks_Set_All), (n_opa_Fits, false, c_opa_Fits), (n_marks_in, false, c_marks_in), (n_slices_rotateRight_int, false, c_slices_rotateRight_int), (n_slices_Clone_int_int, false, c_slices_Clone_int_int), (n_ref13_Is, false, c_ref13_Is), (n_ref13_Need, false, c_ref13_Need), (n_ref04_Check, false, c_ref04_Check), (n_task_Check, false, c_task_Check), (n_marks_Set_All_f1, false, c_marks_Set_All_f1), (n_marks_Set_First, false, c_marks_Set_First), (n_marks_Set_Next, false, c_marks_Set_Next), (n_marks_Set_Has, false, c_marks_Set_Has), (n_rta_Bound, false, c_rta_Bound), (n_slices_rotateLeft_int, false, c_slices_rotateLeft_int), (n_ref01_Sum, false, c_ref01_Sum), (n_ref13_Block, false, c_ref13_Block), (n_ref13_Higher, false, c_ref13_Higher), (n_ref03_Word, false, c_ref03_Word), (n_ref04_in, false, c_ref04_in), (n_scan_Word, false, c_scan_Word), (n_task_Check_f1, false, c_task_Check_f1), (n_task_Check_f2, false, c_task_Check_f2), (n_task_Check_f3, false, c_task_Check_f3), (n_task_first, false, c_task_first), (n_num_Mul, false, c_num_Mul), (n_num_Add, false, c_num_Add), (n_rta_is, false, c_rta_is), (n_rta_Each, false, c_rta_Each), (n_slices_Reverse_int_int, false, c_slices_Reverse_int_int), (n_ref01_End, false, c_ref01_End), (n_ref01_Add, false, c_ref01_Add), (n_ref01_Ceil, false, c_ref01_Ceil), (n_ref01_Mul, false, c_ref01_Mul), (n_ref03_one, false, c_ref03_one), (n_scan_letter, false, c_scan_letter), (n_scan_long, false, c_scan_long), (n_scan_goes, false, c_scan_goes), (n_math_bits_Mul64, false, c_math_bits_Mul64), (n_rta_Each_f1, false, c_rta_Each_f1), (n_demand_Need, false, c_demand_Need), (n_ref03_letter, false, c_ref03_letter), (n_ref03_digit, false, c_ref03_digit), (n_scan_digit, false, c_scan_digit), (n_demand_is, false, c_demand_is), (n_num_Sum, false, c_num_Sum), (n_demand_Block, false, c_demand_Block), (n_demand_Higher, false, c_demand_Higher), (n_task_Lower, false, c_task_Lower), (n_task_Higher, false, c_task_Higher), (n_num_Times, false, c_num_Times), (n_demand_often, false, c_demand_often), (n_task_those, false, c_task_those), (n_task_Lower_f1, false, c_task_Lower_f1), (n_task_Higher_f1, false, c_task_Higher_f1), (n_num_Ceil, false, c_num_Ceil), (n_marks_Set_With, false, c_marks_Set_With)]
theorem tab_of : ∀ p ∈ tab, FnC.of Tryd.prog p.1 p.2.2 := by
  unfold tab
  refine List.forall_mem_cons.2 ⟨of_law19_OpaBest, ?_⟩
  refine List.forall_mem_cons.2 ⟨of_law19_awake, ?_⟩
  refine List.forall_mem_cons.2 ⟨of_ref04_Set, ?_⟩
  refine List.forall_mem_cons.2 ⟨of_opa_Assign, ?_⟩
  refine List.forall_mem_cons.2 ⟨of_order_All, ?_⟩
  refine List.forall_mem_cons.2 ⟨of_order_Apply, ?_⟩
  refine List.forall_mem_cons.2 ⟨of_ref14_Tests, ?_⟩
  refine List.forall_mem_cons.2 ⟨of_ref04_rest, ?_⟩
  refine List.forall_mem_cons.2 ⟨of_ref04_turns, ?_⟩
  refine List.forall_mem_cons.2 ⟨of_opa_may, ?_⟩
  refine List.forall_mem_cons.2 ⟨of_marks_Below, ?_⟩
  refine List.forall_mem_cons.2 ⟨of_opa_search_pick, ?_⟩
  refine List.forall_mem_cons.2 ⟨of_marks_Set_Without, ?_⟩
  refine List.forall_mem_cons.2 ⟨of_order_All_f1, ?_⟩
  refine List.forall_mem_cons.2 ⟨of_order_from, ?_⟩
  refine List.forall_mem_cons.2 ⟨of_order_Valid, ?_⟩
  refine List.forall_mem_cons.2 ⟨of_slices_Clone_api_Task_api_Task, ?_⟩
  refine List.forall_mem_cons.2 ⟨of_ref14_Bound, ?_⟩
  refine List.forall_mem_cons.2 ⟨of_ref04_CheckAll, ?_⟩
  refine List.forall_mem_cons.2 ⟨of_task_CheckAll, ?_⟩
  refine List.forall_mem_cons.2 ⟨of_marks_Set_All, ?_⟩
  refine List.forall_mem_cons.2 ⟨of_opa_Fits, ?_⟩
  refine List.forall_mem_cons.2 ⟨of_marks_in, ?_⟩
  refine List.forall_mem_cons.2 ⟨of_slices_rotateRight_int, ?_⟩
  refine List.forall_mem_cons.2 ⟨of_slices_Clone_int_int, ?_⟩
  refine List.forall_mem_cons.2 ⟨of_ref13_Is, ?_⟩
  refine List.forall_mem_cons.2 ⟨of_ref13_Need, ?_⟩
  refine List.forall_mem_cons.2 ⟨of_ref04_Check, ?_⟩
  refine List.forall_mem_cons.2 ⟨of_task_Check, ?_⟩
  refine List.forall_mem_cons.2 ⟨of_marks_Set_All_f1, ?_⟩
  refine List.forall_mem_cons.2 ⟨of_marks_Set_First, ?_⟩
  refine List.forall_mem_cons.2 ⟨of_marks_Set_Next, ?_⟩
  refine List.forall_mem_cons.2 ⟨of_marks_Set_Has, ?_⟩
  refine List.forall_mem_cons.2 ⟨of_rta_Bound, ?_⟩
  refine List.forall_mem_cons.2 ⟨of_slices_rotateLeft_int, ?_⟩
  refine List.forall_mem_cons.2 ⟨of_ref01_Sum, ?_⟩
  refine List.forall_mem_cons.2 ⟨of_ref13_Block, ?_⟩
  refine List.forall_mem_cons.2 ⟨of_ref13_Higher, ?_⟩
  refine List.forall_mem_cons.2 ⟨of_ref03_Word, ?_⟩
  refine List.forall_mem_cons.2 ⟨of_ref04_in, ?_⟩
  refine List.forall_mem_cons.2 ⟨of_scan_Word, ?_⟩
  refine List.forall_mem_cons.2 ⟨of_task_Check_f1, ?_⟩
  refine List.forall_mem_cons.2 ⟨of_task_Check_f2, ?_⟩
  refine List.forall_mem_cons.2 ⟨of_task_Check_f3, ?_⟩
  refine List.forall_mem_cons.2 ⟨of_task_first, ?_⟩
  refine List.forall_mem_cons.2 ⟨of_num_Mul, ?_⟩
  refine List.forall_mem_cons.2 ⟨of_num_Add, ?_⟩
  refine List.forall_mem_cons.2 ⟨of_rta_is, ?_⟩
  refine List.forall_mem_cons.2 ⟨of_rta_Each, ?_⟩
  refine List.forall_mem_cons.2 ⟨of_slices_Reverse_int_int, ?_⟩
  refine List.forall_mem_cons.2 ⟨of_ref01_End, ?_⟩
  refine List.forall_mem_cons.2 ⟨of_ref01_Add, ?_⟩
  refine List.forall_mem_cons.2 ⟨of_ref01_Ceil, ?_⟩
  refine List.forall_mem_cons.2 ⟨of_ref01_Mul, ?_⟩
  refine List.forall_mem_cons.2 ⟨of_ref03_one, ?_⟩
  refine List.forall_mem_cons.2 ⟨of_scan_letter, ?_⟩
  refine List.forall_mem_cons.2 ⟨of_scan_long, ?_⟩
  refine List.forall_mem_cons.2 ⟨of_scan_goes, ?_⟩
  refine List.forall_mem_cons.2 ⟨of_math_bits_Mul64, ?_⟩
  refine List.forall_mem_cons.2 ⟨of_rta_Each_f1, ?_⟩
  refine List.forall_mem_cons.2 ⟨of_demand_Need, ?_⟩
  refine List.forall_mem_cons.2 ⟨of_ref03_letter, ?_⟩
  refine List.forall_mem_cons.2 ⟨of_ref03_digit, ?_⟩
  refine List.forall_mem_cons.2 ⟨of_scan_digit, ?_⟩
  refine List.forall_mem_cons.2 ⟨of_demand_is, ?_⟩
  refine List.forall_mem_cons.2 ⟨of_num_Sum, ?_⟩
  refine List.forall_mem_cons.2 ⟨of_demand_Block, ?_⟩
  refine List.forall_mem_cons.2 ⟨of_demand_Higher, ?_⟩
  refine List.forall_mem_cons.2 ⟨of_task_Lower, ?_⟩
  refine List.forall_mem_cons.2 ⟨of_task_Higher, ?_⟩
  refine List.forall_mem_cons.2 ⟨of_num_Times, ?_⟩
  refine List.forall_mem_cons.2 ⟨of_demand_often, ?_⟩
  refine List.forall_mem_cons.2 ⟨of_task_those, ?_⟩
  refine List.forall_mem_cons.2 ⟨of_task_Lower_f1, ?_⟩
  refine List.forall_mem_cons.2 ⟨of_task_Higher_f1, ?_⟩
  refine List.forall_mem_cons.2 ⟨of_num_Ceil, ?_⟩
  refine List.forall_mem_cons.2 ⟨of_marks_Set_With, ?_⟩
  intro p hp; cases hp
def find : List (Nat × Bool × FnC) → Nat → Def
  | [], _ => .none
  | p :: r, f => if f = p.1 then (if p.2.1 = true then .textK p.2.2 else .text p.2.2) else find r f
theorem find_mem : ∀ {l : List (Nat × Bool × FnC)} {f : Nat} {c : FnC}, find l f = .text c ∨ find l f = .textK c → ∃ k, (f, k, c) ∈ l
  | [], f, c, h => by rcases h with h | h <;> cases h
  | p :: r, f, c, h => by
    obtain ⟨pn, pk, pc⟩ := p
    unfold find at h
    by_cases e : f = pn
    · subst e
      cases pk with
      | true => simp at h; subst h; exact ⟨true, List.mem_cons_self⟩
      | false => simp at h; subst h; exact ⟨false, List.mem_cons_self⟩
    · simp only [e, if_false] at h
      obtain ⟨k, hk⟩ := find_mem h
      exact ⟨k, List.mem_cons_of_mem _ hk⟩
theorem find_ext : ∀ {l : List (Nat × Bool × FnC)} {f : Nat} {e}, find l f ≠ .ext e
  | [], f, e => by intro h; cases h
  | p :: r, f, e => by
    unfold find
    split
    · split <;> (intro h; cases h)
    · exact find_ext
theorem tab_mem {f : Nat} {c : FnC} (h : find tab f = .text c ∨ find tab f = .textK c) : FnC.of Tryd.prog f c := by
  obtain ⟨k, hk⟩ := find_mem h
  exact tab_of _ hk
def env : Env := fun f => if f = n_math_bits_Add64 then .ext addE else if f = n_math_bits_TrailingZeros64 then .ext (tzE 2) else if f = n_slices_Insert_int_int then .ext insE else find tab f
theorem add_run (x y c : Nat) (w : World) (hx : x < 18446744073709551616) (hy : y < 18446744073709551616) (hc : c ≤ 1) : (callFunc 159 #[.int .u64 x, .int .u64 y, .int .u64 c]).run Tryd.prog w = .ok (.value (.tuple #[.int .u64 (((x + y + c) % 18446744073709551616 : Nat) : Int), .int .u64 (((x + y + c) / 18446744073709551616 : Nat) : Int)])) w := by
  rw [run_callFunc_extern Tryd.func159 (by kernel_rfl) (by kernel_rfl) (by kernel_rfl) (e := add64Entry) (by kernel_rfl), run_add64 x y c (by omega) (by omega) (by omega) (by omega)]
  simp only [Result.andThen]
  congr 5 <;> omega
def renTz : Go.Shelf.Ren := ⟨fun x => if x = 29 then 125 else x, fun x => if x = 22 then 52 else if x = 3 then 3 else if x = 4 then 4 else if x = 25 then 122 else if x = 54 then 242 else if x = 0 then 0 else if x = 5 then 5 else x, fun x => if x = 1 then 2 else x⟩
theorem laysTz : Lays7.n29 Tryd.prog renTz := { mixed := by kernel_rfl, f29 := Tryd.func125.trans (by kernel_rfl), t0 := Tryd.underlying0, a0 := Tryd.isAgg0, z0 := Tryd.sizeOf0, v0 := Tryd.zeroValue0, i0 := by kernel_rfl, t3 := Tryd.underlying3, a3 := Tryd.isAgg3, z3 := Tryd.sizeOf3, v3 := Tryd.zeroValue3, i3 := by kernel_rfl, t4 := Tryd.underlying4, a4 := Tryd.isAgg4, z4 := Tryd.sizeOf4, v4 := Tryd.zeroValue4, i4 := by kernel_rfl, t5 := Tryd.underlying5, a5 := Tryd.isAgg5, z5 := Tryd.sizeOf5, v5 := Tryd.zeroValue5, i5 := by kernel_rfl, t22 := Tryd.underlying52, a22 := Tryd.isAgg52, z22 := Tryd.sizeOf52, v22 := Tryd.zeroValue52, i22 := by kernel_rfl, t25 := Tryd.underlying122, a25 := Tryd.isAgg122, z25 := Tryd.sizeOf122, v25 := Tryd.zeroValue122, i25 := by kernel_rfl, t54 := Tryd.underlying242, a54 := Tryd.isAgg242, z54 := Tryd.sizeOf242, g1 := by kernel_rfl }
def renIns : Go.Shelf.Ren := ⟨fun x => if x = 21 then 32 else if x = 27 then 58 else if x = 28 then 59 else if x = 35 then 87 else if x = 39 then 128 else x, fun x => if x = 22 then 32 else if x = 3 then 3 else if x = 4 then 4 else if x = 0 then 0 else x, fun x =>  x⟩
theorem laysIns : Lays2.n21 Tryd.prog renIns := { mixed := by kernel_rfl, f21 := Tryd.func32.trans (by kernel_rfl), f27 := Tryd.func58.trans (by kernel_rfl), f28 := Tryd.func59.trans (by kernel_rfl), f35 := Tryd.func87.trans (by kernel_rfl), f39 := Tryd.func128.trans (by kernel_rfl), t0 := Tryd.underlying0, a0 := Tryd.isAgg0, z0 := Tryd.sizeOf0, v0 := Tryd.zeroValue0, t3 := Tryd.underlying3, a3 := Tryd.isAgg3, z3 := Tryd.sizeOf3, v3 := Tryd.zeroValue3, t4 := Tryd.underlying4, a4 := Tryd.isAgg4, z4 := Tryd.sizeOf4, v4 := Tryd.zeroValue4, t22 := Tryd.underlying32, a22 := Tryd.isAgg32, z22 := Tryd.sizeOf32, v22 := Tryd.zeroValue32, i3 := by kernel_rfl }
theorem env_ext {f : Nat} {e} (h : env f = .ext e) : (f = n_math_bits_Add64 ∧ e = addE) ∨ (f = n_math_bits_TrailingZeros64 ∧ e = (tzE 2)) ∨ (f = n_slices_Insert_int_int ∧ e = insE) := by
  unfold env at h
  split at h
  · rename_i e1; cases h; exact .inl ⟨e1, rfl⟩
  split at h
  · rename_i e1; cases h; exact .inr (.inl ⟨e1, rfl⟩)
  split at h
  · rename_i e1; cases h; exact .inr (.inr (⟨e1, rfl⟩))
  exact absurd h find_ext
theorem env_text {f : Nat} {c} (h : env f = .text c) : find tab f = .text c := by
  unfold env at h
  split at h
  · cases h
  split at h
  · cases h
  split at h
  · cases h
  exact h
theorem env_textK {f : Nat} {c} (h : env f = .textK c) : find tab f = .textK c := by
  unfold env at h
  split at h
  · cases h
  split at h
  · cases h
  split at h
  · cases h
  exact h
theorem env_keep : KeepE env := by
  intro f e h args hh v h2 ws hv
  rcases env_ext h with ⟨rfl, rfl⟩ | ⟨rfl, rfl⟩ | ⟨rfl, rfl⟩
  · obtain ⟨rfl, rfl⟩ := addE_keep hv; exact Keeps.refl _ _ _
  · obtain ⟨rfl, rfl⟩ := tzE_keep hv; exact Keeps.refl _ _ _
  · exact insE_keep _ _ _ _ _ hv
theorem env_ok : EnvOK Tryd.prog env := by
  refine ⟨by kernel_rfl, env_keep, fun f c h => tab_mem (.inl (env_text h)), fun f c h => tab_mem (.inr (env_textK h)), fun f e h => ?_⟩
  rcases env_ext h with ⟨rfl, rfl⟩ | ⟨rfl, rfl⟩ | ⟨rfl, rfl⟩
  · exact .inr (addE_val fun x y c w hx hy hc => add_run x y c w hx hy hc)
  · exact .inl ⟨⟨_, Tryd.func125, by kernel_rfl, by kernel_rfl⟩, tzE_ok laysTz⟩
  · exact .inl ⟨⟨_, Tryd.func32, by kernel_rfl, by kernel_rfl⟩, insE_ok laysIns⟩
theorem laid : Laid env := ⟨env_keep, rfl, rfl, rfl, rfl, rfl, rfl, rfl, rfl, rfl, rfl, rfl, rfl, rfl, rfl, rfl, rfl, rfl, rfl, rfl, rfl, rfl, rfl, rfl, rfl, rfl, rfl, rfl, rfl, rfl, rfl, rfl, rfl, rfl, rfl, rfl, rfl, rfl, rfl, rfl, rfl, rfl, rfl, rfl, rfl, rfl, rfl, rfl, rfl, rfl, rfl, rfl, rfl, rfl, rfl, rfl, rfl, rfl, rfl, rfl, rfl, rfl, rfl, rfl, rfl, rfl, rfl, rfl, rfl, rfl, rfl, rfl, rfl, rfl, rfl, rfl, rfl, rfl⟩
theorem laidAdd : LaidAdd env := ⟨rfl⟩
theorem laidTz : LaidTz env 2 := ⟨rfl⟩
theorem laidIns : LaidIns env := ⟨rfl⟩
end Go.L.Try
