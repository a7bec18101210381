/- MADE BY PROGRAM (wip/gen/emit2.py): the instructions are those of the program. -/
import Derived.Test.YtifnlcajancfdaaGreatDoorCode
import Derived.Test.YtifnlcajancfdaaGreatDoorSh
import Derived.Test.YtifnlcajancfdaaGreatDoorX
import Derived.Test.YtifnlcajancfdaaGreatDoorChecked
import Derived.Laws.Externs
import Derived.KernelRfl
set_option maxRecDepth 100000
namespace Go.L.Try
open Go Go.L Go.Proofs Go.Shelf Go.RowKit
theorem of_law20_CertMakes : FnC.of Tryz.prog n_law20_CertMakes c_law20_CertMakes := ⟨false, by kernel_rfl⟩
theorem of_law20_awake : FnC.of Tryz.prog n_law20_awake c_law20_awake := ⟨false, by kernel_rfl⟩
theorem of_law20_makes : FnC.of Tryz.prog n_law20_makes c_law20_makes := ⟨false, by kernel_rfl⟩
theorem of_ref04_Set : FnC.of Tryz.prog n_ref04_Set c_ref04_Set := ⟨false, by kernel_rfl⟩
theorem of_cert_Print : FnC.of Tryz.prog n_cert_Print c_cert_Print := ⟨false, by kernel_rfl⟩
theorem of_cert_Make : FnC.of Tryz.prog n_cert_Make c_cert_Make := ⟨false, by kernel_rfl⟩
theorem of_ref20_Make : FnC.of Tryz.prog n_ref20_Make c_ref20_Make := ⟨false, by kernel_rfl⟩
theorem of_ref20_Same : FnC.of Tryz.prog n_ref20_Same c_ref20_Same := ⟨false, by kernel_rfl⟩
theorem of_ref14_Tests : FnC.of Tryz.prog n_ref14_Tests c_ref14_Tests := ⟨false, by kernel_rfl⟩
theorem of_ref04_rest : FnC.of Tryz.prog n_ref04_rest c_ref04_rest := ⟨false, by kernel_rfl⟩
theorem of_ref04_turns : FnC.of Tryz.prog n_ref04_turns c_ref04_turns := ⟨false, by kernel_rfl⟩
theorem of_text_Print : FnC.of Tryz.prog n_text_Print c_text_Print := ⟨false, by kernel_rfl⟩
theorem of_strings_Join : FnC.of Tryz.prog n_strings_Join c_strings_Join := ⟨false, by kernel_rfl⟩
theorem of_rta_Bound : FnC.of Tryz.prog n_rta_Bound c_rta_Bound := ⟨false, by kernel_rfl⟩
theorem of_ref03_Word : FnC.of Tryz.prog n_ref03_Word c_ref03_Word := ⟨false, by kernel_rfl⟩
theorem of_rta_All : FnC.of Tryz.prog n_rta_All c_rta_All := ⟨false, by kernel_rfl⟩
theorem of_task_Order : FnC.of Tryz.prog n_task_Order c_task_Order := ⟨false, by kernel_rfl⟩
theorem of_ref04_CheckAll : FnC.of Tryz.prog n_ref04_CheckAll c_ref04_CheckAll := ⟨false, by kernel_rfl⟩
theorem of_ref14_Bound : FnC.of Tryz.prog n_ref14_Bound c_ref14_Bound := ⟨false, by kernel_rfl⟩
theorem of_ref20_byUrgency : FnC.of Tryz.prog n_ref20_byUrgency c_ref20_byUrgency := ⟨false, by kernel_rfl⟩
theorem of_ref05_Same : FnC.of Tryz.prog n_ref05_Same c_ref05_Same := ⟨false, by kernel_rfl⟩
theorem of_text_Line : FnC.of Tryz.prog n_text_Line c_text_Line := ⟨false, by kernel_rfl⟩
theorem of_task_CheckAll : FnC.of Tryz.prog n_task_CheckAll c_task_CheckAll := ⟨false, by kernel_rfl⟩
theorem of_rta_is : FnC.of Tryz.prog n_rta_is c_rta_is := ⟨false, by kernel_rfl⟩
theorem of_rta_Each : FnC.of Tryz.prog n_rta_Each c_rta_Each := ⟨false, by kernel_rfl⟩
theorem of_scan_Word : FnC.of Tryz.prog n_scan_Word c_scan_Word := ⟨false, by kernel_rfl⟩
theorem of_ref03_one : FnC.of Tryz.prog n_ref03_one c_ref03_one := ⟨false, by kernel_rfl⟩
theorem of_marks_Set_All : FnC.of Tryz.prog n_marks_Set_All c_marks_Set_All := ⟨false, by kernel_rfl⟩
theorem of_marks_in : FnC.of Tryz.prog n_marks_in c_marks_in := ⟨false, by kernel_rfl⟩
theorem of_slices_SortStableFunc_int_int : FnC.of Tryz.prog n_slices_SortStableFunc_int_int c_slices_SortStableFunc_int_int := ⟨false, by kernel_rfl⟩
theorem of_task_Order_f1 : FnC.of Tryz.prog n_task_Order_f1 c_task_Order_f1 := ⟨false, by kernel_rfl⟩
theorem of_cmp_Compare_int : FnC.of Tryz.prog n_cmp_Compare_int c_cmp_Compare_int := ⟨false, by kernel_rfl⟩
theorem of_ref04_Check : FnC.of Tryz.prog n_ref04_Check c_ref04_Check := ⟨false, by kernel_rfl⟩
theorem of_ref13_Is : FnC.of Tryz.prog n_ref13_Is c_ref13_Is := ⟨false, by kernel_rfl⟩
theorem of_ref13_Need : FnC.of Tryz.prog n_ref13_Need c_ref13_Need := ⟨false, by kernel_rfl⟩
theorem of_ref04_Rank : FnC.of Tryz.prog n_ref04_Rank c_ref04_Rank := ⟨false, by kernel_rfl⟩
theorem of_text_Line_f1 : FnC.of Tryz.prog n_text_Line_f1 c_text_Line_f1 := ⟨false, by kernel_rfl⟩
theorem of_task_Check : FnC.of Tryz.prog n_task_Check c_task_Check := ⟨false, by kernel_rfl⟩
theorem of_rta_Each_f1 : FnC.of Tryz.prog n_rta_Each_f1 c_rta_Each_f1 := ⟨false, by kernel_rfl⟩
theorem of_demand_Need : FnC.of Tryz.prog n_demand_Need c_demand_Need := ⟨false, by kernel_rfl⟩
theorem of_scan_letter : FnC.of Tryz.prog n_scan_letter c_scan_letter := ⟨false, by kernel_rfl⟩
theorem of_scan_long : FnC.of Tryz.prog n_scan_long c_scan_long := ⟨false, by kernel_rfl⟩
theorem of_scan_goes : FnC.of Tryz.prog n_scan_goes c_scan_goes := ⟨false, by kernel_rfl⟩
theorem of_ref03_letter : FnC.of Tryz.prog n_ref03_letter c_ref03_letter := ⟨false, by kernel_rfl⟩
theorem of_ref03_digit : FnC.of Tryz.prog n_ref03_digit c_ref03_digit := ⟨false, by kernel_rfl⟩
theorem of_marks_Set_All_f1 : FnC.of Tryz.prog n_marks_Set_All_f1 c_marks_Set_All_f1 := ⟨false, by kernel_rfl⟩
theorem of_marks_Set_First : FnC.of Tryz.prog n_marks_Set_First c_marks_Set_First := ⟨false, by kernel_rfl⟩
theorem of_marks_Set_Next : FnC.of Tryz.prog n_marks_Set_Next c_marks_Set_Next := ⟨false, by kernel_rfl⟩
theorem of_task_Higher : FnC.of Tryz.prog n_task_Higher c_task_Higher := ⟨false, by kernel_rfl⟩
theorem of_slices_stableCmpFunc_int : FnC.of Tryz.prog n_slices_stableCmpFunc_int c_slices_stableCmpFunc_int := ⟨false, by kernel_rfl⟩
theorem of_cmp_isNaN_int : FnC.of Tryz.prog n_cmp_isNaN_int c_cmp_isNaN_int := ⟨false, by kernel_rfl⟩
theorem of_ref04_in : FnC.of Tryz.prog n_ref04_in c_ref04_in := ⟨false, by kernel_rfl⟩
theorem of_ref01_Sum : FnC.of Tryz.prog n_ref01_Sum c_ref01_Sum := ⟨false, by kernel_rfl⟩
theorem of_ref13_Block : FnC.of Tryz.prog n_ref13_Block c_ref13_Block := ⟨false, by kernel_rfl⟩
theorem of_ref13_Higher : FnC.of Tryz.prog n_ref13_Higher c_ref13_Higher := ⟨false, by kernel_rfl⟩
theorem of_task_Check_f1 : FnC.of Tryz.prog n_task_Check_f1 c_task_Check_f1 := ⟨false, by kernel_rfl⟩
theorem of_task_Check_f2 : FnC.of Tryz.prog n_task_Check_f2 c_task_Check_f2 := ⟨false, by kernel_rfl⟩
theorem of_task_Check_f3 : FnC.of Tryz.prog n_task_Check_f3 c_task_Check_f3 := ⟨false, by kernel_rfl⟩
theorem of_task_first : FnC.of Tryz.prog n_task_first c_task_first := ⟨false, by kernel_rfl⟩
theorem of_demand_is : FnC.of Tryz.prog n_demand_is c_demand_is := ⟨false, by kernel_rfl⟩
theorem of_num_Sum : FnC.of Tryz.prog n_num_Sum c_num_Sum := ⟨false, by kernel_rfl⟩
theorem of_demand_Block : FnC.of Tryz.prog n_demand_Block c_demand_Block := ⟨false, by kernel_rfl⟩
theorem of_demand_Higher : FnC.of Tryz.prog n_demand_Higher c_demand_Higher := ⟨false, by kernel_rfl⟩
theorem of_scan_digit : FnC.of Tryz.prog n_scan_digit c_scan_digit := ⟨false, by kernel_rfl⟩
theorem of_task_Lower : FnC.of Tryz.prog n_task_Lower c_task_Lower := ⟨false, by kernel_rfl⟩
theorem of_task_those : FnC.of Tryz.prog n_task_those c_task_those := ⟨false, by kernel_rfl⟩
theorem of_task_Higher_f1 : FnC.of Tryz.prog n_task_Higher_f1 c_task_Higher_f1 := ⟨false, by kernel_rfl⟩
theorem of_slices_insertionSortCmpFunc_int : FnC.of Tryz.prog n_slices_insertionSortCmpFunc_int c_slices_insertionSortCmpFunc_int := ⟨false, by kernel_rfl⟩
theorem of_slices_symMergeCmpFunc_int : FnC.of Tryz.prog n_slices_symMergeCmpFunc_int c_slices_symMergeCmpFunc_int := ⟨false, by kernel_rfl⟩
theorem of_ref01_End : FnC.of Tryz.prog n_ref01_End c_ref01_End := ⟨false, by kernel_rfl⟩
theorem of_ref01_Add : FnC.of Tryz.prog n_ref01_Add c_ref01_Add := ⟨false, by kernel_rfl⟩
theorem of_ref01_Ceil : FnC.of Tryz.prog n_ref01_Ceil c_ref01_Ceil := ⟨false, by kernel_rfl⟩
theorem of_ref01_Mul : FnC.of Tryz.prog n_ref01_Mul c_ref01_Mul := ⟨false, by kernel_rfl⟩
theorem of_num_Add : FnC.of Tryz.prog n_num_Add c_num_Add := ⟨false, by kernel_rfl⟩
theorem of_num_Times : FnC.of Tryz.prog n_num_Times c_num_Times := ⟨false, by kernel_rfl⟩
theorem of_demand_often : FnC.of Tryz.prog n_demand_often c_demand_often := ⟨false, by kernel_rfl⟩
theorem of_task_Lower_f1 : FnC.of Tryz.prog n_task_Lower_f1 c_task_Lower_f1 := ⟨false, by kernel_rfl⟩
theorem of_marks_Set_With : FnC.of Tryz.prog n_marks_Set_With c_marks_Set_With := ⟨false, by kernel_rfl⟩
theorem of_slices_rotateCmpFunc_int : FnC.of Tryz.prog n_slices_rotateCmpFunc_int c_slices_rotateCmpFunc_int := ⟨false, by kernel_rfl⟩
theorem of_num_Mul : FnC.of Tryz.prog n_num_Mul c_num_Mul := ⟨false, by kernel_rfl⟩
theorem of_num_Ceil : FnC.of Tryz.prog n_num_Ceil c_num_Ceil := ⟨false, by kernel_rfl⟩
theorem of_slices_swapRangeCmpFunc_int : FnC.of Tryz.prog n_slices_swapRangeCmpFunc_int c_slices_swapRangeCmpFunc_int := ⟨false, by kernel_rfl⟩
theorem of_math_bits_Mul64 : FnC.of Tryz.prog n_math_bits_Mul64 c_math_bits_Mul64 := ⟨false, by kernel_rfl⟩
def tab : List (Nat × Bool × FnC) := [(n_law20_CertMakes, false, c_law20_CertMakes), (n_law20_awake, false, c_law20_awake), (n_law20_makes, false, c_law20_makes), (n_ref04_Set, false, c_ref04_Set), (n_cert_Print, false, c_cert_Print), (n_cert_Make, false, c_cert_Make), (n_ref20_Make, false, c_ref20_Make), (n_ref20_Same, false, c_ref20_Same), (n_ref14_Tests, false, c_ref14_Tests), (n_ref04_rest, false, c_ref04_rest), (n_ref04_turns, false, c_ref04_turns), (n_text_Print, false, c_text_Print), (n_strings_Join, false, c_strings_Join), (n_rta_Bound, false, c_rta_Bound), (n_ref03_Word, false, c_ref03_Word), (n_rta_All, false, c_rta_All), (n_task_Order, false, c_task_Order), (n_ref04_CheckAll, false, c_ref04_CheckAll), (n_ref14_Bound, false, c_ref14_Bound), (n_ref20_byUrgency, false, c_ref20_byUrgency), (n_ref05_Same, false, c_ref05_Same), (n_text_Line, false, c_text_Line), (n_task_CheckAll, false, c_task_CheckAll), (n_rta_is, false, c_rta_is), (n_rta_Each, false, c_rta_Each), (n_scan_Word, false, c_scan_Word), (n_ref03_one, false, c_ref03_one), (n_marks_Set_All, false, c_marks_Set_All), (n_marks_in, false, c_marks_in), (n_slices_SortStableFunc_int_int, true, c_slices_SortStableFunc_int_int), (n_task_Order_f1, false, c_task_Order_f1), (n_cmp_Compare_int, false, c_cmp_Compare_int), (n_ref04_Check, false, c_ref04_Check), (n_ref13_Is, false, c_ref13_Is), (n_ref13_Need, false, c_ref13_Need), (n_ref04_Rank, false, c_ref04_Rank), (n_text_Line_f1, false, c_text_Line_f1), (n_task_Check, false, c_task_Check), (n_rta_Each_f1, false, c_rta_Each_f1), (n_demand_Need, false, c_demand_Need), (n_scan_letter, false, c_scan_letter), (n_scan_long, false, c_scan_long), (n_scan_goes, false, c_scan_goes), (n_ref03_letter, false, c_ref03_letter), (n_ref03_digit, false, c_ref03_digit), (n_marks_Set_All_f1, false, c_marks_Set_All_f1), (n_marks_Set_First, false, c_marks_Set_First), (n_marks_Set_Next, false, c_marks_Set_Next), (n_task_Higher, false, c_task_Higher), (n_slices_stableCmpFunc_int, true, c_slices_stableCmpFunc_int), (n_cmp_isNaN_int, false, c_cmp_isNaN_int), (n_ref04_in, false, c_ref04_in), (n_ref01_Sum, false, c_ref01_Sum), (n_ref13_Block, false, c_ref13_Block), (n_ref13_Higher, false, c_ref13_Higher), (n_task_Check_f1, false, c_task_Check_f1), (n_task_Check_f2, false, c_task_Check_f2), (n_task_Check_f3, false, c_task_Check_f3), (n_task_first, false, c_task_first), (n_demand_is, false, c_demand_is), (n_num_Sum, false, c_num_Sum), (n_demand_Block, false, c_demand_Block), (n_demand_Higher, false, c_demand_Higher), (n_scan_digit, false, c_scan_digit), (n_task_Lower, false, c_task_Lower), (n_task_those, false, c_task_those), (n_task_Higher_f1, false, c_task_Higher_f1), (n_slices_insertionSortCmpFunc_int, true, c_slices_insertionSortCmpFunc_int), (n_slices_symMergeCmpFunc_int, true, c_slices_symMergeCmpFunc_int), (n_ref01_End, false, c_ref01_End), (n_ref01_Add, false, c_ref01_Add), (n_ref01_Ceil, false, c_ref01_Ceil), (n_ref01_Mul, false, c_ref01_Mul), (n_num_Add, false, c_num_Add), (n_num_Times, false, c_num_Times), (n_demand_often, false, c_demand_often), (n_task_Lower_f1, false, c_task_Lower_f1), (n_marks_Set_With, false, c_marks_Set_With), (n_slices_rotateCmpFunc_int, true, c_slices_rotateCmpFunc_int), (n_num_Mul, false, c_num_Mul), (n_num_Ceil, false, c_num_Ceil), (n_slices_swapRangeCmpFunc_int, true, c_slices_swapRangeCmpFunc_int), (n_math_bits_Mul64, false, c_math_bits_Mul64)]
theorem tab_of : ∀ p ∈ tab, FnC.of Tryz.prog p.1 p.2.2 := by
  unfold tab
  refine List.forall_mem_cons.2 ⟨of_law20_CertMakes, ?_⟩
  refine List.forall_mem_cons.2 ⟨of_law20_awake, ?_⟩
  refine List.forall_mem_cons.2 ⟨of_law20_makes, ?_⟩
  refine List.forall_mem_cons.2 ⟨of_ref04_Set, ?_⟩
  refine List.forall_mem_cons.2 ⟨of_cert_Print, ?_⟩
  refine List.forall_mem_cons.2 ⟨of_cert_Make, ?_⟩
  refine List.forall_mem_cons.2 ⟨of_ref20_Make, ?_⟩
  refine List.forall_mem_cons.2 ⟨of_ref20_Same, ?_⟩
  refine List.forall_mem_cons.2 ⟨of_ref14_Tests, ?_⟩
  refine List.forall_mem_cons.2 ⟨of_ref04_rest, ?_⟩
  refine List.forall_mem_cons.2 ⟨of_ref04_turns, ?_⟩
  refine List.forall_mem_cons.2 ⟨of_text_Print, ?_⟩
  refine List.forall_mem_cons.2 ⟨of_strings_Join, ?_⟩
  refine List.forall_mem_cons.2 ⟨of_rta_Bound, ?_⟩
  refine List.forall_mem_cons.2 ⟨of_ref03_Word, ?_⟩
  refine List.forall_mem_cons.2 ⟨of_rta_All, ?_⟩
  refine List.forall_mem_cons.2 ⟨of_task_Order, ?_⟩
  refine List.forall_mem_cons.2 ⟨of_ref04_CheckAll, ?_⟩
  refine List.forall_mem_cons.2 ⟨of_ref14_Bound, ?_⟩
  refine List.forall_mem_cons.2 ⟨of_ref20_byUrgency, ?_⟩
  refine List.forall_mem_cons.2 ⟨of_ref05_Same, ?_⟩
  refine List.forall_mem_cons.2 ⟨of_text_Line, ?_⟩
  refine List.forall_mem_cons.2 ⟨of_task_CheckAll, ?_⟩
  refine List.forall_mem_cons.2 ⟨of_rta_is, ?_⟩
  refine List.forall_mem_cons.2 ⟨of_rta_Each, ?_⟩
  refine List.forall_mem_cons.2 ⟨of_scan_Word, ?_⟩
  refine List.forall_mem_cons.2 ⟨of_ref03_one, ?_⟩
  refine List.forall_mem_cons.2 ⟨of_marks_Set_All, ?_⟩
  refine List.forall_mem_cons.2 ⟨of_marks_in, ?_⟩
  refine List.forall_mem_cons.2 ⟨of_slices_SortStableFunc_int_int, ?_⟩
  refine List.forall_mem_cons.2 ⟨of_task_Order_f1, ?_⟩
  refine List.forall_mem_cons.2 ⟨of_cmp_Compare_int, ?_⟩
  refine List.forall_mem_cons.2 ⟨of_ref04_Check, ?_⟩
  refine List.forall_mem_cons.2 ⟨of_ref13_Is, ?_⟩
  refine List.forall_mem_cons.2 ⟨of_ref13_Need, ?_⟩
  refine List.forall_mem_cons.2 ⟨of_ref04_Rank, ?_⟩
  refine List.forall_mem_cons.2 ⟨of_text_Line_f1, ?_⟩
  refine List.forall_mem_cons.2 ⟨of_task_Check, ?_⟩
  refine List.forall_mem_cons.2 ⟨of_rta_Each_f1, ?_⟩
  refine List.forall_mem_cons.2 ⟨of_demand_Need, ?_⟩
  refine List.forall_mem_cons.2 ⟨of_scan_letter, ?_⟩
  refine List.forall_mem_cons.2 ⟨of_scan_long, ?_⟩
  refine List.forall_mem_cons.2 ⟨of_scan_goes, ?_⟩
  refine List.forall_mem_cons.2 ⟨of_ref03_letter, ?_⟩
  refine List.forall_mem_cons.2 ⟨of_ref03_digit, ?_⟩
  refine List.forall_mem_cons.2 ⟨of_marks_Set_All_f1, ?_⟩
  refine List.forall_mem_cons.2 ⟨of_marks_Set_First, ?_⟩
  refine List.forall_mem_cons.2 ⟨of_marks_Set_Next, ?_⟩
  refine List.forall_mem_cons.2 ⟨of_task_Higher, ?_⟩
  refine List.forall_mem_cons.2 ⟨of_slices_stableCmpFunc_int, ?_⟩
  refine List.forall_mem_cons.2 ⟨of_cmp_isNaN_int, ?_⟩
  refine List.forall_mem_cons.2 ⟨of_ref04_in, ?_⟩
  refine List.forall_mem_cons.2 ⟨of_ref01_Sum, ?_⟩
  refine List.forall_mem_cons.2 ⟨of_ref13_Block, ?_⟩
  refine List.forall_mem_cons.2 ⟨of_ref13_Higher, ?_⟩
  refine List.forall_mem_cons.2 ⟨of_task_Check_f1, ?_⟩
  refine List.forall_mem_cons.2 ⟨of_task_Check_f2, ?_⟩
  refine List.forall_mem_cons.2 ⟨of_task_Check_f3, ?_⟩
  refine List.forall_mem_cons.2 ⟨of_task_first, ?_⟩
  refine List.forall_mem_cons.2 ⟨of_demand_is, ?_⟩
  refine List.forall_mem_cons.2 ⟨of_num_Sum, ?_⟩
  refine List.forall_mem_cons.2 ⟨of_demand_Block, ?_⟩
  refine List.forall_mem_cons.2 ⟨of_demand_Higher, ?_⟩
  refine List.forall_mem_cons.2 ⟨of_scan_digit, ?_⟩
  refine List.forall_mem_cons.2 ⟨of_task_Lower, ?_⟩
  refine List.forall_mem_cons.2 ⟨of_task_those, ?_⟩
  refine List.forall_mem_cons.2 ⟨of_task_Higher_f1, ?_⟩
  refine List.forall_mem_cons.2 ⟨of_slices_insertionSortCmpFunc_int, ?_⟩
  refine List.forall_mem_cons.2 ⟨of_slices_symMergeCmpFunc_int, ?_⟩
  refine List.forall_mem_cons.2 ⟨of_ref01_End, ?_⟩
  refine List.forall_mem_cons.2 ⟨of_ref01_Add, ?_⟩
  refine List.forall_mem_cons.2 ⟨of_ref01_Ceil, ?_⟩
  refine List.forall_mem_cons.2 ⟨of_ref01_Mul, ?_⟩
  refine List.forall_mem_cons.2 ⟨of_num_Add, ?_⟩
  refine List.forall_mem_cons.2 ⟨of_num_Times, ?_⟩
  refine List.forall_mem_cons.2 ⟨of_demand_often, ?_⟩
  refine List.forall_mem_cons.2 ⟨of_task_Lower_f1, ?_⟩
  refine List.forall_mem_cons.2 ⟨of_marks_Set_With, ?_⟩
  refine List.forall_mem_cons.2 ⟨of_slices_rotateCmpFunc_int, ?_⟩
  refine List.forall_mem_cons.2 ⟨of_num_Mul, ?_⟩
  refine List.forall_mem_cons.2 ⟨of_num_Ceil, ?_⟩
  refine List.forall_mem_cons.2 ⟨of_slices_swapRangeCmpFunc_int, ?_⟩
  refine List.forall_mem_cons.2 ⟨of_math_bits_Mul64, ?_⟩
  intro p hp; cases hp
def find : List (Nat × Bool × FnC) → Nat → Def
  | [], _ => .none
  | p :: r, f => if f = p.1 then (if p.2.1 = true then .textK p.2.2 else .text p.2.2) else find r f
theorem find_mem : ∀ {l : List (Nat × Bool × FnC)} {f : Nat} {c : FnC}, find l f = .text c ∨ find l f = .textK c → ∃ k, (f, k, c) ∈ l
  | [], f, c, h => by rcases h with h | h <;> cases h
  | p :: r, f, c, h => by
    obtain ⟨pn, pk, pc⟩ := p
    unfold find at h
    by_cases e : f = pn
    · subst e
      cases pk with
      | true => simp at h; subst h; exact ⟨true, List.mem_cons_self⟩
      | false => simp at h; subst h; exact ⟨false, List.mem_cons_self⟩
    · simp only [e, if_false] at h
      obtain ⟨k, hk⟩ := find_mem h
      exact ⟨k, List.mem_cons_of_mem _ hk⟩
theorem find_ext : ∀ {l : List (Nat × Bool × FnC)} {f : Nat} {e}, find l f ≠ .ext e
  | [], f, e => by intro h; cases h
  | p :: r, f, e => by
    unfold find
    split
    · split <;> (intro h; cases h)
    · exact find_ext
theorem tab_mem {f : Nat} {c : FnC} (h : find tab f = .text c ∨ find tab f = .textK c) : FnC.of Tryz.prog f c := by
  obtain ⟨k, hk⟩ := find_mem h
  exact tab_of _ hk
def envA : Env := fun f => if f = n_math_bits_Add64 then .ext addE else if f = n_math_bits_TrailingZeros64 then .ext (tzE 4) else if f = n_strings_Builder_WriteString then .ext wsE else if f = n_strings_Builder_String then .ext strE else if f = n_strings_Builder_Grow then .ext growE else if f = n_strconv_FormatInt then .ext fmtE else find tab f
theorem add_run (x y c : Nat) (w : World) (hx : x < 18446744073709551616) (hy : y < 18446744073709551616) (hc : c ≤ 1) : (callFunc 225 #[.int .u64 x, .int .u64 y, .int .u64 c]).run Tryz.prog w = .ok (.value (.tuple #[.int .u64 (((x + y + c) % 18446744073709551616 : Nat) : Int), .int .u64 (((x + y + c) / 18446744073709551616 : Nat) : Int)])) w := by
  rw [run_callFunc_extern Tryz.func225 (by kernel_rfl) (by kernel_rfl) (by kernel_rfl) (e := add64Entry) (by kernel_rfl), run_add64 x y c (by omega) (by omega) (by omega) (by omega)]
  simp only [Result.andThen]
  congr 5 <;> omega
def renTz : Go.Shelf.Ren := ⟨fun x => if x = 29 then 178 else x, fun x => if x = 22 then 107 else if x = 3 then 3 else if x = 4 then 4 else if x = 25 then 159 else if x = 54 then 281 else if x = 0 then 0 else if x = 5 then 5 else x, fun x => if x = 1 then 4 else x⟩
theorem laysTz : Lays7.n29 Tryz.prog renTz := { mixed := by kernel_rfl, f29 := Tryz.func178.trans (by kernel_rfl), t0 := Tryz.underlying0, a0 := Tryz.isAgg0, z0 := Tryz.sizeOf0, v0 := Tryz.zeroValue0, i0 := by kernel_rfl, t3 := Tryz.underlying3, a3 := Tryz.isAgg3, z3 := Tryz.sizeOf3, v3 := Tryz.zeroValue3, i3 := by kernel_rfl, t4 := Tryz.underlying4, a4 := Tryz.isAgg4, z4 := Tryz.sizeOf4, v4 := Tryz.zeroValue4, i4 := by kernel_rfl, t5 := Tryz.underlying5, a5 := Tryz.isAgg5, z5 := Tryz.sizeOf5, v5 := Tryz.zeroValue5, i5 := by kernel_rfl, t22 := Tryz.underlying107, a22 := Tryz.isAgg107, z22 := Tryz.sizeOf107, v22 := Tryz.zeroValue107, i22 := by kernel_rfl, t25 := Tryz.underlying159, a25 := Tryz.isAgg159, z25 := Tryz.sizeOf159, v25 := Tryz.zeroValue159, i25 := by kernel_rfl, t54 := Tryz.underlying281, a54 := Tryz.isAgg281, z54 := Tryz.sizeOf281, g1 := by kernel_rfl }
def renWs : Go.Shelf.Ren := ⟨fun x => if x = 166 then 40 else if x = 240 then 75 else x, fun x => if x = 70 then 79 else if x = 72 then 81 else if x = 37 then 76 else if x = 164 then 184 else if x = 75 then 83 else x, fun x => x⟩
theorem cc_seat {b : Nat} {p v : Value} {w : World} (hbk : w.heap[b]? = some (.cells #[p, v] 81 (0, 0))) (hp : p = .pointer none ∨ p = .pointer (some ⟨b, 0, none⟩)) :
    Calls Tryz.prog 75 #[.pointer (some ⟨b, 0, none⟩)] w fun e w1 => e = .returned (.tuple #[]) ∧ w1.heap[b]? = some (.cells #[.pointer (some ⟨b, 0, none⟩), v] 81 (0, 0)) ∧ w.grownBy w1 (some b) ∧ w1.heap.size = w.heap.size := by
  obtain ⟨j, hj, hjs⟩ := Option.map_eq_some_iff.1 (show (Tryz.prog.info? 81).map (·.size) = some 2 by kernel_rfl)
  have hlies : liesAt Tryz.prog Tryz.prog.depth 81 (2 / Tryz.prog.cellsOf 81) 0 81 1 = true := by kernel_rfl
  have mixed : Tryz.prog.follows .mixedOrders = true := by kernel_rfl
  have t72 := Tryz.underlying81; have a72 := Tryz.isAgg81; have z72 := Tryz.sizeOf81; have u72 := run_underlying Tryz.underlying81
  have t70 := Tryz.underlying79; have a70 := Tryz.isAgg79; have z70 := Tryz.sizeOf79; have v70 := Tryz.zeroValue79; have u70 := run_underlying Tryz.underlying79
  have t4 := Tryz.underlying4; have a4 := Tryz.isAgg4; have z4 := Tryz.sizeOf4; have v4 := Tryz.zeroValue4; have u4 := run_underlying Tryz.underlying4
  have t164 := Tryz.underlying184; have a164 := Tryz.isAgg184; have z164 := Tryz.sizeOf184; have u164 := run_underlying Tryz.underlying184
  rcases hp with rfl | rfl
  · have h0 : w.cell? ⟨b, 0, none⟩ = some (.pointer none) := by simp [World.cell?, hbk]
    have hsh : w.shape? b = some (81, 2) := by simp [World.shape?, hbk]
    have hfz : w.frozen? ⟨b, 0, none⟩ = false := by simp [World.frozen?, hbk]
    have hs : (w.setCell ⟨b, 0, none⟩ (.pointer (some ⟨b, 0, none⟩))).heap.size = w.heap.size := by simp [World.setCell]
    go_enter Tryz.func75, Tryz.ntmps75
    go_wp2
    rw [Lib.run_to_unsafe w ⟨b, 0, none⟩ Tryz.underlying79 Tryz.underlying184 hj (by rw [hjs]; decide) hsh (Nat.zero_lt_succ 1)]
    simp only [Result.andThen]
    rw [Oper.upon_value]
    go_wp2
    rw [run_callFunc_extern Tryz.func109 (by kernel_rfl) (by kernel_rfl) (by kernel_rfl) (e := Extern.AbiNoEscape.same) (by kernel_rfl)]
    rw [Lib.run_noEscape]
    simp only [Result.andThen]
    rw [Oper.upon_value]
    go_wp2
    rw [Lib.run_from_unsafe w ⟨b, 0, none⟩ Tryz.underlying184 Tryz.underlying79 hj hsh hlies]
    simp only [Result.andThen]
    rw [Oper.upon_value]
    go_wp2
    go_end0
    refine ⟨rfl, ?_, ⟨rfl, rfl, rfl, by rw [hs]; exact Nat.le_refl _, fun k hk hne => Below.heap_setCell _ _ _ k fun e => hne (by rw [e])⟩, hs⟩
    rw [heap_setCell_same w b 0 _ _ _ hbk]; rfl
  · have h0 : w.cell? ⟨b, 0, none⟩ = some (.pointer (some ⟨b, 0, none⟩)) := by simp [World.cell?, hbk]
    go_enter Tryz.func75, Tryz.ntmps75
    go_wp2
    rw [Lib.run_neq_ptr_same w _ Tryz.underlying79 hj]
    go_wp2
    go_end0
    exact ⟨rfl, hbk, ⟨rfl, rfl, rfl, Nat.le_refl _, fun _ _ _ => rfl⟩, rfl⟩
theorem laysWs : WsL Tryz.prog renWs := { mixed := by kernel_rfl, f166 := Tryz.func40.trans (by kernel_rfl), e240 := fun args w => enters Tryz.func75 (by kernel_rfl) (by kernel_rfl) args w, cc := fun h1 h2 => cc_seat h1 h2, t3 := Tryz.underlying3, a3 := Tryz.isAgg3, z3 := Tryz.sizeOf3, v3 := Tryz.zeroValue3, t4 := Tryz.underlying4, a4 := Tryz.isAgg4, z4 := Tryz.sizeOf4, v4 := Tryz.zeroValue4, t9 := Tryz.underlying9, a9 := Tryz.isAgg9, z9 := Tryz.sizeOf9, v9 := Tryz.zeroValue9, t37 := Tryz.underlying76, a37 := Tryz.isAgg76, z37 := Tryz.sizeOf76, v37 := Tryz.zeroValue76, t70 := Tryz.underlying79, a70 := Tryz.isAgg79, z70 := Tryz.sizeOf79, v70 := Tryz.zeroValue79, t72 := Tryz.underlying81, a72 := Tryz.isAgg81, z72 := Tryz.sizeOf81, v72 := Tryz.zeroValue81, t164 := Tryz.underlying184, a164 := Tryz.isAgg184, z164 := Tryz.sizeOf184, v164 := Tryz.zeroValue184 }
theorem xlaysWs : Builder.Extra Tryz.prog renWs := { sizeBuilder := by kernel_rfl, liesBuilder := by kernel_rfl, t5 := by kernel_rfl, a5 := fun w => by kernel_rfl, z5 := fun w => by kernel_rfl, v5 := fun w => by kernel_rfl, infoByte := by kernel_rfl, cellsByte := by kernel_rfl, sizeByte := by kernel_rfl, neB5 := by decide }
def renStr : Go.Shelf.Ren := ⟨fun x => if x = 169 then 44 else x, fun x => if x = 70 then 79 else if x = 9 then 9 else if x = 0 then 0 else if x = 72 then 81 else if x = 37 then 76 else if x = 127 then 140 else if x = 3 then 3 else if x = 5 then 5 else x, fun x =>  x⟩
theorem laysStr : Lays.n169 Tryz.prog renStr := { mixed := by kernel_rfl, f169 := Tryz.func44.trans (by kernel_rfl), t0 := Tryz.underlying0, a0 := Tryz.isAgg0, z0 := Tryz.sizeOf0, v0 := Tryz.zeroValue0, t3 := Tryz.underlying3, a3 := Tryz.isAgg3, z3 := Tryz.sizeOf3, v3 := Tryz.zeroValue3, t9 := Tryz.underlying9, a9 := Tryz.isAgg9, z9 := Tryz.sizeOf9, v9 := Tryz.zeroValue9, t37 := Tryz.underlying76, a37 := Tryz.isAgg76, z37 := Tryz.sizeOf76, v37 := Tryz.zeroValue76, t70 := Tryz.underlying79, a70 := Tryz.isAgg79, z70 := Tryz.sizeOf79, v70 := Tryz.zeroValue79, t72 := Tryz.underlying81, a72 := Tryz.isAgg81, z72 := Tryz.sizeOf81, v72 := Tryz.zeroValue81, t127 := Tryz.underlying140, a127 := Tryz.isAgg140, z127 := Tryz.sizeOf140, v127 := Tryz.zeroValue140 }
theorem xlaysStr : Builder.Extra Tryz.prog renStr := { sizeBuilder := by kernel_rfl, liesBuilder := by kernel_rfl, t5 := by kernel_rfl, a5 := fun w => by kernel_rfl, z5 := fun w => by kernel_rfl, v5 := fun w => by kernel_rfl, infoByte := by kernel_rfl, cellsByte := by kernel_rfl, sizeByte := by kernel_rfl, neB5 := by decide }
def renGr : Go.Shelf.Ren := ⟨fun x => if x = 165 then 77 else if x = 241 then 111 else if x = 277 then 152 else if x = 166 then 40 else if x = 240 then 75 else x, fun x => if x = 70 then 79 else if x = 72 then 81 else if x = 37 then 76 else if x = 164 then 184 else if x = 75 then 83 else x, fun x => x⟩
theorem laysGr : GrL Tryz.prog renGr := { mixed := by kernel_rfl, f166 := Tryz.func40.trans (by kernel_rfl), e240 := fun args w => enters Tryz.func75 (by kernel_rfl) (by kernel_rfl) args w, cc := fun h1 h2 => cc_seat h1 h2, t3 := Tryz.underlying3, a3 := Tryz.isAgg3, z3 := Tryz.sizeOf3, v3 := Tryz.zeroValue3, t4 := Tryz.underlying4, a4 := Tryz.isAgg4, z4 := Tryz.sizeOf4, v4 := Tryz.zeroValue4, t9 := Tryz.underlying9, a9 := Tryz.isAgg9, z9 := Tryz.sizeOf9, v9 := Tryz.zeroValue9, t37 := Tryz.underlying76, a37 := Tryz.isAgg76, z37 := Tryz.sizeOf76, v37 := Tryz.zeroValue76, t70 := Tryz.underlying79, a70 := Tryz.isAgg79, z70 := Tryz.sizeOf79, v70 := Tryz.zeroValue79, t72 := Tryz.underlying81, a72 := Tryz.isAgg81, z72 := Tryz.sizeOf81, v72 := Tryz.zeroValue81, t164 := Tryz.underlying184, a164 := Tryz.isAgg184, z164 := Tryz.sizeOf184, v164 := Tryz.zeroValue184, f165 := Tryz.func77.trans (by kernel_rfl), l241 := { mixed := by kernel_rfl, f241 := Tryz.func111.trans (by kernel_rfl), f277 := Tryz.func152.trans (by kernel_rfl), t0 := Tryz.underlying0, a0 := Tryz.isAgg0, z0 := Tryz.sizeOf0, v0 := Tryz.zeroValue0, t3 := Tryz.underlying3, a3 := Tryz.isAgg3, z3 := Tryz.sizeOf3, v3 := Tryz.zeroValue3, t37 := Tryz.underlying76, a37 := Tryz.isAgg76, z37 := Tryz.sizeOf76, v37 := Tryz.zeroValue76, t70 := Tryz.underlying79, a70 := Tryz.isAgg79, z70 := Tryz.sizeOf79, v70 := Tryz.zeroValue79, t72 := Tryz.underlying81, a72 := Tryz.isAgg81, z72 := Tryz.sizeOf81, v72 := Tryz.zeroValue81 } }
theorem xlaysGr : Builder.Extra Tryz.prog renGr := { sizeBuilder := by kernel_rfl, liesBuilder := by kernel_rfl, t5 := by kernel_rfl, a5 := fun w => by kernel_rfl, z5 := fun w => by kernel_rfl, v5 := fun w => by kernel_rfl, infoByte := by kernel_rfl, cellsByte := by kernel_rfl, sizeByte := by kernel_rfl, neB5 := by decide }
def renFmt : Go.Shelf.Ren := ⟨fun x => if x = 173 then 43 else if x = 246 then 78 else if x = 283 then 112 else if x = 284 then 113 else if x = 285 then 114 else if x = 286 then 115 else if x = 129 then 154 else if x = 317 then 153 else if x = 318 then 155 else if x = 319 then 156 else if x = 320 then 157 else if x = 337 then 198 else if x = 338 then 178 else x, fun x => if x = 2 then 2 else if x = 3 then 3 else if x = 9 then 9 else if x = 4 then 4 else if x = 171 then 188 else if x = 0 then 0 else if x = 53 then 107 else if x = 37 then 76 else if x = 5 then 5 else if x = 173 then 191 else if x = 212 then 228 else if x = 51 then 229 else if x = 20 then 20 else if x = 213 then 230 else if x = 46 then 159 else if x = 232 then 292 else if x = 233 then 281 else x, fun x => if x = 17 then 0 else if x = 18 then 5 else if x = 19 then 4 else x⟩
theorem laysFmt : Lays.n173 Tryz.prog renFmt := { mixed := by kernel_rfl, f129 := Tryz.func154.trans (by kernel_rfl), f173 := Tryz.func43.trans (by kernel_rfl), f246 := Tryz.func78.trans (by kernel_rfl), f283 := Tryz.func112.trans (by kernel_rfl), f284 := Tryz.func113.trans (by kernel_rfl), f285 := Tryz.func114.trans (by kernel_rfl), f286 := Tryz.func115.trans (by kernel_rfl), f317 := Tryz.func153.trans (by kernel_rfl), f318 := Tryz.func155.trans (by kernel_rfl), f319 := Tryz.func156.trans (by kernel_rfl), f320 := Tryz.func157.trans (by kernel_rfl), f337 := Tryz.func198.trans (by kernel_rfl), f338 := Tryz.func178.trans (by kernel_rfl), t0 := Tryz.underlying0, a0 := Tryz.isAgg0, z0 := Tryz.sizeOf0, v0 := Tryz.zeroValue0, t2 := Tryz.underlying2, a2 := Tryz.isAgg2, z2 := Tryz.sizeOf2, v2 := Tryz.zeroValue2, t3 := Tryz.underlying3, a3 := Tryz.isAgg3, z3 := Tryz.sizeOf3, v3 := Tryz.zeroValue3, t4 := Tryz.underlying4, a4 := Tryz.isAgg4, z4 := Tryz.sizeOf4, v4 := Tryz.zeroValue4, t5 := Tryz.underlying5, a5 := Tryz.isAgg5, z5 := Tryz.sizeOf5, v5 := Tryz.zeroValue5, t9 := Tryz.underlying9, a9 := Tryz.isAgg9, z9 := Tryz.sizeOf9, v9 := Tryz.zeroValue9, t20 := Tryz.underlying20, a20 := Tryz.isAgg20, z20 := Tryz.sizeOf20, v20 := Tryz.zeroValue20, t37 := Tryz.underlying76, a37 := Tryz.isAgg76, z37 := Tryz.sizeOf76, v37 := Tryz.zeroValue76, t46 := Tryz.underlying159, a46 := Tryz.isAgg159, z46 := Tryz.sizeOf159, v46 := Tryz.zeroValue159, t51 := Tryz.underlying229, a51 := Tryz.isAgg229, z51 := Tryz.sizeOf229, v51 := Tryz.zeroValue229, t53 := Tryz.underlying107, a53 := Tryz.isAgg107, z53 := Tryz.sizeOf107, v53 := Tryz.zeroValue107, t171 := Tryz.underlying188, a171 := Tryz.isAgg188, z171 := Tryz.sizeOf188, v171 := Tryz.zeroValue188, t173 := Tryz.underlying191, a173 := Tryz.isAgg191, z173 := Tryz.sizeOf191, v173 := Tryz.zeroValue191, t212 := Tryz.underlying228, a212 := Tryz.isAgg228, z212 := Tryz.sizeOf228, v212 := Tryz.zeroValue228, t213 := Tryz.underlying230, a213 := Tryz.isAgg230, z213 := Tryz.sizeOf230, t232 := Tryz.underlying292, a232 := Tryz.isAgg292, z232 := Tryz.sizeOf292, v232 := Tryz.zeroValue292, t233 := Tryz.underlying281, a233 := Tryz.isAgg281, z233 := Tryz.sizeOf281, v233 := Tryz.zeroValue281, g17 := by kernel_rfl, g18 := by kernel_rfl, g19 := by kernel_rfl }
theorem envA_ext {f : Nat} {e} (h : envA f = .ext e) : (f = n_math_bits_Add64 ∧ e = addE) ∨ (f = n_math_bits_TrailingZeros64 ∧ e = (tzE 4)) ∨ (f = n_strings_Builder_WriteString ∧ e = wsE) ∨ (f = n_strings_Builder_String ∧ e = strE) ∨ (f = n_strings_Builder_Grow ∧ e = growE) ∨ (f = n_strconv_FormatInt ∧ e = fmtE) := by
  unfold envA at h
  split at h
  · rename_i e1; cases h; exact .inl ⟨e1, rfl⟩
  split at h
  · rename_i e1; cases h; exact .inr (.inl ⟨e1, rfl⟩)
  split at h
  · rename_i e1; cases h; exact .inr (.inr (.inl ⟨e1, rfl⟩))
  split at h
  · rename_i e1; cases h; exact .inr (.inr (.inr (.inl ⟨e1, rfl⟩)))
  split at h
  · rename_i e1; cases h; exact .inr (.inr (.inr (.inr (.inl ⟨e1, rfl⟩))))
  split at h
  · rename_i e1; cases h; exact .inr (.inr (.inr (.inr (.inr (⟨e1, rfl⟩)))))
  exact absurd h find_ext
theorem envA_text {f : Nat} {c} (h : envA f = .text c) : find tab f = .text c := by
  unfold envA at h
  split at h
  · cases h
  split at h
  · cases h
  split at h
  · cases h
  split at h
  · cases h
  split at h
  · cases h
  split at h
  · cases h
  exact h
theorem envA_textK {f : Nat} {c} (h : envA f = .textK c) : find tab f = .textK c := by
  unfold envA at h
  split at h
  · cases h
  split at h
  · cases h
  split at h
  · cases h
  split at h
  · cases h
  split at h
  · cases h
  split at h
  · cases h
  exact h
theorem envA_keep : KeepE envA := by
  intro f e h args hh v h2 ws hv
  rcases envA_ext h with ⟨rfl, rfl⟩ | ⟨rfl, rfl⟩ | ⟨rfl, rfl⟩ | ⟨rfl, rfl⟩ | ⟨rfl, rfl⟩ | ⟨rfl, rfl⟩
  · obtain ⟨rfl, rfl⟩ := addE_keep hv; exact Keeps.refl _ _ _
  · obtain ⟨rfl, rfl⟩ := tzE_keep hv; exact Keeps.refl _ _ _
  · exact wsE_keep hv
  · exact strE_keep hv
  · exact growE_keep hv
  · obtain ⟨rfl, rfl⟩ := fmtE_keep hv; exact Keeps.refl _ _ _
theorem envA_ok : EnvOK Tryz.prog envA := by
  refine ⟨by kernel_rfl, envA_keep, fun f c h => tab_mem (.inl (envA_text h)), fun f c h => tab_mem (.inr (envA_textK h)), fun f e h => ?_⟩
  rcases envA_ext h with ⟨rfl, rfl⟩ | ⟨rfl, rfl⟩ | ⟨rfl, rfl⟩ | ⟨rfl, rfl⟩ | ⟨rfl, rfl⟩ | ⟨rfl, rfl⟩
  · exact .inr (addE_val fun x y c w hx hy hc => add_run x y c w hx hy hc)
  · exact .inl ⟨⟨_, Tryz.func178, by kernel_rfl, by kernel_rfl⟩, tzE_ok laysTz⟩
  · exact .inl ⟨⟨_, Tryz.func40, by kernel_rfl, by kernel_rfl⟩, wsE_ok laysWs xlaysWs (by kernel_rfl) (by kernel_rfl)⟩
  · exact .inl ⟨⟨_, Tryz.func44, by kernel_rfl, by kernel_rfl⟩, strE_ok laysStr xlaysStr (by kernel_rfl) (by kernel_rfl)⟩
  · exact .inl ⟨⟨_, Tryz.func77, by kernel_rfl, by kernel_rfl⟩, growE_ok laysGr xlaysGr (by kernel_rfl) (by kernel_rfl)⟩
  · exact .inl ⟨⟨_, Tryz.func43, by kernel_rfl, by kernel_rfl⟩, fmtE_ok laysFmt⟩
def tabC : List Value := Lib.deBruijn64tab.map fun n : Nat => .int .u8 (n : Int)
def gd : Heap := (List.replicate 6 .dead).set 4 (.cells tabC true)
theorem awake_run : callv envA 300 (.func (.func n_law20_awake) #[] #[]) [] gd = some (.bool true, gd, []) := by kernel_rfl
theorem awake_ok : ExtOK Tryz.prog n_law20_awake (constE gd (.bool true)) := closed_ext envA_ok (c := c_law20_awake) rfl rfl (by kernel_rfl) rfl rfl awake_run
noncomputable def env : Env := fun f => if f = n_law20_awake then .ext (constE gd (.bool true)) else envA f
theorem env_keep : KeepE env := by
  intro f e h args hh v h2 ws hv
  unfold env at h
  split at h
  · cases h; exact constE_keep _ _ _ _ _ _ _ hv
  · exact envA_keep f e h args hh v h2 ws hv
theorem env_ok : EnvOK Tryz.prog env := by
  refine ⟨envA_ok.1, env_keep, fun f c h => ?_, fun f c h => ?_, fun f e h => ?_⟩
  · unfold env at h
    split at h
    · cases h
    · exact envA_ok.text f c h
  · unfold env at h
    split at h
    · cases h
    · exact envA_ok.textK f c h
  · unfold env at h
    split at h
    · rename_i e1; cases h; subst e1
      exact .inl ⟨⟨_, Tryz.func10, by kernel_rfl, by kernel_rfl⟩, awake_ok⟩
    · exact envA_ok.ext f e h
theorem callX {E : Env} {g : FuncId} {e : List Value → Heap → Option (Value × Heap × List Nat)} (hf : E g = .ext e) (args : List Value) (h : Heap) : callW E (.func (.func g) #[] #[]) args h = e args h := by
  rw [callW_eq]; simp [callG, hf, callF]
theorem awakes : ∀ h, h[4]? = some (.cells tabC true) → callW env (.func (.func n_law20_awake) #[] #[]) [] h = some (.bool true, h, []) := fun h ht => by
  rw [callX (show env n_law20_awake = .ext (constE gd (.bool true)) from if_pos rfl)]
  refine constE_at (fun g o hg hd => ?_)
  unfold gd at hg
  by_cases e : 4 = g
  · subst e
    rw [List.getElem?_set_self (by decide)] at hg
    cases hg; exact ht
  · rw [List.getElem?_set_ne e] at hg
    exact absurd (List.eq_of_mem_replicate (List.mem_of_getElem? hg)) hd
theorem laid : Laid env := ⟨env_keep, rfl, rfl, rfl, rfl, rfl, rfl, rfl, rfl, rfl, rfl, rfl, rfl, rfl, rfl, rfl, rfl, rfl, rfl, rfl, rfl, rfl, rfl, rfl, rfl, rfl, rfl, rfl, rfl, rfl, rfl, rfl, rfl, rfl, rfl, rfl, rfl, rfl, rfl, rfl, rfl, rfl, rfl, rfl, rfl, rfl, rfl, rfl, rfl, rfl, rfl, rfl, rfl, rfl, rfl, rfl, rfl, rfl, rfl, rfl, rfl, rfl, rfl, rfl, rfl, rfl, rfl, rfl, rfl, rfl, rfl, rfl, rfl, rfl, rfl, rfl, rfl, rfl, rfl, rfl, rfl, rfl, rfl⟩
theorem laidAdd : LaidAdd env := ⟨rfl⟩
theorem laidTz : LaidTz env 4 := ⟨rfl⟩
end Go.L.Try
