/- MADE BY PROGRAM (wip/gen/emit2.py): the instructions are those of the program. -/
import Derived.Test.YtlmadipiopnfeaaDoorCode
import Derived.Test.YtlmadipiopnfeaaDoorSh
import Derived.Test.YtlmadipiopnfeaaDoorX
import Derived.Test.YtlmadipiopnfeaaDoorChecked
import Derived.Laws.Externs
import Derived.KernelRfl
set_option maxRecDepth 100000
namespace Go.L.Try
open Go Go.L Go.Proofs Go.Shelf
theorem of_law14_RtaSound : FnC.of Tryd.prog n_law14_RtaSound c_law14_RtaSound := by unfold FnC.of; kernel_rfl
theorem of_ref04_Set : FnC.of Tryd.prog n_ref04_Set c_ref04_Set := by unfold FnC.of; kernel_rfl
theorem of_law14_awake : FnC.of Tryd.prog n_law14_awake c_law14_awake := by unfold FnC.of; kernel_rfl
theorem of_ref08_Decode : FnC.of Tryd.prog n_ref08_Decode c_ref08_Decode := by unfold FnC.of; kernel_rfl
theorem of_ref08_Few : FnC.of Tryd.prog n_ref08_Few c_ref08_Few := by unfold FnC.of; kernel_rfl
theorem of_exec_Run : FnC.of Tryd.prog n_exec_Run c_exec_Run := by unfold FnC.of; kernel_rfl
theorem of_rta_Bound : FnC.of Tryd.prog n_rta_Bound c_rta_Bound := by unfold FnC.of; kernel_rfl
theorem of_ref04_rest : FnC.of Tryd.prog n_ref04_rest c_ref04_rest := by unfold FnC.of; kernel_rfl
theorem of_ref04_turns : FnC.of Tryd.prog n_ref04_turns c_ref04_turns := by unfold FnC.of; kernel_rfl
theorem of_rta_All : FnC.of Tryd.prog n_rta_All c_rta_All := by unfold FnC.of; kernel_rfl
theorem of_law14_three : FnC.of Tryd.prog n_law14_three c_law14_three := by unfold FnC.of; kernel_rfl
theorem of_ref04_CheckAll : FnC.of Tryd.prog n_ref04_CheckAll c_ref04_CheckAll := by unfold FnC.of; kernel_rfl
theorem of_ref08_rest : FnC.of Tryd.prog n_ref08_rest c_ref08_rest := by unfold FnC.of; kernel_rfl
theorem of_ref08_last : FnC.of Tryd.prog n_ref08_last c_ref08_last := by unfold FnC.of; kernel_rfl
theorem of_exec_Until : FnC.of Tryd.prog n_exec_Until c_exec_Until := by unfold FnC.of; kernel_rfl
theorem of_rta_is : FnC.of Tryd.prog n_rta_is c_rta_is := by unfold FnC.of; kernel_rfl
theorem of_rta_Each : FnC.of Tryd.prog n_rta_Each c_rta_Each := by unfold FnC.of; kernel_rfl
theorem of_task_CheckAll : FnC.of Tryd.prog n_task_CheckAll c_task_CheckAll := by unfold FnC.of; kernel_rfl
theorem of_ref04_Check : FnC.of Tryd.prog n_ref04_Check c_ref04_Check := by unfold FnC.of; kernel_rfl
theorem of_script_Legal : FnC.of Tryd.prog n_script_Legal c_script_Legal := by unfold FnC.of; kernel_rfl
theorem of_stream_Order : FnC.of Tryd.prog n_stream_Order c_stream_Order := by unfold FnC.of; kernel_rfl
theorem of_heap_New_int : FnC.of Tryd.prog n_heap_New_int c_heap_New_int := by unfold FnC.of; kernel_rfl
theorem of_exec_Until_f1 : FnC.of Tryd.prog n_exec_Until_f1 c_exec_Until_f1 := by unfold FnC.of; kernel_rfl
theorem of_exec_executive_run : FnC.of Tryd.prog n_exec_executive_run c_exec_executive_run := by unfold FnC.of; kernel_rfl
theorem of_rta_Each_f1 : FnC.of Tryd.prog n_rta_Each_f1 c_rta_Each_f1 := by unfold FnC.of; kernel_rfl
theorem of_demand_Need : FnC.of Tryd.prog n_demand_Need c_demand_Need := by unfold FnC.of; kernel_rfl
theorem of_task_Check : FnC.of Tryd.prog n_task_Check c_task_Check := by unfold FnC.of; kernel_rfl
theorem of_ref03_Word : FnC.of Tryd.prog n_ref03_Word c_ref03_Word := by unfold FnC.of; kernel_rfl
theorem of_ref04_in : FnC.of Tryd.prog n_ref04_in c_ref04_in := by unfold FnC.of; kernel_rfl
theorem of_script_legal : FnC.of Tryd.prog n_script_legal c_script_legal := by unfold FnC.of; kernel_rfl
theorem of_script_Legal_f1 : FnC.of Tryd.prog n_script_Legal_f1 c_script_Legal_f1 := by unfold FnC.of; kernel_rfl
theorem of_slices_SortStableFunc_int_int : FnC.of Tryd.prog n_slices_SortStableFunc_int_int c_slices_SortStableFunc_int_int := by unfold FnC.of; kernel_rfl
theorem of_stream_Order_f1 : FnC.of Tryd.prog n_stream_Order_f1 c_stream_Order_f1 := by unfold FnC.of; kernel_rfl
theorem of_cmp_Compare_int64 : FnC.of Tryd.prog n_cmp_Compare_int64 c_cmp_Compare_int64 := by unfold FnC.of; kernel_rfl
theorem of_heap_Heap_int_Push : FnC.of Tryd.prog n_heap_Heap_int_Push c_heap_Heap_int_Push := by unfold FnC.of; kernel_rfl
theorem of_exec_executive_work : FnC.of Tryd.prog n_exec_executive_work c_exec_executive_work := by unfold FnC.of; kernel_rfl
theorem of_exec_executive_release : FnC.of Tryd.prog n_exec_executive_release c_exec_executive_release := by unfold FnC.of; kernel_rfl
theorem of_exec_executive_choose : FnC.of Tryd.prog n_exec_executive_choose c_exec_executive_choose := by unfold FnC.of; kernel_rfl
theorem of_exec_executive_next : FnC.of Tryd.prog n_exec_executive_next c_exec_executive_next := by unfold FnC.of; kernel_rfl
theorem of_demand_is : FnC.of Tryd.prog n_demand_is c_demand_is := by unfold FnC.of; kernel_rfl
theorem of_num_Sum : FnC.of Tryd.prog n_num_Sum c_num_Sum := by unfold FnC.of; kernel_rfl
theorem of_demand_Block : FnC.of Tryd.prog n_demand_Block c_demand_Block := by unfold FnC.of; kernel_rfl
theorem of_demand_Higher : FnC.of Tryd.prog n_demand_Higher c_demand_Higher := by unfold FnC.of; kernel_rfl
theorem of_task_Higher : FnC.of Tryd.prog n_task_Higher c_task_Higher := by unfold FnC.of; kernel_rfl
theorem of_marks_Set_All : FnC.of Tryd.prog n_marks_Set_All c_marks_Set_All := by unfold FnC.of; kernel_rfl
theorem of_task_Check_f1 : FnC.of Tryd.prog n_task_Check_f1 c_task_Check_f1 := by unfold FnC.of; kernel_rfl
theorem of_task_Check_f2 : FnC.of Tryd.prog n_task_Check_f2 c_task_Check_f2 := by unfold FnC.of; kernel_rfl
theorem of_scan_Word : FnC.of Tryd.prog n_scan_Word c_scan_Word := by unfold FnC.of; kernel_rfl
theorem of_task_Check_f3 : FnC.of Tryd.prog n_task_Check_f3 c_task_Check_f3 := by unfold FnC.of; kernel_rfl
theorem of_task_first : FnC.of Tryd.prog n_task_first c_task_first := by unfold FnC.of; kernel_rfl
theorem of_ref03_one : FnC.of Tryd.prog n_ref03_one c_ref03_one := by unfold FnC.of; kernel_rfl
theorem of_script_may : FnC.of Tryd.prog n_script_may c_script_may := by unfold FnC.of; kernel_rfl
theorem of_script_legal_f1 : FnC.of Tryd.prog n_script_legal_f1 c_script_legal_f1 := by unfold FnC.of; kernel_rfl
theorem of_slices_stableCmpFunc_int : FnC.of Tryd.prog n_slices_stableCmpFunc_int c_slices_stableCmpFunc_int := by unfold FnC.of; kernel_rfl
theorem of_cmp_isNaN_int64 : FnC.of Tryd.prog n_cmp_isNaN_int64 c_cmp_isNaN_int64 := by unfold FnC.of; kernel_rfl
theorem of_heap_Heap_int_ahead : FnC.of Tryd.prog n_heap_Heap_int_ahead c_heap_Heap_int_ahead := by unfold FnC.of; kernel_rfl
theorem of_heap_Heap_int_swap : FnC.of Tryd.prog n_heap_Heap_int_swap c_heap_Heap_int_swap := by unfold FnC.of; kernel_rfl
theorem of_fifo_Queue_exec_waiting_Pop : FnC.of Tryd.prog n_fifo_Queue_exec_waiting_Pop c_fifo_Queue_exec_waiting_Pop := by unfold FnC.of; kernel_rfl
theorem of_fifo_Queue_exec_waiting_Len : FnC.of Tryd.prog n_fifo_Queue_exec_waiting_Len c_fifo_Queue_exec_waiting_Len := by unfold FnC.of; kernel_rfl
theorem of_fifo_New_exec_waiting : FnC.of Tryd.prog n_fifo_New_exec_waiting c_fifo_New_exec_waiting := by unfold FnC.of; kernel_rfl
theorem of_fifo_Queue_exec_waiting_Push : FnC.of Tryd.prog n_fifo_Queue_exec_waiting_Push c_fifo_Queue_exec_waiting_Push := by unfold FnC.of; kernel_rfl
theorem of_heap_Heap_int_Pop : FnC.of Tryd.prog n_heap_Heap_int_Pop c_heap_Heap_int_Pop := by unfold FnC.of; kernel_rfl
theorem of_fifo_Queue_exec_waiting_At : FnC.of Tryd.prog n_fifo_Queue_exec_waiting_At c_fifo_Queue_exec_waiting_At := by unfold FnC.of; kernel_rfl
theorem of_num_Add : FnC.of Tryd.prog n_num_Add c_num_Add := by unfold FnC.of; kernel_rfl
theorem of_task_Lower : FnC.of Tryd.prog n_task_Lower c_task_Lower := by unfold FnC.of; kernel_rfl
theorem of_num_Times : FnC.of Tryd.prog n_num_Times c_num_Times := by unfold FnC.of; kernel_rfl
theorem of_demand_often : FnC.of Tryd.prog n_demand_often c_demand_often := by unfold FnC.of; kernel_rfl
theorem of_task_those : FnC.of Tryd.prog n_task_those c_task_those := by unfold FnC.of; kernel_rfl
theorem of_task_Higher_f1 : FnC.of Tryd.prog n_task_Higher_f1 c_task_Higher_f1 := by unfold FnC.of; kernel_rfl
theorem of_marks_Set_All_f1 : FnC.of Tryd.prog n_marks_Set_All_f1 c_marks_Set_All_f1 := by unfold FnC.of; kernel_rfl
theorem of_marks_Set_First : FnC.of Tryd.prog n_marks_Set_First c_marks_Set_First := by unfold FnC.of; kernel_rfl
theorem of_marks_Set_Next : FnC.of Tryd.prog n_marks_Set_Next c_marks_Set_Next := by unfold FnC.of; kernel_rfl
theorem of_scan_letter : FnC.of Tryd.prog n_scan_letter c_scan_letter := by unfold FnC.of; kernel_rfl
theorem of_scan_long : FnC.of Tryd.prog n_scan_long c_scan_long := by unfold FnC.of; kernel_rfl
theorem of_scan_goes : FnC.of Tryd.prog n_scan_goes c_scan_goes := by unfold FnC.of; kernel_rfl
theorem of_ref03_letter : FnC.of Tryd.prog n_ref03_letter c_ref03_letter := by unfold FnC.of; kernel_rfl
theorem of_ref03_digit : FnC.of Tryd.prog n_ref03_digit c_ref03_digit := by unfold FnC.of; kernel_rfl
theorem of_slices_insertionSortCmpFunc_int : FnC.of Tryd.prog n_slices_insertionSortCmpFunc_int c_slices_insertionSortCmpFunc_int := by unfold FnC.of; kernel_rfl
theorem of_slices_symMergeCmpFunc_int : FnC.of Tryd.prog n_slices_symMergeCmpFunc_int c_slices_symMergeCmpFunc_int := by unfold FnC.of; kernel_rfl
theorem of_fifo_Queue_exec_waiting_grow : FnC.of Tryd.prog n_fifo_Queue_exec_waiting_grow c_fifo_Queue_exec_waiting_grow := by unfold FnC.of; kernel_rfl
theorem of_heap_Heap_int_Peek : FnC.of Tryd.prog n_heap_Heap_int_Peek c_heap_Heap_int_Peek := by unfold FnC.of; kernel_rfl
theorem of_heap_Heap_int_down : FnC.of Tryd.prog n_heap_Heap_int_down c_heap_Heap_int_down := by unfold FnC.of; kernel_rfl
theorem of_task_Lower_f1 : FnC.of Tryd.prog n_task_Lower_f1 c_task_Lower_f1 := by unfold FnC.of; kernel_rfl
theorem of_num_Mul : FnC.of Tryd.prog n_num_Mul c_num_Mul := by unfold FnC.of; kernel_rfl
theorem of_num_Ceil : FnC.of Tryd.prog n_num_Ceil c_num_Ceil := by unfold FnC.of; kernel_rfl
theorem of_marks_Set_With : FnC.of Tryd.prog n_marks_Set_With c_marks_Set_With := by unfold FnC.of; kernel_rfl
theorem of_marks_in : FnC.of Tryd.prog n_marks_in c_marks_in := by unfold FnC.of; kernel_rfl
theorem of_scan_digit : FnC.of Tryd.prog n_scan_digit c_scan_digit := by unfold FnC.of; kernel_rfl
theorem of_slices_rotateCmpFunc_int : FnC.of Tryd.prog n_slices_rotateCmpFunc_int c_slices_rotateCmpFunc_int := by unfold FnC.of; kernel_rfl
theorem of_heap_Heap_int_Len : FnC.of Tryd.prog n_heap_Heap_int_Len c_heap_Heap_int_Len := by unfold FnC.of; kernel_rfl
theorem of_math_bits_Mul64 : FnC.of Tryd.prog n_math_bits_Mul64 c_math_bits_Mul64 := by unfold FnC.of; kernel_rfl
theorem of_slices_swapRangeCmpFunc_int : FnC.of Tryd.prog n_slices_swapRangeCmpFunc_int c_slices_swapRangeCmpFunc_int := by unfold FnC.of; kernel_rfl
def tab : List (Nat × Bool × FnC) := [(n_law14_RtaSound, false, c_law14_RtaSound), (n_ref04_Set, false, c_ref04_Set), (n_law14_awake, false, c_law14_awake), (n_ref08_Decode, false, c_ref08_Decode), (n_ref08_Few, false, c_ref08_Few), (n_exec_Run, false, c_exec_Run), (n_rta_Bound, false, c_rta_Bound), (n_ref04_rest, false, c_ref04_rest), (n_ref04_turns, false, c_ref04_turns), (n_rta_All, false, c_rta_All), (n_law14_three, false, c_law14_three), (n_ref04_CheckAll, false, c_ref04_CheckAll), (n_ref08_rest, false, c_ref08_rest), (n_ref08_last, false, c_ref08_last), (n_exec_Until, false, c_exec_Until), (n_rta_is, false, c_rta_is), (n_rta_Each, false, c_rta_Each), (n_task_CheckAll, false, c_task_CheckAll), (n_ref04_Check, false, c_ref04_Check), (n_script_Legal, false, c_script_Legal), (n_stream_Order, false, c_stream_Order), (n_heap_New_int, false, c_heap_New_int), (n_exec_Until_f1, false, c_exec_Until_f1), (n_exec_executive_run, true, c_exec_executive_run), (n_rta_Each_f1, false, c_rta_Each_f1), (n_demand_Need, false, c_demand_Need), (n_task_Check, false, c_task_Check), (n_ref03_Word, false, c_ref03_Word), (n_ref04_in, false, c_ref04_in), (n_script_legal, false, c_script_legal), (n_script_Legal_f1, false, c_script_Legal_f1), (n_slices_SortStableFunc_int_int, true, c_slices_SortStableFunc_int_int), (n_stream_Order_f1, false, c_stream_Order_f1), (n_cmp_Compare_int64, false, c_cmp_Compare_int64), (n_heap_Heap_int_Push, true, c_heap_Heap_int_Push), (n_exec_executive_work, true, c_exec_executive_work), (n_exec_executive_release, true, c_exec_executive_release), (n_exec_executive_choose, true, c_exec_executive_choose), (n_exec_executive_next, false, c_exec_executive_next), (n_demand_is, false, c_demand_is), (n_num_Sum, false, c_num_Sum), (n_demand_Block, false, c_demand_Block), (n_demand_Higher, false, c_demand_Higher), (n_task_Higher, false, c_task_Higher), (n_marks_Set_All, false, c_marks_Set_All), (n_task_Check_f1, false, c_task_Check_f1), (n_task_Check_f2, false, c_task_Check_f2), (n_scan_Word, false, c_scan_Word), (n_task_Check_f3, false, c_task_Check_f3), (n_task_first, false, c_task_first), (n_ref03_one, false, c_ref03_one), (n_script_may, false, c_script_may), (n_script_legal_f1, false, c_script_legal_f1), (n_slices_stableCmpFunc_int, true, c_slices_stableCmpFunc_int), (n_cmp_isNaN_int64, false, c_cmp_isNaN_int64), (n_heap_Heap_int_ahead, false, c_heap_Heap_int_ahead), (n_heap_Heap_int_swap, true, c_heap_Heap_int_swap), (n_fifo_Queue_exec_waiting_Pop, true, c_fifo_Queue_exec_waiting_Pop), (n_fifo_Queue_exec_waiting_Len, false, c_fifo_Queue_exec_waiting_Len), (n_fifo_New_exec_waiting, false, c_fifo_New_exec_waiting), (n_fifo_Queue_exec_waiting_Push, true, c_fifo_Queue_exec_waiting_Push), (n_heap_Heap_int_Pop, true, c_heap_Heap_int_Pop), (n_fifo_Queue_exec_waiting_At, false, c_fifo_Queue_exec_waiting_At), (n_num_Add, false, c_num_Add), (n_task_Lower, false, c_task_Lower), (n_num_Times, false, c_num_Times), (n_demand_often, false, c_demand_often), (n_task_those, false, c_task_those), (n_task_Higher_f1, false, c_task_Higher_f1), (n_marks_Set_All_f1, false, c_marks_Set_All_f1), (n_marks_Set_First, false, c_marks_Set_First), (n_marks_Set_Next, false, c_marks_Set_Next), (n_scan_letter, false, c_scan_letter), (n_scan_long, false, c_scan_long), (n_scan_goes, false, c_scan_goes), (n_ref03_letter, false, c_ref03_letter), (n_ref03_digit, false, c_ref03_digit), (n_slices_insertionSortCmpFunc_int, true, c_slices_insertionSortCmpFunc_int), (n_slices_symMergeCmpFunc_int, false, c_slices_symMergeCmpFunc_int), (n_fifo_Queue_exec_waiting_grow, true, c_fifo_Queue_exec_waiting_grow), (n_heap_Heap_int_Peek, false, c_heap_Heap_int_Peek), (n_heap_Heap_int_down, true, c_heap_Heap_int_down), (n_task_Lower_f1, false, c_task_Lower_f1), (n_num_Mul, false, c_num_Mul), (n_num_Ceil, false, c_num_Ceil), (n_marks_Set_With, false, c_marks_Set_With), (n_marks_in, false, c_marks_in), (n_scan_digit, false, c_scan_digit), (n_slices_rotateCmpFunc_int, false, c_slices_rotateCmpFunc_int), (n_heap_Heap_int_Len, false, c_heap_Heap_int_Len), (n_math_bits_Mul64, false, c_math_bits_Mul64), (n_slices_swapRangeCmpFunc_int, false, c_slices_swapRangeCmpFunc_int)]
theorem tab_of : ∀ p ∈ tab, FnC.of Tryd.prog p.1 p.2.2 := by
  unfold tab
  refine List.forall_mem_cons.2 ⟨of_law14_RtaSound, ?_⟩
  refine List.forall_mem_cons.2 ⟨of_ref04_Set, ?_⟩
  refine List.forall_mem_cons.2 ⟨of_law14_awake, ?_⟩
  refine List.forall_mem_cons.2 ⟨of_ref08_Decode, ?_⟩
  refine List.forall_mem_cons.2 ⟨of_ref08_Few, ?_⟩
  refine List.forall_mem_cons.2 ⟨of_exec_Run, ?_⟩
  refine List.forall_mem_cons.2 ⟨of_rta_Bound, ?_⟩
  refine List.forall_mem_cons.2 ⟨of_ref04_rest, ?_⟩
  refine List.forall_mem_cons.2 ⟨of_ref04_turns, ?_⟩
  refine List.forall_mem_cons.2 ⟨of_rta_All, ?_⟩
  refine List.forall_mem_cons.2 ⟨of_law14_three, ?_⟩
  refine List.forall_mem_cons.2 ⟨of_ref04_CheckAll, ?_⟩
  refine List.forall_mem_cons.2 ⟨of_ref08_rest, ?_⟩
  refine List.forall_mem_cons.2 ⟨of_ref08_last, ?_⟩
  refine List.forall_mem_cons.2 ⟨of_exec_Until, ?_⟩
  refine List.forall_mem_cons.2 ⟨of_rta_is, ?_⟩
  refine List.forall_mem_cons.2 ⟨of_rta_Each, ?_⟩
  refine List.forall_mem_cons.2 ⟨of_task_CheckAll, ?_⟩
  refine List.forall_mem_cons.2 ⟨of_ref04_Check, ?_⟩
  refine List.forall_mem_cons.2 ⟨of_script_Legal, ?_⟩
  refine List.forall_mem_cons.2 ⟨of_stream_Order, ?_⟩
  refine List.forall_mem_cons.2 ⟨of_heap_New_int, ?_⟩
  refine List.forall_mem_cons.2 ⟨of_exec_Until_f1, ?_⟩
  refine List.forall_mem_cons.2 ⟨of_exec_executive_run, ?_⟩
  refine List.forall_mem_cons.2 ⟨of_rta_Each_f1, ?_⟩
  refine List.forall_mem_cons.2 ⟨of_demand_Need, ?_⟩
  refine List.forall_mem_cons.2 ⟨of_task_Check, ?_⟩
  refine List.forall_mem_cons.2 ⟨of_ref03_Word, ?_⟩
  refine List.forall_mem_cons.2 ⟨of_ref04_in, ?_⟩
  refine List.forall_mem_cons.2 ⟨of_script_legal, ?_⟩
  refine List.forall_mem_cons.2 ⟨of_script_Legal_f1, ?_⟩
  refine List.forall_mem_cons.2 ⟨of_slices_SortStableFunc_int_int, ?_⟩
  refine List.forall_mem_cons.2 ⟨of_stream_Order_f1, ?_⟩
  refine List.forall_mem_cons.2 ⟨of_cmp_Compare_int64, ?_⟩
  refine List.forall_mem_cons.2 ⟨of_heap_Heap_int_Push, ?_⟩
  refine List.forall_mem_cons.2 ⟨of_exec_executive_work, ?_⟩
  refine List.forall_mem_cons.2 ⟨of_exec_executive_release, ?_⟩
  refine List.forall_mem_cons.2 ⟨of_exec_executive_choose, ?_⟩
  refine List.forall_mem_cons.2 ⟨of_exec_executive_next, ?_⟩
  refine List.forall_mem_cons.2 ⟨of_demand_is, ?_⟩
  refine List.forall_mem_cons.2 ⟨of_num_Sum, ?_⟩
  refine List.forall_mem_cons.2 ⟨of_demand_Block, ?_⟩
  refine List.forall_mem_cons.2 ⟨of_demand_Higher, ?_⟩
  refine List.forall_mem_cons.2 ⟨of_task_Higher, ?_⟩
  refine List.forall_mem_cons.2 ⟨of_marks_Set_All, ?_⟩
  refine List.forall_mem_cons.2 ⟨of_task_Check_f1, ?_⟩
  refine List.forall_mem_cons.2 ⟨of_task_Check_f2, ?_⟩
  refine List.forall_mem_cons.2 ⟨of_scan_Word, ?_⟩
  refine List.forall_mem_cons.2 ⟨of_task_Check_f3, ?_⟩
  refine List.forall_mem_cons.2 ⟨of_task_first, ?_⟩
  refine List.forall_mem_cons.2 ⟨of_ref03_one, ?_⟩
  refine List.forall_mem_cons.2 ⟨of_script_may, ?_⟩
  refine List.forall_mem_cons.2 ⟨of_script_legal_f1, ?_⟩
  refine List.forall_mem_cons.2 ⟨of_slices_stableCmpFunc_int, ?_⟩
  refine List.forall_mem_cons.2 ⟨of_cmp_isNaN_int64, ?_⟩
  refine List.forall_mem_cons.2 ⟨of_heap_Heap_int_ahead, ?_⟩
  refine List.forall_mem_cons.2 ⟨of_heap_Heap_int_swap, ?_⟩
  refine List.forall_mem_cons.2 ⟨of_fifo_Queue_exec_waiting_Pop, ?_⟩
  refine List.forall_mem_cons.2 ⟨of_fifo_Queue_exec_waiting_Len, ?_⟩
  refine List.forall_mem_cons.2 ⟨of_fifo_New_exec_waiting, ?_⟩
  refine List.forall_mem_cons.2 ⟨of_fifo_Queue_exec_waiting_Push, ?_⟩
  refine List.forall_mem_cons.2 ⟨of_heap_Heap_int_Pop, ?_⟩
  refine List.forall_mem_cons.2 ⟨of_fifo_Queue_exec_waiting_At, ?_⟩
  refine List.forall_mem_cons.2 ⟨of_num_Add, ?_⟩
  refine List.forall_mem_cons.2 ⟨of_task_Lower, ?_⟩
  refine List.forall_mem_cons.2 ⟨of_num_Times, ?_⟩
  refine List.forall_mem_cons.2 ⟨of_demand_often, ?_⟩
  refine List.forall_mem_cons.2 ⟨of_task_those, ?_⟩
  refine List.forall_mem_cons.2 ⟨of_task_Higher_f1, ?_⟩
  refine List.forall_mem_cons.2 ⟨of_marks_Set_All_f1, ?_⟩
  refine List.forall_mem_cons.2 ⟨of_marks_Set_First, ?_⟩
  refine List.forall_mem_cons.2 ⟨of_marks_Set_Next, ?_⟩
  refine List.forall_mem_cons.2 ⟨of_scan_letter, ?_⟩
  refine List.forall_mem_cons.2 ⟨of_scan_long, ?_⟩
  refine List.forall_mem_cons.2 ⟨of_scan_goes, ?_⟩
  refine List.forall_mem_cons.2 ⟨of_ref03_letter, ?_⟩
  refine List.forall_mem_cons.2 ⟨of_ref03_digit, ?_⟩
  refine List.forall_mem_cons.2 ⟨of_slices_insertionSortCmpFunc_int, ?_⟩
  refine List.forall_mem_cons.2 ⟨of_slices_symMergeCmpFunc_int, ?_⟩
  refine List.forall_mem_cons.2 ⟨of_fifo_Queue_exec_waiting_grow, ?_⟩
  refine List.forall_mem_cons.2 ⟨of_heap_Heap_int_Peek, ?_⟩
  refine List.forall_mem_cons.2 ⟨of_heap_Heap_int_down, ?_⟩
  refine List.forall_mem_cons.2 ⟨of_task_Lower_f1, ?_⟩
  refine List.forall_mem_cons.2 ⟨of_num_Mul, ?_⟩
  refine List.forall_mem_cons.2 ⟨of_num_Ceil, ?_⟩
  refine List.forall_mem_cons.2 ⟨of_marks_Set_With, ?_⟩
  refine List.forall_mem_cons.2 ⟨of_marks_in, ?_⟩
  refine List.forall_mem_cons.2 ⟨of_scan_digit, ?_⟩
  refine List.forall_mem_cons.2 ⟨of_slices_rotateCmpFunc_int, ?_⟩
  refine List.forall_mem_cons.2 ⟨of_heap_Heap_int_Len, ?_⟩
  refine List.forall_mem_cons.2 ⟨of_math_bits_Mul64, ?_⟩
  refine List.forall_mem_cons.2 ⟨of_slices_swapRangeCmpFunc_int, ?_⟩
  intro p hp; cases hp
def find : List (Nat × Bool × FnC) → Nat → Def
  | [], _ => .none
  | p :: r, f => if f = p.1 then (if p.2.1 = true then .textK p.2.2 else .text p.2.2) else find r f
theorem find_mem : ∀ {l : List (Nat × Bool × FnC)} {f : Nat} {c : FnC}, find l f = .text c ∨ find l f = .textK c → ∃ k, (f, k, c) ∈ l
  | [], f, c, h => by rcases h with h | h <;> cases h
  | p :: r, f, c, h => by
    obtain ⟨pn, pk, pc⟩ := p
    unfold find at h
    by_cases e : f = pn
    · subst e
      cases pk with
      | true => simp at h; subst h; exact ⟨true, List.mem_cons_self⟩
      | false => simp at h; subst h; exact ⟨false, List.mem_cons_self⟩
    · simp only [e, if_false] at h
      obtain ⟨k, hk⟩ := find_mem h
      exact ⟨k, List.mem_cons_of_mem _ hk⟩
theorem find_ext : ∀ {l : List (Nat × Bool × FnC)} {f : Nat} {e}, find l f ≠ .ext e
  | [], f, e => by intro h; cases h
  | p :: r, f, e => by
    unfold find
    split
    · split <;> (intro h; cases h)
    · exact find_ext
theorem tab_mem {f : Nat} {c : FnC} (h : find tab f = .text c ∨ find tab f = .textK c) : FnC.of Tryd.prog f c := by
  obtain ⟨k, hk⟩ := find_mem h
  exact tab_of _ hk
def env : Env := fun f => if f = n_math_bits_Add64 then .ext addE else if f = n_math_bits_TrailingZeros64 then .ext (tzE 0) else find tab f
theorem add_run (x y c : Nat) (w : World) (hx : x < 18446744073709551616) (hy : y < 18446744073709551616) (hc : c ≤ 1) : (callFunc 108 #[.int .u64 x, .int .u64 y, .int .u64 c]).run Tryd.prog w = .ok (.value (.tuple #[.int .u64 (((x + y + c) % 18446744073709551616 : Nat) : Int), .int .u64 (((x + y + c) / 18446744073709551616 : Nat) : Int)])) w := by
  rw [run_callFunc_extern Tryd.func108 (by kernel_rfl) (by kernel_rfl) (by kernel_rfl) (e := add64Entry) (by kernel_rfl), run_add64 x y c (by omega) (by omega) (by omega) (by omega)]
  simp only [Result.andThen]
  congr 5 <;> omega
def renTz : Go.Shelf.Ren := ⟨fun x => if x = 29 then 114 else x, fun x => if x = 22 then 70 else if x = 3 then 3 else if x = 4 then 4 else if x = 25 then 172 else if x = 54 then 175 else if x = 0 then 0 else if x = 5 then 5 else x, fun x => if x = 1 then 0 else x⟩
theorem laysTz : Lays7.n29 Tryd.prog renTz := { mixed := by kernel_rfl, f29 := Tryd.func114.trans (by kernel_rfl), t0 := Tryd.underlying0, a0 := Tryd.isAgg0, z0 := Tryd.sizeOf0, v0 := Tryd.zeroValue0, i0 := by kernel_rfl, t3 := Tryd.underlying3, a3 := Tryd.isAgg3, z3 := Tryd.sizeOf3, v3 := Tryd.zeroValue3, i3 := by kernel_rfl, t4 := Tryd.underlying4, a4 := Tryd.isAgg4, z4 := Tryd.sizeOf4, v4 := Tryd.zeroValue4, i4 := by kernel_rfl, t5 := Tryd.underlying5, a5 := Tryd.isAgg5, z5 := Tryd.sizeOf5, v5 := Tryd.zeroValue5, i5 := by kernel_rfl, t22 := Tryd.underlying70, a22 := Tryd.isAgg70, z22 := Tryd.sizeOf70, v22 := Tryd.zeroValue70, i22 := by kernel_rfl, t25 := Tryd.underlying172, a25 := Tryd.isAgg172, z25 := Tryd.sizeOf172, v25 := Tryd.zeroValue172, i25 := by kernel_rfl, t54 := Tryd.underlying175, a54 := Tryd.isAgg175, z54 := Tryd.sizeOf175, g1 := by kernel_rfl }
theorem env_ext {f : Nat} {e} (h : env f = .ext e) : (f = n_math_bits_Add64 ∧ e = addE) ∨ (f = n_math_bits_TrailingZeros64 ∧ e = (tzE 0)) := by
  unfold env at h
  split at h
  · rename_i e1; cases h; exact .inl ⟨e1, rfl⟩
  split at h
  · rename_i e1; cases h; exact .inr (⟨e1, rfl⟩)
  exact absurd h find_ext
theorem env_text {f : Nat} {c} (h : env f = .text c) : find tab f = .text c := by
  unfold env at h
  split at h
  · cases h
  split at h
  · cases h
  exact h
theorem env_textK {f : Nat} {c} (h : env f = .textK c) : find tab f = .textK c := by
  unfold env at h
  split at h
  · cases h
  split at h
  · cases h
  exact h
theorem env_keep : KeepE env := by
  intro f e h args hh v h2 ws hv
  rcases env_ext h with ⟨rfl, rfl⟩ | ⟨rfl, rfl⟩
  · obtain ⟨rfl, rfl⟩ := addE_keep hv; exact Keeps.refl _ _ _
  · obtain ⟨rfl, rfl⟩ := tzE_keep hv; exact Keeps.refl _ _ _
theorem env_ok : EnvOK Tryd.prog env := by
  refine ⟨by kernel_rfl, env_keep, fun f c h => tab_mem (.inl (env_text h)), fun f c h => tab_mem (.inr (env_textK h)), fun f e h => ?_⟩
  rcases env_ext h with ⟨rfl, rfl⟩ | ⟨rfl, rfl⟩
  · exact .inr (addE_val fun x y c w hx hy hc => add_run x y c w hx hy hc)
  · exact .inl ⟨⟨_, Tryd.func114, by kernel_rfl, by kernel_rfl⟩, tzE_ok laysTz⟩
theorem laid : Laid env := ⟨env_keep, rfl, rfl, rfl, rfl, rfl, rfl, rfl, rfl, rfl, rfl, rfl, rfl, rfl, rfl, rfl, rfl, rfl, rfl, rfl, rfl, rfl, rfl, rfl, rfl, rfl, rfl, rfl, rfl, rfl, rfl, rfl, rfl, rfl, rfl, rfl, rfl, rfl, rfl, rfl, rfl, rfl, rfl, rfl, rfl, rfl, rfl, rfl, rfl, rfl, rfl, rfl, rfl, rfl, rfl, rfl, rfl, rfl, rfl, rfl, rfl, rfl, rfl, rfl, rfl, rfl, rfl, rfl, rfl, rfl, rfl, rfl, rfl, rfl, rfl, rfl, rfl, rfl, rfl, rfl, rfl, rfl, rfl, rfl, rfl, rfl, rfl, rfl, rfl, rfl, rfl, rfl, rfl⟩
theorem laidAdd : LaidAdd env := ⟨rfl⟩
theorem laidTz : LaidTz env 0 := ⟨rfl⟩
end Go.L.Try
