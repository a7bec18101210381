/- MADE BY PROGRAM (wip/gen/emit2.py): the instructions are those of the program. -/
import Derived.Test.YtofmllajjolcgaaCode
import Derived.Test.YtofmllajjolcgaaSh
import Derived.Test.YtofmllajjolcgaaProg
import Derived.KernelRfl
set_option maxRecDepth 100000
set_option linter.unusedVariables false
namespace Go.L.Try
open Go Go.L Go.Proofs
theorem of_law17_HyperTight : FnC.of Try.prog n_law17_HyperTight c_law17_HyperTight := by unfold FnC.of; kernel_rfl
theorem of_law17_awake : FnC.of Try.prog n_law17_awake c_law17_awake := by unfold FnC.of; kernel_rfl
theorem of_ref04_Set : FnC.of Try.prog n_ref04_Set c_ref04_Set := by unfold FnC.of; kernel_rfl
theorem of_law17_set : FnC.of Try.prog n_law17_set c_law17_set := by unfold FnC.of; kernel_rfl
theorem of_hyper_Run : FnC.of Try.prog n_hyper_Run c_hyper_Run := by unfold FnC.of; kernel_rfl
theorem of_ref14_Bound : FnC.of Try.prog n_ref14_Bound c_ref14_Bound := by unfold FnC.of; kernel_rfl
theorem of_hyper_Idle : FnC.of Try.prog n_hyper_Idle c_hyper_Idle := by unfold FnC.of; kernel_rfl
theorem of_hyper_Jobs : FnC.of Try.prog n_hyper_Jobs c_hyper_Jobs := by unfold FnC.of; kernel_rfl
theorem of_ref04_rest : FnC.of Try.prog n_ref04_rest c_ref04_rest := by unfold FnC.of; kernel_rfl
theorem of_ref04_turns : FnC.of Try.prog n_ref04_turns c_ref04_turns := by unfold FnC.of; kernel_rfl
theorem of_law17_rest : FnC.of Try.prog n_law17_rest c_law17_rest := by unfold FnC.of; kernel_rfl
theorem of_exec_Run : FnC.of Try.prog n_exec_Run c_exec_Run := by unfold FnC.of; kernel_rfl
theorem of_trace_Worst : FnC.of Try.prog n_trace_Worst c_trace_Worst := by unfold FnC.of; kernel_rfl
theorem of_ref13_Is : FnC.of Try.prog n_ref13_Is c_ref13_Is := by unfold FnC.of; kernel_rfl
theorem of_ref13_Need : FnC.of Try.prog n_ref13_Need c_ref13_Need := by unfold FnC.of; kernel_rfl
theorem of_exec_Until : FnC.of Try.prog n_exec_Until c_exec_Until := by unfold FnC.of; kernel_rfl
theorem of_trace_Long : FnC.of Try.prog n_trace_Long c_trace_Long := by unfold FnC.of; kernel_rfl
theorem of_task_CheckAll : FnC.of Try.prog n_task_CheckAll c_task_CheckAll := by unfold FnC.of; kernel_rfl
theorem of_load_Period : FnC.of Try.prog n_load_Period c_load_Period := by unfold FnC.of; kernel_rfl
theorem of_hyper_ticks : FnC.of Try.prog n_hyper_ticks c_hyper_ticks := by unfold FnC.of; kernel_rfl
theorem of_ref04_CheckAll : FnC.of Try.prog n_ref04_CheckAll c_ref04_CheckAll := by unfold FnC.of; kernel_rfl
theorem of_trace_Response : FnC.of Try.prog n_trace_Response c_trace_Response := by unfold FnC.of; kernel_rfl
theorem of_ref01_Sum : FnC.of Try.prog n_ref01_Sum c_ref01_Sum := by unfold FnC.of; kernel_rfl
theorem of_ref13_Block : FnC.of Try.prog n_ref13_Block c_ref13_Block := by unfold FnC.of; kernel_rfl
theorem of_ref13_Higher : FnC.of Try.prog n_ref13_Higher c_ref13_Higher := by unfold FnC.of; kernel_rfl
theorem of_script_Legal : FnC.of Try.prog n_script_Legal c_script_Legal := by unfold FnC.of; kernel_rfl
theorem of_stream_Order : FnC.of Try.prog n_stream_Order c_stream_Order := by unfold FnC.of; kernel_rfl
theorem of_heap_New_int : FnC.of Try.prog n_heap_New_int c_heap_New_int := by unfold FnC.of; kernel_rfl
theorem of_exec_Until_f1 : FnC.of Try.prog n_exec_Until_f1 c_exec_Until_f1 := by unfold FnC.of; kernel_rfl
theorem of_exec_executive_run : FnC.of Try.prog n_exec_executive_run c_exec_executive_run := by unfold FnC.of; kernel_rfl
theorem of_trace_Busy : FnC.of Try.prog n_trace_Busy c_trace_Busy := by unfold FnC.of; kernel_rfl
theorem of_task_Check : FnC.of Try.prog n_task_Check c_task_Check := by unfold FnC.of; kernel_rfl
theorem of_num_Lcm : FnC.of Try.prog n_num_Lcm c_num_Lcm := by unfold FnC.of; kernel_rfl
theorem of_hyper_ticks_f1 : FnC.of Try.prog n_hyper_ticks_f1 c_hyper_ticks_f1 := by unfold FnC.of; kernel_rfl
theorem of_ref04_Check : FnC.of Try.prog n_ref04_Check c_ref04_Check := by unfold FnC.of; kernel_rfl
theorem of_ref01_End : FnC.of Try.prog n_ref01_End c_ref01_End := by unfold FnC.of; kernel_rfl
theorem of_ref01_Add : FnC.of Try.prog n_ref01_Add c_ref01_Add := by unfold FnC.of; kernel_rfl
theorem of_ref01_Ceil : FnC.of Try.prog n_ref01_Ceil c_ref01_Ceil := by unfold FnC.of; kernel_rfl
theorem of_ref01_Mul : FnC.of Try.prog n_ref01_Mul c_ref01_Mul := by unfold FnC.of; kernel_rfl
theorem of_script_legal : FnC.of Try.prog n_script_legal c_script_legal := by unfold FnC.of; kernel_rfl
theorem of_script_Legal_f1 : FnC.of Try.prog n_script_Legal_f1 c_script_Legal_f1 := by unfold FnC.of; kernel_rfl
theorem of_slices_SortStableFunc_int_int : FnC.of Try.prog n_slices_SortStableFunc_int_int c_slices_SortStableFunc_int_int := by unfold FnC.of; kernel_rfl
theorem of_stream_Order_f1 : FnC.of Try.prog n_stream_Order_f1 c_stream_Order_f1 := by unfold FnC.of; kernel_rfl
theorem of_cmp_Compare_int64 : FnC.of Try.prog n_cmp_Compare_int64 c_cmp_Compare_int64 := by unfold FnC.of; kernel_rfl
theorem of_heap_Heap_int_Push : FnC.of Try.prog n_heap_Heap_int_Push c_heap_Heap_int_Push := by unfold FnC.of; kernel_rfl
theorem of_exec_executive_work : FnC.of Try.prog n_exec_executive_work c_exec_executive_work := by unfold FnC.of; kernel_rfl
theorem of_exec_executive_release : FnC.of Try.prog n_exec_executive_release c_exec_executive_release := by unfold FnC.of; kernel_rfl
theorem of_exec_executive_choose : FnC.of Try.prog n_exec_executive_choose c_exec_executive_choose := by unfold FnC.of; kernel_rfl
theorem of_exec_executive_next : FnC.of Try.prog n_exec_executive_next c_exec_executive_next := by unfold FnC.of; kernel_rfl
theorem of_trace_Busy_f1 : FnC.of Try.prog n_trace_Busy_f1 c_trace_Busy_f1 := by unfold FnC.of; kernel_rfl
theorem of_task_Check_f1 : FnC.of Try.prog n_task_Check_f1 c_task_Check_f1 := by unfold FnC.of; kernel_rfl
theorem of_task_Check_f2 : FnC.of Try.prog n_task_Check_f2 c_task_Check_f2 := by unfold FnC.of; kernel_rfl
theorem of_scan_Word : FnC.of Try.prog n_scan_Word c_scan_Word := by unfold FnC.of; kernel_rfl
theorem of_task_Check_f3 : FnC.of Try.prog n_task_Check_f3 c_task_Check_f3 := by unfold FnC.of; kernel_rfl
theorem of_task_first : FnC.of Try.prog n_task_first c_task_first := by unfold FnC.of; kernel_rfl
theorem of_num_Mul : FnC.of Try.prog n_num_Mul c_num_Mul := by unfold FnC.of; kernel_rfl
theorem of_num_Gcd : FnC.of Try.prog n_num_Gcd c_num_Gcd := by unfold FnC.of; kernel_rfl
theorem of_ref03_Word : FnC.of Try.prog n_ref03_Word c_ref03_Word := by unfold FnC.of; kernel_rfl
theorem of_ref04_in : FnC.of Try.prog n_ref04_in c_ref04_in := by unfold FnC.of; kernel_rfl
theorem of_script_may : FnC.of Try.prog n_script_may c_script_may := by unfold FnC.of; kernel_rfl
theorem of_script_legal_f1 : FnC.of Try.prog n_script_legal_f1 c_script_legal_f1 := by unfold FnC.of; kernel_rfl
theorem of_slices_stableCmpFunc_int : FnC.of Try.prog n_slices_stableCmpFunc_int c_slices_stableCmpFunc_int := by unfold FnC.of; kernel_rfl
theorem of_cmp_isNaN_int64 : FnC.of Try.prog n_cmp_isNaN_int64 c_cmp_isNaN_int64 := by unfold FnC.of; kernel_rfl
theorem of_heap_Heap_int_ahead : FnC.of Try.prog n_heap_Heap_int_ahead c_heap_Heap_int_ahead := by unfold FnC.of; kernel_rfl
theorem of_heap_Heap_int_swap : FnC.of Try.prog n_heap_Heap_int_swap c_heap_Heap_int_swap := by unfold FnC.of; kernel_rfl
theorem of_fifo_Queue_exec_waiting_Pop : FnC.of Try.prog n_fifo_Queue_exec_waiting_Pop c_fifo_Queue_exec_waiting_Pop := by unfold FnC.of; kernel_rfl
theorem of_fifo_Queue_exec_waiting_Len : FnC.of Try.prog n_fifo_Queue_exec_waiting_Len c_fifo_Queue_exec_waiting_Len := by unfold FnC.of; kernel_rfl
theorem of_fifo_New_exec_waiting : FnC.of Try.prog n_fifo_New_exec_waiting c_fifo_New_exec_waiting := by unfold FnC.of; kernel_rfl
theorem of_fifo_Queue_exec_waiting_Push : FnC.of Try.prog n_fifo_Queue_exec_waiting_Push c_fifo_Queue_exec_waiting_Push := by unfold FnC.of; kernel_rfl
theorem of_heap_Heap_int_Pop : FnC.of Try.prog n_heap_Heap_int_Pop c_heap_Heap_int_Pop := by unfold FnC.of; kernel_rfl
theorem of_fifo_Queue_exec_waiting_At : FnC.of Try.prog n_fifo_Queue_exec_waiting_At c_fifo_Queue_exec_waiting_At := by unfold FnC.of; kernel_rfl
theorem of_scan_letter : FnC.of Try.prog n_scan_letter c_scan_letter := by unfold FnC.of; kernel_rfl
theorem of_scan_long : FnC.of Try.prog n_scan_long c_scan_long := by unfold FnC.of; kernel_rfl
theorem of_scan_goes : FnC.of Try.prog n_scan_goes c_scan_goes := by unfold FnC.of; kernel_rfl
theorem of_math_bits_Mul64 : FnC.of Try.prog n_math_bits_Mul64 c_math_bits_Mul64 := by unfold FnC.of; kernel_rfl
theorem of_ref03_one : FnC.of Try.prog n_ref03_one c_ref03_one := by unfold FnC.of; kernel_rfl
theorem of_slices_insertionSortCmpFunc_int : FnC.of Try.prog n_slices_insertionSortCmpFunc_int c_slices_insertionSortCmpFunc_int := by unfold FnC.of; kernel_rfl
theorem of_slices_symMergeCmpFunc_int : FnC.of Try.prog n_slices_symMergeCmpFunc_int c_slices_symMergeCmpFunc_int := by unfold FnC.of; kernel_rfl
theorem of_fifo_Queue_exec_waiting_grow : FnC.of Try.prog n_fifo_Queue_exec_waiting_grow c_fifo_Queue_exec_waiting_grow := by unfold FnC.of; kernel_rfl
theorem of_heap_Heap_int_Peek : FnC.of Try.prog n_heap_Heap_int_Peek c_heap_Heap_int_Peek := by unfold FnC.of; kernel_rfl
theorem of_heap_Heap_int_down : FnC.of Try.prog n_heap_Heap_int_down c_heap_Heap_int_down := by unfold FnC.of; kernel_rfl
theorem of_scan_digit : FnC.of Try.prog n_scan_digit c_scan_digit := by unfold FnC.of; kernel_rfl
theorem of_ref03_letter : FnC.of Try.prog n_ref03_letter c_ref03_letter := by unfold FnC.of; kernel_rfl
theorem of_ref03_digit : FnC.of Try.prog n_ref03_digit c_ref03_digit := by unfold FnC.of; kernel_rfl
theorem of_slices_rotateCmpFunc_int : FnC.of Try.prog n_slices_rotateCmpFunc_int c_slices_rotateCmpFunc_int := by unfold FnC.of; kernel_rfl
theorem of_heap_Heap_int_Len : FnC.of Try.prog n_heap_Heap_int_Len c_heap_Heap_int_Len := by unfold FnC.of; kernel_rfl
theorem of_slices_swapRangeCmpFunc_int : FnC.of Try.prog n_slices_swapRangeCmpFunc_int c_slices_swapRangeCmpFunc_int := by unfold FnC.of; kernel_rfl
def tab : List (Nat × Bool × FnC) := [(n_law17_HyperTight, false, c_law17_HyperTight), (n_law17_awake, false, c_law17_awake), (n_ref04_Set, false, c_ref04_Set), (n_law17_set, false, c_law17_set), (n_hyper_Run, false, c_hyper_Run), (n_ref14_Bound, false, c_ref14_Bound), (n_hyper_Idle, false, c_hyper_Idle), (n_hyper_Jobs, false, c_hyper_Jobs), (n_ref04_rest, false, c_ref04_rest), (n_ref04_turns, false, c_ref04_turns), (n_law17_rest, false, c_law17_rest), (n_exec_Run, false, c_exec_Run), (n_trace_Worst, false, c_trace_Worst), (n_ref13_Is, false, c_ref13_Is), (n_ref13_Need, false, c_ref13_Need), (n_exec_Until, false, c_exec_Until), (n_trace_Long, false, c_trace_Long), (n_task_CheckAll, false, c_task_CheckAll), (n_load_Period, false, c_load_Period), (n_hyper_ticks, false, c_hyper_ticks), (n_ref04_CheckAll, false, c_ref04_CheckAll), (n_trace_Response, false, c_trace_Response), (n_ref01_Sum, false, c_ref01_Sum), (n_ref13_Block, false, c_ref13_Block), (n_ref13_Higher, false, c_ref13_Higher), (n_script_Legal, false, c_script_Legal), (n_stream_Order, false, c_stream_Order), (n_heap_New_int, false, c_heap_New_int), (n_exec_Until_f1, false, c_exec_Until_f1), (n_exec_executive_run, true, c_exec_executive_run), (n_trace_Busy, false, c_trace_Busy), (n_task_Check, false, c_task_Check), (n_num_Lcm, false, c_num_Lcm), (n_hyper_ticks_f1, false, c_hyper_ticks_f1), (n_ref04_Check, false, c_ref04_Check), (n_ref01_End, false, c_ref01_End), (n_ref01_Add, false, c_ref01_Add), (n_ref01_Ceil, false, c_ref01_Ceil), (n_ref01_Mul, false, c_ref01_Mul), (n_script_legal, false, c_script_legal), (n_script_Legal_f1, false, c_script_Legal_f1), (n_slices_SortStableFunc_int_int, true, c_slices_SortStableFunc_int_int), (n_stream_Order_f1, false, c_stream_Order_f1), (n_cmp_Compare_int64, false, c_cmp_Compare_int64), (n_heap_Heap_int_Push, true, c_heap_Heap_int_Push), (n_exec_executive_work, true, c_exec_executive_work), (n_exec_executive_release, true, c_exec_executive_release), (n_exec_executive_choose, true, c_exec_executive_choose), (n_exec_executive_next, false, c_exec_executive_next), (n_trace_Busy_f1, false, c_trace_Busy_f1), (n_task_Check_f1, false, c_task_Check_f1), (n_task_Check_f2, false, c_task_Check_f2), (n_scan_Word, false, c_scan_Word), (n_task_Check_f3, false, c_task_Check_f3), (n_task_first, false, c_task_first), (n_num_Mul, false, c_num_Mul), (n_num_Gcd, false, c_num_Gcd), (n_ref03_Word, false, c_ref03_Word), (n_ref04_in, false, c_ref04_in), (n_script_may, false, c_script_may), (n_script_legal_f1, false, c_script_legal_f1), (n_slices_stableCmpFunc_int, true, c_slices_stableCmpFunc_int), (n_cmp_isNaN_int64, false, c_cmp_isNaN_int64), (n_heap_Heap_int_ahead, false, c_heap_Heap_int_ahead), (n_heap_Heap_int_swap, true, c_heap_Heap_int_swap), (n_fifo_Queue_exec_waiting_Pop, true, c_fifo_Queue_exec_waiting_Pop), (n_fifo_Queue_exec_waiting_Len, false, c_fifo_Queue_exec_waiting_Len), (n_fifo_New_exec_waiting, false, c_fifo_New_exec_waiting), (n_fifo_Queue_exec_waiting_Push, true, c_fifo_Queue_exec_waiting_Push), (n_heap_Heap_int_Pop, true, c_heap_Heap_int_Pop), (n_fifo_Queue_exec_waiting_At, false, c_fifo_Queue_exec_waiting_At), (n_scan_letter, false, c_scan_letter), (n_scan_long, false, c_scan_long), (n_scan_goes, false, c_scan_goes), (n_math_bits_Mul64, false, c_math_bits_Mul64), (n_ref03_one, false, c_ref03_one), (n_slices_insertionSortCmpFunc_int, true, c_slices_insertionSortCmpFunc_int), (n_slices_symMergeCmpFunc_int, true, c_slices_symMergeCmpFunc_int), (n_fifo_Queue_exec_waiting_grow, true, c_fifo_Queue_exec_waiting_grow), (n_heap_Heap_int_Peek, false, c_heap_Heap_int_Peek), (n_heap_Heap_int_down, true, c_heap_Heap_int_down), (n_scan_digit, false, c_scan_digit), (n_ref03_letter, false, c_ref03_letter), (n_ref03_digit, false, c_ref03_digit), (n_slices_rotateCmpFunc_int, true, c_slices_rotateCmpFunc_int), (n_heap_Heap_int_Len, false, c_heap_Heap_int_Len), (n_slices_swapRangeCmpFunc_int, true, c_slices_swapRangeCmpFunc_int)]
theorem tab_of : ∀ p ∈ tab, FnC.of Try.prog p.1 p.2.2 := by
  unfold tab
  refine List.forall_mem_cons.2 ⟨of_law17_HyperTight, ?_⟩
  refine List.forall_mem_cons.2 ⟨of_law17_awake, ?_⟩
  refine List.forall_mem_cons.2 ⟨of_ref04_Set, ?_⟩
  refine List.forall_mem_cons.2 ⟨of_law17_set, ?_⟩
  refine List.forall_mem_cons.2 ⟨of_hyper_Run, ?_⟩
  refine List.forall_mem_cons.2 ⟨of_ref14_Bound, ?_⟩
  refine List.forall_mem_cons.2 ⟨of_hyper_Idle, ?_⟩
  refine List.forall_mem_cons.2 ⟨of_hyper_Jobs, ?_⟩
  refine List.forall_mem_cons.2 ⟨of_ref04_rest, ?_⟩
  refine List.forall_mem_cons.2 ⟨of_ref04_turns, ?_⟩
  refine List.forall_mem_cons.2 ⟨of_law17_rest, ?_⟩
  refine List.forall_mem_cons.2 ⟨of_exec_Run, ?_⟩
  refine List.forall_mem_cons.2 ⟨of_trace_Worst, ?_⟩
  refine List.forall_mem_cons.2 ⟨of_ref13_Is, ?_⟩
  refine List.forall_mem_cons.2 ⟨of_ref13_Need, ?_⟩
  refine List.forall_mem_cons.2 ⟨of_exec_Until, ?_⟩
  refine List.forall_mem_cons.2 ⟨of_trace_Long, ?_⟩
  refine List.forall_mem_cons.2 ⟨of_task_CheckAll, ?_⟩
  refine List.forall_mem_cons.2 ⟨of_load_Period, ?_⟩
  refine List.forall_mem_cons.2 ⟨of_hyper_ticks, ?_⟩
  refine List.forall_mem_cons.2 ⟨of_ref04_CheckAll, ?_⟩
  refine List.forall_mem_cons.2 ⟨of_trace_Response, ?_⟩
  refine List.forall_mem_cons.2 ⟨of_ref01_Sum, ?_⟩
  refine List.forall_mem_cons.2 ⟨of_ref13_Block, ?_⟩
  refine List.forall_mem_cons.2 ⟨of_ref13_Higher, ?_⟩
  refine List.forall_mem_cons.2 ⟨of_script_Legal, ?_⟩
  refine List.forall_mem_cons.2 ⟨of_stream_Order, ?_⟩
  refine List.forall_mem_cons.2 ⟨of_heap_New_int, ?_⟩
  refine List.forall_mem_cons.2 ⟨of_exec_Until_f1, ?_⟩
  refine List.forall_mem_cons.2 ⟨of_exec_executive_run, ?_⟩
  refine List.forall_mem_cons.2 ⟨of_trace_Busy, ?_⟩
  refine List.forall_mem_cons.2 ⟨of_task_Check, ?_⟩
  refine List.forall_mem_cons.2 ⟨of_num_Lcm, ?_⟩
  refine List.forall_mem_cons.2 ⟨of_hyper_ticks_f1, ?_⟩
  refine List.forall_mem_cons.2 ⟨of_ref04_Check, ?_⟩
  refine List.forall_mem_cons.2 ⟨of_ref01_End, ?_⟩
  refine List.forall_mem_cons.2 ⟨of_ref01_Add, ?_⟩
  refine List.forall_mem_cons.2 ⟨of_ref01_Ceil, ?_⟩
  refine List.forall_mem_cons.2 ⟨of_ref01_Mul, ?_⟩
  refine List.forall_mem_cons.2 ⟨of_script_legal, ?_⟩
  refine List.forall_mem_cons.2 ⟨of_script_Legal_f1, ?_⟩
  refine List.forall_mem_cons.2 ⟨of_slices_SortStableFunc_int_int, ?_⟩
  refine List.forall_mem_cons.2 ⟨of_stream_Order_f1, ?_⟩
  refine List.forall_mem_cons.2 ⟨of_cmp_Compare_int64, ?_⟩
  refine List.forall_mem_cons.2 ⟨of_heap_Heap_int_Push, ?_⟩
  refine List.forall_mem_cons.2 ⟨of_exec_executive_work, ?_⟩
  refine List.forall_mem_cons.2 ⟨of_exec_executive_release, ?_⟩
  refine List.forall_mem_cons.2 ⟨of_exec_executive_choose, ?_⟩
  refine List.forall_mem_cons.2 ⟨of_exec_executive_next, ?_⟩
  refine List.forall_mem_cons.2 ⟨of_trace_Busy_f1, ?_⟩
  refine List.forall_mem_cons.2 ⟨of_task_Check_f1, ?_⟩
  refine List.forall_mem_cons.2 ⟨of_task_Check_f2, ?_⟩
  refine List.forall_mem_cons.2 ⟨of_scan_Word, ?_⟩
  refine List.forall_mem_cons.2 ⟨of_task_Check_f3, ?_⟩
  refine List.forall_mem_cons.2 ⟨of_task_first, ?_⟩
  refine List.forall_mem_cons.2 ⟨of_num_Mul, ?_⟩
  refine List.forall_mem_cons.2 ⟨of_num_Gcd, ?_⟩
  refine List.forall_mem_cons.2 ⟨of_ref03_Word, ?_⟩
  refine List.forall_mem_cons.2 ⟨of_ref04_in, ?_⟩
  refine List.forall_mem_cons.2 ⟨of_script_may, ?_⟩
  refine List.forall_mem_cons.2 ⟨of_script_legal_f1, ?_⟩
  refine List.forall_mem_cons.2 ⟨of_slices_stableCmpFunc_int, ?_⟩
  refine List.forall_mem_cons.2 ⟨of_cmp_isNaN_int64, ?_⟩
  refine List.forall_mem_cons.2 ⟨of_heap_Heap_int_ahead, ?_⟩
  refine List.forall_mem_cons.2 ⟨of_heap_Heap_int_swap, ?_⟩
  refine List.forall_mem_cons.2 ⟨of_fifo_Queue_exec_waiting_Pop, ?_⟩
  refine List.forall_mem_cons.2 ⟨of_fifo_Queue_exec_waiting_Len, ?_⟩
  refine List.forall_mem_cons.2 ⟨of_fifo_New_exec_waiting, ?_⟩
  refine List.forall_mem_cons.2 ⟨of_fifo_Queue_exec_waiting_Push, ?_⟩
  refine List.forall_mem_cons.2 ⟨of_heap_Heap_int_Pop, ?_⟩
  refine List.forall_mem_cons.2 ⟨of_fifo_Queue_exec_waiting_At, ?_⟩
  refine List.forall_mem_cons.2 ⟨of_scan_letter, ?_⟩
  refine List.forall_mem_cons.2 ⟨of_scan_long, ?_⟩
  refine List.forall_mem_cons.2 ⟨of_scan_goes, ?_⟩
  refine List.forall_mem_cons.2 ⟨of_math_bits_Mul64, ?_⟩
  refine List.forall_mem_cons.2 ⟨of_ref03_one, ?_⟩
  refine List.forall_mem_cons.2 ⟨of_slices_insertionSortCmpFunc_int, ?_⟩
  refine List.forall_mem_cons.2 ⟨of_slices_symMergeCmpFunc_int, ?_⟩
  refine List.forall_mem_cons.2 ⟨of_fifo_Queue_exec_waiting_grow, ?_⟩
  refine List.forall_mem_cons.2 ⟨of_heap_Heap_int_Peek, ?_⟩
  refine List.forall_mem_cons.2 ⟨of_heap_Heap_int_down, ?_⟩
  refine List.forall_mem_cons.2 ⟨of_scan_digit, ?_⟩
  refine List.forall_mem_cons.2 ⟨of_ref03_letter, ?_⟩
  refine List.forall_mem_cons.2 ⟨of_ref03_digit, ?_⟩
  refine List.forall_mem_cons.2 ⟨of_slices_rotateCmpFunc_int, ?_⟩
  refine List.forall_mem_cons.2 ⟨of_heap_Heap_int_Len, ?_⟩
  refine List.forall_mem_cons.2 ⟨of_slices_swapRangeCmpFunc_int, ?_⟩
  intro p hp; cases hp
def find : List (Nat × Bool × FnC) → Nat → Def
  | [], _ => .none
  | p :: r, f => if f = p.1 then (if p.2.1 = true then .textK p.2.2 else .text p.2.2) else find r f
theorem find_mem : ∀ {l : List (Nat × Bool × FnC)} {f : Nat} {c : FnC}, find l f = .text c ∨ find l f = .textK c → ∃ k, (f, k, c) ∈ l
  | [], f, c, h => by rcases h with h | h <;> cases h
  | p :: r, f, c, h => by
    obtain ⟨pn, pk, pc⟩ := p
    unfold find at h
    by_cases e : f = pn
    · subst e
      cases pk with
      | true => simp at h; subst h; exact ⟨true, List.mem_cons_self⟩
      | false => simp at h; subst h; exact ⟨false, List.mem_cons_self⟩
    · simp only [e, if_false] at h
      obtain ⟨k, hk⟩ := find_mem h
      exact ⟨k, List.mem_cons_of_mem _ hk⟩
theorem find_ext : ∀ {l : List (Nat × Bool × FnC)} {f : Nat} {e}, find l f ≠ .ext e
  | [], f, e => by intro h; cases h
  | p :: r, f, e => by
    unfold find
    split
    · split <;> (intro h; cases h)
    · exact find_ext
theorem tab_mem {f : Nat} {c : FnC} (h : find tab f = .text c ∨ find tab f = .textK c) : FnC.of Try.prog f c := by
  obtain ⟨k, hk⟩ := find_mem h
  exact tab_of _ hk
def envA : Env := find tab
theorem envA_ok : EnvOK Try.prog envA := ⟨by kernel_rfl, fun f e h => absurd h find_ext, fun f c h => tab_mem (.inl h), fun f c h => tab_mem (.inr h), fun f e h => absurd h find_ext⟩
theorem awake_run : callv envA 300 (.func (.func n_law17_awake) #[] #[]) [] [] = some (.bool true, [], []) := by kernel_rfl
theorem awake_ok : ExtOK Try.prog n_law17_awake (constE [] (.bool true)) := closed_ext envA_ok (c := c_law17_awake) rfl rfl (by kernel_rfl) rfl rfl awake_run
noncomputable def env : Env := fun f => if f = n_law17_awake then .ext (constE [] (.bool true)) else find tab f
theorem env_ext {f : Nat} {e} (h : env f = .ext e) : f = n_law17_awake ∧ e = constE [] (.bool true) := by
  unfold env at h
  split at h
  · rename_i e1; cases h; exact ⟨e1, rfl⟩
  · exact absurd h find_ext
theorem env_text {f : Nat} {c} (h : env f = .text c) : find tab f = .text c := by
  unfold env at h
  split at h
  · cases h
  · exact h
theorem env_textK {f : Nat} {c} (h : env f = .textK c) : find tab f = .textK c := by
  unfold env at h
  split at h
  · cases h
  · exact h
theorem env_keep : KeepE env := by
  intro f e h args hh v h2 ws hv
  obtain ⟨rfl, rfl⟩ := env_ext h
  exact constE_keep _ _ _ _ _ _ _ hv
theorem env_ok : EnvOK Try.prog env := by
  refine ⟨by kernel_rfl, env_keep, fun f c h => tab_mem (.inl (env_text h)), fun f c h => tab_mem (.inr (env_textK h)), fun f e h => ?_⟩
  obtain ⟨rfl, rfl⟩ := env_ext h
  exact .inl ⟨⟨_, Try.func5, by kernel_rfl, by kernel_rfl⟩, awake_ok⟩
theorem laid : Laid env := ⟨env_keep, rfl, rfl, rfl, rfl, rfl, rfl, rfl, rfl, rfl, rfl, rfl, rfl, rfl, rfl, rfl, rfl, rfl, rfl, rfl, rfl, rfl, rfl, rfl, rfl, rfl, rfl, rfl, rfl, rfl, rfl, rfl, rfl, rfl, rfl, rfl, rfl, rfl, rfl, rfl, rfl, rfl, rfl, rfl, rfl, rfl, rfl, rfl, rfl, rfl, rfl, rfl, rfl, rfl, rfl, rfl, rfl, rfl, rfl, rfl, rfl, rfl, rfl, rfl, rfl, rfl, rfl, rfl, rfl, rfl, rfl, rfl, rfl, rfl, rfl, rfl, rfl, rfl, rfl, rfl, rfl, rfl, rfl, rfl, rfl, rfl, rfl⟩
theorem callX {E : Env} {g : FuncId} {e : List Value → Heap → Option (Value × Heap × List Nat)} (hf : E g = .ext e) (args : List Value) (h : Heap) : callW E (.func (.func g) #[] #[]) args h = e args h := by
  rw [callW_eq]; simp [callG, hf, callF]
theorem awakes : ∀ h, callW env (.func (.func n_law17_awake) #[] #[]) [] h = some (.bool true, h, []) := fun h => by
  rw [callX (show env n_law17_awake = .ext (constE [] (.bool true)) from if_pos rfl)]
  exact constE_at (fun g o hg => by simp at hg)
end Go.L.Try
