/- MADE BY PROGRAM (wip/gen/emit2.py): the instructions are those of the program. -/
import Derived.Test.YtkfkdhgnddcfdaaCode
import Derived.Test.YtkfkdhgnddcfdaaSh
import Derived.Test.YtkfkdhgnddcfdaaProg
import Derived.KernelRfl
set_option maxRecDepth 100000
set_option linter.unusedVariables false
namespace Go.L.Try
open Go Go.L Go.Proofs
theorem of_cadencylaw11_TraceBusy : FnC.of Try.prog n_cadencylaw11_TraceBusy c_cadencylaw11_TraceBusy := by unfold FnC.of; kernel_rfl
theorem of_cadencylaw11_TraceFits : FnC.of Try.prog n_cadencylaw11_TraceFits c_cadencylaw11_TraceFits := by unfold FnC.of; kernel_rfl
theorem of_cadencylaw11_TraceCut : FnC.of Try.prog n_cadencylaw11_TraceCut c_cadencylaw11_TraceCut := by unfold FnC.of; kernel_rfl
theorem of_cadencylaw11_TraceRuns : FnC.of Try.prog n_cadencylaw11_TraceRuns c_cadencylaw11_TraceRuns := by unfold FnC.of; kernel_rfl
theorem of_cadencyref04_Set : FnC.of Try.prog n_cadencyref04_Set c_cadencyref04_Set := by unfold FnC.of; kernel_rfl
theorem of_cadencyref08_Decode : FnC.of Try.prog n_cadencyref08_Decode c_cadencyref08_Decode := by unfold FnC.of; kernel_rfl
theorem of_cadencyref08_Few : FnC.of Try.prog n_cadencyref08_Few c_cadencyref08_Few := by unfold FnC.of; kernel_rfl
theorem of_exec_Run : FnC.of Try.prog n_exec_Run c_exec_Run := by unfold FnC.of; kernel_rfl
theorem of_exec_Until : FnC.of Try.prog n_exec_Until c_exec_Until := by unfold FnC.of; kernel_rfl
theorem of_cadencylaw11_awake : FnC.of Try.prog n_cadencylaw11_awake c_cadencylaw11_awake := by unfold FnC.of; kernel_rfl
theorem of_trace_Busy : FnC.of Try.prog n_trace_Busy c_trace_Busy := by unfold FnC.of; kernel_rfl
theorem of_cadencylaw11_rest : FnC.of Try.prog n_cadencylaw11_rest c_cadencylaw11_rest := by unfold FnC.of; kernel_rfl
theorem of_cadencyref10_Run : FnC.of Try.prog n_cadencyref10_Run c_cadencyref10_Run := by unfold FnC.of; kernel_rfl
theorem of_trace_Fits : FnC.of Try.prog n_trace_Fits c_trace_Fits := by unfold FnC.of; kernel_rfl
theorem of_cadencyref11_Fits : FnC.of Try.prog n_cadencyref11_Fits c_cadencyref11_Fits := by unfold FnC.of; kernel_rfl
theorem of_trace_Ends : FnC.of Try.prog n_trace_Ends c_trace_Ends := by unfold FnC.of; kernel_rfl
theorem of_cadencyref10_SameTicks : FnC.of Try.prog n_cadencyref10_SameTicks c_cadencyref10_SameTicks := by unfold FnC.of; kernel_rfl
theorem of_trace_Misses : FnC.of Try.prog n_trace_Misses c_trace_Misses := by unfold FnC.of; kernel_rfl
theorem of_trace_Response : FnC.of Try.prog n_trace_Response c_trace_Response := by unfold FnC.of; kernel_rfl
theorem of_trace_Worst : FnC.of Try.prog n_trace_Worst c_trace_Worst := by unfold FnC.of; kernel_rfl
theorem of_cadencyref10_Same : FnC.of Try.prog n_cadencyref10_Same c_cadencyref10_Same := by unfold FnC.of; kernel_rfl
theorem of_cadencyref04_rest : FnC.of Try.prog n_cadencyref04_rest c_cadencyref04_rest := by unfold FnC.of; kernel_rfl
theorem of_cadencyref04_turns : FnC.of Try.prog n_cadencyref04_turns c_cadencyref04_turns := by unfold FnC.of; kernel_rfl
theorem of_cadencyref04_CheckAll : FnC.of Try.prog n_cadencyref04_CheckAll c_cadencyref04_CheckAll := by unfold FnC.of; kernel_rfl
theorem of_cadencyref08_rest : FnC.of Try.prog n_cadencyref08_rest c_cadencyref08_rest := by unfold FnC.of; kernel_rfl
theorem of_cadencyref08_last : FnC.of Try.prog n_cadencyref08_last c_cadencyref08_last := by unfold FnC.of; kernel_rfl
theorem of_script_Legal : FnC.of Try.prog n_script_Legal c_script_Legal := by unfold FnC.of; kernel_rfl
theorem of_stream_Order : FnC.of Try.prog n_stream_Order c_stream_Order := by unfold FnC.of; kernel_rfl
theorem of_heap_New_int : FnC.of Try.prog n_heap_New_int c_heap_New_int := by unfold FnC.of; kernel_rfl
theorem of_exec_Until_f1 : FnC.of Try.prog n_exec_Until_f1 c_exec_Until_f1 := by unfold FnC.of; kernel_rfl
theorem of_exec_executive_run : FnC.of Try.prog n_exec_executive_run c_exec_executive_run := by unfold FnC.of; kernel_rfl
theorem of_trace_Busy_f1 : FnC.of Try.prog n_trace_Busy_f1 c_trace_Busy_f1 := by unfold FnC.of; kernel_rfl
theorem of_cadencyref08_Legal : FnC.of Try.prog n_cadencyref08_Legal c_cadencyref08_Legal := by unfold FnC.of; kernel_rfl
theorem of_cadencyref10_Until : FnC.of Try.prog n_cadencyref10_Until c_cadencyref10_Until := by unfold FnC.of; kernel_rfl
theorem of_cadencyref04_Check : FnC.of Try.prog n_cadencyref04_Check c_cadencyref04_Check := by unfold FnC.of; kernel_rfl
theorem of_script_legal : FnC.of Try.prog n_script_legal c_script_legal := by unfold FnC.of; kernel_rfl
theorem of_script_Legal_f1 : FnC.of Try.prog n_script_Legal_f1 c_script_Legal_f1 := by unfold FnC.of; kernel_rfl
theorem of_slices_SortStableFunc_int_int : FnC.of Try.prog n_slices_SortStableFunc_int_int c_slices_SortStableFunc_int_int := by unfold FnC.of; kernel_rfl
theorem of_stream_Order_f1 : FnC.of Try.prog n_stream_Order_f1 c_stream_Order_f1 := by unfold FnC.of; kernel_rfl
theorem of_cmp_Compare_int64 : FnC.of Try.prog n_cmp_Compare_int64 c_cmp_Compare_int64 := by unfold FnC.of; kernel_rfl
theorem of_heap_Heap_int_Push : FnC.of Try.prog n_heap_Heap_int_Push c_heap_Heap_int_Push := by unfold FnC.of; kernel_rfl
theorem of_exec_executive_work : FnC.of Try.prog n_exec_executive_work c_exec_executive_work := by unfold FnC.of; kernel_rfl
theorem of_exec_executive_release : FnC.of Try.prog n_exec_executive_release c_exec_executive_release := by unfold FnC.of; kernel_rfl
theorem of_exec_executive_choose : FnC.of Try.prog n_exec_executive_choose c_exec_executive_choose := by unfold FnC.of; kernel_rfl
theorem of_exec_executive_next : FnC.of Try.prog n_exec_executive_next c_exec_executive_next := by unfold FnC.of; kernel_rfl
theorem of_cadencyref10_within : FnC.of Try.prog n_cadencyref10_within c_cadencyref10_within := by unfold FnC.of; kernel_rfl
theorem of_cadencyref10_pick : FnC.of Try.prog n_cadencyref10_pick c_cadencyref10_pick := by unfold FnC.of; kernel_rfl
theorem of_cadencyref03_Word : FnC.of Try.prog n_cadencyref03_Word c_cadencyref03_Word := by unfold FnC.of; kernel_rfl
theorem of_cadencyref04_in : FnC.of Try.prog n_cadencyref04_in c_cadencyref04_in := by unfold FnC.of; kernel_rfl
theorem of_script_may : FnC.of Try.prog n_script_may c_script_may := by unfold FnC.of; kernel_rfl
theorem of_script_legal_f1 : FnC.of Try.prog n_script_legal_f1 c_script_legal_f1 := by unfold FnC.of; kernel_rfl
theorem of_slices_stableCmpFunc_int : FnC.of Try.prog n_slices_stableCmpFunc_int c_slices_stableCmpFunc_int := by unfold FnC.of; kernel_rfl
theorem of_cmp_isNaN_int64 : FnC.of Try.prog n_cmp_isNaN_int64 c_cmp_isNaN_int64 := by unfold FnC.of; kernel_rfl
theorem of_heap_Heap_int_ahead : FnC.of Try.prog n_heap_Heap_int_ahead c_heap_Heap_int_ahead := by unfold FnC.of; kernel_rfl
theorem of_heap_Heap_int_swap : FnC.of Try.prog n_heap_Heap_int_swap c_heap_Heap_int_swap := by unfold FnC.of; kernel_rfl
theorem of_fifo_Queue_exec_waiting_Pop : FnC.of Try.prog n_fifo_Queue_exec_waiting_Pop c_fifo_Queue_exec_waiting_Pop := by unfold FnC.of; kernel_rfl
theorem of_fifo_Queue_exec_waiting_Len : FnC.of Try.prog n_fifo_Queue_exec_waiting_Len c_fifo_Queue_exec_waiting_Len := by unfold FnC.of; kernel_rfl
theorem of_fifo_New_exec_waiting : FnC.of Try.prog n_fifo_New_exec_waiting c_fifo_New_exec_waiting := by unfold FnC.of; kernel_rfl
theorem of_fifo_Queue_exec_waiting_Push : FnC.of Try.prog n_fifo_Queue_exec_waiting_Push c_fifo_Queue_exec_waiting_Push := by unfold FnC.of; kernel_rfl
theorem of_heap_Heap_int_Pop : FnC.of Try.prog n_heap_Heap_int_Pop c_heap_Heap_int_Pop := by unfold FnC.of; kernel_rfl
theorem of_fifo_Queue_exec_waiting_At : FnC.of Try.prog n_fifo_Queue_exec_waiting_At c_fifo_Queue_exec_waiting_At := by unfold FnC.of; kernel_rfl
theorem of_cadencyref03_one : FnC.of Try.prog n_cadencyref03_one c_cadencyref03_one := by unfold FnC.of; kernel_rfl
theorem of_task_CheckAll : FnC.of Try.prog n_task_CheckAll c_task_CheckAll := by unfold FnC.of; kernel_rfl
theorem of_slices_insertionSortCmpFunc_int : FnC.of Try.prog n_slices_insertionSortCmpFunc_int c_slices_insertionSortCmpFunc_int := by unfold FnC.of; kernel_rfl
theorem of_slices_symMergeCmpFunc_int : FnC.of Try.prog n_slices_symMergeCmpFunc_int c_slices_symMergeCmpFunc_int := by unfold FnC.of; kernel_rfl
theorem of_fifo_Queue_exec_waiting_grow : FnC.of Try.prog n_fifo_Queue_exec_waiting_grow c_fifo_Queue_exec_waiting_grow := by unfold FnC.of; kernel_rfl
theorem of_heap_Heap_int_Peek : FnC.of Try.prog n_heap_Heap_int_Peek c_heap_Heap_int_Peek := by unfold FnC.of; kernel_rfl
theorem of_heap_Heap_int_down : FnC.of Try.prog n_heap_Heap_int_down c_heap_Heap_int_down := by unfold FnC.of; kernel_rfl
theorem of_cadencyref03_letter : FnC.of Try.prog n_cadencyref03_letter c_cadencyref03_letter := by unfold FnC.of; kernel_rfl
theorem of_cadencyref03_digit : FnC.of Try.prog n_cadencyref03_digit c_cadencyref03_digit := by unfold FnC.of; kernel_rfl
theorem of_task_Check : FnC.of Try.prog n_task_Check c_task_Check := by unfold FnC.of; kernel_rfl
theorem of_slices_rotateCmpFunc_int : FnC.of Try.prog n_slices_rotateCmpFunc_int c_slices_rotateCmpFunc_int := by unfold FnC.of; kernel_rfl
theorem of_heap_Heap_int_Len : FnC.of Try.prog n_heap_Heap_int_Len c_heap_Heap_int_Len := by unfold FnC.of; kernel_rfl
theorem of_task_Check_f1 : FnC.of Try.prog n_task_Check_f1 c_task_Check_f1 := by unfold FnC.of; kernel_rfl
theorem of_task_Check_f2 : FnC.of Try.prog n_task_Check_f2 c_task_Check_f2 := by unfold FnC.of; kernel_rfl
theorem of_scan_Word : FnC.of Try.prog n_scan_Word c_scan_Word := by unfold FnC.of; kernel_rfl
theorem of_task_Check_f3 : FnC.of Try.prog n_task_Check_f3 c_task_Check_f3 := by unfold FnC.of; kernel_rfl
theorem of_task_first : FnC.of Try.prog n_task_first c_task_first := by unfold FnC.of; kernel_rfl
theorem of_slices_swapRangeCmpFunc_int : FnC.of Try.prog n_slices_swapRangeCmpFunc_int c_slices_swapRangeCmpFunc_int := by unfold FnC.of; kernel_rfl
theorem of_scan_letter : FnC.of Try.prog n_scan_letter c_scan_letter := by unfold FnC.of; kernel_rfl
theorem of_scan_long : FnC.of Try.prog n_scan_long c_scan_long := by unfold FnC.of; kernel_rfl
theorem of_scan_goes : FnC.of Try.prog n_scan_goes c_scan_goes := by unfold FnC.of; kernel_rfl
theorem of_scan_digit : FnC.of Try.prog n_scan_digit c_scan_digit := by unfold FnC.of; kernel_rfl
def tab : List (Nat × Bool × FnC) := [(n_cadencylaw11_TraceBusy, false, c_cadencylaw11_TraceBusy), (n_cadencylaw11_TraceFits, false, c_cadencylaw11_TraceFits), (n_cadencylaw11_TraceCut, false, c_cadencylaw11_TraceCut), (n_cadencylaw11_TraceRuns, false, c_cadencylaw11_TraceRuns), (n_cadencyref04_Set, false, c_cadencyref04_Set), (n_cadencyref08_Decode, false, c_cadencyref08_Decode), (n_cadencyref08_Few, false, c_cadencyref08_Few), (n_exec_Run, false, c_exec_Run), (n_exec_Until, false, c_exec_Until), (n_cadencylaw11_awake, false, c_cadencylaw11_awake), (n_trace_Busy, false, c_trace_Busy), (n_cadencylaw11_rest, false, c_cadencylaw11_rest), (n_cadencyref10_Run, false, c_cadencyref10_Run), (n_trace_Fits, false, c_trace_Fits), (n_cadencyref11_Fits, false, c_cadencyref11_Fits), (n_trace_Ends, false, c_trace_Ends), (n_cadencyref10_SameTicks, false, c_cadencyref10_SameTicks), (n_trace_Misses, false, c_trace_Misses), (n_trace_Response, false, c_trace_Response), (n_trace_Worst, false, c_trace_Worst), (n_cadencyref10_Same, false, c_cadencyref10_Same), (n_cadencyref04_rest, false, c_cadencyref04_rest), (n_cadencyref04_turns, false, c_cadencyref04_turns), (n_cadencyref04_CheckAll, false, c_cadencyref04_CheckAll), (n_cadencyref08_rest, false, c_cadencyref08_rest), (n_cadencyref08_last, false, c_cadencyref08_last), (n_script_Legal, false, c_script_Legal), (n_stream_Order, false, c_stream_Order), (n_heap_New_int, false, c_heap_New_int), (n_exec_Until_f1, false, c_exec_Until_f1), (n_exec_executive_run, true, c_exec_executive_run), (n_trace_Busy_f1, false, c_trace_Busy_f1), (n_cadencyref08_Legal, false, c_cadencyref08_Legal), (n_cadencyref10_Until, false, c_cadencyref10_Until), (n_cadencyref04_Check, false, c_cadencyref04_Check), (n_script_legal, false, c_script_legal), (n_script_Legal_f1, false, c_script_Legal_f1), (n_slices_SortStableFunc_int_int, true, c_slices_SortStableFunc_int_int), (n_stream_Order_f1, false, c_stream_Order_f1), (n_cmp_Compare_int64, false, c_cmp_Compare_int64), (n_heap_Heap_int_Push, true, c_heap_Heap_int_Push), (n_exec_executive_work, true, c_exec_executive_work), (n_exec_executive_release, true, c_exec_executive_release), (n_exec_executive_choose, true, c_exec_executive_choose), (n_exec_executive_next, false, c_exec_executive_next), (n_cadencyref10_within, false, c_cadencyref10_within), (n_cadencyref10_pick, false, c_cadencyref10_pick), (n_cadencyref03_Word, false, c_cadencyref03_Word), (n_cadencyref04_in, false, c_cadencyref04_in), (n_script_may, false, c_script_may), (n_script_legal_f1, false, c_script_legal_f1), (n_slices_stableCmpFunc_int, true, c_slices_stableCmpFunc_int), (n_cmp_isNaN_int64, false, c_cmp_isNaN_int64), (n_heap_Heap_int_ahead, false, c_heap_Heap_int_ahead), (n_heap_Heap_int_swap, true, c_heap_Heap_int_swap), (n_fifo_Queue_exec_waiting_Pop, true, c_fifo_Queue_exec_waiting_Pop), (n_fifo_Queue_exec_waiting_Len, false, c_fifo_Queue_exec_waiting_Len), (n_fifo_New_exec_waiting, false, c_fifo_New_exec_waiting), (n_fifo_Queue_exec_waiting_Push, true, c_fifo_Queue_exec_waiting_Push), (n_heap_Heap_int_Pop, true, c_heap_Heap_int_Pop), (n_fifo_Queue_exec_waiting_At, false, c_fifo_Queue_exec_waiting_At), (n_cadencyref03_one, false, c_cadencyref03_one), (n_task_CheckAll, false, c_task_CheckAll), (n_slices_insertionSortCmpFunc_int, true, c_slices_insertionSortCmpFunc_int), (n_slices_symMergeCmpFunc_int, false, c_slices_symMergeCmpFunc_int), (n_fifo_Queue_exec_waiting_grow, true, c_fifo_Queue_exec_waiting_grow), (n_heap_Heap_int_Peek, false, c_heap_Heap_int_Peek), (n_heap_Heap_int_down, true, c_heap_Heap_int_down), (n_cadencyref03_letter, false, c_cadencyref03_letter), (n_cadencyref03_digit, false, c_cadencyref03_digit), (n_task_Check, false, c_task_Check), (n_slices_rotateCmpFunc_int, false, c_slices_rotateCmpFunc_int), (n_heap_Heap_int_Len, false, c_heap_Heap_int_Len), (n_task_Check_f1, false, c_task_Check_f1), (n_task_Check_f2, false, c_task_Check_f2), (n_scan_Word, false, c_scan_Word), (n_task_Check_f3, false, c_task_Check_f3), (n_task_first, false, c_task_first), (n_slices_swapRangeCmpFunc_int, false, c_slices_swapRangeCmpFunc_int), (n_scan_letter, false, c_scan_letter), (n_scan_long, false, c_scan_long), (n_scan_goes, false, c_scan_goes), (n_scan_digit, false, c_scan_digit)]
theorem tab_of : ∀ p ∈ tab, FnC.of Try.prog p.1 p.2.2 := by
  unfold tab
  refine List.forall_mem_cons.2 ⟨of_cadencylaw11_TraceBusy, ?_⟩
  refine List.forall_mem_cons.2 ⟨of_cadencylaw11_TraceFits, ?_⟩
  refine List.forall_mem_cons.2 ⟨of_cadencylaw11_TraceCut, ?_⟩
  refine List.forall_mem_cons.2 ⟨of_cadencylaw11_TraceRuns, ?_⟩
  refine List.forall_mem_cons.2 ⟨of_cadencyref04_Set, ?_⟩
  refine List.forall_mem_cons.2 ⟨of_cadencyref08_Decode, ?_⟩
  refine List.forall_mem_cons.2 ⟨of_cadencyref08_Few, ?_⟩
  refine List.forall_mem_cons.2 ⟨of_exec_Run, ?_⟩
  refine List.forall_mem_cons.2 ⟨of_exec_Until, ?_⟩
  refine List.forall_mem_cons.2 ⟨of_cadencylaw11_awake, ?_⟩
  refine List.forall_mem_cons.2 ⟨of_trace_Busy, ?_⟩
  refine List.forall_mem_cons.2 ⟨of_cadencylaw11_rest, ?_⟩
  refine List.forall_mem_cons.2 ⟨of_cadencyref10_Run, ?_⟩
  refine List.forall_mem_cons.2 ⟨of_trace_Fits, ?_⟩
  refine List.forall_mem_cons.2 ⟨of_cadencyref11_Fits, ?_⟩
  refine List.forall_mem_cons.2 ⟨of_trace_Ends, ?_⟩
  refine List.forall_mem_cons.2 ⟨of_cadencyref10_SameTicks, ?_⟩
  refine List.forall_mem_cons.2 ⟨of_trace_Misses, ?_⟩
  refine List.forall_mem_cons.2 ⟨of_trace_Response, ?_⟩
  refine List.forall_mem_cons.2 ⟨of_trace_Worst, ?_⟩
  refine List.forall_mem_cons.2 ⟨of_cadencyref10_Same, ?_⟩
  refine List.forall_mem_cons.2 ⟨of_cadencyref04_rest, ?_⟩
  refine List.forall_mem_cons.2 ⟨of_cadencyref04_turns, ?_⟩
  refine List.forall_mem_cons.2 ⟨of_cadencyref04_CheckAll, ?_⟩
  refine List.forall_mem_cons.2 ⟨of_cadencyref08_rest, ?_⟩
  refine List.forall_mem_cons.2 ⟨of_cadencyref08_last, ?_⟩
  refine List.forall_mem_cons.2 ⟨of_script_Legal, ?_⟩
  refine List.forall_mem_cons.2 ⟨of_stream_Order, ?_⟩
  refine List.forall_mem_cons.2 ⟨of_heap_New_int, ?_⟩
  refine List.forall_mem_cons.2 ⟨of_exec_Until_f1, ?_⟩
  refine List.forall_mem_cons.2 ⟨of_exec_executive_run, ?_⟩
  refine List.forall_mem_cons.2 ⟨of_trace_Busy_f1, ?_⟩
  refine List.forall_mem_cons.2 ⟨of_cadencyref08_Legal, ?_⟩
  refine List.forall_mem_cons.2 ⟨of_cadencyref10_Until, ?_⟩
  refine List.forall_mem_cons.2 ⟨of_cadencyref04_Check, ?_⟩
  refine List.forall_mem_cons.2 ⟨of_script_legal, ?_⟩
  refine List.forall_mem_cons.2 ⟨of_script_Legal_f1, ?_⟩
  refine List.forall_mem_cons.2 ⟨of_slices_SortStableFunc_int_int, ?_⟩
  refine List.forall_mem_cons.2 ⟨of_stream_Order_f1, ?_⟩
  refine List.forall_mem_cons.2 ⟨of_cmp_Compare_int64, ?_⟩
  refine List.forall_mem_cons.2 ⟨of_heap_Heap_int_Push, ?_⟩
  refine List.forall_mem_cons.2 ⟨of_exec_executive_work, ?_⟩
  refine List.forall_mem_cons.2 ⟨of_exec_executive_release, ?_⟩
  refine List.forall_mem_cons.2 ⟨of_exec_executive_choose, ?_⟩
  refine List.forall_mem_cons.2 ⟨of_exec_executive_next, ?_⟩
  refine List.forall_mem_cons.2 ⟨of_cadencyref10_within, ?_⟩
  refine List.forall_mem_cons.2 ⟨of_cadencyref10_pick, ?_⟩
  refine List.forall_mem_cons.2 ⟨of_cadencyref03_Word, ?_⟩
  refine List.forall_mem_cons.2 ⟨of_cadencyref04_in, ?_⟩
  refine List.forall_mem_cons.2 ⟨of_script_may, ?_⟩
  refine List.forall_mem_cons.2 ⟨of_script_legal_f1, ?_⟩
  refine List.forall_mem_cons.2 ⟨of_slices_stableCmpFunc_int, ?_⟩
  refine List.forall_mem_cons.2 ⟨of_cmp_isNaN_int64, ?_⟩
  refine List.forall_mem_cons.2 ⟨of_heap_Heap_int_ahead, ?_⟩
  refine List.forall_mem_cons.2 ⟨of_heap_Heap_int_swap, ?_⟩
  refine List.forall_mem_cons.2 ⟨of_fifo_Queue_exec_waiting_Pop, ?_⟩
  refine List.forall_mem_cons.2 ⟨of_fifo_Queue_exec_waiting_Len, ?_⟩
  refine List.forall_mem_cons.2 ⟨of_fifo_New_exec_waiting, ?_⟩
  refine List.forall_mem_cons.2 ⟨of_fifo_Queue_exec_waiting_Push, ?_⟩
  refine List.forall_mem_cons.2 ⟨of_heap_Heap_int_Pop, ?_⟩
  refine List.forall_mem_cons.2 ⟨of_fifo_Queue_exec_waiting_At, ?_⟩
  refine List.forall_mem_cons.2 ⟨of_cadencyref03_one, ?_⟩
  refine List.forall_mem_cons.2 ⟨of_task_CheckAll, ?_⟩
  refine List.forall_mem_cons.2 ⟨of_slices_insertionSortCmpFunc_int, ?_⟩
  refine List.forall_mem_cons.2 ⟨of_slices_symMergeCmpFunc_int, ?_⟩
  refine List.forall_mem_cons.2 ⟨of_fifo_Queue_exec_waiting_grow, ?_⟩
  refine List.forall_mem_cons.2 ⟨of_heap_Heap_int_Peek, ?_⟩
  refine List.forall_mem_cons.2 ⟨of_heap_Heap_int_down, ?_⟩
  refine List.forall_mem_cons.2 ⟨of_cadencyref03_letter, ?_⟩
  refine List.forall_mem_cons.2 ⟨of_cadencyref03_digit, ?_⟩
  refine List.forall_mem_cons.2 ⟨of_task_Check, ?_⟩
  refine List.forall_mem_cons.2 ⟨of_slices_rotateCmpFunc_int, ?_⟩
  refine List.forall_mem_cons.2 ⟨of_heap_Heap_int_Len, ?_⟩
  refine List.forall_mem_cons.2 ⟨of_task_Check_f1, ?_⟩
  refine List.forall_mem_cons.2 ⟨of_task_Check_f2, ?_⟩
  refine List.forall_mem_cons.2 ⟨of_scan_Word, ?_⟩
  refine List.forall_mem_cons.2 ⟨of_task_Check_f3, ?_⟩
  refine List.forall_mem_cons.2 ⟨of_task_first, ?_⟩
  refine List.forall_mem_cons.2 ⟨of_slices_swapRangeCmpFunc_int, ?_⟩
  refine List.forall_mem_cons.2 ⟨of_scan_letter, ?_⟩
  refine List.forall_mem_cons.2 ⟨of_scan_long, ?_⟩
  refine List.forall_mem_cons.2 ⟨of_scan_goes, ?_⟩
  refine List.forall_mem_cons.2 ⟨of_scan_digit, ?_⟩
  intro p hp; cases hp
def find : List (Nat × Bool × FnC) → Nat → Def
  | [], _ => .none
  | p :: r, f => if f = p.1 then (if p.2.1 = true then .textK p.2.2 else .text p.2.2) else find r f
theorem find_mem : ∀ {l : List (Nat × Bool × FnC)} {f : Nat} {c : FnC}, find l f = .text c ∨ find l f = .textK c → ∃ k, (f, k, c) ∈ l
  | [], f, c, h => by rcases h with h | h <;> cases h
  | p :: r, f, c, h => by
    obtain ⟨pn, pk, pc⟩ := p
    unfold find at h
    by_cases e : f = pn
    · subst e
      cases pk with
      | true => simp at h; subst h; exact ⟨true, List.mem_cons_self⟩
      | false => simp at h; subst h; exact ⟨false, List.mem_cons_self⟩
    · simp only [e, if_false] at h
      obtain ⟨k, hk⟩ := find_mem h
      exact ⟨k, List.mem_cons_of_mem _ hk⟩
theorem find_ext : ∀ {l : List (Nat × Bool × FnC)} {f : Nat} {e}, find l f ≠ .ext e
  | [], f, e => by intro h; cases h
  | p :: r, f, e => by
    unfold find
    split
    · split <;> (intro h; cases h)
    · exact find_ext
theorem tab_mem {f : Nat} {c : FnC} (h : find tab f = .text c ∨ find tab f = .textK c) : FnC.of Try.prog f c := by
  obtain ⟨k, hk⟩ := find_mem h
  exact tab_of _ hk
def envA : Env := find tab
theorem envA_ok : EnvOK Try.prog envA := ⟨by kernel_rfl, fun f e h => absurd h find_ext, fun f c h => tab_mem (.inl h), fun f c h => tab_mem (.inr h), fun f e h => absurd h find_ext⟩
theorem awake_run : callv envA 300 (.func (.func n_cadencylaw11_awake) #[] #[]) [] [] = some (.bool true, [], []) := by kernel_rfl
theorem awake_ok : ExtOK Try.prog n_cadencylaw11_awake (constE [] (.bool true)) := closed_ext envA_ok (c := c_cadencylaw11_awake) rfl rfl (by kernel_rfl) rfl rfl awake_run
noncomputable def env : Env := fun f => if f = n_cadencylaw11_awake then .ext (constE [] (.bool true)) else find tab f
theorem env_ext {f : Nat} {e} (h : env f = .ext e) : f = n_cadencylaw11_awake ∧ e = constE [] (.bool true) := by
  unfold env at h
  split at h
  · rename_i e1; cases h; exact ⟨e1, rfl⟩
  · exact absurd h find_ext
theorem env_text {f : Nat} {c} (h : env f = .text c) : find tab f = .text c := by
  unfold env at h
  split at h
  · cases h
  · exact h
theorem env_textK {f : Nat} {c} (h : env f = .textK c) : find tab f = .textK c := by
  unfold env at h
  split at h
  · cases h
  · exact h
theorem env_keep : KeepE env := by
  intro f e h args hh v h2 ws hv
  obtain ⟨rfl, rfl⟩ := env_ext h
  exact constE_keep _ _ _ _ _ _ _ hv
theorem env_ok : EnvOK Try.prog env := by
  refine ⟨by kernel_rfl, env_keep, fun f c h => tab_mem (.inl (env_text h)), fun f c h => tab_mem (.inr (env_textK h)), fun f e h => ?_⟩
  obtain ⟨rfl, rfl⟩ := env_ext h
  exact .inl ⟨⟨_, Try.func21, by kernel_rfl, by kernel_rfl⟩, awake_ok⟩
theorem laid : Laid env := ⟨env_keep, rfl, rfl, rfl, rfl, rfl, rfl, rfl, rfl, rfl, rfl, rfl, rfl, rfl, rfl, rfl, rfl, rfl, rfl, rfl, rfl, rfl, rfl, rfl, rfl, rfl, rfl, rfl, rfl, rfl, rfl, rfl, rfl, rfl, rfl, rfl, rfl, rfl, rfl, rfl, rfl, rfl, rfl, rfl, rfl, rfl, rfl, rfl, rfl, rfl, rfl, rfl, rfl, rfl, rfl, rfl, rfl, rfl, rfl, rfl, rfl, rfl, rfl, rfl, rfl, rfl, rfl, rfl, rfl, rfl, rfl, rfl, rfl, rfl, rfl, rfl, rfl, rfl, rfl, rfl, rfl, rfl, rfl⟩
theorem callX {E : Env} {g : FuncId} {e : List Value → Heap → Option (Value × Heap × List Nat)} (hf : E g = .ext e) (args : List Value) (h : Heap) : callW E (.func (.func g) #[] #[]) args h = e args h := by
  rw [callW_eq]; simp [callG, hf, callF]
theorem awakes : ∀ h, callW env (.func (.func n_cadencylaw11_awake) #[] #[]) [] h = some (.bool true, h, []) := fun h => by
  rw [callX (show env n_cadencylaw11_awake = .ext (constE [] (.bool true)) from if_pos rfl)]
  exact constE_at (fun g o hg => by simp at hg)
end Go.L.Try
