/- MADE BY PROGRAM (wip/gen/emit2.py): the instructions are those of the program. -/
import Derived.Test.YtakbaliigmnkjaaDoorCode
import Derived.Test.YtakbaliigmnkjaaDoorS26
import Derived.Test.YtakbaliigmnkjaaDoorX
import Derived.Test.YtakbaliigmnkjaaDoorChecked
import Derived.Laws.Externs
import Derived.KernelRfl
set_option maxRecDepth 100000
namespace Go.L.Try
open Go Go.L Go.Proofs Go.Shelf
theorem of_cadencylaw14_RtaTells : FnC.of Tryd.prog n_cadencylaw14_RtaTells c_cadencylaw14_RtaTells := by unfold FnC.of; kernel_rfl
theorem of_cadencylaw14_RtaLeast : FnC.of Tryd.prog n_cadencylaw14_RtaLeast c_cadencylaw14_RtaLeast := by unfold FnC.of; kernel_rfl
theorem of_cadencylaw14_RtaScales : FnC.of Tryd.prog n_cadencylaw14_RtaScales c_cadencylaw14_RtaScales := by unfold FnC.of; kernel_rfl
theorem of_cadencylaw14_RtaEases : FnC.of Tryd.prog n_cadencylaw14_RtaEases c_cadencylaw14_RtaEases := by unfold FnC.of; kernel_rfl
theorem of_cadencylaw14_RtaAll : FnC.of Tryd.prog n_cadencylaw14_RtaAll c_cadencylaw14_RtaAll := by unfold FnC.of; kernel_rfl
theorem of_cadencylaw14_awake : FnC.of Tryd.prog n_cadencylaw14_awake c_cadencylaw14_awake := by unfold FnC.of; kernel_rfl
theorem of_cadencyref04_Set : FnC.of Tryd.prog n_cadencyref04_Set c_cadencyref04_Set := by unfold FnC.of; kernel_rfl
theorem of_cadencylaw14_tells : FnC.of Tryd.prog n_cadencylaw14_tells c_cadencylaw14_tells := by unfold FnC.of; kernel_rfl
theorem of_cadencylaw14_rest : FnC.of Tryd.prog n_cadencylaw14_rest c_cadencylaw14_rest := by unfold FnC.of; kernel_rfl
theorem of_cadencylaw14_small : FnC.of Tryd.prog n_cadencylaw14_small c_cadencylaw14_small := by unfold FnC.of; kernel_rfl
theorem of_rta_Bound : FnC.of Tryd.prog n_rta_Bound c_rta_Bound := by unfold FnC.of; kernel_rfl
theorem of_demand_Need : FnC.of Tryd.prog n_demand_Need c_demand_Need := by unfold FnC.of; kernel_rfl
theorem of_rta_All : FnC.of Tryd.prog n_rta_All c_rta_All := by unfold FnC.of; kernel_rfl
theorem of_cadencyref13_Is : FnC.of Tryd.prog n_cadencyref13_Is c_cadencyref13_Is := by unfold FnC.of; kernel_rfl
theorem of_cadencylaw14_all : FnC.of Tryd.prog n_cadencylaw14_all c_cadencylaw14_all := by unfold FnC.of; kernel_rfl
theorem of_marks_Set_With : FnC.of Tryd.prog n_marks_Set_With c_marks_Set_With := by unfold FnC.of; kernel_rfl
theorem of_cadencylaw14_three : FnC.of Tryd.prog n_cadencylaw14_three c_cadencylaw14_three := by unfold FnC.of; kernel_rfl
theorem of_cadencyref04_rest : FnC.of Tryd.prog n_cadencyref04_rest c_cadencyref04_rest := by unfold FnC.of; kernel_rfl
theorem of_cadencyref04_turns : FnC.of Tryd.prog n_cadencyref04_turns c_cadencyref04_turns := by unfold FnC.of; kernel_rfl
theorem of_cadencyref14_Bound : FnC.of Tryd.prog n_cadencyref14_Bound c_cadencyref14_Bound := by unfold FnC.of; kernel_rfl
theorem of_cadencyref14_Each : FnC.of Tryd.prog n_cadencyref14_Each c_cadencyref14_Each := by unfold FnC.of; kernel_rfl
theorem of_rta_Each : FnC.of Tryd.prog n_rta_Each c_rta_Each := by unfold FnC.of; kernel_rfl
theorem of_rta_is : FnC.of Tryd.prog n_rta_is c_rta_is := by unfold FnC.of; kernel_rfl
theorem of_demand_is : FnC.of Tryd.prog n_demand_is c_demand_is := by unfold FnC.of; kernel_rfl
theorem of_num_Sum : FnC.of Tryd.prog n_num_Sum c_num_Sum := by unfold FnC.of; kernel_rfl
theorem of_demand_Block : FnC.of Tryd.prog n_demand_Block c_demand_Block := by unfold FnC.of; kernel_rfl
theorem of_demand_Higher : FnC.of Tryd.prog n_demand_Higher c_demand_Higher := by unfold FnC.of; kernel_rfl
theorem of_task_CheckAll : FnC.of Tryd.prog n_task_CheckAll c_task_CheckAll := by unfold FnC.of; kernel_rfl
theorem of_cadencyref04_CheckAll : FnC.of Tryd.prog n_cadencyref04_CheckAll c_cadencyref04_CheckAll := by unfold FnC.of; kernel_rfl
theorem of_rta_Tests : FnC.of Tryd.prog n_rta_Tests c_rta_Tests := by unfold FnC.of; kernel_rfl
theorem of_marks_in : FnC.of Tryd.prog n_marks_in c_marks_in := by unfold FnC.of; kernel_rfl
theorem of_cadencyref13_Need : FnC.of Tryd.prog n_cadencyref13_Need c_cadencyref13_Need := by unfold FnC.of; kernel_rfl
theorem of_rta_Each_f1 : FnC.of Tryd.prog n_rta_Each_f1 c_rta_Each_f1 := by unfold FnC.of; kernel_rfl
theorem of_num_Add : FnC.of Tryd.prog n_num_Add c_num_Add := by unfold FnC.of; kernel_rfl
theorem of_task_Lower : FnC.of Tryd.prog n_task_Lower c_task_Lower := by unfold FnC.of; kernel_rfl
theorem of_marks_Set_All : FnC.of Tryd.prog n_marks_Set_All c_marks_Set_All := by unfold FnC.of; kernel_rfl
theorem of_task_Higher : FnC.of Tryd.prog n_task_Higher c_task_Higher := by unfold FnC.of; kernel_rfl
theorem of_num_Times : FnC.of Tryd.prog n_num_Times c_num_Times := by unfold FnC.of; kernel_rfl
theorem of_demand_often : FnC.of Tryd.prog n_demand_often c_demand_often := by unfold FnC.of; kernel_rfl
theorem of_task_Check : FnC.of Tryd.prog n_task_Check c_task_Check := by unfold FnC.of; kernel_rfl
theorem of_cadencyref04_Check : FnC.of Tryd.prog n_cadencyref04_Check c_cadencyref04_Check := by unfold FnC.of; kernel_rfl
theorem of_cadencyref01_Sum : FnC.of Tryd.prog n_cadencyref01_Sum c_cadencyref01_Sum := by unfold FnC.of; kernel_rfl
theorem of_cadencyref13_Block : FnC.of Tryd.prog n_cadencyref13_Block c_cadencyref13_Block := by unfold FnC.of; kernel_rfl
theorem of_cadencyref13_Higher : FnC.of Tryd.prog n_cadencyref13_Higher c_cadencyref13_Higher := by unfold FnC.of; kernel_rfl
theorem of_task_those : FnC.of Tryd.prog n_task_those c_task_those := by unfold FnC.of; kernel_rfl
theorem of_task_Lower_f1 : FnC.of Tryd.prog n_task_Lower_f1 c_task_Lower_f1 := by unfold FnC.of; kernel_rfl
theorem of_marks_Set_All_f1 : FnC.of Tryd.prog n_marks_Set_All_f1 c_marks_Set_All_f1 := by unfold FnC.of; kernel_rfl
theorem of_marks_Set_First : FnC.of Tryd.prog n_marks_Set_First c_marks_Set_First := by unfold FnC.of; kernel_rfl
theorem of_marks_Set_Next : FnC.of Tryd.prog n_marks_Set_Next c_marks_Set_Next := by unfold FnC.of; kernel_rfl
theorem of_task_Higher_f1 : FnC.of Tryd.prog n_task_Higher_f1 c_task_Higher_f1 := by unfold FnC.of; kernel_rfl
theorem of_num_Mul : FnC.of Tryd.prog n_num_Mul c_num_Mul := by unfold FnC.of; kernel_rfl
theorem of_num_Ceil : FnC.of Tryd.prog n_num_Ceil c_num_Ceil := by unfold FnC.of; kernel_rfl
theorem of_task_Check_f1 : FnC.of Tryd.prog n_task_Check_f1 c_task_Check_f1 := by unfold FnC.of; kernel_rfl
theorem of_task_Check_f2 : FnC.of Tryd.prog n_task_Check_f2 c_task_Check_f2 := by unfold FnC.of; kernel_rfl
theorem of_scan_Word : FnC.of Tryd.prog n_scan_Word c_scan_Word := by unfold FnC.of; kernel_rfl
theorem of_task_Check_f3 : FnC.of Tryd.prog n_task_Check_f3 c_task_Check_f3 := by unfold FnC.of; kernel_rfl
theorem of_task_first : FnC.of Tryd.prog n_task_first c_task_first := by unfold FnC.of; kernel_rfl
theorem of_cadencyref03_Word : FnC.of Tryd.prog n_cadencyref03_Word c_cadencyref03_Word := by unfold FnC.of; kernel_rfl
theorem of_cadencyref04_in : FnC.of Tryd.prog n_cadencyref04_in c_cadencyref04_in := by unfold FnC.of; kernel_rfl
theorem of_cadencyref01_End : FnC.of Tryd.prog n_cadencyref01_End c_cadencyref01_End := by unfold FnC.of; kernel_rfl
theorem of_cadencyref01_Add : FnC.of Tryd.prog n_cadencyref01_Add c_cadencyref01_Add := by unfold FnC.of; kernel_rfl
theorem of_cadencyref01_Ceil : FnC.of Tryd.prog n_cadencyref01_Ceil c_cadencyref01_Ceil := by unfold FnC.of; kernel_rfl
theorem of_cadencyref01_Mul : FnC.of Tryd.prog n_cadencyref01_Mul c_cadencyref01_Mul := by unfold FnC.of; kernel_rfl
theorem of_math_bits_Mul64 : FnC.of Tryd.prog n_math_bits_Mul64 c_math_bits_Mul64 := by unfold FnC.of; kernel_rfl
theorem of_scan_letter : FnC.of Tryd.prog n_scan_letter c_scan_letter := by unfold FnC.of; kernel_rfl
theorem of_scan_long : FnC.of Tryd.prog n_scan_long c_scan_long := by unfold FnC.of; kernel_rfl
theorem of_scan_goes : FnC.of Tryd.prog n_scan_goes c_scan_goes := by unfold FnC.of; kernel_rfl
theorem of_cadencyref03_one : FnC.of Tryd.prog n_cadencyref03_one c_cadencyref03_one := by unfold FnC.of; kernel_rfl
theorem of_scan_digit : FnC.of Tryd.prog n_scan_digit c_scan_digit := by unfold FnC.of; kernel_rfl
theorem of_cadencyref03_letter : FnC.of Tryd.prog n_cadencyref03_letter c_cadencyref03_letter := by unfold FnC.of; kernel_rfl
theorem of_cadencyref03_digit : FnC.of Tryd.prog n_cadencyref03_digit c_cadencyref03_digit := by unfold FnC.of; kernel_rfl
def tab : List (Nat × FnC) := [(n_cadencylaw14_RtaTells, c_cadencylaw14_RtaTells), (n_cadencylaw14_RtaLeast, c_cadencylaw14_RtaLeast), (n_cadencylaw14_RtaScales, c_cadencylaw14_RtaScales), (n_cadencylaw14_RtaEases, c_cadencylaw14_RtaEases), (n_cadencylaw14_RtaAll, c_cadencylaw14_RtaAll), (n_cadencylaw14_awake, c_cadencylaw14_awake), (n_cadencyref04_Set, c_cadencyref04_Set), (n_cadencylaw14_tells, c_cadencylaw14_tells), (n_cadencylaw14_rest, c_cadencylaw14_rest), (n_cadencylaw14_small, c_cadencylaw14_small), (n_rta_Bound, c_rta_Bound), (n_demand_Need, c_demand_Need), (n_rta_All, c_rta_All), (n_cadencyref13_Is, c_cadencyref13_Is), (n_cadencylaw14_all, c_cadencylaw14_all), (n_marks_Set_With, c_marks_Set_With), (n_cadencylaw14_three, c_cadencylaw14_three), (n_cadencyref04_rest, c_cadencyref04_rest), (n_cadencyref04_turns, c_cadencyref04_turns), (n_cadencyref14_Bound, c_cadencyref14_Bound), (n_cadencyref14_Each, c_cadencyref14_Each), (n_rta_Each, c_rta_Each), (n_rta_is, c_rta_is), (n_demand_is, c_demand_is), (n_num_Sum, c_num_Sum), (n_demand_Block, c_demand_Block), (n_demand_Higher, c_demand_Higher), (n_task_CheckAll, c_task_CheckAll), (n_cadencyref04_CheckAll, c_cadencyref04_CheckAll), (n_rta_Tests, c_rta_Tests), (n_marks_in, c_marks_in), (n_cadencyref13_Need, c_cadencyref13_Need), (n_rta_Each_f1, c_rta_Each_f1), (n_num_Add, c_num_Add), (n_task_Lower, c_task_Lower), (n_marks_Set_All, c_marks_Set_All), (n_task_Higher, c_task_Higher), (n_num_Times, c_num_Times), (n_demand_often, c_demand_often), (n_task_Check, c_task_Check), (n_cadencyref04_Check, c_cadencyref04_Check), (n_cadencyref01_Sum, c_cadencyref01_Sum), (n_cadencyref13_Block, c_cadencyref13_Block), (n_cadencyref13_Higher, c_cadencyref13_Higher), (n_task_those, c_task_those), (n_task_Lower_f1, c_task_Lower_f1), (n_marks_Set_All_f1, c_marks_Set_All_f1), (n_marks_Set_First, c_marks_Set_First), (n_marks_Set_Next, c_marks_Set_Next), (n_task_Higher_f1, c_task_Higher_f1), (n_num_Mul, c_num_Mul), (n_num_Ceil, c_num_Ceil), (n_task_Check_f1, c_task_Check_f1), (n_task_Check_f2, c_task_Check_f2), (n_scan_Word, c_scan_Word), (n_task_Check_f3, c_task_Check_f3), (n_task_first, c_task_first), (n_cadencyref03_Word, c_cadencyref03_Word), (n_cadencyref04_in, c_cadencyref04_in), (n_cadencyref01_End, c_cadencyref01_End), (n_cadencyref01_Add, c_cadencyref01_Add), (n_cadencyref01_Ceil, c_cadencyref01_Ceil), (n_cadencyref01_Mul, c_cadencyref01_Mul), (n_math_bits_Mul64, c_math_bits_Mul64), (n_scan_letter, c_scan_letter), (n_scan_long, c_scan_long), (n_scan_goes, c_scan_goes), (n_cadencyref03_one, c_cadencyref03_one), (n_scan_digit, c_scan_digit), (n_cadencyref03_letter, c_cadencyref03_letter), (n_cadencyref03_digit, c_cadencyref03_digit)]
theorem tab_of : ∀ p ∈ tab, FnC.of Tryd.prog p.1 p.2 := by
  unfold tab
  refine List.forall_mem_cons.2 ⟨of_cadencylaw14_RtaTells, ?_⟩
  refine List.forall_mem_cons.2 ⟨of_cadencylaw14_RtaLeast, ?_⟩
  refine List.forall_mem_cons.2 ⟨of_cadencylaw14_RtaScales, ?_⟩
  refine List.forall_mem_cons.2 ⟨of_cadencylaw14_RtaEases, ?_⟩
  refine List.forall_mem_cons.2 ⟨of_cadencylaw14_RtaAll, ?_⟩
  refine List.forall_mem_cons.2 ⟨of_cadencylaw14_awake, ?_⟩
  refine List.forall_mem_cons.2 ⟨of_cadencyref04_Set, ?_⟩
  refine List.forall_mem_cons.2 ⟨of_cadencylaw14_tells, ?_⟩
  refine List.forall_mem_cons.2 ⟨of_cadencylaw14_rest, ?_⟩
  refine List.forall_mem_cons.2 ⟨of_cadencylaw14_small, ?_⟩
  refine List.forall_mem_cons.2 ⟨of_rta_Bound, ?_⟩
  refine List.forall_mem_cons.2 ⟨of_demand_Need, ?_⟩
  refine List.forall_mem_cons.2 ⟨of_rta_All, ?_⟩
  refine List.forall_mem_cons.2 ⟨of_cadencyref13_Is, ?_⟩
  refine List.forall_mem_cons.2 ⟨of_cadencylaw14_all, ?_⟩
  refine List.forall_mem_cons.2 ⟨of_marks_Set_With, ?_⟩
  refine List.forall_mem_cons.2 ⟨of_cadencylaw14_three, ?_⟩
  refine List.forall_mem_cons.2 ⟨of_cadencyref04_rest, ?_⟩
  refine List.forall_mem_cons.2 ⟨of_cadencyref04_turns, ?_⟩
  refine List.forall_mem_cons.2 ⟨of_cadencyref14_Bound, ?_⟩
  refine List.forall_mem_cons.2 ⟨of_cadencyref14_Each, ?_⟩
  refine List.forall_mem_cons.2 ⟨of_rta_Each, ?_⟩
  refine List.forall_mem_cons.2 ⟨of_rta_is, ?_⟩
  refine List.forall_mem_cons.2 ⟨of_demand_is, ?_⟩
  refine List.forall_mem_cons.2 ⟨of_num_Sum, ?_⟩
  refine List.forall_mem_cons.2 ⟨of_demand_Block, ?_⟩
  refine List.forall_mem_cons.2 ⟨of_demand_Higher, ?_⟩
  refine List.forall_mem_cons.2 ⟨of_task_CheckAll, ?_⟩
  refine List.forall_mem_cons.2 ⟨of_cadencyref04_CheckAll, ?_⟩
  refine List.forall_mem_cons.2 ⟨of_rta_Tests, ?_⟩
  refine List.forall_mem_cons.2 ⟨of_marks_in, ?_⟩
  refine List.forall_mem_cons.2 ⟨of_cadencyref13_Need, ?_⟩
  refine List.forall_mem_cons.2 ⟨of_rta_Each_f1, ?_⟩
  refine List.forall_mem_cons.2 ⟨of_num_Add, ?_⟩
  refine List.forall_mem_cons.2 ⟨of_task_Lower, ?_⟩
  refine List.forall_mem_cons.2 ⟨of_marks_Set_All, ?_⟩
  refine List.forall_mem_cons.2 ⟨of_task_Higher, ?_⟩
  refine List.forall_mem_cons.2 ⟨of_num_Times, ?_⟩
  refine List.forall_mem_cons.2 ⟨of_demand_often, ?_⟩
  refine List.forall_mem_cons.2 ⟨of_task_Check, ?_⟩
  refine List.forall_mem_cons.2 ⟨of_cadencyref04_Check, ?_⟩
  refine List.forall_mem_cons.2 ⟨of_cadencyref01_Sum, ?_⟩
  refine List.forall_mem_cons.2 ⟨of_cadencyref13_Block, ?_⟩
  refine List.forall_mem_cons.2 ⟨of_cadencyref13_Higher, ?_⟩
  refine List.forall_mem_cons.2 ⟨of_task_those, ?_⟩
  refine List.forall_mem_cons.2 ⟨of_task_Lower_f1, ?_⟩
  refine List.forall_mem_cons.2 ⟨of_marks_Set_All_f1, ?_⟩
  refine List.forall_mem_cons.2 ⟨of_marks_Set_First, ?_⟩
  refine List.forall_mem_cons.2 ⟨of_marks_Set_Next, ?_⟩
  refine List.forall_mem_cons.2 ⟨of_task_Higher_f1, ?_⟩
  refine List.forall_mem_cons.2 ⟨of_num_Mul, ?_⟩
  refine List.forall_mem_cons.2 ⟨of_num_Ceil, ?_⟩
  refine List.forall_mem_cons.2 ⟨of_task_Check_f1, ?_⟩
  refine List.forall_mem_cons.2 ⟨of_task_Check_f2, ?_⟩
  refine List.forall_mem_cons.2 ⟨of_scan_Word, ?_⟩
  refine List.forall_mem_cons.2 ⟨of_task_Check_f3, ?_⟩
  refine List.forall_mem_cons.2 ⟨of_task_first, ?_⟩
  refine List.forall_mem_cons.2 ⟨of_cadencyref03_Word, ?_⟩
  refine List.forall_mem_cons.2 ⟨of_cadencyref04_in, ?_⟩
  refine List.forall_mem_cons.2 ⟨of_cadencyref01_End, ?_⟩
  refine List.forall_mem_cons.2 ⟨of_cadencyref01_Add, ?_⟩
  refine List.forall_mem_cons.2 ⟨of_cadencyref01_Ceil, ?_⟩
  refine List.forall_mem_cons.2 ⟨of_cadencyref01_Mul, ?_⟩
  refine List.forall_mem_cons.2 ⟨of_math_bits_Mul64, ?_⟩
  refine List.forall_mem_cons.2 ⟨of_scan_letter, ?_⟩
  refine List.forall_mem_cons.2 ⟨of_scan_long, ?_⟩
  refine List.forall_mem_cons.2 ⟨of_scan_goes, ?_⟩
  refine List.forall_mem_cons.2 ⟨of_cadencyref03_one, ?_⟩
  refine List.forall_mem_cons.2 ⟨of_scan_digit, ?_⟩
  refine List.forall_mem_cons.2 ⟨of_cadencyref03_letter, ?_⟩
  refine List.forall_mem_cons.2 ⟨of_cadencyref03_digit, ?_⟩
  intro p hp; cases hp
def find : List (Nat × FnC) → Nat → Def
  | [], _ => .none
  | p :: r, f => if f = p.1 then .text p.2 else find r f
theorem find_mem : ∀ {l : List (Nat × FnC)} {f : Nat} {c : FnC}, find l f = .text c → (f, c) ∈ l
  | [], f, c, h => by cases h
  | p :: r, f, c, h => by
    unfold find at h
    split at h
    · rename_i e; cases h; subst e; exact List.mem_cons_self
    · exact List.mem_cons_of_mem _ (find_mem h)
theorem find_ext : ∀ {l : List (Nat × FnC)} {f : Nat} {e}, find l f ≠ .ext e
  | [], f, e => by intro h; cases h
  | p :: r, f, e => by
    unfold find
    split
    · intro h; cases h
    · exact find_ext
def env : Env := fun f => if f = n_math_bits_Add64 then .ext addE else if f = n_math_bits_TrailingZeros64 then .ext (tzE 0) else find tab f
theorem add_run (x y c : Nat) (w : World) (hx : x < 18446744073709551616) (hy : y < 18446744073709551616) (hc : c ≤ 1) : (callFunc 76 #[.int .u64 x, .int .u64 y, .int .u64 c]).run Tryd.prog w = .ok (.value (.tuple #[.int .u64 (((x + y + c) % 18446744073709551616 : Nat) : Int), .int .u64 (((x + y + c) / 18446744073709551616 : Nat) : Int)])) w := by
  rw [run_callFunc_extern Tryd.func76 (by kernel_rfl) (by kernel_rfl) (by kernel_rfl) (e := add64Entry) (by kernel_rfl), run_add64 x y c (by omega) (by omega) (by omega) (by omega)]
  simp only [Result.andThen]
  congr 5 <;> omega
def renTz : Go.Shelf.Ren := ⟨fun x => if x = 29 then 99 else x, fun x => if x = 22 then 40 else if x = 3 then 3 else if x = 4 then 4 else if x = 25 then 84 else if x = 54 then 152 else if x = 0 then 0 else if x = 5 then 5 else x, fun x => if x = 1 then 0 else x⟩
theorem laysTz : Lays7.n29 Tryd.prog renTz := { mixed := by kernel_rfl, f29 := Tryd.func99.trans (by kernel_rfl), t0 := Tryd.underlying0, a0 := Tryd.isAgg0, z0 := Tryd.sizeOf0, v0 := Tryd.zeroValue0, i0 := by kernel_rfl, t3 := Tryd.underlying3, a3 := Tryd.isAgg3, z3 := Tryd.sizeOf3, v3 := Tryd.zeroValue3, i3 := by kernel_rfl, t4 := Tryd.underlying4, a4 := Tryd.isAgg4, z4 := Tryd.sizeOf4, v4 := Tryd.zeroValue4, i4 := by kernel_rfl, t5 := Tryd.underlying5, a5 := Tryd.isAgg5, z5 := Tryd.sizeOf5, v5 := Tryd.zeroValue5, i5 := by kernel_rfl, t22 := Tryd.underlying40, a22 := Tryd.isAgg40, z22 := Tryd.sizeOf40, v22 := Tryd.zeroValue40, i22 := by kernel_rfl, t25 := Tryd.underlying84, a25 := Tryd.isAgg84, z25 := Tryd.sizeOf84, v25 := Tryd.zeroValue84, i25 := by kernel_rfl, t54 := Tryd.underlying152, a54 := Tryd.isAgg152, z54 := Tryd.sizeOf152, g1 := by kernel_rfl }
theorem env_ext {f : Nat} {e} (h : env f = .ext e) : (f = n_math_bits_Add64 ∧ e = addE) ∨ (f = n_math_bits_TrailingZeros64 ∧ e = (tzE 0)) := by
  unfold env at h
  split at h
  · rename_i e1; cases h; exact .inl ⟨e1, rfl⟩
  split at h
  · rename_i e1; cases h; exact .inr (⟨e1, rfl⟩)
  exact absurd h find_ext
theorem env_text {f : Nat} {c} (h : env f = .text c) : find tab f = .text c := by
  unfold env at h
  split at h
  · cases h
  split at h
  · cases h
  exact h
theorem env_keep : KeepE env := by
  intro f e h args hh v h2 ws hv
  rcases env_ext h with ⟨rfl, rfl⟩ | ⟨rfl, rfl⟩
  · obtain ⟨rfl, rfl⟩ := addE_keep hv; exact Keeps.refl _ _ _
  · obtain ⟨rfl, rfl⟩ := tzE_keep hv; exact Keeps.refl _ _ _
theorem env_ok : EnvOK Tryd.prog env := by
  refine ⟨by kernel_rfl, env_keep, fun f c h => tab_of _ (find_mem (env_text h)), fun f e h => ?_⟩
  rcases env_ext h with ⟨rfl, rfl⟩ | ⟨rfl, rfl⟩
  · exact .inr (addE_val fun x y c w hx hy hc => add_run x y c w hx hy hc)
  · exact .inl ⟨⟨_, Tryd.func99, by kernel_rfl, by kernel_rfl⟩, tzE_ok laysTz⟩
theorem laid : Laid env := ⟨env_keep, rfl, rfl, rfl, rfl, rfl, rfl, rfl, rfl, rfl, rfl, rfl, rfl, rfl, rfl, rfl, rfl, rfl, rfl, rfl, rfl, rfl, rfl, rfl, rfl, rfl, rfl, rfl, rfl, rfl, rfl, rfl, rfl, rfl, rfl, rfl, rfl, rfl, rfl, rfl, rfl, rfl, rfl, rfl, rfl, rfl, rfl, rfl, rfl, rfl, rfl, rfl, rfl, rfl, rfl, rfl, rfl, rfl, rfl, rfl, rfl, rfl, rfl, rfl, rfl, rfl, rfl, rfl, rfl, rfl, rfl, rfl⟩
theorem laidAdd : LaidAdd env := ⟨rfl⟩
theorem laidTz : LaidTz env 0 := ⟨rfl⟩
end Go.L.Try
