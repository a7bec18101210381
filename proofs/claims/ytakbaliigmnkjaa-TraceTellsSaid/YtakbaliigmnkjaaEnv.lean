/- MADE BY PROGRAM (wip/gen/emit2.py): the instructions are those of the program. -/
import Derived.Test.YtakbaliigmnkjaaCode
import Derived.Test.YtakbaliigmnkjaaS26
import Derived.Test.YtakbaliigmnkjaaProg
import Derived.KernelRfl
set_option maxRecDepth 100000
namespace Go.L.Try
open Go Go.L Go.Proofs
theorem of_cadencylaw11_TraceTells : FnC.of Try.prog n_cadencylaw11_TraceTells c_cadencylaw11_TraceTells := by unfold FnC.of; kernel_rfl
theorem of_cadencylaw11_awake : FnC.of Try.prog n_cadencylaw11_awake c_cadencylaw11_awake := by unfold FnC.of; kernel_rfl
theorem of_cadencyref04_Set : FnC.of Try.prog n_cadencyref04_Set c_cadencyref04_Set := by unfold FnC.of; kernel_rfl
theorem of_cadencyref08_Decode : FnC.of Try.prog n_cadencyref08_Decode c_cadencyref08_Decode := by unfold FnC.of; kernel_rfl
theorem of_cadencyref08_Few : FnC.of Try.prog n_cadencyref08_Few c_cadencyref08_Few := by unfold FnC.of; kernel_rfl
theorem of_cadencyref10_Run : FnC.of Try.prog n_cadencyref10_Run c_cadencyref10_Run := by unfold FnC.of; kernel_rfl
theorem of_cadencylaw11_tells : FnC.of Try.prog n_cadencylaw11_tells c_cadencylaw11_tells := by unfold FnC.of; kernel_rfl
theorem of_cadencylaw11_few : FnC.of Try.prog n_cadencylaw11_few c_cadencylaw11_few := by unfold FnC.of; kernel_rfl
theorem of_cadencyref10_SameTicks : FnC.of Try.prog n_cadencyref10_SameTicks c_cadencyref10_SameTicks := by unfold FnC.of; kernel_rfl
theorem of_trace_Busy : FnC.of Try.prog n_trace_Busy c_trace_Busy := by unfold FnC.of; kernel_rfl
theorem of_cadencyref04_rest : FnC.of Try.prog n_cadencyref04_rest c_cadencyref04_rest := by unfold FnC.of; kernel_rfl
theorem of_cadencyref04_turns : FnC.of Try.prog n_cadencyref04_turns c_cadencyref04_turns := by unfold FnC.of; kernel_rfl
theorem of_cadencyref04_CheckAll : FnC.of Try.prog n_cadencyref04_CheckAll c_cadencyref04_CheckAll := by unfold FnC.of; kernel_rfl
theorem of_cadencyref08_rest : FnC.of Try.prog n_cadencyref08_rest c_cadencyref08_rest := by unfold FnC.of; kernel_rfl
theorem of_cadencyref08_last : FnC.of Try.prog n_cadencyref08_last c_cadencyref08_last := by unfold FnC.of; kernel_rfl
theorem of_cadencyref08_Legal : FnC.of Try.prog n_cadencyref08_Legal c_cadencyref08_Legal := by unfold FnC.of; kernel_rfl
theorem of_cadencyref10_Until : FnC.of Try.prog n_cadencyref10_Until c_cadencyref10_Until := by unfold FnC.of; kernel_rfl
theorem of_trace_Ends : FnC.of Try.prog n_trace_Ends c_trace_Ends := by unfold FnC.of; kernel_rfl
theorem of_cadencyref11_Ends : FnC.of Try.prog n_cadencyref11_Ends c_cadencyref11_Ends := by unfold FnC.of; kernel_rfl
theorem of_cadencylaw11_same : FnC.of Try.prog n_cadencylaw11_same c_cadencylaw11_same := by unfold FnC.of; kernel_rfl
theorem of_trace_Misses : FnC.of Try.prog n_trace_Misses c_trace_Misses := by unfold FnC.of; kernel_rfl
theorem of_cadencyref11_Misses : FnC.of Try.prog n_cadencyref11_Misses c_cadencyref11_Misses := by unfold FnC.of; kernel_rfl
theorem of_trace_Response : FnC.of Try.prog n_trace_Response c_trace_Response := by unfold FnC.of; kernel_rfl
theorem of_cadencyref11_Response : FnC.of Try.prog n_cadencyref11_Response c_cadencyref11_Response := by unfold FnC.of; kernel_rfl
theorem of_trace_Worst : FnC.of Try.prog n_trace_Worst c_trace_Worst := by unfold FnC.of; kernel_rfl
theorem of_cadencyref11_Worst : FnC.of Try.prog n_cadencyref11_Worst c_cadencyref11_Worst := by unfold FnC.of; kernel_rfl
theorem of_cadencyref11_Busy : FnC.of Try.prog n_cadencyref11_Busy c_cadencyref11_Busy := by unfold FnC.of; kernel_rfl
theorem of_trace_Long : FnC.of Try.prog n_trace_Long c_trace_Long := by unfold FnC.of; kernel_rfl
theorem of_cadencylaw11_rest : FnC.of Try.prog n_cadencylaw11_rest c_cadencylaw11_rest := by unfold FnC.of; kernel_rfl
theorem of_trace_Busy_f1 : FnC.of Try.prog n_trace_Busy_f1 c_trace_Busy_f1 := by unfold FnC.of; kernel_rfl
theorem of_cadencyref04_Check : FnC.of Try.prog n_cadencyref04_Check c_cadencyref04_Check := by unfold FnC.of; kernel_rfl
theorem of_cadencyref10_within : FnC.of Try.prog n_cadencyref10_within c_cadencyref10_within := by unfold FnC.of; kernel_rfl
theorem of_cadencyref10_pick : FnC.of Try.prog n_cadencyref10_pick c_cadencyref10_pick := by unfold FnC.of; kernel_rfl
theorem of_cadencyref03_Word : FnC.of Try.prog n_cadencyref03_Word c_cadencyref03_Word := by unfold FnC.of; kernel_rfl
theorem of_cadencyref04_in : FnC.of Try.prog n_cadencyref04_in c_cadencyref04_in := by unfold FnC.of; kernel_rfl
theorem of_cadencyref03_one : FnC.of Try.prog n_cadencyref03_one c_cadencyref03_one := by unfold FnC.of; kernel_rfl
theorem of_cadencyref03_letter : FnC.of Try.prog n_cadencyref03_letter c_cadencyref03_letter := by unfold FnC.of; kernel_rfl
theorem of_cadencyref03_digit : FnC.of Try.prog n_cadencyref03_digit c_cadencyref03_digit := by unfold FnC.of; kernel_rfl
def tab : List (Nat × FnC) := [(n_cadencylaw11_TraceTells, c_cadencylaw11_TraceTells), (n_cadencylaw11_awake, c_cadencylaw11_awake), (n_cadencyref04_Set, c_cadencyref04_Set), (n_cadencyref08_Decode, c_cadencyref08_Decode), (n_cadencyref08_Few, c_cadencyref08_Few), (n_cadencyref10_Run, c_cadencyref10_Run), (n_cadencylaw11_tells, c_cadencylaw11_tells), (n_cadencylaw11_few, c_cadencylaw11_few), (n_cadencyref10_SameTicks, c_cadencyref10_SameTicks), (n_trace_Busy, c_trace_Busy), (n_cadencyref04_rest, c_cadencyref04_rest), (n_cadencyref04_turns, c_cadencyref04_turns), (n_cadencyref04_CheckAll, c_cadencyref04_CheckAll), (n_cadencyref08_rest, c_cadencyref08_rest), (n_cadencyref08_last, c_cadencyref08_last), (n_cadencyref08_Legal, c_cadencyref08_Legal), (n_cadencyref10_Until, c_cadencyref10_Until), (n_trace_Ends, c_trace_Ends), (n_cadencyref11_Ends, c_cadencyref11_Ends), (n_cadencylaw11_same, c_cadencylaw11_same), (n_trace_Misses, c_trace_Misses), (n_cadencyref11_Misses, c_cadencyref11_Misses), (n_trace_Response, c_trace_Response), (n_cadencyref11_Response, c_cadencyref11_Response), (n_trace_Worst, c_trace_Worst), (n_cadencyref11_Worst, c_cadencyref11_Worst), (n_cadencyref11_Busy, c_cadencyref11_Busy), (n_trace_Long, c_trace_Long), (n_cadencylaw11_rest, c_cadencylaw11_rest), (n_trace_Busy_f1, c_trace_Busy_f1), (n_cadencyref04_Check, c_cadencyref04_Check), (n_cadencyref10_within, c_cadencyref10_within), (n_cadencyref10_pick, c_cadencyref10_pick), (n_cadencyref03_Word, c_cadencyref03_Word), (n_cadencyref04_in, c_cadencyref04_in), (n_cadencyref03_one, c_cadencyref03_one), (n_cadencyref03_letter, c_cadencyref03_letter), (n_cadencyref03_digit, c_cadencyref03_digit)]
theorem tab_of : ∀ p ∈ tab, FnC.of Try.prog p.1 p.2 := by
  unfold tab
  refine List.forall_mem_cons.2 ⟨of_cadencylaw11_TraceTells, ?_⟩
  refine List.forall_mem_cons.2 ⟨of_cadencylaw11_awake, ?_⟩
  refine List.forall_mem_cons.2 ⟨of_cadencyref04_Set, ?_⟩
  refine List.forall_mem_cons.2 ⟨of_cadencyref08_Decode, ?_⟩
  refine List.forall_mem_cons.2 ⟨of_cadencyref08_Few, ?_⟩
  refine List.forall_mem_cons.2 ⟨of_cadencyref10_Run, ?_⟩
  refine List.forall_mem_cons.2 ⟨of_cadencylaw11_tells, ?_⟩
  refine List.forall_mem_cons.2 ⟨of_cadencylaw11_few, ?_⟩
  refine List.forall_mem_cons.2 ⟨of_cadencyref10_SameTicks, ?_⟩
  refine List.forall_mem_cons.2 ⟨of_trace_Busy, ?_⟩
  refine List.forall_mem_cons.2 ⟨of_cadencyref04_rest, ?_⟩
  refine List.forall_mem_cons.2 ⟨of_cadencyref04_turns, ?_⟩
  refine List.forall_mem_cons.2 ⟨of_cadencyref04_CheckAll, ?_⟩
  refine List.forall_mem_cons.2 ⟨of_cadencyref08_rest, ?_⟩
  refine List.forall_mem_cons.2 ⟨of_cadencyref08_last, ?_⟩
  refine List.forall_mem_cons.2 ⟨of_cadencyref08_Legal, ?_⟩
  refine List.forall_mem_cons.2 ⟨of_cadencyref10_Until, ?_⟩
  refine List.forall_mem_cons.2 ⟨of_trace_Ends, ?_⟩
  refine List.forall_mem_cons.2 ⟨of_cadencyref11_Ends, ?_⟩
  refine List.forall_mem_cons.2 ⟨of_cadencylaw11_same, ?_⟩
  refine List.forall_mem_cons.2 ⟨of_trace_Misses, ?_⟩
  refine List.forall_mem_cons.2 ⟨of_cadencyref11_Misses, ?_⟩
  refine List.forall_mem_cons.2 ⟨of_trace_Response, ?_⟩
  refine List.forall_mem_cons.2 ⟨of_cadencyref11_Response, ?_⟩
  refine List.forall_mem_cons.2 ⟨of_trace_Worst, ?_⟩
  refine List.forall_mem_cons.2 ⟨of_cadencyref11_Worst, ?_⟩
  refine List.forall_mem_cons.2 ⟨of_cadencyref11_Busy, ?_⟩
  refine List.forall_mem_cons.2 ⟨of_trace_Long, ?_⟩
  refine List.forall_mem_cons.2 ⟨of_cadencylaw11_rest, ?_⟩
  refine List.forall_mem_cons.2 ⟨of_trace_Busy_f1, ?_⟩
  refine List.forall_mem_cons.2 ⟨of_cadencyref04_Check, ?_⟩
  refine List.forall_mem_cons.2 ⟨of_cadencyref10_within, ?_⟩
  refine List.forall_mem_cons.2 ⟨of_cadencyref10_pick, ?_⟩
  refine List.forall_mem_cons.2 ⟨of_cadencyref03_Word, ?_⟩
  refine List.forall_mem_cons.2 ⟨of_cadencyref04_in, ?_⟩
  refine List.forall_mem_cons.2 ⟨of_cadencyref03_one, ?_⟩
  refine List.forall_mem_cons.2 ⟨of_cadencyref03_letter, ?_⟩
  refine List.forall_mem_cons.2 ⟨of_cadencyref03_digit, ?_⟩
  intro p hp; cases hp
def find : List (Nat × FnC) → Nat → Def
  | [], _ => .none
  | p :: r, f => if f = p.1 then .text p.2 else find r f
theorem find_mem : ∀ {l : List (Nat × FnC)} {f : Nat} {c : FnC}, find l f = .text c → (f, c) ∈ l
  | [], f, c, h => by cases h
  | p :: r, f, c, h => by
    unfold find at h
    split at h
    · rename_i e; cases h; subst e; exact List.mem_cons_self
    · exact List.mem_cons_of_mem _ (find_mem h)
theorem find_ext : ∀ {l : List (Nat × FnC)} {f : Nat} {e}, find l f ≠ .ext e
  | [], f, e => by intro h; cases h
  | p :: r, f, e => by
    unfold find
    split
    · intro h; cases h
    · exact find_ext
def env : Env := find tab
theorem env_ok : EnvOK Try.prog env := ⟨by kernel_rfl, fun f e h => absurd h find_ext, fun f c h => tab_of _ (find_mem h), fun f e h => absurd h find_ext⟩
theorem laid : Laid env := ⟨env_ok.keep, rfl, rfl, rfl, rfl, rfl, rfl, rfl, rfl, rfl, rfl, rfl, rfl, rfl, rfl, rfl, rfl, rfl, rfl, rfl, rfl, rfl, rfl, rfl, rfl, rfl, rfl, rfl, rfl, rfl, rfl, rfl, rfl, rfl, rfl, rfl, rfl, rfl, rfl⟩
end Go.L.Try
