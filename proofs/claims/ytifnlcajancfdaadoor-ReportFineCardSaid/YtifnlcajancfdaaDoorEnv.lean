/- MADE BY PROGRAM (wip/gen/emit2.py): the instructions are those of the program. -/
import Derived.Test.YtifnlcajancfdaaDoorCode
import Derived.Test.YtifnlcajancfdaaDoorSh
import Derived.Test.YtifnlcajancfdaaDoorX
import Derived.Test.YtifnlcajancfdaaDoorChecked
import Derived.Laws.Externs
import Derived.KernelRfl
set_option maxRecDepth 100000
namespace Go.L.Try
open Go Go.L Go.Proofs Go.Shelf Go.RowKit
theorem of_law23_ReportFine : FnC.of Tryd.prog n_law23_ReportFine c_law23_ReportFine := by unfold FnC.of; kernel_rfl
theorem of_law23_awake : FnC.of Tryd.prog n_law23_awake c_law23_awake := by unfold FnC.of; kernel_rfl
theorem of_report_Fine : FnC.of Tryd.prog n_report_Fine c_report_Fine := by unfold FnC.of; kernel_rfl
theorem of_law23_rest : FnC.of Tryd.prog n_law23_rest c_law23_rest := by unfold FnC.of; kernel_rfl
theorem of_report_Render : FnC.of Tryd.prog n_report_Render c_report_Render := by unfold FnC.of; kernel_rfl
theorem of_report_Render_f1 : FnC.of Tryd.prog n_report_Render_f1 c_report_Render_f1 := by unfold FnC.of; kernel_rfl
theorem of_report_line : FnC.of Tryd.prog n_report_line c_report_line := by unfold FnC.of; kernel_rfl
def tab : List (Nat × Bool × FnC) := [(n_law23_ReportFine, false, c_law23_ReportFine), (n_law23_awake, false, c_law23_awake), (n_report_Fine, false, c_report_Fine), (n_law23_rest, false, c_law23_rest), (n_report_Render, false, c_report_Render), (n_report_Render_f1, true, c_report_Render_f1), (n_report_line, false, c_report_line)]
theorem tab_of : ∀ p ∈ tab, FnC.of Tryd.prog p.1 p.2.2 := by
  unfold tab
  refine List.forall_mem_cons.2 ⟨of_law23_ReportFine, ?_⟩
  refine List.forall_mem_cons.2 ⟨of_law23_awake, ?_⟩
  refine List.forall_mem_cons.2 ⟨of_report_Fine, ?_⟩
  refine List.forall_mem_cons.2 ⟨of_law23_rest, ?_⟩
  refine List.forall_mem_cons.2 ⟨of_report_Render, ?_⟩
  refine List.forall_mem_cons.2 ⟨of_report_Render_f1, ?_⟩
  refine List.forall_mem_cons.2 ⟨of_report_line, ?_⟩
  intro p hp; cases hp
def find : List (Nat × Bool × FnC) → Nat → Def
  | [], _ => .none
  | p :: r, f => if f = p.1 then (if p.2.1 = true then .textK p.2.2 else .text p.2.2) else find r f
theorem find_mem : ∀ {l : List (Nat × Bool × FnC)} {f : Nat} {c : FnC}, find l f = .text c ∨ find l f = .textK c → ∃ k, (f, k, c) ∈ l
  | [], f, c, h => by rcases h with h | h <;> cases h
  | p :: r, f, c, h => by
    obtain ⟨pn, pk, pc⟩ := p
    unfold find at h
    by_cases e : f = pn
    · subst e
      cases pk with
      | true => simp at h; subst h; exact ⟨true, List.mem_cons_self⟩
      | false => simp at h; subst h; exact ⟨false, List.mem_cons_self⟩
    · simp only [e, if_false] at h
      obtain ⟨k, hk⟩ := find_mem h
      exact ⟨k, List.mem_cons_of_mem _ hk⟩
theorem find_ext : ∀ {l : List (Nat × Bool × FnC)} {f : Nat} {e}, find l f ≠ .ext e
  | [], f, e => by intro h; cases h
  | p :: r, f, e => by
    unfold find
    split
    · split <;> (intro h; cases h)
    · exact find_ext
theorem tab_mem {f : Nat} {c : FnC} (h : find tab f = .text c ∨ find tab f = .textK c) : FnC.of Tryd.prog f c := by
  obtain ⟨k, hk⟩ := find_mem h
  exact tab_of _ hk
def envA : Env := fun f => if f = n_strings_Builder_WriteString then .ext wsE else if f = n_strings_Builder_String then .ext strE else if f = n_strconv_FormatInt then .ext fmtE else find tab f
def renWs : Go.Shelf.Ren := ⟨fun x => if x = 166 then 41 else if x = 240 then 65 else x, fun x => if x = 70 then 91 else if x = 72 then 93 else if x = 37 then 69 else if x = 164 then 175 else if x = 75 then 95 else x, fun x => x⟩
theorem cc_seat {b : Nat} {p v : Value} {w : World} (hbk : w.heap[b]? = some (.cells #[p, v] 93 (0, 0))) (hp : p = .pointer none ∨ p = .pointer (some ⟨b, 0, none⟩)) :
    Calls Tryd.prog 65 #[.pointer (some ⟨b, 0, none⟩)] w fun e w1 => e = .returned (.tuple #[]) ∧ w1.heap[b]? = some (.cells #[.pointer (some ⟨b, 0, none⟩), v] 93 (0, 0)) ∧ w.grownBy w1 (some b) ∧ w1.heap.size = w.heap.size := by
  obtain ⟨j, hj, hjs⟩ := Option.map_eq_some_iff.1 (show (Tryd.prog.info? 93).map (·.size) = some 2 by kernel_rfl)
  have hlies : liesAt Tryd.prog Tryd.prog.depth 93 (2 / Tryd.prog.cellsOf 93) 0 93 1 = true := by kernel_rfl
  have mixed : Tryd.prog.follows .mixedOrders = true := by kernel_rfl
  have t72 := Tryd.underlying93; have a72 := Tryd.isAgg93; have z72 := Tryd.sizeOf93; have u72 := run_underlying Tryd.underlying93
  have t70 := Tryd.underlying91; have a70 := Tryd.isAgg91; have z70 := Tryd.sizeOf91; have v70 := Tryd.zeroValue91; have u70 := run_underlying Tryd.underlying91
  have t4 := Tryd.underlying4; have a4 := Tryd.isAgg4; have z4 := Tryd.sizeOf4; have v4 := Tryd.zeroValue4; have u4 := run_underlying Tryd.underlying4
  have t164 := Tryd.underlying175; have a164 := Tryd.isAgg175; have z164 := Tryd.sizeOf175; have u164 := run_underlying Tryd.underlying175
  rcases hp with rfl | rfl
  · have h0 : w.cell? ⟨b, 0, none⟩ = some (.pointer none) := by simp [World.cell?, hbk]
    have hsh : w.shape? b = some (93, 2) := by simp [World.shape?, hbk]
    have hfz : w.frozen? ⟨b, 0, none⟩ = false := by simp [World.frozen?, hbk]
    have hs : (w.setCell ⟨b, 0, none⟩ (.pointer (some ⟨b, 0, none⟩))).heap.size = w.heap.size := by simp [World.setCell]
    go_enter Tryd.func65, Tryd.ntmps65
    go_wp2
    rw [Lib.run_to_unsafe w ⟨b, 0, none⟩ Tryd.underlying91 Tryd.underlying175 hj (by rw [hjs]; decide) hsh (Nat.zero_lt_succ 1)]
    simp only [Result.andThen]
    rw [Oper.upon_value]
    go_wp2
    rw [run_callFunc_extern Tryd.func93 (by kernel_rfl) (by kernel_rfl) (by kernel_rfl) (e := Extern.AbiNoEscape.same) (by kernel_rfl)]
    rw [Lib.run_noEscape]
    simp only [Result.andThen]
    rw [Oper.upon_value]
    go_wp2
    rw [Lib.run_from_unsafe w ⟨b, 0, none⟩ Tryd.underlying175 Tryd.underlying91 hj hsh hlies]
    simp only [Result.andThen]
    rw [Oper.upon_value]
    go_wp2
    go_end0
    refine ⟨rfl, ?_, ⟨rfl, rfl, rfl, by rw [hs]; exact Nat.le_refl _, fun k hk hne => Below.heap_setCell _ _ _ k fun e => hne (by rw [e])⟩, hs⟩
    rw [heap_setCell_same w b 0 _ _ _ hbk]; rfl
  · have h0 : w.cell? ⟨b, 0, none⟩ = some (.pointer (some ⟨b, 0, none⟩)) := by simp [World.cell?, hbk]
    go_enter Tryd.func65, Tryd.ntmps65
    go_wp2
    rw [Lib.run_neq_ptr_same w _ Tryd.underlying91 hj]
    go_wp2
    go_end0
    exact ⟨rfl, hbk, ⟨rfl, rfl, rfl, Nat.le_refl _, fun _ _ _ => rfl⟩, rfl⟩
theorem laysWs : WsL Tryd.prog renWs := { mixed := by kernel_rfl, f166 := Tryd.func41.trans (by kernel_rfl), e240 := fun args w => enters Tryd.func65 (by kernel_rfl) (by kernel_rfl) args w, cc := fun h1 h2 => cc_seat h1 h2, t3 := Tryd.underlying3, a3 := Tryd.isAgg3, z3 := Tryd.sizeOf3, v3 := Tryd.zeroValue3, t4 := Tryd.underlying4, a4 := Tryd.isAgg4, z4 := Tryd.sizeOf4, v4 := Tryd.zeroValue4, t9 := Tryd.underlying9, a9 := Tryd.isAgg9, z9 := Tryd.sizeOf9, v9 := Tryd.zeroValue9, t37 := Tryd.underlying69, a37 := Tryd.isAgg69, z37 := Tryd.sizeOf69, v37 := Tryd.zeroValue69, t70 := Tryd.underlying91, a70 := Tryd.isAgg91, z70 := Tryd.sizeOf91, v70 := Tryd.zeroValue91, t72 := Tryd.underlying93, a72 := Tryd.isAgg93, z72 := Tryd.sizeOf93, v72 := Tryd.zeroValue93, t164 := Tryd.underlying175, a164 := Tryd.isAgg175, z164 := Tryd.sizeOf175, v164 := Tryd.zeroValue175 }
theorem xlaysWs : Builder.Extra Tryd.prog renWs := { sizeBuilder := by kernel_rfl, liesBuilder := by kernel_rfl, t5 := by kernel_rfl, a5 := fun w => by kernel_rfl, z5 := fun w => by kernel_rfl, v5 := fun w => by kernel_rfl, infoByte := by kernel_rfl, cellsByte := by kernel_rfl, sizeByte := by kernel_rfl, neB5 := by decide }
def renStr : Go.Shelf.Ren := ⟨fun x => if x = 169 then 43 else x, fun x => if x = 70 then 91 else if x = 9 then 9 else if x = 0 then 0 else if x = 72 then 93 else if x = 37 then 69 else if x = 127 then 140 else if x = 3 then 3 else if x = 5 then 5 else x, fun x =>  x⟩
theorem laysStr : Lays.n169 Tryd.prog renStr := { mixed := by kernel_rfl, f169 := Tryd.func43.trans (by kernel_rfl), t0 := Tryd.underlying0, a0 := Tryd.isAgg0, z0 := Tryd.sizeOf0, v0 := Tryd.zeroValue0, t3 := Tryd.underlying3, a3 := Tryd.isAgg3, z3 := Tryd.sizeOf3, v3 := Tryd.zeroValue3, t9 := Tryd.underlying9, a9 := Tryd.isAgg9, z9 := Tryd.sizeOf9, v9 := Tryd.zeroValue9, t37 := Tryd.underlying69, a37 := Tryd.isAgg69, z37 := Tryd.sizeOf69, v37 := Tryd.zeroValue69, t70 := Tryd.underlying91, a70 := Tryd.isAgg91, z70 := Tryd.sizeOf91, v70 := Tryd.zeroValue91, t72 := Tryd.underlying93, a72 := Tryd.isAgg93, z72 := Tryd.sizeOf93, v72 := Tryd.zeroValue93, t127 := Tryd.underlying140, a127 := Tryd.isAgg140, z127 := Tryd.sizeOf140, v127 := Tryd.zeroValue140 }
theorem xlaysStr : Builder.Extra Tryd.prog renStr := { sizeBuilder := by kernel_rfl, liesBuilder := by kernel_rfl, t5 := by kernel_rfl, a5 := fun w => by kernel_rfl, z5 := fun w => by kernel_rfl, v5 := fun w => by kernel_rfl, infoByte := by kernel_rfl, cellsByte := by kernel_rfl, sizeByte := by kernel_rfl, neB5 := by decide }
def renFmt : Go.Shelf.Ren := ⟨fun x => if x = 173 then 66 else if x = 246 then 94 else if x = 283 then 134 else if x = 284 then 135 else if x = 285 then 136 else if x = 286 then 137 else if x = 129 then 165 else if x = 317 then 164 else if x = 318 then 166 else if x = 319 then 167 else if x = 320 then 168 else if x = 337 then 187 else if x = 338 then 125 else x, fun x => if x = 2 then 2 else if x = 3 then 3 else if x = 9 then 9 else if x = 4 then 4 else if x = 171 then 220 else if x = 0 then 0 else if x = 53 then 52 else if x = 37 then 69 else if x = 5 then 5 else if x = 173 then 222 else if x = 212 then 246 else if x = 51 then 247 else if x = 20 then 20 else if x = 213 then 248 else if x = 46 then 122 else if x = 232 then 272 else if x = 233 then 242 else x, fun x => if x = 17 then 3 else if x = 18 then 7 else if x = 19 then 2 else x⟩
theorem laysFmt : Lays.n173 Tryd.prog renFmt := { mixed := by kernel_rfl, f129 := Tryd.func165.trans (by kernel_rfl), f173 := Tryd.func66.trans (by kernel_rfl), f246 := Tryd.func94.trans (by kernel_rfl), f283 := Tryd.func134.trans (by kernel_rfl), f284 := Tryd.func135.trans (by kernel_rfl), f285 := Tryd.func136.trans (by kernel_rfl), f286 := Tryd.func137.trans (by kernel_rfl), f317 := Tryd.func164.trans (by kernel_rfl), f318 := Tryd.func166.trans (by kernel_rfl), f319 := Tryd.func167.trans (by kernel_rfl), f320 := Tryd.func168.trans (by kernel_rfl), f337 := Tryd.func187.trans (by kernel_rfl), f338 := Tryd.func125.trans (by kernel_rfl), t0 := Tryd.underlying0, a0 := Tryd.isAgg0, z0 := Tryd.sizeOf0, v0 := Tryd.zeroValue0, t2 := Tryd.underlying2, a2 := Tryd.isAgg2, z2 := Tryd.sizeOf2, v2 := Tryd.zeroValue2, t3 := Tryd.underlying3, a3 := Tryd.isAgg3, z3 := Tryd.sizeOf3, v3 := Tryd.zeroValue3, t4 := Tryd.underlying4, a4 := Tryd.isAgg4, z4 := Tryd.sizeOf4, v4 := Tryd.zeroValue4, t5 := Tryd.underlying5, a5 := Tryd.isAgg5, z5 := Tryd.sizeOf5, v5 := Tryd.zeroValue5, t9 := Tryd.underlying9, a9 := Tryd.isAgg9, z9 := Tryd.sizeOf9, v9 := Tryd.zeroValue9, t20 := Tryd.underlying20, a20 := Tryd.isAgg20, z20 := Tryd.sizeOf20, v20 := Tryd.zeroValue20, t37 := Tryd.underlying69, a37 := Tryd.isAgg69, z37 := Tryd.sizeOf69, v37 := Tryd.zeroValue69, t46 := Tryd.underlying122, a46 := Tryd.isAgg122, z46 := Tryd.sizeOf122, v46 := Tryd.zeroValue122, t51 := Tryd.underlying247, a51 := Tryd.isAgg247, z51 := Tryd.sizeOf247, v51 := Tryd.zeroValue247, t53 := Tryd.underlying52, a53 := Tryd.isAgg52, z53 := Tryd.sizeOf52, v53 := Tryd.zeroValue52, t171 := Tryd.underlying220, a171 := Tryd.isAgg220, z171 := Tryd.sizeOf220, v171 := Tryd.zeroValue220, t173 := Tryd.underlying222, a173 := Tryd.isAgg222, z173 := Tryd.sizeOf222, v173 := Tryd.zeroValue222, t212 := Tryd.underlying246, a212 := Tryd.isAgg246, z212 := Tryd.sizeOf246, v212 := Tryd.zeroValue246, t213 := Tryd.underlying248, a213 := Tryd.isAgg248, z213 := Tryd.sizeOf248, t232 := Tryd.underlying272, a232 := Tryd.isAgg272, z232 := Tryd.sizeOf272, v232 := Tryd.zeroValue272, t233 := Tryd.underlying242, a233 := Tryd.isAgg242, z233 := Tryd.sizeOf242, v233 := Tryd.zeroValue242, g17 := by kernel_rfl, g18 := by kernel_rfl, g19 := by kernel_rfl }
theorem envA_ext {f : Nat} {e} (h : envA f = .ext e) : (f = n_strings_Builder_WriteString ∧ e = wsE) ∨ (f = n_strings_Builder_String ∧ e = strE) ∨ (f = n_strconv_FormatInt ∧ e = fmtE) := by
  unfold envA at h
  split at h
  · rename_i e1; cases h; exact .inl ⟨e1, rfl⟩
  split at h
  · rename_i e1; cases h; exact .inr (.inl ⟨e1, rfl⟩)
  split at h
  · rename_i e1; cases h; exact .inr (.inr (⟨e1, rfl⟩))
  exact absurd h find_ext
theorem envA_text {f : Nat} {c} (h : envA f = .text c) : find tab f = .text c := by
  unfold envA at h
  split at h
  · cases h
  split at h
  · cases h
  split at h
  · cases h
  exact h
theorem envA_textK {f : Nat} {c} (h : envA f = .textK c) : find tab f = .textK c := by
  unfold envA at h
  split at h
  · cases h
  split at h
  · cases h
  split at h
  · cases h
  exact h
theorem envA_keep : KeepE envA := by
  intro f e h args hh v h2 ws hv
  rcases envA_ext h with ⟨rfl, rfl⟩ | ⟨rfl, rfl⟩ | ⟨rfl, rfl⟩
  · exact wsE_keep hv
  · exact strE_keep hv
  · obtain ⟨rfl, rfl⟩ := fmtE_keep hv; exact Keeps.refl _ _ _
theorem envA_ok : EnvOK Tryd.prog envA := by
  refine ⟨by kernel_rfl, envA_keep, fun f c h => tab_mem (.inl (envA_text h)), fun f c h => tab_mem (.inr (envA_textK h)), fun f e h => ?_⟩
  rcases envA_ext h with ⟨rfl, rfl⟩ | ⟨rfl, rfl⟩ | ⟨rfl, rfl⟩
  · exact .inl ⟨⟨_, Tryd.func41, by kernel_rfl, by kernel_rfl⟩, wsE_ok laysWs xlaysWs (by kernel_rfl) (by kernel_rfl)⟩
  · exact .inl ⟨⟨_, Tryd.func43, by kernel_rfl, by kernel_rfl⟩, strE_ok laysStr xlaysStr (by kernel_rfl) (by kernel_rfl)⟩
  · exact .inl ⟨⟨_, Tryd.func66, by kernel_rfl, by kernel_rfl⟩, fmtE_ok laysFmt⟩
def gd : Heap := List.replicate 8 .dead
theorem awake_run : callv envA 300 (.func (.func n_law23_awake) #[] #[]) [] gd = some (.bool true, gd, []) := by kernel_rfl
theorem awake_ok : ExtOK Tryd.prog n_law23_awake (constE gd (.bool true)) := closed_ext envA_ok (c := c_law23_awake) rfl rfl (by kernel_rfl) rfl rfl awake_run
noncomputable def env : Env := fun f => if f = n_law23_awake then .ext (constE gd (.bool true)) else envA f
theorem env_keep : KeepE env := by
  intro f e h args hh v h2 ws hv
  unfold env at h
  split at h
  · cases h; exact constE_keep _ _ _ _ _ _ _ hv
  · exact envA_keep f e h args hh v h2 ws hv
theorem env_ok : EnvOK Tryd.prog env := by
  refine ⟨envA_ok.1, env_keep, fun f c h => ?_, fun f c h => ?_, fun f e h => ?_⟩
  · unfold env at h
    split at h
    · cases h
    · exact envA_ok.text f c h
  · unfold env at h
    split at h
    · cases h
    · exact envA_ok.textK f c h
  · unfold env at h
    split at h
    · rename_i e1; cases h; subst e1
      exact .inl ⟨⟨_, Tryd.func7, by kernel_rfl, by kernel_rfl⟩, awake_ok⟩
    · exact envA_ok.ext f e h
theorem callX {E : Env} {g : FuncId} {e : List Value → Heap → Option (Value × Heap × List Nat)} (hf : E g = .ext e) (args : List Value) (h : Heap) : callW E (.func (.func g) #[] #[]) args h = e args h := by
  rw [callW_eq]; simp [callG, hf, callF]
theorem awakes : ∀ h, callW env (.func (.func n_law23_awake) #[] #[]) [] h = some (.bool true, h, []) := fun h => by
  rw [callX (show env n_law23_awake = .ext (constE gd (.bool true)) from if_pos rfl)]
  exact constE_at (fun g o hg hd => absurd (List.eq_of_mem_replicate (List.mem_of_getElem? hg)) hd)
theorem laid : Laid env := ⟨env_keep, rfl, rfl, rfl, rfl, rfl, rfl⟩
end Go.L.Try
