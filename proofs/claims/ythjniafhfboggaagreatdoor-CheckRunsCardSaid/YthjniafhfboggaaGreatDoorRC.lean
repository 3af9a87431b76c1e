/- The row and the card of CheckRuns, from what a call of it does in every world that holds what the row lists. No premise but that one. -/
import Derived.Test.YthjniafhfboggaaGreatDoorCards
import Derived.Test.YthjniafhfboggaaGreatDoorTI
import Derived.Test.YthjniafhfboggaaGreatDoorEX
import Derived.Test.YthjniafhfboggaaGreatDoorRF
import Derived.WalkKit
import Derived.ProofKit
import Derived.OpenShut
import Derived.Lay
import Derived.LaidHandle
import Derived.LaidSub
import Derived.ChangeVars
import Derived.JoinedOf
import Derived.RowKit
import Derived.Deep.DeepHandedRow
import Derived.Deep.DeepWitnessRowRef
import Derived.Lib.LaidTab
import Derived.Lib.Space
namespace Go.Proofs.YthjniafhfboggaaGreatDoor.Runs
open Go.ChangeShapes Go.WideShapes Go.ChangeAt Go.RowKit Go.Ab

theorem own : ownKnob Tryz.prog.godebug = none := by kernel_rfl
theorem gErr : Tryz.prog.globalNamed "errors.errorType" = some 0 := by kernel_rfl
theorem gSpc : Tryz.prog.globalNamed "strings.asciiSpace" = some 5 := by kernel_rfl
theorem gPow : Tryz.prog.globalNamed "internal/strconv.uint64pow10" = some 1 := by kernel_rfl
theorem gPowType : (Tryz.prog.globals[1]?).map (·.type) = some 360 := by kernel_rfl
theorem under20 : Tryz.prog.underlying 360 = some (.array 20 297) := by kernel_rfl
theorem under64 : Tryz.prog.underlying 297 = some (.int .u64) := by kernel_rfl
theorem cells64 : Tryz.prog.cellsOf 297 = 1 := by kernel_rfl
theorem cells20 : Tryz.prog.cellsOf 360 = 20 := by kernel_rfl
theorem gSpcType : (Tryz.prog.globals[5]?).map (·.type) = some 446 := by kernel_rfl
theorem rt : (Tryz.prog.cutTypes.find? (·.1 == "internal/reflectlite.rtype")).map (·.2) = some 232 := by kernel_rfl
theorem size : Tryz.prog.types.size = 536 := by kernel_rfl
theorem oneRow : ((List.range 536).filter fun t => Tryz.prog.rowNamed t [101, 114, 114, 111, 114]) = [24] := by kernel_rfl
theorem hand : typeHandle Tryz.prog 24 = .pointer (some ⟨10, 24, none⟩) := by kernel_rfl
theorem under256 : Tryz.prog.underlying 446 = some (.array 256 5) := by kernel_rfl
theorem under5 : Tryz.prog.underlying 5 = some (.int .u8) := by kernel_rfl
theorem cells5 : Tryz.prog.cellsOf 5 = 1 := by kernel_rfl
theorem cells256 : Tryz.prog.cellsOf 446 = 256 := by kernel_rfl

abbrev L : List (String × DataW Unit) := Rows.checkRunsRow.laid

theorem row_of_var {W : World} {n : String} {g : Nat} {cs : Array Value} (hg : Tryz.prog.globalNamed n = some g) (h : W.var? Tryz.prog n = some cs) : ∃ ty fr, W.heap[g]? = some (.cells cs ty fr) := by
  unfold World.var? at h
  rw [hg] at h
  simp only [Option.bind_some] at h
  split at h
  · rename_i cs' ty fr hh
    cases h
    exact ⟨ty, fr, hh⟩
  · cases h

/-- What the list gives: the two variables that the walk reads. -/
theorem stay {W : World} (h : laidMetH Tryz.prog L W) : ∀ p ∈ GL, ∃ ty fr, W.heap[p.1]? = some (.cells p.2 ty fr) := by
  obtain ⟨h1, h2⟩ := laidMetH_iff.1 h
  intro p hp
  simp only [GL, List.mem_cons, List.not_mem_nil, or_false] at hp
  rcases hp with rfl | rfl | rfl
  · have hm : ("errors.errorType", Rows.laid_errors_errorType) ∈ L.filter fun x => x.2.handleName?.isSome := by
      refine List.mem_filter.2 ⟨by simp [L, Rows.checkRunsRow], rfl⟩
    obtain ⟨name, u, ty, e1, e2, e3, e4, e5⟩ := h2 _ hm
    have en : name = [101, 114, 114, 111, 114] := (Option.some.inj e1).symm
    subst en
    obtain rfl := Option.some.inj (rt.symm.trans e2)
    have hm2 : ty ∈ (List.range 536).filter fun t => Tryz.prog.rowNamed t [101, 114, 114, 111, 114] := List.mem_filter.2 ⟨List.mem_range.2 (by rw [← size]; exact e3), e4⟩
    rw [oneRow] at hm2
    obtain rfl := List.mem_singleton.1 hm2
    rw [hand] at e5
    exact row_of_var gErr e5
  · have h3 := h1.filter fun x => x.1 == "strings.asciiSpace"
    have h4 : ((L.filter fun x => x.2.handleName?.isNone).filter fun x => x.1 == "strings.asciiSpace") = [("strings.asciiSpace", Lib.tabData .u8 Lib.asciiSpaceTab)] := by kernel_rfl
    rw [h4] at h3
    exact row_of_var gSpc (Lib.tabIs_of_head gSpc gSpcType under256 under5 cells5 cells256 h3)
  · have h3 := h1.filter fun x => x.1 == "internal/strconv.uint64pow10"
    have h4 : ((L.filter fun x => x.2.handleName?.isNone).filter fun x => x.1 == "internal/strconv.uint64pow10") = [("internal/strconv.uint64pow10", Lib.tabData .u64 Lib.pow10Tab)] := by kernel_rfl
    rw [h4] at h3
    exact row_of_var gPow (Lib.tabIs_of_head gPow gPowType under20 under64 cells64 cells20 h3)

/-- The empty start of the abstract machine, in such a world. -/
noncomputable def lim0 : Nat → Nat := fun b => if b = 0 ∨ b = 5 ∨ b = 1 then 1 else 0
theorem start {W : World} (h : ∀ p ∈ GL, ∃ ty fr, W.heap[p.1]? = some (.cells p.2 ty fr)) : WRel [] lim0 W ⟨[], 0⟩ := by
  have hs : ∀ b, b = 0 ∨ b = 5 ∨ b = 1 → b < W.heap.size := by
    intro b hb
    rcases hb with rfl | rfl | rfl
    · obtain ⟨_, _, h1⟩ := h _ (List.mem_cons_self ..)
      exact (Array.getElem?_eq_some_iff.1 h1).1
    · obtain ⟨_, _, h1⟩ := h _ (List.mem_cons_of_mem _ (List.mem_cons_self ..))
      exact (Array.getElem?_eq_some_iff.1 h1).1
    · obtain ⟨_, _, h1⟩ := h _ (List.mem_cons_of_mem _ (List.mem_cons_of_mem _ (List.mem_cons_self ..)))
      exact (Array.getElem?_eq_some_iff.1 h1).1
  refine ⟨rfl, fun _ _ hm => by simp at hm, fun i j b _ _ hi => by simp at hi, fun id b o ho _ => by simp at ho, fun b hb => ?_, fun p hp => ⟨?_, h p hp⟩⟩
  · unfold lim0
    rw [if_neg]
    intro h5
    have := hs b h5
    omega
  · simp only [GL, List.mem_cons, List.not_mem_nil, or_false] at hp
    rcases hp with rfl | rfl | rfl <;> decide

theorem kept {μ' : List Nat} {lim' : Nat → Nat} {W W' : World} {σ' : St} (h : Chg [] lim0 W ⟨[], 0⟩ μ' lim' W' σ') (may : MemPlace → Prop) : W.keptBut W' may := by
  refine ⟨h.os, h.output, fun i hi => ?_⟩
  have := (h.keep i hi (by rintro ⟨id, _, _, hm⟩; simp at hm)).1
  rw [this]
  cases hh : W.heap[i]? with
  | none => rfl
  | some o =>
    cases o with
    | cells c t fr => exact ⟨rfl, rfl, rfl, fun _ _ => rfl⟩
    | map es clock => exact .inr ⟨rfl, rfl⟩
    | _ => rfl

/-- From the abstract machine's answer to the call. -/
theorem walk {F : Funcs} {Kn : Known} {n : Nat} {σ' : St} (hok : CallOK Tryz.prog (callN F Kn n)) (hr : callN F Kn n 3 [] ⟨[], 0⟩ = some (.bool true, σ')) {W : World} (h : laidMetH Tryz.prog L W) (may : MemPlace → Prop) :
    Calls Tryz.prog 3 #[] W fun e W' => e = .returned (.bool true) ∧ W.keptBut W' may := by
  refine ((hok 3 [] ⟨[], 0⟩ _ _ hr).2 [] lim0 W #[] (start (stay h)) (Nat.le_refl _) (by unfold RelVs; trivial)).mono ?_
  rintro e W' ⟨y, μ', lim', rfl, hc, hy⟩
  unfold RelV at hy
  exact ⟨by rw [hy.1], kept hc may⟩

theorem contract (hw : ∀ W, laidMetH Tryz.prog L W → ∀ may, Calls Tryz.prog 3 #[] W fun e W' => e = .returned (.bool true) ∧ W.keptBut W' may)
    (H : Type) (enc : TypeId × Value → H) (W : World) (args : Array Value) (ds gs : List (DataW H)) (before : List MemPlace)
    (hW : DataW.Whole enc Tryz.prog Tryz.f3.params.toList Rows.checkRunsSpec.vars false W args.toList ds gs before) (hL : laidMetH Tryz.prog L W) :
    Calls Tryz.prog 3 args W fun e W' => ∃ v, e = .returned v ∧ Rows.checkRunsSpec.post enc Tryz.prog Tryz.f3 false true false false W args v W' := by
  have hW' := hW
  obtain ⟨p, q, hA0, hV, rfl, hfz, hnd⟩ := hW
  have hA : DataW.TrodAll enc Tryz.prog W 0 (fun _ => true) true Tryz.f3.params.toList args.toList ds p := hA0
  rw [Tryz.params3] at hA
  have ha := trodAll_nil hA
  obtain ⟨ha, rfl, rfl⟩ := ha
  obtain rfl : args = #[] := by cases args; simp_all
  obtain ⟨rfl, rfl⟩ := trodVars_none hV
  clear hA0
  simp only [List.append_nil] at hW'
  refine (hw W hL (fun p => p ∈ ([] : List MemPlace) ∧ (p ∈ ([] : List MemPlace) ∨ p ∈ ([] : List MemPlace) ∨ p ∈ ([] : List MemPlace)))).mono fun e W' ⟨he, hk⟩ => ?_
  subst he
  exact ⟨_, rfl, [], [], [], [], [], [], hW', trodAll_cons_mk (shut_bool Tryz.underlying4 _) trodAll_mk0, trodAll_mk0, rfl, hk, fun h => by cases h⟩

/-- A world for the witness: the settled one, with what the row lists. -/
noncomputable def base0 (os : Os) : World :=
  { World.holding Tryz.prog os ⟨#[], #[], []⟩ with heap := (World.holding Tryz.prog os ⟨#[], #[], []⟩).heap.modify 0 fun
      | .cells _ t frozen => .cells #[.iface 232 (.agg #[.pointer (some ⟨10, 24, none⟩)])] t frozen
      | o => o }
abbrev LD : List (String × DataW Unit) := L.filter fun x => x.2.handleName?.isNone
noncomputable def laidWorld (os : Os) : World := (base0 os).layVars Tryz.prog LD
theorem fits (os : Os) : (base0 os).layFits Tryz.prog LD [] = true := by kernel_rfl
theorem ifaces (os : Os) : (base0 os).layIfaces Tryz.prog LD (laidWorld os) = true := by kernel_rfl
theorem laid_met (os : Os) : laidMetH Tryz.prog L ((laidWorld os).forCall (fun _ _ => 0) ⟨#[], #[], []⟩).memory := by
  refine laidMetH_of_parts ?_ (by kernel_rfl)
  have e1 : (LD.filter fun x => (LD.map (·.1)).contains x.1) = LD := List.filter_eq_self.2 fun x hx => List.contains_iff_mem.2 (List.mem_map.2 ⟨x, hx, rfl⟩)
  have e2 : (LD.filter fun x => !(LD.map (·.1)).contains x.1) = [] := List.filter_eq_nil_iff.2 fun x hx => by rw [List.contains_iff_mem.2 (List.mem_map.2 ⟨x, hx, rfl⟩)]; simp
  have h : laidMet Tryz.prog LD (laidWorld os) := laidMet_layVars (w0 := base0 os) (LD.map (·.1)) [] (by rw [e1]; rfl) (by rw [e1]; exact fits os) (by rw [e1]; exact ifaces os) (by rw [e2]; exact LaidIn.none)
  exact h.of_heap (by simp [World.memory, World.forCall, Input.heap])
theorem reads (os : Os) {H : Type} (enc : TypeId × Value → H) : ∃ places, DataW.whole enc Tryz.prog ((laidWorld os).forCall (fun _ _ => 0) ⟨#[], #[], []⟩).memory Tryz.f3.params.toList Rows.checkRunsSpec.vars false (#[] : Array Value).toList 8 = some ([], [], places) :=
  ⟨[], by kernel_rfl⟩

set_option maxRecDepth 100000 in
theorem lifted (hw : ∀ W, laidMetH Tryz.prog L W → ∀ may, Calls Tryz.prog 3 #[] W fun e W' => e = .returned (.bool true) ∧ W.keptBut W' may)
    (os : Os) (started : os.Started) (H : Type) (enc : TypeId × Value → H) (F : Stop.Interp) :
    ReturnsInHanded {} Tryz.checked os 3 .any ((OpenSpec.ofChange Rows.checkRunsSpec).preRow enc Tryz.prog Tryz.f3 Rows.checkRunsRow.domain false Rows.checkRunsRow.laid) (((OpenSpec.ofChange Rows.checkRunsSpec).at F).post enc Tryz.prog Tryz.f3 false true false false) := by
  obtain ⟨places, hx⟩ := reads os enc
  refine returnsInHanded_of_row (C := Tryz.checked) (s := OpenSpec.ofChange Rows.checkRunsSpec) own started (by kernel_rfl) Tryz.func3
    (witness_row_atRef (enc := enc) (C := Tryz.checked) false (laidWorld os) #[] (World.layVars_os _ _ _) (by kernel_rfl) (by kernel_rfl) (by kernel_rfl)
      (OpenSpec.preRow_of_cond 8 hx (by kernel_rfl) (fun k hk => by cases hk) (by kernel_rfl) (laid_met os))) ?_
  intro W base args ds gs before hval hW _ _ _ hL _ _
  exact contract hw H enc W args ds gs before hW hL

theorem named3 : Tryz.pinned.checked.prog.funcNamed Rows.checkRunsRow.func = some 3 := by kernel_rfl
theorem inst3 : Tryz.f3.isInstance Tryz.pinned.checked.prog Rows.checkRunsRow.origin Rows.checkRunsRow.targs := of_decide_eq_true (by kernel_rfl)
theorem wrap3 : Tryz.f3.isWrapper Tryz.pinned.checked.prog Rows.checkRunsRow.wrapper Rows.checkRunsRow.mainSum := by
  unfold Func.isWrapper; first | (rw [if_pos (by decide +kernel)]; kernel_rfl) | (rw [if_neg (by decide +kernel)]; exact ⟨rfl, rfl⟩)
theorem said (hw : ∀ W, laidMetH Tryz.prog L W → ∀ may, Calls Tryz.prog 3 #[] W fun e W' => e = .returned (.bool true) ∧ W.keptBut W' may) : Rows.CheckRunsSaid :=
  OpenClaim.holds_of_cond 3 Tryz.f3 rfl rfl rfl rfl rfl rfl rfl ⟨rfl, rfl, rfl, rfl, rfl⟩ rfl rfl rfl rfl rfl named3 Tryz.func3 facts inst3 wrap3
    (fun os started H enc _ F => by rw [OpenClaim.pre_eq_preRow]; exact lifted hw os started H enc F)

theorem plain (f : FuncId) (fn : Func) (hf : Tryz.pinned.checked.prog.funcNamed "coil/coillaw9.CheckRuns" = some f) (hfn : Tryz.pinned.checked.prog.funcs[f]? = some fn) :
    true = Tryz.pinned.checked.prog.looks [] ∧ ∀ (j : Nat) t, fn.params[j]? = some t → Tryz.pinned.checked.prog.wantsStandIn t = false := by
  obtain rfl : f = 3 := Option.some.inj ((show Tryz.prog.funcNamed "coil/coillaw9.CheckRuns" = some 3 by kernel_rfl).symm.trans hf) |>.symm
  obtain rfl : fn = Tryz.f3 := (Option.some.inj (Tryz.func3.symm.trans hfn)).symm
  refine ⟨by kernel_rfl, fun j t ht => ?_⟩
  rw [Tryz.params3] at ht
  simp at ht

theorem card1 : Rows.checkRunsRow.wfByText (OpenSpec.ofChange Rows.checkRunsSpec) = true := by kernel_rfl
theorem card2 : Tryz.pinned.checked.prog.mainIs = some (Rows.checkRunsCard.stood.harness.1, Rows.checkRunsCard.stood.harness.2.toList) := by kernel_rfl
theorem card3 : false = Rows.checkRunsRow.goesBy Tryz.pinned.checked.prog := by kernel_rfl
theorem card (hw : ∀ W, laidMetH Tryz.prog L W → ∀ may, Calls Tryz.prog 3 #[] W fun e W' => e = .returned (.bool true) ∧ W.keptBut W' may) : Rows.CheckRunsCardSaid :=
  Claim7.holds_tied_plain_at .later [] _ _ _ _ (said hw) (fun _ h => by cases h) card1 (fun _ h => by cases h) checkRuns_row_tie rfl ⟨rfl, rfl⟩ card2 rfl plain card3
end Go.Proofs.YthjniafhfboggaaGreatDoor.Runs
