/- errors.Is at *graph.Refusal that wraps the number asked for; copyCheck. No premise but those named. -/
import Derived.Test.YthbebafhngihgaaGreatDoorN0
import Derived.Lib.IfaceEq
import Derived.Shelf.Strings.Builder1
namespace Go.Proofs.YthbebafhngihgaaGreatDoor
open Go.RowKit Go.Extern.Stop Go.Stop Go.Extern

theorem isf_typeOf (v : Value) (w : World) : (Extern.ReflectliteType.typeOf #[.iface 141 v]).run Tryz.prog w = .ok (.iface 245 (.agg #[.pointer (some ⟨10, 141, none⟩)])) w := by kernel_rfl
def cmpEntry : Array Value → Sem Value := Extern.ReflectliteType.method fun t => do Extern.Rtype.noPackHeld "Comparable" t; pure (.bool (← typeInfo t).comparable)
theorem isf_comparable (w : World) : (cmpEntry #[.agg #[.pointer (some ⟨10, 141, none⟩)]]).run Tryz.prog w = .ok (.bool true) w := by kernel_rfl
theorem isf_methodComparable (v : Value) (w : World) : (Go.method 507 245 v "Comparable").run Tryz.prog w = .ok (312, v) w := by kernel_rfl
theorem isf_comp : (Tryz.prog.info? 141).map (·.comparable) = some true := by kernel_rfl
theorem isf_noIs (v : Value) (xT : TypeId) (w : World) : (Instr.typeAssert (.iface 106 v) xT 257 true).run Tryz.prog w = .ok (.tuple #[.nilIface, .bool false]) w := run_typeAssert_lacksB Tryz.underlying257 (by kernel_rfl) (by kernel_rfl) v xT w
theorem isf_hasUnwrap (v : Value) (xT : TypeId) (w : World) : (Instr.typeAssert (.iface 106 v) xT 252 true).run Tryz.prog w = .ok (.tuple #[.iface 106 v, .bool true]) w := run_typeAssert_hasB Tryz.underlying252 (by kernel_rfl) v xT w
theorem isf_methodUnwrap (v : Value) (w : World) : (Go.method 507 106 v "Unwrap").run Tryz.prog w = .ok (305, v) w := by kernel_rfl

set_option maxRecDepth 100000 in
set_option maxHeartbeats 4000000 in
/-- errors.Is(r, r.Why). -/
theorem errorsIs_hit (pb po : Nat) (n : Int) (w : World) (h1 : w.cell? ⟨pb, po + 1, none⟩ = some (.int .i64 n)) :
    Calls Tryz.prog 68 #[.iface 106 (.pointer (some ⟨pb, po, none⟩)), .iface 141 (.int .i64 n)] w fun e w' => e = .returned (.bool true) ∧ w' = w := by
  have h8 := @run_callFunc_extern Tryz.prog 119 _ Extern.ReflectliteType.typeOf Tryz.func119 (by kernel_rfl) (by kernel_rfl) (by kernel_rfl) (by kernel_rfl)
  have h32 := @run_callFunc_extern Tryz.prog 312 _ cmpEntry Tryz.func312 (by kernel_rfl) (by kernel_rfl) (by kernel_rfl) (by kernel_rfl)
  have tT := isf_typeOf
  have cT := isf_comparable
  have mR := isf_methodComparable
  have nW := isf_noIs
  have uW := isf_hasUnwrap
  have mU := isf_methodUnwrap
  have heq := Go.Lib.run_eql_iface_int (P := Tryz.prog) (k := .i64) w n n Tryz.underlying32 isf_comp Tryz.underlying141
  have hty := run_eql_iface_types (P := Tryz.prog) 106 141 (.pointer (some ⟨pb, po, none⟩)) (.int .i64 n) Tryz.underlying32 (by decide) w
  go_enter Tryz.func68, Tryz.ntmps68
  go_wp2
  refine wp_loop_rounds 2 ?_
  rw [rounds_succ]
  go_wp2
  rw [rounds_succ]
  go_wp2
  go_ret
  exact ⟨rfl, rfl⟩

set_option maxRecDepth 100000 in
set_option maxHeartbeats 4000000 in
/-- copyCheck at a builder that was used. -/
theorem copyCheck_used (b : Nat) (w : World) (h0 : w.cell? ⟨b, 0, none⟩ = some (.pointer (some ⟨b, 0, none⟩))) :
    Calls Tryz.prog 220 #[.pointer (some ⟨b, 0, none⟩)] w fun e w' => e = .returned (.tuple #[]) ∧ w' = w := by
  obtain ⟨j, hj, _⟩ := Option.map_eq_some_iff.1 (show (Tryz.prog.info? 216).map (·.size) = some 2 by kernel_rfl)
  go_enter Tryz.func220, Tryz.ntmps220
  go_wp2
  rw [Go.Lib.run_neq_ptr_same w _ Tryz.underlying213 hj]
  go_wp2
  go_end0
  exact ⟨rfl, rfl⟩

set_option maxRecDepth 100000 in
set_option maxHeartbeats 4000000 in
/-- copyCheck at a fresh builder: it stores its own address. -/
theorem copyCheck_fresh (b T n : Nat) (w : World) (h0 : w.cell? ⟨b, 0, none⟩ = some (.pointer none)) (hsh : w.shape? b = some (T, n)) (hn : 0 < n) (hl : liesAt Tryz.prog Tryz.prog.depth T (n / Tryz.prog.cellsOf T) 0 216 1 = true) (hfz : w.frozen? ⟨b, 0, none⟩ = false) :
    Calls Tryz.prog 220 #[.pointer (some ⟨b, 0, none⟩)] w fun e w' => e = .returned (.tuple #[]) ∧ w' = w.setCell ⟨b, 0, none⟩ (.pointer (some ⟨b, 0, none⟩)) := by
  obtain ⟨j, hj, hjs⟩ := Option.map_eq_some_iff.1 (show (Tryz.prog.info? 216).map (·.size) = some 2 by kernel_rfl)
  go_enter Tryz.func220, Tryz.ntmps220
  go_wp2
  rw [Go.Lib.run_to_unsafe w ⟨b, 0, none⟩ Tryz.underlying213 Tryz.underlying189 hj (by rw [hjs]; decide) hsh hn]
  simp only [Result.andThen]
  rw [Oper.upon_value]
  go_wp2
  rw [run_callFunc_extern Tryz.func235 (by kernel_rfl) (by kernel_rfl) (by kernel_rfl) (e := Extern.AbiNoEscape.same) (by kernel_rfl)]
  rw [Go.Lib.run_noEscape]
  simp only [Result.andThen]
  rw [Oper.upon_value]
  go_wp2
  rw [Go.Lib.run_from_unsafe w ⟨b, 0, none⟩ Tryz.underlying189 Tryz.underlying213 hj hsh hl]
  simp only [Result.andThen]
  rw [Oper.upon_value]
  go_wp2
  go_end0
  exact ⟨rfl, rfl⟩
end Go.Proofs.YthbebafhngihgaaGreatDoor
