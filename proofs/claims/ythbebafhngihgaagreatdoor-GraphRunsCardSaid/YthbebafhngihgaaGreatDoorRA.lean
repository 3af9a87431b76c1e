/- The functions of GraphRuns' road, and what is known of calls at the type int. No premise but those named. -/
import Derived.Test.YthbebafhngihgaaGreatDoorNX
import Derived.Test.YthbebafhngihgaaGreatDoorEX
import Derived.Test.YthbebafhngihgaaGreatDoorQB
namespace Go.AbN
open Go Go.Ab Go.Ab4

def tIntC : List V := [.sc (.int .i64 1), .sc (.string ⟨#[]⟩), .slice .shut 1 [], .slice .shut 1 [], .slice .shut 5 []]

/-- Is it the type int? -/
def isInt : List V → Bool
  | [.sc (.int .i64 1), .sc (.string s), .slice .shut 1 [], .slice .shut 1 [], .slice .shut 5 []] => s.size == 0
  | _ => false
theorem isInt_spec {cs : List V} (h : isInt cs = true) : cs = tIntC := by
  unfold isInt at h
  split at h
  · rename_i s
    have hs : s.size = 0 := eq_of_beq h
    have : s = ⟨#[]⟩ := by
      cases s with | mk d =>
      have : d.size = 0 := hs
      have : d = #[] := Array.eq_empty_of_size_eq_zero this
      rw [this]
    rw [this]; rfl
  · cases h

/-- Calls at the type int alone. -/
def memo (f : FuncId) (xs : List V) : Option V := match xs with
  | [.agg cs] => if f = 100 ∧ isInt cs = true then some (.bool true) else none
  | [.slice .shut 5 [cs]] => if f = 138 ∧ isInt cs = true then some (.slice .shut 1 []) else if f = 55 ∧ isInt cs = true then some (.int 1) else none
  | _ => none

/-- What a call at no objects answers, frozen. -/
def answer (F : Funcs) (f : FuncId) (xs : List V) : Option V := match callN F Kn0 100 f xs ⟨[], 0⟩ with
  | some (r, σ1) => freezeAll σ1 0 r
  | none => none

theorem m100 : answer Q 100 [.agg tIntC] = some (.bool true) := by kernel_rfl
theorem m138 : answer Q 138 [.slice .shut 5 [tIntC]] = some (.slice .shut 1 []) := by kernel_rfl
theorem m55 : answer Q 55 [.slice .shut 5 [tIntC]] = some (.int 1) := by kernel_rfl
end Go.AbN

namespace Go.AbN
open Go Go.Ab Go.Ab4

def Kn1 : Known := fun f xs σ => match Kn0 f xs σ with
  | some r => some r
  | none => (memo f xs).map fun v => (v, σ)

/-- The acts that are answered here. -/
def sel1 : A → Bool
  | .load 1 _ | .store _ | .append 5 _ | .call _ _ | .ibin .gtr | .assertI _ _ _ _ => true
  | .indexAddr _ => false
  | _ => false
def sel2 : A → Bool
  | .indexAddr _ => true
  | a => sel1 a

def tInt : V := .agg tIntC
/-- What is laid down for it. -/
def pInt : List V := [.int 1, .slice .shut 1 [], .slice .no 1 [], .slice .no 1 [], .str ⟨#[]⟩]

theorem lay_run (call : CallT) (n gi id id' N p : Nat) (σ σ2 σ3 σ4 : St) :
    q60.runL call sel2 (n+1) [.ptr gi 0, tInt] σ [some (.arr id 0 N 5, σ), some (.arr id 0 N 5, σ), some (.slice .no 1 [], σ), some (.slice .no 1 [], σ), some (.arr id' 0 (N+1) 5, σ2), some (.undef, σ3), some (.arr id' 0 (N+1) 5, σ3), some (.ptr id' p, σ3), some (.undef, σ4)]
      = some (.int N, σ4, [⟨.load 1 false, [.ptr gi 0], σ, .arr id 0 N 5, σ⟩, ⟨.load 1 false, [.ptr gi 0], σ, .arr id 0 N 5, σ⟩, ⟨.call 108 true, [.slice .shut 1 []], σ, .slice .no 1 [], σ⟩, ⟨.call 109 true, [.slice .shut 1 []], σ, .slice .no 1 [], σ⟩,
        ⟨.append 5 true, [.arr id 0 N 5, .slice .shut 5 [pInt]], σ, .arr id' 0 (N+1) 5, σ2⟩, ⟨.store 1, [.ptr gi 0, .arr id' 0 (N+1) 5], σ2, .undef, σ3⟩, ⟨.load 1 false, [.ptr gi 0], σ3, .arr id' 0 (N+1) 5, σ3⟩,
        ⟨.indexAddr 5, [.arr id' 0 (N+1) 5, .int N], σ3, .ptr id' p, σ3⟩, ⟨.store 1, [.ptr id' (p+1), .slice .shut 1 []], σ3, .undef, σ4⟩]) := by kernel_rfl

theorem where_run (call : CallT) (n gi : Nat) (σ : St) : q111.runL call sel1 (n+1) [.ptr gi 0, tInt] σ [some (.slice .shut 1 [], σ)] = some (.tup [.str ⟨#[]⟩, .bool false], σ, [⟨.call 138 true, [.slice .shut 5 [tIntC]], σ, .slice .shut 1 [], σ⟩]) := by kernel_rfl
theorem loose_run (call : CallT) (n gi : Nat) (σ : St) : q112.runL call sel1 (n+1) [.ptr gi 0, tInt] σ [] = some (.tup [.str ⟨#[]⟩, .bool false], σ, []) := by kernel_rfl

theorem add_run (call : CallT) (n gi id N : Nat) (σ : St) :
    q64.runL call sel1 (n+2) [.ptr gi 0, .slice .shut 5 [tIntC]] σ [some (.bool true, σ), some (.tup [.str ⟨#[]⟩, .bool false], σ), some (.arr id 0 N 5, σ), some (.int 1, σ), some (.bool false, σ), some (.tup [.str ⟨#[]⟩, .bool false], σ)]
      = some (.nilp, σ, [⟨.call 100 true, [tInt], σ, .bool true, σ⟩, ⟨.call 111 true, [.ptr gi 0, tInt], σ, .tup [.str ⟨#[]⟩, .bool false], σ⟩, ⟨.load 1 false, [.ptr gi 0], σ, .arr id 0 N 5, σ⟩, ⟨.call 55 true, [.slice .shut 5 [tIntC]], σ, .int 1, σ⟩,
        ⟨.ibin .gtr, [.sc (.int .i64 (wrapF .i64 (N + 1))), .int 1024], σ, .bool false, σ⟩, ⟨.call 112 true, [.ptr gi 0, tInt], σ, .tup [.str ⟨#[]⟩, .bool false], σ⟩]) := by kernel_rfl
theorem add_full (call : CallT) (n gi id N e : Nat) (σ σ' : St) :
    q64.runL call sel1 (n+2) [.ptr gi 0, .slice .shut 5 [tIntC]] σ [some (.bool true, σ), some (.tup [.str ⟨#[]⟩, .bool false], σ), some (.arr id 0 N 5, σ), some (.int 1, σ), some (.bool true, σ), some (.ptr e 0, σ')]
      = some (.ptr e 0, σ', [⟨.call 100 true, [tInt], σ, .bool true, σ⟩, ⟨.call 111 true, [.ptr gi 0, tInt], σ, .tup [.str ⟨#[]⟩, .bool false], σ⟩, ⟨.load 1 false, [.ptr gi 0], σ, .arr id 0 N 5, σ⟩, ⟨.call 55 true, [.slice .shut 5 [tIntC]], σ, .int 1, σ⟩,
        ⟨.ibin .gtr, [.sc (.int .i64 (wrapF .i64 (N + 1))), .int 1024], σ, .bool true, σ⟩, ⟨.call 98 false, [.agg [.int 0], .int 23, .str ⟨#[]⟩], σ, .ptr e 0, σ'⟩]) := by kernel_rfl

theorem Add_run (call : CallT) (n gi N : Nat) (σ σ' : St) :
    q22.runL call sel1 (n+2) [.ptr gi 0, .slice .shut 5 [tIntC]] σ [some (.nilp, σ), some (.int N, σ')]
      = some (.tup [.slice .no 1 [[.int N]], .sc .nilIface], σ', [⟨.call 64 false, [.ptr gi 0, .slice .shut 5 [tIntC]], σ, .nilp, σ⟩, ⟨.call 60 false, [.ptr gi 0, tInt], σ, .int N, σ'⟩]) := by kernel_rfl
theorem Add_full (call : CallT) (n gi e : Nat) (σ σ' : St) :
    q22.runL call sel1 (n+2) [.ptr gi 0, .slice .shut 5 [tIntC]] σ [some (.ptr e 0, σ')]
      = some (.tup [.slice .shut 1 [], .iface 106 (.ptr e 0)], σ', [⟨.call 64 false, [.ptr gi 0, .slice .shut 5 [tIntC]], σ, .ptr e 0, σ'⟩]) := by kernel_rfl
end Go.AbN
