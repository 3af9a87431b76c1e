/- Short words for the code of functions. No premise; definitions alone. -/
import Derived.Test.YthjniafhfboggaaGreatDoorA1
namespace Go.Ab.W
open Go Go.Ab
abbrev x (k : A) (a : List Opd) : MOper := ⟨none, .act k, a, none⟩
abbrev X (d : Nat) (k : A) (a : List Opd) : MOper := ⟨some d, .act k, a, none⟩
/-- If what stands there is true. -/
abbrev u (j : Nat) (k : A) (a : List Opd) : MOper := ⟨none, .act k, a, some (j, true)⟩
abbrev w (j : Nat) (k : A) (a : List Opd) : MOper := ⟨none, .act k, a, some (j, false)⟩
abbrev m (j : Nat) : MOper := ⟨none, .move j, [], none⟩
abbrev M (d j : Nat) : MOper := ⟨some d, .move j, [], none⟩
/-- What is in a slot; what is in a slot, moved. -/
abbrev g (j : Nat) : MOper := ⟨none, .act .mov, [.slot j], none⟩
abbrev l (j off n : Nat) (b : Bool) : MOper := ⟨none, .loadBox j off n b, [], none⟩
abbrev s (j : Nat) : Opd := .slot j
abbrev r (j : Nat) : Opd := .res j
abbrev i (n : Int) : Opd := .const (.sc (.int .i64 n))
abbrev t (b : Array UInt8) : Opd := .const (.sc (.string ⟨b⟩))
abbrev b (c : Bool) : Opd := .const (.sc (.bool c))
abbrev e (n : Nat) : Opd := .const (.slice .shut n [])
abbrev nP : Opd := .const (.sc (.pointer none))
abbrev nI : Opd := .const (.sc .nilIface)
abbrev y : Bool := true
abbrev n : Bool := false
end Go.Ab.W
