/- One type more in a graph: what Add comes to at the type int. No premise but those named. -/
import Derived.Test.YthbebafhngihgaaGreatDoorRA
namespace Go.AbN
open Go Go.Ab Go.Ab4

abbrev C (n : Nat) : CallT := callN Q Kn1 n

/-- A graph of N types at gi, its row at id. -/
structure GAt (objs : List Ab.Obj) (gi id N : Nat) (T : TypeId) (R M : V) (cs : List V) : Prop where
  g : objs[gi]? = some (.var T [.arr id 0 N 5, R, M])
  r : objs[id]? = some (.cells cs)
  len : cs.length = N * 5

theorem GAt.ne {objs : List Ab.Obj} {gi id N : Nat} {T : TypeId} {R M : V} {cs : List V} (h : GAt objs gi id N T R M cs) : gi ≠ id := by
  intro e
  have := h.g
  rw [e, h.r] at this
  cases this

theorem load_ok {objs : List Ab.Obj} {gi id N : Nat} {T : TypeId} {R M : V} {cs : List V} (h : GAt objs gi id N T R M cs) (call : CallT) : Obl.ok call ⟨.load 1 false, [.ptr gi 0], ⟨objs, 0⟩, .arr id 0 N 5, ⟨objs, 0⟩⟩ := by
  unfold Obl.ok
  simp only [A.act, actLoad, h.g, Ab.Obj.cs, part]
  rfl

theorem c60 (n g : Nat) (b : V) (σ : St) : C (n+1) 60 [.ptr g 0, b] σ = q60.run (C n) n [.ptr g 0, b] σ := by kernel_rfl
theorem c64 (n g : Nat) (b : V) (σ : St) : C (n+1) 64 [.ptr g 0, b] σ = q64.run (C n) n [.ptr g 0, b] σ := by kernel_rfl
theorem c22 (n g : Nat) (b : V) (σ : St) : C (n+1) 22 [.ptr g 0, b] σ = q22.run (C n) n [.ptr g 0, b] σ := by kernel_rfl
theorem c111 (n g : Nat) (b : V) (σ : St) : C (n+1) 111 [.ptr g 0, b] σ = q111.run (C n) n [.ptr g 0, b] σ := by kernel_rfl
theorem c112 (n g : Nat) (b : V) (σ : St) : C (n+1) 112 [.ptr g 0, b] σ = q112.run (C n) n [.ptr g 0, b] σ := by kernel_rfl

/-- The objects after one type more. -/
def grown (objs : List Ab.Obj) (gi id N : Nat) (T : TypeId) (R M : V) (cs : List V) : List Ab.Obj :=
  ((objs.set id .dead ++ [Ab.Obj.cells (cs ++ pInt)]).set gi (.var T [.arr objs.length 0 (N + 1) 5, R, M])).set objs.length (.cells (splice (cs ++ pInt) (N * 5 + 1) [.slice .shut 1 []]))

theorem lay_ok {objs : List Ab.Obj} {gi id N : Nat} {T : TypeId} {R M : V} {cs : List V} (h : GAt objs gi id N T R M cs) (hN : N ≤ 1023) (n : Nat) : C (n+3) 60 [.ptr gi 0, tInt] ⟨objs, 0⟩ = some (.int N, ⟨grown objs gi id N T R M cs, 0⟩) := by
  have hgl := (List.getElem?_eq_some_iff.1 h.g).1
  have hil := (List.getElem?_eq_some_iff.1 h.r).1
  have hne := h.ne
  rw [c60]
  refine MFunc.runL_ok (lay_run _ (n+1) gi id objs.length N (N*5) ⟨objs, 0⟩ ⟨objs.set id .dead ++ [Ab.Obj.cells (cs ++ pInt)], 0⟩ ⟨(objs.set id .dead ++ [Ab.Obj.cells (cs ++ pInt)]).set gi (.var T [.arr objs.length 0 (N + 1) 5, R, M]), 0⟩ _) ?_
  have hg2 : (objs.set id .dead ++ [Ab.Obj.cells (cs ++ pInt)])[gi]? = some (.var T [.arr id 0 N 5, R, M]) := by
    rw [List.getElem?_append_left (by simpa using hgl), List.getElem?_set_ne (Ne.symm hne)]
    exact h.g
  intro o ho
  simp only [List.mem_cons, List.not_mem_nil, or_false] at ho
  rcases ho with rfl | rfl | rfl | rfl | rfl | rfl | rfl | rfl | rfl
  · exact load_ok h _
  · exact load_ok h _
  · rfl
  · rfl
  · unfold Obl.ok
    simp only [A.act, actAppend, elems, if_true, St.get, h.r, Nat.zero_le]
    rw [if_pos ⟨trivial, trivial, h.len, by unfold roomy; simp; omega⟩]
    simp [St.set, St.push]
  · unfold Obl.ok
    simp only [A.act, actStore, hg2, Ab.Obj.cs, Nat.zero_le, true_and]
    rw [if_pos ⟨rfl, rfl⟩, if_pos (by simp)]
    rfl
  · unfold Obl.ok
    simp only [A.act, actLoad]
    rw [List.getElem?_set_self (by simp; omega)]
    rfl
  · unfold Obl.ok
    simp only [A.act, actIndexAddr]
    rw [if_pos ⟨trivial, by omega, by omega⟩]
    simp
  · unfold Obl.ok
    simp only [A.act, actStore, Nat.zero_le, true_and]
    rw [if_pos ⟨rfl, rfl⟩, List.getElem?_set_ne (by omega), List.getElem?_append_right (by simp)]
    simp only [List.length_set, Nat.sub_self, List.getElem?_cons_zero, Ab.Obj.cs]
    rw [if_pos (by simp [h.len, pInt])]
    rfl

theorem grown_at {objs : List Ab.Obj} {gi id N : Nat} {T : TypeId} {R M : V} {cs : List V} (h : GAt objs gi id N T R M cs) : ∃ cs', GAt (grown objs gi id N T R M cs) gi objs.length (N+1) T R M cs' := by
  have hgl := (List.getElem?_eq_some_iff.1 h.g).1
  refine ⟨splice (cs ++ pInt) (N * 5 + 1) [.slice .shut 1 []], ?_, ?_, ?_⟩
  · unfold grown
    rw [List.getElem?_set_ne (by omega), List.getElem?_set_self (by simp; omega)]
  · unfold grown
    rw [List.getElem?_set_self (by simp)]
  · simp [splice, h.len, pInt]
    omega
theorem grown_keep {objs : List Ab.Obj} {gi id N : Nat} {T : TypeId} {R M : V} {cs : List V} {e : Nat} {o : Ab.Obj} (he : objs[e]? = some o) (h1 : e ≠ gi) (h2 : e ≠ id) : (grown objs gi id N T R M cs)[e]? = some o := by
  have hel := (List.getElem?_eq_some_iff.1 he).1
  unfold grown
  rw [List.getElem?_set_ne (by omega), List.getElem?_set_ne (Ne.symm h1), List.getElem?_append_left (by simpa using hel), List.getElem?_set_ne (Ne.symm h2)]
  exact he
end Go.AbN

namespace Go.AbN
open Go Go.Ab Go.Ab4

theorem wrap_nat (N : Nat) (h : N < 9223372036854775808) : wrapF .i64 (N : Int) = (N : Int) := by
  show (if fits 9223372036854775808 9223372036854775808 (Int.ofNat N) = true then _ else _) = _
  rw [if_pos (by simp [fits, Nat.blt]; omega)]
theorem wrap_succ (N : Nat) (h : N < 9223372036854775807) : wrapF .i64 ((N : Int) + 1) = ((N + 1 : Nat) : Int) := wrap_nat (N + 1) (by omega)

theorem ro_ok {call : CallT} {f : FuncId} {xs : List V} {objs : List Ab.Obj} {r : V} (h : ∀ b, call f xs ⟨objs, b⟩ = some (r, ⟨objs, b⟩)) (hf : freezeAll ⟨objs, objs.length⟩ objs.length r = some r) (hi : r.inside objs.length = true) : Obl.ok call ⟨.call f true, xs, ⟨objs, 0⟩, r, ⟨objs, 0⟩⟩ := by
  unfold Obl.ok
  simp only [A.act, callBy, if_true, callRO, h, hf, hi]

theorem rw_ok {call : CallT} {f : FuncId} {xs : List V} {σ σ' : St} {r : V} (h : call f xs σ = some (r, σ')) : Obl.ok call ⟨.call f false, xs, σ, r, σ'⟩ := by
  unfold Obl.ok
  simp only [A.act, callBy, Bool.false_eq_true, if_false, h]
theorem ro138 (n : Nat) (σ : St) : Obl.ok (C (n+1)) ⟨.call 138 true, [.slice .shut 5 [tIntC]], σ, .slice .shut 1 [], σ⟩ := by unfold Obl.ok; kernel_rfl
theorem ro100 (n : Nat) (σ : St) : Obl.ok (C (n+1)) ⟨.call 100 true, [tInt], σ, .bool true, σ⟩ := by unfold Obl.ok; kernel_rfl
theorem ro55 (n : Nat) (σ : St) : Obl.ok (C (n+1)) ⟨.call 55 true, [.slice .shut 5 [tIntC]], σ, .int 1, σ⟩ := by unfold Obl.ok; kernel_rfl

theorem where_ok (n g : Nat) (σ : St) : C (n+3) 111 [.ptr g 0, tInt] σ = some (.tup [.str ⟨#[]⟩, .bool false], σ) := by
  rw [c111]
  refine MFunc.runL_ok (where_run _ (n+1) g σ) ?_
  intro o ho
  simp only [List.mem_cons, List.not_mem_nil, or_false] at ho
  subst ho
  exact ro138 _ _
theorem loose_ok (n g : Nat) (σ : St) : C (n+3) 112 [.ptr g 0, tInt] σ = some (.tup [.str ⟨#[]⟩, .bool false], σ) := by
  rw [c112]
  exact MFunc.runL_ok (loose_run _ (n+1) g σ) (fun o ho => by cases ho)

theorem gtr_ok (N : Nat) (h : N ≤ 1024) (call : CallT) (σ : St) (b : Bool) (hb : b = decide (N = 1024)) : Obl.ok call ⟨.ibin .gtr, [.sc (.int .i64 (wrapF .i64 (N + 1))), .int 1024], σ, .bool b, σ⟩ := by
  unfold Obl.ok
  simp only [A.act, actIbin, if_true, intBin, Option.map_some]
  rw [wrap_succ N (by omega), hb]
  congr 4
  simp
  omega

theorem ro111 (n g : Nat) (objs : List Ab.Obj) : Obl.ok (C (n+3)) ⟨.call 111 true, [.ptr g 0, tInt], ⟨objs, 0⟩, .tup [.str ⟨#[]⟩, .bool false], ⟨objs, 0⟩⟩ := ro_ok (fun b => where_ok n g ⟨objs, b⟩) (by kernel_rfl) (by kernel_rfl)
theorem ro112 (n g : Nat) (objs : List Ab.Obj) : Obl.ok (C (n+3)) ⟨.call 112 true, [.ptr g 0, tInt], ⟨objs, 0⟩, .tup [.str ⟨#[]⟩, .bool false], ⟨objs, 0⟩⟩ := ro_ok (fun b => loose_ok n g ⟨objs, b⟩) (by kernel_rfl) (by kernel_rfl)

variable {objs : List Ab.Obj} {gi id N : Nat} {T : TypeId} {R M : V} {cs : List V}
theorem add_ok (h : GAt objs gi id N T R M cs) (hN : N ≤ 1023) (n : Nat) : C (n+5) 64 [.ptr gi 0, .slice .shut 5 [tIntC]] ⟨objs, 0⟩ = some (.nilp, ⟨objs, 0⟩) := by
  rw [c64]
  refine MFunc.runL_ok (add_run _ (n+2) gi id N ⟨objs, 0⟩) ?_
  intro o ho
  simp only [List.mem_cons, List.not_mem_nil, or_false] at ho
  rcases ho with rfl | rfl | rfl | rfl | rfl | rfl
  · exact ro100 (n+3) _
  · exact ro111 (n+1) _ _
  · exact load_ok h _
  · exact ro55 (n+3) _
  · exact gtr_ok N (by omega) _ _ _ (by simp; omega)
  · exact ro112 (n+1) _ _

theorem Add_ok (h : GAt objs gi id N T R M cs) (hN : N ≤ 1023) (n : Nat) : C (n+6) 22 [.ptr gi 0, .slice .shut 5 [tIntC]] ⟨objs, 0⟩ = some (.tup [.slice .no 1 [[.int N]], .sc .nilIface], ⟨grown objs gi id N T R M cs, 0⟩) := by
  rw [c22]
  refine MFunc.runL_ok (Add_run _ (n+3) gi N ⟨objs, 0⟩ _) ?_
  intro o ho
  simp only [List.mem_cons, List.not_mem_nil, or_false] at ho
  rcases ho with rfl | rfl
  · exact rw_ok (add_ok h hN n)
  · exact rw_ok (lay_ok h hN (n+2))

/-- The refusal of one type too many. -/
def full : Ab.Obj := .var 143 [.int 0, .int 23, .str ⟨#[]⟩]
theorem add_ok2 (h : GAt objs gi id 1024 T R M cs) (n : Nat) : C (n+5) 64 [.ptr gi 0, .slice .shut 5 [tIntC]] ⟨objs, 0⟩ = some (.ptr objs.length 0, ⟨objs ++ [full], 0⟩) := by
  rw [c64]
  refine MFunc.runL_ok (add_full _ (n+2) gi id 1024 objs.length ⟨objs, 0⟩ ⟨objs ++ [full], 0⟩) ?_
  intro o ho
  simp only [List.mem_cons, List.not_mem_nil, or_false] at ho
  rcases ho with rfl | rfl | rfl | rfl | rfl | rfl
  · exact ro100 (n+3) _
  · exact ro111 (n+1) _ _
  · exact load_ok h _
  · exact ro55 (n+3) _
  · exact gtr_ok 1024 (by omega) _ _ _ rfl
  · unfold Obl.ok; kernel_rfl
theorem Add_ok2 (h : GAt objs gi id 1024 T R M cs) (n : Nat) : C (n+6) 22 [.ptr gi 0, .slice .shut 5 [tIntC]] ⟨objs, 0⟩ = some (.tup [.slice .shut 1 [], .iface 106 (.ptr objs.length 0)], ⟨objs ++ [full], 0⟩) := by
  rw [c22]
  refine MFunc.runL_ok (Add_full _ (n+3) gi objs.length ⟨objs, 0⟩ _) ?_
  intro o ho
  simp only [List.mem_cons, List.not_mem_nil, or_false] at ho
  subst ho
  exact rw_ok (add_ok2 h n)
end Go.AbN

namespace Go.AbN
open Go Go.Ab Go.Ab4

def tailOf : Nat → MCode → MCode
  | n + 1, .seq _ b => tailOf n b
  | _, c => c
def headOf : MCode → MCode
  | .seq a _ => a
  | c => c
def loopOf : MCode → MCode
  | .seq _ (.block _ (.loop b)) => b
  | c => c
def lpB : MCode := loopOf (headOf (tailOf 14 q3.body))

def sel3 : A → Bool
  | .call _ _ | .ibin .lss => true
  | _ => false

/-- The frame of the loop. -/
def lenv (e : Nat → EV) (g : Nat) (e3 : EV) (k : Int) (e17 e18 : EV) : List EV :=
  [e 0, e 1, .v (.ptr g 0), e3, e 4, e 5, .box tIntC, e 7, e 8, .v (.int k), e 10, e 11, e 12, e 13, e 14, e 15, e 16, e17, e18]

theorem round_run (call : CallT) (f g N : Nat) (k : Int) (e : Nat → EV) (e3 e17 e18 : EV) (σ σ' : St) :
    execL call sel3 (f+2) lpB (lenv e g e3 k e17 e18) σ [some (.bool true, σ), some (.tup [.slice .no 1 [[.int N]], .sc .nilIface], σ')]
      = some (.norm, lenv e g (.v (.sc .nilIface)) (wrapF .i64 (k + 1)) (.v (.bool true)) (.v (.bool false)), σ', [],
        [⟨.ibin .lss, [.int k, .int 1024], σ, .bool true, σ⟩, ⟨.call 22 false, [.ptr g 0, .slice .shut 5 [tIntC]], σ, .tup [.slice .no 1 [[.int N]], .sc .nilIface], σ'⟩]) := by kernel_rfl
theorem round_end (call : CallT) (f g i : Nat) (k : Int) (e : Nat → EV) (e3 e17 e18 : EV) (σ σ' : St) :
    execL call sel3 (f+2) lpB (lenv e g e3 k e17 e18) σ [some (.bool true, σ), some (.tup [.slice .shut 1 [], .iface 106 (.ptr i 0)], σ')]
      = some (.exit 0, lenv e g (.v (.iface 106 (.ptr i 0))) k (.v (.bool true)) (.v (.bool true)), σ', [],
        [⟨.ibin .lss, [.int k, .int 1024], σ, .bool true, σ⟩, ⟨.call 22 false, [.ptr g 0, .slice .shut 5 [tIntC]], σ, .tup [.slice .shut 1 [], .iface 106 (.ptr i 0)], σ'⟩]) := by kernel_rfl

theorem lss_ok (k : Nat) (h : k < 1024) (call : CallT) (σ : St) : Obl.ok call ⟨.ibin .lss, [.int (k : Int), .int 1024], σ, .bool true, σ⟩ := by
  unfold Obl.ok
  have h1 : decide ((k : Int) < 1024) = true := decide_eq_true (by omega)
  simp only [A.act, actIbin, if_true, intBin, Option.map_some, h1]

variable {objs : List Ab.Obj} {gi id N : Nat} {T : TypeId} {R M : V} {cs : List V}

theorem round_ok (h : GAt objs gi id N T R M cs) (hN : N ≤ 1023) (n f k : Nat) (hk : k < 1024) (e : Nat → EV) (e3 e17 e18 : EV) :
    exec (C (n+6)) (f+2) lpB (lenv e gi e3 k e17 e18) ⟨objs, 0⟩ = some (.norm, lenv e gi (.v (.sc .nilIface)) ((k + 1 : Nat) : Int) (.v (.bool true)) (.v (.bool false)), ⟨grown objs gi id N T R M cs, 0⟩) := by
  rw [← wrap_succ k (by omega)]
  refine execL_ok (round_run (C (n+6)) f gi N k e e3 e17 e18 ⟨objs, 0⟩ ⟨grown objs gi id N T R M cs, 0⟩) ?_
  intro o ho
  simp only [List.mem_cons, List.not_mem_nil, or_false] at ho
  rcases ho with rfl | rfl
  · exact lss_ok k hk _ _
  · exact rw_ok (Add_ok h hN n)
theorem round_ok2 (h : GAt objs gi id 1024 T R M cs) (n f k : Nat) (hk : k < 1024) (e : Nat → EV) (e3 e17 e18 : EV) :
    exec (C (n+6)) (f+2) lpB (lenv e gi e3 k e17 e18) ⟨objs, 0⟩ = some (.exit 0, lenv e gi (.v (.iface 106 (.ptr objs.length 0))) k (.v (.bool true)) (.v (.bool true)), ⟨objs ++ [full], 0⟩) := by
  refine execL_ok (round_end (C (n+6)) f gi objs.length k e e3 e17 e18 ⟨objs, 0⟩ ⟨objs ++ [full], 0⟩) ?_
  intro o ho
  simp only [List.mem_cons, List.not_mem_nil, or_false] at ho
  rcases ho with rfl | rfl
  · exact lss_ok k hk _ _
  · exact rw_ok (Add_ok2 h n)

/-- All rounds: the graph is full, and it is refused. -/
theorem rounds (n f : Nat) (e : Nat → EV) {o1 : Ab.Obj} {i1 : Nat} (ho1 : ∀ cs, o1 ≠ .cells cs) : ∀ (d : Nat) {objs : List Ab.Obj} {gi id N : Nat} {T : TypeId} {R M : V} {cs : List V} (k m : Nat) (e3 e17 e18 : EV), GAt objs gi id N T R M cs → N + d = 1024 → k + d ≤ 1023 → d + 1 ≤ m →
      objs[i1]? = some o1 → i1 ≠ gi →
      ∃ objs' id' cs', iter m (fun en s => exec (C (n+6)) (f+2) lpB en s) (lenv e gi e3 k e17 e18) ⟨objs, 0⟩ = some (.exit 0, lenv e gi (.v (.iface 106 (.ptr objs'.length 0))) ((k + d : Nat) : Int) (.v (.bool true)) (.v (.bool true)), ⟨objs' ++ [full], 0⟩)
        ∧ GAt objs' gi id' 1024 T R M cs' ∧ objs'[i1]? = some o1 := by
  intro d
  induction d with
  | zero =>
    intro objs gi id N T R M cs k m e3 e17 e18 h hN hk hm h1 hne
    have : N = 1024 := by omega
    subst this
    cases m with
    | zero => omega
    | succ m =>
      refine ⟨objs, id, cs, ?_, h, h1⟩
      unfold iter
      simp only
      rw [round_ok2 h n f k (by omega) e e3 e17 e18]
      rfl
  | succ d ih =>
    intro objs gi id N T R M cs k m e3 e17 e18 h hN hk hm h1 hne
    cases m with
    | zero => omega
    | succ m =>
      obtain ⟨cs2, h2⟩ := grown_at h
      have hid : i1 ≠ id := by
        intro hi
        have := h.r
        rw [← hi, h1] at this
        cases this
        exact ho1 _ rfl
      obtain ⟨objs', id', cs', h3, h4, h5⟩ := ih (k + 1) m (.v (.sc .nilIface)) (.v (.bool true)) (.v (.bool false)) h2 (by omega) (by omega) (by omega) (grown_keep h1 hne hid) hne
      refine ⟨objs', id', cs', ?_, h4, h5⟩
      unfold iter
      simp only
      rw [round_ok h (by omega) n f k (by omega) e e3 e17 e18]
      simp only
      rw [h3]
      congr 5
      omega
end Go.AbN
