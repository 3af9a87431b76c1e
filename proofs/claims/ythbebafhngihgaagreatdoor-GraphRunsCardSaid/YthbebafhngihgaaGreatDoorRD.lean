/- After the loop: a graph of nothing, and what the refusals say. No premise but those named. -/
import Derived.Test.YthbebafhngihgaaGreatDoorRB
namespace Go.AbN
open Go Go.Ab Go.Ab4

def sel16 : A → Bool
  | .load 1 _ => true
  | _ => false
def sel24 : A → Bool
  | .load 1 _ | .call _ _ => true
  | _ => false

abbrev gNil : Ab.Obj := .var 117 [.slice .shut 5 [], .slice .shut 2 [], .slice .shut 3 []]
abbrev newO (O : List Ab.Obj) : List Ab.Obj := (((O ++ [.map []]) ++ [.map []]) ++ [gNil]) ++ [.map []]
abbrev newI (O : List Ab.Obj) : Nat := ((O ++ [Ab.Obj.map []]) ++ [Ab.Obj.map []]).length

theorem new_run (O : List Ab.Obj) : q16.runL (C 1999) sel16 1999 [.slice .shut 7 [], .slice .shut 10 []] ⟨O, 0⟩ [some (.slice .shut 2 [], ⟨newO O, 0⟩), some (.slice .shut 3 [], ⟨newO O, 0⟩)]
    = some (.tup [.ptr (newI O) 0, .sc .nilIface], ⟨newO O, 0⟩, [⟨.load 1 false, [.ptr (newI O) 1], ⟨newO O, 0⟩, .slice .shut 2 [], ⟨newO O, 0⟩⟩, ⟨.load 1 false, [.ptr (newI O) 2], ⟨newO O, 0⟩, .slice .shut 3 [], ⟨newO O, 0⟩⟩]) := by kernel_rfl

theorem newO_at (O : List Ab.Obj) : (newO O)[newI O]? = some gNil := by
  unfold newO newI
  rw [List.getElem?_append_left (by simp), List.getElem?_append_right (by simp)]
  simp only [Nat.sub_self, List.getElem?_cons_zero]
theorem newO_keep {O : List Ab.Obj} {i : Nat} {o : Ab.Obj} (h : O[i]? = some o) : (newO O)[i]? = some o := by
  have := (List.getElem?_eq_some_iff.1 h).1
  unfold newO
  rw [List.getElem?_append_left (by simp; omega), List.getElem?_append_left (by simp; omega), List.getElem?_append_left (by simp; omega), List.getElem?_append_left (by omega)]
  exact h

theorem load_at {call : CallT} {O : List Ab.Obj} {b i off : Nat} {agg : Bool} {t : TypeId} {cs : List V} {v : V} (h : O[i]? = some (.var t cs)) (hp : Ab.part cs off 1 agg = some v) : Obl.ok call ⟨.load 1 agg, [.ptr i off], ⟨O, b⟩, v, ⟨O, b⟩⟩ := by
  unfold Obl.ok
  simp only [A.act, actLoad, h, Ab.Obj.cs, hp, Option.map_some]

theorem c16 (n : Nat) (σ : St) : C (n+1) 16 [.slice .shut 7 [], .slice .shut 10 []] σ = q16.run (C n) n [.slice .shut 7 [], .slice .shut 10 []] σ := by kernel_rfl
theorem new_ok (O : List Ab.Obj) : C 2000 16 [.slice .shut 7 [], .slice .shut 10 []] ⟨O, 0⟩ = some (.tup [.ptr (newI O) 0, .sc .nilIface], ⟨newO O, 0⟩) := by
  rw [c16 1999]
  refine MFunc.runL_ok (new_run O) ?_
  intro o ho
  simp only [List.mem_cons, List.not_mem_nil, or_false] at ho
  rcases ho with rfl | rfl
  · exact load_at (newO_at O) rfl
  · exact load_at (newO_at O) rfl

def txt (c : Int) (s : ByteArray) : ByteArray := match C 100 67 [.ptr 0 0] ⟨[.var 143 [.int 0, .int c, .str s]], 0⟩ with
  | some (.sc (.string t), _) => t
  | _ => ⟨#[]⟩

abbrev ref (c : Int) (s : ByteArray) : Ab.Obj := .var 143 [.int 0, .int c, .str s]

theorem c67 (n i : Nat) (σ : St) : C (n+1) 67 [.ptr i 0] σ = q67.run (C n) n [.ptr i 0] σ := by kernel_rfl
theorem c24 (n i : Nat) (t : TypeId) (b : V) (σ : St) : C (n+1) 24 [.iface t (.ptr i 0), b] σ = q24.run (C n) n [.iface t (.ptr i 0), b] σ := by kernel_rfl
theorem c18 (n i : Nat) (σ : St) : C (n+1) 18 [.ptr i 0] σ = q18.run (C n) n [.ptr i 0] σ := by kernel_rfl

theorem ro66 (n : Nat) (σ : St) : Obl.ok (C (n+3)) ⟨.call 66 true, [.agg [.int 0]], σ, .int 0, σ⟩ := by unfold Obl.ok; kernel_rfl
theorem ro_ok2 {call : CallT} {f : FuncId} {xs : List V} {σ : St} {r : V} (h : ∀ b, call f xs ⟨σ.objs, b⟩ = some (r, ⟨σ.objs, b⟩)) (hf : freezeAll ⟨σ.objs, σ.objs.length⟩ σ.objs.length r = some r) (hi : r.inside σ.objs.length = true) : Obl.ok call ⟨.call f true, xs, σ, r, σ⟩ := by
  unfold Obl.ok
  simp only [A.act, callBy, if_true, callRO, h, hf, hi]

/-- How many types a graph has. -/
theorem len_arr (call : CallT) (n i id N : Nat) (σ : St) : q18.runL call sel24 n [.ptr i 0] σ [some (.arr id 0 N 5, σ)] = some (.int N, σ, [⟨.load 1 false, [.ptr i 0], σ, .arr id 0 N 5, σ⟩]) := by kernel_rfl
theorem len_nil (call : CallT) (n i : Nat) (σ : St) : q18.runL call sel24 n [.ptr i 0] σ [some (.slice .shut 5 [], σ)] = some (.int 0, σ, [⟨.load 1 false, [.ptr i 0], σ, .slice .shut 5 [], σ⟩]) := by kernel_rfl
theorem len_ok1 {O : List Ab.Obj} {b i id N : Nat} {T : TypeId} {R M : V} (h : O[i]? = some (.var T [.arr id 0 N 5, R, M])) (n : Nat) : C (n+1) 18 [.ptr i 0] ⟨O, b⟩ = some (.int N, ⟨O, b⟩) := by
  rw [c18]
  refine MFunc.runL_ok (len_arr _ n i id N ⟨O, b⟩) ?_
  intro o ho
  simp only [List.mem_cons, List.not_mem_nil, or_false] at ho
  subst ho
  exact load_at h rfl
theorem len_ok2 {O : List Ab.Obj} {b i : Nat} {T : TypeId} {R M : V} (h : O[i]? = some (.var T [.slice .shut 5 [], R, M])) (n : Nat) : C (n+1) 18 [.ptr i 0] ⟨O, b⟩ = some (.int 0, ⟨O, b⟩) := by
  rw [c18]
  refine MFunc.runL_ok (len_nil _ n i ⟨O, b⟩) ?_
  intro o ho
  simp only [List.mem_cons, List.not_mem_nil, or_false] at ho
  subst ho
  exact load_at h rfl

theorem txt_run_a (i : Nat) (σ : St) : q67.runL (C 1998) (fun a => match a with | .load 1 _ => true | _ => false) 1998 [.ptr i 0] σ [some (.agg [.int 0], σ), some (.str ⟨#[67]⟩, σ), some (.int 21, σ)]
    = some (.str (txt 21 ⟨#[67]⟩), σ, [⟨.load 1 true, [.ptr i 0], σ, .agg [.int 0], σ⟩, ⟨.load 1 false, [.ptr i 2], σ, .str ⟨#[67]⟩, σ⟩, ⟨.load 1 false, [.ptr i 1], σ, .int 21, σ⟩]) := by kernel_rfl
theorem txt_ok_a {O : List Ab.Obj} {b i : Nat} (h : O[i]? = some (ref 21 ⟨#[67]⟩)) : C 1999 67 [.ptr i 0] ⟨O, b⟩ = some (.str (txt 21 ⟨#[67]⟩), ⟨O, b⟩) := by
  rw [c67 1998]
  refine MFunc.runL_ok (txt_run_a i ⟨O, b⟩) ?_
  intro o ho
  simp only [List.mem_cons, List.not_mem_nil, or_false] at ho
  rcases ho with rfl | rfl | rfl
  · exact load_at h rfl
  · exact load_at h rfl
  · exact load_at h rfl
theorem is_run_a (call : CallT) (n i b : Nat) (O : List Ab.Obj) (σ2 : St) :
    q24.runL call sel24 n [.iface 106 (.ptr i 0), .agg [.int 0, .int 21, .str ⟨#[67]⟩]] ⟨O, b⟩ [some (.bool true, σ2), some (.ptr i 0, σ2), some (.ptr i 0, σ2), some (.agg [.int 0], σ2), some (.int 0, σ2), some (.ptr i 0, σ2), some (.int 21, σ2), some (.ptr i 0, σ2), some (.str ⟨#[67]⟩, σ2), some (.ptr i 0, σ2), some (.str (txt 21 ⟨#[67]⟩), σ2), some (.ptr i 0, σ2), some (.int 21, σ2), some (.bool true, σ2)]
    = some (.bool true, σ2, [⟨.call 65 false, [.iface 106 (.ptr i 0), .iface 140 (.ptr O.length 0)], ⟨O ++ [.var 106 [.nilp]], b⟩, .bool true, σ2⟩,
      ⟨.load 1 false, [.ptr O.length 0], σ2, .ptr i 0, σ2⟩, ⟨.load 1 false, [.ptr O.length 0], σ2, .ptr i 0, σ2⟩, ⟨.load 1 true, [.ptr i 0], σ2, .agg [.int 0], σ2⟩, ⟨.call 66 true, [.agg [.int 0]], σ2, .int 0, σ2⟩,
      ⟨.load 1 false, [.ptr O.length 0], σ2, .ptr i 0, σ2⟩, ⟨.load 1 false, [.ptr i 1], σ2, .int 21, σ2⟩, ⟨.load 1 false, [.ptr O.length 0], σ2, .ptr i 0, σ2⟩, ⟨.load 1 false, [.ptr i 2], σ2, .str ⟨#[67]⟩, σ2⟩,
      ⟨.load 1 false, [.ptr O.length 0], σ2, .ptr i 0, σ2⟩, ⟨.call 67 true, [.ptr i 0], σ2, .str (txt 21 ⟨#[67]⟩), σ2⟩, ⟨.load 1 false, [.ptr O.length 0], σ2, .ptr i 0, σ2⟩, ⟨.load 1 false, [.ptr i 1], σ2, .int 21, σ2⟩,
      ⟨.call 68 true, [.iface 106 (.ptr i 0), .iface 141 (.int 21)], σ2, .bool true, σ2⟩]) := by kernel_rfl

theorem txt_run_b (i : Nat) (σ : St) : q67.runL (C 1998) (fun a => match a with | .load 1 _ => true | _ => false) 1998 [.ptr i 0] σ [some (.agg [.int 0], σ), some (.str ⟨#[]⟩, σ), some (.int 23, σ)]
    = some (.str (txt 23 ⟨#[]⟩), σ, [⟨.load 1 true, [.ptr i 0], σ, .agg [.int 0], σ⟩, ⟨.load 1 false, [.ptr i 2], σ, .str ⟨#[]⟩, σ⟩, ⟨.load 1 false, [.ptr i 1], σ, .int 23, σ⟩]) := by kernel_rfl
theorem txt_ok_b {O : List Ab.Obj} {b i : Nat} (h : O[i]? = some (ref 23 ⟨#[]⟩)) : C 1999 67 [.ptr i 0] ⟨O, b⟩ = some (.str (txt 23 ⟨#[]⟩), ⟨O, b⟩) := by
  rw [c67 1998]
  refine MFunc.runL_ok (txt_run_b i ⟨O, b⟩) ?_
  intro o ho
  simp only [List.mem_cons, List.not_mem_nil, or_false] at ho
  rcases ho with rfl | rfl | rfl
  · exact load_at h rfl
  · exact load_at h rfl
  · exact load_at h rfl
theorem is_run_b (call : CallT) (n i b : Nat) (O : List Ab.Obj) (σ2 : St) :
    q24.runL call sel24 n [.iface 106 (.ptr i 0), .agg [.int 0, .int 23, .str ⟨#[]⟩]] ⟨O, b⟩ [some (.bool true, σ2), some (.ptr i 0, σ2), some (.ptr i 0, σ2), some (.agg [.int 0], σ2), some (.int 0, σ2), some (.ptr i 0, σ2), some (.int 23, σ2), some (.ptr i 0, σ2), some (.str ⟨#[]⟩, σ2), some (.ptr i 0, σ2), some (.str (txt 23 ⟨#[]⟩), σ2), some (.ptr i 0, σ2), some (.int 23, σ2), some (.bool true, σ2)]
    = some (.bool true, σ2, [⟨.call 65 false, [.iface 106 (.ptr i 0), .iface 140 (.ptr O.length 0)], ⟨O ++ [.var 106 [.nilp]], b⟩, .bool true, σ2⟩,
      ⟨.load 1 false, [.ptr O.length 0], σ2, .ptr i 0, σ2⟩, ⟨.load 1 false, [.ptr O.length 0], σ2, .ptr i 0, σ2⟩, ⟨.load 1 true, [.ptr i 0], σ2, .agg [.int 0], σ2⟩, ⟨.call 66 true, [.agg [.int 0]], σ2, .int 0, σ2⟩,
      ⟨.load 1 false, [.ptr O.length 0], σ2, .ptr i 0, σ2⟩, ⟨.load 1 false, [.ptr i 1], σ2, .int 23, σ2⟩, ⟨.load 1 false, [.ptr O.length 0], σ2, .ptr i 0, σ2⟩, ⟨.load 1 false, [.ptr i 2], σ2, .str ⟨#[]⟩, σ2⟩,
      ⟨.load 1 false, [.ptr O.length 0], σ2, .ptr i 0, σ2⟩, ⟨.call 67 true, [.ptr i 0], σ2, .str (txt 23 ⟨#[]⟩), σ2⟩, ⟨.load 1 false, [.ptr O.length 0], σ2, .ptr i 0, σ2⟩, ⟨.load 1 false, [.ptr i 1], σ2, .int 23, σ2⟩,
      ⟨.call 68 true, [.iface 106 (.ptr i 0), .iface 141 (.int 23)], σ2, .bool true, σ2⟩]) := by kernel_rfl
end Go.AbN

namespace Go.AbN
open Go Go.Ab Go.Ab4

theorem c65 {xs : List V} {σ : St} {r : V × St} (n : Nat) (h : asK xs σ = some r) : C (n+1) 65 xs σ = some r := by
  have : C (n+1) 65 xs σ = match Kn1 65 xs σ with
    | some r => some r
    | none => match Q 65 with
      | some m => m.run (C n) n xs σ
      | none => none := rfl
  rw [this]
  have h2 : Kn1 65 xs σ = match Kn0 65 xs σ with
    | some r => some r
    | none => (memo 65 xs).map fun v => (v, σ) := rfl
  have h3 : Kn0 65 xs σ = asK xs σ := rfl
  rw [h2, h3, h]
theorem c68 {xs : List V} {σ : St} {v : V} (n : Nat) (h : isK xs σ = some v) : C (n+1) 68 xs σ = some (v, σ) := by
  have : C (n+1) 68 xs σ = match Kn1 68 xs σ with
    | some r => some r
    | none => match Q 68 with
      | some m => m.run (C n) n xs σ
      | none => none := rfl
  rw [this]
  have h2 : Kn1 68 xs σ = match Kn0 68 xs σ with
    | some r => some r
    | none => (memo 68 xs).map fun v => (v, σ) := rfl
  have h3 : Kn0 68 xs σ = (isK xs σ).map fun v => (v, σ) := rfl
  rw [h2, h3, h]
  rfl

theorem as_at {O : List Ab.Obj} {i : Nat} : asK [.iface 106 (.ptr i 0), .iface 140 (.ptr O.length 0)] ⟨O ++ [.var 106 [.nilp]], O.length⟩ = some (.bool true, ⟨O ++ [.var 106 [.ptr i 0]], O.length⟩) := by
  unfold asK
  simp only [List.getElem?_append_right (Nat.le_refl _), Nat.sub_self, List.getElem?_cons_zero]
  rw [if_pos ⟨Nat.le_refl _, rfl⟩]
  simp [St.set]

theorem app_keep {O P : List Ab.Obj} {i : Nat} {o : Ab.Obj} (h : O[i]? = some o) : (O ++ P)[i]? = some o := by
  have := (List.getElem?_eq_some_iff.1 h).1
  rw [List.getElem?_append_left this]
  exact h
theorem app_at {O : List Ab.Obj} {o : Ab.Obj} : (O ++ [o])[O.length]? = some o := by
  rw [List.getElem?_append_right (Nat.le_refl _), Nat.sub_self]; rfl

theorem is68_a {O : List Ab.Obj} {i : Nat} (h : O[i]? = some (ref 21 ⟨#[67]⟩)) (b : Nat) : isK [.iface 106 (.ptr i 0), .iface 141 (.int 21)] ⟨O, b⟩ = some (.bool true) := by
  unfold isK whyOf
  simp only [h]
  rfl
theorem is_ok_a {O : List Ab.Obj} {i : Nat} (h : O[i]? = some (ref 21 ⟨#[67]⟩)) : C 2000 24 [.iface 106 (.ptr i 0), .agg [.int 0, .int 21, .str ⟨#[67]⟩]] ⟨O, O.length⟩ = some (.bool true, ⟨O ++ [.var 106 [.ptr i 0]], O.length⟩) := by
  rw [c24 1999]
  have h2 : (O ++ [Ab.Obj.var 106 [.ptr i 0]])[i]? = some (ref 21 ⟨#[67]⟩) := app_keep h
  refine MFunc.runL_ok (is_run_a (C 1999) 1999 i O.length O ⟨O ++ [.var 106 [.ptr i 0]], O.length⟩) ?_
  intro o ho
  simp only [List.mem_cons, List.not_mem_nil, or_false] at ho
  rcases ho with rfl | rfl | rfl | rfl | rfl | rfl | rfl | rfl | rfl | rfl | rfl | rfl | rfl | rfl
  · exact rw_ok (c65 1998 as_at)
  · exact load_at app_at rfl
  · exact load_at app_at rfl
  · exact load_at h2 rfl
  · exact ro66 1996 _
  · exact load_at app_at rfl
  · exact load_at h2 rfl
  · exact load_at app_at rfl
  · exact load_at h2 rfl
  · exact load_at app_at rfl
  · exact ro_ok2 (fun b => txt_ok_a h2) rfl rfl
  · exact load_at app_at rfl
  · exact load_at h2 rfl
  · exact ro_ok2 (fun b => c68 1998 (is68_a h2 b)) rfl rfl

theorem is68_b {O : List Ab.Obj} {i : Nat} (h : O[i]? = some (ref 23 ⟨#[]⟩)) (b : Nat) : isK [.iface 106 (.ptr i 0), .iface 141 (.int 23)] ⟨O, b⟩ = some (.bool true) := by
  unfold isK whyOf
  simp only [h]
  rfl
theorem is_ok_b {O : List Ab.Obj} {i : Nat} (h : O[i]? = some (ref 23 ⟨#[]⟩)) : C 2000 24 [.iface 106 (.ptr i 0), .agg [.int 0, .int 23, .str ⟨#[]⟩]] ⟨O, O.length⟩ = some (.bool true, ⟨O ++ [.var 106 [.ptr i 0]], O.length⟩) := by
  rw [c24 1999]
  have h2 : (O ++ [Ab.Obj.var 106 [.ptr i 0]])[i]? = some (ref 23 ⟨#[]⟩) := app_keep h
  refine MFunc.runL_ok (is_run_b (C 1999) 1999 i O.length O ⟨O ++ [.var 106 [.ptr i 0]], O.length⟩) ?_
  intro o ho
  simp only [List.mem_cons, List.not_mem_nil, or_false] at ho
  rcases ho with rfl | rfl | rfl | rfl | rfl | rfl | rfl | rfl | rfl | rfl | rfl | rfl | rfl | rfl
  · exact rw_ok (c65 1998 as_at)
  · exact load_at app_at rfl
  · exact load_at app_at rfl
  · exact load_at h2 rfl
  · exact ro66 1996 _
  · exact load_at app_at rfl
  · exact load_at h2 rfl
  · exact load_at app_at rfl
  · exact load_at h2 rfl
  · exact load_at app_at rfl
  · exact ro_ok2 (fun b => txt_ok_b h2) rfl rfl
  · exact load_at app_at rfl
  · exact load_at h2 rfl
  · exact ro_ok2 (fun b => c68 1998 (is68_b h2 b)) rfl rfl
end Go.AbN
