/- The runs that panic, and what they are answered with. Made by program (mkpan.py). No premise. -/
import Derived.Test.YthjniafhfboggaaGreatDoorPD
import Derived.Test.YthjniafhfboggaaGreatDoorRQ
namespace Go.AbN
open Go Go.Ab Go.AbQ Go.Ab.W Go.Proofs
def q14a : MCode := .reg [X 1 (.box 52) [s 0], X 2 (.alloc 22 [.nilp]) [], X 3 (.alloc 24 [.sc .nilIface]) []]
def q14b : List MOper := [x (.mkFunc (.func 22) 0) [s 2, s 3]]
def q14c : MCode := .seq (.reg [x (.build z5 []) [], x (.box 60) [r 0], x (.load 13 true) [s 1], x (.build z6 [(0, 1), (1, 13)]) [r 1, r 2], x (.box 88) [r 3], M 4 4]) (.seq (.reg [g 4, x (.call 23 false) [r 0]]) (.seq (.reg [g 4, x .nilCheck [r 0], x (.fieldAddr 0) [r 1], x (.load 1 false) [r 2], x (.store 1) [s 2, r 3], x (.store 1) [s 3, nI]]) (.ret)))
noncomputable def c14 : Code := match Tryz.f14.body with
  | some (.seq _ (.seq _ c)) => c
  | _ => .skip
noncomputable def WF : FuncId → Option Func := fun f => match f with
  | 23 => some Tryz.f23
  | 38 => some Tryz.f38
  | 39 => some Tryz.f39
  | 44 => some Tryz.f44
  | 80 => some Tryz.f80
  | 83 => some Tryz.f83
  | 97 => some Tryz.f97
  | 138 => some Tryz.f138
  | 139 => some Tryz.f139
  | 152 => some Tryz.f152
  | 196 => some Tryz.f196
  | 197 => some Tryz.f197
  | 227 => some Tryz.f227
  | 228 => some Tryz.f228
  | 260 => some Tryz.f260
  | 261 => some Tryz.f261
  | 262 => some Tryz.f262
  | 263 => some Tryz.f263
  | _ => none
theorem wf_ok : ∀ f fn, WF f = some fn → Tryz.prog.funcs[f]? = some fn ∧ ∀ m, Q f = some m → funcOK Tryz.prog m fn = true := by
  intro f fn h
  unfold WF at h
  split at h
  · cases h; exact ⟨Tryz.func23, fun m hm => by cases hm; exact ok23⟩
  · cases h; exact ⟨Tryz.func38, fun m hm => by cases hm; exact ok38⟩
  · cases h; exact ⟨Tryz.func39, fun m hm => by cases hm; exact ok39⟩
  · cases h; exact ⟨Tryz.func44, fun m hm => by cases hm; exact ok44⟩
  · cases h; exact ⟨Tryz.func80, fun m hm => by cases hm; exact ok80⟩
  · cases h; exact ⟨Tryz.func83, fun m hm => by cases hm; exact ok83⟩
  · cases h; exact ⟨Tryz.func97, fun m hm => by cases hm; exact ok97⟩
  · cases h; exact ⟨Tryz.func138, fun m hm => by cases hm; exact ok138⟩
  · cases h; exact ⟨Tryz.func139, fun m hm => by cases hm; exact ok139⟩
  · cases h; exact ⟨Tryz.func152, fun m hm => by cases hm; exact ok152⟩
  · cases h; exact ⟨Tryz.func196, fun m hm => by cases hm; exact ok196⟩
  · cases h; exact ⟨Tryz.func197, fun m hm => by cases hm; exact ok197⟩
  · cases h; exact ⟨Tryz.func227, fun m hm => by cases hm; exact ok227⟩
  · cases h; exact ⟨Tryz.func228, fun m hm => by cases hm; exact ok228⟩
  · cases h; exact ⟨Tryz.func260, fun m hm => by cases hm; exact ok260⟩
  · cases h; exact ⟨Tryz.func261, fun m hm => by cases hm; exact ok261⟩
  · cases h; exact ⟨Tryz.func262, fun m hm => by cases hm; exact ok262⟩
  · cases h; exact ⟨Tryz.func263, fun m hm => by cases hm; exact ok263⟩
  · cases h
def seenW (cells : List Value) (r : V) (s : SS) : Bool := match r with
  | .tup [.sc (.pointer none), .iface t (.ptr id 0)] => t == 82 && (match s.dec.objs[id]? with
    | some (.var u cs) => u == 93 && eqVL cs (cells.map .sc)
    | _ => false)
  | _ => false
theorem seenW_spec {cells : List Value} {r : V} {σ : St} (h : seenW cells r (enc σ) = true) : ∃ id, r = .tup [.sc (.pointer none), .iface 82 (.ptr id 0)] ∧ σ.objs[id]? = some (.var 93 (cells.map .sc)) := by
  unfold seenW at h
  split at h
  case h_2 => cases h
  rename_i t id
  simp only [Bool.and_eq_true, beq_iff_eq, dec_enc] at h
  obtain ⟨rfl, h⟩ := h
  split at h
  case h_2 => cases h
  rename_i u cs hu
  simp only [Bool.and_eq_true, beq_iff_eq] at h
  obtain ⟨rfl, h⟩ := h
  exact ⟨id, rfl, by rw [hu, eqVL_spec _ _ h]⟩
theorem known_of {p : Ab.Way} {xs : List V} {cells : List Value} (h : ∃ r σ', caughtE Q (callN Q (knOf KT) 600) 600 pk q14 q14a q14c q14b (.res 0) 22 82 p xs ⟨[], 0⟩ = some (r, σ') ∧ seenW cells r (enc σ') = true) (hl : xs.length = 1) (hx0 : insideL 0 xs = true) (hw : wayD Q WF true p q14c c14 = true) (σ : St) :
    OkAt Tryz.prog 14 xs σ (.tup [.sc (.pointer none), .iface 82 (.ptr σ.objs.length 0)]) (σ.push (.var 93 (cells.map .sc))) := by
  obtain ⟨r, σ', h1, h2⟩ := h
  obtain ⟨id, rfl, hob⟩ := seenW_spec h2
  exact (memo_push (func_caught (c1 := c14) (sound0 600) wf_ok pk_ok Tryz.func14 rfl (by decide +kernel) (by kernel_rfl) catch_on hw hl h1) hx0 hob σ).2
def pw0 : Ab.Way := (.right (.left (.call 1 (.right (.right (.right (.right (.right (.right (.right (.right (.right (.right (.right (.right (.right (.call 12 (.right (.right (.right (.right (.right (.right (.left (.call 4 (.right (.right (.right (.left (.right (.block (.loop 0 (.right (.right (.left (.block (.right (.call 3 (.right (.right (.right (.right (.right (.right (.right (.left (.right (.block (.right (.brF (.right (.brF (.right (.brF (.right (.brT (.call 9 (.right (.brT (.last 5))))))))))))))))))))))))))))))))))))))))))))))))))))))))))))
set_option maxRecDepth 1000000 in
set_option maxHeartbeats 400000000 in
theorem way0 : ∃ r σ', caughtE Q (callN Q (knOf KT) 600) 600 pk q14 q14a q14c q14b (.res 0) 22 82 pw0 pa0 ⟨[], 0⟩ = some (r, σ') ∧ seenW pc0 r (enc σ') = true := caughtC_spec (callC_eq (bot := false) KT Q 600) (by kernel_rfl)
theorem kn0 (σ : St) : OkAt Tryz.prog 14 pa0 σ (.tup [.sc (.pointer none), .iface 82 (.ptr σ.objs.length 0)]) (σ.push (.var 93 (pc0.map .sc))) := known_of way0 rfl (by kernel_rfl) (by decide +kernel) σ
def pw1 : Ab.Way := (.right (.left (.call 1 (.right (.right (.right (.right (.right (.right (.right (.right (.right (.right (.right (.right (.right (.call 12 (.right (.right (.right (.right (.right (.right (.right (.left (.right (.right (.brT (.last 4)))))))))))))))))))))))))))))
set_option maxRecDepth 1000000 in
set_option maxHeartbeats 400000000 in
theorem way1 : ∃ r σ', caughtE Q (callN Q (knOf KT) 600) 600 pk q14 q14a q14c q14b (.res 0) 22 82 pw1 pa1 ⟨[], 0⟩ = some (r, σ') ∧ seenW pc1 r (enc σ') = true := caughtC_spec (callC_eq (bot := false) KT Q 600) (by kernel_rfl)
theorem kn1 (σ : St) : OkAt Tryz.prog 14 pa1 σ (.tup [.sc (.pointer none), .iface 82 (.ptr σ.objs.length 0)]) (σ.push (.var 93 (pc1.map .sc))) := known_of way1 rfl (by kernel_rfl) (by decide +kernel) σ
def pw2 : Ab.Way := (.right (.left (.call 1 (.right (.right (.right (.right (.right (.right (.right (.right (.right (.right (.right (.right (.right (.call 12 (.right (.right (.right (.right (.right (.right (.left (.call 4 (.right (.right (.right (.left (.right (.block (.loop 0 (.right (.right (.left (.block (.right (.call 3 (.right (.right (.right (.right (.right (.right (.left (.call 6 (.right (.right (.right (.right (.right (.right (.left (.right (.brF (.right (.call 2 (.right (.right (.block (.right (.brF (.right (.brF (.right (.brF (.right (.brT (.call 2 (.right (.right (.left (.right (.brT (.last 10)))))))))))))))))))))))))))))))))))))))))))))))))))))))))))))))))))))))))))
set_option maxRecDepth 1000000 in
set_option maxHeartbeats 400000000 in
theorem way2 : ∃ r σ', caughtE Q (callN Q (knOf KT) 600) 600 pk q14 q14a q14c q14b (.res 0) 22 82 pw2 pa2 ⟨[], 0⟩ = some (r, σ') ∧ seenW pc2 r (enc σ') = true := caughtC_spec (callC_eq (bot := false) KT Q 600) (by kernel_rfl)
theorem kn2 (σ : St) : OkAt Tryz.prog 14 pa2 σ (.tup [.sc (.pointer none), .iface 82 (.ptr σ.objs.length 0)]) (σ.push (.var 93 (pc2.map .sc))) := known_of way2 rfl (by kernel_rfl) (by decide +kernel) σ
def pw3 : Ab.Way := (.right (.left (.call 1 (.right (.right (.right (.right (.right (.right (.right (.right (.right (.right (.right (.right (.right (.call 12 (.right (.right (.right (.right (.right (.right (.left (.call 4 (.right (.right (.right (.left (.right (.block (.loop 1 (.right (.right (.left (.block (.right (.call 3 (.right (.right (.right (.right (.right (.right (.right (.left (.right (.block (.right (.brT (.left (.right (.brT (.last 4))))))))))))))))))))))))))))))))))))))))))))))))))))))
set_option maxRecDepth 1000000 in
set_option maxHeartbeats 400000000 in
theorem way3 : ∃ r σ', caughtE Q (callN Q (knOf KT) 600) 600 pk q14 q14a q14c q14b (.res 0) 22 82 pw3 pa3 ⟨[], 0⟩ = some (r, σ') ∧ seenW pc3 r (enc σ') = true := caughtC_spec (callC_eq (bot := false) KT Q 600) (by kernel_rfl)
theorem kn3 (σ : St) : OkAt Tryz.prog 14 pa3 σ (.tup [.sc (.pointer none), .iface 82 (.ptr σ.objs.length 0)]) (σ.push (.var 93 (pc3.map .sc))) := known_of way3 rfl (by kernel_rfl) (by decide +kernel) σ
def pw4 : Ab.Way := (.right (.left (.call 1 (.right (.right (.right (.right (.right (.right (.right (.right (.right (.right (.right (.right (.right (.call 12 (.right (.right (.right (.right (.right (.right (.left (.call 4 (.right (.right (.right (.left (.right (.block (.loop 0 (.right (.right (.left (.block (.right (.call 3 (.right (.right (.right (.right (.right (.right (.left (.call 6 (.right (.right (.right (.right (.right (.right (.left (.right (.brF (.right (.call 2 (.right (.right (.block (.right (.brF (.right (.brF (.right (.brF (.right (.brF (.right (.brT (.left (.right (.brT (.last 5))))))))))))))))))))))))))))))))))))))))))))))))))))))))))))))))))))))))))
set_option maxRecDepth 1000000 in
set_option maxHeartbeats 400000000 in
theorem way4 : ∃ r σ', caughtE Q (callN Q (knOf KT) 600) 600 pk q14 q14a q14c q14b (.res 0) 22 82 pw4 pa4 ⟨[], 0⟩ = some (r, σ') ∧ seenW pc4 r (enc σ') = true := caughtC_spec (callC_eq (bot := false) KT Q 600) (by kernel_rfl)
theorem kn4 (σ : St) : OkAt Tryz.prog 14 pa4 σ (.tup [.sc (.pointer none), .iface 82 (.ptr σ.objs.length 0)]) (σ.push (.var 93 (pc4.map .sc))) := known_of way4 rfl (by kernel_rfl) (by decide +kernel) σ
def pw5 : Ab.Way := (.right (.left (.call 1 (.right (.right (.right (.right (.right (.right (.right (.right (.right (.right (.right (.right (.right (.call 12 (.right (.right (.right (.right (.right (.right (.left (.call 4 (.right (.right (.right (.left (.right (.block (.loop 0 (.right (.right (.left (.block (.right (.call 3 (.right (.right (.right (.right (.right (.right (.left (.call 6 (.right (.right (.right (.right (.right (.right (.left (.right (.brF (.right (.call 2 (.right (.right (.block (.right (.brF (.right (.brF (.right (.brF (.right (.brF (.right (.brF (.right (.brT (.left (.right (.brT (.last 5))))))))))))))))))))))))))))))))))))))))))))))))))))))))))))))))))))))))))))
set_option maxRecDepth 1000000 in
set_option maxHeartbeats 400000000 in
theorem way5 : ∃ r σ', caughtE Q (callN Q (knOf KT) 600) 600 pk q14 q14a q14c q14b (.res 0) 22 82 pw5 pa5 ⟨[], 0⟩ = some (r, σ') ∧ seenW pc5 r (enc σ') = true := caughtC_spec (callC_eq (bot := false) KT Q 600) (by kernel_rfl)
theorem kn5 (σ : St) : OkAt Tryz.prog 14 pa5 σ (.tup [.sc (.pointer none), .iface 82 (.ptr σ.objs.length 0)]) (σ.push (.var 93 (pc5.map .sc))) := known_of way5 rfl (by kernel_rfl) (by decide +kernel) σ
def pw6 : Ab.Way := (.right (.left (.call 1 (.right (.right (.right (.right (.right (.right (.right (.right (.right (.right (.right (.right (.right (.call 12 (.right (.right (.right (.right (.right (.right (.left (.call 4 (.right (.right (.right (.left (.right (.block (.loop 0 (.right (.right (.left (.block (.right (.call 3 (.right (.right (.right (.right (.right (.right (.left (.call 6 (.right (.right (.right (.right (.right (.right (.left (.right (.brF (.right (.call 2 (.right (.right (.block (.right (.brF (.right (.brF (.right (.brF (.right (.brF (.right (.brF (.right (.brF (.right (.brF (.right (.brF (.right (.brT (.left (.right (.brT (.last 10))))))))))))))))))))))))))))))))))))))))))))))))))))))))))))))))))))))))))))))))))
set_option maxRecDepth 1000000 in
set_option maxHeartbeats 400000000 in
theorem way6 : ∃ r σ', caughtE Q (callN Q (knOf KT) 600) 600 pk q14 q14a q14c q14b (.res 0) 22 82 pw6 pa6 ⟨[], 0⟩ = some (r, σ') ∧ seenW pc6 r (enc σ') = true := caughtC_spec (callC_eq (bot := false) KT Q 600) (by kernel_rfl)
theorem kn6 (σ : St) : OkAt Tryz.prog 14 pa6 σ (.tup [.sc (.pointer none), .iface 82 (.ptr σ.objs.length 0)]) (σ.push (.var 93 (pc6.map .sc))) := known_of way6 rfl (by kernel_rfl) (by decide +kernel) σ
def pw7 : Ab.Way := (.right (.left (.call 1 (.right (.right (.right (.right (.right (.right (.right (.right (.right (.right (.right (.right (.right (.call 12 (.right (.right (.right (.right (.right (.right (.left (.call 4 (.right (.right (.right (.left (.right (.block (.loop 1 (.right (.right (.left (.block (.right (.call 3 (.right (.right (.right (.right (.right (.right (.left (.call 6 (.right (.right (.right (.right (.right (.right (.left (.right (.brF (.right (.call 2 (.right (.right (.block (.right (.brF (.right (.brF (.right (.brF (.right (.brF (.right (.brF (.right (.brF (.right (.brF (.right (.brF (.right (.brF (.right (.brT (.call 2 (.right (.right (.left (.block (.right (.brF (.right (.brF (.last 5))))))))))))))))))))))))))))))))))))))))))))))))))))))))))))))))))))))))))))))))))))))))))
set_option maxRecDepth 1000000 in
set_option maxHeartbeats 400000000 in
theorem way7 : ∃ r σ', caughtE Q (callN Q (knOf KT) 600) 600 pk q14 q14a q14c q14b (.res 0) 22 82 pw7 pa7 ⟨[], 0⟩ = some (r, σ') ∧ seenW pc7 r (enc σ') = true := caughtC_spec (callC_eq (bot := false) KT Q 600) (by kernel_rfl)
theorem kn7 (σ : St) : OkAt Tryz.prog 14 pa7 σ (.tup [.sc (.pointer none), .iface 82 (.ptr σ.objs.length 0)]) (σ.push (.var 93 (pc7.map .sc))) := known_of way7 rfl (by kernel_rfl) (by decide +kernel) σ
end Go.AbN
