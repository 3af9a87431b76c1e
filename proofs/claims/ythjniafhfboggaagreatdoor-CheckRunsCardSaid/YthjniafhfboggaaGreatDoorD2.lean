/- Calls: what a call that writes its own alone leaves behind. No premise but those named. -/
import Derived.Test.YthjniafhfboggaaGreatDoorD1
namespace Go.Ab
open Go

/-- A call of it is a call of a function of the program. -/
def enters (P : Program) (f : FuncId) : Bool := match P.funcs[f]? with
  | some fn => fn.body.isSome && fn.name != "runtime.NumGoroutine"
  | none => false
theorem run_callFunc {P : Program} {f : FuncId} (h : enters P f = true) (args : Array Value) (w : World) : (callFunc f args).run P w = .ok (.enter f args) w := by
  unfold enters at h
  cases hf : P.funcs[f]? with
  | none => simp [hf] at h
  | some fn =>
    simp only [hf, Bool.and_eq_true, bne_iff_ne] at h
    have hb : fn.body ≠ none := fun e => by rw [e] at h; simp at h
    simp [callFunc, hf, h.2, hb]

/-- What the abstract machine says of calls is so. -/
def CallOK (P : Program) (call : CallT) : Prop :=
  ∀ (f : FuncId) (xs : List V) (σ : St) (v : V) (σ' : St), call f xs σ = some (v, σ') → enters P f = true ∧ ∀ (μ : List Nat) (lim : Nat → Nat) (w : World) (args : Array Value), WRel μ lim w σ → σ.base ≤ σ.objs.length → RelVs μ lim w xs args.toList →
    Calls P f args w fun e w' => ∃ y μ' lim', e = .returned y ∧ Chg μ lim w σ μ' lim' w' σ' ∧ RelV μ' lim' w' v y

section
variable {μ : List Nat} {lim : Nat → Nat} {w : World} {σ : St} {μ' : List Nat} {lim' : Nat → Nat} {w' : World} {σ2 : St}

/-- Rows that the call made itself. -/
def Made (n : Nat) (μ' : List Nat) (σ2 : St) (b : Nat) (cs : List V) : Prop := ∃ id, n ≤ id ∧ μ'[id]? = some b ∧ σ2.objs[id]? = some (.cells cs)

open Classical in
/-- From now on they are not written. -/
noncomputable def froze (n : Nat) (μ' : List Nat) (σ2 : St) (lim' : Nat → Nat) : Nat → Nat := fun b =>
  if h : ∃ cs, Made n μ' σ2 b cs then (Classical.choose h).length else lim' b

theorem froze_made (hw : WRel μ' lim' w' σ2) {n b : Nat} {cs : List V} (h : Made n μ' σ2 b cs) : froze n μ' σ2 lim' b = cs.length := by
  have hex : ∃ cs, Made n μ' σ2 b cs := ⟨cs, h⟩
  unfold froze
  rw [dif_pos hex]
  obtain ⟨i, _, h2, h3⟩ := h
  obtain ⟨j, _, k2, k3⟩ := Classical.choose_spec hex
  have hij := hw.inj i j b ⟨_, h3, by simp⟩ ⟨_, k3, by simp⟩ h2 k2
  subst hij
  rw [h3] at k3
  cases k3
  rfl
theorem froze_else {n b : Nat} (h : ¬ ∃ cs, Made n μ' σ2 b cs) : froze n μ' σ2 lim' b = lim' b := by
  unfold froze; rw [dif_neg h]

theorem froze_ext (hw : WRel μ' lim' w' σ2) (n : Nat) : Ext μ' lim' w' μ' (froze n μ' σ2 lim') w' where
  pre _ _ h := h
  imm b o ho := by
    by_cases hm : ∃ cs, Made n μ' σ2 b cs
    · obtain ⟨cs, i, _, h2, h3⟩ := hm
      have := (hw.obj i b _ h3 h2).1
      rw [this] at ho; omega
    · rw [froze_else hm]; exact ⟨ho, rfl⟩
  size _ := Nat.le_refl _

/-- The call's own objects are forgotten. -/
theorem chg_restore (hw : WRel μ lim w σ) (hc : Chg μ lim w { σ with base := σ.objs.length } μ' lim' w' σ2) :
    Chg μ lim w σ μ (froze σ.objs.length μ' σ2 lim') w' σ ∧ (∀ b cs, Made σ.objs.length μ' σ2 b cs → w.heap.size ≤ b) := by
  have hun : ∀ b, ¬ Unprot μ { σ with base := σ.objs.length } b := by
    rintro b ⟨id, h1, ⟨o, h2, _⟩, _⟩
    have := (List.getElem?_eq_some_iff.1 h2).1
    simp only at h1 this
    omega
  have hnew : ∀ b cs, Made σ.objs.length μ' σ2 b cs → w.heap.size ≤ b := by
    rintro b cs ⟨id, h1, h2, h3⟩
    rcases hc.objs id b ⟨_, h3, by simp⟩ h1 h2 with h4 | h4
    · exact h4
    · exact absurd h4 (hun b)
  have hold : ∀ b, b < w.heap.size → w'.heap[b]? = w.heap[b]? ∧ froze σ.objs.length μ' σ2 lim' b = lim b := by
    intro b hb
    obtain ⟨h1, h2⟩ := hc.keep b hb (hun b)
    refine ⟨h1, ?_⟩
    rw [froze_else, h2]
    rintro ⟨cs, hm⟩
    have := hnew b cs hm
    omega
  have hx : Ext μ lim w μ (froze σ.objs.length μ' σ2 lim') w' := ⟨fun _ _ h => h, fun b o ho => by
      have hb := hw.lim_lt ho
      obtain ⟨h1, h2⟩ := hold b hb
      exact ⟨by rw [h2]; exact ho, cell_congr h1 o⟩, fun b => by
      rcases Nat.lt_or_ge b w.heap.size with hb | hb
      · exact hc.bsz b hb
      · rw [bsize_ge hb]; exact Nat.zero_le _⟩
  refine ⟨⟨hc.os, hc.tape, hc.output, hc.size, fun _ _ h => h, fun b hb _ => hold b hb, fun b hb => hc.bsz b hb, fun id b ha hb hm => .inr ⟨id, hb, ha, hm⟩, rfl, fun _ _ => rfl, Nat.le_refl _, fun _ hp => hw.glob_lt hp,
    ⟨hw.len, fun id b h => Nat.lt_of_lt_of_le (hw.lt id b h) hc.size, hw.inj, ?_, ?_, glob_keep hw.glob fun p _ _ hlt => hold p.1 hlt⟩⟩, hnew⟩
  · intro id b o ho hm
    obtain ⟨h1, h2⟩ := hold b (hw.lt id b hm)
    exact (hw.obj id b o ho hm).ext hx h1 h2
  · intro b hb
    rw [froze_else]
    · exact hc.wrel.fresh b hb
    · rintro ⟨cs, id, _, h2, _⟩
      have := hc.wrel.lt id b h2
      omega

theorem take_pre (hw : WRel μ lim w σ) (hp : ∀ (id b : Nat), μ[id]? = some b → μ'[id]? = some b) : μ'.take σ.objs.length = μ := by
  apply List.ext_getElem?
  intro k
  rw [List.getElem?_take]
  split
  · rename_i hk
    rw [← hw.len] at hk
    have := List.getElem?_eq_getElem hk
    rw [hp k _ this, this]
  · rename_i hk
    rw [List.getElem?_eq_none (by rw [hw.len]; omega)]

theorem freezeLeaf_rel (hw : WRel μ' lim' w' σ2) (n : Nat) {v v' : V} {y : Value} (hr : RelV μ' (froze n μ' σ2 lim') w' v y) (hf : freezeLeaf σ2 n v = some v') : RelV μ' (froze n μ' σ2 lim') w' v' y := by
  unfold freezeLeaf at hf
  split at hf
  · rename_i id off k sz
    split at hf
    · rename_i hid
      split at hf
      · rename_i l hl
        cases hf
        have hl0 := hl
        simp only [elems, if_true] at hl
        split at hl
        case h_2 => cases hl
        rename_i cs hcs
        split at hl
        case isFalse => cases hl
        rename_i hle
        cases hl
        unfold RelV at hr
        obtain ⟨b, cap, h1, h2, h3, rfl, h5⟩ := hr
        have hget := get_spec hcs
        have hob := (hw.obj id b _ hget h1).ext (froze_ext hw n) rfl
        obtain ⟨f1, f2, f3⟩ := chunks_flatten sz k (cs.drop off) (by simp; omega)
        have hlim : froze n μ' σ2 lim' b = cs.length := froze_made hw ⟨id, hid, h1, hget⟩
        unfold RelV
        refine ⟨some ⟨b, off, none⟩, cap, by rw [f2], ⟨by rw [f2]; exact h2, by simp⟩, h3, rfl, RelLL.of_flat f3 (RelL.of_get fun i v hv => ?_)⟩
        rw [f1, List.getElem?_take] at hv
        split at hv
        case isFalse => cases hv
        rw [List.getElem?_drop] at hv
        have hil := (List.getElem?_eq_some_iff.1 hv).1
        obtain ⟨_, _, _, o4⟩ := hw.obj id b _ hget h1
        obtain ⟨x, x1, x2, x3⟩ := o4 _ v hv
        exact ⟨by rw [hlim]; exact hil, x, x1, x2.ext (froze_ext hw n), x3⟩
      · cases hf
    · cases hf; exact hr
  · cases hf; exact hr

theorem freezeList_rel (hw : WRel μ' lim' w' σ2) (n : Nat) : ∀ {vs vs' : List V} {ys : List Value}, RelVs μ' (froze n μ' σ2 lim') w' vs ys → freezeList σ2 n vs = some vs' → RelVs μ' (froze n μ' σ2 lim') w' vs' ys
  | [], vs', ys, hr, hf => by simp only [freezeList] at hf; cases hf; exact hr
  | v :: vs, vs', [], hr, hf => by unfold RelVs at hr; exact hr.elim
  | v :: vs, vs', y :: ys, hr, hf => by
    unfold RelVs at hr
    simp only [freezeList] at hf
    split at hf
    · cases hf
    · rename_i x hx
      split at hf
      · cases hf
      · rename_i xs hxs
        cases hf
        unfold RelVs
        exact ⟨freezeLeaf_rel hw n hr.1 hx, freezeList_rel hw n hr.2 hxs⟩

theorem freezeV_rel (hw : WRel μ' lim' w' σ2) (n : Nat) {v v' : V} {y : Value} (hr : RelV μ' (froze n μ' σ2 lim') w' v y) (hf : freezeV σ2 n v = some v') : RelV μ' (froze n μ' σ2 lim') w' v' y := by
  unfold freezeV at hf
  split at hf
  · rename_i cs
    split at hf
    · rename_i xs hxs
      cases hf
      unfold RelV at hr ⊢
      obtain ⟨ys, rfl, hr⟩ := hr
      exact ⟨ys, rfl, freezeList_rel hw n hr hxs⟩
    · cases hf
  · exact freezeLeaf_rel hw n hr hf

theorem freezeParts_rel (hw : WRel μ' lim' w' σ2) (n : Nat) : ∀ {vs vs' : List V} {ys : List Value}, RelVs μ' (froze n μ' σ2 lim') w' vs ys → freezeAll.freezeParts σ2 n vs = some vs' → RelVs μ' (froze n μ' σ2 lim') w' vs' ys
  | [], vs', ys, hr, hf => by simp only [freezeAll.freezeParts] at hf; cases hf; exact hr
  | v :: vs, vs', [], hr, hf => by unfold RelVs at hr; exact hr.elim
  | v :: vs, vs', y :: ys, hr, hf => by
    unfold RelVs at hr
    simp only [freezeAll.freezeParts] at hf
    split at hf
    · cases hf
    · rename_i x hx
      split at hf
      · cases hf
      · rename_i xs hxs
        cases hf
        unfold RelVs
        exact ⟨freezeV_rel hw n hr.1 hx, freezeParts_rel hw n hr.2 hxs⟩

theorem freezeAll_rel (hw : WRel μ' lim' w' σ2) (n : Nat) {v v' : V} {y : Value} (hr : RelV μ' (froze n μ' σ2 lim') w' v y) (hf : freezeAll σ2 n v = some v') : RelV μ' (froze n μ' σ2 lim') w' v' y := by
  unfold freezeAll at hf
  split at hf
  · rename_i vs
    split at hf
    · rename_i xs hxs
      cases hf
      unfold RelV at hr ⊢
      obtain ⟨ys, rfl, hr⟩ := hr
      exact ⟨ys, rfl, freezeParts_rel hw n hr hxs⟩
    · cases hf
  · exact freezeV_rel hw n hr hf

/-- A call whose writes are to what it makes itself. -/
theorem CallOK.ro {P : Program} {call : CallT} (h : CallOK P call) : CallOK P (callRO call) := by
  intro f xs σ v σ' hv
  unfold callRO at hv
  split at hv
  case h_2 => cases hv
  rename_i r s' hcall
  split at hv
  case h_2 => cases hv
  rename_i r' hfr
  split at hv
  case isFalse => cases hv
  rename_i hin
  cases hv
  refine ⟨(h f xs _ r s' hcall).1, fun μ lim w args hw hb hx => ?_⟩
  refine Calls.mono ((h f xs _ r s' hcall).2 μ lim w args ⟨hw.len, hw.lt, hw.inj, hw.obj, hw.fresh, hw.glob⟩ (Nat.le_refl _) hx) fun e w' he => ?_
  obtain ⟨y, μ', lim', rfl, hc, hr⟩ := he
  obtain ⟨g1, _⟩ := chg_restore hw hc
  have hr2 := freezeAll_rel hc.wrel σ.objs.length (hr.ext (froze_ext hc.wrel _)) hfr
  have hr3 := RelV.cut σ.objs.length _ y hin hr2
  rw [take_pre hw hc.pre] at hr3
  exact ⟨y, μ, _, rfl, g1, hr3⟩

theorem CallOK.by {P : Program} {call : CallT} (h : CallOK P call) (ro : Bool) : CallOK P (callBy call ro) := by
  intro f xs σ v σ' hv
  cases ro with
  | true => exact h.ro f xs σ v σ' hv
  | false => exact h f xs σ v σ' hv

/-- A call that makes objects and writes none that there were. -/
theorem CallOK.new {P : Program} {call : CallT} (h : CallOK P call) : CallOK P (callNew call) := by
  intro f xs σ v σ' hv
  unfold callNew at hv
  split at hv
  case h_2 => cases hv
  rename_i r s' hcall
  cases hv
  refine ⟨(h f xs _ _ s' hcall).1, fun μ lim w args hw hb hx => ?_⟩
  refine Calls.mono ((h f xs _ _ s' hcall).2 μ lim w args ⟨hw.len, hw.lt, hw.inj, hw.obj, hw.fresh, hw.glob⟩ (Nat.le_refl _) hx) fun e w' he => ?_
  obtain ⟨y, μ', lim', rfl, hc, hr⟩ := he
  refine ⟨y, μ', lim', rfl, ?_, hr⟩
  have hmore : σ.objs.length ≤ s'.objs.length := hc.more
  have hobjs : σ.objs ++ s'.objs.drop σ.objs.length = s'.objs := by
    refine List.ext_getElem? fun i => ?_
    rcases Nat.lt_or_ge i σ.objs.length with hi | hi
    · rw [List.getElem?_append_left hi]; exact (hc.prot i hi).symm
    · rw [List.getElem?_append_right hi, List.getElem?_drop]; congr 1; omega
  rw [hobjs]
  have hun : ∀ b, ¬ Unprot μ { σ with base := σ.objs.length } b := by
    rintro b ⟨id, h1, ⟨o, h2, _⟩, _⟩
    have := (List.getElem?_eq_some_iff.1 h2).1
    simp only at h1 this
    omega
  refine ⟨hc.os, hc.tape, hc.output, hc.size, hc.pre, fun b hb _ => hc.keep b hb (hun b), hc.bsz, fun id b ha hbase hm => ?_, rfl, fun id hi => ?_, hmore, hc.globs, ?_⟩
  · rcases Nat.lt_or_ge id σ.objs.length with hi | hi
    · right
      obtain ⟨o, ho, hd⟩ := ha
      have ho' : σ.objs[id]? = some o := by rw [← hc.prot id hi]; exact ho
      obtain ⟨b', hb'⟩ : ∃ b', μ[id]? = some b' := ⟨_, List.getElem?_eq_getElem (by rw [hw.len]; exact hi)⟩
      have := hc.pre id b' hb'
      rw [hm] at this
      cases this
      exact ⟨id, hbase, ⟨o, ho', hd⟩, hb'⟩
    · rcases hc.objs id b ha hi hm with h1 | h1
      · exact .inl h1
      · exact absurd h1 (hun b)
  · exact hc.prot id (by have : id < σ.base := hi; show id < σ.objs.length; omega)
  · exact ⟨hc.wrel.len, hc.wrel.lt, hc.wrel.inj, hc.wrel.obj, hc.wrel.fresh, hc.wrel.glob⟩

/-- Such a call whose row the frame takes. -/
theorem CallOK.own {P : Program} {call : CallT} (h : CallOK P call) {f : FuncId} {xs : List V} {σ : St} {v : V} {σ' : St} (hv : callOwn call f xs σ = some (v, σ')) {μ : List Nat} {lim : Nat → Nat} {w : World} {args : Array Value}
    (hw : WRel μ lim w σ) (hx : RelVs μ lim w xs args.toList) :
    enters P f = true ∧ Calls P f args w fun e w' => ∃ y lim', e = .returned y ∧ Chg μ lim w σ μ lim' w' σ' ∧ RelV μ lim' w' v y ∧ FreshV w lim' w' v y := by
  unfold callOwn at hv
  split at hv
  case h_3 => cases hv
  case h_2 =>
    rename_i sz s' hcall
    cases hv
    refine ⟨(h f xs _ _ s' hcall).1, ?_⟩
    refine Calls.mono ((h f xs _ _ s' hcall).2 μ lim w args ⟨hw.len, hw.lt, hw.inj, hw.obj, hw.fresh, hw.glob⟩ (Nat.le_refl _) hx) fun e w' he => ?_
    obtain ⟨y, μ', lim', rfl, hc, hr⟩ := he
    obtain ⟨g1, _⟩ := chg_restore hw hc
    refine ⟨y, _, rfl, g1, ?_, ?_⟩
    · unfold RelV at hr ⊢
      obtain ⟨base, cap, h1, h2, h3, h4⟩ := hr
      refine ⟨base, cap, h1, h2, h3, ?_⟩
      cases base with
      | none => exact h4
      | some ad => exact ⟨h4.1, by unfold RelLL; trivial⟩
    · trivial
  rename_i id off n sz s' hcall
  split at hv
  case isFalse => cases hv
  rename_i hid
  split at hv
  case h_2 => cases hv
  rename_i cs hcs
  split at hv
  case isFalse => cases hv
  rename_i hcond
  cases hv
  refine ⟨(h f xs _ _ s' hcall).1, ?_⟩
  refine Calls.mono ((h f xs _ _ s' hcall).2 μ lim w args ⟨hw.len, hw.lt, hw.inj, hw.obj, hw.fresh, hw.glob⟩ (Nat.le_refl _) hx) fun e w' he => ?_
  obtain ⟨y, μ', lim', rfl, hc, hr⟩ := he
  obtain ⟨g1, g2⟩ := chg_restore hw hc
  obtain ⟨hid, rfl⟩ := hid
  unfold RelV at hr
  obtain ⟨b, cap, h1, h2, h3, rfl, h5⟩ := hr
  have hget := get_spec hcs
  obtain ⟨o1, o2, o3, o4⟩ := hc.wrel.obj id b _ hget h1
  have hmade : Made σ.objs.length μ' s' b cs := ⟨id, hid, h1, hget⟩
  have hlim := froze_made hc.wrel hmade
  obtain ⟨f1, f2, f3⟩ := chunks_flatten sz n cs (by omega)
  have hfl : (chunks sz n cs).flatten = cs := by rw [f1, ← hcond.1, List.take_length]
  refine ⟨_, _, rfl, g1, ?_, g2 b cs hmade, hc.wrel.lt id b h1, ?_, h5, fun k _ => o3 k⟩
  · unfold RelV
    refine ⟨some ⟨b, 0, none⟩, cap, by rw [f2], ⟨by rw [f2]; exact h2, by simp⟩, h3, rfl, RelLL.of_flat f3 ?_⟩
    have hcut : RelL (μ'.take σ.objs.length) (froze σ.objs.length μ' s' lim') w' b 0 cs := RelL.cut _ _ _ cs hcond.2 (RelL.of_get fun i v hv => by
      have hil := (List.getElem?_eq_some_iff.1 hv).1
      obtain ⟨x, x1, x2, x3⟩ := o4 i v hv
      exact ⟨by rw [hlim]; omega, x, by rw [Nat.zero_add]; exact x1, x2.ext (froze_ext hc.wrel _), x3⟩)
    rw [take_pre hw hc.pre] at hcut
    rw [hfl]
    exact hcut
  · show froze σ.objs.length μ' s' lim' b = 0 + (chunks sz n cs).length * sz
    rw [hlim, f2, hcond.1, Nat.zero_add]
end
end Go.Ab
