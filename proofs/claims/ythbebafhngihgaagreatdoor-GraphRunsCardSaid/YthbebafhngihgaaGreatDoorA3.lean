/- The world and the abstract machine's objects: what lies where, what an operation may change. No premise but those named. -/
import Derived.Test.YthbebafhngihgaaGreatDoorA2
namespace Go.Ab
open Go

def alive (σ : St) (id : Nat) : Prop := ∃ o, σ.objs[id]? = some o ∧ o ≠ .dead

def ObjRel (μ : List Nat) (lim : Nat → Nat) (w : World) (b : Nat) : Obj → Prop
  | .cells cs => lim b = 0 ∧ cs.length ≤ bsize w b ∧ (∀ o, w.frozen? ⟨b, o, none⟩ = false) ∧
      ∀ (k : Nat) (v : V), cs[k]? = some v → ∃ x, w.cell? ⟨b, k, none⟩ = some x ∧ RelV μ lim w v x ∧ x.oneCell = true
  | .row e cs => lim b = 0 ∧ ∃ c, w.heap[b]? = some (.cells c e (0, 0)) ∧ cs.length ≤ c.size ∧
      ∀ (k : Nat) (v : V), cs[k]? = some v → ∃ x, w.cell? ⟨b, k, none⟩ = some x ∧ RelV μ lim w v x ∧ x.oneCell = true
  | .var t cs => lim b = 0 ∧ ∃ c, w.heap[b]? = some (.cells c t (0, 0)) ∧ cs.length = c.size ∧
      ∀ (k : Nat) (v : V), cs[k]? = some v → ∃ x, w.cell? ⟨b, k, none⟩ = some x ∧ RelV μ lim w v x ∧ x.oneCell = true
  | .map es => lim b = 0 ∧ ∃ ents : Array MapEntry, w.heap[b]? = some (.map ents ents.size) ∧ ents.size = es.length ∧
      ∀ (i : Nat) (k v : V), es[i]? = some (k, v) → ∃ e, ents[i]? = some e ∧ RelV μ lim w k e.key ∧ RelV μ lim w v e.val ∧ e.born = i
  | .dead => True

structure WRel (μ : List Nat) (lim : Nat → Nat) (w : World) (σ : St) : Prop where
  len : μ.length = σ.objs.length
  lt : ∀ (id b : Nat), μ[id]? = some b → b < w.heap.size
  inj : ∀ (i j b : Nat), alive σ i → alive σ j → μ[i]? = some b → μ[j]? = some b → i = j
  obj : ∀ (id b : Nat) (o : Obj), σ.objs[id]? = some o → μ[id]? = some b → ObjRel μ lim w b o
  fresh : ∀ b, w.heap.size ≤ b → lim b = 0
  glob : ∀ p ∈ GL, 0 < lim p.1 ∧ ∃ ty fr, w.heap[p.1]? = some (.cells p.2 ty fr)

/-- Variables that stay. -/
theorem glob_keep {lim : Nat → Nat} {w : World} {lim' : Nat → Nat} {w' : World} (hg : ∀ p ∈ GL, 0 < lim p.1 ∧ ∃ ty fr, w.heap[p.1]? = some (.cells p.2 ty fr)) (hk : ∀ p ∈ GL, 0 < lim p.1 → p.1 < w.heap.size → w'.heap[p.1]? = w.heap[p.1]? ∧ lim' p.1 = lim p.1) :
    ∀ p ∈ GL, 0 < lim' p.1 ∧ ∃ ty fr, w'.heap[p.1]? = some (.cells p.2 ty fr) := fun p hp => by
  obtain ⟨h1, ty, fr, h2⟩ := hg p hp
  obtain ⟨h3, h4⟩ := hk p hp h1 (Array.getElem?_eq_some_iff.1 h2).1
  exact ⟨by rw [h4]; exact h1, ty, fr, h3.trans h2⟩
theorem WRel.glob_lt {μ lim w σ} (h : WRel μ lim w σ) {p : Nat × Array Value} (hp : p ∈ GL) : p.1 < w.heap.size := by
  obtain ⟨_, ty, fr, h2⟩ := h.glob p hp
  exact (Array.getElem?_eq_some_iff.1 h2).1

/-- The block of an object that may be written. -/
def Unprot (μ : List Nat) (σ : St) (b : Nat) : Prop := ∃ id, σ.base ≤ id ∧ alive σ id ∧ μ[id]? = some b

structure Chg (μ : List Nat) (lim : Nat → Nat) (w : World) (σ : St) (μ' : List Nat) (lim' : Nat → Nat) (w' : World) (σ' : St) : Prop where
  os : w'.os = w.os
  tape : w'.tape = w.tape
  output : w'.output = w.output
  size : w.heap.size ≤ w'.heap.size
  pre : ∀ (id b : Nat), μ[id]? = some b → μ'[id]? = some b
  keep : ∀ b, b < w.heap.size → ¬ Unprot μ σ b → w'.heap[b]? = w.heap[b]? ∧ lim' b = lim b
  bsz : ∀ b, b < w.heap.size → bsize w b ≤ bsize w' b
  objs : ∀ (id b : Nat), alive σ' id → σ.base ≤ id → μ'[id]? = some b → w.heap.size ≤ b ∨ Unprot μ σ b
  base : σ'.base = σ.base
  prot : ∀ id, id < σ.base → σ'.objs[id]? = σ.objs[id]?
  more : σ.objs.length ≤ σ'.objs.length
  globs : ∀ p ∈ GL, p.1 < w.heap.size
  wrel : WRel μ' lim' w' σ'

theorem ObjRel.lim {μ : List Nat} {lim : Nat → Nat} {w : World} {b : Nat} {o : Obj} (h : ObjRel μ lim w b o) (ho : o ≠ .dead) : lim b = 0 := by
  cases o with
  | dead => exact absurd rfl ho
  | cells cs => exact h.1
  | row e cs => exact h.1
  | var t cs => exact h.1
  | map es => exact h.1

/-- A variable's cells, whatever is known of its type. -/
theorem ObjRel.cellsOf {μ : List Nat} {lim : Nat → Nat} {w : World} {b : Nat} {o : Obj} {cs : List V} (h : ObjRel μ lim w b o) (hc : o.cs = some cs) : ObjRel μ lim w b (.cells cs) := by
  cases o with
  | cells cs' => simp only [Obj.cs] at hc; cases hc; exact h
  | var t cs' =>
    simp only [Obj.cs] at hc; cases hc
    obtain ⟨h1, c, h2, h3, h4⟩ := h
    refine ⟨h1, by unfold bsize; rw [h2]; show _ ≤ c.size; omega, fun k => by simp [World.frozen?, h2], h4⟩
  | _ => simp [Obj.cs] at hc
theorem cs_alive {o : Obj} {cs : List V} (hc : o.cs = some cs) : o ≠ .dead := by intro h; subst h; simp [Obj.cs] at hc

theorem WRel.unprot_lim {μ lim w σ b} (h : WRel μ lim w σ) (hu : Unprot μ σ b) : lim b = 0 := by
  obtain ⟨id, _, ⟨o, ho, hd⟩, hm⟩ := hu
  exact (h.obj id b o ho hm).lim hd
theorem WRel.unprot_lt {μ lim w σ b} (h : WRel μ lim w σ) (hu : Unprot μ σ b) : b < w.heap.size := by
  obtain ⟨id, _, _, hm⟩ := hu
  exact h.lt id b hm
theorem WRel.lim_lt {μ lim w σ b o} (h : WRel μ lim w σ) (ho : o < lim b) : b < w.heap.size := by
  rcases Nat.lt_or_ge b w.heap.size with hb | hb
  · exact hb
  · rw [h.fresh b hb] at ho; omega

theorem bsize_ge {w : World} {b : Nat} (h : w.heap.size ≤ b) : bsize w b = 0 := by
  unfold bsize; rw [Array.getElem?_eq_none h]

theorem Chg.ext {μ lim w σ μ' lim' w' σ'} (hw : WRel μ lim w σ) (h : Chg μ lim w σ μ' lim' w' σ') : Ext μ lim w μ' lim' w' where
  pre := h.pre
  imm b o ho := by
    have hb := hw.lim_lt ho
    have hu : ¬ Unprot μ σ b := fun hu => by rw [hw.unprot_lim hu] at ho; omega
    obtain ⟨h1, h2⟩ := h.keep b hb hu
    exact ⟨by rw [h2]; exact ho, cell_congr h1 o⟩
  size b := by
    rcases Nat.lt_or_ge b w.heap.size with hb | hb
    · exact h.bsz b hb
    · rw [bsize_ge hb]; exact Nat.zero_le _

theorem Chg.refl {μ lim w σ} (h : WRel μ lim w σ) : Chg μ lim w σ μ lim w σ :=
  ⟨rfl, rfl, rfl, Nat.le_refl _, fun _ _ x => x, fun _ _ _ => ⟨rfl, rfl⟩, fun _ _ => Nat.le_refl _,
   fun id b ha hb hm => .inr ⟨id, hb, ha, hm⟩, rfl, fun _ _ => rfl, Nat.le_refl _, fun _ hp => h.glob_lt hp, h⟩

theorem Chg.trans {μ lim w σ μ1 lim1 w1 σ1 μ2 lim2 w2 σ2} (h : Chg μ lim w σ μ1 lim1 w1 σ1) (k : Chg μ1 lim1 w1 σ1 μ2 lim2 w2 σ2) :
    Chg μ lim w σ μ2 lim2 w2 σ2 := by
  have up : ∀ b, b < w.heap.size → Unprot μ1 σ1 b → Unprot μ σ b := by
    rintro b hb ⟨id, h1, h2, h3⟩
    rw [h.base] at h1
    rcases h.objs id b h2 h1 h3 with h4 | h4
    · omega
    · exact h4
  exact ⟨k.os.trans h.os, k.tape.trans h.tape, k.output.trans h.output, Nat.le_trans h.size k.size, fun id b x => k.pre id b (h.pre id b x),
    fun b hb hu => by
      obtain ⟨h1, h2⟩ := h.keep b hb hu
      obtain ⟨h3, h4⟩ := k.keep b (by have := h.size; omega) fun x => hu (up b hb x)
      exact ⟨h3.trans h1, h4.trans h2⟩,
    fun b hb => Nat.le_trans (h.bsz b hb) (k.bsz b (by have := h.size; omega)),
    fun id b ha hb hm => by
      rcases k.objs id b ha (by rw [h.base]; exact hb) hm with h1 | h1
      · exact .inl (by have := h.size; omega)
      · rcases Nat.lt_or_ge b w.heap.size with h2 | h2
        · exact .inr (up b h2 h1)
        · exact .inl h2,
    k.base.trans h.base, fun id hi => (k.prot id (by rw [h.base]; exact hi)).trans (h.prot id hi), Nat.le_trans h.more k.more, h.globs, k.wrel⟩

/-! ## what new blocks and writes do -/

theorem ObjRel.ext {μ lim w μ' lim' w'} (h : Ext μ lim w μ' lim' w') {b : Nat} {o : Obj} (hb : w'.heap[b]? = w.heap[b]?) (hl : lim' b = lim b) (r : ObjRel μ lim w b o) : ObjRel μ' lim' w' b o := by
  cases o with
  | dead => trivial
  | cells cs =>
    obtain ⟨h1, h2, h3, h4⟩ := r
    refine ⟨hl.trans h1, by rw [bsize_congr hb]; exact h2, fun o => (frozen_congr hb o).trans (h3 o), fun k v hv => ?_⟩
    obtain ⟨x, hx, hr⟩ := h4 k v hv
    exact ⟨x, (cell_congr hb k).trans hx, hr.1.ext h, hr.2⟩
  | row e cs =>
    obtain ⟨h1, c, h2, h3, h4⟩ := r
    refine ⟨hl.trans h1, c, hb.trans h2, h3, fun k v hv => ?_⟩
    obtain ⟨x, hx, hr⟩ := h4 k v hv
    exact ⟨x, (cell_congr hb k).trans hx, hr.1.ext h, hr.2⟩
  | var t cs =>
    obtain ⟨h1, c, h2, h3, h4⟩ := r
    refine ⟨hl.trans h1, c, hb.trans h2, h3, fun k v hv => ?_⟩
    obtain ⟨x, hx, hr⟩ := h4 k v hv
    exact ⟨x, (cell_congr hb k).trans hx, hr.1.ext h, hr.2⟩
  | map es =>
    obtain ⟨h1, ents, h2, h3, h4⟩ := r
    refine ⟨hl.trans h1, ents, hb.trans h2, h3, fun i k v hv => ?_⟩
    obtain ⟨e, he, hk, hr, hb⟩ := h4 i k v hv
    exact ⟨e, he, hk.ext h, hr.ext h, hb⟩

/-- The world with one block more. -/
def addObj (w : World) (o : Go.Obj) : World := { w with heap := w.heap.push o }

theorem addObj_old {w : World} {o : Go.Obj} {b : Nat} (h : b < w.heap.size) : (addObj w o).heap[b]? = w.heap[b]? := by
  simp only [addObj]; rw [Array.getElem?_push_lt h]; simp [h]
theorem addObj_new (w : World) (o : Go.Obj) : (addObj w o).heap[w.heap.size]? = some o := by
  show (w.heap.push o)[w.heap.size]? = some o
  exact Array.getElem?_push_size
theorem addObj_size (w : World) (o : Go.Obj) : (addObj w o).heap.size = w.heap.size + 1 := by simp [addObj]

/-- A new block whose cells, n of them, are written no more. -/
theorem ext_add {μ lim w σ} (hw : WRel μ lim w σ) (o : Go.Obj) (n : Nat) (more : List Nat) :
    Ext μ lim w (μ ++ more) (fun b => if b = w.heap.size then n else lim b) (addObj w o) where
  pre id b h := by rw [List.getElem?_append_left (List.getElem?_eq_some_iff.1 h).1]; exact h
  imm b k hk := by
    have hb := hw.lim_lt hk
    rw [if_neg (by omega)]
    exact ⟨hk, cell_congr (addObj_old hb) k⟩
  size b := by
    rcases Nat.lt_or_ge b w.heap.size with hb | hb
    · rw [bsize_congr (addObj_old hb)]; exact Nat.le_refl _
    · rw [bsize_ge hb]; exact Nat.zero_le _

/-- A new block that is no object. -/
theorem chg_add {μ lim w σ} (hw : WRel μ lim w σ) (o : Go.Obj) (n : Nat) :
    Chg μ lim w σ μ (fun b => if b = w.heap.size then n else lim b) (addObj w o) σ := by
  have hx := ext_add hw o n []
  rw [List.append_nil] at hx
  exact ⟨rfl, rfl, rfl, by rw [addObj_size]; omega, fun _ _ h => h, fun b hb _ => ⟨addObj_old hb, if_neg (by omega)⟩,
    fun b hb => by rw [bsize_congr (addObj_old hb)]; exact Nat.le_refl _,
    fun id b ha hb hm => .inr ⟨id, hb, ha, hm⟩, rfl, fun _ _ => rfl, Nat.le_refl _, fun _ hp => hw.glob_lt hp,
    ⟨hw.len, fun id b h => by rw [addObj_size]; have := hw.lt id b h; omega, hw.inj,
     fun id b ob ho hm => (hw.obj id b ob ho hm).ext hx (addObj_old (hw.lt id b hm)) (if_neg (by have := hw.lt id b hm; omega)),
     fun b hb => by rw [addObj_size] at hb; rw [if_neg (by omega)]; exact hw.fresh b (by omega), glob_keep (lim' := fun b => if b = w.heap.size then n else lim b) hw.glob fun p _ _ hlt => ⟨addObj_old hlt, if_neg (fun e => by rw [e] at hlt; exact Nat.lt_irrefl _ hlt)⟩⟩⟩

theorem alive_push {σ : St} {o : Obj} {id : Nat} (h : alive (σ.push o) id) : alive σ id ∨ id = σ.objs.length := by
  obtain ⟨x, hx, hd⟩ := h
  simp only [St.push] at hx
  rcases Nat.lt_trichotomy id σ.objs.length with hl | hl | hl
  · exact .inl ⟨x, by rw [List.getElem?_append_left hl] at hx; exact hx, hd⟩
  · exact .inr hl
  · rw [List.getElem?_append_right (by omega)] at hx
    have : id - σ.objs.length ≠ 0 := by omega
    cases hh : id - σ.objs.length with
    | zero => omega
    | succ m => rw [hh] at hx; simp at hx

/-- A new object in a new block. -/
theorem chg_push {μ lim w σ} (hw : WRel μ lim w σ) (hb : σ.base ≤ σ.objs.length) (o : Go.Obj) (ob : Obj)
    (hr : ObjRel (μ ++ [w.heap.size]) lim (addObj w o) w.heap.size ob) :
    Chg μ lim w σ (μ ++ [w.heap.size]) lim (addObj w o) (σ.push ob) ∧ Ext μ lim w (μ ++ [w.heap.size]) lim (addObj w o) := by
  have hlim : (fun b => if b = w.heap.size then 0 else lim b) = lim := by
    funext b
    split
    · rename_i h; rw [hw.fresh b (by omega)]
    · rfl
  have hx := ext_add hw o 0 [w.heap.size]
  rw [hlim] at hx
  have hget : ∀ id b, (μ ++ [w.heap.size])[id]? = some b → μ[id]? = some b ∨ (id = σ.objs.length ∧ b = w.heap.size) := by
    intro id b h
    rcases Nat.lt_or_ge id μ.length with hl | hl
    · rw [List.getElem?_append_left hl] at h; exact .inl h
    · rw [List.getElem?_append_right hl] at h
      cases hh : id - μ.length with
      | zero => rw [hh] at h; simp at h; exact .inr ⟨by rw [← hw.len]; omega, h.symm⟩
      | succ m => rw [hh] at h; simp at h
  refine ⟨⟨rfl, rfl, rfl, by rw [addObj_size]; omega, hx.pre, fun b hb _ => ⟨addObj_old hb, rfl⟩,
    fun b hb => by rw [bsize_congr (addObj_old hb)]; exact Nat.le_refl _, ?_, rfl, ?_, by simp [St.push], fun _ hp => hw.glob_lt hp, ?_⟩, hx⟩
  · intro id b ha hid hm
    rcases hget id b hm with h | h
    · rcases alive_push ha with h1 | h1
      · exact .inr ⟨id, hid, h1, h⟩
      · have := (List.getElem?_eq_some_iff.1 h).1; rw [hw.len] at this; omega
    · exact .inl (by omega)
  · intro id hid
    simp only [St.push]
    rw [List.getElem?_append_left (by omega)]
  · refine ⟨by simp [St.push, hw.len], ?_, ?_, ?_, ?_, glob_keep hw.glob fun p _ _ hlt => ⟨addObj_old hlt, rfl⟩⟩
    · intro id b h
      rw [addObj_size]
      rcases hget id b h with h | h
      · have := hw.lt id b h; omega
      · omega
    · intro i j b hi hj hbi hbj
      rcases hget i b hbi with h1 | h1 <;> rcases hget j b hbj with h2 | h2
      · have l1 := (List.getElem?_eq_some_iff.1 h1).1
        have l2 := (List.getElem?_eq_some_iff.1 h2).1
        rw [hw.len] at l1 l2
        exact hw.inj i j b ((alive_push hi).resolve_right (by omega)) ((alive_push hj).resolve_right (by omega)) h1 h2
      · have := hw.lt i b h1; omega
      · have := hw.lt j b h2; omega
      · omega
    · intro id b oo ho hm
      simp only [St.push] at ho
      rcases hget id b hm with h | h
      · have l1 := (List.getElem?_eq_some_iff.1 h).1
        rw [hw.len] at l1
        rw [List.getElem?_append_left l1] at ho
        exact (hw.obj id b oo ho h).ext hx (addObj_old (hw.lt id b h)) rfl
      · rw [h.1] at ho
        simp at ho
        rw [← ho, h.2]; exact hr
    · intro b hb'
      rw [addObj_size] at hb'
      exact hw.fresh b (by omega)

/-- A world that differs from another in one object's block alone. -/
theorem chg_set {μ lim w σ} (hw : WRel μ lim w σ) {id b : Nat} (hbase : σ.base ≤ id) (ha : alive σ id) (hm : μ[id]? = some b) {w' : World}
    (hos : w'.os = w.os) (ht : w'.tape = w.tape) (hout : w'.output = w.output) (hs : w'.heap.size = w.heap.size)
    (hk : ∀ c, c ≠ b → w'.heap[c]? = w.heap[c]?) (hz : bsize w b ≤ bsize w' b) (ob : Obj)
    (hr : Ext μ lim w μ lim w' → ObjRel μ lim w' b ob) : Chg μ lim w σ μ lim w' (σ.set id ob) ∧ Ext μ lim w μ lim w' := by
  have hl : lim b = 0 := hw.unprot_lim ⟨id, hbase, ha, hm⟩
  have hx : Ext μ lim w μ lim w' := ⟨fun _ _ h => h, fun c o ho => ⟨ho, cell_congr (hk c (fun hc => by rw [hc, hl] at ho; omega)) o⟩,
    fun c => by
      by_cases hc : c = b
      · rw [hc]; exact hz
      · rw [bsize_congr (hk c hc)]; exact Nat.le_refl _⟩
  have hset : ∀ j o, (σ.set id ob).objs[j]? = some o → (j = id ∧ o = ob) ∨ (j ≠ id ∧ σ.objs[j]? = some o) := by
    intro j o h
    simp only [St.set] at h
    by_cases hj : j = id
    · subst hj
      rw [List.getElem?_set_self' ] at h
      obtain ⟨o', ho', _⟩ := ha
      rw [ho'] at h; simp at h; exact .inl ⟨rfl, h.symm⟩
    · rw [List.getElem?_set_ne (fun h => hj h.symm)] at h; exact .inr ⟨hj, h⟩
  have hal : ∀ j, alive (σ.set id ob) j → alive σ j := by
    rintro j ⟨o, ho, hd⟩
    rcases hset j o ho with ⟨h1, _⟩ | ⟨_, h1⟩
    · rw [h1]; exact ha
    · exact ⟨o, h1, hd⟩
  refine ⟨⟨hos, ht, hout, by omega, fun _ _ h => h, ?_, ?_, ?_, rfl, ?_, by simp [St.set], fun _ hp => hw.glob_lt hp, ?_⟩, hx⟩
  · intro c hc hu
    exact ⟨hk c (fun h => hu (by rw [h]; exact ⟨id, hbase, ha, hm⟩)), rfl⟩
  · exact fun c _ => hx.size c
  · exact fun j c hj hjb hjm => .inr ⟨j, hjb, hal j hj, hjm⟩
  · intro j hj
    simp only [St.set]
    rw [List.getElem?_set_ne (by omega)]
  · refine ⟨by simp [St.set, hw.len], fun j c h => by rw [hs]; exact hw.lt j c h, fun i j c hi hj => hw.inj i j c (hal i hi) (hal j hj), ?_, fun c hc => hw.fresh c (by omega), glob_keep hw.glob fun p _ hl0 _ => ⟨hk p.1 (fun hpb => by rw [hpb, hl] at hl0; omega), rfl⟩⟩
    intro j c o ho hj
    rcases hset j o ho with ⟨h1, h2⟩ | ⟨h1, h2⟩
    · subst h1; rw [hm] at hj; cases hj; rw [h2]; exact hr hx
    · by_cases ho' : o = .dead
      · rw [ho']; trivial
      · have hne : c ≠ b := fun hc => h1 (hw.inj j id b ⟨o, h2, ho'⟩ ha (by rw [← hc]; exact hj) hm)
        exact (hw.obj j c o h2 hj).ext hx (hk c hne) rfl
end Go.Ab
