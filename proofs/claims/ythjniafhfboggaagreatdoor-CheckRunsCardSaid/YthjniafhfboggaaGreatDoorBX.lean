/- One frame of the program beside one of the abstract machine. No premise but those named. -/
import Derived.Test.YthjniafhfboggaaGreatDoorAY
namespace Go.Ab
open Go

/-- To whom a block belongs that the frame alone may write. -/
inductive Owner where
  | free
  | box (i : Nat)
  | cell (i k : Nat)
  | slot (i : Nat)
  | res (j : Nat)
  deriving DecidableEq

/-- What leave to append asks of the value in memory. -/
def OwnLeaf (lim : Nat → Nat) (w : World) (ow : Nat → Owner) (o : Owner) : V → Value → Prop
  | .slice .tail sz l, .slice (some a) n cap => cap = n ∨ (ow a.block = o ∧ a.block < w.heap.size ∧ lim a.block = a.off + l.length * sz ∧ a.off + cap * sz ≤ bsize w a.block ∧
      ∀ k, lim a.block ≤ k → w.frozen? ⟨a.block, k, none⟩ = false)
  | _, _ => True

/-- In a struct what may be appended to is nil. -/
def NilLeaf : V → Value → Prop
  | .slice .tail _ _, .slice (some _) _ _ => False
  | _, _ => True

def OwnV (lim : Nat → Nat) (w : World) (ow : Nat → Owner) (o : Owner) (v : V) (x : Value) : Prop :=
  match v, x with
  | .agg cs, .agg xs => ∀ (k : Nat) (v : V) (y : Value), cs[k]? = some v → xs.toList[k]? = some y → NilLeaf v y
  | v, x => OwnLeaf lim w ow o v x

/-- What is made anew. -/
def FreshLeaf (w : World) (lim' : Nat → Nat) (w' : World) : V → Value → Prop
  | .slice .tail sz l, .slice (some a) _ cap => w.heap.size ≤ a.block ∧ a.block < w'.heap.size ∧ lim' a.block = a.off + l.length * sz ∧ a.off + cap * sz ≤ bsize w' a.block ∧
      ∀ k, lim' a.block ≤ k → w'.frozen? ⟨a.block, k, none⟩ = false
  | _, _ => True

def FreshV (w : World) (lim' : Nat → Nat) (w' : World) (v : V) (x : Value) : Prop :=
  match v, x with
  | .agg cs, .agg xs => ∀ (k : Nat) (v : V) (y : Value), cs[k]? = some v → xs.toList[k]? = some y → NilLeaf v y
  | v, x => FreshLeaf w lim' w' v x

def EVRel (μ : List Nat) (lim : Nat → Nat) (w : World) (ow : Nat → Owner) (i : Nat) : EV → Value → Prop
  | .v v, x => RelV μ lim w v x ∧ OwnV lim w ow (.slot i) v x
  | .box cs, x => ∃ b c t, x = .pointer (some ⟨b, 0, none⟩) ∧ w.heap[b]? = some (.cells c t (0, 0)) ∧ lim b = 0 ∧ ow b = .box i ∧
      RelVs μ lim w cs c.toList ∧ ∀ (k : Nat) (v : V) (y : Value), cs[k]? = some v → c.toList[k]? = some y → OwnLeaf lim w ow (.cell i k) v y

/-- What is fixed while a call runs: the slots' temporaries, those of a region's own results, the state at the call's begin. -/
structure Ctx where
  slots : List Tmp
  dsts : List (Option Tmp)
  n : Nat
  μ : List Nat
  lim : Nat → Nat
  w : World
  σ : St
  defs : List Deferred := []

structure Ctx.OK (C : Ctx) : Prop where
  nodup : C.slots.Nodup
  lt : ∀ t ∈ C.slots, t < C.n
  dlt : ∀ (j t : Nat), C.dsts[j]? = some (some t) → t < C.n ∧ t ∉ C.slots
  dinj : ∀ (i j t : Nat), C.dsts[i]? = some (some t) → C.dsts[j]? = some (some t) → i = j

structure FRel (C : Ctx) (μ : List Nat) (lim : Nat → Nat) (ow : Nat → Owner) (s : FS) (a : Act) (w : World) : Prop where
  chg : Chg C.μ C.lim C.w C.σ μ lim w s.σ
  based : s.σ.base ≤ s.σ.objs.length
  tmps : a.tmps.size = C.n
  envlen : s.env.length = C.slots.length
  env : ∀ (i : Nat) (e : EV) (t : Tmp), s.env[i]? = some e → C.slots[i]? = some t → ∃ x, a.tmps[t]? = some x ∧ EVRel μ lim w ow i e x
  reslen : s.R.length = C.dsts.length
  res : ∀ (j : Nat) (v : V) (t : Tmp), s.R[j]? = some (some v) → C.dsts[j]? = some (some t) → ∃ x, a.tmps[t]? = some x ∧ RelV μ lim w v x ∧ OwnV lim w ow (.res j) v x
  owobj : ∀ (id b : Nat), alive s.σ id → μ[id]? = some b → ow b = .free
  owfresh : ∀ b, w.heap.size ≤ b → ow b = .free
  owold : ∀ b, b < C.w.heap.size → ow b = .free
  defers : a.defers = C.defs

/-! ## what owners become -/

theorem OwnLeaf.mono {lim w ow lim' w' ow' o o'} {v : V} {x : Value} (h : OwnLeaf lim w ow o v x)
    (hb : ∀ b, ow b = o → b < w.heap.size → w'.heap[b]? = w.heap[b]? ∧ lim' b = lim b ∧ ow' b = o') (hs : w.heap.size ≤ w'.heap.size) : OwnLeaf lim' w' ow' o' v x := by
  unfold OwnLeaf at *
  split
  · rename_i sz l a n cap
    simp only at h
    rcases h with h | ⟨h1, h2, h3, h4, h5⟩
    · exact .inl h
    obtain ⟨k1, k2, k3⟩ := hb _ h1 h2
    refine .inr ⟨k3, by omega, k2.trans h3, by rw [bsize_congr k1]; exact h4, fun k hk => ?_⟩
    rw [frozen_congr k1]; exact h5 k (by rw [← k2]; exact hk)
  · trivial

theorem OwnV.mono {lim w ow lim' w' ow' o o'} {v : V} {x : Value} (h : OwnV lim w ow o v x)
    (hb : ∀ b, ow b = o → b < w.heap.size → w'.heap[b]? = w.heap[b]? ∧ lim' b = lim b ∧ ow' b = o') (hs : w.heap.size ≤ w'.heap.size) : OwnV lim' w' ow' o' v x := by
  unfold OwnV at *
  split
  · simpa using h
  · rename_i hne
    split at h
    · rename_i cs xs; exact (hne cs xs rfl rfl).elim
    · exact h.mono hb hs

theorem ownV_erase {lim w ow o} {v : V} {x : Value} : OwnV lim w ow o v.erase x := by
  cases v with
  | agg cs =>
    simp only [V.erase]
    cases x with
    | agg xs =>
      intro k v y hv hy
      simp only [List.getElem?_map, Option.map_eq_some_iff] at hv
      obtain ⟨u, _, rfl⟩ := hv
      cases u with
      | slice oo sz l => cases oo <;> simp [V.eraseLeaf, NilLeaf]
      | _ => simp [V.eraseLeaf, NilLeaf]
    | _ => trivial
  | slice oo sz l => cases oo <;> simp only [V.erase, V.eraseLeaf] <;> cases x <;> trivial
  | _ => simp only [V.erase, V.eraseLeaf]; cases x <;> trivial

theorem ownLeaf_erase {lim w ow o} {v : V} {x : Value} : OwnLeaf lim w ow o v.eraseLeaf x := by
  cases v with
  | slice oo sz l => cases oo <;> simp only [V.eraseLeaf] <;> cases x <;> trivial
  | _ => simp only [V.eraseLeaf]; cases x <;> trivial

/-- The frame alone owns what it owns: what a call or an operation changes elsewhere leaves the frame as it is. -/
theorem FRel.lift {C : Ctx} {μ lim ow s a w} (h : FRel C μ lim ow s a w) {μ' lim' w' σ'} (hc : Chg μ lim w s.σ μ' lim' w' σ') :
    FRel C μ' lim' ow { s with σ := σ' } a w' := by
  have hx := hc.ext h.chg.wrel
  have own : ∀ o b, ow b = o → o ≠ .free → b < w.heap.size → w'.heap[b]? = w.heap[b]? ∧ lim' b = lim b ∧ ow b = o := by
    intro o b hb ho hlt
    have hu : ¬ Unprot μ s.σ b := by
      rintro ⟨id, _, ha, hm⟩
      rw [h.owobj id b ha hm] at hb
      exact ho hb.symm
    obtain ⟨h1, h2⟩ := hc.keep b hlt hu
    exact ⟨h1, h2, hb⟩
  refine ⟨h.chg.trans hc, ?_, h.tmps, h.envlen, ?_, h.reslen, ?_, ?_, ?_, h.owold, h.defers⟩
  · show σ'.base ≤ σ'.objs.length
    rw [hc.base]; exact Nat.le_trans h.based hc.more
  · intro i e t he ht
    obtain ⟨x, hx1, hr⟩ := h.env i e t he ht
    refine ⟨x, hx1, ?_⟩
    cases e with
    | v v => exact ⟨hr.1.ext hx, hr.2.mono (fun b hb hl => own _ b hb (by simp) hl) hc.size⟩
    | box cs =>
      obtain ⟨b, c, t', r1, r2, r3, r4, r5, r6⟩ := hr
      have hlt : b < w.heap.size := (Array.getElem?_eq_some_iff.1 r2).1
      obtain ⟨k1, k2, _⟩ := own _ b r4 (by simp) hlt
      exact ⟨b, c, t', r1, k1.trans r2, k2.trans r3, r4, r5.ext hx, fun k v y hv hy => (r6 k v y hv hy).mono (fun b hb hl => own _ b hb (by simp) hl) hc.size⟩
  · intro j v t hv ht
    obtain ⟨x, hx1, h2, h3⟩ := h.res j v t hv ht
    exact ⟨x, hx1, h2.ext hx, h3.mono (fun b hb hl => own _ b hb (by simp) hl) hc.size⟩
  · intro id b ha hm
    by_cases hb : s.σ.base ≤ id
    · rcases hc.objs id b ha hb hm with h1 | ⟨id', _, ha', hm'⟩
      · exact h.owfresh b h1
      · exact h.owobj id' b ha' hm'
    · obtain ⟨o, ho, hd⟩ := ha
      have hp := hc.prot id (by omega)
      rw [hp] at ho
      have hlt : id < μ.length := by rw [h.chg.wrel.len]; exact (List.getElem?_eq_some_iff.1 ho).1
      have hm0 : μ[id]? = some μ[id] := List.getElem?_eq_getElem hlt
      have := hc.pre _ _ hm0
      rw [hm] at this
      cases this
      exact h.owobj id _ ⟨o, ho, hd⟩ hm0
  · exact fun b hb => h.owfresh b (Nat.le_trans hc.size hb)

/-- A block loses its owner, or changes him: those who don't own it stay. -/
theorem evrel_ow {μ lim w ow ow'} {i : Nat} {e : EV} {x : Value} (h : EVRel μ lim w ow i e x)
    (hk : ∀ b, (ow b = .slot i ∨ ow b = .box i ∨ ∃ k, ow b = .cell i k) → ow' b = ow b) : EVRel μ lim w ow' i e x := by
  cases e with
  | v v => exact ⟨h.1, h.2.mono (fun b hb _ => ⟨rfl, rfl, (hk b (.inl hb)).trans hb⟩) (Nat.le_refl _)⟩
  | box cs =>
    obtain ⟨b, c, t, r1, r2, r3, r4, r5, r6⟩ := h
    exact ⟨b, c, t, r1, r2, r3, (hk b (.inr (.inl r4))).trans r4, r5,
      fun k v y hv hy => (r6 k v y hv hy).mono (fun b hb _ => ⟨rfl, rfl, (hk b (.inr (.inr ⟨k, hb⟩))).trans hb⟩) (Nat.le_refl _)⟩

end Go.Ab

namespace Go.Ab
open Go

/-- Where a result goes: a slot's temporary, or a region's own. -/
def dstOK (C : Ctx) (dst : Option Nat) (i : Nat) (od : Option Tmp) : Prop :=
  match dst with
  | some d => ∃ t, C.slots[d]? = some t ∧ od = some t
  | none => C.dsts[i]? = some od

def ownerOf (dst : Option Nat) (i : Nat) : Owner := match dst with
  | some d => .slot d
  | none => .res i

theorem put_tmps {a : Act} {od : Option Tmp} {X : Value} : (a.put od X).tmps = match od with | some t => a.tmps.setIfInBounds t X | none => a.tmps := by
  cases od <;> rfl
theorem put_defers {a : Act} {od : Option Tmp} {X : Value} : (a.put od X).defers = a.defers := by cases od <;> rfl
theorem put_size {a : Act} {od : Option Tmp} {X : Value} : (a.put od X).tmps.size = a.tmps.size := by cases od <;> simp [Act.put]
theorem put_get_ne {a : Act} {od : Option Tmp} {X : Value} {t : Tmp} (h : od ≠ some t) : (a.put od X).tmps[t]? = a.tmps[t]? := by
  cases od with
  | none => rfl
  | some u => simp only [Act.put]; exact Array.getElem?_setIfInBounds_ne (fun e => h (by rw [e]))
theorem put_get_eq {a : Act} {X : Value} {t : Tmp} (h : t < a.tmps.size) : (a.put (some t) X).tmps[t]? = some X := by
  simp only [Act.put]; rw [Array.getElem?_setIfInBounds_self_of_lt h]

theorem nodup_inj {l : List Nat} (h : l.Nodup) {i j t : Nat} (hi : l[i]? = some t) (hj : l[j]? = some t) : i = j := by
  obtain ⟨h1, e1⟩ := List.getElem?_eq_some_iff.1 hi
  obtain ⟨h2, e2⟩ := List.getElem?_eq_some_iff.1 hj
  have := List.pairwise_iff_getElem.1 h
  rcases Nat.lt_trichotomy i j with hlt | heq | hgt
  · exact absurd (e1.trans e2.symm) (this i j h1 h2 hlt)
  · exact heq
  · exact absurd (e2.trans e1.symm) (this j i h2 h1 hgt)

theorem FRel.put {C : Ctx} {μ lim ow s a w} (hC : C.OK) (h : FRel C μ lim ow s a w) {ow' : Nat → Owner} {x : V} {X : Value} {dst : Option Nat} {i : Nat} {od : Option Tmp}
    (hd : dstOK C dst i od) (hrel : RelV μ lim w x X) (hown : OwnV lim w ow' (ownerOf dst i) x X)
    (henv : ∀ (k : Nat) (e : EV) (y : Value), s.env[k]? = some e → dst ≠ some k → EVRel μ lim w ow k e y → EVRel μ lim w ow' k e y)
    (hres : ∀ (k : Nat) (v : V) (y : Value), s.R[k]? = some (some v) → ¬ (dst = none ∧ k = i) → OwnV lim w ow (.res k) v y → OwnV lim w ow' (.res k) v y)
    (hobj : ∀ (id b : Nat), alive s.σ id → μ[id]? = some b → ow' b = .free) (hfresh : ∀ b, w.heap.size ≤ b → ow' b = .free) (hold : ∀ b, b < C.w.heap.size → ow' b = .free) :
    FRel C μ lim ow' (s.put dst i x) (a.put od X) w := by
  cases dst with
  | some d =>
    obtain ⟨t, ht, rfl⟩ := hd
    have htm := hC.lt t (List.mem_of_getElem? ht)
    refine ⟨h.chg, h.based, by rw [put_size]; exact h.tmps, by simp [FS.put, h.envlen], ?_, h.reslen, ?_, hobj, hfresh, hold, by rw [put_defers]; exact h.defers⟩
    · intro k e u he hu
      simp only [FS.put] at he
      by_cases hk : k = d
      · subst hk
        rw [hu] at ht; cases ht
        have hlen : k < s.env.length := by rw [h.envlen]; exact (List.getElem?_eq_some_iff.1 hu).1
        rw [List.getElem?_set_self hlen] at he
        cases he
        exact ⟨X, put_get_eq (by rw [h.tmps]; exact htm), hrel, hown⟩
      · rw [List.getElem?_set_ne (fun e => hk e.symm)] at he
        obtain ⟨y, hy, hr⟩ := h.env k e u he hu
        have hne : some t ≠ some u := fun e => hk (by cases e; exact nodup_inj hC.nodup hu ht)
        exact ⟨y, by rw [put_get_ne hne]; exact hy, henv k e y he (fun e => hk (by cases e; rfl)) hr⟩
    · intro k v u hv hu
      simp only [FS.put] at hv
      obtain ⟨y, hy, h1, h2⟩ := h.res k v u hv hu
      have hne : some t ≠ some u := fun e => (hC.dlt k u hu).2 (by cases e; exact List.mem_of_getElem? ht)
      exact ⟨y, by rw [put_get_ne hne]; exact hy, h1, hres k v y hv (by simp) h2⟩
  | none =>
    simp only [dstOK] at hd
    refine ⟨h.chg, h.based, by rw [put_size]; exact h.tmps, by simp [FS.put, h.envlen], ?_, by simp [FS.put, h.reslen], ?_, hobj, hfresh, hold, by rw [put_defers]; exact h.defers⟩
    · intro k e u he hu
      simp only [FS.put] at he
      obtain ⟨y, hy, hr⟩ := h.env k e u he hu
      have hne : od ≠ some u := fun e => (hC.dlt i u (by rw [← e]; exact hd)).2 (List.mem_of_getElem? hu)
      exact ⟨y, by rw [put_get_ne hne]; exact hy, henv k e y he (by simp) hr⟩
    · intro k v u hv hu
      simp only [FS.put] at hv
      by_cases hk : k = i
      · subst hk
        rw [hd] at hu
        cases hu
        have hlen : k < s.R.length := by rw [h.reslen]; exact (List.getElem?_eq_some_iff.1 hd).1
        rw [List.getElem?_set_self hlen] at hv
        cases hv
        exact ⟨X, put_get_eq (by rw [h.tmps]; exact (hC.dlt k u hd).1), hrel, hown⟩
      · rw [List.getElem?_set_ne (fun e => hk e.symm)] at hv
        obtain ⟨y, hy, h1, h2⟩ := h.res k v u hv hu
        have hne : od ≠ some u := fun e => hk (hC.dinj k i u hu (by rw [← e]; exact hd))
        exact ⟨y, by rw [put_get_ne hne]; exact hy, h1, hres k v y hv (fun e => hk e.2) h2⟩

/-- What was the result's place is no one's any more. -/
def clear (ow : Nat → Owner) (dst : Option Nat) (i : Nat) : Nat → Owner := fun b =>
  match dst, ow b with
  | some d, .slot j => if j = d then .free else .slot j
  | some d, .box j => if j = d then .free else .box j
  | some d, .cell j k => if j = d then .free else .cell j k
  | none, .res j => if j = i then .free else .res j
  | _, o => o

/-- One block, or one owner's, goes to the result's place. -/
def give (ow : Nat → Owner) (dst : Option Nat) (i : Nat) (src : Option Owner) (β : Option Nat) : Nat → Owner := fun b =>
  if β = some b ∨ src = some (ow b) then ownerOf dst i else clear ow dst i b

theorem clear_env {ow : Nat → Owner} {dst i k} (hk : dst ≠ some k) {b : Nat} (h : ow b = .slot k ∨ ow b = .box k ∨ ∃ c, ow b = .cell k c) : clear ow dst i b = ow b := by
  unfold clear
  rcases h with h | h | ⟨c, h⟩ <;> rw [h] <;> cases dst <;> simp <;> intro e <;> exact absurd (by rw [e]) hk
theorem clear_res {ow : Nat → Owner} {dst i k} (hk : ¬ (dst = none ∧ k = i)) {b : Nat} (h : ow b = .res k) : clear ow dst i b = ow b := by
  unfold clear
  rw [h]; cases dst <;> simp
  intro e; exact absurd ⟨rfl, e⟩ hk
theorem clear_free {ow : Nat → Owner} {dst i} {b : Nat} (h : ow b = .free) : clear ow dst i b = .free := by
  unfold clear; rw [h]; cases dst <;> rfl

def newBlock : V → Value → Option Nat
  | .slice .tail _ _, .slice (some a) _ _ => some a.block
  | _, _ => none
theorem newBlock_spec {x : V} {X : Value} {b : Nat} (h : newBlock x X = some b) : ∃ sz l a n cap, x = .slice .tail sz l ∧ X = .slice (some a) n cap ∧ a.block = b := by
  unfold newBlock at h
  split at h
  · cases h; exact ⟨_, _, _, _, _, rfl, rfl, rfl⟩
  · cases h

/-- The result of an operation that takes nothing goes to its place; what it made anew is the frame's. -/
theorem FRel.put_fresh {C : Ctx} {μ lim ow s a w0} (hC : C.OK) (h0 : FRel C μ lim ow s a w0) {μ' lim' w σ'} (hc : Chg μ lim w0 s.σ μ' lim' w σ') {x : V} {X : Value}
    {dst : Option Nat} {i : Nat} {od : Option Tmp} (hd : dstOK C dst i od) (hrel : RelV μ' lim' w x X) (hf : FreshV w0 lim' w x X) (hno : ∀ sz l a n cap, x = .slice .tail sz l → X = .slice (some a) n cap → ∀ id, alive σ' id → μ'[id]? ≠ some a.block) :
    ∃ ow', FRel C μ' lim' ow' (({ s with σ := σ' } : FS).put dst i x) (a.put od X) w := by
  have h := h0.lift hc
  -- the block that is new, if there is one
  obtain ⟨β, hβ⟩ : ∃ β : Option Nat, β = newBlock x X := ⟨_, rfl⟩
  have hnew : ∀ b, β = some b → w0.heap.size ≤ b ∧ b < w.heap.size ∧ ∀ id, alive σ' id → μ'[id]? ≠ some b := by
    intro b hb
    rw [hβ] at hb
    obtain ⟨sz, l, a', n, cap, rfl, rfl, rfl⟩ := newBlock_spec hb
    have : FreshLeaf w0 lim' w (.slice .tail sz l) (.slice (some a') n cap) := hf
    exact ⟨this.1, this.2.1, hno sz l a' n cap rfl rfl⟩
  have hs0 : C.w.heap.size ≤ w0.heap.size := h0.chg.size
  refine ⟨give ow dst i none β, h.put hC hd hrel ?_ ?_ ?_ ?_ ?_ ?_⟩
  · -- the result's own leave
    unfold OwnV
    split
    · exact hf
    · rename_i hne
      have hf' : FreshLeaf w0 lim' w x X := by
        unfold FreshV at hf
        split at hf
        · rename_i cs xs; exact (hne cs xs rfl rfl).elim
        · exact hf
      unfold OwnLeaf
      split
      · rename_i sz l a n cap
        obtain ⟨_, h1, h2, h3, h4⟩ := hf'
        refine .inr ⟨?_, h1, h2, h3, h4⟩
        unfold give
        rw [if_pos (.inl (by rw [hβ]; rfl))]
      · trivial
  · intro k e y he hk hr
    refine evrel_ow hr fun b hb => ?_
    unfold give
    rw [if_neg, clear_env hk hb]
    rintro (h1 | h1)
    · have := h0.owfresh b (hnew b h1).1
      rcases hb with hb | hb | ⟨c, hb⟩ <;> rw [this] at hb <;> cases hb
    · cases h1
  · intro k v y hv hk hr
    refine hr.mono (fun b hb _ => ⟨rfl, rfl, ?_⟩) (Nat.le_refl _)
    unfold give
    rw [if_neg, clear_res hk hb, hb]
    rintro (h1 | h1)
    · have := h0.owfresh b (hnew b h1).1
      rw [this] at hb; cases hb
    · cases h1
  · intro id b ha hm
    unfold give
    rw [if_neg, clear_free (h.owobj id b ha hm)]
    rintro (h1 | h1)
    · exact (hnew b h1).2.2 id ha hm
    · cases h1
  · intro b hb
    unfold give
    rw [if_neg, clear_free (h.owfresh b hb)]
    rintro (h1 | h1)
    · have := (hnew b h1).2.1; omega
    · cases h1
  · intro b hb
    unfold give
    rw [if_neg, clear_free (h.owold b hb)]
    rintro (h1 | h1)
    · have := (hnew b h1).1; omega
    · cases h1
end Go.Ab

namespace Go.Ab
open Go

theorem ownV_leaf {lim w ow o} {v : V} {x : Value} (h : OwnV lim w ow o v x) {lim' w' ow' o'} (hs : w.heap.size ≤ w'.heap.size)
    (hb : ∀ b, ow b = o → b < w.heap.size → w'.heap[b]? = w.heap[b]? ∧ lim' b = lim b ∧ ow' b = o') : OwnV lim' w' ow' o' v x := h.mono hb hs

theorem ownLeaf_erase' {lim w ow o} {v : V} {x : Value} : OwnLeaf lim w ow o v.erase x := by
  cases v with
  | slice oo sz l => cases oo <;> simp only [V.erase, V.eraseLeaf] <;> cases x <;> trivial
  | _ => simp only [V.erase, V.eraseLeaf]; cases x <;> trivial

/-- R[j], erased. -/
theorem FRel.eraseR {C : Ctx} {μ lim ow s a w} (h : FRel C μ lim ow s a w) {j : Nat} {x : V} (hj : s.R[j]? = some (some x)) :
    FRel C μ lim ow { s with R := s.R.set j (some x.erase) } a w := by
  refine ⟨h.chg, h.based, h.tmps, h.envlen, h.env, by simp [h.reslen], ?_, h.owobj, h.owfresh, h.owold, h.defers⟩
  intro k v t hv ht
  by_cases hk : k = j
  · subst hk
    simp only at hv
    rw [List.getElem?_set_self (List.getElem?_eq_some_iff.1 hj).1] at hv
    cases hv
    obtain ⟨y, hy, h1, _⟩ := h.res k x t hj ht
    exact ⟨y, hy, relV_erase.2 h1, ownV_erase⟩
  · simp only at hv
    rw [List.getElem?_set_ne (fun e => hk e.symm)] at hv
    exact h.res k v t hv ht

theorem FRel.eraseEnv {C : Ctx} {μ lim ow s a w} (h : FRel C μ lim ow s a w) {j : Nat} {x : V} (hj : s.env[j]? = some (.v x)) :
    FRel C μ lim ow { s with env := s.env.set j (.v x.erase) } a w := by
  refine ⟨h.chg, h.based, h.tmps, by simp [h.envlen], ?_, h.reslen, h.res, h.owobj, h.owfresh, h.owold, h.defers⟩
  intro k e t he ht
  by_cases hk : k = j
  · subst hk
    simp only at he
    rw [List.getElem?_set_self (List.getElem?_eq_some_iff.1 hj).1] at he
    cases he
    obtain ⟨y, hy, h1, _⟩ := h.env k _ t hj ht
    exact ⟨y, hy, relV_erase.2 h1, ownV_erase⟩
  · simp only at he
    rw [List.getElem?_set_ne (fun e => hk e.symm)] at he
    exact h.env k e t he ht

theorem give_free {ow : Nat → Owner} {dst i src} (hs : src ≠ .free) {b : Nat} (h : ow b = .free) : give ow dst i (some src) none b = .free := by
  unfold give
  rw [if_neg, clear_free h]
  rintro (h1 | h1)
  · cases h1
  · cases h1; exact hs h

/-- A block whose owner is asked for and isn't the source keeps him. -/
theorem give_env {ow : Nat → Owner} {dst i src k} (hk : dst ≠ some k) {b : Nat} (h : ow b = .slot k ∨ ow b = .box k ∨ ∃ c, ow b = .cell k c) (hs : src ≠ ow b) :
    give ow dst i (some src) none b = ow b := by
  unfold give
  rw [if_neg, clear_env hk h]
  rintro (h1 | h1)
  · cases h1
  · exact hs (Option.some.inj h1)
theorem give_res {ow : Nat → Owner} {dst i src k} (hk : ¬ (dst = none ∧ k = i)) {b : Nat} (h : ow b = .res k) (hs : src ≠ .res k) :
    give ow dst i (some src) none b = .res k := by
  unfold give
  rw [if_neg, clear_res hk h, h]
  rintro (h1 | h1)
  · cases h1
  · rw [h] at h1; exact hs (Option.some.inj h1)
theorem give_src {ow : Nat → Owner} {dst i src} {b : Nat} (h : ow b = src) : give ow dst i (some src) none b = ownerOf dst i := by
  unfold give; rw [if_pos (.inr (by rw [h]))]

theorem FRel.move {C : Ctx} {μ lim ow s a w} (hC : C.OK) (h : FRel C μ lim ow s a w) {j : Nat} {x : V} (hj : s.R[j]? = some (some x)) {t : Tmp} (ht : C.dsts[j]? = some (some t)) {X : Value}
    (hX : a.tmps[t]? = some X) {dst : Option Nat} {i : Nat} {od : Option Tmp} (hd : dstOK C dst i od) :
    FRel C μ lim (give ow dst i (some (.res j)) none) (({ s with R := s.R.set j (some x.erase) } : FS).put dst i x) (a.put od X) w := by
  obtain ⟨y, hy, h1, h2⟩ := h.res j x t hj ht
  rw [hX] at hy; cases hy
  refine (h.eraseR hj).put hC hd h1 ?_ ?_ ?_ ?_ ?_ ?_
  · exact h2.mono (fun b hb _ => ⟨rfl, rfl, give_src hb⟩) (Nat.le_refl _)
  · exact fun k e y he hk hr => evrel_ow hr fun b hb => give_env hk hb (by rcases hb with hb | hb | ⟨c, hb⟩ <;> rw [hb] <;> simp)
  · intro k v y hv hk hr
    by_cases hkj : k = j
    · subst hkj
      simp only at hv
      rw [List.getElem?_set_self (List.getElem?_eq_some_iff.1 hj).1] at hv
      cases hv
      exact ownV_erase
    · exact hr.mono (fun b hb _ => ⟨rfl, rfl, give_res hk hb (by simp; exact fun e => hkj e.symm)⟩) (Nat.le_refl _)
  · exact fun id b ha hm => give_free (by simp) (h.owobj id b ha hm)
  · exact fun b hb => give_free (by simp) (h.owfresh b hb)
  · exact fun b hb => give_free (by simp) (h.owold b hb)

theorem FRel.mvt {C : Ctx} {μ lim ow s a w} (hC : C.OK) (h : FRel C μ lim ow s a w) {j : Nat} {x : V} (hj : s.env[j]? = some (.v x)) {t : Tmp} (ht : C.slots[j]? = some t) {X : Value}
    (hX : a.tmps[t]? = some X) {dst : Option Nat} {i : Nat} {od : Option Tmp} (hd : dstOK C dst i od) :
    ∃ ow', FRel C μ lim ow' (({ s with env := s.env.set j (.v x.erase) } : FS).put dst i x) (a.put od X) w := by
  obtain ⟨y, hy, h1, h2⟩ := h.env j _ t hj ht
  rw [hX] at hy; cases hy
  refine ⟨give ow dst i (some (.slot j)) none, (h.eraseEnv hj).put hC hd h1 ?_ ?_ ?_ ?_ ?_ ?_⟩
  · exact h2.mono (fun b hb _ => ⟨rfl, rfl, give_src hb⟩) (Nat.le_refl _)
  · intro k e y he hk hr
    by_cases hkj : k = j
    · subst hkj
      simp only at he
      rw [List.getElem?_set_self (List.getElem?_eq_some_iff.1 hj).1] at he
      cases he
      exact ⟨hr.1, ownV_erase⟩
    · exact evrel_ow hr fun b hb => give_env hk hb (by rcases hb with hb | hb | ⟨c, hb⟩ <;> rw [hb] <;> simp <;> exact fun e => hkj e.symm)
  · exact fun k v y hv hk hr => hr.mono (fun b hb _ => ⟨rfl, rfl, give_res hk hb (by simp)⟩) (Nat.le_refl _)
  · exact fun id b ha hm => give_free (by simp) (h.owobj id b ha hm)
  · exact fun b hb => give_free (by simp) (h.owfresh b hb)
  · exact fun b hb => give_free (by simp) (h.owold b hb)

/-- A box's cells are loaded: what was there stays, without leave. -/
theorem FRel.box {C : Ctx} {μ lim ow s a w} (h : FRel C μ lim ow s a w) {j : Nat} {cs : List V} (hj : s.env[j]? = some (.box cs)) :
    ∃ t b c ty, C.slots[j]? = some t ∧ a.tmps[t]? = some (.pointer (some ⟨b, 0, none⟩)) ∧ w.heap[b]? = some (.cells c ty (0, 0)) ∧ lim b = 0 ∧ ow b = .box j ∧
      RelVs μ lim w cs c.toList ∧ ∀ (k : Nat) (v : V) (y : Value), cs[k]? = some v → c.toList[k]? = some y → OwnLeaf lim w ow (.cell j k) v y := by
  have hlt : j < C.slots.length := by rw [← h.envlen]; exact (List.getElem?_eq_some_iff.1 hj).1
  obtain ⟨y, hy, b, c, ty, h1, h2, h3, h4, h5, h6⟩ := h.env j _ _ hj (List.getElem?_eq_getElem hlt)
  rw [h1] at hy
  exact ⟨_, b, c, ty, List.getElem?_eq_getElem hlt, hy, h2, h3, h4, h5, h6⟩

theorem relVs_set {μ lim w} {cs : List V} {ys : List Value} (h : RelVs μ lim w cs ys) {k : Nat} {v : V} {y : Value} (hy : ys[k]? = some y) (hr : RelV μ lim w v y) : RelVs μ lim w (cs.set k v) ys :=
  RelVs.of_get (by simp [h.length]) fun i u x hu hx => by
    by_cases hk : i = k
    · subst hk
      rw [hy] at hx; cases hx
      rw [List.getElem?_set_self (by rw [h.length]; exact (List.getElem?_eq_some_iff.1 hy).1)] at hu
      cases hu; exact hr
    · rw [List.getElem?_set_ne (fun e => hk e.symm)] at hu
      exact h.get' hu hx

theorem FRel.takeBox {C : Ctx} {μ lim ow s a w} (hC : C.OK) (h : FRel C μ lim ow s a w) {j off : Nat} {cs : List V} {x : V} (hj : s.env[j]? = some (.box cs)) (hx : cs[off]? = some x)
    {b : Nat} {c : Array Value} {ty : TypeId} {t : Tmp} {X : Value} (ht : C.slots[j]? = some t) (hp : a.tmps[t]? = some (.pointer (some ⟨b, 0, none⟩))) (hb : w.heap[b]? = some (.cells c ty (0, 0))) (hX : c[off]? = some X)
    {dst : Option Nat} {i : Nat} {od : Option Tmp} (hd : dstOK C dst i od) (hne : dst ≠ some j) (hna : ∀ cs, x ≠ .agg cs) :
    ∃ ow', FRel C μ lim ow' (({ s with env := s.env.set j (.box (cs.set off x.erase)) } : FS).put dst i x) (a.put od X) w := by
  obtain ⟨t', b', c', ty', h1, h2, h3, h4, h5, h6, h7⟩ := h.box hj
  rw [ht] at h1; cases h1
  rw [hp] at h2; cases h2
  rw [hb] at h3; cases h3
  have hX' : c.toList[off]? = some X := by rw [Array.getElem?_toList]; exact hX
  have hrel := h6.get' hx hX'
  have hown := h7 off x X hx hX'
  -- the frame with the box's cell erased
  have hbase : FRel C μ lim ow { s with env := s.env.set j (.box (cs.set off x.erase)) } a w := by
    refine ⟨h.chg, h.based, h.tmps, by simp [h.envlen], ?_, h.reslen, h.res, h.owobj, h.owfresh, h.owold, h.defers⟩
    intro k e u he hu
    by_cases hk : k = j
    · subst hk
      simp only at he
      rw [List.getElem?_set_self (List.getElem?_eq_some_iff.1 hj).1] at he
      cases he
      rw [ht] at hu; cases hu
      refine ⟨_, hp, b, c, ty, rfl, hb, h4, h5, relVs_set h6 hX' (relV_erase.2 hrel), ?_⟩
      intro k' v y hv hy
      by_cases hk' : k' = off
      · subst hk'
        rw [List.getElem?_set_self (List.getElem?_eq_some_iff.1 hx).1] at hv
        cases hv
        exact ownLeaf_erase'
      · rw [List.getElem?_set_ne (fun e => hk' e.symm)] at hv
        exact h7 k' v y hv hy
    · simp only at he
      rw [List.getElem?_set_ne (fun e => hk e.symm)] at he
      exact h.env k e u he hu
  refine ⟨give ow dst i (some (.cell j off)) none, hbase.put hC hd hrel ?_ ?_ ?_ ?_ ?_ ?_⟩
  · unfold OwnV
    split
    · rename_i cs' xs'; exact absurd rfl (hna cs')
    · exact hown.mono (fun b hb _ => ⟨rfl, rfl, give_src hb⟩) (Nat.le_refl _)
  · intro k e y he hk hr
    by_cases hkj : k = j
    · subst hkj
      simp only at he
      rw [List.getElem?_set_self (List.getElem?_eq_some_iff.1 hj).1] at he
      cases he
      obtain ⟨b1, c1, ty1, r1, r2, r3, r4, r5, r6⟩ := hr
      refine ⟨b1, c1, ty1, r1, r2, r3, (give_env hk (.inr (.inl r4)) (by rw [r4]; simp)).trans r4, r5, ?_⟩
      intro k' v y hv hy
      by_cases hk' : k' = off
      · subst hk'
        rw [List.getElem?_set_self (List.getElem?_eq_some_iff.1 hx).1] at hv
        cases hv
        exact ownLeaf_erase'
      · exact (r6 k' v y hv hy).mono (fun b hb _ => ⟨rfl, rfl, (give_env hk (.inr (.inr ⟨k', hb⟩)) (by rw [hb]; simp; exact fun e => hk' e.symm)).trans hb⟩) (Nat.le_refl _)
    · exact evrel_ow hr fun b hb => give_env hk hb (by rcases hb with hb | hb | ⟨c, hb⟩ <;> rw [hb] <;> simp <;> intro e <;> exact absurd e.symm hkj)
  · exact fun k v y hv hk hr => hr.mono (fun b hb _ => ⟨rfl, rfl, give_res hk hb (by simp)⟩) (Nat.le_refl _)
  · exact fun id b ha hm => give_free (by simp) (h.owobj id b ha hm)
  · exact fun b hb => give_free (by simp) (h.owfresh b hb)
  · exact fun b hb => give_free (by simp) (h.owold b hb)
end Go.Ab

namespace Go.Ab
open Go

/-- A world that differs from another in one block, which is no object's. -/
structure Touch (w : World) (lim : Nat → Nat) (b : Nat) (w' : World) (lim' : Nat → Nat) : Prop where
  os : w'.os = w.os
  tape : w'.tape = w.tape
  output : w'.output = w.output
  size : w'.heap.size = w.heap.size
  other : ∀ c, c ≠ b → w'.heap[c]? = w.heap[c]? ∧ lim' c = lim c
  bsz : bsize w' b = bsize w b
  lt : b < w.heap.size
  imm : ∀ o, o < lim b → o < lim' b ∧ w'.cell? ⟨b, o, none⟩ = w.cell? ⟨b, o, none⟩

theorem Touch.ext {w lim b w' lim'} (h : Touch w lim b w' lim') (μ : List Nat) : Ext μ lim w μ lim' w' where
  pre _ _ x := x
  imm c o ho := by
    by_cases hc : c = b
    · subst hc; exact h.imm o ho
    · obtain ⟨h1, h2⟩ := h.other c hc
      exact ⟨by rw [h2]; exact ho, cell_congr h1 o⟩
  size c := by
    by_cases hc : c = b
    · subst hc; rw [h.bsz]; exact Nat.le_refl _
    · rw [bsize_congr (h.other c hc).1]; exact Nat.le_refl _

theorem Touch.chg {μ0 lim0 w0 σ0 μ lim w σ b w' lim'} (h : Touch w lim b w' lim') (hc : Chg μ0 lim0 w0 σ0 μ lim w σ) (hb : w0.heap.size ≤ b)
    (hno : ∀ id, alive σ id → μ[id]? ≠ some b) : Chg μ0 lim0 w0 σ0 μ lim' w' σ := by
  have hx := h.ext μ
  refine ⟨h.os.trans hc.os, h.tape.trans hc.tape, h.output.trans hc.output, by rw [h.size]; exact hc.size, hc.pre, ?_, ?_, hc.objs, hc.base, hc.prot, hc.more, hc.globs, ?_⟩
  · intro c hlt hu
    obtain ⟨h1, h2⟩ := hc.keep c hlt hu
    obtain ⟨h3, h4⟩ := h.other c (by omega)
    exact ⟨h3.trans h1, h4.trans h2⟩
  · exact fun c hlt => Nat.le_trans (hc.bsz c hlt) (hx.size c)
  · refine ⟨hc.wrel.len, fun id c hm => by rw [h.size]; exact hc.wrel.lt id c hm, hc.wrel.inj, ?_, ?_, glob_keep hc.wrel.glob fun p hp _ _ => by
      have h1 := hc.globs p hp
      have h2 := h.other p.1 (by omega)
      exact h2⟩
    · intro id c o ho hm
      by_cases hd : o = .dead
      · subst hd; trivial
      · have hcb : c ≠ b := fun e => hno id ⟨o, ho, hd⟩ (by rw [← e]; exact hm)
        obtain ⟨h1, h2⟩ := h.other c hcb
        exact (hc.wrel.obj id c o ho hm).ext hx h1 h2
    · intro c hc'
      rw [h.size] at hc'
      have hcb : c ≠ b := by have := h.lt; omega
      rw [(h.other c hcb).2]
      exact hc.wrel.fresh c hc'

/-- The frame under a write into a block that it owns: each entry that doesn't hang on the block stays. -/
theorem FRel.touch {C : Ctx} {μ lim ow s a w} (h : FRel C μ lim ow s a w) {b : Nat} {w' : World} {lim' : Nat → Nat} (ht : Touch w lim b w' lim') {s' : FS} {a' : Act} {ow' : Nat → Owner}
    (hσ : s'.σ = s.σ) (howb : ow b ≠ .free) (htm : a'.tmps.size = a.tmps.size) (hdf : a'.defers = a.defers)
    (hel : s'.env.length = s.env.length) (hrl : s'.R.length = s.R.length)
    (henv : ∀ (i : Nat) (e : EV) (t : Tmp), s'.env[i]? = some e → C.slots[i]? = some t → ∃ x, a'.tmps[t]? = some x ∧ EVRel μ lim' w' ow' i e x)
    (hres : ∀ (j : Nat) (v : V) (t : Tmp), s'.R[j]? = some (some v) → C.dsts[j]? = some (some t) → ∃ x, a'.tmps[t]? = some x ∧ RelV μ lim' w' v x ∧ OwnV lim' w' ow' (.res j) v x)
    (hobj : ∀ (id b : Nat), alive s.σ id → μ[id]? = some b → ow' b = .free) (hfresh : ∀ b, w.heap.size ≤ b → ow' b = .free) (hold : ∀ b, b < C.w.heap.size → ow' b = .free) :
    FRel C μ lim' ow' s' a' w' := by
  have hb : C.w.heap.size ≤ b := by
    rcases Nat.lt_or_ge b C.w.heap.size with h1 | h1
    · exact absurd (h.owold b h1) howb
    · exact h1
  have hno : ∀ id, alive s.σ id → μ[id]? ≠ some b := fun id ha hm => howb (h.owobj id b ha hm)
  refine ⟨by rw [hσ]; exact ht.chg h.chg hb hno, by rw [hσ]; exact h.based, htm.trans h.tmps, hel.trans h.envlen, henv, hrl.trans h.reslen, hres, by rw [hσ]; exact hobj, ?_, hold, hdf.trans h.defers⟩
  intro c hc
  exact hfresh c (by rw [ht.size] at hc; exact hc)

theorem ownLeaf_touch {w lim b w' lim' ow ow' o o'} {v : V} {x : Value} (ht : Touch w lim b w' lim') (h : OwnLeaf lim w ow o v x) (hb : ow b ≠ o) (ho : ∀ c, ow c = o → ow' c = o') :
    OwnLeaf lim' w' ow' o' v x :=
  h.mono (fun c hc _ => by
    have hcb : c ≠ b := fun e => hb (by rw [← e]; exact hc)
    exact ⟨(ht.other c hcb).1, (ht.other c hcb).2, ho c hc⟩) (by rw [ht.size]; exact Nat.le_refl _)
theorem ownV_touch {w lim b w' lim' ow ow' o o'} {v : V} {x : Value} (ht : Touch w lim b w' lim') (h : OwnV lim w ow o v x) (hb : ow b ≠ o) (ho : ∀ c, ow c = o → ow' c = o') :
    OwnV lim' w' ow' o' v x :=
  h.mono (fun c hc _ => by
    have hcb : c ≠ b := fun e => hb (by rw [← e]; exact hc)
    exact ⟨(ht.other c hcb).1, (ht.other c hcb).2, ho c hc⟩) (by rw [ht.size]; exact Nat.le_refl _)

theorem evrel_touch {μ lim w ow ow' b w' lim'} {i : Nat} {e : EV} {x : Value} (ht : Touch w lim b w' lim') (h : EVRel μ lim w ow i e x)
    (hb : ow b ≠ .slot i ∧ ow b ≠ .box i ∧ ∀ k, ow b ≠ .cell i k)
    (ho : ∀ c, (ow c = .slot i ∨ ow c = .box i ∨ ∃ k, ow c = .cell i k) → ow' c = ow c) : EVRel μ lim' w' ow' i e x := by
  cases e with
  | v v => exact ⟨h.1.ext (ht.ext μ), ownV_touch ht h.2 hb.1 fun c hc => (ho c (.inl hc)).trans hc⟩
  | box cs =>
    obtain ⟨b1, c, t, r1, r2, r3, r4, r5, r6⟩ := h
    have hne : b1 ≠ b := fun e => hb.2.1 (by rw [← e]; exact r4)
    obtain ⟨k1, k2⟩ := ht.other b1 hne
    exact ⟨b1, c, t, r1, k1.trans r2, k2.trans r3, (ho b1 (.inr (.inl r4))).trans r4, r5.ext (ht.ext μ),
      fun k v y hv hy => ownLeaf_touch ht (r6 k v y hv hy) (hb.2.2 k) fun c hc => (ho c (.inr (.inr ⟨k, hc⟩))).trans hc⟩

/-! ## a box's cells are stored -/

theorem setCell_heap {w : World} {b o : Nat} {c : Array Value} {t : TypeId} {fr : Nat × Nat} (v : Value) (h : w.heap[b]? = some (.cells c t fr)) :
    (w.setCell ⟨b, o, none⟩ v).heap[b]? = some (.cells (c.setIfInBounds o v) t fr) := by
  simp only [World.setCell, Array.getElem?_modify, h, if_true, Option.map_some]
  rfl
theorem setCell_other {w : World} {b o : Nat} (v : Value) {d : Nat} (hd : d ≠ b) : (w.setCell ⟨b, o, none⟩ v).heap[d]? = w.heap[d]? := by
  simp only [World.setCell, Array.getElem?_modify]
  simp [Ne.symm hd]

theorem setCells_heap (b : Nat) : ∀ (vs : List Value) (o : Nat) (w : World) (c : Array Value) (t : TypeId) (fr : Nat × Nat), w.heap[b]? = some (.cells c t fr) → o + vs.length ≤ c.size →
    (∃ c' : Array Value, (w.setCells b o vs).heap[b]? = some (.cells c' t fr) ∧ c'.size = c.size ∧ (∀ k, c'[k]? = if o ≤ k ∧ k < o + vs.length then vs[k - o]? else c[k]?)) ∧
      (∀ d, d ≠ b → (w.setCells b o vs).heap[d]? = w.heap[d]?) ∧ (w.setCells b o vs).heap.size = w.heap.size ∧
      (w.setCells b o vs).os = w.os ∧ (w.setCells b o vs).tape = w.tape ∧ (w.setCells b o vs).output = w.output
  | [], o, w, c, t, fr, h, hl => ⟨⟨c, h, rfl, fun k => by rw [if_neg (by simp only [List.length_nil]; omega)]⟩, fun _ _ => rfl, rfl, rfl, rfl, rfl⟩
  | v :: vs, o, w, c, t, fr, h, hl => by
    obtain ⟨⟨c', h1, h2, h3⟩, h4, h5, h6, h7, h8⟩ := setCells_heap b vs (o + 1) (w.setCell ⟨b, o, none⟩ v) _ t fr (setCell_heap v h) (by simp at hl ⊢; omega)
    simp only [World.setCells]
    refine ⟨⟨c', h1, by rw [h2]; simp, ?_⟩, fun d hd => (h4 d hd).trans (setCell_other v hd), by rw [h5]; simp [World.setCell], h6, h7, h8⟩
    intro k
    rw [h3 k]
    simp only [List.length_cons] at hl ⊢
    by_cases hk : k = o
    · subst hk
      rw [if_neg (by omega), if_pos (by omega), Array.getElem?_setIfInBounds_self_of_lt (by omega)]
      simp
    · by_cases h9 : o + 1 ≤ k ∧ k < o + 1 + vs.length
      · rw [if_pos h9, if_pos (by omega), show k - o = (k - (o + 1)) + 1 by omega, List.getElem?_cons_succ]
      · rw [if_neg h9, if_neg (by omega), Array.getElem?_setIfInBounds_ne (by omega)]

theorem splice_get {cs xs : List V} {off : Nat} (h : off + xs.length ≤ cs.length) (k : Nat) :
    (splice cs off xs)[k]? = if off ≤ k ∧ k < off + xs.length then xs[k - off]? else cs[k]? := by
  unfold splice
  have h1 : (cs.take off).length = off := by simp; omega
  split
  · rename_i hk
    rw [List.append_assoc, List.getElem?_append_right (by omega), h1, List.getElem?_append_left (by omega)]
  · rename_i hk
    rcases Nat.lt_or_ge k off with h2 | h2
    · rw [List.append_assoc, List.getElem?_append_left (by omega), List.getElem?_take_of_lt h2]
    · rw [List.getElem?_append_right (by simp; omega), List.getElem?_drop]
      congr 1
      simp; omega
theorem splice_length {cs xs : List V} {off : Nat} (h : off + xs.length ≤ cs.length) : (splice cs off xs).length = cs.length := by
  unfold splice; simp; omega

theorem relVs_splice {μ lim w} {cs xs : List V} {c c' : Array Value} {vs : List Value} {off : Nat} (hc : RelVs μ lim w cs c.toList) (hx : RelVs μ lim w xs vs) (hl : off + xs.length ≤ cs.length)
    (hs : c'.size = c.size) (hg : ∀ k, c'[k]? = if off ≤ k ∧ k < off + vs.length then vs[k - off]? else c[k]?) : RelVs μ lim w (splice cs off xs) c'.toList := by
  have hlen := hx.length
  refine RelVs.of_get (by rw [splice_length hl, hc.length]; simp [hs]) fun k v y hv hy => ?_
  rw [splice_get hl] at hv
  rw [Array.getElem?_toList, hg k] at hy
  rw [hlen] at hv
  split at hv
  · rename_i hk; rw [if_pos hk] at hy; exact hx.get' hv hy
  · rename_i hk; rw [if_neg hk] at hy; exact hc.get' hv (by rw [Array.getElem?_toList]; exact hy)

theorem run_storeVar {P : Program} {w : World} {t : TypeId} {b o : Nat} {c : Array Value} {ty : TypeId} {fr : Nat × Nat} {X : Value} (hs : isSize P t X.cells.size = true) (hb : w.heap[b]? = some (.cells c ty fr))
    (hl : o + X.cells.size ≤ c.size) (hfr : ∀ k, w.frozen? ⟨b, k, none⟩ = false) (h1 : ∀ v ∈ X.cells.toList, v.oneCell' = true) :
    (Instr.storeAt t (.pointer (some ⟨b, o, none⟩)) X).run P w = .ok () (w.setCells b o X.cells.toList) := by
  have := run_storeCells_cells (P := P) b o X.cells.toList 0 w (fun j hj => by
    have : w.cell? ⟨b, o + 0 + j, none⟩ = some (c[o + j]'(by simp at hj; omega)) := by
      simp [World.cell?, hb]
    rw [this]; rfl) (fun j _ => hfr _) h1
  simp only [Instr.storeAt, Instr.sureAddr, Sem.run_bind, Sem.run_pure, Result.andThen_ok, storeVar, run_sizeOf hs]
  simpa using this
end Go.Ab

namespace Go.Ab
open Go

theorem oneCell_eq (v : Value) : v.oneCell' = v.oneCell := by cases v <;> rfl

/-- What a box's write does to the frame. src: whose leave goes along with what is stored (a region's own result), if it is one cell. -/
theorem FRel.storeBox {C : Ctx} {μ lim ow s a w} (h : FRel C μ lim ow s a w) {j off n : Nat} {cs xs : List V} (hj : s.env[j]? = some (.box cs))
    {t : Tmp} {b : Nat} {c : Array Value} {ty : TypeId} (ht : C.slots[j]? = some t) (hp : a.tmps[t]? = some (.pointer (some ⟨b, 0, none⟩))) (hb : w.heap[b]? = some (.cells c ty (0, 0)))
    {vs : List Value} (hx : RelVs μ lim w xs vs) (hn : xs.length = n) (hl : off + n ≤ cs.length) (src : Option Nat) {R' : List (Option V)} (hR : R'.length = s.R.length)
    (hRk : ∀ (k : Nat) (v : V), R'[k]? = some (some v) → (s.R[k]? = some (some v) ∧ src ≠ some k) ∨ (∃ u, s.R[k]? = some (some u) ∧ v = u.erase))
    (hown : ∀ (k : Nat) (v : V) (y : Value), xs[k]? = some v → vs[k]? = some y → (∃ r, src = some r ∧ n = 1 ∧ OwnLeaf lim w ow (.res r) v y) ∨ NilLeaf v y) :
    ∃ ow', FRel C μ lim ow' { s with env := s.env.set j (.box (splice cs off xs)), R := R' } a (w.setCells b off vs) := by
  obtain ⟨t', b', c', ty', h1, h2, h3, h4, h5, h6, h7⟩ := h.box hj
  rw [ht] at h1; cases h1
  rw [hp] at h2; cases h2
  rw [hb] at h3; cases h3
  have hcl : cs.length = c.size := by rw [h6.length]; simp
  have hvl : vs.length = n := by rw [← hx.length]; exact hn
  obtain ⟨⟨c2, k1, k2, k3⟩, k4, k5, k6, k7, k8⟩ := setCells_heap b vs off w c ty (0, 0) hb (by omega)
  have hbl : b < w.heap.size := (Array.getElem?_eq_some_iff.1 hb).1
  have htouch : Touch w lim b (w.setCells b off vs) lim := by
    refine ⟨k6, k7, k8, k5, fun d hd => ⟨k4 d hd, rfl⟩, ?_, hbl, fun o ho => by rw [h4] at ho; omega⟩
    unfold bsize; rw [k1, hb]; exact k2
  let ow' : Nat → Owner := fun d => match ow d with
    | .cell i k => if i = j ∧ off ≤ k ∧ k < off + n then .free else .cell i k
    | .res r => if src = some r then .cell j off else .res r
    | o => o
  have hfree : ∀ d, ow d = .free → ow' d = .free := fun d hd => by simp only [ow', hd]
  have hbox : ∀ d i, ow d = .box i → ow' d = .box i := fun d i hd => by simp only [ow', hd]
  have hslot : ∀ d i, ow d = .slot i → ow' d = .slot i := fun d i hd => by simp only [ow', hd]
  have hcell : ∀ d i k, ow d = .cell i k → ¬ (i = j ∧ off ≤ k ∧ k < off + n) → ow' d = .cell i k := fun d i k hd hn => by simp only [ow', hd]; rw [if_neg hn]
  have hres : ∀ d r, ow d = .res r → src ≠ some r → ow' d = .res r := fun d r hd hr => by simp only [ow', hd]; rw [if_neg hr]
  have hsrc : ∀ d r, ow d = .res r → src = some r → ow' d = .cell j off := fun d r hd hr => by simp only [ow', hd]; rw [if_pos hr]
  refine ⟨ow', h.touch htouch rfl (by rw [h5]; simp) rfl rfl (by simp) hR ?_ ?_ (fun id d ha hm => hfree d (h.owobj id d ha hm)) (fun d hd => hfree d (h.owfresh d hd)) (fun d hd => hfree d (h.owold d hd))⟩
  · intro i e u he hu
    simp only at he
    by_cases hij : i = j
    · subst hij
      rw [List.getElem?_set_self (List.getElem?_eq_some_iff.1 hj).1] at he
      cases he
      rw [ht] at hu; cases hu
      refine ⟨_, hp, b, c2, ty, rfl, k1, h4, hbox b i h5, (relVs_splice h6 hx (by omega) k2 k3).ext (htouch.ext μ) |> fun r => ?_, ?_⟩
      · exact RelVs.ext (htouch.ext μ) _ _ (relVs_splice h6 hx (by omega) k2 k3)
      · intro k v y hv hy
        rw [splice_get (by omega)] at hv
        rw [Array.getElem?_toList, k3 k] at hy
        rw [hvl] at hy
        split at hv
        · rename_i hk
          rw [hn] at hk
          rw [if_pos hk] at hy
          rcases hown _ v y hv hy with ⟨r, hr, hn1, ho⟩ | hnil
          · have hko : k = off := by omega
            subst hko
            exact ownLeaf_touch htouch ho (by rw [h5]; simp) fun d hd => hsrc d r hd hr
          · unfold OwnLeaf
            unfold NilLeaf at hnil
            split
            · simp at hnil
            · trivial
        · rename_i hk
          rw [hn] at hk
          rw [if_neg hk] at hy
          exact ownLeaf_touch htouch (h7 k v y hv (by rw [Array.getElem?_toList]; exact hy)) (by rw [h5]; simp) fun d hd => hcell d i k hd (fun e => hk ⟨e.2.1, e.2.2⟩)
    · rw [List.getElem?_set_ne (fun e => hij e.symm)] at he
      obtain ⟨y, hy, hr⟩ := h.env i e u he hu
      refine ⟨y, hy, evrel_touch htouch hr ⟨by rw [h5]; simp, by rw [h5]; simp; exact fun e => hij e.symm, fun k => by rw [h5]; simp⟩ ?_⟩
      rintro d (hd | hd | ⟨k, hd⟩)
      · rw [hslot d i hd, hd]
      · rw [hbox d i hd, hd]
      · rw [hcell d i k hd (fun e => hij e.1), hd]
  · intro k v u hv hu
    simp only at hv
    rcases hRk k v hv with ⟨hv', hk⟩ | ⟨v', hv', rfl⟩
    · obtain ⟨y, hy, r1, r2⟩ := h.res k v u hv' hu
      exact ⟨y, hy, r1.ext (htouch.ext μ), ownV_touch htouch r2 (by rw [h5]; simp) fun d hd => hres d k hd hk⟩
    · obtain ⟨y, hy, r1, _⟩ := h.res k v' u hv' hu
      exact ⟨y, hy, relV_erase.2 (r1.ext (htouch.ext μ)), ownV_erase⟩

/-- A new box. -/
theorem FRel.newBox {C : Ctx} {μ lim ow s a w} (hC : C.OK) (h : FRel C μ lim ow s a w) {d : Nat} {t : Tmp} (ht : C.slots[d]? = some t) {cs : List V} {c : Array Value} {ty : TypeId}
    (hx : RelVs μ lim w cs c.toList) (hnil : ∀ (k : Nat) (v : V) (y : Value), cs[k]? = some v → c.toList[k]? = some y → NilLeaf v y) :
    ∃ ow', FRel C μ lim ow' { s with env := s.env.set d (.box cs) } (a.put (some t) (.pointer (some ⟨w.heap.size, 0, none⟩))) (addObj w (.cells c ty (0, 0))) := by
  have hlim : (fun b => if b = w.heap.size then 0 else lim b) = lim := by
    funext b
    split
    · rename_i h1; rw [h.chg.wrel.fresh b (by omega)]
    · rfl
  have hc := chg_add h.chg.wrel (.cells c ty (0, 0)) 0
  rw [hlim] at hc
  have h1 := h.lift hc
  have hx1 := hc.ext h.chg.wrel
  have htm := hC.lt t (List.mem_of_getElem? ht)
  let ow' : Nat → Owner := fun b => if b = w.heap.size then .box d else clear ow (some d) 0 b
  have hne : ∀ b, ow b ≠ .free → b ≠ w.heap.size := fun b hb e => hb (h.owfresh b (by omega))
  have hfree : ∀ b, ow b = .free → b ≠ w.heap.size → ow' b = .free := fun b hb hn => by simp only [ow']; rw [if_neg hn]; exact clear_free hb
  refine ⟨ow', h1.chg, h1.based, by rw [put_size]; exact h1.tmps, by simp [h1.envlen], ?_, h1.reslen, ?_, ?_, ?_, ?_, by rw [put_defers]; exact h1.defers⟩
  · intro k e u he hu
    simp only at he
    by_cases hk : k = d
    · subst hk
      rw [hu] at ht; cases ht
      have hlen : k < s.env.length := by rw [h.envlen]; exact (List.getElem?_eq_some_iff.1 hu).1
      rw [List.getElem?_set_self hlen] at he
      cases he
      refine ⟨_, put_get_eq (by rw [h.tmps]; exact htm), w.heap.size, c, ty, rfl, addObj_new _ _, h.chg.wrel.fresh _ (Nat.le_refl _), by simp [ow'], RelVs.ext hx1 _ _ hx, ?_⟩
      intro k' v y hv hy
      have := hnil k' v y hv hy
      unfold OwnLeaf
      unfold NilLeaf at this
      split
      · simp at this
      · trivial
    · rw [List.getElem?_set_ne (fun e => hk e.symm)] at he
      obtain ⟨y, hy, hr⟩ := h1.env k e u he hu
      have hne' : some t ≠ some u := fun e => hk (by cases e; exact nodup_inj hC.nodup hu ht)
      refine ⟨y, by rw [put_get_ne hne']; exact hy, evrel_ow hr fun b hb => ?_⟩
      have hnf : ow b ≠ .free := by rcases hb with hb | hb | ⟨c, hb⟩ <;> rw [hb] <;> simp
      simp only [ow']
      rw [if_neg (hne b hnf), clear_env (by intro e; cases e; exact hk rfl) hb]
  · intro k v u hv hu
    obtain ⟨y, hy, r1, r2⟩ := h1.res k v u hv hu
    have hne' : some t ≠ some u := fun e => (hC.dlt k u hu).2 (by cases e; exact List.mem_of_getElem? ht)
    refine ⟨y, by rw [put_get_ne hne']; exact hy, r1, r2.mono (fun b hb _ => ⟨rfl, rfl, ?_⟩) (Nat.le_refl _)⟩
    simp only [ow']
    rw [if_neg (hne b (by rw [hb]; simp)), clear_res (by simp) hb, hb]
  · intro id b ha hm
    have hb := h.owobj id b ha hm
    exact hfree b hb (by have := h.chg.wrel.lt id b hm; omega)
  · intro b hb
    rw [addObj_size] at hb
    exact hfree b (h.owfresh b (by omega)) (by omega)
  · intro b hb
    exact hfree b (h.owold b hb) (by have := h.chg.size; omega)
end Go.Ab
