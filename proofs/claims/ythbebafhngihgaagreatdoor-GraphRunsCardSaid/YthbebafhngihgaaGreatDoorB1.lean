/- One frame of the program beside one of the abstract machine. No premise but those named. -/
import Derived.Test.YthbebafhngihgaaGreatDoorA6
namespace Go.Ab
open Go

/-- To whom a block belongs that the frame alone may write. -/
inductive Owner where
  | free
  | box (i : Nat)
  | cell (i k : Nat)
  | slot (i : Nat)
  | res (j : Nat)
  deriving DecidableEq

/-- What leave to append asks of the value in memory. -/
def OwnLeaf (lim : Nat → Nat) (w : World) (ow : Nat → Owner) (o : Owner) : V → Value → Prop
  | .slice .tail sz l, .slice (some a) n cap => cap = n ∨ (ow a.block = o ∧ a.block < w.heap.size ∧ lim a.block = a.off + l.length * sz ∧ a.off + cap * sz ≤ bsize w a.block ∧
      ∀ k, lim a.block ≤ k → w.frozen? ⟨a.block, k, none⟩ = false)
  | _, _ => True

/-- In a struct what may be appended to is nil. -/
def NilLeaf : V → Value → Prop
  | .slice .tail _ _, .slice (some _) _ _ => False
  | _, _ => True

def OwnV (lim : Nat → Nat) (w : World) (ow : Nat → Owner) (o : Owner) (v : V) (x : Value) : Prop :=
  match v, x with
  | .agg cs, .agg xs => ∀ (k : Nat) (v : V) (y : Value), cs[k]? = some v → xs.toList[k]? = some y → NilLeaf v y
  | v, x => OwnLeaf lim w ow o v x

/-- What is made anew. -/
def FreshLeaf (w : World) (lim' : Nat → Nat) (w' : World) : V → Value → Prop
  | .slice .tail sz l, .slice (some a) _ cap => w.heap.size ≤ a.block ∧ a.block < w'.heap.size ∧ lim' a.block = a.off + l.length * sz ∧ a.off + cap * sz ≤ bsize w' a.block ∧
      ∀ k, lim' a.block ≤ k → w'.frozen? ⟨a.block, k, none⟩ = false
  | _, _ => True

def FreshV (w : World) (lim' : Nat → Nat) (w' : World) (v : V) (x : Value) : Prop :=
  match v, x with
  | .agg cs, .agg xs => ∀ (k : Nat) (v : V) (y : Value), cs[k]? = some v → xs.toList[k]? = some y → NilLeaf v y
  | v, x => FreshLeaf w lim' w' v x

def EVRel (μ : List Nat) (lim : Nat → Nat) (w : World) (ow : Nat → Owner) (i : Nat) : EV → Value → Prop
  | .v v, x => RelV μ lim w v x ∧ OwnV lim w ow (.slot i) v x
  | .box cs, x => ∃ b c t, x = .pointer (some ⟨b, 0, none⟩) ∧ w.heap[b]? = some (.cells c t (0, 0)) ∧ lim b = 0 ∧ ow b = .box i ∧
      RelVs μ lim w cs c.toList ∧ ∀ (k : Nat) (v : V) (y : Value), cs[k]? = some v → c.toList[k]? = some y → OwnLeaf lim w ow (.cell i k) v y

/-- What is fixed while a call runs: the slots' temporaries, those of a region's own results, the state at the call's begin. -/
structure Ctx where
  slots : List Tmp
  dsts : List (Option Tmp)
  n : Nat
  μ : List Nat
  lim : Nat → Nat
  w : World
  σ : St

structure Ctx.OK (C : Ctx) : Prop where
  nodup : C.slots.Nodup
  lt : ∀ t ∈ C.slots, t < C.n
  dlt : ∀ (j t : Nat), C.dsts[j]? = some (some t) → t < C.n ∧ t ∉ C.slots
  dinj : ∀ (i j t : Nat), C.dsts[i]? = some (some t) → C.dsts[j]? = some (some t) → i = j

structure FRel (C : Ctx) (μ : List Nat) (lim : Nat → Nat) (ow : Nat → Owner) (s : FS) (a : Act) (w : World) : Prop where
  chg : Chg C.μ C.lim C.w C.σ μ lim w s.σ
  based : s.σ.base ≤ s.σ.objs.length
  tmps : a.tmps.size = C.n
  envlen : s.env.length = C.slots.length
  env : ∀ (i : Nat) (e : EV) (t : Tmp), s.env[i]? = some e → C.slots[i]? = some t → ∃ x, a.tmps[t]? = some x ∧ EVRel μ lim w ow i e x
  reslen : s.R.length = C.dsts.length
  res : ∀ (j : Nat) (v : V) (t : Tmp), s.R[j]? = some (some v) → C.dsts[j]? = some (some t) → ∃ x, a.tmps[t]? = some x ∧ RelV μ lim w v x ∧ OwnV lim w ow (.res j) v x
  owobj : ∀ (id b : Nat), alive s.σ id → μ[id]? = some b → ow b = .free
  owfresh : ∀ b, w.heap.size ≤ b → ow b = .free
  owold : ∀ b, b < C.w.heap.size → ow b = .free
  defers : a.defers = []

/-! ## what owners become -/

theorem OwnLeaf.mono {lim w ow lim' w' ow' o o'} {v : V} {x : Value} (h : OwnLeaf lim w ow o v x)
    (hb : ∀ b, ow b = o → b < w.heap.size → w'.heap[b]? = w.heap[b]? ∧ lim' b = lim b ∧ ow' b = o') (hs : w.heap.size ≤ w'.heap.size) : OwnLeaf lim' w' ow' o' v x := by
  unfold OwnLeaf at *
  split
  · rename_i sz l a n cap
    simp only at h
    rcases h with h | ⟨h1, h2, h3, h4, h5⟩
    · exact .inl h
    obtain ⟨k1, k2, k3⟩ := hb _ h1 h2
    refine .inr ⟨k3, by omega, k2.trans h3, by rw [bsize_congr k1]; exact h4, fun k hk => ?_⟩
    rw [frozen_congr k1]; exact h5 k (by rw [← k2]; exact hk)
  · trivial

theorem OwnV.mono {lim w ow lim' w' ow' o o'} {v : V} {x : Value} (h : OwnV lim w ow o v x)
    (hb : ∀ b, ow b = o → b < w.heap.size → w'.heap[b]? = w.heap[b]? ∧ lim' b = lim b ∧ ow' b = o') (hs : w.heap.size ≤ w'.heap.size) : OwnV lim' w' ow' o' v x := by
  unfold OwnV at *
  split
  · simpa using h
  · rename_i hne
    split at h
    · rename_i cs xs; exact (hne cs xs rfl rfl).elim
    · exact h.mono hb hs

theorem ownV_erase {lim w ow o} {v : V} {x : Value} : OwnV lim w ow o v.erase x := by
  cases v with
  | agg cs =>
    simp only [V.erase]
    cases x with
    | agg xs =>
      intro k v y hv hy
      simp only [List.getElem?_map, Option.map_eq_some_iff] at hv
      obtain ⟨u, _, rfl⟩ := hv
      cases u with
      | slice oo sz l => cases oo <;> simp [V.eraseLeaf, NilLeaf]
      | _ => simp [V.eraseLeaf, NilLeaf]
    | _ => trivial
  | slice oo sz l => cases oo <;> simp only [V.erase, V.eraseLeaf] <;> cases x <;> trivial
  | _ => simp only [V.erase, V.eraseLeaf]; cases x <;> trivial

theorem ownLeaf_erase {lim w ow o} {v : V} {x : Value} : OwnLeaf lim w ow o v.eraseLeaf x := by
  cases v with
  | slice oo sz l => cases oo <;> simp only [V.eraseLeaf] <;> cases x <;> trivial
  | _ => simp only [V.eraseLeaf]; cases x <;> trivial

/-- The frame alone owns what it owns: what a call or an operation changes elsewhere leaves the frame as it is. -/
theorem FRel.lift {C : Ctx} {μ lim ow s a w} (h : FRel C μ lim ow s a w) {μ' lim' w' σ'} (hc : Chg μ lim w s.σ μ' lim' w' σ') :
    FRel C μ' lim' ow { s with σ := σ' } a w' := by
  have hx := hc.ext h.chg.wrel
  have own : ∀ o b, ow b = o → o ≠ .free → b < w.heap.size → w'.heap[b]? = w.heap[b]? ∧ lim' b = lim b ∧ ow b = o := by
    intro o b hb ho hlt
    have hu : ¬ Unprot μ s.σ b := by
      rintro ⟨id, _, ha, hm⟩
      rw [h.owobj id b ha hm] at hb
      exact ho hb.symm
    obtain ⟨h1, h2⟩ := hc.keep b hlt hu
    exact ⟨h1, h2, hb⟩
  refine ⟨h.chg.trans hc, ?_, h.tmps, h.envlen, ?_, h.reslen, ?_, ?_, ?_, h.owold, h.defers⟩
  · show σ'.base ≤ σ'.objs.length
    rw [hc.base]; exact Nat.le_trans h.based hc.more
  · intro i e t he ht
    obtain ⟨x, hx1, hr⟩ := h.env i e t he ht
    refine ⟨x, hx1, ?_⟩
    cases e with
    | v v => exact ⟨hr.1.ext hx, hr.2.mono (fun b hb hl => own _ b hb (by simp) hl) hc.size⟩
    | box cs =>
      obtain ⟨b, c, t', r1, r2, r3, r4, r5, r6⟩ := hr
      have hlt : b < w.heap.size := (Array.getElem?_eq_some_iff.1 r2).1
      obtain ⟨k1, k2, _⟩ := own _ b r4 (by simp) hlt
      exact ⟨b, c, t', r1, k1.trans r2, k2.trans r3, r4, r5.ext hx, fun k v y hv hy => (r6 k v y hv hy).mono (fun b hb hl => own _ b hb (by simp) hl) hc.size⟩
  · intro j v t hv ht
    obtain ⟨x, hx1, h2, h3⟩ := h.res j v t hv ht
    exact ⟨x, hx1, h2.ext hx, h3.mono (fun b hb hl => own _ b hb (by simp) hl) hc.size⟩
  · intro id b ha hm
    by_cases hb : s.σ.base ≤ id
    · rcases hc.objs id b ha hb hm with h1 | ⟨id', _, ha', hm'⟩
      · exact h.owfresh b h1
      · exact h.owobj id' b ha' hm'
    · obtain ⟨o, ho, hd⟩ := ha
      have hp := hc.prot id (by omega)
      rw [hp] at ho
      have hlt : id < μ.length := by rw [h.chg.wrel.len]; exact (List.getElem?_eq_some_iff.1 ho).1
      have hm0 : μ[id]? = some μ[id] := List.getElem?_eq_getElem hlt
      have := hc.pre _ _ hm0
      rw [hm] at this
      cases this
      exact h.owobj id _ ⟨o, ho, hd⟩ hm0
  · exact fun b hb => h.owfresh b (Nat.le_trans hc.size hb)

/-- A block loses its owner, or changes him: those who don't own it stay. -/
theorem evrel_ow {μ lim w ow ow'} {i : Nat} {e : EV} {x : Value} (h : EVRel μ lim w ow i e x)
    (hk : ∀ b, (ow b = .slot i ∨ ow b = .box i ∨ ∃ k, ow b = .cell i k) → ow' b = ow b) : EVRel μ lim w ow' i e x := by
  cases e with
  | v v => exact ⟨h.1, h.2.mono (fun b hb _ => ⟨rfl, rfl, (hk b (.inl hb)).trans hb⟩) (Nat.le_refl _)⟩
  | box cs =>
    obtain ⟨b, c, t, r1, r2, r3, r4, r5, r6⟩ := h
    exact ⟨b, c, t, r1, r2, r3, (hk b (.inr (.inl r4))).trans r4, r5,
      fun k v y hv hy => (r6 k v y hv hy).mono (fun b hb _ => ⟨rfl, rfl, (hk b (.inr (.inr ⟨k, hb⟩))).trans hb⟩) (Nat.le_refl _)⟩

end Go.Ab
