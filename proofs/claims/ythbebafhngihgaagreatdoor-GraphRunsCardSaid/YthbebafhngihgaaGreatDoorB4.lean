/- Writes into blocks that the frame alone owns. No premise but those named. -/
import Derived.Test.YthbebafhngihgaaGreatDoorB3
namespace Go.Ab
open Go

/-- A world that differs from another in one block, which is no object's. -/
structure Touch (w : World) (lim : Nat → Nat) (b : Nat) (w' : World) (lim' : Nat → Nat) : Prop where
  os : w'.os = w.os
  tape : w'.tape = w.tape
  output : w'.output = w.output
  size : w'.heap.size = w.heap.size
  other : ∀ c, c ≠ b → w'.heap[c]? = w.heap[c]? ∧ lim' c = lim c
  bsz : bsize w' b = bsize w b
  lt : b < w.heap.size
  imm : ∀ o, o < lim b → o < lim' b ∧ w'.cell? ⟨b, o, none⟩ = w.cell? ⟨b, o, none⟩

theorem Touch.ext {w lim b w' lim'} (h : Touch w lim b w' lim') (μ : List Nat) : Ext μ lim w μ lim' w' where
  pre _ _ x := x
  imm c o ho := by
    by_cases hc : c = b
    · subst hc; exact h.imm o ho
    · obtain ⟨h1, h2⟩ := h.other c hc
      exact ⟨by rw [h2]; exact ho, cell_congr h1 o⟩
  size c := by
    by_cases hc : c = b
    · subst hc; rw [h.bsz]; exact Nat.le_refl _
    · rw [bsize_congr (h.other c hc).1]; exact Nat.le_refl _

theorem Touch.chg {μ0 lim0 w0 σ0 μ lim w σ b w' lim'} (h : Touch w lim b w' lim') (hc : Chg μ0 lim0 w0 σ0 μ lim w σ) (hb : w0.heap.size ≤ b)
    (hno : ∀ id, alive σ id → μ[id]? ≠ some b) : Chg μ0 lim0 w0 σ0 μ lim' w' σ := by
  have hx := h.ext μ
  refine ⟨h.os.trans hc.os, h.tape.trans hc.tape, h.output.trans hc.output, by rw [h.size]; exact hc.size, hc.pre, ?_, ?_, hc.objs, hc.base, hc.prot, hc.more, hc.globs, ?_⟩
  · intro c hlt hu
    obtain ⟨h1, h2⟩ := hc.keep c hlt hu
    obtain ⟨h3, h4⟩ := h.other c (by omega)
    exact ⟨h3.trans h1, h4.trans h2⟩
  · exact fun c hlt => Nat.le_trans (hc.bsz c hlt) (hx.size c)
  · refine ⟨hc.wrel.len, fun id c hm => by rw [h.size]; exact hc.wrel.lt id c hm, hc.wrel.inj, ?_, ?_, glob_keep hc.wrel.glob fun p hp _ _ => by
      have h1 := hc.globs p hp
      have h2 := h.other p.1 (by omega)
      exact h2⟩
    · intro id c o ho hm
      by_cases hd : o = .dead
      · subst hd; trivial
      · have hcb : c ≠ b := fun e => hno id ⟨o, ho, hd⟩ (by rw [← e]; exact hm)
        obtain ⟨h1, h2⟩ := h.other c hcb
        exact (hc.wrel.obj id c o ho hm).ext hx h1 h2
    · intro c hc'
      rw [h.size] at hc'
      have hcb : c ≠ b := by have := h.lt; omega
      rw [(h.other c hcb).2]
      exact hc.wrel.fresh c hc'

/-- The frame under a write into a block that it owns: each entry that doesn't hang on the block stays. -/
theorem FRel.touch {C : Ctx} {μ lim ow s a w} (h : FRel C μ lim ow s a w) {b : Nat} {w' : World} {lim' : Nat → Nat} (ht : Touch w lim b w' lim') {s' : FS} {a' : Act} {ow' : Nat → Owner}
    (hσ : s'.σ = s.σ) (howb : ow b ≠ .free) (htm : a'.tmps.size = a.tmps.size) (hdf : a'.defers = a.defers)
    (hel : s'.env.length = s.env.length) (hrl : s'.R.length = s.R.length)
    (henv : ∀ (i : Nat) (e : EV) (t : Tmp), s'.env[i]? = some e → C.slots[i]? = some t → ∃ x, a'.tmps[t]? = some x ∧ EVRel μ lim' w' ow' i e x)
    (hres : ∀ (j : Nat) (v : V) (t : Tmp), s'.R[j]? = some (some v) → C.dsts[j]? = some (some t) → ∃ x, a'.tmps[t]? = some x ∧ RelV μ lim' w' v x ∧ OwnV lim' w' ow' (.res j) v x)
    (hobj : ∀ (id b : Nat), alive s.σ id → μ[id]? = some b → ow' b = .free) (hfresh : ∀ b, w.heap.size ≤ b → ow' b = .free) (hold : ∀ b, b < C.w.heap.size → ow' b = .free) :
    FRel C μ lim' ow' s' a' w' := by
  have hb : C.w.heap.size ≤ b := by
    rcases Nat.lt_or_ge b C.w.heap.size with h1 | h1
    · exact absurd (h.owold b h1) howb
    · exact h1
  have hno : ∀ id, alive s.σ id → μ[id]? ≠ some b := fun id ha hm => howb (h.owobj id b ha hm)
  refine ⟨by rw [hσ]; exact ht.chg h.chg hb hno, by rw [hσ]; exact h.based, htm.trans h.tmps, hel.trans h.envlen, henv, hrl.trans h.reslen, hres, by rw [hσ]; exact hobj, ?_, hold, hdf.trans h.defers⟩
  intro c hc
  exact hfresh c (by rw [ht.size] at hc; exact hc)

theorem ownLeaf_touch {w lim b w' lim' ow ow' o o'} {v : V} {x : Value} (ht : Touch w lim b w' lim') (h : OwnLeaf lim w ow o v x) (hb : ow b ≠ o) (ho : ∀ c, ow c = o → ow' c = o') :
    OwnLeaf lim' w' ow' o' v x :=
  h.mono (fun c hc _ => by
    have hcb : c ≠ b := fun e => hb (by rw [← e]; exact hc)
    exact ⟨(ht.other c hcb).1, (ht.other c hcb).2, ho c hc⟩) (by rw [ht.size]; exact Nat.le_refl _)
theorem ownV_touch {w lim b w' lim' ow ow' o o'} {v : V} {x : Value} (ht : Touch w lim b w' lim') (h : OwnV lim w ow o v x) (hb : ow b ≠ o) (ho : ∀ c, ow c = o → ow' c = o') :
    OwnV lim' w' ow' o' v x :=
  h.mono (fun c hc _ => by
    have hcb : c ≠ b := fun e => hb (by rw [← e]; exact hc)
    exact ⟨(ht.other c hcb).1, (ht.other c hcb).2, ho c hc⟩) (by rw [ht.size]; exact Nat.le_refl _)

theorem evrel_touch {μ lim w ow ow' b w' lim'} {i : Nat} {e : EV} {x : Value} (ht : Touch w lim b w' lim') (h : EVRel μ lim w ow i e x)
    (hb : ow b ≠ .slot i ∧ ow b ≠ .box i ∧ ∀ k, ow b ≠ .cell i k)
    (ho : ∀ c, (ow c = .slot i ∨ ow c = .box i ∨ ∃ k, ow c = .cell i k) → ow' c = ow c) : EVRel μ lim' w' ow' i e x := by
  cases e with
  | v v => exact ⟨h.1.ext (ht.ext μ), ownV_touch ht h.2 hb.1 fun c hc => (ho c (.inl hc)).trans hc⟩
  | box cs =>
    obtain ⟨b1, c, t, r1, r2, r3, r4, r5, r6⟩ := h
    have hne : b1 ≠ b := fun e => hb.2.1 (by rw [← e]; exact r4)
    obtain ⟨k1, k2⟩ := ht.other b1 hne
    exact ⟨b1, c, t, r1, k1.trans r2, k2.trans r3, (ho b1 (.inr (.inl r4))).trans r4, r5.ext (ht.ext μ),
      fun k v y hv hy => ownLeaf_touch ht (r6 k v y hv hy) (hb.2.2 k) fun c hc => (ho c (.inr (.inr ⟨k, hc⟩))).trans hc⟩

/-! ## a box's cells are stored -/

theorem setCell_heap {w : World} {b o : Nat} {c : Array Value} {t : TypeId} {fr : Nat × Nat} (v : Value) (h : w.heap[b]? = some (.cells c t fr)) :
    (w.setCell ⟨b, o, none⟩ v).heap[b]? = some (.cells (c.setIfInBounds o v) t fr) := by
  simp only [World.setCell, Array.getElem?_modify, h, if_true, Option.map_some]
  rfl
theorem setCell_other {w : World} {b o : Nat} (v : Value) {d : Nat} (hd : d ≠ b) : (w.setCell ⟨b, o, none⟩ v).heap[d]? = w.heap[d]? := by
  simp only [World.setCell, Array.getElem?_modify]
  simp [Ne.symm hd]

theorem setCells_heap (b : Nat) : ∀ (vs : List Value) (o : Nat) (w : World) (c : Array Value) (t : TypeId) (fr : Nat × Nat), w.heap[b]? = some (.cells c t fr) → o + vs.length ≤ c.size →
    (∃ c' : Array Value, (w.setCells b o vs).heap[b]? = some (.cells c' t fr) ∧ c'.size = c.size ∧ (∀ k, c'[k]? = if o ≤ k ∧ k < o + vs.length then vs[k - o]? else c[k]?)) ∧
      (∀ d, d ≠ b → (w.setCells b o vs).heap[d]? = w.heap[d]?) ∧ (w.setCells b o vs).heap.size = w.heap.size ∧
      (w.setCells b o vs).os = w.os ∧ (w.setCells b o vs).tape = w.tape ∧ (w.setCells b o vs).output = w.output
  | [], o, w, c, t, fr, h, hl => ⟨⟨c, h, rfl, fun k => by rw [if_neg (by simp only [List.length_nil]; omega)]⟩, fun _ _ => rfl, rfl, rfl, rfl, rfl⟩
  | v :: vs, o, w, c, t, fr, h, hl => by
    obtain ⟨⟨c', h1, h2, h3⟩, h4, h5, h6, h7, h8⟩ := setCells_heap b vs (o + 1) (w.setCell ⟨b, o, none⟩ v) _ t fr (setCell_heap v h) (by simp at hl ⊢; omega)
    simp only [World.setCells]
    refine ⟨⟨c', h1, by rw [h2]; simp, ?_⟩, fun d hd => (h4 d hd).trans (setCell_other v hd), by rw [h5]; simp [World.setCell], h6, h7, h8⟩
    intro k
    rw [h3 k]
    simp only [List.length_cons] at hl ⊢
    by_cases hk : k = o
    · subst hk
      rw [if_neg (by omega), if_pos (by omega), Array.getElem?_setIfInBounds_self_of_lt (by omega)]
      simp
    · by_cases h9 : o + 1 ≤ k ∧ k < o + 1 + vs.length
      · rw [if_pos h9, if_pos (by omega), show k - o = (k - (o + 1)) + 1 by omega, List.getElem?_cons_succ]
      · rw [if_neg h9, if_neg (by omega), Array.getElem?_setIfInBounds_ne (by omega)]

theorem splice_get {cs xs : List V} {off : Nat} (h : off + xs.length ≤ cs.length) (k : Nat) :
    (splice cs off xs)[k]? = if off ≤ k ∧ k < off + xs.length then xs[k - off]? else cs[k]? := by
  unfold splice
  have h1 : (cs.take off).length = off := by simp; omega
  split
  · rename_i hk
    rw [List.append_assoc, List.getElem?_append_right (by omega), h1, List.getElem?_append_left (by omega)]
  · rename_i hk
    rcases Nat.lt_or_ge k off with h2 | h2
    · rw [List.append_assoc, List.getElem?_append_left (by omega), List.getElem?_take_of_lt h2]
    · rw [List.getElem?_append_right (by simp; omega), List.getElem?_drop]
      congr 1
      simp; omega
theorem splice_length {cs xs : List V} {off : Nat} (h : off + xs.length ≤ cs.length) : (splice cs off xs).length = cs.length := by
  unfold splice; simp; omega

theorem relVs_splice {μ lim w} {cs xs : List V} {c c' : Array Value} {vs : List Value} {off : Nat} (hc : RelVs μ lim w cs c.toList) (hx : RelVs μ lim w xs vs) (hl : off + xs.length ≤ cs.length)
    (hs : c'.size = c.size) (hg : ∀ k, c'[k]? = if off ≤ k ∧ k < off + vs.length then vs[k - off]? else c[k]?) : RelVs μ lim w (splice cs off xs) c'.toList := by
  have hlen := hx.length
  refine RelVs.of_get (by rw [splice_length hl, hc.length]; simp [hs]) fun k v y hv hy => ?_
  rw [splice_get hl] at hv
  rw [Array.getElem?_toList, hg k] at hy
  rw [hlen] at hv
  split at hv
  · rename_i hk; rw [if_pos hk] at hy; exact hx.get' hv hy
  · rename_i hk; rw [if_neg hk] at hy; exact hc.get' hv (by rw [Array.getElem?_toList]; exact hy)

theorem run_storeVar {P : Program} {w : World} {t : TypeId} {b o : Nat} {c : Array Value} {ty : TypeId} {fr : Nat × Nat} {X : Value} (hs : isSize P t X.cells.size = true) (hb : w.heap[b]? = some (.cells c ty fr))
    (hl : o + X.cells.size ≤ c.size) (hfr : ∀ k, w.frozen? ⟨b, k, none⟩ = false) (h1 : ∀ v ∈ X.cells.toList, v.oneCell' = true) :
    (Instr.storeAt t (.pointer (some ⟨b, o, none⟩)) X).run P w = .ok () (w.setCells b o X.cells.toList) := by
  have := run_storeCells_cells (P := P) b o X.cells.toList 0 w (fun j hj => by
    have : w.cell? ⟨b, o + 0 + j, none⟩ = some (c[o + j]'(by simp at hj; omega)) := by
      simp [World.cell?, hb]
    rw [this]; rfl) (fun j _ => hfr _) h1
  simp only [Instr.storeAt, Instr.sureAddr, Sem.run_bind, Sem.run_pure, Result.andThen_ok, storeVar, run_sizeOf hs]
  simpa using this
end Go.Ab
