/- What a step puts into a frame. No premise but those named. -/
import Derived.Test.YthbebafhngihgaaGreatDoorB1
namespace Go.Ab
open Go

/-- Where a result goes: a slot's temporary, or a region's own. -/
def dstOK (C : Ctx) (dst : Option Nat) (i : Nat) (od : Option Tmp) : Prop :=
  match dst with
  | some d => ∃ t, C.slots[d]? = some t ∧ od = some t
  | none => C.dsts[i]? = some od

def ownerOf (dst : Option Nat) (i : Nat) : Owner := match dst with
  | some d => .slot d
  | none => .res i

theorem put_tmps {a : Act} {od : Option Tmp} {X : Value} : (a.put od X).tmps = match od with | some t => a.tmps.setIfInBounds t X | none => a.tmps := by
  cases od <;> rfl
theorem put_defers {a : Act} {od : Option Tmp} {X : Value} : (a.put od X).defers = a.defers := by cases od <;> rfl
theorem put_size {a : Act} {od : Option Tmp} {X : Value} : (a.put od X).tmps.size = a.tmps.size := by cases od <;> simp [Act.put]
theorem put_get_ne {a : Act} {od : Option Tmp} {X : Value} {t : Tmp} (h : od ≠ some t) : (a.put od X).tmps[t]? = a.tmps[t]? := by
  cases od with
  | none => rfl
  | some u => simp only [Act.put]; exact Array.getElem?_setIfInBounds_ne (fun e => h (by rw [e]))
theorem put_get_eq {a : Act} {X : Value} {t : Tmp} (h : t < a.tmps.size) : (a.put (some t) X).tmps[t]? = some X := by
  simp only [Act.put]; rw [Array.getElem?_setIfInBounds_self_of_lt h]

theorem nodup_inj {l : List Nat} (h : l.Nodup) {i j t : Nat} (hi : l[i]? = some t) (hj : l[j]? = some t) : i = j := by
  obtain ⟨h1, e1⟩ := List.getElem?_eq_some_iff.1 hi
  obtain ⟨h2, e2⟩ := List.getElem?_eq_some_iff.1 hj
  have := List.pairwise_iff_getElem.1 h
  rcases Nat.lt_trichotomy i j with hlt | heq | hgt
  · exact absurd (e1.trans e2.symm) (this i j h1 h2 hlt)
  · exact heq
  · exact absurd (e2.trans e1.symm) (this j i h2 h1 hgt)

theorem FRel.put {C : Ctx} {μ lim ow s a w} (hC : C.OK) (h : FRel C μ lim ow s a w) {ow' : Nat → Owner} {x : V} {X : Value} {dst : Option Nat} {i : Nat} {od : Option Tmp}
    (hd : dstOK C dst i od) (hrel : RelV μ lim w x X) (hown : OwnV lim w ow' (ownerOf dst i) x X)
    (henv : ∀ (k : Nat) (e : EV) (y : Value), s.env[k]? = some e → dst ≠ some k → EVRel μ lim w ow k e y → EVRel μ lim w ow' k e y)
    (hres : ∀ (k : Nat) (v : V) (y : Value), s.R[k]? = some (some v) → ¬ (dst = none ∧ k = i) → OwnV lim w ow (.res k) v y → OwnV lim w ow' (.res k) v y)
    (hobj : ∀ (id b : Nat), alive s.σ id → μ[id]? = some b → ow' b = .free) (hfresh : ∀ b, w.heap.size ≤ b → ow' b = .free) (hold : ∀ b, b < C.w.heap.size → ow' b = .free) :
    FRel C μ lim ow' (s.put dst i x) (a.put od X) w := by
  cases dst with
  | some d =>
    obtain ⟨t, ht, rfl⟩ := hd
    have htm := hC.lt t (List.mem_of_getElem? ht)
    refine ⟨h.chg, h.based, by rw [put_size]; exact h.tmps, by simp [FS.put, h.envlen], ?_, h.reslen, ?_, hobj, hfresh, hold, by rw [put_defers]; exact h.defers⟩
    · intro k e u he hu
      simp only [FS.put] at he
      by_cases hk : k = d
      · subst hk
        rw [hu] at ht; cases ht
        have hlen : k < s.env.length := by rw [h.envlen]; exact (List.getElem?_eq_some_iff.1 hu).1
        rw [List.getElem?_set_self hlen] at he
        cases he
        exact ⟨X, put_get_eq (by rw [h.tmps]; exact htm), hrel, hown⟩
      · rw [List.getElem?_set_ne (fun e => hk e.symm)] at he
        obtain ⟨y, hy, hr⟩ := h.env k e u he hu
        have hne : some t ≠ some u := fun e => hk (by cases e; exact nodup_inj hC.nodup hu ht)
        exact ⟨y, by rw [put_get_ne hne]; exact hy, henv k e y he (fun e => hk (by cases e; rfl)) hr⟩
    · intro k v u hv hu
      simp only [FS.put] at hv
      obtain ⟨y, hy, h1, h2⟩ := h.res k v u hv hu
      have hne : some t ≠ some u := fun e => (hC.dlt k u hu).2 (by cases e; exact List.mem_of_getElem? ht)
      exact ⟨y, by rw [put_get_ne hne]; exact hy, h1, hres k v y hv (by simp) h2⟩
  | none =>
    simp only [dstOK] at hd
    refine ⟨h.chg, h.based, by rw [put_size]; exact h.tmps, by simp [FS.put, h.envlen], ?_, by simp [FS.put, h.reslen], ?_, hobj, hfresh, hold, by rw [put_defers]; exact h.defers⟩
    · intro k e u he hu
      simp only [FS.put] at he
      obtain ⟨y, hy, hr⟩ := h.env k e u he hu
      have hne : od ≠ some u := fun e => (hC.dlt i u (by rw [← e]; exact hd)).2 (List.mem_of_getElem? hu)
      exact ⟨y, by rw [put_get_ne hne]; exact hy, henv k e y he (by simp) hr⟩
    · intro k v u hv hu
      simp only [FS.put] at hv
      by_cases hk : k = i
      · subst hk
        rw [hd] at hu
        cases hu
        have hlen : k < s.R.length := by rw [h.reslen]; exact (List.getElem?_eq_some_iff.1 hd).1
        rw [List.getElem?_set_self hlen] at hv
        cases hv
        exact ⟨X, put_get_eq (by rw [h.tmps]; exact (hC.dlt k u hd).1), hrel, hown⟩
      · rw [List.getElem?_set_ne (fun e => hk e.symm)] at hv
        obtain ⟨y, hy, h1, h2⟩ := h.res k v u hv hu
        have hne : od ≠ some u := fun e => hk (hC.dinj k i u hu (by rw [← e]; exact hd))
        exact ⟨y, by rw [put_get_ne hne]; exact hy, h1, hres k v y hv (fun e => hk e.2) h2⟩

/-- What was the result's place is no one's any more. -/
def clear (ow : Nat → Owner) (dst : Option Nat) (i : Nat) : Nat → Owner := fun b =>
  match dst, ow b with
  | some d, .slot j => if j = d then .free else .slot j
  | some d, .box j => if j = d then .free else .box j
  | some d, .cell j k => if j = d then .free else .cell j k
  | none, .res j => if j = i then .free else .res j
  | _, o => o

/-- One block, or one owner's, goes to the result's place. -/
def give (ow : Nat → Owner) (dst : Option Nat) (i : Nat) (src : Option Owner) (β : Option Nat) : Nat → Owner := fun b =>
  if β = some b ∨ src = some (ow b) then ownerOf dst i else clear ow dst i b

theorem clear_env {ow : Nat → Owner} {dst i k} (hk : dst ≠ some k) {b : Nat} (h : ow b = .slot k ∨ ow b = .box k ∨ ∃ c, ow b = .cell k c) : clear ow dst i b = ow b := by
  unfold clear
  rcases h with h | h | ⟨c, h⟩ <;> rw [h] <;> cases dst <;> simp <;> intro e <;> exact absurd (by rw [e]) hk
theorem clear_res {ow : Nat → Owner} {dst i k} (hk : ¬ (dst = none ∧ k = i)) {b : Nat} (h : ow b = .res k) : clear ow dst i b = ow b := by
  unfold clear
  rw [h]; cases dst <;> simp
  intro e; exact absurd ⟨rfl, e⟩ hk
theorem clear_free {ow : Nat → Owner} {dst i} {b : Nat} (h : ow b = .free) : clear ow dst i b = .free := by
  unfold clear; rw [h]; cases dst <;> rfl

def newBlock : V → Value → Option Nat
  | .slice .tail _ _, .slice (some a) _ _ => some a.block
  | _, _ => none
theorem newBlock_spec {x : V} {X : Value} {b : Nat} (h : newBlock x X = some b) : ∃ sz l a n cap, x = .slice .tail sz l ∧ X = .slice (some a) n cap ∧ a.block = b := by
  unfold newBlock at h
  split at h
  · cases h; exact ⟨_, _, _, _, _, rfl, rfl, rfl⟩
  · cases h

/-- The result of an operation that takes nothing goes to its place; what it made anew is the frame's. -/
theorem FRel.put_fresh {C : Ctx} {μ lim ow s a w0} (hC : C.OK) (h0 : FRel C μ lim ow s a w0) {μ' lim' w σ'} (hc : Chg μ lim w0 s.σ μ' lim' w σ') {x : V} {X : Value}
    {dst : Option Nat} {i : Nat} {od : Option Tmp} (hd : dstOK C dst i od) (hrel : RelV μ' lim' w x X) (hf : FreshV w0 lim' w x X) (hno : ∀ sz l a n cap, x = .slice .tail sz l → X = .slice (some a) n cap → ∀ id, alive σ' id → μ'[id]? ≠ some a.block) :
    ∃ ow', FRel C μ' lim' ow' (({ s with σ := σ' } : FS).put dst i x) (a.put od X) w := by
  have h := h0.lift hc
  -- the block that is new, if there is one
  obtain ⟨β, hβ⟩ : ∃ β : Option Nat, β = newBlock x X := ⟨_, rfl⟩
  have hnew : ∀ b, β = some b → w0.heap.size ≤ b ∧ b < w.heap.size ∧ ∀ id, alive σ' id → μ'[id]? ≠ some b := by
    intro b hb
    rw [hβ] at hb
    obtain ⟨sz, l, a', n, cap, rfl, rfl, rfl⟩ := newBlock_spec hb
    have : FreshLeaf w0 lim' w (.slice .tail sz l) (.slice (some a') n cap) := hf
    exact ⟨this.1, this.2.1, hno sz l a' n cap rfl rfl⟩
  have hs0 : C.w.heap.size ≤ w0.heap.size := h0.chg.size
  refine ⟨give ow dst i none β, h.put hC hd hrel ?_ ?_ ?_ ?_ ?_ ?_⟩
  · -- the result's own leave
    unfold OwnV
    split
    · exact hf
    · rename_i hne
      have hf' : FreshLeaf w0 lim' w x X := by
        unfold FreshV at hf
        split at hf
        · rename_i cs xs; exact (hne cs xs rfl rfl).elim
        · exact hf
      unfold OwnLeaf
      split
      · rename_i sz l a n cap
        obtain ⟨_, h1, h2, h3, h4⟩ := hf'
        refine .inr ⟨?_, h1, h2, h3, h4⟩
        unfold give
        rw [if_pos (.inl (by rw [hβ]; rfl))]
      · trivial
  · intro k e y he hk hr
    refine evrel_ow hr fun b hb => ?_
    unfold give
    rw [if_neg, clear_env hk hb]
    rintro (h1 | h1)
    · have := h0.owfresh b (hnew b h1).1
      rcases hb with hb | hb | ⟨c, hb⟩ <;> rw [this] at hb <;> cases hb
    · cases h1
  · intro k v y hv hk hr
    refine hr.mono (fun b hb _ => ⟨rfl, rfl, ?_⟩) (Nat.le_refl _)
    unfold give
    rw [if_neg, clear_res hk hb, hb]
    rintro (h1 | h1)
    · have := h0.owfresh b (hnew b h1).1
      rw [this] at hb; cases hb
    · cases h1
  · intro id b ha hm
    unfold give
    rw [if_neg, clear_free (h.owobj id b ha hm)]
    rintro (h1 | h1)
    · exact (hnew b h1).2.2 id ha hm
    · cases h1
  · intro b hb
    unfold give
    rw [if_neg, clear_free (h.owfresh b hb)]
    rintro (h1 | h1)
    · have := (hnew b h1).2.1; omega
    · cases h1
  · intro b hb
    unfold give
    rw [if_neg, clear_free (h.owold b hb)]
    rintro (h1 | h1)
    · have := (hnew b h1).1; omega
    · cases h1
end Go.Ab
