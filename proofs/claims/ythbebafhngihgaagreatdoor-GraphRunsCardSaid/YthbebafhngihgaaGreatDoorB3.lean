/- Steps that take what they are given. No premise but those named. -/
import Derived.Test.YthbebafhngihgaaGreatDoorB2
namespace Go.Ab
open Go

theorem ownV_leaf {lim w ow o} {v : V} {x : Value} (h : OwnV lim w ow o v x) {lim' w' ow' o'} (hs : w.heap.size ≤ w'.heap.size)
    (hb : ∀ b, ow b = o → b < w.heap.size → w'.heap[b]? = w.heap[b]? ∧ lim' b = lim b ∧ ow' b = o') : OwnV lim' w' ow' o' v x := h.mono hb hs

theorem ownLeaf_erase' {lim w ow o} {v : V} {x : Value} : OwnLeaf lim w ow o v.erase x := by
  cases v with
  | slice oo sz l => cases oo <;> simp only [V.erase, V.eraseLeaf] <;> cases x <;> trivial
  | _ => simp only [V.erase, V.eraseLeaf]; cases x <;> trivial

/-- R[j], erased. -/
theorem FRel.eraseR {C : Ctx} {μ lim ow s a w} (h : FRel C μ lim ow s a w) {j : Nat} {x : V} (hj : s.R[j]? = some (some x)) :
    FRel C μ lim ow { s with R := s.R.set j (some x.erase) } a w := by
  refine ⟨h.chg, h.based, h.tmps, h.envlen, h.env, by simp [h.reslen], ?_, h.owobj, h.owfresh, h.owold, h.defers⟩
  intro k v t hv ht
  by_cases hk : k = j
  · subst hk
    simp only at hv
    rw [List.getElem?_set_self (List.getElem?_eq_some_iff.1 hj).1] at hv
    cases hv
    obtain ⟨y, hy, h1, _⟩ := h.res k x t hj ht
    exact ⟨y, hy, relV_erase.2 h1, ownV_erase⟩
  · simp only at hv
    rw [List.getElem?_set_ne (fun e => hk e.symm)] at hv
    exact h.res k v t hv ht

theorem FRel.eraseEnv {C : Ctx} {μ lim ow s a w} (h : FRel C μ lim ow s a w) {j : Nat} {x : V} (hj : s.env[j]? = some (.v x)) :
    FRel C μ lim ow { s with env := s.env.set j (.v x.erase) } a w := by
  refine ⟨h.chg, h.based, h.tmps, by simp [h.envlen], ?_, h.reslen, h.res, h.owobj, h.owfresh, h.owold, h.defers⟩
  intro k e t he ht
  by_cases hk : k = j
  · subst hk
    simp only at he
    rw [List.getElem?_set_self (List.getElem?_eq_some_iff.1 hj).1] at he
    cases he
    obtain ⟨y, hy, h1, _⟩ := h.env k _ t hj ht
    exact ⟨y, hy, relV_erase.2 h1, ownV_erase⟩
  · simp only at he
    rw [List.getElem?_set_ne (fun e => hk e.symm)] at he
    exact h.env k e t he ht

theorem give_free {ow : Nat → Owner} {dst i src} (hs : src ≠ .free) {b : Nat} (h : ow b = .free) : give ow dst i (some src) none b = .free := by
  unfold give
  rw [if_neg, clear_free h]
  rintro (h1 | h1)
  · cases h1
  · cases h1; exact hs h

/-- A block whose owner is asked for and isn't the source keeps him. -/
theorem give_env {ow : Nat → Owner} {dst i src k} (hk : dst ≠ some k) {b : Nat} (h : ow b = .slot k ∨ ow b = .box k ∨ ∃ c, ow b = .cell k c) (hs : src ≠ ow b) :
    give ow dst i (some src) none b = ow b := by
  unfold give
  rw [if_neg, clear_env hk h]
  rintro (h1 | h1)
  · cases h1
  · exact hs (Option.some.inj h1)
theorem give_res {ow : Nat → Owner} {dst i src k} (hk : ¬ (dst = none ∧ k = i)) {b : Nat} (h : ow b = .res k) (hs : src ≠ .res k) :
    give ow dst i (some src) none b = .res k := by
  unfold give
  rw [if_neg, clear_res hk h, h]
  rintro (h1 | h1)
  · cases h1
  · rw [h] at h1; exact hs (Option.some.inj h1)
theorem give_src {ow : Nat → Owner} {dst i src} {b : Nat} (h : ow b = src) : give ow dst i (some src) none b = ownerOf dst i := by
  unfold give; rw [if_pos (.inr (by rw [h]))]

theorem FRel.move {C : Ctx} {μ lim ow s a w} (hC : C.OK) (h : FRel C μ lim ow s a w) {j : Nat} {x : V} (hj : s.R[j]? = some (some x)) {t : Tmp} (ht : C.dsts[j]? = some (some t)) {X : Value}
    (hX : a.tmps[t]? = some X) {dst : Option Nat} {i : Nat} {od : Option Tmp} (hd : dstOK C dst i od) :
    FRel C μ lim (give ow dst i (some (.res j)) none) (({ s with R := s.R.set j (some x.erase) } : FS).put dst i x) (a.put od X) w := by
  obtain ⟨y, hy, h1, h2⟩ := h.res j x t hj ht
  rw [hX] at hy; cases hy
  refine (h.eraseR hj).put hC hd h1 ?_ ?_ ?_ ?_ ?_ ?_
  · exact h2.mono (fun b hb _ => ⟨rfl, rfl, give_src hb⟩) (Nat.le_refl _)
  · exact fun k e y he hk hr => evrel_ow hr fun b hb => give_env hk hb (by rcases hb with hb | hb | ⟨c, hb⟩ <;> rw [hb] <;> simp)
  · intro k v y hv hk hr
    by_cases hkj : k = j
    · subst hkj
      simp only at hv
      rw [List.getElem?_set_self (List.getElem?_eq_some_iff.1 hj).1] at hv
      cases hv
      exact ownV_erase
    · exact hr.mono (fun b hb _ => ⟨rfl, rfl, give_res hk hb (by simp; exact fun e => hkj e.symm)⟩) (Nat.le_refl _)
  · exact fun id b ha hm => give_free (by simp) (h.owobj id b ha hm)
  · exact fun b hb => give_free (by simp) (h.owfresh b hb)
  · exact fun b hb => give_free (by simp) (h.owold b hb)

theorem FRel.mvt {C : Ctx} {μ lim ow s a w} (hC : C.OK) (h : FRel C μ lim ow s a w) {j : Nat} {x : V} (hj : s.env[j]? = some (.v x)) {t : Tmp} (ht : C.slots[j]? = some t) {X : Value}
    (hX : a.tmps[t]? = some X) {dst : Option Nat} {i : Nat} {od : Option Tmp} (hd : dstOK C dst i od) :
    ∃ ow', FRel C μ lim ow' (({ s with env := s.env.set j (.v x.erase) } : FS).put dst i x) (a.put od X) w := by
  obtain ⟨y, hy, h1, h2⟩ := h.env j _ t hj ht
  rw [hX] at hy; cases hy
  refine ⟨give ow dst i (some (.slot j)) none, (h.eraseEnv hj).put hC hd h1 ?_ ?_ ?_ ?_ ?_ ?_⟩
  · exact h2.mono (fun b hb _ => ⟨rfl, rfl, give_src hb⟩) (Nat.le_refl _)
  · intro k e y he hk hr
    by_cases hkj : k = j
    · subst hkj
      simp only at he
      rw [List.getElem?_set_self (List.getElem?_eq_some_iff.1 hj).1] at he
      cases he
      exact ⟨hr.1, ownV_erase⟩
    · exact evrel_ow hr fun b hb => give_env hk hb (by rcases hb with hb | hb | ⟨c, hb⟩ <;> rw [hb] <;> simp <;> exact fun e => hkj e.symm)
  · exact fun k v y hv hk hr => hr.mono (fun b hb _ => ⟨rfl, rfl, give_res hk hb (by simp)⟩) (Nat.le_refl _)
  · exact fun id b ha hm => give_free (by simp) (h.owobj id b ha hm)
  · exact fun b hb => give_free (by simp) (h.owfresh b hb)
  · exact fun b hb => give_free (by simp) (h.owold b hb)

/-- A box's cells are loaded: what was there stays, without leave. -/
theorem FRel.box {C : Ctx} {μ lim ow s a w} (h : FRel C μ lim ow s a w) {j : Nat} {cs : List V} (hj : s.env[j]? = some (.box cs)) :
    ∃ t b c ty, C.slots[j]? = some t ∧ a.tmps[t]? = some (.pointer (some ⟨b, 0, none⟩)) ∧ w.heap[b]? = some (.cells c ty (0, 0)) ∧ lim b = 0 ∧ ow b = .box j ∧
      RelVs μ lim w cs c.toList ∧ ∀ (k : Nat) (v : V) (y : Value), cs[k]? = some v → c.toList[k]? = some y → OwnLeaf lim w ow (.cell j k) v y := by
  have hlt : j < C.slots.length := by rw [← h.envlen]; exact (List.getElem?_eq_some_iff.1 hj).1
  obtain ⟨y, hy, b, c, ty, h1, h2, h3, h4, h5, h6⟩ := h.env j _ _ hj (List.getElem?_eq_getElem hlt)
  rw [h1] at hy
  exact ⟨_, b, c, ty, List.getElem?_eq_getElem hlt, hy, h2, h3, h4, h5, h6⟩

theorem relVs_set {μ lim w} {cs : List V} {ys : List Value} (h : RelVs μ lim w cs ys) {k : Nat} {v : V} {y : Value} (hy : ys[k]? = some y) (hr : RelV μ lim w v y) : RelVs μ lim w (cs.set k v) ys :=
  RelVs.of_get (by simp [h.length]) fun i u x hu hx => by
    by_cases hk : i = k
    · subst hk
      rw [hy] at hx; cases hx
      rw [List.getElem?_set_self (by rw [h.length]; exact (List.getElem?_eq_some_iff.1 hy).1)] at hu
      cases hu; exact hr
    · rw [List.getElem?_set_ne (fun e => hk e.symm)] at hu
      exact h.get' hu hx

theorem FRel.takeBox {C : Ctx} {μ lim ow s a w} (hC : C.OK) (h : FRel C μ lim ow s a w) {j off : Nat} {cs : List V} {x : V} (hj : s.env[j]? = some (.box cs)) (hx : cs[off]? = some x)
    {b : Nat} {c : Array Value} {ty : TypeId} {t : Tmp} {X : Value} (ht : C.slots[j]? = some t) (hp : a.tmps[t]? = some (.pointer (some ⟨b, 0, none⟩))) (hb : w.heap[b]? = some (.cells c ty (0, 0))) (hX : c[off]? = some X)
    {dst : Option Nat} {i : Nat} {od : Option Tmp} (hd : dstOK C dst i od) (hne : dst ≠ some j) (hna : ∀ cs, x ≠ .agg cs) :
    ∃ ow', FRel C μ lim ow' (({ s with env := s.env.set j (.box (cs.set off x.erase)) } : FS).put dst i x) (a.put od X) w := by
  obtain ⟨t', b', c', ty', h1, h2, h3, h4, h5, h6, h7⟩ := h.box hj
  rw [ht] at h1; cases h1
  rw [hp] at h2; cases h2
  rw [hb] at h3; cases h3
  have hX' : c.toList[off]? = some X := by rw [Array.getElem?_toList]; exact hX
  have hrel := h6.get' hx hX'
  have hown := h7 off x X hx hX'
  -- the frame with the box's cell erased
  have hbase : FRel C μ lim ow { s with env := s.env.set j (.box (cs.set off x.erase)) } a w := by
    refine ⟨h.chg, h.based, h.tmps, by simp [h.envlen], ?_, h.reslen, h.res, h.owobj, h.owfresh, h.owold, h.defers⟩
    intro k e u he hu
    by_cases hk : k = j
    · subst hk
      simp only at he
      rw [List.getElem?_set_self (List.getElem?_eq_some_iff.1 hj).1] at he
      cases he
      rw [ht] at hu; cases hu
      refine ⟨_, hp, b, c, ty, rfl, hb, h4, h5, relVs_set h6 hX' (relV_erase.2 hrel), ?_⟩
      intro k' v y hv hy
      by_cases hk' : k' = off
      · subst hk'
        rw [List.getElem?_set_self (List.getElem?_eq_some_iff.1 hx).1] at hv
        cases hv
        exact ownLeaf_erase'
      · rw [List.getElem?_set_ne (fun e => hk' e.symm)] at hv
        exact h7 k' v y hv hy
    · simp only at he
      rw [List.getElem?_set_ne (fun e => hk e.symm)] at he
      exact h.env k e u he hu
  refine ⟨give ow dst i (some (.cell j off)) none, hbase.put hC hd hrel ?_ ?_ ?_ ?_ ?_ ?_⟩
  · unfold OwnV
    split
    · rename_i cs' xs'; exact absurd rfl (hna cs')
    · exact hown.mono (fun b hb _ => ⟨rfl, rfl, give_src hb⟩) (Nat.le_refl _)
  · intro k e y he hk hr
    by_cases hkj : k = j
    · subst hkj
      simp only at he
      rw [List.getElem?_set_self (List.getElem?_eq_some_iff.1 hj).1] at he
      cases he
      obtain ⟨b1, c1, ty1, r1, r2, r3, r4, r5, r6⟩ := hr
      refine ⟨b1, c1, ty1, r1, r2, r3, (give_env hk (.inr (.inl r4)) (by rw [r4]; simp)).trans r4, r5, ?_⟩
      intro k' v y hv hy
      by_cases hk' : k' = off
      · subst hk'
        rw [List.getElem?_set_self (List.getElem?_eq_some_iff.1 hx).1] at hv
        cases hv
        exact ownLeaf_erase'
      · exact (r6 k' v y hv hy).mono (fun b hb _ => ⟨rfl, rfl, (give_env hk (.inr (.inr ⟨k', hb⟩)) (by rw [hb]; simp; exact fun e => hk' e.symm)).trans hb⟩) (Nat.le_refl _)
    · exact evrel_ow hr fun b hb => give_env hk hb (by rcases hb with hb | hb | ⟨c, hb⟩ <;> rw [hb] <;> simp <;> intro e <;> exact absurd e.symm hkj)
  · exact fun k v y hv hk hr => hr.mono (fun b hb _ => ⟨rfl, rfl, give_res hk hb (by simp)⟩) (Nat.le_refl _)
  · exact fun id b ha hm => give_free (by simp) (h.owobj id b ha hm)
  · exact fun b hb => give_free (by simp) (h.owfresh b hb)
  · exact fun b hb => give_free (by simp) (h.owold b hb)
end Go.Ab
