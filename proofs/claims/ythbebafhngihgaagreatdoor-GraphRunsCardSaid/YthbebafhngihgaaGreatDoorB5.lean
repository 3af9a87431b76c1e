/- The steps that make boxes and store into them. No premise but those named. -/
import Derived.Test.YthbebafhngihgaaGreatDoorB4
namespace Go.Ab
open Go

theorem oneCell_eq (v : Value) : v.oneCell' = v.oneCell := by cases v <;> rfl

/-- What a box's write does to the frame. src: whose leave goes along with what is stored (a region's own result), if it is one cell. -/
theorem FRel.storeBox {C : Ctx} {μ lim ow s a w} (h : FRel C μ lim ow s a w) {j off n : Nat} {cs xs : List V} (hj : s.env[j]? = some (.box cs))
    {t : Tmp} {b : Nat} {c : Array Value} {ty : TypeId} (ht : C.slots[j]? = some t) (hp : a.tmps[t]? = some (.pointer (some ⟨b, 0, none⟩))) (hb : w.heap[b]? = some (.cells c ty (0, 0)))
    {vs : List Value} (hx : RelVs μ lim w xs vs) (hn : xs.length = n) (hl : off + n ≤ cs.length) (src : Option Nat) {R' : List (Option V)} (hR : R'.length = s.R.length)
    (hRk : ∀ (k : Nat) (v : V), R'[k]? = some (some v) → (s.R[k]? = some (some v) ∧ src ≠ some k) ∨ (∃ u, s.R[k]? = some (some u) ∧ v = u.erase))
    (hown : ∀ (k : Nat) (v : V) (y : Value), xs[k]? = some v → vs[k]? = some y → (∃ r, src = some r ∧ n = 1 ∧ OwnLeaf lim w ow (.res r) v y) ∨ NilLeaf v y) :
    ∃ ow', FRel C μ lim ow' { s with env := s.env.set j (.box (splice cs off xs)), R := R' } a (w.setCells b off vs) := by
  obtain ⟨t', b', c', ty', h1, h2, h3, h4, h5, h6, h7⟩ := h.box hj
  rw [ht] at h1; cases h1
  rw [hp] at h2; cases h2
  rw [hb] at h3; cases h3
  have hcl : cs.length = c.size := by rw [h6.length]; simp
  have hvl : vs.length = n := by rw [← hx.length]; exact hn
  obtain ⟨⟨c2, k1, k2, k3⟩, k4, k5, k6, k7, k8⟩ := setCells_heap b vs off w c ty (0, 0) hb (by omega)
  have hbl : b < w.heap.size := (Array.getElem?_eq_some_iff.1 hb).1
  have htouch : Touch w lim b (w.setCells b off vs) lim := by
    refine ⟨k6, k7, k8, k5, fun d hd => ⟨k4 d hd, rfl⟩, ?_, hbl, fun o ho => by rw [h4] at ho; omega⟩
    unfold bsize; rw [k1, hb]; exact k2
  let ow' : Nat → Owner := fun d => match ow d with
    | .cell i k => if i = j ∧ off ≤ k ∧ k < off + n then .free else .cell i k
    | .res r => if src = some r then .cell j off else .res r
    | o => o
  have hfree : ∀ d, ow d = .free → ow' d = .free := fun d hd => by simp only [ow', hd]
  have hbox : ∀ d i, ow d = .box i → ow' d = .box i := fun d i hd => by simp only [ow', hd]
  have hslot : ∀ d i, ow d = .slot i → ow' d = .slot i := fun d i hd => by simp only [ow', hd]
  have hcell : ∀ d i k, ow d = .cell i k → ¬ (i = j ∧ off ≤ k ∧ k < off + n) → ow' d = .cell i k := fun d i k hd hn => by simp only [ow', hd]; rw [if_neg hn]
  have hres : ∀ d r, ow d = .res r → src ≠ some r → ow' d = .res r := fun d r hd hr => by simp only [ow', hd]; rw [if_neg hr]
  have hsrc : ∀ d r, ow d = .res r → src = some r → ow' d = .cell j off := fun d r hd hr => by simp only [ow', hd]; rw [if_pos hr]
  refine ⟨ow', h.touch htouch rfl (by rw [h5]; simp) rfl rfl (by simp) hR ?_ ?_ (fun id d ha hm => hfree d (h.owobj id d ha hm)) (fun d hd => hfree d (h.owfresh d hd)) (fun d hd => hfree d (h.owold d hd))⟩
  · intro i e u he hu
    simp only at he
    by_cases hij : i = j
    · subst hij
      rw [List.getElem?_set_self (List.getElem?_eq_some_iff.1 hj).1] at he
      cases he
      rw [ht] at hu; cases hu
      refine ⟨_, hp, b, c2, ty, rfl, k1, h4, hbox b i h5, (relVs_splice h6 hx (by omega) k2 k3).ext (htouch.ext μ) |> fun r => ?_, ?_⟩
      · exact RelVs.ext (htouch.ext μ) _ _ (relVs_splice h6 hx (by omega) k2 k3)
      · intro k v y hv hy
        rw [splice_get (by omega)] at hv
        rw [Array.getElem?_toList, k3 k] at hy
        rw [hvl] at hy
        split at hv
        · rename_i hk
          rw [hn] at hk
          rw [if_pos hk] at hy
          rcases hown _ v y hv hy with ⟨r, hr, hn1, ho⟩ | hnil
          · have hko : k = off := by omega
            subst hko
            exact ownLeaf_touch htouch ho (by rw [h5]; simp) fun d hd => hsrc d r hd hr
          · unfold OwnLeaf
            unfold NilLeaf at hnil
            split
            · simp at hnil
            · trivial
        · rename_i hk
          rw [hn] at hk
          rw [if_neg hk] at hy
          exact ownLeaf_touch htouch (h7 k v y hv (by rw [Array.getElem?_toList]; exact hy)) (by rw [h5]; simp) fun d hd => hcell d i k hd (fun e => hk ⟨e.2.1, e.2.2⟩)
    · rw [List.getElem?_set_ne (fun e => hij e.symm)] at he
      obtain ⟨y, hy, hr⟩ := h.env i e u he hu
      refine ⟨y, hy, evrel_touch htouch hr ⟨by rw [h5]; simp, by rw [h5]; simp; exact fun e => hij e.symm, fun k => by rw [h5]; simp⟩ ?_⟩
      rintro d (hd | hd | ⟨k, hd⟩)
      · rw [hslot d i hd, hd]
      · rw [hbox d i hd, hd]
      · rw [hcell d i k hd (fun e => hij e.1), hd]
  · intro k v u hv hu
    simp only at hv
    rcases hRk k v hv with ⟨hv', hk⟩ | ⟨v', hv', rfl⟩
    · obtain ⟨y, hy, r1, r2⟩ := h.res k v u hv' hu
      exact ⟨y, hy, r1.ext (htouch.ext μ), ownV_touch htouch r2 (by rw [h5]; simp) fun d hd => hres d k hd hk⟩
    · obtain ⟨y, hy, r1, _⟩ := h.res k v' u hv' hu
      exact ⟨y, hy, relV_erase.2 (r1.ext (htouch.ext μ)), ownV_erase⟩

/-- A new box. -/
theorem FRel.newBox {C : Ctx} {μ lim ow s a w} (hC : C.OK) (h : FRel C μ lim ow s a w) {d : Nat} {t : Tmp} (ht : C.slots[d]? = some t) {cs : List V} {c : Array Value} {ty : TypeId}
    (hx : RelVs μ lim w cs c.toList) (hnil : ∀ (k : Nat) (v : V) (y : Value), cs[k]? = some v → c.toList[k]? = some y → NilLeaf v y) :
    ∃ ow', FRel C μ lim ow' { s with env := s.env.set d (.box cs) } (a.put (some t) (.pointer (some ⟨w.heap.size, 0, none⟩))) (addObj w (.cells c ty (0, 0))) := by
  have hlim : (fun b => if b = w.heap.size then 0 else lim b) = lim := by
    funext b
    split
    · rename_i h1; rw [h.chg.wrel.fresh b (by omega)]
    · rfl
  have hc := chg_add h.chg.wrel (.cells c ty (0, 0)) 0
  rw [hlim] at hc
  have h1 := h.lift hc
  have hx1 := hc.ext h.chg.wrel
  have htm := hC.lt t (List.mem_of_getElem? ht)
  let ow' : Nat → Owner := fun b => if b = w.heap.size then .box d else clear ow (some d) 0 b
  have hne : ∀ b, ow b ≠ .free → b ≠ w.heap.size := fun b hb e => hb (h.owfresh b (by omega))
  have hfree : ∀ b, ow b = .free → b ≠ w.heap.size → ow' b = .free := fun b hb hn => by simp only [ow']; rw [if_neg hn]; exact clear_free hb
  refine ⟨ow', h1.chg, h1.based, by rw [put_size]; exact h1.tmps, by simp [h1.envlen], ?_, h1.reslen, ?_, ?_, ?_, ?_, by rw [put_defers]; exact h1.defers⟩
  · intro k e u he hu
    simp only at he
    by_cases hk : k = d
    · subst hk
      rw [hu] at ht; cases ht
      have hlen : k < s.env.length := by rw [h.envlen]; exact (List.getElem?_eq_some_iff.1 hu).1
      rw [List.getElem?_set_self hlen] at he
      cases he
      refine ⟨_, put_get_eq (by rw [h.tmps]; exact htm), w.heap.size, c, ty, rfl, addObj_new _ _, h.chg.wrel.fresh _ (Nat.le_refl _), by simp [ow'], RelVs.ext hx1 _ _ hx, ?_⟩
      intro k' v y hv hy
      have := hnil k' v y hv hy
      unfold OwnLeaf
      unfold NilLeaf at this
      split
      · simp at this
      · trivial
    · rw [List.getElem?_set_ne (fun e => hk e.symm)] at he
      obtain ⟨y, hy, hr⟩ := h1.env k e u he hu
      have hne' : some t ≠ some u := fun e => hk (by cases e; exact nodup_inj hC.nodup hu ht)
      refine ⟨y, by rw [put_get_ne hne']; exact hy, evrel_ow hr fun b hb => ?_⟩
      have hnf : ow b ≠ .free := by rcases hb with hb | hb | ⟨c, hb⟩ <;> rw [hb] <;> simp
      simp only [ow']
      rw [if_neg (hne b hnf), clear_env (by intro e; cases e; exact hk rfl) hb]
  · intro k v u hv hu
    obtain ⟨y, hy, r1, r2⟩ := h1.res k v u hv hu
    have hne' : some t ≠ some u := fun e => (hC.dlt k u hu).2 (by cases e; exact List.mem_of_getElem? ht)
    refine ⟨y, by rw [put_get_ne hne']; exact hy, r1, r2.mono (fun b hb _ => ⟨rfl, rfl, ?_⟩) (Nat.le_refl _)⟩
    simp only [ow']
    rw [if_neg (hne b (by rw [hb]; simp)), clear_res (by simp) hb, hb]
  · intro id b ha hm
    have hb := h.owobj id b ha hm
    exact hfree b hb (by have := h.chg.wrel.lt id b hm; omega)
  · intro b hb
    rw [addObj_size] at hb
    exact hfree b (h.owfresh b (by omega)) (by omega)
  · intro b hb
    exact hfree b (h.owold b hb) (by have := h.chg.size; omega)
end Go.Ab
