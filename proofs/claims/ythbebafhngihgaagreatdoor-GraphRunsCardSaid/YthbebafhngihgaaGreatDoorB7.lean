/- Append, and what else makes a row. No premise but those named. -/
import Derived.Test.YthbebafhngihgaaGreatDoorB6
namespace Go.Ab
open Go

section
variable {P : Program} {μ : List Nat} {lim : Nat → Nat} {w : World} {σ : St}

/-- Worlds with the same memory. -/
theorem ext_heap {w' : World} (h : w'.heap = w.heap) : Ext μ lim w μ lim w' :=
  ⟨fun _ _ x => x, fun _ o ho => ⟨ho, cell_congr (by rw [h]) o⟩, fun b => by rw [bsize_congr (w := w) (w' := w') (by rw [h])]; exact Nat.le_refl _⟩
theorem chg_heap (hw : WRel μ lim w σ) {w' : World} (h : w'.heap = w.heap) (hos : w'.os = w.os) (ht : w'.tape = w.tape) (hout : w'.output = w.output) : Chg μ lim w σ μ lim w' σ :=
  ⟨hos, ht, hout, by rw [h]; exact Nat.le_refl _, fun _ _ x => x, fun b _ _ => ⟨by rw [h], rfl⟩, fun b _ => (ext_heap (μ := μ) (lim := lim) h).size b,
   fun id b ha hb hm => .inr ⟨id, hb, ha, hm⟩, rfl, fun _ _ => rfl, Nat.le_refl _, fun _ hp => hw.glob_lt hp,
   ⟨hw.len, fun id b hm => by rw [h]; exact hw.lt id b hm, hw.inj, fun id b o ho hm => (hw.obj id b o ho hm).ext (ext_heap h) (by rw [h]) rfl, fun b hb => hw.fresh b (by rw [h] at hb; exact hb), glob_keep hw.glob fun _ _ _ _ => ⟨by rw [h], rfl⟩⟩⟩

/-- A row of values in a new block. -/
theorem relL_new {b : Nat} {c : Array Value} {ty : TypeId} {fr : Nat × Nat} {cs : List V} {xs : List Value} (hb : w.heap[b]? = some (.cells c ty fr)) (hr : RelVs μ lim w cs xs)
    (h1 : ∀ v ∈ xs, v.oneCell = true) (o : Nat) (hc : ∀ k, k < xs.length → c[o + k]? = xs[k]?) (hl : o + cs.length ≤ lim b) : RelL μ lim w b o cs := by
  refine RelL.of_get fun k v hv => ?_
  have hk : k < cs.length := (List.getElem?_eq_some_iff.1 hv).1
  obtain ⟨x, hx, hrx⟩ := hr.get hv
  refine ⟨by omega, x, ?_, hrx, h1 x (List.mem_of_getElem? hx)⟩
  have := hc k (List.getElem?_eq_some_iff.1 hx).1
  rw [hx] at this
  simp [World.cell?, hb, this]

theorem frozen_row {b k : Nat} {c : Array Value} {ty : TypeId} (h : w.heap[b]? = some (.cells c ty (0, 0))) : w.frozen? ⟨b, k, none⟩ = false := by
  simp [World.frozen?, h]

/-- The row that a growing append makes. -/
theorem fresh_row (hw : WRel μ lim w σ) {l : List (List V)} {xs : List Value} {sz cap : Nat} {rest : Array Value} {e : TypeId} (hr : RelVs μ lim w l.flatten xs) (h1 : ∀ v ∈ xs, v.oneCell = true)
    (hs : ∀ cs ∈ l, cs.length = sz) (hl : l.flatten.length = l.length * sz) (hle : l.length ≤ cap) (hcap : cap < 2 ^ 63) (hrest : rest.size = (cap - l.length) * sz) (o : Own) (ho : o = .shut → cap = l.length) :
    let lim' : Nat → Nat := fun b => if b = w.heap.size then l.length * sz else lim b
    let w' := addObj w (.cells (xs.toArray ++ rest) e (0, 0))
    Chg μ lim w σ μ lim' w' σ ∧ RelV μ lim' w' (.slice o sz l) (.slice (some ⟨w.heap.size, 0, none⟩) l.length cap) ∧
      FreshV w lim' w' (.slice .tail sz l) (.slice (some ⟨w.heap.size, 0, none⟩) l.length cap) := by
  intro lim' w'
  have hc := chg_add hw (.cells (xs.toArray ++ rest) e (0, 0)) (l.length * sz)
  have hx := hc.ext hw
  have hxl := hr.length
  have hb : w'.heap[w.heap.size]? = some (.cells (xs.toArray ++ rest) e (0, 0)) := addObj_new _ _
  have hlim : lim' w.heap.size = l.length * sz := by simp [lim']
  refine ⟨hc, ?_, ?_⟩
  · unfold RelV
    refine ⟨some ⟨w.heap.size, 0, none⟩, cap, rfl, ⟨hle, ho⟩, hcap, rfl, RelLL.of_flat hs ?_⟩
    refine relL_new hb (RelVs.ext hx _ _ hr) h1 0 (fun k hk => ?_) (by show 0 + l.flatten.length ≤ lim' w.heap.size; rw [hlim]; omega)
    rw [Nat.zero_add, Array.getElem?_append_left (by simpa using hk)]
    simp
  · refine ⟨Nat.le_refl _, by show w.heap.size < w'.heap.size; simp only [w', addObj_size]; omega, by show lim' w.heap.size = _; rw [hlim]; simp, ?_, fun k _ => frozen_row hb⟩
    have : bsize w' w.heap.size = xs.length + rest.size := by unfold bsize; rw [hb]; simp
    show 0 + cap * sz ≤ bsize w' w.heap.size
    rw [this, hrest, ← hxl, hl, ← Nat.add_mul]
    exact Nat.le_of_eq (by rw [Nat.zero_add]; congr 1; omega)
end

/-- What lies at the result's place grows: a write into its own row. -/
theorem FRel.regrow {C : Ctx} {μ : List Nat} {lim : Nat → Nat} {ow : Nat → Owner} {s : FS} {a : Act} {w : World} (hC : C.OK) {dst : Option Nat} {i : Nat} {od : Option Tmp} {x x' : V} {X X' : Value} (h : FRel C μ lim ow (s.put dst i x) (a.put od X) w) (hd : dstOK C dst i od)
    {b : Nat} (hb : ow b = ownerOf dst i) {w' : World} {lim' : Nat → Nat} (ht : Touch w lim b w' lim') (hrel : RelV μ lim' w' x' X') (hown : OwnV lim' w' ow (ownerOf dst i) x' X') :
    FRel C μ lim' ow (s.put dst i x') (a.put od X') w' := by
  cases dst with
  | some d =>
    obtain ⟨t, htd, rfl⟩ := hd
    have htm := hC.lt t (List.mem_of_getElem? htd)
    have hsize : a.tmps.size = C.n := by rw [← put_size (od := some t) (X := X)]; exact h.tmps
    have hel : s.env.length = C.slots.length := by have := h.envlen; simpa [FS.put] using this
    refine h.touch ht rfl (by rw [hb]; simp [ownerOf]) (by rw [put_size, put_size]) (by rw [put_defers, put_defers]) (by simp [FS.put]) rfl ?_ ?_ h.owobj h.owfresh h.owold
    · intro k e u he hu
      simp only [FS.put] at he
      by_cases hk : k = d
      · subst hk
        rw [htd] at hu; cases hu
        have hlen : k < s.env.length := by rw [hel]; exact (List.getElem?_eq_some_iff.1 htd).1
        rw [List.getElem?_set_self hlen] at he
        cases he
        exact ⟨X', put_get_eq (by rw [hsize]; exact htm), hrel, hown⟩
      · rw [List.getElem?_set_ne (fun e => hk e.symm)] at he
        obtain ⟨y, hy, hr⟩ := h.env k e u (by simp only [FS.put]; rw [List.getElem?_set_ne (fun e => hk e.symm)]; exact he) hu
        have hne : some t ≠ some u := fun e => hk (by cases e; exact nodup_inj hC.nodup hu htd)
        rw [put_get_ne hne] at hy
        refine ⟨y, by rw [put_get_ne hne]; exact hy, evrel_touch ht hr ?_ (fun _ _ => rfl)⟩
        rw [hb]; simp only [ownerOf]; simp; exact fun e => hk e.symm
    · intro k v u hv hu
      obtain ⟨y, hy, h1, h2⟩ := h.res k v u hv hu
      have hne : some t ≠ some u := fun e => (hC.dlt k u hu).2 (by cases e; exact List.mem_of_getElem? htd)
      rw [put_get_ne hne] at hy
      exact ⟨y, by rw [put_get_ne hne]; exact hy, h1.ext (ht.ext μ), ownV_touch ht h2 (by rw [hb]; simp [ownerOf]) fun _ hc => hc⟩
  | none =>
    simp only [dstOK] at hd
    have hrl : s.R.length = C.dsts.length := by have := h.reslen; simpa [FS.put] using this
    refine h.touch ht rfl (by rw [hb]; simp [ownerOf]) (by rw [put_size, put_size]) (by rw [put_defers, put_defers]) rfl (by simp [FS.put]) ?_ ?_ h.owobj h.owfresh h.owold
    · intro k e u he hu
      obtain ⟨y, hy, hr⟩ := h.env k e u he hu
      have hne : od ≠ some u := fun e => (hC.dlt i u (by rw [← e]; exact hd)).2 (List.mem_of_getElem? hu)
      rw [put_get_ne hne] at hy
      refine ⟨y, by rw [put_get_ne hne]; exact hy, evrel_touch ht hr ?_ (fun _ _ => rfl)⟩
      rw [hb]; simp [ownerOf]
    · intro k v u hv hu
      simp only [FS.put] at hv
      by_cases hk : k = i
      · subst hk
        rw [hd] at hu; cases hu
        have hlen : k < s.R.length := by rw [hrl]; exact (List.getElem?_eq_some_iff.1 hd).1
        rw [List.getElem?_set_self hlen] at hv
        cases hv
        have hsize : a.tmps.size = C.n := by rw [← put_size (od := some u) (X := X)]; exact h.tmps
        exact ⟨X', put_get_eq (by rw [hsize]; exact (hC.dlt k u hd).1), hrel, hown⟩
      · rw [List.getElem?_set_ne (fun e => hk e.symm)] at hv
        obtain ⟨y, hy, h1, h2⟩ := h.res k v u (by simp only [FS.put]; rw [List.getElem?_set_ne (fun e => hk e.symm)]; exact hv) hu
        have hne : od ≠ some u := fun e => hk (hC.dinj k i u hu (by rw [← e]; exact hd))
        rw [put_get_ne hne] at hy
        exact ⟨y, by rw [put_get_ne hne]; exact hy, h1.ext (ht.ext μ), ownV_touch ht h2 (by rw [hb]; simp [ownerOf]; exact fun e => hk e.symm) fun _ hc => hc⟩
end Go.Ab
