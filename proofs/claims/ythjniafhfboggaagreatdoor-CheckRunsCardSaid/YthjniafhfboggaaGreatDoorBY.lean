/- What append does in the program. No premise but those named. -/
import Derived.Test.YthjniafhfboggaaGreatDoorBX
import Derived.Laws.Append
namespace Go.Ab
open Go

/-- What is asked of an element's type. -/
def elemOK (P : Program) (e : TypeId) (sz : Nat) : Bool := match P.info? e with
  | some i => decide (0 < sz) && i.size == sz && decide (0 < i.bytes) && decide (i.bytes ≤ 4096) && (match i.zero with | some z => z.cells.size == sz && z.cells.all (·.oneCell) | none => false)
  | none => false
theorem elemOK_spec {P : Program} {e sz} (h : elemOK P e sz = true) : ∃ i z, 0 < sz ∧ P.info? e = some i ∧ i.size = sz ∧ 0 < i.bytes ∧ i.bytes ≤ 4096 ∧ i.zero = some z ∧ z.cells.size = sz ∧ ∀ v ∈ z.cells.toList, v.oneCell = true := by
  unfold elemOK at h
  split at h
  · rename_i i hi
    split at h
    · rename_i z hz
      simp only [Bool.and_eq_true, beq_iff_eq, decide_eq_true_eq] at h
      refine ⟨i, z, h.1.1.1.1, hi, h.1.1.1.2, h.1.1.2, h.1.2, hz, h.2.1, fun v hv => ?_⟩
      have := Array.all_eq_true'.1 h.2.2 v (by simpa using hv)
      exact this
    · simp at h
  · cases h

/-- What is appended is a slice or a text. -/
def rowType (P : Program) (t : TypeId) : Bool := match P.underlying t with
  | some (.slice _) => true
  | some .string => true
  | _ => false
theorem rowType_spec {P : Program} {t : TypeId} (h : rowType P t = true) : (∃ e, P.underlying t = some (.slice e)) ∨ P.underlying t = some .string := by
  unfold rowType at h
  split at h
  · exact .inl ⟨_, by assumption⟩
  · exact .inr (by assumption)
  · cases h

theorem zeroCells_size (z : Array Value) (n : Nat) : (Builtin.zeroCells z n).size = n * z.size := by simp [Builtin.zeroCells]

section
variable {P : Program} {w : World}

theorem run_append_new {T T2 e : TypeId} {sz n cap m : Nat} {base : Option Addr} {Y : Value} {old new : List Value} (ty : TypeId)
    (hT : sliceElem P T = some e) (he : elemOK P e sz = true) (h2 : rowType P T2 = true) (hY : ∀ w', (Builtin.lenOf Y).run P w' = .ok m w')
    (hold : ∀ w', w'.heap = w.heap → (Builtin.firstCells sz n (.slice base n cap)).run P w' = .ok old.toArray w')
    (hnew : ∀ w', w'.heap = w.heap → (Builtin.firstCells sz m Y).run P w' = .ok new.toArray w') (hgt : cap < n + m) (hroom : n + m ≤ roomy) :
    ∃ (newCap : Nat) (rest : Array Value), n + m ≤ newCap ∧ newCap < 2 ^ 63 ∧ rest.size = (newCap - (n + m)) * sz ∧
      (Builtin.append_ #[T, T2] ty #[.slice base n cap, Y]).run P w =
        .ok (.slice (some ⟨w.heap.size, 0, none⟩) (n + m) newCap) (addObj w.drew (.cells ((old ++ new).toArray ++ rest) e (0, 0))) := by
  obtain ⟨i, z, hsz, hi, hs, hb0, hb1, hz, hzs, _⟩ := elemOK_spec he
  have hu := sliceElem_spec hT
  have hcap : ¬ (281474976710656 < Builtin.nextslicecap (n + m) cap * i.bytes) := by
    have h1 := Go.nextslicecap_le hgt
    have h3 : Builtin.nextslicecap (n + m) cap * i.bytes ≤ 2 * (n + m) * 4096 := Nat.mul_le_mul h1 hb1
    unfold roomy at hroom
    omega
  have hroom' : n + m ≤ 4294967296 := by unfold roomy at hroom; simpa using hroom
  have h63' : ¬ (9223372036854775807 < ((n : Int) + (m : Int))) := by omega
  have hn : ¬ (n + m ≤ cap) := by omega
  have hb0' : i.bytes ≠ 0 := by omega
  have hnc : n + m ≤ grownCap w (n + m) cap e ∧ grownCap w (n + m) cap e < 2 ^ 63 := by
    simp only [grownCap, Question.cut]
    have := Nat.mod_lt (w.tape w.drawn (.appendCap (n + m) cap e)) (show 0 < 2 ^ 63 - (n + m) by omega)
    omega
  have ho := hold w.drew rfl
  have hw := hnew w.drew rfl
  subst hs
  refine ⟨grownCap w (n + m) cap e, Builtin.zeroCells z.cells (grownCap w (n + m) cap e - (n + m)), hnc.1, hnc.2, by rw [zeroCells_size, hzs], ?_⟩
  rcases rowType_spec h2 with ⟨e2, h2⟩ | h2
  all_goals
    simp [Builtin.append_, run_underlying hu, run_underlying h2, sizeOf, typeInfo, zeroValue, hi, hz, hY, hn, h63', hcap, Question.forced, ho, hw, newRow, grownCap]
    show World.alloc _ _ = World.alloc _ _
    congr 2
    apply Array.ext'
    simp

theorem run_append_in {T T2 e : TypeId} {sz n cap m b off : Nat} {Y : Value} {new : List Value} (ty : TypeId)
    (hT : sliceElem P T = some e) (he : elemOK P e sz = true) (h2 : rowType P T2 = true) (hY : ∀ w', (Builtin.lenOf Y).run P w' = .ok m w')
    (hnew : ∀ w', w'.heap = w.heap → (Builtin.firstCells sz m Y).run P w' = .ok new.toArray w') (hle : n + m ≤ cap)
    (hc : ∀ j, j < new.length → (w.cell? ⟨b, off + n * sz + j, none⟩).isSome = true) (hf : ∀ j, j < new.length → w.frozen? ⟨b, off + n * sz + j, none⟩ = false) (h1 : ∀ v ∈ new, v.oneCell' = true) :
    (Builtin.append_ #[T, T2] ty #[.slice (some ⟨b, off, none⟩) n cap, Y]).run P w =
        .ok (.slice (some ⟨b, off, none⟩) (n + m) cap) (w.setCells b (off + n * sz) new) := by
  obtain ⟨i, z, hsz, hi, hs, hb0, hb1, hz, hzs, _⟩ := elemOK_spec he
  have hu := sliceElem_spec hT
  have hw := hnew w rfl
  have hst := run_storeCells_cells (P := P) b (off + n * sz) new 0 w (by simpa using hc) (by simpa using hf) h1
  simp only [Nat.add_zero] at hst
  subst hs
  rcases rowType_spec h2 with ⟨e2, h2⟩ | h2
  all_goals
    simp [Builtin.append_, run_underlying hu, run_underlying h2, sizeOf, typeInfo, hi, hY, hle, hw, add_at, hst]

theorem run_append_none {T T2 e : TypeId} {sz m : Nat} {Y : Value} {new : List Value} (ty : TypeId)
    (hT : sliceElem P T = some e) (he : elemOK P e sz = true) (h2 : rowType P T2 = true) (hY : ∀ w', (Builtin.lenOf Y).run P w' = .ok m w')
    (hnew : ∀ w', w'.heap = w.heap → (Builtin.firstCells sz m Y).run P w' = .ok new.toArray w') (hm : m = 0) :
    (Builtin.append_ #[T, T2] ty #[.slice none 0 0, Y]).run P w = .ok (.slice none 0 0) w := by
  obtain ⟨i, z, hsz, hi, hs, hb0, hb1, hz, hzs, _⟩ := elemOK_spec he
  have hu := sliceElem_spec hT
  have hw := hnew w rfl
  subst hs
  subst hm
  rcases rowType_spec h2 with ⟨e2, h2⟩ | h2
  all_goals
    simp [Builtin.append_, run_underlying hu, run_underlying h2, sizeOf, typeInfo, hi, hY, hw]
end

section
variable {P : Program} {μ : List Nat} {lim : Nat → Nat} {w : World} {σ : St}

theorem cells_of_relL {b o : Nat} {cs : List V} (h : ∀ (k : Nat) (v : V), cs[k]? = some v → ∃ c, w.cell? ⟨b, o + k, none⟩ = some c ∧ RelV μ lim w v c ∧ c.oneCell = true) :
    ∃ new : List Value, new.length = cs.length ∧ (∀ (j : Nat) (v : Value), new[j]? = some v → w.cell? ⟨b, o + j, none⟩ = some v) ∧ RelVs μ lim w cs new ∧ ∀ v ∈ new, v.oneCell = true := by
  let f : Nat → Value := fun k => (w.cell? ⟨b, o + k, none⟩).getD undef
  have hf : ∀ (k : Nat) (v : V), cs[k]? = some v → w.cell? ⟨b, o + k, none⟩ = some (f k) ∧ RelV μ lim w v (f k) ∧ (f k).oneCell = true := by
    intro k v hv
    obtain ⟨c, hc, hr⟩ := h k v hv
    have : f k = c := by simp [f, hc]
    rw [this]; exact ⟨hc, hr⟩
  refine ⟨(List.range cs.length).map f, by simp, ?_, ?_, ?_⟩
  · intro j v hv
    simp only [List.getElem?_map, Option.map_eq_some_iff] at hv
    obtain ⟨k, hk, rfl⟩ := hv
    have hj : j < cs.length := by have := (List.getElem?_eq_some_iff.1 hk).1; simpa using this
    rw [List.getElem?_range hj] at hk
    cases hk
    exact (hf j cs[j] (List.getElem?_eq_getElem hj)).1
  · refine RelVs.of_get (by simp) fun k v x hv hx => ?_
    have hk : k < cs.length := (List.getElem?_eq_some_iff.1 hv).1
    simp only [List.getElem?_map, List.getElem?_range hk, Option.map_some, Option.some.injEq] at hx
    subst hx
    exact (hf k v hv).2.1
  · intro v hv
    simp only [List.mem_map, List.mem_range] at hv
    obtain ⟨k, hk, rfl⟩ := hv
    exact (hf k cs[k] (List.getElem?_eq_getElem hk)).2.2

theorem chunks_flatten (sz : Nat) : ∀ (n : Nat) (cs : List V), n * sz ≤ cs.length → (chunks sz n cs).flatten = cs.take (n * sz) ∧ (chunks sz n cs).length = n ∧ ∀ c ∈ chunks sz n cs, c.length = sz
  | 0, cs, _ => by simp [chunks]
  | n + 1, cs, h => by
    rw [Nat.succ_mul] at h
    obtain ⟨h1, h2, h3⟩ := chunks_flatten sz n (cs.drop sz) (by simp; omega)
    refine ⟨?_, by simp [chunks, h2], ?_⟩
    · simp only [chunks, List.flatten_cons, h1]
      rw [Nat.succ_mul, Nat.add_comm, List.take_add]
    · intro c hc
      simp only [chunks, List.mem_cons] at hc
      rcases hc with rfl | hc
      · simp; omega
      · exact h3 c hc

theorem firstCells_rel {b o : Nat} {cs : List V} (h : ∀ (k : Nat) (v : V), cs[k]? = some v → ∃ c, w.cell? ⟨b, o + k, none⟩ = some c ∧ RelV μ lim w v c ∧ c.oneCell = true) (len cap sz m : Nat) (hl : cs.length = m * sz) :
    ∃ new : List Value, RelVs μ lim w cs new ∧ (∀ v ∈ new, v.oneCell = true) ∧ ∀ w', w'.heap = w.heap → (Builtin.firstCells sz m (.slice (some ⟨b, o, none⟩) len cap)).run P w' = .ok new.toArray w' := by
  obtain ⟨new, h1, h2, h3, h4⟩ := cells_of_relL h
  refine ⟨new, h3, h4, fun w' hw => ?_⟩
  refine run_firstCells_some w' sz m _ len cap new (by omega) fun j v hv => ?_
  rw [add_at, cell_congr (w := w) (by rw [hw])]
  exact h2 j v hv

/-- The elements of what is appended. -/
theorem elems_rel (hw : WRel μ lim w σ) {sz : Nat} {y : V} {Y : Value} {l : List (List V)} (he : elems σ sz y = some l) (hr : RelV μ lim w y Y) :
    ∃ new : List Value, RelVs μ lim w l.flatten new ∧ (∀ v ∈ new, v.oneCell = true) ∧ (∀ cs ∈ l, cs.length = sz) ∧ l.flatten.length = l.length * sz ∧
      (∀ w', (Builtin.lenOf Y).run P w' = .ok l.length w') ∧ ∀ w', w'.heap = w.heap → (Builtin.firstCells sz l.length Y).run P w' = .ok new.toArray w' := by
  unfold elems at he
  split at he
  · rename_i oo sz' l'
    split at he
    case isFalse => cases he
    rename_i hsz
    subst hsz
    cases he
    unfold RelV at hr
    obtain ⟨base, cap, rfl, h1, h2, h3⟩ := hr
    cases base with
    | none =>
      simp only at h3
      have : l = [] := List.eq_nil_of_length_eq_zero (by omega)
      subst this
      refine ⟨[], by simp; unfold RelVs; trivial, by simp, by simp, by simp, fun w' => by simp [Builtin.lenOf], fun w' _ => by simp [Builtin.firstCells]⟩
    | some a =>
      obtain ⟨h4, h5⟩ := h3
      obtain ⟨h6, h7⟩ := h5.flat
      obtain ⟨new, k1, k2, k3⟩ := firstCells_rel (P := P) (fun k v hv => (h6.get hv).2) l.length cap sz' l.length h7
      have ha : a = ⟨a.block, a.off, none⟩ := by cases a; simp at h4; simp [h4]
      rw [ha]
      refine ⟨new, k1, k2, fun cs hcs => ?_, h7, fun w' => by simp [Builtin.lenOf], k3⟩
      obtain ⟨i, hi⟩ := List.getElem?_of_mem hcs
      exact (h5.get hi).1
  · rename_i id off n sz'
    split at he
    case isFalse => cases he
    rename_i hsz
    subst hsz
    split at he
    · rename_i cs hcs
      split at he
      case isFalse => cases he
      rename_i hle
      cases he
      unfold RelV at hr
      obtain ⟨b, cap, h1, h2, h3, rfl, h5⟩ := hr
      have hob := hw.obj id b _ (get_spec hcs) h1
      obtain ⟨f1, f2, f3⟩ := chunks_flatten sz' n (cs.drop off) (by simp; omega)
      have hfl : (chunks sz' n (cs.drop off)).flatten.length = n * sz' := by rw [f1]; simp; omega
      obtain ⟨new, k1, k2, k3⟩ := firstCells_rel (P := P) (μ := μ) (lim := lim) (w := w) (b := b) (o := off) (cs := (chunks sz' n (cs.drop off)).flatten) (fun k v hv => by
        rw [f1, List.getElem?_take] at hv
        split at hv
        · rw [List.getElem?_drop] at hv
          exact hob.2.2.2 _ v hv
        · cases hv) n cap sz' n hfl
      refine ⟨new, k1, k2, f3, by rw [hfl, f2], fun w' => by simp [Builtin.lenOf, f2], ?_⟩
      rw [f2]; exact k3
    · cases he
  · rename_i b
    split at he
    case isFalse => cases he
    rename_i hsz
    subst hsz
    cases he
    rw [relSc hr]
    have hfl : (b.data.toList.map fun c => [V.sc (.int .u8 c.toNat)]).flatten = b.data.toList.map fun c => V.sc (.int .u8 c.toNat) := by
      induction b.data.toList with
      | nil => rfl
      | cons c t ih => simp [ih]
    refine ⟨b.data.toList.map fun c => .int .u8 c.toNat, ?_, ?_, ?_, ?_, fun w' => ?_, fun w' _ => ?_⟩
    · rw [hfl]
      refine RelVs.of_get (by simp) fun k v x hv hx => ?_
      simp only [List.getElem?_map, Option.map_eq_some_iff] at hv hx
      obtain ⟨c, hc, rfl⟩ := hv
      obtain ⟨d, hd, rfl⟩ := hx
      rw [hc] at hd; cases hd
      exact scRel rfl
    · intro v hv
      simp only [List.mem_map] at hv
      obtain ⟨c, _, rfl⟩ := hv
      rfl
    · intro cs hcs
      simp only [List.mem_map] at hcs
      obtain ⟨c, _, rfl⟩ := hcs
      rfl
    · rw [hfl]; simp
    · simp [Builtin.lenOf]
    · simp only [List.length_map, Builtin.firstCells, Sem.run_pure]
      congr 1
      have : b.extract 0 b.data.toList.length = b := by
        have : b.data.toList.length = b.size := by simp
        rw [this]; exact ByteArray.extract_zero_size
      rw [this]
      apply Array.ext'
      simp
  · cases he
end
end Go.Ab

namespace Go.Ab
open Go

section
variable {P : Program} {μ : List Nat} {lim : Nat → Nat} {w : World} {σ : St}

/-- Worlds with the same memory. -/
theorem ext_heap {w' : World} (h : w'.heap = w.heap) : Ext μ lim w μ lim w' :=
  ⟨fun _ _ x => x, fun _ o ho => ⟨ho, cell_congr (by rw [h]) o⟩, fun b => by rw [bsize_congr (w := w) (w' := w') (by rw [h])]; exact Nat.le_refl _⟩
theorem chg_heap (hw : WRel μ lim w σ) {w' : World} (h : w'.heap = w.heap) (hos : w'.os = w.os) (ht : w'.tape = w.tape) (hout : w'.output = w.output) : Chg μ lim w σ μ lim w' σ :=
  ⟨hos, ht, hout, by rw [h]; exact Nat.le_refl _, fun _ _ x => x, fun b _ _ => ⟨by rw [h], rfl⟩, fun b _ => (ext_heap (μ := μ) (lim := lim) h).size b,
   fun id b ha hb hm => .inr ⟨id, hb, ha, hm⟩, rfl, fun _ _ => rfl, Nat.le_refl _, fun _ hp => hw.glob_lt hp,
   ⟨hw.len, fun id b hm => by rw [h]; exact hw.lt id b hm, hw.inj, fun id b o ho hm => (hw.obj id b o ho hm).ext (ext_heap h) (by rw [h]) rfl, fun b hb => hw.fresh b (by rw [h] at hb; exact hb), glob_keep hw.glob fun _ _ _ _ => ⟨by rw [h], rfl⟩⟩⟩

/-- A row of values in a new block. -/
theorem relL_new {b : Nat} {c : Array Value} {ty : TypeId} {fr : Nat × Nat} {cs : List V} {xs : List Value} (hb : w.heap[b]? = some (.cells c ty fr)) (hr : RelVs μ lim w cs xs)
    (h1 : ∀ v ∈ xs, v.oneCell = true) (o : Nat) (hc : ∀ k, k < xs.length → c[o + k]? = xs[k]?) (hl : o + cs.length ≤ lim b) : RelL μ lim w b o cs := by
  refine RelL.of_get fun k v hv => ?_
  have hk : k < cs.length := (List.getElem?_eq_some_iff.1 hv).1
  obtain ⟨x, hx, hrx⟩ := hr.get hv
  refine ⟨by omega, x, ?_, hrx, h1 x (List.mem_of_getElem? hx)⟩
  have := hc k (List.getElem?_eq_some_iff.1 hx).1
  rw [hx] at this
  simp [World.cell?, hb, this]

theorem frozen_row {b k : Nat} {c : Array Value} {ty : TypeId} (h : w.heap[b]? = some (.cells c ty (0, 0))) : w.frozen? ⟨b, k, none⟩ = false := by
  simp [World.frozen?, h]

/-- The row that a growing append makes. -/
theorem fresh_row (hw : WRel μ lim w σ) {l : List (List V)} {xs : List Value} {sz cap : Nat} {rest : Array Value} {e : TypeId} (hr : RelVs μ lim w l.flatten xs) (h1 : ∀ v ∈ xs, v.oneCell = true)
    (hs : ∀ cs ∈ l, cs.length = sz) (hl : l.flatten.length = l.length * sz) (hle : l.length ≤ cap) (hcap : cap < 2 ^ 63) (hrest : rest.size = (cap - l.length) * sz) (o : Own) (ho : o = .shut → cap = l.length) :
    let lim' : Nat → Nat := fun b => if b = w.heap.size then l.length * sz else lim b
    let w' := addObj w (.cells (xs.toArray ++ rest) e (0, 0))
    Chg μ lim w σ μ lim' w' σ ∧ RelV μ lim' w' (.slice o sz l) (.slice (some ⟨w.heap.size, 0, none⟩) l.length cap) ∧
      FreshV w lim' w' (.slice .tail sz l) (.slice (some ⟨w.heap.size, 0, none⟩) l.length cap) := by
  intro lim' w'
  have hc := chg_add hw (.cells (xs.toArray ++ rest) e (0, 0)) (l.length * sz)
  have hx := hc.ext hw
  have hxl := hr.length
  have hb : w'.heap[w.heap.size]? = some (.cells (xs.toArray ++ rest) e (0, 0)) := addObj_new _ _
  have hlim : lim' w.heap.size = l.length * sz := by simp [lim']
  refine ⟨hc, ?_, ?_⟩
  · unfold RelV
    refine ⟨some ⟨w.heap.size, 0, none⟩, cap, rfl, ⟨hle, ho⟩, hcap, rfl, RelLL.of_flat hs ?_⟩
    refine relL_new hb (RelVs.ext hx _ _ hr) h1 0 (fun k hk => ?_) (by show 0 + l.flatten.length ≤ lim' w.heap.size; rw [hlim]; omega)
    rw [Nat.zero_add, Array.getElem?_append_left (by simpa using hk)]
    simp
  · refine ⟨Nat.le_refl _, by show w.heap.size < w'.heap.size; simp only [w', addObj_size]; omega, by show lim' w.heap.size = _; rw [hlim]; simp, ?_, fun k _ => frozen_row hb⟩
    have : bsize w' w.heap.size = xs.length + rest.size := by unfold bsize; rw [hb]; simp
    show 0 + cap * sz ≤ bsize w' w.heap.size
    rw [this, hrest, ← hxl, hl, ← Nat.add_mul]
    exact Nat.le_of_eq (by rw [Nat.zero_add]; congr 1; omega)
end

/-- What lies at the result's place grows: a write into its own row. -/
theorem FRel.regrow {C : Ctx} {μ : List Nat} {lim : Nat → Nat} {ow : Nat → Owner} {s : FS} {a : Act} {w : World} (hC : C.OK) {dst : Option Nat} {i : Nat} {od : Option Tmp} {x x' : V} {X X' : Value} (h : FRel C μ lim ow (s.put dst i x) (a.put od X) w) (hd : dstOK C dst i od)
    {b : Nat} (hb : ow b = ownerOf dst i) {w' : World} {lim' : Nat → Nat} (ht : Touch w lim b w' lim') (hrel : RelV μ lim' w' x' X') (hown : OwnV lim' w' ow (ownerOf dst i) x' X') :
    FRel C μ lim' ow (s.put dst i x') (a.put od X') w' := by
  cases dst with
  | some d =>
    obtain ⟨t, htd, rfl⟩ := hd
    have htm := hC.lt t (List.mem_of_getElem? htd)
    have hsize : a.tmps.size = C.n := by rw [← put_size (od := some t) (X := X)]; exact h.tmps
    have hel : s.env.length = C.slots.length := by have := h.envlen; simpa [FS.put] using this
    refine h.touch ht rfl (by rw [hb]; simp [ownerOf]) (by rw [put_size, put_size]) (by rw [put_defers, put_defers]) (by simp [FS.put]) rfl ?_ ?_ h.owobj h.owfresh h.owold
    · intro k e u he hu
      simp only [FS.put] at he
      by_cases hk : k = d
      · subst hk
        rw [htd] at hu; cases hu
        have hlen : k < s.env.length := by rw [hel]; exact (List.getElem?_eq_some_iff.1 htd).1
        rw [List.getElem?_set_self hlen] at he
        cases he
        exact ⟨X', put_get_eq (by rw [hsize]; exact htm), hrel, hown⟩
      · rw [List.getElem?_set_ne (fun e => hk e.symm)] at he
        obtain ⟨y, hy, hr⟩ := h.env k e u (by simp only [FS.put]; rw [List.getElem?_set_ne (fun e => hk e.symm)]; exact he) hu
        have hne : some t ≠ some u := fun e => hk (by cases e; exact nodup_inj hC.nodup hu htd)
        rw [put_get_ne hne] at hy
        refine ⟨y, by rw [put_get_ne hne]; exact hy, evrel_touch ht hr ?_ (fun _ _ => rfl)⟩
        rw [hb]; simp only [ownerOf]; simp; exact fun e => hk e.symm
    · intro k v u hv hu
      obtain ⟨y, hy, h1, h2⟩ := h.res k v u hv hu
      have hne : some t ≠ some u := fun e => (hC.dlt k u hu).2 (by cases e; exact List.mem_of_getElem? htd)
      rw [put_get_ne hne] at hy
      exact ⟨y, by rw [put_get_ne hne]; exact hy, h1.ext (ht.ext μ), ownV_touch ht h2 (by rw [hb]; simp [ownerOf]) fun _ hc => hc⟩
  | none =>
    simp only [dstOK] at hd
    have hrl : s.R.length = C.dsts.length := by have := h.reslen; simpa [FS.put] using this
    refine h.touch ht rfl (by rw [hb]; simp [ownerOf]) (by rw [put_size, put_size]) (by rw [put_defers, put_defers]) rfl (by simp [FS.put]) ?_ ?_ h.owobj h.owfresh h.owold
    · intro k e u he hu
      obtain ⟨y, hy, hr⟩ := h.env k e u he hu
      have hne : od ≠ some u := fun e => (hC.dlt i u (by rw [← e]; exact hd)).2 (List.mem_of_getElem? hu)
      rw [put_get_ne hne] at hy
      refine ⟨y, by rw [put_get_ne hne]; exact hy, evrel_touch ht hr ?_ (fun _ _ => rfl)⟩
      rw [hb]; simp [ownerOf]
    · intro k v u hv hu
      simp only [FS.put] at hv
      by_cases hk : k = i
      · subst hk
        rw [hd] at hu; cases hu
        have hlen : k < s.R.length := by rw [hrl]; exact (List.getElem?_eq_some_iff.1 hd).1
        rw [List.getElem?_set_self hlen] at hv
        cases hv
        have hsize : a.tmps.size = C.n := by rw [← put_size (od := some u) (X := X)]; exact h.tmps
        exact ⟨X', put_get_eq (by rw [hsize]; exact (hC.dlt k u hd).1), hrel, hown⟩
      · rw [List.getElem?_set_ne (fun e => hk e.symm)] at hv
        obtain ⟨y, hy, h1, h2⟩ := h.res k v u (by simp only [FS.put]; rw [List.getElem?_set_ne (fun e => hk e.symm)]; exact hv) hu
        have hne : od ≠ some u := fun e => hk (hC.dinj k i u hu (by rw [← e]; exact hd))
        rw [put_get_ne hne] at hy
        exact ⟨y, by rw [put_get_ne hne]; exact hy, h1.ext (ht.ext μ), ownV_touch ht h2 (by rw [hb]; simp [ownerOf]; exact fun e => hk e.symm) fun _ hc => hc⟩
end Go.Ab

namespace Go.Ab
open Go

theorem touch_append {w : World} {lim : Nat → Nat} {b o m : Nat} {new : List Value} {c : Array Value} {ty : TypeId} {fr : Nat × Nat} (hb : w.heap[b]? = some (.cells c ty fr)) (hl : o + new.length ≤ c.size) (ho : lim b ≤ o) (hm : m = new.length) :
    Touch w lim b (w.setCells b o new) (fun d => if d = b then lim b + m else lim d) ∧
      (∃ c' : Array Value, (w.setCells b o new).heap[b]? = some (.cells c' ty fr) ∧ ∀ k, k < new.length → c'[o + k]? = new[k]?) ∧
      ∀ k, (w.setCells b o new).frozen? ⟨b, k, none⟩ = w.frozen? ⟨b, k, none⟩ := by
  obtain ⟨⟨c2, k1, k2, k3⟩, k4, k5, k6, k7, k8⟩ := setCells_heap b new o w c ty fr hb hl
  refine ⟨⟨k6, k7, k8, k5, fun d hd => ⟨k4 d hd, if_neg hd⟩, ?_, (Array.getElem?_eq_some_iff.1 hb).1, fun k hk => ⟨by rw [if_pos rfl]; omega, ?_⟩⟩, ⟨c2, k1, fun k hk => ?_⟩, fun k => ?_⟩
  · unfold bsize; rw [k1, hb]; exact k2
  · have := k3 k
    rw [if_neg (by omega)] at this
    simp [World.cell?, k1, hb, this]
  · rw [k3, if_pos (by omega)]; congr 1; omega
  · simp [World.frozen?, k1, hb]

theorem oneCells' {new : List Value} (h : ∀ v ∈ new, v.oneCell = true) : ∀ v ∈ new, v.oneCell' = true := fun v hv => by rw [oneCell_eq]; exact h v hv

theorem FRel.append {P : Program} {C : Ctx} {μ : List Nat} {lim : Nat → Nat} {ow : Nat → Owner} {s : FS} {a : Act} {w : World} (hC : C.OK) (h : FRel C μ lim ow s a w) {j : Nat} {o : Own} {sz : Nat} {l l' : List (List V)}
    (hj : s.R[j]? = some (some (.slice o sz l))) {t : Tmp} (ht : C.dsts[j]? = some (some t)) {X : Value} (hX : a.tmps[t]? = some X) {y : V} {Y : Value} (hy : RelV μ lim w y Y)
    (hel : elems s.σ sz y = some l') (hno : o ≠ .no) (hroom : l.length + l'.length ≤ roomy) {T T2 e : TypeId} (ty : TypeId) (hT : sliceElem P T = some e) (he : elemOK P e sz = true) (h2 : rowType P T2 = true)
    {dst : Option Nat} {i : Nat} {od : Option Tmp} (hd : dstOK C dst i od) :
    ∃ Z lim' w' ow', (Builtin.append_ #[T, T2] ty #[X, Y]).run P w = .ok Z w' ∧
      FRel C μ lim' ow' (({ s with R := s.R.set j (some (V.slice o sz l).erase) } : FS).put dst i (.slice (if l'.length = 0 then o else .tail) sz (l ++ l'))) (a.put od Z) w' := by
  obtain ⟨X', hX', hr, hown⟩ := h.res j _ t hj ht
  rw [hX] at hX'; cases hX'
  obtain ⟨new, n1, n2, n3, n4, n5, n6⟩ := elems_rel (P := P) h.chg.wrel hel hy
  have hnl : new.length = l'.length * sz := by rw [← n1.length, n4]
  have hszp : 0 < sz := (elemOK_spec he).choose_spec.choose_spec.1
  have hmove := h.move hC hj ht hX hd
  have hr0 := hr
  unfold RelV at hr
  obtain ⟨base, cap, rfl, hle, hcap, hbase⟩ := hr
  -- what lay there
  have hold : ∃ old : List Value, RelVs μ lim w l.flatten old ∧ (∀ v ∈ old, v.oneCell = true) ∧ (∀ cs ∈ l, cs.length = sz) ∧ l.flatten.length = l.length * sz ∧
      ∀ w', w'.heap = w.heap → (Builtin.firstCells sz l.length (.slice base l.length cap)).run P w' = .ok old.toArray w' := by
    obtain ⟨old, k1, k2, k3, k4, _, k6⟩ := elems_rel (P := P) (y := .slice o sz l) (sz := sz) (l := l) h.chg.wrel (by simp [elems]) hr0
    exact ⟨old, k1, k2, k3, k4, k6⟩
  -- a new row
  have grow : cap < l.length + l'.length → l'.length ≠ 0 → ∃ Z lim' w' ow', (Builtin.append_ #[T, T2] ty #[.slice base l.length cap, Y]).run P w = .ok Z w' ∧
      FRel C μ lim' ow' (({ s with R := s.R.set j (some (V.slice o sz l).erase) } : FS).put dst i (.slice (if l'.length = 0 then o else .tail) sz (l ++ l'))) (a.put od Z) w' := by
    intro hgt hne
    obtain ⟨old, k1, k2, k3, k4, k5⟩ := hold
    obtain ⟨nc, rest, m1, m2, m3, m4⟩ := run_append_new (P := P) (w := w) ty hT he h2 n5 k5 n6 hgt hroom
    have hdr : Chg μ lim w s.σ μ lim w.drew s.σ := chg_heap h.chg.wrel rfl rfl rfl rfl
    have hll : (l ++ l').flatten = l.flatten ++ l'.flatten := by simp
    obtain ⟨c1, c2, c3⟩ := fresh_row (l := l ++ l') (xs := old ++ new) (sz := sz) (cap := nc) (rest := rest) (e := e) (lim := lim) (w := w.drew) (σ := s.σ) (μ := μ) hdr.wrel
      (by rw [hll]; exact RelVs.ext (ext_heap (w := w) (w' := w.drew) rfl) _ _ (RelVs.append k1 n1)) (by intro v hv; rcases List.mem_append.1 hv with hv | hv; exact k2 v hv; exact n2 v hv)
      (by intro cs hcs; rcases List.mem_append.1 hcs with hcs | hcs; exact k3 cs hcs; exact n3 cs hcs) (by rw [hll, List.length_append, k4, n4, List.length_append, Nat.add_mul])
      (by rw [List.length_append]; exact m1) m2 (by rw [List.length_append]; exact m3) .tail (by simp)
    rw [if_neg hne]
    have hl0 : (l ++ l').length = l.length + l'.length := List.length_append
    rw [hl0] at c1 c2 c3
    obtain ⟨ow', hf⟩ := (h.eraseR hj).put_fresh hC (dst := dst) (i := i) (od := od) (hdr.trans c1) hd c2 c3 (by
      intro sz' l1 a1 n1 cap1 _ hx id ha hm
      simp only [Value.slice.injEq, Option.some.injEq] at hx
      rw [← hx.1] at hm
      have := h.chg.wrel.lt id _ hm
      exact Nat.lt_irrefl _ this)
    exact ⟨_, _, _, ow', m4, hf⟩
  by_cases hm : l'.length = 0
  · -- nothing is appended
    have hl0 : l' = [] := List.eq_nil_of_length_eq_zero hm
    have hz : V.slice (if l'.length = 0 then o else .tail) sz (l ++ l') = .slice o sz l := by rw [if_pos hm, hl0, List.append_nil]
    have hnew0 : new = [] := List.eq_nil_of_length_eq_zero (by rw [hnl, hm, Nat.zero_mul])
    rw [hz]
    cases base with
    | none =>
      simp only at hbase
      have hll : l.length = 0 := by omega
      subst hbase
      refine ⟨_, lim, w, _, ?_, hmove⟩
      rw [hll]
      exact run_append_none ty hT he h2 n5 n6 hm
    | some ad =>
      have had : ad = ⟨ad.block, ad.off, none⟩ := by cases ad; simp at hbase; simp [hbase.1]
      refine ⟨_, lim, w, _, ?_, hmove⟩
      have := run_append_in (P := P) (w := w) (n := l.length) (cap := cap) (b := ad.block) (off := ad.off) (new := new) ty hT he h2 n5 n6 (by omega) (by rw [hnew0]; simp) (by rw [hnew0]; simp) (by rw [hnew0]; simp)
      rw [← had] at this
      rw [this, hnew0, hm]
      rfl
  · cases base with
    | none =>
      simp only at hbase
      exact grow (by omega) hm
    | some ad =>
      by_cases hfit : l.length + l'.length ≤ cap
      · have had : ad = ⟨ad.block, ad.off, none⟩ := by cases ad; simp at hbase; simp [hbase.1]
        cases o with
        | no => exact absurd rfl hno
        | shut =>
          have := hle.2 rfl
          omega
        | tail =>
          have hown' : OwnLeaf lim w ow (.res j) (.slice .tail sz l) (.slice (some ad) l.length cap) := hown
          rcases hown' with hcn | ⟨o1, o2, o3, o4, o5⟩
          · omega
          have hbs : ad.off + l.length * sz + new.length ≤ bsize w ad.block := by
            rw [hnl]
            have : l.length * sz + l'.length * sz ≤ cap * sz := by rw [← Nat.add_mul]; exact Nat.mul_le_mul_right _ hfit
            omega
          have hpos : 0 < new.length := by rw [hnl]; exact Nat.mul_pos (by omega) hszp
          obtain ⟨c, cty, fr, hb⟩ : ∃ c cty fr, w.heap[ad.block]? = some (.cells c cty fr) := by
            unfold bsize at hbs
            split at hbs
            · exact ⟨_, _, _, by assumption⟩
            · omega
          have hcs : bsize w ad.block = c.size := by unfold bsize; rw [hb]
          obtain ⟨ht1, ⟨c', hc1, hc2⟩, ht3⟩ := touch_append (lim := lim) (o := ad.off + l.length * sz) (new := new) hb (by omega) (by omega) (rfl : l'.length * sz = l'.length * sz |> fun _ => new.length = new.length)
          have hrun := run_append_in (P := P) (w := w) (n := l.length) (cap := cap) (b := ad.block) (off := ad.off) (new := new) ty hT he h2 n5 n6 hfit
            (by intro k hk; obtain ⟨cc, hcc⟩ := cell_of_lt (w := w) (b := ad.block) (o := ad.off + l.length * sz + k) (by omega); rw [hcc]; rfl)
            (by intro k hk; exact o5 _ (by omega)) (oneCells' n2)
          rw [← had] at hrun
          rw [if_neg hm]
          have hlim' : (fun d => if d = ad.block then lim ad.block + new.length else lim d) ad.block = ad.off + (l.length + l'.length) * sz := by
            simp only [if_true]; rw [o3, hnl, Nat.add_mul]; omega
          refine ⟨_, _, _, _, hrun, hmove.regrow hC hd (b := ad.block) (give_src o1) ht1 ?_ ?_⟩
          · unfold RelV
            refine ⟨some ad, cap, by rw [List.length_append], ⟨by rw [List.length_append]; exact hfit, by simp⟩, hcap, hbase.1, ?_⟩
            refine RelLL.append (RelLL.ext (ht1.ext μ) _ _ _ _ hbase.2) (RelLL.of_flat n3 ?_)
            exact relL_new hc1 (RelVs.ext (ht1.ext μ) _ _ n1) n2 _ hc2 (by show _ ≤ (fun d => if d = ad.block then lim ad.block + new.length else lim d) ad.block; rw [hlim', n4, Nat.add_mul]; omega)
          · refine (?_ : OwnLeaf (fun d => if d = ad.block then lim ad.block + new.length else lim d) (w.setCells ad.block (ad.off + l.length * sz) new) (give ow dst i (some (.res j)) none) (ownerOf dst i)
                (.slice .tail sz (l ++ l')) (.slice (some ad) (l.length + l'.length) cap))
            refine .inr ⟨give_src o1, by rw [ht1.size]; exact o2, by show (fun d => if d = ad.block then lim ad.block + new.length else lim d) ad.block = _; rw [hlim', List.length_append], by rw [ht1.bsz]; exact o4, fun k hk => ?_⟩
            rw [ht3]
            have hk' : (fun d => if d = ad.block then lim ad.block + new.length else lim d) ad.block ≤ k := hk
            exact o5 k (by rw [hlim', Nat.add_mul] at hk'; rw [o3]; omega)
      · exact grow (by omega) hm

theorem fs_put_put (s : FS) (dst : Option Nat) (i : Nat) (x y : V) : (s.put dst i x).put dst i y = s.put dst i y := by
  cases dst <;> simp [FS.put]
theorem act_put_put (a : Act) (od : Option Tmp) (X Y : Value) : (a.put od X).put od Y = a.put od Y := by
  cases od <;> simp [Act.put]

/-- What lies at the result's place is seen otherwise. -/
theorem FRel.reput {C : Ctx} {μ : List Nat} {lim : Nat → Nat} {ow : Nat → Owner} {s : FS} {a : Act} {w : World} (hC : C.OK) {dst : Option Nat} {i : Nat} {od : Option Tmp} {x x' : V} {X X' : Value} (h : FRel C μ lim ow (s.put dst i x) (a.put od X) w) (hd : dstOK C dst i od)
    (hrel : RelV μ lim w x' X') (hown : OwnV lim w ow (ownerOf dst i) x' X') : FRel C μ lim ow (s.put dst i x') (a.put od X') w := by
  have := h.put hC hd hrel hown (fun _ _ _ _ _ hr => hr) (fun _ _ _ _ _ hr => hr) h.owobj h.owfresh h.owold
  rwa [fs_put_put, act_put_put] at this
end Go.Ab
