/- What append does in the program. No premise but those named. -/
import Derived.Test.YthbebafhngihgaaGreatDoorB5
import Derived.Laws.Append
namespace Go.Ab
open Go

/-- What is asked of an element's type. -/
def elemOK (P : Program) (e : TypeId) (sz : Nat) : Bool := match P.info? e with
  | some i => decide (0 < sz) && i.size == sz && decide (0 < i.bytes) && decide (i.bytes ≤ 4096) && (match i.zero with | some z => z.cells.size == sz && z.cells.all (·.oneCell) | none => false)
  | none => false
theorem elemOK_spec {P : Program} {e sz} (h : elemOK P e sz = true) : ∃ i z, 0 < sz ∧ P.info? e = some i ∧ i.size = sz ∧ 0 < i.bytes ∧ i.bytes ≤ 4096 ∧ i.zero = some z ∧ z.cells.size = sz ∧ ∀ v ∈ z.cells.toList, v.oneCell = true := by
  unfold elemOK at h
  split at h
  · rename_i i hi
    split at h
    · rename_i z hz
      simp only [Bool.and_eq_true, beq_iff_eq, decide_eq_true_eq] at h
      refine ⟨i, z, h.1.1.1.1, hi, h.1.1.1.2, h.1.1.2, h.1.2, hz, h.2.1, fun v hv => ?_⟩
      have := Array.all_eq_true'.1 h.2.2 v (by simpa using hv)
      exact this
    · simp at h
  · cases h

/-- What is appended is a slice or a text. -/
def rowType (P : Program) (t : TypeId) : Bool := match P.underlying t with
  | some (.slice _) => true
  | some .string => true
  | _ => false
theorem rowType_spec {P : Program} {t : TypeId} (h : rowType P t = true) : (∃ e, P.underlying t = some (.slice e)) ∨ P.underlying t = some .string := by
  unfold rowType at h
  split at h
  · exact .inl ⟨_, by assumption⟩
  · exact .inr (by assumption)
  · cases h

theorem zeroCells_size (z : Array Value) (n : Nat) : (Builtin.zeroCells z n).size = n * z.size := by simp [Builtin.zeroCells]

section
variable {P : Program} {w : World}

theorem run_append_new {T T2 e : TypeId} {sz n cap m : Nat} {base : Option Addr} {Y : Value} {old new : List Value} (ty : TypeId)
    (hT : sliceElem P T = some e) (he : elemOK P e sz = true) (h2 : rowType P T2 = true) (hY : ∀ w', (Builtin.lenOf Y).run P w' = .ok m w')
    (hold : ∀ w', w'.heap = w.heap → (Builtin.firstCells sz n (.slice base n cap)).run P w' = .ok old.toArray w')
    (hnew : ∀ w', w'.heap = w.heap → (Builtin.firstCells sz m Y).run P w' = .ok new.toArray w') (hgt : cap < n + m) (hroom : n + m ≤ roomy) :
    ∃ (newCap : Nat) (rest : Array Value), n + m ≤ newCap ∧ newCap < 2 ^ 63 ∧ rest.size = (newCap - (n + m)) * sz ∧
      (Builtin.append_ #[T, T2] ty #[.slice base n cap, Y]).run P w =
        .ok (.slice (some ⟨w.heap.size, 0, none⟩) (n + m) newCap) (addObj w.drew (.cells ((old ++ new).toArray ++ rest) e (0, 0))) := by
  obtain ⟨i, z, hsz, hi, hs, hb0, hb1, hz, hzs, _⟩ := elemOK_spec he
  have hu := sliceElem_spec hT
  have hcap : ¬ (281474976710656 < Builtin.nextslicecap (n + m) cap * i.bytes) := by
    have h1 := Go.nextslicecap_le hgt
    have h3 : Builtin.nextslicecap (n + m) cap * i.bytes ≤ 2 * (n + m) * 4096 := Nat.mul_le_mul h1 hb1
    unfold roomy at hroom
    omega
  have hroom' : n + m ≤ 4294967296 := by unfold roomy at hroom; simpa using hroom
  have h63' : ¬ (9223372036854775807 < ((n : Int) + (m : Int))) := by omega
  have hn : ¬ (n + m ≤ cap) := by omega
  have hb0' : i.bytes ≠ 0 := by omega
  have hnc : n + m ≤ grownCap w (n + m) cap e ∧ grownCap w (n + m) cap e < 2 ^ 63 := by
    simp only [grownCap, Question.cut]
    have := Nat.mod_lt (w.tape w.drawn (.appendCap (n + m) cap e)) (show 0 < 2 ^ 63 - (n + m) by omega)
    omega
  have ho := hold w.drew rfl
  have hw := hnew w.drew rfl
  subst hs
  refine ⟨grownCap w (n + m) cap e, Builtin.zeroCells z.cells (grownCap w (n + m) cap e - (n + m)), hnc.1, hnc.2, by rw [zeroCells_size, hzs], ?_⟩
  rcases rowType_spec h2 with ⟨e2, h2⟩ | h2
  all_goals
    simp [Builtin.append_, run_underlying hu, run_underlying h2, sizeOf, typeInfo, zeroValue, hi, hz, hY, hn, h63', hcap, Question.forced, ho, hw, newRow, grownCap]
    show World.alloc _ _ = World.alloc _ _
    congr 2
    apply Array.ext'
    simp

theorem run_append_in {T T2 e : TypeId} {sz n cap m b off : Nat} {Y : Value} {new : List Value} (ty : TypeId)
    (hT : sliceElem P T = some e) (he : elemOK P e sz = true) (h2 : rowType P T2 = true) (hY : ∀ w', (Builtin.lenOf Y).run P w' = .ok m w')
    (hnew : ∀ w', w'.heap = w.heap → (Builtin.firstCells sz m Y).run P w' = .ok new.toArray w') (hle : n + m ≤ cap)
    (hc : ∀ j, j < new.length → (w.cell? ⟨b, off + n * sz + j, none⟩).isSome = true) (hf : ∀ j, j < new.length → w.frozen? ⟨b, off + n * sz + j, none⟩ = false) (h1 : ∀ v ∈ new, v.oneCell' = true) :
    (Builtin.append_ #[T, T2] ty #[.slice (some ⟨b, off, none⟩) n cap, Y]).run P w =
        .ok (.slice (some ⟨b, off, none⟩) (n + m) cap) (w.setCells b (off + n * sz) new) := by
  obtain ⟨i, z, hsz, hi, hs, hb0, hb1, hz, hzs, _⟩ := elemOK_spec he
  have hu := sliceElem_spec hT
  have hw := hnew w rfl
  have hst := run_storeCells_cells (P := P) b (off + n * sz) new 0 w (by simpa using hc) (by simpa using hf) h1
  simp only [Nat.add_zero] at hst
  subst hs
  rcases rowType_spec h2 with ⟨e2, h2⟩ | h2
  all_goals
    simp [Builtin.append_, run_underlying hu, run_underlying h2, sizeOf, typeInfo, hi, hY, hle, hw, add_at, hst]

theorem run_append_none {T T2 e : TypeId} {sz m : Nat} {Y : Value} {new : List Value} (ty : TypeId)
    (hT : sliceElem P T = some e) (he : elemOK P e sz = true) (h2 : rowType P T2 = true) (hY : ∀ w', (Builtin.lenOf Y).run P w' = .ok m w')
    (hnew : ∀ w', w'.heap = w.heap → (Builtin.firstCells sz m Y).run P w' = .ok new.toArray w') (hm : m = 0) :
    (Builtin.append_ #[T, T2] ty #[.slice none 0 0, Y]).run P w = .ok (.slice none 0 0) w := by
  obtain ⟨i, z, hsz, hi, hs, hb0, hb1, hz, hzs, _⟩ := elemOK_spec he
  have hu := sliceElem_spec hT
  have hw := hnew w rfl
  subst hs
  subst hm
  rcases rowType_spec h2 with ⟨e2, h2⟩ | h2
  all_goals
    simp [Builtin.append_, run_underlying hu, run_underlying h2, sizeOf, typeInfo, hi, hY, hw]
end

section
variable {P : Program} {μ : List Nat} {lim : Nat → Nat} {w : World} {σ : St}

theorem cells_of_relL {b o : Nat} {cs : List V} (h : ∀ (k : Nat) (v : V), cs[k]? = some v → ∃ c, w.cell? ⟨b, o + k, none⟩ = some c ∧ RelV μ lim w v c ∧ c.oneCell = true) :
    ∃ new : List Value, new.length = cs.length ∧ (∀ (j : Nat) (v : Value), new[j]? = some v → w.cell? ⟨b, o + j, none⟩ = some v) ∧ RelVs μ lim w cs new ∧ ∀ v ∈ new, v.oneCell = true := by
  let f : Nat → Value := fun k => (w.cell? ⟨b, o + k, none⟩).getD undef
  have hf : ∀ (k : Nat) (v : V), cs[k]? = some v → w.cell? ⟨b, o + k, none⟩ = some (f k) ∧ RelV μ lim w v (f k) ∧ (f k).oneCell = true := by
    intro k v hv
    obtain ⟨c, hc, hr⟩ := h k v hv
    have : f k = c := by simp [f, hc]
    rw [this]; exact ⟨hc, hr⟩
  refine ⟨(List.range cs.length).map f, by simp, ?_, ?_, ?_⟩
  · intro j v hv
    simp only [List.getElem?_map, Option.map_eq_some_iff] at hv
    obtain ⟨k, hk, rfl⟩ := hv
    have hj : j < cs.length := by have := (List.getElem?_eq_some_iff.1 hk).1; simpa using this
    rw [List.getElem?_range hj] at hk
    cases hk
    exact (hf j cs[j] (List.getElem?_eq_getElem hj)).1
  · refine RelVs.of_get (by simp) fun k v x hv hx => ?_
    have hk : k < cs.length := (List.getElem?_eq_some_iff.1 hv).1
    simp only [List.getElem?_map, List.getElem?_range hk, Option.map_some, Option.some.injEq] at hx
    subst hx
    exact (hf k v hv).2.1
  · intro v hv
    simp only [List.mem_map, List.mem_range] at hv
    obtain ⟨k, hk, rfl⟩ := hv
    exact (hf k cs[k] (List.getElem?_eq_getElem hk)).2.2

theorem chunks_flatten (sz : Nat) : ∀ (n : Nat) (cs : List V), n * sz ≤ cs.length → (chunks sz n cs).flatten = cs.take (n * sz) ∧ (chunks sz n cs).length = n ∧ ∀ c ∈ chunks sz n cs, c.length = sz
  | 0, cs, _ => by simp [chunks]
  | n + 1, cs, h => by
    rw [Nat.succ_mul] at h
    obtain ⟨h1, h2, h3⟩ := chunks_flatten sz n (cs.drop sz) (by simp; omega)
    refine ⟨?_, by simp [chunks, h2], ?_⟩
    · simp only [chunks, List.flatten_cons, h1]
      rw [Nat.succ_mul, Nat.add_comm, List.take_add]
    · intro c hc
      simp only [chunks, List.mem_cons] at hc
      rcases hc with rfl | hc
      · simp; omega
      · exact h3 c hc

theorem firstCells_rel {b o : Nat} {cs : List V} (h : ∀ (k : Nat) (v : V), cs[k]? = some v → ∃ c, w.cell? ⟨b, o + k, none⟩ = some c ∧ RelV μ lim w v c ∧ c.oneCell = true) (len cap sz m : Nat) (hl : cs.length = m * sz) :
    ∃ new : List Value, RelVs μ lim w cs new ∧ (∀ v ∈ new, v.oneCell = true) ∧ ∀ w', w'.heap = w.heap → (Builtin.firstCells sz m (.slice (some ⟨b, o, none⟩) len cap)).run P w' = .ok new.toArray w' := by
  obtain ⟨new, h1, h2, h3, h4⟩ := cells_of_relL h
  refine ⟨new, h3, h4, fun w' hw => ?_⟩
  refine run_firstCells_some w' sz m _ len cap new (by omega) fun j v hv => ?_
  rw [add_at, cell_congr (w := w) (by rw [hw])]
  exact h2 j v hv

/-- The elements of what is appended. -/
theorem elems_rel (hw : WRel μ lim w σ) {sz : Nat} {y : V} {Y : Value} {l : List (List V)} (he : elems σ sz y = some l) (hr : RelV μ lim w y Y) :
    ∃ new : List Value, RelVs μ lim w l.flatten new ∧ (∀ v ∈ new, v.oneCell = true) ∧ (∀ cs ∈ l, cs.length = sz) ∧ l.flatten.length = l.length * sz ∧
      (∀ w', (Builtin.lenOf Y).run P w' = .ok l.length w') ∧ ∀ w', w'.heap = w.heap → (Builtin.firstCells sz l.length Y).run P w' = .ok new.toArray w' := by
  unfold elems at he
  split at he
  · rename_i oo sz' l'
    split at he
    case isFalse => cases he
    rename_i hsz
    subst hsz
    cases he
    unfold RelV at hr
    obtain ⟨base, cap, rfl, h1, h2, h3⟩ := hr
    cases base with
    | none =>
      simp only at h3
      have : l = [] := List.eq_nil_of_length_eq_zero (by omega)
      subst this
      refine ⟨[], by simp; unfold RelVs; trivial, by simp, by simp, by simp, fun w' => by simp [Builtin.lenOf], fun w' _ => by simp [Builtin.firstCells]⟩
    | some a =>
      obtain ⟨h4, h5⟩ := h3
      obtain ⟨h6, h7⟩ := h5.flat
      obtain ⟨new, k1, k2, k3⟩ := firstCells_rel (P := P) (fun k v hv => (h6.get hv).2) l.length cap sz' l.length h7
      have ha : a = ⟨a.block, a.off, none⟩ := by cases a; simp at h4; simp [h4]
      rw [ha]
      refine ⟨new, k1, k2, fun cs hcs => ?_, h7, fun w' => by simp [Builtin.lenOf], k3⟩
      obtain ⟨i, hi⟩ := List.getElem?_of_mem hcs
      exact (h5.get hi).1
  · rename_i id off n sz'
    split at he
    case isFalse => cases he
    rename_i hsz
    subst hsz
    split at he
    · rename_i cs hcs
      split at he
      case isFalse => cases he
      rename_i hle
      cases he
      unfold RelV at hr
      obtain ⟨b, cap, h1, h2, h3, rfl, h5⟩ := hr
      have hob := hw.obj id b _ (get_spec hcs) h1
      obtain ⟨f1, f2, f3⟩ := chunks_flatten sz' n (cs.drop off) (by simp; omega)
      have hfl : (chunks sz' n (cs.drop off)).flatten.length = n * sz' := by rw [f1]; simp; omega
      obtain ⟨new, k1, k2, k3⟩ := firstCells_rel (P := P) (μ := μ) (lim := lim) (w := w) (b := b) (o := off) (cs := (chunks sz' n (cs.drop off)).flatten) (fun k v hv => by
        rw [f1, List.getElem?_take] at hv
        split at hv
        · rw [List.getElem?_drop] at hv
          exact hob.2.2.2 _ v hv
        · cases hv) n cap sz' n hfl
      refine ⟨new, k1, k2, f3, by rw [hfl, f2], fun w' => by simp [Builtin.lenOf, f2], ?_⟩
      rw [f2]; exact k3
    · cases he
  · rename_i b
    split at he
    case isFalse => cases he
    rename_i hsz
    subst hsz
    cases he
    rw [relSc hr]
    have hfl : (b.data.toList.map fun c => [V.sc (.int .u8 c.toNat)]).flatten = b.data.toList.map fun c => V.sc (.int .u8 c.toNat) := by
      induction b.data.toList with
      | nil => rfl
      | cons c t ih => simp [ih]
    refine ⟨b.data.toList.map fun c => .int .u8 c.toNat, ?_, ?_, ?_, ?_, fun w' => ?_, fun w' _ => ?_⟩
    · rw [hfl]
      refine RelVs.of_get (by simp) fun k v x hv hx => ?_
      simp only [List.getElem?_map, Option.map_eq_some_iff] at hv hx
      obtain ⟨c, hc, rfl⟩ := hv
      obtain ⟨d, hd, rfl⟩ := hx
      rw [hc] at hd; cases hd
      exact scRel rfl
    · intro v hv
      simp only [List.mem_map] at hv
      obtain ⟨c, _, rfl⟩ := hv
      rfl
    · intro cs hcs
      simp only [List.mem_map] at hcs
      obtain ⟨c, _, rfl⟩ := hcs
      rfl
    · rw [hfl]; simp
    · simp [Builtin.lenOf]
    · simp only [List.length_map, Builtin.firstCells, Sem.run_pure]
      congr 1
      have : b.extract 0 b.data.toList.length = b := by
        have : b.data.toList.length = b.size := by simp
        rw [this]; exact ByteArray.extract_zero_size
      rw [this]
      apply Array.ext'
      simp
  · cases he
end
end Go.Ab
