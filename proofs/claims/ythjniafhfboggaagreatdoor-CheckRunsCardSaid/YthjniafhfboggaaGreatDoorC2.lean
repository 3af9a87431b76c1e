/- Structs and rows that are built; new objects. No premise but those named. -/
import Derived.Test.YthjniafhfboggaaGreatDoorC1
namespace Go.Ab
open Go

/-! ## constants, again and again -/

theorem constsOK_append : ∀ {vs us : List V} {cs ds : List Value}, constsOK vs cs = true → constsOK us ds = true → constsOK (vs ++ us) (cs ++ ds) = true
  | [], _, [], _, _, h => by simpa using h
  | v :: vs, us, c :: cs, ds, h, h' => by
    simp only [constsOK, Bool.and_eq_true, List.cons_append] at *
    exact ⟨h.1, constsOK_append h.2 h'⟩
  | [], _, _ :: _, _, h, _ => by simp [constsOK] at h
  | _ :: _, _, [], _, h, _ => by simp [constsOK] at h
theorem constsOK_length : ∀ {vs : List V} {cs : List Value}, constsOK vs cs = true → vs.length = cs.length
  | [], [], _ => rfl
  | _ :: _, _ :: _, h => by simp only [constsOK, Bool.and_eq_true] at h; simp [constsOK_length h.2]
  | [], _ :: _, h => by simp [constsOK] at h
  | _ :: _, [], h => by simp [constsOK] at h
theorem constsOK_flat {vs : List V} {cs : List Value} (h : constsOK vs cs = true) : ∀ n, constsOK (List.replicate n vs).flatten (List.replicate n cs).flatten = true
  | 0 => rfl
  | n + 1 => by simp only [List.replicate_succ, List.flatten_cons]; exact constsOK_append h (constsOK_flat h n)
theorem constsOK_leaf : ∀ {vs : List V} {cs : List Value}, constsOK vs cs = true → ∀ v ∈ vs, v.leaf = true
  | [], [], _ => by simp
  | v :: vs, c :: cs, h => by
    simp only [constsOK, Bool.and_eq_true] at h
    intro u hu
    rcases List.mem_cons.1 hu with rfl | hu
    · exact (constOK_spec h.1).2.2.1
    · exact constsOK_leaf h.2 u hu
  | [], _ :: _, h => by simp [constsOK] at h
  | _ :: _, [], h => by simp [constsOK] at h

theorem flat_get (cs : List Value) : ∀ (n k : Nat), (List.replicate n cs).flatten[k]? = if k < n * cs.length then cs[k % cs.length]? else none
  | 0, k => by simp
  | n + 1, k => by
    rw [List.replicate_succ, List.flatten_cons, Nat.succ_mul]
    rcases Nat.lt_or_ge k cs.length with h | h
    · rw [List.getElem?_append_left h, if_pos (by omega), Nat.mod_eq_of_lt h]
    · rw [List.getElem?_append_right h, flat_get cs n]
      by_cases h2 : k < n * cs.length + cs.length
      · rw [if_pos (by omega), if_pos h2, Nat.mod_eq_sub_mod h]
      · rw [if_neg (by omega), if_neg h2]

theorem made_flat (z : Array Value) (n : Nat) : (madeCells z (n * z.size)).toList = (List.replicate n z.toList).flatten := by
  apply List.ext_getElem?
  intro k
  rw [flat_get, Array.length_toList]
  by_cases h : k < n * z.size
  · rw [if_pos h]
    have hz : 0 < z.size := by
      rcases Nat.eq_zero_or_pos z.size with h0 | h0
      · rw [h0, Nat.mul_zero] at h; omega
      · exact h0
    have hk := Nat.mod_lt k hz
    simp [madeCells, h, Array.getElem?_eq_getElem hk]
    rw [getElem!_pos z (k % z.size) hk]
  · rw [if_neg h]
    simp [madeCells]; omega

/-! ## structs -/

def partsFit (P : Program) (t : TypeId) (ps : List (Nat × Nat)) (is : List Nat) : Bool := match P.underlying t with
  | some (.array _ e) => match P.info? e with
    | some ie => is.map (fun i => some (i * ie.size, ie.size)) == ps.map some
    | none => false
  | some (.struct fields) => match fields.toList.mapM (fun f => (P.info? f.type).map fun i => (f.offset, i.size)) with
    | some places => is.map (fun i => places.toArray[i]?) == ps.map some
    | none => false
  | _ => false

/-- As fit1, for what is made anew. -/
def fit3 (P : Program) (a : A) (op : Op) : Option (List Operand) :=
  match a with
  | .build zero ps => match op with
    | .build t parts => if zeroOK P t zero && partsFit P t ps (parts.toList.map (·.1)) then some (parts.toList.map (·.2)) else none
    | _ => none
  | .buildSlice sz n zero is => match op with
    | .buildSlice t len parts => match sliceElem P t with
      | some e => if len = n && zeroOK P e zero && zero.length == sz && decide (n * sz ≤ 16777216) && parts.toList.map (·.1) == is then some (parts.toList.map (·.2)) else none
      | none => none
    | _ => none
  | .makeSlice zero _ => match op with
    | .makeSlice t l c => match sliceElem P t with
      | some e => if zeroOK P e zero && elemOK P e zero.length then some [l, c] else none
      | none => none
    | _ => none
  | .alloc t0 zero => match op with
    | .alloc t => if t0 = t && zeroOK P t zero then some [] else none
    | _ => none
  | .allocArr zero => match op with
    | .alloc t => if zeroOK P t zero then some [] else none
    | _ => none
  | .box t0 => match op with
    | .box t x => if t0 = t then some [x] else none
    | _ => none
  | .store n => match op with
    | .store t a x => if isSize P t n && decide (0 < n) then some [a, x] else none
    | _ => none
  | .mkMap => match op with
    | .makeMap _ none => some []
    | .makeMap t (some (.const (.int _ _))) => (match P.underlying t with
      | some (.map _ _) => some []
      | _ => none)
    | _ => none
  | .mapEntry kd zero => match op with
    | .mapEntry t m k => (match P.underlying t with
      | some (.map kt et) => if keyIs P kt kd && zeroVOK P et zero then some [m, k] else none
      | _ => none)
    | _ => none
  | .entryStore => match op with
    | .entryStore _ m i x => some [m, i, x]
    | _ => none
  | .mapSet kd => match op with
    | .mapUpdate t m k x => (match P.underlying t with
      | some (.map kt _) => if keyIs P kt kd then some [m, k, x] else none
      | _ => none)
    | .insert t m k x => (match P.underlying t with
      | some (.map kt _) => if keyIs P kt kd then some [m, k, x] else none
      | _ => none)
    | _ => none
  | _ => none

section
variable {P : Program} {μ : List Nat} {lim : Nat → Nat} {w : World} {σ σ' : St} {o : Oper} {ρ : Operand → Value} {xs : List V} {x : V} {call : CallT} {opers : List Operand}

theorem built_rel {t : TypeId} {zero : List V} {ps : List (Nat × Nat)} {parts : List (Nat × Value)} {cs' : List V} (hz : zeroOK P t zero = true) (hp : partsFit P t ps (parts.map (·.1)) = true)
    (hx : RelVs μ lim w xs (parts.map (·.2))) (hf : fillParts zero ps xs = some cs') : ∃ c' : Array Value, P.built t parts = some c' ∧ RelVs μ lim w cs' c'.toList ∧ NilCells cs' c'.toList := by
  obtain ⟨i, z, h1, h2, h3, h4⟩ := zeroOK_spec hz
  obtain ⟨r1, r2⟩ := constsOK_rel (μ := μ) (lim := lim) (w := w) h3
  have r3 := nilCells_consts h3
  unfold partsFit at hp
  split at hp
  · rename_i n e hu
    split at hp
    case h_2 => cases hp
    rename_i ie hie
    have hp' : parts.map (fun p => some (p.1 * ie.size, ie.size)) = ps.map some := by
      have := eq_of_beq hp
      rw [List.map_map] at this; exact this
    obtain ⟨c', k1, _, k3, k4, _⟩ := fill_rel (fun i => some (i * ie.size, ie.size)) ps xs parts zero z.cells cs' hp' hx r1 r3 hf
    exact ⟨c', by simp [Program.built, h1, hu, h2, hie, k1], k3, k4⟩
  · rename_i fields hu
    split at hp
    case h_2 => cases hp
    rename_i places hpl
    have hp' : parts.map (fun p => places.toArray[p.1]?) = ps.map some := by
      have := eq_of_beq hp
      rw [List.map_map] at this; exact this
    obtain ⟨c', k1, _, k3, k4, _⟩ := fill_rel (fun i => places.toArray[i]?) ps xs parts zero z.cells cs' hp' hx r1 r3 hf
    exact ⟨c', by simp only [Program.built, h1, hu, h2, hpl]; exact k1, k3, k4⟩
  · cases hp

theorem parts_toList (parts : Array (Nat × Operand)) : (parts.map fun (i, x) => (i, ρ x)).toList = parts.toList.map fun p => (p.1, ρ p.2) := by
  rw [Array.toList_map]

theorem d_build {zero : List V} {ps : List (Nat × Nat)} (hw : WRel μ lim w σ) (hf : fit3 P (.build zero ps) o.op = some opers) (hx : RelVs μ lim w xs (opers.map ρ)) (ha : A.act call (.build zero ps) xs σ = some (x, σ')) :
    Done P μ lim w σ o ρ x σ' := by
  obtain ⟨dst, op, ty, pos, after, guard⟩ := o
  simp only [fit3] at hf
  split at hf
  case h_2 => cases hf
  rename_i t parts
  split at hf
  case isFalse => cases hf
  rename_i hc
  simp only [Bool.and_eq_true] at hc
  cases hf
  simp only [A.act, actBuild] at ha
  cases hfp : fillParts zero ps xs with
  | none => simp [hfp] at ha
  | some cs' =>
    simp [hfp] at ha
    obtain ⟨rfl, rfl⟩ := ha
    obtain ⟨c', h1, h2, h3⟩ := built_rel (P := P) (parts := parts.toList.map fun p => (p.1, ρ p.2)) hc.1 (by rw [List.map_map]; exact hc.2) (by rw [List.map_map]; rw [List.map_map] at hx; exact hx) hfp
    refine ⟨_, .agg c', μ, lim, w, ?_, .inl rfl, Chg.refl hw, ?_, h3, ?_⟩
    · have := run_build (P := P) w t (parts.map fun (i, x) => (i, ρ x)) c' (by rw [parts_toList]; exact h1)
      simp [execOp, this]
    · unfold RelV; exact ⟨_, rfl, h2⟩
    · intro _ _ _ _ _ he; cases he

theorem flatten_set (sz : Nat) : ∀ (l : List (List V)) (i : Nat) (xs : List V), (∀ c ∈ l, c.length = sz) → xs.length = sz → i < l.length → (l.set i xs).flatten = splice l.flatten (i * sz) xs
  | [], _, _, _, _, h => by simp at h
  | c :: l, 0, xs, hl, hx, _ => by
    have hc := hl c (by simp)
    simp only [splice, List.set_cons_zero, List.flatten_cons, Nat.zero_mul, List.take_zero, List.nil_append, Nat.zero_add, hx]
    rw [List.drop_append, List.drop_of_length_le (by omega), hc]
    simp
  | c :: l, i + 1, xs, hl, hx, hi => by
    have hc := hl c (by simp)
    have ih := flatten_set sz l i xs (fun c hc => hl c (by simp [hc])) hx (by simpa using hi)
    simp only [List.set_cons_succ, List.flatten_cons, ih]
    simp only [splice, Nat.succ_mul]
    rw [List.take_append, List.drop_append, List.take_of_length_le (show c.length ≤ i * sz + sz by omega), List.drop_of_length_le (show c.length ≤ i * sz + sz + xs.length by omega), hc]
    rw [show i * sz + sz - sz = i * sz by omega, show i * sz + sz + xs.length - sz = i * sz + xs.length by omega]
    simp

theorem flat_len (sz : Nat) : ∀ (l : List (List V)), (∀ c ∈ l, c.length = sz) → l.flatten.length = l.length * sz
  | [], _ => by simp
  | c :: l, h => by
    have := flat_len sz l fun c hc => h c (by simp [hc])
    have hc := h c (by simp)
    simp only [List.flatten_cons, List.length_append, List.length_cons, this, hc, Nat.succ_mul]
    omega

theorem fillElems_flat (sz : Nat) : ∀ (is : List Nat) (xs : List V) (l l' : List (List V)), (∀ c ∈ l, c.length = sz) → fillElems sz l is xs = some l' →
    fillParts l.flatten (is.map fun i => (i * sz, sz)) xs = some l'.flatten ∧ l'.length = l.length ∧ (∀ c ∈ l', c.length = sz) ∧ ∀ x ∈ xs, x.cells.all V.leaf = true
  | [], [], l, l', hl, h => by simp only [fillElems] at h; cases h; exact ⟨rfl, rfl, hl, by simp⟩
  | [], _ :: _, l, l', hl, h => by simp [fillElems] at h
  | _ :: _, [], l, l', hl, h => by simp [fillElems] at h
  | i :: is, x :: xs, l, l', hl, h => by
    simp only [fillElems] at h
    split at h
    case isFalse => cases h
    rename_i hc
    have hxl : x.erase.cells.length = sz := by rw [erase_cells_length]; exact hc.1
    have hl2 : ∀ c ∈ l.set i x.erase.cells, c.length = sz := by
      intro c hm
      rcases List.mem_or_eq_of_mem_set hm with hm | rfl
      · exact hl c hm
      · exact hxl
    obtain ⟨k1, k2, k3, k4⟩ := fillElems_flat sz is xs _ l' hl2 h
    have hfl := flat_len sz l hl
    refine ⟨?_, by rw [k2]; simp, k3, fun y hy => ?_⟩
    · simp only [List.map_cons, fillParts]
      rw [if_pos, ← flatten_set sz l i _ hl hxl hc.2.1]
      · exact k1
      · refine ⟨hc.1, ?_⟩
        rw [hfl, ← Nat.succ_mul]; exact Nat.mul_le_mul_right _ hc.2.1
    · rcases List.mem_cons.1 hy with rfl | hy
      · exact hc.2.2
      · exact k4 y hy
end
end Go.Ab
