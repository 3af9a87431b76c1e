/- What makes something new. No premise but those named. -/
import Derived.Test.YthjniafhfboggaaGreatDoorBY
import Derived.Test.YthjniafhfboggaaGreatDoorAY
import Derived.Laws.Tables
import Derived.Laws.MakeOwn
namespace Go.Ab
open Go

/-- What an operation comes to that takes nothing. -/
def Done (P : Program) (μ : List Nat) (lim : Nat → Nat) (w : World) (σ : St) (o : Oper) (ρ : Operand → Value) (x : V) (σ' : St) : Prop :=
  ∃ nx X μ' lim' w', (execOp ρ o).run P w = .ok nx w' ∧ (nx = .value X ∨ (nx = .skip ∧ o.dst = none ∧ X = undef)) ∧ Chg μ lim w σ μ' lim' w' σ' ∧ RelV μ' lim' w' x X ∧ FreshV w lim' w' x X ∧
    ∀ sz l a n cap, x = .slice .tail sz l → X = .slice (some a) n cap → ∀ id, alive σ' id → μ'[id]? ≠ some a.block

theorem freshV_of_ne {w : World} {lim' : Nat → Nat} {w' : World} {x : V} {X : Value} (h : ∀ o sz l, x ≠ .slice o sz l) (h2 : ∀ cs, x ≠ .agg cs) : FreshV w lim' w' x X := by
  unfold FreshV
  split
  · exact absurd rfl (h2 _)
  · unfold FreshLeaf
    split
    · exact absurd rfl (h _ _ _)
    · trivial
theorem freshV_erase {w : World} {lim' : Nat → Nat} {w' : World} {x : V} {X : Value} : FreshV w lim' w' x.erase X := by
  have := ownV_erase (lim := lim') (w := w') (ow := fun _ => .free) (o := .free) (v := x) (x := X)
  cases x with
  | agg cs =>
    simp only [V.erase] at *
    cases X with
    | agg xs => exact this
    | _ => trivial
  | slice oo sz l => cases oo <;> simp only [V.erase, V.eraseLeaf] <;> cases X <;> trivial
  | _ => simp only [V.erase, V.eraseLeaf]; exact freshV_of_ne (by intro _ _ _ h; cases h) (by intro _ h; cases h)

theorem erase_ne_tail {x : V} {sz : Nat} {l : List (List V)} : x.erase ≠ .slice .tail sz l := by
  cases x with
  | slice oo sz l => cases oo <;> simp [V.erase, V.eraseLeaf]
  | _ => simp [V.erase, V.eraseLeaf]

section
variable {P : Program} {μ : List Nat} {lim : Nat → Nat} {w : World} {σ σ' : St} {o : Oper} {ρ : Operand → Value} {xs : List V} {x : V} {call : CallT} {opers : List Operand}

/-- A quiet operation's result, without leave. -/
theorem Quiet.done (hw : WRel μ lim w σ) (h : Quiet P μ lim w o ρ x) : Done P μ lim w σ o ρ x.erase σ := by
  obtain ⟨X, h1, h2⟩ := h
  exact ⟨_, X, μ, lim, w, h1, .inl rfl, Chg.refl hw, relV_erase.2 h2, freshV_erase, fun _ _ _ _ _ he => absurd he erase_ne_tail⟩

/-! ## cells that are filled -/

theorem foldl_set_get (off : Nat) : ∀ (vs : List Value) (j : Nat) (c : Array Value), off + j + vs.length ≤ c.size →
    ((vs.zipIdx j).foldl (fun cs x => cs.setIfInBounds (off + x.2) x.1) c).size = c.size ∧
    ∀ k, ((vs.zipIdx j).foldl (fun cs x => cs.setIfInBounds (off + x.2) x.1) c)[k]? = if off + j ≤ k ∧ k < off + j + vs.length then vs[k - (off + j)]? else c[k]?
  | [], j, c, _ => ⟨rfl, fun k => by rw [if_neg (by simp only [List.length_nil]; omega)]; rfl⟩
  | v :: vs, j, c, h => by
    simp only [List.length_cons] at h
    obtain ⟨h1, h2⟩ := foldl_set_get off vs (j + 1) (c.setIfInBounds (off + j) v) (by simp; omega)
    simp only [List.zipIdx_cons, List.foldl_cons]
    refine ⟨by rw [h1]; simp, fun k => ?_⟩
    rw [h2 k]
    simp only [List.length_cons]
    by_cases hk : k = off + j
    · subst hk
      rw [if_neg (by omega), if_pos (by omega), Array.getElem?_setIfInBounds_self_of_lt (by omega)]
      simp
    · by_cases h9 : off + (j + 1) ≤ k ∧ k < off + (j + 1) + vs.length
      · rw [if_pos h9, if_pos (by omega), show k - (off + j) = (k - (off + (j + 1))) + 1 by omega, List.getElem?_cons_succ]
      · rw [if_neg h9, if_neg (by omega), Array.getElem?_setIfInBounds_ne (by omega)]

theorem fill_cons {place : Nat → Option (Nat × Nat)} {c : Array Value} {i off n : Nat} {v : Value} {rest : List (Nat × Value)} (hp : place i = some (off, n)) (hs : v.cells.size = n) (hl : off + n ≤ c.size) :
    ∃ c' : Array Value, Instr.fill place c ((i, v) :: rest) = Instr.fill place c' rest ∧ c'.size = c.size ∧ ∀ k, c'[k]? = if off ≤ k ∧ k < off + v.cells.toList.length then v.cells.toList[k - off]? else c[k]? := by
  obtain ⟨h1, h2⟩ := foldl_set_get off v.cells.toList 0 c (by simp; omega)
  refine ⟨v.cells.zipIdx.foldl (fun cs (c, j) => cs.setIfInBounds (off + j) c) c, ?_, ?_, ?_⟩
  · simp only [Instr.fill, hp]
    rw [if_neg]
    simp only [Bool.or_eq_true, decide_eq_true_eq, not_or]
    omega
  · rw [← Array.foldl_toList, Array.toList_zipIdx]; exact h1
  · intro k
    rw [← Array.foldl_toList, Array.toList_zipIdx]
    have := h2 k
    simpa using this

/-- Each cell is nil, or may not be appended to. -/
def NilCells (cs : List V) (c : List Value) : Prop := ∀ (k : Nat) (v : V) (y : Value), cs[k]? = some v → c[k]? = some y → NilLeaf v y

theorem nilLeaf_eraseLeaf {v : V} {y : Value} : NilLeaf v.eraseLeaf y := by
  cases v with
  | slice oo sz l => cases oo <;> simp only [V.eraseLeaf] <;> cases y <;> trivial
  | _ => simp only [V.eraseLeaf]; cases y <;> trivial
theorem erase_cells_leaf {x v : V} (h : v ∈ x.erase.cells) : ∃ u : V, v = u.eraseLeaf := by
  cases x with
  | agg cs =>
    simp only [V.erase, V.cells, List.mem_map] at h
    obtain ⟨u, _, rfl⟩ := h
    exact ⟨u, rfl⟩
  | slice oo sz l => cases oo <;> simp [V.erase, V.eraseLeaf, V.cells] at h <;> exact ⟨v, by subst h; rfl⟩
  | _ => simp [V.erase, V.eraseLeaf, V.cells] at h; exact ⟨v, by subst h; rfl⟩

theorem nilLeaf_const {v : V} {c : Value} (h : constOK v c = true) : NilLeaf v c := by
  unfold constOK at h
  split at h <;> first | trivial | (unfold NilLeaf; split <;> simp_all; done) | (simp at h; done)

theorem nilCells_consts : ∀ {vs : List V} {cs : List Value}, constsOK vs cs = true → NilCells vs cs
  | [], [], _ => fun k v y hv _ => by simp at hv
  | v :: vs, c :: cs, h => by
    simp only [constsOK, Bool.and_eq_true] at h
    intro k u y hu hy
    cases k with
    | zero => simp at hu hy; subst hu; subst hy; exact nilLeaf_const h.1
    | succ k => exact nilCells_consts h.2 k u y (by simpa using hu) (by simpa using hy)
  | [], _ :: _, h => by simp [constsOK] at h
  | _ :: _, [], h => by simp [constsOK] at h

theorem nilCells_splice {cs xs : List V} {c c' : Array Value} {vs : List Value} {off : Nat} (h : NilCells cs c.toList) (hx : NilCells xs vs) (hl : off + xs.length ≤ cs.length) (hlen : xs.length = vs.length)
    (hg : ∀ k, c'[k]? = if off ≤ k ∧ k < off + vs.length then vs[k - off]? else c[k]?) : NilCells (splice cs off xs) c'.toList := by
  intro k v y hv hy
  rw [splice_get hl] at hv
  rw [Array.getElem?_toList, hg k] at hy
  rw [hlen] at hv
  split at hv
  · rename_i hk; rw [if_pos hk] at hy; exact hx _ v y hv hy
  · rename_i hk; rw [if_neg hk] at hy; exact h k v y hv (by rw [Array.getElem?_toList]; exact hy)

theorem erase_cells_length (x : V) : x.erase.cells.length = x.cells.length := by
  cases x with
  | slice oo sz l => cases oo <;> simp [V.erase, V.eraseLeaf, V.cells]
  | _ => simp [V.erase, V.eraseLeaf, V.cells]

theorem fill_rel (place : Nat → Option (Nat × Nat)) : ∀ (ps : List (Nat × Nat)) (xs : List V) (parts : List (Nat × Value)) (cs : List V) (c : Array Value) (cs' : List V),
    parts.map (fun p => place p.1) = ps.map some → RelVs μ lim w xs (parts.map (·.2)) → RelVs μ lim w cs c.toList → NilCells cs c.toList → fillParts cs ps xs = some cs' →
    ∃ c' : Array Value, Instr.fill place c parts = some c' ∧ c'.size = c.size ∧ RelVs μ lim w cs' c'.toList ∧ NilCells cs' c'.toList ∧ cs'.length = cs.length ∧
      ((∀ v ∈ c.toList, v.oneCell = true) → (∀ p ∈ parts, ∀ v ∈ p.2.cells.toList, v.oneCell = true) → ∀ v ∈ c'.toList, v.oneCell = true)
  | [], xs, parts, cs, c, cs', hp, hx, hc, hn, hf => by
    cases parts with
    | cons _ _ => simp at hp
    | nil => cases xs with
      | cons _ _ => simp only [List.map_nil] at hx; unfold RelVs at hx; exact hx.elim
      | nil => simp only [fillParts] at hf; cases hf; exact ⟨c, rfl, rfl, hc, hn, rfl, fun h _ => h⟩
  | (off, n) :: ps, xs, parts, cs, c, cs', hp, hx, hc, hn, hf => by
    cases parts with
    | nil => simp at hp
    | cons p parts => cases xs with
      | nil => simp only [List.map_cons] at hx; unfold RelVs at hx; exact hx.elim
      | cons x xs =>
        obtain ⟨i, v⟩ := p
        simp only [List.map_cons, List.cons.injEq] at hp
        simp only [List.map_cons] at hx
        unfold RelVs at hx
        simp only [fillParts] at hf
        split at hf
        case isFalse => cases hf
        rename_i hcond
        have hcl : cs.length = c.size := by rw [hc.length]; simp
        have hvs : v.cells.size = n := by rw [hx.1.cells_size]; exact hcond.1
        obtain ⟨c1, k1, k2, k3⟩ := fill_cons (c := c) (rest := parts) hp.1 hvs (by omega)
        have hxe : RelVs μ lim w x.erase.cells v.cells.toList := (relV_erase.2 hx.1).cells
        have hxl : x.erase.cells.length = n := by rw [erase_cells_length]; exact hcond.1
        have r1 := relVs_splice hc hxe (by omega) k2 k3
        have r2 : NilCells (splice cs off x.erase.cells) c1.toList := nilCells_splice hn (fun k u y hu _ => by
          obtain ⟨u', rfl⟩ := erase_cells_leaf (List.mem_of_getElem? hu); exact nilLeaf_eraseLeaf) (by omega) hxe.length k3
        obtain ⟨c2, m1, m2, m3, m4, m5, m6⟩ := fill_rel place ps xs parts _ c1 cs' hp.2 hx.2 r1 r2 hf
        refine ⟨c2, by rw [k1]; exact m1, m2.trans k2, m3, m4, by rw [m5, splice_length (by omega)], fun h h' => m6 ?_ (fun p hp => h' p (by simp [hp]))⟩
        intro u hu
        obtain ⟨k, hk⟩ := List.getElem?_of_mem hu
        rw [Array.getElem?_toList, k3 k] at hk
        split at hk
        · exact h' (i, v) (by simp) u (List.mem_of_getElem? hk)
        · exact h u (List.mem_of_getElem? (by rw [Array.getElem?_toList]; exact hk))
end
end Go.Ab
