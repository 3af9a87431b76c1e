/- How the abstract machine's values lie in memory, and that what lies there stays. No premise but those named. -/
import Derived.Test.YthjniafhfboggaaGreatDoorA1
import Derived.Wp
import Derived.Tactics
import Derived.Laws.IdiomCopy
import Derived.Laws.Cells
import Derived.WideLaws
import Derived.Laws.Build
import Derived.Laws.Unary
import Derived.Laws.Strings
namespace Go.Ab
open Go

/-- How many cells a block has. -/
def bsize (w : World) (b : Nat) : Nat :=
  match w.heap[b]? with
  | some (.cells c _ _) => c.size
  | _ => 0

/-- No struct, no array. -/
def _root_.Go.Value.noAgg : Value → Bool
  | .agg _ => false
  | _ => true

mutual
/-- The value x, in the world w, is the abstract value: objects lie in the blocks μ; of each block the first cells, lim many, are written no more. -/
def RelV (μ : List Nat) (lim : Nat → Nat) (w : World) : V → Value → Prop
  | .sc v, x => x = v ∧ v.noAgg = true
  | .slice o sz l, x => ∃ base cap, x = .slice base l.length cap ∧ (l.length ≤ cap ∧ (o = .shut → cap = l.length)) ∧ cap < 2 ^ 63 ∧
      (match base with
       | none => cap = 0
       | some a => a.spot = none ∧ RelLL μ lim w sz a.block a.off l)
  | .ptr id off, x => ∃ b, μ[id]? = some b ∧ x = .pointer (some ⟨b, off, none⟩)
  | .imm cs, x => ∃ b o, x = .pointer (some ⟨b, o, none⟩) ∧ RelL μ lim w b o cs
  | .arr id off n sz, x => ∃ b cap, μ[id]? = some b ∧ n ≤ cap ∧ cap < 2 ^ 63 ∧ x = .slice (some ⟨b, off, none⟩) n cap ∧
      off + cap * sz ≤ bsize w b
  | .map id, x => ∃ b, μ[id]? = some b ∧ x = .map (some b)
  | .func fn first cap, x => ∃ f' c', x = .func fn f' c' ∧ RelVs μ lim w first f'.toList ∧ RelVs μ lim w cap c'.toList
  | .iface t v, x => ∃ y, x = .iface t y ∧ RelV μ lim w v y
  | .agg cs, x => ∃ xs, x = .agg xs ∧ RelVs μ lim w cs xs.toList
  | .tup vs, x => ∃ xs, x = .tuple xs ∧ RelVs μ lim w vs xs.toList
def RelVs (μ : List Nat) (lim : Nat → Nat) (w : World) : List V → List Value → Prop
  | [], [] => True
  | v :: vs, x :: xs => RelV μ lim w v x ∧ RelVs μ lim w vs xs
  | _, _ => False
def RelL (μ : List Nat) (lim : Nat → Nat) (w : World) (b o : Nat) : List V → Prop
  | [] => True
  | v :: vs => (o < lim b ∧ ∃ c, w.cell? ⟨b, o, none⟩ = some c ∧ RelV μ lim w v c ∧ c.oneCell = true) ∧ RelL μ lim w b (o + 1) vs
def RelLL (μ : List Nat) (lim : Nat → Nat) (w : World) (sz b o : Nat) : List (List V) → Prop
  | [] => True
  | cs :: l => cs.length = sz ∧ RelL μ lim w b o cs ∧ RelLL μ lim w sz b (o + sz) l
end

theorem cell_lt {w : World} {b o : Nat} {c : Value} (h : w.cell? ⟨b, o, none⟩ = some c) : o < bsize w b := by
  unfold World.cell? at h
  unfold bsize
  cases hb : w.heap[b]? with
  | none => simp [hb] at h
  | some x => cases x <;> simp [hb] at h ⊢; exact (Array.getElem?_eq_some_iff.1 h).1

theorem cell_of_lt {w : World} {b o : Nat} (h : o < bsize w b) : ∃ c, w.cell? ⟨b, o, none⟩ = some c := by
  unfold bsize at h
  unfold World.cell?
  cases hb : w.heap[b]? with
  | none => simp [hb] at h
  | some x => cases x <;> simp [hb] at h ⊢; exact ⟨_, Array.getElem?_eq_getElem h⟩

theorem cell_congr {w w' : World} {b : Nat} (h : w'.heap[b]? = w.heap[b]?) (o : Nat) : w'.cell? ⟨b, o, none⟩ = w.cell? ⟨b, o, none⟩ := by
  unfold World.cell?; simp only [h]
theorem frozen_congr {w w' : World} {b : Nat} (h : w'.heap[b]? = w.heap[b]?) (o : Nat) : w'.frozen? ⟨b, o, none⟩ = w.frozen? ⟨b, o, none⟩ := by
  unfold World.frozen?; simp only [h]
theorem bsize_congr {w w' : World} {b : Nat} (h : w'.heap[b]? = w.heap[b]?) : bsize w' b = bsize w b := by
  unfold bsize; rw [h]

/-- What is written no more stays. -/
structure Ext (μ : List Nat) (lim : Nat → Nat) (w : World) (μ' : List Nat) (lim' : Nat → Nat) (w' : World) : Prop where
  pre : ∀ (id b : Nat), μ[id]? = some b → μ'[id]? = some b
  imm : ∀ b o, o < lim b → o < lim' b ∧ w'.cell? ⟨b, o, none⟩ = w.cell? ⟨b, o, none⟩
  size : ∀ b, bsize w b ≤ bsize w' b

theorem Ext.refl (μ : List Nat) (lim : Nat → Nat) (w : World) : Ext μ lim w μ lim w := ⟨fun _ _ h => h, fun _ _ h => ⟨h, rfl⟩, fun _ => Nat.le_refl _⟩
theorem Ext.trans {μ lim w μ1 lim1 w1 μ2 lim2 w2} (h : Ext μ lim w μ1 lim1 w1) (k : Ext μ1 lim1 w1 μ2 lim2 w2) : Ext μ lim w μ2 lim2 w2 :=
  ⟨fun id b x => k.pre id b (h.pre id b x), fun b o x => ⟨(k.imm b o (h.imm b o x).1).1, ((k.imm b o (h.imm b o x).1).2).trans (h.imm b o x).2⟩,
   fun b => Nat.le_trans (h.size b) (k.size b)⟩

section
variable {μ : List Nat} {lim : Nat → Nat} {w : World} {μ' : List Nat} {lim' : Nat → Nat} {w' : World}

mutual
theorem RelV.ext (h : Ext μ lim w μ' lim' w') : ∀ (v : V) (x : Value), RelV μ lim w v x → RelV μ' lim' w' v x
  | .sc v, x, r => by unfold RelV at *; exact r
  | .slice o sz l, x, r => by
    unfold RelV at *
    obtain ⟨base, cap, h1, h2, h3, h4⟩ := r
    refine ⟨base, cap, h1, h2, h3, ?_⟩
    cases base with
    | none => exact h4
    | some a => exact ⟨h4.1, RelLL.ext h sz a.block a.off l h4.2⟩
  | .ptr id off, x, r => by unfold RelV at *; obtain ⟨b, h1, h2⟩ := r; exact ⟨b, h.pre _ _ h1, h2⟩
  | .imm cs, x, r => by unfold RelV at *; obtain ⟨b, o, h1, h2⟩ := r; exact ⟨b, o, h1, RelL.ext h b o cs h2⟩
  | .arr id off n sz, x, r => by
    unfold RelV at *
    obtain ⟨b, cap, h1, h2, h3, h4, h5⟩ := r
    exact ⟨b, cap, h.pre _ _ h1, h2, h3, h4, Nat.le_trans h5 (h.size b)⟩
  | .map id, x, r => by unfold RelV at *; obtain ⟨b, h1, h2⟩ := r; exact ⟨b, h.pre _ _ h1, h2⟩
  | .func fn a b, x, r => by
    unfold RelV at *
    obtain ⟨f, c, h1, h2, h3⟩ := r
    exact ⟨f, c, h1, RelVs.ext h a _ h2, RelVs.ext h b _ h3⟩
  | .iface t v, x, r => by unfold RelV at *; obtain ⟨y, h1, h2⟩ := r; exact ⟨y, h1, RelV.ext h v y h2⟩
  | .agg cs, x, r => by unfold RelV at *; obtain ⟨y, h1, h2⟩ := r; exact ⟨y, h1, RelVs.ext h cs _ h2⟩
  | .tup cs, x, r => by unfold RelV at *; obtain ⟨y, h1, h2⟩ := r; exact ⟨y, h1, RelVs.ext h cs _ h2⟩
theorem RelVs.ext (h : Ext μ lim w μ' lim' w') : ∀ (vs : List V) (xs : List Value), RelVs μ lim w vs xs → RelVs μ' lim' w' vs xs
  | [], [], _ => by unfold RelVs; trivial
  | v :: vs, x :: xs, r => by unfold RelVs at *; exact ⟨RelV.ext h v x r.1, RelVs.ext h vs xs r.2⟩
  | [], _ :: _, r => by unfold RelVs at r; exact r.elim
  | _ :: _, [], r => by unfold RelVs at r; exact r.elim
theorem RelL.ext (h : Ext μ lim w μ' lim' w') (b o : Nat) : ∀ (vs : List V), RelL μ lim w b o vs → RelL μ' lim' w' b o vs
  | [], _ => by unfold RelL; trivial
  | v :: vs, r => by
    unfold RelL at *
    obtain ⟨⟨h1, c, h2, h3⟩, h4⟩ := r
    exact ⟨⟨(h.imm b o h1).1, c, (h.imm b o h1).2.trans h2, RelV.ext h v c h3.1, h3.2⟩, RelL.ext h b (o + 1) vs h4⟩
theorem RelLL.ext (h : Ext μ lim w μ' lim' w') (sz b o : Nat) : ∀ (l : List (List V)), RelLL μ lim w sz b o l → RelLL μ' lim' w' sz b o l
  | [], _ => by unfold RelLL; trivial
  | cs :: l, r => by
    unfold RelLL at *
    exact ⟨r.1, RelL.ext h b o cs r.2.1, RelLL.ext h sz b (o + sz) l r.2.2⟩
end
end

section
variable {μ : List Nat} {lim : Nat → Nat} {w : World}

mutual
/-- A value that leads to objects below n alone is so too where the others are forgotten. -/
theorem RelV.cut (n : Nat) : ∀ (v : V) (x : Value), v.inside n = true → RelV μ lim w v x → RelV (μ.take n) lim w v x
  | .sc v, x, _, r => by unfold RelV at *; exact r
  | .slice o sz l, x, i, r => by
    unfold RelV at *; unfold V.inside at i
    obtain ⟨base, cap, h1, h2, h3, h4⟩ := r
    refine ⟨base, cap, h1, h2, h3, ?_⟩
    cases base with
    | none => exact h4
    | some a => exact ⟨h4.1, RelLL.cut n sz a.block a.off l i h4.2⟩
  | .ptr id off, x, i, r => by
    unfold RelV at *; unfold V.inside at i
    obtain ⟨b, h1, h2⟩ := r; exact ⟨b, by rw [List.getElem?_take_of_lt (of_decide_eq_true i)]; exact h1, h2⟩
  | .imm cs, x, i, r => by unfold RelV at *; unfold V.inside at i; obtain ⟨b, o, h1, h2⟩ := r; exact ⟨b, o, h1, RelL.cut n b o cs i h2⟩
  | .arr id off k sz, x, i, r => by
    unfold RelV at *; unfold V.inside at i
    obtain ⟨b, cap, h1, h2⟩ := r
    exact ⟨b, cap, by rw [List.getElem?_take_of_lt (of_decide_eq_true i)]; exact h1, h2⟩
  | .map id, x, i, r => by
    unfold RelV at *; unfold V.inside at i
    obtain ⟨b, h1, h2⟩ := r; exact ⟨b, by rw [List.getElem?_take_of_lt (of_decide_eq_true i)]; exact h1, h2⟩
  | .func fn a b, x, i, r => by
    unfold RelV at *; unfold V.inside at i
    simp only [Bool.and_eq_true] at i
    obtain ⟨f, c, h1, h2, h3⟩ := r
    exact ⟨f, c, h1, RelVs.cut n a _ i.1 h2, RelVs.cut n b _ i.2 h3⟩
  | .iface t v, x, i, r => by unfold RelV at *; unfold V.inside at i; obtain ⟨y, h1, h2⟩ := r; exact ⟨y, h1, RelV.cut n v y i h2⟩
  | .agg cs, x, i, r => by unfold RelV at *; unfold V.inside at i; obtain ⟨y, h1, h2⟩ := r; exact ⟨y, h1, RelVs.cut n cs _ i h2⟩
  | .tup cs, x, i, r => by unfold RelV at *; unfold V.inside at i; obtain ⟨y, h1, h2⟩ := r; exact ⟨y, h1, RelVs.cut n cs _ i h2⟩
theorem RelVs.cut (n : Nat) : ∀ (vs : List V) (xs : List Value), insideL n vs = true → RelVs μ lim w vs xs → RelVs (μ.take n) lim w vs xs
  | [], [], _, _ => by unfold RelVs; trivial
  | v :: vs, x :: xs, i, r => by
    unfold RelVs at *; unfold insideL at i; simp only [Bool.and_eq_true] at i
    exact ⟨RelV.cut n v x i.1 r.1, RelVs.cut n vs xs i.2 r.2⟩
  | [], _ :: _, _, r => by unfold RelVs at r; exact r.elim
  | _ :: _, [], _, r => by unfold RelVs at r; exact r.elim
theorem RelL.cut (n b o : Nat) : ∀ (vs : List V), insideL n vs = true → RelL μ lim w b o vs → RelL (μ.take n) lim w b o vs
  | [], _, _ => by unfold RelL; trivial
  | v :: vs, i, r => by
    unfold RelL at *; unfold insideL at i; simp only [Bool.and_eq_true] at i
    obtain ⟨⟨h1, c, h2, h3⟩, h4⟩ := r
    exact ⟨⟨h1, c, h2, RelV.cut n v c i.1 h3.1, h3.2⟩, RelL.cut n b (o + 1) vs i.2 h4⟩
theorem RelLL.cut (n sz b o : Nat) : ∀ (l : List (List V)), insideLL n l = true → RelLL μ lim w sz b o l → RelLL (μ.take n) lim w sz b o l
  | [], _, _ => by unfold RelLL; trivial
  | cs :: l, i, r => by
    unfold RelLL at *; unfold insideLL at i; simp only [Bool.and_eq_true] at i
    exact ⟨r.1, RelL.cut n b o cs i.1 r.2.1, RelLL.cut n sz b (o + sz) l i.2 r.2.2⟩
end

theorem RelVs.length : ∀ {vs : List V} {xs : List Value}, RelVs μ lim w vs xs → vs.length = xs.length
  | [], [], _ => rfl
  | _ :: _, _ :: _, r => by unfold RelVs at r; simp [RelVs.length r.2]
  | [], _ :: _, r => by unfold RelVs at r; exact r.elim
  | _ :: _, [], r => by unfold RelVs at r; exact r.elim

theorem RelVs.get : ∀ {vs : List V} {xs : List Value}, RelVs μ lim w vs xs → ∀ {k : Nat} {v : V}, vs[k]? = some v → ∃ x, xs[k]? = some x ∧ RelV μ lim w v x
  | [], _, _, k, v, h => by simp at h
  | _ :: _, x :: _, r, 0, v, h => by unfold RelVs at r; simp at h; subst h; exact ⟨x, by simp, r.1⟩
  | _ :: _, _ :: _, r, k + 1, v, h => by
    unfold RelVs at r
    obtain ⟨x, h1, h2⟩ := RelVs.get r.2 (k := k) (v := v) (by simpa using h)
    exact ⟨x, by simpa using h1, h2⟩
  | _ :: _, [], r, _, _, _ => by unfold RelVs at r; exact r.elim

theorem RelVs.of_get : ∀ {vs : List V} {xs : List Value}, vs.length = xs.length → (∀ (k : Nat) (v : V) (x : Value), vs[k]? = some v → xs[k]? = some x → RelV μ lim w v x) → RelVs μ lim w vs xs
  | [], [], _, _ => by unfold RelVs; trivial
  | v :: vs, x :: xs, hl, h => by
    unfold RelVs
    exact ⟨h 0 v x (by simp) (by simp), RelVs.of_get (by simpa using hl) fun k v x hv hx => h (k + 1) v x (by simpa using hv) (by simpa using hx)⟩
  | [], _ :: _, hl, _ => by simp at hl
  | _ :: _, [], hl, _ => by simp at hl

theorem RelVs.get' {vs : List V} {xs : List Value} (r : RelVs μ lim w vs xs) {k : Nat} {v : V} {x : Value} (hv : vs[k]? = some v) (hx : xs[k]? = some x) : RelV μ lim w v x := by
  obtain ⟨y, h1, h2⟩ := r.get hv
  rw [hx] at h1; cases h1; exact h2

theorem RelVs.append : ∀ {vs us : List V} {xs ys : List Value}, RelVs μ lim w vs xs → RelVs μ lim w us ys → RelVs μ lim w (vs ++ us) (xs ++ ys)
  | [], _, [], _, _, h => h
  | _ :: _, _, _ :: _, _, r, h => by unfold RelVs at r; simp only [List.cons_append]; unfold RelVs; exact ⟨r.1, RelVs.append r.2 h⟩
  | [], _, _ :: _, _, r, _ => by unfold RelVs at r; exact r.elim
  | _ :: _, _, [], _, r, _ => by unfold RelVs at r; exact r.elim

theorem RelVs.take {vs : List V} {xs : List Value} (r : RelVs μ lim w vs xs) (n : Nat) : RelVs μ lim w (vs.take n) (xs.take n) :=
  RelVs.of_get (by simp [r.length]) fun k v x hv hx => by
    rw [List.getElem?_take] at hv hx
    split at hv
    · rename_i hk; rw [if_pos hk] at hx; exact r.get' hv hx
    · simp at hv
theorem RelVs.drop {vs : List V} {xs : List Value} (r : RelVs μ lim w vs xs) (n : Nat) : RelVs μ lim w (vs.drop n) (xs.drop n) :=
  RelVs.of_get (by simp [r.length]) fun k v x hv hx => by
    rw [List.getElem?_drop] at hv hx
    exact r.get' hv hx

theorem RelL.get : ∀ {vs : List V} {b o : Nat}, RelL μ lim w b o vs → ∀ {k : Nat} {v : V}, vs[k]? = some v → o + k < lim b ∧ ∃ c, w.cell? ⟨b, o + k, none⟩ = some c ∧ RelV μ lim w v c ∧ c.oneCell = true
  | [], _, _, _, k, v, h => by simp at h
  | _ :: _, _, _, r, 0, v, h => by unfold RelL at r; simp at h; subst h; exact r.1
  | _ :: _, b, o, r, k + 1, v, h => by
    unfold RelL at r
    have := RelL.get r.2 (k := k) (v := v) (by simpa using h)
    rw [show o + (k + 1) = o + 1 + k by omega]; exact this

theorem RelL.of_get : ∀ {vs : List V} {b o : Nat}, (∀ (k : Nat) (v : V), vs[k]? = some v → o + k < lim b ∧ ∃ c, w.cell? ⟨b, o + k, none⟩ = some c ∧ RelV μ lim w v c ∧ c.oneCell = true) → RelL μ lim w b o vs
  | [], _, _, _ => by unfold RelL; trivial
  | v :: vs, b, o, h => by
    unfold RelL
    refine ⟨by simpa using h 0 v (by simp), RelL.of_get fun k v hv => ?_⟩
    have := h (k + 1) v (by simpa using hv)
    rw [show o + 1 + k = o + (k + 1) by omega]; exact this

theorem RelL.drop {vs : List V} {b o : Nat} (r : RelL μ lim w b o vs) (n : Nat) : RelL μ lim w b (o + n) (vs.drop n) :=
  RelL.of_get fun k v hv => by
    rw [List.getElem?_drop] at hv
    have := r.get hv
    rw [show o + n + k = o + (n + k) by omega]; exact this

theorem RelL.append : ∀ {vs us : List V} {b o : Nat}, RelL μ lim w b o vs → RelL μ lim w b (o + vs.length) us → RelL μ lim w b o (vs ++ us)
  | [], _, _, _, _, h => by simpa using h
  | v :: vs, us, b, o, r, h => by
    unfold RelL at r; simp only [List.cons_append]; unfold RelL
    refine ⟨r.1, RelL.append r.2 ?_⟩
    rw [show o + 1 + vs.length = o + (v :: vs).length by simp; omega]; exact h

theorem RelLL.get : ∀ {l : List (List V)} {sz b o : Nat}, RelLL μ lim w sz b o l → ∀ {i : Nat} {cs : List V}, l[i]? = some cs → cs.length = sz ∧ RelL μ lim w b (o + i * sz) cs
  | [], _, _, _, _, i, cs, h => by simp at h
  | c :: l, sz, b, o, r, 0, cs, h => by unfold RelLL at r; simp at h; subst h; simp; exact ⟨r.1, r.2.1⟩
  | c :: l, sz, b, o, r, i + 1, cs, h => by
    unfold RelLL at r
    have := RelLL.get r.2.2 (i := i) (cs := cs) (by simpa using h)
    rw [show o + (i + 1) * sz = o + sz + i * sz by rw [Nat.succ_mul]; omega]; exact this

theorem RelLL.of_get : ∀ {l : List (List V)} {sz b o : Nat}, (∀ (i : Nat) (cs : List V), l[i]? = some cs → cs.length = sz ∧ RelL μ lim w b (o + i * sz) cs) → RelLL μ lim w sz b o l
  | [], _, _, _, _ => by unfold RelLL; trivial
  | c :: l, sz, b, o, h => by
    unfold RelLL
    have h0 := h 0 c (by simp)
    simp only [Nat.zero_mul, Nat.add_zero] at h0
    refine ⟨h0.1, h0.2, RelLL.of_get fun i cs hc => ?_⟩
    have := h (i + 1) cs (by simpa using hc)
    rw [show o + sz + i * sz = o + (i + 1) * sz by rw [Nat.succ_mul]; omega]; exact this

theorem RelLL.append {l l' : List (List V)} {sz b o : Nat} (r : RelLL μ lim w sz b o l) (r' : RelLL μ lim w sz b (o + l.length * sz) l') : RelLL μ lim w sz b o (l ++ l') :=
  RelLL.of_get fun i cs h => by
    by_cases hi : i < l.length
    · rw [List.getElem?_append_left hi] at h; exact r.get h
    · rw [List.getElem?_append_right (by omega)] at h
      have := r'.get h
      rw [show o + l.length * sz + (i - l.length) * sz = o + i * sz by rw [Nat.sub_mul]; have := Nat.mul_le_mul_right sz (show l.length ≤ i by omega); omega] at this
      exact this

theorem RelLL.drop {l : List (List V)} {sz b o : Nat} (r : RelLL μ lim w sz b o l) (n : Nat) : RelLL μ lim w sz b (o + n * sz) (l.drop n) :=
  RelLL.of_get fun i cs h => by
    rw [List.getElem?_drop] at h
    have := r.get h
    rw [show o + n * sz + i * sz = o + (n + i) * sz by rw [Nat.add_mul]; omega]; exact this
theorem RelLL.take {l : List (List V)} {sz b o : Nat} (r : RelLL μ lim w sz b o l) (n : Nat) : RelLL μ lim w sz b o (l.take n) :=
  RelLL.of_get fun i cs h => by
    rw [List.getElem?_take] at h
    split at h
    · exact r.get h
    · simp at h

/-- All cells of a row of rows, one behind the other. -/
theorem RelLL.flat : ∀ {l : List (List V)} {sz b o : Nat}, RelLL μ lim w sz b o l → RelL μ lim w b o l.flatten ∧ l.flatten.length = l.length * sz
  | [], _, _, _, _ => by simp; unfold RelL; trivial
  | c :: l, sz, b, o, r => by
    unfold RelLL at r
    have := RelLL.flat r.2.2
    simp only [List.flatten_cons]
    refine ⟨RelL.append r.2.1 (by rw [r.1]; exact this.1), ?_⟩
    simp [r.1, this.2, Nat.succ_mul]; omega

theorem RelLL.of_flat : ∀ {l : List (List V)} {sz b o : Nat}, (∀ cs ∈ l, cs.length = sz) → RelL μ lim w b o l.flatten → RelLL μ lim w sz b o l
  | [], _, _, _, _, _ => by unfold RelLL; trivial
  | c :: l, sz, b, o, h, r => by
    unfold RelLL
    have hc := h c (by simp)
    simp only [List.flatten_cons] at r
    refine ⟨hc, RelL.of_get fun k v hv => ?_, RelLL.of_flat (fun cs hm => h cs (by simp [hm])) (RelL.of_get fun k v hv => ?_)⟩
    · exact r.get (by rw [List.getElem?_append_left (List.getElem?_eq_some_iff.1 hv).1]; exact hv)
    · have := r.get (k := sz + k) (v := v) (by rw [List.getElem?_append_right (by omega)]; rw [hc]; simpa using hv)
      rw [show o + sz + k = o + (sz + k) by omega]; exact this

theorem relV_eraseLeaf {v : V} {x : Value} : RelV μ lim w v.eraseLeaf x ↔ RelV μ lim w v x := by
  cases v with
  | slice o sz l => cases o <;> simp only [V.eraseLeaf] <;> unfold RelV <;> simp
  | _ => simp only [V.eraseLeaf]

theorem relVs_eraseLeaf : ∀ {vs : List V} {xs : List Value}, RelVs μ lim w (vs.map V.eraseLeaf) xs ↔ RelVs μ lim w vs xs
  | [], [] => by simp
  | v :: vs, x :: xs => by simp only [List.map_cons]; unfold RelVs; rw [relV_eraseLeaf, relVs_eraseLeaf]
  | [], _ :: _ => by simp
  | _ :: _, [] => by simp only [List.map_cons]; unfold RelVs; rfl

theorem relV_erase {v : V} {x : Value} : RelV μ lim w v.erase x ↔ RelV μ lim w v x := by
  cases v with
  | agg cs => simp only [V.erase]; unfold RelV; simp only [relVs_eraseLeaf]
  | _ => simp only [V.erase]; exact relV_eraseLeaf

theorem RelV.noAgg {v : V} {x : Value} (h : RelV μ lim w v x) (hv : ∀ cs, v ≠ .agg cs) : x.noAgg = true := by
  cases v with
  | agg cs => exact absurd rfl (hv cs)
  | sc u => unfold RelV at h; rw [h.1]; exact h.2
  | slice o sz l => unfold RelV at h; obtain ⟨_, _, rfl, _⟩ := h; rfl
  | ptr id off => unfold RelV at h; obtain ⟨_, _, rfl⟩ := h; rfl
  | imm cs => unfold RelV at h; obtain ⟨_, _, rfl, _⟩ := h; rfl
  | arr id off n sz => unfold RelV at h; obtain ⟨_, _, _, _, _, rfl, _⟩ := h; rfl
  | map id => unfold RelV at h; obtain ⟨_, _, rfl⟩ := h; rfl
  | func fn a b => unfold RelV at h; obtain ⟨_, _, rfl, _⟩ := h; rfl
  | iface t v => unfold RelV at h; obtain ⟨_, rfl, _⟩ := h; rfl
  | tup vs => unfold RelV at h; obtain ⟨_, rfl, _⟩ := h; rfl

theorem cells_of_noAgg {x : Value} (h : x.noAgg = true) : x.cells = #[x] := by cases x <;> first | rfl | simp [Value.noAgg] at h

theorem RelV.cells {v : V} {x : Value} (h : RelV μ lim w v x) : RelVs μ lim w v.cells x.cells.toList := by
  cases v with
  | agg cs => unfold RelV at h; obtain ⟨xs, rfl, h⟩ := h; exact h
  | _ =>
    rw [cells_of_noAgg (h.noAgg (by intro cs hc; cases hc))]
    simp only [V.cells]; unfold RelVs; refine ⟨h, ?_⟩; unfold RelVs; trivial

theorem RelV.cells_size {v : V} {x : Value} (h : RelV μ lim w v x) : x.cells.size = v.cells.length := by
  rw [h.cells.length, Array.length_toList]

theorem RelV.leaf {v : V} {x : Value} (h : RelV μ lim w v x) (hl : v.leaf = true) : x.oneCell = true := by
  cases v with
  | sc u => unfold RelV at h; rw [h.1]; cases u <;> first | rfl | simp [V.leaf] at hl
  | agg cs => simp [V.leaf] at hl
  | slice o sz l => unfold RelV at h; obtain ⟨_, _, rfl, _⟩ := h; rfl
  | ptr id off => unfold RelV at h; obtain ⟨_, _, rfl⟩ := h; rfl
  | imm cs => unfold RelV at h; obtain ⟨_, _, rfl, _⟩ := h; rfl
  | arr id off n sz => unfold RelV at h; obtain ⟨_, _, _, _, _, rfl, _⟩ := h; rfl
  | map id => unfold RelV at h; obtain ⟨_, _, rfl⟩ := h; rfl
  | func fn a b => unfold RelV at h; obtain ⟨_, _, rfl, _⟩ := h; rfl
  | iface t v => unfold RelV at h; obtain ⟨_, rfl, _⟩ := h; rfl
  | tup vs => simp [V.leaf] at hl
end
end Go.Ab

namespace Go.Ab
open Go

def alive (σ : St) (id : Nat) : Prop := ∃ o, σ.objs[id]? = some o ∧ o ≠ .dead

def ObjRel (μ : List Nat) (lim : Nat → Nat) (w : World) (b : Nat) : Obj → Prop
  | .cells cs => lim b = 0 ∧ cs.length ≤ bsize w b ∧ (∀ o, w.frozen? ⟨b, o, none⟩ = false) ∧
      ∀ (k : Nat) (v : V), cs[k]? = some v → ∃ x, w.cell? ⟨b, k, none⟩ = some x ∧ RelV μ lim w v x ∧ x.oneCell = true
  | .row e cs => lim b = 0 ∧ ∃ c, w.heap[b]? = some (.cells c e (0, 0)) ∧ cs.length ≤ c.size ∧
      ∀ (k : Nat) (v : V), cs[k]? = some v → ∃ x, w.cell? ⟨b, k, none⟩ = some x ∧ RelV μ lim w v x ∧ x.oneCell = true
  | .var t cs => lim b = 0 ∧ ∃ c, w.heap[b]? = some (.cells c t (0, 0)) ∧ cs.length = c.size ∧
      ∀ (k : Nat) (v : V), cs[k]? = some v → ∃ x, w.cell? ⟨b, k, none⟩ = some x ∧ RelV μ lim w v x ∧ x.oneCell = true
  | .map es => lim b = 0 ∧ ∃ ents : Array MapEntry, w.heap[b]? = some (.map ents ents.size) ∧ ents.size = es.length ∧
      ∀ (i : Nat) (k v : V), es[i]? = some (k, v) → ∃ e, ents[i]? = some e ∧ RelV μ lim w k e.key ∧ RelV μ lim w v e.val ∧ e.born = i
  | .mapD es => lim b = 0 ∧ ∃ (ents : Array MapEntry) (n : Nat), w.heap[b]? = some (.map ents n) ∧ ents.size = es.length ∧
      ∀ (i : Nat) (k v : V), es[i]? = some (k, v) → ∃ e, ents[i]? = some e ∧ RelV μ lim w k e.key ∧ RelV μ lim w v e.val
  | .dead => True

structure WRel (μ : List Nat) (lim : Nat → Nat) (w : World) (σ : St) : Prop where
  len : μ.length = σ.objs.length
  lt : ∀ (id b : Nat), μ[id]? = some b → b < w.heap.size
  inj : ∀ (i j b : Nat), alive σ i → alive σ j → μ[i]? = some b → μ[j]? = some b → i = j
  obj : ∀ (id b : Nat) (o : Obj), σ.objs[id]? = some o → μ[id]? = some b → ObjRel μ lim w b o
  fresh : ∀ b, w.heap.size ≤ b → lim b = 0
  glob : ∀ p ∈ GL, 0 < lim p.1 ∧ ∃ ty fr, w.heap[p.1]? = some (.cells p.2 ty fr)

/-- Variables that stay. -/
theorem glob_keep {lim : Nat → Nat} {w : World} {lim' : Nat → Nat} {w' : World} (hg : ∀ p ∈ GL, 0 < lim p.1 ∧ ∃ ty fr, w.heap[p.1]? = some (.cells p.2 ty fr)) (hk : ∀ p ∈ GL, 0 < lim p.1 → p.1 < w.heap.size → w'.heap[p.1]? = w.heap[p.1]? ∧ lim' p.1 = lim p.1) :
    ∀ p ∈ GL, 0 < lim' p.1 ∧ ∃ ty fr, w'.heap[p.1]? = some (.cells p.2 ty fr) := fun p hp => by
  obtain ⟨h1, ty, fr, h2⟩ := hg p hp
  obtain ⟨h3, h4⟩ := hk p hp h1 (Array.getElem?_eq_some_iff.1 h2).1
  exact ⟨by rw [h4]; exact h1, ty, fr, h3.trans h2⟩
theorem WRel.glob_lt {μ lim w σ} (h : WRel μ lim w σ) {p : Nat × Array Value} (hp : p ∈ GL) : p.1 < w.heap.size := by
  obtain ⟨_, ty, fr, h2⟩ := h.glob p hp
  exact (Array.getElem?_eq_some_iff.1 h2).1

/-- The block of an object that may be written. -/
def Unprot (μ : List Nat) (σ : St) (b : Nat) : Prop := ∃ id, σ.base ≤ id ∧ alive σ id ∧ μ[id]? = some b

structure Chg (μ : List Nat) (lim : Nat → Nat) (w : World) (σ : St) (μ' : List Nat) (lim' : Nat → Nat) (w' : World) (σ' : St) : Prop where
  os : w'.os = w.os
  tape : w'.tape = w.tape
  output : w'.output = w.output
  size : w.heap.size ≤ w'.heap.size
  pre : ∀ (id b : Nat), μ[id]? = some b → μ'[id]? = some b
  keep : ∀ b, b < w.heap.size → ¬ Unprot μ σ b → w'.heap[b]? = w.heap[b]? ∧ lim' b = lim b
  bsz : ∀ b, b < w.heap.size → bsize w b ≤ bsize w' b
  objs : ∀ (id b : Nat), alive σ' id → σ.base ≤ id → μ'[id]? = some b → w.heap.size ≤ b ∨ Unprot μ σ b
  base : σ'.base = σ.base
  prot : ∀ id, id < σ.base → σ'.objs[id]? = σ.objs[id]?
  more : σ.objs.length ≤ σ'.objs.length
  globs : ∀ p ∈ GL, p.1 < w.heap.size
  wrel : WRel μ' lim' w' σ'

theorem ObjRel.lim {μ : List Nat} {lim : Nat → Nat} {w : World} {b : Nat} {o : Obj} (h : ObjRel μ lim w b o) (ho : o ≠ .dead) : lim b = 0 := by
  cases o with
  | dead => exact absurd rfl ho
  | cells cs => exact h.1
  | row e cs => exact h.1
  | var t cs => exact h.1
  | map es => exact h.1
  | mapD es => exact h.1

/-- A variable's cells, whatever is known of its type. -/
theorem ObjRel.cellsOf {μ : List Nat} {lim : Nat → Nat} {w : World} {b : Nat} {o : Obj} {cs : List V} (h : ObjRel μ lim w b o) (hc : o.cs = some cs) : ObjRel μ lim w b (.cells cs) := by
  cases o with
  | cells cs' => simp only [Obj.cs] at hc; cases hc; exact h
  | var t cs' =>
    simp only [Obj.cs] at hc; cases hc
    obtain ⟨h1, c, h2, h3, h4⟩ := h
    refine ⟨h1, by unfold bsize; rw [h2]; show _ ≤ c.size; omega, fun k => by simp [World.frozen?, h2], h4⟩
  | _ => simp [Obj.cs] at hc
theorem cs_alive {o : Obj} {cs : List V} (hc : o.cs = some cs) : o ≠ .dead := by intro h; subst h; simp [Obj.cs] at hc

theorem WRel.unprot_lim {μ lim w σ b} (h : WRel μ lim w σ) (hu : Unprot μ σ b) : lim b = 0 := by
  obtain ⟨id, _, ⟨o, ho, hd⟩, hm⟩ := hu
  exact (h.obj id b o ho hm).lim hd
theorem WRel.unprot_lt {μ lim w σ b} (h : WRel μ lim w σ) (hu : Unprot μ σ b) : b < w.heap.size := by
  obtain ⟨id, _, _, hm⟩ := hu
  exact h.lt id b hm
theorem WRel.lim_lt {μ lim w σ b o} (h : WRel μ lim w σ) (ho : o < lim b) : b < w.heap.size := by
  rcases Nat.lt_or_ge b w.heap.size with hb | hb
  · exact hb
  · rw [h.fresh b hb] at ho; omega

theorem bsize_ge {w : World} {b : Nat} (h : w.heap.size ≤ b) : bsize w b = 0 := by
  unfold bsize; rw [Array.getElem?_eq_none h]

theorem Chg.ext {μ lim w σ μ' lim' w' σ'} (hw : WRel μ lim w σ) (h : Chg μ lim w σ μ' lim' w' σ') : Ext μ lim w μ' lim' w' where
  pre := h.pre
  imm b o ho := by
    have hb := hw.lim_lt ho
    have hu : ¬ Unprot μ σ b := fun hu => by rw [hw.unprot_lim hu] at ho; omega
    obtain ⟨h1, h2⟩ := h.keep b hb hu
    exact ⟨by rw [h2]; exact ho, cell_congr h1 o⟩
  size b := by
    rcases Nat.lt_or_ge b w.heap.size with hb | hb
    · exact h.bsz b hb
    · rw [bsize_ge hb]; exact Nat.zero_le _

theorem Chg.refl {μ lim w σ} (h : WRel μ lim w σ) : Chg μ lim w σ μ lim w σ :=
  ⟨rfl, rfl, rfl, Nat.le_refl _, fun _ _ x => x, fun _ _ _ => ⟨rfl, rfl⟩, fun _ _ => Nat.le_refl _,
   fun id b ha hb hm => .inr ⟨id, hb, ha, hm⟩, rfl, fun _ _ => rfl, Nat.le_refl _, fun _ hp => h.glob_lt hp, h⟩

theorem Chg.trans {μ lim w σ μ1 lim1 w1 σ1 μ2 lim2 w2 σ2} (h : Chg μ lim w σ μ1 lim1 w1 σ1) (k : Chg μ1 lim1 w1 σ1 μ2 lim2 w2 σ2) :
    Chg μ lim w σ μ2 lim2 w2 σ2 := by
  have up : ∀ b, b < w.heap.size → Unprot μ1 σ1 b → Unprot μ σ b := by
    rintro b hb ⟨id, h1, h2, h3⟩
    rw [h.base] at h1
    rcases h.objs id b h2 h1 h3 with h4 | h4
    · omega
    · exact h4
  exact ⟨k.os.trans h.os, k.tape.trans h.tape, k.output.trans h.output, Nat.le_trans h.size k.size, fun id b x => k.pre id b (h.pre id b x),
    fun b hb hu => by
      obtain ⟨h1, h2⟩ := h.keep b hb hu
      obtain ⟨h3, h4⟩ := k.keep b (by have := h.size; omega) fun x => hu (up b hb x)
      exact ⟨h3.trans h1, h4.trans h2⟩,
    fun b hb => Nat.le_trans (h.bsz b hb) (k.bsz b (by have := h.size; omega)),
    fun id b ha hb hm => by
      rcases k.objs id b ha (by rw [h.base]; exact hb) hm with h1 | h1
      · exact .inl (by have := h.size; omega)
      · rcases Nat.lt_or_ge b w.heap.size with h2 | h2
        · exact .inr (up b h2 h1)
        · exact .inl h2,
    k.base.trans h.base, fun id hi => (k.prot id (by rw [h.base]; exact hi)).trans (h.prot id hi), Nat.le_trans h.more k.more, h.globs, k.wrel⟩

/-! ## what new blocks and writes do -/

theorem ObjRel.ext {μ lim w μ' lim' w'} (h : Ext μ lim w μ' lim' w') {b : Nat} {o : Obj} (hb : w'.heap[b]? = w.heap[b]?) (hl : lim' b = lim b) (r : ObjRel μ lim w b o) : ObjRel μ' lim' w' b o := by
  cases o with
  | dead => trivial
  | cells cs =>
    obtain ⟨h1, h2, h3, h4⟩ := r
    refine ⟨hl.trans h1, by rw [bsize_congr hb]; exact h2, fun o => (frozen_congr hb o).trans (h3 o), fun k v hv => ?_⟩
    obtain ⟨x, hx, hr⟩ := h4 k v hv
    exact ⟨x, (cell_congr hb k).trans hx, hr.1.ext h, hr.2⟩
  | row e cs =>
    obtain ⟨h1, c, h2, h3, h4⟩ := r
    refine ⟨hl.trans h1, c, hb.trans h2, h3, fun k v hv => ?_⟩
    obtain ⟨x, hx, hr⟩ := h4 k v hv
    exact ⟨x, (cell_congr hb k).trans hx, hr.1.ext h, hr.2⟩
  | var t cs =>
    obtain ⟨h1, c, h2, h3, h4⟩ := r
    refine ⟨hl.trans h1, c, hb.trans h2, h3, fun k v hv => ?_⟩
    obtain ⟨x, hx, hr⟩ := h4 k v hv
    exact ⟨x, (cell_congr hb k).trans hx, hr.1.ext h, hr.2⟩
  | map es =>
    obtain ⟨h1, ents, h2, h3, h4⟩ := r
    refine ⟨hl.trans h1, ents, hb.trans h2, h3, fun i k v hv => ?_⟩
    obtain ⟨e, he, hk, hr, hb⟩ := h4 i k v hv
    exact ⟨e, he, hk.ext h, hr.ext h, hb⟩
  | mapD es =>
    obtain ⟨h1, ents, n, h2, h3, h4⟩ := r
    refine ⟨hl.trans h1, ents, n, hb.trans h2, h3, fun i k v hv => ?_⟩
    obtain ⟨e, he, hk, hr⟩ := h4 i k v hv
    exact ⟨e, he, hk.ext h, hr.ext h⟩

/-- The world with one block more. -/
def addObj (w : World) (o : Go.Obj) : World := { w with heap := w.heap.push o }

theorem addObj_old {w : World} {o : Go.Obj} {b : Nat} (h : b < w.heap.size) : (addObj w o).heap[b]? = w.heap[b]? := by
  simp only [addObj]; rw [Array.getElem?_push_lt h]; simp [h]
theorem addObj_new (w : World) (o : Go.Obj) : (addObj w o).heap[w.heap.size]? = some o := by
  show (w.heap.push o)[w.heap.size]? = some o
  exact Array.getElem?_push_size
theorem addObj_size (w : World) (o : Go.Obj) : (addObj w o).heap.size = w.heap.size + 1 := by simp [addObj]

/-- A new block whose cells, n of them, are written no more. -/
theorem ext_add {μ lim w σ} (hw : WRel μ lim w σ) (o : Go.Obj) (n : Nat) (more : List Nat) :
    Ext μ lim w (μ ++ more) (fun b => if b = w.heap.size then n else lim b) (addObj w o) where
  pre id b h := by rw [List.getElem?_append_left (List.getElem?_eq_some_iff.1 h).1]; exact h
  imm b k hk := by
    have hb := hw.lim_lt hk
    rw [if_neg (by omega)]
    exact ⟨hk, cell_congr (addObj_old hb) k⟩
  size b := by
    rcases Nat.lt_or_ge b w.heap.size with hb | hb
    · rw [bsize_congr (addObj_old hb)]; exact Nat.le_refl _
    · rw [bsize_ge hb]; exact Nat.zero_le _

/-- A new block that is no object. -/
theorem chg_add {μ lim w σ} (hw : WRel μ lim w σ) (o : Go.Obj) (n : Nat) :
    Chg μ lim w σ μ (fun b => if b = w.heap.size then n else lim b) (addObj w o) σ := by
  have hx := ext_add hw o n []
  rw [List.append_nil] at hx
  exact ⟨rfl, rfl, rfl, by rw [addObj_size]; omega, fun _ _ h => h, fun b hb _ => ⟨addObj_old hb, if_neg (by omega)⟩,
    fun b hb => by rw [bsize_congr (addObj_old hb)]; exact Nat.le_refl _,
    fun id b ha hb hm => .inr ⟨id, hb, ha, hm⟩, rfl, fun _ _ => rfl, Nat.le_refl _, fun _ hp => hw.glob_lt hp,
    ⟨hw.len, fun id b h => by rw [addObj_size]; have := hw.lt id b h; omega, hw.inj,
     fun id b ob ho hm => (hw.obj id b ob ho hm).ext hx (addObj_old (hw.lt id b hm)) (if_neg (by have := hw.lt id b hm; omega)),
     fun b hb => by rw [addObj_size] at hb; rw [if_neg (by omega)]; exact hw.fresh b (by omega), glob_keep (lim' := fun b => if b = w.heap.size then n else lim b) hw.glob fun p _ _ hlt => ⟨addObj_old hlt, if_neg (fun e => by rw [e] at hlt; exact Nat.lt_irrefl _ hlt)⟩⟩⟩

theorem alive_push {σ : St} {o : Obj} {id : Nat} (h : alive (σ.push o) id) : alive σ id ∨ id = σ.objs.length := by
  obtain ⟨x, hx, hd⟩ := h
  simp only [St.push] at hx
  rcases Nat.lt_trichotomy id σ.objs.length with hl | hl | hl
  · exact .inl ⟨x, by rw [List.getElem?_append_left hl] at hx; exact hx, hd⟩
  · exact .inr hl
  · rw [List.getElem?_append_right (by omega)] at hx
    have : id - σ.objs.length ≠ 0 := by omega
    cases hh : id - σ.objs.length with
    | zero => omega
    | succ m => rw [hh] at hx; simp at hx

/-- A new object in a new block. -/
theorem chg_push {μ lim w σ} (hw : WRel μ lim w σ) (hb : σ.base ≤ σ.objs.length) (o : Go.Obj) (ob : Obj)
    (hr : ObjRel (μ ++ [w.heap.size]) lim (addObj w o) w.heap.size ob) :
    Chg μ lim w σ (μ ++ [w.heap.size]) lim (addObj w o) (σ.push ob) ∧ Ext μ lim w (μ ++ [w.heap.size]) lim (addObj w o) := by
  have hlim : (fun b => if b = w.heap.size then 0 else lim b) = lim := by
    funext b
    split
    · rename_i h; rw [hw.fresh b (by omega)]
    · rfl
  have hx := ext_add hw o 0 [w.heap.size]
  rw [hlim] at hx
  have hget : ∀ id b, (μ ++ [w.heap.size])[id]? = some b → μ[id]? = some b ∨ (id = σ.objs.length ∧ b = w.heap.size) := by
    intro id b h
    rcases Nat.lt_or_ge id μ.length with hl | hl
    · rw [List.getElem?_append_left hl] at h; exact .inl h
    · rw [List.getElem?_append_right hl] at h
      cases hh : id - μ.length with
      | zero => rw [hh] at h; simp at h; exact .inr ⟨by rw [← hw.len]; omega, h.symm⟩
      | succ m => rw [hh] at h; simp at h
  refine ⟨⟨rfl, rfl, rfl, by rw [addObj_size]; omega, hx.pre, fun b hb _ => ⟨addObj_old hb, rfl⟩,
    fun b hb => by rw [bsize_congr (addObj_old hb)]; exact Nat.le_refl _, ?_, rfl, ?_, by simp [St.push], fun _ hp => hw.glob_lt hp, ?_⟩, hx⟩
  · intro id b ha hid hm
    rcases hget id b hm with h | h
    · rcases alive_push ha with h1 | h1
      · exact .inr ⟨id, hid, h1, h⟩
      · have := (List.getElem?_eq_some_iff.1 h).1; rw [hw.len] at this; omega
    · exact .inl (by omega)
  · intro id hid
    simp only [St.push]
    rw [List.getElem?_append_left (by omega)]
  · refine ⟨by simp [St.push, hw.len], ?_, ?_, ?_, ?_, glob_keep hw.glob fun p _ _ hlt => ⟨addObj_old hlt, rfl⟩⟩
    · intro id b h
      rw [addObj_size]
      rcases hget id b h with h | h
      · have := hw.lt id b h; omega
      · omega
    · intro i j b hi hj hbi hbj
      rcases hget i b hbi with h1 | h1 <;> rcases hget j b hbj with h2 | h2
      · have l1 := (List.getElem?_eq_some_iff.1 h1).1
        have l2 := (List.getElem?_eq_some_iff.1 h2).1
        rw [hw.len] at l1 l2
        exact hw.inj i j b ((alive_push hi).resolve_right (by omega)) ((alive_push hj).resolve_right (by omega)) h1 h2
      · have := hw.lt i b h1; omega
      · have := hw.lt j b h2; omega
      · omega
    · intro id b oo ho hm
      simp only [St.push] at ho
      rcases hget id b hm with h | h
      · have l1 := (List.getElem?_eq_some_iff.1 h).1
        rw [hw.len] at l1
        rw [List.getElem?_append_left l1] at ho
        exact (hw.obj id b oo ho h).ext hx (addObj_old (hw.lt id b h)) rfl
      · rw [h.1] at ho
        simp at ho
        rw [← ho, h.2]; exact hr
    · intro b hb'
      rw [addObj_size] at hb'
      exact hw.fresh b (by omega)

/-- A world that differs from another in one object's block alone. -/
theorem chg_set {μ lim w σ} (hw : WRel μ lim w σ) {id b : Nat} (hbase : σ.base ≤ id) (ha : alive σ id) (hm : μ[id]? = some b) {w' : World}
    (hos : w'.os = w.os) (ht : w'.tape = w.tape) (hout : w'.output = w.output) (hs : w'.heap.size = w.heap.size)
    (hk : ∀ c, c ≠ b → w'.heap[c]? = w.heap[c]?) (hz : bsize w b ≤ bsize w' b) (ob : Obj)
    (hr : Ext μ lim w μ lim w' → ObjRel μ lim w' b ob) : Chg μ lim w σ μ lim w' (σ.set id ob) ∧ Ext μ lim w μ lim w' := by
  have hl : lim b = 0 := hw.unprot_lim ⟨id, hbase, ha, hm⟩
  have hx : Ext μ lim w μ lim w' := ⟨fun _ _ h => h, fun c o ho => ⟨ho, cell_congr (hk c (fun hc => by rw [hc, hl] at ho; omega)) o⟩,
    fun c => by
      by_cases hc : c = b
      · rw [hc]; exact hz
      · rw [bsize_congr (hk c hc)]; exact Nat.le_refl _⟩
  have hset : ∀ j o, (σ.set id ob).objs[j]? = some o → (j = id ∧ o = ob) ∨ (j ≠ id ∧ σ.objs[j]? = some o) := by
    intro j o h
    simp only [St.set] at h
    by_cases hj : j = id
    · subst hj
      rw [List.getElem?_set_self' ] at h
      obtain ⟨o', ho', _⟩ := ha
      rw [ho'] at h; simp at h; exact .inl ⟨rfl, h.symm⟩
    · rw [List.getElem?_set_ne (fun h => hj h.symm)] at h; exact .inr ⟨hj, h⟩
  have hal : ∀ j, alive (σ.set id ob) j → alive σ j := by
    rintro j ⟨o, ho, hd⟩
    rcases hset j o ho with ⟨h1, _⟩ | ⟨_, h1⟩
    · rw [h1]; exact ha
    · exact ⟨o, h1, hd⟩
  refine ⟨⟨hos, ht, hout, by omega, fun _ _ h => h, ?_, ?_, ?_, rfl, ?_, by simp [St.set], fun _ hp => hw.glob_lt hp, ?_⟩, hx⟩
  · intro c hc hu
    exact ⟨hk c (fun h => hu (by rw [h]; exact ⟨id, hbase, ha, hm⟩)), rfl⟩
  · exact fun c _ => hx.size c
  · exact fun j c hj hjb hjm => .inr ⟨j, hjb, hal j hj, hjm⟩
  · intro j hj
    simp only [St.set]
    rw [List.getElem?_set_ne (by omega)]
  · refine ⟨by simp [St.set, hw.len], fun j c h => by rw [hs]; exact hw.lt j c h, fun i j c hi hj => hw.inj i j c (hal i hi) (hal j hj), ?_, fun c hc => hw.fresh c (by omega), glob_keep hw.glob fun p _ hl0 _ => ⟨hk p.1 (fun hpb => by rw [hpb, hl] at hl0; omega), rfl⟩⟩
    intro j c o ho hj
    rcases hset j o ho with ⟨h1, h2⟩ | ⟨h1, h2⟩
    · subst h1; rw [hm] at hj; cases hj; rw [h2]; exact hr hx
    · by_cases ho' : o = .dead
      · rw [ho']; trivial
      · have hne : c ≠ b := fun hc => h1 (hw.inj j id b ⟨o, h2, ho'⟩ ha (by rw [← hc]; exact hj) hm)
        exact (hw.obj j c o h2 hj).ext hx (hk c hne) rfl
end Go.Ab

namespace Go.Ab
open Go

def isSize (P : Program) (t : TypeId) (n : Nat) : Bool := match P.info? t with
  | some i => i.size == n
  | none => false
def isAggB (P : Program) (t : TypeId) (b : Bool) : Bool := match P.underlying t with
  | some (.struct _) | some (.array _ _) => b
  | some _ => !b
  | none => false
def fieldIs (P : Program) (t : TypeId) (f off : Nat) : Option TypeId := match P.underlying t with
  | some (.struct fs) => match fs[f]? with
    | some x => if x.offset = off then some x.type else none
    | none => none
  | _ => none
def isStr (P : Program) (t : TypeId) : Bool := match P.underlying t with
  | some .string => true
  | _ => false
def isInt (P : Program) (t : TypeId) (k : IntKind) : Bool := match P.underlying t with
  | some (.int k') => k' == k
  | _ => false
def isSome (P : Program) (t : TypeId) : Bool := (P.underlying t).isSome
def sliceElem (P : Program) (t : TypeId) : Option TypeId := match P.underlying t with
  | some (.slice e) => some e
  | _ => none
/-- A constant and its abstract value. -/
def constOK (v : V) (c : Value) : Bool :=
  match v, c with
  | .sc (.int k a), .int k' b => k == k' && a == b
  | .sc (.bool a), .bool b => a == b
  | .sc (.string a), .string b => decide (a = b)
  | .sc (.pointer none), .pointer none => true
  | .sc .nilIface, .nilIface => true
  | .sc .nilFunc, .nilFunc => true
  | .sc (.map none), .map none => true
  | .slice _ _ [], .slice none 0 0 => true
  | _, _ => false

theorem constOK_rel {μ lim w} {v : V} {c : Value} (h : constOK v c = true) : RelV μ lim w v c := by
  unfold constOK at h
  split at h
  · simp only [Bool.and_eq_true, beq_iff_eq] at h; obtain ⟨rfl, rfl⟩ := h; unfold RelV; exact ⟨rfl, rfl⟩
  · simp only [beq_iff_eq] at h; obtain rfl := h; unfold RelV; exact ⟨rfl, rfl⟩
  · obtain rfl := of_decide_eq_true h; unfold RelV; exact ⟨rfl, rfl⟩
  · unfold RelV; exact ⟨rfl, rfl⟩
  · unfold RelV; exact ⟨rfl, rfl⟩
  · unfold RelV; exact ⟨rfl, rfl⟩
  · unfold RelV; exact ⟨rfl, rfl⟩
  · unfold RelV; exact ⟨none, 0, rfl, ⟨by simp, fun _ => rfl⟩, by decide, rfl⟩
  · simp at h

def Cmp.op : Cmp → BinOp
  | .eql => .eql
  | .neq => .neq

/-- the operands of an operation that an operation of the abstract machine stands for; none: it doesn't stand for it -/
def fit1 (P : Program) (a : A) (op : Op) : Option (List Operand) :=
  match a with
  | .mov => match op with
    | .move x => some [x]
    | .assign x => some [x]
    | _ => none
  | .lit v => match op with
    | .move (.const c) => if constOK v c then some [] else none
    | .assign (.const c) => if constOK v c then some [] else none
    | _ => none
  | .pick => match op with
    | .pick c x y => some [c, x, y]
    | _ => none
  | .ibin b => match op with
    | .binOp b' _ x y _ => if b = b' && !(b == .shl) && !(b == .shr) then some [x, y] else none
    | _ => none
  | .shift b => match op with
    | .binOp b' _ x y _ => if b = b' && (b == .shl || b == .shr) then some [x, y] else none
    | _ => none
  | .sbin b => match op with
    | .binOp b' _ x y _ => if b = b' then some [x, y] else none
    | _ => none
  | .bbin c => match op with
    | .binOp b t x y _ => match P.underlying t with
      | some .bool => if b = c.op then some [x, y] else none
      | _ => none
    | _ => none
  | .nilp c => match op with
    | .binOp b t x y _ => match P.underlying t with
      | some (.pointer _) => if b = c.op then some [x, y] else none
      | _ => none
    | _ => none
  | .nilif c => match op with
    | .binOp b t x (.const .nilIface) _ => match P.underlying t with
      | some (.interface _) => if b = c.op then some [x, .const .nilIface] else none
      | _ => none
    | _ => none
  | .nilsl c => match op with
    | .binOp b t x (.const (.slice none 0 0)) _ => match P.underlying t with
      | some (.slice _) => if b = c.op then some [x] else none
      | _ => none
    | _ => none
  | .not => match op with
    | .unOp .not _ x => some [x]
    | _ => none
  | .neg => match op with
    | .unOp .neg _ x => some [x]
    | _ => none
  | .conv k => match op with
    | .convert s d x => if isSome P s && isInt P d k then some [x] else none
    | _ => none
  | .mkIface t => match op with
    | .makeInterface u x => if t = u && P.concrete t then some [x] else none
    | _ => none
  | .mkFunc fn n => match op with
    | .makeFunc fn' first cap => if fn = fn' && first.size = n then some (first.toList ++ cap.toList) else none
    | _ => none
  | .nilCheck => match op with
    | .nilCheck x => some [x]
    | _ => none
  | .fieldAddr off => match op with
    | .fieldAddr t x f => match fieldIs P t f off with
      | some ft => match P.info? ft with
        | some i => if i.size = 0 then none else some [x]
        | none => none
      | none => none
    | _ => none
  | .field off n agg => match op with
    | .field t x f => match fieldIs P t f off with
      | some ft => if isSize P ft n && isAggB P ft agg then some [x] else none
      | none => none
    | _ => none
  | .load n agg => match op with
    | .load t x => if isSize P t n && isAggB P t agg && (agg || n == 1) then some [x] else none
    | _ => none
  | .loadT _ _ => match op with
    | .load t x => if isSize P t 1 && isAggB P t false then some [x] else none
    | _ => none
  | .indexAddr sz => match op with
    | .indexAddr t x i => match sliceElem P t with
      | some e => if isSize P e sz then some [x, i] else none
      | none => none
    | _ => none
  | .indexAgg sz n agg => match op with
    | .index t x i => match P.underlying t with
      | some (.array k e) => if k = n && isSize P e sz && isAggB P e agg then some [x, i] else none
      | _ => none
    | _ => none
  | .indexStr => match op with
    | .index t x i => if isStr P t then some [x, i] else none
    | _ => none
  | .len k => match op with
    | .call c => match c.callee, c.args.toList, c.argTypes.toList with
      | .builtin .len, [x], [t] => match P.underlying t with
        | some .string => if k = 1 then some [x] else none
        | some (.slice _) => if k = 0 then some [x] else none
        | some (.map _ _) => if k = 2 then some [x] else none
        | _ => none
      | _, _, _ => none
    | _ => none
  | .imin => match op with
    | .call c => match c.callee, c.args.toList, c.argTypes.toList with
      | .builtin .min, [x, y], _ => some [x, y]
      | _, _, _ => none
    | _ => none
  | .extract i => match op with
    | .extract x j => if i = j then some [x] else none
    | _ => none
  | _ => none

/-! ## they do what is said -/

/-- An operation that changes nothing answers so. -/
def Quiet (P : Program) (μ : List Nat) (lim : Nat → Nat) (w : World) (o : Oper) (ρ : Operand → Value) (x : V) : Prop :=
  ∃ X, (execOp ρ o).run P w = .ok (.value X) w ∧ RelV μ lim w x X

section
variable {P : Program} {μ : List Nat} {lim : Nat → Nat} {w : World} {σ σ' : St} {o : Oper} {ρ : Operand → Value} {xs : List V} {x : V} {call : CallT} {opers : List Operand}

theorem isSize_spec {t n} (h : isSize P t n = true) : ∃ i, P.info? t = some i ∧ i.size = n := by
  unfold isSize at h
  cases hi : P.info? t with
  | none => simp [hi] at h
  | some i => simp [hi] at h; exact ⟨i, rfl, h⟩
theorem run_sizeOf {t n} (h : isSize P t n = true) (w : World) : (sizeOf t).run P w = .ok n w := by
  obtain ⟨i, hi, hn⟩ := isSize_spec h
  simp [sizeOf, typeInfo, hi, hn]
theorem run_isAgg {t b} (h : isAggB P t b = true) (w : World) : (isAgg t).run P w = .ok b w := by
  unfold isAggB at h
  cases hu : P.underlying t with
  | none => simp [hu] at h
  | some d =>
    have := run_underlying hu w
    simp only [isAgg, Sem.run_bind, this, Result.andThen_ok]
    cases d <;> simp [hu] at h <;> subst h <;> rfl

theorem rel2 {a b : Operand} (h : RelVs μ lim w xs ([a, b].map ρ)) : ∃ x y, xs = [x, y] ∧ RelV μ lim w x (ρ a) ∧ RelV μ lim w y (ρ b) := by
  match xs, h with
  | [x, y], h => simp only [List.map_cons, List.map_nil] at h; unfold RelVs at h; unfold RelVs at h; exact ⟨x, y, rfl, h.1, h.2.1⟩
  | [], h => simp only [List.map_cons] at h; unfold RelVs at h; exact h.elim
  | [_], h => simp only [List.map_cons] at h; unfold RelVs at h; unfold RelVs at h; exact h.2.elim
  | _ :: _ :: _ :: _, h => simp only [List.map_cons, List.map_nil] at h; unfold RelVs at h; unfold RelVs at h; unfold RelVs at h; exact h.2.2.elim
theorem rel1 {a : Operand} (h : RelVs μ lim w xs ([a].map ρ)) : ∃ x, xs = [x] ∧ RelV μ lim w x (ρ a) := by
  match xs, h with
  | [x], h => simp only [List.map_cons, List.map_nil] at h; unfold RelVs at h; exact ⟨x, rfl, h.1⟩
  | [], h => simp only [List.map_cons] at h; unfold RelVs at h; exact h.elim
  | _ :: _ :: _, h => simp only [List.map_cons, List.map_nil] at h; unfold RelVs at h; unfold RelVs at h; exact h.2.elim
theorem rel3 {a b c : Operand} (h : RelVs μ lim w xs ([a, b, c].map ρ)) : ∃ x y z, xs = [x, y, z] ∧ RelV μ lim w x (ρ a) ∧ RelV μ lim w y (ρ b) ∧ RelV μ lim w z (ρ c) := by
  match xs, h with
  | x :: xs, h =>
    simp only [List.map_cons] at h
    unfold RelVs at h
    obtain ⟨y, z, rfl, h1, h2⟩ := rel2 (a := b) (b := c) (ρ := ρ) (xs := xs) (by simpa using h.2)
    exact ⟨x, y, z, rfl, h.1, h1, h2⟩
  | [], h => simp only [List.map_cons] at h; unfold RelVs at h; exact h.elim
theorem relSc {v X : Value} (h : RelV μ lim w (.sc v) X) : X = v := by unfold RelV at h; exact h.1
theorem scRel {v : Value} (h : v.noAgg = true) : RelV μ lim w (.sc v) v := by unfold RelV; exact ⟨rfl, h⟩

end
end Go.Ab
