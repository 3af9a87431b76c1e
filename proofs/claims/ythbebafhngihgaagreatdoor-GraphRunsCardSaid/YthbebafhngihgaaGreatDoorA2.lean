/- How the abstract machine's values lie in memory, and that what lies there stays. No premise but those named. -/
import Derived.Test.YthbebafhngihgaaGreatDoorA1
import Derived.Wp
import Derived.Tactics
namespace Go.Ab
open Go

/-- How many cells a block has. -/
def bsize (w : World) (b : Nat) : Nat :=
  match w.heap[b]? with
  | some (.cells c _ _) => c.size
  | _ => 0

/-- No struct, no array. -/
def _root_.Go.Value.noAgg : Value → Bool
  | .agg _ => false
  | _ => true

mutual
/-- The value x, in the world w, is the abstract value: objects lie in the blocks μ; of each block the first cells, lim many, are written no more. -/
def RelV (μ : List Nat) (lim : Nat → Nat) (w : World) : V → Value → Prop
  | .sc v, x => x = v ∧ v.noAgg = true
  | .slice o sz l, x => ∃ base cap, x = .slice base l.length cap ∧ (l.length ≤ cap ∧ (o = .shut → cap = l.length)) ∧ cap < 2 ^ 63 ∧
      (match base with
       | none => cap = 0
       | some a => a.spot = none ∧ RelLL μ lim w sz a.block a.off l)
  | .ptr id off, x => ∃ b, μ[id]? = some b ∧ x = .pointer (some ⟨b, off, none⟩)
  | .imm cs, x => ∃ b o, x = .pointer (some ⟨b, o, none⟩) ∧ RelL μ lim w b o cs
  | .arr id off n sz, x => ∃ b cap, μ[id]? = some b ∧ n ≤ cap ∧ cap < 2 ^ 63 ∧ x = .slice (some ⟨b, off, none⟩) n cap ∧
      off + cap * sz ≤ bsize w b
  | .map id, x => ∃ b, μ[id]? = some b ∧ x = .map (some b)
  | .func fn first cap, x => ∃ f' c', x = .func fn f' c' ∧ RelVs μ lim w first f'.toList ∧ RelVs μ lim w cap c'.toList
  | .iface t v, x => ∃ y, x = .iface t y ∧ RelV μ lim w v y
  | .agg cs, x => ∃ xs, x = .agg xs ∧ RelVs μ lim w cs xs.toList
  | .tup vs, x => ∃ xs, x = .tuple xs ∧ RelVs μ lim w vs xs.toList
def RelVs (μ : List Nat) (lim : Nat → Nat) (w : World) : List V → List Value → Prop
  | [], [] => True
  | v :: vs, x :: xs => RelV μ lim w v x ∧ RelVs μ lim w vs xs
  | _, _ => False
def RelL (μ : List Nat) (lim : Nat → Nat) (w : World) (b o : Nat) : List V → Prop
  | [] => True
  | v :: vs => (o < lim b ∧ ∃ c, w.cell? ⟨b, o, none⟩ = some c ∧ RelV μ lim w v c ∧ c.oneCell = true) ∧ RelL μ lim w b (o + 1) vs
def RelLL (μ : List Nat) (lim : Nat → Nat) (w : World) (sz b o : Nat) : List (List V) → Prop
  | [] => True
  | cs :: l => cs.length = sz ∧ RelL μ lim w b o cs ∧ RelLL μ lim w sz b (o + sz) l
end

theorem cell_lt {w : World} {b o : Nat} {c : Value} (h : w.cell? ⟨b, o, none⟩ = some c) : o < bsize w b := by
  unfold World.cell? at h
  unfold bsize
  cases hb : w.heap[b]? with
  | none => simp [hb] at h
  | some x => cases x <;> simp [hb] at h ⊢; exact (Array.getElem?_eq_some_iff.1 h).1

theorem cell_of_lt {w : World} {b o : Nat} (h : o < bsize w b) : ∃ c, w.cell? ⟨b, o, none⟩ = some c := by
  unfold bsize at h
  unfold World.cell?
  cases hb : w.heap[b]? with
  | none => simp [hb] at h
  | some x => cases x <;> simp [hb] at h ⊢; exact ⟨_, Array.getElem?_eq_getElem h⟩

theorem cell_congr {w w' : World} {b : Nat} (h : w'.heap[b]? = w.heap[b]?) (o : Nat) : w'.cell? ⟨b, o, none⟩ = w.cell? ⟨b, o, none⟩ := by
  unfold World.cell?; simp only [h]
theorem frozen_congr {w w' : World} {b : Nat} (h : w'.heap[b]? = w.heap[b]?) (o : Nat) : w'.frozen? ⟨b, o, none⟩ = w.frozen? ⟨b, o, none⟩ := by
  unfold World.frozen?; simp only [h]
theorem bsize_congr {w w' : World} {b : Nat} (h : w'.heap[b]? = w.heap[b]?) : bsize w' b = bsize w b := by
  unfold bsize; rw [h]

/-- What is written no more stays. -/
structure Ext (μ : List Nat) (lim : Nat → Nat) (w : World) (μ' : List Nat) (lim' : Nat → Nat) (w' : World) : Prop where
  pre : ∀ (id b : Nat), μ[id]? = some b → μ'[id]? = some b
  imm : ∀ b o, o < lim b → o < lim' b ∧ w'.cell? ⟨b, o, none⟩ = w.cell? ⟨b, o, none⟩
  size : ∀ b, bsize w b ≤ bsize w' b

theorem Ext.refl (μ : List Nat) (lim : Nat → Nat) (w : World) : Ext μ lim w μ lim w := ⟨fun _ _ h => h, fun _ _ h => ⟨h, rfl⟩, fun _ => Nat.le_refl _⟩
theorem Ext.trans {μ lim w μ1 lim1 w1 μ2 lim2 w2} (h : Ext μ lim w μ1 lim1 w1) (k : Ext μ1 lim1 w1 μ2 lim2 w2) : Ext μ lim w μ2 lim2 w2 :=
  ⟨fun id b x => k.pre id b (h.pre id b x), fun b o x => ⟨(k.imm b o (h.imm b o x).1).1, ((k.imm b o (h.imm b o x).1).2).trans (h.imm b o x).2⟩,
   fun b => Nat.le_trans (h.size b) (k.size b)⟩

section
variable {μ : List Nat} {lim : Nat → Nat} {w : World} {μ' : List Nat} {lim' : Nat → Nat} {w' : World}

mutual
theorem RelV.ext (h : Ext μ lim w μ' lim' w') : ∀ (v : V) (x : Value), RelV μ lim w v x → RelV μ' lim' w' v x
  | .sc v, x, r => by unfold RelV at *; exact r
  | .slice o sz l, x, r => by
    unfold RelV at *
    obtain ⟨base, cap, h1, h2, h3, h4⟩ := r
    refine ⟨base, cap, h1, h2, h3, ?_⟩
    cases base with
    | none => exact h4
    | some a => exact ⟨h4.1, RelLL.ext h sz a.block a.off l h4.2⟩
  | .ptr id off, x, r => by unfold RelV at *; obtain ⟨b, h1, h2⟩ := r; exact ⟨b, h.pre _ _ h1, h2⟩
  | .imm cs, x, r => by unfold RelV at *; obtain ⟨b, o, h1, h2⟩ := r; exact ⟨b, o, h1, RelL.ext h b o cs h2⟩
  | .arr id off n sz, x, r => by
    unfold RelV at *
    obtain ⟨b, cap, h1, h2, h3, h4, h5⟩ := r
    exact ⟨b, cap, h.pre _ _ h1, h2, h3, h4, Nat.le_trans h5 (h.size b)⟩
  | .map id, x, r => by unfold RelV at *; obtain ⟨b, h1, h2⟩ := r; exact ⟨b, h.pre _ _ h1, h2⟩
  | .func fn a b, x, r => by
    unfold RelV at *
    obtain ⟨f, c, h1, h2, h3⟩ := r
    exact ⟨f, c, h1, RelVs.ext h a _ h2, RelVs.ext h b _ h3⟩
  | .iface t v, x, r => by unfold RelV at *; obtain ⟨y, h1, h2⟩ := r; exact ⟨y, h1, RelV.ext h v y h2⟩
  | .agg cs, x, r => by unfold RelV at *; obtain ⟨y, h1, h2⟩ := r; exact ⟨y, h1, RelVs.ext h cs _ h2⟩
  | .tup cs, x, r => by unfold RelV at *; obtain ⟨y, h1, h2⟩ := r; exact ⟨y, h1, RelVs.ext h cs _ h2⟩
theorem RelVs.ext (h : Ext μ lim w μ' lim' w') : ∀ (vs : List V) (xs : List Value), RelVs μ lim w vs xs → RelVs μ' lim' w' vs xs
  | [], [], _ => by unfold RelVs; trivial
  | v :: vs, x :: xs, r => by unfold RelVs at *; exact ⟨RelV.ext h v x r.1, RelVs.ext h vs xs r.2⟩
  | [], _ :: _, r => by unfold RelVs at r; exact r.elim
  | _ :: _, [], r => by unfold RelVs at r; exact r.elim
theorem RelL.ext (h : Ext μ lim w μ' lim' w') (b o : Nat) : ∀ (vs : List V), RelL μ lim w b o vs → RelL μ' lim' w' b o vs
  | [], _ => by unfold RelL; trivial
  | v :: vs, r => by
    unfold RelL at *
    obtain ⟨⟨h1, c, h2, h3⟩, h4⟩ := r
    exact ⟨⟨(h.imm b o h1).1, c, (h.imm b o h1).2.trans h2, RelV.ext h v c h3.1, h3.2⟩, RelL.ext h b (o + 1) vs h4⟩
theorem RelLL.ext (h : Ext μ lim w μ' lim' w') (sz b o : Nat) : ∀ (l : List (List V)), RelLL μ lim w sz b o l → RelLL μ' lim' w' sz b o l
  | [], _ => by unfold RelLL; trivial
  | cs :: l, r => by
    unfold RelLL at *
    exact ⟨r.1, RelL.ext h b o cs r.2.1, RelLL.ext h sz b (o + sz) l r.2.2⟩
end
end

section
variable {μ : List Nat} {lim : Nat → Nat} {w : World}

mutual
/-- A value that leads to objects below n alone is so too where the others are forgotten. -/
theorem RelV.cut (n : Nat) : ∀ (v : V) (x : Value), v.inside n = true → RelV μ lim w v x → RelV (μ.take n) lim w v x
  | .sc v, x, _, r => by unfold RelV at *; exact r
  | .slice o sz l, x, i, r => by
    unfold RelV at *; unfold V.inside at i
    obtain ⟨base, cap, h1, h2, h3, h4⟩ := r
    refine ⟨base, cap, h1, h2, h3, ?_⟩
    cases base with
    | none => exact h4
    | some a => exact ⟨h4.1, RelLL.cut n sz a.block a.off l i h4.2⟩
  | .ptr id off, x, i, r => by
    unfold RelV at *; unfold V.inside at i
    obtain ⟨b, h1, h2⟩ := r; exact ⟨b, by rw [List.getElem?_take_of_lt (of_decide_eq_true i)]; exact h1, h2⟩
  | .imm cs, x, i, r => by unfold RelV at *; unfold V.inside at i; obtain ⟨b, o, h1, h2⟩ := r; exact ⟨b, o, h1, RelL.cut n b o cs i h2⟩
  | .arr id off k sz, x, i, r => by
    unfold RelV at *; unfold V.inside at i
    obtain ⟨b, cap, h1, h2⟩ := r
    exact ⟨b, cap, by rw [List.getElem?_take_of_lt (of_decide_eq_true i)]; exact h1, h2⟩
  | .map id, x, i, r => by
    unfold RelV at *; unfold V.inside at i
    obtain ⟨b, h1, h2⟩ := r; exact ⟨b, by rw [List.getElem?_take_of_lt (of_decide_eq_true i)]; exact h1, h2⟩
  | .func fn a b, x, i, r => by
    unfold RelV at *; unfold V.inside at i
    simp only [Bool.and_eq_true] at i
    obtain ⟨f, c, h1, h2, h3⟩ := r
    exact ⟨f, c, h1, RelVs.cut n a _ i.1 h2, RelVs.cut n b _ i.2 h3⟩
  | .iface t v, x, i, r => by unfold RelV at *; unfold V.inside at i; obtain ⟨y, h1, h2⟩ := r; exact ⟨y, h1, RelV.cut n v y i h2⟩
  | .agg cs, x, i, r => by unfold RelV at *; unfold V.inside at i; obtain ⟨y, h1, h2⟩ := r; exact ⟨y, h1, RelVs.cut n cs _ i h2⟩
  | .tup cs, x, i, r => by unfold RelV at *; unfold V.inside at i; obtain ⟨y, h1, h2⟩ := r; exact ⟨y, h1, RelVs.cut n cs _ i h2⟩
theorem RelVs.cut (n : Nat) : ∀ (vs : List V) (xs : List Value), insideL n vs = true → RelVs μ lim w vs xs → RelVs (μ.take n) lim w vs xs
  | [], [], _, _ => by unfold RelVs; trivial
  | v :: vs, x :: xs, i, r => by
    unfold RelVs at *; unfold insideL at i; simp only [Bool.and_eq_true] at i
    exact ⟨RelV.cut n v x i.1 r.1, RelVs.cut n vs xs i.2 r.2⟩
  | [], _ :: _, _, r => by unfold RelVs at r; exact r.elim
  | _ :: _, [], _, r => by unfold RelVs at r; exact r.elim
theorem RelL.cut (n b o : Nat) : ∀ (vs : List V), insideL n vs = true → RelL μ lim w b o vs → RelL (μ.take n) lim w b o vs
  | [], _, _ => by unfold RelL; trivial
  | v :: vs, i, r => by
    unfold RelL at *; unfold insideL at i; simp only [Bool.and_eq_true] at i
    obtain ⟨⟨h1, c, h2, h3⟩, h4⟩ := r
    exact ⟨⟨h1, c, h2, RelV.cut n v c i.1 h3.1, h3.2⟩, RelL.cut n b (o + 1) vs i.2 h4⟩
theorem RelLL.cut (n sz b o : Nat) : ∀ (l : List (List V)), insideLL n l = true → RelLL μ lim w sz b o l → RelLL (μ.take n) lim w sz b o l
  | [], _, _ => by unfold RelLL; trivial
  | cs :: l, i, r => by
    unfold RelLL at *; unfold insideLL at i; simp only [Bool.and_eq_true] at i
    exact ⟨r.1, RelL.cut n b o cs i.1 r.2.1, RelLL.cut n sz b (o + sz) l i.2 r.2.2⟩
end

theorem RelVs.length : ∀ {vs : List V} {xs : List Value}, RelVs μ lim w vs xs → vs.length = xs.length
  | [], [], _ => rfl
  | _ :: _, _ :: _, r => by unfold RelVs at r; simp [RelVs.length r.2]
  | [], _ :: _, r => by unfold RelVs at r; exact r.elim
  | _ :: _, [], r => by unfold RelVs at r; exact r.elim

theorem RelVs.get : ∀ {vs : List V} {xs : List Value}, RelVs μ lim w vs xs → ∀ {k : Nat} {v : V}, vs[k]? = some v → ∃ x, xs[k]? = some x ∧ RelV μ lim w v x
  | [], _, _, k, v, h => by simp at h
  | _ :: _, x :: _, r, 0, v, h => by unfold RelVs at r; simp at h; subst h; exact ⟨x, by simp, r.1⟩
  | _ :: _, _ :: _, r, k + 1, v, h => by
    unfold RelVs at r
    obtain ⟨x, h1, h2⟩ := RelVs.get r.2 (k := k) (v := v) (by simpa using h)
    exact ⟨x, by simpa using h1, h2⟩
  | _ :: _, [], r, _, _, _ => by unfold RelVs at r; exact r.elim

theorem RelVs.of_get : ∀ {vs : List V} {xs : List Value}, vs.length = xs.length → (∀ (k : Nat) (v : V) (x : Value), vs[k]? = some v → xs[k]? = some x → RelV μ lim w v x) → RelVs μ lim w vs xs
  | [], [], _, _ => by unfold RelVs; trivial
  | v :: vs, x :: xs, hl, h => by
    unfold RelVs
    exact ⟨h 0 v x (by simp) (by simp), RelVs.of_get (by simpa using hl) fun k v x hv hx => h (k + 1) v x (by simpa using hv) (by simpa using hx)⟩
  | [], _ :: _, hl, _ => by simp at hl
  | _ :: _, [], hl, _ => by simp at hl

theorem RelVs.get' {vs : List V} {xs : List Value} (r : RelVs μ lim w vs xs) {k : Nat} {v : V} {x : Value} (hv : vs[k]? = some v) (hx : xs[k]? = some x) : RelV μ lim w v x := by
  obtain ⟨y, h1, h2⟩ := r.get hv
  rw [hx] at h1; cases h1; exact h2

theorem RelVs.append : ∀ {vs us : List V} {xs ys : List Value}, RelVs μ lim w vs xs → RelVs μ lim w us ys → RelVs μ lim w (vs ++ us) (xs ++ ys)
  | [], _, [], _, _, h => h
  | _ :: _, _, _ :: _, _, r, h => by unfold RelVs at r; simp only [List.cons_append]; unfold RelVs; exact ⟨r.1, RelVs.append r.2 h⟩
  | [], _, _ :: _, _, r, _ => by unfold RelVs at r; exact r.elim
  | _ :: _, _, [], _, r, _ => by unfold RelVs at r; exact r.elim

theorem RelVs.take {vs : List V} {xs : List Value} (r : RelVs μ lim w vs xs) (n : Nat) : RelVs μ lim w (vs.take n) (xs.take n) :=
  RelVs.of_get (by simp [r.length]) fun k v x hv hx => by
    rw [List.getElem?_take] at hv hx
    split at hv
    · rename_i hk; rw [if_pos hk] at hx; exact r.get' hv hx
    · simp at hv
theorem RelVs.drop {vs : List V} {xs : List Value} (r : RelVs μ lim w vs xs) (n : Nat) : RelVs μ lim w (vs.drop n) (xs.drop n) :=
  RelVs.of_get (by simp [r.length]) fun k v x hv hx => by
    rw [List.getElem?_drop] at hv hx
    exact r.get' hv hx

theorem RelL.get : ∀ {vs : List V} {b o : Nat}, RelL μ lim w b o vs → ∀ {k : Nat} {v : V}, vs[k]? = some v → o + k < lim b ∧ ∃ c, w.cell? ⟨b, o + k, none⟩ = some c ∧ RelV μ lim w v c ∧ c.oneCell = true
  | [], _, _, _, k, v, h => by simp at h
  | _ :: _, _, _, r, 0, v, h => by unfold RelL at r; simp at h; subst h; exact r.1
  | _ :: _, b, o, r, k + 1, v, h => by
    unfold RelL at r
    have := RelL.get r.2 (k := k) (v := v) (by simpa using h)
    rw [show o + (k + 1) = o + 1 + k by omega]; exact this

theorem RelL.of_get : ∀ {vs : List V} {b o : Nat}, (∀ (k : Nat) (v : V), vs[k]? = some v → o + k < lim b ∧ ∃ c, w.cell? ⟨b, o + k, none⟩ = some c ∧ RelV μ lim w v c ∧ c.oneCell = true) → RelL μ lim w b o vs
  | [], _, _, _ => by unfold RelL; trivial
  | v :: vs, b, o, h => by
    unfold RelL
    refine ⟨by simpa using h 0 v (by simp), RelL.of_get fun k v hv => ?_⟩
    have := h (k + 1) v (by simpa using hv)
    rw [show o + 1 + k = o + (k + 1) by omega]; exact this

theorem RelL.drop {vs : List V} {b o : Nat} (r : RelL μ lim w b o vs) (n : Nat) : RelL μ lim w b (o + n) (vs.drop n) :=
  RelL.of_get fun k v hv => by
    rw [List.getElem?_drop] at hv
    have := r.get hv
    rw [show o + n + k = o + (n + k) by omega]; exact this

theorem RelL.append : ∀ {vs us : List V} {b o : Nat}, RelL μ lim w b o vs → RelL μ lim w b (o + vs.length) us → RelL μ lim w b o (vs ++ us)
  | [], _, _, _, _, h => by simpa using h
  | v :: vs, us, b, o, r, h => by
    unfold RelL at r; simp only [List.cons_append]; unfold RelL
    refine ⟨r.1, RelL.append r.2 ?_⟩
    rw [show o + 1 + vs.length = o + (v :: vs).length by simp; omega]; exact h

theorem RelLL.get : ∀ {l : List (List V)} {sz b o : Nat}, RelLL μ lim w sz b o l → ∀ {i : Nat} {cs : List V}, l[i]? = some cs → cs.length = sz ∧ RelL μ lim w b (o + i * sz) cs
  | [], _, _, _, _, i, cs, h => by simp at h
  | c :: l, sz, b, o, r, 0, cs, h => by unfold RelLL at r; simp at h; subst h; simp; exact ⟨r.1, r.2.1⟩
  | c :: l, sz, b, o, r, i + 1, cs, h => by
    unfold RelLL at r
    have := RelLL.get r.2.2 (i := i) (cs := cs) (by simpa using h)
    rw [show o + (i + 1) * sz = o + sz + i * sz by rw [Nat.succ_mul]; omega]; exact this

theorem RelLL.of_get : ∀ {l : List (List V)} {sz b o : Nat}, (∀ (i : Nat) (cs : List V), l[i]? = some cs → cs.length = sz ∧ RelL μ lim w b (o + i * sz) cs) → RelLL μ lim w sz b o l
  | [], _, _, _, _ => by unfold RelLL; trivial
  | c :: l, sz, b, o, h => by
    unfold RelLL
    have h0 := h 0 c (by simp)
    simp only [Nat.zero_mul, Nat.add_zero] at h0
    refine ⟨h0.1, h0.2, RelLL.of_get fun i cs hc => ?_⟩
    have := h (i + 1) cs (by simpa using hc)
    rw [show o + sz + i * sz = o + (i + 1) * sz by rw [Nat.succ_mul]; omega]; exact this

theorem RelLL.append {l l' : List (List V)} {sz b o : Nat} (r : RelLL μ lim w sz b o l) (r' : RelLL μ lim w sz b (o + l.length * sz) l') : RelLL μ lim w sz b o (l ++ l') :=
  RelLL.of_get fun i cs h => by
    by_cases hi : i < l.length
    · rw [List.getElem?_append_left hi] at h; exact r.get h
    · rw [List.getElem?_append_right (by omega)] at h
      have := r'.get h
      rw [show o + l.length * sz + (i - l.length) * sz = o + i * sz by rw [Nat.sub_mul]; have := Nat.mul_le_mul_right sz (show l.length ≤ i by omega); omega] at this
      exact this

theorem RelLL.drop {l : List (List V)} {sz b o : Nat} (r : RelLL μ lim w sz b o l) (n : Nat) : RelLL μ lim w sz b (o + n * sz) (l.drop n) :=
  RelLL.of_get fun i cs h => by
    rw [List.getElem?_drop] at h
    have := r.get h
    rw [show o + n * sz + i * sz = o + (n + i) * sz by rw [Nat.add_mul]; omega]; exact this
theorem RelLL.take {l : List (List V)} {sz b o : Nat} (r : RelLL μ lim w sz b o l) (n : Nat) : RelLL μ lim w sz b o (l.take n) :=
  RelLL.of_get fun i cs h => by
    rw [List.getElem?_take] at h
    split at h
    · exact r.get h
    · simp at h

/-- All cells of a row of rows, one behind the other. -/
theorem RelLL.flat : ∀ {l : List (List V)} {sz b o : Nat}, RelLL μ lim w sz b o l → RelL μ lim w b o l.flatten ∧ l.flatten.length = l.length * sz
  | [], _, _, _, _ => by simp; unfold RelL; trivial
  | c :: l, sz, b, o, r => by
    unfold RelLL at r
    have := RelLL.flat r.2.2
    simp only [List.flatten_cons]
    refine ⟨RelL.append r.2.1 (by rw [r.1]; exact this.1), ?_⟩
    simp [r.1, this.2, Nat.succ_mul]; omega

theorem RelLL.of_flat : ∀ {l : List (List V)} {sz b o : Nat}, (∀ cs ∈ l, cs.length = sz) → RelL μ lim w b o l.flatten → RelLL μ lim w sz b o l
  | [], _, _, _, _, _ => by unfold RelLL; trivial
  | c :: l, sz, b, o, h, r => by
    unfold RelLL
    have hc := h c (by simp)
    simp only [List.flatten_cons] at r
    refine ⟨hc, RelL.of_get fun k v hv => ?_, RelLL.of_flat (fun cs hm => h cs (by simp [hm])) (RelL.of_get fun k v hv => ?_)⟩
    · exact r.get (by rw [List.getElem?_append_left (List.getElem?_eq_some_iff.1 hv).1]; exact hv)
    · have := r.get (k := sz + k) (v := v) (by rw [List.getElem?_append_right (by omega)]; rw [hc]; simpa using hv)
      rw [show o + sz + k = o + (sz + k) by omega]; exact this

theorem relV_eraseLeaf {v : V} {x : Value} : RelV μ lim w v.eraseLeaf x ↔ RelV μ lim w v x := by
  cases v with
  | slice o sz l => cases o <;> simp only [V.eraseLeaf] <;> unfold RelV <;> simp
  | _ => simp only [V.eraseLeaf]

theorem relVs_eraseLeaf : ∀ {vs : List V} {xs : List Value}, RelVs μ lim w (vs.map V.eraseLeaf) xs ↔ RelVs μ lim w vs xs
  | [], [] => by simp
  | v :: vs, x :: xs => by simp only [List.map_cons]; unfold RelVs; rw [relV_eraseLeaf, relVs_eraseLeaf]
  | [], _ :: _ => by simp
  | _ :: _, [] => by simp only [List.map_cons]; unfold RelVs; rfl

theorem relV_erase {v : V} {x : Value} : RelV μ lim w v.erase x ↔ RelV μ lim w v x := by
  cases v with
  | agg cs => simp only [V.erase]; unfold RelV; simp only [relVs_eraseLeaf]
  | _ => simp only [V.erase]; exact relV_eraseLeaf

theorem RelV.noAgg {v : V} {x : Value} (h : RelV μ lim w v x) (hv : ∀ cs, v ≠ .agg cs) : x.noAgg = true := by
  cases v with
  | agg cs => exact absurd rfl (hv cs)
  | sc u => unfold RelV at h; rw [h.1]; exact h.2
  | slice o sz l => unfold RelV at h; obtain ⟨_, _, rfl, _⟩ := h; rfl
  | ptr id off => unfold RelV at h; obtain ⟨_, _, rfl⟩ := h; rfl
  | imm cs => unfold RelV at h; obtain ⟨_, _, rfl, _⟩ := h; rfl
  | arr id off n sz => unfold RelV at h; obtain ⟨_, _, _, _, _, rfl, _⟩ := h; rfl
  | map id => unfold RelV at h; obtain ⟨_, _, rfl⟩ := h; rfl
  | func fn a b => unfold RelV at h; obtain ⟨_, _, rfl, _⟩ := h; rfl
  | iface t v => unfold RelV at h; obtain ⟨_, rfl, _⟩ := h; rfl
  | tup vs => unfold RelV at h; obtain ⟨_, rfl, _⟩ := h; rfl

theorem cells_of_noAgg {x : Value} (h : x.noAgg = true) : x.cells = #[x] := by cases x <;> first | rfl | simp [Value.noAgg] at h

theorem RelV.cells {v : V} {x : Value} (h : RelV μ lim w v x) : RelVs μ lim w v.cells x.cells.toList := by
  cases v with
  | agg cs => unfold RelV at h; obtain ⟨xs, rfl, h⟩ := h; exact h
  | _ =>
    rw [cells_of_noAgg (h.noAgg (by intro cs hc; cases hc))]
    simp only [V.cells]; unfold RelVs; refine ⟨h, ?_⟩; unfold RelVs; trivial

theorem RelV.cells_size {v : V} {x : Value} (h : RelV μ lim w v x) : x.cells.size = v.cells.length := by
  rw [h.cells.length, Array.length_toList]

theorem RelV.leaf {v : V} {x : Value} (h : RelV μ lim w v x) (hl : v.leaf = true) : x.oneCell = true := by
  cases v with
  | sc u => unfold RelV at h; rw [h.1]; cases u <;> first | rfl | simp [V.leaf] at hl
  | agg cs => simp [V.leaf] at hl
  | slice o sz l => unfold RelV at h; obtain ⟨_, _, rfl, _⟩ := h; rfl
  | ptr id off => unfold RelV at h; obtain ⟨_, _, rfl⟩ := h; rfl
  | imm cs => unfold RelV at h; obtain ⟨_, _, rfl, _⟩ := h; rfl
  | arr id off n sz => unfold RelV at h; obtain ⟨_, _, _, _, _, rfl, _⟩ := h; rfl
  | map id => unfold RelV at h; obtain ⟨_, _, rfl⟩ := h; rfl
  | func fn a b => unfold RelV at h; obtain ⟨_, _, rfl, _⟩ := h; rfl
  | iface t v => unfold RelV at h; obtain ⟨_, rfl, _⟩ := h; rfl
  | tup vs => simp [V.leaf] at hl
end
end Go.Ab
