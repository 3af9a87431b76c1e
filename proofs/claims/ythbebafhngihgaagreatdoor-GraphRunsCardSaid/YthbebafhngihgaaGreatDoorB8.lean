/- Append to what the frame owns. No premise but those named. -/
import Derived.Test.YthbebafhngihgaaGreatDoorB7
namespace Go.Ab
open Go

theorem touch_append {w : World} {lim : Nat → Nat} {b o m : Nat} {new : List Value} {c : Array Value} {ty : TypeId} {fr : Nat × Nat} (hb : w.heap[b]? = some (.cells c ty fr)) (hl : o + new.length ≤ c.size) (ho : lim b ≤ o) (hm : m = new.length) :
    Touch w lim b (w.setCells b o new) (fun d => if d = b then lim b + m else lim d) ∧
      (∃ c' : Array Value, (w.setCells b o new).heap[b]? = some (.cells c' ty fr) ∧ ∀ k, k < new.length → c'[o + k]? = new[k]?) ∧
      ∀ k, (w.setCells b o new).frozen? ⟨b, k, none⟩ = w.frozen? ⟨b, k, none⟩ := by
  obtain ⟨⟨c2, k1, k2, k3⟩, k4, k5, k6, k7, k8⟩ := setCells_heap b new o w c ty fr hb hl
  refine ⟨⟨k6, k7, k8, k5, fun d hd => ⟨k4 d hd, if_neg hd⟩, ?_, (Array.getElem?_eq_some_iff.1 hb).1, fun k hk => ⟨by rw [if_pos rfl]; omega, ?_⟩⟩, ⟨c2, k1, fun k hk => ?_⟩, fun k => ?_⟩
  · unfold bsize; rw [k1, hb]; exact k2
  · have := k3 k
    rw [if_neg (by omega)] at this
    simp [World.cell?, k1, hb, this]
  · rw [k3, if_pos (by omega)]; congr 1; omega
  · simp [World.frozen?, k1, hb]

theorem oneCells' {new : List Value} (h : ∀ v ∈ new, v.oneCell = true) : ∀ v ∈ new, v.oneCell' = true := fun v hv => by rw [oneCell_eq]; exact h v hv

theorem FRel.append {P : Program} {C : Ctx} {μ : List Nat} {lim : Nat → Nat} {ow : Nat → Owner} {s : FS} {a : Act} {w : World} (hC : C.OK) (h : FRel C μ lim ow s a w) {j : Nat} {o : Own} {sz : Nat} {l l' : List (List V)}
    (hj : s.R[j]? = some (some (.slice o sz l))) {t : Tmp} (ht : C.dsts[j]? = some (some t)) {X : Value} (hX : a.tmps[t]? = some X) {y : V} {Y : Value} (hy : RelV μ lim w y Y)
    (hel : elems s.σ sz y = some l') (hno : o ≠ .no) (hroom : l.length + l'.length ≤ roomy) {T T2 e : TypeId} (ty : TypeId) (hT : sliceElem P T = some e) (he : elemOK P e sz = true) (h2 : rowType P T2 = true)
    {dst : Option Nat} {i : Nat} {od : Option Tmp} (hd : dstOK C dst i od) :
    ∃ Z lim' w' ow', (Builtin.append_ #[T, T2] ty #[X, Y]).run P w = .ok Z w' ∧
      FRel C μ lim' ow' (({ s with R := s.R.set j (some (V.slice o sz l).erase) } : FS).put dst i (.slice (if l'.length = 0 then o else .tail) sz (l ++ l'))) (a.put od Z) w' := by
  obtain ⟨X', hX', hr, hown⟩ := h.res j _ t hj ht
  rw [hX] at hX'; cases hX'
  obtain ⟨new, n1, n2, n3, n4, n5, n6⟩ := elems_rel (P := P) h.chg.wrel hel hy
  have hnl : new.length = l'.length * sz := by rw [← n1.length, n4]
  have hszp : 0 < sz := (elemOK_spec he).choose_spec.choose_spec.1
  have hmove := h.move hC hj ht hX hd
  have hr0 := hr
  unfold RelV at hr
  obtain ⟨base, cap, rfl, hle, hcap, hbase⟩ := hr
  -- what lay there
  have hold : ∃ old : List Value, RelVs μ lim w l.flatten old ∧ (∀ v ∈ old, v.oneCell = true) ∧ (∀ cs ∈ l, cs.length = sz) ∧ l.flatten.length = l.length * sz ∧
      ∀ w', w'.heap = w.heap → (Builtin.firstCells sz l.length (.slice base l.length cap)).run P w' = .ok old.toArray w' := by
    obtain ⟨old, k1, k2, k3, k4, _, k6⟩ := elems_rel (P := P) (y := .slice o sz l) (sz := sz) (l := l) h.chg.wrel (by simp [elems]) hr0
    exact ⟨old, k1, k2, k3, k4, k6⟩
  -- a new row
  have grow : cap < l.length + l'.length → l'.length ≠ 0 → ∃ Z lim' w' ow', (Builtin.append_ #[T, T2] ty #[.slice base l.length cap, Y]).run P w = .ok Z w' ∧
      FRel C μ lim' ow' (({ s with R := s.R.set j (some (V.slice o sz l).erase) } : FS).put dst i (.slice (if l'.length = 0 then o else .tail) sz (l ++ l'))) (a.put od Z) w' := by
    intro hgt hne
    obtain ⟨old, k1, k2, k3, k4, k5⟩ := hold
    obtain ⟨nc, rest, m1, m2, m3, m4⟩ := run_append_new (P := P) (w := w) ty hT he h2 n5 k5 n6 hgt hroom
    have hdr : Chg μ lim w s.σ μ lim w.drew s.σ := chg_heap h.chg.wrel rfl rfl rfl rfl
    have hll : (l ++ l').flatten = l.flatten ++ l'.flatten := by simp
    obtain ⟨c1, c2, c3⟩ := fresh_row (l := l ++ l') (xs := old ++ new) (sz := sz) (cap := nc) (rest := rest) (e := e) (lim := lim) (w := w.drew) (σ := s.σ) (μ := μ) hdr.wrel
      (by rw [hll]; exact RelVs.ext (ext_heap (w := w) (w' := w.drew) rfl) _ _ (RelVs.append k1 n1)) (by intro v hv; rcases List.mem_append.1 hv with hv | hv; exact k2 v hv; exact n2 v hv)
      (by intro cs hcs; rcases List.mem_append.1 hcs with hcs | hcs; exact k3 cs hcs; exact n3 cs hcs) (by rw [hll, List.length_append, k4, n4, List.length_append, Nat.add_mul])
      (by rw [List.length_append]; exact m1) m2 (by rw [List.length_append]; exact m3) .tail (by simp)
    rw [if_neg hne]
    have hl0 : (l ++ l').length = l.length + l'.length := List.length_append
    rw [hl0] at c1 c2 c3
    obtain ⟨ow', hf⟩ := (h.eraseR hj).put_fresh hC (dst := dst) (i := i) (od := od) (hdr.trans c1) hd c2 c3 (by
      intro sz' l1 a1 n1 cap1 _ hx id ha hm
      simp only [Value.slice.injEq, Option.some.injEq] at hx
      rw [← hx.1] at hm
      have := h.chg.wrel.lt id _ hm
      exact Nat.lt_irrefl _ this)
    exact ⟨_, _, _, ow', m4, hf⟩
  by_cases hm : l'.length = 0
  · -- nothing is appended
    have hl0 : l' = [] := List.eq_nil_of_length_eq_zero hm
    have hz : V.slice (if l'.length = 0 then o else .tail) sz (l ++ l') = .slice o sz l := by rw [if_pos hm, hl0, List.append_nil]
    have hnew0 : new = [] := List.eq_nil_of_length_eq_zero (by rw [hnl, hm, Nat.zero_mul])
    rw [hz]
    cases base with
    | none =>
      simp only at hbase
      have hll : l.length = 0 := by omega
      subst hbase
      refine ⟨_, lim, w, _, ?_, hmove⟩
      rw [hll]
      exact run_append_none ty hT he h2 n5 n6 hm
    | some ad =>
      have had : ad = ⟨ad.block, ad.off, none⟩ := by cases ad; simp at hbase; simp [hbase.1]
      refine ⟨_, lim, w, _, ?_, hmove⟩
      have := run_append_in (P := P) (w := w) (n := l.length) (cap := cap) (b := ad.block) (off := ad.off) (new := new) ty hT he h2 n5 n6 (by omega) (by rw [hnew0]; simp) (by rw [hnew0]; simp) (by rw [hnew0]; simp)
      rw [← had] at this
      rw [this, hnew0, hm]
      rfl
  · cases base with
    | none =>
      simp only at hbase
      exact grow (by omega) hm
    | some ad =>
      by_cases hfit : l.length + l'.length ≤ cap
      · have had : ad = ⟨ad.block, ad.off, none⟩ := by cases ad; simp at hbase; simp [hbase.1]
        cases o with
        | no => exact absurd rfl hno
        | shut =>
          have := hle.2 rfl
          omega
        | tail =>
          have hown' : OwnLeaf lim w ow (.res j) (.slice .tail sz l) (.slice (some ad) l.length cap) := hown
          rcases hown' with hcn | ⟨o1, o2, o3, o4, o5⟩
          · omega
          have hbs : ad.off + l.length * sz + new.length ≤ bsize w ad.block := by
            rw [hnl]
            have : l.length * sz + l'.length * sz ≤ cap * sz := by rw [← Nat.add_mul]; exact Nat.mul_le_mul_right _ hfit
            omega
          have hpos : 0 < new.length := by rw [hnl]; exact Nat.mul_pos (by omega) hszp
          obtain ⟨c, cty, fr, hb⟩ : ∃ c cty fr, w.heap[ad.block]? = some (.cells c cty fr) := by
            unfold bsize at hbs
            split at hbs
            · exact ⟨_, _, _, by assumption⟩
            · omega
          have hcs : bsize w ad.block = c.size := by unfold bsize; rw [hb]
          obtain ⟨ht1, ⟨c', hc1, hc2⟩, ht3⟩ := touch_append (lim := lim) (o := ad.off + l.length * sz) (new := new) hb (by omega) (by omega) (rfl : l'.length * sz = l'.length * sz |> fun _ => new.length = new.length)
          have hrun := run_append_in (P := P) (w := w) (n := l.length) (cap := cap) (b := ad.block) (off := ad.off) (new := new) ty hT he h2 n5 n6 hfit
            (by intro k hk; obtain ⟨cc, hcc⟩ := cell_of_lt (w := w) (b := ad.block) (o := ad.off + l.length * sz + k) (by omega); rw [hcc]; rfl)
            (by intro k hk; exact o5 _ (by omega)) (oneCells' n2)
          rw [← had] at hrun
          rw [if_neg hm]
          have hlim' : (fun d => if d = ad.block then lim ad.block + new.length else lim d) ad.block = ad.off + (l.length + l'.length) * sz := by
            simp only [if_true]; rw [o3, hnl, Nat.add_mul]; omega
          refine ⟨_, _, _, _, hrun, hmove.regrow hC hd (b := ad.block) (give_src o1) ht1 ?_ ?_⟩
          · unfold RelV
            refine ⟨some ad, cap, by rw [List.length_append], ⟨by rw [List.length_append]; exact hfit, by simp⟩, hcap, hbase.1, ?_⟩
            refine RelLL.append (RelLL.ext (ht1.ext μ) _ _ _ _ hbase.2) (RelLL.of_flat n3 ?_)
            exact relL_new hc1 (RelVs.ext (ht1.ext μ) _ _ n1) n2 _ hc2 (by show _ ≤ (fun d => if d = ad.block then lim ad.block + new.length else lim d) ad.block; rw [hlim', n4, Nat.add_mul]; omega)
          · refine (?_ : OwnLeaf (fun d => if d = ad.block then lim ad.block + new.length else lim d) (w.setCells ad.block (ad.off + l.length * sz) new) (give ow dst i (some (.res j)) none) (ownerOf dst i)
                (.slice .tail sz (l ++ l')) (.slice (some ad) (l.length + l'.length) cap))
            refine .inr ⟨give_src o1, by rw [ht1.size]; exact o2, by show (fun d => if d = ad.block then lim ad.block + new.length else lim d) ad.block = _; rw [hlim', List.length_append], by rw [ht1.bsz]; exact o4, fun k hk => ?_⟩
            rw [ht3]
            have hk' : (fun d => if d = ad.block then lim ad.block + new.length else lim d) ad.block ≤ k := hk
            exact o5 k (by rw [hlim', Nat.add_mul] at hk'; rw [o3]; omega)
      · exact grow (by omega) hm

theorem fs_put_put (s : FS) (dst : Option Nat) (i : Nat) (x y : V) : (s.put dst i x).put dst i y = s.put dst i y := by
  cases dst <;> simp [FS.put]
theorem act_put_put (a : Act) (od : Option Tmp) (X Y : Value) : (a.put od X).put od Y = a.put od Y := by
  cases od <;> simp [Act.put]

/-- What lies at the result's place is seen otherwise. -/
theorem FRel.reput {C : Ctx} {μ : List Nat} {lim : Nat → Nat} {ow : Nat → Owner} {s : FS} {a : Act} {w : World} (hC : C.OK) {dst : Option Nat} {i : Nat} {od : Option Tmp} {x x' : V} {X X' : Value} (h : FRel C μ lim ow (s.put dst i x) (a.put od X) w) (hd : dstOK C dst i od)
    (hrel : RelV μ lim w x' X') (hown : OwnV lim w ow (ownerOf dst i) x' X') : FRel C μ lim ow (s.put dst i x') (a.put od X') w := by
  have := h.put hC hd hrel hown (fun _ _ _ _ _ hr => hr) (fun _ _ _ _ _ hr => hr) h.owobj h.owfresh h.owold
  rwa [fs_put_put, act_put_put] at this
end Go.Ab
