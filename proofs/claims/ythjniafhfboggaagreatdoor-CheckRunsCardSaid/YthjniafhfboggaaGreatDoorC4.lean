/- Writes into objects; slices of slices; rows to texts. No premise but those named. -/
import Derived.Test.YthjniafhfboggaaGreatDoorC3
import Derived.Laws.BytesString
namespace Go.Ab
open Go
section
variable {P : Program} {μ : List Nat} {lim : Nat → Nat} {w : World} {σ σ' : St} {o : Oper} {ρ : Operand → Value} {xs : List V} {x : V} {call : CallT} {opers : List Operand}

theorem cells_leaf {y : V} {Y : Value} (h : RelV μ lim w y Y) (hl : y.cells.all V.leaf = true) : ∀ v ∈ Y.cells.toList, v.oneCell = true := by
  have hcr := h.cells
  intro v hv
  obtain ⟨j, hj⟩ := List.getElem?_of_mem hv
  have hjl : j < y.cells.length := by rw [hcr.length]; exact (List.getElem?_eq_some_iff.1 hj).1
  exact (hcr.get' (List.getElem?_eq_getElem hjl) hj).leaf (List.all_eq_true.1 hl _ (List.getElem_mem hjl))

theorem rel_undef : RelV μ lim w .undef undef := scRel rfl
theorem fresh_undef {w0 : World} {lim' : Nat → Nat} {w' : World} : FreshV w0 lim' w' V.undef undef := trivial

theorem d_store {n : Nat} (hw : WRel μ lim w σ) (hd : o.dst = none) (hf : fit3 P (.store n) o.op = some opers) (hx : RelVs μ lim w xs (opers.map ρ)) (ha : A.act call (.store n) xs σ = some (x, σ')) :
    Done P μ lim w σ o ρ x.erase σ' := by
  obtain ⟨dst, op, ty, pos, after, guard⟩ := o
  simp only at hd
  simp only [fit3] at hf
  split at hf
  case h_2 => cases hf
  rename_i t ao xo
  split at hf
  case isFalse => cases hf
  rename_i hc
  simp only [Bool.and_eq_true, decide_eq_true_eq] at hc
  cases hf
  obtain ⟨y, z, rfl, h1, h2⟩ := rel2 hx
  simp only [A.act, actStore] at ha
  split at ha
  case h_2 => cases ha
  rename_i id off z' heq
  simp only [List.cons.injEq, and_true] at heq
  obtain ⟨rfl, rfl⟩ := heq
  split at ha
  case isFalse => cases ha
  rename_i hcond
  split at ha
  case h_2 => cases ha
  rename_i ob hget
  split at ha
  case h_2 => cases ha
  rename_i cs hcs
  split at ha
  case isFalse => cases ha
  rename_i hle
  cases ha
  unfold RelV at h1
  obtain ⟨b, hb, h1⟩ := h1
  have hal : alive σ id := ⟨_, hget, cs_alive hcs⟩
  obtain ⟨o1, o2, o3, o4⟩ := (hw.obj id b _ hget hb).cellsOf hcs
  obtain ⟨c, cty, fr, hh⟩ : ∃ c cty fr, w.heap[b]? = some (.cells c cty fr) := by
    have : 0 < bsize w b := by omega
    unfold bsize at this
    split at this
    · exact ⟨_, _, _, by assumption⟩
    · omega
  have hbs : bsize w b = c.size := by unfold bsize; rw [hh]
  have hzs : (ρ xo).cells.size = n := by rw [h2.cells_size]; exact hcond.2.1
  have hvl : (ρ xo).cells.toList.length = n := by simpa using hzs
  obtain ⟨⟨c2, k1, k2, k3⟩, k4, k5, k6, k7, k8⟩ := setCells_heap b (ρ xo).cells.toList off w c cty fr hh (by rw [hvl]; omega)
  have hone := cells_leaf h2 hcond.2.2
  obtain ⟨g1, g2⟩ := chg_set hw hcond.1 hal hb k6 k7 k8 k5 k4 (by unfold bsize; rw [k1, hh]; simp [k2]) (ob.with (splice cs off z.cells)) (fun hext => by
    have hcells : ObjRel μ lim (w.setCells b off (ρ xo).cells.toList) b (.cells (splice cs off z.cells)) := by
      refine ⟨o1, ?_, ?_, ?_⟩
      · rw [splice_length (by omega)]; unfold bsize; rw [k1]; simp only [k2]; omega
      · intro k
        have := o3 k
        simp [World.frozen?, hh] at this
        simp [World.frozen?, k1]
        exact this
      · intro k v hv
        rw [splice_get (by omega)] at hv
        have hck := k3 k
        rw [hvl] at hck
        rw [hcond.2.1] at hv
        split at hv
        · rename_i hk
          rw [if_pos hk] at hck
          obtain ⟨y, hy, hry⟩ := h2.cells.get hv
          refine ⟨y, by simp [World.cell?, k1, hck, hy], hry.ext hext, hone y (List.mem_of_getElem? hy)⟩
        · rename_i hk
          rw [if_neg hk] at hck
          obtain ⟨y, hy, hry, hyo⟩ := o4 k v hv
          refine ⟨y, ?_, hry.ext hext, hyo⟩
          simp [World.cell?, hh] at hy
          simp [World.cell?, k1, hck, hy]
    cases ob with
    | cells cs0 => exact hcells
    | var t0 cs0 =>
      obtain ⟨_, c0, q1, q2, _⟩ := hw.obj id b _ hget hb
      rw [hh] at q1
      cases q1
      simp only [Obj.cs] at hcs
      cases hcs
      exact ⟨o1, c2, k1, by rw [splice_length (by omega)]; omega, hcells.2.2.2⟩
    | _ => simp [Obj.cs] at hcs)
  refine ⟨.skip, undef, μ, lim, _, ?_, .inr ⟨rfl, hd, rfl⟩, g1, rel_undef, fresh_undef, fun _ _ _ _ _ he => absurd he erase_ne_tail⟩
  have hst := run_storeVar (P := P) (o := off) (by rw [hzs]; exact hc.1) hh (by rw [hzs]; omega) (fun k => o3 k) (oneCells' hone)
  simp only [execOp, h1, Sem.run_bind, hst, Result.andThen_ok]
  rfl

/-- A map's block is written. -/
theorem map_set (hw : WRel μ lim w σ) {id b : Nat} (hbase : σ.base ≤ id) {es : List (V × V)} (hget : σ.objs[id]? = some (.map es)) (hb : μ[id]? = some b) {ents : Array MapEntry} {n : Nat} (e1 : w.heap[b]? = some (.map ents n)) (nw : Array MapEntry) (es' : List (V × V))
    (hsz : nw.size = es'.length) (hr : Ext μ lim w μ lim { w with heap := w.heap.setIfInBounds b (.map nw nw.size) } → ∀ (i : Nat) (k v : V), es'[i]? = some (k, v) → ∃ e, nw[i]? = some e ∧ RelV μ lim { w with heap := w.heap.setIfInBounds b (.map nw nw.size) } k e.key ∧
      RelV μ lim { w with heap := w.heap.setIfInBounds b (.map nw nw.size) } v e.val ∧ e.born = i) :
    Chg μ lim w σ μ lim { w with heap := w.heap.setIfInBounds b (.map nw nw.size) } (σ.set id (.map es')) ∧ Ext μ lim w μ lim { w with heap := w.heap.setIfInBounds b (.map nw nw.size) } := by
  have hal : alive σ id := ⟨_, hget, by simp⟩
  have hblt : b < w.heap.size := (Array.getElem?_eq_some_iff.1 e1).1
  have o1 := (hw.obj id b _ hget hb).1
  refine chg_set (w' := { w with heap := w.heap.setIfInBounds b (.map nw nw.size) }) hw hbase hal hb rfl rfl rfl (by simp) (fun c hc => by rw [Array.getElem?_setIfInBounds_ne (Ne.symm hc)]) (by unfold bsize; rw [e1]; exact Nat.zero_le _) (.map es') fun hext => ?_
  exact ⟨o1, nw, by simp [hblt], hsz, hr hext⟩

/-- A worn map's block is written. -/
theorem map_setD (hw : WRel μ lim w σ) {id b : Nat} (hbase : σ.base ≤ id) {ob : Obj} (hget : σ.objs[id]? = some ob) (hdead : ob ≠ .dead) (hb : μ[id]? = some b) {ents : Array MapEntry} {n : Nat} (e1 : w.heap[b]? = some (.map ents n)) (m : Nat) (nw : Array MapEntry) (es' : List (V × V))
    (hsz : nw.size = es'.length) (hr : Ext μ lim w μ lim { w with heap := w.heap.setIfInBounds b (.map nw m) } → ∀ (i : Nat) (k v : V), es'[i]? = some (k, v) → ∃ e, nw[i]? = some e ∧ RelV μ lim { w with heap := w.heap.setIfInBounds b (.map nw m) } k e.key ∧
      RelV μ lim { w with heap := w.heap.setIfInBounds b (.map nw m) } v e.val) :
    Chg μ lim w σ μ lim { w with heap := w.heap.setIfInBounds b (.map nw m) } (σ.set id (.mapD es')) ∧ Ext μ lim w μ lim { w with heap := w.heap.setIfInBounds b (.map nw m) } := by
  have hal : alive σ id := ⟨_, hget, hdead⟩
  have hblt : b < w.heap.size := (Array.getElem?_eq_some_iff.1 e1).1
  have o1 := (hw.obj id b _ hget hb).lim hdead
  refine chg_set (w' := { w with heap := w.heap.setIfInBounds b (.map nw m) }) hw hbase hal hb rfl rfl rfl (by simp) (fun c hc => by rw [Array.getElem?_setIfInBounds_ne (Ne.symm hc)]) (by unfold bsize; rw [e1]; exact Nat.zero_le _) (.mapD es') fun hext => ?_
  exact ⟨o1, nw, m, by simp [hblt], hsz, hr hext⟩

theorem d_mapSet {kd : Nat} (hw : WRel μ lim w σ) (hd : o.dst = none) (hf : fit3 P (.mapSet kd) o.op = some opers) (hx : RelVs μ lim w xs (opers.map ρ)) (ha : A.act call (.mapSet kd) xs σ = some (x, σ')) :
    Done P μ lim w σ o ρ x.erase σ' := by
  obtain ⟨dst, op, ty, pos, after, guard⟩ := o
  simp only at hd
  obtain ⟨t, mo, ko, xo, kt, et, hu, hki, rfl, hop⟩ : ∃ t mo ko xo kt et, P.underlying t = some (.map kt et) ∧ keyIs P kt kd = true ∧ opers = [mo, ko, xo] ∧
      execOp ρ ⟨dst, op, ty, pos, after, guard⟩ = (do Instr.mapUpdate t (ρ mo) (ρ ko) (ρ xo); pure .skip) := by
    simp only [fit3] at hf
    split at hf
    · split at hf
      case h_2 => cases hf
      split at hf
      · cases hf; exact ⟨_, _, _, _, _, _, by assumption, by assumption, rfl, rfl⟩
      · cases hf
    · split at hf
      case h_2 => cases hf
      split at hf
      · cases hf; exact ⟨_, _, _, _, _, _, by assumption, by assumption, rfl, rfl⟩
      · cases hf
    · cases hf
  obtain ⟨y, k, v, rfl, h1, h2, h3⟩ := rel3 hx
  simp only [A.act, actMapSet] at ha
  split at ha
  case h_2 => cases ha
  rename_i id k' v' heq
  simp only [List.cons.injEq, and_true] at heq
  obtain ⟨rfl, rfl, rfl⟩ := heq
  split at ha
  case isFalse => cases ha
  rename_i hcond
  obtain ⟨hbase, hk⟩ := hcond
  unfold RelV at h1
  obtain ⟨b, hb, h1⟩ := h1
  split at ha
  · rename_i es hget
    obtain ⟨o1, ents, e1, e2, e3⟩ := hw.obj id b _ hget hb
    have hρk := key_rel hk h2
    have hck : (Instr.checkKey false 10000 kt (kval k)).run P w = .ok () w := check_key _ 9998 hki hk
    unfold mapPut at ha
    cases hm : mapIdx k es with
    | none => simp [hm] at ha
    | some r =>
      simp only [hm] at ha
      rcases idx_rel (P := P) (μ := μ) (lim := lim) (w := w) hki hk e2.symm (fun j k v hj => by obtain ⟨e, q1, q2, _⟩ := e3 j k v hj; exact ⟨e, q1, q2⟩) hm with ⟨rfl, hfk⟩ | ⟨j, k', v', e, rfl, q1, q2, q5, hfk⟩
      · simp at ha
        obtain ⟨rfl, rfl⟩ := ha
        obtain ⟨g1, g2⟩ := map_set hw hbase hget hb e1 (ents.push { key := kval k, val := ρ xo, born := ents.size }) (es ++ [(k, v)]) (by simp [e2]) (fun hext => by
            intro i k2 u hi
            rcases Nat.lt_or_ge i es.length with hlt | hge
            · rw [List.getElem?_append_left hlt] at hi
              obtain ⟨e, r1, r2, r3, r4⟩ := e3 i k2 u hi
              exact ⟨e, by rw [Array.getElem?_push_lt (by omega)]; rw [← r1]; simp [e2, hlt], r2.ext hext, r3.ext hext, r4⟩
            · rw [List.getElem?_append_right hge] at hi
              cases hz : i - es.length with
              | succ m => rw [hz] at hi; simp at hi
              | zero =>
                rw [hz] at hi
                simp at hi
                obtain ⟨rfl, rfl⟩ := hi
                have : i = ents.size := by omega
                subst this
                have hkk := h2.ext hext; rw [hρk] at hkk; exact ⟨_, Array.getElem?_push_size, hkk, h3.ext hext, rfl⟩)
        refine ⟨.skip, undef, μ, lim, _, ?_, .inr ⟨rfl, hd, rfl⟩, g1, rel_undef, fresh_undef, fun _ _ _ _ _ he => absurd he erase_ne_tail⟩
        rw [hop, h1, hρk]
        simp [Instr.mapUpdate, run_underlying hu, MapKept.run_getObj_map e1, hck, hfk, MapKept.run_setObj_map _ e1]
      · simp only [q1] at ha
        simp at ha
        obtain ⟨rfl, rfl⟩ := ha
        have hstay := stays_key (P := P) (w := w) hk
        let nw : Array MapEntry := ents.modify j fun e => { e with key := kval k, val := ρ xo }
        have hnw : ∀ i, nw[i]? = if j = i then (ents[i]?).map (fun e => { e with key := kval k, val := ρ xo }) else ents[i]? := fun i => by
          simp only [nw, Array.getElem?_modify]
        have hns : nw.size = ents.size := by simp [nw]
        obtain ⟨g1, g2⟩ := map_set hw hbase hget hb e1 nw (es.set j (k', v)) (by simp [hns, e2]) (fun hext => by
            intro i k2 u hi
            by_cases hij : j = i
            · subst hij
              rw [List.getElem?_set_self (List.getElem?_eq_some_iff.1 q1).1] at hi
              cases hi
              obtain ⟨e', r1, r2, r3, r4⟩ := e3 j _ v' q1
              have : e' = e := by rw [q2] at r1; cases r1; rfl
              subst this
              exact ⟨{ e' with key := kval k, val := ρ xo }, by rw [hnw, if_pos rfl, r1]; rfl, by rw [← q5]; exact r2.ext hext, h3.ext hext, r4⟩
            · rw [List.getElem?_set_ne hij] at hi
              obtain ⟨e', r1, r2, r3, r4⟩ := e3 i k2 u hi
              exact ⟨e', by rw [hnw, if_neg hij]; exact r1, r2.ext hext, r3.ext hext, r4⟩)
        rw [hns] at g1
        refine ⟨.skip, undef, μ, lim, _, ?_, .inr ⟨rfl, hd, rfl⟩, g1, rel_undef, fresh_undef, fun _ _ _ _ _ he => absurd he erase_ne_tail⟩
        rw [hop, h1, hρk]
        simp [Instr.mapUpdate, run_underlying hu, MapKept.run_getObj_map e1, hck, hfk, q2, q5, hstay, MapKept.run_setObj_map _ e1, nw]
  · rename_i es hget
    obtain ⟨o1, ents, nn, e1, e2, e3⟩ := hw.obj id b _ hget hb
    have hρk := key_rel hk h2
    have hck : (Instr.checkKey false 10000 kt (kval k)).run P w = .ok () w := check_key _ 9998 hki hk
    unfold mapPut at ha
    cases hm : mapIdx k es with
    | none => simp [hm] at ha
    | some r =>
      simp only [hm] at ha
      rcases idx_rel (P := P) (μ := μ) (lim := lim) (w := w) hki hk e2.symm (fun j k v hj => by obtain ⟨e, q1, q2, _⟩ := e3 j k v hj; exact ⟨e, q1, q2⟩) hm with ⟨rfl, hfk⟩ | ⟨j, k', v', e, rfl, q1, q2, q5, hfk⟩
      · simp at ha
        obtain ⟨rfl, rfl⟩ := ha
        obtain ⟨g1, g2⟩ := map_setD hw hbase hget (by simp) hb e1 (nn + 1) (ents.push { key := kval k, val := ρ xo, born := nn }) (es ++ [(k, v)]) (by simp [e2]) (fun hext => by
            intro i k2 u hi
            rcases Nat.lt_or_ge i es.length with hlt | hge
            · rw [List.getElem?_append_left hlt] at hi
              obtain ⟨e, r1, r2, r3⟩ := e3 i k2 u hi
              exact ⟨e, by rw [Array.getElem?_push_lt (by omega)]; rw [← r1]; simp [e2, hlt], r2.ext hext, r3.ext hext⟩
            · rw [List.getElem?_append_right hge] at hi
              cases hz : i - es.length with
              | succ m => rw [hz] at hi; simp at hi
              | zero =>
                rw [hz] at hi
                simp at hi
                obtain ⟨rfl, rfl⟩ := hi
                have : i = ents.size := by omega
                subst this
                have hkk := h2.ext hext; rw [hρk] at hkk; exact ⟨_, Array.getElem?_push_size, hkk, h3.ext hext⟩)
        refine ⟨.skip, undef, μ, lim, _, ?_, .inr ⟨rfl, hd, rfl⟩, g1, rel_undef, fresh_undef, fun _ _ _ _ _ he => absurd he erase_ne_tail⟩
        rw [hop, h1, hρk]
        simp [Instr.mapUpdate, run_underlying hu, MapKept.run_getObj_map e1, hck, hfk, MapKept.run_setObj_map _ e1]
      · simp only [q1] at ha
        simp at ha
        obtain ⟨rfl, rfl⟩ := ha
        have hstay := stays_key (P := P) (w := w) hk
        let nw : Array MapEntry := ents.modify j fun e => { e with key := kval k, val := ρ xo }
        have hnw : ∀ i, nw[i]? = if j = i then (ents[i]?).map (fun e => { e with key := kval k, val := ρ xo }) else ents[i]? := fun i => by
          simp only [nw, Array.getElem?_modify]
        have hns : nw.size = ents.size := by simp [nw]
        obtain ⟨g1, g2⟩ := map_setD hw hbase hget (by simp) hb e1 nn nw (es.set j (k', v)) (by simp [hns, e2]) (fun hext => by
            intro i k2 u hi
            by_cases hij : j = i
            · subst hij
              rw [List.getElem?_set_self (List.getElem?_eq_some_iff.1 q1).1] at hi
              cases hi
              obtain ⟨e', r1, r2, r3⟩ := e3 j _ v' q1
              have : e' = e := by rw [q2] at r1; cases r1; rfl
              subst this
              exact ⟨{ e' with key := kval k, val := ρ xo }, by rw [hnw, if_pos rfl, r1]; rfl, by rw [← q5]; exact r2.ext hext, h3.ext hext⟩
            · rw [List.getElem?_set_ne hij] at hi
              obtain ⟨e', r1, r2, r3⟩ := e3 i k2 u hi
              exact ⟨e', by rw [hnw, if_neg hij]; exact r1, r2.ext hext, r3.ext hext⟩)
        refine ⟨.skip, undef, μ, lim, _, ?_, .inr ⟨rfl, hd, rfl⟩, g1, rel_undef, fresh_undef, fun _ _ _ _ _ he => absurd he erase_ne_tail⟩
        rw [hop, h1, hρk]
        simp [Instr.mapUpdate, run_underlying hu, MapKept.run_getObj_map e1, hck, hfk, q2, q5, hstay, MapKept.run_setObj_map _ e1, nw]
  · cases ha

theorem setIfInBounds_same {α : Type} {xs : Array α} {i : Nat} {x : α} (h : xs[i]? = some x) : xs.setIfInBounds i x = xs := by
  apply Array.ext_getElem?
  intro k
  by_cases hk : i = k
  · subst hk
    rw [Array.getElem?_setIfInBounds_self_of_lt (Array.getElem?_eq_some_iff.1 h).1, h]
  · rw [Array.getElem?_setIfInBounds_ne hk]

theorem modify_same {ents : Array MapEntry} {j : Nat} {e : MapEntry} {K : Value} (h : ents[j]? = some e) (hk : e.key = K) : (ents.modify j fun e => { e with key := K }) = ents := by
  apply Array.ext_getElem?
  intro i
  rw [Array.getElem?_modify]
  split
  · rename_i hij
    subst hij
    rw [h]
    simp [← hk]
  · rfl

theorem d_mapEntry {kd : Nat} {zero : V} (hw : WRel μ lim w σ) (hf : fit3 P (.mapEntry kd zero) o.op = some opers) (hx : RelVs μ lim w xs (opers.map ρ)) (ha : A.act call (.mapEntry kd zero) xs σ = some (x, σ')) :
    Done P μ lim w σ o ρ x.erase σ' := by
  obtain ⟨dst, op, ty, pos, after, guard⟩ := o
  simp only [fit3] at hf
  split at hf
  case h_2 => cases hf
  rename_i t mo ko
  split at hf
  case h_2 => cases hf
  rename_i kt et hu
  split at hf
  case isFalse => cases hf
  rename_i hc
  simp only [Bool.and_eq_true] at hc
  obtain ⟨hki, hz⟩ := hc
  cases hf
  obtain ⟨z, hz1, hz2⟩ := zeroVOK_rel (μ := μ) (lim := lim) (w := w) hz
  obtain ⟨y, k, rfl, h1, h2⟩ := rel2 hx
  simp only [A.act, actMapEntry] at ha
  split at ha
  case h_2 => cases ha
  rename_i id k' heq
  simp only [List.cons.injEq, and_true] at heq
  obtain ⟨rfl, rfl⟩ := heq
  split at ha
  case isFalse => cases ha
  rename_i hcond
  obtain ⟨hbase, hk⟩ := hcond
  split at ha
  case h_2 => cases ha
  rename_i es hes
  unfold RelV at h1
  obtain ⟨b, hb, h1⟩ := h1
  have hget := getMap_spec hes
  obtain ⟨o1, ents, e1, e2, e3⟩ := hw.obj id b _ hget hb
  have hρk := key_rel hk h2
  have hck : (Instr.checkKey false 10000 kt (kval k)).run P w = .ok () w := check_key _ 9998 hki hk
  have htup : ∀ {μ' : List Nat} {lim' : Nat → Nat} {w' : World} {v : V} {X : Value} {n : Nat}, RelV μ' lim' w' v X → RelV μ' lim' w' (.tup [v, .int n]) (.tuple #[X, goInt n]) := by
    intro μ' lim' w' v X n hv
    unfold RelV; refine ⟨_, rfl, ?_⟩; unfold RelVs; refine ⟨hv, ?_⟩; unfold RelVs; refine ⟨scRel rfl, ?_⟩; unfold RelVs; trivial
  cases hm : mapIdx k es with
  | none => simp [hm] at ha
  | some r =>
    simp only [hm] at ha
    rcases idx_rel (P := P) (μ := μ) (lim := lim) (w := w) hki hk e2.symm (fun j k v hj => by obtain ⟨e, q1, q2, _⟩ := e3 j k v hj; exact ⟨e, q1, q2⟩) hm with ⟨rfl, hfk⟩ | ⟨j, k', v', e, rfl, q1, q2, q5, hfk⟩
    · simp only at ha
      cases ha
      obtain ⟨g1, g2⟩ := map_set hw hbase hget hb e1 (ents.push { key := kval k, val := z, born := ents.size }) (es ++ [(k, zero)]) (by simp [e2]) (fun hext => by
          intro i k2 u hi
          rcases Nat.lt_or_ge i es.length with hlt | hge
          · rw [List.getElem?_append_left hlt] at hi
            obtain ⟨e, r1, r2, r3, r4⟩ := e3 i k2 u hi
            exact ⟨e, by rw [Array.getElem?_push_lt (by omega)]; rw [← r1]; simp [e2, hlt], r2.ext hext, r3.ext hext, r4⟩
          · rw [List.getElem?_append_right hge] at hi
            cases hz : i - es.length with
            | succ m => rw [hz] at hi; simp at hi
            | zero =>
              rw [hz] at hi
              simp at hi
              obtain ⟨rfl, rfl⟩ := hi
              have : i = ents.size := by omega
              subst this
              have hkk := h2.ext hext; rw [hρk] at hkk; exact ⟨_, Array.getElem?_push_size, hkk, hz2.ext hext, rfl⟩)
      refine ⟨_, .tuple #[z, goInt ents.size], μ, lim, _, ?_, .inl rfl, g1, relV_erase.2 (by rw [← e2]; exact htup (hz2.ext g2)), freshV_erase, fun _ _ _ _ _ he => absurd he erase_ne_tail⟩
      simp [execOp, h1, hρk, Instr.mapEntry, run_underlying hu, MapKept.run_getObj_map e1, hck, hfk, hz1, MapKept.run_setObj_map _ e1]
    · simp only [q1] at ha
      cases ha
      have hstay := stays_key (P := P) (w := w) hk
      obtain ⟨e', r1, r2, r3, r4⟩ := e3 j k' v' q1
      have : e' = e := by rw [q2] at r1; cases r1; rfl
      subst this
      refine ⟨_, .tuple #[e'.val, goInt j], μ, lim, w, ?_, .inl rfl, Chg.refl hw, relV_erase.2 (htup r3), freshV_erase, fun _ _ _ _ _ he => absurd he erase_ne_tail⟩
      have hmod := modify_same q2 q5
      have hheap := setIfInBounds_same e1
      simp [execOp, h1, hρk, Instr.mapEntry, run_underlying hu, MapKept.run_getObj_map e1, hck, hfk, q2, q5, hstay, MapKept.run_setObj_map _ e1, hmod, hheap, r4]

theorem d_entryStore (hw : WRel μ lim w σ) (hd : o.dst = none) (hf : fit3 P .entryStore o.op = some opers) (hx : RelVs μ lim w xs (opers.map ρ)) (ha : A.act call .entryStore xs σ = some (x, σ')) :
    Done P μ lim w σ o ρ x.erase σ' := by
  obtain ⟨dst, op, ty, pos, after, guard⟩ := o
  simp only at hd
  simp only [fit3] at hf
  split at hf
  case h_2 => cases hf
  rename_i t mo io xo
  cases hf
  obtain ⟨y, k, v, rfl, h1, h2, h3⟩ := rel3 hx
  simp only [A.act, actEntryStore] at ha
  split at ha
  case h_2 => cases ha
  rename_i id i v' heq
  simp only [List.cons.injEq, and_true] at heq
  obtain ⟨rfl, rfl, rfl⟩ := heq
  split at ha
  case isFalse => cases ha
  rename_i hcond
  obtain ⟨hbase, hi⟩ := hcond
  split at ha
  case h_2 => cases ha
  rename_i es hes
  split at ha
  case h_2 => cases ha
  rename_i k0 v0 q1
  cases ha
  unfold RelV at h1
  obtain ⟨b, hb, h1⟩ := h1
  have hget := getMap_spec hes
  obtain ⟨o1, ents, e1, e2, e3⟩ := hw.obj id b _ hget hb
  obtain ⟨e, r1, r2, r3, r4⟩ := e3 i.toNat k0 v0 q1
  have hidx : ents.findIdx? (fun e => (e.born : Int) == i) = some i.toNat := by
    rw [Array.findIdx?_eq_some_iff_getElem]
    obtain ⟨hlt, he⟩ := Array.getElem?_eq_some_iff.1 r1
    refine ⟨hlt, ?_, fun j hj => ?_⟩
    · rw [he, r4]; simp; omega
    · have hjl : j < es.length := by omega
      obtain ⟨e', s1, _, _, s4⟩ := e3 j _ _ (List.getElem?_eq_getElem hjl)
      obtain ⟨_, he'⟩ := Array.getElem?_eq_some_iff.1 s1
      rw [he', s4]; simp; omega
  let nw : Array MapEntry := ents.modify i.toNat fun e => { e with val := ρ xo }
  have hnw : ∀ j, nw[j]? = if i.toNat = j then (ents[j]?).map (fun e => { e with val := ρ xo }) else ents[j]? := fun j => by
    simp only [nw, Array.getElem?_modify]
  have hns : nw.size = ents.size := by simp [nw]
  obtain ⟨g1, g2⟩ := map_set hw hbase hget hb e1 nw (es.set i.toNat (k0, v)) (by simp [hns, e2]) (fun hext => by
      intro j k2 u hj
      by_cases hij : i.toNat = j
      · subst hij
        rw [List.getElem?_set_self (List.getElem?_eq_some_iff.1 q1).1] at hj
        cases hj
        exact ⟨{ e with val := ρ xo }, by rw [hnw, if_pos rfl, r1]; rfl, r2.ext hext, h3.ext hext, r4⟩
      · rw [List.getElem?_set_ne hij] at hj
        obtain ⟨e', r1, r2, r3, r4⟩ := e3 j k2 u hj
        exact ⟨e', by rw [hnw, if_neg hij]; exact r1, r2.ext hext, r3.ext hext, r4⟩)
  rw [hns] at g1
  refine ⟨.skip, undef, μ, lim, _, ?_, .inr ⟨rfl, hd, rfl⟩, g1, rel_undef, fresh_undef, fun _ _ _ _ _ he => absurd he erase_ne_tail⟩
  simp [execOp, h1, relSc h2, Instr.entryStore, MapKept.run_getObj_map e1, asInt, asIntOf, hidx, MapKept.run_setObj_map _ e1, nw]
end
end Go.Ab
