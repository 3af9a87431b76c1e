/- Keys of maps. No premise but those named. -/
import Derived.Test.YthbebafhngihgaaGreatDoorA6
import Derived.MapKept
import Derived.Laws.StructEq
namespace Go.Ab
open Go

def scv : V → Value
  | .sc a => a
  | _ => undef
/-- A key's value. -/
def kval : V → Value
  | .agg cs => .agg (cs.map scv).toArray
  | v => scv v

def keyKind (P : Program) (t : TypeId) : Option Nat := match P.underlying t with
  | some (.int _) => some 0
  | some .string => some 1
  | some .bool => some 2
  | _ => none
def keyFields (P : Program) : Nat → Nat → List Field → Bool
  | _, c, [] => c == 0
  | i, c, f :: fs => f.name != "_" && f.offset == i && (match keyKind P f.type with
    | some k => c % 4 == k + 1
    | none => false) && keyFields P (i + 1) (c / 4) fs
/-- The kind of a map's keys. -/
def keyIs (P : Program) (t : TypeId) (kd : Nat) : Bool := match P.underlying t with
  | some (.struct fs) => decide (4 ≤ kd) && keyFields P 0 (kd - 4) fs.toList && !P.stoodInHeld t
  | _ => keyKind P t == some kd

section
variable {P : Program} {μ : List Nat} {lim : Nat → Nat} {w : World}

theorem scKind_sc {v : V} {k : Nat} (h : scKind v = some k) : ∃ a, v = .sc a ∧ a.noAgg = true := by
  unfold scKind at h
  split at h <;> first | exact ⟨_, rfl, rfl⟩ | cases h
theorem relSc' {v X : Value} (h : RelV μ lim w (.sc v) X) : X = v := by unfold RelV at h; exact h.1

theorem relVs_sc : ∀ {cs : List V} {xs : List Value}, (∀ v ∈ cs, ∃ a, v = .sc a) → RelVs μ lim w cs xs → xs = cs.map scv
  | [], [], _, _ => rfl
  | v :: vs, x :: xs, h, r => by
    unfold RelVs at r
    obtain ⟨a, rfl⟩ := h v (by simp)
    rw [relSc' r.1, relVs_sc (fun u hu => h u (by simp [hu])) r.2]; rfl
  | [], _ :: _, _, r => by unfold RelVs at r; exact r.elim
  | _ :: _, [], _, r => by unfold RelVs at r; exact r.elim

theorem kindsOK_sc : ∀ {c : Nat} {cs : List V}, kindsOK c cs = true → ∀ v ∈ cs, ∃ a, v = .sc a
  | _, [], _ => by simp
  | c, v :: vs, h => by
    simp only [kindsOK, Bool.and_eq_true] at h
    intro u hu
    rcases List.mem_cons.1 hu with rfl | hu
    · obtain ⟨h1, _⟩ := h
      split at h1
      · rename_i k hk; obtain ⟨a, ha, _⟩ := scKind_sc hk; exact ⟨a, ha⟩
      · cases h1
    · exact kindsOK_sc h.2 u hu

theorem keysEq_sc : ∀ (as bs : List V) (e : Bool), keysEq as bs = some e → ∀ v ∈ bs, ∃ a, v = .sc a := by
  intro as
  induction as with
  | nil => intro bs e h; cases bs with
    | nil => simp
    | cons _ _ => simp [keysEq] at h
  | cons x as ih =>
    intro bs e h
    cases bs with
    | nil => cases x <;> simp [keysEq] at h
    | cons y bs =>
      cases x <;> cases y <;> first | (simp [keysEq] at h; done) | skip
      rename_i a b
      simp only [keysEq] at h
      split at h
      · cases h
      · split at h
        · cases h
        · rename_i r hr
          intro v hv
          rcases List.mem_cons.1 hv with rfl | hv
          · exact ⟨b, rfl⟩
          · exact ih bs r hr v hv

theorem scEq_same {a b : Value} (h : scEq a b = some true) : b = a := by
  cases a <;> cases b <;> simp [scEq] at h <;> simp_all

theorem keysEq_same : ∀ (as bs : List V), keysEq as bs = some true → bs.map scv = as.map scv := by
  intro as
  induction as with
  | nil => intro bs h; cases bs with
    | nil => rfl
    | cons _ _ => simp [keysEq] at h
  | cons x as ih =>
    intro bs h
    cases bs with
    | nil => cases x <;> simp [keysEq] at h
    | cons y bs =>
      cases x <;> cases y <;> first | (simp [keysEq] at h; done) | skip
      rename_i a b
      simp only [keysEq] at h
      split at h
      · cases h
      · rename_i e he
        split at h
        · cases h
        · rename_i r hr
          simp only [Option.some.injEq, Bool.and_eq_true] at h
          obtain ⟨rfl, rfl⟩ := h
          simp only [List.map_cons, scv, scEq_same he, ih bs hr]

theorem key_rel {kd : Nat} {k : V} {K : Value} (hk : kindOK kd k = true) (hr : RelV μ lim w k K) : K = kval k := by
  unfold kindOK at hk
  split at hk
  · rename_i cs
    simp only [Bool.and_eq_true] at hk
    unfold RelV at hr
    obtain ⟨xs, rfl, hr⟩ := hr
    have := relVs_sc (kindsOK_sc hk.2) hr
    simp only [kval, ← this]
  · obtain ⟨a, rfl, _⟩ := scKind_sc (eq_of_beq hk)
    exact relSc' hr

theorem key_rel' {k k' : V} {e : Bool} {K : Value} (hk : keyEq k k' = some e) (hr : RelV μ lim w k' K) : K = kval k' := by
  unfold keyEq at hk
  split at hk
  · exact relSc' hr
  · rename_i as bs
    unfold RelV at hr
    obtain ⟨xs, rfl, hr⟩ := hr
    have := relVs_sc (keysEq_sc _ _ _ hk) hr
    simp only [kval, ← this]
  · cases hk

theorem keyEq_same {k k' : V} (h : keyEq k k' = some true) : kval k' = kval k := by
  unfold keyEq at h
  split at h
  · exact scEq_same h
  · simp only [kval, keysEq_same _ _ h]
  · cases h

theorem keyKind_agg {t : TypeId} {k : Nat} (h : keyKind P t = some k) : isAggB P t false = true := by
  unfold keyKind at h
  unfold isAggB
  split at h <;> rename_i hu <;> first | (rw [hu]; rfl) | cases h

theorem part_key {t : TypeId} {k i : Nat} {xs : Array Value} {v : Value} (hk : keyKind P t = some k) (hx : xs[i]? = some v) : (Go.part t xs i).run P w = .ok v w := by
  simp only [Go.part, Sem.run_bind, run_isAgg (keyKind_agg hk), Result.andThen_ok, hx]
  rfl

theorem equalSc {t : TypeId} {k d : Nat} {a b : Value} {e : Bool} (hk : keyKind P t = some k) (ha : scKind (.sc a) = some k) (h : scEq a b = some e) : (Op.equalIn (d + 1) t a b).run P w = .ok e w := by
  unfold keyKind at hk
  split at hk
  · rename_i kk hu
    cases hk
    cases a <;> simp [scKind] at ha
    cases b <;> simp [scEq] at h
    obtain ⟨rfl, rfl⟩ := h
    rw [run_equalIn_int _ _ _ _ _ _ _ hu]
  · rename_i hu
    cases hk
    cases a <;> simp [scKind] at ha
    cases b <;> simp [scEq] at h
    subst h
    rw [run_equalIn_string _ _ _ _ _ hu, bytes_toList_beq]
  · rename_i hu
    cases hk
    cases a <;> simp [scKind] at ha
    cases b <;> simp [scEq] at h
    subst h
    rw [run_equalIn_bool' _ _ _ _ _ hu]
  · cases hk

theorem eqFields_run (d : Nat) (xs ys : Array Value) : ∀ (fs : List Field) (i c : Nat) (as bs : List V) (e : Bool), keyFields P i c fs = true → kindsOK c as = true → keysEq as bs = some e →
    (∀ j, xs[i + j]? = (as.map scv)[j]?) → (∀ j, ys[i + j]? = (bs.map scv)[j]?) → (Op.eqFields (d + 1) xs ys fs).run P w = .ok e w := by
  intro fs
  induction fs with
  | nil =>
    intro i c as bs e hf hk he _ _
    simp only [keyFields, beq_iff_eq] at hf
    subst hf
    cases as with
    | cons v vs => simp [kindsOK] at hk; split at hk <;> simp at hk
    | nil => cases bs with
      | cons _ _ => simp [keysEq] at he
      | nil => simp only [keysEq] at he; cases he; rfl
  | cons f fs ih =>
    intro i c as bs e hf hk he hx hy
    simp only [keyFields, Bool.and_eq_true, bne_iff_ne, beq_iff_eq] at hf
    obtain ⟨⟨⟨hn, ho⟩, hkk⟩, hf⟩ := hf
    split at hkk
    case h_2 => cases hkk
    rename_i k hkt
    have hc := eq_of_beq hkk
    cases as with
    | nil => simp [kindsOK] at hk; omega
    | cons v vs =>
      simp only [kindsOK, Bool.and_eq_true] at hk
      obtain ⟨hk1, hk2⟩ := hk
      split at hk1
      case h_2 => cases hk1
      rename_i k' hk'
      have hc' := eq_of_beq hk1
      have : k' = k := by omega
      subst this
      obtain ⟨a, rfl, _⟩ := scKind_sc hk'
      cases bs with
      | nil => simp [keysEq] at he
      | cons u us =>
        obtain ⟨b, rfl⟩ := keysEq_sc _ _ _ he u (by simp)
        simp only [keysEq] at he
        split at he
        · cases he
        · rename_i e1 he1
          split at he
          · cases he
          · rename_i e2 he2
            cases he
            have hx0 := hx 0
            have hy0 := hy 0
            simp only [Nat.add_zero, List.map_cons, scv, List.getElem?_cons_zero] at hx0 hy0
            rw [← ho] at hx0 hy0
            have hr := ih (i + 1) (c / 4) vs us e2 hf hk2 he2 (fun j => by have := hx (j + 1); rw [show i + 1 + j = i + (j + 1) by omega]; simpa using this) (fun j => by have := hy (j + 1); rw [show i + 1 + j = i + (j + 1) by omega]; simpa using this)
            simp only [Op.eqFields, hn, ne_eq, not_false_eq_true, if_true, Sem.run_bind, part_key hkt hx0, part_key hkt hy0, Result.andThen_ok, equalSc hkt hk' he1]
            cases e1
            · simp
            · simpa using hr

theorem keyIs_struct {t : TypeId} {kd : Nat} {cs : List V} (h : keyIs P t kd = true) (hk : kindOK kd (.agg cs) = true) : P.underlying t = some (.struct (P.fieldsOf t)) ∧ keyFields P 0 (kd - 4) (P.fieldsOf t).toList = true ∧ P.stoodInHeld t = false ∧ kindsOK (kd - 4) cs = true := by
  simp only [kindOK, Bool.and_eq_true, decide_eq_true_eq] at hk
  unfold keyIs at h
  split at h
  · rename_i fs hu
    simp only [Bool.and_eq_true, decide_eq_true_eq, Bool.not_eq_true'] at h
    have : P.fieldsOf t = fs := by simp [Program.fieldsOf, hu]
    rw [this]
    exact ⟨hu, h.1.2, h.2, hk.2⟩
  · exfalso
    unfold keyKind at h
    split at h <;> simp at h <;> omega

theorem keyIs_sc {t : TypeId} {kd : Nat} {a : Value} (h : keyIs P t kd = true) (hk : kindOK kd (.sc a) = true) : keyKind P t = some kd ∧ scKind (.sc a) = some kd := by
  have hk' : scKind (.sc a) = some kd := eq_of_beq hk
  refine ⟨?_, hk'⟩
  unfold keyIs at h
  split at h
  · simp only [Bool.and_eq_true, decide_eq_true_eq] at h
    have : kd ≤ 2 := by unfold scKind at hk'; split at hk' <;> simp at hk' <;> omega
    omega
  · exact eq_of_beq h

theorem kind_cases {kd : Nat} {k : V} (h : kindOK kd k = true) : (∃ a, k = .sc a) ∨ ∃ cs, k = .agg cs := by
  unfold kindOK at h
  split at h
  · exact .inr ⟨_, rfl⟩
  · obtain ⟨a, ha, _⟩ := scKind_sc (eq_of_beq h); exact .inl ⟨a, ha⟩

theorem equal_key {t : TypeId} {kd d : Nat} {k k' : V} {e : Bool} (hki : keyIs P t kd = true) (hk : kindOK kd k = true) (h : keyEq k k' = some e) : (Op.equalIn (d + 2) t (kval k) (kval k')).run P w = .ok e w := by
  rcases kind_cases hk with ⟨a, rfl⟩ | ⟨cs, rfl⟩
  · unfold keyEq at h
    split at h
    · rename_i a' b heq
      cases heq
      obtain ⟨h1, h2⟩ := keyIs_sc hki hk
      exact equalSc h1 h2 h
    · rename_i heq; cases heq
    · cases h
  · unfold keyEq at h
    split at h
    · rename_i heq; cases heq
    · rename_i as bs heq
      cases heq
      obtain ⟨h1, h2, h3, h4⟩ := keyIs_struct hki hk
      simp only [kval]
      rw [run_equalIn_struct _ _ _ _ _ h1 h3]
      exact eqFields_run d _ _ _ 0 (kd - 4) cs bs e h2 h4 h (fun j => by simp) (fun j => by simp)
    · cases h

theorem check_fields (e : Bool) (n : Nat) (xs : Array Value) : ∀ (fs : List Field) (i c : Nat) (as : List V), keyFields P i c fs = true → kindsOK c as = true → (∀ j, xs[i + j]? = (as.map scv)[j]?) →
    (forIn (m := Sem) fs PUnit.unit fun f _ => if f.name ≠ "_" then (do Instr.checkKey e (n + 1) f.type (← Go.part f.type xs f.offset); pure (ForInStep.yield PUnit.unit)) else pure (ForInStep.yield PUnit.unit)).run P w = .ok PUnit.unit w := by
  intro fs
  induction fs with
  | nil => intro i c as _ _ _; rfl
  | cons f fs ih =>
    intro i c as hf hk hx
    simp only [keyFields, Bool.and_eq_true, bne_iff_ne, beq_iff_eq] at hf
    obtain ⟨⟨⟨hn, ho⟩, hkk⟩, hf⟩ := hf
    split at hkk
    case h_2 => cases hkk
    rename_i k hkt
    have hc := eq_of_beq hkk
    cases as with
    | nil => simp [kindsOK] at hk; omega
    | cons v vs =>
      simp only [kindsOK, Bool.and_eq_true] at hk
      obtain ⟨hk1, hk2⟩ := hk
      split at hk1
      case h_2 => cases hk1
      rename_i k' hk'
      have hc' := eq_of_beq hk1
      have : k' = k := by omega
      subst this
      obtain ⟨a, rfl, _⟩ := scKind_sc hk'
      have hx0 := hx 0
      simp only [Nat.add_zero, List.map_cons, scv, List.getElem?_cons_zero] at hx0
      rw [← ho] at hx0
      have hr := ih (i + 1) (c / 4) vs hf hk2 (fun j => by have := hx (j + 1); rw [show i + 1 + j = i + (j + 1) by omega]; simpa using this)
      have hck : (Instr.checkKey e (n + 1) f.type a).run P w = .ok () w := by
        unfold keyKind at hkt
        unfold Instr.checkKey
        split at hkt <;> rename_i hu <;> first | (cases hkt; done) | skip
        all_goals (cases hkt; cases a <;> simp [scKind] at hk' <;> simp [run_underlying hu])
      rw [List.forIn_cons]
      simp only [hn, ne_eq, not_false_eq_true, if_true, Sem.run_bind, part_key hkt hx0, Result.andThen_ok, hck, Sem.run_pure]
      exact hr

theorem check_key {t : TypeId} {kd : Nat} {k : V} (e : Bool) (n : Nat) (hki : keyIs P t kd = true) (hk : kindOK kd k = true) : (Instr.checkKey e (n + 2) t (kval k)).run P w = .ok () w := by
  rcases kind_cases hk with ⟨a, rfl⟩ | ⟨cs, rfl⟩
  · obtain ⟨h1, h2⟩ := keyIs_sc hki hk
    unfold keyKind at h1
    unfold Instr.checkKey
    simp only [kval, scv]
    split at h1 <;> rename_i hu <;> first | (cases h1; done) | skip
    all_goals (cases h1; cases a <;> simp [scKind] at h2 <;> simp [run_underlying hu])
  · obtain ⟨h1, h2, h3, h4⟩ := keyIs_struct hki hk
    have := check_fields (P := P) (w := w) e n (cs.map scv).toArray (P.fieldsOf t).toList 0 (kd - 4) cs h2 h4 (fun j => by simp)
    unfold Instr.checkKey
    simp only [kval, Sem.run_bind, run_underlying h1, Result.andThen_ok]
    rw [← Array.forIn_toList, this]
    rfl

theorem stays_key {kd : Nat} {k : V} (hk : kindOK kd k = true) : (Instr.keyThatStays (kval k) (kval k)).run P w = .ok (kval k) w := by
  have hsc : ∀ (n : Nat) (v : V) (j : Nat), scKind v = some j → Instr.sameBits n (scv v) (scv v) = true := by
    intro n v j h
    obtain ⟨a, rfl, _⟩ := scKind_sc h
    cases a <;> simp [scKind] at h <;> cases n <;> simp [Instr.sameBits, scv, MapKept.bytes_beq]
  have hsb : Instr.sameBits 10000 (kval k) (kval k) = true := by
    rcases kind_cases hk with ⟨a, rfl⟩ | ⟨cs, rfl⟩
    · exact hsc _ _ kd (eq_of_beq hk)
    · simp only [kindOK, Bool.and_eq_true] at hk
      have hall : ∀ (c : Nat) (l : List V), kindsOK c l = true → ((l.map scv).zip (l.map scv)).all (fun p => Instr.sameBits 9999 p.1 p.2) = true := by
        intro c l
        induction l generalizing c with
        | nil => intro _; rfl
        | cons v vs ih =>
          intro h
          simp only [kindsOK, Bool.and_eq_true] at h
          simp only [List.map_cons, List.zip_cons_cons, List.all_cons, Bool.and_eq_true]
          refine ⟨?_, ih _ h.2⟩
          have h1 := h.1
          split at h1
          · rename_i j hj; exact hsc _ _ _ hj
          · cases h1
      show Instr.sameBits (9999 + 1) (kval (.agg cs)) (kval (.agg cs)) = true
      simp only [kval, Instr.sameBits, beq_self_eq_true, Bool.true_and]
      exact hall _ _ hk.2
  simp [Instr.keyThatStays, hsb]

theorem findAsking_key {t : TypeId} {kd : Nat} {k : V} (hki : keyIs P t kd = true) (hk : kindOK kd k = true) : ∀ (es : List (V × V)) (ents : List MapEntry) (i : Nat) (r : Option Nat), es.length = ents.length →
    (∀ (j : Nat) (k v : V), es[j]? = some (k, v) → ∃ e, ents[j]? = some e ∧ RelV μ lim w k e.key) → mapIdx k es = some r →
    (r = none ∧ (Instr.findAsking t (kval k) ents i).run P w = .ok none w) ∨ ∃ j k' v e, r = some j ∧ es[j]? = some (k', v) ∧ ents[j]? = some e ∧ e.key = kval k ∧ (Instr.findAsking t (kval k) ents i).run P w = .ok (some (i + j, e.val)) w
  | [], [], i, r, _, _, h => by simp only [mapIdx] at h; cases h; exact .inl ⟨rfl, rfl⟩
  | [], _ :: _, _, _, hl, _, _ => by simp at hl
  | _ :: _, [], _, _, hl, _, _ => by simp at hl
  | (k1, v) :: es, e :: ents, i, r, hl, hr, h => by
    obtain ⟨e', he', r1⟩ := hr 0 k1 v (by simp)
    simp at he'
    subst he'
    simp only [mapIdx] at h
    cases hq : keyEq k k1 with
    | none => simp [hq] at h
    | some q =>
      have hkey := key_rel' hq r1
      have heq := equal_key (w := w) (d := 9998) hki hk hq
      cases q with
      | true =>
        simp only [hq] at h
        cases h
        refine .inr ⟨0, k1, v, e, rfl, by simp, by simp, by rw [hkey]; exact keyEq_same hq, ?_⟩
        simp only [Instr.findAsking, Op.equal, Op.maxDepth, Sem.run_bind, hkey, heq, Result.andThen_ok, if_true, Sem.run_pure, Nat.add_zero]
      | false =>
        simp only [hq] at h
        cases hm : mapIdx k es with
        | none => simp [hm] at h
        | some r' =>
          have ih := findAsking_key hki hk es ents (i + 1) r' (by simpa using hl) (fun j k v hj => by simpa using hr (j + 1) k v (by simpa using hj)) hm
          have hstep : (Instr.findAsking t (kval k) (e :: ents) i).run P w = (Instr.findAsking t (kval k) ents (i + 1)).run P w := by
            simp only [Instr.findAsking, Op.equal, Op.maxDepth, Sem.run_bind, hkey, heq, Result.andThen_ok, Bool.false_eq_true, if_false]
          rcases ih with ⟨rfl, h2⟩ | ⟨j, k', v', e', rfl, h2, h3, h4, h5⟩
          · simp only [hm] at h; cases h; exact .inl ⟨rfl, by rw [hstep, h2]⟩
          · simp only [hm] at h; cases h
            exact .inr ⟨j + 1, k', v', e', rfl, by simpa using h2, by simpa using h3, h4, by rw [hstep, h5]; congr 3; omega⟩

theorem findNow_key {d : TypeDesc} {a : Value} {kd : Nat} (hd : P.underlying = P.underlying) (hsn : ∀ b e, scEq a b = some e → Instr.sameNow d a b = some e) (hk : kindOK kd (.sc a) = true) : ∀ (es : List (V × V)) (ents : List MapEntry) (i : Nat) (r : Option Nat), es.length = ents.length →
    (∀ (j : Nat) (k v : V), es[j]? = some (k, v) → ∃ e, ents[j]? = some e ∧ RelV μ lim w k e.key) → mapIdx (.sc a) es = some r →
    (r = none ∧ Instr.findNow d a ents i = some none) ∨ ∃ j k' v e, r = some j ∧ es[j]? = some (k', v) ∧ ents[j]? = some e ∧ e.key = a ∧ Instr.findNow d a ents i = some (some (i + j, e.val))
  | [], [], i, r, _, _, h => by simp only [mapIdx] at h; cases h; exact .inl ⟨rfl, rfl⟩
  | [], _ :: _, _, _, hl, _, _ => by simp at hl
  | _ :: _, [], _, _, hl, _, _ => by simp at hl
  | (k1, v) :: es, e :: ents, i, r, hl, hr, h => by
    obtain ⟨e', he', r1⟩ := hr 0 k1 v (by simp)
    simp at he'
    subst he'
    simp only [mapIdx] at h
    cases hq : keyEq (.sc a) k1 with
    | none => simp [hq] at h
    | some q =>
      have hkey := key_rel' hq r1
      have hs : Instr.sameNow d a e.key = some q := by
        rw [hkey]
        unfold keyEq at hq
        split at hq
        · rename_i a' b heq; cases heq; exact hsn b q hq
        · rename_i heq; cases heq
        · cases hq
      cases q with
      | true =>
        simp only [hq] at h
        cases h
        exact .inr ⟨0, k1, v, e, rfl, by simp, by simp, by rw [hkey]; exact keyEq_same hq, by simp [Instr.findNow, hs]⟩
      | false =>
        simp only [hq] at h
        cases hm : mapIdx (.sc a) es with
        | none => simp [hm] at h
        | some r' =>
          rcases findNow_key hd hsn hk es ents (i + 1) r' (by simpa using hl) (fun j k v hj => by simpa using hr (j + 1) k v (by simpa using hj)) hm with ⟨rfl, h2⟩ | ⟨j, k', v', e', rfl, h2, h3, h4, h5⟩
          · simp only [hm] at h; cases h; exact .inl ⟨rfl, by simp [Instr.findNow, hs, h2]⟩
          · simp only [hm] at h; cases h
            exact .inr ⟨j + 1, k', v', e', rfl, by simpa using h2, by simpa using h3, h4, by simp [Instr.findNow, hs, h5]; omega⟩

/-- A key is looked for. -/
theorem idx_rel {t : TypeId} {kd : Nat} {k : V} (hki : keyIs P t kd = true) (hk : kindOK kd k = true) {es : List (V × V)} {ents : Array MapEntry} {r : Option Nat} (hl : es.length = ents.size)
    (hr : ∀ (j : Nat) (k v : V), es[j]? = some (k, v) → ∃ e, ents[j]? = some e ∧ RelV μ lim w k e.key) (h : mapIdx k es = some r) :
    (r = none ∧ (Instr.findKey t (kval k) ents.toList).run P w = .ok none w) ∨ ∃ j k' v e, r = some j ∧ es[j]? = some (k', v) ∧ ents[j]? = some e ∧ e.key = kval k ∧ (Instr.findKey t (kval k) ents.toList).run P w = .ok (some (j, e.val)) w := by
  have hl' : es.length = ents.toList.length := by simpa using hl
  have hr' : ∀ (j : Nat) (k v : V), es[j]? = some (k, v) → ∃ e, ents.toList[j]? = some e ∧ RelV μ lim w k e.key := fun j k v hj => by simpa using hr j k v hj
  rcases kind_cases hk with ⟨a, rfl⟩ | ⟨cs, rfl⟩
  · obtain ⟨h1, h2⟩ := keyIs_sc hki hk
    obtain ⟨d, hd, hsn⟩ : ∃ d, P.underlying t = some d ∧ ∀ b e, scEq a b = some e → Instr.sameNow d a b = some e := by
      unfold keyKind at h1
      split at h1 <;> rename_i hu <;> first | (cases h1; done) | skip
      all_goals
        refine ⟨_, hu, fun b e he => ?_⟩
        cases h1
        cases a <;> simp [scKind] at h2
        cases b <;> simp [scEq] at he
        simp [Instr.sameNow, he, bytes_beq]
    have hf : ∀ x, Instr.findNow d a ents.toList 0 = some x → (Instr.findKey t (kval (.sc a)) ents.toList).run P w = .ok x w := fun x hx => by
      simp only [kval, scv, Instr.findKey, Sem.run_bind, run_underlying hd, Result.andThen_ok, hx]; rfl
    rcases findNow_key (P := P) rfl hsn hk es ents.toList 0 r hl' hr' h with ⟨rfl, q2⟩ | ⟨j, k', v, e, rfl, q2, q3, q4, q5⟩
    · exact .inl ⟨rfl, hf _ q2⟩
    · exact .inr ⟨j, k', v, e, rfl, q2, by simpa using q3, q4, hf _ (by rw [q5, Nat.zero_add])⟩
  · obtain ⟨h1, h2, h3, h4⟩ := keyIs_struct hki hk
    have hask := findAsking_key hki hk es ents.toList 0 r hl' hr' h
    have hf : (Instr.findKey t (kval (.agg cs)) ents.toList).run P w = (Instr.findAsking t (kval (.agg cs)) ents.toList 0).run P w := by
      simp only [Instr.findKey, Sem.run_bind, run_underlying h1, Result.andThen_ok]
      cases ents.toList with
      | nil => rfl
      | cons e l => rfl
    rcases hask with ⟨rfl, q2⟩ | ⟨j, k', v, e, rfl, q2, q3, q4, q5⟩
    · exact .inl ⟨rfl, by rw [hf, q2]⟩
    · exact .inr ⟨j, k', v, e, rfl, q2, by simpa using q3, q4, by rw [hf, q5, Nat.zero_add]⟩

/-! ## structs in structs -/

def vKind : Value → Option Nat
  | .int _ _ => some 0
  | .string _ => some 1
  | .bool _ => some 2
  | _ => none
def vsEq : List Value → List Value → Option Bool
  | [], [] => some true
  | a :: as, b :: bs => match scEq a b with
    | none => none
    | some e => match vsEq as bs with
      | none => none
      | some r => some (e && r)
  | _, _ => none
end

def keyFs (P : Program) (row : TypeId → Option (List Nat)) : Nat → List Field → Option (List Nat)
  | _, [] => some []
  | off, f :: fs => if f.name ≠ "_" ∧ f.offset = off then
      match row f.type with
      | some ks => if isSize P f.type ks.length ∧ ks ≠ [] then (keyFs P row (off + ks.length) fs).map fun r => ks ++ r else none
      | none => none
    else none
/-- The kinds of a type's cells, where all of them are numbers, texts, truth values. -/
def keyRow (P : Program) : Nat → TypeId → Option (List Nat)
  | 0, _ => none
  | d + 1, t => match P.underlying t with
    | some (.struct fs) => if P.stoodInHeld t then none else keyFs P (keyRow P d) 0 fs.toList
    | _ => (keyKind P t).map fun k => [k]
def codeOf : List Nat → Nat
  | [] => 0
  | k :: ks => (k + 1) + 4 * codeOf ks
def aggIs (P : Program) (t : TypeId) (kd : Nat) : Bool := match P.underlying t, keyRow P 8 t with
  | some (.struct _), some ks => kd == 4 + codeOf ks && ks.all (· ≤ 2)
  | _, _ => false

section
variable {P : Program} {w : World}

def mkV (agg : Bool) (as : List Value) : Value := if agg then .agg as.toArray else as.headD undef

theorem keyRow_agg {d : Nat} {t : TypeId} {ks : List Nat} (h : keyRow P d t = some ks) : ∃ g, isAggB P t g = true ∧ (g = false → ∃ k, ks = [k]) := by
  cases d with
  | zero => simp [keyRow] at h
  | succ d =>
    unfold keyRow at h
    split at h
    · rename_i fs hu
      exact ⟨true, by simp [isAggB, hu], by simp⟩
    · cases hk : keyKind P t with
      | none => simp [hk] at h
      | some k =>
        simp [hk] at h
        exact ⟨false, keyKind_agg hk, fun _ => ⟨k, h.symm⟩⟩

theorem part_row {t : TypeId} {n off : Nat} {g : Bool} {xs : Array Value} (hg : isAggB P t g = true) (hs : isSize P t n = true) (hn : g = false → n = 1) (hl : off + n ≤ xs.size) :
    (Go.part t xs off).run P w = .ok (mkV g ((xs.toList.drop off).take n)) w := by
  simp only [Go.part, Sem.run_bind, run_isAgg hg, Result.andThen_ok]
  cases g with
  | true =>
    simp only [if_true, Sem.run_bind, run_sizeOf hs, Result.andThen_ok, Sem.run_pure, mkV]
    congr 2
    apply Array.ext'
    rw [Array.toList_extract, List.extract_eq_take_drop, Nat.add_sub_cancel_left]
  | false =>
    have h1 := hn rfl
    subst h1
    have hx : xs[off]? = some xs[off] := Array.getElem?_eq_getElem (by omega)
    simp only [Bool.false_eq_true, if_false, hx, Sem.run_pure, mkV]
    congr 1
    have : (xs.toList.drop off).take 1 = [xs[off]] := by
      rw [List.drop_eq_getElem_cons (by simpa using (by omega : off < xs.size))]
      simp
    rw [this]; rfl

theorem vsEq_append : ∀ (a1 a2 b1 b2 : List Value) (e : Bool), a1.length = b1.length → vsEq (a1 ++ a2) (b1 ++ b2) = some e → ∃ e1 e2, vsEq a1 b1 = some e1 ∧ vsEq a2 b2 = some e2 ∧ e = (e1 && e2)
  | [], a2, [], b2, e, _, h => ⟨true, e, rfl, h, by simp⟩
  | a :: a1, a2, b :: b1, b2, e, hl, h => by
    simp only [List.cons_append, vsEq] at h
    split at h
    · cases h
    · rename_i e0 he0
      split at h
      · cases h
      · rename_i r hr
        cases h
        obtain ⟨e1, e2, q1, q2, q3⟩ := vsEq_append a1 a2 b1 b2 r (by simpa using hl) hr
        exact ⟨e0 && e1, e2, by simp [vsEq, he0, q1], q2, by rw [q3, Bool.and_assoc]⟩
  | [], _, _ :: _, _, _, hl, _ => by simp at hl
  | _ :: _, _, [], _, _, hl, _ => by simp at hl

theorem vsEq_length : ∀ {as bs : List Value} {e : Bool}, vsEq as bs = some e → as.length = bs.length
  | [], [], _, _ => rfl
  | a :: as, b :: bs, e, h => by
    simp only [vsEq] at h
    split at h
    · cases h
    · split at h
      · cases h
      · rename_i r hr; simp [vsEq_length hr]
  | [], _ :: _, _, h => by simp [vsEq] at h
  | _ :: _, [], _, h => by simp [vsEq] at h

theorem eq_fs (d : Nat) (row : TypeId → Option (List Nat)) (hrow : ∀ (n : Nat) (t : TypeId) (ks : List Nat) (g : Bool) (as bs : List Value) (e : Bool), row t = some ks → isAggB P t g = true → as.map vKind = ks.map some → vsEq as bs = some e →
      (Op.equalIn (n + d) t (mkV g as) (mkV g bs)).run P w = .ok e w) (hagg : ∀ (t : TypeId) (ks : List Nat), row t = some ks → ∃ g, isAggB P t g = true ∧ (g = false → ∃ k, ks = [k])) (n : Nat) :
    ∀ (fs : List Field) (off : Nat) (ks : List Nat) (as bs : List Value) (xs ys : Array Value) (e : Bool), keyFs P row off fs = some ks → xs.toList.drop off = as → ys.toList.drop off = bs → as.map vKind = ks.map some → vsEq as bs = some e →
    (Op.eqFields (n + d) xs ys fs).run P w = .ok e w
  | [], off, ks, as, bs, xs, ys, e, h, hx, hy, hk, he => by
    have : ks = [] := by simp [keyFs] at h; exact h
    subst this
    have : as = [] := by simpa using hk
    subst this
    cases bs with
    | cons _ _ => simp [vsEq] at he
    | nil => simp only [vsEq] at he; cases he; rfl
  | f :: fs, off, ks, as, bs, xs, ys, e, h, hx, hy, hk, he => by
    unfold keyFs at h
    split at h
    case isFalse => cases h
    rename_i hc
    obtain ⟨hn, ho⟩ := hc
    split at h
    case h_2 => cases h
    rename_i k1 hk1
    split at h
    case isFalse => cases h
    rename_i hsz
    obtain ⟨hsz, hne⟩ := hsz
    cases hr : keyFs P row (off + k1.length) fs with
    | none => simp [hr] at h
    | some k2 =>
      simp [hr] at h
      subst h
      obtain ⟨g, hg, hg1⟩ := hagg _ _ hk1
      have hlen : as.length = k1.length + k2.length := by
        have := congrArg List.length hk
        simpa using this
      have hbl := vsEq_length he
      have hxs : xs.size = off + as.length ∨ as.length = 0 := by
        have := congrArg List.length hx
        simp at this
        omega
      have hys : ys.size = off + bs.length ∨ bs.length = 0 := by
        have := congrArg List.length hy
        simp at this
        omega
      have hk0 : 0 < k1.length := List.length_pos_iff.2 hne
      have hxs' : off + k1.length ≤ xs.size := by omega
      have hys' : off + k1.length ≤ ys.size := by omega
      have ea : as = as.take k1.length ++ as.drop k1.length := (List.take_append_drop _ _).symm
      have eb : bs = bs.take k1.length ++ bs.drop k1.length := (List.take_append_drop _ _).symm
      rw [ea, eb] at he
      obtain ⟨e1, e2, q1, q2, rfl⟩ := vsEq_append _ _ _ _ _ (by simp; omega) he
      have hkt : (as.take k1.length).map vKind = k1.map some := by
        rw [List.map_take, hk, List.map_append, List.take_left' (by simp)]
      have hkd : (as.drop k1.length).map vKind = k2.map some := by
        rw [List.map_drop, hk, List.map_append, List.drop_left' (by simp)]
      have hp1 := part_row (P := P) (w := w) hg hsz (fun hf => by obtain ⟨k, rfl⟩ := hg1 hf; rfl) hxs'
      have hp2 := part_row (P := P) (w := w) hg hsz (fun hf => by obtain ⟨k, rfl⟩ := hg1 hf; rfl) hys'
      rw [hx] at hp1
      rw [hy] at hp2
      rw [← ho] at hp1 hp2
      have he1' := hrow n f.type k1 g _ _ e1 hk1 hg hkt q1
      have hrest := eq_fs d row hrow hagg n fs (off + k1.length) k2 _ _ xs ys e2 hr (by rw [← hx, List.drop_drop]) (by rw [← hy, List.drop_drop]) hkd q2
      simp only [Op.eqFields, hn, ne_eq, not_false_eq_true, if_true, Sem.run_bind, hp1, hp2, Result.andThen_ok, he1']
      cases e1
      · simp
      · simpa using hrest

theorem eq_row : ∀ (d n : Nat) (t : TypeId) (ks : List Nat) (g : Bool) (as bs : List Value) (e : Bool), keyRow P d t = some ks → isAggB P t g = true → as.map vKind = ks.map some → vsEq as bs = some e →
    (Op.equalIn (n + d) t (mkV g as) (mkV g bs)).run P w = .ok e w
  | 0, n, t, ks, g, as, bs, e, h, _, _, _ => by simp [keyRow] at h
  | d + 1, n, t, ks, g, as, bs, e, h, hg, hk, he => by
    unfold keyRow at h
    split at h
    · rename_i fs hu
      split at h
      · cases h
      · rename_i hst
        have hg' : g = true := by
          simp [isAggB, hu] at hg; exact hg
        subst hg'
        have hfs : P.fieldsOf t = fs := by simp [Program.fieldsOf, hu]
        simp only [mkV, if_true]
        rw [show n + (d + 1) = (n + d) + 1 by omega, run_equalIn_struct _ _ _ _ _ (by rw [hfs]; exact hu) (by simpa using hst), hfs]
        exact eq_fs d (keyRow P d) (fun n t ks g as bs e => eq_row d n t ks g as bs e) (fun t ks => keyRow_agg) n fs.toList 0 ks as bs as.toArray bs.toArray e h (by simp) (by simp) hk he
    · cases hkk : keyKind P t with
      | none => simp [hkk] at h
      | some k =>
        simp [hkk] at h
        subst h
        have hg' : g = false := by
          have h2 := keyKind_agg hkk
          unfold isAggB at hg h2
          split at hg <;> simp_all
        subst hg'
        match as, bs, hk, he with
        | [a], [b], hk, he =>
          simp only [vsEq] at he
          cases hab : scEq a b with
          | none => simp [hab] at he
          | some e1 =>
            simp [hab] at he
            subst he
            simp only [mkV, Bool.false_eq_true, if_false, List.headD_cons]
            refine equalSc (d := n + d) hkk ?_ hab
            simp only [List.map_cons, List.map_nil, List.cons.injEq, and_true] at hk
            cases a <;> simp [vKind] at hk <;> simp [scKind, hk]
        | [a], [], _, he => simp [vsEq] at he
        | [a], _ :: _ :: _, _, he =>
          simp only [vsEq] at he
          split at he
          · cases he
          · simp at he
        | [], _, hk, _ => simp at hk
        | _ :: _ :: _, _, hk, _ => simp at hk

theorem kinds_code : ∀ (ks : List Nat) (as : List V), kindsOK (codeOf ks) as = true → ks.all (· ≤ 2) = true → (as.map scv).map vKind = ks.map some
  | [], [], _, _ => rfl
  | [], v :: vs, h, _ => by
    simp only [kindsOK, codeOf, Bool.and_eq_true] at h
    obtain ⟨h, _⟩ := h
    split at h
    · simp at h
    · cases h
  | k :: ks, [], h, _ => by simp [kindsOK, codeOf] at h
  | k :: ks, v :: vs, h, hs => by
    simp only [List.all_cons, Bool.and_eq_true, decide_eq_true_eq] at hs
    simp only [kindsOK, codeOf, Bool.and_eq_true] at h
    obtain ⟨h1, h2⟩ := h
    have e1 : (k + 1 + 4 * codeOf ks) % 4 = k + 1 := by omega
    have e2 : (k + 1 + 4 * codeOf ks) / 4 = codeOf ks := by omega
    rw [e2] at h2
    rw [e1] at h1
    split at h1
    case h_2 => cases h1
    rename_i k' hk'
    have hkk := eq_of_beq h1
    have : k' = k := by omega
    subst this
    obtain ⟨a, rfl, _⟩ := scKind_sc hk'
    have ih := kinds_code ks vs h2 hs.2
    simp only [List.map_cons, scv, ih, List.cons.injEq, and_true]
    cases a <;> simp [scKind] at hk' <;> simp [vKind, hk']

theorem keysEq_vs : ∀ (as bs : List V) (e : Bool), keysEq as bs = some e → vsEq (as.map scv) (bs.map scv) = some e := by
  intro as
  induction as with
  | nil => intro bs e h; cases bs with
    | nil => simpa [keysEq, vsEq] using h
    | cons _ _ => simp [keysEq] at h
  | cons x as ih =>
    intro bs e h
    cases bs with
    | nil => cases x <;> simp [keysEq] at h
    | cons y bs =>
      cases x <;> cases y <;> first | (simp [keysEq] at h; done) | skip
      rename_i a b
      simp only [keysEq] at h
      split at h
      · cases h
      · rename_i e0 he0
        split at h
        · cases h
        · rename_i r hr
          cases h
          simp only [List.map_cons, scv, vsEq, he0, ih bs r hr]

theorem agg_eq {t : TypeId} {kd : Nat} {as bs : List V} {e : Bool} (h : aggIs P t kd = true) (hk : kindOK kd (.agg as) = true) (he : keysEq as bs = some e) : (Op.equal t (kval (.agg as)) (kval (.agg bs))).run P w = .ok e w := by
  unfold aggIs at h
  split at h
  case h_2 => cases h
  rename_i fs ks hu hrow
  simp only [Bool.and_eq_true, beq_iff_eq] at h
  obtain ⟨rfl, hs⟩ := h
  simp only [kindOK, Bool.and_eq_true, Nat.add_sub_cancel_left] at hk
  have := eq_row (P := P) (w := w) 8 9992 t ks true _ _ e hrow (by simp [isAggB, hu]) (kinds_code ks as hk.2 hs) (keysEq_vs as bs e he)
  simpa [Op.equal, Op.maxDepth, mkV, kval] using this
end
end Go.Ab
