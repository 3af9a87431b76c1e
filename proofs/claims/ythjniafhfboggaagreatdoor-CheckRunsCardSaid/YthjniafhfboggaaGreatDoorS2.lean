/- The compiled code comes to what the code comes to. No premise but those named. -/
import Derived.Test.YthjniafhfboggaaGreatDoorS1
import Derived.Test.YthjniafhfboggaaGreatDoorE1
namespace Go.Ab
open Go
section
variable {ρ : Type} {α β : Type}
/-- What goes on with what is there. -/
def fin (bot : ρ) (o : Option α) (k : α → ρ) : ρ := match o with
  | some a => k a
  | none => bot
@[simp] theorem fin_some (bot : ρ) (a : α) (k : α → ρ) : fin bot (some a) k = k a := rfl
@[simp] theorem fin_none (bot : ρ) (k : α → ρ) : fin bot none k = bot := rfl

theorem fList_eq {f : α → (α → ρ) → ρ} (hf : ∀ a k, f a k = k a) (l : List α) : ∀ k, fList f l k = k l := by
  induction l with
  | nil => intro k; rfl
  | cons a l ih =>
    intro k
    show f a (fun a' => fList f l fun l' => k (a' :: l')) = _
    rw [hf, ih]
@[simp] theorem fId_eq (a : α) (k : α → ρ) : fId a k = k a := rfl
@[simp] theorem fNat_eq (n : Nat) (k : Nat → ρ) : fNat n k = k n := by cases n <;> rfl
@[simp] theorem fInt_eq (n : Int) (k : Int → ρ) : fInt n k = k n := by cases n <;> simp [fInt]
@[simp] theorem fBytes_eq (s : ByteArray) (k : ByteArray → ρ) : fBytes s k = k s := by
  cases s with | mk d => cases d with | mk l =>
  show fList fId l (fun l' => k ⟨⟨l'⟩⟩) = _
  rw [fList_eq fId_eq]
@[simp] theorem fVal_eq (v : Value) (k : Value → ρ) : fVal v k = k v := by
  cases v <;> simp [fVal]
  rename_i b; cases b <;> rfl
@[simp] theorem fOwn_eq (v : Own) (k : Own → ρ) : fOwn v k = k v := by cases v <;> rfl
@[simp] theorem fHead_eq (v : V) (k : V → ρ) : fHead v k = k v := by cases v <;> simp [fHead]
@[simp] theorem gHead_eq (v : V) (k : V → ρ) : gHead v k = k v := by cases v <;> simp [gHead]
@[simp] theorem gV_eq (v : V) (k : V → ρ) : gV v k = k v := by cases v <;> simp [gV, fList_eq gHead_eq]
@[simp] theorem fLeafD_eq (v : V) (k : V → ρ) : fLeafD v k = k v := by cases v <;> simp [fLeafD, fList_eq (fList_eq (ρ := ρ) gHead_eq)]
@[simp] theorem fV_eq (v : V) (k : V → ρ) : fV v k = k v := by cases v <;> simp [fV, fList_eq fLeafD_eq]
@[simp] theorem fDeep_eq (v : V) (k : V → ρ) : fDeep v k = k v := by cases v <;> simp [fDeep, fList_eq fV_eq]
@[simp] theorem fObj_eq (v : Obj) (k : Obj → ρ) : fObj v k = k v := by
  cases v <;> simp [fObj, fList_eq gHead_eq]
  all_goals
    rw [fList_eq]
    rintro ⟨a, b⟩ k
    simp
@[simp] theorem dec_enc (σ : St) : (enc σ).dec = σ := by cases σ; simp [enc, SS.dec]
@[simp] theorem enc_base (σ : St) : (enc σ).base = σ.base := rfl
@[simp] theorem enc_n (σ : St) : (enc σ).n = σ.objs.length := rfl
@[simp] theorem enc_st (σ : St) : (enc σ).st = σ.objs.reverse := rfl
theorem revK_cons (id : Nat) (a : Obj) (t acc : List Obj) (n : Nat) (k : List Obj → Nat → ρ) : revK id (a :: t) acc n k = match Nat.beq n id with
      | true => fObj a fun a => revK id t (a :: acc) (Nat.add n 1) k
      | false => match t with
        | [] => fObj a fun a => revK id t (a :: acc) (Nat.add n 1) k
        | _ :: _ => revK id t (a :: acc) (Nat.add n 1) k := rfl
theorem revK_eq (id : Nat) (l : List Obj) : ∀ (acc : List Obj) (n : Nat) (k : List Obj → Nat → ρ), revK id l acc n k = k (l.reverse ++ acc) (n + l.length) := by
  induction l with
  | nil => intro acc n k; show fNat n (fun n => k acc n) = _; simp
  | cons a t ih =>
    intro acc n k
    have h : ∀ k : List Obj → Nat → ρ, revK id t (a :: acc) (Nat.add n 1) k = k ((a :: t).reverse ++ acc) (n + (a :: t).length) := by
      intro k
      rw [ih]
      simp only [List.reverse_cons, List.append_assoc, List.singleton_append, List.length_cons, Nat.add_eq]
      congr 1
      omega
    rw [revK_cons]
    split
    · rw [fObj_eq, h]
    · split
      · rw [fObj_eq, h]
      · rw [h]
@[simp] theorem encK_eq (xs : List V) (σ : St) (k : SS → ρ) : encK xs σ k = k (enc σ) := by
  cases σ with | mk objs base =>
  show revK (idOf xs) objs [] 0 (fun st n => fNat base fun base => k ⟨st, n, base⟩) = _
  rw [revK_eq]
  simp [enc]
@[simp] theorem fGet_eq (bot : ρ) (l : List α) : ∀ (i : Nat) (k : α → ρ), fGet bot l i k = fin bot l[i]? k := by
  induction l with
  | nil => intro i k; rfl
  | cons a l ih =>
    intro i k
    cases i with
    | zero => rfl
    | succ i => show fGet bot l i k = _; rw [ih]; simp
theorem cGet_eq (bot : ρ) : ∀ (i : Nat) (l : List α) (k : α → ρ), (cGet bot α i).run l k = fin bot l[i]? k
  | 0, l, k => by cases l <;> rfl
  | 1, l, k => by
    cases l with
    | nil => rfl
    | cons a l => cases l <;> rfl
  | 2, l, k => by
    cases l with
    | nil => rfl
    | cons a l => cases l with
      | nil => rfl
      | cons b l => cases l <;> rfl
  | 3, l, k => by
    cases l with
    | nil => rfl
    | cons a l => cases l with
      | nil => rfl
      | cons b l => cases l with
        | nil => rfl
        | cons c l => cases l <;> rfl
  | n + 4, l, k => by
    cases l with
    | nil => rfl
    | cons a l => cases l with
      | nil => rfl
      | cons b l => cases l with
        | nil => rfl
        | cons c l => cases l with
          | nil => rfl
          | cons d l => exact cGet_eq bot n l k
theorem cSet_eq (x : α) : ∀ (i : Nat) (l : List α) (k : List α → ρ), (cSet ρ α i).run l x k = k (l.set i x)
  | 0, l, k => by cases l <;> rfl
  | 1, l, k => by
    cases l with
    | nil => rfl
    | cons a l => cases l <;> rfl
  | 2, l, k => by
    cases l with
    | nil => rfl
    | cons a l => cases l with
      | nil => rfl
      | cons b l => cases l <;> rfl
  | n + 3, l, k => by
    cases l with
    | nil => rfl
    | cons a l => cases l with
      | nil => rfl
      | cons b l => cases l with
        | nil => rfl
        | cons c l =>
          show (cSet ρ α n).run l x (fun l => k (a :: b :: c :: l)) = _
          rw [cSet_eq x n l]; rfl
theorem nthL_eq (l : List α) : ∀ i, nthL l i = l[i]? := by
  induction l with
  | nil => intro i; rfl
  | cons a l ih =>
    intro i
    cases i with
    | zero => rfl
    | succ i => show nthL l i = _; rw [ih]; simp
attribute [simp] cGet_eq cSet_eq nthL_eq
@[simp] theorem eLeaf_eq (v : V) (k : V → ρ) : eLeaf v k = k v.eraseLeaf := by
  cases v <;> try rfl
  rename_i o sz l; cases o <;> rfl
theorem fMap_eq {f : α → (α → ρ) → ρ} {g : α → α} (hf : ∀ a k, f a k = k (g a)) (l : List α) : ∀ k, fList f l k = k (l.map g) := by
  induction l with
  | nil => intro k; rfl
  | cons a l ih =>
    intro k
    show f a (fun a' => fList f l fun l' => k (a' :: l')) = _
    rw [hf, ih]; rfl
@[simp] theorem eV_eq (v : V) (k : V → ρ) : eV v k = k v.erase := by
  cases v <;> try rfl
  · rename_i o sz l; cases o <;> rfl
  · rename_i cs
    show fList eLeaf cs (fun cs => k (.agg cs)) = _
    rw [fMap_eq eLeaf_eq]; rfl

variable (bot : ρ)
/-- The results of a region: those that are there, the last one first; and so many more places. -/
def unS (st : List (Option V)) (m : Nat) : List (Option V) := st.reverse ++ List.replicate m none
theorem unS_get {st : List (Option V)} {i j m : Nat} (hi : st.length = i) (hj : j < i) : (unS st m)[j]? = st[i - 1 - j]? := by
  unfold unS
  rw [List.getElem?_append_left (by simpa [hi] using hj), List.getElem?_reverse (by omega), hi]
theorem unS_none {st : List (Option V)} {i j m : Nat} (hi : st.length = i) (hj : ¬ j < i) : (unS st m)[j]? = none ∨ (unS st m)[j]? = some none := by
  unfold unS
  rw [List.getElem?_append_right (by simp; omega)]
  rcases Nat.lt_or_ge (j - st.reverse.length) m with h | h
  · right; rw [List.getElem?_replicate, if_pos h]
  · left; rw [List.getElem?_replicate, if_neg (by omega)]
theorem unS_cons (st : List (Option V)) (x : Option V) (m : Nat) : unS (x :: st) m = (unS st (m + 1)).set st.length x := by
  unfold unS
  rw [List.set_append_right _ _ (by simp)]
  simp [List.replicate_succ, List.reverse_cons]
theorem unS_push (st : List (Option V)) (m : Nat) : unS (none :: st) m = unS st (m + 1) := by
  unfold unS
  simp [List.replicate_succ, List.reverse_cons]
theorem unS_set {st : List (Option V)} {i j m : Nat} (hi : st.length = i) (hj : j < i) (x : Option V) : unS (st.set (i - 1 - j) x) m = (unS st m).set j x := by
  unfold unS
  rw [List.set_append_left _ _ (by simpa [hi] using hj)]
  congr 1
  refine List.ext_getElem? fun n => ?_
  rcases Nat.lt_or_ge n i with hn | hn
  · rw [List.getElem?_reverse (by simp; omega), List.length_set, hi, List.getElem?_set, List.getElem?_set]
    rw [List.getElem?_reverse (by omega), hi]
    by_cases h : j = n
    · subst h
      simp [hi, hj]
      omega
    · rw [if_neg (by omega), if_neg h]
  · rw [List.getElem?_eq_none (by simp [hi]; omega), List.getElem?_eq_none (by simp [hi]; omega)]
@[simp] theorem cRes_eq {st : List (Option V)} {i m : Nat} (hi : st.length = i) (j : Nat) (k : Option V → ρ) (hk : k none = bot) : (cRes bot i j).run st k = fin bot (unS st m)[j]? k := by
  unfold cRes
  cases h : Nat.blt j i
  · have hj : ¬ j < i := fun h2 => by
      have := Eq.mpr Nat.blt_eq h2
      rw [this] at h; cases h
    rcases unS_none (m := m) hi hj with h3 | h3 <;> rw [h3]
    · rfl
    · exact hk.symm
  · have hj : j < i := Eq.mp Nat.blt_eq h
    simp only [cGet_eq, unS_get hi hj]
theorem cRd_eq {st : List (Option V)} {i : Nat} (hi : st.length = i) (m : Nat) (o : Opd) (env : List EV) (k : V → ρ) : (cRd bot i o).run env st k = fin bot (rd env (unS st m) o) k := by
  cases o with
  | slot i =>
    simp only [cRd, cGet_eq, rd]
    cases env[i]? with
    | none => rfl
    | some e => cases e <;> simp [evV]
  | res j =>
    simp only [cRd, rd]
    rw [cRes_eq bot (m := m) hi j _ rfl]
    cases (unS st m)[j]? with
    | none => rfl
    | some e => cases e <;> simp [rsV]
  | const v => rfl
theorem cRds_eq {st : List (Option V)} {i : Nat} (hi : st.length = i) (m : Nat) (l : List Opd) (env : List EV) : ∀ k : List V → ρ, (cRds bot i l).run env st k = fin bot (rds env (unS st m) l) k := by
  induction l with
  | nil => intro k; rfl
  | cons o l ih =>
    intro k
    show (cRd bot i o).run env st (fun x => (cRds bot i l).run env st fun xs => k (x :: xs)) = _
    rw [cRd_eq bot hi m, rds]
    cases rd env (unS st m) o with
    | none => rfl
    | some x =>
      simp only [fin_some, ih]
      cases rds env (unS st m) l <;> rfl
/-- What goes on with a frame of the abstract machine. -/
abbrev KA (ρ : Type) := List EV → List (Option V) → St → ρ
/-- What goes on with a region's results so far says the same as what goes on with them as they stand in the frame. -/
def KEq (i m : Nat) (k : KF ρ) (K : KA ρ) : Prop := ∀ env st σ, st.length = i + 1 → k env st (enc σ) = K env (unS st m) σ
theorem cPut_eq {i m : Nat} {k : KF ρ} {K : KA ρ} (hk : KEq i m k K) {st : List (Option V)} (hi : st.length = i) (dst : Option Nat) (x : V) (env : List EV) (σ : St) :
    (cPut dst).run x k env st (enc σ) = K (FS.put ⟨env, unS st (m + 1), σ⟩ dst i x).env (FS.put ⟨env, unS st (m + 1), σ⟩ dst i x).R (FS.put ⟨env, unS st (m + 1), σ⟩ dst i x).σ := by
  cases dst with
  | some d => simp only [cPut, cSet_eq, FS.put]; rw [hk _ _ _ (by simp [hi]), unS_push]
  | none => simp only [cPut, FS.put]; rw [hk _ _ _ (by simp [hi]), unS_cons, hi]
@[simp] theorem cBy_eq (h : Nat) (x : V) (k : V → ρ) : (cBy h).run x k = k x := by unfold cBy; split <;> simp
/-- What goes on with a call's or an act's answer. -/
abbrev fin2 (r : Option (V × St)) (k : V → SS → ρ) : ρ := fin bot r fun p => k p.1 (enc p.2)

/-- The two calls say the same. -/
def CallEq (call : CallS ρ) (call' : CallT) : Prop := ∀ f xs σ k, call f xs (enc σ) k = fin2 bot (call' f xs σ) k

variable {bot} {call : CallS ρ} {call' : CallT}
theorem callROS_eq (hc : CallEq bot call call') (f : FuncId) (xs : List V) (s : St) (k : V → SS → ρ) : callROS bot call f xs (enc s) k = fin2 bot (callRO call' f xs s) k := by
  show call f xs (enc { s with base := s.objs.length }) _ = _
  unfold callRO
  rw [hc]
  cases call' f xs { s with base := s.objs.length } with
  | none => rfl
  | some r =>
    obtain ⟨r, s'⟩ := r
    simp only [fin2, fin_some, dec_enc]
    cases freezeAll s' s.objs.length r with
    | none => rfl
    | some r' =>
      simp only [fDeep_eq]
      cases r'.inside s.objs.length <;> rfl
theorem callOwn_same {call : CallT} {f : FuncId} {xs : List V} {s : St} {p : V × St} (h : Go.Ab.callOwn call f xs s = some p) : p.2 = s := by
  unfold Go.Ab.callOwn at h
  split at h
  · split at h
    · split at h
      · split at h
        · cases h; rfl
        · cases h
      · cases h
    · cases h
  · cases h; rfl
  · cases h
theorem callOwnS_eq (hc : CallEq bot call call') (f : FuncId) (xs : List V) (s : St) (k : V → SS → ρ) : callOwnS bot call f xs (enc s) k = fin2 bot (Go.Ab.callOwn call' f xs s) k := by
  have h : Go.Ab.callOwn call' f xs s = match call' f xs { s with base := s.objs.length } with
    | some r => Go.Ab.callOwn (fun _ _ _ => some r) f xs s
    | none => none := by
    unfold Go.Ab.callOwn
    cases call' f xs { s with base := s.objs.length } <;> rfl
  show call f xs (enc { s with base := s.objs.length }) _ = _
  rw [hc, h]
  cases call' f xs { s with base := s.objs.length } with
  | none => rfl
  | some r =>
    obtain ⟨r, s'⟩ := r
    have hd : SS.dec ⟨s.objs.reverse, s.objs.length, s.base⟩ = s := dec_enc s
    simp only [fin2, fin_some, dec_enc, hd]
    cases ho : Go.Ab.callOwn (fun _ _ _ => some (r, s')) f xs s with
    | none => rfl
    | some p => simp only [fDeep_eq, fin_some, callOwn_same ho]; rfl
theorem appL_eq (l m : List α) : ∀ k : List α → ρ, appL l m k = k (l ++ m) := by
  induction l with
  | nil => intro k; show fList fId m k = _; rw [fList_eq fId_eq]; rfl
  | cons a l ih => intro k; show appL l m (fun t => k (a :: t)) = _; rw [ih]; rfl
theorem callNewS_eq (hc : CallEq bot call call') (f : FuncId) (xs : List V) (s : St) (k : V → SS → ρ) : callNewS call f xs (enc s) k = fin2 bot (Go.Ab.callNew call' f xs s) k := by
  show call f xs (enc { s with base := s.objs.length }) _ = _
  unfold Go.Ab.callNew
  rw [hc]
  cases call' f xs { s with base := s.objs.length } with
  | none => rfl
  | some r =>
    obtain ⟨r, s'⟩ := r
    simp only [fin2, fin_some, appL_eq, fNat_eq, enc_st, enc_n]
    congr 1
    simp only [enc, List.reverse_append, List.length_append, List.length_drop, SS.mk.injEq, and_true]
    rw [List.reverse_drop]
theorem callByS_eq (hc : CallEq bot call call') (ro : Bool) (f : FuncId) (xs : List V) (s : St) (k : V → SS → ρ) : callByS bot ro call f xs (enc s) k = fin2 bot (callBy call' ro f xs s) k := by
  cases ro
  · exact hc f xs s k
  · exact callROS_eq hc f xs s k

theorem blt_dec (m n : Nat) : Nat.blt m n = decide (m < n) := by
  rw [Bool.eq_iff_iff, Nat.blt_eq, decide_eq_true_iff]
theorem ltN_eq (a b : Int) : ltN a b = decide (a < b) := by
  rw [Bool.eq_iff_iff, decide_eq_true_iff]
  cases a <;> cases b <;> simp only [ltN, blt_dec, Int.ofNat_eq_natCast, decide_eq_true_eq, Bool.false_eq_true, false_iff, true_iff] <;> omega
theorem eqN_eq (a b : Int) : eqN a b = (a == b) := by
  rw [Bool.eq_iff_iff]
  cases a <;> cases b <;> simp [eqN] <;> omega
theorem eqL_eq (a : List UInt8) : ∀ b, eqL a b = decide (a = b) := by
  induction a with
  | nil => intro b; cases b <;> simp [eqL]
  | cons x a ih =>
    intro b
    cases b with
    | nil => simp [eqL]
    | cons y b =>
      show (match Nat.beq x.toNat y.toNat with
        | true => eqL a b
        | false => false) = _
      rw [ih]
      by_cases h : x = y
      · subst h; simp
      · have : Nat.beq x.toNat y.toNat = false := by
          rw [Bool.eq_false_iff]; intro h2; exact h (UInt8.toNat_inj.1 (Nat.eq_of_beq_eq_true h2))
        simp [this, h]
theorem eqB_eq (a b : ByteArray) : eqL a.data.toList b.data.toList = decide (a = b) := by
  rw [eqL_eq]
  congr 1
  apply propext
  cases a with | mk a => cases b with | mk b => cases a with | mk a => cases b with | mk b => simp
theorem eqK_eq (a b : IntKind) : eqK a b = decide (a = b) := by cases a <;> cases b <;> rfl
theorem ibinQ_eq {op : BinOp} {f : IntKind → Int → Int → Value} (h : ∀ k a b, intBin op k a b = some (f k a b)) (xs : List V) (s : St) : ibinQ f xs s = actIbin op xs s := by
  unfold ibinQ actIbin
  split
  · rename_i k a k' b
    simp only [eqK_eq, h]
    by_cases hk : k = k' <;> simp [hk]
  · rename_i hn
    split
    · rename_i k a k' b; exact absurd rfl (hn _ _ _ _)
    · rfl
theorem sbinQ_eq {op : BinOp} {f : ByteArray → ByteArray → Bool} (h : ∀ a b, strBin op a b = some (.bool (f a b))) (xs : List V) (s : St) : sbinQ f xs s = actSbin op xs s := by
  unfold sbinQ actSbin
  split
  · rename_i a b
    simp only [h]; rfl
  · rename_i hn
    split
    · rename_i a b; exact absurd rfl (hn _ _)
    · rfl
theorem acP_eq (h : Nat) (f : List V → St → ActR) (xs : List V) (σ : St) (k : V → SS → ρ) : (acP bot h f).run call xs (enc σ) k = fin2 bot ((f xs ⟨[], 0⟩).map fun p => (p.1, σ)) k := by
  unfold acP fin2
  simp only
  cases f xs ⟨[], 0⟩ <;> simp
theorem acR_eq {h : Nat} {f : List V → SS → Option V} {xs : List V} {σ : St} {r : ActR} (hf : (f xs (enc σ)).map (fun v => (v, σ)) = r) (k : V → SS → ρ) : (acR bot h f).run call xs (enc σ) k = fin2 bot r k := by
  subst hf
  unfold acR fin2
  simp only
  cases f xs (enc σ) <;> simp
theorem acS_eq (h : Nat) (f : List V → St → ActR) (xs : List V) (σ : St) (k : V → SS → ρ) : (acS bot h f).run call xs (enc σ) k = fin2 bot (f xs σ) k := by
  unfold acS fin2
  simp only [dec_enc]
  cases f xs σ <;> simp
theorem not_lt_dec (a b : Int) : (!ltN b a) = decide (a ≤ b) := by
  rw [ltN_eq]
  by_cases h : b < a
  · have : ¬ a ≤ b := by omega
    simp [h, this]
  · have : a ≤ b := by omega
    simp [h, this]
theorem cIbin_eq (op : BinOp) (xs : List V) (σ : St) (k : V → SS → ρ) : (cIbin bot op).run call xs (enc σ) k = fin2 bot ((actIbin op xs ⟨[], 0⟩).map fun p => (p.1, σ)) k := by
  cases op <;> simp only [cIbin, acP_eq] <;> rw [ibinQ_eq] <;> intro k a b <;> first | (simp only [intBin, not_lt_dec, ge_iff_le]; done) | (simp only [intBin, ltN_eq, eqN_eq, gt_iff_lt, bne]; done)
theorem cSbin_eq (op : BinOp) (xs : List V) (σ : St) (k : V → SS → ρ) : (cSbin bot op).run call xs (enc σ) k = fin2 bot ((actSbin op xs ⟨[], 0⟩).map fun p => (p.1, σ)) k := by
  cases op <;> simp only [cSbin, acP_eq] <;> rw [sbinQ_eq] <;> intro a b <;> simp only [strBin, eqB_eq]
theorem part_one (cs : List V) (off : Nat) : part cs off 1 false = cs[off]? := by
  unfold part
  simp only [Bool.false_eq_true, if_false, if_true]
  split
  · rfl
  · rw [List.getElem?_eq_none (by omega)]
theorem getQ_eq (σ : St) (id : Nat) : getQ (enc σ) id = σ.objs[id]? := by
  unfold getQ
  cases h : Nat.blt id (enc σ).n
  · have : ¬ id < σ.objs.length := fun h2 => by
      have := Eq.mpr Nat.blt_eq h2
      rw [enc_n] at h
      rw [this] at h; cases h
    rw [List.getElem?_eq_none (by omega)]
  · have : id < σ.objs.length := Eq.mp Nat.blt_eq h
    simp only [nthL_eq, enc_st, enc_n]
    rw [List.getElem?_reverse (by omega)]
    congr 1
    omega
theorem lenL_eq (l : List α) : lenL l = l.length := by
  induction l with
  | nil => rfl
  | cons a l ih => show Nat.add (lenL l) 1 = _; rw [ih]; rfl
theorem loadQ_eq (n : Nat) (agg : Bool) (xs : List V) (s : St) : (loadQ n agg xs (enc s)).map (fun v => (v, s)) = actLoad n agg xs s := by
  unfold loadQ actLoad
  split
  · rename_i id off
    simp only [nthL_eq, getQ_eq]
    cases s.objs[id]? with
    | none => rfl
    | some o =>
      simp only
      cases o.cs with
      | none => rfl
      | some cs =>
        simp only
        split
        · rw [part_one]
        · rfl
  · rename_i cs
    simp only
    split
    · rw [part_one]; cases cs <;> rfl
    · rfl
  · rename_i h1 h2
    split
    · exact absurd rfl (h1 _ _)
    · exact absurd rfl (h2 _)
    · rfl
theorem keyEqQ_eq (a b : V) : keyEqQ a b = keyEq a b := by
  unfold keyEqQ
  split
  · rw [eqB_eq]; rfl
  · rename_i k a k' b
    rw [eqK_eq, eqN_eq]
    unfold keyEq scEq
    by_cases h : k = k' <;> simp [h]
  · rfl
theorem mapFindQ_eq (k : V) (es : List (V × V)) : mapFindQ k es = mapFind k es := by
  have key : ∀ es : List (V × V), mapFindQ k es = match mapIdx k es with
      | none => none
      | some none => some none
      | some (some i) => match es[i]? with
        | some (_, v) => some (some v)
        | none => none := by
    intro es
    induction es with
    | nil => rfl
    | cons p es ih =>
      obtain ⟨k', v⟩ := p
      have h : mapFindQ k ((k', v) :: es) = match keyEqQ k k' with
        | none => none
        | some true => some (some v)
        | some false => mapFindQ k es := rfl
      rw [h, keyEqQ_eq]
      unfold mapIdx
      cases keyEq k k' with
      | none => rfl
      | some b => cases b with
        | true => rfl
        | false =>
          simp only [ih]
          cases mapIdx k es with
          | none => rfl
          | some r => cases r with
            | none => rfl
            | some i => simp
  rw [key]; rfl
theorem getMap_obj (s : St) (id : Nat) : s.getMap id = match s.objs[id]? with
    | some (.map es) => some es
    | _ => none := rfl
theorem getMapL_obj' (s : St) (id : Nat) : s.getMapL id = match s.objs[id]? with
    | some (.map es) => some es
    | some (.mapD es) => some es
    | _ => none := rfl
theorem lookupQ_eq (kd : Nat) (zero : V) (ok : Bool) (xs : List V) (s : St) : (lookupQ kd zero ok xs (enc s)).map (fun v => (v, s)) = actLookup kd zero ok xs s := by
  unfold lookupQ actLookup
  split
  · rename_i id key
    simp only [getQ_eq, getMapL_obj', mapFindQ_eq]
    cases hk : kindOK kd key
    · simp
    · simp only [if_true]
      cases s.objs[id]? with
      | none => rfl
      | some o => cases o <;> try rfl
                  all_goals
                    rename_i es
                    simp only
                    cases mapFind key es with
                    | none => rfl
                    | some r => cases r <;> cases ok <;> rfl
  · rename_i h1
    split
    · exact absurd rfl (h1 _ _)
    · rfl
theorem beq_dec (m n : Nat) : Nat.beq m n = decide (m = n) := by
  rw [Bool.eq_iff_iff, Nat.beq_eq, decide_eq_true_iff]
theorem ble_dec (m n : Nat) : Nat.ble m n = decide (m ≤ n) := by
  rw [Bool.eq_iff_iff, Nat.ble_eq, decide_eq_true_iff]
theorem lenQ_eq (k : Nat) (xs : List V) (s : St) : (lenQ k xs (enc s)).map (fun v => (v, s)) = actLen k xs s := by
  unfold lenQ actLen
  split
  · simp only [beq_dec, lenL_eq]
    by_cases h : k = 0 <;> simp [h]
  · simp only [beq_dec]
    by_cases h : k = 0 <;> simp [h]
  · rename_i b
    simp only [beq_dec, lenL_eq]
    have : b.size = b.data.toList.length := by rw [Array.length_toList]; rfl
    rw [this]
    by_cases h : k = 1 <;> simp [h]
  · rename_i id
    simp only [beq_dec, getQ_eq, getMap_obj, lenL_eq]
    by_cases h : k = 2
    · simp only [h, decide_true, if_true]
      cases s.objs[id]? with
      | none => rfl
      | some o => cases o <;> rfl
    · simp [h]
  · rename_i h1 h2 h3 h4
    split
    · exact absurd rfl (h1 _ _ _)
    · exact absurd rfl (h2 _ _ _ _)
    · exact absurd rfl (h3 _)
    · exact absurd rfl (h4 _)
    · rfl
theorem get_obj (s : St) (id : Nat) : s.get id = match s.objs[id]? with
    | some (.cells cs) => some cs
    | _ => none := rfl
theorem elemsQ_eq (s : St) (sz : Nat) (v : V) : elemsQ (enc s) sz v = elems s sz v := by
  unfold elemsQ elems
  split
  · simp only [beq_dec]
    rename_i o sz' l
    by_cases h : sz' = sz <;> simp [h]
  · rename_i id off n sz'
    simp only [beq_dec, ble_dec, getQ_eq, get_obj, lenL_eq]
    by_cases h : sz' = sz
    · simp only [h, decide_true, if_true]
      cases s.objs[id]? with
      | none => rfl
      | some o => cases o <;> try rfl
                  rename_i cs
                  simp only
                  by_cases h2 : off + n * sz ≤ cs.length <;> simp [h2]
    · simp [h]
  · simp only [beq_dec]
    by_cases h : sz = 1 <;> simp [h]
  · rename_i h1 h2 h3
    split
    · exact absurd rfl (h1 _ _ _)
    · exact absurd rfl (h2 _ _ _ _)
    · exact absurd rfl (h3 _)
    · rfl
theorem strQ_eq (xs : List V) (s : St) : (strQ xs (enc s)).map (fun v => (v, s)) = actStr xs s := by
  unfold strQ actStr
  split
  · rename_i x
    simp only [elemsQ_eq]
    cases elems s 1 x with
    | none => rfl
    | some l => simp only; rw [Option.map_map]; rfl
  · rename_i h1
    split
    · exact absurd rfl (h1 _)
    · rfl
theorem slicePtrQ_eq (sz n : Nat) (lo hi : Bool) (xs : List V) (s : St) : (slicePtrQ sz n lo hi xs (enc s)).map (fun v => (v, s)) = actSlicePtr sz n lo hi xs s := by
  unfold slicePtrQ actSlicePtr
  split
  · rename_i id off ys
    simp only [getQ_eq, get_obj, lenL_eq]
    cases sliceArgs lo hi false n ys with
    | none => rfl
    | some r =>
      obtain ⟨a, b, m⟩ := r
      simp only
      cases s.objs[id]? with
      | none => rfl
      | some o => cases o <;> try rfl
                  rename_i cs
                  simp only
                  split <;> rfl
  · rename_i h1
    split
    · exact absurd rfl (h1 _ _ _)
    · rfl
theorem updL_eq (f : α → (α → ρ) → ρ) (l : List α) : ∀ (i : Nat) (k : List α → ρ), updL bot l i f k = fin bot l[i]? fun a => f a fun a' => k (l.set i a') := by
  induction l with
  | nil => intro i k; rfl
  | cons a l ih =>
    intro i k
    cases i with
    | zero => rfl
    | succ i =>
      show updL bot l i f (fun t => k (a :: t)) = _
      rw [ih]
      simp
theorem rev_set (l : List α) (i : Nat) (x : α) (h : i < l.length) : l.reverse.set (l.length - 1 - i) x = (l.set i x).reverse := by
  refine List.ext_getElem? fun n => ?_
  rcases Nat.lt_or_ge n l.length with hn | hn
  · rw [List.getElem?_reverse (by simpa using hn), List.length_set, List.getElem?_set, List.getElem?_set, List.getElem?_reverse hn]
    simp only [List.length_reverse]
    by_cases h2 : l.length - 1 - i = n
    · subst h2
      have : i = l.length - 1 - (l.length - 1 - i) := by omega
      simp [← this, h]
      omega
    · rw [if_neg h2, if_neg (by omega)]
  · rw [List.getElem?_eq_none (by simpa using hn), List.getElem?_eq_none (by simpa using hn)]
theorem updQ_eq (s : St) (id : Nat) (f : Obj → (Obj → ρ) → ρ) (k : SS → ρ) : updQ bot (enc s) id f k = fin bot s.objs[id]? fun o => f o fun o' => k (enc (s.set id o')) := by
  show (match Nat.blt id s.objs.length with
    | true => updL bot s.objs.reverse (s.objs.length - 1 - id) f fun st => k ⟨st, s.objs.length, s.base⟩
    | false => bot) = _
  cases h : Nat.blt id s.objs.length
  · rw [blt_dec, decide_eq_false_iff_not] at h
    rw [List.getElem?_eq_none (by omega)]; rfl
  · rw [blt_dec, decide_eq_true_eq] at h
    simp only [updL_eq]
    rw [List.getElem?_reverse (by omega)]
    have : s.objs.length - 1 - (s.objs.length - 1 - id) = id := by omega
    rw [this]
    congr 1
    funext o
    congr 1
    funext o'
    congr 1
    simp only [enc, St.set, rev_set _ _ _ h, List.length_set]
theorem pushQ_eq (o : Obj) (k : V → SS → ρ) (v : Nat → V) (s : St) : pushQ o k v (enc s) = k (v s.objs.length) (enc (s.push o)) := by
  show fNat (Nat.add s.objs.length 1) (fun m => k (v s.objs.length) ⟨o :: s.objs.reverse, m, s.base⟩) = _
  simp [enc, St.push]
theorem splice_one (cs : List V) (off : Nat) (x : V) (h : off < cs.length) : splice cs off [x] = cs.set off x := by
  unfold splice
  rw [List.set_eq_take_append_cons_drop, if_pos h]
  simp
theorem putCells_eq (off n : Nat) (x : V) (cs : List V) (hx : x.cells.length = n) (k : List V → ρ) : putCells bot off n x cs k = if off + n ≤ cs.length then k (splice cs off x.cells) else bot := by
  unfold putCells
  split
  · simp [fList_eq gHead_eq]
  · rename_i hn
    have hc : x.cells = [x] := by
      cases x <;> try rfl
      exact absurd rfl (hn _)
    rw [hc, updL_eq]
    by_cases h : off + 1 ≤ cs.length
    · rw [if_pos h, List.getElem?_eq_getElem (by omega), splice_one _ _ _ (by omega)]; rfl
    · rw [if_neg h, List.getElem?_eq_none (by omega)]; rfl
  · simp [fList_eq gHead_eq]
theorem acStore_eq (n : Nat) (xs : List V) (s : St) (k : V → SS → ρ) : (acStore bot n).run call xs (enc s) k = fin2 bot (actStore n xs s) k := by
  unfold acStore actStore
  simp only
  split
  · rename_i id off x
    simp only [enc_base, ble_dec, updQ_eq]
    by_cases h1 : s.base ≤ id
    · simp only [h1, decide_true, true_and]
      by_cases h2 : x.cells.length = n ∧ x.cells.all V.leaf = true
      · rw [if_pos h2, if_pos h2]
        cases s.objs[id]? with
        | none => rfl
        | some o =>
          simp only [fin_some]
          cases o <;> try rfl
          · simp only [Obj.cs, putCells_eq _ _ _ _ h2.1]
            split <;> rfl
          · simp only [Obj.cs, putCells_eq _ _ _ _ h2.1]
            split <;> rfl
      · rw [if_neg h2, if_neg h2]; rfl
    · simp [h1]
  · rename_i h1
    split
    · exact absurd rfl (h1 _ _ _)
    · rfl
theorem mapPutC_eq (k v : V) (es : List (V × V)) : ∀ K : List (V × V) → ρ, mapPutC bot k v es K = fin bot (mapPut k v es) K := by
  have key : ∀ (es : List (V × V)) (K : List (V × V) → ρ), mapPutC bot k v es K = fin bot (match mapIdx k es with
      | none => none
      | some none => some (es ++ [(k, v)])
      | some (some i) => match es[i]? with
        | some (k', _) => some (es.set i (k', v))
        | none => none) K := by
    intro es
    induction es with
    | nil => intro K; rfl
    | cons p es ih =>
      intro K
      obtain ⟨k', v'⟩ := p
      have h : mapPutC bot k v ((k', v') :: es) K = match keyEqQ k k' with
        | none => bot
        | some true => K ((k', v) :: es)
        | some false => mapPutC bot k v es fun t => K ((k', v') :: t) := rfl
      rw [h, keyEqQ_eq]
      unfold mapIdx
      cases keyEq k k' with
      | none => rfl
      | some b => cases b with
        | true => rfl
        | false =>
          simp only [ih]
          cases mapIdx k es with
          | none => rfl
          | some r => cases r with
            | none => rfl
            | some i =>
              simp only [List.getElem?_cons_succ, List.set_cons_succ]
              cases es[i]? with
              | none => rfl
              | some p => rfl
  intro K
  rw [key]; rfl
theorem acMapSet_eq (kd : Nat) (xs : List V) (s : St) (k : V → SS → ρ) : (acMapSet bot kd).run call xs (enc s) k = fin2 bot (actMapSet kd xs s) k := by
  unfold acMapSet actMapSet
  simp only
  split
  · rename_i id key v
    simp only [enc_base, ble_dec, updQ_eq]
    by_cases h1 : s.base ≤ id
    · cases hk : kindOK kd key
      · simp [h1]
      · simp only [h1, decide_true, true_and, if_true]
        cases s.objs[id]? with
        | none => rfl
        | some o =>
          simp only [fin_some]
          cases o <;> try rfl
          all_goals
            simp only [mapPutC_eq]
            rename_i es
            cases mapPut key v es <;> rfl
    · simp [h1]
  · rename_i h1
    split
    · exact absurd rfl (h1 _ _ _)
    · rfl
theorem mapDropC_eq (k : V) (es : List (V × V)) (K : List (V × V) → ρ) : mapDropC bot k es K = match mapDrop k es with
    | none => bot
    | some es' => K es' := by
  have key : ∀ (es : List (V × V)) (K : List (V × V) → ρ), mapDropC bot k es K = match mapDrop k es with
    | none => bot
    | some es' => K es' := by
    intro es
    induction es with
    | nil => intro K; rfl
    | cons p t ih =>
      intro K
      obtain ⟨k', v⟩ := p
      show (match keyEqQ k k' with
        | none => bot
        | some true => K t
        | some false => mapDropC bot k t fun t => K ((k', v) :: t)) = _
      rw [keyEqQ_eq]
      unfold mapDrop
      simp only [mapIdx]
      cases keyEq k k' with
      | none => rfl
      | some e => cases e with
        | true => rfl
        | false =>
          simp only [ih]
          unfold mapDrop
          cases mapIdx k t with
          | none => rfl
          | some r => cases r <;> rfl
  exact key es K
theorem acMapDel_eq (kd : Nat) (xs : List V) (s : St) (k : V → SS → ρ) : (acMapDel bot kd).run call xs (enc s) k = fin2 bot (actMapDel kd xs s) k := by
  unfold acMapDel actMapDel
  simp only
  split
  · rename_i id key
    simp only [enc_base, ble_dec, updQ_eq, getMapL_obj']
    by_cases h1 : s.base ≤ id
    · cases hk : kindOK kd key
      · simp [h1]
      · simp only [h1, decide_true, true_and, if_true]
        cases s.objs[id]? with
        | none => rfl
        | some o =>
          simp only [fin_some]
          cases o <;> try rfl
          all_goals
            simp only [mapDropC_eq]
            rename_i es
            cases mapDrop key es <;> rfl
    · simp [h1]
  · rename_i h1
    split
    · exact absurd rfl (h1 _ _)
    · rfl
theorem acAlloc_eq (t : TypeId) (zero : List V) (xs : List V) (s : St) (k : V → SS → ρ) : (acAlloc bot t zero).run call xs (enc s) k = fin2 bot (actAlloc t zero xs s) k := by
  unfold acAlloc actAlloc
  cases xs with
  | nil =>
    simp only
    cases h : zero.all V.leaf
    · simp
    · simp only [pushQ_eq, if_true]; rfl
  | cons x xs => rfl
theorem acAllocArr_eq (zero : List V) (xs : List V) (s : St) (k : V → SS → ρ) : (acAllocArr bot zero).run call xs (enc s) k = fin2 bot (actAllocArr zero xs s) k := by
  unfold acAllocArr actAllocArr
  cases xs with
  | nil =>
    simp only
    cases h : zero.all V.leaf
    · simp
    · simp only [pushQ_eq, if_true]; rfl
  | cons x xs => rfl
theorem acBox_eq (t : TypeId) (xs : List V) (s : St) (k : V → SS → ρ) : (acBox bot t).run call xs (enc s) k = fin2 bot (actBox t xs s) k := by
  unfold acBox actBox
  simp only
  split
  · rename_i x
    simp only
    by_cases h : x.cells.all V.leaf = true
    · rw [if_pos h, h]; simp only [fList_eq gHead_eq, pushQ_eq]; rfl
    · rw [if_neg h, Bool.eq_false_iff.2 h]; rfl
  · rename_i h1
    split
    · exact absurd rfl (h1 _)
    · rfl
theorem acMkMap_eq (xs : List V) (s : St) (k : V → SS → ρ) : (acMkMap bot).run call xs (enc s) k = fin2 bot (actMkMap xs s) k := by
  unfold acMkMap actMkMap
  cases xs with
  | nil => simp only [pushQ_eq]; rfl
  | cons x xs => rfl
theorem trimQ_eq {α : Type} (n : Nat) (l : List α) : trimQ n l = l.take n := by
  unfold trimQ
  rw [show (List.rec (motive := fun _ => Nat) 0 (fun _ _ ih => Nat.add ih 1) l : Nat) = l.length from lenL_eq l, beq_dec]
  by_cases h : l.length = n
  · subst h; simp
  · simp [h]
theorem acAppend_eq (sz : Nat) (arr : Bool) (xs : List V) (s : St) (k : V → SS → ρ) : (acAppend bot sz arr).run call xs (enc s) k = fin2 bot (actAppend sz arr xs s) k := by
  unfold acAppend actAppend
  simp only
  split
  · rename_i o sz' l x
    simp only [elemsQ_eq]
    cases elems s sz x with
    | none => rfl
    | some l' =>
      simp only [lenL_eq, beq_dec]
      cases arr with
      | true =>
        simp only [if_true]
        cases o with
        | no => simp
        | tail => simp
        | shut =>
          simp only [true_and]
          by_cases h : sz' = sz ∧ l.length = 0 ∧ l'.length ≤ roomy
          · rw [if_pos h, if_pos h]
            by_cases h2 : l'.length = 0
            · simp only [h2, decide_true, if_true]; rfl
            · simp only [h2, decide_false, if_false, fNat_eq, fList_eq gHead_eq, pushQ_eq]; rfl
          · rw [if_neg h, if_neg h]; rfl
      | false =>
        simp only [Bool.false_eq_true, if_false]
        cases o with
        | no => simp
        | tail =>
          simp only [ne_eq, reduceCtorEq, not_false_eq_true, true_and]
          by_cases h : sz' = sz ∧ l.length + l'.length ≤ roomy
          · rw [if_pos h, if_pos h]
            by_cases h2 : l'.length = 0
            · simp only [h2, decide_true, if_true, appL_eq]; rfl
            · simp only [h2, decide_false, if_false, appL_eq]; rfl
          · rw [if_neg h, if_neg h]; rfl
        | shut =>
          simp only [ne_eq, reduceCtorEq, not_false_eq_true, true_and]
          by_cases h : sz' = sz ∧ l.length + l'.length ≤ roomy
          · rw [if_pos h, if_pos h]
            by_cases h2 : l'.length = 0
            · simp only [h2, decide_true, if_true, appL_eq]; rfl
            · simp only [h2, decide_false, if_false, appL_eq]; rfl
          · rw [if_neg h, if_neg h]; rfl
  · rename_i id off n sz' x
    simp only [enc_base, ble_dec, elemsQ_eq, getQ_eq, get_obj]
    by_cases h1 : s.base ≤ id
    · simp only [h1, decide_true, if_true]
      cases elems s sz x with
      | none => rfl
      | some l' =>
        simp only
        cases ho : s.objs[id]? with
        | none => rfl
        | some o => cases o <;> try rfl
                    rename_i cs
                    simp only [lenL_eq]
                    by_cases h : sz' = sz ∧ off = 0 ∧ n * sz ≤ cs.length ∧ n + l'.length ≤ roomy
                    · rw [if_pos h, if_pos h]
                      simp only [updQ_eq, ho, fin_some, fNat_eq, appL_eq, pushQ_eq, trimQ_eq]
                      simp [St.set]
                    · rw [if_neg h, if_neg h]; rfl
    · simp [h1]
  · rename_i h1 h2
    split
    · exact absurd rfl (h1 _ _ _ _)
    · exact absurd rfl (h2 _ _ _ _ _)
    · rfl
theorem idxQ_eq (sz : Nat) (xs : List V) (s : St) : idxQ sz xs s = actIndexAddr sz xs s := by
  unfold idxQ
  split
  · rename_i o sz' l k i
    unfold actIndexAddr
    simp only
    split
    · rename_i i
      cases h : Nat.beq sz sz'
      · have : ¬ sz = sz' := fun h2 => by rw [h2, Nat.beq_refl] at h; cases h
        simp [this]
      · have := Nat.eq_of_beq_eq_true h
        subst this
        simp only [nthL_eq]
        rw [if_pos ⟨trivial, Int.natCast_nonneg _⟩]
        show _ = Option.map _ l[i]?
        cases l[i]? <;> rfl
    · rw [if_neg]
      rintro ⟨_, h⟩
      exact absurd h (by omega)
  · rfl
theorem cAct_eq (hc : CallEq bot call call') (a : A) (xs : List V) (σ : St) (k : V → SS → ρ) : (cAct bot a).run call xs (enc σ) k = fin2 bot (a.act call' xs σ) k := by
  by_cases hs : a.sg = 0
  · rw [act_key hs σ]
    cases a <;> simp only [A.sg] at hs <;> first | (cases hs; done) | (split at hs <;> cases hs; done) | skip
    case ibin op => exact cIbin_eq op xs σ k
    case sbin op => exact cSbin_eq op xs σ k
    case indexAddr sz =>
      show (acP bot 1 (idxQ sz)).run call xs (enc σ) k = _
      rw [acP_eq, idxQ_eq]; rfl
    all_goals first | exact acP_eq _ _ xs σ k | (simp only [cAct, acP_eq, A.act]; done) | (simp only [cAct, acP_eq, A.act]; rfl)
  · cases a <;> simp only [A.sg, not_true_eq_false] at hs
    case lookup kd zero ok => exact acR_eq (lookupQ_eq kd zero ok xs σ) k
    case load n agg => exact acR_eq (loadQ_eq n agg xs σ) k
    case len n => exact acR_eq (lenQ_eq n xs σ) k
    case str => exact acR_eq (strQ_eq xs σ) k
    case slicePtr sz n lo hi => exact acR_eq (slicePtrQ_eq sz n lo hi xs σ) k
    case store n => exact acStore_eq n xs σ k
    case mapSet kd => exact acMapSet_eq kd xs σ k
    case mapDel kd => exact acMapDel_eq kd xs σ k
    case alloc t z => exact acAlloc_eq t z xs σ k
    case allocArr z => exact acAllocArr_eq z xs σ k
    case box t => exact acBox_eq t xs σ k
    case mkMap => exact acMkMap_eq xs σ k
    case append sz arr => exact acAppend_eq sz arr xs σ k
    case call f ro =>
      cases ro
      · exact hc f xs σ k
      · exact callROS_eq hc f xs σ k
    case callOwn f => exact callOwnS_eq hc f xs σ k
    case callF f ks =>
      simp only [cAct, A.act, actCallF]
      rw [hc]
      cases call' f xs σ with
      | none => rfl
      | some r =>
        simp only [fin2, fin_some, dec_enc]
        cases (ks.all fun p => leavesAt p.1 p.2 σ.objs r.2.objs) <;> rfl
    case callNew f => exact callNewS_eq hc f xs σ k
    case callv ro =>
      simp only [cAct, A.act]
      unfold actCallv
      split
      · exact callByS_eq hc _ _ _ _ _
      · rename_i hn
        split
        · exact absurd rfl (hn _ _ _ _)
        · rfl
    case invoke tab ro =>
      simp only [cAct, A.act]
      unfold actInvoke
      split
      · split
        · rename_i h; simp only [h]; exact callByS_eq hc _ _ _ _ _
        · rename_i h; simp only [h]; rfl
      · rename_i hn
        split
        · exact absurd rfl (hn _ _ _)
        · rfl
    all_goals exact acS_eq _ _ xs σ k

/-- What goes on with a frame. -/
abbrev finF (bot : ρ) (r : Option FS) (k : KA ρ) : ρ := fin bot r fun s => k s.env s.R s.σ
theorem keq_none {i m : Nat} {k : KF ρ} {K : KA ρ} (hk : KEq i m k K) {st : List (Option V)} (hi : st.length = i) (env : List EV) (σ : St) : k env (none :: st) (enc σ) = K env (unS st (m + 1)) σ := by
  rw [hk _ _ _ (by simp [hi]), unS_push]
theorem res_lt {st : List (Option V)} {i j m : Nat} {x : V} (hi : st.length = i) (h : (unS st m)[j]? = some (some x)) : j < i := by
  by_cases hj : j < i
  · exact hj
  · rcases unS_none (m := m) hi hj with h2 | h2 <;> rw [h2] at h <;> cases h
theorem cOp_eq (hc : CallEq bot call call') {i r : Nat} (m : MOper) {k : KF ρ} {K : KA ρ} (hk : KEq i r k K) {st : List (Option V)} (hi : st.length = i) (env : List EV) (σ : St) :
    (cOp bot i m).run call k env st (enc σ) = finF bot (step call' i { m with guard := none } ⟨env, unS st (r + 1), σ⟩) K := by
  obtain ⟨dst, kk, args, guard⟩ := m
  have hnone : (unS st (r + 1))[i]? = some none := by
    unfold unS
    rw [List.getElem?_append_right (by simp [hi]), List.getElem?_replicate]
    simp [hi]
  have hput := fun (st : List (Option V)) (hi : st.length = i) => cPut_eq hk hi
  cases kk with
  | nop j =>
    simp only [cOp, step, wanted, cGet_eq, finF, hnone]
    cases env[j]? with
    | none => rfl
    | some e => cases e with
      | v x => rfl
      | box cs => simp only [fin_some]; exact keq_none hk hi env σ
  | act a =>
    simp only [cOp, step, wanted, finF]
    cases hf : a.fresh <;> simp only [cRds_eq bot hi (r + 1)] <;> cases rds env (unS st (r + 1)) args <;> simp only [fin_none, fin_some, cAct_eq hc, fin2] <;>
      (rename_i xs; cases a.act call' xs σ with
        | none => rfl
        | some p => simp only [fin_some, eV_eq, hput st hi]; rfl)
  | move j =>
    simp only [cOp, step, wanted, finF]
    rw [cRes_eq bot (m := r + 1) hi j _ rfl]
    cases hj : (unS st (r + 1))[j]? with
    | none => rfl
    | some q => cases q with
      | none => rfl
      | some x => simp only [fin_some, eV_eq, cSet_eq]; rw [hput _ (by simp [hi]), unS_set hi (res_lt hi hj)]
  | mvt j =>
    simp only [cOp, step, wanted, cGet_eq, finF]
    cases env[j]? with
    | none => rfl
    | some q => cases q with
      | v x => simp only [fin_some, eV_eq, cSet_eq, hput st hi]
      | box cs => rfl
  | own a j =>
    simp only [cOp, step, wanted, finF]
    rw [cRes_eq bot (m := r + 1) hi j _ rfl]
    cases hj : (unS st (r + 1))[j]? with
    | none => rfl
    | some q => cases q with
      | none => rfl
      | some x =>
        simp only [fin_some, cRds_eq bot hi (r + 1)]
        cases rds env (unS st (r + 1)) args with
        | none => rfl
        | some xs =>
          simp only [fin_some, cAct_eq hc, fin2]
          cases a.act call' (x :: xs) σ with
          | none => rfl
          | some p => simp only [fin_some, eV_eq, cSet_eq]; rw [hput _ (by simp [hi]), unS_set hi (res_lt hi hj)]
  | allocBox zero =>
    simp only [cOp, step, wanted, finF]
    cases dst with
    | none => rfl
    | some d => simp only [cSet_eq, fin_some]; exact keq_none hk hi _ σ
  | boxBox =>
    simp only [cOp, step, wanted, finF]
    cases dst with
    | none => simp only; cases rds env (unS st (r + 1)) args with
      | none => rfl
      | some xs => cases xs with
        | nil => rfl
        | cons x xs => cases xs <;> rfl
    | some d =>
      simp only [cRds_eq bot hi (r + 1)]
      cases rds env (unS st (r + 1)) args with
      | none => rfl
      | some xs => cases xs with
        | nil => rfl
        | cons x xs => cases xs with
          | nil => simp only [fin_some, eV_eq, fList_eq gHead_eq, cSet_eq]; exact keq_none hk hi _ σ
          | cons y xs => rfl
  | loadBox j off n agg =>
    simp only [cOp, step, wanted, cGet_eq, finF]
    cases env[j]? with
    | none => rfl
    | some q => cases q with
      | v x => rfl
      | box cs => simp only [fin_some]; cases part cs off n agg with
        | none => rfl
        | some x => simp only [fin_some, gV_eq, eV_eq, hput st hi]
  | takeBox j off =>
    simp only [cOp, step, wanted, cGet_eq, finF]
    cases env[j]? with
    | none => rfl
    | some q => cases q with
      | v x => rfl
      | box cs =>
        simp only [fin_some]
        cases cs[off]? with
        | none => rfl
        | some x =>
          simp only [fin_some]
          cases hl : x.leaf with
          | false => simp
          | true => simp only [eV_eq, cSet_eq, hput st hi, if_true, fin_some]
  | storeBox j off n =>
    simp only [cOp, step, wanted, cGet_eq, finF]
    cases env[j]? with
    | none => rfl
    | some q => cases q with
      | v x => simp only [fin_some]; cases rds env (unS st (r + 1)) args <;> rfl
      | box cs =>
        simp only [fin_some, cRds_eq bot hi (r + 1)]
        cases rds env (unS st (r + 1)) args with
        | none => rfl
        | some xs => cases xs with
          | nil => rfl
          | cons x xs => cases xs with
            | nil =>
              simp only [fin_some]
              by_cases h : x.cells.length = n ∧ off + n ≤ cs.length ∧ x.cells.all V.leaf = true
              · rw [if_pos h, if_pos h]; simp only [fList_eq gHead_eq, cSet_eq, fin_some]; exact keq_none hk hi _ σ
              · rw [if_neg h, if_neg h]; rfl
            | cons y xs => rfl
  | keepBox j off n q =>
    simp only [cOp, step, wanted, cGet_eq, finF]
    cases env[j]? with
    | none => rfl
    | some e => cases e with
      | v x => rfl
      | box cs =>
        simp only [fin_some]
        rw [cRes_eq bot (m := r + 1) hi q _ rfl]
        cases hj : (unS st (r + 1))[q]? with
        | none => rfl
        | some z => cases z with
          | none => rfl
          | some x =>
            simp only [fin_some]
            by_cases h : x.cells.length = n ∧ off + n ≤ cs.length ∧ x.cells.all V.leaf = true
            · rw [if_pos h, if_pos h]; simp only [fList_eq gHead_eq, cSet_eq, eV_eq, fin_some]; rw [keq_none hk (by simp [hi]), unS_set hi (res_lt hi hj)]
            · rw [if_neg h, if_neg h]; rfl
  | boxTake q =>
    simp only [cOp, step, wanted, finF]
    cases dst with
    | none => simp only; cases (unS st (r + 1))[q]? with
      | none => rfl
      | some z => cases z <;> rfl
    | some d =>
      simp only
      rw [cRes_eq bot (m := r + 1) hi q _ rfl]
      cases hj : (unS st (r + 1))[q]? with
      | none => rfl
      | some z => cases z with
        | none => rfl
        | some x => simp only [fin_some, fList_eq gHead_eq, cSet_eq, eV_eq]; rw [keq_none hk (by simp [hi]), unS_set hi (res_lt hi hj)]

theorem cGuard_eq (hc : CallEq bot call call') {i r : Nat} (m : MOper) {k : KF ρ} {K : KA ρ} (hk : KEq i r k K) {st : List (Option V)} (hi : st.length = i) (env : List EV) (σ : St) :
    (cGuard bot i m).run call k env st (enc σ) = finF bot (step call' i m ⟨env, unS st (r + 1), σ⟩) K := by
  obtain ⟨dst, kk, args, guard⟩ := m
  cases guard with
  | none => exact cOp_eq hc ⟨dst, kk, args, none⟩ hk hi env σ
  | some g =>
    obtain ⟨j, want⟩ := g
    generalize hR : unS st (r + 1) = R
    have h1 : wanted R (some (j, want)) = some true → step call' i ⟨dst, kk, args, some (j, want)⟩ ⟨env, R, σ⟩ = step call' i ⟨dst, kk, args, none⟩ ⟨env, R, σ⟩ := by
      intro h
      unfold step
      simp only [h]
      rfl
    have h2 : wanted R (some (j, want)) = some false → step call' i ⟨dst, kk, args, some (j, want)⟩ ⟨env, R, σ⟩ = some (FS.put ⟨env, R, σ⟩ dst i .undef) := by
      intro h
      unfold step
      simp only [h]
    have h3 : wanted R (some (j, want)) = none → step call' i ⟨dst, kk, args, some (j, want)⟩ ⟨env, R, σ⟩ = none := by
      intro h
      unfold step
      simp only [h]
    show (cRes bot i j).run st _ = _
    rw [cRes_eq bot (m := r + 1) hi j _ rfl, hR]
    cases hj : R[j]? with
    | none => rw [h3 (by simp [wanted, hj])]; rfl
    | some z => cases z with
      | none => rw [h3 (by simp [wanted, hj])]; rfl
      | some x =>
        simp only [fin_some]
        split
        · rename_i b hx
          cases hx
          cases hb : (b == want)
          · rw [h2 (by simp [wanted, hj, hb])]; simp only [finF, fin_some]; rw [cPut_eq hk hi, hR]
          · rw [h1 (by simp [wanted, hj, hb])]; simp only; rw [← hR]; exact cOp_eq hc ⟨dst, kk, args, some (j, want)⟩ hk hi env σ
        · rename_i t hx
          cases hx
          rw [h2 (by simp [wanted, hj])]; simp only [finF, fin_some]; rw [cPut_eq hk hi, hR]
        · rename_i n1 n2
          rw [h3]
          · rfl
          · unfold wanted
            simp only [hj]
            split
            · rename_i h; cases h; exact absurd rfl (n1 _)
            · rename_i h; cases h; exact absurd rfl (n2 _)
            · rfl

theorem cOps_eq (hc : CallEq bot call call') (K : List EV → SS → ρ) (ms : List MOper) : ∀ (i : Nat) (env : List EV) (st : List (Option V)) (σ : St), st.length = i →
    (cOps bot ms i).run call (fun env _ σ => K env σ) env st (enc σ) = finF bot (runOps call' i ms ⟨env, unS st ms.length, σ⟩) fun env _ σ => K env (enc σ) := by
  induction ms with
  | nil => intro i env st σ _; rfl
  | cons m ms ih =>
    intro i env st σ hi
    show (cGuard bot i m).run call (fun env R σ => (cOps bot ms (i + 1)).run call (fun env _ σ => K env σ) env R σ) env st (enc σ) = _
    rw [cGuard_eq hc (r := ms.length) m (K := fun env R σ => finF bot (runOps call' (i + 1) ms ⟨env, R, σ⟩) fun env _ σ => K env (enc σ)) (fun env st σ hst => ih (i + 1) env st σ hst) hi]
    have h2 : runOps call' i (m :: ms) ⟨env, unS st (m :: ms).length, σ⟩ = match step call' i m ⟨env, unS st (ms.length + 1), σ⟩ with
      | none => none
      | some s' => runOps call' (i + 1) ms s' := by rw [runOps]; rfl
    rw [h2]
    cases step call' i m ⟨env, unS st (ms.length + 1), σ⟩ <;> rfl
abbrev finX (bot : ρ) (r : Res) (k : KX ρ) : ρ := fin bot r fun p => k p.1 p.2.1 (enc p.2.2)
theorem iterS_eq {f : List EV → SS → KX ρ → ρ} {g : List EV → St → Res} (hf : ∀ e s k, f e (enc s) k = finX bot (g e s) k) (n : Nat) : ∀ (env : List EV) (σ : St) (k : KX ρ), iterS bot f n env (enc σ) k = finX bot (iter n g env σ) k := by
  induction n with
  | zero => intro env σ k; rfl
  | succ n ih =>
    intro env σ k
    show f env (enc σ) _ = _
    rw [hf]
    unfold iter
    cases g env σ with
    | none => rfl
    | some r =>
      obtain ⟨o, e, s⟩ := r
      cases o
      · simp only [finX, fin_some]; exact ih e s k
      · rfl
      · rfl
theorem cCode_eq (hc : CallEq bot call call') (n : Nat) (c : MCode) : ∀ (env : List EV) (σ : St) (k : KX ρ), (cCode bot c).run call n env (enc σ) k = finX bot (exec call' n c env σ) k := by
  induction c with
  | skip => intro env σ k; rfl
  | reg ops =>
    intro env σ k
    show (cOps bot ops 0).run call (fun env _ σ => k .norm env σ) env [] (enc σ) = _
    rw [cOps_eq hc (fun env σ => k .norm env σ) ops 0 env [] σ rfl]
    simp only [exec, unS, List.reverse_nil, List.nil_append]
    cases runOps call' 0 ops ⟨env, List.replicate ops.length none, σ⟩ <;> rfl
  | seq a b iha ihb =>
    intro env σ k
    show (cCode bot a).run call n env (enc σ) _ = _
    rw [iha]
    simp only [exec]
    cases exec call' n a env σ with
    | none => rfl
    | some r =>
      obtain ⟨o, e, s⟩ := r
      cases o
      · simp only [finX, fin_some]; exact ihb e s k
      · rfl
      · rfl
  | cond c a b iha ihb =>
    intro env σ k
    show (cRd bot 0 c).run env [] _ = _
    rw [cRd_eq bot (st := []) (i := 0) rfl 0]
    show fin bot (rd env [] c) _ = _
    simp only [exec]
    cases rd env [] c with
    | none => rfl
    | some x =>
      simp only [fin_some]
      split
      · rename_i b
        cases b
        · exact ihb env σ k
        · exact iha env σ k
      · rename_i hn
        split
        · rename_i h; cases h; exact absurd rfl (hn _)
        · rename_i h; cases h; exact absurd rfl (hn _)
        · rfl
  | block id b ih =>
    intro env σ k
    show (cCode bot b).run call n env (enc σ) _ = _
    rw [ih]
    simp only [exec]
    cases exec call' n b env σ with
    | none => rfl
    | some r =>
      obtain ⟨o, e, s⟩ := r
      cases o
      · rfl
      · rename_i id'
        simp only [finX, fin_some]
        split <;> rfl
      · rfl
  | loop b ih =>
    intro env σ k
    show iterS bot (fun e s k => (cCode bot b).run call n e s k) n env (enc σ) k = _
    rw [iterS_eq (g := fun e s => exec call' n b e s) ih]
    rfl
  | exit id => intro env σ k; rfl
  | ret => intro env σ k; rfl
theorem cStart_eq (n : Nat) (xs : List V) (hn : xs.length = n) (slots : List Tmp) : ∀ k : List EV → ρ, cStart bot slots n xs k = k (slots.map fun t => .v (xs.getD t .undef).erase) := by
  induction slots with
  | nil => intro k; rfl
  | cons t l ih =>
    intro k
    show (match Nat.blt t n with
      | true => fGet bot xs t fun x => eV x fun x => cStart bot l n xs fun l => k (.v x :: l)
      | false => cStart bot l n xs fun l => k (.v .undef :: l)) = _
    cases h : Nat.blt t n
    · have ht : xs.length ≤ t := by
        have : ¬ t < n := fun h2 => by rw [blt_dec, decide_eq_true h2] at h; cases h
        rw [hn]; exact Nat.le_of_not_lt this
      simp only [ih, List.map_cons]
      congr 3
      rw [List.getD_eq_getElem?_getD, List.getElem?_eq_none ht]; rfl
    · have ht : t < xs.length := by
        rw [blt_dec, decide_eq_true_eq] at h
        rw [hn]; exact h
      simp only [fGet_eq, List.getElem?_eq_getElem ht, fin_some, eV_eq, ih, List.map_cons]
      congr 3
      rw [List.getD_eq_getElem?_getD, List.getElem?_eq_getElem ht]; rfl
theorem cFun_eq (hc : CallEq bot call call') (m : MFunc) (n : Nat) (xs : List V) (σ : St) (k : V → SS → ρ) : (cFun bot m).run call n xs (enc σ) k = fin2 bot (m.run call' n xs σ) k := by
  show (match Nat.beq xs.length m.nargs with
    | true => _
    | false => bot) = _
  unfold MFunc.run
  cases h : Nat.beq xs.length m.nargs
  · rw [if_neg (fun h2 => by rw [h2, Nat.beq_refl] at h; cases h)]; rfl
  · have hn := Nat.eq_of_beq_eq_true h
    rw [if_pos hn]
    simp only [cStart_eq m.nargs xs hn, cCode_eq hc]
    show finX bot (exec call' n m.body (m.start xs) σ) _ = _
    cases exec call' n m.body (m.start xs) σ with
    | none => rfl
    | some r =>
      obtain ⟨o, e, s⟩ := r
      cases o
      · simp only [finX, fin_some, fin2]
        simp only [dec_enc]
        cases getAll e s m.res <;> simp
      · rfl
      · simp only [finX, fin_some, fin2]
        simp only [dec_enc]
        cases getAll e s m.res <;> simp

/-- The compiled run comes to what the run comes to. -/
theorem callC_eq (K : KnT) (F : Funcs) (n : Nat) : CallEq bot (callC bot K F n) (callN F (knOf K) n) := by
  induction n with
  | zero => intro f xs σ k; rfl
  | succ n ih =>
    intro f xs σ k
    show (cRow bot (K f) (F f)).run (callC bot K F n) n xs (enc σ) k = _
    unfold callN
    have hrest : (cRest bot (F f)).run (callC bot K F n) n xs (enc σ) k = fin2 bot (match F f with
        | some m => m.run (callN F (knOf K) n) n xs σ
        | none => none) k := by
      unfold cRest
      cases F f with
      | none => rfl
      | some m => exact cFun_eq ih m n xs σ k
    unfold knOf cRow
    cases hK : K f with
    | none => exact hrest
    | some g =>
      cases g with
      | v g =>
        simp only
        cases hg : g xs with
        | some r => simp
        | none => exact hrest
      | s g =>
        simp only [dec_enc]
        cases hg : g xs σ with
        | some r => simp
        | none => exact hrest

/-- What a compiled run shows. -/
theorem runs_of {K : KnT} {F : Funcs} {n : Nat} {f : FuncId} {xs : List V} {σ : St} {k : V → SS → Bool} (h : callC false K F n f xs (enc σ) k = true) : ∃ r σ', callN F (knOf K) n f xs σ = some (r, σ') ∧ k r (enc σ') = true := by
  rw [callC_eq (bot := false) K F n f xs σ k] at h
  cases hr : callN F (knOf K) n f xs σ with
  | none => rw [hr] at h; cases h
  | some p => rw [hr] at h; exact ⟨p.1, p.2, rfl, h⟩
end
end Go.Ab
