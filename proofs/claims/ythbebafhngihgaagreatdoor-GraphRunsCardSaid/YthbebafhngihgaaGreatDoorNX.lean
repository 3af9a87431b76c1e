/- What is known of the library's functions, and that it is so. No premise but those named. -/
import Derived.Test.YthbebafhngihgaaGreatDoorN2
import Derived.Test.YthbebafhngihgaaGreatDoorEX
import Derived.Test.YthbebafhngihgaaGreatDoorShelf
namespace Go.AbN
open Go Go.Ab Go.Proofs Go.Proofs.YthbebafhngihgaaGreatDoor Go.RowKit

section
variable {P : Program} {μ : List Nat} {lim : Nat → Nat} {w : World} {σ : St}

theorem args1 {v : V} {args : Array Value} (h : RelVs μ lim w [v] args.toList) : ∃ X, args = #[X] ∧ RelV μ lim w v X := by
  cases args with | mk l =>
  match l, h with
  | [X], h => unfold RelVs at h; exact ⟨X, rfl, h.1⟩
  | [], h => unfold RelVs at h; exact h.elim
  | _ :: _ :: _, h => unfold RelVs at h; have := h.2; unfold RelVs at this; exact this.elim
theorem args2 {v u : V} {args : Array Value} (h : RelVs μ lim w [v, u] args.toList) : ∃ X Y, args = #[X, Y] ∧ RelV μ lim w v X ∧ RelV μ lim w u Y := by
  cases args with | mk l =>
  match l, h with
  | [X, Y], h => unfold RelVs at h; have := h.2; unfold RelVs at this; exact ⟨X, Y, rfl, h.1, this.1⟩
  | [], h => unfold RelVs at h; exact h.elim
  | [_], h => unfold RelVs at h; have := h.2; unfold RelVs at this; exact this.elim
  | _ :: _ :: _ :: _, h => unfold RelVs at h; have := h.2; unfold RelVs at this; have := this.2; unfold RelVs at this; exact this.elim

/-- What is said of a call is so. -/
def OkAt (P : Program) (f : FuncId) (xs : List V) (σ : St) (v : V) (σ' : St) : Prop :=
  ∀ (μ : List Nat) (lim : Nat → Nat) (w : World) (args : Array Value), WRel μ lim w σ → σ.base ≤ σ.objs.length → RelVs μ lim w xs args.toList →
    Calls P f args w fun e w' => ∃ y μ' lim', e = .returned y ∧ Chg μ lim w σ μ' lim' w' σ' ∧ RelV μ' lim' w' v y

/-- New blocks alone. -/
theorem chg_below (hw : WRel μ lim w σ) {w' : World} {lim' : Nat → Nat} (h : Below w.heap.size w w') (hl : ∀ b, b < w.heap.size → lim' b = lim b) (hf : ∀ b, w'.heap.size ≤ b → lim' b = 0) : Chg μ lim w σ μ lim' w' σ ∧ Ext μ lim w μ lim' w' := by
  have hx : Ext μ lim w μ lim' w' := ⟨fun _ _ x => x, fun b o ho => by
      have hb := hw.lim_lt ho
      exact ⟨by rw [hl b hb]; exact ho, cell_congr (h.block b hb) o⟩, fun b => by
      rcases Nat.lt_or_ge b w.heap.size with hb | hb
      · rw [bsize_congr (h.block b hb)]; exact Nat.le_refl _
      · rw [bsize_ge hb]; exact Nat.zero_le _⟩
  refine ⟨⟨h.os, h.tape, h.output, h.size, fun _ _ x => x, fun b hb _ => ⟨h.block b hb, hl b hb⟩, fun b _ => hx.size b, fun id b ha hb hm => .inr ⟨id, hb, ha, hm⟩, rfl, fun _ _ => rfl, Nat.le_refl _, fun _ hp => hw.glob_lt hp,
    ⟨hw.len, fun id b hm => Nat.lt_of_lt_of_le (hw.lt id b hm) h.size, hw.inj, fun id b o ho hm => (hw.obj id b o ho hm).ext hx (h.block b (hw.lt id b hm)) (hl b (hw.lt id b hm)), hf, glob_keep hw.glob fun p _ _ hlt => ⟨h.block p.1 hlt, hl p.1 hlt⟩⟩⟩, hx⟩

/-- A new block that nothing leads to. -/
theorem chg_add0 (hw : WRel μ lim w σ) (o : Go.Obj) : Chg μ lim w σ μ lim (addObj w o) σ := by
  have h := chg_add hw o 0
  have hlim : (fun b => if b = w.heap.size then 0 else lim b) = lim := by
    funext b
    split
    · rename_i h; rw [hw.fresh b (by omega)]
    · rfl
  rwa [hlim] at h

/-- A row of leaves in a new block, below which all is as it was. -/
theorem row_new (hw : WRel μ lim w σ) {w' : World} (h : Below w.heap.size w w') {g : Nat} {cur : Array Value} {ty : TypeId} {fr : Nat × Nat} {l : List (List V)} {news : List Value} {n cap : Nat} (hg : w.heap.size ≤ g) (hgb : w'.heap[g]? = some (.cells cur ty fr))
    (hr : RelVs μ lim w l.flatten news) (h1 : ∀ v ∈ news, v.oneCell = true) (hs : ∀ cs ∈ l, cs.length = 1) (hln : l.length = n) (hcur : ∀ k, k < news.length → cur[k]? = news[k]?) (hcap : n ≤ cap ∧ cap < 2 ^ 63) :
    ∃ lim', Chg μ lim w σ μ lim' w' σ ∧ RelV μ lim' w' (.slice .no 1 l) (.slice (some ⟨g, 0, none⟩) n cap) := by
  have hglt : g < w'.heap.size := (Array.getElem?_eq_some_iff.1 hgb).1
  obtain ⟨h2, hx⟩ := chg_below (lim' := fun b => if b = g then n else lim b) hw h (fun b hb => if_neg (by omega)) (fun b hb => by
    have : b ≠ g := by omega
    simp only [if_neg this]
    exact hw.fresh b (by have := h.size; omega))
  refine ⟨_, h2, ?_⟩
  have hfl := flat_len 1 l hs
  unfold RelV
  refine ⟨some ⟨g, 0, none⟩, cap, by rw [hln], ⟨by rw [hln]; exact hcap.1, by simp⟩, hcap.2, rfl, RelLL.of_flat hs (RelL.of_get fun k v hv => ?_)⟩
  have hkl := (List.getElem?_eq_some_iff.1 hv).1
  obtain ⟨x, hxk, hrx⟩ := hr.get hv
  refine ⟨by simp only [if_true]; omega, x, ?_, hrx.ext hx, h1 x (List.mem_of_getElem? hxk)⟩
  have := hcur k (List.getElem?_eq_some_iff.1 hxk).1
  rw [hxk] at this
  simp [World.cell?, hgb, this]
end

/-! ## numbers to texts, bits, texts -/

def dig (n : Nat) : List UInt8 := if n < 10 then [UInt8.ofNat (48 + n)] else [UInt8.ofNat (48 + n / 10), UInt8.ofNat (48 + n % 10)]
theorem dig_eq {n : Nat} (h : n < 100) : Lib.decDigits n = dig n := by
  unfold dig
  split
  · rename_i h1; rw [Lib.decDigits, dif_pos h1]
  · rename_i h1
    rw [Lib.decDigits, dif_neg h1, Lib.decDigits, dif_pos (by omega)]
    rfl

def itoaK : List V → Option V
  | [.sc (.int .i64 n)] => if 0 ≤ n ∧ n < 100 then some (.str ⟨(dig n.toNat).toArray⟩) else none
  | _ => none
theorem itoa_ok {xs : List V} {v : V} (h : itoaK xs = some v) (σ : St) : OkAt Tryz.prog 117 xs σ v σ := by
  intro μ lim w args hw _ hx
  unfold itoaK at h
  split at h
  case h_2 => cases h
  rename_i n
  split at h
  case isFalse => cases h
  rename_i hn
  cases h
  obtain ⟨X, rfl, hX⟩ := args1 hx
  have hXe : X = .int .i64 (n.toNat : Nat) := by rw [relSc hX]; congr 1; omega
  subst hXe
  refine (Tryz.strconv_Itoa_small n.toNat (by omega) w).mono ?_
  rintro e w' ⟨rfl, rfl⟩
  refine ⟨_, μ, lim, rfl, Chg.refl hw, ?_⟩
  rw [dig_eq (by omega)]
  exact scRel rfl

def lenK : List V → Option V
  | [.sc (.int .u64 x)] => if 0 ≤ x ∧ x ≤ 18446744073709551615 then some (.int (Lib.bitLen x.toNat)) else none
  | _ => none
theorem len_ok {xs : List V} {v : V} (h : lenK xs = some v) (σ : St) : OkAt Tryz.prog 107 xs σ v σ := by
  intro μ lim w args hw _ hx
  unfold lenK at h
  split at h
  case h_2 => cases h
  rename_i n
  split at h
  case isFalse => cases h
  rename_i hn
  cases h
  obtain ⟨X, rfl, hX⟩ := args1 hx
  rw [relSc hX]
  refine (Tryz.bits_Len n w hn.1 hn.2).mono ?_
  rintro e w' ⟨rfl, rfl⟩
  exact ⟨_, μ, lim, rfl, Chg.refl hw, scRel rfl⟩

def byteK : List V → Option V
  | [.sc (.string s), .sc (.int .u8 c)] => some (.int (Lib.indexByte s.data.toList c.toNat.toUInt8))
  | _ => none
theorem byte_ok {xs : List V} {v : V} (h : byteK xs = some v) (σ : St) : OkAt Tryz.prog 258 xs σ v σ := by
  intro μ lim w args hw _ hx
  unfold byteK at h
  split at h
  case h_2 => cases h
  rename_i s c
  cases h
  obtain ⟨X, Y, rfl, hX, hY⟩ := args2 hx
  rw [relSc hX, relSc hY]
  refine (Tryz.strings_IndexByte s c w).mono ?_
  rintro e w' ⟨rfl, rfl⟩
  exact ⟨_, μ, lim, rfl, Chg.refl hw, scRel rfl⟩

/-! ## strings.Fields -/

def fieldsK : List V → Option V
  | [.sc (.string s)] => if s.size < 65536 ∧ s.data.toList.all (fun b => decide (b.toNat < 128)) = true then some (.slice .no 1 ((Lib.fields s.data.toList).map fun l => [.str ⟨l.toArray⟩])) else none
  | _ => none
theorem gSpace : Tryz.prog.globalNamed "strings.asciiSpace" = some 5 := by kernel_rfl
theorem fieldsGo_len : ∀ (l cur : List UInt8), (Lib.fieldsGo cur l).length ≤ l.length + 1
  | [], cur => by simp only [Lib.fieldsGo]; split <;> simp
  | b :: l, cur => by
    simp only [Lib.fieldsGo]
    split
    · split
      · have := fieldsGo_len l []; simp; omega
      · have := fieldsGo_len l []; simp; omega
    · have := fieldsGo_len l (cur ++ [b]); simp; omega
theorem fields_ok {xs : List V} {v : V} (h : fieldsK xs = some v) (σ : St) : OkAt Tryz.prog 270 xs σ v σ := by
  intro μ lim w args hw _ hx
  unfold fieldsK at h
  split at h
  case h_2 => cases h
  rename_i s
  split at h
  case isFalse => cases h
  rename_i hs
  cases h
  obtain ⟨X, rfl, hX⟩ := args1 hx
  rw [relSc hX]
  have htab : Lib.TabIs Tryz.prog w "strings.asciiSpace" .u8 Lib.asciiSpaceTab := by
    obtain ⟨_, ty, fr, h2⟩ := hw.glob (5, (Lib.asciiSpaceTab.map fun z => Value.int .u8 z).toArray) (.tail _ (.head _))
    unfold Lib.TabIs World.var?
    rw [gSpace]
    simp only [Option.bind_some, h2]
  refine (Tryz.strings_Fields s w (by omega) (fun j b hb => by
    have := List.all_eq_true.1 hs.2 b (List.mem_of_getElem? hb)
    simpa using this) htab).mono ?_
  rintro e w' ⟨rfl, rfl⟩
  have hlen : (Lib.fields s.data.toList).length ≤ 65536 := by
    have := fieldsGo_len s.data.toList []
    have h2 : s.data.toList.length = s.size := Array.length_toList
    unfold Lib.fields
    omega
  have hbel : Below w.heap.size w (addObj w (.cells ((Lib.fields s.data.toList).map fun l => Value.string ⟨l.toArray⟩).toArray 9 (0, 0))) :=
    ⟨rfl, rfl, rfl, by rw [addObj_size]; omega, fun k hk => addObj_old hk⟩
  have hflat : ((Lib.fields s.data.toList).map fun l => [V.str ⟨l.toArray⟩]).flatten = (Lib.fields s.data.toList).map fun l => V.str ⟨l.toArray⟩ := by
    induction Lib.fields s.data.toList with
    | nil => rfl
    | cons a l ih => simp [ih]
  obtain ⟨lim', h3, h4⟩ := row_new (l := (Lib.fields s.data.toList).map fun l => [V.str ⟨l.toArray⟩]) (news := (Lib.fields s.data.toList).map fun l => Value.string ⟨l.toArray⟩) (n := (Lib.fields s.data.toList).length) (cap := (Lib.fields s.data.toList).length)
    hw hbel (Nat.le_refl _) (addObj_new w _) (by
      rw [hflat]
      refine RelVs.of_get (by simp) fun k v x hv hx => ?_
      simp only [List.getElem?_map, Option.map_eq_some_iff] at hv hx
      obtain ⟨a, ha, rfl⟩ := hv
      obtain ⟨b, hb, rfl⟩ := hx
      rw [ha] at hb
      cases hb
      exact scRel rfl) (by
      intro v hv
      simp only [List.mem_map] at hv
      obtain ⟨a, _, rfl⟩ := hv
      rfl) (by
      intro cs hc
      simp only [List.mem_map] at hc
      obtain ⟨a, _, rfl⟩ := hc
      rfl) (by simp) (fun k _ => by simp) ⟨Nat.le_refl _, by omega⟩
  exact ⟨_, μ, lim', rfl, h3, h4⟩
end Go.AbN

namespace Go.AbN
open Go Go.Ab Go.Proofs Go.Proofs.YthbebafhngihgaaGreatDoor Go.RowKit

/-! ## copyCheck -/

def holder (t n : Nat) : Bool := (t == 216 && n == 2) || (t == 220 && n == 3)
theorem holder_lies {t n : Nat} (h : holder t n = true) : liesAt Tryz.prog Tryz.prog.depth t (n / Tryz.prog.cellsOf t) 0 216 1 = true ∧ 0 < n := by
  have h' : (t = 216 ∧ n = 2) ∨ (t = 220 ∧ n = 3) := by
    simpa [holder] using h
  rcases h' with ⟨h1, h2⟩ | ⟨h1, h2⟩
  · refine ⟨?_, by omega⟩
    subst h1
    subst h2
    kernel_rfl
  · refine ⟨?_, by omega⟩
    subst h1
    subst h2
    kernel_rfl

def checkK (xs : List V) (σ : St) : Option (V × St) := match xs with
  | [.ptr id 0] => match σ.objs[id]? with
    | some (.var t cs) => match cs with
      | .sc (.pointer none) :: rest => if σ.base ≤ id ∧ holder t cs.length = true then some (.tup [], σ.set id (.var t (.ptr id 0 :: rest))) else none
      | .ptr id' 0 :: _ => if id' = id then some (.tup [], σ) else none
      | _ => none
    | _ => none
  | _ => none

theorem tup_nil {μ : List Nat} {lim : Nat → Nat} {w : World} : RelV μ lim w (.tup []) (.tuple #[]) := by
  unfold RelV; refine ⟨_, rfl, ?_⟩; unfold RelVs; trivial

theorem check_ok {xs : List V} {σ σ' : St} {v : V} (h : checkK xs σ = some (v, σ')) : OkAt Tryz.prog 220 xs σ v σ' := by
  intro μ lim w args hw _ hx
  unfold checkK at h
  split at h
  case h_2 => cases h
  rename_i id
  split at h
  case h_2 => cases h
  rename_i t cs ho
  obtain ⟨X, rfl, hX⟩ := args1 hx
  unfold RelV at hX
  obtain ⟨b, hb, rfl⟩ := hX
  obtain ⟨o1, c, hh, hlen, hcells⟩ := hw.obj id b _ ho hb
  split at h
  · rename_i rest
    split at h
    case isFalse => cases h
    rename_i hc
    cases h
    obtain ⟨hl, hn⟩ := holder_lies hc.2
    obtain ⟨x, hx0, hr0, _⟩ := hcells 0 _ rfl
    rw [relSc hr0] at hx0
    have hfz : w.frozen? ⟨b, 0, none⟩ = false := by simp [World.frozen?, hh]
    refine (copyCheck_fresh b t c.size w hx0 (by simp [World.shape?, hh]) (by omega) (by rw [← hlen]; exact hl) hfz).mono ?_
    rintro e w' ⟨rfl, rfl⟩
    have hal : alive σ id := ⟨_, ho, by simp⟩
    obtain ⟨⟨c2, k1, k2, k3⟩, k4, k5, k6, k7, k8⟩ := setCells_heap b [.pointer (some ⟨b, 0, none⟩)] 0 w c t (0, 0) hh (by simp; omega)
    have hset : w.setCells b 0 [.pointer (some ⟨b, 0, none⟩)] = w.setCell ⟨b, 0, none⟩ (.pointer (some ⟨b, 0, none⟩)) := rfl
    rw [hset] at k1 k4 k5 k6 k7 k8
    obtain ⟨g1, g2⟩ := chg_set hw hc.1 hal hb k6 k7 k8 k5 k4 (by unfold bsize; rw [k1, hh]; simp [k2]) (.var t (.ptr id 0 :: rest)) (fun hext => by
      refine ⟨o1, c2, k1, by rw [k2]; simpa using hlen, fun k v hv => ?_⟩
      have hck := k3 k
      cases k with
      | zero =>
        simp at hv
        subst hv
        refine ⟨.pointer (some ⟨b, 0, none⟩), ?_, ?_, rfl⟩
        · simp [World.cell?, k1, hck]
        · unfold RelV; exact ⟨b, hb, rfl⟩
      | succ k =>
        obtain ⟨y, hy, hry, hyo⟩ := hcells (k + 1) v (by simpa using hv)
        refine ⟨y, ?_, hry.ext hext, hyo⟩
        rw [if_neg (by simp)] at hck
        simp only [World.cell?, hh] at hy
        simp only [World.cell?, k1, hck]
        exact hy)
    exact ⟨_, μ, lim, rfl, g1, tup_nil⟩
  · rename_i id' rest
    split at h
    case isFalse => cases h
    rename_i hc
    subst hc
    cases h
    obtain ⟨x, hx0, hr0, _⟩ := hcells 0 _ rfl
    unfold RelV at hr0
    obtain ⟨b', hb', rfl⟩ := hr0
    rw [hb] at hb'
    cases hb'
    refine (copyCheck_used b w hx0).mono ?_
    rintro e w' ⟨rfl, rfl⟩
    exact ⟨_, μ, lim, rfl, Chg.refl hw, tup_nil⟩
  · cases h

/-! ## errors.Is -/

def whyOf (σ : St) : V → Option Value
  | .imm (_ :: .sc x :: _) => some x
  | .ptr id off => match σ.objs[id]? with
    | some o => match o.cs with
      | some cs => match cs[off + 1]? with
        | some (.sc x) => some x
        | _ => none
      | none => none
    | none => none
  | _ => none
def isK (xs : List V) (σ : St) : Option V := match xs with
  | [.iface 106 p, .iface 141 (.sc (.int .i64 n))] => match whyOf σ p with
    | some (.int .i64 m) => if m = n then some (.bool true) else none
    | _ => none
  | _ => none
theorem is_ok {xs : List V} {σ : St} {v : V} (h : isK xs σ = some v) : OkAt Tryz.prog 68 xs σ v σ := by
  intro μ lim w args hw _ hx
  unfold isK at h
  split at h
  case h_2 => cases h
  rename_i p n
  split at h
  case h_2 => cases h
  rename_i m hm
  split at h
  case isFalse => cases h
  rename_i hmn
  subst hmn
  cases h
  obtain ⟨X, Y, rfl, hX, hY⟩ := args2 hx
  unfold RelV at hX hY
  obtain ⟨x, rfl, hX⟩ := hX
  obtain ⟨y, rfl, hY⟩ := hY
  rw [relSc hY]
  have hp : ∃ b o, x = .pointer (some ⟨b, o, none⟩) ∧ w.cell? ⟨b, o + 1, none⟩ = some (.int .i64 m) := by
    unfold whyOf at hm
    split at hm
    · cases hm
      unfold RelV at hX
      obtain ⟨b, o, h1, h2⟩ := hX
      have := h2.get (k := 1) rfl
      obtain ⟨_, c, h3, h4, _⟩ := this
      exact ⟨b, o, h1, by rw [h3, relSc h4]⟩
    · rename_i id off
      split at hm
      case h_2 => cases hm
      rename_i ob ho
      split at hm
      case h_2 => cases hm
      rename_i cs hcs
      split at hm
      case h_2 => cases hm
      rename_i z hz
      cases hm
      unfold RelV at hX
      obtain ⟨b, hb, rfl⟩ := hX
      obtain ⟨_, _, _, h4⟩ := (hw.obj id b _ ho hb).cellsOf hcs
      obtain ⟨c, h5, h6, _⟩ := h4 _ _ hz
      exact ⟨b, off, rfl, by rw [h5, relSc h6]⟩
    · cases hm
  obtain ⟨b, o, rfl, hc⟩ := hp
  refine (errorsIs_hit b o m w hc).mono ?_
  rintro e w' ⟨rfl, rfl⟩
  exact ⟨_, μ, lim, rfl, Chg.refl hw, scRel rfl⟩

/-! ## errors.As -/

def isPtr : V → Bool
  | .ptr _ _ => true
  | .imm _ => true
  | _ => false
def asK (xs : List V) (σ : St) : Option (V × St) := match xs with
  | [.iface 106 v, .iface 140 (.ptr id 0)] => match σ.objs[id]? with
    | some (.var t [_]) => if σ.base ≤ id ∧ isPtr v = true then some (.bool true, σ.set id (.var t [v])) else none
    | _ => none
  | _ => none
theorem as_ok {xs : List V} {σ σ' : St} {v : V} (h : asK xs σ = some (v, σ')) : OkAt Tryz.prog 65 xs σ v σ' := by
  intro μ lim w args hw hbase hx
  unfold asK at h
  split at h
  case h_2 => cases h
  rename_i p id
  split at h
  case h_2 => cases h
  rename_i t old ho
  split at h
  case isFalse => cases h
  rename_i hc
  cases h
  obtain ⟨X, Y, rfl, hX, hY⟩ := args2 hx
  unfold RelV at hX hY
  obtain ⟨x, rfl, hX⟩ := hX
  obtain ⟨y, rfl, hY⟩ := hY
  unfold RelV at hY
  obtain ⟨b, hb, rfl⟩ := hY
  obtain ⟨a, hxa⟩ : ∃ a, x = .pointer (some a) := by
    cases p <;> simp [isPtr] at hc
    · unfold RelV at hX; obtain ⟨b', _, h⟩ := hX; exact ⟨_, h⟩
    · unfold RelV at hX; obtain ⟨b', o', h, _⟩ := hX; exact ⟨_, h⟩
  subst hxa
  obtain ⟨o1, c, hh, hlen, hcells⟩ := hw.obj id b _ ho hb
  obtain ⟨ov, hov, _⟩ := hcells 0 _ rfl
  have hblt : b < w.heap.size := (Array.getElem?_eq_some_iff.1 hh).1
  obtain ⟨_, ty, fr, hgl⟩ := hw.glob (0, #[.iface 245 (.agg #[.pointer (some ⟨10, 32, none⟩)])]) (.head _)
  have hg : w.cell? ⟨0, 0, none⟩ = some (.iface 245 (.agg #[.pointer (some ⟨10, 32, none⟩)])) := by simp [World.cell?, hgl]
  refine (errorsAs_hit a ⟨b, 0, none⟩ ov w hg hov (by simp [World.frozen?, hh])).mono ?_
  rintro e w' ⟨rfl, rfl⟩
  generalize hw1 : w.alloc (.cells #[.pointer (some ⟨b, 0, none⟩)] 140) = w1
  have c1 : Chg μ lim w σ μ lim w1 σ := by rw [← hw1]; exact chg_add0 hw _
  have b1 : w1.heap[b]? = w.heap[b]? := by rw [← hw1]; exact addObj_old hblt
  generalize hw2 : w1.alloc _ = w2
  have c2 : Chg μ lim w1 σ μ lim w2 σ := by rw [← hw2]; exact chg_add0 c1.wrel _
  have b2 : w2.heap[b]? = w1.heap[b]? := by rw [← hw2]; exact addObj_old (by have := c1.size; omega)
  generalize hw3 : w2.alloc _ = w3
  have c3 : Chg μ lim w2 σ μ lim w3 σ := by rw [← hw3]; exact chg_add0 c2.wrel _
  have b3 : w3.heap[b]? = w2.heap[b]? := by rw [← hw3]; exact addObj_old (by have := c1.size; have := c2.size; omega)
  generalize hw4 : w3.alloc _ = w4
  have c4 : Chg μ lim w3 σ μ lim w4 σ := by rw [← hw4]; exact chg_add0 c3.wrel _
  have b4 : w4.heap[b]? = w3.heap[b]? := by rw [← hw4]; exact addObj_old (by have := c1.size; have := c2.size; have := c3.size; omega)
  have hc4 : Chg μ lim w σ μ lim w4 σ := ((c1.trans c2).trans c3).trans c4
  have hh4 : w4.heap[b]? = some (.cells c t (0, 0)) := by rw [b4, b3, b2, b1, hh]
  have hal : alive σ id := ⟨_, ho, by simp⟩
  simp only [List.length_cons, List.length_nil] at hlen
  obtain ⟨⟨cc, k1, k2, k3⟩, k4, k5, k6, k7, k8⟩ := setCells_heap b [.pointer (some a)] 0 w4 c t (0, 0) hh4 (by simp; omega)
  have hset : w4.setCells b 0 [.pointer (some a)] = w4.setCell ⟨b, 0, none⟩ (.pointer (some a)) := rfl
  rw [hset] at k1 k4 k5 k6 k7 k8
  have hX4 : RelV μ lim w4 p (.pointer (some a)) := hX.ext (hc4.ext hw)
  obtain ⟨g1, g2⟩ := chg_set hc4.wrel hc.1 hal hb k6 k7 k8 k5 k4 (by unfold bsize; rw [k1, hh4]; simp [k2]) (.var t [p]) (fun hext => by
    refine ⟨o1, cc, k1, by rw [k2]; simpa using hlen, fun k v hv => ?_⟩
    have hck := k3 k
    cases k with
    | succ k => simp at hv
    | zero =>
      simp at hv
      subst hv
      refine ⟨.pointer (some a), ?_, hX4.ext hext, rfl⟩
      simp [World.cell?, k1, hck])
  exact ⟨_, μ, lim, rfl, hc4.trans g1, scRel rfl⟩
end Go.AbN

namespace Go.AbN
open Go Go.Ab Go.Proofs Go.Proofs.YthbebafhngihgaaGreatDoor Go.RowKit

def cloneK : List V → Option V
  | [.slice _ 1 l] => if l.length ≤ 4294967296 then some (.slice .no 1 l) else none
  | _ => none

theorem cap_lt {c : Nat} (h : c ≤ maxLen) : c < 2 ^ 63 := by unfold maxLen at h; omega

theorem clone_gen {f : FuncId} {T : TypeId} (hnil : ∀ (n c : Nat) (w : World), Calls Tryz.prog f #[.slice none n c] w fun e w' => e = .returned (.slice none 0 0) ∧ w' = w)
    (hrow : ∀ (b off n c : Nat) (news : List Value) (w : World), news.length = n * 1 → n ≤ 4294967296 → (∀ j u, news[j]? = some u → w.cell? ⟨b, off + j, none⟩ = some u) → (∀ u ∈ news, u.oneCell = true) →
      Calls Tryz.prog f #[.slice (some ⟨b, off, none⟩) n c] w fun e w' => ∃ v', e = .returned v' ∧ w'.ownsRow w.heap.size T 1 v' n news ∧ v' ≠ .slice none 0 0 ∧ Below w.heap.size w w')
    {xs : List V} {v : V} (h : cloneK xs = some v) (σ : St) : OkAt Tryz.prog f xs σ v σ := by
  intro μ lim w args hw _ hx
  unfold cloneK at h
  split at h
  case h_2 => cases h
  rename_i o l
  split at h
  case isFalse => cases h
  rename_i hl
  cases h
  obtain ⟨X, rfl, hX⟩ := args1 hx
  unfold RelV at hX
  obtain ⟨base, cap, rfl, ⟨hle, _⟩, hcap, hbase⟩ := hX
  cases base with
  | none =>
    simp only at hbase
    subst hbase
    have hl0 : l = [] := List.eq_nil_of_length_eq_zero (by omega)
    subst hl0
    refine (hnil _ _ w).mono ?_
    rintro e w' ⟨rfl, rfl⟩
    refine ⟨_, μ, lim, rfl, Chg.refl hw, ?_⟩
    unfold RelV
    exact ⟨none, 0, rfl, ⟨Nat.le_refl _, by simp⟩, by decide, rfl⟩
  | some ad =>
    obtain ⟨hsp, hll⟩ := hbase
    have had : ad = ⟨ad.block, ad.off, none⟩ := by cases ad; simp at hsp; simp [hsp]
    obtain ⟨hflat, hfl⟩ := RelLL.flat hll
    have hs : ∀ cs ∈ l, cs.length = 1 := by
      intro cs hc
      obtain ⟨i, hi⟩ := List.getElem?_of_mem hc
      exact (hll.get hi).1
    obtain ⟨news, n1, n2, n3⟩ : ∃ news : List Value, RelVs μ lim w l.flatten news ∧ (∀ j u, news[j]? = some u → w.cell? ⟨ad.block, ad.off + j, none⟩ = some u) ∧ ∀ u ∈ news, u.oneCell = true := by
      have hget : ∀ j, j < l.flatten.length → ∃ c, w.cell? ⟨ad.block, ad.off + j, none⟩ = some c ∧ RelV μ lim w (l.flatten.getD j .undef) c ∧ c.oneCell = true := by
        intro j hj
        have := hflat.get (List.getElem?_eq_getElem hj)
        obtain ⟨_, c, h1, h2, h3⟩ := this
        refine ⟨c, h1, ?_, h3⟩
        rw [List.getD_eq_getElem?_getD, List.getElem?_eq_getElem hj]
        exact h2
      refine ⟨(List.range l.flatten.length).map fun j => (w.cell? ⟨ad.block, ad.off + j, none⟩).getD undef, ?_, ?_, ?_⟩
      · refine RelVs.of_get (by simp) fun k v x hv hx => ?_
        have hkl := (List.getElem?_eq_some_iff.1 hv).1
        obtain ⟨c, h1, h2, _⟩ := hget k hkl
        simp only [List.getElem?_map, List.getElem?_range hkl, Option.map_some, h1, Option.getD_some, Option.some.injEq] at hx
        subst hx
        rw [List.getD_eq_getElem?_getD, hv] at h2
        exact h2
      · intro j u hu
        simp only [List.getElem?_map, Option.map_eq_some_iff] at hu
        obtain ⟨k, hk, rfl⟩ := hu
        have hkj : k = j ∧ j < l.flatten.length := by
          have := List.getElem?_eq_some_iff.1 hk
          obtain ⟨h1, h2⟩ := this
          simp at h1 h2
          exact ⟨h2.symm, by simpa using h1⟩
        obtain ⟨rfl, hkl⟩ := hkj
        obtain ⟨c, h1, _⟩ := hget k hkl
        simp [h1]
      · intro u hu
        simp only [List.mem_map, List.mem_range] at hu
        obtain ⟨k, hk, rfl⟩ := hu
        obtain ⟨c, h1, _, h3⟩ := hget k hk
        simp [h1, h3]
    rw [had]
    refine (hrow ad.block ad.off l.length cap news w (by rw [← n1.length, hfl]) hl n2 n3).mono ?_
    rintro e w' ⟨v', rfl, ho, hne, hbel⟩
    rcases ho.2 with ⟨h1, _⟩ | ⟨g, cap', cur, h1, h2, h3, h4, h5, h6, h7⟩
    · exact absurd h1 hne
    · subst h1
      obtain ⟨lim', k1, k2⟩ := row_new (l := l) (news := news) (n := l.length) (cap := cap') hw hbel h2 h3 n1 n3 hs rfl (fun k hk => by
        have hnl : news.length = l.length * 1 := ho.1
        rw [← h7, List.getElem?_take_of_lt (by omega), Array.getElem?_toList]) ⟨h4, cap_lt h5⟩
      exact ⟨_, μ, lim', rfl, k1, k2⟩

theorem zero9 : (Tryz.prog.info? 9).map (fun i => (i.size, i.bytes, i.zero)) = some (1, 16, some (.string ⟨#[]⟩)) := by kernel_rfl
theorem zero4 : (Tryz.prog.info? 4).map (fun i => (i.size, i.bytes, i.zero)) = some (1, 1, some (.bool false)) := by kernel_rfl
theorem clone108 {xs : List V} {v : V} (h : cloneK xs = some v) (σ : St) : OkAt Tryz.prog 108 xs σ v σ := by
  obtain ⟨i0, hi, he⟩ := Option.map_eq_some_iff.1 zero9
  simp only [Prod.mk.injEq] at he
  obtain ⟨e1, e2, e3⟩ := he
  refine clone_gen (T := 9) (fun n c w => Tryz.slices_Clone_nil_f108 n c w) (fun b off n c news w hl hn hc h1 => ?_) h σ
  exact Tryz.slices_Clone_f108 i0 _ 1 16 hi e3 e1 e2 rfl (by decide) (fun w => by simp [Go.sizeOf, typeInfo, hi, e1]) b off n c news w hl (by unfold maxLen; omega) (by omega) hc (fun u hu => by have := h1 u hu; cases u <;> first | rfl | simp [Value.oneCell] at this)
theorem clone109 {xs : List V} {v : V} (h : cloneK xs = some v) (σ : St) : OkAt Tryz.prog 109 xs σ v σ := by
  obtain ⟨i0, hi, he⟩ := Option.map_eq_some_iff.1 zero4
  simp only [Prod.mk.injEq] at he
  obtain ⟨e1, e2, e3⟩ := he
  refine clone_gen (T := 4) (fun n c w => Tryz.slices_Clone_nil_f109 n c w) (fun b off n c news w hl hn hc h1 => ?_) h σ
  exact Tryz.slices_Clone_f109 i0 _ 1 1 hi e3 e1 e2 rfl (by decide) (fun w => by simp [Go.sizeOf, typeInfo, hi, e1]) b off n c news w hl (by unfold maxLen; omega) (by omega) hc (fun u hu => by have := h1 u hu; cases u <;> first | rfl | simp [Value.oneCell] at this)

/-- What is known. -/
def Kn0 : Known := fun f xs σ => match f with
  | 65 => asK xs σ
  | 68 => (isK xs σ).map fun v => (v, σ)
  | 107 => (lenK xs).map fun v => (v, σ)
  | 108 => (cloneK xs).map fun v => (v, σ)
  | 109 => (cloneK xs).map fun v => (v, σ)
  | 117 => (itoaK xs).map fun v => (v, σ)
  | 220 => checkK xs σ
  | 258 => (byteK xs).map fun v => (v, σ)
  | 270 => (fieldsK xs).map fun v => (v, σ)
  | _ => none

theorem kn0_ok : CallOK Tryz.prog Kn0 := by
  have key : ∀ (o : Option V) (σ : St) (v : V) (σ' : St), (o.map fun v => (v, σ)) = some (v, σ') → o = some v ∧ σ' = σ := by
    intro o σ v σ' h
    cases o with
    | none => cases h
    | some x => simp at h; exact ⟨by rw [h.1], h.2.symm⟩
  intro f xs σ v σ' h
  unfold Kn0 at h
  split at h
  · exact ⟨by kernel_rfl, as_ok h⟩
  · obtain ⟨h2, h3⟩ := key _ _ _ _ h; subst h3; exact ⟨by kernel_rfl, is_ok h2⟩
  · obtain ⟨h2, h3⟩ := key _ _ _ _ h; subst h3; exact ⟨by kernel_rfl, len_ok h2 _⟩
  · obtain ⟨h2, h3⟩ := key _ _ _ _ h; subst h3; exact ⟨by kernel_rfl, clone108 h2 _⟩
  · obtain ⟨h2, h3⟩ := key _ _ _ _ h; subst h3; exact ⟨by kernel_rfl, clone109 h2 _⟩
  · obtain ⟨h2, h3⟩ := key _ _ _ _ h; subst h3; exact ⟨by kernel_rfl, itoa_ok h2 _⟩
  · exact ⟨by kernel_rfl, check_ok h⟩
  · obtain ⟨h2, h3⟩ := key _ _ _ _ h; subst h3; exact ⟨by kernel_rfl, byte_ok h2 _⟩
  · obtain ⟨h2, h3⟩ := key _ _ _ _ h; subst h3; exact ⟨by kernel_rfl, fields_ok h2 _⟩
  · cases h
end Go.AbN
