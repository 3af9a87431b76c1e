/- What is said of a call of the library, and what new blocks leave as it was. No premise but those named. -/
import Derived.Test.YtgdekehgaelefaaGreatDoorEX
import Derived.Test.YtgdekehgaelefaaGreatDoorProg
import Derived.WalkKit
import Derived.RowKitTokens
import Derived.Lib.IfaceEq
import Derived.LaidEql
import Derived.Shelf.Strings.Builder1
import Derived.Stop.Asserts
import Derived.Shelf.RegionOpenPlain
import Derived.Lib.Walk
import Derived.Lib.SliceRun
import Derived.Lib.AppendZeros
import Derived.Lib.AppendZerosOnto
import Derived.Laws.NewBlocks
import Derived.Laws.Externs
import Derived.Laws.IdiomCopy
import Derived.Test.YtgdekehgaelefaaGreatDoorShelf
import Derived.Test.YtgdekehgaelefaaGreatDoorS1
import Derived.Lib.SmallJoins
import Derived.Shelf.SlicesE.Clone
namespace Go.AbN
open Go Go.Ab Go.Proofs Go.RowKit

section
variable {P : Program} {μ : List Nat} {lim : Nat → Nat} {w : World} {σ : St}

theorem args1 {v : V} {args : Array Value} (h : RelVs μ lim w [v] args.toList) : ∃ X, args = #[X] ∧ RelV μ lim w v X := by
  cases args with | mk l =>
  match l, h with
  | [X], h => unfold RelVs at h; exact ⟨X, rfl, h.1⟩
  | [], h => unfold RelVs at h; exact h.elim
  | _ :: _ :: _, h => unfold RelVs at h; have := h.2; unfold RelVs at this; exact this.elim
theorem args2 {v u : V} {args : Array Value} (h : RelVs μ lim w [v, u] args.toList) : ∃ X Y, args = #[X, Y] ∧ RelV μ lim w v X ∧ RelV μ lim w u Y := by
  cases args with | mk l =>
  match l, h with
  | [X, Y], h => unfold RelVs at h; have := h.2; unfold RelVs at this; exact ⟨X, Y, rfl, h.1, this.1⟩
  | [], h => unfold RelVs at h; exact h.elim
  | [_], h => unfold RelVs at h; have := h.2; unfold RelVs at this; exact this.elim
  | _ :: _ :: _ :: _, h => unfold RelVs at h; have := h.2; unfold RelVs at this; have := this.2; unfold RelVs at this; exact this.elim

/-- What is said of a call is so. -/
def OkAt (P : Program) (f : FuncId) (xs : List V) (σ : St) (v : V) (σ' : St) : Prop :=
  ∀ (μ : List Nat) (lim : Nat → Nat) (w : World) (args : Array Value), WRel μ lim w σ → σ.base ≤ σ.objs.length → RelVs μ lim w xs args.toList →
    Calls P f args w fun e w' => ∃ y μ' lim', e = .returned y ∧ Chg μ lim w σ μ' lim' w' σ' ∧ RelV μ' lim' w' v y

/-- New blocks alone. -/
theorem chg_below (hw : WRel μ lim w σ) {w' : World} {lim' : Nat → Nat} (h : Below w.heap.size w w') (hl : ∀ b, b < w.heap.size → lim' b = lim b) (hf : ∀ b, w'.heap.size ≤ b → lim' b = 0) : Chg μ lim w σ μ lim' w' σ ∧ Ext μ lim w μ lim' w' := by
  have hx : Ext μ lim w μ lim' w' := ⟨fun _ _ x => x, fun b o ho => by
      have hb := hw.lim_lt ho
      exact ⟨by rw [hl b hb]; exact ho, cell_congr (h.block b hb) o⟩, fun b => by
      rcases Nat.lt_or_ge b w.heap.size with hb | hb
      · rw [bsize_congr (h.block b hb)]; exact Nat.le_refl _
      · rw [bsize_ge hb]; exact Nat.zero_le _⟩
  refine ⟨⟨h.os, h.tape, h.output, h.size, fun _ _ x => x, fun b hb _ => ⟨h.block b hb, hl b hb⟩, fun b _ => hx.size b, fun id b ha hb hm => .inr ⟨id, hb, ha, hm⟩, rfl, fun _ _ => rfl, Nat.le_refl _, fun _ hp => hw.glob_lt hp,
    ⟨hw.len, fun id b hm => Nat.lt_of_lt_of_le (hw.lt id b hm) h.size, hw.inj, fun id b o ho hm => (hw.obj id b o ho hm).ext hx (h.block b (hw.lt id b hm)) (hl b (hw.lt id b hm)), hf, glob_keep hw.glob fun p _ _ hlt => ⟨h.block p.1 hlt, hl p.1 hlt⟩⟩⟩, hx⟩

/-- A new block that nothing leads to. -/
theorem chg_add0 (hw : WRel μ lim w σ) (o : Go.Obj) : Chg μ lim w σ μ lim (addObj w o) σ := by
  have h := chg_add hw o 0
  have hlim : (fun b => if b = w.heap.size then 0 else lim b) = lim := by
    funext b
    split
    · rename_i h; rw [hw.fresh b (by omega)]
    · rfl
  rwa [hlim] at h

/-- A row of leaves in a new block, below which all is as it was. -/
theorem row_new (hw : WRel μ lim w σ) {w' : World} (h : Below w.heap.size w w') {g : Nat} {cur : Array Value} {ty : TypeId} {fr : Nat × Nat} {l : List (List V)} {news : List Value} {n cap : Nat} (hg : w.heap.size ≤ g) (hgb : w'.heap[g]? = some (.cells cur ty fr))
    (hr : RelVs μ lim w l.flatten news) (h1 : ∀ v ∈ news, v.oneCell = true) (hs : ∀ cs ∈ l, cs.length = 1) (hln : l.length = n) (hcur : ∀ k, k < news.length → cur[k]? = news[k]?) (hcap : n ≤ cap ∧ cap < 2 ^ 63) :
    ∃ lim', Chg μ lim w σ μ lim' w' σ ∧ RelV μ lim' w' (.slice .no 1 l) (.slice (some ⟨g, 0, none⟩) n cap) := by
  have hglt : g < w'.heap.size := (Array.getElem?_eq_some_iff.1 hgb).1
  obtain ⟨h2, hx⟩ := chg_below (lim' := fun b => if b = g then n else lim b) hw h (fun b hb => if_neg (by omega)) (fun b hb => by
    have : b ≠ g := by omega
    simp only [if_neg this]
    exact hw.fresh b (by have := h.size; omega))
  refine ⟨_, h2, ?_⟩
  have hfl := flat_len 1 l hs
  unfold RelV
  refine ⟨some ⟨g, 0, none⟩, cap, by rw [hln], ⟨by rw [hln]; exact hcap.1, by simp⟩, hcap.2, rfl, RelLL.of_flat hs (RelL.of_get fun k v hv => ?_)⟩
  have hkl := (List.getElem?_eq_some_iff.1 hv).1
  obtain ⟨x, hxk, hrx⟩ := hr.get hv
  refine ⟨by simp only [if_true]; omega, x, ?_, hrx.ext hx, h1 x (List.mem_of_getElem? hxk)⟩
  have := hcur k (List.getElem?_eq_some_iff.1 hxk).1
  rw [hxk] at this
  simp [World.cell?, hgb, this]
end

/-! ## slices.Clone -/

def cloneK : List V → Option V
  | [.slice _ 1 l] => if l.length ≤ 4294967296 then some (.slice .no 1 l) else none
  | _ => none

theorem cap_lt {c : Nat} (h : c ≤ maxLen) : c < 2 ^ 63 := by unfold maxLen at h; omega

theorem clone_gen {f : FuncId} {T : TypeId} (hnil : ∀ (n c : Nat) (w : World), Calls Tryz.prog f #[.slice none n c] w fun e w' => e = .returned (.slice none 0 0) ∧ w' = w)
    (hrow : ∀ (b off n c : Nat) (news : List Value) (w : World), news.length = n * 1 → n ≤ 4294967296 → (∀ j u, news[j]? = some u → w.cell? ⟨b, off + j, none⟩ = some u) → (∀ u ∈ news, u.oneCell = true) →
      Calls Tryz.prog f #[.slice (some ⟨b, off, none⟩) n c] w fun e w' => ∃ v', e = .returned v' ∧ w'.ownsRow w.heap.size T 1 v' n news ∧ v' ≠ .slice none 0 0 ∧ Below w.heap.size w w')
    {xs : List V} {v : V} (h : cloneK xs = some v) (σ : St) : OkAt Tryz.prog f xs σ v σ := by
  intro μ lim w args hw _ hx
  unfold cloneK at h
  split at h
  case h_2 => cases h
  rename_i o l
  split at h
  case isFalse => cases h
  rename_i hl
  cases h
  obtain ⟨X, rfl, hX⟩ := args1 hx
  unfold RelV at hX
  obtain ⟨base, cap, rfl, ⟨hle, _⟩, hcap, hbase⟩ := hX
  cases base with
  | none =>
    simp only at hbase
    subst hbase
    have hl0 : l = [] := List.eq_nil_of_length_eq_zero (by omega)
    subst hl0
    refine (hnil _ _ w).mono ?_
    rintro e w' ⟨rfl, rfl⟩
    refine ⟨_, μ, lim, rfl, Chg.refl hw, ?_⟩
    unfold RelV
    exact ⟨none, 0, rfl, ⟨Nat.le_refl _, by simp⟩, by decide, rfl⟩
  | some ad =>
    obtain ⟨hsp, hll⟩ := hbase
    have had : ad = ⟨ad.block, ad.off, none⟩ := by cases ad; simp at hsp; simp [hsp]
    obtain ⟨hflat, hfl⟩ := RelLL.flat hll
    have hs : ∀ cs ∈ l, cs.length = 1 := by
      intro cs hc
      obtain ⟨i, hi⟩ := List.getElem?_of_mem hc
      exact (hll.get hi).1
    obtain ⟨news, n1, n2, n3⟩ : ∃ news : List Value, RelVs μ lim w l.flatten news ∧ (∀ j u, news[j]? = some u → w.cell? ⟨ad.block, ad.off + j, none⟩ = some u) ∧ ∀ u ∈ news, u.oneCell = true := by
      have hget : ∀ j, j < l.flatten.length → ∃ c, w.cell? ⟨ad.block, ad.off + j, none⟩ = some c ∧ RelV μ lim w (l.flatten.getD j .undef) c ∧ c.oneCell = true := by
        intro j hj
        have := hflat.get (List.getElem?_eq_getElem hj)
        obtain ⟨_, c, h1, h2, h3⟩ := this
        refine ⟨c, h1, ?_, h3⟩
        rw [List.getD_eq_getElem?_getD, List.getElem?_eq_getElem hj]
        exact h2
      refine ⟨(List.range l.flatten.length).map fun j => (w.cell? ⟨ad.block, ad.off + j, none⟩).getD undef, ?_, ?_, ?_⟩
      · refine RelVs.of_get (by simp) fun k v x hv hx => ?_
        have hkl := (List.getElem?_eq_some_iff.1 hv).1
        obtain ⟨c, h1, h2, _⟩ := hget k hkl
        simp only [List.getElem?_map, List.getElem?_range hkl, Option.map_some, h1, Option.getD_some, Option.some.injEq] at hx
        subst hx
        rw [List.getD_eq_getElem?_getD, hv] at h2
        exact h2
      · intro j u hu
        simp only [List.getElem?_map, Option.map_eq_some_iff] at hu
        obtain ⟨k, hk, rfl⟩ := hu
        have hkj : k = j ∧ j < l.flatten.length := by
          have := List.getElem?_eq_some_iff.1 hk
          obtain ⟨h1, h2⟩ := this
          simp at h1 h2
          exact ⟨h2.symm, by simpa using h1⟩
        obtain ⟨rfl, hkl⟩ := hkj
        obtain ⟨c, h1, _⟩ := hget k hkl
        simp [h1]
      · intro u hu
        simp only [List.mem_map, List.mem_range] at hu
        obtain ⟨k, hk, rfl⟩ := hu
        obtain ⟨c, h1, _, h3⟩ := hget k hk
        simp [h1, h3]
    rw [had]
    refine (hrow ad.block ad.off l.length cap news w (by rw [← n1.length, hfl]) hl n2 n3).mono ?_
    rintro e w' ⟨v', rfl, ho, hne, hbel⟩
    rcases ho.2 with ⟨h1, _⟩ | ⟨g, cap', cur, h1, h2, h3, h4, h5, h6, h7⟩
    · exact absurd h1 hne
    · subst h1
      obtain ⟨lim', k1, k2⟩ := row_new (l := l) (news := news) (n := l.length) (cap := cap') hw hbel h2 h3 n1 n3 hs rfl (fun k hk => by
        have hnl : news.length = l.length * 1 := ho.1
        rw [← h7, List.getElem?_take_of_lt (by omega), Array.getElem?_toList]) ⟨h4, cap_lt h5⟩
      exact ⟨_, μ, lim', rfl, k1, k2⟩


/-- Of a row of nothing. -/
def emptyK : List V → Option V
  | [.slice _ sz []] => some (.slice .no sz [])
  | _ => none
theorem empty_gen {f : FuncId} {T : TypeId} {sz : Nat} (hnil : ∀ (n c : Nat) (w : World), Calls Tryz.prog f #[.slice none n c] w fun e w' => e = .returned (.slice none 0 0) ∧ w' = w)
    (hrow : ∀ (b off c : Nat) (w : World), Calls Tryz.prog f #[.slice (some ⟨b, off, none⟩) 0 c] w fun e w' => ∃ v', e = .returned v' ∧ w'.ownsRow w.heap.size T sz v' 0 [] ∧ v' ≠ .slice none 0 0 ∧ Below w.heap.size w w')
    {xs : List V} {v : V} (h : emptyK xs = some v) (σ : St) : OkAt Tryz.prog f xs σ v σ := by
  intro μ lim w args hw _ hx
  unfold emptyK at h
  split at h
  case h_2 => cases h
  rename_i o s
  cases h
  obtain ⟨X, rfl, hX⟩ := args1 hx
  unfold RelV at hX
  obtain ⟨base, cap, rfl, _, _, hbase⟩ := hX
  cases base with
  | none =>
    refine (hnil _ _ w).mono ?_
    rintro e w' ⟨rfl, rfl⟩
    refine ⟨_, μ, lim, rfl, Chg.refl hw, ?_⟩
    unfold RelV
    exact ⟨none, 0, rfl, ⟨Nat.le_refl _, by simp⟩, by decide, rfl⟩
  | some ad =>
    obtain ⟨hsp, _⟩ := hbase
    have had : ad = ⟨ad.block, ad.off, none⟩ := by cases ad; simp at hsp; simp [hsp]
    rw [had]
    refine (hrow ad.block ad.off cap w).mono ?_
    rintro e w' ⟨v', rfl, ho, hne, hbel⟩
    rcases ho.2 with ⟨h1, _⟩ | ⟨g, cap', cur, h1, h2, h3, h4, h5, h6, h7⟩
    · exact absurd h1 hne
    · subst h1
      refine ⟨_, μ, lim, rfl, (chg_below (lim' := lim) hw hbel (fun _ _ => rfl) (fun b hb => hw.fresh b (by have := hbel.size; omega))).1, ?_⟩
      unfold RelV
      exact ⟨_, cap', rfl, ⟨Nat.zero_le _, by simp⟩, cap_lt h5, rfl, by unfold RelLL; trivial⟩
end Go.AbN

namespace Go.Proofs.YtgdekehgaelefaaGreatDoor
open Go.RowKit Go.Extern.Stop Go.Stop Go.Extern

set_option maxRecDepth 100000 in
set_option maxHeartbeats 4000000 in
/-- copyCheck at a builder that was used. -/
theorem copyCheck_used (b : Nat) (w : World) (h0 : w.cell? ⟨b, 0, none⟩ = some (.pointer (some ⟨b, 0, none⟩))) :
    Calls Tryz.prog 192 #[.pointer (some ⟨b, 0, none⟩)] w fun e w' => e = .returned (.tuple #[]) ∧ w' = w := by
  obtain ⟨j, hj, _⟩ := Option.map_eq_some_iff.1 (show (Tryz.prog.info? 231).map (·.size) = some 2 by kernel_rfl)
  go_enter Tryz.func192, Tryz.ntmps192
  go_wp2
  rw [Go.Lib.run_neq_ptr_same w _ Tryz.underlying229 hj]
  go_wp2
  go_end0
  exact ⟨rfl, rfl⟩

set_option maxRecDepth 100000 in
set_option maxHeartbeats 4000000 in
/-- copyCheck at a fresh builder: it stores its own address. -/
theorem copyCheck_fresh (b T n : Nat) (w : World) (h0 : w.cell? ⟨b, 0, none⟩ = some (.pointer none)) (hsh : w.shape? b = some (T, n)) (hn : 0 < n) (hl : liesAt Tryz.prog Tryz.prog.depth T (n / Tryz.prog.cellsOf T) 0 231 1 = true) (hfz : w.frozen? ⟨b, 0, none⟩ = false) :
    Calls Tryz.prog 192 #[.pointer (some ⟨b, 0, none⟩)] w fun e w' => e = .returned (.tuple #[]) ∧ w' = w.setCell ⟨b, 0, none⟩ (.pointer (some ⟨b, 0, none⟩)) := by
  obtain ⟨j, hj, hjs⟩ := Option.map_eq_some_iff.1 (show (Tryz.prog.info? 231).map (·.size) = some 2 by kernel_rfl)
  go_enter Tryz.func192, Tryz.ntmps192
  go_wp2
  rw [Go.Lib.run_to_unsafe w ⟨b, 0, none⟩ Tryz.underlying229 Tryz.underlying334 hj (by rw [hjs]; decide) hsh hn]
  simp only [Result.andThen]
  rw [Oper.upon_value]
  go_wp2
  rw [run_callFunc_extern Tryz.func219 (by kernel_rfl) (by kernel_rfl) (by kernel_rfl) (e := Extern.AbiNoEscape.same) (by kernel_rfl)]
  rw [Go.Lib.run_noEscape]
  simp only [Result.andThen]
  rw [Oper.upon_value]
  go_wp2
  rw [Go.Lib.run_from_unsafe w ⟨b, 0, none⟩ Tryz.underlying334 Tryz.underlying229 hj hsh hl]
  simp only [Result.andThen]
  rw [Oper.upon_value]
  go_wp2
  go_end0
  exact ⟨rfl, rfl⟩
end Go.Proofs.YtgdekehgaelefaaGreatDoor
namespace Go.AbN
open Go Go.Ab Go.Proofs Go.Proofs.YtgdekehgaelefaaGreatDoor Go.RowKit

/-! ## copyCheck -/

def holder (t n : Nat) : Bool := (t == 231 && n == 2) || (t == 235 && n == 3)
theorem holder_lies {t n : Nat} (h : holder t n = true) : liesAt Tryz.prog Tryz.prog.depth t (n / Tryz.prog.cellsOf t) 0 231 1 = true ∧ 0 < n := by
  have h' : (t = 231 ∧ n = 2) ∨ (t = 235 ∧ n = 3) := by
    simpa [holder] using h
  rcases h' with ⟨h1, h2⟩ | ⟨h1, h2⟩
  · refine ⟨?_, by omega⟩
    subst h1
    subst h2
    kernel_rfl
  · refine ⟨?_, by omega⟩
    subst h1
    subst h2
    kernel_rfl

def checkK (xs : List V) (σ : St) : Option (V × St) := match xs with
  | [.ptr id 0] => match σ.objs[id]? with
    | some (.var t cs) => match cs with
      | .sc (.pointer none) :: rest => if σ.base ≤ id ∧ holder t cs.length = true then some (.tup [], σ.set id (.var t (.ptr id 0 :: rest))) else none
      | .ptr id' 0 :: _ => if id' = id then some (.tup [], σ) else none
      | _ => none
    | _ => none
  | _ => none

theorem tup_nil {μ : List Nat} {lim : Nat → Nat} {w : World} : RelV μ lim w (.tup []) (.tuple #[]) := by
  unfold RelV; refine ⟨_, rfl, ?_⟩; unfold RelVs; trivial

theorem check_ok {xs : List V} {σ σ' : St} {v : V} (h : checkK xs σ = some (v, σ')) : OkAt Tryz.prog 192 xs σ v σ' := by
  intro μ lim w args hw _ hx
  unfold checkK at h
  split at h
  case h_2 => cases h
  rename_i id
  split at h
  case h_2 => cases h
  rename_i t cs ho
  obtain ⟨X, rfl, hX⟩ := args1 hx
  unfold RelV at hX
  obtain ⟨b, hb, rfl⟩ := hX
  obtain ⟨o1, c, hh, hlen, hcells⟩ := hw.obj id b _ ho hb
  split at h
  · rename_i rest
    split at h
    case isFalse => cases h
    rename_i hc
    cases h
    obtain ⟨hl, hn⟩ := holder_lies hc.2
    obtain ⟨x, hx0, hr0, _⟩ := hcells 0 _ rfl
    rw [relSc hr0] at hx0
    have hfz : w.frozen? ⟨b, 0, none⟩ = false := by simp [World.frozen?, hh]
    refine (copyCheck_fresh b t c.size w hx0 (by simp [World.shape?, hh]) (by omega) (by rw [← hlen]; exact hl) hfz).mono ?_
    rintro e w' ⟨rfl, rfl⟩
    have hal : alive σ id := ⟨_, ho, by simp⟩
    obtain ⟨⟨c2, k1, k2, k3⟩, k4, k5, k6, k7, k8⟩ := setCells_heap b [.pointer (some ⟨b, 0, none⟩)] 0 w c t (0, 0) hh (by simp; omega)
    have hset : w.setCells b 0 [.pointer (some ⟨b, 0, none⟩)] = w.setCell ⟨b, 0, none⟩ (.pointer (some ⟨b, 0, none⟩)) := rfl
    rw [hset] at k1 k4 k5 k6 k7 k8
    obtain ⟨g1, g2⟩ := chg_set hw hc.1 hal hb k6 k7 k8 k5 k4 (by unfold bsize; rw [k1, hh]; simp [k2]) (.var t (.ptr id 0 :: rest)) (fun hext => by
      refine ⟨o1, c2, k1, by rw [k2]; simpa using hlen, fun k v hv => ?_⟩
      have hck := k3 k
      cases k with
      | zero =>
        simp at hv
        subst hv
        refine ⟨.pointer (some ⟨b, 0, none⟩), ?_, ?_, rfl⟩
        · simp [World.cell?, k1, hck]
        · unfold RelV; exact ⟨b, hb, rfl⟩
      | succ k =>
        obtain ⟨y, hy, hry, hyo⟩ := hcells (k + 1) v (by simpa using hv)
        refine ⟨y, ?_, hry.ext hext, hyo⟩
        rw [if_neg (by simp)] at hck
        simp only [World.cell?, hh] at hy
        simp only [World.cell?, k1, hck]
        exact hy)
    exact ⟨_, μ, lim, rfl, g1, tup_nil⟩
  · rename_i id' rest
    split at h
    case isFalse => cases h
    rename_i hc
    subst hc
    cases h
    obtain ⟨x, hx0, hr0, _⟩ := hcells 0 _ rfl
    unfold RelV at hr0
    obtain ⟨b', hb', rfl⟩ := hr0
    rw [hb] at hb'
    cases hb'
    refine (copyCheck_used b w hx0).mono ?_
    rintro e w' ⟨rfl, rfl⟩
    exact ⟨_, μ, lim, rfl, Chg.refl hw, tup_nil⟩
  · cases h

end Go.AbN

namespace Go.Proofs.YtgdekehgaelefaaGreatDoor
open Go.RowKit Go.Lib

section
variable {P : Program}

/-- A row that is copied, whatever its elements' size. -/
theorem run_copy_any (w : World) (dT sT ty elem : TypeId) (b o dLen dCap : Nat) (a : Addr) (sLen sCap sz : Nat) (cs : List Value)
    (hu : P.underlying dT = some (.slice elem)) (hs : (P.info? elem).map (·.size) = some sz) (hn : cs.length = Nat.min sLen dLen * sz)
    (hsrc : ∀ j v, cs[j]? = some v → w.cell? (a.add j) = some v) (hc : ∀ j, j < cs.length → (w.cell? ⟨b, o + j, none⟩).isSome = true) (hf : ∀ j, j < cs.length → w.frozen? ⟨b, o + j, none⟩ = false) (h1 : ∀ v ∈ cs, v.oneCell' = true) :
    (Builtin.copy_ #[dT, sT] ty #[.slice (some ⟨b, o, none⟩) dLen dCap, .slice (some a) sLen sCap]).run P w = .ok (goInt (Nat.min sLen dLen)) (w.setCells b o cs) := by
  have hl := run_loadCells_list (P := P) w a cs hsrc
  have hst := run_storeCells_cells (P := P) b o cs 0 w (by simpa using hc) (by simpa using hf) h1
  cases hq : P.info? elem with
  | none => simp [hq] at hs
  | some i =>
    have hi : i.size = sz := by simpa [hq] using hs
    simp [Builtin.copy_, run_underlying hu, Builtin.lenOf, Builtin.firstCells, sizeOf, typeInfo, hq, hi, ← hn, hl, hst]

/-- Two rows in two blocks, of which the second is not a text's: they don't overlap. -/
theorem run_overlaps_two (w : World) (tS tR e : TypeId) (ht : P.underlying tS = some (.slice e)) (size : Nat) (hz : ∀ w, (Go.sizeOf e).run P w = .ok size w)
    (a b : Addr) (la ca lb cb : Nat) (hne : a.block ≠ b.block) (tA tB : TypeId) (kA kB : Nat)
    (hsa : w.shape? a.block = some (tA, kA)) (hsb : w.shape? b.block = some (tB, kB)) (hkA : kA ≠ 0) (hkB : kB ≠ 0)
    (hfb : w.frozen? b = false) (hfe : w.frozen? { block := b.block, off := kB } = false) :
    (Extern.SlicesOverlaps.overlaps #[tS, tS] #[tR] #[.slice (some a) la ca, .slice (some b) lb cb]).run P w = .ok (.bool false) w := by
  have hnb : (a.block != b.block) = true := by simpa using hne
  have hnb' : (a.block == b.block) = false := by simpa using hne
  change Sem.run P (α := Value) (do
    let some t := (#[tS, tS] : Array TypeId)[0]? | stuck "slices.overlaps: no parameter types"
    let .slice elem ← underlying t | stuck "slices.overlaps: slice type expected"
    let size ← sizeOf elem
    match (some a : Option Addr), (some b : Option Addr) with
    | some a, some b =>
      if la = 0 ∨ lb = 0 ∨ size = 0 then pure (Value.bool false)
      else if a.block != b.block && (← frozen a) && (← frozen b) then unsupported .addressObserved
      else do
        if a.block != b.block then do
          noView a; noView b
          if ← mayBeOne a b then return Value.bool ((← choose (.extern "sameAddr.stringBytes" 2)) == 1)
        pure (Value.bool (a.block == b.block && a.off < b.off + lb * size && b.off < a.off + la * size))
    | _, _ => pure (Value.bool false)) w = _
  by_cases h0 : la = 0 ∨ lb = 0 ∨ size = 0
  · simp [run_underlying ht, hz, h0]
  · cases kB with
    | zero => exact absurd rfl hkB
    | succ kB =>
      cases kA with
      | zero => exact absurd rfl hkA
      | succ kA =>
      cases hfa : w.frozen? a <;> cases hfc : w.frozen? { block := a.block, off := kA + 1 } <;>
        simp [run_underlying ht, hz, h0, hnb, hnb', frozen, noView, viewAt, mayBeOne, stringish, shape, Sem.run, hsa, hsb, hfa, hfb, hfc, hfe]

theorem wp_copy_runI (w : World) {o : Oper} {a : Act} {K : Act → World → Prop} {Q : Exit → Act → World → Prop} (d s : Operand) (t t' : TypeId)
    (ho : o.op = .call { callee := .builtin .copy, args := #[d, s], argTypes := #[t, t'] }) (v u : Value) (hd : a.eval d = v) (hs : a.eval s = u) {v' : Value} {w' : World}
    (hr : (Builtin.copy_ #[t, t'] o.type #[v, u]).run P w = .ok v' w') (h : K (a.put o.dst v') w') : o.wp P a w K Q := by
  unfold Oper.wp execOp
  simp only [ho, resolve, invoke, builtin, Sem.run_bind, Sem.run_pure, Result.andThen_ok, List.map_toArray, List.map_cons, List.map_nil, hd, hs, hr]
  exact h
theorem wpList_copy_runI (w : World) {ops : Array Oper} {rest : List Oper} {o : Oper} {a : Act} {Q : Exit → Act → World → Prop} (hgd : o.guard = none) (d s : Operand) (t t' : TypeId)
    (ho : o.op = .call { callee := .builtin .copy, args := #[d, s], argTypes := #[t, t'] }) (v u : Value) (hd : a.eval d = v) (hs : a.eval s = u) {v' : Value} {w' : World}
    (hr : (Builtin.copy_ #[t, t'] o.type #[v, u]).run P w = .ok v' w') (h : wpList P ops Q rest (a.put o.dst v') w') : wpList P ops Q (o :: rest) a w :=
  wpList_plain hgd fun _ hK => wp_copy_runI w d s t t' ho v u hd hs hr (hK _ _ h)
theorem step_copy_runI {ops : Array Oper} {o : Oper} {a : Act} {w : World} {K : Act → World → Prop} {Q : Exit → Act → World → Prop} {E : Prop}
    (hg : o.guard = none) (d x : Operand) (dT sT : TypeId) (hop : o.op = Op.call { callee := Callee.builtin Builtin.copy, args := #[d, x], argTypes := #[dT, sT] })
    (v u : Value) (hd : a.eval d = v) (hx : a.eval x = u) {v' : Value} {w' : World} (hr : (Builtin.copy_ #[dT, sT] o.type #[v, u]).run P w = .ok v' w') (hK : K (a.put o.dst v') w') :
    if Region.wanted o (yielded ops a.tmps) = true then Oper.wp P o a w K Q else E := by
  have hw : Region.wanted o (yielded ops a.tmps) = true := by simp [Region.wanted, hg]
  rw [if_pos hw]
  unfold Oper.wp
  simp [execOp, hop, resolve, invoke, builtin, hd, hx, hr, Result.andThen]
  exact hK
theorem isSome_setCells (b : Nat) (vs : List Value) (o : Nat) (w : World) (h : ∀ j, j < vs.length → (w.cell? ⟨b, o + j, none⟩).isSome = true) (k : Nat) (hk : (w.cell? ⟨b, k, none⟩).isSome = true) : ((w.setCells b o vs).cell? ⟨b, k, none⟩).isSome = true := by
  by_cases hin : o ≤ k ∧ k < o + vs.length
  · have := World.cell?_setCells_in b vs o w h (k - o) (by omega)
    rw [show o + (k - o) = k by omega] at this
    rw [this]; rfl
  · rw [World.cell?_setCells_out b vs o w ⟨b, k, none⟩ (fun _ _ => by show k < o ∨ o + vs.length ≤ k; omega)]
    exact hk
end

theorem pair_info : (Tryz.prog.info? 149).map (fun i => (i.size, i.bytes, i.zero)) = some (2, 16, some (.agg #[.int .i64 0, .int .i64 0])) := by kernel_rfl

set_option maxHeartbeats 4000000 in
set_option maxRecDepth 100000 in
/-- There is room: in place. -/
theorem insert_shift (b off n c vb voff vc : Nat) (cs vs : List Value) (w : World) (hn0 : 0 < n) (hn1 : n < 1000) (hroom : n + 1 ≤ c) (hc63 : c ≤ 9223372036854775807) (hvb : vb ≠ b)
    (hcl : cs.length = n * 2) (hvl : vs.length = 2)
    (hcs : ∀ j v, cs[j]? = some v → w.cell? ⟨b, off + j, none⟩ = some v) (hsp : ∀ j, j < (n + 1) * 2 → (w.cell? ⟨b, off + j, none⟩).isSome = true) (hfz : ∀ j, w.frozen? ⟨b, j, none⟩ = false)
    (hvs : ∀ j v, vs[j]? = some v → w.cell? ⟨vb, voff + j, none⟩ = some v) (h1c : ∀ v ∈ cs, v.oneCell' = true) (h1v : ∀ v ∈ vs, v.oneCell' = true)
    (tA tB : TypeId) (kA kB : Nat) (hsa : w.shape? vb = some (tA, kA)) (hsb : w.shape? b = some (tB, kB)) (hkA : kA ≠ 0) (hkB : kB ≠ 0) :
    Calls Tryz.prog 101 #[.slice (some ⟨b, off, none⟩) n c, .int .i64 0, .slice (some ⟨vb, voff, none⟩) 1 vc] w fun e w' =>
      e = .returned (.slice (some ⟨b, off, none⟩) (n + 1) c) ∧ w' = (w.drew.setCells b (off + 2) cs).setCells b off vs := by
  obtain ⟨i0, hi0, he0⟩ := Option.map_eq_some_iff.1 pair_info
  simp only [Prod.mk.injEq] at he0
  obtain ⟨hzs, hzb, hz0⟩ := he0
  have hsz : (Tryz.prog.info? 149).map (·.size) = some 2 := by rw [hi0]; simp [hzs]
  have hz2 : ¬ ((0 : Int) = (n : Int)) := by omega
  have hov : ∀ lb cb, (callFunc 158 #[.slice (some ⟨vb, voff, none⟩) 1 vc, .slice (some ⟨b, off + 2, none⟩) lb cb]).run Tryz.prog w = .ok (.value (.bool false)) w := fun lb cb => by
    rw [run_callFunc_extern Tryz.func158 (by kernel_rfl) (by kernel_rfl) (by kernel_rfl) (e := Extern.SlicesOverlaps.overlaps #[145, 145] #[4]) (by kernel_rfl),
      run_overlaps_two w 145 4 149 Tryz.underlying145 2 (fun w => by simp [Go.sizeOf, typeInfo, hi0, hzs]) ⟨vb, voff, none⟩ ⟨b, off + 2, none⟩ 1 vc lb cb hvb tA tB kA kB hsa hsb hkA hkB (hfz _) (hfz _)]
    rfl
  have hw1 : IntKind.i64.wrap ((n : Int) + 1) = (n : Int) + 1 := by rw [IntKind.wrap_i64]; omega
  have hcp1 : ∀ ty dc sc, (Builtin.copy_ #[145, 145] ty #[.slice (some ⟨b, off + 2, none⟩) n dc, .slice (some ⟨b, off, none⟩) (n + 1) sc]).run Tryz.prog w.drew = .ok (goInt n) (w.drew.setCells b (off + 2) cs) := fun ty dc sc => by
    have := run_copy_any (P := Tryz.prog) w.drew 145 145 ty 149 b (off + 2) n dc ⟨b, off, none⟩ (n + 1) sc 2 cs Tryz.underlying145 hsz (by rw [hcl]; simp only [Nat.min_def]; split <;> omega)
      (fun j v hj => by rw [Addr.add_lit]; exact hcs j v hj)
      (fun j hj => by rw [Nat.add_assoc]; exact hsp _ (by omega)) (fun j hj => hfz _) h1c
    rw [this, show Nat.min (n + 1) n = n by simp only [Nat.min_def]; split <;> omega]
  obtain ⟨W1, hW1⟩ : ∃ W1, W1 = w.drew.setCells b (off + 2) cs := ⟨_, rfl⟩
  have hcp2 : ∀ (W : World), (∀ x, W.cell? x = W1.cell? x) → (∀ x, W.frozen? x = W1.frozen? x) → ∀ ty dc, (Builtin.copy_ #[145, 145] ty #[.slice (some ⟨b, off, none⟩) (n + 1) dc, .slice (some ⟨vb, voff, none⟩) 1 vc]).run Tryz.prog W = .ok (goInt 1) (W.setCells b off vs) := fun W hWc hWf ty dc => by
    have := run_copy_any (P := Tryz.prog) W 145 145 ty 149 b off (n + 1) dc ⟨vb, voff, none⟩ 1 vc 2 vs Tryz.underlying145 hsz (by rw [hvl]; simp only [Nat.min_def]; split <;> omega)
      (fun j v hj => by
        rw [Addr.add_lit, hWc, hW1, World.cell?_setCells_out b _ _ _ _ (fun h _ => absurd h hvb)]
        exact hvs j v hj)
      (fun j hj => by rw [hWc, hW1]; exact isSome_setCells b _ _ _ (fun j hj => by rw [Nat.add_assoc]; exact hsp _ (by omega)) _ (hsp j (by omega)))
      (fun j hj => by rw [hWf, hW1, World.frozen?_setCells]; exact hfz _) h1v
    rw [this, show Nat.min 1 (n + 1) = 1 by simp only [Nat.min_def]; split <;> omega]
    rfl
  rw [← hW1] at hcp1
  have mixed : Tryz.prog.follows .mixedOrders = true := by kernel_rfl
  have hw2 : IntKind.i64.wrap 1 = 1 := by decide
  have hb2 : ¬ (c = 1) := by omega
  have hb3 : (0 : Int) ≤ (n : Int) + 1 := by omega
  have hb4 : ¬ (c = 0) := by omega
  have hb5 : (1 : Int) ≤ (n : Int) + 1 := by omega
  go_enter Tryz.func101, Tryz.ntmps101
  go_wp2_with (simp only [hov])
  go_region_law_o (refine step_copy_runI rfl _ _ 145 145 rfl _ _ (by simp [Act.eval, Act.put]) (by simp [Act.eval, Act.put]) (hcp1 _ _ _) ?_)
  go_wp2_with (at_builtin; refine wpList_copy_runI _ rfl _ _ 145 145 rfl _ _ rfl rfl (hcp2 _ (fun _ => rfl) (fun _ => rfl) _ _) ?_)
  go_ret
  first | exact ⟨rfl, rfl⟩ | exact ⟨rfl, by rw [hW1]⟩

set_option maxHeartbeats 4000000 in
set_option maxRecDepth 100000 in
/-- There is no room: a new row. -/
theorem insert_grow (b off n c vb voff vc : Nat) (cs vs : List Value) (w : World) (hn0 : 0 < n) (hn1 : n < 1000) (hnc : n ≤ c) (hroom : c < n + 1)
    (hcl : cs.length = n * 2) (hvl : vs.length = 2)
    (hcs : ∀ j v, cs[j]? = some v → w.cell? ⟨b, off + j, none⟩ = some v)
    (hvs : ∀ j v, vs[j]? = some v → w.cell? ⟨vb, voff + j, none⟩ = some v) (h1c : ∀ v ∈ cs, v.oneCell' = true) (h1v : ∀ v ∈ vs, v.oneCell' = true) :
    Calls Tryz.prog 101 #[.slice (some ⟨b, off, none⟩) n c, .int .i64 0, .slice (some ⟨vb, voff, none⟩) 1 vc] w fun e w' =>
      e = .returned (.slice (some ⟨w.heap.size, 0, none⟩) (n + 1) (grownCap w (n + 1) c 149)) ∧
      w' = (((w.drew.alloc (.cells (Builtin.zeroCells #[.int .i64 0, .int .i64 0] (n + 1) ++ Builtin.zeroCells #[.int .i64 0, .int .i64 0] (grownCap w (n + 1) c 149 - (n + 1))) 149)).setCells w.heap.size 0 vs).drew).setCells w.heap.size 2 cs := by
  obtain ⟨i0, hi0, he0⟩ := Option.map_eq_some_iff.1 pair_info
  simp only [Prod.mk.injEq] at he0
  obtain ⟨hzs, hzb, hz0⟩ := he0
  have hsz : (Tryz.prog.info? 149).map (·.size) = some 2 := by rw [hi0]; simp [hzs]
  have hz2 : ¬ ((0 : Int) = (n : Int)) := by omega
  have hz3 : (c : Int) < (n : Int) + 1 := by omega
  have hbw : b < w.heap.size := block_lt_of_cell (hcs 0 _ (List.getElem?_eq_getElem (by omega)))
  have hvw : vb < w.heap.size := block_lt_of_cell (hvs 0 _ (List.getElem?_eq_getElem (by omega)))
  have hold : (Builtin.firstCells i0.size 0 (.slice (some ⟨b, off, none⟩) 0 c)).run Tryz.prog w.drew = .ok ([] : List Value).toArray w.drew := by
    rw [hzs]
    exact run_firstCells_some w.drew 2 0 ⟨b, off, none⟩ 0 c [] (by simp) (fun j v hj => by simp at hj)
  have hrz : ∀ ty, (Builtin.append_ #[145, 3] ty #[.slice (some ⟨b, off, none⟩) 0 c, .int .i64 ((n : Int) + 1)]).run Tryz.prog w =
      .ok (.slice (some ⟨w.heap.size, 0, none⟩) (n + 1) (grownCap w (n + 1) c 149)) (w.drew.alloc (.cells (Builtin.zeroCells #[.int .i64 0, .int .i64 0] (n + 1) ++ Builtin.zeroCells #[.int .i64 0, .int .i64 0] (grownCap w (n + 1) c 149 - (n + 1))) 149)) := fun ty => by
    have h := Lib.run_append_grow_zeros w 145 3 ty 149 i0 _ .i64 .i64 Tryz.underlying145 Tryz.underlying3 hi0 hz0 (some ⟨b, off, none⟩) 0 c [] hold (n + 1) (by omega) (by omega) (by omega) (by omega) (by rw [hzb]; omega) (by
      rw [hzb, Nat.zero_add]
      have := Go.nextslicecap_le hroom
      omega)
    simp only [Nat.zero_add, Value.cells] at h
    have hc : ((n + 1 : Nat) : Int) = (n : Int) + 1 := by omega
    rw [hc] at h
    rw [h]
    congr 4
    simp
  obtain ⟨G, hG⟩ : ∃ G, G = grownCap w (n + 1) c 149 := ⟨_, rfl⟩
  obtain ⟨ROW, hROW⟩ : ∃ ROW : Array Value, ROW = Builtin.zeroCells #[.int .i64 0, .int .i64 0] (n + 1) ++ Builtin.zeroCells #[.int .i64 0, .int .i64 0] (G - (n + 1)) := ⟨_, rfl⟩
  rw [← hG] at hrz ⊢
  rw [← hROW] at hrz ⊢
  have hRl : (n + 1) * 2 ≤ ROW.size := by
    rw [hROW]
    simp [Builtin.zeroCells]
  obtain ⟨W1, hW1⟩ : ∃ W1, W1 = w.drew.alloc (.cells ROW 149) := ⟨_, rfl⟩
  rw [← hW1] at hrz
  have hN : ∀ j, j < (n + 1) * 2 → (W1.cell? ⟨w.heap.size, j, none⟩).isSome = true := fun j hj => by
    rw [hW1, World.cell?_alloc_at (w := w.drew) ROW _ w.heap.size j rfl, Array.getElem?_eq_getElem (by omega)]; rfl
  have hNf : ∀ j, W1.frozen? ⟨w.heap.size, j, none⟩ = false := fun j => by rw [hW1]; exact World.frozen?_alloc_at (w := w.drew) ROW _ w.heap.size j rfl
  have hOb : ∀ j v, w.cell? ⟨b, j, none⟩ = some v → W1.cell? ⟨b, j, none⟩ = some v := fun j v h => by rw [hW1, World.cell?_alloc_past (w := w.drew) _ b j hbw]; exact h
  have hOv : ∀ j v, w.cell? ⟨vb, j, none⟩ = some v → W1.cell? ⟨vb, j, none⟩ = some v := fun j v h => by rw [hW1, World.cell?_alloc_past (w := w.drew) _ vb j hvw]; exact h
  have hcpA : ∀ (W : World), (∀ x, W.cell? x = W1.cell? x) → (∀ x, W.frozen? x = W1.frozen? x) → ∀ ty dc, (Builtin.copy_ #[145, 145] ty #[.slice (some ⟨w.heap.size, 0, none⟩) (n + 1) dc, .slice (some ⟨vb, voff, none⟩) 1 vc]).run Tryz.prog W = .ok (goInt 1) (W.setCells w.heap.size 0 vs) := fun W hWc hWf ty dc => by
    have := run_copy_any (P := Tryz.prog) W 145 145 ty 149 w.heap.size 0 (n + 1) dc ⟨vb, voff, none⟩ 1 vc 2 vs Tryz.underlying145 hsz (by rw [hvl]; simp only [Nat.min_def]; split <;> omega)
      (fun j v hj => by rw [Addr.add_lit, hWc]; exact hOv _ v (hvs j v hj))
      (fun j hj => by rw [hWc]; exact hN _ (by omega)) (fun j hj => by rw [hWf]; exact hNf _) h1v
    rw [this, show Nat.min 1 (n + 1) = 1 by simp only [Nat.min_def]; split <;> omega]
    rfl
  have hGn : n + 1 ≤ G := by rw [hG]; exact grownCap_ge w _ _ _
  have hG63 : G ≤ 9223372036854775807 := by
    have := grownCap_le_maxLen w (n + 1) c 149 (by unfold maxLen; omega)
    rw [← hG] at this
    unfold maxLen at this
    omega
  have hGi : ¬ (G = 0) := by omega
  have hGim : ¬ (G = 1) := by omega
  have hci : ¬ (c = 0) := by omega
  have hbN : b ≠ w.heap.size := by omega
  have hcpB : ∀ (W : World), (∀ x, W.cell? x = (W1.setCells w.heap.size 0 vs).cell? x) → (∀ x, W.frozen? x = (W1.setCells w.heap.size 0 vs).frozen? x) → ∀ ty dc sc, (Builtin.copy_ #[145, 145] ty #[.slice (some ⟨w.heap.size, 2, none⟩) n dc, .slice (some ⟨b, off, none⟩) n sc]).run Tryz.prog W = .ok (goInt n) (W.setCells w.heap.size 2 cs) := fun W hWc hWf ty dc sc => by
    have := run_copy_any (P := Tryz.prog) W 145 145 ty 149 w.heap.size 2 n dc ⟨b, off, none⟩ n sc 2 cs Tryz.underlying145 hsz (by rw [hcl]; simp only [Nat.min_def]; split <;> omega)
      (fun j v hj => by
        rw [Addr.add_lit, hWc, World.cell?_setCells_out _ _ _ _ _ (fun h _ => absurd h hbN)]
        exact hOb _ v (hcs j v hj))
      (fun j hj => by rw [hWc]; exact isSome_setCells _ _ _ _ (fun t ht => hN _ (by omega)) _ (hN _ (by omega)))
      (fun j hj => by rw [hWf, World.frozen?_setCells]; exact hNf _) h1c
    rw [this, show Nat.min n n = n by simp]
  subst hW1
  have hE1 : ∀ x, ((w.alloc (.cells ROW 149)).drew).cell? x = (w.drew.alloc (.cells ROW 149)).cell? x := fun x => rfl
  have hE2 : ∀ x, ((w.alloc (.cells ROW 149)).drew).frozen? x = (w.drew.alloc (.cells ROW 149)).frozen? x := fun x => rfl
  have hF1 : ∀ x, (((w.alloc (.cells ROW 149)).drew.setCells w.heap.size 0 vs).drew).cell? x = ((w.drew.alloc (.cells ROW 149)).setCells w.heap.size 0 vs).cell? x := fun x => rfl
  have hF2 : ∀ x, (((w.alloc (.cells ROW 149)).drew.setCells w.heap.size 0 vs).drew).frozen? x = ((w.drew.alloc (.cells ROW 149)).setCells w.heap.size 0 vs).frozen? x := fun x => rfl
  have hw1 : IntKind.i64.wrap ((n : Int) + 1) = (n : Int) + 1 := by rw [IntKind.wrap_i64]; omega
  have hw2 : IntKind.i64.wrap 1 = 1 := by decide
  have hb3 : (0 : Int) ≤ (n : Int) + 1 := by omega
  have hb5 : (1 : Int) ≤ (n : Int) + 1 := by omega
  have mixed : Tryz.prog.follows .mixedOrders = true := by kernel_rfl
  clear hold hROW hG hRl
  go_enter Tryz.func101, Tryz.ntmps101
  go_wp2_with (first
    | (at_builtin; refine Lib.wpList_append_run _ rfl _ _ _ _ rfl _ _ rfl rfl _ _ (hrz _) ?_)
    | (at_builtin; refine wpList_copy_runI _ rfl _ _ 145 145 rfl _ _ rfl rfl (hcpA _ hE1 hE2 _ _) ?_)
    | (at_builtin; refine wpList_copy_runI _ rfl _ _ 145 145 rfl _ _ rfl rfl (hcpB _ (fun _ => rfl) (fun _ => rfl) _ _ _) ?_))
  go_region_law_o (refine step_copy_runI rfl _ _ 145 145 rfl (.slice (some ⟨w.heap.size, 2, none⟩) n (G - 1)) (.slice (some ⟨b, off, none⟩) n c) (by simp [Act.eval, Act.put]) (by simp [Act.eval, Act.put]) (hcpB _ hF1 hF2 3 (G - 1) c) ?_)
  go_wp2
  go_ret
  exact ⟨rfl, rfl⟩

set_option maxHeartbeats 4000000 in
set_option maxRecDepth 100000 in
/-- Into nothing: a new row. -/
theorem insert_end (base : Option Addr) (vb voff vc : Nat) (vs : List Value) (w : World) (nc : Nat) (rest : Array Value)
    (hrun : ∀ ty, (Builtin.append_ #[145, 145] ty #[.slice base 0 0, .slice (some ⟨vb, voff, none⟩) 1 vc]).run Tryz.prog w = .ok (.slice (some ⟨w.heap.size, 0, none⟩) 1 nc) (Go.Ab.addObj w.drew (.cells (vs.toArray ++ rest) 149 (0, 0)))) :
    Calls Tryz.prog 101 #[.slice base 0 0, .int .i64 0, .slice (some ⟨vb, voff, none⟩) 1 vc] w fun e w' =>
      e = .returned (.slice (some ⟨w.heap.size, 0, none⟩) 1 nc) ∧ w' = Go.Ab.addObj w.drew (.cells (vs.toArray ++ rest) 149 (0, 0)) := by
  have mixed : Tryz.prog.follows .mixedOrders = true := by kernel_rfl
  cases base with
  | none =>
    go_enter Tryz.func101, Tryz.ntmps101
    go_wp2_with (at_builtin; refine Lib.wpList_append_run _ rfl _ _ _ _ rfl _ _ rfl rfl _ _ (hrun _) ?_)
    go_ret
    exact ⟨rfl, rfl⟩
  | some ad =>
    go_enter Tryz.func101, Tryz.ntmps101
    go_wp2_with (at_builtin; refine Lib.wpList_append_run _ rfl _ _ _ _ rfl _ _ rfl rfl _ _ (hrun _) ?_)
    go_ret
    exact ⟨rfl, rfl⟩
end Go.Proofs.YtgdekehgaelefaaGreatDoor

namespace Go.AbN
open Go Go.Ab Go.Proofs Go.Proofs.YtgdekehgaelefaaGreatDoor Go.RowKit

def insertK (xs : List V) (σ : St) : Option (V × St) := match xs with
  | [.slice o 2 [], .sc (.int .i64 0), .slice _ 2 [p]] => if o = .shut ∧ p.length = 2 then some (.arr σ.objs.length 0 1 2, σ.push (.cells p)) else none
  | [.arr id 0 n 2, .sc (.int .i64 0), .slice _ 2 [p]] => if σ.base ≤ id then match σ.get id with
      | some cs => if n * 2 ≤ cs.length ∧ p.length = 2 ∧ 0 < n ∧ n < 1000 then some (.arr σ.objs.length 0 (n + 1) 2, (σ.set id .dead).push (.cells (p ++ cs.take (n * 2)))) else none
      | none => none
    else none
  | _ => none

section
variable {μ : List Nat} {lim : Nat → Nat} {w : World} {σ : St}

theorem args3 {v u t : V} {args : Array Value} (h : RelVs μ lim w [v, u, t] args.toList) : ∃ X Y Z, args = #[X, Y, Z] ∧ RelV μ lim w v X ∧ RelV μ lim w u Y ∧ RelV μ lim w t Z := by
  cases args with | mk l =>
  match l, h with
  | [X, Y, Z], h => unfold RelVs at h; have h2 := h.2; unfold RelVs at h2; have h3 := h2.2; unfold RelVs at h3; exact ⟨X, Y, Z, rfl, h.1, h2.1, h3.1⟩
  | [], h => unfold RelVs at h; exact h.elim
  | [_], h => unfold RelVs at h; have := h.2; unfold RelVs at this; exact this.elim
  | [_, _], h => unfold RelVs at h; have := h.2; unfold RelVs at this; have := this.2; unfold RelVs at this; exact this.elim
  | _ :: _ :: _ :: _ :: _, h => unfold RelVs at h; have := h.2; unfold RelVs at this; have := this.2; unfold RelVs at this; have := this.2; unfold RelVs at this; exact this.elim

/-- A row of one pair, as a call takes it. -/
theorem one_pair {o : Own} {p : List V} {X : Value} (hp : p.length = 2) (h : RelV μ lim w (.slice o 2 [p]) X) : ∃ vb voff vc vs, X = .slice (some ⟨vb, voff, none⟩) 1 vc ∧ vs.length = 2 ∧ 0 < lim vb ∧
    (∀ (j : Nat) (v : Value), vs[j]? = some v → w.cell? ⟨vb, voff + j, none⟩ = some v) ∧ RelVs μ lim w p vs ∧ ∀ v ∈ vs, v.oneCell = true := by
  unfold RelV at h
  obtain ⟨base, cap, rfl, ⟨h1, _⟩, h2, h3⟩ := h
  cases base with
  | none => simp only at h3; simp at h1; omega
  | some a =>
    obtain ⟨h4, h5⟩ := h3
    obtain ⟨_, h6⟩ := h5.get (i := 0) (cs := p) (by simp)
    simp only [Nat.zero_mul, Nat.add_zero] at h6
    obtain ⟨vs, k1, k2, k3, k4⟩ := cells_of_relL (fun k v hv => (h6.get hv).2)
    have ha : a = ⟨a.block, a.off, none⟩ := by cases a; simp at h4; simp [h4]
    have h7 := h6.get (k := 0) (v := p[0]) (List.getElem?_eq_getElem (by omega))
    exact ⟨a.block, a.off, cap, vs, by rw [← ha]; rfl, by omega, by have := h7.1; omega, k2, k3, k4⟩

theorem shape_of {b k : Nat} {v : Value} (h : w.cell? ⟨b, k, none⟩ = some v) : ∃ t n, w.shape? b = some (t, n) ∧ n ≠ 0 := by
  unfold World.cell? at h
  split at h
  · rename_i c t fr hb
    refine ⟨t, c.size, by simp only [World.shape?]; simp at hb; rw [hb], ?_⟩
    have := (Array.getElem?_eq_some_iff.1 h).1
    omega
  · cases h

theorem world_is {w' : World} {o : Go.Obj} (hh : w'.heap = w.heap.push o) (h1 : w'.os = w.os) (h2 : w'.tape = w.tape) (h3 : w'.output = w.output) : w' = addObj { w with drawn := w'.drawn } o := by
  cases w'
  cases w
  simp_all [addObj]

theorem insert_ok {xs : List V} {σ' : St} {v : V} (h : insertK xs σ = some (v, σ')) : OkAt Tryz.prog 101 xs σ v σ' := by
  intro μ lim w args hw hb hx
  obtain ⟨i0, hi0, he0⟩ := Option.map_eq_some_iff.1 pair_info
  have he : elemOK Tryz.prog 149 2 = true := by kernel_rfl
  have hT : sliceElem Tryz.prog 145 = some 149 := by kernel_rfl
  have hR : rowType Tryz.prog 145 = true := by kernel_rfl
  have hdr : Chg μ lim w σ μ lim w.drew σ := chg_heap hw rfl rfl rfl rfl
  unfold insertK at h
  split at h
  · rename_i o o2 p
    split at h
    case isFalse => cases h
    rename_i hc
    obtain ⟨rfl, hp⟩ := hc
    cases h
    obtain ⟨X, Y, Z, rfl, hX, hY, hZ⟩ := args3 hx
    obtain ⟨vb, voff, vc, vs, rfl, v1, v2, v3, v4, v5⟩ := one_pair hp hZ
    rw [relSc hY]
    unfold RelV at hX
    obtain ⟨base, cap, rfl, ⟨_, hsh⟩, hcap, hbase⟩ := hX
    have hc0 := hsh rfl
    simp only [List.length_nil] at hc0
    subst hc0
    have hold : ∀ w', w'.heap = w.heap → (Builtin.firstCells 2 0 (.slice base 0 0)).run Tryz.prog w' = .ok ([] : List Value).toArray w' := by
      intro w' _
      cases base with
      | none => simp [Builtin.firstCells]
      | some ad => simp [Builtin.firstCells, loadCells, loadCellsFrom]
    have hnew : ∀ w', w'.heap = w.heap → (Builtin.firstCells 2 1 (.slice (some ⟨vb, voff, none⟩) 1 vc)).run Tryz.prog w' = .ok vs.toArray w' := fun w' hh =>
      run_firstCells_some w' 2 1 _ 1 vc vs (by omega) fun j v hv => by
        rw [add_at, cell_congr (w := w) (by rw [hh])]
        exact v3 j v hv
    obtain ⟨nc, rest, m1, m2, m3, m4⟩ := run_append_new (P := Tryz.prog) (w := w) (m := 1) 145 hT he hR (fun w' => by simp [Builtin.lenOf]) hold hnew (by omega) (by decide)
    have m4' : ∀ ty, (Builtin.append_ #[145, 145] ty #[.slice base 0 0, .slice (some ⟨vb, voff, none⟩) 1 vc]).run Tryz.prog w = .ok (.slice (some ⟨w.heap.size, 0, none⟩) 1 nc) (addObj w.drew (.cells (vs.toArray ++ rest) 149 (0, 0))) := fun ty => by
      rw [show Builtin.append_ #[145, 145] ty = Builtin.append_ #[145, 145] 145 from rfl]
      simpa using m4
    refine (insert_end base vb voff vc vs w nc rest m4').mono ?_
    rintro e w' ⟨rfl, rfl⟩
    obtain ⟨g1, g2, g3⟩ := push_prefix (w := w.drew) hdr.wrel hb 149 (RelVs.ext (ext_heap (w := w) (w' := w.drew) rfl) _ _ v4) v5 rest
    refine ⟨_, _, lim, rfl, hdr.trans g1, ?_⟩
    unfold RelV
    refine ⟨w.heap.size, nc, g2, by simpa using m1, m2, rfl, ?_⟩
    rw [show w.heap.size = w.drew.heap.size from rfl, g3, m3, v1]
    omega
  · rename_i id n o2 p
    split at h
    case isFalse => cases h
    rename_i hbase
    split at h
    case h_2 => cases h
    rename_i cs hcs
    split at h
    case isFalse => cases h
    rename_i hc
    obtain ⟨hcl, hp, hn0, hn1⟩ := hc
    cases h
    obtain ⟨X, Y, Z, rfl, hX, hY, hZ⟩ := args3 hx
    obtain ⟨vb, voff, vc, vs, rfl, v1, v2, v3, v4, v5⟩ := one_pair hp hZ
    rw [relSc hY]
    unfold RelV at hX
    obtain ⟨b, cap, hm, hle, hcap, rfl, hbs⟩ := hX
    have hget := get_spec hcs
    have hal : alive σ id := ⟨_, hget, by simp⟩
    obtain ⟨o1, o2', o3, o4⟩ := hw.obj id b _ hget hm
    obtain ⟨old, k1, k2, k3, k4⟩ := cells_of_relL (b := b) (o := 0) (cs := cs.take (n * 2)) (μ := μ) (lim := lim) (w := w) (fun k v hv => by
      rw [List.getElem?_take] at hv
      split at hv
      · rw [Nat.zero_add]; exact o4 k v hv
      · cases hv)
    have holdl : old.length = n * 2 := by rw [k1, List.length_take]; omega
    have hvb : vb ≠ b := by intro hh; rw [hh, o1] at v2; omega
    have hrel : RelVs μ lim w (p ++ cs.take (n * 2)) (vs ++ old) := RelVs.append v4 k3
    have h1 : ∀ v ∈ vs ++ old, v.oneCell = true := by intro v hv; rcases List.mem_append.1 hv with hv | hv; exact v5 v hv; exact k4 v hv
    have hlen : (p ++ cs.take (n * 2)).length = (n + 1) * 2 := by rw [List.length_append, hp, List.length_take]; omega
    obtain ⟨c, cty, fr, hh⟩ : ∃ c cty fr, w.heap[b]? = some (.cells c cty fr) := by
      unfold bsize at hbs
      split at hbs
      · exact ⟨_, _, _, by assumption⟩
      · omega
    have hbc : bsize w b = c.size := by unfold bsize; rw [hh]
    by_cases hfit : n + 1 ≤ cap
    · obtain ⟨tA, kA, hsa, hkA⟩ := shape_of (v3 0 vs[0] (List.getElem?_eq_getElem (by omega)))
      refine (insert_shift b 0 n cap vb voff vc old vs w hn0 hn1 hfit (by omega) hvb holdl v1 k2 (fun j hj => by
        obtain ⟨cc, hcc⟩ := cell_of_lt (w := w) (b := b) (o := 0 + j) (by omega); rw [hcc]; rfl) o3 v3 (oneCells' k4) (oneCells' v5) tA cty kA c.size hsa (by simp [World.shape?, hh]) hkA (by omega)).mono ?_
      rintro e w' ⟨rfl, rfl⟩
      obtain ⟨⟨c2, q1, q2, q3⟩, q4, q5, q6, q7, q8⟩ := setCells_heap b old (0 + 2) w.drew c cty fr hh (by omega)
      obtain ⟨⟨c3, r1, r2, r3⟩, r4, r5, r6, r7, r8⟩ := setCells_heap b vs 0 (w.drew.setCells b (0 + 2) old) c2 cty fr q1 (by omega)
      have hcell : ∀ k, k < (n + 1) * 2 → c3[k]? = (vs ++ old)[k]? := fun k hk => by
        rw [r3, q3]
        by_cases hk2 : k < 2
        · rw [if_pos (by omega), List.getElem?_append_left (by omega)]; rfl
        · rw [if_neg (by omega), if_pos (by omega), List.getElem?_append_right (by omega), v1]
      obtain ⟨g1, g2⟩ := chg_renew hw hb hbase hal hm (w' := (w.drew.setCells b (0 + 2) old).setCells b 0 vs) (r6.trans q6) (r7.trans q7) (r8.trans q8) (r5.trans q5) (fun d hd => (r4 d hd).trans (q4 d hd)) (by unfold bsize; rw [r1, hh]; simp only; omega) (.cells (p ++ cs.take (n * 2))) (fun hext => by
        refine ⟨o1, by unfold bsize; rw [r1, hlen]; simp only; omega, fun k => ?_, ?_⟩
        · have := o3 k
          simp [World.frozen?, hh] at this
          simp [World.frozen?, r1]
          exact this
        · intro k v hv
          have hkl : k < (n + 1) * 2 := by rw [← hlen]; exact (List.getElem?_eq_some_iff.1 hv).1
          obtain ⟨y, hy, hry⟩ := hrel.get hv
          refine ⟨y, ?_, hry.ext hext, h1 y (List.mem_of_getElem? hy)⟩
          simp only [World.cell?, r1]
          rw [hcell k hkl]
          exact hy)
      refine ⟨_, _, lim, rfl, g1, ?_⟩
      unfold RelV
      refine ⟨b, cap, by rw [← hw.len]; simp, hfit, hcap, rfl, ?_⟩
      unfold bsize
      rw [r1]
      simp only
      omega
    · refine (insert_grow b 0 n cap vb voff vc old vs w hn0 hn1 hle (by omega) holdl v1 k2 v3 (oneCells' k4) (oneCells' v5)).mono ?_
      have hG : n + 1 ≤ grownCap w (n + 1) cap 149 := grownCap_ge w _ _ _
      have hG63 : grownCap w (n + 1) cap 149 < 2 ^ 63 := by
        have := grownCap_le_maxLen w (n + 1) cap 149 (by unfold maxLen; omega)
        unfold maxLen at this
        omega
      generalize grownCap w (n + 1) cap 149 = G at hG hG63
      obtain ⟨ROW, hROW⟩ : ∃ ROW : Array Value, ROW = Builtin.zeroCells #[.int .i64 0, .int .i64 0] (n + 1) ++ Builtin.zeroCells #[.int .i64 0, .int .i64 0] (G - (n + 1)) := ⟨_, rfl⟩
      have hRs : ROW.size = G * 2 := by rw [hROW]; simp [Builtin.zeroCells]; omega
      rw [← hROW]
      rintro e w' ⟨rfl, rfl⟩
      have hA : (w.drew.alloc (.cells ROW 149)).heap = w.heap.push (.cells ROW 149 (0, 0)) := rfl
      have hA0 : (w.drew.alloc (.cells ROW 149)).heap[w.heap.size]? = some (.cells ROW 149 (0, 0)) := by rw [hA]; simp
      obtain ⟨⟨c2, q1, q2, q3⟩, q4, q5, q6, q7, q8⟩ := setCells_heap w.heap.size vs 0 (w.drew.alloc (.cells ROW 149)) ROW 149 (0, 0) hA0 (by omega)
      obtain ⟨⟨c3, r1, r2, r3⟩, r4, r5, r6, r7, r8⟩ := setCells_heap w.heap.size old 2 ((w.drew.alloc (.cells ROW 149)).setCells w.heap.size 0 vs).drew c2 149 (0, 0) q1 (by omega)
      have hcell : ∀ k, k < (n + 1) * 2 → c3[k]? = (vs ++ old)[k]? := fun k hk => by
        rw [r3, q3]
        by_cases hk2 : k < 2
        · rw [if_neg (by omega), if_pos (by omega), List.getElem?_append_left (by omega)]; rfl
        · rw [if_pos (by omega), List.getElem?_append_right (by omega), v1]
      have hvo : (vs ++ old).length = (n + 1) * 2 := by rw [List.length_append, v1, holdl]; omega
      have hc3 : c3 = (vs ++ old).toArray ++ (c3.toList.drop ((n + 1) * 2)).toArray := by
        apply Array.ext_getElem?
        intro k
        by_cases hk : k < (n + 1) * 2
        · rw [hcell k hk, Array.getElem?_append_left (by simp only [List.size_toArray]; omega)]; simp
        · rw [Array.getElem?_append_right (by simp only [List.size_toArray]; omega)]
          rw [← Array.getElem?_toList, List.getElem?_toArray, List.getElem?_drop, List.size_toArray, hvo, Nat.add_sub_cancel' (Nat.le_of_not_lt hk)]
      obtain ⟨w2, hw2⟩ : ∃ w2, w2 = ((((w.drew.alloc (.cells ROW 149)).setCells w.heap.size 0 vs).drew).setCells w.heap.size 2 old) := ⟨_, rfl⟩
      rw [← hw2] at r1 r4 r5 r6 r7 r8 ⊢
      have hheap : w2.heap = w.heap.push (.cells c3 149 (0, 0)) := by
        apply Array.ext_getElem?
        intro k
        by_cases hk : k = w.heap.size
        · subst hk; rw [r1]; simp
        · rw [r4 k hk]
          show ((w.drew.alloc (.cells ROW 149)).setCells w.heap.size 0 vs).heap[k]? = _
          rw [q4 k hk, hA]
          simp only [Array.getElem?_push, hk, if_false]
      have hw3 := world_is (w := w) hheap (r6.trans (q6.trans rfl)) (r7.trans (q7.trans rfl)) (r8.trans (q8.trans rfl))
      obtain ⟨d1, d2⟩ := chg_set hw hbase hal hm (w' := w) rfl rfl rfl rfl (fun _ _ => rfl) (Nat.le_refl _) .dead (fun _ => trivial)
      have hdr' : Chg μ lim w (σ.set id .dead) μ lim { w with drawn := w2.drawn } (σ.set id .dead) := chg_heap d1.wrel rfl rfl rfl rfl
      obtain ⟨g1, g2, g3⟩ := push_prefix (w := { w with drawn := w2.drawn }) hdr'.wrel (by simpa [St.set] using hb) 149 (RelVs.ext (ext_heap (w := w) (w' := { w with drawn := w2.drawn }) rfl) _ _ hrel) h1 (c3.toList.drop ((n + 1) * 2)).toArray
      have hw4 : addObj { w with drawn := w2.drawn } (.cells ((vs ++ old).toArray ++ (c3.toList.drop ((n + 1) * 2)).toArray) 149 (0, 0)) = w2 := by rw [← hc3]; exact hw3.symm
      rw [hw4] at g1 g3
      refine ⟨_, _, lim, rfl, (d1.trans hdr').trans g1, ?_⟩
      unfold RelV
      refine ⟨w.heap.size, G, by simpa [St.set] using g2, hG, hG63, rfl, ?_⟩
      rw [show w.heap.size = ({ w with drawn := w2.drawn } : World).heap.size from rfl, g3]
      simp only [List.size_toArray, List.length_drop, Array.length_toList, hvo]
      omega
  · cases h
end
end Go.AbN

namespace Go.AbN
open Go Go.Ab Go.Proofs Go.Proofs.YtgdekehgaelefaaGreatDoor Go.RowKit

def dig (n : Nat) : List UInt8 := if n < 10 then [UInt8.ofNat (48 + n)] else [UInt8.ofNat (48 + n / 10), UInt8.ofNat (48 + n % 10)]
theorem dig_eq {n : Nat} (h : n < 100) : Lib.decDigits n = dig n := by
  unfold dig
  split
  · rename_i h1; rw [Lib.decDigits, dif_pos h1]
  · rename_i h1
    rw [Lib.decDigits, dif_neg h1, Lib.decDigits, dif_pos (by omega)]
    rfl

def itoaK : List V → Option V
  | [.sc (.int .i64 n)] => if 0 ≤ n ∧ n < 100 then some (.str ⟨(dig n.toNat).toArray⟩) else none
  | _ => none
theorem itoa_ok {xs : List V} {v : V} (h : itoaK xs = some v) (σ : St) : OkAt Tryz.prog 83 xs σ v σ := by
  intro μ lim w args hw _ hx
  unfold itoaK at h
  split at h
  case h_2 => cases h
  rename_i n
  split at h
  case isFalse => cases h
  rename_i hn
  cases h
  obtain ⟨X, rfl, hX⟩ := args1 hx
  have hXe : X = .int .i64 (n.toNat : Nat) := by rw [relSc hX]; congr 1; omega
  subst hXe
  refine (Tryz.strconv_Itoa_small n.toNat (by omega) w).mono ?_
  rintro e w' ⟨rfl, rfl⟩
  refine ⟨_, μ, lim, rfl, Chg.refl hw, ?_⟩
  rw [dig_eq (by omega)]
  exact scRel rfl


def lenK : List V → Option V
  | [.sc (.int .u64 x)] => if 0 ≤ x ∧ x ≤ 18446744073709551615 then some (.int (Lib.bitLen x.toNat)) else none
  | _ => none
theorem len_ok {xs : List V} {v : V} (h : lenK xs = some v) (σ : St) : OkAt Tryz.prog 71 xs σ v σ := by
  intro μ lim w args hw _ hx
  unfold lenK at h
  split at h
  case h_2 => cases h
  rename_i n
  split at h
  case isFalse => cases h
  rename_i hn
  cases h
  obtain ⟨X, rfl, hX⟩ := args1 hx
  rw [relSc hX]
  refine (Tryz.bits_Len n w hn.1 hn.2).mono ?_
  rintro e w' ⟨rfl, rfl⟩
  exact ⟨_, μ, lim, rfl, Chg.refl hw, scRel rfl⟩


def byteK : List V → Option V
  | [.sc (.string s), .sc (.int .u8 c)] => some (.int (Lib.indexByte s.data.toList c.toNat.toUInt8))
  | _ => none
theorem byte_ok {xs : List V} {v : V} (h : byteK xs = some v) (σ : St) : OkAt Tryz.prog 300 xs σ v σ := by
  intro μ lim w args hw _ hx
  unfold byteK at h
  split at h
  case h_2 => cases h
  rename_i s c
  cases h
  obtain ⟨X, Y, rfl, hX, hY⟩ := args2 hx
  rw [relSc hX, relSc hY]
  refine (Tryz.strings_IndexByte s c w).mono ?_
  rintro e w' ⟨rfl, rfl⟩
  exact ⟨_, μ, lim, rfl, Chg.refl hw, scRel rfl⟩


/-! ## strings.Fields -/

def fieldsK : List V → Option V
  | [.sc (.string s)] => if s.size < 65536 ∧ s.data.toList.all (fun b => decide (b.toNat < 128)) = true then some (.slice .no 1 ((Lib.fields s.data.toList).map fun l => [.str ⟨l.toArray⟩])) else none
  | _ => none
theorem gSpace : Tryz.prog.globalNamed "strings.asciiSpace" = some 4 := by kernel_rfl
theorem fieldsGo_len : ∀ (l cur : List UInt8), (Lib.fieldsGo cur l).length ≤ l.length + 1
  | [], cur => by simp only [Lib.fieldsGo]; split <;> simp
  | b :: l, cur => by
    simp only [Lib.fieldsGo]
    split
    · split
      · have := fieldsGo_len l []; simp; omega
      · have := fieldsGo_len l []; simp; omega
    · have := fieldsGo_len l (cur ++ [b]); simp; omega
theorem fields_ok {xs : List V} {v : V} (h : fieldsK xs = some v) (σ : St) : OkAt Tryz.prog 313 xs σ v σ := by
  intro μ lim w args hw _ hx
  unfold fieldsK at h
  split at h
  case h_2 => cases h
  rename_i s
  split at h
  case isFalse => cases h
  rename_i hs
  cases h
  obtain ⟨X, rfl, hX⟩ := args1 hx
  rw [relSc hX]
  have htab : Lib.TabIs Tryz.prog w "strings.asciiSpace" .u8 Lib.asciiSpaceTab := by
    obtain ⟨_, ty, fr, h2⟩ := hw.glob (4, (Lib.asciiSpaceTab.map fun z => Value.int .u8 z).toArray) (by unfold GL; first | exact .head _ | exact .tail _ (.head _))
    unfold Lib.TabIs World.var?
    rw [gSpace]
    simp only [Option.bind_some, h2]
  refine (Tryz.strings_Fields s w (by omega) (fun j b hb => by
    have := List.all_eq_true.1 hs.2 b (List.mem_of_getElem? hb)
    simpa using this) htab).mono ?_
  rintro e w' ⟨rfl, rfl⟩
  have hlen : (Lib.fields s.data.toList).length ≤ 65536 := by
    have := fieldsGo_len s.data.toList []
    have h2 : s.data.toList.length = s.size := Array.length_toList
    unfold Lib.fields
    omega
  have hbel : Below w.heap.size w (addObj w (.cells ((Lib.fields s.data.toList).map fun l => Value.string ⟨l.toArray⟩).toArray 9 (0, 0))) :=
    ⟨rfl, rfl, rfl, by rw [addObj_size]; omega, fun k hk => addObj_old hk⟩
  have hflat : ((Lib.fields s.data.toList).map fun l => [V.str ⟨l.toArray⟩]).flatten = (Lib.fields s.data.toList).map fun l => V.str ⟨l.toArray⟩ := by
    induction Lib.fields s.data.toList with
    | nil => rfl
    | cons a l ih => simp [ih]
  obtain ⟨lim', h3, h4⟩ := row_new (l := (Lib.fields s.data.toList).map fun l => [V.str ⟨l.toArray⟩]) (news := (Lib.fields s.data.toList).map fun l => Value.string ⟨l.toArray⟩) (n := (Lib.fields s.data.toList).length) (cap := (Lib.fields s.data.toList).length)
    hw hbel (Nat.le_refl _) (addObj_new w _) (by
      rw [hflat]
      refine RelVs.of_get (by simp) fun k v x hv hx => ?_
      simp only [List.getElem?_map, Option.map_eq_some_iff] at hv hx
      obtain ⟨a, ha, rfl⟩ := hv
      obtain ⟨b, hb, rfl⟩ := hx
      rw [ha] at hb
      cases hb
      exact scRel rfl) (by
      intro v hv
      simp only [List.mem_map] at hv
      obtain ⟨a, _, rfl⟩ := hv
      rfl) (by
      intro cs hc
      simp only [List.mem_map] at hc
      obtain ⟨a, _, rfl⟩ := hc
      rfl) (by simp) (fun k _ => by simp) ⟨Nat.le_refl _, by omega⟩
  exact ⟨_, μ, lim', rfl, h3, h4⟩


def compareK : List V → Option V
  | [.sc (.string a), .sc (.string b)] => some (.int (Lib.compareBytes a.data.toList b.data.toList))
  | _ => none
theorem compare_ok {xs : List V} {v : V} (h : compareK xs = some v) (σ : St) : OkAt Tryz.prog 194 xs σ v σ := by
  intro μ lim w args hw _ hx
  unfold compareK at h
  split at h
  case h_2 => cases h
  cases h
  obtain ⟨X, Y, rfl, hX, hY⟩ := args2 hx
  rw [relSc hX, relSc hY]
  refine (Tryz.bytealg_CompareString _ _ w).mono ?_
  rintro e w' ⟨rfl, rfl⟩
  exact ⟨_, μ, lim, rfl, Chg.refl hw, scRel rfl⟩

def atoiK : List V → Option V
  | [.sc (.string s)] => if s.size ≤ 18 then (Lib.atoi s.data.toList).map fun n => .tup [.int n, .sc .nilIface] else none
  | _ => none
theorem atoi_ok {xs : List V} {v : V} (h : atoiK xs = some v) (σ : St) : OkAt Tryz.prog 311 xs σ v σ := by
  intro μ lim w args hw _ hx
  unfold atoiK at h
  split at h
  case h_2 => cases h
  rename_i s
  split at h
  case isFalse => cases h
  rename_i hs
  obtain ⟨n, hn, rfl⟩ := Option.map_eq_some_iff.1 h
  obtain ⟨X, rfl, hX⟩ := args1 hx
  rw [relSc hX]
  refine (Tryz.strconv_Atoi s n hs hn w).mono ?_
  rintro e w' ⟨rfl, t, rfl⟩
  obtain ⟨h2, hx2⟩ := chg_below (lim' := lim) hw (Go.Joins.below_bytesWorld w.heap.size w 5 t (Nat.le_refl _)) (fun _ _ => rfl) (fun b hb => hw.fresh b (by have := (Go.Joins.below_bytesWorld w.heap.size w 5 t (Nat.le_refl _)).size; omega))
  refine ⟨_, μ, lim, rfl, h2, ?_⟩
  unfold RelV
  refine ⟨_, rfl, ?_⟩
  unfold RelVs RelVs RelVs
  exact ⟨scRel rfl, scRel rfl, trivial⟩

def clone72_ren : Go.Shelf.Ren := ⟨fun | 41 => 72 | n => n, fun | 22 => 43 | 23 => 9 | 4 => 4 | n => n, fun | n => n⟩
theorem clone72_lays : Go.Proofs.SlLaysE0.n41 Tryz.prog clone72_ren := {
  mixed := by kernel_rfl
  f41 := ⟨Tryz.f72.name, by decide, Tryz.func72.trans (congrArg some (by kernel_rfl))⟩
  t4 := Tryz.underlying4
  a4 := Tryz.isAgg4
  z4 := Tryz.sizeOf4
  v4 := Tryz.zeroValue4
  t22 := Tryz.underlying43
  a22 := Tryz.isAgg43
  z22 := Tryz.sizeOf43
  v22 := Tryz.zeroValue43 }
theorem info72 : (Tryz.prog.info? 9).isSome = true ∧ (∀ i, Tryz.prog.info? 9 = some i → ∃ z, i.zero = some z ∧ z.cells.size = i.size ∧ 0 < i.size) := by
  obtain ⟨i0, hi, he⟩ := Option.map_eq_some_iff.1 (show (Tryz.prog.info? 9).map (fun i => i.zero.map fun z => decide (z.cells.size = i.size ∧ 0 < i.size)) = some (some true) by kernel_rfl)
  obtain ⟨z, hz, hd⟩ := Option.map_eq_some_iff.1 he
  refine ⟨by rw [hi]; rfl, fun i h => ?_⟩
  rw [hi] at h
  cases h
  exact ⟨z, hz, of_decide_eq_true hd⟩

theorem zero72 : (Tryz.prog.info? 9).map (fun i => (i.size, i.bytes, i.zero)) = some (1, 16, some (.string ⟨#[]⟩)) := by kernel_rfl
theorem clone72 {xs : List V} {v : V} (h : cloneK xs = some v) (σ : St) : OkAt Tryz.prog 72 xs σ v σ := by
  obtain ⟨i0, hi, he⟩ := Option.map_eq_some_iff.1 zero72
  simp only [Prod.mk.injEq] at he
  obtain ⟨e1, e2, e3⟩ := he
  refine clone_gen (T := 9) (fun n c w => AnyE.slices_Clone_nil clone72_lays n c w) (fun b off n c news w hl hn hc h1 => ?_) h σ
  exact AnyE.slices_Clone clone72_lays i0 _ 1 16 hi e3 e1 e2 rfl (by decide) (fun w => by simp [Go.sizeOf, typeInfo, clone72_ren, hi, e1]) b off n c news w hl (by unfold maxLen; omega) (by omega) hc (fun u hu => by have := h1 u hu; cases u <;> first | rfl | simp [Value.oneCell] at this)

def clone73_ren : Go.Shelf.Ren := ⟨fun | 41 => 73 | n => n, fun | 22 => 67 | 23 => 4 | 4 => 4 | n => n, fun | n => n⟩
theorem clone73_lays : Go.Proofs.SlLaysE0.n41 Tryz.prog clone73_ren := {
  mixed := by kernel_rfl
  f41 := ⟨Tryz.f73.name, by decide, Tryz.func73.trans (congrArg some (by kernel_rfl))⟩
  t4 := Tryz.underlying4
  a4 := Tryz.isAgg4
  z4 := Tryz.sizeOf4
  v4 := Tryz.zeroValue4
  t22 := Tryz.underlying67
  a22 := Tryz.isAgg67
  z22 := Tryz.sizeOf67
  v22 := Tryz.zeroValue67 }
theorem info73 : (Tryz.prog.info? 4).isSome = true ∧ (∀ i, Tryz.prog.info? 4 = some i → ∃ z, i.zero = some z ∧ z.cells.size = i.size ∧ 0 < i.size) := by
  obtain ⟨i0, hi, he⟩ := Option.map_eq_some_iff.1 (show (Tryz.prog.info? 4).map (fun i => i.zero.map fun z => decide (z.cells.size = i.size ∧ 0 < i.size)) = some (some true) by kernel_rfl)
  obtain ⟨z, hz, hd⟩ := Option.map_eq_some_iff.1 he
  refine ⟨by rw [hi]; rfl, fun i h => ?_⟩
  rw [hi] at h
  cases h
  exact ⟨z, hz, of_decide_eq_true hd⟩

theorem zero73 : (Tryz.prog.info? 4).map (fun i => (i.size, i.bytes, i.zero)) = some (1, 1, some (.bool false)) := by kernel_rfl
theorem clone73 {xs : List V} {v : V} (h : cloneK xs = some v) (σ : St) : OkAt Tryz.prog 73 xs σ v σ := by
  obtain ⟨i0, hi, he⟩ := Option.map_eq_some_iff.1 zero73
  simp only [Prod.mk.injEq] at he
  obtain ⟨e1, e2, e3⟩ := he
  refine clone_gen (T := 4) (fun n c w => AnyE.slices_Clone_nil clone73_lays n c w) (fun b off n c news w hl hn hc h1 => ?_) h σ
  exact AnyE.slices_Clone clone73_lays i0 _ 1 1 hi e3 e1 e2 rfl (by decide) (fun w => by simp [Go.sizeOf, typeInfo, clone73_ren, hi, e1]) b off n c news w hl (by unfold maxLen; omega) (by omega) hc (fun u hu => by have := h1 u hu; cases u <;> first | rfl | simp [Value.oneCell] at this)

def clone75_ren : Go.Shelf.Ren := ⟨fun | 41 => 75 | n => n, fun | 22 => 89 | 23 => 112 | 4 => 4 | n => n, fun | n => n⟩
theorem clone75_lays : Go.Proofs.SlLaysE0.n41 Tryz.prog clone75_ren := {
  mixed := by kernel_rfl
  f41 := ⟨Tryz.f75.name, by decide, Tryz.func75.trans (congrArg some (by kernel_rfl))⟩
  t4 := Tryz.underlying4
  a4 := Tryz.isAgg4
  z4 := Tryz.sizeOf4
  v4 := Tryz.zeroValue4
  t22 := Tryz.underlying89
  a22 := Tryz.isAgg89
  z22 := Tryz.sizeOf89
  v22 := Tryz.zeroValue89 }
theorem info75 : (Tryz.prog.info? 112).isSome = true ∧ (∀ i, Tryz.prog.info? 112 = some i → ∃ z, i.zero = some z ∧ z.cells.size = i.size ∧ 0 < i.size) := by
  obtain ⟨i0, hi, he⟩ := Option.map_eq_some_iff.1 (show (Tryz.prog.info? 112).map (fun i => i.zero.map fun z => decide (z.cells.size = i.size ∧ 0 < i.size)) = some (some true) by kernel_rfl)
  obtain ⟨z, hz, hd⟩ := Option.map_eq_some_iff.1 he
  refine ⟨by rw [hi]; rfl, fun i h => ?_⟩
  rw [hi] at h
  cases h
  exact ⟨z, hz, of_decide_eq_true hd⟩

theorem clone75 {xs : List V} {v : V} (h : emptyK xs = some v) (σ : St) : OkAt Tryz.prog 75 xs σ v σ := by
  obtain ⟨h1, h2⟩ := info75
  obtain ⟨i0, hi⟩ := Option.isSome_iff_exists.1 h1
  obtain ⟨z, hz, hzs, hsz⟩ := h2 i0 hi
  refine empty_gen (T := 112) (sz := i0.size) (fun n c w => AnyE.slices_Clone_nil clone75_lays n c w) (fun b off c w => ?_) h σ
  exact AnyE.slices_Clone clone75_lays i0 z i0.size i0.bytes hi hz rfl rfl hzs hsz (fun w => by simp [Go.sizeOf, typeInfo, clone75_ren, hi]) b off 0 c [] w (by simp) (by unfold maxLen; omega) (by omega) (fun j u h => by simp at h) (fun u hu => by simp at hu)

def clone76_ren : Go.Shelf.Ren := ⟨fun | 41 => 76 | n => n, fun | 22 => 90 | 23 => 99 | 4 => 4 | n => n, fun | n => n⟩
theorem clone76_lays : Go.Proofs.SlLaysE0.n41 Tryz.prog clone76_ren := {
  mixed := by kernel_rfl
  f41 := ⟨Tryz.f76.name, by decide, Tryz.func76.trans (congrArg some (by kernel_rfl))⟩
  t4 := Tryz.underlying4
  a4 := Tryz.isAgg4
  z4 := Tryz.sizeOf4
  v4 := Tryz.zeroValue4
  t22 := Tryz.underlying90
  a22 := Tryz.isAgg90
  z22 := Tryz.sizeOf90
  v22 := Tryz.zeroValue90 }
theorem info76 : (Tryz.prog.info? 99).isSome = true ∧ (∀ i, Tryz.prog.info? 99 = some i → ∃ z, i.zero = some z ∧ z.cells.size = i.size ∧ 0 < i.size) := by
  obtain ⟨i0, hi, he⟩ := Option.map_eq_some_iff.1 (show (Tryz.prog.info? 99).map (fun i => i.zero.map fun z => decide (z.cells.size = i.size ∧ 0 < i.size)) = some (some true) by kernel_rfl)
  obtain ⟨z, hz, hd⟩ := Option.map_eq_some_iff.1 he
  refine ⟨by rw [hi]; rfl, fun i h => ?_⟩
  rw [hi] at h
  cases h
  exact ⟨z, hz, of_decide_eq_true hd⟩

theorem clone76 {xs : List V} {v : V} (h : emptyK xs = some v) (σ : St) : OkAt Tryz.prog 76 xs σ v σ := by
  obtain ⟨h1, h2⟩ := info76
  obtain ⟨i0, hi⟩ := Option.isSome_iff_exists.1 h1
  obtain ⟨z, hz, hzs, hsz⟩ := h2 i0 hi
  refine empty_gen (T := 99) (sz := i0.size) (fun n c w => AnyE.slices_Clone_nil clone76_lays n c w) (fun b off c w => ?_) h σ
  exact AnyE.slices_Clone clone76_lays i0 z i0.size i0.bytes hi hz rfl rfl hzs hsz (fun w => by simp [Go.sizeOf, typeInfo, clone76_ren, hi]) b off 0 c [] w (by simp) (by unfold maxLen; omega) (by omega) (fun j u h => by simp at h) (fun u hu => by simp at hu)

def clone77_ren : Go.Shelf.Ren := ⟨fun | 41 => 77 | n => n, fun | 22 => 91 | 23 => 107 | 4 => 4 | n => n, fun | n => n⟩
theorem clone77_lays : Go.Proofs.SlLaysE0.n41 Tryz.prog clone77_ren := {
  mixed := by kernel_rfl
  f41 := ⟨Tryz.f77.name, by decide, Tryz.func77.trans (congrArg some (by kernel_rfl))⟩
  t4 := Tryz.underlying4
  a4 := Tryz.isAgg4
  z4 := Tryz.sizeOf4
  v4 := Tryz.zeroValue4
  t22 := Tryz.underlying91
  a22 := Tryz.isAgg91
  z22 := Tryz.sizeOf91
  v22 := Tryz.zeroValue91 }
theorem info77 : (Tryz.prog.info? 107).isSome = true ∧ (∀ i, Tryz.prog.info? 107 = some i → ∃ z, i.zero = some z ∧ z.cells.size = i.size ∧ 0 < i.size) := by
  obtain ⟨i0, hi, he⟩ := Option.map_eq_some_iff.1 (show (Tryz.prog.info? 107).map (fun i => i.zero.map fun z => decide (z.cells.size = i.size ∧ 0 < i.size)) = some (some true) by kernel_rfl)
  obtain ⟨z, hz, hd⟩ := Option.map_eq_some_iff.1 he
  refine ⟨by rw [hi]; rfl, fun i h => ?_⟩
  rw [hi] at h
  cases h
  exact ⟨z, hz, of_decide_eq_true hd⟩

theorem clone77 {xs : List V} {v : V} (h : emptyK xs = some v) (σ : St) : OkAt Tryz.prog 77 xs σ v σ := by
  obtain ⟨h1, h2⟩ := info77
  obtain ⟨i0, hi⟩ := Option.isSome_iff_exists.1 h1
  obtain ⟨z, hz, hzs, hsz⟩ := h2 i0 hi
  refine empty_gen (T := 107) (sz := i0.size) (fun n c w => AnyE.slices_Clone_nil clone77_lays n c w) (fun b off c w => ?_) h σ
  exact AnyE.slices_Clone clone77_lays i0 z i0.size i0.bytes hi hz rfl rfl hzs hsz (fun w => by simp [Go.sizeOf, typeInfo, clone77_ren, hi]) b off 0 c [] w (by simp) (by unfold maxLen; omega) (by omega) (fun j u h => by simp at h) (fun u hu => by simp at hu)

/-- What is known. -/
def KT : KnT := fun f => match f with
  | 71 => some (.v lenK)
  | 72 => some (.v cloneK)
  | 73 => some (.v cloneK)
  | 75 => some (.v emptyK)
  | 76 => some (.v emptyK)
  | 77 => some (.v emptyK)
  | 83 => some (.v itoaK)
  | 101 => some (.s insertK)
  | 192 => some (.s checkK)
  | 194 => some (.v compareK)
  | 300 => some (.v byteK)
  | 311 => some (.v atoiK)
  | 313 => some (.v fieldsK)
  | _ => none

theorem kt_ok : CallOK Tryz.prog (knOf KT) := by
  have key : ∀ (o : Option V) (σ : St) (v : V) (σ' : St), (o.map fun v => (v, σ)) = some (v, σ') → o = some v ∧ σ' = σ := by
    intro o σ v σ' h
    cases o with
    | none => cases h
    | some x => simp at h; exact ⟨by rw [h.1], h.2.symm⟩
  intro f xs σ v σ' h
  unfold knOf at h
  split at h
  · rename_i g hg
    obtain ⟨h2, h3⟩ := key _ _ _ _ h
    subst h3
    unfold KT at hg
    split at hg
    · cases hg; exact ⟨by kernel_rfl, len_ok h2 _⟩
    · cases hg; exact ⟨by kernel_rfl, clone72 h2 _⟩
    · cases hg; exact ⟨by kernel_rfl, clone73 h2 _⟩
    · cases hg; exact ⟨by kernel_rfl, clone75 h2 _⟩
    · cases hg; exact ⟨by kernel_rfl, clone76 h2 _⟩
    · cases hg; exact ⟨by kernel_rfl, clone77 h2 _⟩
    · cases hg; exact ⟨by kernel_rfl, itoa_ok h2 _⟩
    · cases hg
    · cases hg
    · cases hg; exact ⟨by kernel_rfl, compare_ok h2 _⟩
    · cases hg; exact ⟨by kernel_rfl, byte_ok h2 _⟩
    · cases hg; exact ⟨by kernel_rfl, atoi_ok h2 _⟩
    · cases hg; exact ⟨by kernel_rfl, fields_ok h2 _⟩
    · cases hg
  · rename_i g hg
    unfold KT at hg
    split at hg
    · cases hg
    · cases hg
    · cases hg
    · cases hg
    · cases hg
    · cases hg
    · cases hg
    · cases hg; exact ⟨by kernel_rfl, insert_ok h⟩
    · cases hg; exact ⟨by kernel_rfl, check_ok h⟩
    · cases hg
    · cases hg
    · cases hg
    · cases hg
    · cases hg
  · cases h
end Go.AbN
