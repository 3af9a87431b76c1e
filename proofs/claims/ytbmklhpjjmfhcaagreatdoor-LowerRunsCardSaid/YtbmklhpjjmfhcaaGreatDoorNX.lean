/- What is said of a call of the library, and what new blocks leave as it was. No premise but those named. -/
import Derived.Test.YtbmklhpjjmfhcaaGreatDoorEX
import Derived.Test.YtbmklhpjjmfhcaaGreatDoorProg
import Derived.WalkKit
import Derived.RowKitTokens
import Derived.Lib.IfaceEq
import Derived.LaidEql
import Derived.Shelf.Strings.Builder1
import Derived.Stop.Asserts
import Derived.Shelf.RegionOpenPlain
import Derived.Lib.Walk
import Derived.Lib.SliceRun
import Derived.Laws.Externs
import Derived.Test.YtbmklhpjjmfhcaaGreatDoorShelf
import Derived.Test.YtbmklhpjjmfhcaaGreatDoorS1
import Derived.Lib.SmallJoins
import Derived.Shelf.SlicesE.Clone
namespace Go.AbN
open Go Go.Ab Go.Proofs Go.RowKit

section
variable {P : Program} {μ : List Nat} {lim : Nat → Nat} {w : World} {σ : St}

theorem args1 {v : V} {args : Array Value} (h : RelVs μ lim w [v] args.toList) : ∃ X, args = #[X] ∧ RelV μ lim w v X := by
  cases args with | mk l =>
  match l, h with
  | [X], h => unfold RelVs at h; exact ⟨X, rfl, h.1⟩
  | [], h => unfold RelVs at h; exact h.elim
  | _ :: _ :: _, h => unfold RelVs at h; have := h.2; unfold RelVs at this; exact this.elim
theorem args2 {v u : V} {args : Array Value} (h : RelVs μ lim w [v, u] args.toList) : ∃ X Y, args = #[X, Y] ∧ RelV μ lim w v X ∧ RelV μ lim w u Y := by
  cases args with | mk l =>
  match l, h with
  | [X, Y], h => unfold RelVs at h; have := h.2; unfold RelVs at this; exact ⟨X, Y, rfl, h.1, this.1⟩
  | [], h => unfold RelVs at h; exact h.elim
  | [_], h => unfold RelVs at h; have := h.2; unfold RelVs at this; exact this.elim
  | _ :: _ :: _ :: _, h => unfold RelVs at h; have := h.2; unfold RelVs at this; have := this.2; unfold RelVs at this; exact this.elim

/-- What is said of a call is so. -/
def OkAt (P : Program) (f : FuncId) (xs : List V) (σ : St) (v : V) (σ' : St) : Prop :=
  ∀ (μ : List Nat) (lim : Nat → Nat) (w : World) (args : Array Value), WRel μ lim w σ → σ.base ≤ σ.objs.length → RelVs μ lim w xs args.toList →
    Calls P f args w fun e w' => ∃ y μ' lim', e = .returned y ∧ Chg μ lim w σ μ' lim' w' σ' ∧ RelV μ' lim' w' v y

/-- New blocks alone. -/
theorem chg_below (hw : WRel μ lim w σ) {w' : World} {lim' : Nat → Nat} (h : Below w.heap.size w w') (hl : ∀ b, b < w.heap.size → lim' b = lim b) (hf : ∀ b, w'.heap.size ≤ b → lim' b = 0) : Chg μ lim w σ μ lim' w' σ ∧ Ext μ lim w μ lim' w' := by
  have hx : Ext μ lim w μ lim' w' := ⟨fun _ _ x => x, fun b o ho => by
      have hb := hw.lim_lt ho
      exact ⟨by rw [hl b hb]; exact ho, cell_congr (h.block b hb) o⟩, fun b => by
      rcases Nat.lt_or_ge b w.heap.size with hb | hb
      · rw [bsize_congr (h.block b hb)]; exact Nat.le_refl _
      · rw [bsize_ge hb]; exact Nat.zero_le _⟩
  refine ⟨⟨h.os, h.tape, h.output, h.size, fun _ _ x => x, fun b hb _ => ⟨h.block b hb, hl b hb⟩, fun b _ => hx.size b, fun id b ha hb hm => .inr ⟨id, hb, ha, hm⟩, rfl, fun _ _ => rfl, Nat.le_refl _, fun _ hp => hw.glob_lt hp,
    ⟨hw.len, fun id b hm => Nat.lt_of_lt_of_le (hw.lt id b hm) h.size, hw.inj, fun id b o ho hm => (hw.obj id b o ho hm).ext hx (h.block b (hw.lt id b hm)) (hl b (hw.lt id b hm)), hf, glob_keep hw.glob fun p _ _ hlt => ⟨h.block p.1 hlt, hl p.1 hlt⟩⟩⟩, hx⟩

/-- A new block that nothing leads to. -/
theorem chg_add0 (hw : WRel μ lim w σ) (o : Go.Obj) : Chg μ lim w σ μ lim (addObj w o) σ := by
  have h := chg_add hw o 0
  have hlim : (fun b => if b = w.heap.size then 0 else lim b) = lim := by
    funext b
    split
    · rename_i h; rw [hw.fresh b (by omega)]
    · rfl
  rwa [hlim] at h

/-- A row of leaves in a new block, below which all is as it was. -/
theorem row_new (hw : WRel μ lim w σ) {w' : World} (h : Below w.heap.size w w') {g : Nat} {cur : Array Value} {ty : TypeId} {fr : Nat × Nat} {l : List (List V)} {news : List Value} {n cap : Nat} (hg : w.heap.size ≤ g) (hgb : w'.heap[g]? = some (.cells cur ty fr))
    (hr : RelVs μ lim w l.flatten news) (h1 : ∀ v ∈ news, v.oneCell = true) (hs : ∀ cs ∈ l, cs.length = 1) (hln : l.length = n) (hcur : ∀ k, k < news.length → cur[k]? = news[k]?) (hcap : n ≤ cap ∧ cap < 2 ^ 63) :
    ∃ lim', Chg μ lim w σ μ lim' w' σ ∧ RelV μ lim' w' (.slice .no 1 l) (.slice (some ⟨g, 0, none⟩) n cap) := by
  have hglt : g < w'.heap.size := (Array.getElem?_eq_some_iff.1 hgb).1
  obtain ⟨h2, hx⟩ := chg_below (lim' := fun b => if b = g then n else lim b) hw h (fun b hb => if_neg (by omega)) (fun b hb => by
    have : b ≠ g := by omega
    simp only [if_neg this]
    exact hw.fresh b (by have := h.size; omega))
  refine ⟨_, h2, ?_⟩
  have hfl := flat_len 1 l hs
  unfold RelV
  refine ⟨some ⟨g, 0, none⟩, cap, by rw [hln], ⟨by rw [hln]; exact hcap.1, by simp⟩, hcap.2, rfl, RelLL.of_flat hs (RelL.of_get fun k v hv => ?_)⟩
  have hkl := (List.getElem?_eq_some_iff.1 hv).1
  obtain ⟨x, hxk, hrx⟩ := hr.get hv
  refine ⟨by simp only [if_true]; omega, x, ?_, hrx.ext hx, h1 x (List.mem_of_getElem? hxk)⟩
  have := hcur k (List.getElem?_eq_some_iff.1 hxk).1
  rw [hxk] at this
  simp [World.cell?, hgb, this]
end

/-! ## slices.Clone -/

def cloneK : List V → Option V
  | [.slice _ 1 l] => if l.length ≤ 4294967296 then some (.slice .no 1 l) else none
  | _ => none

theorem cap_lt {c : Nat} (h : c ≤ maxLen) : c < 2 ^ 63 := by unfold maxLen at h; omega

theorem clone_gen {f : FuncId} {T : TypeId} (hnil : ∀ (n c : Nat) (w : World), Calls Tryz.prog f #[.slice none n c] w fun e w' => e = .returned (.slice none 0 0) ∧ w' = w)
    (hrow : ∀ (b off n c : Nat) (news : List Value) (w : World), news.length = n * 1 → n ≤ 4294967296 → (∀ j u, news[j]? = some u → w.cell? ⟨b, off + j, none⟩ = some u) → (∀ u ∈ news, u.oneCell = true) →
      Calls Tryz.prog f #[.slice (some ⟨b, off, none⟩) n c] w fun e w' => ∃ v', e = .returned v' ∧ w'.ownsRow w.heap.size T 1 v' n news ∧ v' ≠ .slice none 0 0 ∧ Below w.heap.size w w')
    {xs : List V} {v : V} (h : cloneK xs = some v) (σ : St) : OkAt Tryz.prog f xs σ v σ := by
  intro μ lim w args hw _ hx
  unfold cloneK at h
  split at h
  case h_2 => cases h
  rename_i o l
  split at h
  case isFalse => cases h
  rename_i hl
  cases h
  obtain ⟨X, rfl, hX⟩ := args1 hx
  unfold RelV at hX
  obtain ⟨base, cap, rfl, ⟨hle, _⟩, hcap, hbase⟩ := hX
  cases base with
  | none =>
    simp only at hbase
    subst hbase
    have hl0 : l = [] := List.eq_nil_of_length_eq_zero (by omega)
    subst hl0
    refine (hnil _ _ w).mono ?_
    rintro e w' ⟨rfl, rfl⟩
    refine ⟨_, μ, lim, rfl, Chg.refl hw, ?_⟩
    unfold RelV
    exact ⟨none, 0, rfl, ⟨Nat.le_refl _, by simp⟩, by decide, rfl⟩
  | some ad =>
    obtain ⟨hsp, hll⟩ := hbase
    have had : ad = ⟨ad.block, ad.off, none⟩ := by cases ad; simp at hsp; simp [hsp]
    obtain ⟨hflat, hfl⟩ := RelLL.flat hll
    have hs : ∀ cs ∈ l, cs.length = 1 := by
      intro cs hc
      obtain ⟨i, hi⟩ := List.getElem?_of_mem hc
      exact (hll.get hi).1
    obtain ⟨news, n1, n2, n3⟩ : ∃ news : List Value, RelVs μ lim w l.flatten news ∧ (∀ j u, news[j]? = some u → w.cell? ⟨ad.block, ad.off + j, none⟩ = some u) ∧ ∀ u ∈ news, u.oneCell = true := by
      have hget : ∀ j, j < l.flatten.length → ∃ c, w.cell? ⟨ad.block, ad.off + j, none⟩ = some c ∧ RelV μ lim w (l.flatten.getD j .undef) c ∧ c.oneCell = true := by
        intro j hj
        have := hflat.get (List.getElem?_eq_getElem hj)
        obtain ⟨_, c, h1, h2, h3⟩ := this
        refine ⟨c, h1, ?_, h3⟩
        rw [List.getD_eq_getElem?_getD, List.getElem?_eq_getElem hj]
        exact h2
      refine ⟨(List.range l.flatten.length).map fun j => (w.cell? ⟨ad.block, ad.off + j, none⟩).getD undef, ?_, ?_, ?_⟩
      · refine RelVs.of_get (by simp) fun k v x hv hx => ?_
        have hkl := (List.getElem?_eq_some_iff.1 hv).1
        obtain ⟨c, h1, h2, _⟩ := hget k hkl
        simp only [List.getElem?_map, List.getElem?_range hkl, Option.map_some, h1, Option.getD_some, Option.some.injEq] at hx
        subst hx
        rw [List.getD_eq_getElem?_getD, hv] at h2
        exact h2
      · intro j u hu
        simp only [List.getElem?_map, Option.map_eq_some_iff] at hu
        obtain ⟨k, hk, rfl⟩ := hu
        have hkj : k = j ∧ j < l.flatten.length := by
          have := List.getElem?_eq_some_iff.1 hk
          obtain ⟨h1, h2⟩ := this
          simp at h1 h2
          exact ⟨h2.symm, by simpa using h1⟩
        obtain ⟨rfl, hkl⟩ := hkj
        obtain ⟨c, h1, _⟩ := hget k hkl
        simp [h1]
      · intro u hu
        simp only [List.mem_map, List.mem_range] at hu
        obtain ⟨k, hk, rfl⟩ := hu
        obtain ⟨c, h1, _, h3⟩ := hget k hk
        simp [h1, h3]
    rw [had]
    refine (hrow ad.block ad.off l.length cap news w (by rw [← n1.length, hfl]) hl n2 n3).mono ?_
    rintro e w' ⟨v', rfl, ho, hne, hbel⟩
    rcases ho.2 with ⟨h1, _⟩ | ⟨g, cap', cur, h1, h2, h3, h4, h5, h6, h7⟩
    · exact absurd h1 hne
    · subst h1
      obtain ⟨lim', k1, k2⟩ := row_new (l := l) (news := news) (n := l.length) (cap := cap') hw hbel h2 h3 n1 n3 hs rfl (fun k hk => by
        have hnl : news.length = l.length * 1 := ho.1
        rw [← h7, List.getElem?_take_of_lt (by omega), Array.getElem?_toList]) ⟨h4, cap_lt h5⟩
      exact ⟨_, μ, lim', rfl, k1, k2⟩


/-- Of a row of nothing. -/
def emptyK : List V → Option V
  | [.slice _ sz []] => some (.slice .no sz [])
  | _ => none
theorem empty_gen {f : FuncId} {T : TypeId} {sz : Nat} (hnil : ∀ (n c : Nat) (w : World), Calls Tryz.prog f #[.slice none n c] w fun e w' => e = .returned (.slice none 0 0) ∧ w' = w)
    (hrow : ∀ (b off c : Nat) (w : World), Calls Tryz.prog f #[.slice (some ⟨b, off, none⟩) 0 c] w fun e w' => ∃ v', e = .returned v' ∧ w'.ownsRow w.heap.size T sz v' 0 [] ∧ v' ≠ .slice none 0 0 ∧ Below w.heap.size w w')
    {xs : List V} {v : V} (h : emptyK xs = some v) (σ : St) : OkAt Tryz.prog f xs σ v σ := by
  intro μ lim w args hw _ hx
  unfold emptyK at h
  split at h
  case h_2 => cases h
  rename_i o s
  cases h
  obtain ⟨X, rfl, hX⟩ := args1 hx
  unfold RelV at hX
  obtain ⟨base, cap, rfl, _, _, hbase⟩ := hX
  cases base with
  | none =>
    refine (hnil _ _ w).mono ?_
    rintro e w' ⟨rfl, rfl⟩
    refine ⟨_, μ, lim, rfl, Chg.refl hw, ?_⟩
    unfold RelV
    exact ⟨none, 0, rfl, ⟨Nat.le_refl _, by simp⟩, by decide, rfl⟩
  | some ad =>
    obtain ⟨hsp, _⟩ := hbase
    have had : ad = ⟨ad.block, ad.off, none⟩ := by cases ad; simp at hsp; simp [hsp]
    rw [had]
    refine (hrow ad.block ad.off cap w).mono ?_
    rintro e w' ⟨v', rfl, ho, hne, hbel⟩
    rcases ho.2 with ⟨h1, _⟩ | ⟨g, cap', cur, h1, h2, h3, h4, h5, h6, h7⟩
    · exact absurd h1 hne
    · subst h1
      refine ⟨_, μ, lim, rfl, (chg_below (lim' := lim) hw hbel (fun _ _ => rfl) (fun b hb => hw.fresh b (by have := hbel.size; omega))).1, ?_⟩
      unfold RelV
      exact ⟨_, cap', rfl, ⟨Nat.zero_le _, by simp⟩, cap_lt h5, rfl, by unfold RelLL; trivial⟩
end Go.AbN

namespace Go.Proofs.YtbmklhpjjmfhcaaGreatDoor
open Go.RowKit Go.Extern.Stop Go.Stop Go.Extern

set_option maxRecDepth 100000 in
set_option maxHeartbeats 4000000 in
/-- copyCheck at a builder that was used. -/
theorem copyCheck_used (b : Nat) (w : World) (h0 : w.cell? ⟨b, 0, none⟩ = some (.pointer (some ⟨b, 0, none⟩))) :
    Calls Tryz.prog 173 #[.pointer (some ⟨b, 0, none⟩)] w fun e w' => e = .returned (.tuple #[]) ∧ w' = w := by
  obtain ⟨j, hj, _⟩ := Option.map_eq_some_iff.1 (show (Tryz.prog.info? 202).map (·.size) = some 2 by kernel_rfl)
  go_enter Tryz.func173, Tryz.ntmps173
  go_wp2
  rw [Go.Lib.run_neq_ptr_same w _ Tryz.underlying199 hj]
  go_wp2
  go_end0
  exact ⟨rfl, rfl⟩

set_option maxRecDepth 100000 in
set_option maxHeartbeats 4000000 in
/-- copyCheck at a fresh builder: it stores its own address. -/
theorem copyCheck_fresh (b T n : Nat) (w : World) (h0 : w.cell? ⟨b, 0, none⟩ = some (.pointer none)) (hsh : w.shape? b = some (T, n)) (hn : 0 < n) (hl : liesAt Tryz.prog Tryz.prog.depth T (n / Tryz.prog.cellsOf T) 0 202 1 = true) (hfz : w.frozen? ⟨b, 0, none⟩ = false) :
    Calls Tryz.prog 173 #[.pointer (some ⟨b, 0, none⟩)] w fun e w' => e = .returned (.tuple #[]) ∧ w' = w.setCell ⟨b, 0, none⟩ (.pointer (some ⟨b, 0, none⟩)) := by
  obtain ⟨j, hj, hjs⟩ := Option.map_eq_some_iff.1 (show (Tryz.prog.info? 202).map (·.size) = some 2 by kernel_rfl)
  go_enter Tryz.func173, Tryz.ntmps173
  go_wp2
  rw [Go.Lib.run_to_unsafe w ⟨b, 0, none⟩ Tryz.underlying199 Tryz.underlying341 hj (by rw [hjs]; decide) hsh hn]
  simp only [Result.andThen]
  rw [Oper.upon_value]
  go_wp2
  rw [run_callFunc_extern Tryz.func215 (by kernel_rfl) (by kernel_rfl) (by kernel_rfl) (e := Extern.AbiNoEscape.same) (by kernel_rfl)]
  rw [Go.Lib.run_noEscape]
  simp only [Result.andThen]
  rw [Oper.upon_value]
  go_wp2
  rw [Go.Lib.run_from_unsafe w ⟨b, 0, none⟩ Tryz.underlying341 Tryz.underlying199 hj hsh hl]
  simp only [Result.andThen]
  rw [Oper.upon_value]
  go_wp2
  go_end0
  exact ⟨rfl, rfl⟩
end Go.Proofs.YtbmklhpjjmfhcaaGreatDoor
namespace Go.AbN
open Go Go.Ab Go.Proofs Go.Proofs.YtbmklhpjjmfhcaaGreatDoor Go.RowKit

/-! ## copyCheck -/

def holder (t n : Nat) : Bool := (t == 202 && n == 2) || (t == 206 && n == 3)
theorem holder_lies {t n : Nat} (h : holder t n = true) : liesAt Tryz.prog Tryz.prog.depth t (n / Tryz.prog.cellsOf t) 0 202 1 = true ∧ 0 < n := by
  have h' : (t = 202 ∧ n = 2) ∨ (t = 206 ∧ n = 3) := by
    simpa [holder] using h
  rcases h' with ⟨h1, h2⟩ | ⟨h1, h2⟩
  · refine ⟨?_, by omega⟩
    subst h1
    subst h2
    kernel_rfl
  · refine ⟨?_, by omega⟩
    subst h1
    subst h2
    kernel_rfl

def checkK (xs : List V) (σ : St) : Option (V × St) := match xs with
  | [.ptr id 0] => match σ.objs[id]? with
    | some (.var t cs) => match cs with
      | .sc (.pointer none) :: rest => if σ.base ≤ id ∧ holder t cs.length = true then some (.tup [], σ.set id (.var t (.ptr id 0 :: rest))) else none
      | .ptr id' 0 :: _ => if id' = id then some (.tup [], σ) else none
      | _ => none
    | _ => none
  | _ => none

theorem tup_nil {μ : List Nat} {lim : Nat → Nat} {w : World} : RelV μ lim w (.tup []) (.tuple #[]) := by
  unfold RelV; refine ⟨_, rfl, ?_⟩; unfold RelVs; trivial

theorem check_ok {xs : List V} {σ σ' : St} {v : V} (h : checkK xs σ = some (v, σ')) : OkAt Tryz.prog 173 xs σ v σ' := by
  intro μ lim w args hw _ hx
  unfold checkK at h
  split at h
  case h_2 => cases h
  rename_i id
  split at h
  case h_2 => cases h
  rename_i t cs ho
  obtain ⟨X, rfl, hX⟩ := args1 hx
  unfold RelV at hX
  obtain ⟨b, hb, rfl⟩ := hX
  obtain ⟨o1, c, hh, hlen, hcells⟩ := hw.obj id b _ ho hb
  split at h
  · rename_i rest
    split at h
    case isFalse => cases h
    rename_i hc
    cases h
    obtain ⟨hl, hn⟩ := holder_lies hc.2
    obtain ⟨x, hx0, hr0, _⟩ := hcells 0 _ rfl
    rw [relSc hr0] at hx0
    have hfz : w.frozen? ⟨b, 0, none⟩ = false := by simp [World.frozen?, hh]
    refine (copyCheck_fresh b t c.size w hx0 (by simp [World.shape?, hh]) (by omega) (by rw [← hlen]; exact hl) hfz).mono ?_
    rintro e w' ⟨rfl, rfl⟩
    have hal : alive σ id := ⟨_, ho, by simp⟩
    obtain ⟨⟨c2, k1, k2, k3⟩, k4, k5, k6, k7, k8⟩ := setCells_heap b [.pointer (some ⟨b, 0, none⟩)] 0 w c t (0, 0) hh (by simp; omega)
    have hset : w.setCells b 0 [.pointer (some ⟨b, 0, none⟩)] = w.setCell ⟨b, 0, none⟩ (.pointer (some ⟨b, 0, none⟩)) := rfl
    rw [hset] at k1 k4 k5 k6 k7 k8
    obtain ⟨g1, g2⟩ := chg_set hw hc.1 hal hb k6 k7 k8 k5 k4 (by unfold bsize; rw [k1, hh]; simp [k2]) (.var t (.ptr id 0 :: rest)) (fun hext => by
      refine ⟨o1, c2, k1, by rw [k2]; simpa using hlen, fun k v hv => ?_⟩
      have hck := k3 k
      cases k with
      | zero =>
        simp at hv
        subst hv
        refine ⟨.pointer (some ⟨b, 0, none⟩), ?_, ?_, rfl⟩
        · simp [World.cell?, k1, hck]
        · unfold RelV; exact ⟨b, hb, rfl⟩
      | succ k =>
        obtain ⟨y, hy, hry, hyo⟩ := hcells (k + 1) v (by simpa using hv)
        refine ⟨y, ?_, hry.ext hext, hyo⟩
        rw [if_neg (by simp)] at hck
        simp only [World.cell?, hh] at hy
        simp only [World.cell?, k1, hck]
        exact hy)
    exact ⟨_, μ, lim, rfl, g1, tup_nil⟩
  · rename_i id' rest
    split at h
    case isFalse => cases h
    rename_i hc
    subst hc
    cases h
    obtain ⟨x, hx0, hr0, _⟩ := hcells 0 _ rfl
    unfold RelV at hr0
    obtain ⟨b', hb', rfl⟩ := hr0
    rw [hb] at hb'
    cases hb'
    refine (copyCheck_used b w hx0).mono ?_
    rintro e w' ⟨rfl, rfl⟩
    exact ⟨_, μ, lim, rfl, Chg.refl hw, tup_nil⟩
  · cases h

end Go.AbN

namespace Go.Proofs.YtbmklhpjjmfhcaaGreatDoor
open Go.RowKit Go.Lib

set_option maxHeartbeats 4000000 in
set_option maxRecDepth 100000 in
theorem clone_row (ad : Addr) (n c : Nat) (w : World) (v : Value) (w1 : World)
    (hrun : ∀ ty, (Builtin.append_ #[55, 55] ty #[.slice (some ⟨w.heap.size, 0, none⟩) 0 0, .slice (some ad) n c]).run Tryz.prog (w.alloc (.cells #[] 9)) = .ok v w1) :
    Calls Tryz.prog 65 #[.slice (some ad) n c] w fun e w' => e = .returned v ∧ w' = w1 := by
  have mixed : Tryz.prog.follows .mixedOrders = true := by kernel_rfl
  have q22 : ∀ (w : World) (a : Option Addr) (n c n' c' : Nat), (binOp .eql 55 (.slice a n c) (.slice none n' c')).run Tryz.prog w = .ok (.bool a.isNone) w := fun w a n c n' c' => Lib.run_eql_slice_nil w _ _ a n c n' c' Tryz.underlying55
  go_enter Tryz.func65, Tryz.ntmps65
  go_wp2_with (at_builtin; refine Lib.wpList_append_run _ rfl _ _ _ _ rfl _ _ rfl rfl _ _ (hrun _) ?_)
  go_ret
  exact ⟨rfl, rfl⟩
end Go.Proofs.YtbmklhpjjmfhcaaGreatDoor
namespace Go.AbN
open Go Go.Ab Go.Proofs Go.Proofs.YtbmklhpjjmfhcaaGreatDoor Go.RowKit

/-- slices.Clone of texts, as a new object; of nothing: nothing, which may be appended to. -/
def cloneNew (xs : List V) (σ : St) : Option (V × St) := match xs with
  | [.slice _ 1 []] => some (.slice .shut 1 [], σ)
  | [.slice _ 1 l] => if l.length ≤ 1048576 then some (.arr σ.objs.length 0 l.length 1, σ.push (.cells l.flatten)) else none
  | _ => none

theorem cloneNew_ok {xs : List V} {σ σ' : St} {v : V} (h : cloneNew xs σ = some (v, σ'))
    (hnil : ∀ (n c : Nat) (w : World), Calls Tryz.prog 65 #[.slice none n c] w fun e w' => e = .returned (.slice none 0 0) ∧ w' = w) : OkAt Tryz.prog 65 xs σ v σ' := by
  intro μ lim w args hw hb hx
  have he : elemOK Tryz.prog 9 1 = true := by kernel_rfl
  have hT : sliceElem Tryz.prog 55 = some 9 := by kernel_rfl
  have hR : rowType Tryz.prog 55 = true := by kernel_rfl
  have c1 : Chg μ lim w σ μ lim (addObj w (.cells #[] 9 (0, 0))) σ := chg_add0 hw _
  have hal : w.alloc (.cells #[] 9) = addObj w (.cells #[] 9 (0, 0)) := rfl
  have hsh : ∀ base, (base = none ∨ ∃ b, base = some (⟨b, 0, none⟩ : Addr)) → ∀ w', RelV μ lim w' (.slice .shut 1 []) (.slice base 0 0) := by
    intro base hbase w'
    unfold RelV
    refine ⟨base, 0, rfl, ⟨Nat.le_refl _, fun _ => rfl⟩, by decide, ?_⟩
    rcases hbase with rfl | ⟨b, rfl⟩
    · rfl
    · exact ⟨rfl, by unfold RelLL; trivial⟩
  unfold cloneNew at h
  split at h
  · cases h
    obtain ⟨X, rfl, hX⟩ := args1 hx
    unfold RelV at hX
    obtain ⟨base, cap, rfl, _, hcap, hbase⟩ := hX
    cases base with
    | none =>
      refine (hnil _ _ w).mono ?_
      rintro e w' ⟨rfl, rfl⟩
      exact ⟨_, μ, lim, rfl, Chg.refl hw, hsh none (.inl rfl) _⟩
    | some ad =>
      have hr : ∀ ty, (Builtin.append_ #[55, 55] ty #[.slice (some ⟨w.heap.size, 0, none⟩) 0 0, .slice (some ad) 0 cap]).run Tryz.prog (w.alloc (.cells #[] 9)) = .ok (.slice (some ⟨w.heap.size, 0, none⟩) 0 0) (addObj w (.cells #[] 9 (0, 0))) := fun ty => by
        have := run_append_in (P := Tryz.prog) (w := addObj w (.cells #[] 9 (0, 0))) (n := 0) (cap := 0) (m := 0) (b := w.heap.size) (off := 0) (Y := .slice (some ad) 0 cap) (new := []) ty hT he hR (fun w' => by simp [Builtin.lenOf]) (fun w' _ => by simp [Builtin.firstCells, loadCells, loadCellsFrom]) (by omega) (by simp) (by simp) (by simp)
        rw [hal, this]
        rfl
      refine (clone_row ad 0 cap w _ _ hr).mono ?_
      rintro e w' ⟨rfl, rfl⟩
      exact ⟨_, μ, lim, rfl, c1, hsh _ (.inr ⟨_, rfl⟩) _⟩
  · rename_i o l hne
    split at h
    case isFalse => cases h
    rename_i hl
    cases h
    have hl0 : 0 < l.length := by
      cases l with
      | nil => first | exact (hne o).elim | exact (hne o rfl).elim | exact (hne rfl).elim
      | cons _ _ => simp
    obtain ⟨X, rfl, hX⟩ := args1 hx
    obtain ⟨new, n1, n2, n3, n4, n5, n6⟩ := elems_rel (P := Tryz.prog) (sz := 1) (l := l) hw (by simp [elems]) hX
    unfold RelV at hX
    obtain ⟨base, cap, rfl, ⟨hle, _⟩, hcap, hbase⟩ := hX
    cases base with
    | none => simp only at hbase; omega
    | some ad =>
      have had : ad = ⟨ad.block, ad.off, none⟩ := by cases ad; simp at hbase; simp [hbase.1]
      obtain ⟨new2, q1, q2, q3, q4⟩ := cells_of_relL (fun k v hv => (hbase.2.flat.1.get hv).2)
      have hnl : new2.length = l.length := by rw [q1, n4, Nat.mul_one]
      have hblt : ad.block < w.heap.size := by
        have := q2 0 new2[0] (List.getElem?_eq_getElem (by omega))
        exact Nat.lt_of_not_le fun hge => by simp [World.cell?, Array.getElem?_eq_none hge] at this
      have hnew : ∀ w', w'.heap = (addObj w (.cells #[] 9 (0, 0))).heap → (Builtin.firstCells 1 l.length (.slice (some ad) l.length cap)).run Tryz.prog w' = .ok new2.toArray w' := fun w' hh => by
        rw [had]
        refine run_firstCells_some w' 1 l.length _ l.length cap new2 (by omega) fun j v hv => ?_
        rw [add_at, cell_congr (w := w) (by rw [hh]; exact addObj_old hblt)]
        exact q2 j v hv
      obtain ⟨nc, rest, m1, m2, m3, m4⟩ := run_append_new (P := Tryz.prog) (w := addObj w (.cells #[] 9 (0, 0))) (base := some ⟨w.heap.size, 0, none⟩) (n := 0) (cap := 0) (m := l.length) (Y := .slice (some ad) l.length cap) (old := []) (new := new2) 55 hT he hR (fun w' => by simp [Builtin.lenOf]) (fun w' _ => by simp [Builtin.firstCells, loadCells, loadCellsFrom]) hnew (by omega) (by unfold roomy; omega)
      simp only [Nat.zero_add, List.nil_append] at m1 m3 m4
      refine (clone_row ad l.length cap w _ _ (fun ty => by rw [hal, show Builtin.append_ #[55, 55] ty = Builtin.append_ #[55, 55] 55 from rfl]; exact m4)).mono ?_
      rintro e w' ⟨rfl, rfl⟩
      have hdr : Chg μ lim (addObj w (.cells #[] 9 (0, 0))) σ μ lim (addObj w (.cells #[] 9 (0, 0))).drew σ := chg_heap c1.wrel rfl rfl rfl rfl
      have q3' := RelVs.ext (c1.ext hw) _ _ q3
      obtain ⟨g1, g2, g3⟩ := push_prefix (w := (addObj w (.cells #[] 9 (0, 0))).drew) hdr.wrel hb 9 (RelVs.ext (ext_heap (w := addObj w (.cells #[] 9 (0, 0))) (w' := (addObj w (.cells #[] 9 (0, 0))).drew) rfl) _ _ q3') q4 rest
      refine ⟨_, _, lim, rfl, (c1.trans hdr).trans g1, ?_⟩
      unfold RelV
      refine ⟨_, nc, g2, m1, m2, rfl, ?_⟩
      rw [g3, m3, hnl]
      omega
  · cases h
end Go.AbN

namespace Go.AbN
open Go Go.Ab Go.Proofs Go.Proofs.YtbmklhpjjmfhcaaGreatDoor Go.RowKit

def dig (n : Nat) : List UInt8 := if n < 10 then [UInt8.ofNat (48 + n)] else [UInt8.ofNat (48 + n / 10), UInt8.ofNat (48 + n % 10)]
theorem dig_eq {n : Nat} (h : n < 100) : Lib.decDigits n = dig n := by
  unfold dig
  split
  · rename_i h1; rw [Lib.decDigits, dif_pos h1]
  · rename_i h1
    rw [Lib.decDigits, dif_neg h1, Lib.decDigits, dif_pos (by omega)]
    rfl

def itoaK : List V → Option V
  | [.sc (.int .i64 n)] => if 0 ≤ n ∧ n < 100 then some (.str ⟨(dig n.toNat).toArray⟩) else none
  | _ => none
theorem itoa_ok {xs : List V} {v : V} (h : itoaK xs = some v) (σ : St) : OkAt Tryz.prog 153 xs σ v σ := by
  intro μ lim w args hw _ hx
  unfold itoaK at h
  split at h
  case h_2 => cases h
  rename_i n
  split at h
  case isFalse => cases h
  rename_i hn
  cases h
  obtain ⟨X, rfl, hX⟩ := args1 hx
  have hXe : X = .int .i64 (n.toNat : Nat) := by rw [relSc hX]; congr 1; omega
  subst hXe
  refine (Tryz.strconv_Itoa_small n.toNat (by omega) w).mono ?_
  rintro e w' ⟨rfl, rfl⟩
  refine ⟨_, μ, lim, rfl, Chg.refl hw, ?_⟩
  rw [dig_eq (by omega)]
  exact scRel rfl


def lenK : List V → Option V
  | [.sc (.int .u64 x)] => if 0 ≤ x ∧ x ≤ 18446744073709551615 then some (.int (Lib.bitLen x.toNat)) else none
  | _ => none
theorem len_ok {xs : List V} {v : V} (h : lenK xs = some v) (σ : St) : OkAt Tryz.prog 144 xs σ v σ := by
  intro μ lim w args hw _ hx
  unfold lenK at h
  split at h
  case h_2 => cases h
  rename_i n
  split at h
  case isFalse => cases h
  rename_i hn
  cases h
  obtain ⟨X, rfl, hX⟩ := args1 hx
  rw [relSc hX]
  refine (Tryz.bits_Len n w hn.1 hn.2).mono ?_
  rintro e w' ⟨rfl, rfl⟩
  exact ⟨_, μ, lim, rfl, Chg.refl hw, scRel rfl⟩


def byteK : List V → Option V
  | [.sc (.string s), .sc (.int .u8 c)] => some (.int (Lib.indexByte s.data.toList c.toNat.toUInt8))
  | _ => none
theorem byte_ok {xs : List V} {v : V} (h : byteK xs = some v) (σ : St) : OkAt Tryz.prog 309 xs σ v σ := by
  intro μ lim w args hw _ hx
  unfold byteK at h
  split at h
  case h_2 => cases h
  rename_i s c
  cases h
  obtain ⟨X, Y, rfl, hX, hY⟩ := args2 hx
  rw [relSc hX, relSc hY]
  refine (Tryz.strings_IndexByte s c w).mono ?_
  rintro e w' ⟨rfl, rfl⟩
  exact ⟨_, μ, lim, rfl, Chg.refl hw, scRel rfl⟩


/-! ## strings.Fields -/

def fieldsK : List V → Option V
  | [.sc (.string s)] => if s.size < 65536 ∧ s.data.toList.all (fun b => decide (b.toNat < 128)) = true then some (.slice .no 1 ((Lib.fields s.data.toList).map fun l => [.str ⟨l.toArray⟩])) else none
  | _ => none
theorem gSpace : Tryz.prog.globalNamed "strings.asciiSpace" = some 4 := by kernel_rfl
theorem fieldsGo_len : ∀ (l cur : List UInt8), (Lib.fieldsGo cur l).length ≤ l.length + 1
  | [], cur => by simp only [Lib.fieldsGo]; split <;> simp
  | b :: l, cur => by
    simp only [Lib.fieldsGo]
    split
    · split
      · have := fieldsGo_len l []; simp; omega
      · have := fieldsGo_len l []; simp; omega
    · have := fieldsGo_len l (cur ++ [b]); simp; omega
theorem fields_ok {xs : List V} {v : V} (h : fieldsK xs = some v) (σ : St) : OkAt Tryz.prog 338 xs σ v σ := by
  intro μ lim w args hw _ hx
  unfold fieldsK at h
  split at h
  case h_2 => cases h
  rename_i s
  split at h
  case isFalse => cases h
  rename_i hs
  cases h
  obtain ⟨X, rfl, hX⟩ := args1 hx
  rw [relSc hX]
  have htab : Lib.TabIs Tryz.prog w "strings.asciiSpace" .u8 Lib.asciiSpaceTab := by
    obtain ⟨_, ty, fr, h2⟩ := hw.glob (4, (Lib.asciiSpaceTab.map fun z => Value.int .u8 z).toArray) (by unfold GL; first | exact .head _ | exact .tail _ (.head _))
    unfold Lib.TabIs World.var?
    rw [gSpace]
    simp only [Option.bind_some, h2]
  refine (Tryz.strings_Fields s w (by omega) (fun j b hb => by
    have := List.all_eq_true.1 hs.2 b (List.mem_of_getElem? hb)
    simpa using this) htab).mono ?_
  rintro e w' ⟨rfl, rfl⟩
  have hlen : (Lib.fields s.data.toList).length ≤ 65536 := by
    have := fieldsGo_len s.data.toList []
    have h2 : s.data.toList.length = s.size := Array.length_toList
    unfold Lib.fields
    omega
  have hbel : Below w.heap.size w (addObj w (.cells ((Lib.fields s.data.toList).map fun l => Value.string ⟨l.toArray⟩).toArray 9 (0, 0))) :=
    ⟨rfl, rfl, rfl, by rw [addObj_size]; omega, fun k hk => addObj_old hk⟩
  have hflat : ((Lib.fields s.data.toList).map fun l => [V.str ⟨l.toArray⟩]).flatten = (Lib.fields s.data.toList).map fun l => V.str ⟨l.toArray⟩ := by
    induction Lib.fields s.data.toList with
    | nil => rfl
    | cons a l ih => simp [ih]
  obtain ⟨lim', h3, h4⟩ := row_new (l := (Lib.fields s.data.toList).map fun l => [V.str ⟨l.toArray⟩]) (news := (Lib.fields s.data.toList).map fun l => Value.string ⟨l.toArray⟩) (n := (Lib.fields s.data.toList).length) (cap := (Lib.fields s.data.toList).length)
    hw hbel (Nat.le_refl _) (addObj_new w _) (by
      rw [hflat]
      refine RelVs.of_get (by simp) fun k v x hv hx => ?_
      simp only [List.getElem?_map, Option.map_eq_some_iff] at hv hx
      obtain ⟨a, ha, rfl⟩ := hv
      obtain ⟨b, hb, rfl⟩ := hx
      rw [ha] at hb
      cases hb
      exact scRel rfl) (by
      intro v hv
      simp only [List.mem_map] at hv
      obtain ⟨a, _, rfl⟩ := hv
      rfl) (by
      intro cs hc
      simp only [List.mem_map] at hc
      obtain ⟨a, _, rfl⟩ := hc
      rfl) (by simp) (fun k _ => by simp) ⟨Nat.le_refl _, by omega⟩
  exact ⟨_, μ, lim', rfl, h3, h4⟩


def compareK : List V → Option V
  | [.sc (.string a), .sc (.string b)] => some (.int (Lib.compareBytes a.data.toList b.data.toList))
  | _ => none
theorem compare_ok {xs : List V} {v : V} (h : compareK xs = some v) (σ : St) : OkAt Tryz.prog 232 xs σ v σ := by
  intro μ lim w args hw _ hx
  unfold compareK at h
  split at h
  case h_2 => cases h
  cases h
  obtain ⟨X, Y, rfl, hX, hY⟩ := args2 hx
  rw [relSc hX, relSc hY]
  refine (Tryz.bytealg_CompareString _ _ w).mono ?_
  rintro e w' ⟨rfl, rfl⟩
  exact ⟨_, μ, lim, rfl, Chg.refl hw, scRel rfl⟩

def atoiK : List V → Option V
  | [.sc (.string s)] => if s.size ≤ 18 then (Lib.atoi s.data.toList).map fun n => .tup [.int n, .sc .nilIface] else none
  | _ => none
theorem atoi_ok {xs : List V} {v : V} (h : atoiK xs = some v) (σ : St) : OkAt Tryz.prog 330 xs σ v σ := by
  intro μ lim w args hw _ hx
  unfold atoiK at h
  split at h
  case h_2 => cases h
  rename_i s
  split at h
  case isFalse => cases h
  rename_i hs
  obtain ⟨n, hn, rfl⟩ := Option.map_eq_some_iff.1 h
  obtain ⟨X, rfl, hX⟩ := args1 hx
  rw [relSc hX]
  refine (Tryz.strconv_Atoi s n hs hn w).mono ?_
  rintro e w' ⟨rfl, t, rfl⟩
  obtain ⟨h2, hx2⟩ := chg_below (lim' := lim) hw (Go.Joins.below_bytesWorld w.heap.size w 5 t (Nat.le_refl _)) (fun _ _ => rfl) (fun b hb => hw.fresh b (by have := (Go.Joins.below_bytesWorld w.heap.size w 5 t (Nat.le_refl _)).size; omega))
  refine ⟨_, μ, lim, rfl, h2, ?_⟩
  unfold RelV
  refine ⟨_, rfl, ?_⟩
  unfold RelVs RelVs RelVs
  exact ⟨scRel rfl, scRel rfl, trivial⟩

def clone61_ren : Go.Shelf.Ren := ⟨fun | 41 => 61 | n => n, fun | 22 => 102 | 23 => 170 | 4 => 4 | n => n, fun | n => n⟩
theorem clone61_lays : Go.Proofs.SlLaysE0.n41 Tryz.prog clone61_ren := {
  mixed := by kernel_rfl
  f41 := ⟨Tryz.f61.name, by decide, Tryz.func61.trans (congrArg some (by kernel_rfl))⟩
  t4 := Tryz.underlying4
  a4 := Tryz.isAgg4
  z4 := Tryz.sizeOf4
  v4 := Tryz.zeroValue4
  t22 := Tryz.underlying102
  a22 := Tryz.isAgg102
  z22 := Tryz.sizeOf102
  v22 := Tryz.zeroValue102 }
theorem info61 : (Tryz.prog.info? 170).isSome = true ∧ (∀ i, Tryz.prog.info? 170 = some i → ∃ z, i.zero = some z ∧ z.cells.size = i.size ∧ 0 < i.size) := by
  obtain ⟨i0, hi, he⟩ := Option.map_eq_some_iff.1 (show (Tryz.prog.info? 170).map (fun i => i.zero.map fun z => decide (z.cells.size = i.size ∧ 0 < i.size)) = some (some true) by kernel_rfl)
  obtain ⟨z, hz, hd⟩ := Option.map_eq_some_iff.1 he
  refine ⟨by rw [hi]; rfl, fun i h => ?_⟩
  rw [hi] at h
  cases h
  exact ⟨z, hz, of_decide_eq_true hd⟩

theorem clone61 {xs : List V} {v : V} (h : emptyK xs = some v) (σ : St) : OkAt Tryz.prog 61 xs σ v σ := by
  obtain ⟨h1, h2⟩ := info61
  obtain ⟨i0, hi⟩ := Option.isSome_iff_exists.1 h1
  obtain ⟨z, hz, hzs, hsz⟩ := h2 i0 hi
  refine empty_gen (T := 170) (sz := i0.size) (fun n c w => AnyE.slices_Clone_nil clone61_lays n c w) (fun b off c w => ?_) h σ
  exact AnyE.slices_Clone clone61_lays i0 z i0.size i0.bytes hi hz rfl rfl hzs hsz (fun w => by simp [Go.sizeOf, typeInfo, clone61_ren, hi]) b off 0 c [] w (by simp) (by unfold maxLen; omega) (by omega) (fun j u h => by simp at h) (fun u hu => by simp at hu)

def clone62_ren : Go.Shelf.Ren := ⟨fun | 41 => 62 | n => n, fun | 22 => 99 | 23 => 101 | 4 => 4 | n => n, fun | n => n⟩
theorem clone62_lays : Go.Proofs.SlLaysE0.n41 Tryz.prog clone62_ren := {
  mixed := by kernel_rfl
  f41 := ⟨Tryz.f62.name, by decide, Tryz.func62.trans (congrArg some (by kernel_rfl))⟩
  t4 := Tryz.underlying4
  a4 := Tryz.isAgg4
  z4 := Tryz.sizeOf4
  v4 := Tryz.zeroValue4
  t22 := Tryz.underlying99
  a22 := Tryz.isAgg99
  z22 := Tryz.sizeOf99
  v22 := Tryz.zeroValue99 }
theorem info62 : (Tryz.prog.info? 101).isSome = true ∧ (∀ i, Tryz.prog.info? 101 = some i → ∃ z, i.zero = some z ∧ z.cells.size = i.size ∧ 0 < i.size) := by
  obtain ⟨i0, hi, he⟩ := Option.map_eq_some_iff.1 (show (Tryz.prog.info? 101).map (fun i => i.zero.map fun z => decide (z.cells.size = i.size ∧ 0 < i.size)) = some (some true) by kernel_rfl)
  obtain ⟨z, hz, hd⟩ := Option.map_eq_some_iff.1 he
  refine ⟨by rw [hi]; rfl, fun i h => ?_⟩
  rw [hi] at h
  cases h
  exact ⟨z, hz, of_decide_eq_true hd⟩

theorem clone62 {xs : List V} {v : V} (h : emptyK xs = some v) (σ : St) : OkAt Tryz.prog 62 xs σ v σ := by
  obtain ⟨h1, h2⟩ := info62
  obtain ⟨i0, hi⟩ := Option.isSome_iff_exists.1 h1
  obtain ⟨z, hz, hzs, hsz⟩ := h2 i0 hi
  refine empty_gen (T := 101) (sz := i0.size) (fun n c w => AnyE.slices_Clone_nil clone62_lays n c w) (fun b off c w => ?_) h σ
  exact AnyE.slices_Clone clone62_lays i0 z i0.size i0.bytes hi hz rfl rfl hzs hsz (fun w => by simp [Go.sizeOf, typeInfo, clone62_ren, hi]) b off 0 c [] w (by simp) (by unfold maxLen; omega) (by omega) (fun j u h => by simp at h) (fun u hu => by simp at hu)

def clone63_ren : Go.Shelf.Ren := ⟨fun | 41 => 63 | n => n, fun | 22 => 103 | 23 => 174 | 4 => 4 | n => n, fun | n => n⟩
theorem clone63_lays : Go.Proofs.SlLaysE0.n41 Tryz.prog clone63_ren := {
  mixed := by kernel_rfl
  f41 := ⟨Tryz.f63.name, by decide, Tryz.func63.trans (congrArg some (by kernel_rfl))⟩
  t4 := Tryz.underlying4
  a4 := Tryz.isAgg4
  z4 := Tryz.sizeOf4
  v4 := Tryz.zeroValue4
  t22 := Tryz.underlying103
  a22 := Tryz.isAgg103
  z22 := Tryz.sizeOf103
  v22 := Tryz.zeroValue103 }
theorem info63 : (Tryz.prog.info? 174).isSome = true ∧ (∀ i, Tryz.prog.info? 174 = some i → ∃ z, i.zero = some z ∧ z.cells.size = i.size ∧ 0 < i.size) := by
  obtain ⟨i0, hi, he⟩ := Option.map_eq_some_iff.1 (show (Tryz.prog.info? 174).map (fun i => i.zero.map fun z => decide (z.cells.size = i.size ∧ 0 < i.size)) = some (some true) by kernel_rfl)
  obtain ⟨z, hz, hd⟩ := Option.map_eq_some_iff.1 he
  refine ⟨by rw [hi]; rfl, fun i h => ?_⟩
  rw [hi] at h
  cases h
  exact ⟨z, hz, of_decide_eq_true hd⟩

theorem clone63 {xs : List V} {v : V} (h : emptyK xs = some v) (σ : St) : OkAt Tryz.prog 63 xs σ v σ := by
  obtain ⟨h1, h2⟩ := info63
  obtain ⟨i0, hi⟩ := Option.isSome_iff_exists.1 h1
  obtain ⟨z, hz, hzs, hsz⟩ := h2 i0 hi
  refine empty_gen (T := 174) (sz := i0.size) (fun n c w => AnyE.slices_Clone_nil clone63_lays n c w) (fun b off c w => ?_) h σ
  exact AnyE.slices_Clone clone63_lays i0 z i0.size i0.bytes hi hz rfl rfl hzs hsz (fun w => by simp [Go.sizeOf, typeInfo, clone63_ren, hi]) b off 0 c [] w (by simp) (by unfold maxLen; omega) (by omega) (fun j u h => by simp at h) (fun u hu => by simp at hu)

def clone65_ren : Go.Shelf.Ren := ⟨fun | 41 => 65 | n => n, fun | 22 => 55 | 23 => 9 | 4 => 4 | n => n, fun | n => n⟩
theorem clone65_lays : Go.Proofs.SlLaysE0.n41 Tryz.prog clone65_ren := {
  mixed := by kernel_rfl
  f41 := ⟨Tryz.f65.name, by decide, Tryz.func65.trans (congrArg some (by kernel_rfl))⟩
  t4 := Tryz.underlying4
  a4 := Tryz.isAgg4
  z4 := Tryz.sizeOf4
  v4 := Tryz.zeroValue4
  t22 := Tryz.underlying55
  a22 := Tryz.isAgg55
  z22 := Tryz.sizeOf55
  v22 := Tryz.zeroValue55 }
theorem info65 : (Tryz.prog.info? 9).isSome = true ∧ (∀ i, Tryz.prog.info? 9 = some i → ∃ z, i.zero = some z ∧ z.cells.size = i.size ∧ 0 < i.size) := by
  obtain ⟨i0, hi, he⟩ := Option.map_eq_some_iff.1 (show (Tryz.prog.info? 9).map (fun i => i.zero.map fun z => decide (z.cells.size = i.size ∧ 0 < i.size)) = some (some true) by kernel_rfl)
  obtain ⟨z, hz, hd⟩ := Option.map_eq_some_iff.1 he
  refine ⟨by rw [hi]; rfl, fun i h => ?_⟩
  rw [hi] at h
  cases h
  exact ⟨z, hz, of_decide_eq_true hd⟩

theorem zero65 : (Tryz.prog.info? 9).map (fun i => (i.size, i.bytes, i.zero)) = some (1, 16, some (.string ⟨#[]⟩)) := by kernel_rfl
theorem clone65 {xs : List V} {v : V} (h : cloneK xs = some v) (σ : St) : OkAt Tryz.prog 65 xs σ v σ := by
  obtain ⟨i0, hi, he⟩ := Option.map_eq_some_iff.1 zero65
  simp only [Prod.mk.injEq] at he
  obtain ⟨e1, e2, e3⟩ := he
  refine clone_gen (T := 9) (fun n c w => AnyE.slices_Clone_nil clone65_lays n c w) (fun b off n c news w hl hn hc h1 => ?_) h σ
  exact AnyE.slices_Clone clone65_lays i0 _ 1 16 hi e3 e1 e2 rfl (by decide) (fun w => by simp [Go.sizeOf, typeInfo, clone65_ren, hi, e1]) b off n c news w hl (by unfold maxLen; omega) (by omega) hc (fun u hu => by have := h1 u hu; cases u <;> first | rfl | simp [Value.oneCell] at this)

theorem clone65_new {xs : List V} {σ σ' : St} {v : V} (h : cloneNew xs σ = some (v, σ')) : OkAt Tryz.prog 65 xs σ v σ' := cloneNew_ok h fun n c w => AnyE.slices_Clone_nil clone65_lays n c w

def clone145_ren : Go.Shelf.Ren := ⟨fun | 41 => 145 | n => n, fun | 22 => 81 | 23 => 4 | 4 => 4 | n => n, fun | n => n⟩
theorem clone145_lays : Go.Proofs.SlLaysE0.n41 Tryz.prog clone145_ren := {
  mixed := by kernel_rfl
  f41 := ⟨Tryz.f145.name, by decide, Tryz.func145.trans (congrArg some (by kernel_rfl))⟩
  t4 := Tryz.underlying4
  a4 := Tryz.isAgg4
  z4 := Tryz.sizeOf4
  v4 := Tryz.zeroValue4
  t22 := Tryz.underlying81
  a22 := Tryz.isAgg81
  z22 := Tryz.sizeOf81
  v22 := Tryz.zeroValue81 }
theorem info145 : (Tryz.prog.info? 4).isSome = true ∧ (∀ i, Tryz.prog.info? 4 = some i → ∃ z, i.zero = some z ∧ z.cells.size = i.size ∧ 0 < i.size) := by
  obtain ⟨i0, hi, he⟩ := Option.map_eq_some_iff.1 (show (Tryz.prog.info? 4).map (fun i => i.zero.map fun z => decide (z.cells.size = i.size ∧ 0 < i.size)) = some (some true) by kernel_rfl)
  obtain ⟨z, hz, hd⟩ := Option.map_eq_some_iff.1 he
  refine ⟨by rw [hi]; rfl, fun i h => ?_⟩
  rw [hi] at h
  cases h
  exact ⟨z, hz, of_decide_eq_true hd⟩

theorem zero145 : (Tryz.prog.info? 4).map (fun i => (i.size, i.bytes, i.zero)) = some (1, 1, some (.bool false)) := by kernel_rfl
theorem clone145 {xs : List V} {v : V} (h : cloneK xs = some v) (σ : St) : OkAt Tryz.prog 145 xs σ v σ := by
  obtain ⟨i0, hi, he⟩ := Option.map_eq_some_iff.1 zero145
  simp only [Prod.mk.injEq] at he
  obtain ⟨e1, e2, e3⟩ := he
  refine clone_gen (T := 4) (fun n c w => AnyE.slices_Clone_nil clone145_lays n c w) (fun b off n c news w hl hn hc h1 => ?_) h σ
  exact AnyE.slices_Clone clone145_lays i0 _ 1 1 hi e3 e1 e2 rfl (by decide) (fun w => by simp [Go.sizeOf, typeInfo, clone145_ren, hi, e1]) b off n c news w hl (by unfold maxLen; omega) (by omega) hc (fun u hu => by have := h1 u hu; cases u <;> first | rfl | simp [Value.oneCell] at this)

/-- What is known. -/
def KT : KnT := fun f => match f with
  | 61 => some (.v emptyK)
  | 62 => some (.v emptyK)
  | 63 => some (.v emptyK)
  | 65 => some (.s cloneNew)
  | 144 => some (.v lenK)
  | 145 => some (.v cloneK)
  | 153 => some (.v itoaK)
  | 173 => some (.s checkK)
  | 232 => some (.v compareK)
  | 309 => some (.v byteK)
  | 330 => some (.v atoiK)
  | 338 => some (.v fieldsK)
  | _ => none

theorem kt_ok : CallOK Tryz.prog (knOf KT) := by
  have key : ∀ (o : Option V) (σ : St) (v : V) (σ' : St), (o.map fun v => (v, σ)) = some (v, σ') → o = some v ∧ σ' = σ := by
    intro o σ v σ' h
    cases o with
    | none => cases h
    | some x => simp at h; exact ⟨by rw [h.1], h.2.symm⟩
  intro f xs σ v σ' h
  unfold knOf at h
  split at h
  · rename_i g hg
    obtain ⟨h2, h3⟩ := key _ _ _ _ h
    subst h3
    unfold KT at hg
    split at hg
    · cases hg; exact ⟨by kernel_rfl, clone61 h2 _⟩
    · cases hg; exact ⟨by kernel_rfl, clone62 h2 _⟩
    · cases hg; exact ⟨by kernel_rfl, clone63 h2 _⟩
    · cases hg
    · cases hg; exact ⟨by kernel_rfl, len_ok h2 _⟩
    · cases hg; exact ⟨by kernel_rfl, clone145 h2 _⟩
    · cases hg; exact ⟨by kernel_rfl, itoa_ok h2 _⟩
    · cases hg
    · cases hg; exact ⟨by kernel_rfl, compare_ok h2 _⟩
    · cases hg; exact ⟨by kernel_rfl, byte_ok h2 _⟩
    · cases hg; exact ⟨by kernel_rfl, atoi_ok h2 _⟩
    · cases hg; exact ⟨by kernel_rfl, fields_ok h2 _⟩
    · cases hg
  · rename_i g hg
    unfold KT at hg
    split at hg
    · cases hg
    · cases hg
    · cases hg
    · cases hg; exact ⟨by kernel_rfl, clone65_new h⟩
    · cases hg
    · cases hg
    · cases hg
    · cases hg; exact ⟨by kernel_rfl, check_ok h⟩
    · cases hg
    · cases hg
    · cases hg
    · cases hg
    · cases hg
  · cases h
end Go.AbN
