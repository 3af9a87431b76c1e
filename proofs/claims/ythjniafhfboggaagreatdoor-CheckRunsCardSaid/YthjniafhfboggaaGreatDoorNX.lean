/- What is said of a call of the library, and what new blocks leave as it was. No premise but those named. -/
import Derived.Test.YthjniafhfboggaaGreatDoorEX
import Derived.Test.YthjniafhfboggaaGreatDoorProg
import Derived.WalkKit
import Derived.RowKitTokens
import Derived.Lib.IfaceEq
import Derived.LaidEql
import Derived.Shelf.Strings.Builder1
import Derived.Stop.Asserts
import Derived.Shelf.RegionOpenPlain
import Derived.Lib.Walk
import Derived.Lib.SliceRun
import Derived.Laws.Externs
import Derived.Test.YthjniafhfboggaaGreatDoorShelf
import Derived.Test.YthjniafhfboggaaGreatDoorS1
import Derived.Lib.SmallJoins
import Derived.Shelf.SlicesE.Clone
import Derived.Lib.AppendIntMem
namespace Go.AbN
open Go Go.Ab Go.Proofs Go.RowKit

section
variable {P : Program} {μ : List Nat} {lim : Nat → Nat} {w : World} {σ : St}

theorem args1 {v : V} {args : Array Value} (h : RelVs μ lim w [v] args.toList) : ∃ X, args = #[X] ∧ RelV μ lim w v X := by
  cases args with | mk l =>
  match l, h with
  | [X], h => unfold RelVs at h; exact ⟨X, rfl, h.1⟩
  | [], h => unfold RelVs at h; exact h.elim
  | _ :: _ :: _, h => unfold RelVs at h; have := h.2; unfold RelVs at this; exact this.elim
theorem args2 {v u : V} {args : Array Value} (h : RelVs μ lim w [v, u] args.toList) : ∃ X Y, args = #[X, Y] ∧ RelV μ lim w v X ∧ RelV μ lim w u Y := by
  cases args with | mk l =>
  match l, h with
  | [X, Y], h => unfold RelVs at h; have := h.2; unfold RelVs at this; exact ⟨X, Y, rfl, h.1, this.1⟩
  | [], h => unfold RelVs at h; exact h.elim
  | [_], h => unfold RelVs at h; have := h.2; unfold RelVs at this; exact this.elim
  | _ :: _ :: _ :: _, h => unfold RelVs at h; have := h.2; unfold RelVs at this; have := this.2; unfold RelVs at this; exact this.elim

/-- What is said of a call is so. -/
def OkAt (P : Program) (f : FuncId) (xs : List V) (σ : St) (v : V) (σ' : St) : Prop :=
  ∀ (μ : List Nat) (lim : Nat → Nat) (w : World) (args : Array Value), WRel μ lim w σ → σ.base ≤ σ.objs.length → RelVs μ lim w xs args.toList →
    Calls P f args w fun e w' => ∃ y μ' lim', e = .returned y ∧ Chg μ lim w σ μ' lim' w' σ' ∧ RelV μ' lim' w' v y

/-- New blocks alone. -/
theorem chg_below (hw : WRel μ lim w σ) {w' : World} {lim' : Nat → Nat} (h : Below w.heap.size w w') (hl : ∀ b, b < w.heap.size → lim' b = lim b) (hf : ∀ b, w'.heap.size ≤ b → lim' b = 0) : Chg μ lim w σ μ lim' w' σ ∧ Ext μ lim w μ lim' w' := by
  have hx : Ext μ lim w μ lim' w' := ⟨fun _ _ x => x, fun b o ho => by
      have hb := hw.lim_lt ho
      exact ⟨by rw [hl b hb]; exact ho, cell_congr (h.block b hb) o⟩, fun b => by
      rcases Nat.lt_or_ge b w.heap.size with hb | hb
      · rw [bsize_congr (h.block b hb)]; exact Nat.le_refl _
      · rw [bsize_ge hb]; exact Nat.zero_le _⟩
  refine ⟨⟨h.os, h.tape, h.output, h.size, fun _ _ x => x, fun b hb _ => ⟨h.block b hb, hl b hb⟩, fun b _ => hx.size b, fun id b ha hb hm => .inr ⟨id, hb, ha, hm⟩, rfl, fun _ _ => rfl, Nat.le_refl _, fun _ hp => hw.glob_lt hp,
    ⟨hw.len, fun id b hm => Nat.lt_of_lt_of_le (hw.lt id b hm) h.size, hw.inj, fun id b o ho hm => (hw.obj id b o ho hm).ext hx (h.block b (hw.lt id b hm)) (hl b (hw.lt id b hm)), hf, glob_keep hw.glob fun p _ _ hlt => ⟨h.block p.1 hlt, hl p.1 hlt⟩⟩⟩, hx⟩

/-- A new block that nothing leads to. -/
theorem chg_add0 (hw : WRel μ lim w σ) (o : Go.Obj) : Chg μ lim w σ μ lim (addObj w o) σ := by
  have h := chg_add hw o 0
  have hlim : (fun b => if b = w.heap.size then 0 else lim b) = lim := by
    funext b
    split
    · rename_i h; rw [hw.fresh b (by omega)]
    · rfl
  rwa [hlim] at h

/-- A row of leaves in a new block, below which all is as it was. -/
theorem row_new (hw : WRel μ lim w σ) {w' : World} (h : Below w.heap.size w w') {g : Nat} {cur : Array Value} {ty : TypeId} {fr : Nat × Nat} {l : List (List V)} {news : List Value} {n cap : Nat} (hg : w.heap.size ≤ g) (hgb : w'.heap[g]? = some (.cells cur ty fr))
    (hr : RelVs μ lim w l.flatten news) (h1 : ∀ v ∈ news, v.oneCell = true) (hs : ∀ cs ∈ l, cs.length = 1) (hln : l.length = n) (hcur : ∀ k, k < news.length → cur[k]? = news[k]?) (hcap : n ≤ cap ∧ cap < 2 ^ 63) :
    ∃ lim', Chg μ lim w σ μ lim' w' σ ∧ RelV μ lim' w' (.slice .no 1 l) (.slice (some ⟨g, 0, none⟩) n cap) := by
  have hglt : g < w'.heap.size := (Array.getElem?_eq_some_iff.1 hgb).1
  obtain ⟨h2, hx⟩ := chg_below (lim' := fun b => if b = g then n else lim b) hw h (fun b hb => if_neg (by omega)) (fun b hb => by
    have : b ≠ g := by omega
    simp only [if_neg this]
    exact hw.fresh b (by have := h.size; omega))
  refine ⟨_, h2, ?_⟩
  have hfl := flat_len 1 l hs
  unfold RelV
  refine ⟨some ⟨g, 0, none⟩, cap, by rw [hln], ⟨by rw [hln]; exact hcap.1, by simp⟩, hcap.2, rfl, RelLL.of_flat hs (RelL.of_get fun k v hv => ?_)⟩
  have hkl := (List.getElem?_eq_some_iff.1 hv).1
  obtain ⟨x, hxk, hrx⟩ := hr.get hv
  refine ⟨by simp only [if_true]; omega, x, ?_, hrx.ext hx, h1 x (List.mem_of_getElem? hxk)⟩
  have := hcur k (List.getElem?_eq_some_iff.1 hxk).1
  rw [hxk] at this
  simp [World.cell?, hgb, this]
end

/-! ## slices.Clone -/

def cloneK : List V → Option V
  | [.slice _ 1 l] => if l.length ≤ 4294967296 then some (.slice .no 1 l) else none
  | _ => none

theorem cap_lt {c : Nat} (h : c ≤ maxLen) : c < 2 ^ 63 := by unfold maxLen at h; omega

theorem clone_gen {f : FuncId} {T : TypeId} (hnil : ∀ (n c : Nat) (w : World), Calls Tryz.prog f #[.slice none n c] w fun e w' => e = .returned (.slice none 0 0) ∧ w' = w)
    (hrow : ∀ (b off n c : Nat) (news : List Value) (w : World), news.length = n * 1 → n ≤ 4294967296 → (∀ j u, news[j]? = some u → w.cell? ⟨b, off + j, none⟩ = some u) → (∀ u ∈ news, u.oneCell = true) →
      Calls Tryz.prog f #[.slice (some ⟨b, off, none⟩) n c] w fun e w' => ∃ v', e = .returned v' ∧ w'.ownsRow w.heap.size T 1 v' n news ∧ v' ≠ .slice none 0 0 ∧ Below w.heap.size w w')
    {xs : List V} {v : V} (h : cloneK xs = some v) (σ : St) : OkAt Tryz.prog f xs σ v σ := by
  intro μ lim w args hw _ hx
  unfold cloneK at h
  split at h
  case h_2 => cases h
  rename_i o l
  split at h
  case isFalse => cases h
  rename_i hl
  cases h
  obtain ⟨X, rfl, hX⟩ := args1 hx
  unfold RelV at hX
  obtain ⟨base, cap, rfl, ⟨hle, _⟩, hcap, hbase⟩ := hX
  cases base with
  | none =>
    simp only at hbase
    subst hbase
    have hl0 : l = [] := List.eq_nil_of_length_eq_zero (by omega)
    subst hl0
    refine (hnil _ _ w).mono ?_
    rintro e w' ⟨rfl, rfl⟩
    refine ⟨_, μ, lim, rfl, Chg.refl hw, ?_⟩
    unfold RelV
    exact ⟨none, 0, rfl, ⟨Nat.le_refl _, by simp⟩, by decide, rfl⟩
  | some ad =>
    obtain ⟨hsp, hll⟩ := hbase
    have had : ad = ⟨ad.block, ad.off, none⟩ := by cases ad; simp at hsp; simp [hsp]
    obtain ⟨hflat, hfl⟩ := RelLL.flat hll
    have hs : ∀ cs ∈ l, cs.length = 1 := by
      intro cs hc
      obtain ⟨i, hi⟩ := List.getElem?_of_mem hc
      exact (hll.get hi).1
    obtain ⟨news, n1, n2, n3⟩ : ∃ news : List Value, RelVs μ lim w l.flatten news ∧ (∀ j u, news[j]? = some u → w.cell? ⟨ad.block, ad.off + j, none⟩ = some u) ∧ ∀ u ∈ news, u.oneCell = true := by
      have hget : ∀ j, j < l.flatten.length → ∃ c, w.cell? ⟨ad.block, ad.off + j, none⟩ = some c ∧ RelV μ lim w (l.flatten.getD j .undef) c ∧ c.oneCell = true := by
        intro j hj
        have := hflat.get (List.getElem?_eq_getElem hj)
        obtain ⟨_, c, h1, h2, h3⟩ := this
        refine ⟨c, h1, ?_, h3⟩
        rw [List.getD_eq_getElem?_getD, List.getElem?_eq_getElem hj]
        exact h2
      refine ⟨(List.range l.flatten.length).map fun j => (w.cell? ⟨ad.block, ad.off + j, none⟩).getD undef, ?_, ?_, ?_⟩
      · refine RelVs.of_get (by simp) fun k v x hv hx => ?_
        have hkl := (List.getElem?_eq_some_iff.1 hv).1
        obtain ⟨c, h1, h2, _⟩ := hget k hkl
        simp only [List.getElem?_map, List.getElem?_range hkl, Option.map_some, h1, Option.getD_some, Option.some.injEq] at hx
        subst hx
        rw [List.getD_eq_getElem?_getD, hv] at h2
        exact h2
      · intro j u hu
        simp only [List.getElem?_map, Option.map_eq_some_iff] at hu
        obtain ⟨k, hk, rfl⟩ := hu
        have hkj : k = j ∧ j < l.flatten.length := by
          have := List.getElem?_eq_some_iff.1 hk
          obtain ⟨h1, h2⟩ := this
          simp at h1 h2
          exact ⟨h2.symm, by simpa using h1⟩
        obtain ⟨rfl, hkl⟩ := hkj
        obtain ⟨c, h1, _⟩ := hget k hkl
        simp [h1]
      · intro u hu
        simp only [List.mem_map, List.mem_range] at hu
        obtain ⟨k, hk, rfl⟩ := hu
        obtain ⟨c, h1, _, h3⟩ := hget k hk
        simp [h1, h3]
    rw [had]
    refine (hrow ad.block ad.off l.length cap news w (by rw [← n1.length, hfl]) hl n2 n3).mono ?_
    rintro e w' ⟨v', rfl, ho, hne, hbel⟩
    rcases ho.2 with ⟨h1, _⟩ | ⟨g, cap', cur, h1, h2, h3, h4, h5, h6, h7⟩
    · exact absurd h1 hne
    · subst h1
      obtain ⟨lim', k1, k2⟩ := row_new (l := l) (news := news) (n := l.length) (cap := cap') hw hbel h2 h3 n1 n3 hs rfl (fun k hk => by
        have hnl : news.length = l.length * 1 := ho.1
        rw [← h7, List.getElem?_take_of_lt (by omega), Array.getElem?_toList]) ⟨h4, cap_lt h5⟩
      exact ⟨_, μ, lim', rfl, k1, k2⟩


/-- Of a row of nothing. -/
def emptyK : List V → Option V
  | [.slice _ sz []] => some (.slice .no sz [])
  | _ => none
theorem empty_gen {f : FuncId} {T : TypeId} {sz : Nat} (hnil : ∀ (n c : Nat) (w : World), Calls Tryz.prog f #[.slice none n c] w fun e w' => e = .returned (.slice none 0 0) ∧ w' = w)
    (hrow : ∀ (b off c : Nat) (w : World), Calls Tryz.prog f #[.slice (some ⟨b, off, none⟩) 0 c] w fun e w' => ∃ v', e = .returned v' ∧ w'.ownsRow w.heap.size T sz v' 0 [] ∧ v' ≠ .slice none 0 0 ∧ Below w.heap.size w w')
    {xs : List V} {v : V} (h : emptyK xs = some v) (σ : St) : OkAt Tryz.prog f xs σ v σ := by
  intro μ lim w args hw _ hx
  unfold emptyK at h
  split at h
  case h_2 => cases h
  rename_i o s
  cases h
  obtain ⟨X, rfl, hX⟩ := args1 hx
  unfold RelV at hX
  obtain ⟨base, cap, rfl, _, _, hbase⟩ := hX
  cases base with
  | none =>
    refine (hnil _ _ w).mono ?_
    rintro e w' ⟨rfl, rfl⟩
    refine ⟨_, μ, lim, rfl, Chg.refl hw, ?_⟩
    unfold RelV
    exact ⟨none, 0, rfl, ⟨Nat.le_refl _, by simp⟩, by decide, rfl⟩
  | some ad =>
    obtain ⟨hsp, _⟩ := hbase
    have had : ad = ⟨ad.block, ad.off, none⟩ := by cases ad; simp at hsp; simp [hsp]
    rw [had]
    refine (hrow ad.block ad.off cap w).mono ?_
    rintro e w' ⟨v', rfl, ho, hne, hbel⟩
    rcases ho.2 with ⟨h1, _⟩ | ⟨g, cap', cur, h1, h2, h3, h4, h5, h6, h7⟩
    · exact absurd h1 hne
    · subst h1
      refine ⟨_, μ, lim, rfl, (chg_below (lim' := lim) hw hbel (fun _ _ => rfl) (fun b hb => hw.fresh b (by have := hbel.size; omega))).1, ?_⟩
      unfold RelV
      exact ⟨_, cap', rfl, ⟨Nat.zero_le _, by simp⟩, cap_lt h5, rfl, by unfold RelLL; trivial⟩
end Go.AbN

namespace Go.Proofs.YthjniafhfboggaaGreatDoor
open Go.RowKit Go.Extern.Stop Go.Stop Go.Extern

set_option maxRecDepth 100000 in
set_option maxHeartbeats 4000000 in
/-- copyCheck at a builder that was used. -/
theorem copyCheck_used (b : Nat) (w : World) (h0 : w.cell? ⟨b, 0, none⟩ = some (.pointer (some ⟨b, 0, none⟩))) :
    Calls Tryz.prog 163 #[.pointer (some ⟨b, 0, none⟩)] w fun e w' => e = .returned (.tuple #[]) ∧ w' = w := by
  obtain ⟨j, hj, _⟩ := Option.map_eq_some_iff.1 (show (Tryz.prog.info? 154).map (·.size) = some 2 by kernel_rfl)
  go_enter Tryz.func163, Tryz.ntmps163
  go_wp2
  rw [Go.Lib.run_neq_ptr_same w _ Tryz.underlying151 hj]
  go_wp2
  go_end0
  exact ⟨rfl, rfl⟩

set_option maxRecDepth 100000 in
set_option maxHeartbeats 4000000 in
/-- copyCheck at a fresh builder: it stores its own address. -/
theorem copyCheck_fresh (b T n : Nat) (w : World) (h0 : w.cell? ⟨b, 0, none⟩ = some (.pointer none)) (hsh : w.shape? b = some (T, n)) (hn : 0 < n) (hl : liesAt Tryz.prog Tryz.prog.depth T (n / Tryz.prog.cellsOf T) 0 154 1 = true) (hfz : w.frozen? ⟨b, 0, none⟩ = false) :
    Calls Tryz.prog 163 #[.pointer (some ⟨b, 0, none⟩)] w fun e w' => e = .returned (.tuple #[]) ∧ w' = w.setCell ⟨b, 0, none⟩ (.pointer (some ⟨b, 0, none⟩)) := by
  obtain ⟨j, hj, hjs⟩ := Option.map_eq_some_iff.1 (show (Tryz.prog.info? 154).map (·.size) = some 2 by kernel_rfl)
  go_enter Tryz.func163, Tryz.ntmps163
  go_wp2
  rw [Go.Lib.run_to_unsafe w ⟨b, 0, none⟩ Tryz.underlying151 Tryz.underlying125 hj (by rw [hjs]; decide) hsh hn]
  simp only [Result.andThen]
  rw [Oper.upon_value]
  go_wp2
  rw [run_callFunc_extern Tryz.func208 (by kernel_rfl) (by kernel_rfl) (by kernel_rfl) (e := Extern.AbiNoEscape.same) (by kernel_rfl)]
  rw [Go.Lib.run_noEscape]
  simp only [Result.andThen]
  rw [Oper.upon_value]
  go_wp2
  rw [Go.Lib.run_from_unsafe w ⟨b, 0, none⟩ Tryz.underlying125 Tryz.underlying151 hj hsh hl]
  simp only [Result.andThen]
  rw [Oper.upon_value]
  go_wp2
  go_end0
  exact ⟨rfl, rfl⟩
end Go.Proofs.YthjniafhfboggaaGreatDoor
namespace Go.AbN
open Go Go.Ab Go.Proofs Go.Proofs.YthjniafhfboggaaGreatDoor Go.RowKit

/-! ## copyCheck -/

def holder (t n : Nat) : Bool := (t == 154 && n == 2) || (t == 158 && n == 3)
theorem holder_lies {t n : Nat} (h : holder t n = true) : liesAt Tryz.prog Tryz.prog.depth t (n / Tryz.prog.cellsOf t) 0 154 1 = true ∧ 0 < n := by
  have h' : (t = 154 ∧ n = 2) ∨ (t = 158 ∧ n = 3) := by
    simpa [holder] using h
  rcases h' with ⟨h1, h2⟩ | ⟨h1, h2⟩
  · refine ⟨?_, by omega⟩
    subst h1
    subst h2
    kernel_rfl
  · refine ⟨?_, by omega⟩
    subst h1
    subst h2
    kernel_rfl

def checkK (xs : List V) (σ : St) : Option (V × St) := match xs with
  | [.ptr id 0] => match σ.objs[id]? with
    | some (.var t cs) => match cs with
      | .sc (.pointer none) :: rest => if σ.base ≤ id ∧ holder t cs.length = true then some (.tup [], σ.set id (.var t (.ptr id 0 :: rest))) else none
      | .ptr id' 0 :: _ => if id' = id then some (.tup [], σ) else none
      | _ => none
    | _ => none
  | _ => none

theorem tup_nil {μ : List Nat} {lim : Nat → Nat} {w : World} : RelV μ lim w (.tup []) (.tuple #[]) := by
  unfold RelV; refine ⟨_, rfl, ?_⟩; unfold RelVs; trivial

theorem check_ok {xs : List V} {σ σ' : St} {v : V} (h : checkK xs σ = some (v, σ')) : OkAt Tryz.prog 163 xs σ v σ' := by
  intro μ lim w args hw _ hx
  unfold checkK at h
  split at h
  case h_2 => cases h
  rename_i id
  split at h
  case h_2 => cases h
  rename_i t cs ho
  obtain ⟨X, rfl, hX⟩ := args1 hx
  unfold RelV at hX
  obtain ⟨b, hb, rfl⟩ := hX
  obtain ⟨o1, c, hh, hlen, hcells⟩ := hw.obj id b _ ho hb
  split at h
  · rename_i rest
    split at h
    case isFalse => cases h
    rename_i hc
    cases h
    obtain ⟨hl, hn⟩ := holder_lies hc.2
    obtain ⟨x, hx0, hr0, _⟩ := hcells 0 _ rfl
    rw [relSc hr0] at hx0
    have hfz : w.frozen? ⟨b, 0, none⟩ = false := by simp [World.frozen?, hh]
    refine (copyCheck_fresh b t c.size w hx0 (by simp [World.shape?, hh]) (by omega) (by rw [← hlen]; exact hl) hfz).mono ?_
    rintro e w' ⟨rfl, rfl⟩
    have hal : alive σ id := ⟨_, ho, by simp⟩
    obtain ⟨⟨c2, k1, k2, k3⟩, k4, k5, k6, k7, k8⟩ := setCells_heap b [.pointer (some ⟨b, 0, none⟩)] 0 w c t (0, 0) hh (by simp; omega)
    have hset : w.setCells b 0 [.pointer (some ⟨b, 0, none⟩)] = w.setCell ⟨b, 0, none⟩ (.pointer (some ⟨b, 0, none⟩)) := rfl
    rw [hset] at k1 k4 k5 k6 k7 k8
    obtain ⟨g1, g2⟩ := chg_set hw hc.1 hal hb k6 k7 k8 k5 k4 (by unfold bsize; rw [k1, hh]; simp [k2]) (.var t (.ptr id 0 :: rest)) (fun hext => by
      refine ⟨o1, c2, k1, by rw [k2]; simpa using hlen, fun k v hv => ?_⟩
      have hck := k3 k
      cases k with
      | zero =>
        simp at hv
        subst hv
        refine ⟨.pointer (some ⟨b, 0, none⟩), ?_, ?_, rfl⟩
        · simp [World.cell?, k1, hck]
        · unfold RelV; exact ⟨b, hb, rfl⟩
      | succ k =>
        obtain ⟨y, hy, hry, hyo⟩ := hcells (k + 1) v (by simpa using hv)
        refine ⟨y, ?_, hry.ext hext, hyo⟩
        rw [if_neg (by simp)] at hck
        simp only [World.cell?, hh] at hy
        simp only [World.cell?, k1, hck]
        exact hy)
    exact ⟨_, μ, lim, rfl, g1, tup_nil⟩
  · rename_i id' rest
    split at h
    case isFalse => cases h
    rename_i hc
    subst hc
    cases h
    obtain ⟨x, hx0, hr0, _⟩ := hcells 0 _ rfl
    unfold RelV at hr0
    obtain ⟨b', hb', rfl⟩ := hr0
    rw [hb] at hb'
    cases hb'
    refine (copyCheck_used b w hx0).mono ?_
    rintro e w' ⟨rfl, rfl⟩
    exact ⟨_, μ, lim, rfl, Chg.refl hw, tup_nil⟩
  · cases h

end Go.AbN

namespace Go.Proofs.YthjniafhfboggaaGreatDoor
open Go.RowKit Go.Extern.Stop Go.Stop Go.Extern

/-- errors.As(nil, target). -/
theorem errorsAs_nil (t : Value) (w : World) :
    Calls Tryz.prog 24 #[.nilIface, t] w fun e w' => e = .returned (.bool false) ∧ w' = w := by
  go_enter Tryz.func24, Tryz.ntmps24
  go_wp2
  go_ret
  exact ⟨rfl, rfl⟩

/-! ### CLOSED FACTS ON THE MODEL's ENTRIES FOR internal/reflectlite, at this program's types: 25: *p.E · 27: **p.E · 23: error · 45: reflectlite's rtype · 1: how many package-level variables the dump has -/
theorem asf_valueOf27 (t : Addr) (w : World) : (ReflectliteValue.unpack (.iface 90 (.pointer (some t)))).run Tryz.prog w
    = .ok (.agg #[.pointer (some ⟨10, 90, none⟩), .pointer (some ⟨w.heap.size, 0, none⟩), .int .u64 150]) (w.alloc (.cells #[.pointer (some t)] 90)) := by kernel_rfl
theorem asf_type27 (a : Addr) (w : World) : (ReflectliteValue.methodAny (ReflectliteValue.valueError "reflectlite.Value.Type" 0) (fun t _ _ _ => ReflectliteType.toType t) #[.agg #[.pointer (some ⟨10, 90, none⟩), .pointer (some a), .int .u64 150]]).run Tryz.prog w
    = .ok (.iface 232 (.agg #[.pointer (some ⟨10, 90, none⟩)])) w := by kernel_rfl
theorem asf_methodKind (h : Value) (w : World) : (Go.method 636 232 (.agg #[h]) "Kind").run Tryz.prog w = .ok (392, h) w := by kernel_rfl
theorem asf_kind27 (w : World) : ((ReflectliteType.abiMethod fun t => (fun a : Nat => Value.int IntKind.u8 (a : Int)) <$> Rtype.kind t) #[.pointer (some ⟨10, 90, none⟩)]).run Tryz.prog w = .ok (.int .u8 22) w := by kernel_rfl
theorem asf_kind25 (w : World) : ((ReflectliteType.abiMethod fun t => (fun a : Nat => Value.int IntKind.u8 (a : Int)) <$> Rtype.kind t) #[.pointer (some ⟨10, 82, none⟩)]).run Tryz.prog w = .ok (.int .u8 22) w := by kernel_rfl

/-! ### THE ENTRIES THAT READ OR WRITE MEMORY: laws with a premise on the cell (after Derived/Lib/ReflectliteSlice.lean's manner: each unfolding a lemma of its own, by rfl) -/
theorem rlm (z : Sem Value) (f : TypeId → Addr → Nat → Nat → Sem Value) (v : Value) :
    ReflectliteValue.method z f #[v] = (do match ← ReflectliteValue.parts v with | none => z | some (t, a, fl) => f t a fl (fl % 32)) := rfl
theorem asf_parts27 (a : Addr) (w : World) : (ReflectliteValue.parts (.agg #[.pointer (some ⟨10, 90, none⟩), .pointer (some a), .int .u64 150])).run Tryz.prog w = .ok (some (90, a, 150)) w := by kernel_rfl
/-- (Value).IsNil at the Value of a **p.E that is not nil. -/
theorem asf_isNil27 (a p : Addr) (W : World) (ha : W.cell? a = some (.pointer (some p))) :
    (ReflectliteValue.method (ReflectliteValue.valueError "reflectlite.Value.IsNil" 0) ReflectliteValue.isNil #[.agg #[.pointer (some ⟨10, 90, none⟩), .pointer (some a), .int .u64 150]]).run Tryz.prog W = .ok (.bool false) W := by
  rw [rlm]
  simp only [Sem.run_bind, asf_parts27, Result.andThen]
  simp [ReflectliteValue.isNil, loadVar, isAgg, underlying, Tryz.underlying90, ha, Result.andThen]

theorem asf_methodElem (h : Value) (w : World) : (Go.method 636 232 (.agg #[h]) "Elem").run Tryz.prog w = .ok (405, .agg #[h]) w := by kernel_rfl
theorem asf_methodImplements (h : Value) (w : World) : (Go.method 636 232 (.agg #[h]) "Implements").run Tryz.prog w = .ok (406, .agg #[h]) w := by kernel_rfl
theorem asf_methodAssignableTo (h : Value) (w : World) : (Go.method 636 232 (.agg #[h]) "AssignableTo").run Tryz.prog w = .ok (403, .agg #[h]) w := by kernel_rfl
theorem asf_elem27 (w : World) : (ReflectliteType.method ReflectliteType.elem #[.agg #[.pointer (some ⟨10, 90, none⟩)]]).run Tryz.prog w = .ok (.iface 232 (.agg #[.pointer (some ⟨10, 82, none⟩)])) w := by kernel_rfl
theorem asf_implements25 (w : World) : (ReflectliteType.relation "Implements" ReflectliteType.implements_ #[.agg #[.pointer (some ⟨10, 82, none⟩)], .iface 232 (.agg #[.pointer (some ⟨10, 24, none⟩)])]).run Tryz.prog w = .ok (.bool true) w := by kernel_rfl
theorem asf_typeOf25 (v : Value) (w : World) : (ReflectliteType.typeOf #[.iface 82 v]).run Tryz.prog w = .ok (.iface 232 (.agg #[.pointer (some ⟨10, 82, none⟩)])) w := by kernel_rfl
theorem asf_assignable25 (w : World) : (ReflectliteType.relation "AssignableTo" ReflectliteType.assignableTo #[.agg #[.pointer (some ⟨10, 82, none⟩)], .iface 232 (.agg #[.pointer (some ⟨10, 82, none⟩)])]).run Tryz.prog w = .ok (.bool true) w := by kernel_rfl
theorem asf_valueOf25 (e : Addr) (w : World) : (ReflectliteValue.unpack (.iface 82 (.pointer (some e)))).run Tryz.prog w
    = .ok (.agg #[.pointer (some ⟨10, 82, none⟩), .pointer (some ⟨w.heap.size, 0, none⟩), .int .u64 150]) (w.alloc (.cells #[.pointer (some e)] 82)) := by kernel_rfl

theorem asf_elemOf27 (w : World) : (Rtype.elem? 90).run Tryz.prog w = .ok (some 82) w := by kernel_rfl
theorem asf_mk25 (p : Addr) (w : World) : (ReflectliteValue.mk 82 p ReflectliteValue.flagAddr).run Tryz.prog w = .ok (.agg #[.pointer (some ⟨10, 82, none⟩), .pointer (some p), .int .u64 406]) w := by kernel_rfl
/-- (Value).Elem at the Value of a **p.E that is not nil: the Value of the *p.E variable that it points to, addressable. -/
theorem asf_elemV27 (a p : Addr) (W : World) (ha : W.cell? a = some (.pointer (some p))) :
    (ReflectliteValue.method (ReflectliteValue.valueError "reflectlite.Value.Elem" 0) ReflectliteValue.elem #[.agg #[.pointer (some ⟨10, 90, none⟩), .pointer (some a), .int .u64 150]]).run Tryz.prog W
      = .ok (.agg #[.pointer (some ⟨10, 82, none⟩), .pointer (some p), .int .u64 406]) W := by
  rw [rlm]
  simp only [Sem.run_bind, asf_parts27, Result.andThen]
  simp [ReflectliteValue.elem, loadVar, isAgg, underlying, Tryz.underlying90, ha, Result.andThen, asf_elemOf27, asf_mk25]
theorem rls (v x : Value) : ReflectliteValue.set #[v, x] = (do
    let (some (dst, a, fl), some (src, b, _)) := (← ReflectliteValue.parts v, ← ReflectliteValue.parts x)
      | unsupported (.noEntry "extern/(internal/reflectlite.Value).Set.zeroValue")
    if fl / ReflectliteValue.flagAddr % 2 == 0 then unsupported (.noEntry "extern/(internal/reflectlite.Value).Set.unaddressable")
    let val ← loadVar src b
    if ← Rtype.directlyAssignable dst src then storeVar dst a val
    else if ← Rtype.implements dst src then
      if (← Rtype.kind src) == 20 then
        match val with
        | .nilIface => unsupported (.noEntry "extern/reflectlite: a nil value of one interface type handed on as a value of another")
        | _ => storeVar dst a val
      else storeVar dst a (.iface src val)
    else panicString ("reflectlite.Set: value of type " ++ (← Rtype.spelt src) ++ " is not assignable to type " ++ (← Rtype.spelt dst))
    pure (.tuple #[])) := rfl
theorem asf_parts25a (a : Addr) (w : World) : (ReflectliteValue.parts (.agg #[.pointer (some ⟨10, 82, none⟩), .pointer (some a), .int .u64 406])).run Tryz.prog w = .ok (some (82, a, 406)) w := by kernel_rfl
theorem asf_parts25 (a : Addr) (w : World) : (ReflectliteValue.parts (.agg #[.pointer (some ⟨10, 82, none⟩), .pointer (some a), .int .u64 150])).run Tryz.prog w = .ok (some (82, a, 150)) w := by kernel_rfl
theorem asf_direct25 (w : World) : (Rtype.directlyAssignable 82 82).run Tryz.prog w = .ok true w := by kernel_rfl
theorem asf_size25 (w : World) : (sizeOf 82).run Tryz.prog w = .ok 1 w := by kernel_rfl
/-- (Value).Set: the *p.E variable at 'ta' gets what the Value's own variable 'b' holds. -/
theorem asf_set25 (ta b e : Addr) (old : Value) (W : World) (hb : W.cell? b = some (.pointer (some e))) (ht : W.cell? ta = some old) (hf : W.frozen? ta = false) :
    (ReflectliteValue.set #[.agg #[.pointer (some ⟨10, 82, none⟩), .pointer (some ta), .int .u64 406], .agg #[.pointer (some ⟨10, 82, none⟩), .pointer (some b), .int .u64 150]]).run Tryz.prog W
      = .ok (.tuple #[]) (W.setCell ta (.pointer (some e))) := by
  rw [rls]
  simp only [Sem.run_bind, asf_parts25a, asf_parts25, Result.andThen]
  simp [ReflectliteValue.flagAddr, loadVar, isAgg, underlying, Tryz.underlying82, hb, Result.andThen, asf_direct25, storeVar, Value.cells, storeCells, Addr.add]
  rw [run_store Tryz.prog W ta _ _ (by rfl)]
  simp [ht, hf]

set_option maxRecDepth 100000 in
set_option maxHeartbeats 4000000 in
theorem errorsAs_hit (e t : Addr) (old : Value) (w : World) (hg : w.cell? ⟨0, 0, none⟩ = some (.iface 232 (.agg #[.pointer (some ⟨10, 24, none⟩)]))) (ht0 : w.cell? t = some old) (hf0 : w.frozen? t = false) :
    Calls Tryz.prog 24 #[.iface 82 (.pointer (some e)), .iface 90 (.pointer (some t))] w fun ev w' => ev = .returned (.bool true) ∧ w' = ((((w.alloc (.cells #[.pointer (some t)] 90)).alloc (.cells #[.pointer (some ⟨10, 90, none⟩), .pointer (some ⟨w.heap.size, 0, none⟩), .int .u64 150] 128)).alloc (.cells #[.pointer (some ⟨10, 90, none⟩), .pointer (some ⟨w.heap.size, 0, none⟩), .int .u64 150] 128)).alloc (.cells #[.pointer (some e)] 82)).setCell t (.pointer (some e)) := by
  have h6 := @run_callFunc_extern Tryz.prog 46 _ (fun args => ReflectliteValue.unpack (args.getD 0 (.tuple #[]))) Tryz.func46 (by kernel_rfl) (by kernel_rfl) (by kernel_rfl) (by kernel_rfl)
  have h7 := @run_callFunc_extern Tryz.prog 47 _ (ReflectliteValue.methodAny (ReflectliteValue.valueError "reflectlite.Value.Type" 0) (fun t _ _ _ => ReflectliteType.toType t)) Tryz.func47 (by kernel_rfl) (by kernel_rfl) (by kernel_rfl) (by kernel_rfl)
  have h8 := @run_callFunc_extern Tryz.prog 48 _ (ReflectliteValue.method (ReflectliteValue.valueError "reflectlite.Value.IsNil" 0) ReflectliteValue.isNil) Tryz.func48 (by kernel_rfl) (by kernel_rfl) (by kernel_rfl) (by kernel_rfl)
  have h27 := @run_callFunc_extern Tryz.prog 392 _ (ReflectliteType.abiMethod fun t => do pure (.int .u8 (← Rtype.kind t))) Tryz.func392 (by kernel_rfl) (by kernel_rfl) (by kernel_rfl) (by kernel_rfl)
  have h37 := @run_callFunc_extern Tryz.prog 405 _ (ReflectliteType.method ReflectliteType.elem) Tryz.func405 (by kernel_rfl) (by kernel_rfl) (by kernel_rfl) (by kernel_rfl)
  have h38 := @run_callFunc_extern Tryz.prog 406 _ (ReflectliteType.relation "Implements" ReflectliteType.implements_) Tryz.func406 (by kernel_rfl) (by kernel_rfl) (by kernel_rfl) (by kernel_rfl)
  have h10 := @run_callFunc_extern Tryz.prog 52 _ ReflectliteType.typeOf Tryz.func52 (by kernel_rfl) (by kernel_rfl) (by kernel_rfl) (by kernel_rfl)
  have h35 := @run_callFunc_extern Tryz.prog 403 _ (ReflectliteType.relation "AssignableTo" ReflectliteType.assignableTo) Tryz.func403 (by kernel_rfl) (by kernel_rfl) (by kernel_rfl) (by kernel_rfl)
  have h11 := @run_callFunc_extern Tryz.prog 99 _ (ReflectliteValue.method (ReflectliteValue.valueError "reflectlite.Value.Elem" 0) ReflectliteValue.elem) Tryz.func99 (by kernel_rfl) (by kernel_rfl) (by kernel_rfl) (by kernel_rfl)
  have h12 := @run_callFunc_extern Tryz.prog 100 _ ReflectliteValue.set Tryz.func100 (by kernel_rfl) (by kernel_rfl) (by kernel_rfl) (by kernel_rfl)
  have tO := asf_typeOf25
  have mA := asf_methodAssignableTo
  have a25 := asf_assignable25
  have v25 := asf_valueOf25
  have f6 := asf_valueOf27
  have f7 := asf_type27
  have mK := asf_methodKind
  have mE := asf_methodElem
  have mI := asf_methodImplements
  have k27 := asf_kind27
  have k25 := asf_kind25
  have e27 := asf_elem27
  have i25 := asf_implements25
  have n8 := asf_isNil27 ⟨w.heap.size, 0, none⟩ t ((w.alloc (.cells #[.pointer (some t)] 90)).alloc (.cells #[.pointer (some ⟨10, 90, none⟩), .pointer (some ⟨w.heap.size, 0, none⟩), .int .u64 150] 128)) (by simp)
  have hlt : 0 < w.heap.size := by
    rcases Nat.eq_zero_or_pos w.heap.size with h0 | h
    · simp [World.cell?, h0] at hg
    · exact h
  have hg2 : ((w.alloc (.cells #[.pointer (some t)] 90)).alloc (.cells #[.pointer (some ⟨10, 90, none⟩), .pointer (some ⟨w.heap.size, 0, none⟩), .int .u64 150] 128)).cell? ⟨0, 0, none⟩ = some (.iface 232 (.agg #[.pointer (some ⟨10, 24, none⟩)])) := by
    rw [World.cell?_alloc_lt _ _ ⟨0, 0, none⟩ (by simp), World.cell?_alloc_lt _ _ ⟨0, 0, none⟩ hlt]; exact hg
  have htl : t.block < w.heap.size := by
    rcases Nat.lt_or_ge t.block w.heap.size with h | h
    · exact h
    · simp [World.cell?, Array.getElem?_eq_none h] at ht0
  have el := asf_elemV27 ⟨w.heap.size, 0, none⟩ t (((w.alloc (.cells #[.pointer (some t)] 90)).alloc (.cells #[.pointer (some ⟨10, 90, none⟩), .pointer (some ⟨w.heap.size, 0, none⟩), .int .u64 150] 128)).alloc (.cells #[.pointer (some ⟨10, 90, none⟩), .pointer (some ⟨w.heap.size, 0, none⟩), .int .u64 150] 128)) (by rw [World.cell?_alloc_lt _ _ ⟨w.heap.size, 0, none⟩ (by simp; omega)]; simp)
  have st := asf_set25 t ⟨w.heap.size + 1 + 1 + 1, 0, none⟩ e old ((((w.alloc (.cells #[.pointer (some t)] 90)).alloc (.cells #[.pointer (some ⟨10, 90, none⟩), .pointer (some ⟨w.heap.size, 0, none⟩), .int .u64 150] 128)).alloc (.cells #[.pointer (some ⟨10, 90, none⟩), .pointer (some ⟨w.heap.size, 0, none⟩), .int .u64 150] 128)).alloc (.cells #[.pointer (some e)] 82))
    (by rw [World.cell?_alloc_at _ _ _ _ (by simp)]; rfl)
    (by rw [World.cell?_alloc_lt _ _ t (by simp; omega), World.cell?_alloc_lt _ _ t (by simp; omega), World.cell?_alloc_lt _ _ t (by simp; omega), World.cell?_alloc_lt _ _ t htl]; exact ht0)
    (by rw [World.frozen?_alloc_old _ _ t (by simp; omega), World.frozen?_alloc_old _ _ t (by simp; omega), World.frozen?_alloc_old _ _ t (by simp; omega), World.frozen?_alloc_old _ _ t (Nat.ne_of_lt htl)]; exact hf0)
  go_enter Tryz.func24, Tryz.ntmps24
  go_wp2
  refine wp_loop_rounds 1 ?_
  rw [rounds_succ]
  go_wp2
  go_ret
  exact ⟨rfl, rfl⟩
end Go.Proofs.YthjniafhfboggaaGreatDoor
namespace Go.AbN
open Go Go.Ab Go.Proofs Go.Proofs.YthjniafhfboggaaGreatDoor Go.RowKit

/-! ## errors.As -/

section
variable {μ : List Nat} {lim : Nat → Nat} {w : World} {σ : St}
def isPtr : V → Bool
  | .ptr _ _ => true
  | .imm _ => true
  | _ => false
def asK (xs : List V) (σ : St) : Option (V × St) := match xs with
  | [.iface 82 v, .iface 90 (.ptr id 0)] => match σ.objs[id]? with
    | some (.var t [_]) => if σ.base ≤ id ∧ isPtr v = true then some (.bool true, σ.set id (.var t [v])) else none
    | _ => none
  | _ => none
theorem as_ok {xs : List V} {σ σ' : St} {v : V} (h : asK xs σ = some (v, σ')) : OkAt Tryz.prog 24 xs σ v σ' := by
  intro μ lim w args hw hbase hx
  unfold asK at h
  split at h
  case h_2 => cases h
  rename_i p id
  split at h
  case h_2 => cases h
  rename_i t old ho
  split at h
  case isFalse => cases h
  rename_i hc
  cases h
  obtain ⟨X, Y, rfl, hX, hY⟩ := args2 hx
  unfold RelV at hX hY
  obtain ⟨x, rfl, hX⟩ := hX
  obtain ⟨y, rfl, hY⟩ := hY
  unfold RelV at hY
  obtain ⟨b, hb, rfl⟩ := hY
  obtain ⟨a, hxa⟩ : ∃ a, x = .pointer (some a) := by
    cases p <;> simp [isPtr] at hc
    · unfold RelV at hX; obtain ⟨b', _, h⟩ := hX; exact ⟨_, h⟩
    · unfold RelV at hX; obtain ⟨b', o', h, _⟩ := hX; exact ⟨_, h⟩
  subst hxa
  obtain ⟨o1, c, hh, hlen, hcells⟩ := hw.obj id b _ ho hb
  obtain ⟨ov, hov, _⟩ := hcells 0 _ rfl
  have hblt : b < w.heap.size := (Array.getElem?_eq_some_iff.1 hh).1
  obtain ⟨_, ty, fr, hgl⟩ := hw.glob (0, #[.iface 232 (.agg #[.pointer (some ⟨10, 24, none⟩)])]) (.head _)
  have hg : w.cell? ⟨0, 0, none⟩ = some (.iface 232 (.agg #[.pointer (some ⟨10, 24, none⟩)])) := by simp [World.cell?, hgl]
  refine (errorsAs_hit a ⟨b, 0, none⟩ ov w hg hov (by simp [World.frozen?, hh])).mono ?_
  rintro e w' ⟨rfl, rfl⟩
  generalize hw1 : w.alloc (.cells #[.pointer (some ⟨b, 0, none⟩)] 90) = w1
  have c1 : Chg μ lim w σ μ lim w1 σ := by rw [← hw1]; exact chg_add0 hw _
  have b1 : w1.heap[b]? = w.heap[b]? := by rw [← hw1]; exact addObj_old hblt
  generalize hw2 : w1.alloc _ = w2
  have c2 : Chg μ lim w1 σ μ lim w2 σ := by rw [← hw2]; exact chg_add0 c1.wrel _
  have b2 : w2.heap[b]? = w1.heap[b]? := by rw [← hw2]; exact addObj_old (by have := c1.size; omega)
  generalize hw3 : w2.alloc _ = w3
  have c3 : Chg μ lim w2 σ μ lim w3 σ := by rw [← hw3]; exact chg_add0 c2.wrel _
  have b3 : w3.heap[b]? = w2.heap[b]? := by rw [← hw3]; exact addObj_old (by have := c1.size; have := c2.size; omega)
  generalize hw4 : w3.alloc _ = w4
  have c4 : Chg μ lim w3 σ μ lim w4 σ := by rw [← hw4]; exact chg_add0 c3.wrel _
  have b4 : w4.heap[b]? = w3.heap[b]? := by rw [← hw4]; exact addObj_old (by have := c1.size; have := c2.size; have := c3.size; omega)
  have hc4 : Chg μ lim w σ μ lim w4 σ := ((c1.trans c2).trans c3).trans c4
  have hh4 : w4.heap[b]? = some (.cells c t (0, 0)) := by rw [b4, b3, b2, b1, hh]
  have hal : alive σ id := ⟨_, ho, by simp⟩
  simp only [List.length_cons, List.length_nil] at hlen
  obtain ⟨⟨cc, k1, k2, k3⟩, k4, k5, k6, k7, k8⟩ := setCells_heap b [.pointer (some a)] 0 w4 c t (0, 0) hh4 (by simp; omega)
  have hset : w4.setCells b 0 [.pointer (some a)] = w4.setCell ⟨b, 0, none⟩ (.pointer (some a)) := rfl
  rw [hset] at k1 k4 k5 k6 k7 k8
  have hX4 : RelV μ lim w4 p (.pointer (some a)) := hX.ext (hc4.ext hw)
  obtain ⟨g1, g2⟩ := chg_set hc4.wrel hc.1 hal hb k6 k7 k8 k5 k4 (by unfold bsize; rw [k1, hh4]; simp [k2]) (.var t [p]) (fun hext => by
    refine ⟨o1, cc, k1, by rw [k2]; simpa using hlen, fun k v hv => ?_⟩
    have hck := k3 k
    cases k with
    | succ k => simp at hv
    | zero =>
      simp at hv
      subst hv
      refine ⟨.pointer (some a), ?_, hX4.ext hext, rfl⟩
      simp [World.cell?, k1, hck])
  exact ⟨_, μ, lim, rfl, hc4.trans g1, scRel rfl⟩
end
end Go.AbN

namespace Go.Proofs.YthjniafhfboggaaGreatDoor
open Go.RowKit Go.Extern.Stop Go.Stop Go.Extern

theorem isf_typeOf (v : Value) (w : World) : (Extern.ReflectliteType.typeOf #[.iface 91 v]).run Tryz.prog w = .ok (.iface 232 (.agg #[.pointer (some ⟨10, 91, none⟩)])) w := by kernel_rfl
def cmpEntry : Array Value → Sem Value := Extern.ReflectliteType.method fun t => do Extern.Rtype.noPackHeld "Comparable" t; pure (.bool (← typeInfo t).comparable)
theorem isf_comparable (w : World) : (cmpEntry #[.agg #[.pointer (some ⟨10, 91, none⟩)]]).run Tryz.prog w = .ok (.bool true) w := by kernel_rfl
theorem isf_methodComparable (v : Value) (w : World) : (Go.method 636 232 v "Comparable").run Tryz.prog w = .ok (404, v) w := by kernel_rfl
theorem isf_comp : (Tryz.prog.info? 91).map (·.comparable) = some true := by kernel_rfl
theorem isf_noIs (v : Value) (xT : TypeId) (w : World) : (Instr.typeAssert (.iface 82 v) xT 244 true).run Tryz.prog w = .ok (.tuple #[.nilIface, .bool false]) w := run_typeAssert_lacksB Tryz.underlying244 (by kernel_rfl) (by kernel_rfl) v xT w
theorem isf_hasUnwrap (v : Value) (xT : TypeId) (w : World) : (Instr.typeAssert (.iface 82 v) xT 239 true).run Tryz.prog w = .ok (.tuple #[.iface 82 v, .bool true]) w := run_typeAssert_hasB Tryz.underlying239 (by kernel_rfl) v xT w
theorem isf_methodUnwrap (v : Value) (w : World) : (Go.method 636 82 v "Unwrap").run Tryz.prog w = .ok (395, v) w := by kernel_rfl

set_option maxRecDepth 100000 in
set_option maxHeartbeats 4000000 in
/-- errors.Is(r, r.Why). -/
theorem errorsIs_hit (pb po : Nat) (n : Int) (w : World) (h1 : w.cell? ⟨pb, po + 1, none⟩ = some (.int .i64 n)) :
    Calls Tryz.prog 26 #[.iface 82 (.pointer (some ⟨pb, po, none⟩)), .iface 91 (.int .i64 n)] w fun e w' => e = .returned (.bool true) ∧ w' = w := by
  have h8 := @run_callFunc_extern Tryz.prog 52 _ Extern.ReflectliteType.typeOf Tryz.func52 (by kernel_rfl) (by kernel_rfl) (by kernel_rfl) (by kernel_rfl)
  have h32 := @run_callFunc_extern Tryz.prog 404 _ cmpEntry Tryz.func404 (by kernel_rfl) (by kernel_rfl) (by kernel_rfl) (by kernel_rfl)
  have tT := isf_typeOf
  have cT := isf_comparable
  have mR := isf_methodComparable
  have nW := isf_noIs
  have uW := isf_hasUnwrap
  have mU := isf_methodUnwrap
  have heq := Go.Lib.run_eql_iface_int (P := Tryz.prog) (k := .i64) w n n Tryz.underlying24 isf_comp Tryz.underlying91
  have hty := run_eql_iface_types (P := Tryz.prog) 82 91 (.pointer (some ⟨pb, po, none⟩)) (.int .i64 n) Tryz.underlying24 (by decide) w
  go_enter Tryz.func26, Tryz.ntmps26
  go_wp2
  refine wp_loop_rounds 2 ?_
  rw [rounds_succ]
  go_wp2
  rw [rounds_succ]
  go_wp2
  go_ret
  exact ⟨rfl, rfl⟩

end Go.Proofs.YthjniafhfboggaaGreatDoor
namespace Go.AbN
open Go Go.Ab Go.Proofs Go.Proofs.YthjniafhfboggaaGreatDoor Go.RowKit

section
variable {μ : List Nat} {lim : Nat → Nat} {w : World} {σ : St}
def whyOf (σ : St) : V → Option Value
  | .imm (_ :: .sc x :: _) => some x
  | .ptr id off => match σ.objs[id]? with
    | some o => match o.cs with
      | some cs => match cs[off + 1]? with
        | some (.sc x) => some x
        | _ => none
      | none => none
    | none => none
  | _ => none
def isK (xs : List V) (σ : St) : Option V := match xs with
  | [.iface 82 p, .iface 91 (.sc (.int .i64 n))] => match whyOf σ p with
    | some (.int .i64 m) => if m = n then some (.bool true) else none
    | _ => none
  | _ => none
theorem is_ok {xs : List V} {σ : St} {v : V} (h : isK xs σ = some v) : OkAt Tryz.prog 26 xs σ v σ := by
  intro μ lim w args hw _ hx
  unfold isK at h
  split at h
  case h_2 => cases h
  rename_i p n
  split at h
  case h_2 => cases h
  rename_i m hm
  split at h
  case isFalse => cases h
  rename_i hmn
  subst hmn
  cases h
  obtain ⟨X, Y, rfl, hX, hY⟩ := args2 hx
  unfold RelV at hX hY
  obtain ⟨x, rfl, hX⟩ := hX
  obtain ⟨y, rfl, hY⟩ := hY
  rw [relSc hY]
  have hp : ∃ b o, x = .pointer (some ⟨b, o, none⟩) ∧ w.cell? ⟨b, o + 1, none⟩ = some (.int .i64 m) := by
    unfold whyOf at hm
    split at hm
    · cases hm
      unfold RelV at hX
      obtain ⟨b, o, h1, h2⟩ := hX
      have := h2.get (k := 1) rfl
      obtain ⟨_, c, h3, h4, _⟩ := this
      exact ⟨b, o, h1, by rw [h3, relSc h4]⟩
    · rename_i id off
      split at hm
      case h_2 => cases hm
      rename_i ob ho
      split at hm
      case h_2 => cases hm
      rename_i cs hcs
      split at hm
      case h_2 => cases hm
      rename_i z hz
      cases hm
      unfold RelV at hX
      obtain ⟨b, hb, rfl⟩ := hX
      obtain ⟨_, _, _, h4⟩ := (hw.obj id b _ ho hb).cellsOf hcs
      obtain ⟨c, h5, h6, _⟩ := h4 _ _ hz
      exact ⟨b, off, rfl, by rw [h5, relSc h6]⟩
    · cases hm
  obtain ⟨b, o, rfl, hc⟩ := hp
  refine (errorsIs_hit b o m w hc).mono ?_
  rintro e w' ⟨rfl, rfl⟩
  exact ⟨_, μ, lim, rfl, Chg.refl hw, scRel rfl⟩

end
end Go.AbN

namespace Go.Proofs.YthjniafhfboggaaGreatDoor
open Go.RowKit Go.Lib

set_option maxHeartbeats 4000000 in
set_option maxRecDepth 100000 in
theorem clone_row (ad : Addr) (n c : Nat) (w : World) (v : Value) (w1 : World)
    (hrun : ∀ ty, (Builtin.append_ #[43, 43] ty #[.slice (some ⟨w.heap.size, 0, none⟩) 0 0, .slice (some ad) n c]).run Tryz.prog (w.alloc (.cells #[] 9)) = .ok v w1) :
    Calls Tryz.prog 134 #[.slice (some ad) n c] w fun e w' => e = .returned v ∧ w' = w1 := by
  have mixed : Tryz.prog.follows .mixedOrders = true := by kernel_rfl
  have q22 : ∀ (w : World) (a : Option Addr) (n c n' c' : Nat), (binOp .eql 43 (.slice a n c) (.slice none n' c')).run Tryz.prog w = .ok (.bool a.isNone) w := fun w a n c n' c' => Lib.run_eql_slice_nil w _ _ a n c n' c' Tryz.underlying43
  go_enter Tryz.func134, Tryz.ntmps134
  go_wp2_with (at_builtin; refine Lib.wpList_append_run _ rfl _ _ _ _ rfl _ _ rfl rfl _ _ (hrun _) ?_)
  go_ret
  exact ⟨rfl, rfl⟩
end Go.Proofs.YthjniafhfboggaaGreatDoor
namespace Go.AbN
open Go Go.Ab Go.Proofs Go.Proofs.YthjniafhfboggaaGreatDoor Go.RowKit

/-- slices.Clone of texts, as a new object; of nothing: nothing, which may be appended to. -/
def cloneNew (xs : List V) (σ : St) : Option (V × St) := match xs with
  | [.slice _ 1 []] => some (.slice .shut 1 [], σ)
  | [.slice _ 1 l] => if l.length ≤ 1048576 then some (.arr σ.objs.length 0 l.length 1, σ.push (.cells l.flatten)) else none
  | _ => none

theorem cloneNew_ok {xs : List V} {σ σ' : St} {v : V} (h : cloneNew xs σ = some (v, σ'))
    (hnil : ∀ (n c : Nat) (w : World), Calls Tryz.prog 134 #[.slice none n c] w fun e w' => e = .returned (.slice none 0 0) ∧ w' = w) : OkAt Tryz.prog 134 xs σ v σ' := by
  intro μ lim w args hw hb hx
  have he : elemOK Tryz.prog 9 1 = true := by kernel_rfl
  have hT : sliceElem Tryz.prog 43 = some 9 := by kernel_rfl
  have hR : rowType Tryz.prog 43 = true := by kernel_rfl
  have c1 : Chg μ lim w σ μ lim (addObj w (.cells #[] 9 (0, 0))) σ := chg_add0 hw _
  have hal : w.alloc (.cells #[] 9) = addObj w (.cells #[] 9 (0, 0)) := rfl
  have hsh : ∀ base, (base = none ∨ ∃ b, base = some (⟨b, 0, none⟩ : Addr)) → ∀ w', RelV μ lim w' (.slice .shut 1 []) (.slice base 0 0) := by
    intro base hbase w'
    unfold RelV
    refine ⟨base, 0, rfl, ⟨Nat.le_refl _, fun _ => rfl⟩, by decide, ?_⟩
    rcases hbase with rfl | ⟨b, rfl⟩
    · rfl
    · exact ⟨rfl, by unfold RelLL; trivial⟩
  unfold cloneNew at h
  split at h
  · cases h
    obtain ⟨X, rfl, hX⟩ := args1 hx
    unfold RelV at hX
    obtain ⟨base, cap, rfl, _, hcap, hbase⟩ := hX
    cases base with
    | none =>
      refine (hnil _ _ w).mono ?_
      rintro e w' ⟨rfl, rfl⟩
      exact ⟨_, μ, lim, rfl, Chg.refl hw, hsh none (.inl rfl) _⟩
    | some ad =>
      have hr : ∀ ty, (Builtin.append_ #[43, 43] ty #[.slice (some ⟨w.heap.size, 0, none⟩) 0 0, .slice (some ad) 0 cap]).run Tryz.prog (w.alloc (.cells #[] 9)) = .ok (.slice (some ⟨w.heap.size, 0, none⟩) 0 0) (addObj w (.cells #[] 9 (0, 0))) := fun ty => by
        have := run_append_in (P := Tryz.prog) (w := addObj w (.cells #[] 9 (0, 0))) (n := 0) (cap := 0) (m := 0) (b := w.heap.size) (off := 0) (Y := .slice (some ad) 0 cap) (new := []) ty hT he hR (fun w' => by simp [Builtin.lenOf]) (fun w' _ => by simp [Builtin.firstCells, loadCells, loadCellsFrom]) (by omega) (by simp) (by simp) (by simp)
        rw [hal, this]
        rfl
      refine (clone_row ad 0 cap w _ _ hr).mono ?_
      rintro e w' ⟨rfl, rfl⟩
      exact ⟨_, μ, lim, rfl, c1, hsh _ (.inr ⟨_, rfl⟩) _⟩
  · rename_i o l hne
    split at h
    case isFalse => cases h
    rename_i hl
    cases h
    have hl0 : 0 < l.length := by
      cases l with
      | nil => first | exact (hne o).elim | exact (hne o rfl).elim | exact (hne rfl).elim
      | cons _ _ => simp
    obtain ⟨X, rfl, hX⟩ := args1 hx
    obtain ⟨new, n1, n2, n3, n4, n5, n6⟩ := elems_rel (P := Tryz.prog) (sz := 1) (l := l) hw (by simp [elems]) hX
    unfold RelV at hX
    obtain ⟨base, cap, rfl, ⟨hle, _⟩, hcap, hbase⟩ := hX
    cases base with
    | none => simp only at hbase; omega
    | some ad =>
      have had : ad = ⟨ad.block, ad.off, none⟩ := by cases ad; simp at hbase; simp [hbase.1]
      obtain ⟨new2, q1, q2, q3, q4⟩ := cells_of_relL (fun k v hv => (hbase.2.flat.1.get hv).2)
      have hnl : new2.length = l.length := by rw [q1, n4, Nat.mul_one]
      have hblt : ad.block < w.heap.size := by
        have := q2 0 new2[0] (List.getElem?_eq_getElem (by omega))
        exact Nat.lt_of_not_le fun hge => by simp [World.cell?, Array.getElem?_eq_none hge] at this
      have hnew : ∀ w', w'.heap = (addObj w (.cells #[] 9 (0, 0))).heap → (Builtin.firstCells 1 l.length (.slice (some ad) l.length cap)).run Tryz.prog w' = .ok new2.toArray w' := fun w' hh => by
        rw [had]
        refine run_firstCells_some w' 1 l.length _ l.length cap new2 (by omega) fun j v hv => ?_
        rw [add_at, cell_congr (w := w) (by rw [hh]; exact addObj_old hblt)]
        exact q2 j v hv
      obtain ⟨nc, rest, m1, m2, m3, m4⟩ := run_append_new (P := Tryz.prog) (w := addObj w (.cells #[] 9 (0, 0))) (base := some ⟨w.heap.size, 0, none⟩) (n := 0) (cap := 0) (m := l.length) (Y := .slice (some ad) l.length cap) (old := []) (new := new2) 43 hT he hR (fun w' => by simp [Builtin.lenOf]) (fun w' _ => by simp [Builtin.firstCells, loadCells, loadCellsFrom]) hnew (by omega) (by unfold roomy; omega)
      simp only [Nat.zero_add, List.nil_append] at m1 m3 m4
      refine (clone_row ad l.length cap w _ _ (fun ty => by rw [hal, show Builtin.append_ #[43, 43] ty = Builtin.append_ #[43, 43] 43 from rfl]; exact m4)).mono ?_
      rintro e w' ⟨rfl, rfl⟩
      have hdr : Chg μ lim (addObj w (.cells #[] 9 (0, 0))) σ μ lim (addObj w (.cells #[] 9 (0, 0))).drew σ := chg_heap c1.wrel rfl rfl rfl rfl
      have q3' := RelVs.ext (c1.ext hw) _ _ q3
      obtain ⟨g1, g2, g3⟩ := push_prefix (w := (addObj w (.cells #[] 9 (0, 0))).drew) hdr.wrel hb 9 (RelVs.ext (ext_heap (w := addObj w (.cells #[] 9 (0, 0))) (w' := (addObj w (.cells #[] 9 (0, 0))).drew) rfl) _ _ q3') q4 rest
      refine ⟨_, _, lim, rfl, (c1.trans hdr).trans g1, ?_⟩
      unfold RelV
      refine ⟨_, nc, g2, m1, m2, rfl, ?_⟩
      rw [g3, m3, hnl]
      omega
  · cases h
end Go.AbN

namespace Go.AbN
open Go Go.Ab Go.Proofs Go.Proofs.YthjniafhfboggaaGreatDoor Go.RowKit

def dig (n : Nat) : List UInt8 := if n < 10 then [UInt8.ofNat (48 + n)] else if n < 100 then [UInt8.ofNat (48 + n / 10), UInt8.ofNat (48 + n % 10)] else [UInt8.ofNat (48 + n / 10 / 10), UInt8.ofNat (48 + n / 10 % 10), UInt8.ofNat (48 + n % 10)]
theorem dig_eq {n : Nat} (h : n < 1000) : Lib.decDigits n = dig n := by
  unfold dig
  split
  · rename_i h1; rw [Lib.decDigits, dif_pos h1]
  · rename_i h1
    split
    · rw [Lib.decDigits, dif_neg h1, Lib.decDigits, dif_pos (by omega)]
      rfl
    · rw [Lib.decDigits, dif_neg h1, Lib.decDigits, dif_neg (by omega), Lib.decDigits, dif_pos (by omega)]
      rfl

def itoaK : List V → Option V
  | [.sc (.int .i64 n)] => if 0 ≤ n ∧ n < 1000 then some (.str ⟨(dig n.toNat).toArray⟩) else none
  | _ => none
theorem gPow10 : Tryz.prog.globalNamed "internal/strconv.uint64pow10" = some 1 := by kernel_rfl
theorem itoa_ok {xs : List V} {v : V} (h : itoaK xs = some v) (σ : St) : OkAt Tryz.prog 50 xs σ v σ := by
  intro μ lim w args hw _ hx
  unfold itoaK at h
  split at h
  case h_2 => cases h
  rename_i n
  split at h
  case isFalse => cases h
  rename_i hn
  cases h
  obtain ⟨X, rfl, hX⟩ := args1 hx
  have hXe : X = .int .i64 n := relSc hX
  subst hXe
  have htab : Lib.TabIs Tryz.prog w "internal/strconv.uint64pow10" .u64 Lib.pow10Tab := by
    obtain ⟨_, ty, fr, h2⟩ := hw.glob (1, (Lib.pow10Tab.map fun z => Value.int .u64 z).toArray) (by unfold GL; exact .tail _ (.tail _ (.head _)))
    unfold Lib.TabIs World.var?
    rw [gPow10]
    simp only [Option.bind_some, h2]
  refine (Tryz.strconv_Itoa n (by omega) (by omega) w htab).mono ?_
  rintro e w' ⟨rfl, k, os, rfl⟩
  have hb := Lib.below_grow w.heap.size w (Nat.le_refl _) k os
  obtain ⟨h2, _⟩ := chg_below (lim' := lim) hw hb (fun _ _ => rfl) (fun b hb' => hw.fresh b (by have := hb.size; omega))
  refine ⟨_, μ, lim, rfl, h2, ?_⟩
  have : Lib.itoa n = dig n.toNat := by
    unfold Lib.itoa
    rw [if_neg (by omega), dig_eq (by omega)]
  rw [this]
  exact scRel rfl


def lenK : List V → Option V
  | [.sc (.int .u64 x)] => if 0 ≤ x ∧ x ≤ 18446744073709551615 then some (.int (Lib.bitLen x.toNat)) else none
  | _ => none
theorem len_ok {xs : List V} {v : V} (h : lenK xs = some v) (σ : St) : OkAt Tryz.prog 133 xs σ v σ := by
  intro μ lim w args hw _ hx
  unfold lenK at h
  split at h
  case h_2 => cases h
  rename_i n
  split at h
  case isFalse => cases h
  rename_i hn
  cases h
  obtain ⟨X, rfl, hX⟩ := args1 hx
  rw [relSc hX]
  refine (Tryz.bits_Len n w hn.1 hn.2).mono ?_
  rintro e w' ⟨rfl, rfl⟩
  exact ⟨_, μ, lim, rfl, Chg.refl hw, scRel rfl⟩


def byteK : List V → Option V
  | [.sc (.string s), .sc (.int .u8 c)] => some (.int (Lib.indexByte s.data.toList c.toNat.toUInt8))
  | _ => none
theorem byte_ok {xs : List V} {v : V} (h : byteK xs = some v) (σ : St) : OkAt Tryz.prog 287 xs σ v σ := by
  intro μ lim w args hw _ hx
  unfold byteK at h
  split at h
  case h_2 => cases h
  rename_i s c
  cases h
  obtain ⟨X, Y, rfl, hX, hY⟩ := args2 hx
  rw [relSc hX, relSc hY]
  refine (Tryz.strings_IndexByte s c w).mono ?_
  rintro e w' ⟨rfl, rfl⟩
  exact ⟨_, μ, lim, rfl, Chg.refl hw, scRel rfl⟩


/-! ## strings.Fields -/

def fieldsK : List V → Option V
  | [.sc (.string s)] => if s.size < 65536 ∧ s.data.toList.all (fun b => decide (b.toNat < 128)) = true then some (.slice .no 1 ((Lib.fields s.data.toList).map fun l => [.str ⟨l.toArray⟩])) else none
  | _ => none
theorem gSpace : Tryz.prog.globalNamed "strings.asciiSpace" = some 5 := by kernel_rfl
theorem fieldsGo_len : ∀ (l cur : List UInt8), (Lib.fieldsGo cur l).length ≤ l.length + 1
  | [], cur => by simp only [Lib.fieldsGo]; split <;> simp
  | b :: l, cur => by
    simp only [Lib.fieldsGo]
    split
    · split
      · have := fieldsGo_len l []; simp; omega
      · have := fieldsGo_len l []; simp; omega
    · have := fieldsGo_len l (cur ++ [b]); simp; omega
theorem fields_ok {xs : List V} {v : V} (h : fieldsK xs = some v) (σ : St) : OkAt Tryz.prog 315 xs σ v σ := by
  intro μ lim w args hw _ hx
  unfold fieldsK at h
  split at h
  case h_2 => cases h
  rename_i s
  split at h
  case isFalse => cases h
  rename_i hs
  cases h
  obtain ⟨X, rfl, hX⟩ := args1 hx
  rw [relSc hX]
  have htab : Lib.TabIs Tryz.prog w "strings.asciiSpace" .u8 Lib.asciiSpaceTab := by
    obtain ⟨_, ty, fr, h2⟩ := hw.glob (5, (Lib.asciiSpaceTab.map fun z => Value.int .u8 z).toArray) (by unfold GL; first | exact .head _ | exact .tail _ (.head _))
    unfold Lib.TabIs World.var?
    rw [gSpace]
    simp only [Option.bind_some, h2]
  refine (Tryz.strings_Fields s w (by omega) (fun j b hb => by
    have := List.all_eq_true.1 hs.2 b (List.mem_of_getElem? hb)
    simpa using this) htab).mono ?_
  rintro e w' ⟨rfl, rfl⟩
  have hlen : (Lib.fields s.data.toList).length ≤ 65536 := by
    have := fieldsGo_len s.data.toList []
    have h2 : s.data.toList.length = s.size := Array.length_toList
    unfold Lib.fields
    omega
  have hbel : Below w.heap.size w (addObj w (.cells ((Lib.fields s.data.toList).map fun l => Value.string ⟨l.toArray⟩).toArray 9 (0, 0))) :=
    ⟨rfl, rfl, rfl, by rw [addObj_size]; omega, fun k hk => addObj_old hk⟩
  have hflat : ((Lib.fields s.data.toList).map fun l => [V.str ⟨l.toArray⟩]).flatten = (Lib.fields s.data.toList).map fun l => V.str ⟨l.toArray⟩ := by
    induction Lib.fields s.data.toList with
    | nil => rfl
    | cons a l ih => simp [ih]
  obtain ⟨lim', h3, h4⟩ := row_new (l := (Lib.fields s.data.toList).map fun l => [V.str ⟨l.toArray⟩]) (news := (Lib.fields s.data.toList).map fun l => Value.string ⟨l.toArray⟩) (n := (Lib.fields s.data.toList).length) (cap := (Lib.fields s.data.toList).length)
    hw hbel (Nat.le_refl _) (addObj_new w _) (by
      rw [hflat]
      refine RelVs.of_get (by simp) fun k v x hv hx => ?_
      simp only [List.getElem?_map, Option.map_eq_some_iff] at hv hx
      obtain ⟨a, ha, rfl⟩ := hv
      obtain ⟨b, hb, rfl⟩ := hx
      rw [ha] at hb
      cases hb
      exact scRel rfl) (by
      intro v hv
      simp only [List.mem_map] at hv
      obtain ⟨a, _, rfl⟩ := hv
      rfl) (by
      intro cs hc
      simp only [List.mem_map] at hc
      obtain ⟨a, _, rfl⟩ := hc
      rfl) (by simp) (fun k _ => by simp) ⟨Nat.le_refl _, by omega⟩
  exact ⟨_, μ, lim', rfl, h3, h4⟩


def compareK : List V → Option V
  | [.sc (.string a), .sc (.string b)] => some (.int (Lib.compareBytes a.data.toList b.data.toList))
  | _ => none
theorem compare_ok {xs : List V} {v : V} (h : compareK xs = some v) (σ : St) : OkAt Tryz.prog 224 xs σ v σ := by
  intro μ lim w args hw _ hx
  unfold compareK at h
  split at h
  case h_2 => cases h
  cases h
  obtain ⟨X, Y, rfl, hX, hY⟩ := args2 hx
  rw [relSc hX, relSc hY]
  refine (Tryz.bytealg_CompareString _ _ w).mono ?_
  rintro e w' ⟨rfl, rfl⟩
  exact ⟨_, μ, lim, rfl, Chg.refl hw, scRel rfl⟩

def atoiK : List V → Option V
  | [.sc (.string s)] => if s.size ≤ 18 then (Lib.atoi s.data.toList).map fun n => .tup [.int n, .sc .nilIface] else none
  | _ => none
theorem atoi_ok {xs : List V} {v : V} (h : atoiK xs = some v) (σ : St) : OkAt Tryz.prog 306 xs σ v σ := by
  intro μ lim w args hw _ hx
  unfold atoiK at h
  split at h
  case h_2 => cases h
  rename_i s
  split at h
  case isFalse => cases h
  rename_i hs
  obtain ⟨n, hn, rfl⟩ := Option.map_eq_some_iff.1 h
  obtain ⟨X, rfl, hX⟩ := args1 hx
  rw [relSc hX]
  refine (Tryz.strconv_Atoi s n hs hn w).mono ?_
  rintro e w' ⟨rfl, t, rfl⟩
  obtain ⟨h2, hx2⟩ := chg_below (lim' := lim) hw (Go.Joins.below_bytesWorld w.heap.size w 5 t (Nat.le_refl _)) (fun _ _ => rfl) (fun b hb => hw.fresh b (by have := (Go.Joins.below_bytesWorld w.heap.size w 5 t (Nat.le_refl _)).size; omega))
  refine ⟨_, μ, lim, rfl, h2, ?_⟩
  unfold RelV
  refine ⟨_, rfl, ?_⟩
  unfold RelVs RelVs RelVs
  exact ⟨scRel rfl, scRel rfl, trivial⟩

def clone134_ren : Go.Shelf.Ren := ⟨fun | 41 => 134 | n => n, fun | 22 => 43 | 23 => 9 | 4 => 4 | n => n, fun | n => n⟩
theorem clone134_lays : Go.Proofs.SlLaysE0.n41 Tryz.prog clone134_ren := {
  mixed := by kernel_rfl
  f41 := ⟨Tryz.f134.name, by decide, Tryz.func134.trans (congrArg some (by kernel_rfl))⟩
  t4 := Tryz.underlying4
  a4 := Tryz.isAgg4
  z4 := Tryz.sizeOf4
  v4 := Tryz.zeroValue4
  t22 := Tryz.underlying43
  a22 := Tryz.isAgg43
  z22 := Tryz.sizeOf43
  v22 := Tryz.zeroValue43 }
theorem info134 : (Tryz.prog.info? 9).isSome = true ∧ (∀ i, Tryz.prog.info? 9 = some i → ∃ z, i.zero = some z ∧ z.cells.size = i.size ∧ 0 < i.size) := by
  obtain ⟨i0, hi, he⟩ := Option.map_eq_some_iff.1 (show (Tryz.prog.info? 9).map (fun i => i.zero.map fun z => decide (z.cells.size = i.size ∧ 0 < i.size)) = some (some true) by kernel_rfl)
  obtain ⟨z, hz, hd⟩ := Option.map_eq_some_iff.1 he
  refine ⟨by rw [hi]; rfl, fun i h => ?_⟩
  rw [hi] at h
  cases h
  exact ⟨z, hz, of_decide_eq_true hd⟩

theorem zero134 : (Tryz.prog.info? 9).map (fun i => (i.size, i.bytes, i.zero)) = some (1, 16, some (.string ⟨#[]⟩)) := by kernel_rfl
theorem clone134 {xs : List V} {v : V} (h : cloneK xs = some v) (σ : St) : OkAt Tryz.prog 134 xs σ v σ := by
  obtain ⟨i0, hi, he⟩ := Option.map_eq_some_iff.1 zero134
  simp only [Prod.mk.injEq] at he
  obtain ⟨e1, e2, e3⟩ := he
  refine clone_gen (T := 9) (fun n c w => AnyE.slices_Clone_nil clone134_lays n c w) (fun b off n c news w hl hn hc h1 => ?_) h σ
  exact AnyE.slices_Clone clone134_lays i0 _ 1 16 hi e3 e1 e2 rfl (by decide) (fun w => by simp [Go.sizeOf, typeInfo, clone134_ren, hi, e1]) b off n c news w hl (by unfold maxLen; omega) (by omega) hc (fun u hu => by have := h1 u hu; cases u <;> first | rfl | simp [Value.oneCell] at this)

theorem clone134_new {xs : List V} {σ σ' : St} {v : V} (h : cloneNew xs σ = some (v, σ')) : OkAt Tryz.prog 134 xs σ v σ' := cloneNew_ok h fun n c w => AnyE.slices_Clone_nil clone134_lays n c w

def clone135_ren : Go.Shelf.Ren := ⟨fun | 41 => 135 | n => n, fun | 22 => 44 | 23 => 4 | 4 => 4 | n => n, fun | n => n⟩
theorem clone135_lays : Go.Proofs.SlLaysE0.n41 Tryz.prog clone135_ren := {
  mixed := by kernel_rfl
  f41 := ⟨Tryz.f135.name, by decide, Tryz.func135.trans (congrArg some (by kernel_rfl))⟩
  t4 := Tryz.underlying4
  a4 := Tryz.isAgg4
  z4 := Tryz.sizeOf4
  v4 := Tryz.zeroValue4
  t22 := Tryz.underlying44
  a22 := Tryz.isAgg44
  z22 := Tryz.sizeOf44
  v22 := Tryz.zeroValue44 }
theorem info135 : (Tryz.prog.info? 4).isSome = true ∧ (∀ i, Tryz.prog.info? 4 = some i → ∃ z, i.zero = some z ∧ z.cells.size = i.size ∧ 0 < i.size) := by
  obtain ⟨i0, hi, he⟩ := Option.map_eq_some_iff.1 (show (Tryz.prog.info? 4).map (fun i => i.zero.map fun z => decide (z.cells.size = i.size ∧ 0 < i.size)) = some (some true) by kernel_rfl)
  obtain ⟨z, hz, hd⟩ := Option.map_eq_some_iff.1 he
  refine ⟨by rw [hi]; rfl, fun i h => ?_⟩
  rw [hi] at h
  cases h
  exact ⟨z, hz, of_decide_eq_true hd⟩

theorem zero135 : (Tryz.prog.info? 4).map (fun i => (i.size, i.bytes, i.zero)) = some (1, 1, some (.bool false)) := by kernel_rfl
theorem clone135 {xs : List V} {v : V} (h : cloneK xs = some v) (σ : St) : OkAt Tryz.prog 135 xs σ v σ := by
  obtain ⟨i0, hi, he⟩ := Option.map_eq_some_iff.1 zero135
  simp only [Prod.mk.injEq] at he
  obtain ⟨e1, e2, e3⟩ := he
  refine clone_gen (T := 4) (fun n c w => AnyE.slices_Clone_nil clone135_lays n c w) (fun b off n c news w hl hn hc h1 => ?_) h σ
  exact AnyE.slices_Clone clone135_lays i0 _ 1 1 hi e3 e1 e2 rfl (by decide) (fun w => by simp [Go.sizeOf, typeInfo, clone135_ren, hi, e1]) b off n c news w hl (by unfold maxLen; omega) (by omega) hc (fun u hu => by have := h1 u hu; cases u <;> first | rfl | simp [Value.oneCell] at this)

def clone140_ren : Go.Shelf.Ren := ⟨fun | 41 => 140 | n => n, fun | 22 => 173 | 23 => 194 | 4 => 4 | n => n, fun | n => n⟩
theorem clone140_lays : Go.Proofs.SlLaysE0.n41 Tryz.prog clone140_ren := {
  mixed := by kernel_rfl
  f41 := ⟨Tryz.f140.name, by decide, Tryz.func140.trans (congrArg some (by kernel_rfl))⟩
  t4 := Tryz.underlying4
  a4 := Tryz.isAgg4
  z4 := Tryz.sizeOf4
  v4 := Tryz.zeroValue4
  t22 := Tryz.underlying173
  a22 := Tryz.isAgg173
  z22 := Tryz.sizeOf173
  v22 := Tryz.zeroValue173 }
theorem info140 : (Tryz.prog.info? 194).isSome = true ∧ (∀ i, Tryz.prog.info? 194 = some i → ∃ z, i.zero = some z ∧ z.cells.size = i.size ∧ 0 < i.size) := by
  obtain ⟨i0, hi, he⟩ := Option.map_eq_some_iff.1 (show (Tryz.prog.info? 194).map (fun i => i.zero.map fun z => decide (z.cells.size = i.size ∧ 0 < i.size)) = some (some true) by kernel_rfl)
  obtain ⟨z, hz, hd⟩ := Option.map_eq_some_iff.1 he
  refine ⟨by rw [hi]; rfl, fun i h => ?_⟩
  rw [hi] at h
  cases h
  exact ⟨z, hz, of_decide_eq_true hd⟩

theorem clone140 {xs : List V} {v : V} (h : emptyK xs = some v) (σ : St) : OkAt Tryz.prog 140 xs σ v σ := by
  obtain ⟨h1, h2⟩ := info140
  obtain ⟨i0, hi⟩ := Option.isSome_iff_exists.1 h1
  obtain ⟨z, hz, hzs, hsz⟩ := h2 i0 hi
  refine empty_gen (T := 194) (sz := i0.size) (fun n c w => AnyE.slices_Clone_nil clone140_lays n c w) (fun b off c w => ?_) h σ
  exact AnyE.slices_Clone clone140_lays i0 z i0.size i0.bytes hi hz rfl rfl hzs hsz (fun w => by simp [Go.sizeOf, typeInfo, clone140_ren, hi]) b off 0 c [] w (by simp) (by unfold maxLen; omega) (by omega) (fun j u h => by simp at h) (fun u hu => by simp at hu)

def clone141_ren : Go.Shelf.Ren := ⟨fun | 41 => 141 | n => n, fun | 22 => 174 | 23 => 182 | 4 => 4 | n => n, fun | n => n⟩
theorem clone141_lays : Go.Proofs.SlLaysE0.n41 Tryz.prog clone141_ren := {
  mixed := by kernel_rfl
  f41 := ⟨Tryz.f141.name, by decide, Tryz.func141.trans (congrArg some (by kernel_rfl))⟩
  t4 := Tryz.underlying4
  a4 := Tryz.isAgg4
  z4 := Tryz.sizeOf4
  v4 := Tryz.zeroValue4
  t22 := Tryz.underlying174
  a22 := Tryz.isAgg174
  z22 := Tryz.sizeOf174
  v22 := Tryz.zeroValue174 }
theorem info141 : (Tryz.prog.info? 182).isSome = true ∧ (∀ i, Tryz.prog.info? 182 = some i → ∃ z, i.zero = some z ∧ z.cells.size = i.size ∧ 0 < i.size) := by
  obtain ⟨i0, hi, he⟩ := Option.map_eq_some_iff.1 (show (Tryz.prog.info? 182).map (fun i => i.zero.map fun z => decide (z.cells.size = i.size ∧ 0 < i.size)) = some (some true) by kernel_rfl)
  obtain ⟨z, hz, hd⟩ := Option.map_eq_some_iff.1 he
  refine ⟨by rw [hi]; rfl, fun i h => ?_⟩
  rw [hi] at h
  cases h
  exact ⟨z, hz, of_decide_eq_true hd⟩

theorem clone141 {xs : List V} {v : V} (h : emptyK xs = some v) (σ : St) : OkAt Tryz.prog 141 xs σ v σ := by
  obtain ⟨h1, h2⟩ := info141
  obtain ⟨i0, hi⟩ := Option.isSome_iff_exists.1 h1
  obtain ⟨z, hz, hzs, hsz⟩ := h2 i0 hi
  refine empty_gen (T := 182) (sz := i0.size) (fun n c w => AnyE.slices_Clone_nil clone141_lays n c w) (fun b off c w => ?_) h σ
  exact AnyE.slices_Clone clone141_lays i0 z i0.size i0.bytes hi hz rfl rfl hzs hsz (fun w => by simp [Go.sizeOf, typeInfo, clone141_ren, hi]) b off 0 c [] w (by simp) (by unfold maxLen; omega) (by omega) (fun j u h => by simp at h) (fun u hu => by simp at hu)

def clone142_ren : Go.Shelf.Ren := ⟨fun | 41 => 142 | n => n, fun | 22 => 175 | 23 => 190 | 4 => 4 | n => n, fun | n => n⟩
theorem clone142_lays : Go.Proofs.SlLaysE0.n41 Tryz.prog clone142_ren := {
  mixed := by kernel_rfl
  f41 := ⟨Tryz.f142.name, by decide, Tryz.func142.trans (congrArg some (by kernel_rfl))⟩
  t4 := Tryz.underlying4
  a4 := Tryz.isAgg4
  z4 := Tryz.sizeOf4
  v4 := Tryz.zeroValue4
  t22 := Tryz.underlying175
  a22 := Tryz.isAgg175
  z22 := Tryz.sizeOf175
  v22 := Tryz.zeroValue175 }
theorem info142 : (Tryz.prog.info? 190).isSome = true ∧ (∀ i, Tryz.prog.info? 190 = some i → ∃ z, i.zero = some z ∧ z.cells.size = i.size ∧ 0 < i.size) := by
  obtain ⟨i0, hi, he⟩ := Option.map_eq_some_iff.1 (show (Tryz.prog.info? 190).map (fun i => i.zero.map fun z => decide (z.cells.size = i.size ∧ 0 < i.size)) = some (some true) by kernel_rfl)
  obtain ⟨z, hz, hd⟩ := Option.map_eq_some_iff.1 he
  refine ⟨by rw [hi]; rfl, fun i h => ?_⟩
  rw [hi] at h
  cases h
  exact ⟨z, hz, of_decide_eq_true hd⟩

theorem clone142 {xs : List V} {v : V} (h : emptyK xs = some v) (σ : St) : OkAt Tryz.prog 142 xs σ v σ := by
  obtain ⟨h1, h2⟩ := info142
  obtain ⟨i0, hi⟩ := Option.isSome_iff_exists.1 h1
  obtain ⟨z, hz, hzs, hsz⟩ := h2 i0 hi
  refine empty_gen (T := 190) (sz := i0.size) (fun n c w => AnyE.slices_Clone_nil clone142_lays n c w) (fun b off c w => ?_) h σ
  exact AnyE.slices_Clone clone142_lays i0 z i0.size i0.bytes hi hz rfl rfl hzs hsz (fun w => by simp [Go.sizeOf, typeInfo, clone142_ren, hi]) b off 0 c [] w (by simp) (by unfold maxLen; omega) (by omega) (fun j u h => by simp at h) (fun u hu => by simp at hu)

/-- What is known. -/
def KT : KnT := fun f => match f with
  | 24 => some (.s asK)
  | 26 => some (.s fun xs σ => (isK xs σ).map fun v => (v, σ))
  | 50 => some (.v itoaK)
  | 133 => some (.v lenK)
  | 134 => some (.s cloneNew)
  | 135 => some (.v cloneK)
  | 140 => some (.v emptyK)
  | 141 => some (.v emptyK)
  | 142 => some (.v emptyK)
  | 163 => some (.s checkK)
  | 224 => some (.v compareK)
  | 287 => some (.v byteK)
  | 306 => some (.v atoiK)
  | 315 => some (.v fieldsK)
  | _ => none

theorem kt_ok : CallOK Tryz.prog (knOf KT) := by
  have key : ∀ (o : Option V) (σ : St) (v : V) (σ' : St), (o.map fun v => (v, σ)) = some (v, σ') → o = some v ∧ σ' = σ := by
    intro o σ v σ' h
    cases o with
    | none => cases h
    | some x => simp at h; exact ⟨by rw [h.1], h.2.symm⟩
  intro f xs σ v σ' h
  unfold knOf at h
  split at h
  · rename_i g hg
    obtain ⟨h2, h3⟩ := key _ _ _ _ h
    subst h3
    unfold KT at hg
    split at hg
    · cases hg
    · cases hg
    · cases hg; exact ⟨by kernel_rfl, itoa_ok h2 _⟩
    · cases hg; exact ⟨by kernel_rfl, len_ok h2 _⟩
    · cases hg
    · cases hg; exact ⟨by kernel_rfl, clone135 h2 _⟩
    · cases hg; exact ⟨by kernel_rfl, clone140 h2 _⟩
    · cases hg; exact ⟨by kernel_rfl, clone141 h2 _⟩
    · cases hg; exact ⟨by kernel_rfl, clone142 h2 _⟩
    · cases hg
    · cases hg; exact ⟨by kernel_rfl, compare_ok h2 _⟩
    · cases hg; exact ⟨by kernel_rfl, byte_ok h2 _⟩
    · cases hg; exact ⟨by kernel_rfl, atoi_ok h2 _⟩
    · cases hg; exact ⟨by kernel_rfl, fields_ok h2 _⟩
    · cases hg
  · rename_i g hg
    unfold KT at hg
    split at hg
    · cases hg; exact ⟨by kernel_rfl, as_ok h⟩
    · cases hg; obtain ⟨h2, h3⟩ := key _ _ _ _ h; subst h3; exact ⟨by kernel_rfl, is_ok h2⟩
    · cases hg
    · cases hg
    · cases hg; exact ⟨by kernel_rfl, clone134_new h⟩
    · cases hg
    · cases hg
    · cases hg
    · cases hg
    · cases hg; exact ⟨by kernel_rfl, check_ok h⟩
    · cases hg
    · cases hg
    · cases hg
    · cases hg
    · cases hg
  · cases h
end Go.AbN
