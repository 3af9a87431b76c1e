/- What is said of a call of the library, and what new blocks leave as it was. No premise but those named. -/
import Derived.Test.YtmppaaajfjkniaaGreatDoorEX
import Derived.Test.YtmppaaajfjkniaaGreatDoorProg
import Derived.WalkKit
import Derived.RowKitTokens
import Derived.Lib.IfaceEq
import Derived.LaidEql
import Derived.Shelf.Strings.Builder1
import Derived.Stop.Asserts
import Derived.Test.YtmppaaajfjkniaaGreatDoorShelf
import Derived.Test.YtmppaaajfjkniaaGreatDoorS1
import Derived.Lib.SmallJoins
import Derived.Shelf.SlicesE.Clone
namespace Go.AbN
open Go Go.Ab Go.Proofs Go.RowKit

section
variable {P : Program} {μ : List Nat} {lim : Nat → Nat} {w : World} {σ : St}

theorem args1 {v : V} {args : Array Value} (h : RelVs μ lim w [v] args.toList) : ∃ X, args = #[X] ∧ RelV μ lim w v X := by
  cases args with | mk l =>
  match l, h with
  | [X], h => unfold RelVs at h; exact ⟨X, rfl, h.1⟩
  | [], h => unfold RelVs at h; exact h.elim
  | _ :: _ :: _, h => unfold RelVs at h; have := h.2; unfold RelVs at this; exact this.elim
theorem args2 {v u : V} {args : Array Value} (h : RelVs μ lim w [v, u] args.toList) : ∃ X Y, args = #[X, Y] ∧ RelV μ lim w v X ∧ RelV μ lim w u Y := by
  cases args with | mk l =>
  match l, h with
  | [X, Y], h => unfold RelVs at h; have := h.2; unfold RelVs at this; exact ⟨X, Y, rfl, h.1, this.1⟩
  | [], h => unfold RelVs at h; exact h.elim
  | [_], h => unfold RelVs at h; have := h.2; unfold RelVs at this; exact this.elim
  | _ :: _ :: _ :: _, h => unfold RelVs at h; have := h.2; unfold RelVs at this; have := this.2; unfold RelVs at this; exact this.elim

/-- What is said of a call is so. -/
def OkAt (P : Program) (f : FuncId) (xs : List V) (σ : St) (v : V) (σ' : St) : Prop :=
  ∀ (μ : List Nat) (lim : Nat → Nat) (w : World) (args : Array Value), WRel μ lim w σ → σ.base ≤ σ.objs.length → RelVs μ lim w xs args.toList →
    Calls P f args w fun e w' => ∃ y μ' lim', e = .returned y ∧ Chg μ lim w σ μ' lim' w' σ' ∧ RelV μ' lim' w' v y

/-- New blocks alone. -/
theorem chg_below (hw : WRel μ lim w σ) {w' : World} {lim' : Nat → Nat} (h : Below w.heap.size w w') (hl : ∀ b, b < w.heap.size → lim' b = lim b) (hf : ∀ b, w'.heap.size ≤ b → lim' b = 0) : Chg μ lim w σ μ lim' w' σ ∧ Ext μ lim w μ lim' w' := by
  have hx : Ext μ lim w μ lim' w' := ⟨fun _ _ x => x, fun b o ho => by
      have hb := hw.lim_lt ho
      exact ⟨by rw [hl b hb]; exact ho, cell_congr (h.block b hb) o⟩, fun b => by
      rcases Nat.lt_or_ge b w.heap.size with hb | hb
      · rw [bsize_congr (h.block b hb)]; exact Nat.le_refl _
      · rw [bsize_ge hb]; exact Nat.zero_le _⟩
  refine ⟨⟨h.os, h.tape, h.output, h.size, fun _ _ x => x, fun b hb _ => ⟨h.block b hb, hl b hb⟩, fun b _ => hx.size b, fun id b ha hb hm => .inr ⟨id, hb, ha, hm⟩, rfl, fun _ _ => rfl, Nat.le_refl _, fun _ hp => hw.glob_lt hp,
    ⟨hw.len, fun id b hm => Nat.lt_of_lt_of_le (hw.lt id b hm) h.size, hw.inj, fun id b o ho hm => (hw.obj id b o ho hm).ext hx (h.block b (hw.lt id b hm)) (hl b (hw.lt id b hm)), hf, glob_keep hw.glob fun p _ _ hlt => ⟨h.block p.1 hlt, hl p.1 hlt⟩⟩⟩, hx⟩

/-- A new block that nothing leads to. -/
theorem chg_add0 (hw : WRel μ lim w σ) (o : Go.Obj) : Chg μ lim w σ μ lim (addObj w o) σ := by
  have h := chg_add hw o 0
  have hlim : (fun b => if b = w.heap.size then 0 else lim b) = lim := by
    funext b
    split
    · rename_i h; rw [hw.fresh b (by omega)]
    · rfl
  rwa [hlim] at h

/-- A row of leaves in a new block, below which all is as it was. -/
theorem row_new (hw : WRel μ lim w σ) {w' : World} (h : Below w.heap.size w w') {g : Nat} {cur : Array Value} {ty : TypeId} {fr : Nat × Nat} {l : List (List V)} {news : List Value} {n cap : Nat} (hg : w.heap.size ≤ g) (hgb : w'.heap[g]? = some (.cells cur ty fr))
    (hr : RelVs μ lim w l.flatten news) (h1 : ∀ v ∈ news, v.oneCell = true) (hs : ∀ cs ∈ l, cs.length = 1) (hln : l.length = n) (hcur : ∀ k, k < news.length → cur[k]? = news[k]?) (hcap : n ≤ cap ∧ cap < 2 ^ 63) :
    ∃ lim', Chg μ lim w σ μ lim' w' σ ∧ RelV μ lim' w' (.slice .no 1 l) (.slice (some ⟨g, 0, none⟩) n cap) := by
  have hglt : g < w'.heap.size := (Array.getElem?_eq_some_iff.1 hgb).1
  obtain ⟨h2, hx⟩ := chg_below (lim' := fun b => if b = g then n else lim b) hw h (fun b hb => if_neg (by omega)) (fun b hb => by
    have : b ≠ g := by omega
    simp only [if_neg this]
    exact hw.fresh b (by have := h.size; omega))
  refine ⟨_, h2, ?_⟩
  have hfl := flat_len 1 l hs
  unfold RelV
  refine ⟨some ⟨g, 0, none⟩, cap, by rw [hln], ⟨by rw [hln]; exact hcap.1, by simp⟩, hcap.2, rfl, RelLL.of_flat hs (RelL.of_get fun k v hv => ?_)⟩
  have hkl := (List.getElem?_eq_some_iff.1 hv).1
  obtain ⟨x, hxk, hrx⟩ := hr.get hv
  refine ⟨by simp only [if_true]; omega, x, ?_, hrx.ext hx, h1 x (List.mem_of_getElem? hxk)⟩
  have := hcur k (List.getElem?_eq_some_iff.1 hxk).1
  rw [hxk] at this
  simp [World.cell?, hgb, this]
end

/-! ## slices.Clone -/

def cloneK : List V → Option V
  | [.slice _ 1 l] => if l.length ≤ 4294967296 then some (.slice .no 1 l) else none
  | _ => none

theorem cap_lt {c : Nat} (h : c ≤ maxLen) : c < 2 ^ 63 := by unfold maxLen at h; omega

theorem clone_gen {f : FuncId} {T : TypeId} (hnil : ∀ (n c : Nat) (w : World), Calls Tryz.prog f #[.slice none n c] w fun e w' => e = .returned (.slice none 0 0) ∧ w' = w)
    (hrow : ∀ (b off n c : Nat) (news : List Value) (w : World), news.length = n * 1 → n ≤ 4294967296 → (∀ j u, news[j]? = some u → w.cell? ⟨b, off + j, none⟩ = some u) → (∀ u ∈ news, u.oneCell = true) →
      Calls Tryz.prog f #[.slice (some ⟨b, off, none⟩) n c] w fun e w' => ∃ v', e = .returned v' ∧ w'.ownsRow w.heap.size T 1 v' n news ∧ v' ≠ .slice none 0 0 ∧ Below w.heap.size w w')
    {xs : List V} {v : V} (h : cloneK xs = some v) (σ : St) : OkAt Tryz.prog f xs σ v σ := by
  intro μ lim w args hw _ hx
  unfold cloneK at h
  split at h
  case h_2 => cases h
  rename_i o l
  split at h
  case isFalse => cases h
  rename_i hl
  cases h
  obtain ⟨X, rfl, hX⟩ := args1 hx
  unfold RelV at hX
  obtain ⟨base, cap, rfl, ⟨hle, _⟩, hcap, hbase⟩ := hX
  cases base with
  | none =>
    simp only at hbase
    subst hbase
    have hl0 : l = [] := List.eq_nil_of_length_eq_zero (by omega)
    subst hl0
    refine (hnil _ _ w).mono ?_
    rintro e w' ⟨rfl, rfl⟩
    refine ⟨_, μ, lim, rfl, Chg.refl hw, ?_⟩
    unfold RelV
    exact ⟨none, 0, rfl, ⟨Nat.le_refl _, by simp⟩, by decide, rfl⟩
  | some ad =>
    obtain ⟨hsp, hll⟩ := hbase
    have had : ad = ⟨ad.block, ad.off, none⟩ := by cases ad; simp at hsp; simp [hsp]
    obtain ⟨hflat, hfl⟩ := RelLL.flat hll
    have hs : ∀ cs ∈ l, cs.length = 1 := by
      intro cs hc
      obtain ⟨i, hi⟩ := List.getElem?_of_mem hc
      exact (hll.get hi).1
    obtain ⟨news, n1, n2, n3⟩ : ∃ news : List Value, RelVs μ lim w l.flatten news ∧ (∀ j u, news[j]? = some u → w.cell? ⟨ad.block, ad.off + j, none⟩ = some u) ∧ ∀ u ∈ news, u.oneCell = true := by
      have hget : ∀ j, j < l.flatten.length → ∃ c, w.cell? ⟨ad.block, ad.off + j, none⟩ = some c ∧ RelV μ lim w (l.flatten.getD j .undef) c ∧ c.oneCell = true := by
        intro j hj
        have := hflat.get (List.getElem?_eq_getElem hj)
        obtain ⟨_, c, h1, h2, h3⟩ := this
        refine ⟨c, h1, ?_, h3⟩
        rw [List.getD_eq_getElem?_getD, List.getElem?_eq_getElem hj]
        exact h2
      refine ⟨(List.range l.flatten.length).map fun j => (w.cell? ⟨ad.block, ad.off + j, none⟩).getD undef, ?_, ?_, ?_⟩
      · refine RelVs.of_get (by simp) fun k v x hv hx => ?_
        have hkl := (List.getElem?_eq_some_iff.1 hv).1
        obtain ⟨c, h1, h2, _⟩ := hget k hkl
        simp only [List.getElem?_map, List.getElem?_range hkl, Option.map_some, h1, Option.getD_some, Option.some.injEq] at hx
        subst hx
        rw [List.getD_eq_getElem?_getD, hv] at h2
        exact h2
      · intro j u hu
        simp only [List.getElem?_map, Option.map_eq_some_iff] at hu
        obtain ⟨k, hk, rfl⟩ := hu
        have hkj : k = j ∧ j < l.flatten.length := by
          have := List.getElem?_eq_some_iff.1 hk
          obtain ⟨h1, h2⟩ := this
          simp at h1 h2
          exact ⟨h2.symm, by simpa using h1⟩
        obtain ⟨rfl, hkl⟩ := hkj
        obtain ⟨c, h1, _⟩ := hget k hkl
        simp [h1]
      · intro u hu
        simp only [List.mem_map, List.mem_range] at hu
        obtain ⟨k, hk, rfl⟩ := hu
        obtain ⟨c, h1, _, h3⟩ := hget k hk
        simp [h1, h3]
    rw [had]
    refine (hrow ad.block ad.off l.length cap news w (by rw [← n1.length, hfl]) hl n2 n3).mono ?_
    rintro e w' ⟨v', rfl, ho, hne, hbel⟩
    rcases ho.2 with ⟨h1, _⟩ | ⟨g, cap', cur, h1, h2, h3, h4, h5, h6, h7⟩
    · exact absurd h1 hne
    · subst h1
      obtain ⟨lim', k1, k2⟩ := row_new (l := l) (news := news) (n := l.length) (cap := cap') hw hbel h2 h3 n1 n3 hs rfl (fun k hk => by
        have hnl : news.length = l.length * 1 := ho.1
        rw [← h7, List.getElem?_take_of_lt (by omega), Array.getElem?_toList]) ⟨h4, cap_lt h5⟩
      exact ⟨_, μ, lim', rfl, k1, k2⟩


/-- Of a row of nothing. -/
def emptyK : List V → Option V
  | [.slice _ sz []] => some (.slice .no sz [])
  | _ => none
theorem empty_gen {f : FuncId} {T : TypeId} {sz : Nat} (hnil : ∀ (n c : Nat) (w : World), Calls Tryz.prog f #[.slice none n c] w fun e w' => e = .returned (.slice none 0 0) ∧ w' = w)
    (hrow : ∀ (b off c : Nat) (w : World), Calls Tryz.prog f #[.slice (some ⟨b, off, none⟩) 0 c] w fun e w' => ∃ v', e = .returned v' ∧ w'.ownsRow w.heap.size T sz v' 0 [] ∧ v' ≠ .slice none 0 0 ∧ Below w.heap.size w w')
    {xs : List V} {v : V} (h : emptyK xs = some v) (σ : St) : OkAt Tryz.prog f xs σ v σ := by
  intro μ lim w args hw _ hx
  unfold emptyK at h
  split at h
  case h_2 => cases h
  rename_i o s
  cases h
  obtain ⟨X, rfl, hX⟩ := args1 hx
  unfold RelV at hX
  obtain ⟨base, cap, rfl, _, _, hbase⟩ := hX
  cases base with
  | none =>
    refine (hnil _ _ w).mono ?_
    rintro e w' ⟨rfl, rfl⟩
    refine ⟨_, μ, lim, rfl, Chg.refl hw, ?_⟩
    unfold RelV
    exact ⟨none, 0, rfl, ⟨Nat.le_refl _, by simp⟩, by decide, rfl⟩
  | some ad =>
    obtain ⟨hsp, _⟩ := hbase
    have had : ad = ⟨ad.block, ad.off, none⟩ := by cases ad; simp at hsp; simp [hsp]
    rw [had]
    refine (hrow ad.block ad.off cap w).mono ?_
    rintro e w' ⟨v', rfl, ho, hne, hbel⟩
    rcases ho.2 with ⟨h1, _⟩ | ⟨g, cap', cur, h1, h2, h3, h4, h5, h6, h7⟩
    · exact absurd h1 hne
    · subst h1
      refine ⟨_, μ, lim, rfl, (chg_below (lim' := lim) hw hbel (fun _ _ => rfl) (fun b hb => hw.fresh b (by have := hbel.size; omega))).1, ?_⟩
      unfold RelV
      exact ⟨_, cap', rfl, ⟨Nat.zero_le _, by simp⟩, cap_lt h5, rfl, by unfold RelLL; trivial⟩
end Go.AbN

namespace Go.Proofs.YtmppaaajfjkniaaGreatDoor
open Go.RowKit Go.Extern.Stop Go.Stop Go.Extern

set_option maxRecDepth 100000 in
set_option maxHeartbeats 4000000 in
/-- copyCheck at a builder that was used. -/
theorem copyCheck_used (b : Nat) (w : World) (h0 : w.cell? ⟨b, 0, none⟩ = some (.pointer (some ⟨b, 0, none⟩))) :
    Calls Tryz.prog 179 #[.pointer (some ⟨b, 0, none⟩)] w fun e w' => e = .returned (.tuple #[]) ∧ w' = w := by
  obtain ⟨j, hj, _⟩ := Option.map_eq_some_iff.1 (show (Tryz.prog.info? 216).map (·.size) = some 2 by kernel_rfl)
  go_enter Tryz.func179, Tryz.ntmps179
  go_wp2
  rw [Go.Lib.run_neq_ptr_same w _ Tryz.underlying214 hj]
  go_wp2
  go_end0
  exact ⟨rfl, rfl⟩

set_option maxRecDepth 100000 in
set_option maxHeartbeats 4000000 in
/-- copyCheck at a fresh builder: it stores its own address. -/
theorem copyCheck_fresh (b T n : Nat) (w : World) (h0 : w.cell? ⟨b, 0, none⟩ = some (.pointer none)) (hsh : w.shape? b = some (T, n)) (hn : 0 < n) (hl : liesAt Tryz.prog Tryz.prog.depth T (n / Tryz.prog.cellsOf T) 0 216 1 = true) (hfz : w.frozen? ⟨b, 0, none⟩ = false) :
    Calls Tryz.prog 179 #[.pointer (some ⟨b, 0, none⟩)] w fun e w' => e = .returned (.tuple #[]) ∧ w' = w.setCell ⟨b, 0, none⟩ (.pointer (some ⟨b, 0, none⟩)) := by
  obtain ⟨j, hj, hjs⟩ := Option.map_eq_some_iff.1 (show (Tryz.prog.info? 216).map (·.size) = some 2 by kernel_rfl)
  go_enter Tryz.func179, Tryz.ntmps179
  go_wp2
  rw [Go.Lib.run_to_unsafe w ⟨b, 0, none⟩ Tryz.underlying214 Tryz.underlying299 hj (by rw [hjs]; decide) hsh hn]
  simp only [Result.andThen]
  rw [Oper.upon_value]
  go_wp2
  rw [run_callFunc_extern Tryz.func210 (by kernel_rfl) (by kernel_rfl) (by kernel_rfl) (e := Extern.AbiNoEscape.same) (by kernel_rfl)]
  rw [Go.Lib.run_noEscape]
  simp only [Result.andThen]
  rw [Oper.upon_value]
  go_wp2
  rw [Go.Lib.run_from_unsafe w ⟨b, 0, none⟩ Tryz.underlying299 Tryz.underlying214 hj hsh hl]
  simp only [Result.andThen]
  rw [Oper.upon_value]
  go_wp2
  go_end0
  exact ⟨rfl, rfl⟩
end Go.Proofs.YtmppaaajfjkniaaGreatDoor
namespace Go.AbN
open Go Go.Ab Go.Proofs Go.Proofs.YtmppaaajfjkniaaGreatDoor Go.RowKit

/-! ## copyCheck -/

def holder (t n : Nat) : Bool := (t == 216 && n == 2) || (t == 220 && n == 3)
theorem holder_lies {t n : Nat} (h : holder t n = true) : liesAt Tryz.prog Tryz.prog.depth t (n / Tryz.prog.cellsOf t) 0 216 1 = true ∧ 0 < n := by
  have h' : (t = 216 ∧ n = 2) ∨ (t = 220 ∧ n = 3) := by
    simpa [holder] using h
  rcases h' with ⟨h1, h2⟩ | ⟨h1, h2⟩
  · refine ⟨?_, by omega⟩
    subst h1
    subst h2
    kernel_rfl
  · refine ⟨?_, by omega⟩
    subst h1
    subst h2
    kernel_rfl

def checkK (xs : List V) (σ : St) : Option (V × St) := match xs with
  | [.ptr id 0] => match σ.objs[id]? with
    | some (.var t cs) => match cs with
      | .sc (.pointer none) :: rest => if σ.base ≤ id ∧ holder t cs.length = true then some (.tup [], σ.set id (.var t (.ptr id 0 :: rest))) else none
      | .ptr id' 0 :: _ => if id' = id then some (.tup [], σ) else none
      | _ => none
    | _ => none
  | _ => none

theorem tup_nil {μ : List Nat} {lim : Nat → Nat} {w : World} : RelV μ lim w (.tup []) (.tuple #[]) := by
  unfold RelV; refine ⟨_, rfl, ?_⟩; unfold RelVs; trivial

theorem check_ok {xs : List V} {σ σ' : St} {v : V} (h : checkK xs σ = some (v, σ')) : OkAt Tryz.prog 179 xs σ v σ' := by
  intro μ lim w args hw _ hx
  unfold checkK at h
  split at h
  case h_2 => cases h
  rename_i id
  split at h
  case h_2 => cases h
  rename_i t cs ho
  obtain ⟨X, rfl, hX⟩ := args1 hx
  unfold RelV at hX
  obtain ⟨b, hb, rfl⟩ := hX
  obtain ⟨o1, c, hh, hlen, hcells⟩ := hw.obj id b _ ho hb
  split at h
  · rename_i rest
    split at h
    case isFalse => cases h
    rename_i hc
    cases h
    obtain ⟨hl, hn⟩ := holder_lies hc.2
    obtain ⟨x, hx0, hr0, _⟩ := hcells 0 _ rfl
    rw [relSc hr0] at hx0
    have hfz : w.frozen? ⟨b, 0, none⟩ = false := by simp [World.frozen?, hh]
    refine (copyCheck_fresh b t c.size w hx0 (by simp [World.shape?, hh]) (by omega) (by rw [← hlen]; exact hl) hfz).mono ?_
    rintro e w' ⟨rfl, rfl⟩
    have hal : alive σ id := ⟨_, ho, by simp⟩
    obtain ⟨⟨c2, k1, k2, k3⟩, k4, k5, k6, k7, k8⟩ := setCells_heap b [.pointer (some ⟨b, 0, none⟩)] 0 w c t (0, 0) hh (by simp; omega)
    have hset : w.setCells b 0 [.pointer (some ⟨b, 0, none⟩)] = w.setCell ⟨b, 0, none⟩ (.pointer (some ⟨b, 0, none⟩)) := rfl
    rw [hset] at k1 k4 k5 k6 k7 k8
    obtain ⟨g1, g2⟩ := chg_set hw hc.1 hal hb k6 k7 k8 k5 k4 (by unfold bsize; rw [k1, hh]; simp [k2]) (.var t (.ptr id 0 :: rest)) (fun hext => by
      refine ⟨o1, c2, k1, by rw [k2]; simpa using hlen, fun k v hv => ?_⟩
      have hck := k3 k
      cases k with
      | zero =>
        simp at hv
        subst hv
        refine ⟨.pointer (some ⟨b, 0, none⟩), ?_, ?_, rfl⟩
        · simp [World.cell?, k1, hck]
        · unfold RelV; exact ⟨b, hb, rfl⟩
      | succ k =>
        obtain ⟨y, hy, hry, hyo⟩ := hcells (k + 1) v (by simpa using hv)
        refine ⟨y, ?_, hry.ext hext, hyo⟩
        rw [if_neg (by simp)] at hck
        simp only [World.cell?, hh] at hy
        simp only [World.cell?, k1, hck]
        exact hy)
    exact ⟨_, μ, lim, rfl, g1, tup_nil⟩
  · rename_i id' rest
    split at h
    case isFalse => cases h
    rename_i hc
    subst hc
    cases h
    obtain ⟨x, hx0, hr0, _⟩ := hcells 0 _ rfl
    unfold RelV at hr0
    obtain ⟨b', hb', rfl⟩ := hr0
    rw [hb] at hb'
    cases hb'
    refine (copyCheck_used b w hx0).mono ?_
    rintro e w' ⟨rfl, rfl⟩
    exact ⟨_, μ, lim, rfl, Chg.refl hw, tup_nil⟩
  · cases h

end Go.AbN

namespace Go.AbN
open Go Go.Ab Go.Proofs Go.Proofs.YtmppaaajfjkniaaGreatDoor Go.RowKit

def dig (n : Nat) : List UInt8 := if n < 10 then [UInt8.ofNat (48 + n)] else [UInt8.ofNat (48 + n / 10), UInt8.ofNat (48 + n % 10)]
theorem dig_eq {n : Nat} (h : n < 100) : Lib.decDigits n = dig n := by
  unfold dig
  split
  · rename_i h1; rw [Lib.decDigits, dif_pos h1]
  · rename_i h1
    rw [Lib.decDigits, dif_neg h1, Lib.decDigits, dif_pos (by omega)]
    rfl

def itoaK : List V → Option V
  | [.sc (.int .i64 n)] => if 0 ≤ n ∧ n < 100 then some (.str ⟨(dig n.toNat).toArray⟩) else none
  | _ => none
theorem itoa_ok {xs : List V} {v : V} (h : itoaK xs = some v) (σ : St) : OkAt Tryz.prog 80 xs σ v σ := by
  intro μ lim w args hw _ hx
  unfold itoaK at h
  split at h
  case h_2 => cases h
  rename_i n
  split at h
  case isFalse => cases h
  rename_i hn
  cases h
  obtain ⟨X, rfl, hX⟩ := args1 hx
  have hXe : X = .int .i64 (n.toNat : Nat) := by rw [relSc hX]; congr 1; omega
  subst hXe
  refine (Tryz.strconv_Itoa_small n.toNat (by omega) w).mono ?_
  rintro e w' ⟨rfl, rfl⟩
  refine ⟨_, μ, lim, rfl, Chg.refl hw, ?_⟩
  rw [dig_eq (by omega)]
  exact scRel rfl


def lenK : List V → Option V
  | [.sc (.int .u64 x)] => if 0 ≤ x ∧ x ≤ 18446744073709551615 then some (.int (Lib.bitLen x.toNat)) else none
  | _ => none
theorem len_ok {xs : List V} {v : V} (h : lenK xs = some v) (σ : St) : OkAt Tryz.prog 68 xs σ v σ := by
  intro μ lim w args hw _ hx
  unfold lenK at h
  split at h
  case h_2 => cases h
  rename_i n
  split at h
  case isFalse => cases h
  rename_i hn
  cases h
  obtain ⟨X, rfl, hX⟩ := args1 hx
  rw [relSc hX]
  refine (Tryz.bits_Len n w hn.1 hn.2).mono ?_
  rintro e w' ⟨rfl, rfl⟩
  exact ⟨_, μ, lim, rfl, Chg.refl hw, scRel rfl⟩


def byteK : List V → Option V
  | [.sc (.string s), .sc (.int .u8 c)] => some (.int (Lib.indexByte s.data.toList c.toNat.toUInt8))
  | _ => none
theorem byte_ok {xs : List V} {v : V} (h : byteK xs = some v) (σ : St) : OkAt Tryz.prog 265 xs σ v σ := by
  intro μ lim w args hw _ hx
  unfold byteK at h
  split at h
  case h_2 => cases h
  rename_i s c
  cases h
  obtain ⟨X, Y, rfl, hX, hY⟩ := args2 hx
  rw [relSc hX, relSc hY]
  refine (Tryz.strings_IndexByte s c w).mono ?_
  rintro e w' ⟨rfl, rfl⟩
  exact ⟨_, μ, lim, rfl, Chg.refl hw, scRel rfl⟩


/-! ## strings.Fields -/

def fieldsK : List V → Option V
  | [.sc (.string s)] => if s.size < 65536 ∧ s.data.toList.all (fun b => decide (b.toNat < 128)) = true then some (.slice .no 1 ((Lib.fields s.data.toList).map fun l => [.str ⟨l.toArray⟩])) else none
  | _ => none
theorem gSpace : Tryz.prog.globalNamed "strings.asciiSpace" = some 4 := by kernel_rfl
theorem fieldsGo_len : ∀ (l cur : List UInt8), (Lib.fieldsGo cur l).length ≤ l.length + 1
  | [], cur => by simp only [Lib.fieldsGo]; split <;> simp
  | b :: l, cur => by
    simp only [Lib.fieldsGo]
    split
    · split
      · have := fieldsGo_len l []; simp; omega
      · have := fieldsGo_len l []; simp; omega
    · have := fieldsGo_len l (cur ++ [b]); simp; omega
theorem fields_ok {xs : List V} {v : V} (h : fieldsK xs = some v) (σ : St) : OkAt Tryz.prog 277 xs σ v σ := by
  intro μ lim w args hw _ hx
  unfold fieldsK at h
  split at h
  case h_2 => cases h
  rename_i s
  split at h
  case isFalse => cases h
  rename_i hs
  cases h
  obtain ⟨X, rfl, hX⟩ := args1 hx
  rw [relSc hX]
  have htab : Lib.TabIs Tryz.prog w "strings.asciiSpace" .u8 Lib.asciiSpaceTab := by
    obtain ⟨_, ty, fr, h2⟩ := hw.glob (4, (Lib.asciiSpaceTab.map fun z => Value.int .u8 z).toArray) (by unfold GL; first | exact .head _ | exact .tail _ (.head _))
    unfold Lib.TabIs World.var?
    rw [gSpace]
    simp only [Option.bind_some, h2]
  refine (Tryz.strings_Fields s w (by omega) (fun j b hb => by
    have := List.all_eq_true.1 hs.2 b (List.mem_of_getElem? hb)
    simpa using this) htab).mono ?_
  rintro e w' ⟨rfl, rfl⟩
  have hlen : (Lib.fields s.data.toList).length ≤ 65536 := by
    have := fieldsGo_len s.data.toList []
    have h2 : s.data.toList.length = s.size := Array.length_toList
    unfold Lib.fields
    omega
  have hbel : Below w.heap.size w (addObj w (.cells ((Lib.fields s.data.toList).map fun l => Value.string ⟨l.toArray⟩).toArray 9 (0, 0))) :=
    ⟨rfl, rfl, rfl, by rw [addObj_size]; omega, fun k hk => addObj_old hk⟩
  have hflat : ((Lib.fields s.data.toList).map fun l => [V.str ⟨l.toArray⟩]).flatten = (Lib.fields s.data.toList).map fun l => V.str ⟨l.toArray⟩ := by
    induction Lib.fields s.data.toList with
    | nil => rfl
    | cons a l ih => simp [ih]
  obtain ⟨lim', h3, h4⟩ := row_new (l := (Lib.fields s.data.toList).map fun l => [V.str ⟨l.toArray⟩]) (news := (Lib.fields s.data.toList).map fun l => Value.string ⟨l.toArray⟩) (n := (Lib.fields s.data.toList).length) (cap := (Lib.fields s.data.toList).length)
    hw hbel (Nat.le_refl _) (addObj_new w _) (by
      rw [hflat]
      refine RelVs.of_get (by simp) fun k v x hv hx => ?_
      simp only [List.getElem?_map, Option.map_eq_some_iff] at hv hx
      obtain ⟨a, ha, rfl⟩ := hv
      obtain ⟨b, hb, rfl⟩ := hx
      rw [ha] at hb
      cases hb
      exact scRel rfl) (by
      intro v hv
      simp only [List.mem_map] at hv
      obtain ⟨a, _, rfl⟩ := hv
      rfl) (by
      intro cs hc
      simp only [List.mem_map] at hc
      obtain ⟨a, _, rfl⟩ := hc
      rfl) (by simp) (fun k _ => by simp) ⟨Nat.le_refl _, by omega⟩
  exact ⟨_, μ, lim', rfl, h3, h4⟩


def compareK : List V → Option V
  | [.sc (.string a), .sc (.string b)] => some (.int (Lib.compareBytes a.data.toList b.data.toList))
  | _ => none
theorem compare_ok {xs : List V} {v : V} (h : compareK xs = some v) (σ : St) : OkAt Tryz.prog 181 xs σ v σ := by
  intro μ lim w args hw _ hx
  unfold compareK at h
  split at h
  case h_2 => cases h
  cases h
  obtain ⟨X, Y, rfl, hX, hY⟩ := args2 hx
  rw [relSc hX, relSc hY]
  refine (Tryz.bytealg_CompareString _ _ w).mono ?_
  rintro e w' ⟨rfl, rfl⟩
  exact ⟨_, μ, lim, rfl, Chg.refl hw, scRel rfl⟩

def atoiK : List V → Option V
  | [.sc (.string s)] => if s.size ≤ 18 then (Lib.atoi s.data.toList).map fun n => .tup [.int n, .sc .nilIface] else none
  | _ => none
theorem atoi_ok {xs : List V} {v : V} (h : atoiK xs = some v) (σ : St) : OkAt Tryz.prog 275 xs σ v σ := by
  intro μ lim w args hw _ hx
  unfold atoiK at h
  split at h
  case h_2 => cases h
  rename_i s
  split at h
  case isFalse => cases h
  rename_i hs
  obtain ⟨n, hn, rfl⟩ := Option.map_eq_some_iff.1 h
  obtain ⟨X, rfl, hX⟩ := args1 hx
  rw [relSc hX]
  refine (Tryz.strconv_Atoi s n hs hn w).mono ?_
  rintro e w' ⟨rfl, t, rfl⟩
  obtain ⟨h2, hx2⟩ := chg_below (lim' := lim) hw (Go.Joins.below_bytesWorld w.heap.size w 5 t (Nat.le_refl _)) (fun _ _ => rfl) (fun b hb => hw.fresh b (by have := (Go.Joins.below_bytesWorld w.heap.size w 5 t (Nat.le_refl _)).size; omega))
  refine ⟨_, μ, lim, rfl, h2, ?_⟩
  unfold RelV
  refine ⟨_, rfl, ?_⟩
  unfold RelVs RelVs RelVs
  exact ⟨scRel rfl, scRel rfl, trivial⟩

def clone69_ren : Go.Shelf.Ren := ⟨fun | 41 => 69 | n => n, fun | 22 => 38 | 23 => 9 | 4 => 4 | n => n, fun | n => n⟩
theorem clone69_lays : Go.Proofs.SlLaysE0.n41 Tryz.prog clone69_ren := {
  mixed := by kernel_rfl
  f41 := ⟨Tryz.f69.name, by decide, Tryz.func69.trans (congrArg some (by kernel_rfl))⟩
  t4 := Tryz.underlying4
  a4 := Tryz.isAgg4
  z4 := Tryz.sizeOf4
  v4 := Tryz.zeroValue4
  t22 := Tryz.underlying38
  a22 := Tryz.isAgg38
  z22 := Tryz.sizeOf38
  v22 := Tryz.zeroValue38 }
theorem info69 : (Tryz.prog.info? 9).isSome = true ∧ (∀ i, Tryz.prog.info? 9 = some i → ∃ z, i.zero = some z ∧ z.cells.size = i.size ∧ 0 < i.size) := by
  obtain ⟨i0, hi, he⟩ := Option.map_eq_some_iff.1 (show (Tryz.prog.info? 9).map (fun i => i.zero.map fun z => decide (z.cells.size = i.size ∧ 0 < i.size)) = some (some true) by kernel_rfl)
  obtain ⟨z, hz, hd⟩ := Option.map_eq_some_iff.1 he
  refine ⟨by rw [hi]; rfl, fun i h => ?_⟩
  rw [hi] at h
  cases h
  exact ⟨z, hz, of_decide_eq_true hd⟩

theorem zero69 : (Tryz.prog.info? 9).map (fun i => (i.size, i.bytes, i.zero)) = some (1, 16, some (.string ⟨#[]⟩)) := by kernel_rfl
theorem clone69 {xs : List V} {v : V} (h : cloneK xs = some v) (σ : St) : OkAt Tryz.prog 69 xs σ v σ := by
  obtain ⟨i0, hi, he⟩ := Option.map_eq_some_iff.1 zero69
  simp only [Prod.mk.injEq] at he
  obtain ⟨e1, e2, e3⟩ := he
  refine clone_gen (T := 9) (fun n c w => AnyE.slices_Clone_nil clone69_lays n c w) (fun b off n c news w hl hn hc h1 => ?_) h σ
  exact AnyE.slices_Clone clone69_lays i0 _ 1 16 hi e3 e1 e2 rfl (by decide) (fun w => by simp [Go.sizeOf, typeInfo, clone69_ren, hi, e1]) b off n c news w hl (by unfold maxLen; omega) (by omega) hc (fun u hu => by have := h1 u hu; cases u <;> first | rfl | simp [Value.oneCell] at this)

def clone70_ren : Go.Shelf.Ren := ⟨fun | 41 => 70 | n => n, fun | 22 => 56 | 23 => 4 | 4 => 4 | n => n, fun | n => n⟩
theorem clone70_lays : Go.Proofs.SlLaysE0.n41 Tryz.prog clone70_ren := {
  mixed := by kernel_rfl
  f41 := ⟨Tryz.f70.name, by decide, Tryz.func70.trans (congrArg some (by kernel_rfl))⟩
  t4 := Tryz.underlying4
  a4 := Tryz.isAgg4
  z4 := Tryz.sizeOf4
  v4 := Tryz.zeroValue4
  t22 := Tryz.underlying56
  a22 := Tryz.isAgg56
  z22 := Tryz.sizeOf56
  v22 := Tryz.zeroValue56 }
theorem info70 : (Tryz.prog.info? 4).isSome = true ∧ (∀ i, Tryz.prog.info? 4 = some i → ∃ z, i.zero = some z ∧ z.cells.size = i.size ∧ 0 < i.size) := by
  obtain ⟨i0, hi, he⟩ := Option.map_eq_some_iff.1 (show (Tryz.prog.info? 4).map (fun i => i.zero.map fun z => decide (z.cells.size = i.size ∧ 0 < i.size)) = some (some true) by kernel_rfl)
  obtain ⟨z, hz, hd⟩ := Option.map_eq_some_iff.1 he
  refine ⟨by rw [hi]; rfl, fun i h => ?_⟩
  rw [hi] at h
  cases h
  exact ⟨z, hz, of_decide_eq_true hd⟩

theorem zero70 : (Tryz.prog.info? 4).map (fun i => (i.size, i.bytes, i.zero)) = some (1, 1, some (.bool false)) := by kernel_rfl
theorem clone70 {xs : List V} {v : V} (h : cloneK xs = some v) (σ : St) : OkAt Tryz.prog 70 xs σ v σ := by
  obtain ⟨i0, hi, he⟩ := Option.map_eq_some_iff.1 zero70
  simp only [Prod.mk.injEq] at he
  obtain ⟨e1, e2, e3⟩ := he
  refine clone_gen (T := 4) (fun n c w => AnyE.slices_Clone_nil clone70_lays n c w) (fun b off n c news w hl hn hc h1 => ?_) h σ
  exact AnyE.slices_Clone clone70_lays i0 _ 1 1 hi e3 e1 e2 rfl (by decide) (fun w => by simp [Go.sizeOf, typeInfo, clone70_ren, hi, e1]) b off n c news w hl (by unfold maxLen; omega) (by omega) hc (fun u hu => by have := h1 u hu; cases u <;> first | rfl | simp [Value.oneCell] at this)

def clone72_ren : Go.Shelf.Ren := ⟨fun | 41 => 72 | n => n, fun | 22 => 78 | 23 => 100 | 4 => 4 | n => n, fun | n => n⟩
theorem clone72_lays : Go.Proofs.SlLaysE0.n41 Tryz.prog clone72_ren := {
  mixed := by kernel_rfl
  f41 := ⟨Tryz.f72.name, by decide, Tryz.func72.trans (congrArg some (by kernel_rfl))⟩
  t4 := Tryz.underlying4
  a4 := Tryz.isAgg4
  z4 := Tryz.sizeOf4
  v4 := Tryz.zeroValue4
  t22 := Tryz.underlying78
  a22 := Tryz.isAgg78
  z22 := Tryz.sizeOf78
  v22 := Tryz.zeroValue78 }
theorem info72 : (Tryz.prog.info? 100).isSome = true ∧ (∀ i, Tryz.prog.info? 100 = some i → ∃ z, i.zero = some z ∧ z.cells.size = i.size ∧ 0 < i.size) := by
  obtain ⟨i0, hi, he⟩ := Option.map_eq_some_iff.1 (show (Tryz.prog.info? 100).map (fun i => i.zero.map fun z => decide (z.cells.size = i.size ∧ 0 < i.size)) = some (some true) by kernel_rfl)
  obtain ⟨z, hz, hd⟩ := Option.map_eq_some_iff.1 he
  refine ⟨by rw [hi]; rfl, fun i h => ?_⟩
  rw [hi] at h
  cases h
  exact ⟨z, hz, of_decide_eq_true hd⟩

theorem clone72 {xs : List V} {v : V} (h : emptyK xs = some v) (σ : St) : OkAt Tryz.prog 72 xs σ v σ := by
  obtain ⟨h1, h2⟩ := info72
  obtain ⟨i0, hi⟩ := Option.isSome_iff_exists.1 h1
  obtain ⟨z, hz, hzs, hsz⟩ := h2 i0 hi
  refine empty_gen (T := 100) (sz := i0.size) (fun n c w => AnyE.slices_Clone_nil clone72_lays n c w) (fun b off c w => ?_) h σ
  exact AnyE.slices_Clone clone72_lays i0 z i0.size i0.bytes hi hz rfl rfl hzs hsz (fun w => by simp [Go.sizeOf, typeInfo, clone72_ren, hi]) b off 0 c [] w (by simp) (by unfold maxLen; omega) (by omega) (fun j u h => by simp at h) (fun u hu => by simp at hu)

def clone73_ren : Go.Shelf.Ren := ⟨fun | 41 => 73 | n => n, fun | 22 => 79 | 23 => 88 | 4 => 4 | n => n, fun | n => n⟩
theorem clone73_lays : Go.Proofs.SlLaysE0.n41 Tryz.prog clone73_ren := {
  mixed := by kernel_rfl
  f41 := ⟨Tryz.f73.name, by decide, Tryz.func73.trans (congrArg some (by kernel_rfl))⟩
  t4 := Tryz.underlying4
  a4 := Tryz.isAgg4
  z4 := Tryz.sizeOf4
  v4 := Tryz.zeroValue4
  t22 := Tryz.underlying79
  a22 := Tryz.isAgg79
  z22 := Tryz.sizeOf79
  v22 := Tryz.zeroValue79 }
theorem info73 : (Tryz.prog.info? 88).isSome = true ∧ (∀ i, Tryz.prog.info? 88 = some i → ∃ z, i.zero = some z ∧ z.cells.size = i.size ∧ 0 < i.size) := by
  obtain ⟨i0, hi, he⟩ := Option.map_eq_some_iff.1 (show (Tryz.prog.info? 88).map (fun i => i.zero.map fun z => decide (z.cells.size = i.size ∧ 0 < i.size)) = some (some true) by kernel_rfl)
  obtain ⟨z, hz, hd⟩ := Option.map_eq_some_iff.1 he
  refine ⟨by rw [hi]; rfl, fun i h => ?_⟩
  rw [hi] at h
  cases h
  exact ⟨z, hz, of_decide_eq_true hd⟩

theorem clone73 {xs : List V} {v : V} (h : emptyK xs = some v) (σ : St) : OkAt Tryz.prog 73 xs σ v σ := by
  obtain ⟨h1, h2⟩ := info73
  obtain ⟨i0, hi⟩ := Option.isSome_iff_exists.1 h1
  obtain ⟨z, hz, hzs, hsz⟩ := h2 i0 hi
  refine empty_gen (T := 88) (sz := i0.size) (fun n c w => AnyE.slices_Clone_nil clone73_lays n c w) (fun b off c w => ?_) h σ
  exact AnyE.slices_Clone clone73_lays i0 z i0.size i0.bytes hi hz rfl rfl hzs hsz (fun w => by simp [Go.sizeOf, typeInfo, clone73_ren, hi]) b off 0 c [] w (by simp) (by unfold maxLen; omega) (by omega) (fun j u h => by simp at h) (fun u hu => by simp at hu)

def clone74_ren : Go.Shelf.Ren := ⟨fun | 41 => 74 | n => n, fun | 22 => 80 | 23 => 96 | 4 => 4 | n => n, fun | n => n⟩
theorem clone74_lays : Go.Proofs.SlLaysE0.n41 Tryz.prog clone74_ren := {
  mixed := by kernel_rfl
  f41 := ⟨Tryz.f74.name, by decide, Tryz.func74.trans (congrArg some (by kernel_rfl))⟩
  t4 := Tryz.underlying4
  a4 := Tryz.isAgg4
  z4 := Tryz.sizeOf4
  v4 := Tryz.zeroValue4
  t22 := Tryz.underlying80
  a22 := Tryz.isAgg80
  z22 := Tryz.sizeOf80
  v22 := Tryz.zeroValue80 }
theorem info74 : (Tryz.prog.info? 96).isSome = true ∧ (∀ i, Tryz.prog.info? 96 = some i → ∃ z, i.zero = some z ∧ z.cells.size = i.size ∧ 0 < i.size) := by
  obtain ⟨i0, hi, he⟩ := Option.map_eq_some_iff.1 (show (Tryz.prog.info? 96).map (fun i => i.zero.map fun z => decide (z.cells.size = i.size ∧ 0 < i.size)) = some (some true) by kernel_rfl)
  obtain ⟨z, hz, hd⟩ := Option.map_eq_some_iff.1 he
  refine ⟨by rw [hi]; rfl, fun i h => ?_⟩
  rw [hi] at h
  cases h
  exact ⟨z, hz, of_decide_eq_true hd⟩

theorem clone74 {xs : List V} {v : V} (h : emptyK xs = some v) (σ : St) : OkAt Tryz.prog 74 xs σ v σ := by
  obtain ⟨h1, h2⟩ := info74
  obtain ⟨i0, hi⟩ := Option.isSome_iff_exists.1 h1
  obtain ⟨z, hz, hzs, hsz⟩ := h2 i0 hi
  refine empty_gen (T := 96) (sz := i0.size) (fun n c w => AnyE.slices_Clone_nil clone74_lays n c w) (fun b off c w => ?_) h σ
  exact AnyE.slices_Clone clone74_lays i0 z i0.size i0.bytes hi hz rfl rfl hzs hsz (fun w => by simp [Go.sizeOf, typeInfo, clone74_ren, hi]) b off 0 c [] w (by simp) (by unfold maxLen; omega) (by omega) (fun j u h => by simp at h) (fun u hu => by simp at hu)

/-- What is known. -/
def KT : KnT := fun f => match f with
  | 68 => some (.v lenK)
  | 69 => some (.v cloneK)
  | 70 => some (.v cloneK)
  | 72 => some (.v emptyK)
  | 73 => some (.v emptyK)
  | 74 => some (.v emptyK)
  | 80 => some (.v itoaK)
  | 179 => some (.s checkK)
  | 181 => some (.v compareK)
  | 265 => some (.v byteK)
  | 275 => some (.v atoiK)
  | 277 => some (.v fieldsK)
  | _ => none

theorem kt_ok : CallOK Tryz.prog (knOf KT) := by
  have key : ∀ (o : Option V) (σ : St) (v : V) (σ' : St), (o.map fun v => (v, σ)) = some (v, σ') → o = some v ∧ σ' = σ := by
    intro o σ v σ' h
    cases o with
    | none => cases h
    | some x => simp at h; exact ⟨by rw [h.1], h.2.symm⟩
  intro f xs σ v σ' h
  unfold knOf at h
  split at h
  · rename_i g hg
    obtain ⟨h2, h3⟩ := key _ _ _ _ h
    subst h3
    unfold KT at hg
    split at hg
    · cases hg; exact ⟨by kernel_rfl, len_ok h2 _⟩
    · cases hg; exact ⟨by kernel_rfl, clone69 h2 _⟩
    · cases hg; exact ⟨by kernel_rfl, clone70 h2 _⟩
    · cases hg; exact ⟨by kernel_rfl, clone72 h2 _⟩
    · cases hg; exact ⟨by kernel_rfl, clone73 h2 _⟩
    · cases hg; exact ⟨by kernel_rfl, clone74 h2 _⟩
    · cases hg; exact ⟨by kernel_rfl, itoa_ok h2 _⟩
    · cases hg
    · cases hg; exact ⟨by kernel_rfl, compare_ok h2 _⟩
    · cases hg; exact ⟨by kernel_rfl, byte_ok h2 _⟩
    · cases hg; exact ⟨by kernel_rfl, atoi_ok h2 _⟩
    · cases hg; exact ⟨by kernel_rfl, fields_ok h2 _⟩
    · cases hg
  · rename_i g hg
    unfold KT at hg
    split at hg
    · cases hg
    · cases hg
    · cases hg
    · cases hg
    · cases hg
    · cases hg
    · cases hg
    · cases hg; exact ⟨by kernel_rfl, check_ok h⟩
    · cases hg
    · cases hg
    · cases hg
    · cases hg
    · cases hg
  · cases h
end Go.AbN
