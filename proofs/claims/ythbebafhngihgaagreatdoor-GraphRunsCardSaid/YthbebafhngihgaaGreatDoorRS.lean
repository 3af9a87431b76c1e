/- The code of GraphRuns' road stands for the program's; what is known of calls is so. No premise. -/
import Derived.Test.YthbebafhngihgaaGreatDoorRA
import Derived.Test.YthbebafhngihgaaGreatDoorFX
import Derived.Test.YthbebafhngihgaaGreatDoorFD
namespace Go.AbN
open Go Go.Ab Go.Ab4 Go.Proofs

theorem funcs_ok : ∀ f m, Q f = some m → ∃ fn, Tryz.prog.funcs[f]? = some fn ∧ funcOK Tryz.prog m fn = true := by
  intro f m h
  unfold Q at h
  split at h
  · cases h; exact ⟨_, Tryz.func3, ok3⟩
  · cases h; exact ⟨_, Tryz.func13, ok13⟩
  · cases h; exact ⟨_, Tryz.func14, ok14⟩
  · cases h; exact ⟨_, Tryz.func15, ok15⟩
  · cases h; exact ⟨_, Tryz.func16, ok16⟩
  · cases h; exact ⟨_, Tryz.func17, ok17⟩
  · cases h; exact ⟨_, Tryz.func18, ok18⟩
  · cases h; exact ⟨_, Tryz.func19, ok19⟩
  · cases h; exact ⟨_, Tryz.func20, ok20⟩
  · cases h; exact ⟨_, Tryz.func21, ok21⟩
  · cases h; exact ⟨_, Tryz.func22, ok22⟩
  · cases h; exact ⟨_, Tryz.func23, ok23⟩
  · cases h; exact ⟨_, Tryz.func24, ok24⟩
  · cases h; exact ⟨_, Tryz.func34, ok34⟩
  · cases h; exact ⟨_, Tryz.func51, ok51⟩
  · cases h; exact ⟨_, Tryz.func52, ok52⟩
  · cases h; exact ⟨_, Tryz.func53, ok53⟩
  · cases h; exact ⟨_, Tryz.func54, ok54⟩
  · cases h; exact ⟨_, Tryz.func55, ok55⟩
  · cases h; exact ⟨_, Tryz.func56, ok56⟩
  · cases h; exact ⟨_, Tryz.func57, ok57⟩
  · cases h; exact ⟨_, Tryz.func58, ok58⟩
  · cases h; exact ⟨_, Tryz.func59, ok59⟩
  · cases h; exact ⟨_, Tryz.func60, ok60⟩
  · cases h; exact ⟨_, Tryz.func61, ok61⟩
  · cases h; exact ⟨_, Tryz.func62, ok62⟩
  · cases h; exact ⟨_, Tryz.func63, ok63⟩
  · cases h; exact ⟨_, Tryz.func64, ok64⟩
  · cases h; exact ⟨_, Tryz.func66, ok66⟩
  · cases h; exact ⟨_, Tryz.func67, ok67⟩
  · cases h; exact ⟨_, Tryz.func73, ok73⟩
  · cases h; exact ⟨_, Tryz.func74, ok74⟩
  · cases h; exact ⟨_, Tryz.func98, ok98⟩
  · cases h; exact ⟨_, Tryz.func99, ok99⟩
  · cases h; exact ⟨_, Tryz.func100, ok100⟩
  · cases h; exact ⟨_, Tryz.func101, ok101⟩
  · cases h; exact ⟨_, Tryz.func102, ok102⟩
  · cases h; exact ⟨_, Tryz.func103, ok103⟩
  · cases h; exact ⟨_, Tryz.func104, ok104⟩
  · cases h; exact ⟨_, Tryz.func105, ok105⟩
  · cases h; exact ⟨_, Tryz.func106, ok106⟩
  · cases h; exact ⟨_, Tryz.func110, ok110⟩
  · cases h; exact ⟨_, Tryz.func111, ok111⟩
  · cases h; exact ⟨_, Tryz.func112, ok112⟩
  · cases h; exact ⟨_, Tryz.func118, ok118⟩
  · cases h; exact ⟨_, Tryz.func132, ok132⟩
  · cases h; exact ⟨_, Tryz.func133, ok133⟩
  · cases h; exact ⟨_, Tryz.func134, ok134⟩
  · cases h; exact ⟨_, Tryz.func135, ok135⟩
  · cases h; exact ⟨_, Tryz.func136, ok136⟩
  · cases h; exact ⟨_, Tryz.func137, ok137⟩
  · cases h; exact ⟨_, Tryz.func138, ok138⟩
  · cases h; exact ⟨_, Tryz.func139, ok139⟩
  · cases h; exact ⟨_, Tryz.func140, ok140⟩
  · cases h; exact ⟨_, Tryz.func141, ok141⟩
  · cases h; exact ⟨_, Tryz.func142, ok142⟩
  · cases h; exact ⟨_, Tryz.func143, ok143⟩
  · cases h; exact ⟨_, Tryz.func144, ok144⟩
  · cases h; exact ⟨_, Tryz.func145, ok145⟩
  · cases h; exact ⟨_, Tryz.func146, ok146⟩
  · cases h; exact ⟨_, Tryz.func147, ok147⟩
  · cases h; exact ⟨_, Tryz.func150, ok150⟩
  · cases h; exact ⟨_, Tryz.func151, ok151⟩
  · cases h; exact ⟨_, Tryz.func152, ok152⟩
  · cases h; exact ⟨_, Tryz.func153, ok153⟩
  · cases h; exact ⟨_, Tryz.func154, ok154⟩
  · cases h; exact ⟨_, Tryz.func155, ok155⟩
  · cases h; exact ⟨_, Tryz.func156, ok156⟩
  · cases h; exact ⟨_, Tryz.func157, ok157⟩
  · cases h; exact ⟨_, Tryz.func158, ok158⟩
  · cases h; exact ⟨_, Tryz.func172, ok172⟩
  · cases h; exact ⟨_, Tryz.func173, ok173⟩
  · cases h; exact ⟨_, Tryz.func174, ok174⟩
  · cases h; exact ⟨_, Tryz.func175, ok175⟩
  · cases h; exact ⟨_, Tryz.func176, ok176⟩
  · cases h; exact ⟨_, Tryz.func177, ok177⟩
  · cases h; exact ⟨_, Tryz.func178, ok178⟩
  · cases h; exact ⟨_, Tryz.func179, ok179⟩
  · cases h; exact ⟨_, Tryz.func180, ok180⟩
  · cases h; exact ⟨_, Tryz.func181, ok181⟩
  · cases h; exact ⟨_, Tryz.func182, ok182⟩
  · cases h; exact ⟨_, Tryz.func183, ok183⟩
  · cases h; exact ⟨_, Tryz.func184, ok184⟩
  · cases h; exact ⟨_, Tryz.func185, ok185⟩
  · cases h; exact ⟨_, Tryz.func186, ok186⟩
  · cases h; exact ⟨_, Tryz.func187, ok187⟩
  · cases h; exact ⟨_, Tryz.func188, ok188⟩
  · cases h; exact ⟨_, Tryz.func189, ok189⟩
  · cases h; exact ⟨_, Tryz.func190, ok190⟩
  · cases h; exact ⟨_, Tryz.func191, ok191⟩
  · cases h; exact ⟨_, Tryz.func202, ok202⟩
  · cases h; exact ⟨_, Tryz.func203, ok203⟩
  · cases h; exact ⟨_, Tryz.func204, ok204⟩
  · cases h; exact ⟨_, Tryz.func205, ok205⟩
  · cases h; exact ⟨_, Tryz.func206, ok206⟩
  · cases h; exact ⟨_, Tryz.func207, ok207⟩
  · cases h; exact ⟨_, Tryz.func208, ok208⟩
  · cases h; exact ⟨_, Tryz.func219, ok219⟩
  · cases h; exact ⟨_, Tryz.func221, ok221⟩
  · cases h; exact ⟨_, Tryz.func222, ok222⟩
  · cases h; exact ⟨_, Tryz.func234, ok234⟩
  · cases h; exact ⟨_, Tryz.func236, ok236⟩
  · cases h; exact ⟨_, Tryz.func237, ok237⟩
  · cases h; exact ⟨_, Tryz.func238, ok238⟩
  · cases h; exact ⟨_, Tryz.func239, ok239⟩
  · cases h; exact ⟨_, Tryz.func240, ok240⟩
  · cases h; exact ⟨_, Tryz.func241, ok241⟩
  · cases h; exact ⟨_, Tryz.func242, ok242⟩
  · cases h; exact ⟨_, Tryz.func243, ok243⟩
  · cases h; exact ⟨_, Tryz.func244, ok244⟩
  · cases h; exact ⟨_, Tryz.func250, ok250⟩
  · cases h; exact ⟨_, Tryz.func251, ok251⟩
  · cases h; exact ⟨_, Tryz.func252, ok252⟩
  · cases h; exact ⟨_, Tryz.func253, ok253⟩
  · cases h; exact ⟨_, Tryz.func254, ok254⟩
  · cases h; exact ⟨_, Tryz.func256, ok256⟩
  · cases h; exact ⟨_, Tryz.func257, ok257⟩
  · cases h; exact ⟨_, Tryz.func259, ok259⟩
  · cases h; exact ⟨_, Tryz.func260, ok260⟩
  · cases h; exact ⟨_, Tryz.func261, ok261⟩
  · cases h; exact ⟨_, Tryz.func262, ok262⟩
  · cases h; exact ⟨_, Tryz.func263, ok263⟩
  · cases h; exact ⟨_, Tryz.func265, ok265⟩
  · cases h; exact ⟨_, Tryz.func266, ok266⟩
  · cases h; exact ⟨_, Tryz.func267, ok267⟩
  · cases h

theorem sound0 (n : Nat) : CallOK Tryz.prog (callN Q Kn0 n) := callN_sound ⟨funcs_ok, kn0_ok⟩ n

theorem answer_ok {f : FuncId} {xs : List V} {v : V} (h : answer Q f xs = some v) (hx : insideL 0 xs = true) (hin : v.inside 0 = true) (σ : St) :
    enters Tryz.prog f = true ∧ ∀ (μ : List Nat) (lim : Nat → Nat) (w : World) (args : Array Value), WRel μ lim w σ → σ.base ≤ σ.objs.length → RelVs μ lim w xs args.toList →
      Calls Tryz.prog f args w fun e w' => ∃ y μ' lim', e = .returned y ∧ Chg μ lim w σ μ' lim' w' σ ∧ RelV μ' lim' w' v y := by
  unfold answer at h
  split at h
  · rename_i r σ1 hr
    exact CallOK.memo (sound0 100) hr hx h hin σ
  · cases h

theorem memo_ok {f : FuncId} {xs : List V} {v : V} (h : memo f xs = some v) (σ : St) :
    enters Tryz.prog f = true ∧ ∀ (μ : List Nat) (lim : Nat → Nat) (w : World) (args : Array Value), WRel μ lim w σ → σ.base ≤ σ.objs.length → RelVs μ lim w xs args.toList →
      Calls Tryz.prog f args w fun e w' => ∃ y μ' lim', e = .returned y ∧ Chg μ lim w σ μ' lim' w' σ ∧ RelV μ' lim' w' v y := by
  unfold memo at h
  split at h
  · split at h
    · rename_i hc
      obtain ⟨rfl, hi⟩ := hc
      cases h
      rw [isInt_spec hi]
      exact answer_ok m100 rfl rfl σ
    · cases h
  · split at h
    · rename_i hc
      obtain ⟨rfl, hi⟩ := hc
      cases h
      rw [isInt_spec hi]
      exact answer_ok m138 rfl rfl σ
    · split at h
      · rename_i hc
        obtain ⟨rfl, hi⟩ := hc
        cases h
        rw [isInt_spec hi]
        exact answer_ok m55 rfl rfl σ
      · cases h
  · cases h

theorem kn1_ok : CallOK Tryz.prog Kn1 := by
  intro f xs σ v σ' h
  unfold Kn1 at h
  split at h
  · rename_i r hr
    cases h
    exact kn0_ok f xs σ _ _ hr
  · obtain ⟨x, hx, he⟩ := Option.map_eq_some_iff.1 h
    cases he
    exact memo_ok hx _

theorem sound1 (n : Nat) : CallOK Tryz.prog (callN Q Kn1 n) := callN_sound ⟨funcs_ok, kn1_ok⟩ n
end Go.AbN
