/- The code of the road stands for the program's; what is known of calls is so; the call answers true. No premise. -/
import Derived.Test.YtgdekehgaelefaaGreatDoorRU
import Derived.Test.YtgdekehgaelefaaGreatDoorS2
import Derived.Test.YtgdekehgaelefaaGreatDoorFX
namespace Go.AbN
open Go Go.Ab Go.AbQ Go.Proofs

theorem funcs_ok0 : ∀ f m, Q0 f = some m → ∃ fn, Tryz.prog.funcs[f]? = some fn ∧ funcOK Tryz.prog m fn = true := by
  intro f m h
  unfold Q0 at h
  split at h
  · cases h; exact ⟨_, Tryz.func3, ok3⟩
  · cases h; exact ⟨_, Tryz.func4, ok4⟩
  · cases h; exact ⟨_, Tryz.func5, ok5⟩
  · cases h; exact ⟨_, Tryz.func6, ok6⟩
  · cases h; exact ⟨_, Tryz.func7, ok7⟩
  · cases h; exact ⟨_, Tryz.func8, ok8⟩
  · cases h; exact ⟨_, Tryz.func9, ok9⟩
  · cases h; exact ⟨_, Tryz.func10, ok10⟩
  · cases h; exact ⟨_, Tryz.func11, ok11⟩
  · cases h; exact ⟨_, Tryz.func12, ok12⟩
  · cases h; exact ⟨_, Tryz.func13, ok13⟩
  · cases h; exact ⟨_, Tryz.func14, ok14⟩
  · cases h; exact ⟨_, Tryz.func15, ok15⟩
  · cases h; exact ⟨_, Tryz.func16, ok16⟩
  · cases h; exact ⟨_, Tryz.func17, ok17⟩
  · cases h; exact ⟨_, Tryz.func18, ok18⟩
  · cases h; exact ⟨_, Tryz.func19, ok19⟩
  · cases h; exact ⟨_, Tryz.func20, ok20⟩
  · cases h; exact ⟨_, Tryz.func21, ok21⟩
  · cases h; exact ⟨_, Tryz.func22, ok22⟩
  · cases h; exact ⟨_, Tryz.func23, ok23⟩
  · cases h; exact ⟨_, Tryz.func24, ok24⟩
  · cases h; exact ⟨_, Tryz.func25, ok25⟩
  · cases h; exact ⟨_, Tryz.func26, ok26⟩
  · cases h; exact ⟨_, Tryz.func27, ok27⟩
  · cases h; exact ⟨_, Tryz.func28, ok28⟩
  · cases h; exact ⟨_, Tryz.func29, ok29⟩
  · cases h; exact ⟨_, Tryz.func30, ok30⟩
  · cases h; exact ⟨_, Tryz.func31, ok31⟩
  · cases h; exact ⟨_, Tryz.func32, ok32⟩
  · cases h; exact ⟨_, Tryz.func33, ok33⟩
  · cases h; exact ⟨_, Tryz.func34, ok34⟩
  · cases h; exact ⟨_, Tryz.func35, ok35⟩
  · cases h; exact ⟨_, Tryz.func36, ok36⟩
  · cases h; exact ⟨_, Tryz.func37, ok37⟩
  · cases h; exact ⟨_, Tryz.func38, ok38⟩
  · cases h; exact ⟨_, Tryz.func39, ok39⟩
  · cases h; exact ⟨_, Tryz.func40, ok40⟩
  · cases h; exact ⟨_, Tryz.func41, ok41⟩
  · cases h; exact ⟨_, Tryz.func42, ok42⟩
  · cases h; exact ⟨_, Tryz.func43, ok43⟩
  · cases h; exact ⟨_, Tryz.func44, ok44⟩
  · cases h; exact ⟨_, Tryz.func45, ok45⟩
  · cases h; exact ⟨_, Tryz.func46, ok46⟩
  · cases h; exact ⟨_, Tryz.func47, ok47⟩
  · cases h; exact ⟨_, Tryz.func48, ok48⟩
  · cases h; exact ⟨_, Tryz.func49, ok49⟩
  · cases h; exact ⟨_, Tryz.func50, ok50⟩
  · cases h; exact ⟨_, Tryz.func51, ok51⟩
  · cases h; exact ⟨_, Tryz.func52, ok52⟩
  · cases h
theorem funcs_ok1 : ∀ f m, Q1 f = some m → ∃ fn, Tryz.prog.funcs[f]? = some fn ∧ funcOK Tryz.prog m fn = true := by
  intro f m h
  unfold Q1 at h
  split at h
  · cases h; exact ⟨_, Tryz.func53, ok53⟩
  · cases h; exact ⟨_, Tryz.func54, ok54⟩
  · cases h; exact ⟨_, Tryz.func55, ok55⟩
  · cases h; exact ⟨_, Tryz.func56, ok56⟩
  · cases h; exact ⟨_, Tryz.func57, ok57⟩
  · cases h; exact ⟨_, Tryz.func58, ok58⟩
  · cases h; exact ⟨_, Tryz.func59, ok59⟩
  · cases h; exact ⟨_, Tryz.func60, ok60⟩
  · cases h; exact ⟨_, Tryz.func61, ok61⟩
  · cases h; exact ⟨_, Tryz.func62, ok62⟩
  · cases h; exact ⟨_, Tryz.func63, ok63⟩
  · cases h; exact ⟨_, Tryz.func64, ok64⟩
  · cases h; exact ⟨_, Tryz.func65, ok65⟩
  · cases h; exact ⟨_, Tryz.func66, ok66⟩
  · cases h; exact ⟨_, Tryz.func67, ok67⟩
  · cases h; exact ⟨_, Tryz.func68, ok68⟩
  · cases h; exact ⟨_, Tryz.func69, ok69⟩
  · cases h; exact ⟨_, Tryz.func70, ok70⟩
  · cases h; exact ⟨_, Tryz.func72, ok72⟩
  · cases h; exact ⟨_, Tryz.func73, ok73⟩
  · cases h; exact ⟨_, Tryz.func74, ok74⟩
  · cases h; exact ⟨_, Tryz.func75, ok75⟩
  · cases h; exact ⟨_, Tryz.func76, ok76⟩
  · cases h; exact ⟨_, Tryz.func77, ok77⟩
  · cases h; exact ⟨_, Tryz.func78, ok78⟩
  · cases h; exact ⟨_, Tryz.func79, ok79⟩
  · cases h; exact ⟨_, Tryz.func80, ok80⟩
  · cases h; exact ⟨_, Tryz.func81, ok81⟩
  · cases h; exact ⟨_, Tryz.func82, ok82⟩
  · cases h; exact ⟨_, Tryz.func84, ok84⟩
  · cases h; exact ⟨_, Tryz.func85, ok85⟩
  · cases h; exact ⟨_, Tryz.func86, ok86⟩
  · cases h; exact ⟨_, Tryz.func87, ok87⟩
  · cases h; exact ⟨_, Tryz.func88, ok88⟩
  · cases h; exact ⟨_, Tryz.func89, ok89⟩
  · cases h; exact ⟨_, Tryz.func90, ok90⟩
  · cases h; exact ⟨_, Tryz.func91, ok91⟩
  · cases h; exact ⟨_, Tryz.func92, ok92⟩
  · cases h; exact ⟨_, Tryz.func93, ok93⟩
  · cases h; exact ⟨_, Tryz.func94, ok94⟩
  · cases h; exact ⟨_, Tryz.func95, ok95⟩
  · cases h; exact ⟨_, Tryz.func96, ok96⟩
  · cases h; exact ⟨_, Tryz.func97, ok97⟩
  · cases h; exact ⟨_, Tryz.func98, ok98⟩
  · cases h; exact ⟨_, Tryz.func99, ok99⟩
  · cases h; exact ⟨_, Tryz.func100, ok100⟩
  · cases h; exact ⟨_, Tryz.func102, ok102⟩
  · cases h; exact ⟨_, Tryz.func103, ok103⟩
  · cases h; exact ⟨_, Tryz.func104, ok104⟩
  · cases h; exact ⟨_, Tryz.func105, ok105⟩
  · cases h
theorem funcs_ok2 : ∀ f m, Q2 f = some m → ∃ fn, Tryz.prog.funcs[f]? = some fn ∧ funcOK Tryz.prog m fn = true := by
  intro f m h
  unfold Q2 at h
  split at h
  · cases h; exact ⟨_, Tryz.func106, ok106⟩
  · cases h; exact ⟨_, Tryz.func107, ok107⟩
  · cases h; exact ⟨_, Tryz.func108, ok108⟩
  · cases h; exact ⟨_, Tryz.func109, ok109⟩
  · cases h; exact ⟨_, Tryz.func110, ok110⟩
  · cases h; exact ⟨_, Tryz.func111, ok111⟩
  · cases h; exact ⟨_, Tryz.func112, ok112⟩
  · cases h; exact ⟨_, Tryz.func113, ok113⟩
  · cases h; exact ⟨_, Tryz.func114, ok114⟩
  · cases h; exact ⟨_, Tryz.func115, ok115⟩
  · cases h; exact ⟨_, Tryz.func116, ok116⟩
  · cases h; exact ⟨_, Tryz.func117, ok117⟩
  · cases h; exact ⟨_, Tryz.func118, ok118⟩
  · cases h; exact ⟨_, Tryz.func119, ok119⟩
  · cases h; exact ⟨_, Tryz.func120, ok120⟩
  · cases h; exact ⟨_, Tryz.func121, ok121⟩
  · cases h; exact ⟨_, Tryz.func122, ok122⟩
  · cases h; exact ⟨_, Tryz.func123, ok123⟩
  · cases h; exact ⟨_, Tryz.func124, ok124⟩
  · cases h; exact ⟨_, Tryz.func125, ok125⟩
  · cases h; exact ⟨_, Tryz.func128, ok128⟩
  · cases h; exact ⟨_, Tryz.func129, ok129⟩
  · cases h; exact ⟨_, Tryz.func130, ok130⟩
  · cases h; exact ⟨_, Tryz.func131, ok131⟩
  · cases h; exact ⟨_, Tryz.func132, ok132⟩
  · cases h; exact ⟨_, Tryz.func133, ok133⟩
  · cases h; exact ⟨_, Tryz.func134, ok134⟩
  · cases h; exact ⟨_, Tryz.func135, ok135⟩
  · cases h; exact ⟨_, Tryz.func136, ok136⟩
  · cases h; exact ⟨_, Tryz.func137, ok137⟩
  · cases h; exact ⟨_, Tryz.func139, ok139⟩
  · cases h; exact ⟨_, Tryz.func140, ok140⟩
  · cases h; exact ⟨_, Tryz.func141, ok141⟩
  · cases h; exact ⟨_, Tryz.func142, ok142⟩
  · cases h; exact ⟨_, Tryz.func143, ok143⟩
  · cases h; exact ⟨_, Tryz.func144, ok144⟩
  · cases h; exact ⟨_, Tryz.func145, ok145⟩
  · cases h; exact ⟨_, Tryz.func146, ok146⟩
  · cases h; exact ⟨_, Tryz.func147, ok147⟩
  · cases h; exact ⟨_, Tryz.func148, ok148⟩
  · cases h; exact ⟨_, Tryz.func149, ok149⟩
  · cases h; exact ⟨_, Tryz.func150, ok150⟩
  · cases h; exact ⟨_, Tryz.func151, ok151⟩
  · cases h; exact ⟨_, Tryz.func152, ok152⟩
  · cases h; exact ⟨_, Tryz.func153, ok153⟩
  · cases h; exact ⟨_, Tryz.func154, ok154⟩
  · cases h; exact ⟨_, Tryz.func155, ok155⟩
  · cases h; exact ⟨_, Tryz.func156, ok156⟩
  · cases h; exact ⟨_, Tryz.func157, ok157⟩
  · cases h; exact ⟨_, Tryz.func160, ok160⟩
  · cases h
theorem funcs_ok3 : ∀ f m, Q3 f = some m → ∃ fn, Tryz.prog.funcs[f]? = some fn ∧ funcOK Tryz.prog m fn = true := by
  intro f m h
  unfold Q3 at h
  split at h
  · cases h; exact ⟨_, Tryz.func161, ok161⟩
  · cases h; exact ⟨_, Tryz.func162, ok162⟩
  · cases h; exact ⟨_, Tryz.func163, ok163⟩
  · cases h; exact ⟨_, Tryz.func164, ok164⟩
  · cases h; exact ⟨_, Tryz.func165, ok165⟩
  · cases h; exact ⟨_, Tryz.func166, ok166⟩
  · cases h; exact ⟨_, Tryz.func167, ok167⟩
  · cases h; exact ⟨_, Tryz.func168, ok168⟩
  · cases h; exact ⟨_, Tryz.func169, ok169⟩
  · cases h; exact ⟨_, Tryz.func170, ok170⟩
  · cases h; exact ⟨_, Tryz.func171, ok171⟩
  · cases h; exact ⟨_, Tryz.func172, ok172⟩
  · cases h; exact ⟨_, Tryz.func173, ok173⟩
  · cases h; exact ⟨_, Tryz.func174, ok174⟩
  · cases h; exact ⟨_, Tryz.func175, ok175⟩
  · cases h; exact ⟨_, Tryz.func176, ok176⟩
  · cases h; exact ⟨_, Tryz.func177, ok177⟩
  · cases h; exact ⟨_, Tryz.func178, ok178⟩
  · cases h; exact ⟨_, Tryz.func179, ok179⟩
  · cases h; exact ⟨_, Tryz.func180, ok180⟩
  · cases h; exact ⟨_, Tryz.func181, ok181⟩
  · cases h; exact ⟨_, Tryz.func182, ok182⟩
  · cases h; exact ⟨_, Tryz.func183, ok183⟩
  · cases h; exact ⟨_, Tryz.func184, ok184⟩
  · cases h; exact ⟨_, Tryz.func185, ok185⟩
  · cases h; exact ⟨_, Tryz.func186, ok186⟩
  · cases h; exact ⟨_, Tryz.func187, ok187⟩
  · cases h; exact ⟨_, Tryz.func188, ok188⟩
  · cases h; exact ⟨_, Tryz.func189, ok189⟩
  · cases h; exact ⟨_, Tryz.func190, ok190⟩
  · cases h; exact ⟨_, Tryz.func193, ok193⟩
  · cases h; exact ⟨_, Tryz.func195, ok195⟩
  · cases h; exact ⟨_, Tryz.func196, ok196⟩
  · cases h; exact ⟨_, Tryz.func197, ok197⟩
  · cases h; exact ⟨_, Tryz.func198, ok198⟩
  · cases h; exact ⟨_, Tryz.func199, ok199⟩
  · cases h; exact ⟨_, Tryz.func200, ok200⟩
  · cases h; exact ⟨_, Tryz.func201, ok201⟩
  · cases h; exact ⟨_, Tryz.func202, ok202⟩
  · cases h; exact ⟨_, Tryz.func203, ok203⟩
  · cases h; exact ⟨_, Tryz.func205, ok205⟩
  · cases h; exact ⟨_, Tryz.func206, ok206⟩
  · cases h; exact ⟨_, Tryz.func207, ok207⟩
  · cases h; exact ⟨_, Tryz.func208, ok208⟩
  · cases h; exact ⟨_, Tryz.func209, ok209⟩
  · cases h; exact ⟨_, Tryz.func210, ok210⟩
  · cases h; exact ⟨_, Tryz.func211, ok211⟩
  · cases h; exact ⟨_, Tryz.func212, ok212⟩
  · cases h; exact ⟨_, Tryz.func213, ok213⟩
  · cases h; exact ⟨_, Tryz.func214, ok214⟩
  · cases h
theorem funcs_ok4 : ∀ f m, Q4 f = some m → ∃ fn, Tryz.prog.funcs[f]? = some fn ∧ funcOK Tryz.prog m fn = true := by
  intro f m h
  unfold Q4 at h
  split at h
  · cases h; exact ⟨_, Tryz.func218, ok218⟩
  · cases h; exact ⟨_, Tryz.func220, ok220⟩
  · cases h; exact ⟨_, Tryz.func221, ok221⟩
  · cases h; exact ⟨_, Tryz.func222, ok222⟩
  · cases h; exact ⟨_, Tryz.func223, ok223⟩
  · cases h; exact ⟨_, Tryz.func224, ok224⟩
  · cases h; exact ⟨_, Tryz.func225, ok225⟩
  · cases h; exact ⟨_, Tryz.func226, ok226⟩
  · cases h; exact ⟨_, Tryz.func227, ok227⟩
  · cases h; exact ⟨_, Tryz.func229, ok229⟩
  · cases h; exact ⟨_, Tryz.func230, ok230⟩
  · cases h; exact ⟨_, Tryz.func231, ok231⟩
  · cases h; exact ⟨_, Tryz.func232, ok232⟩
  · cases h; exact ⟨_, Tryz.func233, ok233⟩
  · cases h; exact ⟨_, Tryz.func234, ok234⟩
  · cases h; exact ⟨_, Tryz.func235, ok235⟩
  · cases h; exact ⟨_, Tryz.func236, ok236⟩
  · cases h; exact ⟨_, Tryz.func237, ok237⟩
  · cases h; exact ⟨_, Tryz.func238, ok238⟩
  · cases h; exact ⟨_, Tryz.func239, ok239⟩
  · cases h; exact ⟨_, Tryz.func240, ok240⟩
  · cases h; exact ⟨_, Tryz.func241, ok241⟩
  · cases h; exact ⟨_, Tryz.func242, ok242⟩
  · cases h; exact ⟨_, Tryz.func244, ok244⟩
  · cases h; exact ⟨_, Tryz.func245, ok245⟩
  · cases h; exact ⟨_, Tryz.func246, ok246⟩
  · cases h; exact ⟨_, Tryz.func247, ok247⟩
  · cases h; exact ⟨_, Tryz.func248, ok248⟩
  · cases h; exact ⟨_, Tryz.func249, ok249⟩
  · cases h; exact ⟨_, Tryz.func250, ok250⟩
  · cases h; exact ⟨_, Tryz.func253, ok253⟩
  · cases h; exact ⟨_, Tryz.func255, ok255⟩
  · cases h; exact ⟨_, Tryz.func256, ok256⟩
  · cases h; exact ⟨_, Tryz.func257, ok257⟩
  · cases h; exact ⟨_, Tryz.func258, ok258⟩
  · cases h; exact ⟨_, Tryz.func259, ok259⟩
  · cases h; exact ⟨_, Tryz.func260, ok260⟩
  · cases h; exact ⟨_, Tryz.func261, ok261⟩
  · cases h; exact ⟨_, Tryz.func262, ok262⟩
  · cases h; exact ⟨_, Tryz.func263, ok263⟩
  · cases h; exact ⟨_, Tryz.func264, ok264⟩
  · cases h; exact ⟨_, Tryz.func265, ok265⟩
  · cases h; exact ⟨_, Tryz.func266, ok266⟩
  · cases h; exact ⟨_, Tryz.func267, ok267⟩
  · cases h; exact ⟨_, Tryz.func268, ok268⟩
  · cases h; exact ⟨_, Tryz.func269, ok269⟩
  · cases h; exact ⟨_, Tryz.func270, ok270⟩
  · cases h; exact ⟨_, Tryz.func271, ok271⟩
  · cases h; exact ⟨_, Tryz.func272, ok272⟩
  · cases h; exact ⟨_, Tryz.func273, ok273⟩
  · cases h
theorem funcs_ok5 : ∀ f m, Q5 f = some m → ∃ fn, Tryz.prog.funcs[f]? = some fn ∧ funcOK Tryz.prog m fn = true := by
  intro f m h
  unfold Q5 at h
  split at h
  · cases h; exact ⟨_, Tryz.func274, ok274⟩
  · cases h; exact ⟨_, Tryz.func277, ok277⟩
  · cases h; exact ⟨_, Tryz.func278, ok278⟩
  · cases h; exact ⟨_, Tryz.func279, ok279⟩
  · cases h; exact ⟨_, Tryz.func280, ok280⟩
  · cases h; exact ⟨_, Tryz.func281, ok281⟩
  · cases h; exact ⟨_, Tryz.func282, ok282⟩
  · cases h; exact ⟨_, Tryz.func283, ok283⟩
  · cases h; exact ⟨_, Tryz.func284, ok284⟩
  · cases h; exact ⟨_, Tryz.func285, ok285⟩
  · cases h; exact ⟨_, Tryz.func286, ok286⟩
  · cases h; exact ⟨_, Tryz.func287, ok287⟩
  · cases h; exact ⟨_, Tryz.func288, ok288⟩
  · cases h; exact ⟨_, Tryz.func289, ok289⟩
  · cases h; exact ⟨_, Tryz.func290, ok290⟩
  · cases h; exact ⟨_, Tryz.func291, ok291⟩
  · cases h; exact ⟨_, Tryz.func292, ok292⟩
  · cases h; exact ⟨_, Tryz.func293, ok293⟩
  · cases h; exact ⟨_, Tryz.func294, ok294⟩
  · cases h; exact ⟨_, Tryz.func295, ok295⟩
  · cases h; exact ⟨_, Tryz.func296, ok296⟩
  · cases h; exact ⟨_, Tryz.func297, ok297⟩
  · cases h; exact ⟨_, Tryz.func298, ok298⟩
  · cases h; exact ⟨_, Tryz.func299, ok299⟩
  · cases h; exact ⟨_, Tryz.func301, ok301⟩
  · cases h; exact ⟨_, Tryz.func302, ok302⟩
  · cases h; exact ⟨_, Tryz.func303, ok303⟩
  · cases h; exact ⟨_, Tryz.func304, ok304⟩
  · cases h; exact ⟨_, Tryz.func305, ok305⟩
  · cases h; exact ⟨_, Tryz.func306, ok306⟩
  · cases h; exact ⟨_, Tryz.func308, ok308⟩
  · cases h; exact ⟨_, Tryz.func309, ok309⟩
  · cases h; exact ⟨_, Tryz.func310, ok310⟩
  · cases h
theorem funcs_ok : ∀ f m, Q f = some m → ∃ fn, Tryz.prog.funcs[f]? = some fn ∧ funcOK Tryz.prog m fn = true := by
  intro f m h
  unfold Q at h
  cases h0 : Q0 f with
  | some q => rw [h0] at h; cases h; exact funcs_ok0 f _ h0
  | none =>
  rw [h0] at h
  simp only at h
  cases h1 : Q1 f with
  | some q => rw [h1] at h; cases h; exact funcs_ok1 f _ h1
  | none =>
  rw [h1] at h
  simp only at h
  cases h2 : Q2 f with
  | some q => rw [h2] at h; cases h; exact funcs_ok2 f _ h2
  | none =>
  rw [h2] at h
  simp only at h
  cases h3 : Q3 f with
  | some q => rw [h3] at h; cases h; exact funcs_ok3 f _ h3
  | none =>
  rw [h3] at h
  simp only at h
  cases h4 : Q4 f with
  | some q => rw [h4] at h; cases h; exact funcs_ok4 f _ h4
  | none =>
  rw [h4] at h
  simp only at h
  cases h5 : Q5 f with
  | some q => rw [h5] at h; cases h; exact funcs_ok5 f _ h5
  | none =>
  rw [h5] at h
  simp only at h
  cases h

theorem sound (n : Nat) : CallOK Tryz.prog (callN Q (knOf KT) n) := callN_sound ⟨funcs_ok, kt_ok⟩ n

theorem answers : ∃ σ, callN Q (knOf KT) 600 3 [] ⟨[], 0⟩ = some (.bool true, σ) := by
  obtain ⟨r, σ, h1, h2⟩ := runs_of run_true
  refine ⟨σ, h1.trans ?_⟩
  unfold seen at h2
  split at h2
  · subst h2; rfl
  · cases h2
end Go.AbN
