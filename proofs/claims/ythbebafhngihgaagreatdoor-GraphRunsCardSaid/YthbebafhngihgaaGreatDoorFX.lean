/- The code of functions, checked against the program. Made by program (mkf.py). No premise. -/
import Derived.Test.YthbebafhngihgaaGreatDoorProg
import Derived.Test.YthbebafhngihgaaGreatDoorEX
import Derived.Test.YthbebafhngihgaaGreatDoorQB
namespace Go.Ab4
open Go Go.Ab
theorem ok13 : funcOK Go.Proofs.Tryz.prog q13 Go.Proofs.Tryz.f13 = true := by decide +kernel
theorem ok14 : funcOK Go.Proofs.Tryz.prog q14 Go.Proofs.Tryz.f14 = true := by decide +kernel
theorem ok15 : funcOK Go.Proofs.Tryz.prog q15 Go.Proofs.Tryz.f15 = true := by decide +kernel
theorem ok16 : funcOK Go.Proofs.Tryz.prog q16 Go.Proofs.Tryz.f16 = true := by decide +kernel
theorem ok17 : funcOK Go.Proofs.Tryz.prog q17 Go.Proofs.Tryz.f17 = true := by decide +kernel
theorem ok18 : funcOK Go.Proofs.Tryz.prog q18 Go.Proofs.Tryz.f18 = true := by decide +kernel
theorem ok19 : funcOK Go.Proofs.Tryz.prog q19 Go.Proofs.Tryz.f19 = true := by decide +kernel
theorem ok20 : funcOK Go.Proofs.Tryz.prog q20 Go.Proofs.Tryz.f20 = true := by decide +kernel
theorem ok21 : funcOK Go.Proofs.Tryz.prog q21 Go.Proofs.Tryz.f21 = true := by decide +kernel
theorem ok22 : funcOK Go.Proofs.Tryz.prog q22 Go.Proofs.Tryz.f22 = true := by decide +kernel
theorem ok23 : funcOK Go.Proofs.Tryz.prog q23 Go.Proofs.Tryz.f23 = true := by decide +kernel
theorem ok34 : funcOK Go.Proofs.Tryz.prog q34 Go.Proofs.Tryz.f34 = true := by decide +kernel
theorem ok51 : funcOK Go.Proofs.Tryz.prog q51 Go.Proofs.Tryz.f51 = true := by decide +kernel
theorem ok52 : funcOK Go.Proofs.Tryz.prog q52 Go.Proofs.Tryz.f52 = true := by decide +kernel
theorem ok53 : funcOK Go.Proofs.Tryz.prog q53 Go.Proofs.Tryz.f53 = true := by decide +kernel
theorem ok54 : funcOK Go.Proofs.Tryz.prog q54 Go.Proofs.Tryz.f54 = true := by decide +kernel
theorem ok55 : funcOK Go.Proofs.Tryz.prog q55 Go.Proofs.Tryz.f55 = true := by decide +kernel
theorem ok56 : funcOK Go.Proofs.Tryz.prog q56 Go.Proofs.Tryz.f56 = true := by decide +kernel
theorem ok57 : funcOK Go.Proofs.Tryz.prog q57 Go.Proofs.Tryz.f57 = true := by decide +kernel
theorem ok58 : funcOK Go.Proofs.Tryz.prog q58 Go.Proofs.Tryz.f58 = true := by decide +kernel
theorem ok59 : funcOK Go.Proofs.Tryz.prog q59 Go.Proofs.Tryz.f59 = true := by decide +kernel
theorem ok60 : funcOK Go.Proofs.Tryz.prog q60 Go.Proofs.Tryz.f60 = true := by decide +kernel
theorem ok61 : funcOK Go.Proofs.Tryz.prog q61 Go.Proofs.Tryz.f61 = true := by decide +kernel
theorem ok62 : funcOK Go.Proofs.Tryz.prog q62 Go.Proofs.Tryz.f62 = true := by decide +kernel
theorem ok63 : funcOK Go.Proofs.Tryz.prog q63 Go.Proofs.Tryz.f63 = true := by decide +kernel
theorem ok64 : funcOK Go.Proofs.Tryz.prog q64 Go.Proofs.Tryz.f64 = true := by decide +kernel
theorem ok66 : funcOK Go.Proofs.Tryz.prog q66 Go.Proofs.Tryz.f66 = true := by decide +kernel
theorem ok67 : funcOK Go.Proofs.Tryz.prog q67 Go.Proofs.Tryz.f67 = true := by decide +kernel
theorem ok73 : funcOK Go.Proofs.Tryz.prog q73 Go.Proofs.Tryz.f73 = true := by decide +kernel
theorem ok74 : funcOK Go.Proofs.Tryz.prog q74 Go.Proofs.Tryz.f74 = true := by decide +kernel
theorem ok98 : funcOK Go.Proofs.Tryz.prog q98 Go.Proofs.Tryz.f98 = true := by decide +kernel
theorem ok99 : funcOK Go.Proofs.Tryz.prog q99 Go.Proofs.Tryz.f99 = true := by decide +kernel
theorem ok100 : funcOK Go.Proofs.Tryz.prog q100 Go.Proofs.Tryz.f100 = true := by decide +kernel
theorem ok101 : funcOK Go.Proofs.Tryz.prog q101 Go.Proofs.Tryz.f101 = true := by decide +kernel
theorem ok102 : funcOK Go.Proofs.Tryz.prog q102 Go.Proofs.Tryz.f102 = true := by decide +kernel
theorem ok103 : funcOK Go.Proofs.Tryz.prog q103 Go.Proofs.Tryz.f103 = true := by decide +kernel
theorem ok104 : funcOK Go.Proofs.Tryz.prog q104 Go.Proofs.Tryz.f104 = true := by decide +kernel
theorem ok105 : funcOK Go.Proofs.Tryz.prog q105 Go.Proofs.Tryz.f105 = true := by decide +kernel
theorem ok106 : funcOK Go.Proofs.Tryz.prog q106 Go.Proofs.Tryz.f106 = true := by decide +kernel
theorem ok110 : funcOK Go.Proofs.Tryz.prog q110 Go.Proofs.Tryz.f110 = true := by decide +kernel
theorem ok111 : funcOK Go.Proofs.Tryz.prog q111 Go.Proofs.Tryz.f111 = true := by decide +kernel
end Go.Ab4

namespace Go.Ab4
open Go Go.Ab
theorem ok112 : funcOK Go.Proofs.Tryz.prog q112 Go.Proofs.Tryz.f112 = true := by decide +kernel
theorem ok118 : funcOK Go.Proofs.Tryz.prog q118 Go.Proofs.Tryz.f118 = true := by decide +kernel
theorem ok132 : funcOK Go.Proofs.Tryz.prog q132 Go.Proofs.Tryz.f132 = true := by decide +kernel
theorem ok133 : funcOK Go.Proofs.Tryz.prog q133 Go.Proofs.Tryz.f133 = true := by decide +kernel
theorem ok134 : funcOK Go.Proofs.Tryz.prog q134 Go.Proofs.Tryz.f134 = true := by decide +kernel
theorem ok135 : funcOK Go.Proofs.Tryz.prog q135 Go.Proofs.Tryz.f135 = true := by decide +kernel
theorem ok136 : funcOK Go.Proofs.Tryz.prog q136 Go.Proofs.Tryz.f136 = true := by decide +kernel
theorem ok137 : funcOK Go.Proofs.Tryz.prog q137 Go.Proofs.Tryz.f137 = true := by decide +kernel
theorem ok138 : funcOK Go.Proofs.Tryz.prog q138 Go.Proofs.Tryz.f138 = true := by decide +kernel
theorem ok139 : funcOK Go.Proofs.Tryz.prog q139 Go.Proofs.Tryz.f139 = true := by decide +kernel
theorem ok140 : funcOK Go.Proofs.Tryz.prog q140 Go.Proofs.Tryz.f140 = true := by decide +kernel
theorem ok141 : funcOK Go.Proofs.Tryz.prog q141 Go.Proofs.Tryz.f141 = true := by decide +kernel
theorem ok142 : funcOK Go.Proofs.Tryz.prog q142 Go.Proofs.Tryz.f142 = true := by decide +kernel
theorem ok143 : funcOK Go.Proofs.Tryz.prog q143 Go.Proofs.Tryz.f143 = true := by decide +kernel
theorem ok144 : funcOK Go.Proofs.Tryz.prog q144 Go.Proofs.Tryz.f144 = true := by decide +kernel
theorem ok145 : funcOK Go.Proofs.Tryz.prog q145 Go.Proofs.Tryz.f145 = true := by decide +kernel
theorem ok146 : funcOK Go.Proofs.Tryz.prog q146 Go.Proofs.Tryz.f146 = true := by decide +kernel
theorem ok147 : funcOK Go.Proofs.Tryz.prog q147 Go.Proofs.Tryz.f147 = true := by decide +kernel
theorem ok150 : funcOK Go.Proofs.Tryz.prog q150 Go.Proofs.Tryz.f150 = true := by decide +kernel
theorem ok151 : funcOK Go.Proofs.Tryz.prog q151 Go.Proofs.Tryz.f151 = true := by decide +kernel
theorem ok152 : funcOK Go.Proofs.Tryz.prog q152 Go.Proofs.Tryz.f152 = true := by decide +kernel
theorem ok153 : funcOK Go.Proofs.Tryz.prog q153 Go.Proofs.Tryz.f153 = true := by decide +kernel
theorem ok154 : funcOK Go.Proofs.Tryz.prog q154 Go.Proofs.Tryz.f154 = true := by decide +kernel
theorem ok155 : funcOK Go.Proofs.Tryz.prog q155 Go.Proofs.Tryz.f155 = true := by decide +kernel
theorem ok156 : funcOK Go.Proofs.Tryz.prog q156 Go.Proofs.Tryz.f156 = true := by decide +kernel
theorem ok157 : funcOK Go.Proofs.Tryz.prog q157 Go.Proofs.Tryz.f157 = true := by decide +kernel
theorem ok158 : funcOK Go.Proofs.Tryz.prog q158 Go.Proofs.Tryz.f158 = true := by decide +kernel
theorem ok172 : funcOK Go.Proofs.Tryz.prog q172 Go.Proofs.Tryz.f172 = true := by decide +kernel
theorem ok173 : funcOK Go.Proofs.Tryz.prog q173 Go.Proofs.Tryz.f173 = true := by decide +kernel
theorem ok174 : funcOK Go.Proofs.Tryz.prog q174 Go.Proofs.Tryz.f174 = true := by decide +kernel
theorem ok175 : funcOK Go.Proofs.Tryz.prog q175 Go.Proofs.Tryz.f175 = true := by decide +kernel
theorem ok176 : funcOK Go.Proofs.Tryz.prog q176 Go.Proofs.Tryz.f176 = true := by decide +kernel
theorem ok177 : funcOK Go.Proofs.Tryz.prog q177 Go.Proofs.Tryz.f177 = true := by decide +kernel
theorem ok178 : funcOK Go.Proofs.Tryz.prog q178 Go.Proofs.Tryz.f178 = true := by decide +kernel
theorem ok179 : funcOK Go.Proofs.Tryz.prog q179 Go.Proofs.Tryz.f179 = true := by decide +kernel
theorem ok180 : funcOK Go.Proofs.Tryz.prog q180 Go.Proofs.Tryz.f180 = true := by decide +kernel
theorem ok181 : funcOK Go.Proofs.Tryz.prog q181 Go.Proofs.Tryz.f181 = true := by decide +kernel
theorem ok182 : funcOK Go.Proofs.Tryz.prog q182 Go.Proofs.Tryz.f182 = true := by decide +kernel
theorem ok183 : funcOK Go.Proofs.Tryz.prog q183 Go.Proofs.Tryz.f183 = true := by decide +kernel
theorem ok184 : funcOK Go.Proofs.Tryz.prog q184 Go.Proofs.Tryz.f184 = true := by decide +kernel
theorem ok185 : funcOK Go.Proofs.Tryz.prog q185 Go.Proofs.Tryz.f185 = true := by decide +kernel
end Go.Ab4

namespace Go.Ab4
open Go Go.Ab
theorem ok186 : funcOK Go.Proofs.Tryz.prog q186 Go.Proofs.Tryz.f186 = true := by decide +kernel
theorem ok187 : funcOK Go.Proofs.Tryz.prog q187 Go.Proofs.Tryz.f187 = true := by decide +kernel
theorem ok188 : funcOK Go.Proofs.Tryz.prog q188 Go.Proofs.Tryz.f188 = true := by decide +kernel
theorem ok189 : funcOK Go.Proofs.Tryz.prog q189 Go.Proofs.Tryz.f189 = true := by decide +kernel
theorem ok190 : funcOK Go.Proofs.Tryz.prog q190 Go.Proofs.Tryz.f190 = true := by decide +kernel
theorem ok191 : funcOK Go.Proofs.Tryz.prog q191 Go.Proofs.Tryz.f191 = true := by decide +kernel
theorem ok202 : funcOK Go.Proofs.Tryz.prog q202 Go.Proofs.Tryz.f202 = true := by decide +kernel
theorem ok203 : funcOK Go.Proofs.Tryz.prog q203 Go.Proofs.Tryz.f203 = true := by decide +kernel
theorem ok204 : funcOK Go.Proofs.Tryz.prog q204 Go.Proofs.Tryz.f204 = true := by decide +kernel
theorem ok205 : funcOK Go.Proofs.Tryz.prog q205 Go.Proofs.Tryz.f205 = true := by decide +kernel
theorem ok206 : funcOK Go.Proofs.Tryz.prog q206 Go.Proofs.Tryz.f206 = true := by decide +kernel
theorem ok207 : funcOK Go.Proofs.Tryz.prog q207 Go.Proofs.Tryz.f207 = true := by decide +kernel
theorem ok208 : funcOK Go.Proofs.Tryz.prog q208 Go.Proofs.Tryz.f208 = true := by decide +kernel
theorem ok219 : funcOK Go.Proofs.Tryz.prog q219 Go.Proofs.Tryz.f219 = true := by decide +kernel
theorem ok221 : funcOK Go.Proofs.Tryz.prog q221 Go.Proofs.Tryz.f221 = true := by decide +kernel
theorem ok222 : funcOK Go.Proofs.Tryz.prog q222 Go.Proofs.Tryz.f222 = true := by decide +kernel
theorem ok236 : funcOK Go.Proofs.Tryz.prog q236 Go.Proofs.Tryz.f236 = true := by decide +kernel
theorem ok237 : funcOK Go.Proofs.Tryz.prog q237 Go.Proofs.Tryz.f237 = true := by decide +kernel
theorem ok238 : funcOK Go.Proofs.Tryz.prog q238 Go.Proofs.Tryz.f238 = true := by decide +kernel
theorem ok239 : funcOK Go.Proofs.Tryz.prog q239 Go.Proofs.Tryz.f239 = true := by decide +kernel
theorem ok240 : funcOK Go.Proofs.Tryz.prog q240 Go.Proofs.Tryz.f240 = true := by decide +kernel
theorem ok241 : funcOK Go.Proofs.Tryz.prog q241 Go.Proofs.Tryz.f241 = true := by decide +kernel
theorem ok242 : funcOK Go.Proofs.Tryz.prog q242 Go.Proofs.Tryz.f242 = true := by decide +kernel
theorem ok243 : funcOK Go.Proofs.Tryz.prog q243 Go.Proofs.Tryz.f243 = true := by decide +kernel
theorem ok244 : funcOK Go.Proofs.Tryz.prog q244 Go.Proofs.Tryz.f244 = true := by decide +kernel
theorem ok250 : funcOK Go.Proofs.Tryz.prog q250 Go.Proofs.Tryz.f250 = true := by decide +kernel
theorem ok251 : funcOK Go.Proofs.Tryz.prog q251 Go.Proofs.Tryz.f251 = true := by decide +kernel
theorem ok252 : funcOK Go.Proofs.Tryz.prog q252 Go.Proofs.Tryz.f252 = true := by decide +kernel
theorem ok253 : funcOK Go.Proofs.Tryz.prog q253 Go.Proofs.Tryz.f253 = true := by decide +kernel
theorem ok254 : funcOK Go.Proofs.Tryz.prog q254 Go.Proofs.Tryz.f254 = true := by decide +kernel
theorem ok256 : funcOK Go.Proofs.Tryz.prog q256 Go.Proofs.Tryz.f256 = true := by decide +kernel
theorem ok257 : funcOK Go.Proofs.Tryz.prog q257 Go.Proofs.Tryz.f257 = true := by decide +kernel
theorem ok259 : funcOK Go.Proofs.Tryz.prog q259 Go.Proofs.Tryz.f259 = true := by decide +kernel
theorem ok261 : funcOK Go.Proofs.Tryz.prog q261 Go.Proofs.Tryz.f261 = true := by decide +kernel
theorem ok262 : funcOK Go.Proofs.Tryz.prog q262 Go.Proofs.Tryz.f262 = true := by decide +kernel
theorem ok263 : funcOK Go.Proofs.Tryz.prog q263 Go.Proofs.Tryz.f263 = true := by decide +kernel
theorem ok265 : funcOK Go.Proofs.Tryz.prog q265 Go.Proofs.Tryz.f265 = true := by decide +kernel
theorem ok266 : funcOK Go.Proofs.Tryz.prog q266 Go.Proofs.Tryz.f266 = true := by decide +kernel
theorem ok267 : funcOK Go.Proofs.Tryz.prog q267 Go.Proofs.Tryz.f267 = true := by decide +kernel
end Go.Ab4
