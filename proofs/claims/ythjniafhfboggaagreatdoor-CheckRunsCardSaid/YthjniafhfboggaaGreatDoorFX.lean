/- The code of functions, checked against the program. Made by program (mkrow.py). No premise. -/
import Derived.Test.YthjniafhfboggaaGreatDoorProg
import Derived.Test.YthjniafhfboggaaGreatDoorEX
import Derived.Test.YthjniafhfboggaaGreatDoorQB
namespace Go.AbQ
open Go Go.Ab
set_option maxRecDepth 100000 in
theorem ok4 : funcOK Go.Proofs.Tryz.prog q4 Go.Proofs.Tryz.f4 = true := by decide +kernel
set_option maxRecDepth 100000 in
theorem ok5 : funcOK Go.Proofs.Tryz.prog q5 Go.Proofs.Tryz.f5 = true := by decide +kernel
set_option maxRecDepth 100000 in
theorem ok10 : funcOK Go.Proofs.Tryz.prog q10 Go.Proofs.Tryz.f10 = true := by decide +kernel
set_option maxRecDepth 100000 in
theorem ok16 : funcOK Go.Proofs.Tryz.prog q16 Go.Proofs.Tryz.f16 = true := by decide +kernel
set_option maxRecDepth 100000 in
theorem ok18 : funcOK Go.Proofs.Tryz.prog q18 Go.Proofs.Tryz.f18 = true := by decide +kernel
set_option maxRecDepth 100000 in
theorem ok27 : funcOK Go.Proofs.Tryz.prog q27 Go.Proofs.Tryz.f27 = true := by decide +kernel
set_option maxRecDepth 100000 in
theorem ok28 : funcOK Go.Proofs.Tryz.prog q28 Go.Proofs.Tryz.f28 = true := by decide +kernel
set_option maxRecDepth 100000 in
theorem ok30 : funcOK Go.Proofs.Tryz.prog q30 Go.Proofs.Tryz.f30 = true := by decide +kernel
set_option maxRecDepth 100000 in
theorem ok31 : funcOK Go.Proofs.Tryz.prog q31 Go.Proofs.Tryz.f31 = true := by decide +kernel
set_option maxRecDepth 100000 in
theorem ok34 : funcOK Go.Proofs.Tryz.prog q34 Go.Proofs.Tryz.f34 = true := by decide +kernel
set_option maxRecDepth 100000 in
theorem ok44 : funcOK Go.Proofs.Tryz.prog q44 Go.Proofs.Tryz.f44 = true := by decide +kernel
set_option maxRecDepth 100000 in
theorem ok45 : funcOK Go.Proofs.Tryz.prog q45 Go.Proofs.Tryz.f45 = true := by decide +kernel
set_option maxRecDepth 100000 in
theorem ok55 : funcOK Go.Proofs.Tryz.prog q55 Go.Proofs.Tryz.f55 = true := by decide +kernel
set_option maxRecDepth 100000 in
theorem ok56 : funcOK Go.Proofs.Tryz.prog q56 Go.Proofs.Tryz.f56 = true := by decide +kernel
set_option maxRecDepth 100000 in
theorem ok59 : funcOK Go.Proofs.Tryz.prog q59 Go.Proofs.Tryz.f59 = true := by decide +kernel
set_option maxRecDepth 100000 in
theorem ok60 : funcOK Go.Proofs.Tryz.prog q60 Go.Proofs.Tryz.f60 = true := by decide +kernel
theorem ok61_r : restOK Go.Proofs.Tryz.prog q61 Go.Proofs.Tryz.f61 52 = true := by decide +kernel
set_option maxRecDepth 100000 in
theorem ok61_0 : regsOK Go.Proofs.Tryz.prog q61 Go.Proofs.Tryz.f61 0 26 = true := by decide +kernel
set_option maxRecDepth 100000 in
theorem ok61_26 : regsOK Go.Proofs.Tryz.prog q61 Go.Proofs.Tryz.f61 26 26 = true := by decide +kernel
theorem ok61 : funcOK Go.Proofs.Tryz.prog q61 Go.Proofs.Tryz.f61 = true := funcOK_of (many := 52) ok61_r (regsOK_join (a := 0) (b := 26) (c := 26) ok61_0 ok61_26)
set_option maxRecDepth 100000 in
theorem ok70 : funcOK Go.Proofs.Tryz.prog q70 Go.Proofs.Tryz.f70 = true := by decide +kernel
set_option maxRecDepth 100000 in
theorem ok72 : funcOK Go.Proofs.Tryz.prog q72 Go.Proofs.Tryz.f72 = true := by decide +kernel
set_option maxRecDepth 100000 in
theorem ok78 : funcOK Go.Proofs.Tryz.prog q78 Go.Proofs.Tryz.f78 = true := by decide +kernel
set_option maxRecDepth 100000 in
theorem ok82 : funcOK Go.Proofs.Tryz.prog q82 Go.Proofs.Tryz.f82 = true := by decide +kernel
set_option maxRecDepth 100000 in
theorem ok85 : funcOK Go.Proofs.Tryz.prog q85 Go.Proofs.Tryz.f85 = true := by decide +kernel
set_option maxRecDepth 100000 in
theorem ok89 : funcOK Go.Proofs.Tryz.prog q89 Go.Proofs.Tryz.f89 = true := by decide +kernel
set_option maxRecDepth 100000 in
theorem ok94 : funcOK Go.Proofs.Tryz.prog q94 Go.Proofs.Tryz.f94 = true := by decide +kernel
set_option maxRecDepth 100000 in
theorem ok96 : funcOK Go.Proofs.Tryz.prog q96 Go.Proofs.Tryz.f96 = true := by decide +kernel
set_option maxRecDepth 100000 in
theorem ok104 : funcOK Go.Proofs.Tryz.prog q104 Go.Proofs.Tryz.f104 = true := by decide +kernel
set_option maxRecDepth 100000 in
theorem ok108 : funcOK Go.Proofs.Tryz.prog q108 Go.Proofs.Tryz.f108 = true := by decide +kernel
set_option maxRecDepth 100000 in
theorem ok111 : funcOK Go.Proofs.Tryz.prog q111 Go.Proofs.Tryz.f111 = true := by decide +kernel
set_option maxRecDepth 100000 in
theorem ok122 : funcOK Go.Proofs.Tryz.prog q122 Go.Proofs.Tryz.f122 = true := by decide +kernel
set_option maxRecDepth 100000 in
theorem ok136 : funcOK Go.Proofs.Tryz.prog q136 Go.Proofs.Tryz.f136 = true := by decide +kernel
set_option maxRecDepth 100000 in
theorem ok137 : funcOK Go.Proofs.Tryz.prog q137 Go.Proofs.Tryz.f137 = true := by decide +kernel
set_option maxRecDepth 100000 in
theorem ok146 : funcOK Go.Proofs.Tryz.prog q146 Go.Proofs.Tryz.f146 = true := by decide +kernel
set_option maxRecDepth 100000 in
theorem ok154 : funcOK Go.Proofs.Tryz.prog q154 Go.Proofs.Tryz.f154 = true := by decide +kernel
set_option maxRecDepth 100000 in
theorem ok155 : funcOK Go.Proofs.Tryz.prog q155 Go.Proofs.Tryz.f155 = true := by decide +kernel
set_option maxRecDepth 100000 in
theorem ok159 : funcOK Go.Proofs.Tryz.prog q159 Go.Proofs.Tryz.f159 = true := by decide +kernel
set_option maxRecDepth 100000 in
theorem ok161 : funcOK Go.Proofs.Tryz.prog q161 Go.Proofs.Tryz.f161 = true := by decide +kernel
set_option maxRecDepth 100000 in
theorem ok165 : funcOK Go.Proofs.Tryz.prog q165 Go.Proofs.Tryz.f165 = true := by decide +kernel
set_option maxRecDepth 100000 in
theorem ok172 : funcOK Go.Proofs.Tryz.prog q172 Go.Proofs.Tryz.f172 = true := by decide +kernel
set_option maxRecDepth 100000 in
theorem ok175 : funcOK Go.Proofs.Tryz.prog q175 Go.Proofs.Tryz.f175 = true := by decide +kernel
set_option maxRecDepth 100000 in
theorem ok180 : funcOK Go.Proofs.Tryz.prog q180 Go.Proofs.Tryz.f180 = true := by decide +kernel
set_option maxRecDepth 100000 in
theorem ok181 : funcOK Go.Proofs.Tryz.prog q181 Go.Proofs.Tryz.f181 = true := by decide +kernel
set_option maxRecDepth 100000 in
theorem ok184 : funcOK Go.Proofs.Tryz.prog q184 Go.Proofs.Tryz.f184 = true := by decide +kernel
set_option maxRecDepth 100000 in
theorem ok189 : funcOK Go.Proofs.Tryz.prog q189 Go.Proofs.Tryz.f189 = true := by decide +kernel
set_option maxRecDepth 100000 in
theorem ok191 : funcOK Go.Proofs.Tryz.prog q191 Go.Proofs.Tryz.f191 = true := by decide +kernel
set_option maxRecDepth 100000 in
theorem ok197 : funcOK Go.Proofs.Tryz.prog q197 Go.Proofs.Tryz.f197 = true := by decide +kernel
set_option maxRecDepth 100000 in
theorem ok204 : funcOK Go.Proofs.Tryz.prog q204 Go.Proofs.Tryz.f204 = true := by decide +kernel
set_option maxRecDepth 100000 in
theorem ok205 : funcOK Go.Proofs.Tryz.prog q205 Go.Proofs.Tryz.f205 = true := by decide +kernel
set_option maxRecDepth 100000 in
theorem ok206 : funcOK Go.Proofs.Tryz.prog q206 Go.Proofs.Tryz.f206 = true := by decide +kernel
set_option maxRecDepth 100000 in
theorem ok211 : funcOK Go.Proofs.Tryz.prog q211 Go.Proofs.Tryz.f211 = true := by decide +kernel
set_option maxRecDepth 100000 in
theorem ok212 : funcOK Go.Proofs.Tryz.prog q212 Go.Proofs.Tryz.f212 = true := by decide +kernel
set_option maxRecDepth 100000 in
theorem ok216 : funcOK Go.Proofs.Tryz.prog q216 Go.Proofs.Tryz.f216 = true := by decide +kernel
set_option maxRecDepth 100000 in
theorem ok218 : funcOK Go.Proofs.Tryz.prog q218 Go.Proofs.Tryz.f218 = true := by decide +kernel
set_option maxRecDepth 100000 in
theorem ok220 : funcOK Go.Proofs.Tryz.prog q220 Go.Proofs.Tryz.f220 = true := by decide +kernel
set_option maxRecDepth 100000 in
theorem ok227 : funcOK Go.Proofs.Tryz.prog q227 Go.Proofs.Tryz.f227 = true := by decide +kernel
theorem ok228_r : restOK Go.Proofs.Tryz.prog q228 Go.Proofs.Tryz.f228 66 = true := by decide +kernel
set_option maxRecDepth 100000 in
theorem ok228_0 : regsOK Go.Proofs.Tryz.prog q228 Go.Proofs.Tryz.f228 0 22 = true := by decide +kernel
set_option maxRecDepth 100000 in
theorem ok228_22 : regsOK Go.Proofs.Tryz.prog q228 Go.Proofs.Tryz.f228 22 22 = true := by decide +kernel
set_option maxRecDepth 100000 in
theorem ok228_44 : regsOK Go.Proofs.Tryz.prog q228 Go.Proofs.Tryz.f228 44 22 = true := by decide +kernel
theorem ok228 : funcOK Go.Proofs.Tryz.prog q228 Go.Proofs.Tryz.f228 = true := funcOK_of (many := 66) ok228_r (regsOK_join (a := 0) (b := 44) (c := 22) (regsOK_join (a := 0) (b := 22) (c := 22) ok228_0 ok228_22) ok228_44)
set_option maxRecDepth 100000 in
theorem ok229 : funcOK Go.Proofs.Tryz.prog q229 Go.Proofs.Tryz.f229 = true := by decide +kernel
set_option maxRecDepth 100000 in
theorem ok239 : funcOK Go.Proofs.Tryz.prog q239 Go.Proofs.Tryz.f239 = true := by decide +kernel
set_option maxRecDepth 100000 in
theorem ok241 : funcOK Go.Proofs.Tryz.prog q241 Go.Proofs.Tryz.f241 = true := by decide +kernel
set_option maxRecDepth 100000 in
theorem ok243 : funcOK Go.Proofs.Tryz.prog q243 Go.Proofs.Tryz.f243 = true := by decide +kernel
set_option maxRecDepth 100000 in
theorem ok245 : funcOK Go.Proofs.Tryz.prog q245 Go.Proofs.Tryz.f245 = true := by decide +kernel
set_option maxRecDepth 100000 in
theorem ok248 : funcOK Go.Proofs.Tryz.prog q248 Go.Proofs.Tryz.f248 = true := by decide +kernel
set_option maxRecDepth 100000 in
theorem ok252 : funcOK Go.Proofs.Tryz.prog q252 Go.Proofs.Tryz.f252 = true := by decide +kernel
set_option maxRecDepth 100000 in
theorem ok262 : funcOK Go.Proofs.Tryz.prog q262 Go.Proofs.Tryz.f262 = true := by decide +kernel
set_option maxRecDepth 100000 in
theorem ok271 : funcOK Go.Proofs.Tryz.prog q271 Go.Proofs.Tryz.f271 = true := by decide +kernel
set_option maxRecDepth 100000 in
theorem ok272 : funcOK Go.Proofs.Tryz.prog q272 Go.Proofs.Tryz.f272 = true := by decide +kernel
set_option maxRecDepth 100000 in
theorem ok280 : funcOK Go.Proofs.Tryz.prog q280 Go.Proofs.Tryz.f280 = true := by decide +kernel
set_option maxRecDepth 100000 in
theorem ok283 : funcOK Go.Proofs.Tryz.prog q283 Go.Proofs.Tryz.f283 = true := by decide +kernel
set_option maxRecDepth 100000 in
theorem ok285 : funcOK Go.Proofs.Tryz.prog q285 Go.Proofs.Tryz.f285 = true := by decide +kernel
set_option maxRecDepth 100000 in
theorem ok293 : funcOK Go.Proofs.Tryz.prog q293 Go.Proofs.Tryz.f293 = true := by decide +kernel
set_option maxRecDepth 100000 in
theorem ok298 : funcOK Go.Proofs.Tryz.prog q298 Go.Proofs.Tryz.f298 = true := by decide +kernel
set_option maxRecDepth 100000 in
theorem ok313 : funcOK Go.Proofs.Tryz.prog q313 Go.Proofs.Tryz.f313 = true := by decide +kernel
set_option maxRecDepth 100000 in
theorem ok319 : funcOK Go.Proofs.Tryz.prog q319 Go.Proofs.Tryz.f319 = true := by decide +kernel
set_option maxRecDepth 100000 in
theorem ok322 : funcOK Go.Proofs.Tryz.prog q322 Go.Proofs.Tryz.f322 = true := by decide +kernel
set_option maxRecDepth 100000 in
theorem ok331 : funcOK Go.Proofs.Tryz.prog q331 Go.Proofs.Tryz.f331 = true := by decide +kernel
set_option maxRecDepth 100000 in
theorem ok344 : funcOK Go.Proofs.Tryz.prog q344 Go.Proofs.Tryz.f344 = true := by decide +kernel
set_option maxRecDepth 100000 in
theorem ok346 : funcOK Go.Proofs.Tryz.prog q346 Go.Proofs.Tryz.f346 = true := by decide +kernel
set_option maxRecDepth 100000 in
theorem ok349 : funcOK Go.Proofs.Tryz.prog q349 Go.Proofs.Tryz.f349 = true := by decide +kernel
set_option maxRecDepth 100000 in
theorem ok351 : funcOK Go.Proofs.Tryz.prog q351 Go.Proofs.Tryz.f351 = true := by decide +kernel
set_option maxRecDepth 100000 in
theorem ok362 : funcOK Go.Proofs.Tryz.prog q362 Go.Proofs.Tryz.f362 = true := by decide +kernel
set_option maxRecDepth 100000 in
theorem ok363 : funcOK Go.Proofs.Tryz.prog q363 Go.Proofs.Tryz.f363 = true := by decide +kernel
set_option maxRecDepth 100000 in
theorem ok376 : funcOK Go.Proofs.Tryz.prog q376 Go.Proofs.Tryz.f376 = true := by decide +kernel
end Go.AbQ

namespace Go.AbQ
open Go Go.Ab
set_option maxRecDepth 100000 in
theorem ok6 : funcOK Go.Proofs.Tryz.prog q6 Go.Proofs.Tryz.f6 = true := by decide +kernel
set_option maxRecDepth 100000 in
theorem ok11 : funcOK Go.Proofs.Tryz.prog q11 Go.Proofs.Tryz.f11 = true := by decide +kernel
set_option maxRecDepth 100000 in
theorem ok12 : funcOK Go.Proofs.Tryz.prog q12 Go.Proofs.Tryz.f12 = true := by decide +kernel
theorem ok23_r : restOK Go.Proofs.Tryz.prog q23 Go.Proofs.Tryz.f23 51 = true := by decide +kernel
set_option maxRecDepth 100000 in
theorem ok23_0 : regsOK Go.Proofs.Tryz.prog q23 Go.Proofs.Tryz.f23 0 17 = true := by decide +kernel
set_option maxRecDepth 100000 in
theorem ok23_17 : regsOK Go.Proofs.Tryz.prog q23 Go.Proofs.Tryz.f23 17 17 = true := by decide +kernel
set_option maxRecDepth 100000 in
theorem ok23_34 : regsOK Go.Proofs.Tryz.prog q23 Go.Proofs.Tryz.f23 34 17 = true := by decide +kernel
theorem ok23 : funcOK Go.Proofs.Tryz.prog q23 Go.Proofs.Tryz.f23 = true := funcOK_of (many := 51) ok23_r (regsOK_join (a := 0) (b := 34) (c := 17) (regsOK_join (a := 0) (b := 17) (c := 17) ok23_0 ok23_17) ok23_34)
set_option maxRecDepth 100000 in
theorem ok39 : funcOK Go.Proofs.Tryz.prog q39 Go.Proofs.Tryz.f39 = true := by decide +kernel
set_option maxRecDepth 100000 in
theorem ok42 : funcOK Go.Proofs.Tryz.prog q42 Go.Proofs.Tryz.f42 = true := by decide +kernel
set_option maxRecDepth 100000 in
theorem ok54 : funcOK Go.Proofs.Tryz.prog q54 Go.Proofs.Tryz.f54 = true := by decide +kernel
set_option maxRecDepth 100000 in
theorem ok62 : funcOK Go.Proofs.Tryz.prog q62 Go.Proofs.Tryz.f62 = true := by decide +kernel
set_option maxRecDepth 100000 in
theorem ok64 : funcOK Go.Proofs.Tryz.prog q64 Go.Proofs.Tryz.f64 = true := by decide +kernel
theorem ok65_r : restOK Go.Proofs.Tryz.prog q65 Go.Proofs.Tryz.f65 48 = true := by decide +kernel
set_option maxRecDepth 100000 in
theorem ok65_0 : regsOK Go.Proofs.Tryz.prog q65 Go.Proofs.Tryz.f65 0 24 = true := by decide +kernel
set_option maxRecDepth 100000 in
theorem ok65_24 : regsOK Go.Proofs.Tryz.prog q65 Go.Proofs.Tryz.f65 24 24 = true := by decide +kernel
theorem ok65 : funcOK Go.Proofs.Tryz.prog q65 Go.Proofs.Tryz.f65 = true := funcOK_of (many := 48) ok65_r (regsOK_join (a := 0) (b := 24) (c := 24) ok65_0 ok65_24)
set_option maxRecDepth 100000 in
theorem ok67 : funcOK Go.Proofs.Tryz.prog q67 Go.Proofs.Tryz.f67 = true := by decide +kernel
set_option maxRecDepth 100000 in
theorem ok68 : funcOK Go.Proofs.Tryz.prog q68 Go.Proofs.Tryz.f68 = true := by decide +kernel
set_option maxRecDepth 100000 in
theorem ok77 : funcOK Go.Proofs.Tryz.prog q77 Go.Proofs.Tryz.f77 = true := by decide +kernel
set_option maxRecDepth 100000 in
theorem ok80 : funcOK Go.Proofs.Tryz.prog q80 Go.Proofs.Tryz.f80 = true := by decide +kernel
set_option maxRecDepth 100000 in
theorem ok84 : funcOK Go.Proofs.Tryz.prog q84 Go.Proofs.Tryz.f84 = true := by decide +kernel
set_option maxRecDepth 100000 in
theorem ok87 : funcOK Go.Proofs.Tryz.prog q87 Go.Proofs.Tryz.f87 = true := by decide +kernel
set_option maxRecDepth 100000 in
theorem ok92 : funcOK Go.Proofs.Tryz.prog q92 Go.Proofs.Tryz.f92 = true := by decide +kernel
set_option maxRecDepth 100000 in
theorem ok102 : funcOK Go.Proofs.Tryz.prog q102 Go.Proofs.Tryz.f102 = true := by decide +kernel
set_option maxRecDepth 100000 in
theorem ok109 : funcOK Go.Proofs.Tryz.prog q109 Go.Proofs.Tryz.f109 = true := by decide +kernel
set_option maxRecDepth 100000 in
theorem ok115 : funcOK Go.Proofs.Tryz.prog q115 Go.Proofs.Tryz.f115 = true := by decide +kernel
set_option maxRecDepth 100000 in
theorem ok118 : funcOK Go.Proofs.Tryz.prog q118 Go.Proofs.Tryz.f118 = true := by decide +kernel
set_option maxRecDepth 100000 in
theorem ok124 : funcOK Go.Proofs.Tryz.prog q124 Go.Proofs.Tryz.f124 = true := by decide +kernel
set_option maxRecDepth 100000 in
theorem ok127 : funcOK Go.Proofs.Tryz.prog q127 Go.Proofs.Tryz.f127 = true := by decide +kernel
set_option maxRecDepth 100000 in
theorem ok128 : funcOK Go.Proofs.Tryz.prog q128 Go.Proofs.Tryz.f128 = true := by decide +kernel
set_option maxRecDepth 100000 in
theorem ok129 : funcOK Go.Proofs.Tryz.prog q129 Go.Proofs.Tryz.f129 = true := by decide +kernel
set_option maxRecDepth 100000 in
theorem ok130 : funcOK Go.Proofs.Tryz.prog q130 Go.Proofs.Tryz.f130 = true := by decide +kernel
set_option maxRecDepth 100000 in
theorem ok141 : funcOK Go.Proofs.Tryz.prog q141 Go.Proofs.Tryz.f141 = true := by decide +kernel
set_option maxRecDepth 100000 in
theorem ok142 : funcOK Go.Proofs.Tryz.prog q142 Go.Proofs.Tryz.f142 = true := by decide +kernel
set_option maxRecDepth 100000 in
theorem ok143 : funcOK Go.Proofs.Tryz.prog q143 Go.Proofs.Tryz.f143 = true := by decide +kernel
set_option maxRecDepth 100000 in
theorem ok149 : funcOK Go.Proofs.Tryz.prog q149 Go.Proofs.Tryz.f149 = true := by decide +kernel
set_option maxRecDepth 100000 in
theorem ok150 : funcOK Go.Proofs.Tryz.prog q150 Go.Proofs.Tryz.f150 = true := by decide +kernel
set_option maxRecDepth 100000 in
theorem ok157 : funcOK Go.Proofs.Tryz.prog q157 Go.Proofs.Tryz.f157 = true := by decide +kernel
set_option maxRecDepth 100000 in
theorem ok166 : funcOK Go.Proofs.Tryz.prog q166 Go.Proofs.Tryz.f166 = true := by decide +kernel
set_option maxRecDepth 100000 in
theorem ok167 : funcOK Go.Proofs.Tryz.prog q167 Go.Proofs.Tryz.f167 = true := by decide +kernel
set_option maxRecDepth 100000 in
theorem ok171 : funcOK Go.Proofs.Tryz.prog q171 Go.Proofs.Tryz.f171 = true := by decide +kernel
set_option maxRecDepth 100000 in
theorem ok174 : funcOK Go.Proofs.Tryz.prog q174 Go.Proofs.Tryz.f174 = true := by decide +kernel
set_option maxRecDepth 100000 in
theorem ok182 : funcOK Go.Proofs.Tryz.prog q182 Go.Proofs.Tryz.f182 = true := by decide +kernel
set_option maxRecDepth 100000 in
theorem ok190 : funcOK Go.Proofs.Tryz.prog q190 Go.Proofs.Tryz.f190 = true := by decide +kernel
set_option maxRecDepth 100000 in
theorem ok193 : funcOK Go.Proofs.Tryz.prog q193 Go.Proofs.Tryz.f193 = true := by decide +kernel
set_option maxRecDepth 100000 in
theorem ok195 : funcOK Go.Proofs.Tryz.prog q195 Go.Proofs.Tryz.f195 = true := by decide +kernel
set_option maxRecDepth 100000 in
theorem ok196 : funcOK Go.Proofs.Tryz.prog q196 Go.Proofs.Tryz.f196 = true := by decide +kernel
set_option maxRecDepth 100000 in
theorem ok202 : funcOK Go.Proofs.Tryz.prog q202 Go.Proofs.Tryz.f202 = true := by decide +kernel
set_option maxRecDepth 100000 in
theorem ok207 : funcOK Go.Proofs.Tryz.prog q207 Go.Proofs.Tryz.f207 = true := by decide +kernel
set_option maxRecDepth 100000 in
theorem ok210 : funcOK Go.Proofs.Tryz.prog q210 Go.Proofs.Tryz.f210 = true := by decide +kernel
set_option maxRecDepth 100000 in
theorem ok217 : funcOK Go.Proofs.Tryz.prog q217 Go.Proofs.Tryz.f217 = true := by decide +kernel
set_option maxRecDepth 100000 in
theorem ok222 : funcOK Go.Proofs.Tryz.prog q222 Go.Proofs.Tryz.f222 = true := by decide +kernel
set_option maxRecDepth 100000 in
theorem ok223 : funcOK Go.Proofs.Tryz.prog q223 Go.Proofs.Tryz.f223 = true := by decide +kernel
set_option maxRecDepth 100000 in
theorem ok238 : funcOK Go.Proofs.Tryz.prog q238 Go.Proofs.Tryz.f238 = true := by decide +kernel
set_option maxRecDepth 100000 in
theorem ok257 : funcOK Go.Proofs.Tryz.prog q257 Go.Proofs.Tryz.f257 = true := by decide +kernel
set_option maxRecDepth 100000 in
theorem ok259 : funcOK Go.Proofs.Tryz.prog q259 Go.Proofs.Tryz.f259 = true := by decide +kernel
set_option maxRecDepth 100000 in
theorem ok260 : funcOK Go.Proofs.Tryz.prog q260 Go.Proofs.Tryz.f260 = true := by decide +kernel
set_option maxRecDepth 100000 in
theorem ok261 : funcOK Go.Proofs.Tryz.prog q261 Go.Proofs.Tryz.f261 = true := by decide +kernel
set_option maxRecDepth 100000 in
theorem ok263 : funcOK Go.Proofs.Tryz.prog q263 Go.Proofs.Tryz.f263 = true := by decide +kernel
set_option maxRecDepth 100000 in
theorem ok265 : funcOK Go.Proofs.Tryz.prog q265 Go.Proofs.Tryz.f265 = true := by decide +kernel
set_option maxRecDepth 100000 in
theorem ok269 : funcOK Go.Proofs.Tryz.prog q269 Go.Proofs.Tryz.f269 = true := by decide +kernel
set_option maxRecDepth 100000 in
theorem ok276 : funcOK Go.Proofs.Tryz.prog q276 Go.Proofs.Tryz.f276 = true := by decide +kernel
set_option maxRecDepth 100000 in
theorem ok278 : funcOK Go.Proofs.Tryz.prog q278 Go.Proofs.Tryz.f278 = true := by decide +kernel
set_option maxRecDepth 100000 in
theorem ok279 : funcOK Go.Proofs.Tryz.prog q279 Go.Proofs.Tryz.f279 = true := by decide +kernel
theorem ok284_r : restOK Go.Proofs.Tryz.prog q284 Go.Proofs.Tryz.f284 48 = true := by decide +kernel
set_option maxRecDepth 100000 in
theorem ok284_0 : regsOK Go.Proofs.Tryz.prog q284 Go.Proofs.Tryz.f284 0 24 = true := by decide +kernel
set_option maxRecDepth 100000 in
theorem ok284_24 : regsOK Go.Proofs.Tryz.prog q284 Go.Proofs.Tryz.f284 24 24 = true := by decide +kernel
theorem ok284 : funcOK Go.Proofs.Tryz.prog q284 Go.Proofs.Tryz.f284 = true := funcOK_of (many := 48) ok284_r (regsOK_join (a := 0) (b := 24) (c := 24) ok284_0 ok284_24)
set_option maxRecDepth 100000 in
theorem ok286 : funcOK Go.Proofs.Tryz.prog q286 Go.Proofs.Tryz.f286 = true := by decide +kernel
set_option maxRecDepth 100000 in
theorem ok289 : funcOK Go.Proofs.Tryz.prog q289 Go.Proofs.Tryz.f289 = true := by decide +kernel
set_option maxRecDepth 100000 in
theorem ok290 : funcOK Go.Proofs.Tryz.prog q290 Go.Proofs.Tryz.f290 = true := by decide +kernel
set_option maxRecDepth 100000 in
theorem ok291 : funcOK Go.Proofs.Tryz.prog q291 Go.Proofs.Tryz.f291 = true := by decide +kernel
set_option maxRecDepth 100000 in
theorem ok294 : funcOK Go.Proofs.Tryz.prog q294 Go.Proofs.Tryz.f294 = true := by decide +kernel
set_option maxRecDepth 100000 in
theorem ok296 : funcOK Go.Proofs.Tryz.prog q296 Go.Proofs.Tryz.f296 = true := by decide +kernel
set_option maxRecDepth 100000 in
theorem ok297 : funcOK Go.Proofs.Tryz.prog q297 Go.Proofs.Tryz.f297 = true := by decide +kernel
set_option maxRecDepth 100000 in
theorem ok303 : funcOK Go.Proofs.Tryz.prog q303 Go.Proofs.Tryz.f303 = true := by decide +kernel
set_option maxRecDepth 100000 in
theorem ok304 : funcOK Go.Proofs.Tryz.prog q304 Go.Proofs.Tryz.f304 = true := by decide +kernel
set_option maxRecDepth 100000 in
theorem ok305 : funcOK Go.Proofs.Tryz.prog q305 Go.Proofs.Tryz.f305 = true := by decide +kernel
set_option maxRecDepth 100000 in
theorem ok318 : funcOK Go.Proofs.Tryz.prog q318 Go.Proofs.Tryz.f318 = true := by decide +kernel
set_option maxRecDepth 100000 in
theorem ok333 : funcOK Go.Proofs.Tryz.prog q333 Go.Proofs.Tryz.f333 = true := by decide +kernel
set_option maxRecDepth 100000 in
theorem ok334 : funcOK Go.Proofs.Tryz.prog q334 Go.Proofs.Tryz.f334 = true := by decide +kernel
set_option maxRecDepth 100000 in
theorem ok341 : funcOK Go.Proofs.Tryz.prog q341 Go.Proofs.Tryz.f341 = true := by decide +kernel
set_option maxRecDepth 100000 in
theorem ok343 : funcOK Go.Proofs.Tryz.prog q343 Go.Proofs.Tryz.f343 = true := by decide +kernel
set_option maxRecDepth 100000 in
theorem ok345 : funcOK Go.Proofs.Tryz.prog q345 Go.Proofs.Tryz.f345 = true := by decide +kernel
set_option maxRecDepth 100000 in
theorem ok358 : funcOK Go.Proofs.Tryz.prog q358 Go.Proofs.Tryz.f358 = true := by decide +kernel
set_option maxRecDepth 100000 in
theorem ok366 : funcOK Go.Proofs.Tryz.prog q366 Go.Proofs.Tryz.f366 = true := by decide +kernel
set_option maxRecDepth 100000 in
theorem ok369 : funcOK Go.Proofs.Tryz.prog q369 Go.Proofs.Tryz.f369 = true := by decide +kernel
set_option maxRecDepth 100000 in
theorem ok371 : funcOK Go.Proofs.Tryz.prog q371 Go.Proofs.Tryz.f371 = true := by decide +kernel
set_option maxRecDepth 100000 in
theorem ok373 : funcOK Go.Proofs.Tryz.prog q373 Go.Proofs.Tryz.f373 = true := by decide +kernel
set_option maxRecDepth 100000 in
theorem ok377 : funcOK Go.Proofs.Tryz.prog q377 Go.Proofs.Tryz.f377 = true := by decide +kernel
end Go.AbQ

namespace Go.AbQ
open Go Go.Ab
theorem ok3_r : restOK Go.Proofs.Tryz.prog q3 Go.Proofs.Tryz.f3 20 = true := by decide +kernel
set_option maxRecDepth 100000 in
theorem ok3_0 : regsOK Go.Proofs.Tryz.prog q3 Go.Proofs.Tryz.f3 0 10 = true := by decide +kernel
set_option maxRecDepth 100000 in
theorem ok3_10 : regsOK Go.Proofs.Tryz.prog q3 Go.Proofs.Tryz.f3 10 10 = true := by decide +kernel
theorem ok3 : funcOK Go.Proofs.Tryz.prog q3 Go.Proofs.Tryz.f3 = true := funcOK_of (many := 20) ok3_r (regsOK_join (a := 0) (b := 10) (c := 10) ok3_0 ok3_10)
set_option maxRecDepth 100000 in
theorem ok7 : funcOK Go.Proofs.Tryz.prog q7 Go.Proofs.Tryz.f7 = true := by decide +kernel
set_option maxRecDepth 100000 in
theorem ok8 : funcOK Go.Proofs.Tryz.prog q8 Go.Proofs.Tryz.f8 = true := by decide +kernel
set_option maxRecDepth 100000 in
theorem ok13 : funcOK Go.Proofs.Tryz.prog q13 Go.Proofs.Tryz.f13 = true := by decide +kernel
set_option maxRecDepth 100000 in
theorem ok19 : funcOK Go.Proofs.Tryz.prog q19 Go.Proofs.Tryz.f19 = true := by decide +kernel
set_option maxRecDepth 100000 in
theorem ok21 : funcOK Go.Proofs.Tryz.prog q21 Go.Proofs.Tryz.f21 = true := by decide +kernel
set_option maxRecDepth 100000 in
theorem ok41 : funcOK Go.Proofs.Tryz.prog q41 Go.Proofs.Tryz.f41 = true := by decide +kernel
set_option maxRecDepth 100000 in
theorem ok43 : funcOK Go.Proofs.Tryz.prog q43 Go.Proofs.Tryz.f43 = true := by decide +kernel
set_option maxRecDepth 100000 in
theorem ok51 : funcOK Go.Proofs.Tryz.prog q51 Go.Proofs.Tryz.f51 = true := by decide +kernel
set_option maxRecDepth 100000 in
theorem ok69 : funcOK Go.Proofs.Tryz.prog q69 Go.Proofs.Tryz.f69 = true := by decide +kernel
set_option maxRecDepth 100000 in
theorem ok71 : funcOK Go.Proofs.Tryz.prog q71 Go.Proofs.Tryz.f71 = true := by decide +kernel
set_option maxRecDepth 100000 in
theorem ok74 : funcOK Go.Proofs.Tryz.prog q74 Go.Proofs.Tryz.f74 = true := by decide +kernel
set_option maxRecDepth 100000 in
theorem ok75 : funcOK Go.Proofs.Tryz.prog q75 Go.Proofs.Tryz.f75 = true := by decide +kernel
set_option maxRecDepth 100000 in
theorem ok76 : funcOK Go.Proofs.Tryz.prog q76 Go.Proofs.Tryz.f76 = true := by decide +kernel
set_option maxRecDepth 100000 in
theorem ok83 : funcOK Go.Proofs.Tryz.prog q83 Go.Proofs.Tryz.f83 = true := by decide +kernel
set_option maxRecDepth 100000 in
theorem ok88 : funcOK Go.Proofs.Tryz.prog q88 Go.Proofs.Tryz.f88 = true := by decide +kernel
set_option maxRecDepth 100000 in
theorem ok90 : funcOK Go.Proofs.Tryz.prog q90 Go.Proofs.Tryz.f90 = true := by decide +kernel
set_option maxRecDepth 100000 in
theorem ok93 : funcOK Go.Proofs.Tryz.prog q93 Go.Proofs.Tryz.f93 = true := by decide +kernel
set_option maxRecDepth 100000 in
theorem ok95 : funcOK Go.Proofs.Tryz.prog q95 Go.Proofs.Tryz.f95 = true := by decide +kernel
set_option maxRecDepth 100000 in
theorem ok105 : funcOK Go.Proofs.Tryz.prog q105 Go.Proofs.Tryz.f105 = true := by decide +kernel
set_option maxRecDepth 100000 in
theorem ok106 : funcOK Go.Proofs.Tryz.prog q106 Go.Proofs.Tryz.f106 = true := by decide +kernel
set_option maxRecDepth 100000 in
theorem ok112 : funcOK Go.Proofs.Tryz.prog q112 Go.Proofs.Tryz.f112 = true := by decide +kernel
set_option maxRecDepth 100000 in
theorem ok113 : funcOK Go.Proofs.Tryz.prog q113 Go.Proofs.Tryz.f113 = true := by decide +kernel
set_option maxRecDepth 100000 in
theorem ok114 : funcOK Go.Proofs.Tryz.prog q114 Go.Proofs.Tryz.f114 = true := by decide +kernel
set_option maxRecDepth 100000 in
theorem ok119 : funcOK Go.Proofs.Tryz.prog q119 Go.Proofs.Tryz.f119 = true := by decide +kernel
set_option maxRecDepth 100000 in
theorem ok120 : funcOK Go.Proofs.Tryz.prog q120 Go.Proofs.Tryz.f120 = true := by decide +kernel
set_option maxRecDepth 100000 in
theorem ok121 : funcOK Go.Proofs.Tryz.prog q121 Go.Proofs.Tryz.f121 = true := by decide +kernel
set_option maxRecDepth 100000 in
theorem ok125 : funcOK Go.Proofs.Tryz.prog q125 Go.Proofs.Tryz.f125 = true := by decide +kernel
set_option maxRecDepth 100000 in
theorem ok134 : funcOK Go.Proofs.Tryz.prog q134 Go.Proofs.Tryz.f134 = true := by decide +kernel
set_option maxRecDepth 100000 in
theorem ok139 : funcOK Go.Proofs.Tryz.prog q139 Go.Proofs.Tryz.f139 = true := by decide +kernel
set_option maxRecDepth 100000 in
theorem ok148 : funcOK Go.Proofs.Tryz.prog q148 Go.Proofs.Tryz.f148 = true := by decide +kernel
set_option maxRecDepth 100000 in
theorem ok151 : funcOK Go.Proofs.Tryz.prog q151 Go.Proofs.Tryz.f151 = true := by decide +kernel
set_option maxRecDepth 100000 in
theorem ok152 : funcOK Go.Proofs.Tryz.prog q152 Go.Proofs.Tryz.f152 = true := by decide +kernel
set_option maxRecDepth 100000 in
theorem ok160 : funcOK Go.Proofs.Tryz.prog q160 Go.Proofs.Tryz.f160 = true := by decide +kernel
set_option maxRecDepth 100000 in
theorem ok168 : funcOK Go.Proofs.Tryz.prog q168 Go.Proofs.Tryz.f168 = true := by decide +kernel
set_option maxRecDepth 100000 in
theorem ok170 : funcOK Go.Proofs.Tryz.prog q170 Go.Proofs.Tryz.f170 = true := by decide +kernel
set_option maxRecDepth 100000 in
theorem ok178 : funcOK Go.Proofs.Tryz.prog q178 Go.Proofs.Tryz.f178 = true := by decide +kernel
set_option maxRecDepth 100000 in
theorem ok179 : funcOK Go.Proofs.Tryz.prog q179 Go.Proofs.Tryz.f179 = true := by decide +kernel
set_option maxRecDepth 100000 in
theorem ok183 : funcOK Go.Proofs.Tryz.prog q183 Go.Proofs.Tryz.f183 = true := by decide +kernel
set_option maxRecDepth 100000 in
theorem ok185 : funcOK Go.Proofs.Tryz.prog q185 Go.Proofs.Tryz.f185 = true := by decide +kernel
set_option maxRecDepth 100000 in
theorem ok186 : funcOK Go.Proofs.Tryz.prog q186 Go.Proofs.Tryz.f186 = true := by decide +kernel
set_option maxRecDepth 100000 in
theorem ok192 : funcOK Go.Proofs.Tryz.prog q192 Go.Proofs.Tryz.f192 = true := by decide +kernel
set_option maxRecDepth 100000 in
theorem ok194 : funcOK Go.Proofs.Tryz.prog q194 Go.Proofs.Tryz.f194 = true := by decide +kernel
theorem ok209_r : restOK Go.Proofs.Tryz.prog q209 Go.Proofs.Tryz.f209 48 = true := by decide +kernel
set_option maxRecDepth 100000 in
theorem ok209_0 : regsOK Go.Proofs.Tryz.prog q209 Go.Proofs.Tryz.f209 0 24 = true := by decide +kernel
set_option maxRecDepth 100000 in
theorem ok209_24 : regsOK Go.Proofs.Tryz.prog q209 Go.Proofs.Tryz.f209 24 24 = true := by decide +kernel
theorem ok209 : funcOK Go.Proofs.Tryz.prog q209 Go.Proofs.Tryz.f209 = true := funcOK_of (many := 48) ok209_r (regsOK_join (a := 0) (b := 24) (c := 24) ok209_0 ok209_24)
set_option maxRecDepth 100000 in
theorem ok213 : funcOK Go.Proofs.Tryz.prog q213 Go.Proofs.Tryz.f213 = true := by decide +kernel
set_option maxRecDepth 100000 in
theorem ok214 : funcOK Go.Proofs.Tryz.prog q214 Go.Proofs.Tryz.f214 = true := by decide +kernel
set_option maxRecDepth 100000 in
theorem ok215 : funcOK Go.Proofs.Tryz.prog q215 Go.Proofs.Tryz.f215 = true := by decide +kernel
set_option maxRecDepth 100000 in
theorem ok219 : funcOK Go.Proofs.Tryz.prog q219 Go.Proofs.Tryz.f219 = true := by decide +kernel
set_option maxRecDepth 100000 in
theorem ok221 : funcOK Go.Proofs.Tryz.prog q221 Go.Proofs.Tryz.f221 = true := by decide +kernel
set_option maxRecDepth 100000 in
theorem ok225 : funcOK Go.Proofs.Tryz.prog q225 Go.Proofs.Tryz.f225 = true := by decide +kernel
set_option maxRecDepth 100000 in
theorem ok235 : funcOK Go.Proofs.Tryz.prog q235 Go.Proofs.Tryz.f235 = true := by decide +kernel
set_option maxRecDepth 100000 in
theorem ok236 : funcOK Go.Proofs.Tryz.prog q236 Go.Proofs.Tryz.f236 = true := by decide +kernel
set_option maxRecDepth 100000 in
theorem ok240 : funcOK Go.Proofs.Tryz.prog q240 Go.Proofs.Tryz.f240 = true := by decide +kernel
set_option maxRecDepth 100000 in
theorem ok242 : funcOK Go.Proofs.Tryz.prog q242 Go.Proofs.Tryz.f242 = true := by decide +kernel
set_option maxRecDepth 100000 in
theorem ok246 : funcOK Go.Proofs.Tryz.prog q246 Go.Proofs.Tryz.f246 = true := by decide +kernel
set_option maxRecDepth 100000 in
theorem ok250 : funcOK Go.Proofs.Tryz.prog q250 Go.Proofs.Tryz.f250 = true := by decide +kernel
set_option maxRecDepth 100000 in
theorem ok253 : funcOK Go.Proofs.Tryz.prog q253 Go.Proofs.Tryz.f253 = true := by decide +kernel
set_option maxRecDepth 100000 in
theorem ok256 : funcOK Go.Proofs.Tryz.prog q256 Go.Proofs.Tryz.f256 = true := by decide +kernel
set_option maxRecDepth 100000 in
theorem ok264 : funcOK Go.Proofs.Tryz.prog q264 Go.Proofs.Tryz.f264 = true := by decide +kernel
set_option maxRecDepth 100000 in
theorem ok266 : funcOK Go.Proofs.Tryz.prog q266 Go.Proofs.Tryz.f266 = true := by decide +kernel
set_option maxRecDepth 100000 in
theorem ok270 : funcOK Go.Proofs.Tryz.prog q270 Go.Proofs.Tryz.f270 = true := by decide +kernel
set_option maxRecDepth 100000 in
theorem ok274 : funcOK Go.Proofs.Tryz.prog q274 Go.Proofs.Tryz.f274 = true := by decide +kernel
set_option maxRecDepth 100000 in
theorem ok277 : funcOK Go.Proofs.Tryz.prog q277 Go.Proofs.Tryz.f277 = true := by decide +kernel
set_option maxRecDepth 100000 in
theorem ok288 : funcOK Go.Proofs.Tryz.prog q288 Go.Proofs.Tryz.f288 = true := by decide +kernel
set_option maxRecDepth 100000 in
theorem ok292 : funcOK Go.Proofs.Tryz.prog q292 Go.Proofs.Tryz.f292 = true := by decide +kernel
set_option maxRecDepth 100000 in
theorem ok295 : funcOK Go.Proofs.Tryz.prog q295 Go.Proofs.Tryz.f295 = true := by decide +kernel
theorem ok299_r : restOK Go.Proofs.Tryz.prog q299 Go.Proofs.Tryz.f299 36 = true := by decide +kernel
set_option maxRecDepth 100000 in
theorem ok299_0 : regsOK Go.Proofs.Tryz.prog q299 Go.Proofs.Tryz.f299 0 18 = true := by decide +kernel
set_option maxRecDepth 100000 in
theorem ok299_18 : regsOK Go.Proofs.Tryz.prog q299 Go.Proofs.Tryz.f299 18 18 = true := by decide +kernel
theorem ok299 : funcOK Go.Proofs.Tryz.prog q299 Go.Proofs.Tryz.f299 = true := funcOK_of (many := 36) ok299_r (regsOK_join (a := 0) (b := 18) (c := 18) ok299_0 ok299_18)
set_option maxRecDepth 100000 in
theorem ok300 : funcOK Go.Proofs.Tryz.prog q300 Go.Proofs.Tryz.f300 = true := by decide +kernel
set_option maxRecDepth 100000 in
theorem ok307 : funcOK Go.Proofs.Tryz.prog q307 Go.Proofs.Tryz.f307 = true := by decide +kernel
set_option maxRecDepth 100000 in
theorem ok310 : funcOK Go.Proofs.Tryz.prog q310 Go.Proofs.Tryz.f310 = true := by decide +kernel
set_option maxRecDepth 100000 in
theorem ok311 : funcOK Go.Proofs.Tryz.prog q311 Go.Proofs.Tryz.f311 = true := by decide +kernel
set_option maxRecDepth 100000 in
theorem ok330 : funcOK Go.Proofs.Tryz.prog q330 Go.Proofs.Tryz.f330 = true := by decide +kernel
set_option maxRecDepth 100000 in
theorem ok342 : funcOK Go.Proofs.Tryz.prog q342 Go.Proofs.Tryz.f342 = true := by decide +kernel
set_option maxRecDepth 100000 in
theorem ok347 : funcOK Go.Proofs.Tryz.prog q347 Go.Proofs.Tryz.f347 = true := by decide +kernel
set_option maxRecDepth 100000 in
theorem ok348 : funcOK Go.Proofs.Tryz.prog q348 Go.Proofs.Tryz.f348 = true := by decide +kernel
set_option maxRecDepth 100000 in
theorem ok360 : funcOK Go.Proofs.Tryz.prog q360 Go.Proofs.Tryz.f360 = true := by decide +kernel
set_option maxRecDepth 100000 in
theorem ok365 : funcOK Go.Proofs.Tryz.prog q365 Go.Proofs.Tryz.f365 = true := by decide +kernel
set_option maxRecDepth 100000 in
theorem ok367 : funcOK Go.Proofs.Tryz.prog q367 Go.Proofs.Tryz.f367 = true := by decide +kernel
set_option maxRecDepth 100000 in
theorem ok368 : funcOK Go.Proofs.Tryz.prog q368 Go.Proofs.Tryz.f368 = true := by decide +kernel
set_option maxRecDepth 100000 in
theorem ok370 : funcOK Go.Proofs.Tryz.prog q370 Go.Proofs.Tryz.f370 = true := by decide +kernel
end Go.AbQ

namespace Go.AbQ
open Go Go.Ab
set_option maxRecDepth 100000 in
theorem ok9 : funcOK Go.Proofs.Tryz.prog q9 Go.Proofs.Tryz.f9 = true := by decide +kernel
set_option maxRecDepth 100000 in
theorem ok15 : funcOK Go.Proofs.Tryz.prog q15 Go.Proofs.Tryz.f15 = true := by decide +kernel
set_option maxRecDepth 100000 in
theorem ok17 : funcOK Go.Proofs.Tryz.prog q17 Go.Proofs.Tryz.f17 = true := by decide +kernel
set_option maxRecDepth 100000 in
theorem ok20 : funcOK Go.Proofs.Tryz.prog q20 Go.Proofs.Tryz.f20 = true := by decide +kernel
set_option maxRecDepth 100000 in
theorem ok25 : funcOK Go.Proofs.Tryz.prog q25 Go.Proofs.Tryz.f25 = true := by decide +kernel
set_option maxRecDepth 100000 in
theorem ok29 : funcOK Go.Proofs.Tryz.prog q29 Go.Proofs.Tryz.f29 = true := by decide +kernel
set_option maxRecDepth 100000 in
theorem ok32 : funcOK Go.Proofs.Tryz.prog q32 Go.Proofs.Tryz.f32 = true := by decide +kernel
set_option maxRecDepth 100000 in
theorem ok33 : funcOK Go.Proofs.Tryz.prog q33 Go.Proofs.Tryz.f33 = true := by decide +kernel
set_option maxRecDepth 100000 in
theorem ok35 : funcOK Go.Proofs.Tryz.prog q35 Go.Proofs.Tryz.f35 = true := by decide +kernel
theorem ok37_r : restOK Go.Proofs.Tryz.prog q37 Go.Proofs.Tryz.f37 48 = true := by decide +kernel
set_option maxRecDepth 100000 in
theorem ok37_0 : regsOK Go.Proofs.Tryz.prog q37 Go.Proofs.Tryz.f37 0 24 = true := by decide +kernel
set_option maxRecDepth 100000 in
theorem ok37_24 : regsOK Go.Proofs.Tryz.prog q37 Go.Proofs.Tryz.f37 24 24 = true := by decide +kernel
theorem ok37 : funcOK Go.Proofs.Tryz.prog q37 Go.Proofs.Tryz.f37 = true := funcOK_of (many := 48) ok37_r (regsOK_join (a := 0) (b := 24) (c := 24) ok37_0 ok37_24)
set_option maxRecDepth 100000 in
theorem ok38 : funcOK Go.Proofs.Tryz.prog q38 Go.Proofs.Tryz.f38 = true := by decide +kernel
set_option maxRecDepth 100000 in
theorem ok40 : funcOK Go.Proofs.Tryz.prog q40 Go.Proofs.Tryz.f40 = true := by decide +kernel
set_option maxRecDepth 100000 in
theorem ok57 : funcOK Go.Proofs.Tryz.prog q57 Go.Proofs.Tryz.f57 = true := by decide +kernel
set_option maxRecDepth 100000 in
theorem ok58 : funcOK Go.Proofs.Tryz.prog q58 Go.Proofs.Tryz.f58 = true := by decide +kernel
set_option maxRecDepth 100000 in
theorem ok63 : funcOK Go.Proofs.Tryz.prog q63 Go.Proofs.Tryz.f63 = true := by decide +kernel
set_option maxRecDepth 100000 in
theorem ok66 : funcOK Go.Proofs.Tryz.prog q66 Go.Proofs.Tryz.f66 = true := by decide +kernel
set_option maxRecDepth 100000 in
theorem ok73 : funcOK Go.Proofs.Tryz.prog q73 Go.Proofs.Tryz.f73 = true := by decide +kernel
set_option maxRecDepth 100000 in
theorem ok79 : funcOK Go.Proofs.Tryz.prog q79 Go.Proofs.Tryz.f79 = true := by decide +kernel
set_option maxRecDepth 100000 in
theorem ok81 : funcOK Go.Proofs.Tryz.prog q81 Go.Proofs.Tryz.f81 = true := by decide +kernel
set_option maxRecDepth 100000 in
theorem ok86 : funcOK Go.Proofs.Tryz.prog q86 Go.Proofs.Tryz.f86 = true := by decide +kernel
set_option maxRecDepth 100000 in
theorem ok91 : funcOK Go.Proofs.Tryz.prog q91 Go.Proofs.Tryz.f91 = true := by decide +kernel
set_option maxRecDepth 100000 in
theorem ok97 : funcOK Go.Proofs.Tryz.prog q97 Go.Proofs.Tryz.f97 = true := by decide +kernel
set_option maxRecDepth 100000 in
theorem ok98 : funcOK Go.Proofs.Tryz.prog q98 Go.Proofs.Tryz.f98 = true := by decide +kernel
set_option maxRecDepth 100000 in
theorem ok103 : funcOK Go.Proofs.Tryz.prog q103 Go.Proofs.Tryz.f103 = true := by decide +kernel
set_option maxRecDepth 100000 in
theorem ok107 : funcOK Go.Proofs.Tryz.prog q107 Go.Proofs.Tryz.f107 = true := by decide +kernel
set_option maxRecDepth 100000 in
theorem ok110 : funcOK Go.Proofs.Tryz.prog q110 Go.Proofs.Tryz.f110 = true := by decide +kernel
set_option maxRecDepth 100000 in
theorem ok116 : funcOK Go.Proofs.Tryz.prog q116 Go.Proofs.Tryz.f116 = true := by decide +kernel
set_option maxRecDepth 100000 in
theorem ok117 : funcOK Go.Proofs.Tryz.prog q117 Go.Proofs.Tryz.f117 = true := by decide +kernel
set_option maxRecDepth 100000 in
theorem ok123 : funcOK Go.Proofs.Tryz.prog q123 Go.Proofs.Tryz.f123 = true := by decide +kernel
set_option maxRecDepth 100000 in
theorem ok126 : funcOK Go.Proofs.Tryz.prog q126 Go.Proofs.Tryz.f126 = true := by decide +kernel
set_option maxRecDepth 100000 in
theorem ok131 : funcOK Go.Proofs.Tryz.prog q131 Go.Proofs.Tryz.f131 = true := by decide +kernel
set_option maxRecDepth 100000 in
theorem ok132 : funcOK Go.Proofs.Tryz.prog q132 Go.Proofs.Tryz.f132 = true := by decide +kernel
set_option maxRecDepth 100000 in
theorem ok135 : funcOK Go.Proofs.Tryz.prog q135 Go.Proofs.Tryz.f135 = true := by decide +kernel
set_option maxRecDepth 100000 in
theorem ok138 : funcOK Go.Proofs.Tryz.prog q138 Go.Proofs.Tryz.f138 = true := by decide +kernel
set_option maxRecDepth 100000 in
theorem ok140 : funcOK Go.Proofs.Tryz.prog q140 Go.Proofs.Tryz.f140 = true := by decide +kernel
set_option maxRecDepth 100000 in
theorem ok144 : funcOK Go.Proofs.Tryz.prog q144 Go.Proofs.Tryz.f144 = true := by decide +kernel
set_option maxRecDepth 100000 in
theorem ok145 : funcOK Go.Proofs.Tryz.prog q145 Go.Proofs.Tryz.f145 = true := by decide +kernel
set_option maxRecDepth 100000 in
theorem ok147 : funcOK Go.Proofs.Tryz.prog q147 Go.Proofs.Tryz.f147 = true := by decide +kernel
set_option maxRecDepth 100000 in
theorem ok156 : funcOK Go.Proofs.Tryz.prog q156 Go.Proofs.Tryz.f156 = true := by decide +kernel
set_option maxRecDepth 100000 in
theorem ok158 : funcOK Go.Proofs.Tryz.prog q158 Go.Proofs.Tryz.f158 = true := by decide +kernel
set_option maxRecDepth 100000 in
theorem ok162 : funcOK Go.Proofs.Tryz.prog q162 Go.Proofs.Tryz.f162 = true := by decide +kernel
set_option maxRecDepth 100000 in
theorem ok164 : funcOK Go.Proofs.Tryz.prog q164 Go.Proofs.Tryz.f164 = true := by decide +kernel
set_option maxRecDepth 100000 in
theorem ok169 : funcOK Go.Proofs.Tryz.prog q169 Go.Proofs.Tryz.f169 = true := by decide +kernel
set_option maxRecDepth 100000 in
theorem ok173 : funcOK Go.Proofs.Tryz.prog q173 Go.Proofs.Tryz.f173 = true := by decide +kernel
set_option maxRecDepth 100000 in
theorem ok187 : funcOK Go.Proofs.Tryz.prog q187 Go.Proofs.Tryz.f187 = true := by decide +kernel
set_option maxRecDepth 100000 in
theorem ok188 : funcOK Go.Proofs.Tryz.prog q188 Go.Proofs.Tryz.f188 = true := by decide +kernel
set_option maxRecDepth 100000 in
theorem ok201 : funcOK Go.Proofs.Tryz.prog q201 Go.Proofs.Tryz.f201 = true := by decide +kernel
set_option maxRecDepth 100000 in
theorem ok203 : funcOK Go.Proofs.Tryz.prog q203 Go.Proofs.Tryz.f203 = true := by decide +kernel
set_option maxRecDepth 100000 in
theorem ok226 : funcOK Go.Proofs.Tryz.prog q226 Go.Proofs.Tryz.f226 = true := by decide +kernel
set_option maxRecDepth 100000 in
theorem ok232 : funcOK Go.Proofs.Tryz.prog q232 Go.Proofs.Tryz.f232 = true := by decide +kernel
theorem ok234_r : restOK Go.Proofs.Tryz.prog q234 Go.Proofs.Tryz.f234 44 = true := by decide +kernel
set_option maxRecDepth 100000 in
theorem ok234_0 : regsOK Go.Proofs.Tryz.prog q234 Go.Proofs.Tryz.f234 0 22 = true := by decide +kernel
set_option maxRecDepth 100000 in
theorem ok234_22 : regsOK Go.Proofs.Tryz.prog q234 Go.Proofs.Tryz.f234 22 22 = true := by decide +kernel
theorem ok234 : funcOK Go.Proofs.Tryz.prog q234 Go.Proofs.Tryz.f234 = true := funcOK_of (many := 44) ok234_r (regsOK_join (a := 0) (b := 22) (c := 22) ok234_0 ok234_22)
theorem ok237_r : restOK Go.Proofs.Tryz.prog q237 Go.Proofs.Tryz.f237 20 = true := by decide +kernel
set_option maxRecDepth 100000 in
theorem ok237_0 : regsOK Go.Proofs.Tryz.prog q237 Go.Proofs.Tryz.f237 0 10 = true := by decide +kernel
set_option maxRecDepth 100000 in
theorem ok237_10 : regsOK Go.Proofs.Tryz.prog q237 Go.Proofs.Tryz.f237 10 10 = true := by decide +kernel
theorem ok237 : funcOK Go.Proofs.Tryz.prog q237 Go.Proofs.Tryz.f237 = true := funcOK_of (many := 20) ok237_r (regsOK_join (a := 0) (b := 10) (c := 10) ok237_0 ok237_10)
set_option maxRecDepth 100000 in
theorem ok244 : funcOK Go.Proofs.Tryz.prog q244 Go.Proofs.Tryz.f244 = true := by decide +kernel
set_option maxRecDepth 100000 in
theorem ok247 : funcOK Go.Proofs.Tryz.prog q247 Go.Proofs.Tryz.f247 = true := by decide +kernel
set_option maxRecDepth 100000 in
theorem ok249 : funcOK Go.Proofs.Tryz.prog q249 Go.Proofs.Tryz.f249 = true := by decide +kernel
set_option maxRecDepth 100000 in
theorem ok251 : funcOK Go.Proofs.Tryz.prog q251 Go.Proofs.Tryz.f251 = true := by decide +kernel
set_option maxRecDepth 100000 in
theorem ok254 : funcOK Go.Proofs.Tryz.prog q254 Go.Proofs.Tryz.f254 = true := by decide +kernel
set_option maxRecDepth 100000 in
theorem ok258 : funcOK Go.Proofs.Tryz.prog q258 Go.Proofs.Tryz.f258 = true := by decide +kernel
set_option maxRecDepth 100000 in
theorem ok273 : funcOK Go.Proofs.Tryz.prog q273 Go.Proofs.Tryz.f273 = true := by decide +kernel
set_option maxRecDepth 100000 in
theorem ok275 : funcOK Go.Proofs.Tryz.prog q275 Go.Proofs.Tryz.f275 = true := by decide +kernel
set_option maxRecDepth 100000 in
theorem ok281 : funcOK Go.Proofs.Tryz.prog q281 Go.Proofs.Tryz.f281 = true := by decide +kernel
set_option maxRecDepth 100000 in
theorem ok282 : funcOK Go.Proofs.Tryz.prog q282 Go.Proofs.Tryz.f282 = true := by decide +kernel
set_option maxRecDepth 100000 in
theorem ok301 : funcOK Go.Proofs.Tryz.prog q301 Go.Proofs.Tryz.f301 = true := by decide +kernel
set_option maxRecDepth 100000 in
theorem ok308 : funcOK Go.Proofs.Tryz.prog q308 Go.Proofs.Tryz.f308 = true := by decide +kernel
set_option maxRecDepth 100000 in
theorem ok309 : funcOK Go.Proofs.Tryz.prog q309 Go.Proofs.Tryz.f309 = true := by decide +kernel
set_option maxRecDepth 100000 in
theorem ok312 : funcOK Go.Proofs.Tryz.prog q312 Go.Proofs.Tryz.f312 = true := by decide +kernel
set_option maxRecDepth 100000 in
theorem ok320 : funcOK Go.Proofs.Tryz.prog q320 Go.Proofs.Tryz.f320 = true := by decide +kernel
set_option maxRecDepth 100000 in
theorem ok321 : funcOK Go.Proofs.Tryz.prog q321 Go.Proofs.Tryz.f321 = true := by decide +kernel
set_option maxRecDepth 100000 in
theorem ok332 : funcOK Go.Proofs.Tryz.prog q332 Go.Proofs.Tryz.f332 = true := by decide +kernel
set_option maxRecDepth 100000 in
theorem ok335 : funcOK Go.Proofs.Tryz.prog q335 Go.Proofs.Tryz.f335 = true := by decide +kernel
set_option maxRecDepth 100000 in
theorem ok340 : funcOK Go.Proofs.Tryz.prog q340 Go.Proofs.Tryz.f340 = true := by decide +kernel
set_option maxRecDepth 100000 in
theorem ok350 : funcOK Go.Proofs.Tryz.prog q350 Go.Proofs.Tryz.f350 = true := by decide +kernel
set_option maxRecDepth 100000 in
theorem ok356 : funcOK Go.Proofs.Tryz.prog q356 Go.Proofs.Tryz.f356 = true := by decide +kernel
set_option maxRecDepth 100000 in
theorem ok357 : funcOK Go.Proofs.Tryz.prog q357 Go.Proofs.Tryz.f357 = true := by decide +kernel
set_option maxRecDepth 100000 in
theorem ok359 : funcOK Go.Proofs.Tryz.prog q359 Go.Proofs.Tryz.f359 = true := by decide +kernel
set_option maxRecDepth 100000 in
theorem ok361 : funcOK Go.Proofs.Tryz.prog q361 Go.Proofs.Tryz.f361 = true := by decide +kernel
set_option maxRecDepth 100000 in
theorem ok364 : funcOK Go.Proofs.Tryz.prog q364 Go.Proofs.Tryz.f364 = true := by decide +kernel
set_option maxRecDepth 100000 in
theorem ok372 : funcOK Go.Proofs.Tryz.prog q372 Go.Proofs.Tryz.f372 = true := by decide +kernel
set_option maxRecDepth 100000 in
theorem ok374 : funcOK Go.Proofs.Tryz.prog q374 Go.Proofs.Tryz.f374 = true := by decide +kernel
set_option maxRecDepth 100000 in
theorem ok375 : funcOK Go.Proofs.Tryz.prog q375 Go.Proofs.Tryz.f375 = true := by decide +kernel
end Go.AbQ
