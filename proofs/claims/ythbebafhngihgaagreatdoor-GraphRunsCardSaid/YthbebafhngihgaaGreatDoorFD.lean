/- The code of functions, checked against the program. Made by program (mkf.py). No premise. -/
import Derived.Test.YthbebafhngihgaaGreatDoorProg
import Derived.Test.YthbebafhngihgaaGreatDoorEX
import Derived.Test.YthbebafhngihgaaGreatDoorQB
namespace Go.Ab4
open Go Go.Ab
theorem ok3_r : restOK Go.Proofs.Tryz.prog q3 Go.Proofs.Tryz.f3 30 = true := by decide +kernel
theorem ok3_0 : regsOK Go.Proofs.Tryz.prog q3 Go.Proofs.Tryz.f3 0 5 = true := by decide +kernel
theorem ok3_5 : regsOK Go.Proofs.Tryz.prog q3 Go.Proofs.Tryz.f3 5 5 = true := by decide +kernel
theorem ok3_10 : regsOK Go.Proofs.Tryz.prog q3 Go.Proofs.Tryz.f3 10 5 = true := by decide +kernel
theorem ok3_15 : regsOK Go.Proofs.Tryz.prog q3 Go.Proofs.Tryz.f3 15 5 = true := by decide +kernel
theorem ok3_20 : regsOK Go.Proofs.Tryz.prog q3 Go.Proofs.Tryz.f3 20 5 = true := by decide +kernel
theorem ok3_25 : regsOK Go.Proofs.Tryz.prog q3 Go.Proofs.Tryz.f3 25 5 = true := by decide +kernel
theorem ok3 : funcOK Go.Proofs.Tryz.prog q3 Go.Proofs.Tryz.f3 = true := funcOK_of (many := 30) ok3_r (regsOK_join (a := 0) (b := 25) (c := 5) (regsOK_join (a := 0) (b := 20) (c := 5) (regsOK_join (a := 0) (b := 15) (c := 5) (regsOK_join (a := 0) (b := 10) (c := 5) (regsOK_join (a := 0) (b := 5) (c := 5) ok3_0 ok3_5) ok3_10) ok3_15) ok3_20) ok3_25)
theorem ok24_r : restOK Go.Proofs.Tryz.prog q24 Go.Proofs.Tryz.f24 3 = true := by decide +kernel
set_option maxRecDepth 100000 in
theorem ok24_0 : regsOK Go.Proofs.Tryz.prog q24 Go.Proofs.Tryz.f24 0 1 = true := by decide +kernel
set_option maxRecDepth 100000 in
theorem ok24_1 : regsOK Go.Proofs.Tryz.prog q24 Go.Proofs.Tryz.f24 1 1 = true := by decide +kernel
set_option maxRecDepth 100000 in
theorem ok24_2 : regsOK Go.Proofs.Tryz.prog q24 Go.Proofs.Tryz.f24 2 1 = true := by decide +kernel
theorem ok24 : funcOK Go.Proofs.Tryz.prog q24 Go.Proofs.Tryz.f24 = true := funcOK_of (many := 3) ok24_r (regsOK_join (a := 0) (b := 2) (c := 1) (regsOK_join (a := 0) (b := 1) (c := 1) ok24_0 ok24_1) ok24_2)
theorem ok260_r : restOK Go.Proofs.Tryz.prog q260 Go.Proofs.Tryz.f260 9 = true := by decide +kernel
set_option maxRecDepth 100000 in
theorem ok260_0 : regsOK Go.Proofs.Tryz.prog q260 Go.Proofs.Tryz.f260 0 1 = true := by decide +kernel
set_option maxRecDepth 100000 in
theorem ok260_1 : regsOK Go.Proofs.Tryz.prog q260 Go.Proofs.Tryz.f260 1 1 = true := by decide +kernel
set_option maxRecDepth 100000 in
theorem ok260_2 : regsOK Go.Proofs.Tryz.prog q260 Go.Proofs.Tryz.f260 2 1 = true := by decide +kernel
set_option maxRecDepth 100000 in
theorem ok260_3 : regsOK Go.Proofs.Tryz.prog q260 Go.Proofs.Tryz.f260 3 1 = true := by decide +kernel
set_option maxRecDepth 100000 in
theorem ok260_4 : regsOK Go.Proofs.Tryz.prog q260 Go.Proofs.Tryz.f260 4 1 = true := by decide +kernel
set_option maxRecDepth 100000 in
theorem ok260_5 : regsOK Go.Proofs.Tryz.prog q260 Go.Proofs.Tryz.f260 5 1 = true := by decide +kernel
set_option maxRecDepth 100000 in
theorem ok260_6 : regsOK Go.Proofs.Tryz.prog q260 Go.Proofs.Tryz.f260 6 1 = true := by decide +kernel
set_option maxRecDepth 100000 in
theorem ok260_7 : regsOK Go.Proofs.Tryz.prog q260 Go.Proofs.Tryz.f260 7 1 = true := by decide +kernel
set_option maxRecDepth 100000 in
theorem ok260_8 : regsOK Go.Proofs.Tryz.prog q260 Go.Proofs.Tryz.f260 8 1 = true := by decide +kernel
theorem ok260 : funcOK Go.Proofs.Tryz.prog q260 Go.Proofs.Tryz.f260 = true := funcOK_of (many := 9) ok260_r (regsOK_join (a := 0) (b := 8) (c := 1) (regsOK_join (a := 0) (b := 7) (c := 1) (regsOK_join (a := 0) (b := 6) (c := 1) (regsOK_join (a := 0) (b := 5) (c := 1) (regsOK_join (a := 0) (b := 4) (c := 1) (regsOK_join (a := 0) (b := 3) (c := 1) (regsOK_join (a := 0) (b := 2) (c := 1) (regsOK_join (a := 0) (b := 1) (c := 1) ok260_0 ok260_1) ok260_2) ok260_3) ok260_4) ok260_5) ok260_6) ok260_7) ok260_8)
theorem ok234_r : restOK Go.Proofs.Tryz.prog q234 Go.Proofs.Tryz.f234 24 = true := by decide +kernel
theorem ok234_0 : regsOK Go.Proofs.Tryz.prog q234 Go.Proofs.Tryz.f234 0 6 = true := by decide +kernel
theorem ok234_6 : regsOK Go.Proofs.Tryz.prog q234 Go.Proofs.Tryz.f234 6 6 = true := by decide +kernel
theorem ok234_12 : regsOK Go.Proofs.Tryz.prog q234 Go.Proofs.Tryz.f234 12 6 = true := by decide +kernel
theorem ok234_18 : regsOK Go.Proofs.Tryz.prog q234 Go.Proofs.Tryz.f234 18 6 = true := by decide +kernel
theorem ok234 : funcOK Go.Proofs.Tryz.prog q234 Go.Proofs.Tryz.f234 = true := funcOK_of (many := 24) ok234_r (regsOK_join (a := 0) (b := 18) (c := 6) (regsOK_join (a := 0) (b := 12) (c := 6) (regsOK_join (a := 0) (b := 6) (c := 6) ok234_0 ok234_6) ok234_12) ok234_18)
end Go.Ab4
