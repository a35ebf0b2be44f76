/- Part of the proof. -/
import Derived.Test.YtpipdilhgmolhacGreatTrA
set_option linter.unusedVariables false
namespace Go.Eng.G
open Go.Eng
noncomputable section
def S_facts_Facts_effect : STab := [(7000, fun p => ⟨(t0 (t0 (t0 (t0 Z (t0 Z (t0 Z (t0 (t0 Z (t0 (t0 Z (t0 Z (t0 (t0 Z (t1 (.pb 7 0 0))) Z))) Z)) Z)))) (t0 (t1 (nI p 0)) Z)) Z) (t2 (.fn 62 [.pb 7 0 0, .pb 8 0 0, .pb 3 0 0, .pb 4 0 0, .pb 5 0 0]) (t0 Z (t0 (t1 (nI p 1)) Z)) (t0 (t0 (t1 (fL 40 lt4 p 2)) Z) (t0 (t0 Z (t0 Z (t0 (t0 Z (t0 (t0 Z (t0 Z (t0 (t0 Z (t1 (.pb 6 0 0))) Z))) Z)) Z))) Z)))), [(3, ⟨0, [.pz [] lt2 (gD p 3) 0], none⟩), (4, ⟨0, [nI p 4], none⟩), (5, ⟨0, [fL 78 lt8 p 5], none⟩), (6, ⟨0, [.nils, .nils, .nils, .nils, nB p 6], none⟩), (7, ⟨0, [.vw 300448 0 [], .vw 300449 0 [], .vw 300450 0 [], .vw 300451 0 [], nB p 7], none⟩), (8, ⟨0, [.pz [] lt9 (gD p 8) 0], none⟩)], [aR 300448 3 [.int .i64] (gL p 9), aR 300449 3 [.int .i64] (gL p 10), aR 300450 3 [.int .i64] (gL p 11), aR 300451 3 [.int .i64] (gL p 12)], 1⟩),
 (7002, fun p => ⟨(t0 (t0 (t0 (t0 Z (t0 Z (t0 Z (t0 (t0 Z (t0 (t0 Z (t0 Z (t0 (t0 Z (t1 (.pb 7 0 0))) Z))) Z)) Z)))) (t0 (t1 (nI p 0)) (t1 (nI p 1)))) (t0 (t0 Z (t1 (fL 26 lt5 p 2))) Z)) (t2 (.fn 62 [.pb 7 0 0, .pb 8 0 0, .pb 3 0 0, .pb 4 0 0, .pb 5 0 0]) (t0 Z (t0 (t1 (nI p 3)) Z)) (t0 (t0 (t1 (fL 40 lt4 p 4)) (t1 (nI p 5))) (t0 (t0 Z (t0 Z (t0 (t0 Z (t0 (t0 Z (t0 Z (t0 (t0 Z (t1 (.pb 6 0 0))) Z))) Z)) Z))) Z)))), [(3, ⟨0, [.pz [] lt2 (gD p 6) 0], none⟩), (4, ⟨0, [nI p 7], none⟩), (5, ⟨0, [fL 78 lt8 p 8], none⟩), (6, ⟨0, [.nils, .nils, .nils, .nils, nB p 9], none⟩), (7, ⟨0, [.vw 300448 0 [], .vw 300449 0 [], .vw 300450 0 [], .vw 300451 0 [], nB p 10], none⟩), (8, ⟨0, [.pz [] lt9 (gD p 11) 0], none⟩)], [aR 300448 3 [.int .i64] (gL p 12), aR 300449 3 [.int .i64] (gL p 13), aR 300450 3 [.int .i64] (gL p 14), aR 300451 3 [.int .i64] (gL p 15)], 1⟩),
 (8001, fun p => ⟨(t0 (t2 (.pb 7 0 0) (t0 (t2 (fL 3 [.int .i64] p 0) Z (t0 Z (t0 Z (t0 (t0 Z (t0 (t0 Z (t0 Z (t0 (t0 Z (t1 (.pb 7 0 0))) Z))) Z)) Z)))) (t0 (t0 Z (t0 (t0 (t0 Z (t0 (t0 Z (t0 Z (t0 Z (t0 Z (t1 (nI p 1)))))) Z)) Z) Z)) (t0 Z (t0 (t0 (t0 Z (t0 (t0 Z (t0 Z (t0 Z (t0 Z (t1 (nI p 2)))))) Z)) Z) Z)))) (t2 (.pb 5 0 0) (t0 Z (t0 Z (t0 (t0 (t0 Z (t0 (t0 Z (t0 Z (t0 Z (t0 Z (t1 (fL 26 lt5 p 3)))))) Z)) Z) Z))) (t0 Z (t0 Z (t1 (nI p 4)))))) (t2 (.pb 8 0 0) (t0 Z (t0 (t0 Z (t0 (t0 (t0 Z (t0 (t0 Z (t0 Z (t0 Z (t0 Z (t1 (nI p 5)))))) Z)) Z) Z)) (t0 Z (t1 (.vw 15061000000 0 []))))) (t0 (t0 (t0 (t0 (t0 (t0 Z (t0 (t0 Z (t0 Z (t0 Z (t0 Z (t1 (.fn 62 [.pb 7 0 0, .pb 8 0 0, .pb 3 0 0, .pb 4 0 0, .pb 5 0 0])))))) Z)) Z) Z) (t0 (t0 (t0 Z (t0 (t0 Z (t0 Z (t0 Z (t0 Z (t1 (fL 40 lt4 p 6)))))) Z)) Z) Z)) (t0 Z (t0 (t0 (t0 Z (t0 (t0 Z (t0 Z (t0 Z (t0 Z (t1 (nI p 7)))))) Z)) Z) Z))) (t0 (t0 Z (t0 Z (t0 (t0 Z (t0 (t0 Z (t0 Z (t0 (t0 Z (t1 (.pb 6 0 0))) Z))) Z)) Z))) (t0 Z (t1 (nI p 8))))))), [(3, ⟨0, [.pz [] lt2 (gD p 9) 0], none⟩), (4, ⟨0, [nI p 10], none⟩), (5, ⟨0, [fL 78 lt8 p 11], none⟩), (6, ⟨0, [.nils, .nils, .nils, .nils, nB p 12], none⟩), (7, ⟨0, [.vw 300448 0 [], .vw 300449 0 [], .vw 300450 0 [], .vw 300451 0 [], nB p 13], none⟩), (8, ⟨0, [.pz [] lt9 (gD p 14) 0], none⟩)], [aR 300448 3 [.int .i64] (gL p 15), aR 300449 3 [.int .i64] (gL p 16), aR 300450 3 [.int .i64] (gL p 17), aR 300451 3 [.int .i64] (gL p 18), aR 15061000000 3 [.int .i64] (gL p 19)], 1⟩),
 (8003, fun p => ⟨(t0 (t2 (.pb 7 0 0) (t0 (t2 (fL 3 [.int .i64] p 0) Z (t0 Z (t0 Z (t0 (t0 Z (t0 (t0 Z (t0 Z (t0 (t0 Z (t1 (.pb 7 0 0))) Z))) Z)) Z)))) (t0 (t0 Z (t0 (t0 (t0 Z (t0 (t0 Z (t0 Z (t0 Z (t0 Z (t1 (nI p 1)))))) Z)) Z) Z)) (t0 Z (t0 (t2 (nI p 2) (t0 Z (t0 (t0 Z (t0 Z (t0 Z (t0 Z (t1 (nI p 3)))))) Z)) Z) Z)))) (t2 (.pb 5 0 0) (t0 Z (t0 Z (t0 (t0 (t0 Z (t0 (t0 Z (t0 Z (t0 Z (t0 Z (t1 (fL 26 lt5 p 4)))))) Z)) Z) Z))) (t0 Z (t0 Z (t1 (nI p 5)))))) (t2 (.pb 8 0 0) (t0 Z (t0 (t0 Z (t0 (t0 (t0 Z (t0 (t0 Z (t0 Z (t0 Z (t0 Z (t1 (nI p 6)))))) Z)) Z) Z)) (t0 Z (t2 (.vw 15061000000 0 []) (t1 (nI p 7)) Z)))) (t0 (t2 (.pb 15010 0 0) (t0 (t0 (t0 (t0 Z (t0 (t0 Z (t0 Z (t0 Z (t0 Z (t1 (.fn 62 [.pb 7 0 0, .pb 8 0 0, .pb 3 0 0, .pb 4 0 0, .pb 5 0 0])))))) Z)) Z) Z) (t0 (t0 (t0 Z (t0 (t0 Z (t0 Z (t0 Z (t0 Z (t1 (fL 40 lt4 p 8)))))) Z)) Z) Z)) (t0 Z (t0 (t2 (fL 3 [.int .i64] p 9) (t0 Z (t0 (t0 Z (t0 Z (t0 Z (t0 Z (t1 (nI p 10)))))) Z)) Z) Z))) (t0 (t0 Z (t0 Z (t0 (t0 Z (t0 (t0 Z (t0 Z (t0 (t0 Z (t1 (.pb 6 0 0))) Z))) Z)) Z))) (t0 Z (t1 (nI p 11))))))), [(3, ⟨0, [.pz [] lt2 (gD p 12) 0], none⟩), (4, ⟨0, [nI p 13], none⟩), (5, ⟨0, [fL 78 lt8 p 14], none⟩), (6, ⟨0, [.nils, .nils, .nils, .nils, nB p 15], none⟩), (7, ⟨0, [.vw 300448 0 [], .vw 300449 0 [], .vw 300450 0 [], .vw 300451 0 [], nB p 16], none⟩), (8, ⟨0, [.pz [] lt9 (gD p 17) 0], none⟩), (15010, ⟨0, [fL 3 [.int .i64] p 18, fL 3 [.int .i64] p 19, fL 3 [.int .i64] p 20, fL 3 [.int .i64] p 21, nB p 22], none⟩)], [aR 300448 3 [.int .i64] (gL p 23), aR 300449 3 [.int .i64] (gL p 24), aR 300450 3 [.int .i64] (gL p 25), aR 300451 3 [.int .i64] (gL p 26), aR 15061000000 3 [.int .i64] (gL p 27)], 1⟩),
 (11000, fun p => ⟨(t0 (t2 (.pb 7 0 0) (t0 (t0 Z (t0 Z (t0 Z (t0 (t0 Z (t0 (t0 Z (t0 Z (t0 (t0 Z (t1 (.pb 7 0 0))) Z))) Z)) (t0 Z (t0 Z (t0 (t0 Z (t0 (t0 Z (t0 (t1 (fL 3 [.int .i64] p 0)) Z)) Z)) Z))))))) (t0 (t0 Z (t0 (t0 (t0 Z (t0 (t0 Z (t0 Z (t0 Z (t0 Z (t1 (nI p 1)))))) Z)) Z) Z)) (t0 (t0 (t0 Z (t0 (t0 (t0 Z (t0 Z (t0 (t0 Z (t0 (t1 (nI p 2)) Z)) Z))) Z) Z)) Z) (t0 (t0 (t0 Z (t0 (t0 Z (t0 Z (t0 Z (t0 Z (t1 (nI p 3)))))) Z)) Z) Z)))) (t0 (t2 (nI p 4) (t0 Z (t0 Z (t0 Z (t0 Z (t0 Z (t0 (t0 Z (t0 (t0 Z (t0 (t1 (.pb 7 0 0)) Z)) Z)) Z)))))) (t0 Z (t0 (t0 (t0 Z (t0 (t0 Z (t0 Z (t0 Z (t0 Z (t1 (fL 26 lt5 p 5)))))) Z)) Z) Z))) (t0 (t0 Z (t0 Z (t0 Z (t0 Z (t0 Z (t0 (t0 Z (t0 (t0 Z (t0 (t1 (.pb 5 0 0)) Z)) Z)) Z)))))) (t0 (t0 Z (t0 (t0 (t0 (t0 Z (t0 Z (t0 (t0 Z (t0 (t1 (nI p 6)) Z)) Z))) Z) Z) Z)) Z)))) (t2 (.pb 7 0 2) (t0 (t1 (fL 66 [.int .i64, .int .i64] p 7)) (t0 (t0 Z (t0 (t0 (t0 Z (t0 (t0 Z (t0 Z (t0 Z (t0 Z (t1 (nI p 8)))))) Z)) Z) Z)) (t0 (t0 (t0 Z (t0 (t0 (t0 Z (t0 Z (t0 (t0 Z (t0 (t1 (nI p 9)) Z)) Z))) Z) Z)) (t0 (t0 (t0 (t0 Z (t0 Z (t0 (t0 Z (t0 (t1 (.vw 15061000000 0 [])) Z)) Z))) Z) Z) Z)) Z))) (t0 (t2 (nI p 10) (t0 (t0 (t0 (t0 Z (t0 (t0 Z (t0 Z (t0 Z (t0 Z (t1 (.fn 62 [.pb 7 0 0, .pb 8 0 0, .pb 3 0 0, .pb 4 0 0, .pb 5 0 0])))))) Z)) Z) Z) (t0 (t0 (t0 Z (t0 (t0 Z (t0 Z (t0 Z (t0 Z (t1 (fL 40 lt4 p 11)))))) Z)) Z) (t0 Z (t0 Z (t0 Z (t0 (t0 Z (t0 (t0 Z (t0 (t1 (.pb 8 0 0)) Z)) Z)) Z)))))) (t0 (t0 (t0 Z (t0 (t0 (t0 Z (t0 Z (t0 (t0 Z (t0 (t1 (fL 3 [.int .i64] p 12)) Z)) Z))) Z) Z)) Z) (t0 (t0 (t0 Z (t0 (t0 Z (t0 Z (t0 Z (t0 Z (t1 (nI p 13)))))) Z)) Z) (t0 Z (t0 Z (t0 Z (t0 (t0 Z (t0 (t0 Z (t0 (t1 (.pb 15010 0 0)) Z)) Z)) Z))))))) (t0 (t0 Z (t0 Z (t0 (t0 Z (t0 (t0 Z (t0 Z (t0 (t0 Z (t1 (.pb 6 0 0))) Z))) Z)) Z))) (t0 (t0 Z (t0 (t0 (t0 (t0 Z (t0 Z (t0 (t0 Z (t0 (t1 (nI p 14)) Z)) Z))) Z) Z) Z)) Z))))), [(3, ⟨0, [.pz [] lt2 (gD p 15) 0], none⟩), (4, ⟨0, [nI p 16], none⟩), (5, ⟨0, [fL 78 lt8 p 17], none⟩), (6, ⟨0, [.nils, .nils, .nils, .nils, nB p 18], none⟩), (7, ⟨0, [.vw 300448 0 [], .vw 300449 0 [], .vw 300450 0 [], .vw 300451 0 [], nB p 19], none⟩), (8, ⟨0, [.pz [] lt9 (gD p 20) 0], none⟩), (15010, ⟨0, [fL 3 [.int .i64] p 21, fL 3 [.int .i64] p 22, fL 3 [.int .i64] p 23, fL 3 [.int .i64] p 24, nB p 25], none⟩)], [aR 300448 3 [.int .i64] (gL p 26), aR 300449 3 [.int .i64] (gL p 27), aR 300450 3 [.int .i64] (gL p 28), aR 300451 3 [.int .i64] (gL p 29), aR 15061000000 3 [.int .i64] (gL p 30)], 1⟩),
 (8005, fun p => ⟨(t0 (t2 (.pb 7 0 0) (t0 (t2 (fL 3 [.int .i64] p 0) Z (t0 Z (t0 Z (t0 (t0 Z (t0 (t0 Z (t0 Z (t0 (t0 Z (t1 (.pb 7 0 0))) Z))) Z)) Z)))) (t0 (t0 Z (t0 (t0 (t0 Z (t0 (t0 Z (t0 Z (t0 Z (t0 Z (t1 (nI p 1)))))) Z)) Z) Z)) (t0 Z (t0 (t0 (t0 Z (t0 (t0 Z (t0 Z (t0 Z (t0 Z (t1 (nI p 2)))))) Z)) Z) Z)))) (t2 (.pb 5 0 0) (t0 (t0 Z (t0 Z (t1 (nI p 3)))) (t0 Z (t0 (t0 (t0 Z (t0 (t0 Z (t0 Z (t0 Z (t0 Z (t1 (fL 26 lt5 p 4)))))) Z)) Z) Z))) (t0 Z (t0 Z (t1 (nI p 5)))))) (t2 (.pb 8 0 0) (t0 (t0 (t0 Z (t0 Z (t1 (fL 3 [.int .i64] p 6)))) Z) (t0 (t0 Z (t0 (t0 (t0 Z (t0 (t0 Z (t0 Z (t0 Z (t0 Z (t1 (nI p 7)))))) Z)) Z) Z)) (t0 Z (t1 (.vw 15061000000 0 []))))) (t0 (t0 (t0 (t0 (t0 (t0 Z (t0 (t0 Z (t0 Z (t0 Z (t0 Z (t1 (.fn 62 [.pb 7 0 0, .pb 8 0 0, .pb 3 0 0, .pb 4 0 0, .pb 5 0 0])))))) Z)) Z) Z) (t0 (t0 (t0 Z (t0 (t0 Z (t0 Z (t0 Z (t0 Z (t1 (fL 40 lt4 p 8)))))) Z)) Z) (t1 (nI p 9)))) (t0 Z (t0 (t0 (t0 Z (t0 (t0 Z (t0 Z (t0 Z (t0 Z (t1 (nI p 10)))))) Z)) Z) Z))) (t0 (t0 Z (t0 Z (t0 (t0 Z (t0 (t0 Z (t0 Z (t0 (t0 Z (t1 (.pb 6 0 0))) Z))) Z)) Z))) (t0 Z (t1 (nI p 11))))))), [(3, ⟨0, [.pz [] lt2 (gD p 12) 0], none⟩), (4, ⟨0, [nI p 13], none⟩), (5, ⟨0, [fL 78 lt8 p 14], none⟩), (6, ⟨0, [.nils, .nils, .nils, .nils, nB p 15], none⟩), (7, ⟨0, [.vw 300448 0 [], .vw 300449 0 [], .vw 300450 0 [], .vw 300451 0 [], nB p 16], none⟩), (8, ⟨0, [.pz [] lt9 (gD p 17) 0], none⟩)], [aR 300448 3 [.int .i64] (gL p 18), aR 300449 3 [.int .i64] (gL p 19), aR 300450 3 [.int .i64] (gL p 20), aR 300451 3 [.int .i64] (gL p 21), aR 15061000000 3 [.int .i64] (gL p 22)], 1⟩),
 (12000, fun p => ⟨(t0 (t2 (.pb 7 0 1) (t0 (t0 Z (t0 (t0 (t0 Z (t0 Z (t0 Z (t0 (t0 Z (t0 Z (t0 Z (t0 (t1 (fL 3 [.int .i64] p 0)) Z)))) Z)))) Z) (t0 Z (t0 (t0 Z (t0 (t0 Z (t0 Z (t0 (t0 Z (t1 (.pb 7 0 0))) Z))) Z)) Z)))) (t0 (t0 Z (t0 (t0 (t0 Z (t0 (t0 Z (t0 Z (t0 Z (t0 Z (t1 (nI p 1)))))) Z)) Z) Z)) (t0 Z (t0 (t0 (t0 Z (t0 (t0 Z (t0 Z (t0 Z (t0 Z (t1 (nI p 2)))))) Z)) Z) Z)))) (t0 (t2 (nI p 3) (t0 (t0 (t0 Z (t0 Z (t0 Z (t0 (t0 Z (t0 Z (t0 Z (t0 (t1 (.pb 7 0 0)) Z)))) Z)))) Z) (t0 Z (t0 (t0 (t0 (t0 Z (t0 Z (t0 Z (t0 Z (t0 (t1 (nI p 4)) Z))))) Z) Z) Z))) (t0 Z (t0 (t0 (t0 Z (t0 (t0 Z (t0 Z (t0 Z (t0 Z (t1 (fL 26 lt5 p 5)))))) Z)) Z) Z))) (t0 (t0 (t0 (t0 Z (t0 Z (t0 Z (t0 (t0 Z (t0 Z (t0 Z (t0 (t1 (.pb 5 0 0)) Z)))) Z)))) Z) Z) (t0 Z (t0 Z (t0 Z (t0 Z (t0 Z (t0 (t0 Z (t0 Z (t0 Z (t0 (t1 (nI p 6)) Z)))) Z))))))))) (t2 (.pb 7 0 3) (t0 (t2 (fL 66 [.int .i64, .int .i64] p 7) (t0 Z (t0 Z (t0 (t0 (t0 (t0 Z (t0 Z (t0 Z (t0 Z (t0 (t1 (fL 3 [.int .i64] p 8)) Z))))) Z) Z) Z))) Z) (t0 (t0 Z (t0 (t0 (t0 Z (t0 (t0 Z (t0 Z (t0 Z (t0 Z (t1 (nI p 9)))))) Z)) Z) Z)) (t0 Z (t0 Z (t0 Z (t0 Z (t0 Z (t0 (t0 Z (t0 Z (t0 Z (t0 (t1 (.vw 15061000000 0 [])) Z)))) Z)))))))) (t0 (t2 (nI p 10) (t0 (t0 (t0 (t0 Z (t0 (t0 Z (t0 Z (t0 Z (t0 Z (t1 (.fn 62 [.pb 7 0 0, .pb 8 0 0, .pb 3 0 0, .pb 4 0 0, .pb 5 0 0])))))) Z)) (t0 Z (t0 Z (t0 (t0 Z (t0 Z (t0 Z (t0 (t1 (.pb 8 0 0)) Z)))) Z)))) Z) (t0 (t0 (t0 Z (t0 (t0 Z (t0 Z (t0 Z (t0 Z (t1 (fL 40 lt4 p 11)))))) Z)) Z) (t0 (t0 (t0 (t0 Z (t0 Z (t0 Z (t0 Z (t0 (t1 (nI p 12)) Z))))) Z) Z) Z))) (t0 Z (t0 (t0 (t0 Z (t0 (t0 Z (t0 Z (t0 Z (t0 Z (t1 (nI p 13)))))) Z)) Z) Z))) (t0 (t0 Z (t0 Z (t0 (t0 Z (t0 (t0 Z (t0 Z (t0 (t0 Z (t1 (.pb 6 0 0))) Z))) Z)) Z))) (t0 Z (t0 Z (t0 Z (t0 Z (t0 Z (t0 (t0 Z (t0 Z (t0 Z (t0 (t1 (nI p 14)) Z)))) Z)))))))))), [(3, ⟨0, [.pz [] lt2 (gD p 15) 0], none⟩), (4, ⟨0, [nI p 16], none⟩), (5, ⟨0, [fL 78 lt8 p 17], none⟩), (6, ⟨0, [.nils, .nils, .nils, .nils, nB p 18], none⟩), (7, ⟨0, [.vw 300448 0 [], .vw 300449 0 [], .vw 300450 0 [], .vw 300451 0 [], nB p 19], none⟩), (8, ⟨0, [.pz [] lt9 (gD p 20) 0], none⟩)], [aR 300448 3 [.int .i64] (gL p 21), aR 300449 3 [.int .i64] (gL p 22), aR 300450 3 [.int .i64] (gL p 23), aR 300451 3 [.int .i64] (gL p 24), aR 15061000000 3 [.int .i64] (gL p 25)], 1⟩),
 (9000, fun p => ⟨(t0 (t2 (.pb 7 0 0) (t0 (t0 Z (t0 Z (t0 Z (t0 (t0 Z (t0 (t0 Z (t0 Z (t0 (t0 Z (t1 (.pb 7 0 0))) Z))) Z)) Z)))) (t0 (t0 Z (t0 (t0 (t0 Z (t0 (t0 Z (t0 Z (t0 Z (t0 Z (t1 (nI p 0)))))) Z)) (t0 (t0 (t0 Z (t0 Z (t0 (t0 (t0 (t1 (.pb 3 0 0)) Z) Z) Z))) Z) Z)) Z)) (t0 Z (t0 (t0 (t0 Z (t0 (t0 Z (t0 Z (t0 Z (t0 Z (t1 (nI p 1)))))) Z)) Z) Z)))) (t0 (t2 (nI p 2) (t0 Z (t0 (t0 Z (t0 (t0 (t0 Z (t0 Z (t0 (t0 (t0 (t1 (.pb 7 0 0)) Z) Z) Z))) Z) Z)) Z)) (t0 Z (t0 (t0 (t0 Z (t0 (t0 Z (t0 Z (t0 Z (t0 Z (t1 (fL 26 lt5 p 3)))))) Z)) Z) Z))) (t0 (t0 Z (t0 (t0 Z (t0 (t0 (t0 Z (t0 Z (t0 (t0 (t0 (t1 (.pb 5 0 0)) Z) Z) Z))) Z) Z)) Z)) Z))) (t2 (.pb 7 0 2) (t0 (t1 (fL 66 [.int .i64, .int .i64] p 4)) (t0 (t0 Z (t0 (t0 (t0 Z (t0 (t0 Z (t0 Z (t0 Z (t0 Z (t1 (nI p 5)))))) Z)) (t0 (t0 (t0 Z (t0 Z (t0 (t0 (t0 (t1 (.pb 4 0 0)) Z) Z) Z))) Z) Z)) Z)) Z)) (t0 (t2 (nI p 6) (t0 (t0 (t0 (t0 Z (t0 (t0 Z (t0 Z (t0 Z (t0 Z (t1 (.fn 62 [.pb 7 0 0, .pb 8 0 0, .pb 3 0 0, .pb 4 0 0, .pb 5 0 0])))))) Z)) Z) Z) (t0 (t0 (t0 Z (t0 (t0 Z (t0 Z (t0 Z (t0 Z (t1 (fL 40 lt4 p 7)))))) Z)) (t0 (t0 (t0 Z (t0 Z (t0 (t0 (t0 (t1 (.pb 8 0 0)) Z) Z) Z))) Z) Z)) Z)) (t0 Z (t0 (t0 (t0 Z (t0 (t0 Z (t0 Z (t0 Z (t0 Z (t1 (nI p 8)))))) Z)) Z) Z))) (t0 (t0 Z (t0 (t0 Z (t0 (t0 (t0 Z (t0 Z (t0 (t0 (t0 (t1 (.pb 15006 0 0)) Z) Z) Z))) Z) Z)) (t0 (t0 Z (t0 (t0 Z (t0 Z (t0 (t0 Z (t1 (.pb 6 0 0))) Z))) Z)) Z))) Z)))), [(3, ⟨0, [.pz [] lt2 (gD p 9) 0], none⟩), (4, ⟨0, [nI p 10], none⟩), (5, ⟨0, [fL 78 lt8 p 11], none⟩), (6, ⟨0, [.nils, .nils, .nils, .nils, nB p 12], none⟩), (7, ⟨0, [.vw 300448 0 [], .vw 300449 0 [], .vw 300450 0 [], .vw 300451 0 [], nB p 13], none⟩), (8, ⟨0, [.pz [] lt9 (gD p 14) 0], none⟩), (15006, ⟨0, [nI p 15, nI p 16, nI p 17, nI p 18, nI p 19, fL 3 [.int .i64] p 20, fL 3 [.int .i64] p 21], none⟩)], [aR 300448 3 [.int .i64] (gL p 22), aR 300449 3 [.int .i64] (gL p 23), aR 300450 3 [.int .i64] (gL p 24), aR 300451 3 [.int .i64] (gL p 25)], 1⟩),
 (10000, fun p => ⟨(t0 (t2 (.pb 7 0 1) (t0 (t0 Z (t0 Z (t0 Z (t0 (t0 Z (t0 (t0 Z (t0 Z (t0 (t0 Z (t1 (.pb 7 0 0))) Z))) Z)) Z)))) (t0 (t0 (t0 Z (t0 (t0 (t0 (t0 Z (t0 Z (t0 Z (t0 (t0 (t1 (.pb 3 0 0)) Z) Z)))) Z) Z) Z)) (t0 (t0 (t0 Z (t0 (t0 Z (t0 Z (t0 Z (t0 Z (t1 (nI p 0)))))) Z)) Z) Z)) (t0 Z (t0 (t0 (t0 Z (t0 (t0 Z (t0 Z (t0 Z (t0 Z (t1 (nI p 1)))))) Z)) Z) Z)))) (t0 (t2 (nI p 2) (t0 (t0 Z (t0 (t0 (t0 (t0 Z (t0 Z (t0 Z (t0 (t0 (t1 (.pb 7 0 0)) Z) Z)))) Z) Z) Z)) Z) (t0 Z (t0 (t0 (t0 Z (t0 (t0 Z (t0 Z (t0 Z (t0 Z (t1 (fL 26 lt5 p 3)))))) Z)) Z) Z))) (t0 (t0 (t0 Z (t0 (t0 (t0 (t0 Z (t0 Z (t0 Z (t0 (t0 (t1 (.pb 5 0 0)) Z) Z)))) Z) Z) Z)) Z) Z))) (t2 (.pb 7 0 3) (t0 (t1 (fL 66 [.int .i64, .int .i64] p 4)) (t0 (t0 (t0 Z (t0 (t0 (t0 (t0 Z (t0 Z (t0 Z (t0 (t0 (t1 (.pb 4 0 0)) Z) Z)))) Z) Z) Z)) (t0 (t0 (t0 Z (t0 (t0 Z (t0 Z (t0 Z (t0 Z (t1 (nI p 5)))))) Z)) Z) Z)) Z)) (t0 (t2 (nI p 6) (t0 (t0 (t0 (t0 Z (t0 (t0 Z (t0 Z (t0 Z (t0 Z (t1 (.fn 62 [.pb 7 0 0, .pb 8 0 0, .pb 3 0 0, .pb 4 0 0, .pb 5 0 0])))))) Z)) Z) (t0 (t0 (t0 (t0 Z (t0 Z (t0 Z (t0 (t0 (t1 (.pb 8 0 0)) Z) Z)))) Z) Z) Z)) (t0 (t0 (t0 Z (t0 (t0 Z (t0 Z (t0 Z (t0 Z (t1 (fL 40 lt4 p 7)))))) Z)) Z) Z)) (t0 Z (t0 (t0 (t0 Z (t0 (t0 Z (t0 Z (t0 Z (t0 Z (t1 (nI p 8)))))) Z)) Z) Z))) (t0 (t0 (t0 Z (t0 (t0 (t0 (t0 Z (t0 Z (t0 Z (t0 (t0 (t1 (.pb 15006 0 0)) Z) Z)))) Z) Z) Z)) (t0 Z (t0 (t0 Z (t0 (t0 Z (t0 Z (t0 (t0 Z (t1 (.pb 6 0 0))) Z))) Z)) Z))) Z)))), [(3, ⟨0, [.pz [] lt2 (gD p 9) 0], none⟩), (4, ⟨0, [nI p 10], none⟩), (5, ⟨0, [fL 78 lt8 p 11], none⟩), (6, ⟨0, [.nils, .nils, .nils, .nils, nB p 12], none⟩), (7, ⟨0, [.vw 300448 0 [], .vw 300449 0 [], .vw 300450 0 [], .vw 300451 0 [], nB p 13], none⟩), (8, ⟨0, [.pz [] lt9 (gD p 14) 0], none⟩), (15006, ⟨0, [nI p 15, nI p 16, nI p 17, nI p 18, nI p 19, fL 3 [.int .i64] p 20, fL 3 [.int .i64] p 21], none⟩)], [aR 300448 3 [.int .i64] (gL p 22), aR 300449 3 [.int .i64] (gL p 23), aR 300450 3 [.int .i64] (gL p 24), aR 300451 3 [.int .i64] (gL p 25)], 1⟩)]
def T_facts_Facts_effect : TTab := [(7000, [fun p => (.exit 0, ⟨(t0 (t0 (t0 (t0 Z (t0 Z (t0 Z (t0 (t0 Z (t0 (t0 Z (t0 Z (t0 (t0 Z (t1 (.pb 7 0 0))) Z))) Z)) Z)))) Z) Z) (t0 Z (t0 Z (t0 (t0 Z (t0 Z (t0 (t0 Z (t0 (t0 Z (t0 Z (t0 (t0 Z (t1 (.pb 6 0 0))) Z))) Z)) Z))) Z)))), [(6, ⟨0, [.nils, .nils, .nils, .nils, nB p 0], none⟩), (7, ⟨0, [.vw 300448 0 [], .vw 300449 0 [], .vw 300450 0 [], .vw 300451 0 [], nB p 1], none⟩)], [aR 300448 3 [.int .i64] (gL p 2), aR 300449 3 [.int .i64] (gL p 3), aR 300450 3 [.int .i64] (gL p 4), aR 300451 3 [.int .i64] (gL p 5)], 1⟩)]),
 (7002, [fun p => (.exit 2, ⟨(t0 (t0 (t0 (t0 Z (t0 Z (t0 Z (t0 (t0 Z (t0 (t0 Z (t0 Z (t0 (t0 Z (t1 (.pb 7 0 0))) Z))) Z)) Z)))) (t0 (t1 (nI p 0)) Z)) Z) (t2 (.fn 62 [.pb 7 0 0, .pb 8 0 0, .pb 3 0 0, .pb 4 0 0, .pb 5 0 0]) (t0 Z (t0 (t1 (nI p 1)) Z)) (t0 (t0 (t1 (fL 40 lt4 p 2)) Z) (t0 (t0 Z (t0 Z (t0 (t0 Z (t0 (t0 Z (t0 Z (t0 (t0 Z (t1 (.pb 6 0 0))) Z))) Z)) Z))) Z)))), [(3, ⟨0, [.pz [] lt2 (gD p 3) 0], none⟩), (4, ⟨0, [nI p 4], none⟩), (5, ⟨0, [fL 78 lt8 p 5], none⟩), (6, ⟨0, [.nils, .nils, .nils, .nils, nB p 6], none⟩), (7, ⟨0, [.vw 300448 0 [], .vw 300449 0 [], .vw 300450 0 [], .vw 300451 0 [], nB p 7], none⟩), (8, ⟨0, [.pz [] lt9 (gD p 8) 0], none⟩)], [aR 300448 3 [.int .i64] (gL p 9), aR 300449 3 [.int .i64] (gL p 10), aR 300450 3 [.int .i64] (gL p 11), aR 300451 3 [.int .i64] (gL p 12)], 1⟩)]),
 (8001, [fun p => (.exit 1, ⟨(t0 (t0 (t0 (t0 Z (t0 Z (t0 Z (t0 (t0 Z (t0 (t0 Z (t0 Z (t0 (t0 Z (t1 (.pb 7 0 0))) Z))) Z)) Z)))) (t0 (t0 Z (t0 (t0 (t0 Z (t0 (t0 Z (t0 Z (t0 Z (t0 Z (t1 (nI p 0)))))) Z)) Z) Z)) (t0 Z (t0 (t0 (t0 Z (t0 (t0 Z (t0 Z (t0 Z (t0 Z (t1 (nI p 1)))))) Z)) Z) Z)))) (t0 (t0 Z (t0 Z (t0 (t0 (t0 Z (t0 (t0 Z (t0 Z (t0 Z (t0 Z (t1 (fL 26 lt5 p 2)))))) Z)) Z) Z))) Z)) (t0 (t0 Z (t0 (t0 Z (t0 (t0 (t0 Z (t0 (t0 Z (t0 Z (t0 Z (t0 Z (t1 (nI p 3)))))) Z)) Z) Z)) Z)) (t0 (t0 (t0 (t0 (t0 (t0 Z (t0 (t0 Z (t0 Z (t0 Z (t0 Z (t1 (.fn 62 [.pb 7 0 0, .pb 8 0 0, .pb 3 0 0, .pb 4 0 0, .pb 5 0 0])))))) Z)) Z) Z) (t0 (t0 (t0 Z (t0 (t0 Z (t0 Z (t0 Z (t0 Z (t1 (fL 40 lt4 p 4)))))) Z)) Z) Z)) (t0 Z (t0 (t0 (t0 Z (t0 (t0 Z (t0 Z (t0 Z (t0 Z (t1 (nI p 5)))))) Z)) Z) Z))) (t0 (t0 Z (t0 Z (t0 (t0 Z (t0 (t0 Z (t0 Z (t0 (t0 Z (t1 (.pb 6 0 0))) Z))) Z)) Z))) Z)))), [(3, ⟨0, [.pz [] lt2 (gD p 6) 0], none⟩), (4, ⟨0, [nI p 7], none⟩), (5, ⟨0, [fL 78 lt8 p 8], none⟩), (6, ⟨0, [.nils, .nils, .nils, .nils, nB p 9], none⟩), (7, ⟨0, [.vw 300448 0 [], .vw 300449 0 [], .vw 300450 0 [], .vw 300451 0 [], nB p 10], none⟩), (8, ⟨0, [.pz [] lt9 (gD p 11) 0], none⟩)], [aR 300448 3 [.int .i64] (gL p 12), aR 300449 3 [.int .i64] (gL p 13), aR 300450 3 [.int .i64] (gL p 14), aR 300451 3 [.int .i64] (gL p 15)], 1⟩)]),
 (8003, [fun p => (.exit 3, ⟨(t0 (t2 (.pb 7 0 0) (t0 (t2 (fL 3 [.int .i64] p 0) Z (t0 Z (t0 Z (t0 (t0 Z (t0 (t0 Z (t0 Z (t0 (t0 Z (t1 (.pb 7 0 0))) Z))) Z)) Z)))) (t0 (t0 Z (t0 (t0 (t0 Z (t0 (t0 Z (t0 Z (t0 Z (t0 Z (t1 (nI p 1)))))) Z)) Z) Z)) (t0 Z (t0 (t0 (t0 Z (t0 (t0 Z (t0 Z (t0 Z (t0 Z (t1 (nI p 2)))))) Z)) Z) Z)))) (t2 (.pb 5 0 0) (t0 Z (t0 Z (t0 (t0 (t0 Z (t0 (t0 Z (t0 Z (t0 Z (t0 Z (t1 (fL 26 lt5 p 3)))))) Z)) Z) Z))) (t0 Z (t0 Z (t1 (nI p 4)))))) (t2 (.pb 8 0 0) (t0 Z (t0 (t0 Z (t0 (t0 (t0 Z (t0 (t0 Z (t0 Z (t0 Z (t0 Z (t1 (nI p 5)))))) Z)) Z) Z)) (t0 Z (t1 (.vw 15061000000 0 []))))) (t0 (t2 (.pb 15010 0 0) (t0 (t0 (t0 (t0 Z (t0 (t0 Z (t0 Z (t0 Z (t0 Z (t1 (.fn 62 [.pb 7 0 0, .pb 8 0 0, .pb 3 0 0, .pb 4 0 0, .pb 5 0 0])))))) Z)) Z) Z) (t0 (t0 (t0 Z (t0 (t0 Z (t0 Z (t0 Z (t0 Z (t1 (fL 40 lt4 p 6)))))) Z)) Z) Z)) (t0 Z (t0 (t0 (t0 Z (t0 (t0 Z (t0 Z (t0 Z (t0 Z (t1 (nI p 7)))))) Z)) Z) Z))) (t0 (t0 Z (t0 Z (t0 (t0 Z (t0 (t0 Z (t0 Z (t0 (t0 Z (t1 (.pb 6 0 0))) Z))) Z)) Z))) (t0 Z (t1 (nI p 8))))))), [(3, ⟨0, [.pz [] lt2 (gD p 9) 0], none⟩), (4, ⟨0, [nI p 10], none⟩), (5, ⟨0, [fL 78 lt8 p 11], none⟩), (6, ⟨0, [.nils, .nils, .nils, .nils, nB p 12], none⟩), (7, ⟨0, [.vw 300448 0 [], .vw 300449 0 [], .vw 300450 0 [], .vw 300451 0 [], nB p 13], none⟩), (8, ⟨0, [.pz [] lt9 (gD p 14) 0], none⟩), (15010, ⟨0, [fL 3 [.int .i64] p 15, fL 3 [.int .i64] p 16, fL 3 [.int .i64] p 17, fL 3 [.int .i64] p 18, nB p 19], none⟩)], [aR 300448 3 [.int .i64] (gL p 20), aR 300449 3 [.int .i64] (gL p 21), aR 300450 3 [.int .i64] (gL p 22), aR 300451 3 [.int .i64] (gL p 23), aR 15061000000 3 [.int .i64] (gL p 24)], 1⟩)]),
 (11000, [fun p => (.exit 0, ⟨(t0 (t2 (.pb 7 0 0) (t0 (t0 Z (t0 Z (t0 Z (t0 (t0 Z (t0 (t0 Z (t0 Z (t0 (t0 Z (t1 (.pb 7 0 0))) Z))) Z)) (t0 Z (t0 Z (t0 (t0 Z (t0 (t0 Z (t0 (t1 (fL 3 [.int .i64] p 0)) Z)) Z)) Z))))))) (t0 (t0 Z (t0 (t0 (t0 Z (t0 (t0 Z (t0 Z (t0 Z (t0 Z (t1 (nI p 1)))))) Z)) Z) Z)) (t0 (t0 (t0 Z (t0 (t0 (t0 Z (t0 Z (t0 (t0 Z (t0 (t1 (nI p 2)) Z)) Z))) Z) Z)) Z) (t0 (t0 (t0 Z (t0 (t0 Z (t0 Z (t0 Z (t0 Z (t1 (nI p 3)))))) Z)) Z) Z)))) (t0 (t0 (t0 Z (t0 Z (t0 Z (t0 Z (t0 Z (t0 (t0 Z (t0 (t0 Z (t0 (t1 (.pb 7 0 0)) Z)) Z)) Z)))))) (t0 Z (t0 (t0 (t0 Z (t0 (t0 Z (t0 Z (t0 Z (t0 Z (t1 (fL 26 lt5 p 4)))))) Z)) Z) Z))) (t0 (t0 Z (t0 Z (t0 Z (t0 Z (t0 Z (t0 (t0 Z (t0 (t0 Z (t0 (t1 (.pb 5 0 0)) Z)) Z)) Z)))))) (t0 (t0 Z (t0 (t0 (t0 (t0 Z (t0 Z (t0 (t0 Z (t0 (t1 (nI p 5)) Z)) Z))) Z) Z) Z)) Z)))) (t2 (.pb 7 0 2) (t0 Z (t0 (t0 Z (t0 (t0 (t0 Z (t0 (t0 Z (t0 Z (t0 Z (t0 Z (t1 (nI p 6)))))) Z)) Z) Z)) (t0 (t0 (t0 Z (t0 (t0 (t0 Z (t0 Z (t0 (t0 Z (t0 (t1 (nI p 7)) Z)) Z))) Z) Z)) (t0 (t0 (t0 (t0 Z (t0 Z (t0 (t0 Z (t0 (t1 (.vw 15061000000 0 [])) Z)) Z))) Z) Z) Z)) Z))) (t0 (t0 (t0 (t0 (t0 (t0 Z (t0 (t0 Z (t0 Z (t0 Z (t0 Z (t1 (.fn 62 [.pb 7 0 0, .pb 8 0 0, .pb 3 0 0, .pb 4 0 0, .pb 5 0 0])))))) Z)) Z) Z) (t0 (t0 (t0 Z (t0 (t0 Z (t0 Z (t0 Z (t0 Z (t1 (fL 40 lt4 p 8)))))) Z)) Z) (t0 Z (t0 Z (t0 Z (t0 (t0 Z (t0 (t0 Z (t0 (t1 (.pb 8 0 0)) Z)) Z)) Z)))))) (t0 (t0 (t0 Z (t0 (t0 (t0 Z (t0 Z (t0 (t0 Z (t0 (t1 (fL 3 [.int .i64] p 9)) Z)) Z))) Z) Z)) Z) (t0 (t0 (t0 Z (t0 (t0 Z (t0 Z (t0 Z (t0 Z (t1 (nI p 10)))))) Z)) Z) (t0 Z (t0 Z (t0 Z (t0 (t0 Z (t0 (t0 Z (t0 (t1 (.pb 15010 0 0)) Z)) Z)) Z))))))) (t0 (t0 Z (t0 Z (t0 (t0 Z (t0 (t0 Z (t0 Z (t0 (t0 Z (t1 (.pb 6 0 0))) Z))) Z)) Z))) (t0 (t0 Z (t0 (t0 (t0 (t0 Z (t0 Z (t0 (t0 Z (t0 (t1 (nI p 11)) Z)) Z))) Z) Z) Z)) Z))))), [(3, ⟨0, [.pz [] lt2 (gD p 12) 0], none⟩), (4, ⟨0, [nI p 13], none⟩), (5, ⟨0, [fL 78 lt8 p 14], none⟩), (6, ⟨0, [.nils, .nils, .nils, .nils, nB p 15], none⟩), (7, ⟨0, [.vw 300448 0 [], .vw 300449 0 [], .vw 300450 0 [], .vw 300451 0 [], nB p 16], none⟩), (8, ⟨0, [.pz [] lt9 (gD p 17) 0], none⟩), (15010, ⟨0, [fL 3 [.int .i64] p 18, fL 3 [.int .i64] p 19, fL 3 [.int .i64] p 20, fL 3 [.int .i64] p 21, nB p 22], none⟩)], [aR 300448 3 [.int .i64] (gL p 23), aR 300449 3 [.int .i64] (gL p 24), aR 300450 3 [.int .i64] (gL p 25), aR 300451 3 [.int .i64] (gL p 26), aR 15061000000 3 [.int .i64] (gL p 27)], 1⟩)]),
 (8005, [fun p => (.exit 5, ⟨(t0 (t2 (.pb 7 0 0) (t0 (t2 (fL 3 [.int .i64] p 0) Z (t0 Z (t0 Z (t0 (t0 Z (t0 (t0 Z (t0 Z (t0 (t0 Z (t1 (.pb 7 0 0))) Z))) Z)) Z)))) (t0 (t0 Z (t0 (t0 (t0 Z (t0 (t0 Z (t0 Z (t0 Z (t0 Z (t1 (nI p 1)))))) Z)) Z) Z)) (t0 Z (t0 (t0 (t0 Z (t0 (t0 Z (t0 Z (t0 Z (t0 Z (t1 (nI p 2)))))) Z)) Z) Z)))) (t2 (.pb 5 0 0) (t0 Z (t0 Z (t0 (t0 (t0 Z (t0 (t0 Z (t0 Z (t0 Z (t0 Z (t1 (fL 26 lt5 p 3)))))) Z)) Z) Z))) (t0 Z (t0 Z (t1 (nI p 4)))))) (t2 (.pb 8 0 0) (t0 Z (t0 (t0 Z (t0 (t0 (t0 Z (t0 (t0 Z (t0 Z (t0 Z (t0 Z (t1 (nI p 5)))))) Z)) Z) Z)) (t0 Z (t1 (.vw 15061000000 0 []))))) (t0 (t0 (t0 (t0 (t0 (t0 Z (t0 (t0 Z (t0 Z (t0 Z (t0 Z (t1 (.fn 62 [.pb 7 0 0, .pb 8 0 0, .pb 3 0 0, .pb 4 0 0, .pb 5 0 0])))))) Z)) Z) Z) (t0 (t0 (t0 Z (t0 (t0 Z (t0 Z (t0 Z (t0 Z (t1 (fL 40 lt4 p 6)))))) Z)) Z) Z)) (t0 Z (t0 (t0 (t0 Z (t0 (t0 Z (t0 Z (t0 Z (t0 Z (t1 (nI p 7)))))) Z)) Z) Z))) (t0 (t0 Z (t0 Z (t0 (t0 Z (t0 (t0 Z (t0 Z (t0 (t0 Z (t1 (.pb 6 0 0))) Z))) Z)) Z))) (t0 Z (t1 (nI p 8))))))), [(3, ⟨0, [.pz [] lt2 (gD p 9) 0], none⟩), (4, ⟨0, [nI p 10], none⟩), (5, ⟨0, [fL 78 lt8 p 11], none⟩), (6, ⟨0, [.nils, .nils, .nils, .nils, nB p 12], none⟩), (7, ⟨0, [.vw 300448 0 [], .vw 300449 0 [], .vw 300450 0 [], .vw 300451 0 [], nB p 13], none⟩), (8, ⟨0, [.pz [] lt9 (gD p 14) 0], none⟩)], [aR 300448 3 [.int .i64] (gL p 15), aR 300449 3 [.int .i64] (gL p 16), aR 300450 3 [.int .i64] (gL p 17), aR 300451 3 [.int .i64] (gL p 18), aR 15061000000 3 [.int .i64] (gL p 19)], 1⟩)]),
 (12000, [fun p => (.exit 0, ⟨(t0 (t2 (.pb 7 0 1) (t0 (t0 Z (t0 (t0 (t0 Z (t0 Z (t0 Z (t0 (t0 Z (t0 Z (t0 Z (t0 (t1 (fL 3 [.int .i64] p 0)) Z)))) Z)))) Z) (t0 Z (t0 (t0 Z (t0 (t0 Z (t0 Z (t0 (t0 Z (t1 (.pb 7 0 0))) Z))) Z)) Z)))) (t0 (t0 Z (t0 (t0 (t0 Z (t0 (t0 Z (t0 Z (t0 Z (t0 Z (t1 (nI p 1)))))) Z)) Z) Z)) (t0 Z (t0 (t0 (t0 Z (t0 (t0 Z (t0 Z (t0 Z (t0 Z (t1 (nI p 2)))))) Z)) Z) Z)))) (t0 (t0 (t0 (t0 (t0 Z (t0 Z (t0 Z (t0 (t0 Z (t0 Z (t0 Z (t0 (t1 (.pb 7 0 0)) Z)))) Z)))) Z) (t0 Z (t0 (t0 (t0 (t0 Z (t0 Z (t0 Z (t0 Z (t0 (t1 (nI p 3)) Z))))) Z) Z) Z))) (t0 Z (t0 (t0 (t0 Z (t0 (t0 Z (t0 Z (t0 Z (t0 Z (t1 (fL 26 lt5 p 4)))))) Z)) Z) Z))) (t0 (t0 (t0 (t0 Z (t0 Z (t0 Z (t0 (t0 Z (t0 Z (t0 Z (t0 (t1 (.pb 5 0 0)) Z)))) Z)))) Z) Z) (t0 Z (t0 Z (t0 Z (t0 Z (t0 Z (t0 (t0 Z (t0 Z (t0 Z (t0 (t1 (nI p 5)) Z)))) Z))))))))) (t2 (.pb 7 0 3) (t0 (t0 (t0 Z (t0 Z (t0 (t0 (t0 (t0 Z (t0 Z (t0 Z (t0 Z (t0 (t1 (fL 3 [.int .i64] p 6)) Z))))) Z) Z) Z))) Z) (t0 (t0 Z (t0 (t0 (t0 Z (t0 (t0 Z (t0 Z (t0 Z (t0 Z (t1 (nI p 7)))))) Z)) Z) Z)) (t0 Z (t0 Z (t0 Z (t0 Z (t0 Z (t0 (t0 Z (t0 Z (t0 Z (t0 (t1 (.vw 15061000000 0 [])) Z)))) Z)))))))) (t0 (t0 (t0 (t0 (t0 (t0 Z (t0 (t0 Z (t0 Z (t0 Z (t0 Z (t1 (.fn 62 [.pb 7 0 0, .pb 8 0 0, .pb 3 0 0, .pb 4 0 0, .pb 5 0 0])))))) Z)) (t0 Z (t0 Z (t0 (t0 Z (t0 Z (t0 Z (t0 (t1 (.pb 8 0 0)) Z)))) Z)))) Z) (t0 (t0 (t0 Z (t0 (t0 Z (t0 Z (t0 Z (t0 Z (t1 (fL 40 lt4 p 8)))))) Z)) Z) (t0 (t0 (t0 (t0 Z (t0 Z (t0 Z (t0 Z (t0 (t1 (nI p 9)) Z))))) Z) Z) Z))) (t0 Z (t0 (t0 (t0 Z (t0 (t0 Z (t0 Z (t0 Z (t0 Z (t1 (nI p 10)))))) Z)) Z) Z))) (t0 (t0 Z (t0 Z (t0 (t0 Z (t0 (t0 Z (t0 Z (t0 (t0 Z (t1 (.pb 6 0 0))) Z))) Z)) Z))) (t0 Z (t0 Z (t0 Z (t0 Z (t0 Z (t0 (t0 Z (t0 Z (t0 Z (t0 (t1 (nI p 11)) Z)))) Z)))))))))), [(3, ⟨0, [.pz [] lt2 (gD p 12) 0], none⟩), (4, ⟨0, [nI p 13], none⟩), (5, ⟨0, [fL 78 lt8 p 14], none⟩), (6, ⟨0, [.nils, .nils, .nils, .nils, nB p 15], none⟩), (7, ⟨0, [.vw 300448 0 [], .vw 300449 0 [], .vw 300450 0 [], .vw 300451 0 [], nB p 16], none⟩), (8, ⟨0, [.pz [] lt9 (gD p 17) 0], none⟩)], [aR 300448 3 [.int .i64] (gL p 18), aR 300449 3 [.int .i64] (gL p 19), aR 300450 3 [.int .i64] (gL p 20), aR 300451 3 [.int .i64] (gL p 21), aR 15061000000 3 [.int .i64] (gL p 22)], 1⟩)]),
 (9000, [fun p => (.exit 0, ⟨(t0 (t2 (.pb 7 0 0) (t0 (t0 Z (t0 Z (t0 Z (t0 (t0 Z (t0 (t0 Z (t0 Z (t0 (t0 Z (t1 (.pb 7 0 0))) Z))) Z)) Z)))) (t0 (t0 Z (t0 (t0 (t0 Z (t0 (t0 Z (t0 Z (t0 Z (t0 Z (t1 (nI p 0)))))) Z)) (t0 (t0 (t0 Z (t0 Z (t0 (t0 (t0 (t1 (.pb 3 0 0)) Z) Z) Z))) Z) Z)) Z)) (t0 Z (t0 (t0 (t0 Z (t0 (t0 Z (t0 Z (t0 Z (t0 Z (t1 (nI p 1)))))) Z)) Z) Z)))) (t0 (t0 (t0 Z (t0 (t0 Z (t0 (t0 (t0 Z (t0 Z (t0 (t0 (t0 (t1 (.pb 7 0 0)) Z) Z) Z))) Z) Z)) Z)) (t0 Z (t0 (t0 (t0 Z (t0 (t0 Z (t0 Z (t0 Z (t0 Z (t1 (fL 26 lt5 p 2)))))) Z)) Z) Z))) (t0 (t0 Z (t0 (t0 Z (t0 (t0 (t0 Z (t0 Z (t0 (t0 (t0 (t1 (.pb 5 0 0)) Z) Z) Z))) Z) Z)) Z)) Z))) (t2 (.pb 7 0 2) (t0 Z (t0 (t0 Z (t0 (t0 (t0 Z (t0 (t0 Z (t0 Z (t0 Z (t0 Z (t1 (nI p 3)))))) Z)) (t0 (t0 (t0 Z (t0 Z (t0 (t0 (t0 (t1 (.pb 4 0 0)) Z) Z) Z))) Z) Z)) Z)) Z)) (t0 (t0 (t0 (t0 (t0 (t0 Z (t0 (t0 Z (t0 Z (t0 Z (t0 Z (t1 (.fn 62 [.pb 7 0 0, .pb 8 0 0, .pb 3 0 0, .pb 4 0 0, .pb 5 0 0])))))) Z)) Z) Z) (t0 (t0 (t0 Z (t0 (t0 Z (t0 Z (t0 Z (t0 Z (t1 (fL 40 lt4 p 4)))))) Z)) (t0 (t0 (t0 Z (t0 Z (t0 (t0 (t0 (t1 (.pb 8 0 0)) Z) Z) Z))) Z) Z)) Z)) (t0 Z (t0 (t0 (t0 Z (t0 (t0 Z (t0 Z (t0 Z (t0 Z (t1 (nI p 5)))))) Z)) Z) Z))) (t0 (t0 Z (t0 (t0 Z (t0 (t0 (t0 Z (t0 Z (t0 (t0 (t0 (t1 (.pb 15006 0 0)) Z) Z) Z))) Z) Z)) (t0 (t0 Z (t0 (t0 Z (t0 Z (t0 (t0 Z (t1 (.pb 6 0 0))) Z))) Z)) Z))) Z)))), [(3, ⟨0, [.pz [] lt2 (gD p 6) 0], none⟩), (4, ⟨0, [nI p 7], none⟩), (5, ⟨0, [fL 78 lt8 p 8], none⟩), (6, ⟨0, [.nils, .nils, .nils, .nils, nB p 9], none⟩), (7, ⟨0, [.vw 300448 0 [], .vw 300449 0 [], .vw 300450 0 [], .vw 300451 0 [], nB p 10], none⟩), (8, ⟨0, [.pz [] lt9 (gD p 11) 0], none⟩), (15006, ⟨0, [nI p 12, nI p 13, nI p 14, nI p 15, nI p 16, fL 3 [.int .i64] p 17, fL 3 [.int .i64] p 18], none⟩)], [aR 300448 3 [.int .i64] (gL p 19), aR 300449 3 [.int .i64] (gL p 20), aR 300450 3 [.int .i64] (gL p 21), aR 300451 3 [.int .i64] (gL p 22)], 1⟩)]),
 (10000, [fun p => (.exit 0, ⟨(t0 (t2 (.pb 7 0 1) (t0 (t0 Z (t0 Z (t0 Z (t0 (t0 Z (t0 (t0 Z (t0 Z (t0 (t0 Z (t1 (.pb 7 0 0))) Z))) Z)) Z)))) (t0 (t0 (t0 Z (t0 (t0 (t0 (t0 Z (t0 Z (t0 Z (t0 (t0 (t1 (.pb 3 0 0)) Z) Z)))) Z) Z) Z)) (t0 (t0 (t0 Z (t0 (t0 Z (t0 Z (t0 Z (t0 Z (t1 (nI p 0)))))) Z)) Z) Z)) (t0 Z (t0 (t0 (t0 Z (t0 (t0 Z (t0 Z (t0 Z (t0 Z (t1 (nI p 1)))))) Z)) Z) Z)))) (t0 (t0 (t0 (t0 Z (t0 (t0 (t0 (t0 Z (t0 Z (t0 Z (t0 (t0 (t1 (.pb 7 0 0)) Z) Z)))) Z) Z) Z)) Z) (t0 Z (t0 (t0 (t0 Z (t0 (t0 Z (t0 Z (t0 Z (t0 Z (t1 (fL 26 lt5 p 2)))))) Z)) Z) Z))) (t0 (t0 (t0 Z (t0 (t0 (t0 (t0 Z (t0 Z (t0 Z (t0 (t0 (t1 (.pb 5 0 0)) Z) Z)))) Z) Z) Z)) Z) Z))) (t2 (.pb 7 0 3) (t0 Z (t0 (t0 (t0 Z (t0 (t0 (t0 (t0 Z (t0 Z (t0 Z (t0 (t0 (t1 (.pb 4 0 0)) Z) Z)))) Z) Z) Z)) (t0 (t0 (t0 Z (t0 (t0 Z (t0 Z (t0 Z (t0 Z (t1 (nI p 3)))))) Z)) Z) Z)) Z)) (t0 (t0 (t0 (t0 (t0 (t0 Z (t0 (t0 Z (t0 Z (t0 Z (t0 Z (t1 (.fn 62 [.pb 7 0 0, .pb 8 0 0, .pb 3 0 0, .pb 4 0 0, .pb 5 0 0])))))) Z)) Z) (t0 (t0 (t0 (t0 Z (t0 Z (t0 Z (t0 (t0 (t1 (.pb 8 0 0)) Z) Z)))) Z) Z) Z)) (t0 (t0 (t0 Z (t0 (t0 Z (t0 Z (t0 Z (t0 Z (t1 (fL 40 lt4 p 4)))))) Z)) Z) Z)) (t0 Z (t0 (t0 (t0 Z (t0 (t0 Z (t0 Z (t0 Z (t0 Z (t1 (nI p 5)))))) Z)) Z) Z))) (t0 (t0 (t0 Z (t0 (t0 (t0 (t0 Z (t0 Z (t0 Z (t0 (t0 (t1 (.pb 15006 0 0)) Z) Z)))) Z) Z) Z)) (t0 Z (t0 (t0 Z (t0 (t0 Z (t0 Z (t0 (t0 Z (t1 (.pb 6 0 0))) Z))) Z)) Z))) Z)))), [(3, ⟨0, [.pz [] lt2 (gD p 6) 0], none⟩), (4, ⟨0, [nI p 7], none⟩), (5, ⟨0, [fL 78 lt8 p 8], none⟩), (6, ⟨0, [.nils, .nils, .nils, .nils, nB p 9], none⟩), (7, ⟨0, [.vw 300448 0 [], .vw 300449 0 [], .vw 300450 0 [], .vw 300451 0 [], nB p 10], none⟩), (8, ⟨0, [.pz [] lt9 (gD p 11) 0], none⟩), (15006, ⟨0, [nI p 12, nI p 13, nI p 14, nI p 15, nI p 16, fL 3 [.int .i64] p 17, fL 3 [.int .i64] p 18], none⟩)], [aR 300448 3 [.int .i64] (gL p 19), aR 300449 3 [.int .i64] (gL p 20), aR 300450 3 [.int .i64] (gL p 21), aR 300451 3 [.int .i64] (gL p 22)], 1⟩)])]
def F_facts_Facts_effect : Fn := { np := 3, bs := [], main := M_facts_Facts_effect, lps := [(7000, L_facts_Facts_effect_7000), (7002, L_facts_Facts_effect_7002), (8001, L_facts_Facts_effect_8001), (8003, L_facts_Facts_effect_8003), (11000, L_facts_Facts_effect_11000), (8005, L_facts_Facts_effect_8005), (12000, L_facts_Facts_effect_12000), (9000, L_facts_Facts_effect_9000), (10000, L_facts_Facts_effect_10000)] }
def M_wf_scalar (x : List D) : Sh :=
 .ret (.b ((eqI (D.toI (gD x 0)) 1) || (eqI (D.toI (gD x 0)) 2))) []
def S_wf_scalar : STab := []
def T_wf_scalar : TTab := []
def F_wf_scalar : Fn := { np := 1, bs := [], main := M_wf_scalar, lps := [] }
def M_wf_Ends (x : List D) : Sh :=
 .ret (.b ((((eqI (D.toI (gD x 0)) 27) || (eqI (D.toI (gD x 0)) 28)) || (eqI (D.toI (gD x 0)) 29)) || (eqI (D.toI (gD x 0)) 30))) []
def S_wf_Ends : STab := []
def T_wf_Ends : TTab := []
def F_wf_Ends : Fn := { np := 1, bs := [], main := M_wf_Ends, lps := [] }
def M_flow_Prev (x : List D) : Sh :=
 .ask ((leI 0 (iX (gD x 0) 4)) && ((eqI (iX (gD x 0) 4) (iX (gD x 0) 4)) && (lim (Int.toNat (iX (gD x 0) 4)) 24)))
 (.loop 0 [.i (iX (gD x 0) 4), .i 0, .s (D.toS (D.fld (gD x 0) 0)), .b (vB (gD x 0) 1), .l (eX (gD x 0) 2), .i (vI (gD x 0) 3), .l (eX (gD x 0) 4), .l (List.replicate (nX (gD x 0) 4) (D.l []))] (.cons (fun p0 =>
 .ret (aL p0 0) [])
 .nil))
 (.bad)
def L_flow_Prev_0 (p : List D) : Sh :=
 .ask (ltI (gI p 1) (gI p 0))
 (.call flow_Next [.l [aS p 2, aB p 3, aL p 4, aI p 5, aL p 6], aI p 1] 0 fun r0 _ =>
 .loop 2 [aI p 0, .i 0, aI p 1, .i (iE r0), aI p 1, aS p 2, aB p 3, aL p 4, aI p 5, aL p 6, aL p 7, .l (D.els r0)] (.cons (fun p1 =>
 .again [aI p1 0, .i (addA .i64 (gI p1 1) 1), aS p1 2, aB p1 3, aL p1 4, aI p1 5, aL p1 6, aL p1 7])
 .nil))
 (.out (0, [aL p 7]))
def L_flow_Prev_2 (p : List D) : Sh :=
 .ask (ltI (gI p 1) (gI p 3))
 (.ask (within (gI p 1) (List.length (gL p 11)))
 (.ask (within (D.toI (gD (gL p 11) (tI p 1))) (List.length (gL p 10)))
 (.ask (lim ((nE (gD (gL p 10) (Int.toNat (D.toI (gD (gL p 11) (tI p 1)))))) + 1) 8)
 (.ask (within (D.toI (gD (gL p 11) (tI p 1))) (List.length (gL p 10)))
 (.ask ((Nat.beq (Int.toNat (D.toI (gD (gL p 11) (tI p 1)))) (Int.toNat (D.toI (gD (gL p 11) (tI p 1))))) && true)
 (.again [aI p 0, .i (addA .i64 (gI p 1) 1), aI p 2, aI p 3, aI p 4, aS p 5, aB p 6, aL p 7, aI p 8, aL p 9, .l (List.set (gL p 10) (Int.toNat (D.toI (gD (gL p 11) (tI p 1)))) (D.l ((D.els (gD (gL p 10) (Int.toNat (D.toI (gD (gL p 11) (tI p 1)))))) ++ [aI p 2]))), aL p 11])
 (.bad))
 (.bad))
 (.bad))
 (.bad))
 (.bad))
 (.out (0, [aI p 0, aI p 4, aS p 5, aB p 6, aL p 7, aI p 8, aL p 9, aL p 10]))
def S_flow_Prev : STab := [(0, fun p => ⟨(t0 (t2 (.pb 1 0 0) (t1 (.vw 10 0 [])) (t0 Z (t1 (nI p 0)))) (t0 Z (t0 Z (t1 (nI p 1))))), [(1, ⟨0, [.str (gS p 2), nB p 3, fL 3 [.int .i64] p 4, nI p 5, fL 40 lt4 p 6], none⟩)], [(10, ⟨24, [.sl true 3 [.int .i64]], (gL p 7), [], 0, [0, 0, 0, 0], 0⟩)], 1⟩),
 (2, fun p => ⟨(t0 (t2 (.pb 1 0 0) (t2 (.vw 10 0 []) Z (t0 (t1 (.vw 20000000 0 [])) Z)) (t0 Z (t2 (nI p 0) (t1 (nI p 1)) Z))) (t0 (t2 (nI p 2) Z (t0 (t1 (nI p 3)) Z)) (t0 Z (t1 (nI p 4))))), [(1, ⟨0, [.str (gS p 5), nB p 6, fL 3 [.int .i64] p 7, nI p 8, fL 40 lt4 p 9], none⟩)], [(10, ⟨24, [.sl true 3 [.int .i64]], (gL p 10), [], 0, [0, 0, 0, 0], 0⟩), aR 20000000 3 [.int .i64] (gL p 11)], 1⟩)]
def T_flow_Prev : TTab := [(0, [fun p => (.exit 0, ⟨(t0 (t0 (t1 (.vw 10 0 [])) Z) (t0 Z Z)), [], [(10, ⟨24, [.sl true 3 [.int .i64]], (gL p 0), [], 0, [0, 0, 0, 0], 0⟩)], 1⟩)]),
 (2, [fun p => (.exit 2, ⟨(t0 (t2 (.pb 1 0 0) (t1 (.vw 10 0 [])) (t0 Z (t1 (nI p 0)))) (t0 Z (t0 Z (t1 (nI p 1))))), [(1, ⟨0, [.str (gS p 2), nB p 3, fL 3 [.int .i64] p 4, nI p 5, fL 40 lt4 p 6], none⟩)], [(10, ⟨24, [.sl true 3 [.int .i64]], (gL p 7), [], 0, [0, 0, 0, 0], 0⟩)], 1⟩)])]
def F_flow_Prev : Fn := { np := 1, bs := [0, 2], main := M_flow_Prev, lps := [(0, L_flow_Prev_0), (2, L_flow_Prev_2)] }
def J_wf_fitting_2 (x : List D) : Sh :=
 .ask (eqI (vI (gD x 3) 0) 16)
 (.ask ((eqI (vI (gD x 3) 1) 2) && true)
 (.call wf_all [.l (D.els (gD x 2)), .l (eX (gD x 3) 5), .i 2] 0 fun r0 _ =>
 .ret (.b ((eqI (vI (gD x 3) 1) 2) && (D.toB r0))) [])
 (.ret (.b ((eqI (vI (gD x 3) 1) 2) && (D.toB (.i 0)))) []))
 (.ask (eqI (vI (gD x 3) 0) 17)
 (.call wf_rows [.l (D.els (gD x 2)), .l (eX (gD x 3) 5), .l [.i 2, .i (vI (gD x 3) 1), .i (vI (gD x 3) 1)]] 0 fun r0 _ =>
 .ret (.b (D.toB r0)) [])
 (.ask (eqI (vI (gD x 3) 0) 19)
 (.ask ((eqI (vI (gD x 3) 1) 3) && true)
 (.call wf_rows [.l (D.els (gD x 2)), .l (eX (gD x 3) 5), .l [.i 3, .i 1]] 0 fun r0 _ =>
 .ret (.b ((eqI (vI (gD x 3) 1) 3) && (D.toB r0))) [])
 (.ret (.b ((eqI (vI (gD x 3) 1) 3) && (D.toB (.i 0)))) []))
 (.ask (eqI (vI (gD x 3) 0) 20)
 (.ask ((eqI (vI (gD x 3) 1) 1) && true)
 (.call wf_rows [.l (D.els (gD x 2)), .l (eX (gD x 3) 5), .l [.i 3]] 0 fun r0 _ =>
 .ret (.b ((eqI (vI (gD x 3) 1) 1) && (D.toB r0))) [])
 (.ret (.b ((eqI (vI (gD x 3) 1) 1) && (D.toB (.i 0)))) []))
 (.ask (eqI (vI (gD x 3) 0) 21)
 (.call wf_rows [.l (D.els (gD x 2)), .l (eX (gD x 3) 5), .l [.i 3, .i 1]] 0 fun r0 _ =>
 .ret (.b (D.toB r0)) [])
 (.ask (eqI (vI (gD x 3) 0) 24)
 (.ask ((eqI (vI (gD x 3) 1) 4) && true)
 (.call wf_rows [.l (D.els (gD x 2)), .l (eX (gD x 3) 5), .l [.i 1]] 0 fun r0 _ =>
 .ret (.b ((eqI (vI (gD x 3) 1) 4) && (D.toB r0))) [])
 (.ret (.b ((eqI (vI (gD x 3) 1) 4) && (D.toB (.i 0)))) []))
 (.ask (eqI (vI (gD x 3) 0) 25)
 (.ask (within 0 (nX (gD x 3) 5))
 (.ask (within (D.toI (gD (eX (gD x 3) 5) 0)) (nE (gD x 2)))
 (.ret (.b ((eqI (D.toI (gE (gD x 2) (Int.toNat (D.toI (gD (eX (gD x 3) 5) 0))))) 4) && (!(eqI (vI (gD x 3) 1) 3)))) [])
 (.bad))
 (.bad))
 (.ask (eqI (vI (gD x 3) 0) 22)
 (.ask (within (vI (gD x 3) 3) (nX (gD x 0) 3))
 (.ask ((eqI (vI (gD x 3) 1) (vI (gD (eX (gD x 0) 3) (Int.toNat (vI (gD x 3) 3))) 3)) && true)
 (.call wf_rows [.l (D.els (gD x 2)), .l (eX (gD x 3) 5), .l (eX (gD (eX (gD x 0) 3) (Int.toNat (vI (gD x 3) 3))) 2)] 0 fun r0 _ =>
 .ret (.b ((eqI (vI (gD x 3) 1) (vI (gD (eX (gD x 0) 3) (Int.toNat (vI (gD x 3) 3))) 3)) && (D.toB r0))) [])
 (.ret (.b ((eqI (vI (gD x 3) 1) (vI (gD (eX (gD x 0) 3) (Int.toNat (vI (gD x 3) 3))) 3)) && (D.toB (.i 0)))) []))
 (.bad))
 (.ask (eqI (vI (gD x 3) 0) 23)
 (.ask (within (vI (gD x 3) 3) (nX (gD x 0) 0))
 (.ask ((eqI (vI (gD x 3) 1) (vI (gD (eX (gD x 0) 0) (Int.toNat (vI (gD x 3) 3))) 2)) && true)
 (.call wf_rows [.l (D.els (gD x 2)), .l (eX (gD x 3) 5), .l (eX (gD (eX (gD x 0) 0) (Int.toNat (vI (gD x 3) 3))) 1)] 0 fun r0 _ =>
 .ret (.b ((eqI (vI (gD x 3) 1) (vI (gD (eX (gD x 0) 0) (Int.toNat (vI (gD x 3) 3))) 2)) && (D.toB r0))) [])
 (.ret (.b ((eqI (vI (gD x 3) 1) (vI (gD (eX (gD x 0) 0) (Int.toNat (vI (gD x 3) 3))) 2)) && (D.toB (.i 0)))) []))
 (.bad))
 (.ask (eqI (vI (gD x 3) 0) 26)
 (.call wf_all [.l (D.els (gD x 2)), .l (eX (gD x 3) 5), .i (vI (gD x 3) 1)] 0 fun r0 _ =>
 .ret (.b (D.toB r0)) [])
 (.ask (eqI (vI (gD x 3) 0) 28)
 (.call wf_rows [.l (D.els (gD x 2)), .l (eX (gD x 3) 5), .l [.i 2]] 0 fun r0 _ =>
 .ret (.b (D.toB r0)) [])
 (.ask (eqI (vI (gD x 3) 0) 29)
 (.ask (eqI (vI (gD x 1) 3) 0)
 (.ret (.b (eqI (iX (gD x 3) 5) 0)) [])
 (.call wf_rows [.l (D.els (gD x 2)), .l (eX (gD x 3) 5), .l [.i (vI (gD x 1) 3)]] 0 fun r0 _ =>
 .ret (.b (D.toB r0)) []))
 (.ret (.b true) []))))))))))))
def J_wf_fitting_3 (x : List D) : Sh :=
 .ask ((eqI (vI (gD x 3) 1) 2) && true)
 (.call wf_all [.l (D.els (gD x 2)), .l (eX (gD x 3) 5), .i 1] 0 fun r0 _ =>
 .ret (.b ((eqI (vI (gD x 3) 1) 2) && (D.toB r0))) [])
 (.ret (.b ((eqI (vI (gD x 3) 1) 2) && (D.toB (.i 0)))) [])
def J_wf_fitting_1 (x : List D) : Sh :=
 .ask (eqI (vI (gD x 3) 0) 14)
 (.ask (eqI (vI (gD x 3) 0) 14)
 (J_wf_fitting_3 x)
 (J_wf_fitting_2 x))
 (.ask (eqI (vI (gD x 3) 0) 15)
 (J_wf_fitting_3 x)
 (J_wf_fitting_2 x))
def J_wf_fitting_4 (x : List D) : Sh :=
 .ask ((eqI (vI (gD x 3) 1) 1) && true)
 (.call wf_all [.l (D.els (gD x 2)), .l (eX (gD x 3) 5), .i 1] 0 fun r0 _ =>
 .ret (.b ((eqI (vI (gD x 3) 1) 1) && (D.toB r0))) [])
 (.ret (.b ((eqI (vI (gD x 3) 1) 1) && (D.toB (.i 0)))) [])
def J_wf_fitting_0 (x : List D) : Sh :=
 .ask (eqI (vI (gD x 3) 0) 4)
 (.ask (eqI (vI (gD x 3) 0) 4)
 (J_wf_fitting_4 x)
 (J_wf_fitting_1 x))
 (.ask (eqI (vI (gD x 3) 0) 5)
 (.ask (eqI (vI (gD x 3) 0) 5)
 (J_wf_fitting_4 x)
 (J_wf_fitting_1 x))
 (.ask (eqI (vI (gD x 3) 0) 6)
 (.ask (eqI (vI (gD x 3) 0) 6)
 (J_wf_fitting_4 x)
 (J_wf_fitting_1 x))
 (.ask (eqI (vI (gD x 3) 0) 7)
 (.ask (eqI (vI (gD x 3) 0) 7)
 (J_wf_fitting_4 x)
 (J_wf_fitting_1 x))
 (.ask (eqI (vI (gD x 3) 0) 8)
 (.ask (eqI (vI (gD x 3) 0) 8)
 (J_wf_fitting_4 x)
 (J_wf_fitting_1 x))
 (.ask (eqI (vI (gD x 3) 0) 9)
 (.ask (eqI (vI (gD x 3) 0) 9)
 (J_wf_fitting_4 x)
 (J_wf_fitting_1 x))
 (.ask (eqI (vI (gD x 3) 0) 10)
 (.ask (eqI (vI (gD x 3) 0) 10)
 (J_wf_fitting_4 x)
 (J_wf_fitting_1 x))
 (.ask (eqI (vI (gD x 3) 0) 11)
 (.ask (eqI (vI (gD x 3) 0) 11)
 (J_wf_fitting_4 x)
 (J_wf_fitting_1 x))
 (.ask (eqI (vI (gD x 3) 0) 12)
 (.ask (eqI (vI (gD x 3) 0) 12)
 (J_wf_fitting_4 x)
 (J_wf_fitting_1 x))
 (.ask (eqI (vI (gD x 3) 0) 13)
 (J_wf_fitting_4 x)
 (J_wf_fitting_1 x))))))))))
def M_wf_fitting (x : List D) : Sh :=
 .ask (eqI (vI (gD x 3) 0) 1)
 (.ret (.b ((eqI (vI (gD x 3) 1) 1) || ((eqI (vI (gD x 3) 1) 2) && ((eqI (vI (gD x 3) 4) 0) || (eqI (vI (gD x 3) 4) 1))))) [])
 (.ask (eqI (vI (gD x 3) 0) 2)
 (.ret (.b (eqI (vI (gD x 3) 1) 4)) [])
 (.ask (eqI (vI (gD x 3) 0) 3)
 (.ask (eqI (vI (gD x 3) 0) 3)
 (.ret (.b (eqI (vI (gD x 3) 1) 3)) [])
 (J_wf_fitting_0 x))
 (.ask (eqI (vI (gD x 3) 0) 18)
 (.ret (.b (eqI (vI (gD x 3) 1) 3)) [])
 (J_wf_fitting_0 x))))
def S_wf_fitting : STab := []
def T_wf_fitting : TTab := []
def F_wf_fitting : Fn := { np := 4, bs := [], main := M_wf_fitting, lps := [] }
def M_edit_Def (x : List D) : Sh :=
 .loop 0 [.i (D.toI (gD x 1)), .l (eX (gD x 0) 4), .i 0, .i (iX (gD x 0) 4)] (.cons (fun p0 =>
 .ret (.l [aI p0 1, aI p0 0]) [])
 (.cons (fun p0 =>
 .ret (.l [.i (-1), .i (-1)]) [])
 .nil))
def L_edit_Def_0 (p : List D) : Sh :=
 .ask (ltI (gI p 2) (gI p 3))
 (.ask (within (gI p 2) (List.length (gL p 1)))
 (.loop 2 [aI p 0, aL p 1, .l (D.els (gD (gL p 1) (tI p 2))), aI p 2, .i 0, aI p 3, .i (iE (gD (gL p 1) (tI p 2))), aI p 2] (.cons (fun p0 =>
 .out (0, [aI p0 2, aI p0 4]))
 (.cons (fun p0 =>
 .again [aI p0 0, aL p0 1, .i (addA .i64 (gI p0 2) 1), aI p0 3])
 .nil)))
 (.bad))
 (.out (1, []))
def L_edit_Def_2 (p : List D) : Sh :=
 .ask (ltI (gI p 4) (gI p 6))
 (.ask (within (gI p 4) (List.length (gL p 2)))
 (.ask ((!(eqI (vI (gD (gL p 2) (tI p 4)) 1) 0)) && (eqI (vI (gD (gL p 2) (tI p 4)) 2) (gI p 0)))
 (.out (0, [aI p 0, aL p 1, aI p 4, aI p 3, aI p 7, aI p 5]))
 (.again [aI p 0, aL p 1, aL p 2, aI p 3, .i (addA .i64 (gI p 4) 1), aI p 5, aI p 6, aI p 7]))
 (.bad))
 (.out (1, [aI p 0, aL p 1, aI p 3, aI p 5]))
def S_edit_Def : STab := [(0, fun p => ⟨(t0 (t2 (nI p 0) (t0 Z (t1 (fL 40 lt4 p 1))) (t0 Z (t1 (nI p 2)))) (t0 (t0 Z (t1 (nI p 3))) Z)), [], [], 1⟩),
 (2, fun p => ⟨(t0 (t2 (nI p 0) (t0 Z (t2 (fL 40 lt4 p 1) (t1 (fL 26 lt5 p 2)) Z)) (t0 Z (t2 (nI p 3) (t1 (nI p 4)) Z))) (t0 (t0 Z (t2 (nI p 5) (t1 (nI p 6)) Z)) (t1 (nI p 7)))), [], [], 1⟩)]
def T_edit_Def : TTab := [(0, [fun p => (.ret, ⟨(t0 (t0 Z (t1 (nI p 0))) (t0 (t1 (nI p 1)) Z)), [], [], 1⟩),
  fun p => (.exit 0, ⟨(t0 (t0 Z (t0 Z Z)) (t0 (t0 Z Z) Z)), [], [], 1⟩)]),
 (2, [fun p => (.ret, ⟨(t0 (t2 (nI p 0) (t0 Z (t1 (fL 40 lt4 p 1))) (t2 (nI p 2) Z (t1 (nI p 3)))) (t0 (t2 (nI p 4) Z (t1 (nI p 5))) Z)), [], [], 1⟩),
  fun p => (.exit 2, ⟨(t0 (t2 (nI p 0) (t0 Z (t1 (fL 40 lt4 p 1))) (t0 Z (t1 (nI p 2)))) (t0 (t0 Z (t1 (nI p 3))) Z)), [], [], 1⟩)])]
def F_edit_Def : Fn := { np := 2, bs := [0, 2], main := M_edit_Def, lps := [(0, L_edit_Def_0), (2, L_edit_Def_2)] }
def J_wf_Mark_5 (x : List D) : Sh :=
 .ask (eqI (D.toI (gD x 0)) 26)
 (.ret (.l [.i (-1), .i (-1), .b false, .b false]) [])
 (.ask (eqI (D.toI (gD x 0)) 27)
 (.ret (.l [.i 0, .i 1, .b false, .b false]) [])
 (.ask (eqI (D.toI (gD x 0)) 28)
 (.ret (.l [.i 1, .i 2, .b false, .b false]) [])
 (.ret (.l [.i 0, .i 0, .b false, .b false]) [])))
def J_wf_Mark_4 (x : List D) : Sh :=
 .ask (eqI (D.toI (gD x 0)) 24)
 (.ret (.l [.i 1, .i 0, .b true, .b false]) [])
 (.ask (eqI (D.toI (gD x 0)) 25)
 (.ask (eqI (D.toI (gD x 0)) 25)
 (.ret (.l [.i (-1), .i 0, .b false, .b false]) [])
 (J_wf_Mark_5 x))
 (.ask (eqI (D.toI (gD x 0)) 29)
 (.ret (.l [.i (-1), .i 0, .b false, .b false]) [])
 (J_wf_Mark_5 x)))
def J_wf_Mark_3 (x : List D) : Sh :=
 .ask (eqI (D.toI (gD x 0)) 17)
 (.ret (.l [.i 3, .i 0, .b false, .b false]) [])
 (.ask (eqI (D.toI (gD x 0)) 22)
 (.ask (eqI (D.toI (gD x 0)) 22)
 (.ret (.l [.i (-1), .i 0, .b true, .b false]) [])
 (J_wf_Mark_4 x))
 (.ask (eqI (D.toI (gD x 0)) 23)
 (.ret (.l [.i (-1), .i 0, .b true, .b false]) [])
 (J_wf_Mark_4 x)))
def J_wf_Mark_2 (x : List D) : Sh :=
 .ask (eqI (D.toI (gD x 0)) 16)
 (.ask (eqI (D.toI (gD x 0)) 16)
 (.ret (.l [.i 1, .i 0, .b false, .b false]) [])
 (J_wf_Mark_3 x))
 (.ask (eqI (D.toI (gD x 0)) 20)
 (.ret (.l [.i 1, .i 0, .b false, .b false]) [])
 (J_wf_Mark_3 x))
def J_wf_Mark_1 (x : List D) : Sh :=
 .ask (eqI (D.toI (gD x 0)) 4)
 (.ask (eqI (D.toI (gD x 0)) 4)
 (.ret (.l [.i 2, .i 0, .b false, .b false]) [])
 (J_wf_Mark_2 x))
 (.ask (eqI (D.toI (gD x 0)) 5)
 (.ask (eqI (D.toI (gD x 0)) 5)
 (.ret (.l [.i 2, .i 0, .b false, .b false]) [])
 (J_wf_Mark_2 x))
 (.ask (eqI (D.toI (gD x 0)) 6)
 (.ask (eqI (D.toI (gD x 0)) 6)
 (.ret (.l [.i 2, .i 0, .b false, .b false]) [])
 (J_wf_Mark_2 x))
 (.ask (eqI (D.toI (gD x 0)) 7)
 (.ask (eqI (D.toI (gD x 0)) 7)
 (.ret (.l [.i 2, .i 0, .b false, .b false]) [])
 (J_wf_Mark_2 x))
 (.ask (eqI (D.toI (gD x 0)) 8)
 (.ask (eqI (D.toI (gD x 0)) 8)
 (.ret (.l [.i 2, .i 0, .b false, .b false]) [])
 (J_wf_Mark_2 x))
 (.ask (eqI (D.toI (gD x 0)) 9)
 (.ask (eqI (D.toI (gD x 0)) 9)
 (.ret (.l [.i 2, .i 0, .b false, .b false]) [])
 (J_wf_Mark_2 x))
 (.ask (eqI (D.toI (gD x 0)) 10)
 (.ask (eqI (D.toI (gD x 0)) 10)
 (.ret (.l [.i 2, .i 0, .b false, .b false]) [])
 (J_wf_Mark_2 x))
 (.ask (eqI (D.toI (gD x 0)) 11)
 (.ask (eqI (D.toI (gD x 0)) 11)
 (.ret (.l [.i 2, .i 0, .b false, .b false]) [])
 (J_wf_Mark_2 x))
 (.ask (eqI (D.toI (gD x 0)) 12)
 (.ask (eqI (D.toI (gD x 0)) 12)
 (.ret (.l [.i 2, .i 0, .b false, .b false]) [])
 (J_wf_Mark_2 x))
 (.ask (eqI (D.toI (gD x 0)) 13)
 (.ask (eqI (D.toI (gD x 0)) 13)
 (.ret (.l [.i 2, .i 0, .b false, .b false]) [])
 (J_wf_Mark_2 x))
 (.ask (eqI (D.toI (gD x 0)) 14)
 (.ask (eqI (D.toI (gD x 0)) 14)
 (.ret (.l [.i 2, .i 0, .b false, .b false]) [])
 (J_wf_Mark_2 x))
 (.ask (eqI (D.toI (gD x 0)) 15)
 (.ask (eqI (D.toI (gD x 0)) 15)
 (.ret (.l [.i 2, .i 0, .b false, .b false]) [])
 (J_wf_Mark_2 x))
 (.ask (eqI (D.toI (gD x 0)) 19)
 (.ask (eqI (D.toI (gD x 0)) 19)
 (.ret (.l [.i 2, .i 0, .b false, .b false]) [])
 (J_wf_Mark_2 x))
 (.ask (eqI (D.toI (gD x 0)) 21)
 (.ret (.l [.i 2, .i 0, .b false, .b false]) [])
 (J_wf_Mark_2 x))))))))))))))
def J_wf_Mark_0 (x : List D) : Sh :=
 .ask (eqI (D.toI (gD x 0)) 2)
 (.ask (eqI (D.toI (gD x 0)) 2)
 (.ret (.l [.i 0, .i 0, .b true, .b false]) [])
 (J_wf_Mark_1 x))
 (.ask (eqI (D.toI (gD x 0)) 3)
 (.ret (.l [.i 0, .i 0, .b true, .b false]) [])
 (J_wf_Mark_1 x))
def M_wf_Mark (x : List D) : Sh :=
 .ask (eqI (D.toI (gD x 0)) 1)
 (.ask (eqI (D.toI (gD x 0)) 1)
 (.ret (.l [.i 0, .i 0, .b false, .b true]) [])
 (J_wf_Mark_0 x))
 (.ask (eqI (D.toI (gD x 0)) 18)
 (.ret (.l [.i 0, .i 0, .b false, .b true]) [])
 (J_wf_Mark_0 x))
def S_wf_Mark : STab := []
def T_wf_Mark : TTab := []
def F_wf_Mark : Fn := { np := 1, bs := [], main := M_wf_Mark, lps := [] }
def M_flow_Next (x : List D) : Sh :=
 .ask ((!(!((ltI (D.toI (gD x 1)) 0) || (leI (iX (gD x 0) 4) (D.toI (gD x 1)))))) || (within (D.toI (gD x 1)) (nX (gD x 0) 4)))
 (.ask (((ltI (D.toI (gD x 1)) 0) || (leI (iX (gD x 0) 4) (D.toI (gD x 1)))) || (eqI (iE (gD (eX (gD x 0) 4) (Int.toNat (D.toI (gD x 1))))) 0))
 (.ret (.l []) [])
 (.ask (within (D.toI (gD x 1)) (nX (gD x 0) 4))
 (.ask (within (D.toI (gD x 1)) (nX (gD x 0) 4))
 (.ask (within (wrapA .i64 ((iE (gD (eX (gD x 0) 4) (Int.toNat (D.toI (gD x 1))))) - 1)) (nE (gD (eX (gD x 0) 4) (Int.toNat (D.toI (gD x 1))))))
 (.ask ((!(eqI (vI (gE (gD (eX (gD x 0) 4) (Int.toNat (D.toI (gD x 1)))) (Int.toNat (wrapA .i64 ((iE (gD (eX (gD x 0) 4) (Int.toNat (D.toI (gD x 1))))) - 1)))) 0) 27)) && (!(eqI (vI (gE (gD (eX (gD x 0) 4) (Int.toNat (D.toI (gD x 1)))) (Int.toNat (wrapA .i64 ((iE (gD (eX (gD x 0) 4) (Int.toNat (D.toI (gD x 1))))) - 1)))) 0) 28)))
 (.ret (.l []) [])
 (.loop 0 (let z0 := eX (gE (gD (eX (gD x 0) 4) (Int.toNat (D.toI (gD x 1)))) (Int.toNat (wrapA .i64 ((iE (gD (eX (gD x 0) 4) (Int.toNat (D.toI (gD x 1))))) - 1)))) 6; [.l z0, .i 0, .i (iL z0), .s (D.toS (D.fld (gD x 0) 0)), .b (vB (gD x 0) 1), .l (eX (gD x 0) 2), .i (vI (gD x 0) 3), .l (eX (gD x 0) 4), .l []]) (.cons (fun p0 =>
 .ret (aL p0 0) [])
 .nil)))
 (.bad))
 (.bad))
 (.bad)))
 (.bad)
def J_flow_Next_0 (p : List D) : Sh :=
 .ask (lim ((List.length (gL p 8)) + 1) 8)
 (.again [aL p 0, .i (addA .i64 (gI p 1) 1), aI p 2, aS p 3, aB p 4, aL p 5, aI p 6, aL p 7, .l ((gL p 8) ++ [.i (D.toI (gD (gL p 0) (tI p 1)))])])
 (.bad)
def L_flow_Next_0 (p : List D) : Sh :=
 .ask (ltI (gI p 1) (gI p 2))
 (.ask (within (gI p 1) (List.length (gL p 0)))
 (.ask (((leI 0 (D.toI (gD (gL p 0) (tI p 1)))) && (ltI (D.toI (gD (gL p 0) (tI p 1))) (iL (gL p 7)))) && true)
 (.call slices_Contains_Sint_int [aL p 8, .i (D.toI (gD (gL p 0) (tI p 1)))] 0 fun r0 _ =>
 .ask (((leI 0 (D.toI (gD (gL p 0) (tI p 1)))) && (ltI (D.toI (gD (gL p 0) (tI p 1))) (iL (gL p 7)))) && (!(D.toB r0)))
 (J_flow_Next_0 p)
 (.again [aL p 0, .i (addA .i64 (gI p 1) 1), aI p 2, aS p 3, aB p 4, aL p 5, aI p 6, aL p 7, aL p 8]))
 (.ask (((leI 0 (D.toI (gD (gL p 0) (tI p 1)))) && (ltI (D.toI (gD (gL p 0) (tI p 1))) (iL (gL p 7)))) && (!(D.toB (.i 0))))
 (J_flow_Next_0 p)
 (.again [aL p 0, .i (addA .i64 (gI p 1) 1), aI p 2, aS p 3, aB p 4, aL p 5, aI p 6, aL p 7, aL p 8])))
 (.bad))
 (.out (0, [aL p 8]))
def S_flow_Next : STab := [(0, fun p => ⟨(t0 (t0 (t0 (t0 Z (t0 Z (t1 (fL 3 [.int .i64] p 0)))) Z) (t2 (.vw 200005 0 []) (t0 Z (t0 Z (t1 (nI p 1)))) Z)) (t2 (.pb 2 0 0) (t0 (t0 Z (t0 Z (t1 (nI p 2)))) Z) Z)), [(2, ⟨0, [.str (gS p 3), nB p 4, fL 3 [.int .i64] p 5, nI p 6, fL 40 lt4 p 7], none⟩)], [aR 200005 3 [.int .i64] (gL p 8)], 1⟩)]
def T_flow_Next : TTab := [(0, [fun p => (.exit 0, ⟨(t0 (t0 Z (t1 (.vw 200005 0 []))) (t0 (t0 Z Z) Z)), [], [aR 200005 3 [.int .i64] (gL p 0)], 1⟩)])]
def F_flow_Next : Fn := { np := 2, bs := [0], main := M_flow_Next, lps := [(0, L_flow_Next_0)] }
def M_wf_rows (x : List D) : Sh :=
 .ask (!(eqI (iE (gD x 1)) (iE (gD x 2))))
 (.ret (.b false) [])
 (.loop 0 [.l (D.els (gD x 0)), .i (iE (gD x 1)), .l (D.els (gD x 2)), .i 0, .l (D.els (gD x 1))] (.cons (fun p0 =>
 .ret (aB p0 0) [])
 (.cons (fun p0 =>
 .ret (.b true) [])
 .nil)))
def L_wf_rows_0 (p : List D) : Sh :=
 .ask (ltI (gI p 3) (gI p 1))
 (.ask (within (gI p 3) (List.length (gL p 4)))
 (.ask (within (D.toI (gD (gL p 4) (tI p 3))) (List.length (gL p 0)))
 (.ask (within (gI p 3) (List.length (gL p 2)))
 (.ask (!(eqI (D.toI (gD (gL p 0) (Int.toNat (D.toI (gD (gL p 4) (tI p 3)))))) (D.toI (gD (gL p 2) (tI p 3)))))
 (.out (0, [.b false]))
 (.again [aL p 0, aI p 1, aL p 2, .i (addA .i64 (gI p 3) 1), aL p 4]))
 (.bad))
 (.bad))
 (.bad))
 (.out (1, []))
def S_wf_rows : STab := [(0, fun p => ⟨(t2 (fL 3 [.int .i64] p 0) (t0 (t0 (t0 (t1 (nI p 1)) Z) Z) Z) (t2 (fL 3 [.int .i64] p 2) (t0 (t0 (t1 (nI p 3)) Z) Z) (t0 Z (t1 (fL 3 [.int .i64] p 4))))), [], [], 1⟩)]
def T_wf_rows : TTab := [(0, [fun p => (.ret, ⟨(t0 Z (t0 Z (t1 (nB p 0)))), [], [], 1⟩),
  fun p => (.exit 0, ⟨(t0 Z (t0 Z (t0 Z Z))), [], [], 1⟩)])]
def F_wf_rows : Fn := { np := 3, bs := [0], main := M_wf_rows, lps := [(0, L_wf_rows_0)] }
def M_facts_Func_Num (x : List D) : Sh :=
 .ask (within (D.toI (gD x 1)) (nX (gD x 0) 3))
 (.ret (.l [.i (vI (gD (eX (gD x 0) 3) (Int.toNat (D.toI (gD x 1)))) 4), .b (eqI (vI (gD (eX (gD x 0) 3) (Int.toNat (D.toI (gD x 1)))) 0) 1)]) [])
 (.bad)
def S_facts_Func_Num : STab := []
def T_facts_Func_Num : TTab := []
def F_facts_Func_Num : Fn := { np := 2, bs := [], main := M_facts_Func_Num, lps := [] }
def M_flow_walker_visit (x : List D) : Sh :=
 .ask (within (D.toI (gD x 1)) (nX (gD x 0) 5))
 (.call flow_Next [.l [.s (D.toS (D.fld (gD x 0) 0)), .b (vB (gD x 0) 1), .l (eX (gD x 0) 2), .i (vI (gD x 0) 3), .l (eX (gD x 0) 4)], .i (D.toI (gD x 1))] 0 fun r0 _ =>
 .loop 0 [.i (D.toI (gD x 1)), .i 0, .i (iE r0), .s (D.toS (D.fld (gD x 0) 0)), .b (vB (gD x 0) 1), .l (eX (gD x 0) 2), .i (vI (gD x 0) 3), .l (eX (gD x 0) 4), .b (vB (gD x 0) 7), .l (List.set (eX (gD x 0) 5) (Int.toNat (D.toI (gD x 1))) (D.i 1)), .l (eX (gD x 0) 6), .l (D.els r0)] (.cons (fun p1 =>
 .ask (within (gI p1 0) (List.length (gL p1 7)))
 (.ask (lim ((List.length (gL p1 8)) + 1) 8)
 (.ret (.l []) [.l [aS p1 1, aB p1 2, aL p1 3, aI p1 4, aL p1 5, .l (List.set (gL p1 7) (tI p1 0) (D.i 2)), .l ((gL p1 8) ++ [aI p1 0]), aB p1 6]])
 (.bad))
 (.bad))
 .nil))
 (.bad)
def L_flow_walker_visit_0 (p : List D) : Sh :=
 .ask (ltI (gI p 1) (gI p 2))
 (.ask (within (gI p 1) (List.length (gL p 11)))
 (.ask (within (D.toI (gD (gL p 11) (tI p 1))) (List.length (gL p 9)))
 (.ask (eqI (D.toI (gD (gL p 9) (Int.toNat (D.toI (gD (gL p 11) (tI p 1)))))) 0)
 (.call flow_walker_visit [.l [aS p 3, aB p 4, aL p 5, aI p 6, aL p 7, aL p 9, aL p 10, aB p 8], .i (D.toI (gD (gL p 11) (tI p 1)))] 1 fun r0 q0 =>
 .again [aI p 0, .i (addA .i64 (gI p 1) 1), aI p 2, .s (D.toS (D.fld (gD q0 0) 0)), .b (vB (gD q0 0) 1), .l (eX (gD q0 0) 2), .i (vI (gD q0 0) 3), .l (eX (gD q0 0) 4), .b (vB (gD q0 0) 7), .l (eX (gD q0 0) 5), .l (eX (gD q0 0) 6), aL p 11])
 (.ask (eqI (D.toI (gD (gL p 9) (Int.toNat (D.toI (gD (gL p 11) (tI p 1)))))) 1)
 (.again [aI p 0, .i (addA .i64 (gI p 1) 1), aI p 2, aS p 3, aB p 4, aL p 5, aI p 6, aL p 7, .b true, aL p 9, aL p 10, aL p 11])
 (.again [aI p 0, .i (addA .i64 (gI p 1) 1), aI p 2, aS p 3, aB p 4, aL p 5, aI p 6, aL p 7, aB p 8, aL p 9, aL p 10, aL p 11])))
 (.bad))
 (.bad))
 (.out (0, [aI p 0, aS p 3, aB p 4, aL p 5, aI p 6, aL p 7, aB p 8, aL p 9, aL p 10]))
def S_flow_walker_visit : STab := [(0, fun p => ⟨(t2 (.pb 500 0 0) (t2 (nI p 0) (t0 Z (t0 (t1 (nI p 1)) Z)) (t0 (t0 (t1 (.vw 18000000 0 [])) Z) Z)) (t0 Z (t0 (t0 (t1 (nI p 2)) Z) Z))), [(500, ⟨0, [.str (gS p 3), nB p 4, fL 3 [.int .i64] p 5, nI p 6, fL 40 lt4 p 7, .vw 332005 0 [], .vw 332006 0 [], nB p 8], none⟩)], [aR 332005 3 [.int .i64] (gL p 9), aR 332006 3 [.int .i64] (gL p 10), aR 18000000 3 [.int .i64] (gL p 11)], 1⟩)]
def T_flow_walker_visit : TTab := [(0, [fun p => (.exit 0, ⟨(t2 (.pb 500 0 0) (t1 (nI p 0)) Z), [(500, ⟨0, [.str (gS p 1), nB p 2, fL 3 [.int .i64] p 3, nI p 4, fL 40 lt4 p 5, .vw 332005 0 [], .vw 332006 0 [], nB p 6], none⟩)], [aR 332005 3 [.int .i64] (gL p 7), aR 332006 3 [.int .i64] (gL p 8)], 1⟩)])]
def F_flow_walker_visit : Fn := { np := 2, bs := [0], main := M_flow_walker_visit, lps := [(0, L_flow_walker_visit_0)] }
def M_math_bits_Len64 (x : List D) : Sh :=
 .ask (leI 4294967296 (D.toI (gD x 0)))
 (.ask (leI 0 32)
 (.ask (leI 65536 (shrV .u64 (D.toI (gD x 0)) 32))
 (.ask (leI 0 16)
 (.ask (leI 256 (shrV .u64 (shrV .u64 (D.toI (gD x 0)) 32) 16))
 (.ask (leI 0 8)
 (.ask (within (wrapA .u8 (shrV .u64 (shrV .u64 (shrV .u64 (D.toI (gD x 0)) 32) 16) 8)) 256)
 (.ret (.i (addA .i64 (addA .i64 (addA .i64 32 16) 8) (wrapA .i64 (byteV [0, 1, 2, 2, 3, 3, 3, 3, 4, 4, 4, 4, 4, 4, 4, 4, 5, 5, 5, 5, 5, 5, 5, 5, 5, 5, 5, 5, 5, 5, 5, 5, 6, 6, 6, 6, 6, 6, 6, 6, 6, 6, 6, 6, 6, 6, 6, 6, 6, 6, 6, 6, 6, 6, 6, 6, 6, 6, 6, 6, 6, 6, 6, 6, 7, 7, 7, 7, 7, 7, 7, 7, 7, 7, 7, 7, 7, 7, 7, 7, 7, 7, 7, 7, 7, 7, 7, 7, 7, 7, 7, 7, 7, 7, 7, 7, 7, 7, 7, 7, 7, 7, 7, 7, 7, 7, 7, 7, 7, 7, 7, 7, 7, 7, 7, 7, 7, 7, 7, 7, 7, 7, 7, 7, 7, 7, 7, 7, 8, 8, 8, 8, 8, 8, 8, 8, 8, 8, 8, 8, 8, 8, 8, 8, 8, 8, 8, 8, 8, 8, 8, 8, 8, 8, 8, 8, 8, 8, 8, 8, 8, 8, 8, 8, 8, 8, 8, 8, 8, 8, 8, 8, 8, 8, 8, 8, 8, 8, 8, 8, 8, 8, 8, 8, 8, 8, 8, 8, 8, 8, 8, 8, 8, 8, 8, 8, 8, 8, 8, 8, 8, 8, 8, 8, 8, 8, 8, 8, 8, 8, 8, 8, 8, 8, 8, 8, 8, 8, 8, 8, 8, 8, 8, 8, 8, 8, 8, 8, 8, 8, 8, 8, 8, 8, 8, 8, 8, 8, 8, 8, 8, 8, 8, 8, 8, 8, 8, 8, 8, 8, 8, 8, 8, 8, 8, 8] (wrapA .u8 (shrV .u64 (shrV .u64 (shrV .u64 (D.toI (gD x 0)) 32) 16) 8)))))) [])
 (.bad))
 (.bad))
 (.ask (within (wrapA .u8 (shrV .u64 (shrV .u64 (D.toI (gD x 0)) 32) 16)) 256)
 (.ret (.i (addA .i64 (addA .i64 32 16) (wrapA .i64 (byteV [0, 1, 2, 2, 3, 3, 3, 3, 4, 4, 4, 4, 4, 4, 4, 4, 5, 5, 5, 5, 5, 5, 5, 5, 5, 5, 5, 5, 5, 5, 5, 5, 6, 6, 6, 6, 6, 6, 6, 6, 6, 6, 6, 6, 6, 6, 6, 6, 6, 6, 6, 6, 6, 6, 6, 6, 6, 6, 6, 6, 6, 6, 6, 6, 7, 7, 7, 7, 7, 7, 7, 7, 7, 7, 7, 7, 7, 7, 7, 7, 7, 7, 7, 7, 7, 7, 7, 7, 7, 7, 7, 7, 7, 7, 7, 7, 7, 7, 7, 7, 7, 7, 7, 7, 7, 7, 7, 7, 7, 7, 7, 7, 7, 7, 7, 7, 7, 7, 7, 7, 7, 7, 7, 7, 7, 7, 7, 7, 8, 8, 8, 8, 8, 8, 8, 8, 8, 8, 8, 8, 8, 8, 8, 8, 8, 8, 8, 8, 8, 8, 8, 8, 8, 8, 8, 8, 8, 8, 8, 8, 8, 8, 8, 8, 8, 8, 8, 8, 8, 8, 8, 8, 8, 8, 8, 8, 8, 8, 8, 8, 8, 8, 8, 8, 8, 8, 8, 8, 8, 8, 8, 8, 8, 8, 8, 8, 8, 8, 8, 8, 8, 8, 8, 8, 8, 8, 8, 8, 8, 8, 8, 8, 8, 8, 8, 8, 8, 8, 8, 8, 8, 8, 8, 8, 8, 8, 8, 8, 8, 8, 8, 8, 8, 8, 8, 8, 8, 8, 8, 8, 8, 8, 8, 8, 8, 8, 8, 8, 8, 8, 8, 8, 8, 8, 8, 8] (wrapA .u8 (shrV .u64 (shrV .u64 (D.toI (gD x 0)) 32) 16)))))) [])
 (.bad)))
 (.bad))
 (.ask (leI 256 (shrV .u64 (D.toI (gD x 0)) 32))
 (.ask (leI 0 8)
 (.ask (within (wrapA .u8 (shrV .u64 (shrV .u64 (D.toI (gD x 0)) 32) 8)) 256)
 (.ret (.i (addA .i64 (addA .i64 32 8) (wrapA .i64 (byteV [0, 1, 2, 2, 3, 3, 3, 3, 4, 4, 4, 4, 4, 4, 4, 4, 5, 5, 5, 5, 5, 5, 5, 5, 5, 5, 5, 5, 5, 5, 5, 5, 6, 6, 6, 6, 6, 6, 6, 6, 6, 6, 6, 6, 6, 6, 6, 6, 6, 6, 6, 6, 6, 6, 6, 6, 6, 6, 6, 6, 6, 6, 6, 6, 7, 7, 7, 7, 7, 7, 7, 7, 7, 7, 7, 7, 7, 7, 7, 7, 7, 7, 7, 7, 7, 7, 7, 7, 7, 7, 7, 7, 7, 7, 7, 7, 7, 7, 7, 7, 7, 7, 7, 7, 7, 7, 7, 7, 7, 7, 7, 7, 7, 7, 7, 7, 7, 7, 7, 7, 7, 7, 7, 7, 7, 7, 7, 7, 8, 8, 8, 8, 8, 8, 8, 8, 8, 8, 8, 8, 8, 8, 8, 8, 8, 8, 8, 8, 8, 8, 8, 8, 8, 8, 8, 8, 8, 8, 8, 8, 8, 8, 8, 8, 8, 8, 8, 8, 8, 8, 8, 8, 8, 8, 8, 8, 8, 8, 8, 8, 8, 8, 8, 8, 8, 8, 8, 8, 8, 8, 8, 8, 8, 8, 8, 8, 8, 8, 8, 8, 8, 8, 8, 8, 8, 8, 8, 8, 8, 8, 8, 8, 8, 8, 8, 8, 8, 8, 8, 8, 8, 8, 8, 8, 8, 8, 8, 8, 8, 8, 8, 8, 8, 8, 8, 8, 8, 8, 8, 8, 8, 8, 8, 8, 8, 8, 8, 8, 8, 8, 8, 8, 8, 8, 8, 8] (wrapA .u8 (shrV .u64 (shrV .u64 (D.toI (gD x 0)) 32) 8)))))) [])
 (.bad))
 (.bad))
 (.ask (within (wrapA .u8 (shrV .u64 (D.toI (gD x 0)) 32)) 256)
 (.ret (.i (addA .i64 32 (wrapA .i64 (byteV [0, 1, 2, 2, 3, 3, 3, 3, 4, 4, 4, 4, 4, 4, 4, 4, 5, 5, 5, 5, 5, 5, 5, 5, 5, 5, 5, 5, 5, 5, 5, 5, 6, 6, 6, 6, 6, 6, 6, 6, 6, 6, 6, 6, 6, 6, 6, 6, 6, 6, 6, 6, 6, 6, 6, 6, 6, 6, 6, 6, 6, 6, 6, 6, 7, 7, 7, 7, 7, 7, 7, 7, 7, 7, 7, 7, 7, 7, 7, 7, 7, 7, 7, 7, 7, 7, 7, 7, 7, 7, 7, 7, 7, 7, 7, 7, 7, 7, 7, 7, 7, 7, 7, 7, 7, 7, 7, 7, 7, 7, 7, 7, 7, 7, 7, 7, 7, 7, 7, 7, 7, 7, 7, 7, 7, 7, 7, 7, 8, 8, 8, 8, 8, 8, 8, 8, 8, 8, 8, 8, 8, 8, 8, 8, 8, 8, 8, 8, 8, 8, 8, 8, 8, 8, 8, 8, 8, 8, 8, 8, 8, 8, 8, 8, 8, 8, 8, 8, 8, 8, 8, 8, 8, 8, 8, 8, 8, 8, 8, 8, 8, 8, 8, 8, 8, 8, 8, 8, 8, 8, 8, 8, 8, 8, 8, 8, 8, 8, 8, 8, 8, 8, 8, 8, 8, 8, 8, 8, 8, 8, 8, 8, 8, 8, 8, 8, 8, 8, 8, 8, 8, 8, 8, 8, 8, 8, 8, 8, 8, 8, 8, 8, 8, 8, 8, 8, 8, 8, 8, 8, 8, 8, 8, 8, 8, 8, 8, 8, 8, 8, 8, 8, 8, 8, 8, 8] (wrapA .u8 (shrV .u64 (D.toI (gD x 0)) 32)))))) [])
 (.bad))))
 (.bad))
 (.ask (leI 65536 (D.toI (gD x 0)))
 (.ask (leI 0 16)
 (.ask (leI 256 (shrV .u64 (D.toI (gD x 0)) 16))
 (.ask (leI 0 8)
 (.ask (within (wrapA .u8 (shrV .u64 (shrV .u64 (D.toI (gD x 0)) 16) 8)) 256)
 (.ret (.i (addA .i64 (addA .i64 (addA .i64 0 16) 8) (wrapA .i64 (byteV [0, 1, 2, 2, 3, 3, 3, 3, 4, 4, 4, 4, 4, 4, 4, 4, 5, 5, 5, 5, 5, 5, 5, 5, 5, 5, 5, 5, 5, 5, 5, 5, 6, 6, 6, 6, 6, 6, 6, 6, 6, 6, 6, 6, 6, 6, 6, 6, 6, 6, 6, 6, 6, 6, 6, 6, 6, 6, 6, 6, 6, 6, 6, 6, 7, 7, 7, 7, 7, 7, 7, 7, 7, 7, 7, 7, 7, 7, 7, 7, 7, 7, 7, 7, 7, 7, 7, 7, 7, 7, 7, 7, 7, 7, 7, 7, 7, 7, 7, 7, 7, 7, 7, 7, 7, 7, 7, 7, 7, 7, 7, 7, 7, 7, 7, 7, 7, 7, 7, 7, 7, 7, 7, 7, 7, 7, 7, 7, 8, 8, 8, 8, 8, 8, 8, 8, 8, 8, 8, 8, 8, 8, 8, 8, 8, 8, 8, 8, 8, 8, 8, 8, 8, 8, 8, 8, 8, 8, 8, 8, 8, 8, 8, 8, 8, 8, 8, 8, 8, 8, 8, 8, 8, 8, 8, 8, 8, 8, 8, 8, 8, 8, 8, 8, 8, 8, 8, 8, 8, 8, 8, 8, 8, 8, 8, 8, 8, 8, 8, 8, 8, 8, 8, 8, 8, 8, 8, 8, 8, 8, 8, 8, 8, 8, 8, 8, 8, 8, 8, 8, 8, 8, 8, 8, 8, 8, 8, 8, 8, 8, 8, 8, 8, 8, 8, 8, 8, 8, 8, 8, 8, 8, 8, 8, 8, 8, 8, 8, 8, 8, 8, 8, 8, 8, 8, 8] (wrapA .u8 (shrV .u64 (shrV .u64 (D.toI (gD x 0)) 16) 8)))))) [])
 (.bad))
 (.bad))
 (.ask (within (wrapA .u8 (shrV .u64 (D.toI (gD x 0)) 16)) 256)
 (.ret (.i (addA .i64 (addA .i64 0 16) (wrapA .i64 (byteV [0, 1, 2, 2, 3, 3, 3, 3, 4, 4, 4, 4, 4, 4, 4, 4, 5, 5, 5, 5, 5, 5, 5, 5, 5, 5, 5, 5, 5, 5, 5, 5, 6, 6, 6, 6, 6, 6, 6, 6, 6, 6, 6, 6, 6, 6, 6, 6, 6, 6, 6, 6, 6, 6, 6, 6, 6, 6, 6, 6, 6, 6, 6, 6, 7, 7, 7, 7, 7, 7, 7, 7, 7, 7, 7, 7, 7, 7, 7, 7, 7, 7, 7, 7, 7, 7, 7, 7, 7, 7, 7, 7, 7, 7, 7, 7, 7, 7, 7, 7, 7, 7, 7, 7, 7, 7, 7, 7, 7, 7, 7, 7, 7, 7, 7, 7, 7, 7, 7, 7, 7, 7, 7, 7, 7, 7, 7, 7, 8, 8, 8, 8, 8, 8, 8, 8, 8, 8, 8, 8, 8, 8, 8, 8, 8, 8, 8, 8, 8, 8, 8, 8, 8, 8, 8, 8, 8, 8, 8, 8, 8, 8, 8, 8, 8, 8, 8, 8, 8, 8, 8, 8, 8, 8, 8, 8, 8, 8, 8, 8, 8, 8, 8, 8, 8, 8, 8, 8, 8, 8, 8, 8, 8, 8, 8, 8, 8, 8, 8, 8, 8, 8, 8, 8, 8, 8, 8, 8, 8, 8, 8, 8, 8, 8, 8, 8, 8, 8, 8, 8, 8, 8, 8, 8, 8, 8, 8, 8, 8, 8, 8, 8, 8, 8, 8, 8, 8, 8, 8, 8, 8, 8, 8, 8, 8, 8, 8, 8, 8, 8, 8, 8, 8, 8, 8, 8] (wrapA .u8 (shrV .u64 (D.toI (gD x 0)) 16)))))) [])
 (.bad)))
 (.bad))
 (.ask (leI 256 (D.toI (gD x 0)))
 (.ask (leI 0 8)
 (.ask (within (wrapA .u8 (shrV .u64 (D.toI (gD x 0)) 8)) 256)
 (.ret (.i (addA .i64 (addA .i64 0 8) (wrapA .i64 (byteV [0, 1, 2, 2, 3, 3, 3, 3, 4, 4, 4, 4, 4, 4, 4, 4, 5, 5, 5, 5, 5, 5, 5, 5, 5, 5, 5, 5, 5, 5, 5, 5, 6, 6, 6, 6, 6, 6, 6, 6, 6, 6, 6, 6, 6, 6, 6, 6, 6, 6, 6, 6, 6, 6, 6, 6, 6, 6, 6, 6, 6, 6, 6, 6, 7, 7, 7, 7, 7, 7, 7, 7, 7, 7, 7, 7, 7, 7, 7, 7, 7, 7, 7, 7, 7, 7, 7, 7, 7, 7, 7, 7, 7, 7, 7, 7, 7, 7, 7, 7, 7, 7, 7, 7, 7, 7, 7, 7, 7, 7, 7, 7, 7, 7, 7, 7, 7, 7, 7, 7, 7, 7, 7, 7, 7, 7, 7, 7, 8, 8, 8, 8, 8, 8, 8, 8, 8, 8, 8, 8, 8, 8, 8, 8, 8, 8, 8, 8, 8, 8, 8, 8, 8, 8, 8, 8, 8, 8, 8, 8, 8, 8, 8, 8, 8, 8, 8, 8, 8, 8, 8, 8, 8, 8, 8, 8, 8, 8, 8, 8, 8, 8, 8, 8, 8, 8, 8, 8, 8, 8, 8, 8, 8, 8, 8, 8, 8, 8, 8, 8, 8, 8, 8, 8, 8, 8, 8, 8, 8, 8, 8, 8, 8, 8, 8, 8, 8, 8, 8, 8, 8, 8, 8, 8, 8, 8, 8, 8, 8, 8, 8, 8, 8, 8, 8, 8, 8, 8, 8, 8, 8, 8, 8, 8, 8, 8, 8, 8, 8, 8, 8, 8, 8, 8, 8, 8] (wrapA .u8 (shrV .u64 (D.toI (gD x 0)) 8)))))) [])
 (.bad))
 (.bad))
 (.ask (within (wrapA .u8 (D.toI (gD x 0))) 256)
 (.ret (.i (addA .i64 0 (wrapA .i64 (byteV [0, 1, 2, 2, 3, 3, 3, 3, 4, 4, 4, 4, 4, 4, 4, 4, 5, 5, 5, 5, 5, 5, 5, 5, 5, 5, 5, 5, 5, 5, 5, 5, 6, 6, 6, 6, 6, 6, 6, 6, 6, 6, 6, 6, 6, 6, 6, 6, 6, 6, 6, 6, 6, 6, 6, 6, 6, 6, 6, 6, 6, 6, 6, 6, 7, 7, 7, 7, 7, 7, 7, 7, 7, 7, 7, 7, 7, 7, 7, 7, 7, 7, 7, 7, 7, 7, 7, 7, 7, 7, 7, 7, 7, 7, 7, 7, 7, 7, 7, 7, 7, 7, 7, 7, 7, 7, 7, 7, 7, 7, 7, 7, 7, 7, 7, 7, 7, 7, 7, 7, 7, 7, 7, 7, 7, 7, 7, 7, 8, 8, 8, 8, 8, 8, 8, 8, 8, 8, 8, 8, 8, 8, 8, 8, 8, 8, 8, 8, 8, 8, 8, 8, 8, 8, 8, 8, 8, 8, 8, 8, 8, 8, 8, 8, 8, 8, 8, 8, 8, 8, 8, 8, 8, 8, 8, 8, 8, 8, 8, 8, 8, 8, 8, 8, 8, 8, 8, 8, 8, 8, 8, 8, 8, 8, 8, 8, 8, 8, 8, 8, 8, 8, 8, 8, 8, 8, 8, 8, 8, 8, 8, 8, 8, 8, 8, 8, 8, 8, 8, 8, 8, 8, 8, 8, 8, 8, 8, 8, 8, 8, 8, 8, 8, 8, 8, 8, 8, 8, 8, 8, 8, 8, 8, 8, 8, 8, 8, 8, 8, 8, 8, 8, 8, 8, 8, 8] (wrapA .u8 (D.toI (gD x 0))))))) [])
 (.bad))))
def S_math_bits_Len64 : STab := []
def T_math_bits_Len64 : TTab := []
def F_math_bits_Len64 : Fn := { np := 1, bs := [], main := M_math_bits_Len64, lps := [] }
def d_keep_Ops : FD := mkD Go.Proofs.Tryz.f6 h6 6 F_keep_Ops S_keep_Ops T_keep_Ops
theorem k_keep_Ops : KM d_keep_Ops := fun x => by kernel_rfl
theorem k_keep_Ops_0 : KL d_keep_Ops 0 L_keep_Ops_0 := fun p => by kernel_rfl
theorem k_keep_Ops_2 : KL d_keep_Ops 2 L_keep_Ops_2 := fun p => by kernel_rfl
theorem k_keep_Ops_4 : KL d_keep_Ops 4 L_keep_Ops_4 := fun p => by kernel_rfl
theorem c_keep_Ops : Cert E bodies sites keep_Ops d_keep_Ops := by refine ⟨?_,?_,?_,?_,?_,?_,sites_loops,?_,k_keep_Ops,look_cons' k_keep_Ops_0 (look_cons' k_keep_Ops_2 (look_cons' k_keep_Ops_4 (look_nil)))⟩ <;> kernel_rfl
def d_keep_Bools : FD := mkD Go.Proofs.Tryz.f9 h9 9 F_keep_Bools S_keep_Bools T_keep_Bools
theorem k_keep_Bools : KM d_keep_Bools := fun x => by kernel_rfl
theorem k_keep_Bools_0 : KL d_keep_Bools 0 L_keep_Bools_0 := fun p => by kernel_rfl
theorem c_keep_Bools : Cert E bodies sites keep_Bools d_keep_Bools := by refine ⟨?_,?_,?_,?_,?_,?_,sites_loops,?_,k_keep_Bools,look_cons' k_keep_Bools_0 (look_nil)⟩ <;> kernel_rfl
def d_facts_Facts_Effects : FD := mkD Go.Proofs.Tryz.f19 h19 19 F_facts_Facts_Effects S_facts_Facts_Effects T_facts_Facts_Effects
theorem k_facts_Facts_Effects : KM d_facts_Facts_Effects := fun x => by kernel_rfl
theorem k_facts_Facts_Effects_0 : KL d_facts_Facts_Effects 0 L_facts_Facts_Effects_0 := fun p => by kernel_rfl
theorem k_facts_Facts_Effects_2 : KL d_facts_Facts_Effects 2 L_facts_Facts_Effects_2 := fun p => by kernel_rfl
theorem c_facts_Facts_Effects : Cert E bodies sites facts_Facts_Effects d_facts_Facts_Effects := by refine ⟨?_,?_,?_,?_,?_,?_,sites_loops,?_,k_facts_Facts_Effects,look_cons' k_facts_Facts_Effects_0 (look_cons' k_facts_Facts_Effects_2 (look_nil))⟩ <;> kernel_rfl
def d_wf_named : FD := mkD Go.Proofs.Tryz.f23 h23 23 F_wf_named S_wf_named T_wf_named
theorem k_wf_named : KM d_wf_named := fun x => by kernel_rfl
theorem k_wf_named_0 : KL d_wf_named 0 L_wf_named_0 := fun p => by kernel_rfl
theorem k_wf_named_2 : KL d_wf_named 2 L_wf_named_2 := fun p => by kernel_rfl
theorem k_wf_named_4 : KL d_wf_named 4 L_wf_named_4 := fun p => by kernel_rfl
theorem k_wf_named_6 : KL d_wf_named 6 L_wf_named_6 := fun p => by kernel_rfl
theorem k_wf_named_8 : KL d_wf_named 8 L_wf_named_8 := fun p => by kernel_rfl
theorem c_wf_named : Cert E bodies sites wf_named d_wf_named := by refine ⟨?_,?_,?_,?_,?_,?_,sites_loops,?_,k_wf_named,look_cons' k_wf_named_0 (look_cons' k_wf_named_2 (look_cons' k_wf_named_4 (look_cons' k_wf_named_6 (look_cons' k_wf_named_8 (look_nil)))))⟩ <;> kernel_rfl
def d_wf_used : FD := mkD Go.Proofs.Tryz.f26 h26 26 F_wf_used S_wf_used T_wf_used
theorem k_wf_used : KM d_wf_used := fun x => by kernel_rfl
theorem k_wf_used_0 : KL d_wf_used 0 L_wf_used_0 := fun p => by kernel_rfl
theorem k_wf_used_2 : KL d_wf_used 2 L_wf_used_2 := fun p => by kernel_rfl
theorem k_wf_used_4 : KL d_wf_used 4 L_wf_used_4 := fun p => by kernel_rfl
theorem k_wf_used_6 : KL d_wf_used 6 L_wf_used_6 := fun p => by kernel_rfl
theorem k_wf_used_8 : KL d_wf_used 8 L_wf_used_8 := fun p => by kernel_rfl
theorem k_wf_used_10 : KL d_wf_used 10 L_wf_used_10 := fun p => by kernel_rfl
theorem k_wf_used_12 : KL d_wf_used 12 L_wf_used_12 := fun p => by kernel_rfl
theorem c_wf_used : Cert E bodies sites wf_used d_wf_used := by refine ⟨?_,?_,?_,?_,?_,?_,sites_loops,?_,k_wf_used,look_cons' k_wf_used_0 (look_cons' k_wf_used_2 (look_cons' k_wf_used_4 (look_cons' k_wf_used_6 (look_cons' k_wf_used_8 (look_cons' k_wf_used_10 (look_cons' k_wf_used_12 (look_nil)))))))⟩ <;> kernel_rfl
def d_facts_Func_bases : FD := mkD Go.Proofs.Tryz.f29 h29 29 F_facts_Func_bases S_facts_Func_bases T_facts_Func_bases
theorem k_facts_Func_bases : KM d_facts_Func_bases := fun x => by kernel_rfl
theorem k_facts_Func_bases_0 : KL d_facts_Func_bases 0 L_facts_Func_bases_0 := fun p => by kernel_rfl
theorem k_facts_Func_bases_2 : KL d_facts_Func_bases 2 L_facts_Func_bases_2 := fun p => by kernel_rfl
theorem k_facts_Func_bases_4 : KL d_facts_Func_bases 4 L_facts_Func_bases_4 := fun p => by kernel_rfl
theorem k_facts_Func_bases_7 : KL d_facts_Func_bases 7 L_facts_Func_bases_7 := fun p => by kernel_rfl
theorem c_facts_Func_bases : Cert E bodies sites facts_Func_bases d_facts_Func_bases := by refine ⟨?_,?_,?_,?_,?_,?_,sites_loops,?_,k_facts_Func_bases,look_cons' k_facts_Func_bases_0 (look_cons' k_facts_Func_bases_2 (look_cons' k_facts_Func_bases_4 (look_cons' k_facts_Func_bases_7 (look_nil))))⟩ <;> kernel_rfl
def d_slices_Clone_Sint64_int64 : FD := mkD Go.Proofs.Tryz.f32 h32 32 F_slices_Clone_Sint64_int64 S_slices_Clone_Sint64_int64 T_slices_Clone_Sint64_int64
theorem k_slices_Clone_Sint64_int64 : KM d_slices_Clone_Sint64_int64 := fun x => by kernel_rfl
theorem c_slices_Clone_Sint64_int64 : Cert E bodies sites slices_Clone_Sint64_int64 d_slices_Clone_Sint64_int64 := by refine ⟨?_,?_,?_,?_,?_,?_,sites_loops,?_,k_slices_Clone_Sint64_int64,look_nil⟩ <;> kernel_rfl
def d_facts_weight : FD := mkD Go.Proofs.Tryz.f37 h37 37 F_facts_weight S_facts_weight T_facts_weight
theorem k_facts_weight : KM d_facts_weight := fun x => by kernel_rfl
theorem c_facts_weight : Cert E bodies sites facts_weight d_facts_weight := by refine ⟨?_,?_,?_,?_,?_,?_,sites_loops,?_,k_facts_weight,look_nil⟩ <;> kernel_rfl
def d_wf_shaped : FD := mkD Go.Proofs.Tryz.f40 h40 40 F_wf_shaped S_wf_shaped T_wf_shaped
theorem k_wf_shaped : KM d_wf_shaped := fun x => by kernel_rfl
theorem c_wf_shaped : Cert E bodies sites wf_shaped d_wf_shaped := by refine ⟨?_,?_,?_,?_,?_,?_,sites_loops,?_,k_wf_shaped,look_nil⟩ <;> kernel_rfl
def d_slices_Contains_Sbool_bool : FD := mkD Go.Proofs.Tryz.f43 h43 43 F_slices_Contains_Sbool_bool S_slices_Contains_Sbool_bool T_slices_Contains_Sbool_bool
theorem k_slices_Contains_Sbool_bool : KM d_slices_Contains_Sbool_bool := fun x => by kernel_rfl
theorem c_slices_Contains_Sbool_bool : Cert E bodies sites slices_Contains_Sbool_bool d_slices_Contains_Sbool_bool := by refine ⟨?_,?_,?_,?_,?_,?_,sites_loops,?_,k_slices_Contains_Sbool_bool,look_nil⟩ <;> kernel_rfl
def d_dom_Over : FD := mkD Go.Proofs.Tryz.f47 h47 47 F_dom_Over S_dom_Over T_dom_Over
theorem k_dom_Over : KM d_dom_Over := fun x => by kernel_rfl
theorem c_dom_Over : Cert E bodies sites dom_Over d_dom_Over := by refine ⟨?_,?_,?_,?_,?_,?_,sites_loops,?_,k_dom_Over,look_nil⟩ <;> kernel_rfl
def d_slices_Clone_Sapi_Base_api_Base : FD := mkD Go.Proofs.Tryz.f51 h51 51 F_slices_Clone_Sapi_Base_api_Base S_slices_Clone_Sapi_Base_api_Base T_slices_Clone_Sapi_Base_api_Base
theorem k_slices_Clone_Sapi_Base_api_Base : KM d_slices_Clone_Sapi_Base_api_Base := fun x => by kernel_rfl
theorem c_slices_Clone_Sapi_Base_api_Base : Cert E bodies sites slices_Clone_Sapi_Base_api_Base d_slices_Clone_Sapi_Base_api_Base := by refine ⟨?_,?_,?_,?_,?_,?_,sites_loops,?_,k_slices_Clone_Sapi_Base_api_Base,look_nil⟩ <;> kernel_rfl
def d_facts_Func_off : FD := mkD Go.Proofs.Tryz.f55 h55 55 F_facts_Func_off S_facts_Func_off T_facts_Func_off
theorem k_facts_Func_off : KM d_facts_Func_off := fun x => by kernel_rfl
theorem c_facts_Func_off : Cert E bodies sites facts_Func_off d_facts_Func_off := by refine ⟨?_,?_,?_,?_,?_,?_,sites_loops,?_,k_facts_Func_off,look_nil⟩ <;> kernel_rfl
def d_facts_Facts_At : FD := mkD Go.Proofs.Tryz.f64 h64 64 F_facts_Facts_At S_facts_Facts_At T_facts_Facts_At
theorem k_facts_Facts_At : KM d_facts_Facts_At := fun x => by kernel_rfl
theorem k_facts_Facts_At_1 : KL d_facts_Facts_At 1 L_facts_Facts_At_1 := fun p => by kernel_rfl
theorem c_facts_Facts_At : Cert E bodies sites facts_Facts_At d_facts_Facts_At := by refine ⟨?_,?_,?_,?_,?_,?_,sites_loops,?_,k_facts_Facts_At,look_cons' k_facts_Facts_At_1 (look_nil)⟩ <;> kernel_rfl
def d_slices_Index_Sbool_bool : FD := mkD Go.Proofs.Tryz.f67 h67 67 F_slices_Index_Sbool_bool S_slices_Index_Sbool_bool T_slices_Index_Sbool_bool
theorem k_slices_Index_Sbool_bool : KM d_slices_Index_Sbool_bool := fun x => by kernel_rfl
theorem k_slices_Index_Sbool_bool_0 : KL d_slices_Index_Sbool_bool 0 L_slices_Index_Sbool_bool_0 := fun p => by kernel_rfl
theorem c_slices_Index_Sbool_bool : Cert E bodies sites slices_Index_Sbool_bool d_slices_Index_Sbool_bool := by refine ⟨?_,?_,?_,?_,?_,?_,sites_loops,?_,k_slices_Index_Sbool_bool,look_cons' k_slices_Index_Sbool_bool_0 (look_nil)⟩ <;> kernel_rfl
def d_dom_nearest : FD := mkD Go.Proofs.Tryz.f70 h70 70 F_dom_nearest S_dom_nearest T_dom_nearest
theorem k_dom_nearest : KM d_dom_nearest := fun x => by kernel_rfl
theorem k_dom_nearest_0 : KL d_dom_nearest 0 L_dom_nearest_0 := fun p => by kernel_rfl
theorem k_dom_nearest_2 : KL d_dom_nearest 2 L_dom_nearest_2 := fun p => by kernel_rfl
theorem c_dom_nearest : Cert E bodies sites dom_nearest d_dom_nearest := by refine ⟨?_,?_,?_,?_,?_,?_,sites_loops,?_,k_dom_nearest,look_cons' k_dom_nearest_0 (look_cons' k_dom_nearest_2 (look_nil))⟩ <;> kernel_rfl
def d_slices_pdqsortCmpFunc_api_Base : FD := mkD Go.Proofs.Tryz.f75 h75 75 F_slices_pdqsortCmpFunc_api_Base S_slices_pdqsortCmpFunc_api_Base T_slices_pdqsortCmpFunc_api_Base
theorem k_slices_pdqsortCmpFunc_api_Base : KM d_slices_pdqsortCmpFunc_api_Base := fun x => by kernel_rfl
theorem k_slices_pdqsortCmpFunc_api_Base_0 : KL d_slices_pdqsortCmpFunc_api_Base 0 L_slices_pdqsortCmpFunc_api_Base_0 := fun p => by kernel_rfl
theorem c_slices_pdqsortCmpFunc_api_Base : Cert E bodies sites slices_pdqsortCmpFunc_api_Base d_slices_pdqsortCmpFunc_api_Base := by refine ⟨?_,?_,?_,?_,?_,?_,sites_loops,?_,k_slices_pdqsortCmpFunc_api_Base,look_cons' k_slices_pdqsortCmpFunc_api_Base_0 (look_nil)⟩ <;> kernel_rfl
def d_slices_Sort_Sint_int : FD := mkD Go.Proofs.Tryz.f81 h81 81 F_slices_Sort_Sint_int S_slices_Sort_Sint_int T_slices_Sort_Sint_int
theorem k_slices_Sort_Sint_int : KM d_slices_Sort_Sint_int := fun x => by kernel_rfl
theorem c_slices_Sort_Sint_int : Cert E bodies sites slices_Sort_Sint_int d_slices_Sort_Sint_int := by refine ⟨?_,?_,?_,?_,?_,?_,sites_loops,?_,k_slices_Sort_Sint_int,look_nil⟩ <;> kernel_rfl
def d_dom_without : FD := mkD Go.Proofs.Tryz.f85 h85 85 F_dom_without S_dom_without T_dom_without
theorem k_dom_without : KM d_dom_without := fun x => by kernel_rfl
theorem k_dom_without_0 : KL d_dom_without 0 L_dom_without_0 := fun p => by kernel_rfl
theorem k_dom_without_2 : KL d_dom_without 2 L_dom_without_2 := fun p => by kernel_rfl
theorem c_dom_without : Cert E bodies sites dom_without d_dom_without := by refine ⟨?_,?_,?_,?_,?_,?_,sites_loops,?_,k_dom_without,look_cons' k_dom_without_0 (look_cons' k_dom_without_2 (look_nil))⟩ <;> kernel_rfl
def d_slices_pdqsortOrdered_int : FD := mkD Go.Proofs.Tryz.f97 h97 97 F_slices_pdqsortOrdered_int S_slices_pdqsortOrdered_int T_slices_pdqsortOrdered_int
theorem k_slices_pdqsortOrdered_int : KM d_slices_pdqsortOrdered_int := fun x => by kernel_rfl
theorem k_slices_pdqsortOrdered_int_0 : KL d_slices_pdqsortOrdered_int 0 L_slices_pdqsortOrdered_int_0 := fun p => by kernel_rfl
theorem c_slices_pdqsortOrdered_int : Cert E bodies sites slices_pdqsortOrdered_int d_slices_pdqsortOrdered_int := by refine ⟨?_,?_,?_,?_,?_,?_,sites_loops,?_,k_slices_pdqsortOrdered_int,look_cons' k_slices_pdqsortOrdered_int_0 (look_nil)⟩ <;> kernel_rfl
def d_r12_NumOf : FD := mkD Go.Proofs.Tryz.f7 h7 7 F_r12_NumOf S_r12_NumOf T_r12_NumOf
theorem k_r12_NumOf : KM d_r12_NumOf := fun x => by kernel_rfl
theorem c_r12_NumOf : Cert E bodies sites r12_NumOf d_r12_NumOf := by refine ⟨?_,?_,?_,?_,?_,?_,sites_loops,?_,k_r12_NumOf,look_nil⟩ <;> kernel_rfl
def d_facts_Of : FD := mkD Go.Proofs.Tryz.f13 h13 13 F_facts_Of S_facts_Of T_facts_Of
theorem k_facts_Of : KM d_facts_Of := fun x => by kernel_rfl
theorem k_facts_Of_0 : KL d_facts_Of 0 L_facts_Of_0 := fun p => by kernel_rfl
theorem k_facts_Of_2 : KL d_facts_Of 2 L_facts_Of_2 := fun p => by kernel_rfl
theorem k_facts_Of_4 : KL d_facts_Of 4 L_facts_Of_4 := fun p => by kernel_rfl
theorem k_facts_Of_6 : KL d_facts_Of 6 L_facts_Of_6 := fun p => by kernel_rfl
theorem k_facts_Of_8 : KL d_facts_Of 8 L_facts_Of_8 := fun p => by kernel_rfl
theorem c_facts_Of : Cert E bodies sites facts_Of d_facts_Of := by refine ⟨?_,?_,?_,?_,?_,?_,sites_loops,?_,k_facts_Of,look_cons' k_facts_Of_0 (look_cons' k_facts_Of_2 (look_cons' k_facts_Of_4 (look_cons' k_facts_Of_6 (look_cons' k_facts_Of_8 (look_nil)))))⟩ <;> kernel_rfl
def d_glob_rest : FD := mkD Go.Proofs.Tryz.f20 h20 20 F_glob_rest S_glob_rest T_glob_rest
theorem k_glob_rest : KM d_glob_rest := fun x => by kernel_rfl
theorem k_glob_rest_0 : KL d_glob_rest 0 L_glob_rest_0 := fun p => by kernel_rfl
theorem k_glob_rest_2 : KL d_glob_rest 2 L_glob_rest_2 := fun p => by kernel_rfl
theorem k_glob_rest_4 : KL d_glob_rest 4 L_glob_rest_4 := fun p => by kernel_rfl
theorem c_glob_rest : Cert E bodies sites glob_rest d_glob_rest := by refine ⟨?_,?_,?_,?_,?_,?_,sites_loops,?_,k_glob_rest,look_cons' k_glob_rest_0 (look_cons' k_glob_rest_2 (look_cons' k_glob_rest_4 (look_nil)))⟩ <;> kernel_rfl
def d_wf_known : FD := mkD Go.Proofs.Tryz.f24 h24 24 F_wf_known S_wf_known T_wf_known
theorem k_wf_known : KM d_wf_known := fun x => by kernel_rfl
theorem k_wf_known_0 : KL d_wf_known 0 L_wf_known_0 := fun p => by kernel_rfl
theorem k_wf_known_2 : KL d_wf_known 2 L_wf_known_2 := fun p => by kernel_rfl
theorem k_wf_known_4 : KL d_wf_known 4 L_wf_known_4 := fun p => by kernel_rfl
theorem k_wf_known_6 : KL d_wf_known 6 L_wf_known_6 := fun p => by kernel_rfl
theorem k_wf_known_8 : KL d_wf_known 8 L_wf_known_8 := fun p => by kernel_rfl
theorem c_wf_known : Cert E bodies sites wf_known d_wf_known := by refine ⟨?_,?_,?_,?_,?_,?_,sites_loops,?_,k_wf_known,look_cons' k_wf_known_0 (look_cons' k_wf_known_2 (look_cons' k_wf_known_4 (look_cons' k_wf_known_6 (look_cons' k_wf_known_8 (look_nil)))))⟩ <;> kernel_rfl
def d_wf_typed : FD := mkD Go.Proofs.Tryz.f27 h27 27 F_wf_typed S_wf_typed T_wf_typed
theorem k_wf_typed : KM d_wf_typed := fun x => by kernel_rfl
theorem k_wf_typed_0 : KL d_wf_typed 0 L_wf_typed_0 := fun p => by kernel_rfl
theorem k_wf_typed_2 : KL d_wf_typed 2 L_wf_typed_2 := fun p => by kernel_rfl
theorem c_wf_typed : Cert E bodies sites wf_typed d_wf_typed := by refine ⟨?_,?_,?_,?_,?_,?_,sites_loops,?_,k_wf_typed,look_cons' k_wf_typed_0 (look_cons' k_wf_typed_2 (look_nil))⟩ <;> kernel_rfl
def d_facts_Func_offs : FD := mkD Go.Proofs.Tryz.f30 h30 30 F_facts_Func_offs S_facts_Func_offs T_facts_Func_offs
theorem k_facts_Func_offs : KM d_facts_Func_offs := fun x => by kernel_rfl
theorem k_facts_Func_offs_0 : KL d_facts_Func_offs 0 L_facts_Func_offs_0 := fun p => by kernel_rfl
theorem c_facts_Func_offs : Cert E bodies sites facts_Func_offs d_facts_Func_offs := by refine ⟨?_,?_,?_,?_,?_,?_,sites_loops,?_,k_facts_Func_offs,look_cons' k_facts_Func_offs_0 (look_nil)⟩ <;> kernel_rfl
def d_ir_copyFunc : FD := mkD Go.Proofs.Tryz.f33 h33 33 F_ir_copyFunc S_ir_copyFunc T_ir_copyFunc
theorem k_ir_copyFunc : KM d_ir_copyFunc := fun x => by kernel_rfl
theorem k_ir_copyFunc_0 : KL d_ir_copyFunc 0 L_ir_copyFunc_0 := fun p => by kernel_rfl
theorem k_ir_copyFunc_2 : KL d_ir_copyFunc 2 L_ir_copyFunc_2 := fun p => by kernel_rfl
theorem c_ir_copyFunc : Cert E bodies sites ir_copyFunc d_ir_copyFunc := by refine ⟨?_,?_,?_,?_,?_,?_,sites_loops,?_,k_ir_copyFunc,look_cons' k_ir_copyFunc_0 (look_cons' k_ir_copyFunc_2 (look_nil))⟩ <;> kernel_rfl
def d_ir_Size : FD := mkD Go.Proofs.Tryz.f38 h38 38 F_ir_Size S_ir_Size T_ir_Size
theorem k_ir_Size : KM d_ir_Size := fun x => by kernel_rfl
theorem k_ir_Size_0 : KL d_ir_Size 0 L_ir_Size_0 := fun p => by kernel_rfl
theorem c_ir_Size : Cert E bodies sites ir_Size d_ir_Size := by refine ⟨?_,?_,?_,?_,?_,?_,sites_loops,?_,k_ir_Size,look_cons' k_ir_Size_0 (look_nil)⟩ <;> kernel_rfl
def d_wf_Name : FD := mkD Go.Proofs.Tryz.f41 h41 41 F_wf_Name S_wf_Name T_wf_Name
theorem k_wf_Name : KM d_wf_Name := fun x => by kernel_rfl
theorem k_wf_Name_0 : KL d_wf_Name 0 L_wf_Name_0 := fun p => by kernel_rfl
theorem c_wf_Name : Cert E bodies sites wf_Name d_wf_Name := by refine ⟨?_,?_,?_,?_,?_,?_,sites_loops,?_,k_wf_Name,look_cons' k_wf_Name_0 (look_nil)⟩ <;> kernel_rfl
def d_flow_Reach : FD := mkD Go.Proofs.Tryz.f44 h44 44 F_flow_Reach S_flow_Reach T_flow_Reach
theorem k_flow_Reach : KM d_flow_Reach := fun x => by kernel_rfl
theorem k_flow_Reach_0 : KL d_flow_Reach 0 L_flow_Reach_0 := fun p => by kernel_rfl
theorem c_flow_Reach : Cert E bodies sites flow_Reach d_flow_Reach := by refine ⟨?_,?_,?_,?_,?_,?_,sites_loops,?_,k_flow_Reach,look_cons' k_flow_Reach_0 (look_nil)⟩ <;> kernel_rfl
def d_wf_ahead : FD := mkD Go.Proofs.Tryz.f48 h48 48 F_wf_ahead S_wf_ahead T_wf_ahead
theorem k_wf_ahead : KM d_wf_ahead := fun x => by kernel_rfl
theorem k_wf_ahead_0 : KL d_wf_ahead 0 L_wf_ahead_0 := fun p => by kernel_rfl
theorem k_wf_ahead_2 : KL d_wf_ahead 2 L_wf_ahead_2 := fun p => by kernel_rfl
theorem c_wf_ahead : Cert E bodies sites wf_ahead d_wf_ahead := by refine ⟨?_,?_,?_,?_,?_,?_,sites_loops,?_,k_wf_ahead,look_cons' k_wf_ahead_0 (look_cons' k_wf_ahead_2 (look_nil))⟩ <;> kernel_rfl
def d_slices_SortFunc_Sapi_Base_api_Base : FD := mkD Go.Proofs.Tryz.f52 h52 52 F_slices_SortFunc_Sapi_Base_api_Base S_slices_SortFunc_Sapi_Base_api_Base T_slices_SortFunc_Sapi_Base_api_Base
theorem k_slices_SortFunc_Sapi_Base_api_Base : KM d_slices_SortFunc_Sapi_Base_api_Base := fun x => by kernel_rfl
theorem c_slices_SortFunc_Sapi_Base_api_Base : Cert E bodies sites slices_SortFunc_Sapi_Base_api_Base d_slices_SortFunc_Sapi_Base_api_Base := by refine ⟨?_,?_,?_,?_,?_,?_,sites_loops,?_,k_slices_SortFunc_Sapi_Base_api_Base,look_nil⟩ <;> kernel_rfl
def d_ir_copyIns : FD := mkD Go.Proofs.Tryz.f56 h56 56 F_ir_copyIns S_ir_copyIns T_ir_copyIns
theorem k_ir_copyIns : KM d_ir_copyIns := fun x => by kernel_rfl
theorem c_ir_copyIns : Cert E bodies sites ir_copyIns d_ir_copyIns := by refine ⟨?_,?_,?_,?_,?_,?_,sites_loops,?_,k_ir_copyIns,look_nil⟩ <;> kernel_rfl
def d_facts_risen : FD := mkD Go.Proofs.Tryz.f65 h65 65 F_facts_risen S_facts_risen T_facts_risen
theorem k_facts_risen : KM d_facts_risen := fun x => by kernel_rfl
theorem c_facts_risen : Cert E bodies sites facts_risen d_facts_risen := by refine ⟨?_,?_,?_,?_,?_,?_,sites_loops,?_,k_facts_risen,look_nil⟩ <;> kernel_rfl
def d_flow_walked : FD := mkD Go.Proofs.Tryz.f68 h68 68 F_flow_walked S_flow_walked T_flow_walked
theorem k_flow_walked : KM d_flow_walked := fun x => by kernel_rfl
theorem c_flow_walked : Cert E bodies sites flow_walked d_flow_walked := by refine ⟨?_,?_,?_,?_,?_,?_,sites_loops,?_,k_flow_walked,look_nil⟩ <;> kernel_rfl
def d_dom_over : FD := mkD Go.Proofs.Tryz.f71 h71 71 F_dom_over S_dom_over T_dom_over
theorem k_dom_over : KM d_dom_over := fun x => by kernel_rfl
theorem k_dom_over_0 : KL d_dom_over 0 L_dom_over_0 := fun p => by kernel_rfl
theorem k_dom_over_2 : KL d_dom_over 2 L_dom_over_2 := fun p => by kernel_rfl
theorem k_dom_over_4 : KL d_dom_over 4 L_dom_over_4 := fun p => by kernel_rfl
theorem c_dom_over : Cert E bodies sites dom_over d_dom_over := by refine ⟨?_,?_,?_,?_,?_,?_,sites_loops,?_,k_dom_over,look_cons' k_dom_over_0 (look_cons' k_dom_over_2 (look_cons' k_dom_over_4 (look_nil)))⟩ <;> kernel_rfl
def d_math_bits_Len : FD := mkD Go.Proofs.Tryz.f76 h76 76 F_math_bits_Len S_math_bits_Len T_math_bits_Len
theorem k_math_bits_Len : KM d_math_bits_Len := fun x => by kernel_rfl
theorem c_math_bits_Len : Cert E bodies sites math_bits_Len d_math_bits_Len := by refine ⟨?_,?_,?_,?_,?_,?_,sites_loops,?_,k_math_bits_Len,look_nil⟩ <;> kernel_rfl
def d_slices_insertionSortCmpFunc_api_Base : FD := mkD Go.Proofs.Tryz.f86 h86 86 F_slices_insertionSortCmpFunc_api_Base S_slices_insertionSortCmpFunc_api_Base T_slices_insertionSortCmpFunc_api_Base
theorem k_slices_insertionSortCmpFunc_api_Base : KM d_slices_insertionSortCmpFunc_api_Base := fun x => by kernel_rfl
theorem k_slices_insertionSortCmpFunc_api_Base_0 : KL d_slices_insertionSortCmpFunc_api_Base 0 L_slices_insertionSortCmpFunc_api_Base_0 := fun p => by kernel_rfl
theorem k_slices_insertionSortCmpFunc_api_Base_2 : KL d_slices_insertionSortCmpFunc_api_Base 2 L_slices_insertionSortCmpFunc_api_Base_2 := fun p => by kernel_rfl
theorem c_slices_insertionSortCmpFunc_api_Base : Cert E bodies sites slices_insertionSortCmpFunc_api_Base d_slices_insertionSortCmpFunc_api_Base := by refine ⟨?_,?_,?_,?_,?_,?_,sites_loops,?_,k_slices_insertionSortCmpFunc_api_Base,look_cons' k_slices_insertionSortCmpFunc_api_Base_0 (look_cons' k_slices_insertionSortCmpFunc_api_Base_2 (look_nil))⟩ <;> kernel_rfl
def d_slices_insertionSortOrdered_int : FD := mkD Go.Proofs.Tryz.f105 h105 105 F_slices_insertionSortOrdered_int S_slices_insertionSortOrdered_int T_slices_insertionSortOrdered_int
theorem k_slices_insertionSortOrdered_int : KM d_slices_insertionSortOrdered_int := fun x => by kernel_rfl
theorem k_slices_insertionSortOrdered_int_0 : KL d_slices_insertionSortOrdered_int 0 L_slices_insertionSortOrdered_int_0 := fun p => by kernel_rfl
theorem k_slices_insertionSortOrdered_int_2 : KL d_slices_insertionSortOrdered_int 2 L_slices_insertionSortOrdered_int_2 := fun p => by kernel_rfl
theorem c_slices_insertionSortOrdered_int : Cert E bodies sites slices_insertionSortOrdered_int d_slices_insertionSortOrdered_int := by refine ⟨?_,?_,?_,?_,?_,?_,sites_loops,?_,k_slices_insertionSortOrdered_int,look_cons' k_slices_insertionSortOrdered_int_0 (look_cons' k_slices_insertionSortOrdered_int_2 (look_nil))⟩ <;> kernel_rfl
def d_law30_read : FD := mkD Go.Proofs.Tryz.f8 h8 8 F_law30_read S_law30_read T_law30_read
theorem k_law30_read : KM d_law30_read := fun x => by kernel_rfl
theorem c_law30_read : Cert E bodies sites law30_read d_law30_read := by refine ⟨?_,?_,?_,?_,?_,?_,sites_loops,?_,k_law30_read,look_nil⟩ <;> kernel_rfl
def d_r12_Def : FD := mkD Go.Proofs.Tryz.f18 h18 18 F_r12_Def S_r12_Def T_r12_Def
theorem k_r12_Def : KM d_r12_Def := fun x => by kernel_rfl
theorem k_r12_Def_0 : KL d_r12_Def 0 L_r12_Def_0 := fun p => by kernel_rfl
theorem k_r12_Def_2 : KL d_r12_Def 2 L_r12_Def_2 := fun p => by kernel_rfl
theorem c_r12_Def : Cert E bodies sites r12_Def d_r12_Def := by refine ⟨?_,?_,?_,?_,?_,?_,sites_loops,?_,k_r12_Def,look_cons' k_r12_Def_0 (look_cons' k_r12_Def_2 (look_nil))⟩ <;> kernel_rfl
def d_wf_formed : FD := mkD Go.Proofs.Tryz.f22 h22 22 F_wf_formed S_wf_formed T_wf_formed
theorem k_wf_formed : KM d_wf_formed := fun x => by kernel_rfl
theorem k_wf_formed_0 : KL d_wf_formed 0 L_wf_formed_0 := fun p => by kernel_rfl
theorem k_wf_formed_2 : KL d_wf_formed 2 L_wf_formed_2 := fun p => by kernel_rfl
theorem k_wf_formed_4 : KL d_wf_formed 4 L_wf_formed_4 := fun p => by kernel_rfl
theorem k_wf_formed_6 : KL d_wf_formed 6 L_wf_formed_6 := fun p => by kernel_rfl
theorem k_wf_formed_8 : KL d_wf_formed 8 L_wf_formed_8 := fun p => by kernel_rfl
theorem k_wf_formed_10 : KL d_wf_formed 10 L_wf_formed_10 := fun p => by kernel_rfl
theorem c_wf_formed : Cert E bodies sites wf_formed d_wf_formed := by refine ⟨?_,?_,?_,?_,?_,?_,sites_loops,?_,k_wf_formed,look_cons' k_wf_formed_0 (look_cons' k_wf_formed_2 (look_cons' k_wf_formed_4 (look_cons' k_wf_formed_6 (look_cons' k_wf_formed_8 (look_cons' k_wf_formed_10 (look_nil))))))⟩ <;> kernel_rfl
def d_wf_flows : FD := mkD Go.Proofs.Tryz.f25 h25 25 F_wf_flows S_wf_flows T_wf_flows
theorem k_wf_flows : KM d_wf_flows := fun x => by kernel_rfl
theorem k_wf_flows_0 : KL d_wf_flows 0 L_wf_flows_0 := fun p => by kernel_rfl
theorem k_wf_flows_2 : KL d_wf_flows 2 L_wf_flows_2 := fun p => by kernel_rfl
theorem k_wf_flows_4 : KL d_wf_flows 4 L_wf_flows_4 := fun p => by kernel_rfl
theorem k_wf_flows_6 : KL d_wf_flows 6 L_wf_flows_6 := fun p => by kernel_rfl
theorem k_wf_flows_8 : KL d_wf_flows 8 L_wf_flows_8 := fun p => by kernel_rfl
theorem c_wf_flows : Cert E bodies sites wf_flows d_wf_flows := by refine ⟨?_,?_,?_,?_,?_,?_,sites_loops,?_,k_wf_flows,look_cons' k_wf_flows_0 (look_cons' k_wf_flows_2 (look_cons' k_wf_flows_4 (look_cons' k_wf_flows_6 (look_cons' k_wf_flows_8 (look_nil)))))⟩ <;> kernel_rfl
def d_ir_Types : FD := mkD Go.Proofs.Tryz.f28 h28 28 F_ir_Types S_ir_Types T_ir_Types
theorem k_ir_Types : KM d_ir_Types := fun x => by kernel_rfl
theorem k_ir_Types_0 : KL d_ir_Types 0 L_ir_Types_0 := fun p => by kernel_rfl
theorem k_ir_Types_2 : KL d_ir_Types 2 L_ir_Types_2 := fun p => by kernel_rfl
theorem c_ir_Types : Cert E bodies sites ir_Types d_ir_Types := by refine ⟨?_,?_,?_,?_,?_,?_,sites_loops,?_,k_ir_Types,look_cons' k_ir_Types_0 (look_cons' k_ir_Types_2 (look_nil))⟩ <;> kernel_rfl
def d_slices_Clone_Sint_int : FD := mkD Go.Proofs.Tryz.f31 h31 31 F_slices_Clone_Sint_int S_slices_Clone_Sint_int T_slices_Clone_Sint_int
theorem k_slices_Clone_Sint_int : KM d_slices_Clone_Sint_int := fun x => by kernel_rfl
theorem c_slices_Clone_Sint_int : Cert E bodies sites slices_Clone_Sint_int d_slices_Clone_Sint_int := by refine ⟨?_,?_,?_,?_,?_,?_,sites_loops,?_,k_slices_Clone_Sint_int,look_nil⟩ <;> kernel_rfl
def d_facts_Facts_effect : FD := mkD Go.Proofs.Tryz.f36 h36 36 F_facts_Facts_effect S_facts_Facts_effect T_facts_Facts_effect
theorem k_facts_Facts_effect : KM d_facts_Facts_effect := fun x => by kernel_rfl
theorem k_facts_Facts_effect_7000 : KL d_facts_Facts_effect 7000 L_facts_Facts_effect_7000 := fun p => by kernel_rfl
theorem k_facts_Facts_effect_7002 : KL d_facts_Facts_effect 7002 L_facts_Facts_effect_7002 := fun p => by kernel_rfl
theorem k_facts_Facts_effect_8001 : KL d_facts_Facts_effect 8001 L_facts_Facts_effect_8001 := fun p => by kernel_rfl
theorem k_facts_Facts_effect_8003 : KL d_facts_Facts_effect 8003 L_facts_Facts_effect_8003 := fun p => by kernel_rfl
theorem k_facts_Facts_effect_11000 : KL d_facts_Facts_effect 11000 L_facts_Facts_effect_11000 := fun p => by kernel_rfl
theorem k_facts_Facts_effect_8005 : KL d_facts_Facts_effect 8005 L_facts_Facts_effect_8005 := fun p => by kernel_rfl
theorem k_facts_Facts_effect_12000 : KL d_facts_Facts_effect 12000 L_facts_Facts_effect_12000 := fun p => by kernel_rfl
theorem k_facts_Facts_effect_9000 : KL d_facts_Facts_effect 9000 L_facts_Facts_effect_9000 := fun p => by kernel_rfl
theorem k_facts_Facts_effect_10000 : KL d_facts_Facts_effect 10000 L_facts_Facts_effect_10000 := fun p => by kernel_rfl
theorem c_facts_Facts_effect : Cert E bodies sites facts_Facts_effect d_facts_Facts_effect := by refine ⟨?_,?_,?_,?_,?_,?_,sites_loops,?_,k_facts_Facts_effect,look_cons' k_facts_Facts_effect_7000 (look_cons' k_facts_Facts_effect_7002 (look_cons' k_facts_Facts_effect_8001 (look_cons' k_facts_Facts_effect_8003 (look_cons' k_facts_Facts_effect_11000 (look_cons' k_facts_Facts_effect_8005 (look_cons' k_facts_Facts_effect_12000 (look_cons' k_facts_Facts_effect_9000 (look_cons' k_facts_Facts_effect_10000 (look_nil)))))))))⟩ <;> kernel_rfl
def d_wf_scalar : FD := mkD Go.Proofs.Tryz.f39 h39 39 F_wf_scalar S_wf_scalar T_wf_scalar
theorem k_wf_scalar : KM d_wf_scalar := fun x => by kernel_rfl
theorem c_wf_scalar : Cert E bodies sites wf_scalar d_wf_scalar := by refine ⟨?_,?_,?_,?_,?_,?_,sites_loops,?_,k_wf_scalar,look_nil⟩ <;> kernel_rfl
def d_wf_Ends : FD := mkD Go.Proofs.Tryz.f42 h42 42 F_wf_Ends S_wf_Ends T_wf_Ends
theorem k_wf_Ends : KM d_wf_Ends := fun x => by kernel_rfl
theorem c_wf_Ends : Cert E bodies sites wf_Ends d_wf_Ends := by refine ⟨?_,?_,?_,?_,?_,?_,sites_loops,?_,k_wf_Ends,look_nil⟩ <;> kernel_rfl
def d_flow_Prev : FD := mkD Go.Proofs.Tryz.f45 h45 45 F_flow_Prev S_flow_Prev T_flow_Prev
theorem k_flow_Prev : KM d_flow_Prev := fun x => by kernel_rfl
theorem k_flow_Prev_0 : KL d_flow_Prev 0 L_flow_Prev_0 := fun p => by kernel_rfl
theorem k_flow_Prev_2 : KL d_flow_Prev 2 L_flow_Prev_2 := fun p => by kernel_rfl
theorem c_flow_Prev : Cert E bodies sites flow_Prev d_flow_Prev := by refine ⟨?_,?_,?_,?_,?_,?_,sites_loops,?_,k_flow_Prev,look_cons' k_flow_Prev_0 (look_cons' k_flow_Prev_2 (look_nil))⟩ <;> kernel_rfl
def d_wf_fitting : FD := mkD Go.Proofs.Tryz.f49 h49 49 F_wf_fitting S_wf_fitting T_wf_fitting
theorem k_wf_fitting : KM d_wf_fitting := fun x => by kernel_rfl
theorem c_wf_fitting : Cert E bodies sites wf_fitting d_wf_fitting := by refine ⟨?_,?_,?_,?_,?_,?_,sites_loops,?_,k_wf_fitting,look_nil⟩ <;> kernel_rfl
def d_edit_Def : FD := mkD Go.Proofs.Tryz.f58 h58 58 F_edit_Def S_edit_Def T_edit_Def
theorem k_edit_Def : KM d_edit_Def := fun x => by kernel_rfl
theorem k_edit_Def_0 : KL d_edit_Def 0 L_edit_Def_0 := fun p => by kernel_rfl
theorem k_edit_Def_2 : KL d_edit_Def 2 L_edit_Def_2 := fun p => by kernel_rfl
theorem c_edit_Def : Cert E bodies sites edit_Def d_edit_Def := by refine ⟨?_,?_,?_,?_,?_,?_,sites_loops,?_,k_edit_Def,look_cons' k_edit_Def_0 (look_cons' k_edit_Def_2 (look_nil))⟩ <;> kernel_rfl
def d_wf_Mark : FD := mkD Go.Proofs.Tryz.f66 h66 66 F_wf_Mark S_wf_Mark T_wf_Mark
theorem k_wf_Mark : KM d_wf_Mark := fun x => by kernel_rfl
theorem c_wf_Mark : Cert E bodies sites wf_Mark d_wf_Mark := by refine ⟨?_,?_,?_,?_,?_,?_,sites_loops,?_,k_wf_Mark,look_nil⟩ <;> kernel_rfl
def d_flow_Next : FD := mkD Go.Proofs.Tryz.f69 h69 69 F_flow_Next S_flow_Next T_flow_Next
theorem k_flow_Next : KM d_flow_Next := fun x => by kernel_rfl
theorem k_flow_Next_0 : KL d_flow_Next 0 L_flow_Next_0 := fun p => by kernel_rfl
theorem c_flow_Next : Cert E bodies sites flow_Next d_flow_Next := by refine ⟨?_,?_,?_,?_,?_,?_,sites_loops,?_,k_flow_Next,look_cons' k_flow_Next_0 (look_nil)⟩ <;> kernel_rfl
def d_wf_rows : FD := mkD Go.Proofs.Tryz.f73 h73 73 F_wf_rows S_wf_rows T_wf_rows
theorem k_wf_rows : KM d_wf_rows := fun x => by kernel_rfl
theorem k_wf_rows_0 : KL d_wf_rows 0 L_wf_rows_0 := fun p => by kernel_rfl
theorem c_wf_rows : Cert E bodies sites wf_rows d_wf_rows := by refine ⟨?_,?_,?_,?_,?_,?_,sites_loops,?_,k_wf_rows,look_cons' k_wf_rows_0 (look_nil)⟩ <;> kernel_rfl
def d_facts_Func_Num : FD := mkD Go.Proofs.Tryz.f77 h77 77 F_facts_Func_Num S_facts_Func_Num T_facts_Func_Num
theorem k_facts_Func_Num : KM d_facts_Func_Num := fun x => by kernel_rfl
theorem c_facts_Func_Num : Cert E bodies sites facts_Func_Num d_facts_Func_Num := by refine ⟨?_,?_,?_,?_,?_,?_,sites_loops,?_,k_facts_Func_Num,look_nil⟩ <;> kernel_rfl
def d_flow_walker_visit : FD := mkD Go.Proofs.Tryz.f83 h83 83 F_flow_walker_visit S_flow_walker_visit T_flow_walker_visit
theorem k_flow_walker_visit : KM d_flow_walker_visit := fun x => by kernel_rfl
theorem k_flow_walker_visit_0 : KL d_flow_walker_visit 0 L_flow_walker_visit_0 := fun p => by kernel_rfl
theorem c_flow_walker_visit : Cert E bodies sites flow_walker_visit d_flow_walker_visit := by refine ⟨?_,?_,?_,?_,?_,?_,sites_loops,?_,k_flow_walker_visit,look_cons' k_flow_walker_visit_0 (look_nil)⟩ <;> kernel_rfl
def d_math_bits_Len64 : FD := mkD Go.Proofs.Tryz.f95 h95 95 F_math_bits_Len64 S_math_bits_Len64 T_math_bits_Len64
theorem k_math_bits_Len64 : KM d_math_bits_Len64 := fun x => by kernel_rfl
theorem c_math_bits_Len64 : Cert E bodies sites math_bits_Len64 d_math_bits_Len64 := by refine ⟨?_,?_,?_,?_,?_,?_,sites_loops,?_,k_math_bits_Len64,look_nil⟩ <;> kernel_rfl
def progG : BT Fn := (.node 45 F_flow_Prev (.node 27 F_wf_typed (.node 19 F_facts_Facts_Effects (.node 9 F_keep_Bools (.node 7 F_r12_NumOf (.node 6 F_keep_Ops .nil .nil) (.node 8 F_law30_read .nil .nil)) (.node 18 F_r12_Def (.node 13 F_facts_Of .nil .nil) .nil)) (.node 24 F_wf_known (.node 22 F_wf_formed (.node 20 F_glob_rest .nil .nil) (.node 23 F_wf_named .nil .nil)) (.node 26 F_wf_used (.node 25 F_wf_flows .nil .nil) .nil))) (.node 38 F_ir_Size (.node 33 F_ir_copyFunc (.node 29 F_facts_Func_bases (.node 28 F_ir_Types .nil .nil) (.node 30 F_facts_Func_offs .nil .nil)) (.node 37 F_facts_weight (.node 36 F_facts_Facts_effect .nil .nil) .nil)) (.node 42 F_wf_Ends (.node 40 F_wf_shaped (.node 39 F_wf_scalar .nil .nil) (.node 41 F_wf_Name .nil .nil)) (.node 44 F_flow_Reach (.node 43 F_slices_Contains_Sbool_bool .nil .nil) .nil)))) (.node 70 F_dom_nearest (.node 58 F_edit_Def (.node 52 F_slices_SortFunc_Sapi_Base_api_Base (.node 48 F_wf_ahead (.node 47 F_dom_Over .nil .nil) (.node 49 F_wf_fitting .nil .nil)) (.node 56 F_ir_copyIns (.node 55 F_facts_Func_off .nil .nil) .nil)) (.node 67 F_slices_Index_Sbool_bool (.node 65 F_facts_risen (.node 64 F_facts_Facts_At .nil .nil) (.node 66 F_wf_Mark .nil .nil)) (.node 69 F_flow_Next (.node 68 F_flow_walked .nil .nil) .nil))) (.node 83 F_flow_walker_visit (.node 76 F_math_bits_Len (.node 73 F_wf_rows (.node 71 F_dom_over .nil .nil) (.node 75 F_slices_pdqsortCmpFunc_api_Base .nil .nil)) (.node 81 F_slices_Sort_Sint_int (.node 77 F_facts_Func_Num .nil .nil) .nil)) (.node 95 F_math_bits_Len64 (.node 86 F_slices_insertionSortCmpFunc_api_Base (.node 85 F_dom_without .nil .nil) .nil) (.node 105 F_slices_insertionSortOrdered_int (.node 97 F_slices_pdqsortOrdered_int .nil .nil) .nil)))))
theorem progG_all : AllC E bodies sites progG := ⟨⟨d_flow_Prev, by kernel_rfl, c_flow_Prev, by kernel_rfl⟩, ⟨⟨d_wf_typed, by kernel_rfl, c_wf_typed, by kernel_rfl⟩, ⟨⟨d_facts_Facts_Effects, by kernel_rfl, c_facts_Facts_Effects, by kernel_rfl⟩, ⟨⟨d_keep_Bools, by kernel_rfl, c_keep_Bools, by kernel_rfl⟩, ⟨⟨d_r12_NumOf, by kernel_rfl, c_r12_NumOf, by kernel_rfl⟩, ⟨⟨d_keep_Ops, by kernel_rfl, c_keep_Ops, by kernel_rfl⟩, trivial, trivial⟩, ⟨⟨d_law30_read, by kernel_rfl, c_law30_read, by kernel_rfl⟩, trivial, trivial⟩⟩, ⟨⟨d_r12_Def, by kernel_rfl, c_r12_Def, by kernel_rfl⟩, ⟨⟨d_facts_Of, by kernel_rfl, c_facts_Of, by kernel_rfl⟩, trivial, trivial⟩, trivial⟩⟩, ⟨⟨d_wf_known, by kernel_rfl, c_wf_known, by kernel_rfl⟩, ⟨⟨d_wf_formed, by kernel_rfl, c_wf_formed, by kernel_rfl⟩, ⟨⟨d_glob_rest, by kernel_rfl, c_glob_rest, by kernel_rfl⟩, trivial, trivial⟩, ⟨⟨d_wf_named, by kernel_rfl, c_wf_named, by kernel_rfl⟩, trivial, trivial⟩⟩, ⟨⟨d_wf_used, by kernel_rfl, c_wf_used, by kernel_rfl⟩, ⟨⟨d_wf_flows, by kernel_rfl, c_wf_flows, by kernel_rfl⟩, trivial, trivial⟩, trivial⟩⟩⟩, ⟨⟨d_ir_Size, by kernel_rfl, c_ir_Size, by kernel_rfl⟩, ⟨⟨d_ir_copyFunc, by kernel_rfl, c_ir_copyFunc, by kernel_rfl⟩, ⟨⟨d_facts_Func_bases, by kernel_rfl, c_facts_Func_bases, by kernel_rfl⟩, ⟨⟨d_ir_Types, by kernel_rfl, c_ir_Types, by kernel_rfl⟩, trivial, trivial⟩, ⟨⟨d_facts_Func_offs, by kernel_rfl, c_facts_Func_offs, by kernel_rfl⟩, trivial, trivial⟩⟩, ⟨⟨d_facts_weight, by kernel_rfl, c_facts_weight, by kernel_rfl⟩, ⟨⟨d_facts_Facts_effect, by kernel_rfl, c_facts_Facts_effect, by kernel_rfl⟩, trivial, trivial⟩, trivial⟩⟩, ⟨⟨d_wf_Ends, by kernel_rfl, c_wf_Ends, by kernel_rfl⟩, ⟨⟨d_wf_shaped, by kernel_rfl, c_wf_shaped, by kernel_rfl⟩, ⟨⟨d_wf_scalar, by kernel_rfl, c_wf_scalar, by kernel_rfl⟩, trivial, trivial⟩, ⟨⟨d_wf_Name, by kernel_rfl, c_wf_Name, by kernel_rfl⟩, trivial, trivial⟩⟩, ⟨⟨d_flow_Reach, by kernel_rfl, c_flow_Reach, by kernel_rfl⟩, ⟨⟨d_slices_Contains_Sbool_bool, by kernel_rfl, c_slices_Contains_Sbool_bool, by kernel_rfl⟩, trivial, trivial⟩, trivial⟩⟩⟩⟩, ⟨⟨d_dom_nearest, by kernel_rfl, c_dom_nearest, by kernel_rfl⟩, ⟨⟨d_edit_Def, by kernel_rfl, c_edit_Def, by kernel_rfl⟩, ⟨⟨d_slices_SortFunc_Sapi_Base_api_Base, by kernel_rfl, c_slices_SortFunc_Sapi_Base_api_Base, by kernel_rfl⟩, ⟨⟨d_wf_ahead, by kernel_rfl, c_wf_ahead, by kernel_rfl⟩, ⟨⟨d_dom_Over, by kernel_rfl, c_dom_Over, by kernel_rfl⟩, trivial, trivial⟩, ⟨⟨d_wf_fitting, by kernel_rfl, c_wf_fitting, by kernel_rfl⟩, trivial, trivial⟩⟩, ⟨⟨d_ir_copyIns, by kernel_rfl, c_ir_copyIns, by kernel_rfl⟩, ⟨⟨d_facts_Func_off, by kernel_rfl, c_facts_Func_off, by kernel_rfl⟩, trivial, trivial⟩, trivial⟩⟩, ⟨⟨d_slices_Index_Sbool_bool, by kernel_rfl, c_slices_Index_Sbool_bool, by kernel_rfl⟩, ⟨⟨d_facts_risen, by kernel_rfl, c_facts_risen, by kernel_rfl⟩, ⟨⟨d_facts_Facts_At, by kernel_rfl, c_facts_Facts_At, by kernel_rfl⟩, trivial, trivial⟩, ⟨⟨d_wf_Mark, by kernel_rfl, c_wf_Mark, by kernel_rfl⟩, trivial, trivial⟩⟩, ⟨⟨d_flow_Next, by kernel_rfl, c_flow_Next, by kernel_rfl⟩, ⟨⟨d_flow_walked, by kernel_rfl, c_flow_walked, by kernel_rfl⟩, trivial, trivial⟩, trivial⟩⟩⟩, ⟨⟨d_flow_walker_visit, by kernel_rfl, c_flow_walker_visit, by kernel_rfl⟩, ⟨⟨d_math_bits_Len, by kernel_rfl, c_math_bits_Len, by kernel_rfl⟩, ⟨⟨d_wf_rows, by kernel_rfl, c_wf_rows, by kernel_rfl⟩, ⟨⟨d_dom_over, by kernel_rfl, c_dom_over, by kernel_rfl⟩, trivial, trivial⟩, ⟨⟨d_slices_pdqsortCmpFunc_api_Base, by kernel_rfl, c_slices_pdqsortCmpFunc_api_Base, by kernel_rfl⟩, trivial, trivial⟩⟩, ⟨⟨d_slices_Sort_Sint_int, by kernel_rfl, c_slices_Sort_Sint_int, by kernel_rfl⟩, ⟨⟨d_facts_Func_Num, by kernel_rfl, c_facts_Func_Num, by kernel_rfl⟩, trivial, trivial⟩, trivial⟩⟩, ⟨⟨d_math_bits_Len64, by kernel_rfl, c_math_bits_Len64, by kernel_rfl⟩, ⟨⟨d_slices_insertionSortCmpFunc_api_Base, by kernel_rfl, c_slices_insertionSortCmpFunc_api_Base, by kernel_rfl⟩, ⟨⟨d_dom_without, by kernel_rfl, c_dom_without, by kernel_rfl⟩, trivial, trivial⟩, trivial⟩, ⟨⟨d_slices_insertionSortOrdered_int, by kernel_rfl, c_slices_insertionSortOrdered_int, by kernel_rfl⟩, ⟨⟨d_slices_pdqsortOrdered_int, by kernel_rfl, c_slices_pdqsortOrdered_int, by kernel_rfl⟩, trivial, trivial⟩, trivial⟩⟩⟩⟩⟩
end
end Go.Eng.G
