/- Part of the proof. -/
import Derived.Test.YtpipdilhgmolhadGreatTrA
set_option linter.unusedVariables false
namespace Go.Eng.I
open Go.Eng
noncomputable section
def S_facts_Facts_effect : STab := [(13000, fun p => ⟨(t0 (t0 (t0 (t0 Z (t0 Z (t0 (t0 (t0 Z (t0 Z (t0 (t0 Z (t0 (t0 (t0 Z (t1 (.pb 7 0 0))) Z) Z)) Z))) Z) Z))) (t0 (t1 (nI p 0)) Z)) Z) (t2 (.fn 102 [.pb 7 0 0, .pb 8 0 0, .pb 3 0 0, .pb 4 0 0, .pb 5 0 0]) (t0 Z (t0 (t1 (nI p 1)) Z)) (t0 (t0 (t1 (fL 28 lt2 p 2)) Z) (t0 (t0 Z (t0 (t0 (t0 Z (t0 Z (t0 (t0 Z (t0 (t0 (t0 Z (t1 (.pb 6 0 0))) Z) Z)) Z))) Z) Z)) Z)))), [(3, ⟨0, [.pz [] lt4 (gD p 3) 0], none⟩), (4, ⟨0, [nI p 4], none⟩), (5, ⟨0, [fL 78 lt13 p 5], none⟩), (6, ⟨0, [.nils, .nils, .nils, .nils, nB p 6], none⟩), (7, ⟨0, [.vw 300448 0 [], .vw 300449 0 [], .vw 300450 0 [], .vw 300451 0 [], nB p 7], none⟩), (8, ⟨0, [.pz [] lt7 (gD p 8) 0], none⟩)], [aR 300448 3 [.int .i64] (gL p 9), aR 300449 3 [.int .i64] (gL p 10), aR 300450 3 [.int .i64] (gL p 11), aR 300451 3 [.int .i64] (gL p 12)], 1⟩),
 (13002, fun p => ⟨(t0 (t0 (t0 (t0 Z (t0 Z (t0 (t0 (t0 Z (t0 Z (t0 (t0 Z (t0 (t0 (t0 Z (t1 (.pb 7 0 0))) Z) Z)) Z))) Z) Z))) (t0 (t1 (nI p 0)) (t1 (nI p 1)))) (t0 (t0 Z (t1 (fL 25 lt3 p 2))) Z)) (t2 (.fn 102 [.pb 7 0 0, .pb 8 0 0, .pb 3 0 0, .pb 4 0 0, .pb 5 0 0]) (t0 Z (t0 (t1 (nI p 3)) Z)) (t0 (t0 (t1 (fL 28 lt2 p 4)) (t1 (nI p 5))) (t0 (t0 Z (t0 (t0 (t0 Z (t0 Z (t0 (t0 Z (t0 (t0 (t0 Z (t1 (.pb 6 0 0))) Z) Z)) Z))) Z) Z)) Z)))), [(3, ⟨0, [.pz [] lt4 (gD p 6) 0], none⟩), (4, ⟨0, [nI p 7], none⟩), (5, ⟨0, [fL 78 lt13 p 8], none⟩), (6, ⟨0, [.nils, .nils, .nils, .nils, nB p 9], none⟩), (7, ⟨0, [.vw 300448 0 [], .vw 300449 0 [], .vw 300450 0 [], .vw 300451 0 [], nB p 10], none⟩), (8, ⟨0, [.pz [] lt7 (gD p 11) 0], none⟩)], [aR 300448 3 [.int .i64] (gL p 12), aR 300449 3 [.int .i64] (gL p 13), aR 300450 3 [.int .i64] (gL p 14), aR 300451 3 [.int .i64] (gL p 15)], 1⟩),
 (14001, fun p => ⟨(t0 (t2 (.pb 7 0 0) (t0 (t2 (fL 3 [.int .i64] p 0) Z (t0 Z (t0 (t0 (t0 Z (t0 Z (t0 (t0 Z (t0 (t0 (t0 Z (t1 (.pb 7 0 0))) Z) Z)) Z))) Z) Z))) (t0 (t0 Z (t0 Z (t0 Z (t0 (t0 Z (t0 (t0 Z (t0 Z (t0 (t0 Z (t1 (nI p 1))) Z))) Z)) Z)))) (t0 Z (t0 Z (t0 Z (t0 (t0 Z (t0 (t0 Z (t0 Z (t0 (t0 Z (t1 (nI p 2))) Z))) Z)) Z)))))) (t2 (.pb 5 0 0) (t0 Z (t0 Z (t0 Z (t0 Z (t0 (t0 Z (t0 (t0 Z (t0 Z (t0 (t0 Z (t1 (fL 25 lt3 p 3))) Z))) Z)) Z))))) (t0 Z (t0 Z (t1 (nI p 4)))))) (t2 (.pb 8 0 0) (t0 Z (t0 (t0 Z (t0 Z (t0 Z (t0 (t0 Z (t0 (t0 Z (t0 Z (t0 (t0 Z (t1 (nI p 5))) Z))) Z)) Z)))) (t0 Z (t1 (.vw 27061000000 0 []))))) (t0 (t0 (t0 (t0 Z (t0 Z (t0 (t0 Z (t0 (t0 Z (t0 Z (t0 (t0 Z (t1 (.fn 102 [.pb 7 0 0, .pb 8 0 0, .pb 3 0 0, .pb 4 0 0, .pb 5 0 0]))) Z))) Z)) Z))) (t0 Z (t0 Z (t0 (t0 Z (t0 (t0 Z (t0 Z (t0 (t0 Z (t1 (fL 28 lt2 p 6))) Z))) Z)) Z)))) (t0 Z (t0 Z (t0 Z (t0 (t0 Z (t0 (t0 Z (t0 Z (t0 (t0 Z (t1 (nI p 7))) Z))) Z)) Z))))) (t0 (t0 Z (t0 (t0 (t0 Z (t0 Z (t0 (t0 Z (t0 (t0 (t0 Z (t1 (.pb 6 0 0))) Z) Z)) Z))) Z) Z)) (t0 Z (t1 (nI p 8))))))), [(3, ⟨0, [.pz [] lt4 (gD p 9) 0], none⟩), (4, ⟨0, [nI p 10], none⟩), (5, ⟨0, [fL 78 lt13 p 11], none⟩), (6, ⟨0, [.nils, .nils, .nils, .nils, nB p 12], none⟩), (7, ⟨0, [.vw 300448 0 [], .vw 300449 0 [], .vw 300450 0 [], .vw 300451 0 [], nB p 13], none⟩), (8, ⟨0, [.pz [] lt7 (gD p 14) 0], none⟩)], [aR 300448 3 [.int .i64] (gL p 15), aR 300449 3 [.int .i64] (gL p 16), aR 300450 3 [.int .i64] (gL p 17), aR 300451 3 [.int .i64] (gL p 18), aR 27061000000 3 [.int .i64] (gL p 19)], 1⟩),
 (14003, fun p => ⟨(t0 (t2 (.pb 7 0 0) (t0 (t2 (fL 3 [.int .i64] p 0) Z (t0 Z (t0 (t0 (t0 Z (t0 Z (t0 (t0 Z (t0 (t0 (t0 Z (t1 (.pb 7 0 0))) Z) Z)) Z))) Z) Z))) (t0 (t0 Z (t0 Z (t0 Z (t0 (t0 Z (t0 (t0 Z (t0 Z (t0 (t0 Z (t1 (nI p 1))) Z))) Z)) Z)))) (t0 Z (t0 (t1 (nI p 2)) (t0 Z (t0 (t0 Z (t0 (t0 Z (t0 Z (t0 (t0 Z (t1 (nI p 3))) Z))) Z)) Z)))))) (t2 (.pb 5 0 0) (t0 Z (t0 Z (t0 Z (t0 Z (t0 (t0 Z (t0 (t0 Z (t0 Z (t0 (t0 Z (t1 (fL 25 lt3 p 4))) Z))) Z)) Z))))) (t0 Z (t0 Z (t1 (nI p 5)))))) (t2 (.pb 8 0 0) (t0 Z (t0 (t0 Z (t0 Z (t0 Z (t0 (t0 Z (t0 (t0 Z (t0 Z (t0 (t0 Z (t1 (nI p 6))) Z))) Z)) Z)))) (t0 Z (t2 (.vw 27061000000 0 []) (t1 (nI p 7)) Z)))) (t0 (t2 (.pb 27010 0 0) (t0 (t0 Z (t0 Z (t0 (t0 Z (t0 (t0 Z (t0 Z (t0 (t0 Z (t1 (.fn 102 [.pb 7 0 0, .pb 8 0 0, .pb 3 0 0, .pb 4 0 0, .pb 5 0 0]))) Z))) Z)) Z))) (t0 Z (t0 Z (t0 (t0 Z (t0 (t0 Z (t0 Z (t0 (t0 Z (t1 (fL 28 lt2 p 8))) Z))) Z)) Z)))) (t0 Z (t0 (t1 (fL 3 [.int .i64] p 9)) (t0 Z (t0 (t0 Z (t0 (t0 Z (t0 Z (t0 (t0 Z (t1 (nI p 10))) Z))) Z)) Z))))) (t0 (t0 Z (t0 (t0 (t0 Z (t0 Z (t0 (t0 Z (t0 (t0 (t0 Z (t1 (.pb 6 0 0))) Z) Z)) Z))) Z) Z)) (t0 Z (t1 (nI p 11))))))), [(3, ⟨0, [.pz [] lt4 (gD p 12) 0], none⟩), (4, ⟨0, [nI p 13], none⟩), (5, ⟨0, [fL 78 lt13 p 14], none⟩), (6, ⟨0, [.nils, .nils, .nils, .nils, nB p 15], none⟩), (7, ⟨0, [.vw 300448 0 [], .vw 300449 0 [], .vw 300450 0 [], .vw 300451 0 [], nB p 16], none⟩), (8, ⟨0, [.pz [] lt7 (gD p 17) 0], none⟩), (27010, ⟨0, [fL 3 [.int .i64] p 18, fL 3 [.int .i64] p 19, fL 3 [.int .i64] p 20, fL 3 [.int .i64] p 21, nB p 22], none⟩)], [aR 300448 3 [.int .i64] (gL p 23), aR 300449 3 [.int .i64] (gL p 24), aR 300450 3 [.int .i64] (gL p 25), aR 300451 3 [.int .i64] (gL p 26), aR 27061000000 3 [.int .i64] (gL p 27)], 1⟩),
 (17000, fun p => ⟨(t0 (t2 (.pb 7 0 0) (t0 (t0 Z (t0 Z (t0 (t0 (t0 Z (t0 Z (t0 (t0 Z (t0 (t0 (t0 Z (t1 (.pb 7 0 0))) Z) Z)) Z))) (t0 Z (t0 (t0 (t0 Z (t0 (t0 (t0 (t0 (t1 (fL 3 [.int .i64] p 0)) Z) Z) Z) Z)) Z) Z))) Z))) (t0 (t0 Z (t0 Z (t0 Z (t0 (t0 Z (t0 (t0 Z (t0 Z (t0 (t0 Z (t1 (nI p 1))) Z))) Z)) Z)))) (t0 (t0 Z (t0 (t0 (t0 Z (t0 (t0 Z (t0 (t0 (t0 (t0 (t1 (nI p 2)) Z) Z) Z) Z)) Z)) Z) Z)) (t0 Z (t0 Z (t0 (t0 Z (t0 (t0 Z (t0 Z (t0 (t0 Z (t1 (nI p 3))) Z))) Z)) Z)))))) (t0 (t2 (nI p 4) (t0 Z (t0 (t0 Z (t0 Z (t0 (t0 (t0 Z (t0 (t0 (t0 (t0 (t1 (.pb 7 0 0)) Z) Z) Z) Z)) Z) Z))) Z)) (t0 Z (t0 Z (t0 Z (t0 (t0 Z (t0 (t0 Z (t0 Z (t0 (t0 Z (t1 (fL 25 lt3 p 5))) Z))) Z)) Z))))) (t0 (t0 Z (t0 (t0 Z (t0 Z (t0 (t0 (t0 Z (t0 (t0 (t0 (t0 (t1 (.pb 5 0 0)) Z) Z) Z) Z)) Z) Z))) Z)) (t0 (t0 (t0 (t0 (t0 Z (t0 (t0 Z (t0 (t0 (t0 (t0 (t1 (nI p 6)) Z) Z) Z) Z)) Z)) Z) Z) Z) Z)))) (t2 (.pb 7 0 2) (t0 (t1 (fL 107 [.int .i64, .int .i64] p 7)) (t0 (t0 Z (t0 Z (t0 Z (t0 (t0 Z (t0 (t0 Z (t0 Z (t0 (t0 Z (t1 (nI p 8))) Z))) Z)) Z)))) (t0 (t0 (t0 (t0 (t0 Z (t0 (t0 Z (t0 (t0 (t0 (t0 (t1 (.vw 27061000000 0 [])) Z) Z) Z) Z)) Z)) Z) Z) (t0 (t0 (t0 Z (t0 (t0 Z (t0 (t0 (t0 (t0 (t1 (nI p 9)) Z) Z) Z) Z)) Z)) Z) Z)) Z))) (t0 (t2 (nI p 10) (t0 (t0 Z (t0 Z (t0 (t0 Z (t0 (t0 Z (t0 Z (t0 (t0 Z (t1 (.fn 102 [.pb 7 0 0, .pb 8 0 0, .pb 3 0 0, .pb 4 0 0, .pb 5 0 0]))) Z))) Z)) Z))) (t0 (t0 Z (t0 Z (t0 (t0 (t0 Z (t0 (t0 (t0 (t0 (t1 (.pb 8 0 0)) Z) Z) Z) Z)) Z) Z))) (t0 Z (t0 (t0 Z (t0 (t0 Z (t0 Z (t0 (t0 Z (t1 (fL 28 lt2 p 11))) Z))) Z)) Z)))) (t0 (t0 Z (t0 (t0 (t0 Z (t0 (t0 Z (t0 (t0 (t0 (t0 (t1 (fL 3 [.int .i64] p 12)) Z) Z) Z) Z)) Z)) Z) Z)) (t0 (t0 Z (t0 Z (t0 (t0 (t0 Z (t0 (t0 (t0 (t0 (t1 (.pb 27010 0 0)) Z) Z) Z) Z)) Z) Z))) (t0 Z (t0 (t0 Z (t0 (t0 Z (t0 Z (t0 (t0 Z (t1 (nI p 13))) Z))) Z)) Z))))) (t0 (t0 Z (t0 (t0 (t0 Z (t0 Z (t0 (t0 Z (t0 (t0 (t0 Z (t1 (.pb 6 0 0))) Z) Z)) Z))) Z) Z)) (t0 (t0 (t0 (t0 (t0 Z (t0 (t0 Z (t0 (t0 (t0 (t0 (t1 (nI p 14)) Z) Z) Z) Z)) Z)) Z) Z) Z) Z))))), [(3, ⟨0, [.pz [] lt4 (gD p 15) 0], none⟩), (4, ⟨0, [nI p 16], none⟩), (5, ⟨0, [fL 78 lt13 p 17], none⟩), (6, ⟨0, [.nils, .nils, .nils, .nils, nB p 18], none⟩), (7, ⟨0, [.vw 300448 0 [], .vw 300449 0 [], .vw 300450 0 [], .vw 300451 0 [], nB p 19], none⟩), (8, ⟨0, [.pz [] lt7 (gD p 20) 0], none⟩), (27010, ⟨0, [fL 3 [.int .i64] p 21, fL 3 [.int .i64] p 22, fL 3 [.int .i64] p 23, fL 3 [.int .i64] p 24, nB p 25], none⟩)], [aR 300448 3 [.int .i64] (gL p 26), aR 300449 3 [.int .i64] (gL p 27), aR 300450 3 [.int .i64] (gL p 28), aR 300451 3 [.int .i64] (gL p 29), aR 27061000000 3 [.int .i64] (gL p 30)], 1⟩),
 (14005, fun p => ⟨(t0 (t2 (.pb 7 0 0) (t0 (t2 (fL 3 [.int .i64] p 0) Z (t0 Z (t0 (t0 (t0 Z (t0 Z (t0 (t0 Z (t0 (t0 (t0 Z (t1 (.pb 7 0 0))) Z) Z)) Z))) Z) Z))) (t0 (t0 Z (t0 Z (t0 Z (t0 (t0 Z (t0 (t0 Z (t0 Z (t0 (t0 Z (t1 (nI p 1))) Z))) Z)) Z)))) (t0 Z (t0 Z (t0 Z (t0 (t0 Z (t0 (t0 Z (t0 Z (t0 (t0 Z (t1 (nI p 2))) Z))) Z)) Z)))))) (t2 (.pb 5 0 0) (t0 (t0 Z (t0 Z (t1 (nI p 3)))) (t0 Z (t0 Z (t0 Z (t0 (t0 Z (t0 (t0 Z (t0 Z (t0 (t0 Z (t1 (fL 25 lt3 p 4))) Z))) Z)) Z))))) (t0 Z (t0 Z (t1 (nI p 5)))))) (t2 (.pb 8 0 0) (t0 (t0 (t0 Z (t0 Z (t1 (fL 3 [.int .i64] p 6)))) Z) (t0 (t0 Z (t0 Z (t0 Z (t0 (t0 Z (t0 (t0 Z (t0 Z (t0 (t0 Z (t1 (nI p 7))) Z))) Z)) Z)))) (t0 Z (t1 (.vw 27061000000 0 []))))) (t0 (t0 (t0 (t0 Z (t0 Z (t0 (t0 Z (t0 (t0 Z (t0 Z (t0 (t0 Z (t1 (.fn 102 [.pb 7 0 0, .pb 8 0 0, .pb 3 0 0, .pb 4 0 0, .pb 5 0 0]))) Z))) Z)) Z))) (t0 Z (t2 (nI p 8) Z (t0 (t0 Z (t0 (t0 Z (t0 Z (t0 (t0 Z (t1 (fL 28 lt2 p 9))) Z))) Z)) Z)))) (t0 Z (t0 Z (t0 Z (t0 (t0 Z (t0 (t0 Z (t0 Z (t0 (t0 Z (t1 (nI p 10))) Z))) Z)) Z))))) (t0 (t0 Z (t0 (t0 (t0 Z (t0 Z (t0 (t0 Z (t0 (t0 (t0 Z (t1 (.pb 6 0 0))) Z) Z)) Z))) Z) Z)) (t0 Z (t1 (nI p 11))))))), [(3, ⟨0, [.pz [] lt4 (gD p 12) 0], none⟩), (4, ⟨0, [nI p 13], none⟩), (5, ⟨0, [fL 78 lt13 p 14], none⟩), (6, ⟨0, [.nils, .nils, .nils, .nils, nB p 15], none⟩), (7, ⟨0, [.vw 300448 0 [], .vw 300449 0 [], .vw 300450 0 [], .vw 300451 0 [], nB p 16], none⟩), (8, ⟨0, [.pz [] lt7 (gD p 17) 0], none⟩)], [aR 300448 3 [.int .i64] (gL p 18), aR 300449 3 [.int .i64] (gL p 19), aR 300450 3 [.int .i64] (gL p 20), aR 300451 3 [.int .i64] (gL p 21), aR 27061000000 3 [.int .i64] (gL p 22)], 1⟩),
 (18000, fun p => ⟨(t0 (t2 (.pb 7 0 1) (t0 (t0 Z (t0 (t0 Z (t0 (t0 Z (t0 (t0 (t0 Z (t0 Z (t0 (t0 (t0 (t1 (fL 3 [.int .i64] p 0)) Z) Z) Z))) Z) Z)) Z)) (t0 (t0 (t0 Z (t0 Z (t0 (t0 Z (t0 (t0 (t0 Z (t1 (.pb 7 0 0))) Z) Z)) Z))) Z) Z))) (t0 (t0 Z (t0 Z (t0 Z (t0 (t0 Z (t0 (t0 Z (t0 Z (t0 (t0 Z (t1 (nI p 1))) Z))) Z)) Z)))) (t0 Z (t0 Z (t0 Z (t0 (t0 Z (t0 (t0 Z (t0 Z (t0 (t0 Z (t1 (nI p 2))) Z))) Z)) Z)))))) (t0 (t2 (nI p 3) (t0 (t0 Z (t0 (t0 Z (t0 (t0 (t0 Z (t0 Z (t0 (t0 (t0 (t1 (.pb 7 0 0)) Z) Z) Z))) Z) Z)) Z)) (t0 (t0 (t0 (t0 Z (t0 (t0 Z (t0 Z (t0 (t0 (t0 (t1 (nI p 4)) Z) Z) Z))) Z)) Z) Z) Z)) (t0 Z (t0 Z (t0 Z (t0 (t0 Z (t0 (t0 Z (t0 Z (t0 (t0 Z (t1 (fL 25 lt3 p 5))) Z))) Z)) Z))))) (t0 (t0 (t0 Z (t0 (t0 Z (t0 (t0 (t0 Z (t0 Z (t0 (t0 (t0 (t1 (.pb 5 0 0)) Z) Z) Z))) Z) Z)) Z)) Z) (t0 Z (t0 (t0 Z (t0 Z (t0 (t0 (t0 Z (t0 Z (t0 (t0 (t0 (t1 (nI p 6)) Z) Z) Z))) Z) Z))) Z))))) (t2 (.pb 7 0 3) (t0 (t2 (fL 107 [.int .i64, .int .i64] p 7) (t0 Z (t0 (t0 (t0 (t0 Z (t0 (t0 Z (t0 Z (t0 (t0 (t0 (t1 (fL 3 [.int .i64] p 8)) Z) Z) Z))) Z)) Z) Z) Z)) Z) (t0 (t0 Z (t0 Z (t0 Z (t0 (t0 Z (t0 (t0 Z (t0 Z (t0 (t0 Z (t1 (nI p 9))) Z))) Z)) Z)))) (t0 Z (t0 (t0 Z (t0 Z (t0 (t0 (t0 Z (t0 Z (t0 (t0 (t0 (t1 (.vw 27061000000 0 [])) Z) Z) Z))) Z) Z))) Z)))) (t0 (t2 (nI p 10) (t0 (t0 Z (t0 (t0 Z (t0 (t0 (t0 Z (t0 Z (t0 (t0 (t0 (t1 (.pb 8 0 0)) Z) Z) Z))) Z) Z)) (t0 (t0 Z (t0 (t0 Z (t0 Z (t0 (t0 Z (t1 (.fn 102 [.pb 7 0 0, .pb 8 0 0, .pb 3 0 0, .pb 4 0 0, .pb 5 0 0]))) Z))) Z)) Z))) (t0 (t0 (t0 (t0 Z (t0 (t0 Z (t0 Z (t0 (t0 (t0 (t1 (nI p 11)) Z) Z) Z))) Z)) Z) Z) (t0 Z (t0 (t0 Z (t0 (t0 Z (t0 Z (t0 (t0 Z (t1 (fL 28 lt2 p 12))) Z))) Z)) Z)))) (t0 Z (t0 Z (t0 Z (t0 (t0 Z (t0 (t0 Z (t0 Z (t0 (t0 Z (t1 (nI p 13))) Z))) Z)) Z))))) (t0 (t0 Z (t0 (t0 (t0 Z (t0 Z (t0 (t0 Z (t0 (t0 (t0 Z (t1 (.pb 6 0 0))) Z) Z)) Z))) Z) Z)) (t0 Z (t0 (t0 Z (t0 Z (t0 (t0 (t0 Z (t0 Z (t0 (t0 (t0 (t1 (nI p 14)) Z) Z) Z))) Z) Z))) Z)))))), [(3, ⟨0, [.pz [] lt4 (gD p 15) 0], none⟩), (4, ⟨0, [nI p 16], none⟩), (5, ⟨0, [fL 78 lt13 p 17], none⟩), (6, ⟨0, [.nils, .nils, .nils, .nils, nB p 18], none⟩), (7, ⟨0, [.vw 300448 0 [], .vw 300449 0 [], .vw 300450 0 [], .vw 300451 0 [], nB p 19], none⟩), (8, ⟨0, [.pz [] lt7 (gD p 20) 0], none⟩)], [aR 300448 3 [.int .i64] (gL p 21), aR 300449 3 [.int .i64] (gL p 22), aR 300450 3 [.int .i64] (gL p 23), aR 300451 3 [.int .i64] (gL p 24), aR 27061000000 3 [.int .i64] (gL p 25)], 1⟩),
 (15000, fun p => ⟨(t0 (t2 (.pb 7 0 0) (t0 (t0 Z (t0 Z (t0 (t0 (t0 Z (t0 Z (t0 (t0 Z (t0 (t0 (t0 Z (t1 (.pb 7 0 0))) Z) Z)) Z))) Z) Z))) (t0 (t0 Z (t0 Z (t0 (t0 (t0 Z (t0 (t0 Z (t0 (t0 Z (t0 Z (t1 (.pb 3 0 0)))) Z)) Z)) Z) (t0 (t0 Z (t0 (t0 Z (t0 Z (t0 (t0 Z (t1 (nI p 0))) Z))) Z)) Z)))) (t0 Z (t0 Z (t0 Z (t0 (t0 Z (t0 (t0 Z (t0 Z (t0 (t0 Z (t1 (nI p 1))) Z))) Z)) Z)))))) (t0 (t2 (nI p 2) (t0 Z (t0 Z (t0 (t0 (t0 Z (t0 (t0 Z (t0 (t0 Z (t0 Z (t1 (.pb 7 0 0)))) Z)) Z)) Z) Z))) (t0 Z (t0 Z (t0 Z (t0 (t0 Z (t0 (t0 Z (t0 Z (t0 (t0 Z (t1 (fL 25 lt3 p 3))) Z))) Z)) Z))))) (t0 (t0 Z (t0 Z (t0 (t0 (t0 Z (t0 (t0 Z (t0 (t0 Z (t0 Z (t1 (.pb 5 0 0)))) Z)) Z)) Z) Z))) Z))) (t2 (.pb 7 0 2) (t0 (t1 (fL 107 [.int .i64, .int .i64] p 4)) (t0 (t0 Z (t0 Z (t0 (t0 (t0 Z (t0 (t0 Z (t0 (t0 Z (t0 Z (t1 (.pb 4 0 0)))) Z)) Z)) Z) (t0 (t0 Z (t0 (t0 Z (t0 Z (t0 (t0 Z (t1 (nI p 5))) Z))) Z)) Z)))) Z)) (t0 (t2 (nI p 6) (t0 (t0 Z (t0 Z (t0 (t0 Z (t0 (t0 Z (t0 Z (t0 (t0 Z (t1 (.fn 102 [.pb 7 0 0, .pb 8 0 0, .pb 3 0 0, .pb 4 0 0, .pb 5 0 0]))) Z))) Z)) Z))) (t0 Z (t0 (t0 (t0 Z (t0 (t0 Z (t0 (t0 Z (t0 Z (t1 (.pb 8 0 0)))) Z)) Z)) Z) (t0 (t0 Z (t0 (t0 Z (t0 Z (t0 (t0 Z (t1 (fL 28 lt2 p 7))) Z))) Z)) Z)))) (t0 Z (t0 Z (t0 Z (t0 (t0 Z (t0 (t0 Z (t0 Z (t0 (t0 Z (t1 (nI p 8))) Z))) Z)) Z))))) (t0 (t0 Z (t0 (t0 (t0 Z (t0 Z (t0 (t0 Z (t0 (t0 (t0 Z (t1 (.pb 6 0 0))) Z) Z)) Z))) Z) (t0 (t0 (t0 Z (t0 (t0 Z (t0 (t0 Z (t0 Z (t1 (.pb 27006 0 0)))) Z)) Z)) Z) Z))) Z)))), [(3, ⟨0, [.pz [] lt4 (gD p 9) 0], none⟩), (4, ⟨0, [nI p 10], none⟩), (5, ⟨0, [fL 78 lt13 p 11], none⟩), (6, ⟨0, [.nils, .nils, .nils, .nils, nB p 12], none⟩), (7, ⟨0, [.vw 300448 0 [], .vw 300449 0 [], .vw 300450 0 [], .vw 300451 0 [], nB p 13], none⟩), (8, ⟨0, [.pz [] lt7 (gD p 14) 0], none⟩), (27006, ⟨0, [nI p 15, nI p 16, nI p 17, nI p 18, nI p 19, fL 3 [.int .i64] p 20, fL 3 [.int .i64] p 21], none⟩)], [aR 300448 3 [.int .i64] (gL p 22), aR 300449 3 [.int .i64] (gL p 23), aR 300450 3 [.int .i64] (gL p 24), aR 300451 3 [.int .i64] (gL p 25)], 1⟩),
 (16000, fun p => ⟨(t0 (t2 (.pb 7 0 1) (t0 (t0 Z (t0 Z (t0 (t0 (t0 Z (t0 Z (t0 (t0 Z (t0 (t0 (t0 Z (t1 (.pb 7 0 0))) Z) Z)) Z))) Z) Z))) (t0 (t0 (t0 (t0 (t0 (t0 Z (t0 (t0 Z (t0 Z (t0 Z (t0 Z (t1 (.pb 3 0 0)))))) Z)) Z) Z) Z) (t0 Z (t0 Z (t0 (t0 Z (t0 (t0 Z (t0 Z (t0 (t0 Z (t1 (nI p 0))) Z))) Z)) Z)))) (t0 Z (t0 Z (t0 Z (t0 (t0 Z (t0 (t0 Z (t0 Z (t0 (t0 Z (t1 (nI p 1))) Z))) Z)) Z)))))) (t0 (t2 (nI p 2) (t0 (t0 (t0 (t0 (t0 Z (t0 (t0 Z (t0 Z (t0 Z (t0 Z (t1 (.pb 7 0 0)))))) Z)) Z) Z) Z) Z) (t0 Z (t0 Z (t0 Z (t0 (t0 Z (t0 (t0 Z (t0 Z (t0 (t0 Z (t1 (fL 25 lt3 p 3))) Z))) Z)) Z))))) (t0 (t0 (t0 (t0 (t0 (t0 Z (t0 (t0 Z (t0 Z (t0 Z (t0 Z (t1 (.pb 5 0 0)))))) Z)) Z) Z) Z) Z) Z))) (t2 (.pb 7 0 3) (t0 (t1 (fL 107 [.int .i64, .int .i64] p 4)) (t0 (t0 (t0 (t0 (t0 (t0 Z (t0 (t0 Z (t0 Z (t0 Z (t0 Z (t1 (.pb 4 0 0)))))) Z)) Z) Z) Z) (t0 Z (t0 Z (t0 (t0 Z (t0 (t0 Z (t0 Z (t0 (t0 Z (t1 (nI p 5))) Z))) Z)) Z)))) Z)) (t0 (t2 (nI p 6) (t0 (t0 (t0 (t0 (t0 Z (t0 (t0 Z (t0 Z (t0 Z (t0 Z (t1 (.pb 8 0 0)))))) Z)) Z) Z) (t0 Z (t0 (t0 Z (t0 (t0 Z (t0 Z (t0 (t0 Z (t1 (.fn 102 [.pb 7 0 0, .pb 8 0 0, .pb 3 0 0, .pb 4 0 0, .pb 5 0 0]))) Z))) Z)) Z))) (t0 Z (t0 Z (t0 (t0 Z (t0 (t0 Z (t0 Z (t0 (t0 Z (t1 (fL 28 lt2 p 7))) Z))) Z)) Z)))) (t0 Z (t0 Z (t0 Z (t0 (t0 Z (t0 (t0 Z (t0 Z (t0 (t0 Z (t1 (nI p 8))) Z))) Z)) Z))))) (t0 (t0 (t0 (t0 (t0 (t0 Z (t0 (t0 Z (t0 Z (t0 Z (t0 Z (t1 (.pb 27006 0 0)))))) Z)) Z) Z) Z) (t0 (t0 (t0 Z (t0 Z (t0 (t0 Z (t0 (t0 (t0 Z (t1 (.pb 6 0 0))) Z) Z)) Z))) Z) Z)) Z)))), [(3, ⟨0, [.pz [] lt4 (gD p 9) 0], none⟩), (4, ⟨0, [nI p 10], none⟩), (5, ⟨0, [fL 78 lt13 p 11], none⟩), (6, ⟨0, [.nils, .nils, .nils, .nils, nB p 12], none⟩), (7, ⟨0, [.vw 300448 0 [], .vw 300449 0 [], .vw 300450 0 [], .vw 300451 0 [], nB p 13], none⟩), (8, ⟨0, [.pz [] lt7 (gD p 14) 0], none⟩), (27006, ⟨0, [nI p 15, nI p 16, nI p 17, nI p 18, nI p 19, fL 3 [.int .i64] p 20, fL 3 [.int .i64] p 21], none⟩)], [aR 300448 3 [.int .i64] (gL p 22), aR 300449 3 [.int .i64] (gL p 23), aR 300450 3 [.int .i64] (gL p 24), aR 300451 3 [.int .i64] (gL p 25)], 1⟩)]
def T_facts_Facts_effect : TTab := [(13000, [fun p => (.exit 0, ⟨(t0 (t0 (t0 (t0 Z (t0 Z (t0 (t0 (t0 Z (t0 Z (t0 (t0 Z (t0 (t0 (t0 Z (t1 (.pb 7 0 0))) Z) Z)) Z))) Z) Z))) Z) Z) (t0 Z (t0 Z (t0 (t0 Z (t0 (t0 (t0 Z (t0 Z (t0 (t0 Z (t0 (t0 (t0 Z (t1 (.pb 6 0 0))) Z) Z)) Z))) Z) Z)) Z)))), [(6, ⟨0, [.nils, .nils, .nils, .nils, nB p 0], none⟩), (7, ⟨0, [.vw 300448 0 [], .vw 300449 0 [], .vw 300450 0 [], .vw 300451 0 [], nB p 1], none⟩)], [aR 300448 3 [.int .i64] (gL p 2), aR 300449 3 [.int .i64] (gL p 3), aR 300450 3 [.int .i64] (gL p 4), aR 300451 3 [.int .i64] (gL p 5)], 1⟩)]),
 (13002, [fun p => (.exit 2, ⟨(t0 (t0 (t0 (t0 Z (t0 Z (t0 (t0 (t0 Z (t0 Z (t0 (t0 Z (t0 (t0 (t0 Z (t1 (.pb 7 0 0))) Z) Z)) Z))) Z) Z))) (t0 (t1 (nI p 0)) Z)) Z) (t2 (.fn 102 [.pb 7 0 0, .pb 8 0 0, .pb 3 0 0, .pb 4 0 0, .pb 5 0 0]) (t0 Z (t0 (t1 (nI p 1)) Z)) (t0 (t0 (t1 (fL 28 lt2 p 2)) Z) (t0 (t0 Z (t0 (t0 (t0 Z (t0 Z (t0 (t0 Z (t0 (t0 (t0 Z (t1 (.pb 6 0 0))) Z) Z)) Z))) Z) Z)) Z)))), [(3, ⟨0, [.pz [] lt4 (gD p 3) 0], none⟩), (4, ⟨0, [nI p 4], none⟩), (5, ⟨0, [fL 78 lt13 p 5], none⟩), (6, ⟨0, [.nils, .nils, .nils, .nils, nB p 6], none⟩), (7, ⟨0, [.vw 300448 0 [], .vw 300449 0 [], .vw 300450 0 [], .vw 300451 0 [], nB p 7], none⟩), (8, ⟨0, [.pz [] lt7 (gD p 8) 0], none⟩)], [aR 300448 3 [.int .i64] (gL p 9), aR 300449 3 [.int .i64] (gL p 10), aR 300450 3 [.int .i64] (gL p 11), aR 300451 3 [.int .i64] (gL p 12)], 1⟩)]),
 (14001, [fun p => (.exit 1, ⟨(t0 (t0 (t0 (t0 Z (t0 Z (t0 (t0 (t0 Z (t0 Z (t0 (t0 Z (t0 (t0 (t0 Z (t1 (.pb 7 0 0))) Z) Z)) Z))) Z) Z))) (t0 (t0 Z (t0 Z (t0 Z (t0 (t0 Z (t0 (t0 Z (t0 Z (t0 (t0 Z (t1 (nI p 0))) Z))) Z)) Z)))) (t0 Z (t0 Z (t0 Z (t0 (t0 Z (t0 (t0 Z (t0 Z (t0 (t0 Z (t1 (nI p 1))) Z))) Z)) Z)))))) (t0 (t0 Z (t0 Z (t0 Z (t0 Z (t0 (t0 Z (t0 (t0 Z (t0 Z (t0 (t0 Z (t1 (fL 25 lt3 p 2))) Z))) Z)) Z))))) Z)) (t0 (t0 Z (t0 (t0 Z (t0 Z (t0 Z (t0 (t0 Z (t0 (t0 Z (t0 Z (t0 (t0 Z (t1 (nI p 3))) Z))) Z)) Z)))) Z)) (t0 (t0 (t0 (t0 Z (t0 Z (t0 (t0 Z (t0 (t0 Z (t0 Z (t0 (t0 Z (t1 (.fn 102 [.pb 7 0 0, .pb 8 0 0, .pb 3 0 0, .pb 4 0 0, .pb 5 0 0]))) Z))) Z)) Z))) (t0 Z (t0 Z (t0 (t0 Z (t0 (t0 Z (t0 Z (t0 (t0 Z (t1 (fL 28 lt2 p 4))) Z))) Z)) Z)))) (t0 Z (t0 Z (t0 Z (t0 (t0 Z (t0 (t0 Z (t0 Z (t0 (t0 Z (t1 (nI p 5))) Z))) Z)) Z))))) (t0 (t0 Z (t0 (t0 (t0 Z (t0 Z (t0 (t0 Z (t0 (t0 (t0 Z (t1 (.pb 6 0 0))) Z) Z)) Z))) Z) Z)) Z)))), [(3, ⟨0, [.pz [] lt4 (gD p 6) 0], none⟩), (4, ⟨0, [nI p 7], none⟩), (5, ⟨0, [fL 78 lt13 p 8], none⟩), (6, ⟨0, [.nils, .nils, .nils, .nils, nB p 9], none⟩), (7, ⟨0, [.vw 300448 0 [], .vw 300449 0 [], .vw 300450 0 [], .vw 300451 0 [], nB p 10], none⟩), (8, ⟨0, [.pz [] lt7 (gD p 11) 0], none⟩)], [aR 300448 3 [.int .i64] (gL p 12), aR 300449 3 [.int .i64] (gL p 13), aR 300450 3 [.int .i64] (gL p 14), aR 300451 3 [.int .i64] (gL p 15)], 1⟩)]),
 (14003, [fun p => (.exit 3, ⟨(t0 (t2 (.pb 7 0 0) (t0 (t2 (fL 3 [.int .i64] p 0) Z (t0 Z (t0 (t0 (t0 Z (t0 Z (t0 (t0 Z (t0 (t0 (t0 Z (t1 (.pb 7 0 0))) Z) Z)) Z))) Z) Z))) (t0 (t0 Z (t0 Z (t0 Z (t0 (t0 Z (t0 (t0 Z (t0 Z (t0 (t0 Z (t1 (nI p 1))) Z))) Z)) Z)))) (t0 Z (t0 Z (t0 Z (t0 (t0 Z (t0 (t0 Z (t0 Z (t0 (t0 Z (t1 (nI p 2))) Z))) Z)) Z)))))) (t2 (.pb 5 0 0) (t0 Z (t0 Z (t0 Z (t0 Z (t0 (t0 Z (t0 (t0 Z (t0 Z (t0 (t0 Z (t1 (fL 25 lt3 p 3))) Z))) Z)) Z))))) (t0 Z (t0 Z (t1 (nI p 4)))))) (t2 (.pb 8 0 0) (t0 Z (t0 (t0 Z (t0 Z (t0 Z (t0 (t0 Z (t0 (t0 Z (t0 Z (t0 (t0 Z (t1 (nI p 5))) Z))) Z)) Z)))) (t0 Z (t1 (.vw 27061000000 0 []))))) (t0 (t2 (.pb 27010 0 0) (t0 (t0 Z (t0 Z (t0 (t0 Z (t0 (t0 Z (t0 Z (t0 (t0 Z (t1 (.fn 102 [.pb 7 0 0, .pb 8 0 0, .pb 3 0 0, .pb 4 0 0, .pb 5 0 0]))) Z))) Z)) Z))) (t0 Z (t0 Z (t0 (t0 Z (t0 (t0 Z (t0 Z (t0 (t0 Z (t1 (fL 28 lt2 p 6))) Z))) Z)) Z)))) (t0 Z (t0 Z (t0 Z (t0 (t0 Z (t0 (t0 Z (t0 Z (t0 (t0 Z (t1 (nI p 7))) Z))) Z)) Z))))) (t0 (t0 Z (t0 (t0 (t0 Z (t0 Z (t0 (t0 Z (t0 (t0 (t0 Z (t1 (.pb 6 0 0))) Z) Z)) Z))) Z) Z)) (t0 Z (t1 (nI p 8))))))), [(3, ⟨0, [.pz [] lt4 (gD p 9) 0], none⟩), (4, ⟨0, [nI p 10], none⟩), (5, ⟨0, [fL 78 lt13 p 11], none⟩), (6, ⟨0, [.nils, .nils, .nils, .nils, nB p 12], none⟩), (7, ⟨0, [.vw 300448 0 [], .vw 300449 0 [], .vw 300450 0 [], .vw 300451 0 [], nB p 13], none⟩), (8, ⟨0, [.pz [] lt7 (gD p 14) 0], none⟩), (27010, ⟨0, [fL 3 [.int .i64] p 15, fL 3 [.int .i64] p 16, fL 3 [.int .i64] p 17, fL 3 [.int .i64] p 18, nB p 19], none⟩)], [aR 300448 3 [.int .i64] (gL p 20), aR 300449 3 [.int .i64] (gL p 21), aR 300450 3 [.int .i64] (gL p 22), aR 300451 3 [.int .i64] (gL p 23), aR 27061000000 3 [.int .i64] (gL p 24)], 1⟩)]),
 (17000, [fun p => (.exit 0, ⟨(t0 (t2 (.pb 7 0 0) (t0 (t0 Z (t0 Z (t0 (t0 (t0 Z (t0 Z (t0 (t0 Z (t0 (t0 (t0 Z (t1 (.pb 7 0 0))) Z) Z)) Z))) (t0 Z (t0 (t0 (t0 Z (t0 (t0 (t0 (t0 (t1 (fL 3 [.int .i64] p 0)) Z) Z) Z) Z)) Z) Z))) Z))) (t0 (t0 Z (t0 Z (t0 Z (t0 (t0 Z (t0 (t0 Z (t0 Z (t0 (t0 Z (t1 (nI p 1))) Z))) Z)) Z)))) (t0 (t0 Z (t0 (t0 (t0 Z (t0 (t0 Z (t0 (t0 (t0 (t0 (t1 (nI p 2)) Z) Z) Z) Z)) Z)) Z) Z)) (t0 Z (t0 Z (t0 (t0 Z (t0 (t0 Z (t0 Z (t0 (t0 Z (t1 (nI p 3))) Z))) Z)) Z)))))) (t0 (t0 (t0 Z (t0 (t0 Z (t0 Z (t0 (t0 (t0 Z (t0 (t0 (t0 (t0 (t1 (.pb 7 0 0)) Z) Z) Z) Z)) Z) Z))) Z)) (t0 Z (t0 Z (t0 Z (t0 (t0 Z (t0 (t0 Z (t0 Z (t0 (t0 Z (t1 (fL 25 lt3 p 4))) Z))) Z)) Z))))) (t0 (t0 Z (t0 (t0 Z (t0 Z (t0 (t0 (t0 Z (t0 (t0 (t0 (t0 (t1 (.pb 5 0 0)) Z) Z) Z) Z)) Z) Z))) Z)) (t0 (t0 (t0 (t0 (t0 Z (t0 (t0 Z (t0 (t0 (t0 (t0 (t1 (nI p 5)) Z) Z) Z) Z)) Z)) Z) Z) Z) Z)))) (t2 (.pb 7 0 2) (t0 Z (t0 (t0 Z (t0 Z (t0 Z (t0 (t0 Z (t0 (t0 Z (t0 Z (t0 (t0 Z (t1 (nI p 6))) Z))) Z)) Z)))) (t0 (t0 (t0 (t0 (t0 Z (t0 (t0 Z (t0 (t0 (t0 (t0 (t1 (.vw 27061000000 0 [])) Z) Z) Z) Z)) Z)) Z) Z) (t0 (t0 (t0 Z (t0 (t0 Z (t0 (t0 (t0 (t0 (t1 (nI p 7)) Z) Z) Z) Z)) Z)) Z) Z)) Z))) (t0 (t0 (t0 (t0 Z (t0 Z (t0 (t0 Z (t0 (t0 Z (t0 Z (t0 (t0 Z (t1 (.fn 102 [.pb 7 0 0, .pb 8 0 0, .pb 3 0 0, .pb 4 0 0, .pb 5 0 0]))) Z))) Z)) Z))) (t0 (t0 Z (t0 Z (t0 (t0 (t0 Z (t0 (t0 (t0 (t0 (t1 (.pb 8 0 0)) Z) Z) Z) Z)) Z) Z))) (t0 Z (t0 (t0 Z (t0 (t0 Z (t0 Z (t0 (t0 Z (t1 (fL 28 lt2 p 8))) Z))) Z)) Z)))) (t0 (t0 Z (t0 (t0 (t0 Z (t0 (t0 Z (t0 (t0 (t0 (t0 (t1 (fL 3 [.int .i64] p 9)) Z) Z) Z) Z)) Z)) Z) Z)) (t0 (t0 Z (t0 Z (t0 (t0 (t0 Z (t0 (t0 (t0 (t0 (t1 (.pb 27010 0 0)) Z) Z) Z) Z)) Z) Z))) (t0 Z (t0 (t0 Z (t0 (t0 Z (t0 Z (t0 (t0 Z (t1 (nI p 10))) Z))) Z)) Z))))) (t0 (t0 Z (t0 (t0 (t0 Z (t0 Z (t0 (t0 Z (t0 (t0 (t0 Z (t1 (.pb 6 0 0))) Z) Z)) Z))) Z) Z)) (t0 (t0 (t0 (t0 (t0 Z (t0 (t0 Z (t0 (t0 (t0 (t0 (t1 (nI p 11)) Z) Z) Z) Z)) Z)) Z) Z) Z) Z))))), [(3, ⟨0, [.pz [] lt4 (gD p 12) 0], none⟩), (4, ⟨0, [nI p 13], none⟩), (5, ⟨0, [fL 78 lt13 p 14], none⟩), (6, ⟨0, [.nils, .nils, .nils, .nils, nB p 15], none⟩), (7, ⟨0, [.vw 300448 0 [], .vw 300449 0 [], .vw 300450 0 [], .vw 300451 0 [], nB p 16], none⟩), (8, ⟨0, [.pz [] lt7 (gD p 17) 0], none⟩), (27010, ⟨0, [fL 3 [.int .i64] p 18, fL 3 [.int .i64] p 19, fL 3 [.int .i64] p 20, fL 3 [.int .i64] p 21, nB p 22], none⟩)], [aR 300448 3 [.int .i64] (gL p 23), aR 300449 3 [.int .i64] (gL p 24), aR 300450 3 [.int .i64] (gL p 25), aR 300451 3 [.int .i64] (gL p 26), aR 27061000000 3 [.int .i64] (gL p 27)], 1⟩)]),
 (14005, [fun p => (.exit 5, ⟨(t0 (t2 (.pb 7 0 0) (t0 (t2 (fL 3 [.int .i64] p 0) Z (t0 Z (t0 (t0 (t0 Z (t0 Z (t0 (t0 Z (t0 (t0 (t0 Z (t1 (.pb 7 0 0))) Z) Z)) Z))) Z) Z))) (t0 (t0 Z (t0 Z (t0 Z (t0 (t0 Z (t0 (t0 Z (t0 Z (t0 (t0 Z (t1 (nI p 1))) Z))) Z)) Z)))) (t0 Z (t0 Z (t0 Z (t0 (t0 Z (t0 (t0 Z (t0 Z (t0 (t0 Z (t1 (nI p 2))) Z))) Z)) Z)))))) (t2 (.pb 5 0 0) (t0 Z (t0 Z (t0 Z (t0 Z (t0 (t0 Z (t0 (t0 Z (t0 Z (t0 (t0 Z (t1 (fL 25 lt3 p 3))) Z))) Z)) Z))))) (t0 Z (t0 Z (t1 (nI p 4)))))) (t2 (.pb 8 0 0) (t0 Z (t0 (t0 Z (t0 Z (t0 Z (t0 (t0 Z (t0 (t0 Z (t0 Z (t0 (t0 Z (t1 (nI p 5))) Z))) Z)) Z)))) (t0 Z (t1 (.vw 27061000000 0 []))))) (t0 (t0 (t0 (t0 Z (t0 Z (t0 (t0 Z (t0 (t0 Z (t0 Z (t0 (t0 Z (t1 (.fn 102 [.pb 7 0 0, .pb 8 0 0, .pb 3 0 0, .pb 4 0 0, .pb 5 0 0]))) Z))) Z)) Z))) (t0 Z (t0 Z (t0 (t0 Z (t0 (t0 Z (t0 Z (t0 (t0 Z (t1 (fL 28 lt2 p 6))) Z))) Z)) Z)))) (t0 Z (t0 Z (t0 Z (t0 (t0 Z (t0 (t0 Z (t0 Z (t0 (t0 Z (t1 (nI p 7))) Z))) Z)) Z))))) (t0 (t0 Z (t0 (t0 (t0 Z (t0 Z (t0 (t0 Z (t0 (t0 (t0 Z (t1 (.pb 6 0 0))) Z) Z)) Z))) Z) Z)) (t0 Z (t1 (nI p 8))))))), [(3, ⟨0, [.pz [] lt4 (gD p 9) 0], none⟩), (4, ⟨0, [nI p 10], none⟩), (5, ⟨0, [fL 78 lt13 p 11], none⟩), (6, ⟨0, [.nils, .nils, .nils, .nils, nB p 12], none⟩), (7, ⟨0, [.vw 300448 0 [], .vw 300449 0 [], .vw 300450 0 [], .vw 300451 0 [], nB p 13], none⟩), (8, ⟨0, [.pz [] lt7 (gD p 14) 0], none⟩)], [aR 300448 3 [.int .i64] (gL p 15), aR 300449 3 [.int .i64] (gL p 16), aR 300450 3 [.int .i64] (gL p 17), aR 300451 3 [.int .i64] (gL p 18), aR 27061000000 3 [.int .i64] (gL p 19)], 1⟩)]),
 (18000, [fun p => (.exit 0, ⟨(t0 (t2 (.pb 7 0 1) (t0 (t0 Z (t0 (t0 Z (t0 (t0 Z (t0 (t0 (t0 Z (t0 Z (t0 (t0 (t0 (t1 (fL 3 [.int .i64] p 0)) Z) Z) Z))) Z) Z)) Z)) (t0 (t0 (t0 Z (t0 Z (t0 (t0 Z (t0 (t0 (t0 Z (t1 (.pb 7 0 0))) Z) Z)) Z))) Z) Z))) (t0 (t0 Z (t0 Z (t0 Z (t0 (t0 Z (t0 (t0 Z (t0 Z (t0 (t0 Z (t1 (nI p 1))) Z))) Z)) Z)))) (t0 Z (t0 Z (t0 Z (t0 (t0 Z (t0 (t0 Z (t0 Z (t0 (t0 Z (t1 (nI p 2))) Z))) Z)) Z)))))) (t0 (t0 (t0 (t0 Z (t0 (t0 Z (t0 (t0 (t0 Z (t0 Z (t0 (t0 (t0 (t1 (.pb 7 0 0)) Z) Z) Z))) Z) Z)) Z)) (t0 (t0 (t0 (t0 Z (t0 (t0 Z (t0 Z (t0 (t0 (t0 (t1 (nI p 3)) Z) Z) Z))) Z)) Z) Z) Z)) (t0 Z (t0 Z (t0 Z (t0 (t0 Z (t0 (t0 Z (t0 Z (t0 (t0 Z (t1 (fL 25 lt3 p 4))) Z))) Z)) Z))))) (t0 (t0 (t0 Z (t0 (t0 Z (t0 (t0 (t0 Z (t0 Z (t0 (t0 (t0 (t1 (.pb 5 0 0)) Z) Z) Z))) Z) Z)) Z)) Z) (t0 Z (t0 (t0 Z (t0 Z (t0 (t0 (t0 Z (t0 Z (t0 (t0 (t0 (t1 (nI p 5)) Z) Z) Z))) Z) Z))) Z))))) (t2 (.pb 7 0 3) (t0 (t0 (t0 Z (t0 (t0 (t0 (t0 Z (t0 (t0 Z (t0 Z (t0 (t0 (t0 (t1 (fL 3 [.int .i64] p 6)) Z) Z) Z))) Z)) Z) Z) Z)) Z) (t0 (t0 Z (t0 Z (t0 Z (t0 (t0 Z (t0 (t0 Z (t0 Z (t0 (t0 Z (t1 (nI p 7))) Z))) Z)) Z)))) (t0 Z (t0 (t0 Z (t0 Z (t0 (t0 (t0 Z (t0 Z (t0 (t0 (t0 (t1 (.vw 27061000000 0 [])) Z) Z) Z))) Z) Z))) Z)))) (t0 (t0 (t0 (t0 Z (t0 (t0 Z (t0 (t0 (t0 Z (t0 Z (t0 (t0 (t0 (t1 (.pb 8 0 0)) Z) Z) Z))) Z) Z)) (t0 (t0 Z (t0 (t0 Z (t0 Z (t0 (t0 Z (t1 (.fn 102 [.pb 7 0 0, .pb 8 0 0, .pb 3 0 0, .pb 4 0 0, .pb 5 0 0]))) Z))) Z)) Z))) (t0 (t0 (t0 (t0 Z (t0 (t0 Z (t0 Z (t0 (t0 (t0 (t1 (nI p 8)) Z) Z) Z))) Z)) Z) Z) (t0 Z (t0 (t0 Z (t0 (t0 Z (t0 Z (t0 (t0 Z (t1 (fL 28 lt2 p 9))) Z))) Z)) Z)))) (t0 Z (t0 Z (t0 Z (t0 (t0 Z (t0 (t0 Z (t0 Z (t0 (t0 Z (t1 (nI p 10))) Z))) Z)) Z))))) (t0 (t0 Z (t0 (t0 (t0 Z (t0 Z (t0 (t0 Z (t0 (t0 (t0 Z (t1 (.pb 6 0 0))) Z) Z)) Z))) Z) Z)) (t0 Z (t0 (t0 Z (t0 Z (t0 (t0 (t0 Z (t0 Z (t0 (t0 (t0 (t1 (nI p 11)) Z) Z) Z))) Z) Z))) Z)))))), [(3, ⟨0, [.pz [] lt4 (gD p 12) 0], none⟩), (4, ⟨0, [nI p 13], none⟩), (5, ⟨0, [fL 78 lt13 p 14], none⟩), (6, ⟨0, [.nils, .nils, .nils, .nils, nB p 15], none⟩), (7, ⟨0, [.vw 300448 0 [], .vw 300449 0 [], .vw 300450 0 [], .vw 300451 0 [], nB p 16], none⟩), (8, ⟨0, [.pz [] lt7 (gD p 17) 0], none⟩)], [aR 300448 3 [.int .i64] (gL p 18), aR 300449 3 [.int .i64] (gL p 19), aR 300450 3 [.int .i64] (gL p 20), aR 300451 3 [.int .i64] (gL p 21), aR 27061000000 3 [.int .i64] (gL p 22)], 1⟩)]),
 (15000, [fun p => (.exit 0, ⟨(t0 (t2 (.pb 7 0 0) (t0 (t0 Z (t0 Z (t0 (t0 (t0 Z (t0 Z (t0 (t0 Z (t0 (t0 (t0 Z (t1 (.pb 7 0 0))) Z) Z)) Z))) Z) Z))) (t0 (t0 Z (t0 Z (t0 (t0 (t0 Z (t0 (t0 Z (t0 (t0 Z (t0 Z (t1 (.pb 3 0 0)))) Z)) Z)) Z) (t0 (t0 Z (t0 (t0 Z (t0 Z (t0 (t0 Z (t1 (nI p 0))) Z))) Z)) Z)))) (t0 Z (t0 Z (t0 Z (t0 (t0 Z (t0 (t0 Z (t0 Z (t0 (t0 Z (t1 (nI p 1))) Z))) Z)) Z)))))) (t0 (t0 (t0 Z (t0 Z (t0 (t0 (t0 Z (t0 (t0 Z (t0 (t0 Z (t0 Z (t1 (.pb 7 0 0)))) Z)) Z)) Z) Z))) (t0 Z (t0 Z (t0 Z (t0 (t0 Z (t0 (t0 Z (t0 Z (t0 (t0 Z (t1 (fL 25 lt3 p 2))) Z))) Z)) Z))))) (t0 (t0 Z (t0 Z (t0 (t0 (t0 Z (t0 (t0 Z (t0 (t0 Z (t0 Z (t1 (.pb 5 0 0)))) Z)) Z)) Z) Z))) Z))) (t2 (.pb 7 0 2) (t0 Z (t0 (t0 Z (t0 Z (t0 (t0 (t0 Z (t0 (t0 Z (t0 (t0 Z (t0 Z (t1 (.pb 4 0 0)))) Z)) Z)) Z) (t0 (t0 Z (t0 (t0 Z (t0 Z (t0 (t0 Z (t1 (nI p 3))) Z))) Z)) Z)))) Z)) (t0 (t0 (t0 (t0 Z (t0 Z (t0 (t0 Z (t0 (t0 Z (t0 Z (t0 (t0 Z (t1 (.fn 102 [.pb 7 0 0, .pb 8 0 0, .pb 3 0 0, .pb 4 0 0, .pb 5 0 0]))) Z))) Z)) Z))) (t0 Z (t0 (t0 (t0 Z (t0 (t0 Z (t0 (t0 Z (t0 Z (t1 (.pb 8 0 0)))) Z)) Z)) Z) (t0 (t0 Z (t0 (t0 Z (t0 Z (t0 (t0 Z (t1 (fL 28 lt2 p 4))) Z))) Z)) Z)))) (t0 Z (t0 Z (t0 Z (t0 (t0 Z (t0 (t0 Z (t0 Z (t0 (t0 Z (t1 (nI p 5))) Z))) Z)) Z))))) (t0 (t0 Z (t0 (t0 (t0 Z (t0 Z (t0 (t0 Z (t0 (t0 (t0 Z (t1 (.pb 6 0 0))) Z) Z)) Z))) Z) (t0 (t0 (t0 Z (t0 (t0 Z (t0 (t0 Z (t0 Z (t1 (.pb 27006 0 0)))) Z)) Z)) Z) Z))) Z)))), [(3, ⟨0, [.pz [] lt4 (gD p 6) 0], none⟩), (4, ⟨0, [nI p 7], none⟩), (5, ⟨0, [fL 78 lt13 p 8], none⟩), (6, ⟨0, [.nils, .nils, .nils, .nils, nB p 9], none⟩), (7, ⟨0, [.vw 300448 0 [], .vw 300449 0 [], .vw 300450 0 [], .vw 300451 0 [], nB p 10], none⟩), (8, ⟨0, [.pz [] lt7 (gD p 11) 0], none⟩), (27006, ⟨0, [nI p 12, nI p 13, nI p 14, nI p 15, nI p 16, fL 3 [.int .i64] p 17, fL 3 [.int .i64] p 18], none⟩)], [aR 300448 3 [.int .i64] (gL p 19), aR 300449 3 [.int .i64] (gL p 20), aR 300450 3 [.int .i64] (gL p 21), aR 300451 3 [.int .i64] (gL p 22)], 1⟩)]),
 (16000, [fun p => (.exit 0, ⟨(t0 (t2 (.pb 7 0 1) (t0 (t0 Z (t0 Z (t0 (t0 (t0 Z (t0 Z (t0 (t0 Z (t0 (t0 (t0 Z (t1 (.pb 7 0 0))) Z) Z)) Z))) Z) Z))) (t0 (t0 (t0 (t0 (t0 (t0 Z (t0 (t0 Z (t0 Z (t0 Z (t0 Z (t1 (.pb 3 0 0)))))) Z)) Z) Z) Z) (t0 Z (t0 Z (t0 (t0 Z (t0 (t0 Z (t0 Z (t0 (t0 Z (t1 (nI p 0))) Z))) Z)) Z)))) (t0 Z (t0 Z (t0 Z (t0 (t0 Z (t0 (t0 Z (t0 Z (t0 (t0 Z (t1 (nI p 1))) Z))) Z)) Z)))))) (t0 (t0 (t0 (t0 (t0 (t0 (t0 Z (t0 (t0 Z (t0 Z (t0 Z (t0 Z (t1 (.pb 7 0 0)))))) Z)) Z) Z) Z) Z) (t0 Z (t0 Z (t0 Z (t0 (t0 Z (t0 (t0 Z (t0 Z (t0 (t0 Z (t1 (fL 25 lt3 p 2))) Z))) Z)) Z))))) (t0 (t0 (t0 (t0 (t0 (t0 Z (t0 (t0 Z (t0 Z (t0 Z (t0 Z (t1 (.pb 5 0 0)))))) Z)) Z) Z) Z) Z) Z))) (t2 (.pb 7 0 3) (t0 Z (t0 (t0 (t0 (t0 (t0 (t0 Z (t0 (t0 Z (t0 Z (t0 Z (t0 Z (t1 (.pb 4 0 0)))))) Z)) Z) Z) Z) (t0 Z (t0 Z (t0 (t0 Z (t0 (t0 Z (t0 Z (t0 (t0 Z (t1 (nI p 3))) Z))) Z)) Z)))) Z)) (t0 (t0 (t0 (t0 (t0 (t0 (t0 Z (t0 (t0 Z (t0 Z (t0 Z (t0 Z (t1 (.pb 8 0 0)))))) Z)) Z) Z) (t0 Z (t0 (t0 Z (t0 (t0 Z (t0 Z (t0 (t0 Z (t1 (.fn 102 [.pb 7 0 0, .pb 8 0 0, .pb 3 0 0, .pb 4 0 0, .pb 5 0 0]))) Z))) Z)) Z))) (t0 Z (t0 Z (t0 (t0 Z (t0 (t0 Z (t0 Z (t0 (t0 Z (t1 (fL 28 lt2 p 4))) Z))) Z)) Z)))) (t0 Z (t0 Z (t0 Z (t0 (t0 Z (t0 (t0 Z (t0 Z (t0 (t0 Z (t1 (nI p 5))) Z))) Z)) Z))))) (t0 (t0 (t0 (t0 (t0 (t0 Z (t0 (t0 Z (t0 Z (t0 Z (t0 Z (t1 (.pb 27006 0 0)))))) Z)) Z) Z) Z) (t0 (t0 (t0 Z (t0 Z (t0 (t0 Z (t0 (t0 (t0 Z (t1 (.pb 6 0 0))) Z) Z)) Z))) Z) Z)) Z)))), [(3, ⟨0, [.pz [] lt4 (gD p 6) 0], none⟩), (4, ⟨0, [nI p 7], none⟩), (5, ⟨0, [fL 78 lt13 p 8], none⟩), (6, ⟨0, [.nils, .nils, .nils, .nils, nB p 9], none⟩), (7, ⟨0, [.vw 300448 0 [], .vw 300449 0 [], .vw 300450 0 [], .vw 300451 0 [], nB p 10], none⟩), (8, ⟨0, [.pz [] lt7 (gD p 11) 0], none⟩), (27006, ⟨0, [nI p 12, nI p 13, nI p 14, nI p 15, nI p 16, fL 3 [.int .i64] p 17, fL 3 [.int .i64] p 18], none⟩)], [aR 300448 3 [.int .i64] (gL p 19), aR 300449 3 [.int .i64] (gL p 20), aR 300450 3 [.int .i64] (gL p 21), aR 300451 3 [.int .i64] (gL p 22)], 1⟩)])]
def F_facts_Facts_effect : Fn := { np := 3, bs := [], main := M_facts_Facts_effect, lps := [(13000, L_facts_Facts_effect_13000), (13002, L_facts_Facts_effect_13002), (14001, L_facts_Facts_effect_14001), (14003, L_facts_Facts_effect_14003), (17000, L_facts_Facts_effect_17000), (14005, L_facts_Facts_effect_14005), (18000, L_facts_Facts_effect_18000), (15000, L_facts_Facts_effect_15000), (16000, L_facts_Facts_effect_16000)] }
def M_flow_Loops (x : List D) : Sh :=
 .call flow_walked [.l [.s (D.toS (D.fld (gD x 0) 0)), .b (vB (gD x 0) 1), .l (eX (gD x 0) 2), .i (vI (gD x 0) 3), .l (eX (gD x 0) 4)]] 0 fun r0 _ =>
 .ask (isNl (D.els r0))
 (.bad)
 (.ret (.b (vB (hdD (D.els r0)) 7)) [])
def S_flow_Loops : STab := []
def T_flow_Loops : TTab := []
def F_flow_Loops : Fn := { np := 1, bs := [], main := M_flow_Loops, lps := [] }
def M_r3_from (x : List D) : Sh :=
 .ask ((leI 0 (iX (gD x 0) 4)) && ((eqI (iX (gD x 0) 4) (iX (gD x 0) 4)) && (lim (Int.toNat (iX (gD x 0) 4)) 1)))
 (.ask (((ltI (D.toI (gD x 1)) 0) || (leI (iL (List.replicate (nX (gD x 0) 4) (D.b false))) (D.toI (gD x 1)))) || (eqI (D.toI (gD x 1)) (D.toI (gD x 2))))
 (.ret (.l (List.replicate (nX (gD x 0) 4) (D.b false))) [])
 (.ask (within (D.toI (gD x 1)) (List.length (List.replicate (nX (gD x 0) 4) (D.b false))))
 (.loop 0 [.i (D.toI (gD x 2)), .b true, .s (D.toS (D.fld (gD x 0) 0)), .b (vB (gD x 0) 1), .l (eX (gD x 0) 2), .i (vI (gD x 0) 3), .l (eX (gD x 0) 4), .l (List.set (List.replicate (nX (gD x 0) 4) (D.b false)) (Int.toNat (D.toI (gD x 1))) (D.b true))] (.cons (fun p0 =>
 .ret (aL p0 0) [])
 .nil))
 (.bad)))
 (.bad)
def L_r3_from_0 (p : List D) : Sh :=
 .ask (gB p 1)
 (.loop 2 [.i 0, aI p 0, .b false, aS p 2, aB p 3, aL p 4, aI p 5, aL p 6, aL p 7] (.cons (fun p0 =>
 .again [aI p0 0, aB p0 1, aS p0 2, aB p0 3, aL p0 4, aI p0 5, aL p0 6, aL p0 7])
 .nil))
 (.out (0, [aL p 7]))
def L_r3_from_2 (p : List D) : Sh :=
 .ask (ltI (gI p 0) (iL (gL p 8)))
 (.ask (within (gI p 0) (List.length (gL p 8)))
 (.ask (!(D.toB (gD (gL p 8) (tI p 0))))
 (.again [.i (addA .i64 (gI p 0) 1), aI p 1, aB p 2, aS p 3, aB p 4, aL p 5, aI p 6, aL p 7, aL p 8])
 (.call r3_Next [.l [aS p 3, aB p 4, aL p 5, aI p 6, aL p 7], aI p 0] 0 fun r0 _ =>
 .loop 4 [.i 0, aI p 0, aI p 1, aB p 2, aS p 3, aB p 4, aL p 5, aI p 6, aL p 7, aL p 8, .l (D.els r0)] (.cons (fun p1 =>
 .again [.i (addA .i64 (gI p1 0) 1), aI p1 1, aB p1 2, aS p1 3, aB p1 4, aL p1 5, aI p1 6, aL p1 7, aL p1 8])
 .nil)))
 (.bad))
 (.out (0, [aI p 1, aB p 2, aS p 3, aB p 4, aL p 5, aI p 6, aL p 7, aL p 8]))
def L_r3_from_4 (p : List D) : Sh :=
 .ask (ltI (gI p 0) (iL (gL p 10)))
 (.ask (within (gI p 0) (List.length (gL p 10)))
 (.ask ((!((!(eqI (D.toI (gD (gL p 10) (tI p 0))) (gI p 2))) && true)) || (within (gI p 0) (List.length (gL p 10))))
 (.ask ((!((!(eqI (D.toI (gD (gL p 10) (tI p 0))) (gI p 2))) && true)) || (within (D.toI (gD (gL p 10) (tI p 0))) (List.length (gL p 9))))
 (.ask ((!(eqI (D.toI (gD (gL p 10) (tI p 0))) (gI p 2))) && (!(D.toB (gD (gL p 9) (Int.toNat (D.toI (gD (gL p 10) (tI p 0))))))))
 (.ask (within (gI p 0) (List.length (gL p 10)))
 (.ask (within (D.toI (gD (gL p 10) (tI p 0))) (List.length (gL p 9)))
 (.again [.i (addA .i64 (gI p 0) 1), aI p 1, aI p 2, .b true, aS p 4, aB p 5, aL p 6, aI p 7, aL p 8, .l (List.set (gL p 9) (Int.toNat (D.toI (gD (gL p 10) (tI p 0)))) (D.b true)), aL p 10])
 (.bad))
 (.bad))
 (.again [.i (addA .i64 (gI p 0) 1), aI p 1, aI p 2, aB p 3, aS p 4, aB p 5, aL p 6, aI p 7, aL p 8, aL p 9, aL p 10]))
 (.bad))
 (.bad))
 (.bad))
 (.out (0, [aI p 1, aI p 2, aB p 3, aS p 4, aB p 5, aL p 6, aI p 7, aL p 8, aL p 9]))
def S_r3_from : STab := [(0, fun p => ⟨(t0 (t0 (t2 (.pb 3 0 0) (t1 (.vw 15 0 [])) Z) Z) (t2 (nI p 0) (t0 (t1 (nB p 1)) Z) Z)), [(3, ⟨0, [.str (gS p 2), nB p 3, fL 3 [.int .i64] p 4, nI p 5, fL 28 lt2 p 6], none⟩)], [aR 15 4 [.bool] (gL p 7)], 1⟩),
 (2, fun p => ⟨(t0 (t0 (t2 (.pb 3 0 0) (t1 (.vw 15 0 [])) Z) (t0 (t1 (nI p 0)) Z)) (t2 (nI p 1) (t0 (t1 (nB p 2)) Z) Z)), [(3, ⟨0, [.str (gS p 3), nB p 4, fL 3 [.int .i64] p 5, nI p 6, fL 28 lt2 p 7], none⟩)], [aR 15 4 [.bool] (gL p 8)], 1⟩),
 (4, fun p => ⟨(t0 (t0 (t2 (.pb 3 0 0) (t1 (.vw 15 0 [])) (t1 (nI p 0))) (t0 (t1 (nI p 1)) Z)) (t2 (nI p 2) (t0 (t1 (nB p 3)) Z) (t0 (t1 (.vw 48000000 0 [])) Z))), [(3, ⟨0, [.str (gS p 4), nB p 5, fL 3 [.int .i64] p 6, nI p 7, fL 28 lt2 p 8], none⟩)], [aR 15 4 [.bool] (gL p 9), aR 48000000 3 [.int .i64] (gL p 10)], 1⟩)]
def T_r3_from : TTab := [(0, [fun p => (.exit 0, ⟨(t0 (t0 (t0 (t1 (.vw 15 0 [])) Z) Z) (t0 Z (t0 Z Z))), [], [aR 15 4 [.bool] (gL p 0)], 1⟩)]),
 (2, [fun p => (.exit 2, ⟨(t0 (t0 (t2 (.pb 3 0 0) (t1 (.vw 15 0 [])) Z) Z) (t2 (nI p 0) (t0 (t1 (nB p 1)) Z) (t0 Z Z))), [(3, ⟨0, [.str (gS p 2), nB p 3, fL 3 [.int .i64] p 4, nI p 5, fL 28 lt2 p 6], none⟩)], [aR 15 4 [.bool] (gL p 7)], 1⟩)]),
 (4, [fun p => (.exit 4, ⟨(t0 (t0 (t2 (.pb 3 0 0) (t1 (.vw 15 0 [])) Z) (t0 (t1 (nI p 0)) Z)) (t2 (nI p 1) (t0 (t1 (nB p 2)) Z) (t0 Z Z))), [(3, ⟨0, [.str (gS p 3), nB p 4, fL 3 [.int .i64] p 5, nI p 6, fL 28 lt2 p 7], none⟩)], [aR 15 4 [.bool] (gL p 8)], 1⟩)])]
def F_r3_from : Fn := { np := 3, bs := [0, 2, 4], main := M_r3_from, lps := [(0, L_r3_from_0), (2, L_r3_from_2), (4, L_r3_from_4)] }
def M_r3_Values (x : List D) : Sh :=
 .call r3_Types [.l [.s (D.toS (D.fld (gD x 0) 0)), .b (vB (gD x 0) 1), .l (eX (gD x 0) 2), .i (vI (gD x 0) 3), .l (eX (gD x 0) 4)]] 0 fun r0 _ =>
 .ret (.i (wrapA .i64 ((iE r0) - 1))) []
def S_r3_Values : STab := []
def T_r3_Values : TTab := []
def F_r3_Values : Fn := { np := 1, bs := [], main := M_r3_Values, lps := [] }
def M_dom_nearest (x : List D) : Sh :=
 .ask ((leI 0 (iE (gD x 0))) && ((eqI (iE (gD x 0)) (iE (gD x 0))) && (lim (Int.toNat (iE (gD x 0))) 8)))
 (.loop 0 [.l (D.els (gD x 0)), .i 0, .i (iL (List.replicate (nE (gD x 0)) (D.i 0))), .l (List.replicate (nE (gD x 0)) (D.i 0))] (.cons (fun p0 =>
 .ret (aL p0 0) [])
 .nil))
 (.bad)
def L_dom_nearest_0 (p : List D) : Sh :=
 .ask (ltI (gI p 1) (gI p 2))
 (.ask (within (gI p 1) (List.length (gL p 3)))
 (.loop 2 [aL p 0, aI p 1, .i 0, aI p 1, aI p 2, .i (iL (gL p 0)), .l (List.set (gL p 3) (tI p 1) (D.i (-1)))] (.cons (fun p0 =>
 .again [aL p0 0, .i (addA .i64 (gI p0 1) 1), aI p0 2, aL p0 3])
 .nil))
 (.bad))
 (.out (0, [aL p 3]))
def L_dom_nearest_2 (p : List D) : Sh :=
 .ask (ltI (gI p 2) (gI p 5))
 (.ask ((!(!(eqI (gI p 2) (gI p 3)))) || (within (gI p 2) (List.length (gL p 0))))
 (.ask ((!(!(eqI (gI p 2) (gI p 3)))) || (within (gI p 3) (nE (gD (gL p 0) (tI p 2)))))
 (.ask ((eqI (gI p 2) (gI p 3)) || (!(D.toB (gE (gD (gL p 0) (tI p 2)) (tI p 3)))))
 (.again [aL p 0, aI p 1, .i (addA .i64 (gI p 2) 1), aI p 3, aI p 4, aI p 5, aL p 6])
 (.ask (within (gI p 3) (List.length (gL p 6)))
 (.ask ((!(!(ltI (D.toI (gD (gL p 6) (tI p 3))) 0))) || (within (gI p 3) (List.length (gL p 6))))
 (.ask ((!(!(ltI (D.toI (gD (gL p 6) (tI p 3))) 0))) || (within (D.toI (gD (gL p 6) (tI p 3))) (List.length (gL p 0))))
 (.ask ((!(!(ltI (D.toI (gD (gL p 6) (tI p 3))) 0))) || (within (gI p 2) (nE (gD (gL p 0) (Int.toNat (D.toI (gD (gL p 6) (tI p 3))))))))
 (.ask ((ltI (D.toI (gD (gL p 6) (tI p 3))) 0) || (D.toB (gE (gD (gL p 0) (Int.toNat (D.toI (gD (gL p 6) (tI p 3))))) (tI p 2))))
 (.ask (within (gI p 3) (List.length (gL p 6)))
 (.again [aL p 0, aI p 1, .i (addA .i64 (gI p 2) 1), aI p 3, aI p 4, aI p 5, .l (List.set (gL p 6) (tI p 3) (aI p 2))])
 (.bad))
 (.again [aL p 0, aI p 1, .i (addA .i64 (gI p 2) 1), aI p 3, aI p 4, aI p 5, aL p 6]))
 (.bad))
 (.bad))
 (.bad))
 (.bad)))
 (.bad))
 (.bad))
 (.out (0, [aL p 0, aI p 1, aI p 4, aL p 6]))
def S_dom_nearest : STab := [(0, fun p => ⟨(t2 (.fz [] 53 [.sl false 4 [.bool]] (gL p 0)) (t0 (t2 (.vw 8 0 []) Z (t1 (nI p 1))) Z) (t0 Z (t0 (t1 (nI p 2)) Z))), [], [aR 8 3 [.int .i64] (gL p 3)], 1⟩),
 (2, fun p => ⟨(t2 (.fz [] 53 [.sl false 4 [.bool]] (gL p 0)) (t0 (t2 (.vw 8 0 []) Z (t2 (nI p 1) (t1 (nI p 2)) Z)) Z) (t0 (t1 (nI p 3)) (t0 (t2 (nI p 4) (t1 (nI p 5)) Z) Z))), [], [aR 8 3 [.int .i64] (gL p 6)], 1⟩)]
def T_dom_nearest : TTab := [(0, [fun p => (.exit 0, ⟨(t0 (t0 (t1 (.vw 8 0 [])) Z) (t0 Z Z)), [], [aR 8 3 [.int .i64] (gL p 0)], 1⟩)]),
 (2, [fun p => (.exit 2, ⟨(t2 (.fz [] 53 [.sl false 4 [.bool]] (gL p 0)) (t0 (t2 (.vw 8 0 []) Z (t1 (nI p 1))) Z) (t0 Z (t0 (t1 (nI p 2)) Z))), [], [aR 8 3 [.int .i64] (gL p 3)], 1⟩)])]
def F_dom_nearest : Fn := { np := 1, bs := [0, 2], main := M_dom_nearest, lps := [(0, L_dom_nearest_0), (2, L_dom_nearest_2)] }
def M_wf_all (x : List D) : Sh :=
 .loop 0 [.l (D.els (gD x 0)), .i 0, .l (D.els (gD x 1)), .i (D.toI (gD x 2)), .i (iE (gD x 1))] (.cons (fun p0 =>
 .ret (aB p0 0) [])
 (.cons (fun p0 =>
 .ret (.b true) [])
 .nil))
def L_wf_all_0 (p : List D) : Sh :=
 .ask (ltI (gI p 1) (gI p 4))
 (.ask (within (gI p 1) (List.length (gL p 2)))
 (.ask (within (D.toI (gD (gL p 2) (tI p 1))) (List.length (gL p 0)))
 (.ask (!(eqI (D.toI (gD (gL p 0) (Int.toNat (D.toI (gD (gL p 2) (tI p 1)))))) (gI p 3)))
 (.out (0, [.b false]))
 (.again [aL p 0, .i (addA .i64 (gI p 1) 1), aL p 2, aI p 3, aI p 4]))
 (.bad))
 (.bad))
 (.out (1, []))
def S_wf_all : STab := [(0, fun p => ⟨(t2 (fL 3 [.int .i64] p 0) (t0 (t0 Z (t1 (nI p 1))) (t0 (t1 (fL 3 [.int .i64] p 2)) Z)) (t2 (nI p 3) Z (t0 (t1 (nI p 4)) Z))), [], [], 1⟩)]
def T_wf_all : TTab := [(0, [fun p => (.ret, ⟨(t0 Z (t0 Z (t1 (nB p 0)))), [], [], 1⟩),
  fun p => (.exit 0, ⟨(t0 Z (t0 Z (t0 Z Z))), [], [], 1⟩)])]
def F_wf_all : Fn := { np := 3, bs := [0], main := M_wf_all, lps := [(0, L_wf_all_0)] }
def M_flow_walker_visit (x : List D) : Sh :=
 .ask (within (D.toI (gD x 1)) (nX (gD x 0) 5))
 (.call flow_Next [.l [.s (D.toS (D.fld (gD x 0) 0)), .b (vB (gD x 0) 1), .l (eX (gD x 0) 2), .i (vI (gD x 0) 3), .l (eX (gD x 0) 4)], .i (D.toI (gD x 1))] 0 fun r0 _ =>
 .loop 0 [.i (D.toI (gD x 1)), .i 0, .i (iE r0), .s (D.toS (D.fld (gD x 0) 0)), .b (vB (gD x 0) 1), .l (eX (gD x 0) 2), .i (vI (gD x 0) 3), .l (eX (gD x 0) 4), .b (vB (gD x 0) 7), .l (List.set (eX (gD x 0) 5) (Int.toNat (D.toI (gD x 1))) (D.i 1)), .l (eX (gD x 0) 6), .l (D.els r0)] (.cons (fun p1 =>
 .ask (within (gI p1 0) (List.length (gL p1 7)))
 (.ask (lim ((List.length (gL p1 8)) + 1) 8)
 (.ret (.l []) [.l [aS p1 1, aB p1 2, aL p1 3, aI p1 4, aL p1 5, .l (List.set (gL p1 7) (tI p1 0) (D.i 2)), .l ((gL p1 8) ++ [aI p1 0]), aB p1 6]])
 (.bad))
 (.bad))
 .nil))
 (.bad)
def L_flow_walker_visit_0 (p : List D) : Sh :=
 .ask (ltI (gI p 1) (gI p 2))
 (.ask (within (gI p 1) (List.length (gL p 11)))
 (.ask (within (D.toI (gD (gL p 11) (tI p 1))) (List.length (gL p 9)))
 (.ask (eqI (D.toI (gD (gL p 9) (Int.toNat (D.toI (gD (gL p 11) (tI p 1)))))) 0)
 (.call flow_walker_visit [.l [aS p 3, aB p 4, aL p 5, aI p 6, aL p 7, aL p 9, aL p 10, aB p 8], .i (D.toI (gD (gL p 11) (tI p 1)))] 1 fun r0 q0 =>
 .again [aI p 0, .i (addA .i64 (gI p 1) 1), aI p 2, .s (D.toS (D.fld (gD q0 0) 0)), .b (vB (gD q0 0) 1), .l (eX (gD q0 0) 2), .i (vI (gD q0 0) 3), .l (eX (gD q0 0) 4), .b (vB (gD q0 0) 7), .l (eX (gD q0 0) 5), .l (eX (gD q0 0) 6), aL p 11])
 (.ask (eqI (D.toI (gD (gL p 9) (Int.toNat (D.toI (gD (gL p 11) (tI p 1)))))) 1)
 (.again [aI p 0, .i (addA .i64 (gI p 1) 1), aI p 2, aS p 3, aB p 4, aL p 5, aI p 6, aL p 7, .b true, aL p 9, aL p 10, aL p 11])
 (.again [aI p 0, .i (addA .i64 (gI p 1) 1), aI p 2, aS p 3, aB p 4, aL p 5, aI p 6, aL p 7, aB p 8, aL p 9, aL p 10, aL p 11])))
 (.bad))
 (.bad))
 (.out (0, [aI p 0, aS p 3, aB p 4, aL p 5, aI p 6, aL p 7, aB p 8, aL p 9, aL p 10]))
def S_flow_walker_visit : STab := [(0, fun p => ⟨(t2 (.pb 500 0 0) (t2 (nI p 0) (t0 Z (t0 (t1 (nI p 1)) Z)) (t0 (t0 (t1 (.vw 18000000 0 [])) Z) Z)) (t0 Z (t0 (t0 (t1 (nI p 2)) Z) Z))), [(500, ⟨0, [.str (gS p 3), nB p 4, fL 3 [.int .i64] p 5, nI p 6, fL 28 lt2 p 7, .vw 332005 0 [], .vw 332006 0 [], nB p 8], none⟩)], [aR 332005 3 [.int .i64] (gL p 9), aR 332006 3 [.int .i64] (gL p 10), aR 18000000 3 [.int .i64] (gL p 11)], 1⟩)]
def T_flow_walker_visit : TTab := [(0, [fun p => (.exit 0, ⟨(t2 (.pb 500 0 0) (t1 (nI p 0)) Z), [(500, ⟨0, [.str (gS p 1), nB p 2, fL 3 [.int .i64] p 3, nI p 4, fL 28 lt2 p 5, .vw 332005 0 [], .vw 332006 0 [], nB p 6], none⟩)], [aR 332005 3 [.int .i64] (gL p 7), aR 332006 3 [.int .i64] (gL p 8)], 1⟩)])]
def F_flow_walker_visit : Fn := { np := 2, bs := [0], main := M_flow_walker_visit, lps := [(0, L_flow_walker_visit_0)] }
def M_dom_without (x : List D) : Sh :=
 .ask ((leI 0 (iE (gD x 0))) && ((eqI (iE (gD x 0)) (iE (gD x 0))) && (lim (Int.toNat (iE (gD x 0))) 1)))
 (.ask (!(eqI (D.toI (gD x 1)) 0))
 (.ask (within 0 (List.length (List.replicate (nE (gD x 0)) (D.b false))))
 (.ask (lim (0 + 1) 8)
 (.loop 0 [.l (D.els (gD x 0)), .i (D.toI (gD x 1)), .l (List.set (List.replicate (nE (gD x 0)) (D.b false)) 0 (D.b true)), .l [.i 0]] (.cons (fun p0 =>
 .ret (aL p0 0) [])
 .nil))
 (.bad))
 (.bad))
 (.loop 0 [.l (D.els (gD x 0)), .i (D.toI (gD x 1)), .l (List.replicate (nE (gD x 0)) (D.b false)), .l []] (.cons (fun p0 =>
 .ret (aL p0 0) [])
 .nil)))
 (.bad)
def L_dom_without_0 (p : List D) : Sh :=
 .ask (ltI 0 (iL (gL p 3)))
 (.ask (within (wrapA .i64 ((iL (gL p 3)) - 1)) (List.length (gL p 3)))
 (.ask (bounds 0 (wrapA .i64 ((iL (gL p 3)) - 1)) (iL (gL p 3)))
 (.ask (within (D.toI (gD (gL p 3) (Int.toNat (wrapA .i64 ((iL (gL p 3)) - 1))))) (List.length (gL p 0)))
 (.loop 2 (let z0 := D.els (gD (gL p 0) (Int.toNat (D.toI (gD (gL p 3) (Int.toNat (wrapA .i64 ((iL (gL p 3)) - 1))))))); [aL p 0, aI p 1, .i 0, .l z0, .i (iL z0), aL p 2, .l (List.drop 0 (List.take (Int.toNat (wrapA .i64 ((iL (gL p 3)) - 1))) (gL p 3)))]) (.cons (fun p0 =>
 .again [aL p0 0, aI p0 1, aL p0 2, aL p0 3])
 .nil))
 (.bad))
 (.bad))
 (.bad))
 (.out (0, [aL p 2]))
def L_dom_without_2 (p : List D) : Sh :=
 .ask (ltI (gI p 2) (gI p 4))
 (.ask (within (gI p 2) (List.length (gL p 3)))
 (.ask ((!((!(eqI (D.toI (gD (gL p 3) (tI p 2))) (gI p 1))) && true)) || (within (D.toI (gD (gL p 3) (tI p 2))) (List.length (gL p 5))))
 (.ask ((!(eqI (D.toI (gD (gL p 3) (tI p 2))) (gI p 1))) && (!(D.toB (gD (gL p 5) (Int.toNat (D.toI (gD (gL p 3) (tI p 2))))))))
 (.ask (within (D.toI (gD (gL p 3) (tI p 2))) (List.length (gL p 5)))
 (.ask (lim ((List.length (gL p 6)) + 1) 8)
 (.again [aL p 0, aI p 1, .i (addA .i64 (gI p 2) 1), aL p 3, aI p 4, .l (List.set (gL p 5) (Int.toNat (D.toI (gD (gL p 3) (tI p 2)))) (D.b true)), .l ((gL p 6) ++ [.i (D.toI (gD (gL p 3) (tI p 2)))])])
 (.bad))
 (.bad))
 (.again [aL p 0, aI p 1, .i (addA .i64 (gI p 2) 1), aL p 3, aI p 4, aL p 5, aL p 6]))
 (.bad))
 (.bad))
 (.out (0, [aL p 0, aI p 1, aL p 5, aL p 6]))
def S_dom_without : STab := [(0, fun p => ⟨(t2 (.fz [] 23 [.sl false 3 [.int .i64]] (gL p 0)) (t2 (nI p 1) Z (t1 (.vw 12 0 []))) (t0 Z (t1 (.vw 200006 0 [])))), [], [aR 12 4 [.bool] (gL p 2), aR 200006 3 [.int .i64] (gL p 3)], 1⟩),
 (2, fun p => ⟨(t2 (.fz [] 23 [.sl false 3 [.int .i64]] (gL p 0)) (t2 (nI p 1) (t0 (t0 Z (t0 (t1 (nI p 2)) Z)) Z) (t2 (.vw 12 0 []) Z (t0 (t0 (t1 (fL 3 [.int .i64] p 3)) Z) Z))) (t0 Z (t2 (.vw 200006 0 []) Z (t0 (t0 (t1 (nI p 4)) Z) Z)))), [], [aR 12 4 [.bool] (gL p 5), aR 200006 3 [.int .i64] (gL p 6)], 1⟩)]
def T_dom_without : TTab := [(0, [fun p => (.exit 0, ⟨(t0 (t0 Z (t1 (.vw 12 0 []))) (t0 (t0 Z Z) Z)), [], [aR 12 4 [.bool] (gL p 0)], 1⟩)]),
 (2, [fun p => (.exit 2, ⟨(t2 (.fz [] 23 [.sl false 3 [.int .i64]] (gL p 0)) (t2 (nI p 1) Z (t1 (.vw 12 0 []))) (t0 (t0 Z Z) (t1 (.vw 200006 0 [])))), [], [aR 12 4 [.bool] (gL p 2), aR 200006 3 [.int .i64] (gL p 3)], 1⟩)])]
def F_dom_without : Fn := { np := 2, bs := [0, 2], main := M_dom_without, lps := [(0, L_dom_without_0), (2, L_dom_without_2)] }
def M_scc_tarjan_free (x : List D) : Sh :=
 .loop 0 [(gD x 0), .l (D.els (gD x 1)), .i 0, .l (D.els (gD x 2)), .i (iE (gD x 1))] (.cons (fun p0 =>
 .ret (aB p0 0) [])
 (.cons (fun p0 =>
 .ret (.b true) [])
 .nil))
def L_scc_tarjan_free_0 (p : List D) : Sh :=
 .ask (ltI (gI p 2) (gI p 4))
 (.ask (within (gI p 2) (List.length (gL p 1)))
 (.ask (within (D.toI (gD (gL p 1) (tI p 2))) (nX (gD p 0) 0))
 (.loop 2 (let z0 := D.els (gD (eX (gD p 0) 0) (Int.toNat (D.toI (gD (gL p 1) (tI p 2))))); [(gD p 0), .l z0, aL p 1, .i 0, aI p 2, aL p 3, .i (D.toI (gD (gL p 1) (tI p 2))), .i (iL z0), aI p 4]) (.cons (fun p0 =>
 .out (0, [aB p0 5]))
 (.cons (fun p0 =>
 .again [(gD p0 0), aL p0 1, .i (addA .i64 (gI p0 2) 1), aL p0 3, aI p0 4])
 .nil)))
 (.bad))
 (.bad))
 (.out (1, []))
def L_scc_tarjan_free_2 (p : List D) : Sh :=
 .ask (ltI (gI p 3) (gI p 7))
 (.ask (within (gI p 3) (List.length (gL p 1)))
 (.ask ((!(((leI 0 (D.toI (gD (gL p 1) (tI p 3)))) && (ltI (D.toI (gD (gL p 1) (tI p 3))) (iX (gD p 0) 0))) && true)) || (within (D.toI (gD (gL p 1) (tI p 3))) (nX (gD p 0) 6)))
 (.ask ((!(((leI 0 (D.toI (gD (gL p 1) (tI p 3)))) && (ltI (D.toI (gD (gL p 1) (tI p 3))) (iX (gD p 0) 0))) && true)) || (within (gI p 6) (nX (gD p 0) 6)))
 (.ask ((!((((leI 0 (D.toI (gD (gL p 1) (tI p 3)))) && (ltI (D.toI (gD (gL p 1) (tI p 3))) (iX (gD p 0) 0))) && (!(eqI (D.toI (gD (eX (gD p 0) 6) (Int.toNat (D.toI (gD (gL p 1) (tI p 3)))))) (D.toI (gD (eX (gD p 0) 6) (tI p 6)))))) && true)) || (within (D.toI (gD (gL p 1) (tI p 3))) (nX (gD p 0) 6)))
 (.ask ((!((((leI 0 (D.toI (gD (gL p 1) (tI p 3)))) && (ltI (D.toI (gD (gL p 1) (tI p 3))) (iX (gD p 0) 0))) && (!(eqI (D.toI (gD (eX (gD p 0) 6) (Int.toNat (D.toI (gD (gL p 1) (tI p 3)))))) (D.toI (gD (eX (gD p 0) 6) (tI p 6)))))) && true)) || (within (D.toI (gD (eX (gD p 0) 6) (Int.toNat (D.toI (gD (gL p 1) (tI p 3)))))) (List.length (gL p 5))))
 (.ask ((((leI 0 (D.toI (gD (gL p 1) (tI p 3)))) && (ltI (D.toI (gD (gL p 1) (tI p 3))) (iX (gD p 0) 0))) && (!(eqI (D.toI (gD (eX (gD p 0) 6) (Int.toNat (D.toI (gD (gL p 1) (tI p 3)))))) (D.toI (gD (eX (gD p 0) 6) (tI p 6)))))) && (!(D.toB (gD (gL p 5) (Int.toNat (D.toI (gD (eX (gD p 0) 6) (Int.toNat (D.toI (gD (gL p 1) (tI p 3)))))))))))
 (.out (0, [(gD p 0), aL p 2, aI p 4, aL p 5, aI p 8, .b false]))
 (.again [(gD p 0), aL p 1, aL p 2, .i (addA .i64 (gI p 3) 1), aI p 4, aL p 5, aI p 6, aI p 7, aI p 8]))
 (.bad))
 (.bad))
 (.bad))
 (.bad))
 (.bad))
 (.out (1, [(gD p 0), aL p 2, aI p 4, aL p 5, aI p 8]))
def S_scc_tarjan_free : STab := [(0, fun p => ⟨(t2 (.pz [] lt14 (gD p 0) 0) (t0 (t0 Z (t1 (fL 3 [.int .i64] p 1))) (t0 Z (t1 (nI p 2)))) (t2 (fL 4 [.bool] p 3) (t0 Z (t1 (nI p 4))) Z)), [], [], 1⟩),
 (2, fun p => ⟨(t2 (.pz [] lt14 (gD p 0) 0) (t0 (t0 (t0 Z (t1 (fL 3 [.int .i64] p 1))) (t1 (fL 3 [.int .i64] p 2))) (t0 (t0 Z (t1 (nI p 3))) (t1 (nI p 4)))) (t2 (fL 4 [.bool] p 5) (t0 (t2 (nI p 6) Z (t1 (nI p 7))) (t1 (nI p 8))) Z)), [], [], 1⟩)]
def T_scc_tarjan_free : TTab := [(0, [fun p => (.ret, ⟨(t0 Z (t0 Z (t1 (nB p 0)))), [], [], 1⟩),
  fun p => (.exit 0, ⟨(t0 Z (t0 Z (t0 Z Z))), [], [], 1⟩)]),
 (2, [fun p => (.ret, ⟨(t2 (.pz [] lt14 (gD p 0) 0) (t0 (t0 Z (t1 (fL 3 [.int .i64] p 1))) (t0 Z (t1 (nI p 2)))) (t2 (fL 4 [.bool] p 3) (t0 Z (t1 (nI p 4))) (t1 (nB p 5)))), [], [], 1⟩),
  fun p => (.exit 2, ⟨(t2 (.pz [] lt14 (gD p 0) 0) (t0 (t0 Z (t1 (fL 3 [.int .i64] p 1))) (t0 Z (t1 (nI p 2)))) (t2 (fL 4 [.bool] p 3) (t0 Z (t1 (nI p 4))) (t0 Z Z))), [], [], 1⟩)])]
def F_scc_tarjan_free : Fn := { np := 3, bs := [0, 2], main := M_scc_tarjan_free, lps := [(0, L_scc_tarjan_free_0), (2, L_scc_tarjan_free_2)] }
def M_scc_tarjan_open (x : List D) : Sh :=
 .ask (within (D.toI (gD x 1)) (nX (gD x 0) 1))
 (.ask (within (D.toI (gD x 1)) (nX (gD x 0) 2))
 (.ask (within (D.toI (gD x 1)) (nX (gD x 0) 3))
 (.ask (lim ((nX (gD x 0) 4) + 1) 8)
 (.ret (.l []) [.l [.l (eX (gD x 0) 0), .l (List.set (eX (gD x 0) 1) (Int.toNat (D.toI (gD x 1))) (D.i (addA .i64 (vI (gD x 0) 5) 1))), .l (List.set (eX (gD x 0) 2) (Int.toNat (D.toI (gD x 1))) (D.i (addA .i64 (vI (gD x 0) 5) 1))), .l (List.set (eX (gD x 0) 3) (Int.toNat (D.toI (gD x 1))) (D.b true)), .l ((eX (gD x 0) 4) ++ [.i (D.toI (gD x 1))]), .i (addA .i64 (vI (gD x 0) 5) 1), .l (eX (gD x 0) 6), .i (vI (gD x 0) 7)]])
 (.bad))
 (.bad))
 (.bad))
 (.bad)
def S_scc_tarjan_open : STab := []
def T_scc_tarjan_open : TTab := []
def F_scc_tarjan_open : Fn := { np := 2, bs := [], main := M_scc_tarjan_open, lps := [] }
def M_slices_insertionSortOrdered_int (x : List D) : Sh :=
 .loop 0 [.l (D.els (gD x 0)), .i (D.toI (gD x 1)), .i (D.toI (gD x 2)), .i (addA .i64 (D.toI (gD x 1)) 1)] (.cons (fun p0 =>
 .ret (.l []) [])
 .nil)
def L_slices_insertionSortOrdered_int_0 (p : List D) : Sh :=
 .ask (ltI (gI p 3) (gI p 2))
 (.loop 2 [aL p 0, aI p 1, aI p 3, aI p 2, aI p 3] (.cons (fun p0 =>
 .again [aL p0 0, aI p0 1, aI p0 2, .i (addA .i64 (gI p0 3) 1)])
 .nil))
 (.out (0, []))
def J_slices_insertionSortOrdered_int_0 (p : List D) : Sh :=
 .ask (within (wrapA .i64 ((gI p 2) - 1)) (List.length (gL p 0)))
 (.ask (within (gI p 2) (List.length (gL p 0)))
 (.ask (within (gI p 2) (List.length (gL p 0)))
 (.bad)
 (.bad))
 (.bad))
 (.bad)
def L_slices_insertionSortOrdered_int_2 (p : List D) : Sh :=
 .ask ((!((ltI (gI p 1) (gI p 2)) && true)) || (within (gI p 2) (List.length (gL p 0))))
 (.ask ((!((ltI (gI p 1) (gI p 2)) && true)) || (within (wrapA .i64 ((gI p 2) - 1)) (List.length (gL p 0))))
 (.ask ((ltI (gI p 1) (gI p 2)) && true)
 (.call cmp_Less_int [.i (D.toI (gD (gL p 0) (tI p 2))), .i (D.toI (gD (gL p 0) (Int.toNat (wrapA .i64 ((gI p 2) - 1)))))] 0 fun r0 _ =>
 .ask ((ltI (gI p 1) (gI p 2)) && (D.toB r0))
 (J_slices_insertionSortOrdered_int_0 p)
 (.out (0, [aL p 0, aI p 1, aI p 3, aI p 4])))
 (.ask ((ltI (gI p 1) (gI p 2)) && (D.toB (.i 0)))
 (J_slices_insertionSortOrdered_int_0 p)
 (.out (0, [aL p 0, aI p 1, aI p 3, aI p 4]))))
 (.bad))
 (.bad)
def S_slices_insertionSortOrdered_int : STab := [(0, fun p => ⟨(t2 (fL 3 [.int .i64] p 0) (t1 (nI p 1)) (t2 (nI p 2) Z (t1 (nI p 3)))), [], [], 1⟩),
 (2, fun p => ⟨(t2 (fL 3 [.int .i64] p 0) (t2 (nI p 1) (t0 (t1 (nI p 2)) Z) Z) (t2 (nI p 3) Z (t1 (nI p 4)))), [], [], 1⟩)]
def T_slices_insertionSortOrdered_int : TTab := [(0, [fun p => (.exit 0, ⟨Z, [], [], 1⟩)]),
 (2, [fun p => (.exit 2, ⟨(t2 (fL 3 [.int .i64] p 0) (t1 (nI p 1)) (t2 (nI p 2) Z (t1 (nI p 3)))), [], [], 1⟩)])]
def F_slices_insertionSortOrdered_int : Fn := { np := 3, bs := [0, 2], main := M_slices_insertionSortOrdered_int, lps := [(0, L_slices_insertionSortOrdered_int_0), (2, L_slices_insertionSortOrdered_int_2)] }
def M_r3_Check (x : List D) : Sh :=
 .call r3_limits [.l [.l (eX (gD x 0) 0), .l (eX (gD x 0) 1), .l (eX (gD x 0) 2), .l (eX (gD x 0) 3)]] 0 fun r0 _ =>
 .ask (!(D.toB r0))
 (.ret (.i 2) [])
 (.call r3_forms [.l [.l (eX (gD x 0) 0), .l (eX (gD x 0) 1), .l (eX (gD x 0) 2), .l (eX (gD x 0) 3)]] 0 fun r1 _ =>
 .ask (!(D.toB r1))
 (.ret (.i 1) [])
 (.call r3_names [.l [.l (eX (gD x 0) 0), .l (eX (gD x 0) 1), .l (eX (gD x 0) 2), .l (eX (gD x 0) 3)]] 0 fun r2 _ =>
 .ask (!(D.toB r2))
 (.ret (.i 3) [])
 (.call r3_syms [.l [.l (eX (gD x 0) 0), .l (eX (gD x 0) 1), .l (eX (gD x 0) 2), .l (eX (gD x 0) 3)]] 0 fun r3 _ =>
 .ask (!(D.toB r3))
 (.ret (.i 4) [])
 (.loop 0 [.i 0, .l (eX (gD x 0) 0), .l (eX (gD x 0) 1), .l (eX (gD x 0) 2), .l (eX (gD x 0) 3)] (.cons (fun p4 =>
 .ret (aI p4 0) [])
 (.cons (fun p4 =>
 .loop 2 [.i 0, aL p4 0, aL p4 1, aL p4 2, aL p4 3] (.cons (fun p5 =>
 .ret (aI p5 0) [])
 (.cons (fun p5 =>
 .loop 4 [.i 0, aL p5 0, aL p5 1, aL p5 2, aL p5 3] (.cons (fun p6 =>
 .ret (aI p6 0) [])
 (.cons (fun p6 =>
 .ret (.i 0) [])
 .nil)))
 .nil)))
 .nil))))))
def L_r3_Check_0 (p : List D) : Sh :=
 .ask (ltI (gI p 0) (iL (gL p 4)))
 (.ask (within (gI p 0) (List.length (gL p 4)))
 (.call r3_flows [.l [.s (D.toS (D.fld (gD (gL p 4) (tI p 0)) 0)), .b (vB (gD (gL p 4) (tI p 0)) 1), .l (eX (gD (gL p 4) (tI p 0)) 2), .i (vI (gD (gL p 4) (tI p 0)) 3), .l (eX (gD (gL p 4) (tI p 0)) 4)]] 0 fun r0 _ =>
 .ask (!(D.toB r0))
 (.out (0, [.i 5, aL p 1, aL p 2, aL p 3, aL p 4]))
 (.again [.i (addA .i64 (gI p 0) 1), aL p 1, aL p 2, aL p 3, aL p 4]))
 (.bad))
 (.out (1, [aL p 1, aL p 2, aL p 3, aL p 4]))
def L_r3_Check_2 (p : List D) : Sh :=
 .ask (ltI (gI p 0) (iL (gL p 4)))
 (.ask (within (gI p 0) (List.length (gL p 4)))
 (.call r3_uses [.l [.s (D.toS (D.fld (gD (gL p 4) (tI p 0)) 0)), .b (vB (gD (gL p 4) (tI p 0)) 1), .l (eX (gD (gL p 4) (tI p 0)) 2), .i (vI (gD (gL p 4) (tI p 0)) 3), .l (eX (gD (gL p 4) (tI p 0)) 4)]] 0 fun r0 _ =>
 .ask (!(D.toB r0))
 (.out (0, [.i 6, aL p 1, aL p 2, aL p 3, aL p 4]))
 (.again [.i (addA .i64 (gI p 0) 1), aL p 1, aL p 2, aL p 3, aL p 4]))
 (.bad))
 (.out (1, [aL p 1, aL p 2, aL p 3, aL p 4]))
def L_r3_Check_4 (p : List D) : Sh :=
 .ask (ltI (gI p 0) (iL (gL p 4)))
 (.ask (within (gI p 0) (List.length (gL p 4)))
 (.call r3_types [.l [aL p 1, aL p 2, aL p 3, aL p 4], .l [.s (D.toS (D.fld (gD (gL p 4) (tI p 0)) 0)), .b (vB (gD (gL p 4) (tI p 0)) 1), .l (eX (gD (gL p 4) (tI p 0)) 2), .i (vI (gD (gL p 4) (tI p 0)) 3), .l (eX (gD (gL p 4) (tI p 0)) 4)]] 0 fun r0 _ =>
 .ask (!(D.toB r0))
 (.out (0, [.i 7]))
 (.again [.i (addA .i64 (gI p 0) 1), aL p 1, aL p 2, aL p 3, aL p 4]))
 (.bad))
 (.out (1, []))
def S_r3_Check : STab := [(0, fun p => ⟨(t0 (t2 (.pb 1 0 0) (t1 (nI p 0)) Z) Z), [(1, ⟨0, [fL 31 lt0 p 1, .fz [] 35 [.str, .sl false 2 [.int .i64]] (gL p 2), .fz [] 68 [.str, .sl false 3 [.int .i64]] (gL p 3), fL 38 lt1 p 4], none⟩)], [], 1⟩),
 (2, fun p => ⟨(t0 (t1 (.pb 1 0 0)) (t0 (t1 (nI p 0)) Z)), [(1, ⟨0, [fL 31 lt0 p 1, .fz [] 35 [.str, .sl false 2 [.int .i64]] (gL p 2), .fz [] 68 [.str, .sl false 3 [.int .i64]] (gL p 3), fL 38 lt1 p 4], none⟩)], [], 1⟩),
 (4, fun p => ⟨(t0 (t2 (.pb 1 0 0) Z (t1 (nI p 0))) Z), [(1, ⟨0, [fL 31 lt0 p 1, .fz [] 35 [.str, .sl false 2 [.int .i64]] (gL p 2), .fz [] 68 [.str, .sl false 3 [.int .i64]] (gL p 3), fL 38 lt1 p 4], none⟩)], [], 1⟩)]
def T_r3_Check : TTab := [(0, [fun p => (.ret, ⟨(t0 (t1 (.pb 1 0 0)) (t1 (nI p 0))), [(1, ⟨0, [fL 31 lt0 p 1, .fz [] 35 [.str, .sl false 2 [.int .i64]] (gL p 2), .fz [] 68 [.str, .sl false 3 [.int .i64]] (gL p 3), fL 38 lt1 p 4], none⟩)], [], 1⟩),
  fun p => (.exit 0, ⟨(t0 (t1 (.pb 1 0 0)) (t0 Z Z)), [(1, ⟨0, [fL 31 lt0 p 0, .fz [] 35 [.str, .sl false 2 [.int .i64]] (gL p 1), .fz [] 68 [.str, .sl false 3 [.int .i64]] (gL p 2), fL 38 lt1 p 3], none⟩)], [], 1⟩)]),
 (2, [fun p => (.ret, ⟨(t0 (t1 (.pb 1 0 0)) (t1 (nI p 0))), [(1, ⟨0, [fL 31 lt0 p 1, .fz [] 35 [.str, .sl false 2 [.int .i64]] (gL p 2), .fz [] 68 [.str, .sl false 3 [.int .i64]] (gL p 3), fL 38 lt1 p 4], none⟩)], [], 1⟩),
  fun p => (.exit 2, ⟨(t0 (t1 (.pb 1 0 0)) (t0 Z Z)), [(1, ⟨0, [fL 31 lt0 p 0, .fz [] 35 [.str, .sl false 2 [.int .i64]] (gL p 1), .fz [] 68 [.str, .sl false 3 [.int .i64]] (gL p 2), fL 38 lt1 p 3], none⟩)], [], 1⟩)]),
 (4, [fun p => (.ret, ⟨(t0 Z (t1 (nI p 0))), [], [], 1⟩),
  fun p => (.exit 4, ⟨(t0 Z (t0 Z Z)), [], [], 1⟩)])]
def F_r3_Check : Fn := { np := 1, bs := [0, 2, 4], main := M_r3_Check, lps := [(0, L_r3_Check_0), (2, L_r3_Check_2), (4, L_r3_Check_4)] }
def M_r3_Whole (x : List D) : Sh :=
 .loop 0 [.i 0, .i 0, .l (eX (gD x 0) 0), .l (eX (gD x 0) 1), .l (eX (gD x 0) 2), .l (eX (gD x 0) 3)] (.cons (fun p0 =>
 .ret (aI p0 0) [])
 .nil)
def L_r3_Whole_0 (p : List D) : Sh :=
 .ask (ltI (gI p 1) (iL (gL p 5)))
 (.ask (within (gI p 1) (List.length (gL p 5)))
 (.call r3_Size [.l [.s (D.toS (D.fld (gD (gL p 5) (tI p 1)) 0)), .b (vB (gD (gL p 5) (tI p 1)) 1), .l (eX (gD (gL p 5) (tI p 1)) 2), .i (vI (gD (gL p 5) (tI p 1)) 3), .l (eX (gD (gL p 5) (tI p 1)) 4)]] 0 fun r0 _ =>
 .again [.i (addA .i64 (gI p 0) (D.toI r0)), .i (addA .i64 (gI p 1) 1), aL p 2, aL p 3, aL p 4, aL p 5])
 (.bad))
 (.out (0, [aI p 0]))
def S_r3_Whole : STab := [(0, fun p => ⟨(t0 (t2 (.pb 1 0 0) (t1 (nI p 0)) Z) (t0 (t1 (nI p 1)) Z)), [(1, ⟨0, [fL 31 lt0 p 2, .fz [] 35 [.str, .sl false 2 [.int .i64]] (gL p 3), .fz [] 68 [.str, .sl false 3 [.int .i64]] (gL p 4), fL 38 lt1 p 5], none⟩)], [], 1⟩)]
def T_r3_Whole : TTab := [(0, [fun p => (.exit 0, ⟨(t0 (t0 (t1 (nI p 0)) Z) (t0 Z Z)), [], [], 1⟩)])]
def F_r3_Whole : Fn := { np := 1, bs := [0], main := M_r3_Whole, lps := [(0, L_r3_Whole_0)] }
def M_ir_Copy (x : List D) : Sh :=
 .loop 0 [.i 0, .l (eX (gD x 0) 0), .i (iX (gD x 0) 0), .l (eX (gD x 0) 0), .l (eX (gD x 0) 1), .l (eX (gD x 0) 2), .l (eX (gD x 0) 3), .l []] (.cons (fun p0 =>
 .loop 2 [aL p0 1, .i 0, .i (iL (gL p0 1)), aL p0 0, aL p0 1, aL p0 2, aL p0 3, aL p0 4, .l []] (.cons (fun p1 =>
 .loop 4 [.i 0, aL p1 2, .i (iL (gL p1 2)), aL p1 0, aL p1 1, aL p1 2, aL p1 3, aL p1 4, aL p1 5, .l []] (.cons (fun p2 =>
 .loop 6 [aL p2 3, .i 0, .i (iL (gL p2 3)), aL p2 4, aL p2 5, aL p2 6, .l []] (.cons (fun p3 =>
 .ret (.l [aL p3 0, aL p3 1, aL p3 2, aL p3 3]) [])
 .nil))
 .nil))
 .nil))
 .nil)
def L_ir_Copy_0 (p : List D) : Sh :=
 .ask (ltI (gI p 0) (gI p 2))
 (.ask (within (gI p 0) (List.length (gL p 1)))
 (.call slices_Clone_Sint_int [.l (eX (gD (gL p 1) (tI p 0)) 1)] 0 fun r0 _ =>
 .ask (lim ((List.length (gL p 7)) + 1) 48)
 (.again [.i (addA .i64 (gI p 0) 1), aL p 1, aI p 2, aL p 3, aL p 4, aL p 5, aL p 6, .l ((gL p 7) ++ [.l [.s (D.toS (D.fld (gD (gL p 1) (tI p 0)) 0)), .l (D.els r0), .i (vI (gD (gL p 1) (tI p 0)) 2)]])])
 (.bad))
 (.bad))
 (.out (0, [aL p 3, aL p 4, aL p 5, aL p 6, aL p 7]))
def L_ir_Copy_2 (p : List D) : Sh :=
 .ask (ltI (gI p 1) (gI p 2))
 (.ask (within (gI p 1) (List.length (gL p 0)))
 (.call slices_Clone_Sint64_int64 [.l (eX (gD (gL p 0) (tI p 1)) 1)] 0 fun r0 _ =>
 .ask (lim ((List.length (gL p 8)) + 1) 40)
 (.again [aL p 0, .i (addA .i64 (gI p 1) 1), aI p 2, aL p 3, aL p 4, aL p 5, aL p 6, aL p 7, .l ((gL p 8) ++ [.l [.s (D.toS (D.fld (gD (gL p 0) (tI p 1)) 0)), .l (D.els r0)]])])
 (.bad))
 (.bad))
 (.out (0, [aL p 3, aL p 4, aL p 5, aL p 6, aL p 7, aL p 8]))
def L_ir_Copy_4 (p : List D) : Sh :=
 .ask (ltI (gI p 0) (gI p 2))
 (.ask (within (gI p 0) (List.length (gL p 1)))
 (.call slices_Clone_Sint_int [.l (eX (gD (gL p 1) (tI p 0)) 1)] 0 fun r0 _ =>
 .ask (lim ((List.length (gL p 9)) + 1) 40)
 (.again [.i (addA .i64 (gI p 0) 1), aL p 1, aI p 2, aL p 3, aL p 4, aL p 5, aL p 6, aL p 7, aL p 8, .l ((gL p 9) ++ [.l [.s (D.toS (D.fld (gD (gL p 1) (tI p 0)) 0)), .l (D.els r0)]])])
 (.bad))
 (.bad))
 (.out (0, [aL p 3, aL p 4, aL p 5, aL p 6, aL p 7, aL p 8, aL p 9]))
def L_ir_Copy_6 (p : List D) : Sh :=
 .ask (ltI (gI p 1) (gI p 2))
 (.ask (within (gI p 1) (List.length (gL p 0)))
 (.call ir_copyFunc [.l [.s (D.toS (D.fld (gD (gL p 0) (tI p 1)) 0)), .b (vB (gD (gL p 0) (tI p 1)) 1), .l (eX (gD (gL p 0) (tI p 1)) 2), .i (vI (gD (gL p 0) (tI p 1)) 3), .l (eX (gD (gL p 0) (tI p 1)) 4)]] 0 fun r0 _ =>
 .ask (lim ((List.length (gL p 6)) + 1) 80)
 (.again [aL p 0, .i (addA .i64 (gI p 1) 1), aI p 2, aL p 3, aL p 4, aL p 5, .l ((gL p 6) ++ [.l [.s (D.toS (D.fld r0 0)), .b (vB r0 1), .l (eX r0 2), .i (vI r0 3), .l (eX r0 4)]])])
 (.bad))
 (.bad))
 (.out (0, [aL p 3, aL p 4, aL p 5, aL p 6]))
def S_ir_Copy : STab := [(0, fun p => ⟨(t0 (t2 (.pb 1 0 0) (t2 (.pb 3 0 0) (t0 (t1 (nI p 0)) Z) Z) (t0 Z (t1 (fL 31 lt0 p 1)))) (t2 (.pb 2 0 0) Z (t0 Z (t1 (nI p 2))))), [(1, ⟨0, [fL 31 lt0 p 3, .fz [] 35 [.str, .sl false 2 [.int .i64]] (gL p 4), .fz [] 68 [.str, .sl false 3 [.int .i64]] (gL p 5), fL 38 lt1 p 6], none⟩), (2, ⟨0, [.nils, .nils, .nils, .nils], none⟩), (3, ⟨0, [.vw 300192 0 [], .nils, .nils, .nils], none⟩)], [aR 300192 31 lt9 (gL p 7)], 1⟩),
 (2, fun p => ⟨(t0 (t2 (.pb 1 0 0) (t2 (.pb 3 0 0) (t0 (t0 (t1 (.fz [] 35 [.str, .sl false 2 [.int .i64]] (gL p 0))) Z) Z) Z) (t0 (t0 (t0 (t1 (nI p 1)) Z) Z) Z)) (t2 (.pb 2 0 0) (t0 (t0 (t0 (t1 (nI p 2)) Z) Z) Z) Z)), [(1, ⟨0, [fL 31 lt0 p 3, .fz [] 35 [.str, .sl false 2 [.int .i64]] (gL p 4), .fz [] 68 [.str, .sl false 3 [.int .i64]] (gL p 5), fL 38 lt1 p 6], none⟩), (2, ⟨0, [.nils, .nils, .nils, .nils], none⟩), (3, ⟨0, [.vw 300192 0 [], .vw 300193 0 [], .nils, .nils], none⟩)], [aR 300192 31 lt9 (gL p 7), (300193, ⟨35, [.str, .sl true 2 [.int .i64]], (gL p 8), [], 0, [0, 0, 0, 0], 0⟩)], 1⟩),
 (4, fun p => ⟨(t0 (t2 (.pb 1 0 0) (t2 (.pb 3 0 0) Z (t0 (t0 Z (t1 (nI p 0))) Z)) (t0 (t0 (t0 Z (t1 (.fz [] 68 [.str, .sl false 3 [.int .i64]] (gL p 1)))) Z) Z)) (t2 (.pb 2 0 0) Z (t0 (t0 (t0 Z (t1 (nI p 2))) Z) Z))), [(1, ⟨0, [fL 31 lt0 p 3, .fz [] 35 [.str, .sl false 2 [.int .i64]] (gL p 4), .fz [] 68 [.str, .sl false 3 [.int .i64]] (gL p 5), fL 38 lt1 p 6], none⟩), (2, ⟨0, [.nils, .nils, .nils, .nils], none⟩), (3, ⟨0, [.vw 300192 0 [], .vw 300193 0 [], .vw 300194 0 [], .nils], none⟩)], [aR 300192 31 lt9 (gL p 7), (300193, ⟨35, [.str, .sl true 2 [.int .i64]], (gL p 8), [], 0, [0, 0, 0, 0], 0⟩), (300194, ⟨68, [.str, .sl true 3 [.int .i64]], (gL p 9), [], 0, [0, 0, 0, 0], 0⟩)], 1⟩),
 (6, fun p => ⟨(t0 (t0 (t2 (.pb 3 0 0) Z (t0 (t0 (t0 (t1 (fL 38 lt1 p 0)) Z) Z) Z)) (t0 Z (t0 (t0 (t0 (t1 (nI p 1)) Z) Z) Z))) (t2 (.pb 2 0 0) (t0 Z (t0 (t0 (t0 (t1 (nI p 2)) Z) Z) Z)) Z)), [(2, ⟨0, [.nils, .nils, .nils, .nils], none⟩), (3, ⟨0, [.vw 300192 0 [], .vw 300193 0 [], .vw 300194 0 [], .vw 300195 0 []], none⟩)], [aR 300192 31 lt9 (gL p 3), (300193, ⟨35, [.str, .sl true 2 [.int .i64]], (gL p 4), [], 0, [0, 0, 0, 0], 0⟩), (300194, ⟨68, [.str, .sl true 3 [.int .i64]], (gL p 5), [], 0, [0, 0, 0, 0], 0⟩), aR 300195 38 lt10 (gL p 6)], 1⟩)]
def T_ir_Copy : TTab := [(0, [fun p => (.exit 0, ⟨(t0 (t2 (.pb 1 0 0) (t1 (.pb 3 0 0)) Z) (t1 (.pb 2 0 0))), [(1, ⟨0, [fL 31 lt0 p 0, .fz [] 35 [.str, .sl false 2 [.int .i64]] (gL p 1), .fz [] 68 [.str, .sl false 3 [.int .i64]] (gL p 2), fL 38 lt1 p 3], none⟩), (2, ⟨0, [.nils, .nils, .nils, .nils], none⟩), (3, ⟨0, [.vw 300192 0 [], .nils, .nils, .nils], none⟩)], [aR 300192 31 lt9 (gL p 4)], 1⟩)]),
 (2, [fun p => (.exit 2, ⟨(t0 (t2 (.pb 1 0 0) (t1 (.pb 3 0 0)) Z) (t1 (.pb 2 0 0))), [(1, ⟨0, [fL 31 lt0 p 0, .fz [] 35 [.str, .sl false 2 [.int .i64]] (gL p 1), .fz [] 68 [.str, .sl false 3 [.int .i64]] (gL p 2), fL 38 lt1 p 3], none⟩), (2, ⟨0, [.nils, .nils, .nils, .nils], none⟩), (3, ⟨0, [.vw 300192 0 [], .vw 300193 0 [], .nils, .nils], none⟩)], [aR 300192 31 lt9 (gL p 4), (300193, ⟨35, [.str, .sl true 2 [.int .i64]], (gL p 5), [], 0, [0, 0, 0, 0], 0⟩)], 1⟩)]),
 (4, [fun p => (.exit 4, ⟨(t0 (t2 (.pb 1 0 0) (t1 (.pb 3 0 0)) Z) (t1 (.pb 2 0 0))), [(1, ⟨0, [fL 31 lt0 p 0, .fz [] 35 [.str, .sl false 2 [.int .i64]] (gL p 1), .fz [] 68 [.str, .sl false 3 [.int .i64]] (gL p 2), fL 38 lt1 p 3], none⟩), (2, ⟨0, [.nils, .nils, .nils, .nils], none⟩), (3, ⟨0, [.vw 300192 0 [], .vw 300193 0 [], .vw 300194 0 [], .nils], none⟩)], [aR 300192 31 lt9 (gL p 4), (300193, ⟨35, [.str, .sl true 2 [.int .i64]], (gL p 5), [], 0, [0, 0, 0, 0], 0⟩), (300194, ⟨68, [.str, .sl true 3 [.int .i64]], (gL p 6), [], 0, [0, 0, 0, 0], 0⟩)], 1⟩)]),
 (6, [fun p => (.exit 6, ⟨(t0 (t0 (t1 (.pb 3 0 0)) Z) (t1 (.pb 2 0 0))), [(2, ⟨0, [.nils, .nils, .nils, .nils], none⟩), (3, ⟨0, [.vw 300192 0 [], .vw 300193 0 [], .vw 300194 0 [], .vw 300195 0 []], none⟩)], [aR 300192 31 lt9 (gL p 0), (300193, ⟨35, [.str, .sl true 2 [.int .i64]], (gL p 1), [], 0, [0, 0, 0, 0], 0⟩), (300194, ⟨68, [.str, .sl true 3 [.int .i64]], (gL p 2), [], 0, [0, 0, 0, 0], 0⟩), aR 300195 38 lt10 (gL p 3)], 1⟩)])]
def F_ir_Copy : Fn := { np := 1, bs := [0, 2, 4, 6], main := M_ir_Copy, lps := [(0, L_ir_Copy_0), (2, L_ir_Copy_2), (4, L_ir_Copy_4), (6, L_ir_Copy_6)] }
def M_wf_flows (x : List D) : Sh :=
 .loop 0 [.i 0, .l (eX (gD x 0) 4), .i (iX (gD x 0) 4), .s (D.toS (D.fld (gD x 0) 0)), .b (vB (gD x 0) 1), .l (eX (gD x 0) 2), .i (vI (gD x 0) 3), .l (eX (gD x 0) 4)] (.cons (fun p0 =>
 .ret (aB p0 0) [])
 (.cons (fun p0 =>
 .call flow_Reach [.l [aS p0 0, aB p0 1, aL p0 2, aI p0 3, aL p0 4]] 0 fun r1 _ =>
 .call slices_Contains_Sbool_bool [.l (D.els r1), .b false] 0 fun r2 _ =>
 .ask (D.toB r2)
 (.ret (.b false) [])
 (.call flow_Prev [.l [aS p0 0, aB p0 1, aL p0 2, aI p0 3, aL p0 4]] 0 fun r3 _ =>
 .loop 6 [.i 0, aL p0 4, .i (iL (gL p0 4)), .l (D.els r3)] (.cons (fun p4 =>
 .ret (aB p4 0) [])
 (.cons (fun p4 =>
 .ret (.b true) [])
 .nil))))
 .nil))
def L_wf_flows_0 (p : List D) : Sh :=
 .ask (ltI (gI p 0) (gI p 2))
 (.ask (within (gI p 0) (List.length (gL p 1)))
 (.ask (eqI (iE (gD (gL p 1) (tI p 0))) 0)
 (.out (0, [.b false, aS p 3, aB p 4, aL p 5, aI p 6, aL p 7]))
 (.loop 2 [aI p 0, .i 0, aI p 0, .b false, aL p 1, .l (D.els (gD (gL p 1) (tI p 0))), aI p 2, .i (iE (gD (gL p 1) (tI p 0))), aS p 3, aB p 4, aL p 5, aI p 6, aL p 7, .l (D.els (gD (gL p 1) (tI p 0)))] (.cons (fun p0 =>
 .out (0, [aB p0 2, aS p0 4, aB p0 5, aL p0 6, aI p0 7, aL p0 8]))
 (.cons (fun p0 =>
 .ask (within (wrapA .i64 ((iL (gL p0 8)) - 1)) (List.length (gL p0 8)))
 (.loop 4 (let z0 := eX (gD (gL p0 8) (Int.toNat (wrapA .i64 ((iL (gL p0 8)) - 1)))) 6; [aI p0 0, .i (iL z0), aL p0 1, .l z0, .i 0, aI p0 2, .l z0, aS p0 3, aB p0 4, aL p0 5, aI p0 6, aL p0 7]) (.cons (fun p1 =>
 .out (0, [aB p1 2, aS p1 5, aB p1 6, aL p1 7, aI p1 8, aL p1 9]))
 (.cons (fun p1 =>
 .ask ((!((eqI (iL (gL p1 2)) 2) && true)) || (within 0 (List.length (gL p1 2))))
 (.ask ((!((eqI (iL (gL p1 2)) 2) && true)) || (within 1 (List.length (gL p1 2))))
 (.ask ((eqI (iL (gL p1 2)) 2) && (eqI (D.toI (gD (gL p1 2) 0)) (D.toI (gD (gL p1 2) 1))))
 (.out (0, [.b false, aS p1 4, aB p1 5, aL p1 6, aI p1 7, aL p1 8]))
 (.again [.i (addA .i64 (gI p1 0) 1), aL p1 1, aI p1 3, aS p1 4, aB p1 5, aL p1 6, aI p1 7, aL p1 8]))
 (.bad))
 (.bad))
 .nil)))
 (.bad))
 .nil))))
 (.bad))
 (.out (1, [aS p 3, aB p 4, aL p 5, aI p 6, aL p 7]))
def L_wf_flows_2 (p : List D) : Sh :=
 .ask (ltI (gI p 1) (gI p 7))
 (.ask (within (gI p 1) (List.length (gL p 5)))
 (.call wf_Ends [.i (vI (gD (gL p 5) (tI p 1)) 0)] 0 fun r0 _ =>
 .ask ((!(bif D.toB r0 then eqI (gI p 1) (wrapA .i64 ((iL (gL p 13)) - 1)) else !(eqI (gI p 1) (wrapA .i64 ((iL (gL p 13)) - 1))))) || ((eqI (vI (gD (gL p 5) (tI p 1)) 0) 26) && ((gB p 3) || (eqI (gI p 0) 0))))
 (.out (0, [aI p 2, aL p 4, .b false, aI p 6, aS p 8, aB p 9, aL p 10, aI p 11, aL p 12, aL p 13]))
 (.again [aI p 0, .i (addA .i64 (gI p 1) 1), aI p 2, .b ((gB p 3) || (!(eqI (vI (gD (gL p 5) (tI p 1)) 0) 26))), aL p 4, aL p 5, aI p 6, aI p 7, aS p 8, aB p 9, aL p 10, aI p 11, aL p 12, aL p 13]))
 (.bad))
 (.out (1, [aI p 2, aL p 4, aI p 6, aS p 8, aB p 9, aL p 10, aI p 11, aL p 12, aL p 13]))
def L_wf_flows_4 (p : List D) : Sh :=
 .ask (ltI (gI p 4) (gI p 1))
 (.ask (within (gI p 4) (List.length (gL p 6)))
 (.ask ((ltI (D.toI (gD (gL p 6) (tI p 4))) 1) || (leI (iL (gL p 11)) (D.toI (gD (gL p 6) (tI p 4)))))
 (.out (0, [aI p 0, aL p 2, .b false, aL p 3, aI p 5, aS p 7, aB p 8, aL p 9, aI p 10, aL p 11]))
 (.again [aI p 0, aI p 1, aL p 2, aL p 3, .i (addA .i64 (gI p 4) 1), aI p 5, aL p 6, aS p 7, aB p 8, aL p 9, aI p 10, aL p 11]))
 (.bad))
 (.out (1, [aI p 0, aL p 2, aL p 3, aI p 5, aS p 7, aB p 8, aL p 9, aI p 10, aL p 11]))
def L_wf_flows_6 (p : List D) : Sh :=
 .ask (ltI (gI p 0) (gI p 2))
 (.ask (within (gI p 0) (List.length (gL p 1)))
 (.loop 8 [aI p 0, .i 0, .l (D.els (gD (gL p 1) (tI p 0))), aL p 1, aI p 0, .i (iE (gD (gL p 1) (tI p 0))), aI p 2, aL p 3] (.cons (fun p0 =>
 .out (0, [aB p0 2]))
 (.cons (fun p0 =>
 .again [.i (addA .i64 (gI p0 0) 1), aL p0 1, aI p0 2, aL p0 3])
 .nil)))
 (.bad))
 (.out (1, []))
def L_wf_flows_8 (p : List D) : Sh :=
 .ask (ltI (gI p 1) (gI p 5))
 (.ask (within (gI p 1) (List.length (gL p 2)))
 (.ask ((!((eqI (vI (gD (gL p 2) (tI p 1)) 0) 26) && true)) || (within (gI p 4) (List.length (gL p 7))))
 (.ask ((eqI (vI (gD (gL p 2) (tI p 1)) 0) 26) && true)
 (.call slices_Equal_Sint_int [.l (eX (gD (gL p 2) (tI p 1)) 6), .l (D.els (gD (gL p 7) (tI p 4)))] 0 fun r0 _ =>
 .ask ((eqI (vI (gD (gL p 2) (tI p 1)) 0) 26) && (!(D.toB r0)))
 (.out (0, [aI p 0, aL p 3, .b false, aI p 6, aL p 7]))
 (.again [aI p 0, .i (addA .i64 (gI p 1) 1), aL p 2, aL p 3, aI p 4, aI p 5, aI p 6, aL p 7]))
 (.ask ((eqI (vI (gD (gL p 2) (tI p 1)) 0) 26) && (!(D.toB (.i 0))))
 (.out (0, [aI p 0, aL p 3, .b false, aI p 6, aL p 7]))
 (.again [aI p 0, .i (addA .i64 (gI p 1) 1), aL p 2, aL p 3, aI p 4, aI p 5, aI p 6, aL p 7])))
 (.bad))
 (.bad))
 (.out (1, [aI p 0, aL p 3, aI p 6, aL p 7]))
def S_wf_flows : STab := [(0, fun p => ⟨(t0 (t2 (.pb 1 0 0) (t0 Z (t0 (t1 (nI p 0)) Z)) (t0 (t0 (t1 (fL 28 lt2 p 1)) Z) Z)) (t0 Z (t0 (t0 (t1 (nI p 2)) Z) Z))), [(1, ⟨0, [.str (gS p 3), nB p 4, fL 3 [.int .i64] p 5, nI p 6, fL 28 lt2 p 7], none⟩)], [], 1⟩),
 (2, fun p => ⟨(t0 (t2 (.pb 1 0 0) (t2 (nI p 0) (t0 (t0 (t1 (nI p 1)) Z) Z) (t0 (t1 (nI p 2)) Z)) (t2 (nB p 3) (t0 (t1 (fL 28 lt2 p 4)) Z) (t0 Z (t1 (fL 25 lt3 p 5))))) (t0 (t1 (.pb 4 0 0)) (t0 (t0 (t1 (nI p 6)) Z) (t0 Z (t1 (nI p 7)))))), [(1, ⟨0, [.str (gS p 8), nB p 9, fL 3 [.int .i64] p 10, nI p 11, fL 28 lt2 p 12], none⟩), (4, ⟨0, [fL 25 lt3 p 13], none⟩)], [], 1⟩),
 (4, fun p => ⟨(t0 (t2 (.pb 1 0 0) (t0 Z (t0 (t1 (nI p 0)) (t0 (t0 (t1 (nI p 1)) Z) Z))) (t0 (t0 (t1 (fL 28 lt2 p 2)) Z) Z)) (t0 (t0 (t1 (fL 3 [.int .i64] p 3)) (t0 Z (t0 (t0 (t1 (nI p 4)) Z) Z))) (t0 (t0 (t1 (nI p 5)) (t0 (t0 (t1 (fL 3 [.int .i64] p 6)) Z) Z)) Z))), [(1, ⟨0, [.str (gS p 7), nB p 8, fL 3 [.int .i64] p 9, nI p 10, fL 28 lt2 p 11], none⟩)], [], 1⟩),
 (6, fun p => ⟨(t0 (t0 (t0 (t0 (t0 Z (t0 Z (t1 (nI p 0)))) Z) (t1 (.vw 108000000 0 []))) (t0 Z (t0 Z (t0 (t0 Z (t1 (fL 28 lt2 p 1))) Z)))) (t0 Z (t0 Z (t0 Z (t0 (t0 Z (t1 (nI p 2))) Z))))), [], [(108000000, ⟨23, [.sl true 3 [.int .i64]], (gL p 3), [], 0, [0, 0, 0, 0], 0⟩)], 1⟩),
 (8, fun p => ⟨(t0 (t0 (t0 (t0 (t0 Z (t0 Z (t1 (nI p 0)))) (t0 Z (t0 Z (t1 (nI p 1))))) (t1 (.vw 108000000 0 []))) (t0 Z (t0 (t0 Z (t0 Z (t1 (fL 25 lt3 p 2)))) (t0 (t0 Z (t1 (fL 28 lt2 p 3))) Z)))) (t0 (t0 Z (t1 (nI p 4))) (t0 Z (t0 (t0 Z (t0 Z (t1 (nI p 5)))) (t0 (t0 Z (t1 (nI p 6))) Z))))), [], [(108000000, ⟨23, [.sl true 3 [.int .i64]], (gL p 7), [], 0, [0, 0, 0, 0], 0⟩)], 1⟩)]
def T_wf_flows : TTab := [(0, [fun p => (.ret, ⟨(t0 (t1 (.pb 1 0 0)) (t1 (nB p 0))), [(1, ⟨0, [.str (gS p 1), nB p 2, fL 3 [.int .i64] p 3, nI p 4, fL 28 lt2 p 5], none⟩)], [], 1⟩),
  fun p => (.exit 0, ⟨(t0 (t1 (.pb 1 0 0)) (t0 Z Z)), [(1, ⟨0, [.str (gS p 0), nB p 1, fL 3 [.int .i64] p 2, nI p 3, fL 28 lt2 p 4], none⟩)], [], 1⟩)]),
 (2, [fun p => (.ret, ⟨(t0 (t2 (.pb 1 0 0) (t0 Z (t0 (t1 (nI p 0)) Z)) (t0 (t0 (t1 (fL 28 lt2 p 1)) Z) Z)) (t2 (nB p 2) (t1 (.pb 4 0 0)) (t0 (t0 (t1 (nI p 3)) Z) Z))), [(1, ⟨0, [.str (gS p 4), nB p 5, fL 3 [.int .i64] p 6, nI p 7, fL 28 lt2 p 8], none⟩), (4, ⟨0, [fL 25 lt3 p 9], none⟩)], [], 1⟩),
  fun p => (.exit 2, ⟨(t0 (t2 (.pb 1 0 0) (t0 Z (t0 (t1 (nI p 0)) Z)) (t0 (t0 (t1 (fL 28 lt2 p 1)) Z) Z)) (t0 (t1 (.pb 4 0 0)) (t0 (t0 (t1 (nI p 2)) Z) Z))), [(1, ⟨0, [.str (gS p 3), nB p 4, fL 3 [.int .i64] p 5, nI p 6, fL 28 lt2 p 7], none⟩), (4, ⟨0, [fL 25 lt3 p 8], none⟩)], [], 1⟩)]),
 (4, [fun p => (.ret, ⟨(t0 (t2 (.pb 1 0 0) (t0 Z (t0 (t1 (nI p 0)) Z)) (t0 (t0 (t1 (fL 28 lt2 p 1)) Z) Z)) (t2 (nB p 2) (t0 (t1 (fL 3 [.int .i64] p 3)) Z) (t0 (t0 (t1 (nI p 4)) Z) Z))), [(1, ⟨0, [.str (gS p 5), nB p 6, fL 3 [.int .i64] p 7, nI p 8, fL 28 lt2 p 9], none⟩)], [], 1⟩),
  fun p => (.exit 4, ⟨(t0 (t2 (.pb 1 0 0) (t0 Z (t0 (t1 (nI p 0)) Z)) (t0 (t0 (t1 (fL 28 lt2 p 1)) Z) Z)) (t0 (t0 (t1 (fL 3 [.int .i64] p 2)) Z) (t0 (t0 (t1 (nI p 3)) Z) Z))), [(1, ⟨0, [.str (gS p 4), nB p 5, fL 3 [.int .i64] p 6, nI p 7, fL 28 lt2 p 8], none⟩)], [], 1⟩)]),
 (6, [fun p => (.ret, ⟨(t0 Z (t1 (nB p 0))), [], [], 1⟩),
  fun p => (.exit 6, ⟨(t0 Z (t0 Z Z)), [], [], 1⟩)]),
 (8, [fun p => (.ret, ⟨(t0 (t0 (t0 (t0 (t0 Z (t0 Z (t1 (nI p 0)))) Z) (t1 (.vw 108000000 0 []))) (t0 Z (t0 Z (t0 (t0 Z (t1 (fL 28 lt2 p 1))) Z)))) (t2 (nB p 2) Z (t0 Z (t0 Z (t0 (t0 Z (t1 (nI p 3))) Z))))), [], [(108000000, ⟨23, [.sl true 3 [.int .i64]], (gL p 4), [], 0, [0, 0, 0, 0], 0⟩)], 1⟩),
  fun p => (.exit 8, ⟨(t0 (t0 (t0 (t0 (t0 Z (t0 Z (t1 (nI p 0)))) Z) (t1 (.vw 108000000 0 []))) (t0 Z (t0 Z (t0 (t0 Z (t1 (fL 28 lt2 p 1))) Z)))) (t0 Z (t0 Z (t0 Z (t0 (t0 Z (t1 (nI p 2))) Z))))), [], [(108000000, ⟨23, [.sl true 3 [.int .i64]], (gL p 3), [], 0, [0, 0, 0, 0], 0⟩)], 1⟩)])]
def F_wf_flows : Fn := { np := 1, bs := [0, 2, 4, 6, 8], main := M_wf_flows, lps := [(0, L_wf_flows_0), (2, L_wf_flows_2), (4, L_wf_flows_4), (6, L_wf_flows_6), (8, L_wf_flows_8)] }
def M_wf_typed (x : List D) : Sh :=
 .call ir_Types [.l [.s (D.toS (D.fld (gD x 1) 0)), .b (vB (gD x 1) 1), .l (eX (gD x 1) 2), .i (vI (gD x 1) 3), .l (eX (gD x 1) 4)]] 0 fun r0 _ =>
 .loop 0 [.i 0, .l (eX (gD x 1) 4), .i (iX (gD x 1) 4), .l (eX (gD x 0) 0), .l (eX (gD x 0) 1), .l (eX (gD x 0) 2), .l (eX (gD x 0) 3), .s (D.toS (D.fld (gD x 1) 0)), .b (vB (gD x 1) 1), .l (eX (gD x 1) 2), .i (vI (gD x 1) 3), .l (eX (gD x 1) 4), .l (D.els r0)] (.cons (fun p1 =>
 .ret (aB p1 0) [])
 (.cons (fun p1 =>
 .ret (.b true) [])
 .nil))
def L_wf_typed_0 (p : List D) : Sh :=
 .ask (ltI (gI p 0) (gI p 2))
 (.ask (within (gI p 0) (List.length (gL p 1)))
 (.loop 2 [aI p 0, aL p 1, .i (iE (gD (gL p 1) (tI p 0))), .l (D.els (gD (gL p 1) (tI p 0))), aI p 2, .i 0, aL p 3, aL p 4, aL p 5, aL p 6, aS p 7, aB p 8, aL p 9, aI p 10, aL p 11, aL p 12] (.cons (fun p0 =>
 .out (0, [aB p0 2]))
 (.cons (fun p0 =>
 .again [.i (addA .i64 (gI p0 0) 1), aL p0 1, aI p0 2, aL p0 3, aL p0 4, aL p0 5, aL p0 6, aS p0 7, aB p0 8, aL p0 9, aI p0 10, aL p0 11, aL p0 12])
 .nil)))
 (.bad))
 (.out (1, []))
def L_wf_typed_2 (p : List D) : Sh :=
 .ask (ltI (gI p 5) (gI p 2))
 (.ask (within (gI p 5) (List.length (gL p 3)))
 (.call wf_fitting [.l [aL p 6, aL p 7, aL p 8, aL p 9], .l [aS p 10, aB p 11, aL p 12, aI p 13, aL p 14], aL p 15, .l [.i (vI (gD (gL p 3) (tI p 5)) 0), .i (vI (gD (gL p 3) (tI p 5)) 1), .i (vI (gD (gL p 3) (tI p 5)) 2), .i (vI (gD (gL p 3) (tI p 5)) 3), .i (vI (gD (gL p 3) (tI p 5)) 4), .l (eX (gD (gL p 3) (tI p 5)) 5), .l (eX (gD (gL p 3) (tI p 5)) 6)]] 0 fun r0 _ =>
 .ask (!(D.toB r0))
 (.out (0, [aI p 0, aL p 1, .b false, aI p 4, aL p 6, aL p 7, aL p 8, aL p 9, aS p 10, aB p 11, aL p 12, aI p 13, aL p 14, aL p 15]))
 (.again [aI p 0, aL p 1, aI p 2, aL p 3, aI p 4, .i (addA .i64 (gI p 5) 1), aL p 6, aL p 7, aL p 8, aL p 9, aS p 10, aB p 11, aL p 12, aI p 13, aL p 14, aL p 15]))
 (.bad))
 (.out (1, [aI p 0, aL p 1, aI p 4, aL p 6, aL p 7, aL p 8, aL p 9, aS p 10, aB p 11, aL p 12, aI p 13, aL p 14, aL p 15]))
def S_wf_typed : STab := [(0, fun p => ⟨(t0 (t0 (t2 (.pb 3 0 0) (t0 (t1 (nI p 0)) Z) Z) (t2 (.vw 12000000 0 []) Z (t1 (fL 28 lt2 p 1)))) (t2 (.pb 2 0 0) Z (t0 Z (t1 (nI p 2))))), [(2, ⟨0, [fL 31 lt0 p 3, .fz [] 35 [.str, .sl false 2 [.int .i64]] (gL p 4), .fz [] 68 [.str, .sl false 3 [.int .i64]] (gL p 5), fL 38 lt1 p 6], none⟩), (3, ⟨0, [.str (gS p 7), nB p 8, fL 3 [.int .i64] p 9, nI p 10, fL 28 lt2 p 11], none⟩)], [aR 12000000 3 [.int .i64] (gL p 12)], 1⟩),
 (2, fun p => ⟨(t0 (t0 (t2 (.pb 3 0 0) (t0 (t1 (nI p 0)) Z) Z) (t2 (.vw 12000000 0 []) Z (t2 (fL 28 lt2 p 1) (t1 (nI p 2)) Z))) (t2 (.pb 2 0 0) (t0 Z (t0 (t1 (fL 25 lt3 p 3)) Z)) (t0 Z (t2 (nI p 4) (t1 (nI p 5)) Z)))), [(2, ⟨0, [fL 31 lt0 p 6, .fz [] 35 [.str, .sl false 2 [.int .i64]] (gL p 7), .fz [] 68 [.str, .sl false 3 [.int .i64]] (gL p 8), fL 38 lt1 p 9], none⟩), (3, ⟨0, [.str (gS p 10), nB p 11, fL 3 [.int .i64] p 12, nI p 13, fL 28 lt2 p 14], none⟩)], [aR 12000000 3 [.int .i64] (gL p 15)], 1⟩)]
def T_wf_typed : TTab := [(0, [fun p => (.ret, ⟨(t0 Z (t0 (t1 (nB p 0)) Z)), [], [], 1⟩),
  fun p => (.exit 0, ⟨(t0 Z (t0 (t0 Z Z) Z)), [], [], 1⟩)]),
 (2, [fun p => (.ret, ⟨(t0 (t0 (t2 (.pb 3 0 0) (t0 (t1 (nI p 0)) Z) Z) (t2 (.vw 12000000 0 []) Z (t1 (fL 28 lt2 p 1)))) (t2 (.pb 2 0 0) (t1 (nB p 2)) (t0 Z (t1 (nI p 3))))), [(2, ⟨0, [fL 31 lt0 p 4, .fz [] 35 [.str, .sl false 2 [.int .i64]] (gL p 5), .fz [] 68 [.str, .sl false 3 [.int .i64]] (gL p 6), fL 38 lt1 p 7], none⟩), (3, ⟨0, [.str (gS p 8), nB p 9, fL 3 [.int .i64] p 10, nI p 11, fL 28 lt2 p 12], none⟩)], [aR 12000000 3 [.int .i64] (gL p 13)], 1⟩),
  fun p => (.exit 2, ⟨(t0 (t0 (t2 (.pb 3 0 0) (t0 (t1 (nI p 0)) Z) Z) (t2 (.vw 12000000 0 []) Z (t1 (fL 28 lt2 p 1)))) (t2 (.pb 2 0 0) (t0 Z Z) (t0 Z (t1 (nI p 2))))), [(2, ⟨0, [fL 31 lt0 p 3, .fz [] 35 [.str, .sl false 2 [.int .i64]] (gL p 4), .fz [] 68 [.str, .sl false 3 [.int .i64]] (gL p 5), fL 38 lt1 p 6], none⟩), (3, ⟨0, [.str (gS p 7), nB p 8, fL 3 [.int .i64] p 9, nI p 10, fL 28 lt2 p 11], none⟩)], [aR 12000000 3 [.int .i64] (gL p 12)], 1⟩)])]
def F_wf_typed : Fn := { np := 2, bs := [0, 2], main := M_wf_typed, lps := [(0, L_wf_typed_0), (2, L_wf_typed_2)] }
def J_r3_form_1 (x : List D) : Sh :=
 .ask (!(eqI (vI (gD x 0) 0) 21))
 (.call r3_Ends [.i (vI (gD x 0) 0)] 0 fun r1 _ =>
 .ask (!(bif (eqI (vI (gD x 0) 0) 21) || (D.toB r1) then eqI (vI (gD x 0) 1) 0 else !(eqI (vI (gD x 0) 1) 0)))
 (.ret (.b false) [])
 (.ret (.b (((eqI (vI (gD x 0) 1) 0) && (eqI (vI (gD x 0) 2) 0)) || ((!(eqI (vI (gD x 0) 1) 0)) && (leI 1 (vI (gD x 0) 2))))) []))
 (.ask (!(bif (eqI (vI (gD x 0) 0) 21) || (D.toB (.i 0)) then eqI (vI (gD x 0) 1) 0 else !(eqI (vI (gD x 0) 1) 0)))
 (.ret (.b false) [])
 (.ret (.b (((eqI (vI (gD x 0) 1) 0) && (eqI (vI (gD x 0) 2) 0)) || ((!(eqI (vI (gD x 0) 1) 0)) && (leI 1 (vI (gD x 0) 2))))) []))
def J_r3_form_0 (x : List D) : Sh :=
 .ask (eqI (vI (gD x 0) 0) 18)
 (.ask ((ltI (vI (gD x 0) 4) 1) || (ltI 16 (vI (gD x 0) 4)))
 (.ret (.b false) [])
 (J_r3_form_1 x))
 (J_r3_form_1 x)
def J_r3_form_2 (x : List D) : Sh :=
 .ask (!(eqI (vI (gD x 0) 0) 21))
 (.call r3_Ends [.i (vI (gD x 0) 0)] 0 fun r1 _ =>
 .ask (!(bif (eqI (vI (gD x 0) 0) 21) || (D.toB r1) then eqI (vI (gD x 0) 1) 0 else !(eqI (vI (gD x 0) 1) 0)))
 (.ret (.b false) [])
 (.ret (.b (((eqI (vI (gD x 0) 1) 0) && (eqI (vI (gD x 0) 2) 0)) || ((!(eqI (vI (gD x 0) 1) 0)) && (leI 1 (vI (gD x 0) 2))))) []))
 (.ask (!(bif (eqI (vI (gD x 0) 0) 21) || (D.toB (.i 0)) then eqI (vI (gD x 0) 1) 0 else !(eqI (vI (gD x 0) 1) 0)))
 (.ret (.b false) [])
 (.ret (.b (((eqI (vI (gD x 0) 1) 0) && (eqI (vI (gD x 0) 2) 0)) || ((!(eqI (vI (gD x 0) 1) 0)) && (leI 1 (vI (gD x 0) 2))))) []))
def J_r3_form_3 (x : List D) : Sh :=
 .ask (ltI 5 (iX (gD x 0) 5))
 (.ret (.b false) [])
 (.ask (!(eqI (vI (gD x 0) 0) 21))
 (.call r3_Ends [.i (vI (gD x 0) 0)] 0 fun r1 _ =>
 .ask false
 (.ret (.b false) [])
 (.ret (.b (((eqI (vI (gD x 0) 1) 0) && (eqI (vI (gD x 0) 2) 0)) || ((!(eqI (vI (gD x 0) 1) 0)) && (leI 1 (vI (gD x 0) 2))))) []))
 (.ask false
 (.ret (.b false) [])
 (.ret (.b (((eqI (vI (gD x 0) 1) 0) && (eqI (vI (gD x 0) 2) 0)) || ((!(eqI (vI (gD x 0) 1) 0)) && (leI 1 (vI (gD x 0) 2))))) [])))
def M_r3_form (x : List D) : Sh :=
 .ask ((((ltI (vI (gD x 0) 0) 1) || (ltI 30 (vI (gD x 0) 0))) || (ltI (vI (gD x 0) 1) 0)) || (ltI 4 (vI (gD x 0) 1)))
 (.ret (.b false) [])
 (.call r3_Mark [.i (vI (gD x 0) 0)] 0 fun r0 _ =>
 .ask (((((leI 0 (vI r0 0)) && (!(eqI (iX (gD x 0) 5) (vI r0 0)))) || ((leI 0 (vI r0 1)) && (!(eqI (iX (gD x 0) 6) (vI r0 1))))) || ((!(vB r0 2)) && (!(eqI (vI (gD x 0) 3) 0)))) || ((!(vB r0 3)) && (!(eqI (vI (gD x 0) 4) 0))))
 (.ret (.b false) [])
 (.ask (eqI (vI (gD x 0) 0) 26)
 (.ask ((ltI (iX (gD x 0) 5) 1) || (!(eqI (iX (gD x 0) 6) (iX (gD x 0) 5))))
 (.ret (.b false) [])
 (J_r3_form_2 x))
 (.ask (eqI (vI (gD x 0) 0) 29)
 (.ask (ltI 1 (iX (gD x 0) 5))
 (.ret (.b false) [])
 (J_r3_form_2 x))
 (.ask (eqI (vI (gD x 0) 0) 25)
 (.ask ((ltI (iX (gD x 0) 5) 1) || (ltI 6 (iX (gD x 0) 5)))
 (.ret (.b false) [])
 (.ask (!(eqI (vI (gD x 0) 0) 21))
 (.call r3_Ends [.i (vI (gD x 0) 0)] 0 fun r1 _ =>
 .ask false
 (.ret (.b false) [])
 (.ret (.b (((eqI (vI (gD x 0) 1) 0) && (eqI (vI (gD x 0) 2) 0)) || ((!(eqI (vI (gD x 0) 1) 0)) && (leI 1 (vI (gD x 0) 2))))) []))
 (.ask false
 (.ret (.b false) [])
 (.ret (.b (((eqI (vI (gD x 0) 1) 0) && (eqI (vI (gD x 0) 2) 0)) || ((!(eqI (vI (gD x 0) 1) 0)) && (leI 1 (vI (gD x 0) 2))))) []))))
 (.ask (eqI (vI (gD x 0) 0) 22)
 (.ask (eqI (vI (gD x 0) 0) 22)
 (J_r3_form_3 x)
 (J_r3_form_0 x))
 (.ask (eqI (vI (gD x 0) 0) 23)
 (J_r3_form_3 x)
 (J_r3_form_0 x)))))))
def S_r3_form : STab := []
def T_r3_form : TTab := []
def F_r3_form : Fn := { np := 1, bs := [], main := M_r3_form, lps := [] }
def M_r3_Types (x : List D) : Sh :=
 .ask (lim (1 + (nX (gD x 0) 2)) 8)
 (.loop 0 [.i 0, .s (D.toS (D.fld (gD x 0) 0)), .b (vB (gD x 0) 1), .l (eX (gD x 0) 2), .i (vI (gD x 0) 3), .l (eX (gD x 0) 4), .l ([.i 0] ++ (eX (gD x 0) 2))] (.cons (fun p0 =>
 .ret (aL p0 0) [])
 .nil))
 (.bad)
def L_r3_Types_0 (p : List D) : Sh :=
 .ask (ltI (gI p 0) (iL (gL p 5)))
 (.loop 2 [.i 0, aI p 0, aS p 1, aB p 2, aL p 3, aI p 4, aL p 5, aL p 6] (.cons (fun p0 =>
 .again [.i (addA .i64 (gI p0 0) 1), aS p0 1, aB p0 2, aL p0 3, aI p0 4, aL p0 5, aL p0 6])
 .nil))
 (.out (0, [aL p 6]))
def L_r3_Types_2 (p : List D) : Sh :=
 .ask (within (gI p 1) (List.length (gL p 6)))
 (.ask (ltI (gI p 0) (iE (gD (gL p 6) (tI p 1))))
 (.ask (within (gI p 1) (List.length (gL p 6)))
 (.ask (within (gI p 0) (nE (gD (gL p 6) (tI p 1))))
 (.ask (!(eqI (vI (gE (gD (gL p 6) (tI p 1)) (tI p 0)) 1) 0))
 (.ask (lim ((List.length (gL p 7)) + 1) 8)
 (.again [.i (addA .i64 (gI p 0) 1), aI p 1, aS p 2, aB p 3, aL p 4, aI p 5, aL p 6, .l ((gL p 7) ++ [.i (vI (gE (gD (gL p 6) (tI p 1)) (tI p 0)) 1)])])
 (.bad))
 (.again [.i (addA .i64 (gI p 0) 1), aI p 1, aS p 2, aB p 3, aL p 4, aI p 5, aL p 6, aL p 7]))
 (.bad))
 (.bad))
 (.out (0, [aI p 1, aS p 2, aB p 3, aL p 4, aI p 5, aL p 6, aL p 7])))
 (.bad)
def S_r3_Types : STab := [(0, fun p => ⟨(t0 (t2 (.pb 1 0 0) (t1 (.vw 200003 0 [])) Z) (t0 (t1 (nI p 0)) Z)), [(1, ⟨0, [.str (gS p 1), nB p 2, fL 3 [.int .i64] p 3, nI p 4, fL 28 lt2 p 5], none⟩)], [aR 200003 3 [.int .i64] (gL p 6)], 1⟩),
 (2, fun p => ⟨(t0 (t2 (.pb 1 0 0) (t1 (.vw 200003 0 [])) (t1 (nI p 0))) (t0 (t1 (nI p 1)) Z)), [(1, ⟨0, [.str (gS p 2), nB p 3, fL 3 [.int .i64] p 4, nI p 5, fL 28 lt2 p 6], none⟩)], [aR 200003 3 [.int .i64] (gL p 7)], 1⟩)]
def T_r3_Types : TTab := [(0, [fun p => (.exit 0, ⟨(t0 (t0 (t1 (.vw 200003 0 [])) Z) (t0 Z Z)), [], [aR 200003 3 [.int .i64] (gL p 0)], 1⟩)]),
 (2, [fun p => (.exit 2, ⟨(t0 (t2 (.pb 1 0 0) (t1 (.vw 200003 0 [])) Z) (t0 (t1 (nI p 0)) Z)), [(1, ⟨0, [.str (gS p 1), nB p 2, fL 3 [.int .i64] p 3, nI p 4, fL 28 lt2 p 5], none⟩)], [aR 200003 3 [.int .i64] (gL p 6)], 1⟩)])]
def F_r3_Types : Fn := { np := 1, bs := [0, 2], main := M_r3_Types, lps := [(0, L_r3_Types_0), (2, L_r3_Types_2)] }
def J_r3_fits_2 (x : List D) : Sh :=
 .ask (eqI (vI (gD x 2) 0) 16)
 (.ask ((!((eqI (vI (gD x 2) 1) 2) && true)) || (within 0 (nE (gD x 3))))
 (.ret (.b ((eqI (vI (gD x 2) 1) 2) && (eqI (D.toI (gE (gD x 3) 0)) 2))) [])
 (.bad))
 (.ask (eqI (vI (gD x 2) 0) 17)
 (.ask (within 0 (nE (gD x 3)))
 (.ask ((!((eqI (D.toI (gE (gD x 3) 0)) 2) && true)) || (within 1 (nE (gD x 3))))
 (.ask ((!(((eqI (D.toI (gE (gD x 3) 0)) 2) && (eqI (D.toI (gE (gD x 3) 1)) (vI (gD x 2) 1))) && true)) || (within 2 (nE (gD x 3))))
 (.ret (.b (((eqI (D.toI (gE (gD x 3) 0)) 2) && (eqI (D.toI (gE (gD x 3) 1)) (vI (gD x 2) 1))) && (eqI (D.toI (gE (gD x 3) 2)) (vI (gD x 2) 1)))) [])
 (.bad))
 (.bad))
 (.bad))
 (.ask (eqI (vI (gD x 2) 0) 19)
 (.ask ((!((eqI (vI (gD x 2) 1) 3) && true)) || (within 0 (nE (gD x 3))))
 (.ask ((!(((eqI (vI (gD x 2) 1) 3) && (eqI (D.toI (gE (gD x 3) 0)) 3)) && true)) || (within 1 (nE (gD x 3))))
 (.ret (.b (((eqI (vI (gD x 2) 1) 3) && (eqI (D.toI (gE (gD x 3) 0)) 3)) && (eqI (D.toI (gE (gD x 3) 1)) 1))) [])
 (.bad))
 (.bad))
 (.ask (eqI (vI (gD x 2) 0) 20)
 (.ask ((!((eqI (vI (gD x 2) 1) 1) && true)) || (within 0 (nE (gD x 3))))
 (.ret (.b ((eqI (vI (gD x 2) 1) 1) && (eqI (D.toI (gE (gD x 3) 0)) 3))) [])
 (.bad))
 (.ask (eqI (vI (gD x 2) 0) 21)
 (.ask (within 0 (nE (gD x 3)))
 (.ask ((!((eqI (D.toI (gE (gD x 3) 0)) 3) && true)) || (within 1 (nE (gD x 3))))
 (.ret (.b ((eqI (D.toI (gE (gD x 3) 0)) 3) && (eqI (D.toI (gE (gD x 3) 1)) 1))) [])
 (.bad))
 (.bad))
 (.ask (eqI (vI (gD x 2) 0) 22)
 (.ask (within (vI (gD x 2) 3) (nX (gD x 0) 3))
 (.call r3_Ints [.l (D.els (gD x 3)), .l (eX (gD (eX (gD x 0) 3) (Int.toNat (vI (gD x 2) 3))) 2)] 0 fun r0 _ =>
 .ask ((!((D.toB r0) && true)) || (within (vI (gD x 2) 3) (nX (gD x 0) 3)))
 (.ret (.b ((D.toB r0) && (eqI (vI (gD x 2) 1) (vI (gD (eX (gD x 0) 3) (Int.toNat (vI (gD x 2) 3))) 3)))) [])
 (.bad))
 (.bad))
 (.ask (eqI (vI (gD x 2) 0) 23)
 (.ask (within (vI (gD x 2) 3) (nX (gD x 0) 0))
 (.call r3_Ints [.l (D.els (gD x 3)), .l (eX (gD (eX (gD x 0) 0) (Int.toNat (vI (gD x 2) 3))) 1)] 0 fun r0 _ =>
 .ask ((!((D.toB r0) && true)) || (within (vI (gD x 2) 3) (nX (gD x 0) 0)))
 (.ret (.b ((D.toB r0) && (eqI (vI (gD x 2) 1) (vI (gD (eX (gD x 0) 0) (Int.toNat (vI (gD x 2) 3))) 2)))) [])
 (.bad))
 (.bad))
 (.ask (eqI (vI (gD x 2) 0) 24)
 (.ask ((!((eqI (vI (gD x 2) 1) 4) && true)) || (within 0 (nE (gD x 3))))
 (.ret (.b ((eqI (vI (gD x 2) 1) 4) && (eqI (D.toI (gE (gD x 3) 0)) 1))) [])
 (.bad))
 (.ask (eqI (vI (gD x 2) 0) 25)
 (.ask (within 0 (nE (gD x 3)))
 (.ret (.b ((eqI (D.toI (gE (gD x 3) 0)) 4) && (!(eqI (vI (gD x 2) 1) 3)))) [])
 (.bad))
 (.ask (eqI (vI (gD x 2) 0) 26)
 (.loop 1 [.l (D.els (gD x 3)), .i 0, .i (vI (gD x 2) 0), .i (vI (gD x 2) 1), .i (vI (gD x 2) 2), .i (vI (gD x 2) 3), .i (vI (gD x 2) 4), .l (eX (gD x 2) 5), .l (eX (gD x 2) 6)] (.cons (fun p0 =>
 .ret (aB p0 0) [])
 (.cons (fun p0 =>
 .ret (.b true) [])
 .nil)))
 (.ask (eqI (vI (gD x 2) 0) 28)
 (.ask (within 0 (nE (gD x 3)))
 (.ret (.b (eqI (D.toI (gE (gD x 3) 0)) 2)) [])
 (.bad))
 (.ask (eqI (vI (gD x 2) 0) 29)
 (.ask (eqI (vI (gD x 1) 3) 0)
 (.ret (.b (eqI (iE (gD x 3)) 0)) [])
 (.ask ((!((eqI (iE (gD x 3)) 1) && true)) || (within 0 (nE (gD x 3))))
 (.ret (.b ((eqI (iE (gD x 3)) 1) && (eqI (D.toI (gE (gD x 3) 0)) (vI (gD x 1) 3)))) [])
 (.bad)))
 (.ret (.b true) []))))))))))))
def J_r3_fits_3 (x : List D) : Sh :=
 .ask ((!((eqI (vI (gD x 2) 1) 2) && true)) || (within 0 (nE (gD x 3))))
 (.ask ((!(((eqI (vI (gD x 2) 1) 2) && (eqI (D.toI (gE (gD x 3) 0)) 1)) && true)) || (within 1 (nE (gD x 3))))
 (.ret (.b (((eqI (vI (gD x 2) 1) 2) && (eqI (D.toI (gE (gD x 3) 0)) 1)) && (eqI (D.toI (gE (gD x 3) 1)) 1))) [])
 (.bad))
 (.bad)
def J_r3_fits_1 (x : List D) : Sh :=
 .ask (eqI (vI (gD x 2) 0) 14)
 (.ask (eqI (vI (gD x 2) 0) 14)
 (J_r3_fits_3 x)
 (J_r3_fits_2 x))
 (.ask (eqI (vI (gD x 2) 0) 15)
 (J_r3_fits_3 x)
 (J_r3_fits_2 x))
def J_r3_fits_4 (x : List D) : Sh :=
 .ask ((!((eqI (vI (gD x 2) 1) 1) && true)) || (within 0 (nE (gD x 3))))
 (.ask ((!(((eqI (vI (gD x 2) 1) 1) && (eqI (D.toI (gE (gD x 3) 0)) 1)) && true)) || (within 1 (nE (gD x 3))))
 (.ret (.b (((eqI (vI (gD x 2) 1) 1) && (eqI (D.toI (gE (gD x 3) 0)) 1)) && (eqI (D.toI (gE (gD x 3) 1)) 1))) [])
 (.bad))
 (.bad)
def J_r3_fits_0 (x : List D) : Sh :=
 .ask (eqI (vI (gD x 2) 0) 4)
 (.ask (eqI (vI (gD x 2) 0) 4)
 (J_r3_fits_4 x)
 (J_r3_fits_1 x))
 (.ask (eqI (vI (gD x 2) 0) 5)
 (.ask (eqI (vI (gD x 2) 0) 5)
 (J_r3_fits_4 x)
 (J_r3_fits_1 x))
 (.ask (eqI (vI (gD x 2) 0) 6)
 (.ask (eqI (vI (gD x 2) 0) 6)
 (J_r3_fits_4 x)
 (J_r3_fits_1 x))
 (.ask (eqI (vI (gD x 2) 0) 7)
 (.ask (eqI (vI (gD x 2) 0) 7)
 (J_r3_fits_4 x)
 (J_r3_fits_1 x))
 (.ask (eqI (vI (gD x 2) 0) 8)
 (.ask (eqI (vI (gD x 2) 0) 8)
 (J_r3_fits_4 x)
 (J_r3_fits_1 x))
 (.ask (eqI (vI (gD x 2) 0) 9)
 (.ask (eqI (vI (gD x 2) 0) 9)
 (J_r3_fits_4 x)
 (J_r3_fits_1 x))
 (.ask (eqI (vI (gD x 2) 0) 10)
 (.ask (eqI (vI (gD x 2) 0) 10)
 (J_r3_fits_4 x)
 (J_r3_fits_1 x))
 (.ask (eqI (vI (gD x 2) 0) 11)
 (.ask (eqI (vI (gD x 2) 0) 11)
 (J_r3_fits_4 x)
 (J_r3_fits_1 x))
 (.ask (eqI (vI (gD x 2) 0) 12)
 (.ask (eqI (vI (gD x 2) 0) 12)
 (J_r3_fits_4 x)
 (J_r3_fits_1 x))
 (.ask (eqI (vI (gD x 2) 0) 13)
 (J_r3_fits_4 x)
 (J_r3_fits_1 x))))))))))
def M_r3_fits (x : List D) : Sh :=
 .ask (eqI (vI (gD x 2) 0) 1)
 (.ret (.b ((eqI (vI (gD x 2) 1) 1) || ((eqI (vI (gD x 2) 1) 2) && ((eqI (vI (gD x 2) 4) 0) || (eqI (vI (gD x 2) 4) 1))))) [])
 (.ask (eqI (vI (gD x 2) 0) 2)
 (.ret (.b (eqI (vI (gD x 2) 1) 4)) [])
 (.ask (eqI (vI (gD x 2) 0) 3)
 (.ask (eqI (vI (gD x 2) 0) 3)
 (.ret (.b (eqI (vI (gD x 2) 1) 3)) [])
 (J_r3_fits_0 x))
 (.ask (eqI (vI (gD x 2) 0) 18)
 (.ret (.b (eqI (vI (gD x 2) 1) 3)) [])
 (J_r3_fits_0 x))))
def L_r3_fits_1 (p : List D) : Sh :=
 .ask (ltI (gI p 1) (iL (gL p 0)))
 (.ask (within (gI p 1) (List.length (gL p 0)))
 (.ask (!(eqI (D.toI (gD (gL p 0) (tI p 1))) (gI p 3)))
 (.out (0, [.b false]))
 (.again [aL p 0, .i (addA .i64 (gI p 1) 1), aI p 2, aI p 3, aI p 4, aI p 5, aI p 6, aL p 7, aL p 8]))
 (.bad))
 (.out (1, []))
def S_r3_fits : STab := [(1, fun p => ⟨(t0 (t0 (t1 (fL 3 [.int .i64] p 0)) (t0 (t1 (nI p 1)) Z)) (t0 Z (t1 (.pb 6 0 0)))), [(6, ⟨0, [nI p 2, nI p 3, nI p 4, nI p 5, nI p 6, fL 3 [.int .i64] p 7, fL 3 [.int .i64] p 8], none⟩)], [], 1⟩)]
def T_r3_fits : TTab := [(1, [fun p => (.ret, ⟨(t0 Z (t0 (t0 (t1 (nB p 0)) Z) Z)), [], [], 1⟩),
  fun p => (.exit 1, ⟨(t0 Z (t0 (t0 (t0 Z Z) Z) Z)), [], [], 1⟩)])]
def F_r3_fits : Fn := { np := 4, bs := [1], main := M_r3_fits, lps := [(1, L_r3_fits_1)] }
def J_wf_shaped_1 (x : List D) : Sh :=
 .ask (!(eqI (vI (gD x 0) 0) 21))
 (.call wf_Ends [.i (vI (gD x 0) 0)] 0 fun r1 _ =>
 .ask ((!(((eqI (vI (gD x 0) 0) 22) || (eqI (vI (gD x 0) 0) 23)) || (eqI (vI (gD x 0) 0) 25))) && (!(bif (eqI (vI (gD x 0) 0) 21) || (D.toB r1) then eqI (vI (gD x 0) 1) 0 else !(eqI (vI (gD x 0) 1) 0))))
 (.ret (.b false) [])
 (.ask (eqI (vI (gD x 0) 1) 0)
 (.ret (.b (eqI (vI (gD x 0) 2) 0)) [])
 (.ret (.b (leI 1 (vI (gD x 0) 2))) [])))
 (.ask ((!(((eqI (vI (gD x 0) 0) 22) || (eqI (vI (gD x 0) 0) 23)) || (eqI (vI (gD x 0) 0) 25))) && (!(bif (eqI (vI (gD x 0) 0) 21) || (D.toB (.i 0)) then eqI (vI (gD x 0) 1) 0 else !(eqI (vI (gD x 0) 1) 0))))
 (.ret (.b false) [])
 (.ask (eqI (vI (gD x 0) 1) 0)
 (.ret (.b (eqI (vI (gD x 0) 2) 0)) [])
 (.ret (.b (leI 1 (vI (gD x 0) 2))) [])))
def J_wf_shaped_0 (x : List D) (r0 : D) : Sh :=
 .ask (eqI (vI (gD x 0) 0) 18)
 (.ask (((((!(((((ltI (vI r0 0) 0) || (eqI (iX (gD x 0) 5) (vI r0 0))) && ((ltI (vI r0 1) 0) || (eqI (iX (gD x 0) 6) (vI r0 1)))) && (leI 1 (vI (gD x 0) 4))) && (leI (vI (gD x 0) 4) 16))) || ((!(vB r0 2)) && (!(eqI (vI (gD x 0) 3) 0)))) || ((!(vB r0 3)) && (!(eqI (vI (gD x 0) 4) 0)))) || (ltI (vI (gD x 0) 1) 0)) || (ltI 4 (vI (gD x 0) 1)))
 (.ret (.b false) [])
 (J_wf_shaped_1 x))
 (.ask (((((!(((ltI (vI r0 0) 0) || (eqI (iX (gD x 0) 5) (vI r0 0))) && ((ltI (vI r0 1) 0) || (eqI (iX (gD x 0) 6) (vI r0 1))))) || ((!(vB r0 2)) && (!(eqI (vI (gD x 0) 3) 0)))) || ((!(vB r0 3)) && (!(eqI (vI (gD x 0) 4) 0)))) || (ltI (vI (gD x 0) 1) 0)) || (ltI 4 (vI (gD x 0) 1)))
 (.ret (.b false) [])
 (J_wf_shaped_1 x))
def J_wf_shaped_2 (x : List D) (r0 : D) : Sh :=
 .ask (((((!((((ltI (vI r0 0) 0) || (eqI (iX (gD x 0) 5) (vI r0 0))) && ((ltI (vI r0 1) 0) || (eqI (iX (gD x 0) 6) (vI r0 1)))) && (leI (iX (gD x 0) 5) 5))) || ((!(vB r0 2)) && (!(eqI (vI (gD x 0) 3) 0)))) || ((!(vB r0 3)) && (!(eqI (vI (gD x 0) 4) 0)))) || (ltI (vI (gD x 0) 1) 0)) || (ltI 4 (vI (gD x 0) 1)))
 (.ret (.b false) [])
 (.ask (!(eqI (vI (gD x 0) 0) 21))
 (.call wf_Ends [.i (vI (gD x 0) 0)] 0 fun r1 _ =>
 .ask ((!(((eqI (vI (gD x 0) 0) 22) || (eqI (vI (gD x 0) 0) 23)) || (eqI (vI (gD x 0) 0) 25))) && (!(bif (eqI (vI (gD x 0) 0) 21) || (D.toB r1) then eqI (vI (gD x 0) 1) 0 else !(eqI (vI (gD x 0) 1) 0))))
 (.ret (.b false) [])
 (.ask (eqI (vI (gD x 0) 1) 0)
 (.ret (.b (eqI (vI (gD x 0) 2) 0)) [])
 (.ret (.b (leI 1 (vI (gD x 0) 2))) [])))
 (.ask ((!(((eqI (vI (gD x 0) 0) 22) || (eqI (vI (gD x 0) 0) 23)) || (eqI (vI (gD x 0) 0) 25))) && (!(bif (eqI (vI (gD x 0) 0) 21) || (D.toB (.i 0)) then eqI (vI (gD x 0) 1) 0 else !(eqI (vI (gD x 0) 1) 0))))
 (.ret (.b false) [])
 (.ask (eqI (vI (gD x 0) 1) 0)
 (.ret (.b (eqI (vI (gD x 0) 2) 0)) [])
 (.ret (.b (leI 1 (vI (gD x 0) 2))) []))))
def J_wf_shaped_3 (x : List D) : Sh :=
 .ask (!(eqI (vI (gD x 0) 0) 21))
 (.call wf_Ends [.i (vI (gD x 0) 0)] 0 fun r1 _ =>
 .ask ((!(((eqI (vI (gD x 0) 0) 22) || (eqI (vI (gD x 0) 0) 23)) || (eqI (vI (gD x 0) 0) 25))) && (!(bif (eqI (vI (gD x 0) 0) 21) || (D.toB r1) then eqI (vI (gD x 0) 1) 0 else !(eqI (vI (gD x 0) 1) 0))))
 (.ret (.b false) [])
 (.ask (eqI (vI (gD x 0) 1) 0)
 (.ret (.b (eqI (vI (gD x 0) 2) 0)) [])
 (.ret (.b (leI 1 (vI (gD x 0) 2))) [])))
 (.ask ((!(((eqI (vI (gD x 0) 0) 22) || (eqI (vI (gD x 0) 0) 23)) || (eqI (vI (gD x 0) 0) 25))) && (!(bif (eqI (vI (gD x 0) 0) 21) || (D.toB (.i 0)) then eqI (vI (gD x 0) 1) 0 else !(eqI (vI (gD x 0) 1) 0))))
 (.ret (.b false) [])
 (.ask (eqI (vI (gD x 0) 1) 0)
 (.ret (.b (eqI (vI (gD x 0) 2) 0)) [])
 (.ret (.b (leI 1 (vI (gD x 0) 2))) [])))
def M_wf_shaped (x : List D) : Sh :=
 .ask ((ltI (vI (gD x 0) 0) 1) || (ltI 30 (vI (gD x 0) 0)))
 (.ret (.b false) [])
 (.call wf_Mark [.i (vI (gD x 0) 0)] 0 fun r0 _ =>
 .ask (eqI (vI (gD x 0) 0) 26)
 (.ask (((((!((eqI (iX (gD x 0) 5) (iX (gD x 0) 6)) && (leI 1 (iX (gD x 0) 5)))) || ((!(vB r0 2)) && (!(eqI (vI (gD x 0) 3) 0)))) || ((!(vB r0 3)) && (!(eqI (vI (gD x 0) 4) 0)))) || (ltI (vI (gD x 0) 1) 0)) || (ltI 4 (vI (gD x 0) 1)))
 (.ret (.b false) [])
 (J_wf_shaped_3 x))
 (.ask (eqI (vI (gD x 0) 0) 29)
 (.ask (((((!((((ltI (vI r0 0) 0) || (eqI (iX (gD x 0) 5) (vI r0 0))) && ((ltI (vI r0 1) 0) || (eqI (iX (gD x 0) 6) (vI r0 1)))) && (leI (iX (gD x 0) 5) 1))) || ((!(vB r0 2)) && (!(eqI (vI (gD x 0) 3) 0)))) || ((!(vB r0 3)) && (!(eqI (vI (gD x 0) 4) 0)))) || (ltI (vI (gD x 0) 1) 0)) || (ltI 4 (vI (gD x 0) 1)))
 (.ret (.b false) [])
 (J_wf_shaped_3 x))
 (.ask (eqI (vI (gD x 0) 0) 25)
 (.ask (((((!(((((ltI (vI r0 0) 0) || (eqI (iX (gD x 0) 5) (vI r0 0))) && ((ltI (vI r0 1) 0) || (eqI (iX (gD x 0) 6) (vI r0 1)))) && (leI 1 (iX (gD x 0) 5))) && (leI (iX (gD x 0) 5) 6))) || ((!(vB r0 2)) && (!(eqI (vI (gD x 0) 3) 0)))) || ((!(vB r0 3)) && (!(eqI (vI (gD x 0) 4) 0)))) || (ltI (vI (gD x 0) 1) 0)) || (ltI 4 (vI (gD x 0) 1)))
 (.ret (.b false) [])
 (J_wf_shaped_3 x))
 (.ask (eqI (vI (gD x 0) 0) 22)
 (.ask (eqI (vI (gD x 0) 0) 22)
 (J_wf_shaped_2 x r0)
 (J_wf_shaped_0 x r0))
 (.ask (eqI (vI (gD x 0) 0) 23)
 (J_wf_shaped_2 x r0)
 (J_wf_shaped_0 x r0))))))
def S_wf_shaped : STab := []
def T_wf_shaped : TTab := []
def F_wf_shaped : Fn := { np := 1, bs := [], main := M_wf_shaped, lps := [] }
def M_wf_ahead (x : List D) : Sh :=
 .ask (bounds 0 (D.toI (gD x 1)) (iX (gD x 0) 4))
 (.loop 0 [.i (iX (gD x 0) 2), .i (iL (List.drop 0 (List.take (Int.toNat (D.toI (gD x 1))) (eX (gD x 0) 4)))), .l (List.drop 0 (List.take (Int.toNat (D.toI (gD x 1))) (eX (gD x 0) 4))), .i 0] (.cons (fun p0 =>
 .ret (aI p0 0) [])
 .nil))
 (.bad)
def L_wf_ahead_0 (p : List D) : Sh :=
 .ask (ltI (gI p 3) (gI p 1))
 (.ask (within (gI p 3) (List.length (gL p 2)))
 (.loop 2 [.l (D.els (gD (gL p 2) (tI p 3))), aI p 0, aI p 1, .i 0, aL p 2, .i (iE (gD (gL p 2) (tI p 3))), aI p 3] (.cons (fun p0 =>
 .again [aI p0 0, aI p0 1, aL p0 2, .i (addA .i64 (gI p0 3) 1)])
 .nil))
 (.bad))
 (.out (0, [aI p 0]))
def L_wf_ahead_2 (p : List D) : Sh :=
 .ask (ltI (gI p 3) (gI p 5))
 (.ask (within (gI p 3) (List.length (gL p 0)))
 (.ask (!(eqI (vI (gD (gL p 0) (tI p 3)) 1) 0))
 (.again [aL p 0, .i (addA .i64 (gI p 1) 1), aI p 2, .i (addA .i64 (gI p 3) 1), aL p 4, aI p 5, aI p 6])
 (.again [aL p 0, aI p 1, aI p 2, .i (addA .i64 (gI p 3) 1), aL p 4, aI p 5, aI p 6]))
 (.bad))
 (.out (0, [aI p 1, aI p 2, aL p 4, aI p 6]))
def S_wf_ahead : STab := [(0, fun p => ⟨(t0 (t0 Z (t2 (nI p 0) (t0 (t1 (nI p 1)) Z) Z)) (t0 (t0 (t0 (t1 (fL 28 lt2 p 2)) Z) Z) (t0 (t0 (t1 (nI p 3)) Z) Z))), [], [], 1⟩),
 (2, fun p => ⟨(t0 (t0 (t0 (t0 Z (t1 (fL 25 lt3 p 0))) Z) (t2 (nI p 1) (t0 (t1 (nI p 2)) (t1 (nI p 3))) Z)) (t0 (t0 (t0 (t1 (fL 28 lt2 p 4)) (t1 (nI p 5))) Z) (t0 (t0 (t1 (nI p 6)) Z) Z))), [], [], 1⟩)]
def T_wf_ahead : TTab := [(0, [fun p => (.exit 0, ⟨(t0 (t0 Z (t1 (nI p 0))) (t0 (t0 Z Z) Z)), [], [], 1⟩)]),
 (2, [fun p => (.exit 2, ⟨(t0 (t0 Z (t2 (nI p 0) (t0 (t1 (nI p 1)) Z) Z)) (t0 (t0 (t0 (t1 (fL 28 lt2 p 2)) Z) Z) (t0 (t0 (t1 (nI p 3)) Z) Z))), [], [], 1⟩)])]
def F_wf_ahead : Fn := { np := 2, bs := [0, 2], main := M_wf_ahead, lps := [(0, L_wf_ahead_0), (2, L_wf_ahead_2)] }
def J_wf_fitting_2 (x : List D) : Sh :=
 .ask (eqI (vI (gD x 3) 0) 16)
 (.ask ((eqI (vI (gD x 3) 1) 2) && true)
 (.call wf_all [.l (D.els (gD x 2)), .l (eX (gD x 3) 5), .i 2] 0 fun r0 _ =>
 .ret (.b ((eqI (vI (gD x 3) 1) 2) && (D.toB r0))) [])
 (.ret (.b ((eqI (vI (gD x 3) 1) 2) && (D.toB (.i 0)))) []))
 (.ask (eqI (vI (gD x 3) 0) 17)
 (.call wf_rows [.l (D.els (gD x 2)), .l (eX (gD x 3) 5), .l [.i 2, .i (vI (gD x 3) 1), .i (vI (gD x 3) 1)]] 0 fun r0 _ =>
 .ret (.b (D.toB r0)) [])
 (.ask (eqI (vI (gD x 3) 0) 19)
 (.ask ((eqI (vI (gD x 3) 1) 3) && true)
 (.call wf_rows [.l (D.els (gD x 2)), .l (eX (gD x 3) 5), .l [.i 3, .i 1]] 0 fun r0 _ =>
 .ret (.b ((eqI (vI (gD x 3) 1) 3) && (D.toB r0))) [])
 (.ret (.b ((eqI (vI (gD x 3) 1) 3) && (D.toB (.i 0)))) []))
 (.ask (eqI (vI (gD x 3) 0) 20)
 (.ask ((eqI (vI (gD x 3) 1) 1) && true)
 (.call wf_rows [.l (D.els (gD x 2)), .l (eX (gD x 3) 5), .l [.i 3]] 0 fun r0 _ =>
 .ret (.b ((eqI (vI (gD x 3) 1) 1) && (D.toB r0))) [])
 (.ret (.b ((eqI (vI (gD x 3) 1) 1) && (D.toB (.i 0)))) []))
 (.ask (eqI (vI (gD x 3) 0) 21)
 (.call wf_rows [.l (D.els (gD x 2)), .l (eX (gD x 3) 5), .l [.i 3, .i 1]] 0 fun r0 _ =>
 .ret (.b (D.toB r0)) [])
 (.ask (eqI (vI (gD x 3) 0) 24)
 (.ask ((eqI (vI (gD x 3) 1) 4) && true)
 (.call wf_rows [.l (D.els (gD x 2)), .l (eX (gD x 3) 5), .l [.i 1]] 0 fun r0 _ =>
 .ret (.b ((eqI (vI (gD x 3) 1) 4) && (D.toB r0))) [])
 (.ret (.b ((eqI (vI (gD x 3) 1) 4) && (D.toB (.i 0)))) []))
 (.ask (eqI (vI (gD x 3) 0) 25)
 (.ask (within 0 (nX (gD x 3) 5))
 (.ask (within (D.toI (gD (eX (gD x 3) 5) 0)) (nE (gD x 2)))
 (.ret (.b ((eqI (D.toI (gE (gD x 2) (Int.toNat (D.toI (gD (eX (gD x 3) 5) 0))))) 4) && (!(eqI (vI (gD x 3) 1) 3)))) [])
 (.bad))
 (.bad))
 (.ask (eqI (vI (gD x 3) 0) 22)
 (.ask (within (vI (gD x 3) 3) (nX (gD x 0) 3))
 (.ask ((eqI (vI (gD x 3) 1) (vI (gD (eX (gD x 0) 3) (Int.toNat (vI (gD x 3) 3))) 3)) && true)
 (.call wf_rows [.l (D.els (gD x 2)), .l (eX (gD x 3) 5), .l (eX (gD (eX (gD x 0) 3) (Int.toNat (vI (gD x 3) 3))) 2)] 0 fun r0 _ =>
 .ret (.b ((eqI (vI (gD x 3) 1) (vI (gD (eX (gD x 0) 3) (Int.toNat (vI (gD x 3) 3))) 3)) && (D.toB r0))) [])
 (.ret (.b ((eqI (vI (gD x 3) 1) (vI (gD (eX (gD x 0) 3) (Int.toNat (vI (gD x 3) 3))) 3)) && (D.toB (.i 0)))) []))
 (.bad))
 (.ask (eqI (vI (gD x 3) 0) 23)
 (.ask (within (vI (gD x 3) 3) (nX (gD x 0) 0))
 (.ask ((eqI (vI (gD x 3) 1) (vI (gD (eX (gD x 0) 0) (Int.toNat (vI (gD x 3) 3))) 2)) && true)
 (.call wf_rows [.l (D.els (gD x 2)), .l (eX (gD x 3) 5), .l (eX (gD (eX (gD x 0) 0) (Int.toNat (vI (gD x 3) 3))) 1)] 0 fun r0 _ =>
 .ret (.b ((eqI (vI (gD x 3) 1) (vI (gD (eX (gD x 0) 0) (Int.toNat (vI (gD x 3) 3))) 2)) && (D.toB r0))) [])
 (.ret (.b ((eqI (vI (gD x 3) 1) (vI (gD (eX (gD x 0) 0) (Int.toNat (vI (gD x 3) 3))) 2)) && (D.toB (.i 0)))) []))
 (.bad))
 (.ask (eqI (vI (gD x 3) 0) 26)
 (.call wf_all [.l (D.els (gD x 2)), .l (eX (gD x 3) 5), .i (vI (gD x 3) 1)] 0 fun r0 _ =>
 .ret (.b (D.toB r0)) [])
 (.ask (eqI (vI (gD x 3) 0) 28)
 (.call wf_rows [.l (D.els (gD x 2)), .l (eX (gD x 3) 5), .l [.i 2]] 0 fun r0 _ =>
 .ret (.b (D.toB r0)) [])
 (.ask (eqI (vI (gD x 3) 0) 29)
 (.ask (eqI (vI (gD x 1) 3) 0)
 (.ret (.b (eqI (iX (gD x 3) 5) 0)) [])
 (.call wf_rows [.l (D.els (gD x 2)), .l (eX (gD x 3) 5), .l [.i (vI (gD x 1) 3)]] 0 fun r0 _ =>
 .ret (.b (D.toB r0)) []))
 (.ret (.b true) []))))))))))))
def J_wf_fitting_3 (x : List D) : Sh :=
 .ask ((eqI (vI (gD x 3) 1) 2) && true)
 (.call wf_all [.l (D.els (gD x 2)), .l (eX (gD x 3) 5), .i 1] 0 fun r0 _ =>
 .ret (.b ((eqI (vI (gD x 3) 1) 2) && (D.toB r0))) [])
 (.ret (.b ((eqI (vI (gD x 3) 1) 2) && (D.toB (.i 0)))) [])
def J_wf_fitting_1 (x : List D) : Sh :=
 .ask (eqI (vI (gD x 3) 0) 14)
 (.ask (eqI (vI (gD x 3) 0) 14)
 (J_wf_fitting_3 x)
 (J_wf_fitting_2 x))
 (.ask (eqI (vI (gD x 3) 0) 15)
 (J_wf_fitting_3 x)
 (J_wf_fitting_2 x))
def J_wf_fitting_4 (x : List D) : Sh :=
 .ask ((eqI (vI (gD x 3) 1) 1) && true)
 (.call wf_all [.l (D.els (gD x 2)), .l (eX (gD x 3) 5), .i 1] 0 fun r0 _ =>
 .ret (.b ((eqI (vI (gD x 3) 1) 1) && (D.toB r0))) [])
 (.ret (.b ((eqI (vI (gD x 3) 1) 1) && (D.toB (.i 0)))) [])
def J_wf_fitting_0 (x : List D) : Sh :=
 .ask (eqI (vI (gD x 3) 0) 4)
 (.ask (eqI (vI (gD x 3) 0) 4)
 (J_wf_fitting_4 x)
 (J_wf_fitting_1 x))
 (.ask (eqI (vI (gD x 3) 0) 5)
 (.ask (eqI (vI (gD x 3) 0) 5)
 (J_wf_fitting_4 x)
 (J_wf_fitting_1 x))
 (.ask (eqI (vI (gD x 3) 0) 6)
 (.ask (eqI (vI (gD x 3) 0) 6)
 (J_wf_fitting_4 x)
 (J_wf_fitting_1 x))
 (.ask (eqI (vI (gD x 3) 0) 7)
 (.ask (eqI (vI (gD x 3) 0) 7)
 (J_wf_fitting_4 x)
 (J_wf_fitting_1 x))
 (.ask (eqI (vI (gD x 3) 0) 8)
 (.ask (eqI (vI (gD x 3) 0) 8)
 (J_wf_fitting_4 x)
 (J_wf_fitting_1 x))
 (.ask (eqI (vI (gD x 3) 0) 9)
 (.ask (eqI (vI (gD x 3) 0) 9)
 (J_wf_fitting_4 x)
 (J_wf_fitting_1 x))
 (.ask (eqI (vI (gD x 3) 0) 10)
 (.ask (eqI (vI (gD x 3) 0) 10)
 (J_wf_fitting_4 x)
 (J_wf_fitting_1 x))
 (.ask (eqI (vI (gD x 3) 0) 11)
 (.ask (eqI (vI (gD x 3) 0) 11)
 (J_wf_fitting_4 x)
 (J_wf_fitting_1 x))
 (.ask (eqI (vI (gD x 3) 0) 12)
 (.ask (eqI (vI (gD x 3) 0) 12)
 (J_wf_fitting_4 x)
 (J_wf_fitting_1 x))
 (.ask (eqI (vI (gD x 3) 0) 13)
 (J_wf_fitting_4 x)
 (J_wf_fitting_1 x))))))))))
def M_wf_fitting (x : List D) : Sh :=
 .ask (eqI (vI (gD x 3) 0) 1)
 (.ret (.b ((eqI (vI (gD x 3) 1) 1) || ((eqI (vI (gD x 3) 1) 2) && ((eqI (vI (gD x 3) 4) 0) || (eqI (vI (gD x 3) 4) 1))))) [])
 (.ask (eqI (vI (gD x 3) 0) 2)
 (.ret (.b (eqI (vI (gD x 3) 1) 4)) [])
 (.ask (eqI (vI (gD x 3) 0) 3)
 (.ask (eqI (vI (gD x 3) 0) 3)
 (.ret (.b (eqI (vI (gD x 3) 1) 3)) [])
 (J_wf_fitting_0 x))
 (.ask (eqI (vI (gD x 3) 0) 18)
 (.ret (.b (eqI (vI (gD x 3) 1) 3)) [])
 (J_wf_fitting_0 x))))
def S_wf_fitting : STab := []
def T_wf_fitting : TTab := []
def F_wf_fitting : Fn := { np := 4, bs := [], main := M_wf_fitting, lps := [] }
def M_slices_SortFunc_Sapi_Base_api_Base (x : List D) : Sh :=
 .call math_bits_Len [.i (wrapA .u64 (iE (gD x 0)))] 0 fun r0 _ =>
 .call slices_pdqsortCmpFunc_api_Base [.l (D.els (gD x 0)), .i 0, .i (iE (gD x 0)), .i (D.toI r0), .l []] 0 fun r1 _ =>
 .ret (.l []) []
def S_slices_SortFunc_Sapi_Base_api_Base : STab := []
def T_slices_SortFunc_Sapi_Base_api_Base : TTab := []
def F_slices_SortFunc_Sapi_Base_api_Base : Fn := { np := 2, bs := [], main := M_slices_SortFunc_Sapi_Base_api_Base, lps := [] }
def J_facts_Facts_Sure_1 (x : List D) : Sh :=
 .ask (eqI (vI (gD x 2) 0) 24)
 (.ask (within 0 (nX (gD x 2) 5))
 (.call facts_Func_Num [gD (eX (gD x 0) 5) (Int.toNat (D.toI (gD x 1))), .i (D.toI (gD (eX (gD x 2) 5) 0))] 0 fun r0 _ =>
 .ask ((vB r0 1) && true)
 (.call facts_Facts_Entry [(gD x 0), .i (vI (gD x 2) 3), .i (vI r0 0)] 0 fun r1 _ =>
 .ret (.b ((vB r0 1) && (leI 0 (D.toI r1)))) [])
 (.ret (.b ((vB r0 1) && (leI 0 0))) []))
 (.bad))
 (.ask (eqI (vI (gD x 2) 0) 30)
 (.ask (eqI (vI (gD x 2) 0) 30)
 (.ret (.b false) [])
 (.ret (.b true) []))
 (.ask (eqI (vI (gD x 2) 0) 25)
 (.ret (.b false) [])
 (.ret (.b true) [])))
def J_facts_Facts_Sure_2 (x : List D) : Sh :=
 .call facts_Facts_Safe [(gD x 0), .i (D.toI (gD x 1)), .l [.i (vI (gD x 2) 0), .i (vI (gD x 2) 1), .i (vI (gD x 2) 2), .i (vI (gD x 2) 3), .i (vI (gD x 2) 4), .l (eX (gD x 2) 5), .l (eX (gD x 2) 6)]] 0 fun r0 _ =>
 .ret (.b (D.toB r0)) []
def J_facts_Facts_Sure_0 (x : List D) : Sh :=
 .ask (eqI (vI (gD x 2) 0) 20)
 (.ask (eqI (vI (gD x 2) 0) 20)
 (J_facts_Facts_Sure_2 x)
 (J_facts_Facts_Sure_1 x))
 (.ask (eqI (vI (gD x 2) 0) 21)
 (J_facts_Facts_Sure_2 x)
 (J_facts_Facts_Sure_1 x))
def J_facts_Facts_Sure_3 (x : List D) : Sh :=
 .ask (within 1 (nX (gD x 2) 5))
 (.call facts_Func_Num [gD (eX (gD x 0) 5) (Int.toNat (D.toI (gD x 1))), .i (D.toI (gD (eX (gD x 2) 5) 1))] 0 fun r0 _ =>
 .ret (.b ((vB r0 1) && (!(eqI (vI r0 0) 0)))) [])
 (.bad)
def M_facts_Facts_Sure (x : List D) : Sh :=
 .ask (within (D.toI (gD x 1)) (nX (gD x 0) 5))
 (.ask (eqI (vI (gD x 2) 0) 7)
 (.ask (eqI (vI (gD x 2) 0) 7)
 (J_facts_Facts_Sure_3 x)
 (J_facts_Facts_Sure_0 x))
 (.ask (eqI (vI (gD x 2) 0) 8)
 (J_facts_Facts_Sure_3 x)
 (J_facts_Facts_Sure_0 x)))
 (.bad)
def S_facts_Facts_Sure : STab := []
def T_facts_Facts_Sure : TTab := []
def F_facts_Facts_Sure : Fn := { np := 3, bs := [], main := M_facts_Facts_Sure, lps := [] }
def M_facts_Facts_At (x : List D) : Sh :=
 .ask (eqI (vI (gD x 2) 0) 22)
 (.ret (.l [.i (vI (gD x 2) 3)]) [])
 (.ask (eqI (vI (gD x 2) 0) 25)
 (.loop 1 [(gD x 0), .i (D.toI (gD x 1)), .l (eX (gD x 0) 3), .i 0, .i (iX (gD x 0) 3), .i (vI (gD x 2) 0), .i (vI (gD x 2) 1), .i (vI (gD x 2) 2), .i (vI (gD x 2) 3), .i (vI (gD x 2) 4), .l (eX (gD x 2) 5), .l (eX (gD x 2) 6), .l []] (.cons (fun p0 =>
 .ret (aL p0 0) [])
 .nil))
 (.ret (.l []) []))
def J_facts_Facts_At_0 (p : List D) : Sh :=
 .ask (lim ((List.length (gL p 12)) + 1) 8)
 (.again [(gD p 0), aI p 1, aL p 2, .i (addA .i64 (gI p 3) 1), aI p 4, aI p 5, aI p 6, aI p 7, aI p 8, aI p 9, aL p 10, aL p 11, .l ((gL p 12) ++ [aI p 3])])
 (.bad)
def L_facts_Facts_At_1 (p : List D) : Sh :=
 .ask (ltI (gI p 3) (gI p 4))
 (.ask (within (gI p 3) (List.length (gL p 2)))
 (.ask (within (gI p 3) (nX (gD p 0) 4))
 (.ask ((D.toB (gD (eX (gD p 0) 4) (tI p 3))) && true)
 (.call facts_Facts_Fits [(gD p 0), aI p 1, .l [aI p 5, aI p 6, aI p 7, aI p 8, aI p 9, aL p 10, aL p 11], .l [.s (D.toS (D.fld (gD (gL p 2) (tI p 3)) 0)), .b (vB (gD (gL p 2) (tI p 3)) 1), .l (eX (gD (gL p 2) (tI p 3)) 2), .i (vI (gD (gL p 2) (tI p 3)) 3), .l (eX (gD (gL p 2) (tI p 3)) 4)]] 0 fun r0 _ =>
 .ask ((D.toB (gD (eX (gD p 0) 4) (tI p 3))) && (D.toB r0))
 (J_facts_Facts_At_0 p)
 (.again [(gD p 0), aI p 1, aL p 2, .i (addA .i64 (gI p 3) 1), aI p 4, aI p 5, aI p 6, aI p 7, aI p 8, aI p 9, aL p 10, aL p 11, aL p 12]))
 (.ask ((D.toB (gD (eX (gD p 0) 4) (tI p 3))) && (D.toB (.i 0)))
 (J_facts_Facts_At_0 p)
 (.again [(gD p 0), aI p 1, aL p 2, .i (addA .i64 (gI p 3) 1), aI p 4, aI p 5, aI p 6, aI p 7, aI p 8, aI p 9, aL p 10, aL p 11, aL p 12])))
 (.bad))
 (.bad))
 (.out (0, [aL p 12]))
def S_facts_Facts_At : STab := [(1, fun p => ⟨(t2 (.pz [] lt4 (gD p 0) 0) (t2 (nI p 1) (t0 (t2 (.vw 200007 0 []) Z (t1 (fL 38 lt1 p 2))) Z) (t2 (.pb 5 0 0) (t0 Z (t1 (nI p 3))) Z)) (t0 (t0 (t0 Z (t1 (nI p 4))) Z) Z)), [(5, ⟨0, [nI p 5, nI p 6, nI p 7, nI p 8, nI p 9, fL 3 [.int .i64] p 10, fL 3 [.int .i64] p 11], none⟩)], [aR 200007 3 [.int .i64] (gL p 12)], 1⟩)]
def T_facts_Facts_At : TTab := [(1, [fun p => (.exit 1, ⟨(t0 (t0 (t0 (t1 (.vw 200007 0 [])) Z) Z) (t0 Z (t0 Z Z))), [], [aR 200007 3 [.int .i64] (gL p 0)], 1⟩)])]
def F_facts_Facts_At : Fn := { np := 3, bs := [1], main := M_facts_Facts_At, lps := [(1, L_facts_Facts_At_1)] }
def J_r3_Mark_5 (x : List D) : Sh :=
 .ask (eqI (D.toI (gD x 0)) 26)
 (.ret (.l [.i (-1), .i (-1), .b false, .b false]) [])
 (.ask (eqI (D.toI (gD x 0)) 27)
 (.ret (.l [.i 0, .i 1, .b false, .b false]) [])
 (.ask (eqI (D.toI (gD x 0)) 28)
 (.ret (.l [.i 1, .i 2, .b false, .b false]) [])
 (.ret (.l [.i 0, .i 0, .b false, .b false]) [])))
def J_r3_Mark_4 (x : List D) : Sh :=
 .ask (eqI (D.toI (gD x 0)) 24)
 (.ret (.l [.i 1, .i 0, .b true, .b false]) [])
 (.ask (eqI (D.toI (gD x 0)) 25)
 (.ask (eqI (D.toI (gD x 0)) 25)
 (.ret (.l [.i (-1), .i 0, .b false, .b false]) [])
 (J_r3_Mark_5 x))
 (.ask (eqI (D.toI (gD x 0)) 29)
 (.ret (.l [.i (-1), .i 0, .b false, .b false]) [])
 (J_r3_Mark_5 x)))
def J_r3_Mark_3 (x : List D) : Sh :=
 .ask (eqI (D.toI (gD x 0)) 17)
 (.ret (.l [.i 3, .i 0, .b false, .b false]) [])
 (.ask (eqI (D.toI (gD x 0)) 22)
 (.ask (eqI (D.toI (gD x 0)) 22)
 (.ret (.l [.i (-1), .i 0, .b true, .b false]) [])
 (J_r3_Mark_4 x))
 (.ask (eqI (D.toI (gD x 0)) 23)
 (.ret (.l [.i (-1), .i 0, .b true, .b false]) [])
 (J_r3_Mark_4 x)))
def J_r3_Mark_2 (x : List D) : Sh :=
 .ask (eqI (D.toI (gD x 0)) 16)
 (.ask (eqI (D.toI (gD x 0)) 16)
 (.ret (.l [.i 1, .i 0, .b false, .b false]) [])
 (J_r3_Mark_3 x))
 (.ask (eqI (D.toI (gD x 0)) 20)
 (.ret (.l [.i 1, .i 0, .b false, .b false]) [])
 (J_r3_Mark_3 x))
def J_r3_Mark_1 (x : List D) : Sh :=
 .ask (eqI (D.toI (gD x 0)) 4)
 (.ask (eqI (D.toI (gD x 0)) 4)
 (.ret (.l [.i 2, .i 0, .b false, .b false]) [])
 (J_r3_Mark_2 x))
 (.ask (eqI (D.toI (gD x 0)) 5)
 (.ask (eqI (D.toI (gD x 0)) 5)
 (.ret (.l [.i 2, .i 0, .b false, .b false]) [])
 (J_r3_Mark_2 x))
 (.ask (eqI (D.toI (gD x 0)) 6)
 (.ask (eqI (D.toI (gD x 0)) 6)
 (.ret (.l [.i 2, .i 0, .b false, .b false]) [])
 (J_r3_Mark_2 x))
 (.ask (eqI (D.toI (gD x 0)) 7)
 (.ask (eqI (D.toI (gD x 0)) 7)
 (.ret (.l [.i 2, .i 0, .b false, .b false]) [])
 (J_r3_Mark_2 x))
 (.ask (eqI (D.toI (gD x 0)) 8)
 (.ask (eqI (D.toI (gD x 0)) 8)
 (.ret (.l [.i 2, .i 0, .b false, .b false]) [])
 (J_r3_Mark_2 x))
 (.ask (eqI (D.toI (gD x 0)) 9)
 (.ask (eqI (D.toI (gD x 0)) 9)
 (.ret (.l [.i 2, .i 0, .b false, .b false]) [])
 (J_r3_Mark_2 x))
 (.ask (eqI (D.toI (gD x 0)) 10)
 (.ask (eqI (D.toI (gD x 0)) 10)
 (.ret (.l [.i 2, .i 0, .b false, .b false]) [])
 (J_r3_Mark_2 x))
 (.ask (eqI (D.toI (gD x 0)) 11)
 (.ask (eqI (D.toI (gD x 0)) 11)
 (.ret (.l [.i 2, .i 0, .b false, .b false]) [])
 (J_r3_Mark_2 x))
 (.ask (eqI (D.toI (gD x 0)) 12)
 (.ask (eqI (D.toI (gD x 0)) 12)
 (.ret (.l [.i 2, .i 0, .b false, .b false]) [])
 (J_r3_Mark_2 x))
 (.ask (eqI (D.toI (gD x 0)) 13)
 (.ask (eqI (D.toI (gD x 0)) 13)
 (.ret (.l [.i 2, .i 0, .b false, .b false]) [])
 (J_r3_Mark_2 x))
 (.ask (eqI (D.toI (gD x 0)) 14)
 (.ask (eqI (D.toI (gD x 0)) 14)
 (.ret (.l [.i 2, .i 0, .b false, .b false]) [])
 (J_r3_Mark_2 x))
 (.ask (eqI (D.toI (gD x 0)) 15)
 (.ask (eqI (D.toI (gD x 0)) 15)
 (.ret (.l [.i 2, .i 0, .b false, .b false]) [])
 (J_r3_Mark_2 x))
 (.ask (eqI (D.toI (gD x 0)) 19)
 (.ask (eqI (D.toI (gD x 0)) 19)
 (.ret (.l [.i 2, .i 0, .b false, .b false]) [])
 (J_r3_Mark_2 x))
 (.ask (eqI (D.toI (gD x 0)) 21)
 (.ret (.l [.i 2, .i 0, .b false, .b false]) [])
 (J_r3_Mark_2 x))))))))))))))
def J_r3_Mark_0 (x : List D) : Sh :=
 .ask (eqI (D.toI (gD x 0)) 2)
 (.ask (eqI (D.toI (gD x 0)) 2)
 (.ret (.l [.i 0, .i 0, .b true, .b false]) [])
 (J_r3_Mark_1 x))
 (.ask (eqI (D.toI (gD x 0)) 3)
 (.ret (.l [.i 0, .i 0, .b true, .b false]) [])
 (J_r3_Mark_1 x))
def M_r3_Mark (x : List D) : Sh :=
 .ask (eqI (D.toI (gD x 0)) 1)
 (.ask (eqI (D.toI (gD x 0)) 1)
 (.ret (.l [.i 0, .i 0, .b false, .b true]) [])
 (J_r3_Mark_0 x))
 (.ask (eqI (D.toI (gD x 0)) 18)
 (.ret (.l [.i 0, .i 0, .b false, .b true]) [])
 (J_r3_Mark_0 x))
def S_r3_Mark : STab := []
def T_r3_Mark : TTab := []
def F_r3_Mark : Fn := { np := 1, bs := [], main := M_r3_Mark, lps := [] }
def M_dom_over (x : List D) : Sh :=
 .ask ((leI 0 (iX (gD x 0) 4)) && ((eqI (iX (gD x 0) 4) (iX (gD x 0) 4)) && (lim (Int.toNat (iX (gD x 0) 4)) 24)))
 (.loop 0 [.i (iX (gD x 0) 4), .i 0, .i (iX (gD x 0) 4), .s (D.toS (D.fld (gD x 0) 0)), .b (vB (gD x 0) 1), .l (eX (gD x 0) 2), .i (vI (gD x 0) 3), .l (eX (gD x 0) 4), .l (List.replicate (nX (gD x 0) 4) (D.l []))] (.cons (fun p0 =>
 .call flow_Reach [.l [aS p0 1, aB p0 2, aL p0 3, aI p0 4, aL p0 5]] 0 fun r1 _ =>
 .ask ((leI 0 (gI p0 0)) && ((eqI (gI p0 0) (gI p0 0)) && (lim (tI p0 0) 24)))
 (.loop 2 [aI p0 0, aI p0 0, .i 0, aL p0 6, .l (List.replicate (tI p0 0) (D.l [])), .l (D.els r1)] (.cons (fun p2 =>
 .ret (aL p2 0) [])
 .nil))
 (.bad))
 .nil))
 (.bad)
def L_dom_over_0 (p : List D) : Sh :=
 .ask (ltI (gI p 1) (gI p 2))
 (.call flow_Next [.l [aS p 3, aB p 4, aL p 5, aI p 6, aL p 7], aI p 1] 0 fun r0 _ =>
 .ask (within (gI p 1) (List.length (gL p 8)))
 (.again [aI p 0, .i (addA .i64 (gI p 1) 1), aI p 2, aS p 3, aB p 4, aL p 5, aI p 6, aL p 7, .l (List.set (gL p 8) (tI p 1) (D.l (D.els r0)))])
 (.bad))
 (.out (0, [aI p 0, aS p 3, aB p 4, aL p 5, aI p 6, aL p 7, aL p 8]))
def L_dom_over_2 (p : List D) : Sh :=
 .ask (ltI (gI p 2) (gI p 1))
 (.ask ((leI 0 (gI p 0)) && ((eqI (gI p 0) (gI p 0)) && (lim (tI p 0) 1)))
 (.ask (within (gI p 2) (List.length (gL p 4)))
 (.ask (within (gI p 2) (List.length (gL p 5)))
 (.ask (!(D.toB (gD (gL p 5) (tI p 2))))
 (.again [aI p 0, aI p 1, .i (addA .i64 (gI p 2) 1), aL p 3, .l (List.set (gL p 4) (tI p 2) (D.l (List.replicate (tI p 0) (D.b false)))), aL p 5])
 (.call dom_without [aL p 3, aI p 2] 0 fun r0 _ =>
 .loop 4 [aI p 0, aI p 1, .i 0, aI p 2, aI p 2, aI p 0, aL p 3, .l (List.set (gL p 4) (tI p 2) (D.l (List.replicate (tI p 0) (D.b false)))), aL p 5, .l (D.els r0)] (.cons (fun p1 =>
 .again [aI p1 0, aI p1 1, .i (addA .i64 (gI p1 2) 1), aL p1 3, aL p1 4, aL p1 5])
 .nil)))
 (.bad))
 (.bad))
 (.bad))
 (.out (0, [aL p 4]))
def L_dom_over_4 (p : List D) : Sh :=
 .ask (ltI (gI p 2) (gI p 5))
 (.ask (within (gI p 3) (List.length (gL p 7)))
 (.ask (within (gI p 2) (List.length (gL p 8)))
 (.ask ((!((D.toB (gD (gL p 8) (tI p 2))) && true)) || (within (gI p 2) (List.length (gL p 9))))
 (.ask (within (gI p 2) (nE (gD (gL p 7) (tI p 3))))
 (.again [aI p 0, aI p 1, .i (addA .i64 (gI p 2) 1), aI p 3, aI p 4, aI p 5, aL p 6, .l (List.set (gL p 7) (tI p 3) (D.l (List.set (D.els (gD (gL p 7) (tI p 3))) (tI p 2) (D.b ((D.toB (gD (gL p 8) (tI p 2))) && (!(D.toB (gD (gL p 9) (tI p 2))))))))), aL p 8, aL p 9])
 (.bad))
 (.bad))
 (.bad))
 (.bad))
 (.out (0, [aI p 0, aI p 1, aI p 4, aL p 6, aL p 7, aL p 8]))
def S_dom_over : STab := [(0, fun p => ⟨(t0 (t2 (.pb 1 0 0) (t1 (nI p 0)) (t0 (t0 (t1 (nI p 1)) Z) Z)) (t0 (t2 (.vw 15 0 []) (t0 (t1 (nI p 2)) Z) Z) Z)), [(1, ⟨0, [.str (gS p 3), nB p 4, fL 3 [.int .i64] p 5, nI p 6, fL 28 lt2 p 7], none⟩)], [(15, ⟨23, [.sl true 3 [.int .i64]], (gL p 8), [], 0, [0, 0, 0, 0], 0⟩)], 1⟩),
 (2, fun p => ⟨(t0 (t0 (t2 (nI p 0) (t2 (.vw 30 0 []) (t0 (t1 (nI p 1)) Z) Z) Z) Z) (t0 (t2 (.vw 15 0 []) (t0 (t0 (t1 (nI p 2)) Z) Z) Z) (t1 (.vw 29000000 0 [])))), [], [(15, ⟨23, [.sl true 3 [.int .i64]], (gL p 3), [], 0, [0, 0, 0, 0], 0⟩), (30, ⟨53, [.sl true 4 [.bool]], (gL p 4), [], 0, [0, 0, 0, 0], 0⟩), aR 29000000 4 [.bool] (gL p 5)], 1⟩),
 (4, fun p => ⟨(t0 (t0 (t2 (nI p 0) (t2 (.vw 30 0 []) (t0 (t1 (nI p 1)) Z) Z) Z) (t0 (t2 (.vw 48000000 0 []) (t0 Z (t1 (nI p 2))) Z) Z)) (t0 (t2 (.vw 15 0 []) (t2 (nI p 3) (t0 (t1 (nI p 4)) (t1 (nI p 5))) Z) Z) (t1 (.vw 29000000 0 [])))), [], [(15, ⟨23, [.sl true 3 [.int .i64]], (gL p 6), [], 0, [0, 0, 0, 0], 0⟩), (30, ⟨53, [.sl true 4 [.bool]], (gL p 7), [], 0, [0, 0, 0, 0], 0⟩), aR 29000000 4 [.bool] (gL p 8), aR 48000000 4 [.bool] (gL p 9)], 1⟩)]
def T_dom_over : TTab := [(0, [fun p => (.exit 0, ⟨(t0 (t2 (.pb 1 0 0) (t1 (nI p 0)) Z) (t0 (t1 (.vw 15 0 [])) Z)), [(1, ⟨0, [.str (gS p 1), nB p 2, fL 3 [.int .i64] p 3, nI p 4, fL 28 lt2 p 5], none⟩)], [(15, ⟨23, [.sl true 3 [.int .i64]], (gL p 6), [], 0, [0, 0, 0, 0], 0⟩)], 1⟩)]),
 (2, [fun p => (.exit 2, ⟨(t0 (t0 (t0 (t1 (.vw 30 0 [])) Z) Z) (t0 Z Z)), [], [(30, ⟨53, [.sl true 4 [.bool]], (gL p 0), [], 0, [0, 0, 0, 0], 0⟩)], 1⟩)]),
 (4, [fun p => (.exit 4, ⟨(t0 (t0 (t2 (nI p 0) (t2 (.vw 30 0 []) (t0 (t1 (nI p 1)) Z) Z) Z) Z) (t0 (t2 (.vw 15 0 []) (t0 (t0 (t1 (nI p 2)) Z) Z) Z) (t1 (.vw 29000000 0 [])))), [], [(15, ⟨23, [.sl true 3 [.int .i64]], (gL p 3), [], 0, [0, 0, 0, 0], 0⟩), (30, ⟨53, [.sl true 4 [.bool]], (gL p 4), [], 0, [0, 0, 0, 0], 0⟩), aR 29000000 4 [.bool] (gL p 5)], 1⟩)])]
def F_dom_over : Fn := { np := 1, bs := [0, 2, 4], main := M_dom_over, lps := [(0, L_dom_over_0), (2, L_dom_over_2), (4, L_dom_over_4)] }
def M_math_bits_Len (x : List D) : Sh :=
 .ask false
 (.call math_bits_Len32 [.i (wrapA .u32 (D.toI (gD x 0)))] 0 fun r0 _ =>
 .ret (.i (D.toI r0)) [])
 (.call math_bits_Len64 [.i (D.toI (gD x 0))] 0 fun r0 _ =>
 .ret (.i (D.toI r0)) [])
def S_math_bits_Len : STab := []
def T_math_bits_Len : TTab := []
def F_math_bits_Len : Fn := { np := 1, bs := [], main := M_math_bits_Len, lps := [] }
def M_facts_risen (x : List D) : Sh :=
 .call slices_Sort_Sint_int [.l (D.els (gD x 0))] 0 fun r0 _ =>
 .call slices_Compact_Sint_int [.l (D.els (gD x 0))] 0 fun r1 _ =>
 .ret (.l (D.els r1)) []
def S_facts_risen : STab := []
def T_facts_risen : TTab := []
def F_facts_risen : Fn := { np := 1, bs := [], main := M_facts_risen, lps := [] }
def M_slices_Index_Sint_int (x : List D) : Sh :=
 .loop 0 [.l (D.els (gD x 0)), .i (D.toI (gD x 1)), .i (iE (gD x 0)), .i 0] (.cons (fun p0 =>
 .ret (aI p0 0) [])
 (.cons (fun p0 =>
 .ret (.i (-1)) [])
 .nil))
def L_slices_Index_Sint_int_0 (p : List D) : Sh :=
 .ask (ltI (gI p 3) (gI p 2))
 (.ask (within (gI p 3) (List.length (gL p 0)))
 (.ask (eqI (gI p 1) (D.toI (gD (gL p 0) (tI p 3))))
 (.out (0, [aI p 3]))
 (.again [aL p 0, aI p 1, aI p 2, .i (addA .i64 (gI p 3) 1)]))
 (.bad))
 (.out (1, []))
def S_slices_Index_Sint_int : STab := [(0, fun p => ⟨(t2 (fL 3 [.int .i64] p 0) (t2 (nI p 1) (t0 (t1 (nI p 2)) Z) Z) (t0 (t0 (t1 (nI p 3)) Z) Z)), [], [], 1⟩)]
def T_slices_Index_Sint_int : TTab := [(0, [fun p => (.ret, ⟨(t0 Z (t0 (t1 (nI p 0)) Z)), [], [], 1⟩),
  fun p => (.exit 0, ⟨(t0 Z (t0 (t0 Z Z) Z)), [], [], 1⟩)])]
def F_slices_Index_Sint_int : Fn := { np := 2, bs := [0], main := M_slices_Index_Sint_int, lps := [(0, L_slices_Index_Sint_int_0)] }
def M_scc_tarjan_shut (x : List D) : Sh :=
 .loop 0 [.i (D.toI (gD x 1)), .l (eX (gD x 0) 0), .i (vI (gD x 0) 5), .i (vI (gD x 0) 7), .l (eX (gD x 0) 4), .l (eX (gD x 0) 1), .l (eX (gD x 0) 2), .l (eX (gD x 0) 3), .l (eX (gD x 0) 6)] (.cons (fun p0 =>
 .ret (.l []) [.l [aL p0 0, aL p0 4, aL p0 5, aL p0 6, aL p0 3, aI p0 1, aL p0 7, .i (addA .i64 (gI p0 2) 1)]])
 .nil)
def L_scc_tarjan_shut_0 (p : List D) : Sh :=
 .ask (within (wrapA .i64 ((iL (gL p 4)) - 1)) (List.length (gL p 4)))
 (.ask (bounds 0 (wrapA .i64 ((iL (gL p 4)) - 1)) (iL (gL p 4)))
 (.ask (within (D.toI (gD (gL p 4) (Int.toNat (wrapA .i64 ((iL (gL p 4)) - 1))))) (List.length (gL p 7)))
 (.ask (within (D.toI (gD (gL p 4) (Int.toNat (wrapA .i64 ((iL (gL p 4)) - 1))))) (List.length (gL p 8)))
 (.ask (eqI (D.toI (gD (gL p 4) (Int.toNat (wrapA .i64 ((iL (gL p 4)) - 1))))) (gI p 0))
 (.out (0, (let z0 := Int.toNat (D.toI (gD (gL p 4) (Int.toNat (wrapA .i64 ((iL (gL p 4)) - 1))))); [aL p 1, aI p 2, aI p 3, .l (List.drop 0 (List.take (Int.toNat (wrapA .i64 ((iL (gL p 4)) - 1))) (gL p 4))), aL p 5, aL p 6, .l (List.set (gL p 7) z0 (D.b false)), .l (List.set (gL p 8) z0 (aI p 3))])))
 (.again (let z0 := Int.toNat (D.toI (gD (gL p 4) (Int.toNat (wrapA .i64 ((iL (gL p 4)) - 1))))); [aI p 0, aL p 1, aI p 2, aI p 3, .l (List.drop 0 (List.take (Int.toNat (wrapA .i64 ((iL (gL p 4)) - 1))) (gL p 4))), aL p 5, aL p 6, .l (List.set (gL p 7) z0 (D.b false)), .l (List.set (gL p 8) z0 (aI p 3))])))
 (.bad))
 (.bad))
 (.bad))
 (.bad)
def S_scc_tarjan_shut : STab := [(0, fun p => ⟨(t2 (.pb 500 0 0) (t1 (nI p 0)) Z), [(500, ⟨0, [.fz [] 23 [.sl false 3 [.int .i64]] (gL p 1), .vw 501000001 0 [], .vw 501000002 0 [], .vw 501000003 0 [], .vw 332004 0 [], nI p 2, .vw 501000006 0 [], nI p 3], none⟩)], [aR 332004 3 [.int .i64] (gL p 4), aR 501000001 3 [.int .i64] (gL p 5), aR 501000002 3 [.int .i64] (gL p 6), aR 501000003 4 [.bool] (gL p 7), aR 501000006 3 [.int .i64] (gL p 8)], 1⟩)]
def T_scc_tarjan_shut : TTab := [(0, [fun p => (.exit 0, ⟨(t1 (.pb 500 0 0)), [(500, ⟨0, [.fz [] 23 [.sl false 3 [.int .i64]] (gL p 0), .vw 501000001 0 [], .vw 501000002 0 [], .vw 501000003 0 [], .vw 28 0 [], nI p 1, .vw 501000006 0 [], nI p 2], none⟩)], [aR 28 3 [.int .i64] (gL p 3), aR 501000001 3 [.int .i64] (gL p 4), aR 501000002 3 [.int .i64] (gL p 5), aR 501000003 4 [.bool] (gL p 6), aR 501000006 3 [.int .i64] (gL p 7)], 1⟩)])]
def F_scc_tarjan_shut : Fn := { np := 2, bs := [0], main := M_scc_tarjan_shut, lps := [(0, L_scc_tarjan_shut_0)] }
def J_law21_DceIdle_0 (p1 : List D) : Sh :=
 .call dce_Run [.l [.l [.l [.s [101], .l [], .i 0]], .l [.l [.s [103], .l [.i 1]]], .l [], .l [.l [.s [102], .b true, .l [.i 1], .i 0, .l [.l ((gL p1 3) ++ [.l [.i 29, .i 0, .i 0, .i 0, .i 0, .l [], .l []]])]], .l [.s [104], .b false, .l [.i 1], .i 1, aL p1 2]]]] 0 fun r2 _ =>
 .ask (eqI (gI p1 0) 0)
 (.ask ((eqI (vI r2 1) 0) && true)
 (.call r3_Check [.l [.l [.l [.s [101], .l [], .i 0]], .l [.l [.s [103], .l [.i 1]]], .l [], .l [.l [.s [102], .b true, .l [.i 1], .i 0, .l [.l ((gL p1 3) ++ [.l [.i 29, .i 0, .i 0, .i 0, .i 0, .l [], .l []]])]], .l [.s [104], .b false, .l [.i 1], .i 1, aL p1 2]]]] 0 fun r3 _ =>
 .ask (((eqI (vI r2 1) 0) && (eqI (D.toI r3) 0)) && true)
 (.call keep_Ops [.l [.l (eX (D.fld r2 0) 0), .l (eX (D.fld r2 0) 1), .l (eX (D.fld r2 0) 2), .l (eX (D.fld r2 0) 3)], .i 22] 0 fun r4 _ =>
 .ret (.b (((eqI (vI r2 1) 0) && (eqI (D.toI r3) 0)) && (eqI (D.toI r4) 0))) [])
 (.ret (.b (((eqI (vI r2 1) 0) && (eqI (D.toI r3) 0)) && (eqI 0 0))) []))
 (.ask (((eqI (vI r2 1) 0) && (eqI 0 0)) && true)
 (.call keep_Ops [.l [.l (eX (D.fld r2 0) 0), .l (eX (D.fld r2 0) 1), .l (eX (D.fld r2 0) 2), .l (eX (D.fld r2 0) 3)], .i 22] 0 fun r3 _ =>
 .ret (.b (((eqI (vI r2 1) 0) && (eqI 0 0)) && (eqI (D.toI r3) 0))) [])
 (.ret (.b (((eqI (vI r2 1) 0) && (eqI 0 0)) && (eqI 0 0))) [])))
 (.ask ((eqI (vI r2 1) 0) && true)
 (.call r3_Check [.l [.l [.l [.s [101], .l [], .i 0]], .l [.l [.s [103], .l [.i 1]]], .l [], .l [.l [.s [102], .b true, .l [.i 1], .i 0, .l [.l ((gL p1 3) ++ [.l [.i 29, .i 0, .i 0, .i 0, .i 0, .l [], .l []]])]], .l [.s [104], .b false, .l [.i 1], .i 1, aL p1 2]]]] 0 fun r3 _ =>
 .ask (((eqI (vI r2 1) 0) && (eqI (D.toI r3) 0)) && true)
 (.call keep_Ops [.l [.l (eX (D.fld r2 0) 0), .l (eX (D.fld r2 0) 1), .l (eX (D.fld r2 0) 2), .l (eX (D.fld r2 0) 3)], .i 22] 0 fun r4 _ =>
 .ret (.b (((eqI (vI r2 1) 0) && (eqI (D.toI r3) 0)) && (eqI (D.toI r4) (gI p1 1)))) [])
 (.ret (.b (((eqI (vI r2 1) 0) && (eqI (D.toI r3) 0)) && (eqI 0 (gI p1 1)))) []))
 (.ask (((eqI (vI r2 1) 0) && (eqI 0 0)) && true)
 (.call keep_Ops [.l [.l (eX (D.fld r2 0) 0), .l (eX (D.fld r2 0) 1), .l (eX (D.fld r2 0) 2), .l (eX (D.fld r2 0) 3)], .i 22] 0 fun r3 _ =>
 .ret (.b (((eqI (vI r2 1) 0) && (eqI 0 0)) && (eqI (D.toI r3) (gI p1 1)))) [])
 (.ret (.b (((eqI (vI r2 1) 0) && (eqI 0 0)) && (eqI 0 (gI p1 1)))) [])))
def M_law21_DceIdle (x : List D) : Sh :=
 .call law21_first [] 0 fun r0 _ =>
 .ask (!(D.toB r0))
 (.ret (.b false) [])
 (.ask (!(eqI 5 0))
 (.ask (!(eqI 5 0))
 (.ask (eqI (Int.tmod (bitsA .and .i64 (D.toI (gD x 0)) 255) 5) 1)
 (.ask (lim (1 + 2) 88)
 (.loop 1 [.i (Int.tmod (bitsA .and .i64 (D.toI (gD x 0)) 255) 5), .i (addA .i64 1 (Int.tmod (bitsA .and .i64 (D.toI (gD x 1)) 255) 5)), .i 0, .l [.l [.l [.i 23, .i 0, .i 0, .i 0, .i 0, .l [], .l []], .l [.i 4, .i 1, .i 2, .i 0, .i 0, .l [.i 1, .i 1], .l []], .l [.i 29, .i 0, .i 0, .i 0, .i 0, .l [.i 2], .l []]]], .l []] (.cons (fun p1 =>
 .ask (lim ((List.length (gL p1 3)) + 1) 88)
 (J_law21_DceIdle_0 p1)
 (.bad))
 .nil))
 (.bad))
 (.ask (eqI (Int.tmod (bitsA .and .i64 (D.toI (gD x 0)) 255) 5) 2)
 (.loop 1 [.i (Int.tmod (bitsA .and .i64 (D.toI (gD x 0)) 255) 5), .i (addA .i64 1 (Int.tmod (bitsA .and .i64 (D.toI (gD x 1)) 255) 5)), .i 0, .l [.l [.l [.i 27, .i 0, .i 0, .i 0, .i 0, .l [], .l [.i 1]]], .l [.l [.i 14, .i 2, .i 2, .i 0, .i 0, .l [.i 1, .i 1], .l []], .l [.i 28, .i 0, .i 0, .i 0, .i 0, .l [.i 2], .l [.i 1, .i 2]]], .l [.l [.i 29, .i 0, .i 0, .i 0, .i 0, .l [.i 1], .l []]]], .l []] (.cons (fun p1 =>
 .ask (lim ((List.length (gL p1 3)) + 1) 88)
 (J_law21_DceIdle_0 p1)
 (.bad))
 .nil))
 (.ask (eqI (Int.tmod (bitsA .and .i64 (D.toI (gD x 0)) 255) 5) 3)
 (.loop 1 [.i (Int.tmod (bitsA .and .i64 (D.toI (gD x 0)) 255) 5), .i (addA .i64 1 (Int.tmod (bitsA .and .i64 (D.toI (gD x 1)) 255) 5)), .i 0, .l [.l [.l [.i 3, .i 3, .i 2, .i 0, .i 0, .l [], .l []], .l [.i 21, .i 0, .i 0, .i 0, .i 0, .l [.i 2, .i 1], .l []], .l [.i 29, .i 0, .i 0, .i 0, .i 0, .l [.i 1], .l []]]], .l []] (.cons (fun p1 =>
 .ask (lim ((List.length (gL p1 3)) + 1) 88)
 (J_law21_DceIdle_0 p1)
 (.bad))
 .nil))
 (.ask (eqI (Int.tmod (bitsA .and .i64 (D.toI (gD x 0)) 255) 5) 4)
 (.loop 1 [.i (Int.tmod (bitsA .and .i64 (D.toI (gD x 0)) 255) 5), .i (addA .i64 1 (Int.tmod (bitsA .and .i64 (D.toI (gD x 1)) 255) 5)), .i 0, .l [.l [.l [.i 8, .i 1, .i 2, .i 0, .i 0, .l [.i 1, .i 1], .l []], .l [.i 29, .i 0, .i 0, .i 0, .i 0, .l [.i 2], .l []]]], .l []] (.cons (fun p1 =>
 .ask (lim ((List.length (gL p1 3)) + 1) 88)
 (J_law21_DceIdle_0 p1)
 (.bad))
 .nil))
 (.loop 1 [.i (Int.tmod (bitsA .and .i64 (D.toI (gD x 0)) 255) 5), .i (addA .i64 1 (Int.tmod (bitsA .and .i64 (D.toI (gD x 1)) 255) 5)), .i 0, .l [.l [.l [.i 4, .i 1, .i 2, .i 0, .i 0, .l [.i 1, .i 1], .l []], .l [.i 29, .i 0, .i 0, .i 0, .i 0, .l [.i 2], .l []]]], .l []] (.cons (fun p1 =>
 .ask (lim ((List.length (gL p1 3)) + 1) 88)
 (J_law21_DceIdle_0 p1)
 (.bad))
 .nil))))))
 (.bad))
 (.bad))
def L_law21_DceIdle_1 (p : List D) : Sh :=
 .ask (ltI (gI p 2) (gI p 1))
 (.ask (lim ((List.length (gL p 4)) + 1) 88)
 (.again [aI p 0, aI p 1, .i (addA .i64 (gI p 2) 1), aL p 3, .l ((gL p 4) ++ [.l [.i 22, .i 1, .i (addA .i64 (gI p 2) 2), .i 1, .i 0, .l [.i 1], .l []]])])
 (.bad))
 (.out (0, [aI p 0, aI p 1, aL p 3, aL p 4]))
def S_law21_DceIdle : STab := [(1, fun p => ⟨(t2 (nI p 0) (t2 (nI p 1) (t0 (t1 (.vw 200007 0 [])) Z) Z) (t0 (t0 (t1 (nI p 2)) Z) (t1 (fL 28 lt2 p 3)))), [], [aR 200007 25 lt3 (gL p 4)], 1⟩)]
def T_law21_DceIdle : TTab := [(1, [fun p => (.exit 1, ⟨(t2 (nI p 0) (t2 (nI p 1) (t0 (t1 (.vw 200007 0 [])) Z) Z) (t0 (t0 Z Z) (t1 (fL 28 lt2 p 2)))), [], [aR 200007 25 lt3 (gL p 3)], 1⟩)])]
def F_law21_DceIdle : Fn := { np := 2, bs := [1], main := M_law21_DceIdle, lps := [(1, L_law21_DceIdle_1)] }
def d_r3_syms : FD := mkD Go.Proofs.Tryz.f19 h19 19 F_r3_syms S_r3_syms T_r3_syms
theorem k_r3_syms : KM d_r3_syms := fun x => by kernel_rfl
theorem k_r3_syms_0 : KL d_r3_syms 0 L_r3_syms_0 := fun p => by kernel_rfl
theorem k_r3_syms_2 : KL d_r3_syms 2 L_r3_syms_2 := fun p => by kernel_rfl
theorem k_r3_syms_4 : KL d_r3_syms 4 L_r3_syms_4 := fun p => by kernel_rfl
theorem k_r3_syms_6 : KL d_r3_syms 6 L_r3_syms_6 := fun p => by kernel_rfl
theorem k_r3_syms_8 : KL d_r3_syms 8 L_r3_syms_8 := fun p => by kernel_rfl
theorem c_r3_syms : Cert E bodies sites r3_syms d_r3_syms := by refine ⟨?_,?_,?_,?_,?_,?_,sites_loops,?_,k_r3_syms,look_cons' k_r3_syms_0 (look_cons' k_r3_syms_2 (look_cons' k_r3_syms_4 (look_cons' k_r3_syms_6 (look_cons' k_r3_syms_8 (look_nil)))))⟩ <;> kernel_rfl
def d_r3_flows : FD := mkD Go.Proofs.Tryz.f20 h20 20 F_r3_flows S_r3_flows T_r3_flows
theorem k_r3_flows : KM d_r3_flows := fun x => by kernel_rfl
theorem k_r3_flows_0 : KL d_r3_flows 0 L_r3_flows_0 := fun p => by kernel_rfl
theorem k_r3_flows_2 : KL d_r3_flows 2 L_r3_flows_2 := fun p => by kernel_rfl
theorem k_r3_flows_4 : KL d_r3_flows 4 L_r3_flows_4 := fun p => by kernel_rfl
theorem k_r3_flows_6 : KL d_r3_flows 6 L_r3_flows_6 := fun p => by kernel_rfl
theorem k_r3_flows_8 : KL d_r3_flows 8 L_r3_flows_8 := fun p => by kernel_rfl
theorem c_r3_flows : Cert E bodies sites r3_flows d_r3_flows := by refine ⟨?_,?_,?_,?_,?_,?_,sites_loops,?_,k_r3_flows,look_cons' k_r3_flows_0 (look_cons' k_r3_flows_2 (look_cons' k_r3_flows_4 (look_cons' k_r3_flows_6 (look_cons' k_r3_flows_8 (look_nil)))))⟩ <;> kernel_rfl
def d_facts_Facts_Effects : FD := mkD Go.Proofs.Tryz.f34 h34 34 F_facts_Facts_Effects S_facts_Facts_Effects T_facts_Facts_Effects
theorem k_facts_Facts_Effects : KM d_facts_Facts_Effects := fun x => by kernel_rfl
theorem k_facts_Facts_Effects_0 : KL d_facts_Facts_Effects 0 L_facts_Facts_Effects_0 := fun p => by kernel_rfl
theorem k_facts_Facts_Effects_2 : KL d_facts_Facts_Effects 2 L_facts_Facts_Effects_2 := fun p => by kernel_rfl
theorem c_facts_Facts_Effects : Cert E bodies sites facts_Facts_Effects d_facts_Facts_Effects := by refine ⟨?_,?_,?_,?_,?_,?_,sites_loops,?_,k_facts_Facts_Effects,look_cons' k_facts_Facts_Effects_0 (look_cons' k_facts_Facts_Effects_2 (look_nil))⟩ <;> kernel_rfl
def d_ir_copyFunc : FD := mkD Go.Proofs.Tryz.f39 h39 39 F_ir_copyFunc S_ir_copyFunc T_ir_copyFunc
theorem k_ir_copyFunc : KM d_ir_copyFunc := fun x => by kernel_rfl
theorem k_ir_copyFunc_0 : KL d_ir_copyFunc 0 L_ir_copyFunc_0 := fun p => by kernel_rfl
theorem k_ir_copyFunc_2 : KL d_ir_copyFunc 2 L_ir_copyFunc_2 := fun p => by kernel_rfl
theorem c_ir_copyFunc : Cert E bodies sites ir_copyFunc d_ir_copyFunc := by refine ⟨?_,?_,?_,?_,?_,?_,sites_loops,?_,k_ir_copyFunc,look_cons' k_ir_copyFunc_0 (look_cons' k_ir_copyFunc_2 (look_nil))⟩ <;> kernel_rfl
def d_r3_Ints : FD := mkD Go.Proofs.Tryz.f48 h48 48 F_r3_Ints S_r3_Ints T_r3_Ints
theorem k_r3_Ints : KM d_r3_Ints := fun x => by kernel_rfl
theorem k_r3_Ints_0 : KL d_r3_Ints 0 L_r3_Ints_0 := fun p => by kernel_rfl
theorem c_r3_Ints : Cert E bodies sites r3_Ints d_r3_Ints := by refine ⟨?_,?_,?_,?_,?_,?_,sites_loops,?_,k_r3_Ints,look_cons' k_r3_Ints_0 (look_nil)⟩ <;> kernel_rfl
def d_r3_Where : FD := mkD Go.Proofs.Tryz.f49 h49 49 F_r3_Where S_r3_Where T_r3_Where
theorem k_r3_Where : KM d_r3_Where := fun x => by kernel_rfl
theorem k_r3_Where_0 : KL d_r3_Where 0 L_r3_Where_0 := fun p => by kernel_rfl
theorem k_r3_Where_2 : KL d_r3_Where 2 L_r3_Where_2 := fun p => by kernel_rfl
theorem k_r3_Where_4 : KL d_r3_Where 4 L_r3_Where_4 := fun p => by kernel_rfl
theorem c_r3_Where : Cert E bodies sites r3_Where d_r3_Where := by refine ⟨?_,?_,?_,?_,?_,?_,sites_loops,?_,k_r3_Where,look_cons' k_r3_Where_0 (look_cons' k_r3_Where_2 (look_cons' k_r3_Where_4 (look_nil)))⟩ <;> kernel_rfl
def d_r3_Doms : FD := mkD Go.Proofs.Tryz.f50 h50 50 F_r3_Doms S_r3_Doms T_r3_Doms
theorem k_r3_Doms : KM d_r3_Doms := fun x => by kernel_rfl
theorem k_r3_Doms_0 : KL d_r3_Doms 0 L_r3_Doms_0 := fun p => by kernel_rfl
theorem k_r3_Doms_2 : KL d_r3_Doms 2 L_r3_Doms_2 := fun p => by kernel_rfl
theorem c_r3_Doms : Cert E bodies sites r3_Doms d_r3_Doms := by refine ⟨?_,?_,?_,?_,?_,?_,sites_loops,?_,k_r3_Doms,look_cons' k_r3_Doms_0 (look_cons' k_r3_Doms_2 (look_nil))⟩ <;> kernel_rfl
def d_wf_scalar : FD := mkD Go.Proofs.Tryz.f54 h54 54 F_wf_scalar S_wf_scalar T_wf_scalar
theorem k_wf_scalar : KM d_wf_scalar := fun x => by kernel_rfl
theorem c_wf_scalar : Cert E bodies sites wf_scalar d_wf_scalar := by refine ⟨?_,?_,?_,?_,?_,?_,sites_loops,?_,k_wf_scalar,look_nil⟩ <;> kernel_rfl
def d_dom_Over : FD := mkD Go.Proofs.Tryz.f62 h62 62 F_dom_Over S_dom_Over T_dom_Over
theorem k_dom_Over : KM d_dom_Over := fun x => by kernel_rfl
theorem c_dom_Over : Cert E bodies sites dom_Over d_dom_Over := by refine ⟨?_,?_,?_,?_,?_,?_,sites_loops,?_,k_dom_Over,look_nil⟩ <;> kernel_rfl
def d_facts_weight : FD := mkD Go.Proofs.Tryz.f72 h72 72 F_facts_weight S_facts_weight T_facts_weight
theorem k_facts_weight : KM d_facts_weight := fun x => by kernel_rfl
theorem c_facts_weight : Cert E bodies sites facts_weight d_facts_weight := by refine ⟨?_,?_,?_,?_,?_,?_,sites_loops,?_,k_facts_weight,look_nil⟩ <;> kernel_rfl
def d_scc_Rec : FD := mkD Go.Proofs.Tryz.f80 h80 80 F_scc_Rec S_scc_Rec T_scc_Rec
theorem k_scc_Rec : KM d_scc_Rec := fun x => by kernel_rfl
theorem k_scc_Rec_0 : KL d_scc_Rec 0 L_scc_Rec_0 := fun p => by kernel_rfl
theorem k_scc_Rec_2 : KL d_scc_Rec 2 L_scc_Rec_2 := fun p => by kernel_rfl
theorem c_scc_Rec : Cert E bodies sites scc_Rec d_scc_Rec := by refine ⟨?_,?_,?_,?_,?_,?_,sites_loops,?_,k_scc_Rec,look_cons' k_scc_Rec_0 (look_cons' k_scc_Rec_2 (look_nil))⟩ <;> kernel_rfl
def d_facts_Facts_Safe : FD := mkD Go.Proofs.Tryz.f84 h84 84 F_facts_Facts_Safe S_facts_Facts_Safe T_facts_Facts_Safe
theorem k_facts_Facts_Safe : KM d_facts_Facts_Safe := fun x => by kernel_rfl
theorem c_facts_Facts_Safe : Cert E bodies sites facts_Facts_Safe d_facts_Facts_Safe := by refine ⟨?_,?_,?_,?_,?_,?_,sites_loops,?_,k_facts_Facts_Safe,look_nil⟩ <;> kernel_rfl
def d_r3_Next : FD := mkD Go.Proofs.Tryz.f88 h88 88 F_r3_Next S_r3_Next T_r3_Next
theorem k_r3_Next : KM d_r3_Next := fun x => by kernel_rfl
theorem k_r3_Next_0 : KL d_r3_Next 0 L_r3_Next_0 := fun p => by kernel_rfl
theorem c_r3_Next : Cert E bodies sites r3_Next d_r3_Next := by refine ⟨?_,?_,?_,?_,?_,?_,sites_loops,?_,k_r3_Next,look_cons' k_r3_Next_0 (look_nil)⟩ <;> kernel_rfl
def d_flow_walked : FD := mkD Go.Proofs.Tryz.f92 h92 92 F_flow_walked S_flow_walked T_flow_walked
theorem k_flow_walked : KM d_flow_walked := fun x => by kernel_rfl
theorem c_flow_walked : Cert E bodies sites flow_walked d_flow_walked := by refine ⟨?_,?_,?_,?_,?_,?_,sites_loops,?_,k_flow_walked,look_nil⟩ <;> kernel_rfl
def d_flow_Next : FD := mkD Go.Proofs.Tryz.f93 h93 93 F_flow_Next S_flow_Next T_flow_Next
theorem k_flow_Next : KM d_flow_Next := fun x => by kernel_rfl
theorem k_flow_Next_0 : KL d_flow_Next 0 L_flow_Next_0 := fun p => by kernel_rfl
theorem c_flow_Next : Cert E bodies sites flow_Next d_flow_Next := by refine ⟨?_,?_,?_,?_,?_,?_,sites_loops,?_,k_flow_Next,look_cons' k_flow_Next_0 (look_nil)⟩ <;> kernel_rfl
def d_slices_pdqsortCmpFunc_api_Base : FD := mkD Go.Proofs.Tryz.f99 h99 99 F_slices_pdqsortCmpFunc_api_Base S_slices_pdqsortCmpFunc_api_Base T_slices_pdqsortCmpFunc_api_Base
theorem k_slices_pdqsortCmpFunc_api_Base : KM d_slices_pdqsortCmpFunc_api_Base := fun x => by kernel_rfl
theorem k_slices_pdqsortCmpFunc_api_Base_0 : KL d_slices_pdqsortCmpFunc_api_Base 0 L_slices_pdqsortCmpFunc_api_Base_0 := fun p => by kernel_rfl
theorem c_slices_pdqsortCmpFunc_api_Base : Cert E bodies sites slices_pdqsortCmpFunc_api_Base d_slices_pdqsortCmpFunc_api_Base := by refine ⟨?_,?_,?_,?_,?_,?_,sites_loops,?_,k_slices_pdqsortCmpFunc_api_Base,look_cons' k_slices_pdqsortCmpFunc_api_Base_0 (look_nil)⟩ <;> kernel_rfl
def d_facts_Func_Num : FD := mkD Go.Proofs.Tryz.f101 h101 101 F_facts_Func_Num S_facts_Func_Num T_facts_Func_Num
theorem k_facts_Func_Num : KM d_facts_Func_Num := fun x => by kernel_rfl
theorem c_facts_Func_Num : Cert E bodies sites facts_Func_Num d_facts_Func_Num := by refine ⟨?_,?_,?_,?_,?_,?_,sites_loops,?_,k_facts_Func_Num,look_nil⟩ <;> kernel_rfl
def d_slices_Contains_Sint_int : FD := mkD Go.Proofs.Tryz.f113 h113 113 F_slices_Contains_Sint_int S_slices_Contains_Sint_int T_slices_Contains_Sint_int
theorem k_slices_Contains_Sint_int : KM d_slices_Contains_Sint_int := fun x => by kernel_rfl
theorem c_slices_Contains_Sint_int : Cert E bodies sites slices_Contains_Sint_int d_slices_Contains_Sint_int := by refine ⟨?_,?_,?_,?_,?_,?_,sites_loops,?_,k_slices_Contains_Sint_int,look_nil⟩ <;> kernel_rfl
def d_cmp_Less_int : FD := mkD Go.Proofs.Tryz.f145 h145 145 F_cmp_Less_int S_cmp_Less_int T_cmp_Less_int
theorem k_cmp_Less_int : KM d_cmp_Less_int := fun x => by kernel_rfl
theorem c_cmp_Less_int : Cert E bodies sites cmp_Less_int d_cmp_Less_int := by refine ⟨?_,?_,?_,?_,?_,?_,sites_loops,?_,k_cmp_Less_int,look_nil⟩ <;> kernel_rfl
def d_keep_Ops : FD := mkD Go.Proofs.Tryz.f7 h7 7 F_keep_Ops S_keep_Ops T_keep_Ops
theorem k_keep_Ops : KM d_keep_Ops := fun x => by kernel_rfl
theorem k_keep_Ops_0 : KL d_keep_Ops 0 L_keep_Ops_0 := fun p => by kernel_rfl
theorem k_keep_Ops_2 : KL d_keep_Ops 2 L_keep_Ops_2 := fun p => by kernel_rfl
theorem k_keep_Ops_4 : KL d_keep_Ops 4 L_keep_Ops_4 := fun p => by kernel_rfl
theorem c_keep_Ops : Cert E bodies sites keep_Ops d_keep_Ops := by refine ⟨?_,?_,?_,?_,?_,?_,sites_loops,?_,k_keep_Ops,look_cons' k_keep_Ops_0 (look_cons' k_keep_Ops_2 (look_cons' k_keep_Ops_4 (look_nil)))⟩ <;> kernel_rfl
def d_facts_Facts_Idle : FD := mkD Go.Proofs.Tryz.f12 h12 12 F_facts_Facts_Idle S_facts_Facts_Idle T_facts_Facts_Idle
theorem k_facts_Facts_Idle : KM d_facts_Facts_Idle := fun x => by kernel_rfl
theorem k_facts_Facts_Idle_0 : KL d_facts_Facts_Idle 0 L_facts_Facts_Idle_0 := fun p => by kernel_rfl
theorem c_facts_Facts_Idle : Cert E bodies sites facts_Facts_Idle d_facts_Facts_Idle := by refine ⟨?_,?_,?_,?_,?_,?_,sites_loops,?_,k_facts_Facts_Idle,look_cons' k_facts_Facts_Idle_0 (look_nil)⟩ <;> kernel_rfl
def d_r3_types : FD := mkD Go.Proofs.Tryz.f22 h22 22 F_r3_types S_r3_types T_r3_types
theorem k_r3_types : KM d_r3_types := fun x => by kernel_rfl
theorem k_r3_types_0 : KL d_r3_types 0 L_r3_types_0 := fun p => by kernel_rfl
theorem k_r3_types_2 : KL d_r3_types 2 L_r3_types_2 := fun p => by kernel_rfl
theorem k_r3_types_4 : KL d_r3_types 4 L_r3_types_4 := fun p => by kernel_rfl
theorem c_r3_types : Cert E bodies sites r3_types d_r3_types := by refine ⟨?_,?_,?_,?_,?_,?_,sites_loops,?_,k_r3_types,look_cons' k_r3_types_0 (look_cons' k_r3_types_2 (look_cons' k_r3_types_4 (look_nil)))⟩ <;> kernel_rfl
def d_wf_named : FD := mkD Go.Proofs.Tryz.f26 h26 26 F_wf_named S_wf_named T_wf_named
theorem k_wf_named : KM d_wf_named := fun x => by kernel_rfl
theorem k_wf_named_0 : KL d_wf_named 0 L_wf_named_0 := fun p => by kernel_rfl
theorem k_wf_named_2 : KL d_wf_named 2 L_wf_named_2 := fun p => by kernel_rfl
theorem k_wf_named_4 : KL d_wf_named 4 L_wf_named_4 := fun p => by kernel_rfl
theorem k_wf_named_6 : KL d_wf_named 6 L_wf_named_6 := fun p => by kernel_rfl
theorem k_wf_named_8 : KL d_wf_named 8 L_wf_named_8 := fun p => by kernel_rfl
theorem c_wf_named : Cert E bodies sites wf_named d_wf_named := by refine ⟨?_,?_,?_,?_,?_,?_,sites_loops,?_,k_wf_named,look_cons' k_wf_named_0 (look_cons' k_wf_named_2 (look_cons' k_wf_named_4 (look_cons' k_wf_named_6 (look_cons' k_wf_named_8 (look_nil)))))⟩ <;> kernel_rfl
def d_wf_used : FD := mkD Go.Proofs.Tryz.f29 h29 29 F_wf_used S_wf_used T_wf_used
theorem k_wf_used : KM d_wf_used := fun x => by kernel_rfl
theorem k_wf_used_0 : KL d_wf_used 0 L_wf_used_0 := fun p => by kernel_rfl
theorem k_wf_used_2 : KL d_wf_used 2 L_wf_used_2 := fun p => by kernel_rfl
theorem k_wf_used_4 : KL d_wf_used 4 L_wf_used_4 := fun p => by kernel_rfl
theorem k_wf_used_6 : KL d_wf_used 6 L_wf_used_6 := fun p => by kernel_rfl
theorem k_wf_used_8 : KL d_wf_used 8 L_wf_used_8 := fun p => by kernel_rfl
theorem k_wf_used_10 : KL d_wf_used 10 L_wf_used_10 := fun p => by kernel_rfl
theorem k_wf_used_12 : KL d_wf_used 12 L_wf_used_12 := fun p => by kernel_rfl
theorem c_wf_used : Cert E bodies sites wf_used d_wf_used := by refine ⟨?_,?_,?_,?_,?_,?_,sites_loops,?_,k_wf_used,look_cons' k_wf_used_0 (look_cons' k_wf_used_2 (look_cons' k_wf_used_4 (look_cons' k_wf_used_6 (look_cons' k_wf_used_8 (look_cons' k_wf_used_10 (look_cons' k_wf_used_12 (look_nil)))))))⟩ <;> kernel_rfl
def d_ir_Types : FD := mkD Go.Proofs.Tryz.f31 h31 31 F_ir_Types S_ir_Types T_ir_Types
theorem k_ir_Types : KM d_ir_Types := fun x => by kernel_rfl
theorem k_ir_Types_0 : KL d_ir_Types 0 L_ir_Types_0 := fun p => by kernel_rfl
theorem k_ir_Types_2 : KL d_ir_Types 2 L_ir_Types_2 := fun p => by kernel_rfl
theorem c_ir_Types : Cert E bodies sites ir_Types d_ir_Types := by refine ⟨?_,?_,?_,?_,?_,?_,sites_loops,?_,k_ir_Types,look_cons' k_ir_Types_0 (look_cons' k_ir_Types_2 (look_nil))⟩ <;> kernel_rfl
def d_facts_Func_offs : FD := mkD Go.Proofs.Tryz.f33 h33 33 F_facts_Func_offs S_facts_Func_offs T_facts_Func_offs
theorem k_facts_Func_offs : KM d_facts_Func_offs := fun x => by kernel_rfl
theorem k_facts_Func_offs_0 : KL d_facts_Func_offs 0 L_facts_Func_offs_0 := fun p => by kernel_rfl
theorem c_facts_Func_offs : Cert E bodies sites facts_Func_offs d_facts_Func_offs := by refine ⟨?_,?_,?_,?_,?_,?_,sites_loops,?_,k_facts_Func_offs,look_cons' k_facts_Func_offs_0 (look_nil)⟩ <;> kernel_rfl
def d_facts_Facts_Ends : FD := mkD Go.Proofs.Tryz.f36 h36 36 F_facts_Facts_Ends S_facts_Facts_Ends T_facts_Facts_Ends
theorem k_facts_Facts_Ends : KM d_facts_Facts_Ends := fun x => by kernel_rfl
theorem k_facts_Facts_Ends_0 : KL d_facts_Facts_Ends 0 L_facts_Facts_Ends_0 := fun p => by kernel_rfl
theorem k_facts_Facts_Ends_2 : KL d_facts_Facts_Ends 2 L_facts_Facts_Ends_2 := fun p => by kernel_rfl
theorem c_facts_Facts_Ends : Cert E bodies sites facts_Facts_Ends d_facts_Facts_Ends := by refine ⟨?_,?_,?_,?_,?_,?_,sites_loops,?_,k_facts_Facts_Ends,look_cons' k_facts_Facts_Ends_0 (look_cons' k_facts_Facts_Ends_2 (look_nil))⟩ <;> kernel_rfl
def d_slices_Clone_Sint_int : FD := mkD Go.Proofs.Tryz.f37 h37 37 F_slices_Clone_Sint_int S_slices_Clone_Sint_int T_slices_Clone_Sint_int
theorem k_slices_Clone_Sint_int : KM d_slices_Clone_Sint_int := fun x => by kernel_rfl
theorem c_slices_Clone_Sint_int : Cert E bodies sites slices_Clone_Sint_int d_slices_Clone_Sint_int := by refine ⟨?_,?_,?_,?_,?_,?_,sites_loops,?_,k_slices_Clone_Sint_int,look_nil⟩ <;> kernel_rfl
def d_r3_Reach : FD := mkD Go.Proofs.Tryz.f46 h46 46 F_r3_Reach S_r3_Reach T_r3_Reach
theorem k_r3_Reach : KM d_r3_Reach := fun x => by kernel_rfl
theorem c_r3_Reach : Cert E bodies sites r3_Reach d_r3_Reach := by refine ⟨?_,?_,?_,?_,?_,?_,sites_loops,?_,k_r3_Reach,look_nil⟩ <;> kernel_rfl
def d_r3_Prev : FD := mkD Go.Proofs.Tryz.f47 h47 47 F_r3_Prev S_r3_Prev T_r3_Prev
theorem k_r3_Prev : KM d_r3_Prev := fun x => by kernel_rfl
theorem k_r3_Prev_0 : KL d_r3_Prev 0 L_r3_Prev_0 := fun p => by kernel_rfl
theorem k_r3_Prev_2 : KL d_r3_Prev 2 L_r3_Prev_2 := fun p => by kernel_rfl
theorem c_r3_Prev : Cert E bodies sites r3_Prev d_r3_Prev := by refine ⟨?_,?_,?_,?_,?_,?_,sites_loops,?_,k_r3_Prev,look_cons' k_r3_Prev_0 (look_cons' k_r3_Prev_2 (look_nil))⟩ <;> kernel_rfl
def d_ir_Size : FD := mkD Go.Proofs.Tryz.f53 h53 53 F_ir_Size S_ir_Size T_ir_Size
theorem k_ir_Size : KM d_ir_Size := fun x => by kernel_rfl
theorem k_ir_Size_0 : KL d_ir_Size 0 L_ir_Size_0 := fun p => by kernel_rfl
theorem c_ir_Size : Cert E bodies sites ir_Size d_ir_Size := by refine ⟨?_,?_,?_,?_,?_,?_,sites_loops,?_,k_ir_Size,look_cons' k_ir_Size_0 (look_nil)⟩ <;> kernel_rfl
def d_slices_Contains_Sbool_bool : FD := mkD Go.Proofs.Tryz.f58 h58 58 F_slices_Contains_Sbool_bool S_slices_Contains_Sbool_bool T_slices_Contains_Sbool_bool
theorem k_slices_Contains_Sbool_bool : KM d_slices_Contains_Sbool_bool := fun x => by kernel_rfl
theorem c_slices_Contains_Sbool_bool : Cert E bodies sites slices_Contains_Sbool_bool d_slices_Contains_Sbool_bool := by refine ⟨?_,?_,?_,?_,?_,?_,sites_loops,?_,k_slices_Contains_Sbool_bool,look_nil⟩ <;> kernel_rfl
def d_flow_Prev : FD := mkD Go.Proofs.Tryz.f60 h60 60 F_flow_Prev S_flow_Prev T_flow_Prev
theorem k_flow_Prev : KM d_flow_Prev := fun x => by kernel_rfl
theorem k_flow_Prev_0 : KL d_flow_Prev 0 L_flow_Prev_0 := fun p => by kernel_rfl
theorem k_flow_Prev_2 : KL d_flow_Prev 2 L_flow_Prev_2 := fun p => by kernel_rfl
theorem c_flow_Prev : Cert E bodies sites flow_Prev d_flow_Prev := by refine ⟨?_,?_,?_,?_,?_,?_,sites_loops,?_,k_flow_Prev,look_cons' k_flow_Prev_0 (look_cons' k_flow_Prev_2 (look_nil))⟩ <;> kernel_rfl
def d_slices_Clone_Sapi_Base_api_Base : FD := mkD Go.Proofs.Tryz.f66 h66 66 F_slices_Clone_Sapi_Base_api_Base S_slices_Clone_Sapi_Base_api_Base T_slices_Clone_Sapi_Base_api_Base
theorem k_slices_Clone_Sapi_Base_api_Base : KM d_slices_Clone_Sapi_Base_api_Base := fun x => by kernel_rfl
theorem c_slices_Clone_Sapi_Base_api_Base : Cert E bodies sites slices_Clone_Sapi_Base_api_Base d_slices_Clone_Sapi_Base_api_Base := by refine ⟨?_,?_,?_,?_,?_,?_,sites_loops,?_,k_slices_Clone_Sapi_Base_api_Base,look_nil⟩ <;> kernel_rfl
def d_facts_Func_off : FD := mkD Go.Proofs.Tryz.f70 h70 70 F_facts_Func_off S_facts_Func_off T_facts_Func_off
theorem k_facts_Func_off : KM d_facts_Func_off := fun x => by kernel_rfl
theorem c_facts_Func_off : Cert E bodies sites facts_Func_off d_facts_Func_off := by refine ⟨?_,?_,?_,?_,?_,?_,sites_loops,?_,k_facts_Func_off,look_nil⟩ <;> kernel_rfl
def d_scc_Order : FD := mkD Go.Proofs.Tryz.f78 h78 78 F_scc_Order S_scc_Order T_scc_Order
theorem k_scc_Order : KM d_scc_Order := fun x => by kernel_rfl
theorem k_scc_Order_0 : KL d_scc_Order 0 L_scc_Order_0 := fun p => by kernel_rfl
theorem c_scc_Order : Cert E bodies sites scc_Order d_scc_Order := by refine ⟨?_,?_,?_,?_,?_,?_,sites_loops,?_,k_scc_Order,look_cons' k_scc_Order_0 (look_nil)⟩ <;> kernel_rfl
def d_ir_copyIns : FD := mkD Go.Proofs.Tryz.f81 h81 81 F_ir_copyIns S_ir_copyIns T_ir_copyIns
theorem k_ir_copyIns : KM d_ir_copyIns := fun x => by kernel_rfl
theorem c_ir_copyIns : Cert E bodies sites ir_copyIns d_ir_copyIns := by refine ⟨?_,?_,?_,?_,?_,?_,sites_loops,?_,k_ir_copyIns,look_nil⟩ <;> kernel_rfl
def d_r3_Name : FD := mkD Go.Proofs.Tryz.f86 h86 86 F_r3_Name S_r3_Name T_r3_Name
theorem k_r3_Name : KM d_r3_Name := fun x => by kernel_rfl
theorem k_r3_Name_0 : KL d_r3_Name 0 L_r3_Name_0 := fun p => by kernel_rfl
theorem c_r3_Name : Cert E bodies sites r3_Name d_r3_Name := by refine ⟨?_,?_,?_,?_,?_,?_,sites_loops,?_,k_r3_Name,look_cons' k_r3_Name_0 (look_nil)⟩ <;> kernel_rfl
def d_wf_Mark : FD := mkD Go.Proofs.Tryz.f90 h90 90 F_wf_Mark S_wf_Mark T_wf_Mark
theorem k_wf_Mark : KM d_wf_Mark := fun x => by kernel_rfl
theorem c_wf_Mark : Cert E bodies sites wf_Mark d_wf_Mark := by refine ⟨?_,?_,?_,?_,?_,?_,sites_loops,?_,k_wf_Mark,look_nil⟩ <;> kernel_rfl
def d_slices_Index_Sbool_bool : FD := mkD Go.Proofs.Tryz.f91 h91 91 F_slices_Index_Sbool_bool S_slices_Index_Sbool_bool T_slices_Index_Sbool_bool
theorem k_slices_Index_Sbool_bool : KM d_slices_Index_Sbool_bool := fun x => by kernel_rfl
theorem k_slices_Index_Sbool_bool_0 : KL d_slices_Index_Sbool_bool 0 L_slices_Index_Sbool_bool_0 := fun p => by kernel_rfl
theorem c_slices_Index_Sbool_bool : Cert E bodies sites slices_Index_Sbool_bool d_slices_Index_Sbool_bool := by refine ⟨?_,?_,?_,?_,?_,?_,sites_loops,?_,k_slices_Index_Sbool_bool,look_cons' k_slices_Index_Sbool_bool_0 (look_nil)⟩ <;> kernel_rfl
def d_wf_rows : FD := mkD Go.Proofs.Tryz.f97 h97 97 F_wf_rows S_wf_rows T_wf_rows
theorem k_wf_rows : KM d_wf_rows := fun x => by kernel_rfl
theorem k_wf_rows_0 : KL d_wf_rows 0 L_wf_rows_0 := fun p => by kernel_rfl
theorem c_wf_rows : Cert E bodies sites wf_rows d_wf_rows := by refine ⟨?_,?_,?_,?_,?_,?_,sites_loops,?_,k_wf_rows,look_cons' k_wf_rows_0 (look_nil)⟩ <;> kernel_rfl
def d_r3_Last : FD := mkD Go.Proofs.Tryz.f110 h110 110 F_r3_Last S_r3_Last T_r3_Last
theorem k_r3_Last : KM d_r3_Last := fun x => by kernel_rfl
theorem c_r3_Last : Cert E bodies sites r3_Last d_r3_Last := by refine ⟨?_,?_,?_,?_,?_,?_,sites_loops,?_,k_r3_Last,look_nil⟩ <;> kernel_rfl
def d_r3_In : FD := mkD Go.Proofs.Tryz.f111 h111 111 F_r3_In S_r3_In T_r3_In
theorem k_r3_In : KM d_r3_In := fun x => by kernel_rfl
theorem k_r3_In_0 : KL d_r3_In 0 L_r3_In_0 := fun p => by kernel_rfl
theorem c_r3_In : Cert E bodies sites r3_In d_r3_In := by refine ⟨?_,?_,?_,?_,?_,?_,sites_loops,?_,k_r3_In,look_cons' k_r3_In_0 (look_nil)⟩ <;> kernel_rfl
def d_slices_insertionSortCmpFunc_api_Base : FD := mkD Go.Proofs.Tryz.f115 h115 115 F_slices_insertionSortCmpFunc_api_Base S_slices_insertionSortCmpFunc_api_Base T_slices_insertionSortCmpFunc_api_Base
theorem k_slices_insertionSortCmpFunc_api_Base : KM d_slices_insertionSortCmpFunc_api_Base := fun x => by kernel_rfl
theorem k_slices_insertionSortCmpFunc_api_Base_0 : KL d_slices_insertionSortCmpFunc_api_Base 0 L_slices_insertionSortCmpFunc_api_Base_0 := fun p => by kernel_rfl
theorem k_slices_insertionSortCmpFunc_api_Base_2 : KL d_slices_insertionSortCmpFunc_api_Base 2 L_slices_insertionSortCmpFunc_api_Base_2 := fun p => by kernel_rfl
theorem c_slices_insertionSortCmpFunc_api_Base : Cert E bodies sites slices_insertionSortCmpFunc_api_Base d_slices_insertionSortCmpFunc_api_Base := by refine ⟨?_,?_,?_,?_,?_,?_,sites_loops,?_,k_slices_insertionSortCmpFunc_api_Base,look_cons' k_slices_insertionSortCmpFunc_api_Base_0 (look_cons' k_slices_insertionSortCmpFunc_api_Base_2 (look_nil))⟩ <;> kernel_rfl
def d_slices_Sort_Sint_int : FD := mkD Go.Proofs.Tryz.f125 h125 125 F_slices_Sort_Sint_int S_slices_Sort_Sint_int T_slices_Sort_Sint_int
theorem k_slices_Sort_Sint_int : KM d_slices_Sort_Sint_int := fun x => by kernel_rfl
theorem c_slices_Sort_Sint_int : Cert E bodies sites slices_Sort_Sint_int d_slices_Sort_Sint_int := by refine ⟨?_,?_,?_,?_,?_,?_,sites_loops,?_,k_slices_Sort_Sint_int,look_nil⟩ <;> kernel_rfl
def d_cmp_isNaN_int : FD := mkD Go.Proofs.Tryz.f151 h151 151 F_cmp_isNaN_int S_cmp_isNaN_int T_cmp_isNaN_int
theorem k_cmp_isNaN_int : KM d_cmp_isNaN_int := fun x => by kernel_rfl
theorem c_cmp_isNaN_int : Cert E bodies sites cmp_isNaN_int d_cmp_isNaN_int := by refine ⟨?_,?_,?_,?_,?_,?_,sites_loops,?_,k_cmp_isNaN_int,look_nil⟩ <;> kernel_rfl
def d_law21_waste : FD := mkD Go.Proofs.Tryz.f8 h8 8 F_law21_waste S_law21_waste T_law21_waste
theorem k_law21_waste : KM d_law21_waste := fun x => by kernel_rfl
theorem c_law21_waste : Cert E bodies sites law21_waste d_law21_waste := by refine ⟨?_,?_,?_,?_,?_,?_,sites_loops,?_,k_law21_waste,look_nil⟩ <;> kernel_rfl
def d_wf_Check : FD := mkD Go.Proofs.Tryz.f10 h10 10 F_wf_Check S_wf_Check T_wf_Check
theorem k_wf_Check : KM d_wf_Check := fun x => by kernel_rfl
theorem k_wf_Check_1 : KL d_wf_Check 1 L_wf_Check_1 := fun p => by kernel_rfl
theorem k_wf_Check_3 : KL d_wf_Check 3 L_wf_Check_3 := fun p => by kernel_rfl
theorem k_wf_Check_5 : KL d_wf_Check 5 L_wf_Check_5 := fun p => by kernel_rfl
theorem c_wf_Check : Cert E bodies sites wf_Check d_wf_Check := by refine ⟨?_,?_,?_,?_,?_,?_,sites_loops,?_,k_wf_Check,look_cons' k_wf_Check_1 (look_cons' k_wf_Check_3 (look_cons' k_wf_Check_5 (look_nil)))⟩ <;> kernel_rfl
def d_r3_names : FD := mkD Go.Proofs.Tryz.f18 h18 18 F_r3_names S_r3_names T_r3_names
theorem k_r3_names : KM d_r3_names := fun x => by kernel_rfl
theorem k_r3_names_0 : KL d_r3_names 0 L_r3_names_0 := fun p => by kernel_rfl
theorem k_r3_names_2 : KL d_r3_names 2 L_r3_names_2 := fun p => by kernel_rfl
theorem k_r3_names_4 : KL d_r3_names 4 L_r3_names_4 := fun p => by kernel_rfl
theorem k_r3_names_6 : KL d_r3_names 6 L_r3_names_6 := fun p => by kernel_rfl
theorem c_r3_names : Cert E bodies sites r3_names d_r3_names := by refine ⟨?_,?_,?_,?_,?_,?_,sites_loops,?_,k_r3_names,look_cons' k_r3_names_0 (look_cons' k_r3_names_2 (look_cons' k_r3_names_4 (look_cons' k_r3_names_6 (look_nil))))⟩ <;> kernel_rfl
def d_r3_uses : FD := mkD Go.Proofs.Tryz.f21 h21 21 F_r3_uses S_r3_uses T_r3_uses
theorem k_r3_uses : KM d_r3_uses := fun x => by kernel_rfl
theorem k_r3_uses_0 : KL d_r3_uses 0 L_r3_uses_0 := fun p => by kernel_rfl
theorem k_r3_uses_2 : KL d_r3_uses 2 L_r3_uses_2 := fun p => by kernel_rfl
theorem k_r3_uses_4 : KL d_r3_uses 4 L_r3_uses_4 := fun p => by kernel_rfl
theorem k_r3_uses_6 : KL d_r3_uses 6 L_r3_uses_6 := fun p => by kernel_rfl
theorem k_r3_uses_8 : KL d_r3_uses 8 L_r3_uses_8 := fun p => by kernel_rfl
theorem c_r3_uses : Cert E bodies sites r3_uses d_r3_uses := by refine ⟨?_,?_,?_,?_,?_,?_,sites_loops,?_,k_r3_uses,look_cons' k_r3_uses_0 (look_cons' k_r3_uses_2 (look_cons' k_r3_uses_4 (look_cons' k_r3_uses_6 (look_cons' k_r3_uses_8 (look_nil)))))⟩ <;> kernel_rfl
def d_r3_Size : FD := mkD Go.Proofs.Tryz.f23 h23 23 F_r3_Size S_r3_Size T_r3_Size
theorem k_r3_Size : KM d_r3_Size := fun x => by kernel_rfl
theorem k_r3_Size_0 : KL d_r3_Size 0 L_r3_Size_0 := fun p => by kernel_rfl
theorem c_r3_Size : Cert E bodies sites r3_Size d_r3_Size := by refine ⟨?_,?_,?_,?_,?_,?_,sites_loops,?_,k_r3_Size,look_cons' k_r3_Size_0 (look_nil)⟩ <;> kernel_rfl
def d_wf_known : FD := mkD Go.Proofs.Tryz.f27 h27 27 F_wf_known S_wf_known T_wf_known
theorem k_wf_known : KM d_wf_known := fun x => by kernel_rfl
theorem k_wf_known_0 : KL d_wf_known 0 L_wf_known_0 := fun p => by kernel_rfl
theorem k_wf_known_2 : KL d_wf_known 2 L_wf_known_2 := fun p => by kernel_rfl
theorem k_wf_known_4 : KL d_wf_known 4 L_wf_known_4 := fun p => by kernel_rfl
theorem k_wf_known_6 : KL d_wf_known 6 L_wf_known_6 := fun p => by kernel_rfl
theorem k_wf_known_8 : KL d_wf_known 8 L_wf_known_8 := fun p => by kernel_rfl
theorem c_wf_known : Cert E bodies sites wf_known d_wf_known := by refine ⟨?_,?_,?_,?_,?_,?_,sites_loops,?_,k_wf_known,look_cons' k_wf_known_0 (look_cons' k_wf_known_2 (look_cons' k_wf_known_4 (look_cons' k_wf_known_6 (look_cons' k_wf_known_8 (look_nil)))))⟩ <;> kernel_rfl
def d_facts_Func_bases : FD := mkD Go.Proofs.Tryz.f32 h32 32 F_facts_Func_bases S_facts_Func_bases T_facts_Func_bases
theorem k_facts_Func_bases : KM d_facts_Func_bases := fun x => by kernel_rfl
theorem k_facts_Func_bases_0 : KL d_facts_Func_bases 0 L_facts_Func_bases_0 := fun p => by kernel_rfl
theorem k_facts_Func_bases_2 : KL d_facts_Func_bases 2 L_facts_Func_bases_2 := fun p => by kernel_rfl
theorem k_facts_Func_bases_4 : KL d_facts_Func_bases 4 L_facts_Func_bases_4 := fun p => by kernel_rfl
theorem k_facts_Func_bases_7 : KL d_facts_Func_bases 7 L_facts_Func_bases_7 := fun p => by kernel_rfl
theorem c_facts_Func_bases : Cert E bodies sites facts_Func_bases d_facts_Func_bases := by refine ⟨?_,?_,?_,?_,?_,?_,sites_loops,?_,k_facts_Func_bases,look_cons' k_facts_Func_bases_0 (look_cons' k_facts_Func_bases_2 (look_cons' k_facts_Func_bases_4 (look_cons' k_facts_Func_bases_7 (look_nil))))⟩ <;> kernel_rfl
def d_slices_Clone_Sint64_int64 : FD := mkD Go.Proofs.Tryz.f38 h38 38 F_slices_Clone_Sint64_int64 S_slices_Clone_Sint64_int64 T_slices_Clone_Sint64_int64
theorem k_slices_Clone_Sint64_int64 : KM d_slices_Clone_Sint64_int64 := fun x => by kernel_rfl
theorem c_slices_Clone_Sint64_int64 : Cert E bodies sites slices_Clone_Sint64_int64 d_slices_Clone_Sint64_int64 := by refine ⟨?_,?_,?_,?_,?_,?_,sites_loops,?_,k_slices_Clone_Sint64_int64,look_nil⟩ <;> kernel_rfl
def d_dce_does : FD := mkD Go.Proofs.Tryz.f41 h41 41 F_dce_does S_dce_does T_dce_does
theorem k_dce_does : KM d_dce_does := fun x => by kernel_rfl
theorem k_dce_does_1 : KL d_dce_does 1 L_dce_does_1 := fun p => by kernel_rfl
theorem c_dce_does : Cert E bodies sites dce_does d_dce_does := by refine ⟨?_,?_,?_,?_,?_,?_,sites_loops,?_,k_dce_does,look_cons' k_dce_does_1 (look_nil)⟩ <;> kernel_rfl
def d_r3_Ends : FD := mkD Go.Proofs.Tryz.f45 h45 45 F_r3_Ends S_r3_Ends T_r3_Ends
theorem k_r3_Ends : KM d_r3_Ends := fun x => by kernel_rfl
theorem c_r3_Ends : Cert E bodies sites r3_Ends d_r3_Ends := by refine ⟨?_,?_,?_,?_,?_,?_,sites_loops,?_,k_r3_Ends,look_nil⟩ <;> kernel_rfl
def d_wf_Name : FD := mkD Go.Proofs.Tryz.f56 h56 56 F_wf_Name S_wf_Name T_wf_Name
theorem k_wf_Name : KM d_wf_Name := fun x => by kernel_rfl
theorem k_wf_Name_0 : KL d_wf_Name 0 L_wf_Name_0 := fun p => by kernel_rfl
theorem c_wf_Name : Cert E bodies sites wf_Name d_wf_Name := by refine ⟨?_,?_,?_,?_,?_,?_,sites_loops,?_,k_wf_Name,look_cons' k_wf_Name_0 (look_nil)⟩ <;> kernel_rfl
def d_wf_Ends : FD := mkD Go.Proofs.Tryz.f57 h57 57 F_wf_Ends S_wf_Ends T_wf_Ends
theorem k_wf_Ends : KM d_wf_Ends := fun x => by kernel_rfl
theorem c_wf_Ends : Cert E bodies sites wf_Ends d_wf_Ends := by refine ⟨?_,?_,?_,?_,?_,?_,sites_loops,?_,k_wf_Ends,look_nil⟩ <;> kernel_rfl
def d_flow_Reach : FD := mkD Go.Proofs.Tryz.f59 h59 59 F_flow_Reach S_flow_Reach T_flow_Reach
theorem k_flow_Reach : KM d_flow_Reach := fun x => by kernel_rfl
theorem k_flow_Reach_0 : KL d_flow_Reach 0 L_flow_Reach_0 := fun p => by kernel_rfl
theorem c_flow_Reach : Cert E bodies sites flow_Reach d_flow_Reach := by refine ⟨?_,?_,?_,?_,?_,?_,sites_loops,?_,k_flow_Reach,look_cons' k_flow_Reach_0 (look_nil)⟩ <;> kernel_rfl
def d_facts_Facts_effect : FD := mkD Go.Proofs.Tryz.f71 h71 71 F_facts_Facts_effect S_facts_Facts_effect T_facts_Facts_effect
theorem k_facts_Facts_effect : KM d_facts_Facts_effect := fun x => by kernel_rfl
theorem k_facts_Facts_effect_13000 : KL d_facts_Facts_effect 13000 L_facts_Facts_effect_13000 := fun p => by kernel_rfl
theorem k_facts_Facts_effect_13002 : KL d_facts_Facts_effect 13002 L_facts_Facts_effect_13002 := fun p => by kernel_rfl
theorem k_facts_Facts_effect_14001 : KL d_facts_Facts_effect 14001 L_facts_Facts_effect_14001 := fun p => by kernel_rfl
theorem k_facts_Facts_effect_14003 : KL d_facts_Facts_effect 14003 L_facts_Facts_effect_14003 := fun p => by kernel_rfl
theorem k_facts_Facts_effect_17000 : KL d_facts_Facts_effect 17000 L_facts_Facts_effect_17000 := fun p => by kernel_rfl
theorem k_facts_Facts_effect_14005 : KL d_facts_Facts_effect 14005 L_facts_Facts_effect_14005 := fun p => by kernel_rfl
theorem k_facts_Facts_effect_18000 : KL d_facts_Facts_effect 18000 L_facts_Facts_effect_18000 := fun p => by kernel_rfl
theorem k_facts_Facts_effect_15000 : KL d_facts_Facts_effect 15000 L_facts_Facts_effect_15000 := fun p => by kernel_rfl
theorem k_facts_Facts_effect_16000 : KL d_facts_Facts_effect 16000 L_facts_Facts_effect_16000 := fun p => by kernel_rfl
theorem c_facts_Facts_effect : Cert E bodies sites facts_Facts_effect d_facts_Facts_effect := by refine ⟨?_,?_,?_,?_,?_,?_,sites_loops,?_,k_facts_Facts_effect,look_cons' k_facts_Facts_effect_13000 (look_cons' k_facts_Facts_effect_13002 (look_cons' k_facts_Facts_effect_14001 (look_cons' k_facts_Facts_effect_14003 (look_cons' k_facts_Facts_effect_17000 (look_cons' k_facts_Facts_effect_14005 (look_cons' k_facts_Facts_effect_18000 (look_cons' k_facts_Facts_effect_15000 (look_cons' k_facts_Facts_effect_16000 (look_nil)))))))))⟩ <;> kernel_rfl
def d_flow_Loops : FD := mkD Go.Proofs.Tryz.f79 h79 79 F_flow_Loops S_flow_Loops T_flow_Loops
theorem k_flow_Loops : KM d_flow_Loops := fun x => by kernel_rfl
theorem c_flow_Loops : Cert E bodies sites flow_Loops d_flow_Loops := by refine ⟨?_,?_,?_,?_,?_,?_,sites_loops,?_,k_flow_Loops,look_nil⟩ <;> kernel_rfl
def d_r3_from : FD := mkD Go.Proofs.Tryz.f87 h87 87 F_r3_from S_r3_from T_r3_from
theorem k_r3_from : KM d_r3_from := fun x => by kernel_rfl
theorem k_r3_from_0 : KL d_r3_from 0 L_r3_from_0 := fun p => by kernel_rfl
theorem k_r3_from_2 : KL d_r3_from 2 L_r3_from_2 := fun p => by kernel_rfl
theorem k_r3_from_4 : KL d_r3_from 4 L_r3_from_4 := fun p => by kernel_rfl
theorem c_r3_from : Cert E bodies sites r3_from d_r3_from := by refine ⟨?_,?_,?_,?_,?_,?_,sites_loops,?_,k_r3_from,look_cons' k_r3_from_0 (look_cons' k_r3_from_2 (look_cons' k_r3_from_4 (look_nil)))⟩ <;> kernel_rfl
def d_r3_Values : FD := mkD Go.Proofs.Tryz.f89 h89 89 F_r3_Values S_r3_Values T_r3_Values
theorem k_r3_Values : KM d_r3_Values := fun x => by kernel_rfl
theorem c_r3_Values : Cert E bodies sites r3_Values d_r3_Values := by refine ⟨?_,?_,?_,?_,?_,?_,sites_loops,?_,k_r3_Values,look_nil⟩ <;> kernel_rfl
def d_dom_nearest : FD := mkD Go.Proofs.Tryz.f94 h94 94 F_dom_nearest S_dom_nearest T_dom_nearest
theorem k_dom_nearest : KM d_dom_nearest := fun x => by kernel_rfl
theorem k_dom_nearest_0 : KL d_dom_nearest 0 L_dom_nearest_0 := fun p => by kernel_rfl
theorem k_dom_nearest_2 : KL d_dom_nearest 2 L_dom_nearest_2 := fun p => by kernel_rfl
theorem c_dom_nearest : Cert E bodies sites dom_nearest d_dom_nearest := by refine ⟨?_,?_,?_,?_,?_,?_,sites_loops,?_,k_dom_nearest,look_cons' k_dom_nearest_0 (look_cons' k_dom_nearest_2 (look_nil))⟩ <;> kernel_rfl
def d_wf_all : FD := mkD Go.Proofs.Tryz.f96 h96 96 F_wf_all S_wf_all T_wf_all
theorem k_wf_all : KM d_wf_all := fun x => by kernel_rfl
theorem k_wf_all_0 : KL d_wf_all 0 L_wf_all_0 := fun p => by kernel_rfl
theorem c_wf_all : Cert E bodies sites wf_all d_wf_all := by refine ⟨?_,?_,?_,?_,?_,?_,sites_loops,?_,k_wf_all,look_cons' k_wf_all_0 (look_nil)⟩ <;> kernel_rfl
def d_flow_walker_visit : FD := mkD Go.Proofs.Tryz.f112 h112 112 F_flow_walker_visit S_flow_walker_visit T_flow_walker_visit
theorem k_flow_walker_visit : KM d_flow_walker_visit := fun x => by kernel_rfl
theorem k_flow_walker_visit_0 : KL d_flow_walker_visit 0 L_flow_walker_visit_0 := fun p => by kernel_rfl
theorem c_flow_walker_visit : Cert E bodies sites flow_walker_visit d_flow_walker_visit := by refine ⟨?_,?_,?_,?_,?_,?_,sites_loops,?_,k_flow_walker_visit,look_cons' k_flow_walker_visit_0 (look_nil)⟩ <;> kernel_rfl
def d_dom_without : FD := mkD Go.Proofs.Tryz.f114 h114 114 F_dom_without S_dom_without T_dom_without
theorem k_dom_without : KM d_dom_without := fun x => by kernel_rfl
theorem k_dom_without_0 : KL d_dom_without 0 L_dom_without_0 := fun p => by kernel_rfl
theorem k_dom_without_2 : KL d_dom_without 2 L_dom_without_2 := fun p => by kernel_rfl
theorem c_dom_without : Cert E bodies sites dom_without d_dom_without := by refine ⟨?_,?_,?_,?_,?_,?_,sites_loops,?_,k_dom_without,look_cons' k_dom_without_0 (look_cons' k_dom_without_2 (look_nil))⟩ <;> kernel_rfl
def d_scc_tarjan_free : FD := mkD Go.Proofs.Tryz.f128 h128 128 F_scc_tarjan_free S_scc_tarjan_free T_scc_tarjan_free
theorem k_scc_tarjan_free : KM d_scc_tarjan_free := fun x => by kernel_rfl
theorem k_scc_tarjan_free_0 : KL d_scc_tarjan_free 0 L_scc_tarjan_free_0 := fun p => by kernel_rfl
theorem k_scc_tarjan_free_2 : KL d_scc_tarjan_free 2 L_scc_tarjan_free_2 := fun p => by kernel_rfl
theorem c_scc_tarjan_free : Cert E bodies sites scc_tarjan_free d_scc_tarjan_free := by refine ⟨?_,?_,?_,?_,?_,?_,sites_loops,?_,k_scc_tarjan_free,look_cons' k_scc_tarjan_free_0 (look_cons' k_scc_tarjan_free_2 (look_nil))⟩ <;> kernel_rfl
def d_scc_tarjan_open : FD := mkD Go.Proofs.Tryz.f136 h136 136 F_scc_tarjan_open S_scc_tarjan_open T_scc_tarjan_open
theorem k_scc_tarjan_open : KM d_scc_tarjan_open := fun x => by kernel_rfl
theorem c_scc_tarjan_open : Cert E bodies sites scc_tarjan_open d_scc_tarjan_open := by refine ⟨?_,?_,?_,?_,?_,?_,sites_loops,?_,k_scc_tarjan_open,look_nil⟩ <;> kernel_rfl
def d_slices_insertionSortOrdered_int : FD := mkD Go.Proofs.Tryz.f139 h139 139 F_slices_insertionSortOrdered_int S_slices_insertionSortOrdered_int T_slices_insertionSortOrdered_int
theorem k_slices_insertionSortOrdered_int : KM d_slices_insertionSortOrdered_int := fun x => by kernel_rfl
theorem k_slices_insertionSortOrdered_int_0 : KL d_slices_insertionSortOrdered_int 0 L_slices_insertionSortOrdered_int_0 := fun p => by kernel_rfl
theorem k_slices_insertionSortOrdered_int_2 : KL d_slices_insertionSortOrdered_int 2 L_slices_insertionSortOrdered_int_2 := fun p => by kernel_rfl
theorem c_slices_insertionSortOrdered_int : Cert E bodies sites slices_insertionSortOrdered_int d_slices_insertionSortOrdered_int := by refine ⟨?_,?_,?_,?_,?_,?_,sites_loops,?_,k_slices_insertionSortOrdered_int,look_cons' k_slices_insertionSortOrdered_int_0 (look_cons' k_slices_insertionSortOrdered_int_2 (look_nil))⟩ <;> kernel_rfl
def d_r3_Check : FD := mkD Go.Proofs.Tryz.f6 h6 6 F_r3_Check S_r3_Check T_r3_Check
theorem k_r3_Check : KM d_r3_Check := fun x => by kernel_rfl
theorem k_r3_Check_0 : KL d_r3_Check 0 L_r3_Check_0 := fun p => by kernel_rfl
theorem k_r3_Check_2 : KL d_r3_Check 2 L_r3_Check_2 := fun p => by kernel_rfl
theorem k_r3_Check_4 : KL d_r3_Check 4 L_r3_Check_4 := fun p => by kernel_rfl
theorem c_r3_Check : Cert E bodies sites r3_Check d_r3_Check := by refine ⟨?_,?_,?_,?_,?_,?_,sites_loops,?_,k_r3_Check,look_cons' k_r3_Check_0 (look_cons' k_r3_Check_2 (look_cons' k_r3_Check_4 (look_nil)))⟩ <;> kernel_rfl
def d_r3_Whole : FD := mkD Go.Proofs.Tryz.f9 h9 9 F_r3_Whole S_r3_Whole T_r3_Whole
theorem k_r3_Whole : KM d_r3_Whole := fun x => by kernel_rfl
theorem k_r3_Whole_0 : KL d_r3_Whole 0 L_r3_Whole_0 := fun p => by kernel_rfl
theorem c_r3_Whole : Cert E bodies sites r3_Whole d_r3_Whole := by refine ⟨?_,?_,?_,?_,?_,?_,sites_loops,?_,k_r3_Whole,look_cons' k_r3_Whole_0 (look_nil)⟩ <;> kernel_rfl
def d_ir_Copy : FD := mkD Go.Proofs.Tryz.f13 h13 13 F_ir_Copy S_ir_Copy T_ir_Copy
theorem k_ir_Copy : KM d_ir_Copy := fun x => by kernel_rfl
theorem k_ir_Copy_0 : KL d_ir_Copy 0 L_ir_Copy_0 := fun p => by kernel_rfl
theorem k_ir_Copy_2 : KL d_ir_Copy 2 L_ir_Copy_2 := fun p => by kernel_rfl
theorem k_ir_Copy_4 : KL d_ir_Copy 4 L_ir_Copy_4 := fun p => by kernel_rfl
theorem k_ir_Copy_6 : KL d_ir_Copy 6 L_ir_Copy_6 := fun p => by kernel_rfl
theorem c_ir_Copy : Cert E bodies sites ir_Copy d_ir_Copy := by refine ⟨?_,?_,?_,?_,?_,?_,sites_loops,?_,k_ir_Copy,look_cons' k_ir_Copy_0 (look_cons' k_ir_Copy_2 (look_cons' k_ir_Copy_4 (look_cons' k_ir_Copy_6 (look_nil))))⟩ <;> kernel_rfl
def d_wf_flows : FD := mkD Go.Proofs.Tryz.f28 h28 28 F_wf_flows S_wf_flows T_wf_flows
theorem k_wf_flows : KM d_wf_flows := fun x => by kernel_rfl
theorem k_wf_flows_0 : KL d_wf_flows 0 L_wf_flows_0 := fun p => by kernel_rfl
theorem k_wf_flows_2 : KL d_wf_flows 2 L_wf_flows_2 := fun p => by kernel_rfl
theorem k_wf_flows_4 : KL d_wf_flows 4 L_wf_flows_4 := fun p => by kernel_rfl
theorem k_wf_flows_6 : KL d_wf_flows 6 L_wf_flows_6 := fun p => by kernel_rfl
theorem k_wf_flows_8 : KL d_wf_flows 8 L_wf_flows_8 := fun p => by kernel_rfl
theorem c_wf_flows : Cert E bodies sites wf_flows d_wf_flows := by refine ⟨?_,?_,?_,?_,?_,?_,sites_loops,?_,k_wf_flows,look_cons' k_wf_flows_0 (look_cons' k_wf_flows_2 (look_cons' k_wf_flows_4 (look_cons' k_wf_flows_6 (look_cons' k_wf_flows_8 (look_nil)))))⟩ <;> kernel_rfl
def d_wf_typed : FD := mkD Go.Proofs.Tryz.f30 h30 30 F_wf_typed S_wf_typed T_wf_typed
theorem k_wf_typed : KM d_wf_typed := fun x => by kernel_rfl
theorem k_wf_typed_0 : KL d_wf_typed 0 L_wf_typed_0 := fun p => by kernel_rfl
theorem k_wf_typed_2 : KL d_wf_typed 2 L_wf_typed_2 := fun p => by kernel_rfl
theorem c_wf_typed : Cert E bodies sites wf_typed d_wf_typed := by refine ⟨?_,?_,?_,?_,?_,?_,sites_loops,?_,k_wf_typed,look_cons' k_wf_typed_0 (look_cons' k_wf_typed_2 (look_nil))⟩ <;> kernel_rfl
def d_r3_form : FD := mkD Go.Proofs.Tryz.f43 h43 43 F_r3_form S_r3_form T_r3_form
theorem k_r3_form : KM d_r3_form := fun x => by kernel_rfl
theorem c_r3_form : Cert E bodies sites r3_form d_r3_form := by refine ⟨?_,?_,?_,?_,?_,?_,sites_loops,?_,k_r3_form,look_nil⟩ <;> kernel_rfl
def d_r3_Types : FD := mkD Go.Proofs.Tryz.f51 h51 51 F_r3_Types S_r3_Types T_r3_Types
theorem k_r3_Types : KM d_r3_Types := fun x => by kernel_rfl
theorem k_r3_Types_0 : KL d_r3_Types 0 L_r3_Types_0 := fun p => by kernel_rfl
theorem k_r3_Types_2 : KL d_r3_Types 2 L_r3_Types_2 := fun p => by kernel_rfl
theorem c_r3_Types : Cert E bodies sites r3_Types d_r3_Types := by refine ⟨?_,?_,?_,?_,?_,?_,sites_loops,?_,k_r3_Types,look_cons' k_r3_Types_0 (look_cons' k_r3_Types_2 (look_nil))⟩ <;> kernel_rfl
def d_r3_fits : FD := mkD Go.Proofs.Tryz.f52 h52 52 F_r3_fits S_r3_fits T_r3_fits
theorem k_r3_fits : KM d_r3_fits := fun x => by kernel_rfl
theorem k_r3_fits_1 : KL d_r3_fits 1 L_r3_fits_1 := fun p => by kernel_rfl
theorem c_r3_fits : Cert E bodies sites r3_fits d_r3_fits := by refine ⟨?_,?_,?_,?_,?_,?_,sites_loops,?_,k_r3_fits,look_cons' k_r3_fits_1 (look_nil)⟩ <;> kernel_rfl
def d_wf_shaped : FD := mkD Go.Proofs.Tryz.f55 h55 55 F_wf_shaped S_wf_shaped T_wf_shaped
theorem k_wf_shaped : KM d_wf_shaped := fun x => by kernel_rfl
theorem c_wf_shaped : Cert E bodies sites wf_shaped d_wf_shaped := by refine ⟨?_,?_,?_,?_,?_,?_,sites_loops,?_,k_wf_shaped,look_nil⟩ <;> kernel_rfl
def d_wf_ahead : FD := mkD Go.Proofs.Tryz.f63 h63 63 F_wf_ahead S_wf_ahead T_wf_ahead
theorem k_wf_ahead : KM d_wf_ahead := fun x => by kernel_rfl
theorem k_wf_ahead_0 : KL d_wf_ahead 0 L_wf_ahead_0 := fun p => by kernel_rfl
theorem k_wf_ahead_2 : KL d_wf_ahead 2 L_wf_ahead_2 := fun p => by kernel_rfl
theorem c_wf_ahead : Cert E bodies sites wf_ahead d_wf_ahead := by refine ⟨?_,?_,?_,?_,?_,?_,sites_loops,?_,k_wf_ahead,look_cons' k_wf_ahead_0 (look_cons' k_wf_ahead_2 (look_nil))⟩ <;> kernel_rfl
def d_wf_fitting : FD := mkD Go.Proofs.Tryz.f64 h64 64 F_wf_fitting S_wf_fitting T_wf_fitting
theorem k_wf_fitting : KM d_wf_fitting := fun x => by kernel_rfl
theorem c_wf_fitting : Cert E bodies sites wf_fitting d_wf_fitting := by refine ⟨?_,?_,?_,?_,?_,?_,sites_loops,?_,k_wf_fitting,look_nil⟩ <;> kernel_rfl
def d_slices_SortFunc_Sapi_Base_api_Base : FD := mkD Go.Proofs.Tryz.f67 h67 67 F_slices_SortFunc_Sapi_Base_api_Base S_slices_SortFunc_Sapi_Base_api_Base T_slices_SortFunc_Sapi_Base_api_Base
theorem k_slices_SortFunc_Sapi_Base_api_Base : KM d_slices_SortFunc_Sapi_Base_api_Base := fun x => by kernel_rfl
theorem c_slices_SortFunc_Sapi_Base_api_Base : Cert E bodies sites slices_SortFunc_Sapi_Base_api_Base d_slices_SortFunc_Sapi_Base_api_Base := by refine ⟨?_,?_,?_,?_,?_,?_,sites_loops,?_,k_slices_SortFunc_Sapi_Base_api_Base,look_nil⟩ <;> kernel_rfl
def d_facts_Facts_Sure : FD := mkD Go.Proofs.Tryz.f75 h75 75 F_facts_Facts_Sure S_facts_Facts_Sure T_facts_Facts_Sure
theorem k_facts_Facts_Sure : KM d_facts_Facts_Sure := fun x => by kernel_rfl
theorem c_facts_Facts_Sure : Cert E bodies sites facts_Facts_Sure d_facts_Facts_Sure := by refine ⟨?_,?_,?_,?_,?_,?_,sites_loops,?_,k_facts_Facts_Sure,look_nil⟩ <;> kernel_rfl
def d_facts_Facts_At : FD := mkD Go.Proofs.Tryz.f76 h76 76 F_facts_Facts_At S_facts_Facts_At T_facts_Facts_At
theorem k_facts_Facts_At : KM d_facts_Facts_At := fun x => by kernel_rfl
theorem k_facts_Facts_At_1 : KL d_facts_Facts_At 1 L_facts_Facts_At_1 := fun p => by kernel_rfl
theorem c_facts_Facts_At : Cert E bodies sites facts_Facts_At d_facts_Facts_At := by refine ⟨?_,?_,?_,?_,?_,?_,sites_loops,?_,k_facts_Facts_At,look_cons' k_facts_Facts_At_1 (look_nil)⟩ <;> kernel_rfl
def d_r3_Mark : FD := mkD Go.Proofs.Tryz.f85 h85 85 F_r3_Mark S_r3_Mark T_r3_Mark
theorem k_r3_Mark : KM d_r3_Mark := fun x => by kernel_rfl
theorem c_r3_Mark : Cert E bodies sites r3_Mark d_r3_Mark := by refine ⟨?_,?_,?_,?_,?_,?_,sites_loops,?_,k_r3_Mark,look_nil⟩ <;> kernel_rfl
def d_dom_over : FD := mkD Go.Proofs.Tryz.f95 h95 95 F_dom_over S_dom_over T_dom_over
theorem k_dom_over : KM d_dom_over := fun x => by kernel_rfl
theorem k_dom_over_0 : KL d_dom_over 0 L_dom_over_0 := fun p => by kernel_rfl
theorem k_dom_over_2 : KL d_dom_over 2 L_dom_over_2 := fun p => by kernel_rfl
theorem k_dom_over_4 : KL d_dom_over 4 L_dom_over_4 := fun p => by kernel_rfl
theorem c_dom_over : Cert E bodies sites dom_over d_dom_over := by refine ⟨?_,?_,?_,?_,?_,?_,sites_loops,?_,k_dom_over,look_cons' k_dom_over_0 (look_cons' k_dom_over_2 (look_cons' k_dom_over_4 (look_nil)))⟩ <;> kernel_rfl
def d_math_bits_Len : FD := mkD Go.Proofs.Tryz.f100 h100 100 F_math_bits_Len S_math_bits_Len T_math_bits_Len
theorem k_math_bits_Len : KM d_math_bits_Len := fun x => by kernel_rfl
theorem c_math_bits_Len : Cert E bodies sites math_bits_Len d_math_bits_Len := by refine ⟨?_,?_,?_,?_,?_,?_,sites_loops,?_,k_math_bits_Len,look_nil⟩ <;> kernel_rfl
def d_facts_risen : FD := mkD Go.Proofs.Tryz.f104 h104 104 F_facts_risen S_facts_risen T_facts_risen
theorem k_facts_risen : KM d_facts_risen := fun x => by kernel_rfl
theorem c_facts_risen : Cert E bodies sites facts_risen d_facts_risen := by refine ⟨?_,?_,?_,?_,?_,?_,sites_loops,?_,k_facts_risen,look_nil⟩ <;> kernel_rfl
def d_slices_Index_Sint_int : FD := mkD Go.Proofs.Tryz.f129 h129 129 F_slices_Index_Sint_int S_slices_Index_Sint_int T_slices_Index_Sint_int
theorem k_slices_Index_Sint_int : KM d_slices_Index_Sint_int := fun x => by kernel_rfl
theorem k_slices_Index_Sint_int_0 : KL d_slices_Index_Sint_int 0 L_slices_Index_Sint_int_0 := fun p => by kernel_rfl
theorem c_slices_Index_Sint_int : Cert E bodies sites slices_Index_Sint_int d_slices_Index_Sint_int := by refine ⟨?_,?_,?_,?_,?_,?_,sites_loops,?_,k_slices_Index_Sint_int,look_cons' k_slices_Index_Sint_int_0 (look_nil)⟩ <;> kernel_rfl
def d_scc_tarjan_shut : FD := mkD Go.Proofs.Tryz.f137 h137 137 F_scc_tarjan_shut S_scc_tarjan_shut T_scc_tarjan_shut
theorem k_scc_tarjan_shut : KM d_scc_tarjan_shut := fun x => by kernel_rfl
theorem k_scc_tarjan_shut_0 : KL d_scc_tarjan_shut 0 L_scc_tarjan_shut_0 := fun p => by kernel_rfl
theorem c_scc_tarjan_shut : Cert E bodies sites scc_tarjan_shut d_scc_tarjan_shut := by refine ⟨?_,?_,?_,?_,?_,?_,sites_loops,?_,k_scc_tarjan_shut,look_cons' k_scc_tarjan_shut_0 (look_nil)⟩ <;> kernel_rfl
def d_law21_DceIdle : FD := mkD Go.Proofs.Tryz.f3 h3 3 F_law21_DceIdle S_law21_DceIdle T_law21_DceIdle
theorem k_law21_DceIdle : KM d_law21_DceIdle := fun x => by kernel_rfl
theorem k_law21_DceIdle_1 : KL d_law21_DceIdle 1 L_law21_DceIdle_1 := fun p => by kernel_rfl
theorem c_law21_DceIdle : Cert E bodies sites law21_DceIdle d_law21_DceIdle := by refine ⟨?_,?_,?_,?_,?_,?_,sites_loops,?_,k_law21_DceIdle,look_cons' k_law21_DceIdle_1 (look_nil)⟩ <;> kernel_rfl
def progI : BT Fn := (.node 63 F_wf_ahead (.node 34 F_facts_Facts_Effects (.node 21 F_r3_uses (.node 10 F_wf_Check (.node 7 F_keep_Ops (.node 6 F_r3_Check (.node 3 F_law21_DceIdle .nil .nil) .nil) (.node 9 F_r3_Whole (.node 8 F_law21_waste .nil .nil) .nil)) (.node 18 F_r3_names (.node 13 F_ir_Copy (.node 12 F_facts_Facts_Idle .nil .nil) .nil) (.node 20 F_r3_flows (.node 19 F_r3_syms .nil .nil) .nil))) (.node 29 F_wf_used (.node 26 F_wf_named (.node 23 F_r3_Size (.node 22 F_r3_types .nil .nil) .nil) (.node 28 F_wf_flows (.node 27 F_wf_known .nil .nil) .nil)) (.node 32 F_facts_Func_bases (.node 31 F_ir_Types (.node 30 F_wf_typed .nil .nil) .nil) (.node 33 F_facts_Func_offs .nil .nil)))) (.node 51 F_r3_Types (.node 46 F_r3_Reach (.node 41 F_dce_does (.node 39 F_ir_copyFunc (.node 36 F_facts_Facts_Ends .nil .nil) .nil) (.node 45 F_r3_Ends (.node 43 F_r3_form .nil .nil) .nil)) (.node 49 F_r3_Where (.node 48 F_r3_Ints (.node 47 F_r3_Prev .nil .nil) .nil) (.node 50 F_r3_Doms .nil .nil))) (.node 57 F_wf_Ends (.node 54 F_wf_scalar (.node 53 F_ir_Size (.node 52 F_r3_fits .nil .nil) .nil) (.node 56 F_wf_Name (.node 55 F_wf_shaped .nil .nil) .nil)) (.node 60 F_flow_Prev (.node 59 F_flow_Reach (.node 58 F_slices_Contains_Sbool_bool .nil .nil) .nil) (.node 62 F_dom_Over .nil .nil))))) (.node 94 F_dom_nearest (.node 81 F_ir_copyIns (.node 75 F_facts_Facts_Sure (.node 70 F_facts_Func_off (.node 67 F_slices_SortFunc_Sapi_Base_api_Base (.node 64 F_wf_fitting .nil .nil) .nil) (.node 72 F_facts_weight (.node 71 F_facts_Facts_effect .nil .nil) .nil)) (.node 79 F_flow_Loops (.node 78 F_scc_Order (.node 76 F_facts_Facts_At .nil .nil) .nil) (.node 80 F_scc_Rec .nil .nil))) (.node 89 F_r3_Values (.node 86 F_r3_Name (.node 85 F_r3_Mark (.node 84 F_facts_Facts_Safe .nil .nil) .nil) (.node 88 F_r3_Next (.node 87 F_r3_from .nil .nil) .nil)) (.node 92 F_flow_walked (.node 91 F_slices_Index_Sbool_bool (.node 90 F_wf_Mark .nil .nil) .nil) (.node 93 F_flow_Next .nil .nil)))) (.node 113 F_slices_Contains_Sint_int (.node 101 F_facts_Func_Num (.node 97 F_wf_rows (.node 96 F_wf_all (.node 95 F_dom_over .nil .nil) .nil) (.node 100 F_math_bits_Len (.node 99 F_slices_pdqsortCmpFunc_api_Base .nil .nil) .nil)) (.node 111 F_r3_In (.node 110 F_r3_Last (.node 104 F_facts_risen .nil .nil) .nil) (.node 112 F_flow_walker_visit .nil .nil))) (.node 136 F_scc_tarjan_open (.node 125 F_slices_Sort_Sint_int (.node 115 F_slices_insertionSortCmpFunc_api_Base (.node 114 F_dom_without .nil .nil) .nil) (.node 129 F_slices_Index_Sint_int (.node 128 F_scc_tarjan_free .nil .nil) .nil)) (.node 145 F_cmp_Less_int (.node 139 F_slices_insertionSortOrdered_int (.node 137 F_scc_tarjan_shut .nil .nil) .nil) (.node 151 F_cmp_isNaN_int .nil .nil))))))
theorem progI_all : AllC E bodies sites progI := ⟨⟨d_wf_ahead, by kernel_rfl, c_wf_ahead, by kernel_rfl⟩, ⟨⟨d_facts_Facts_Effects, by kernel_rfl, c_facts_Facts_Effects, by kernel_rfl⟩, ⟨⟨d_r3_uses, by kernel_rfl, c_r3_uses, by kernel_rfl⟩, ⟨⟨d_wf_Check, by kernel_rfl, c_wf_Check, by kernel_rfl⟩, ⟨⟨d_keep_Ops, by kernel_rfl, c_keep_Ops, by kernel_rfl⟩, ⟨⟨d_r3_Check, by kernel_rfl, c_r3_Check, by kernel_rfl⟩, ⟨⟨d_law21_DceIdle, by kernel_rfl, c_law21_DceIdle, by kernel_rfl⟩, trivial, trivial⟩, trivial⟩, ⟨⟨d_r3_Whole, by kernel_rfl, c_r3_Whole, by kernel_rfl⟩, ⟨⟨d_law21_waste, by kernel_rfl, c_law21_waste, by kernel_rfl⟩, trivial, trivial⟩, trivial⟩⟩, ⟨⟨d_r3_names, by kernel_rfl, c_r3_names, by kernel_rfl⟩, ⟨⟨d_ir_Copy, by kernel_rfl, c_ir_Copy, by kernel_rfl⟩, ⟨⟨d_facts_Facts_Idle, by kernel_rfl, c_facts_Facts_Idle, by kernel_rfl⟩, trivial, trivial⟩, trivial⟩, ⟨⟨d_r3_flows, by kernel_rfl, c_r3_flows, by kernel_rfl⟩, ⟨⟨d_r3_syms, by kernel_rfl, c_r3_syms, by kernel_rfl⟩, trivial, trivial⟩, trivial⟩⟩⟩, ⟨⟨d_wf_used, by kernel_rfl, c_wf_used, by kernel_rfl⟩, ⟨⟨d_wf_named, by kernel_rfl, c_wf_named, by kernel_rfl⟩, ⟨⟨d_r3_Size, by kernel_rfl, c_r3_Size, by kernel_rfl⟩, ⟨⟨d_r3_types, by kernel_rfl, c_r3_types, by kernel_rfl⟩, trivial, trivial⟩, trivial⟩, ⟨⟨d_wf_flows, by kernel_rfl, c_wf_flows, by kernel_rfl⟩, ⟨⟨d_wf_known, by kernel_rfl, c_wf_known, by kernel_rfl⟩, trivial, trivial⟩, trivial⟩⟩, ⟨⟨d_facts_Func_bases, by kernel_rfl, c_facts_Func_bases, by kernel_rfl⟩, ⟨⟨d_ir_Types, by kernel_rfl, c_ir_Types, by kernel_rfl⟩, ⟨⟨d_wf_typed, by kernel_rfl, c_wf_typed, by kernel_rfl⟩, trivial, trivial⟩, trivial⟩, ⟨⟨d_facts_Func_offs, by kernel_rfl, c_facts_Func_offs, by kernel_rfl⟩, trivial, trivial⟩⟩⟩⟩, ⟨⟨d_r3_Types, by kernel_rfl, c_r3_Types, by kernel_rfl⟩, ⟨⟨d_r3_Reach, by kernel_rfl, c_r3_Reach, by kernel_rfl⟩, ⟨⟨d_dce_does, by kernel_rfl, c_dce_does, by kernel_rfl⟩, ⟨⟨d_ir_copyFunc, by kernel_rfl, c_ir_copyFunc, by kernel_rfl⟩, ⟨⟨d_facts_Facts_Ends, by kernel_rfl, c_facts_Facts_Ends, by kernel_rfl⟩, trivial, trivial⟩, trivial⟩, ⟨⟨d_r3_Ends, by kernel_rfl, c_r3_Ends, by kernel_rfl⟩, ⟨⟨d_r3_form, by kernel_rfl, c_r3_form, by kernel_rfl⟩, trivial, trivial⟩, trivial⟩⟩, ⟨⟨d_r3_Where, by kernel_rfl, c_r3_Where, by kernel_rfl⟩, ⟨⟨d_r3_Ints, by kernel_rfl, c_r3_Ints, by kernel_rfl⟩, ⟨⟨d_r3_Prev, by kernel_rfl, c_r3_Prev, by kernel_rfl⟩, trivial, trivial⟩, trivial⟩, ⟨⟨d_r3_Doms, by kernel_rfl, c_r3_Doms, by kernel_rfl⟩, trivial, trivial⟩⟩⟩, ⟨⟨d_wf_Ends, by kernel_rfl, c_wf_Ends, by kernel_rfl⟩, ⟨⟨d_wf_scalar, by kernel_rfl, c_wf_scalar, by kernel_rfl⟩, ⟨⟨d_ir_Size, by kernel_rfl, c_ir_Size, by kernel_rfl⟩, ⟨⟨d_r3_fits, by kernel_rfl, c_r3_fits, by kernel_rfl⟩, trivial, trivial⟩, trivial⟩, ⟨⟨d_wf_Name, by kernel_rfl, c_wf_Name, by kernel_rfl⟩, ⟨⟨d_wf_shaped, by kernel_rfl, c_wf_shaped, by kernel_rfl⟩, trivial, trivial⟩, trivial⟩⟩, ⟨⟨d_flow_Prev, by kernel_rfl, c_flow_Prev, by kernel_rfl⟩, ⟨⟨d_flow_Reach, by kernel_rfl, c_flow_Reach, by kernel_rfl⟩, ⟨⟨d_slices_Contains_Sbool_bool, by kernel_rfl, c_slices_Contains_Sbool_bool, by kernel_rfl⟩, trivial, trivial⟩, trivial⟩, ⟨⟨d_dom_Over, by kernel_rfl, c_dom_Over, by kernel_rfl⟩, trivial, trivial⟩⟩⟩⟩⟩, ⟨⟨d_dom_nearest, by kernel_rfl, c_dom_nearest, by kernel_rfl⟩, ⟨⟨d_ir_copyIns, by kernel_rfl, c_ir_copyIns, by kernel_rfl⟩, ⟨⟨d_facts_Facts_Sure, by kernel_rfl, c_facts_Facts_Sure, by kernel_rfl⟩, ⟨⟨d_facts_Func_off, by kernel_rfl, c_facts_Func_off, by kernel_rfl⟩, ⟨⟨d_slices_SortFunc_Sapi_Base_api_Base, by kernel_rfl, c_slices_SortFunc_Sapi_Base_api_Base, by kernel_rfl⟩, ⟨⟨d_wf_fitting, by kernel_rfl, c_wf_fitting, by kernel_rfl⟩, trivial, trivial⟩, trivial⟩, ⟨⟨d_facts_weight, by kernel_rfl, c_facts_weight, by kernel_rfl⟩, ⟨⟨d_facts_Facts_effect, by kernel_rfl, c_facts_Facts_effect, by kernel_rfl⟩, trivial, trivial⟩, trivial⟩⟩, ⟨⟨d_flow_Loops, by kernel_rfl, c_flow_Loops, by kernel_rfl⟩, ⟨⟨d_scc_Order, by kernel_rfl, c_scc_Order, by kernel_rfl⟩, ⟨⟨d_facts_Facts_At, by kernel_rfl, c_facts_Facts_At, by kernel_rfl⟩, trivial, trivial⟩, trivial⟩, ⟨⟨d_scc_Rec, by kernel_rfl, c_scc_Rec, by kernel_rfl⟩, trivial, trivial⟩⟩⟩, ⟨⟨d_r3_Values, by kernel_rfl, c_r3_Values, by kernel_rfl⟩, ⟨⟨d_r3_Name, by kernel_rfl, c_r3_Name, by kernel_rfl⟩, ⟨⟨d_r3_Mark, by kernel_rfl, c_r3_Mark, by kernel_rfl⟩, ⟨⟨d_facts_Facts_Safe, by kernel_rfl, c_facts_Facts_Safe, by kernel_rfl⟩, trivial, trivial⟩, trivial⟩, ⟨⟨d_r3_Next, by kernel_rfl, c_r3_Next, by kernel_rfl⟩, ⟨⟨d_r3_from, by kernel_rfl, c_r3_from, by kernel_rfl⟩, trivial, trivial⟩, trivial⟩⟩, ⟨⟨d_flow_walked, by kernel_rfl, c_flow_walked, by kernel_rfl⟩, ⟨⟨d_slices_Index_Sbool_bool, by kernel_rfl, c_slices_Index_Sbool_bool, by kernel_rfl⟩, ⟨⟨d_wf_Mark, by kernel_rfl, c_wf_Mark, by kernel_rfl⟩, trivial, trivial⟩, trivial⟩, ⟨⟨d_flow_Next, by kernel_rfl, c_flow_Next, by kernel_rfl⟩, trivial, trivial⟩⟩⟩⟩, ⟨⟨d_slices_Contains_Sint_int, by kernel_rfl, c_slices_Contains_Sint_int, by kernel_rfl⟩, ⟨⟨d_facts_Func_Num, by kernel_rfl, c_facts_Func_Num, by kernel_rfl⟩, ⟨⟨d_wf_rows, by kernel_rfl, c_wf_rows, by kernel_rfl⟩, ⟨⟨d_wf_all, by kernel_rfl, c_wf_all, by kernel_rfl⟩, ⟨⟨d_dom_over, by kernel_rfl, c_dom_over, by kernel_rfl⟩, trivial, trivial⟩, trivial⟩, ⟨⟨d_math_bits_Len, by kernel_rfl, c_math_bits_Len, by kernel_rfl⟩, ⟨⟨d_slices_pdqsortCmpFunc_api_Base, by kernel_rfl, c_slices_pdqsortCmpFunc_api_Base, by kernel_rfl⟩, trivial, trivial⟩, trivial⟩⟩, ⟨⟨d_r3_In, by kernel_rfl, c_r3_In, by kernel_rfl⟩, ⟨⟨d_r3_Last, by kernel_rfl, c_r3_Last, by kernel_rfl⟩, ⟨⟨d_facts_risen, by kernel_rfl, c_facts_risen, by kernel_rfl⟩, trivial, trivial⟩, trivial⟩, ⟨⟨d_flow_walker_visit, by kernel_rfl, c_flow_walker_visit, by kernel_rfl⟩, trivial, trivial⟩⟩⟩, ⟨⟨d_scc_tarjan_open, by kernel_rfl, c_scc_tarjan_open, by kernel_rfl⟩, ⟨⟨d_slices_Sort_Sint_int, by kernel_rfl, c_slices_Sort_Sint_int, by kernel_rfl⟩, ⟨⟨d_slices_insertionSortCmpFunc_api_Base, by kernel_rfl, c_slices_insertionSortCmpFunc_api_Base, by kernel_rfl⟩, ⟨⟨d_dom_without, by kernel_rfl, c_dom_without, by kernel_rfl⟩, trivial, trivial⟩, trivial⟩, ⟨⟨d_slices_Index_Sint_int, by kernel_rfl, c_slices_Index_Sint_int, by kernel_rfl⟩, ⟨⟨d_scc_tarjan_free, by kernel_rfl, c_scc_tarjan_free, by kernel_rfl⟩, trivial, trivial⟩, trivial⟩⟩, ⟨⟨d_cmp_Less_int, by kernel_rfl, c_cmp_Less_int, by kernel_rfl⟩, ⟨⟨d_slices_insertionSortOrdered_int, by kernel_rfl, c_slices_insertionSortOrdered_int, by kernel_rfl⟩, ⟨⟨d_scc_tarjan_shut, by kernel_rfl, c_scc_tarjan_shut, by kernel_rfl⟩, trivial, trivial⟩, trivial⟩, ⟨⟨d_cmp_isNaN_int, by kernel_rfl, c_cmp_isNaN_int, by kernel_rfl⟩, trivial, trivial⟩⟩⟩⟩⟩⟩
end
end Go.Eng.I
