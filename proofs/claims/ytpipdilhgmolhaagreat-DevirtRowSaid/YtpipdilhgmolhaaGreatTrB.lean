/- Part of the proof. -/
import Derived.Test.YtpipdilhgmolhaaGreatTrA
set_option linter.unusedVariables false
namespace Go.Eng.V
open Go.Eng
noncomputable section
def L_facts_Func_bases_2 (p : List D) : Sh :=
 .ask (gB p 0)
 (.loop 4 [.i 0, .i (iL (gL p 4)), .b false, aL p 1, aL p 2, aL p 3, aL p 4] (.cons (fun p0 =>
 .again [aB p0 0, aL p0 1, aL p0 2, aL p0 3, aL p0 4])
 .nil))
 (.out (0, [aL p 1, aL p 2, aL p 3, aL p 4]))
def J_facts_Func_bases_0 (p : List D) (r2 : D) : Sh :=
 .ask (!(eqI (iE r2) (iE (gD (gL p 3) (tI p 0)))))
 (.ask (within (gI p 0) (List.length (gL p 3)))
 (.again [.i (addA .i64 (gI p 0) 1), aI p 1, .b true, .l (List.set (gL p 3) (tI p 0) (D.l (D.els r2))), aL p 4, aL p 5, aL p 6])
 (.bad))
 (.again [.i (addA .i64 (gI p 0) 1), aI p 1, aB p 2, aL p 3, aL p 4, aL p 5, aL p 6])
def L_facts_Func_bases_4 (p : List D) : Sh :=
 .ask (ltI (gI p 0) (gI p 1))
 (.ask (within (gI p 0) (List.length (gL p 6)))
 (.ask (!(eqI (vI (gD (gL p 6) (tI p 0)) 1) 3))
 (.again [.i (addA .i64 (gI p 0) 1), aI p 1, aB p 2, aL p 3, aL p 4, aL p 5, aL p 6])
 (.ask (eqI (vI (gD (gL p 6) (tI p 0)) 0) 18)
 (.call slices_Clone_Sapi_Base_api_Base [.l [.l [.i 2, aI p 0]]] 0 fun r0 _ =>
 .call slices_SortFunc_Sapi_Base_api_Base [.l (D.els r0), .l []] 0 fun r1 _ =>
 .call slices_Compact_Sapi_Base_api_Base [.l (D.els r0)] 0 fun r2 _ =>
 .ask (within (gI p 0) (List.length (gL p 3)))
 (J_facts_Func_bases_0 p r2)
 (.bad))
 (.ask (eqI (vI (gD (gL p 6) (tI p 0)) 0) 3)
 (.call slices_Clone_Sapi_Base_api_Base [.l [.l [.i 3, .i (vI (gD (gL p 6) (tI p 0)) 3)]]] 0 fun r0 _ =>
 .call slices_SortFunc_Sapi_Base_api_Base [.l (D.els r0), .l []] 0 fun r1 _ =>
 .call slices_Compact_Sapi_Base_api_Base [.l (D.els r0)] 0 fun r2 _ =>
 .ask (within (gI p 0) (List.length (gL p 3)))
 (J_facts_Func_bases_0 p r2)
 (.bad))
 (.ask (eqI (vI (gD (gL p 6) (tI p 0)) 0) 19)
 (.ask (within 0 (nX (gD (gL p 6) (tI p 0)) 5))
 (.ask (within (D.toI (gD (eX (gD (gL p 6) (tI p 0)) 5) 0)) (List.length (gL p 3)))
 (.call slices_Clone_Sapi_Base_api_Base [.l (D.els (gD (gL p 3) (Int.toNat (D.toI (gD (eX (gD (gL p 6) (tI p 0)) 5) 0)))))] 0 fun r0 _ =>
 .call slices_SortFunc_Sapi_Base_api_Base [.l (D.els r0), .l []] 0 fun r1 _ =>
 .call slices_Compact_Sapi_Base_api_Base [.l (D.els r0)] 0 fun r2 _ =>
 .ask (within (gI p 0) (List.length (gL p 3)))
 (J_facts_Func_bases_0 p r2)
 (.bad))
 (.bad))
 (.bad))
 (.ask (eqI (vI (gD (gL p 6) (tI p 0)) 0) 17)
 (.ask (within 1 (nX (gD (gL p 6) (tI p 0)) 5))
 (.ask (within (D.toI (gD (eX (gD (gL p 6) (tI p 0)) 5) 1)) (List.length (gL p 3)))
 (.ask (within 2 (nX (gD (gL p 6) (tI p 0)) 5))
 (.ask (within (D.toI (gD (eX (gD (gL p 6) (tI p 0)) 5) 2)) (List.length (gL p 3)))
 (.call slices_Concat_Sapi_Base_api_Base [.l [.l (D.els (gD (gL p 3) (Int.toNat (D.toI (gD (eX (gD (gL p 6) (tI p 0)) 5) 1))))), .l (D.els (gD (gL p 3) (Int.toNat (D.toI (gD (eX (gD (gL p 6) (tI p 0)) 5) 2)))))]] 0 fun r0 _ =>
 .call slices_Clone_Sapi_Base_api_Base [.l (D.els r0)] 0 fun r1 _ =>
 .call slices_SortFunc_Sapi_Base_api_Base [.l (D.els r1), .l []] 0 fun r2 _ =>
 .call slices_Compact_Sapi_Base_api_Base [.l (D.els r1)] 0 fun r3 _ =>
 .ask (within (gI p 0) (List.length (gL p 3)))
 (.ask (!(eqI (iE r3) (iE (gD (gL p 3) (tI p 0)))))
 (.ask (within (gI p 0) (List.length (gL p 3)))
 (.again [.i (addA .i64 (gI p 0) 1), aI p 1, .b true, .l (List.set (gL p 3) (tI p 0) (D.l (D.els r3))), aL p 4, aL p 5, aL p 6])
 (.bad))
 (.again [.i (addA .i64 (gI p 0) 1), aI p 1, aB p 2, aL p 3, aL p 4, aL p 5, aL p 6]))
 (.bad))
 (.bad))
 (.bad))
 (.bad))
 (.bad))
 (.ask (eqI (vI (gD (gL p 6) (tI p 0)) 0) 26)
 (.loop 7 [aI p 0, .i 0, aI p 0, .l (eX (gD (gL p 6) (tI p 0)) 5), aI p 1, aB p 2, .i (iX (gD (gL p 6) (tI p 0)) 5), aL p 3, .l [], aL p 4, aL p 5, aL p 6] (.cons (fun p0 =>
 .call slices_Clone_Sapi_Base_api_Base [aL p0 5] 0 fun r1 _ =>
 .call slices_SortFunc_Sapi_Base_api_Base [.l (D.els r1), .l []] 0 fun r2 _ =>
 .call slices_Compact_Sapi_Base_api_Base [.l (D.els r1)] 0 fun r3 _ =>
 .ask (within (gI p0 0) (List.length (gL p0 4)))
 (.ask (!(eqI (iE r3) (iE (gD (gL p0 4) (tI p0 0)))))
 (.ask (within (gI p0 0) (List.length (gL p0 4)))
 (.again [.i (addA .i64 (gI p0 1) 1), aI p0 2, .b true, .l (List.set (gL p0 4) (tI p0 0) (D.l (D.els r3))), aL p0 6, aL p0 7, aL p0 8])
 (.bad))
 (.again [.i (addA .i64 (gI p0 1) 1), aI p0 2, aB p0 3, aL p0 4, aL p0 6, aL p0 7, aL p0 8]))
 (.bad))
 .nil))
 (.call slices_Clone_Sapi_Base_api_Base [.l []] 0 fun r0 _ =>
 .call slices_SortFunc_Sapi_Base_api_Base [.l (D.els r0), .l []] 0 fun r1 _ =>
 .call slices_Compact_Sapi_Base_api_Base [.l (D.els r0)] 0 fun r2 _ =>
 .ask (within (gI p 0) (List.length (gL p 3)))
 (J_facts_Func_bases_0 p r2)
 (.bad))))))))
 (.bad))
 (.out (0, [aB p 2, aL p 3, aL p 4, aL p 5, aL p 6]))
def L_facts_Func_bases_7 (p : List D) : Sh :=
 .ask (ltI (gI p 1) (gI p 6))
 (.ask (within (gI p 1) (List.length (gL p 3)))
 (.ask (within (D.toI (gD (gL p 3) (tI p 1))) (List.length (gL p 7)))
 (.ask (lim ((List.length (gL p 8)) + (nE (gD (gL p 7) (Int.toNat (D.toI (gD (gL p 3) (tI p 1))))))) 16)
 (.again [aI p 0, .i (addA .i64 (gI p 1) 1), aI p 2, aL p 3, aI p 4, aB p 5, aI p 6, aL p 7, .l ((gL p 8) ++ (D.els (gD (gL p 7) (Int.toNat (D.toI (gD (gL p 3) (tI p 1))))))), aL p 9, aL p 10, aL p 11])
 (.bad))
 (.bad))
 (.bad))
 (.out (0, [aI p 0, aI p 2, aI p 4, aB p 5, aL p 7, aL p 8, aL p 9, aL p 10, aL p 11]))
def S_facts_Func_bases : STab := [(0, fun p => ⟨(t2 (.pb 500 0 0) (t0 (t0 (t0 Z (t1 (nI p 0))) Z) Z) (t0 (t0 (t0 Z (t1 (nI p 1))) Z) (t0 Z (t0 (t1 (fL 3 [.int .i64] p 2)) Z)))), [(500, ⟨0, [.vw 501000000 0 [], .vw 18 0 [], .vw 501000002 0 [], .vw 501000003 0 []], none⟩)], [(18, ⟨117, [.sl true 116 [.int .i64, .int .i64]], (gL p 3), [], 0, [0, 0, 0, 0], 0⟩), aR 501000000 3 [.int .i64] (gL p 4), aR 501000002 123 [.int .i64, .int .i64] (gL p 5), aR 501000003 32 lt3 (gL p 6)], 1⟩),
 (2, fun p => ⟨(t2 (.pb 500 0 0) Z (t0 Z (t1 (nB p 0)))), [(500, ⟨0, [.vw 501000000 0 [], .vw 18 0 [], .vw 501000002 0 [], .vw 501000003 0 []], none⟩)], [(18, ⟨117, [.sl true 116 [.int .i64, .int .i64]], (gL p 1), [], 0, [0, 0, 0, 0], 0⟩), aR 501000000 3 [.int .i64] (gL p 2), aR 501000002 123 [.int .i64, .int .i64] (gL p 3), aR 501000003 32 lt3 (gL p 4)], 1⟩),
 (4, fun p => ⟨(t2 (.pb 500 0 0) (t0 (t0 (t0 (t0 Z (t1 (.vw 501000003 0 []))) Z) Z) (t0 (t0 (t0 Z (t1 (nI p 0))) Z) Z)) (t0 (t0 (t0 (t0 Z (t1 (nI p 1))) Z) Z) (t1 (nB p 2)))), [(500, ⟨0, [.vw 501000000 0 [], .vw 18 0 [], .vw 501000002 0 [], .vw 501000003 0 []], none⟩)], [(18, ⟨117, [.sl true 116 [.int .i64, .int .i64]], (gL p 3), [], 0, [0, 0, 0, 0], 0⟩), aR 501000000 3 [.int .i64] (gL p 4), aR 501000002 123 [.int .i64, .int .i64] (gL p 5), aR 501000003 32 lt3 (gL p 6)], 1⟩),
 (7, fun p => ⟨(t2 (.pb 500 0 0) (t0 (t0 (t2 (nI p 0) (t0 Z (t2 (.vw 501000003 0 []) Z (t1 (nI p 1)))) Z) Z) (t0 (t2 (.vw 200009 0 []) (t0 Z (t1 (nI p 2))) Z) (t0 Z (t0 (t0 Z (t1 (fL 3 [.int .i64] p 3))) Z)))) (t0 (t0 (t0 (t0 Z (t1 (nI p 4))) Z) Z) (t2 (nB p 5) Z (t0 Z (t0 (t0 Z (t1 (nI p 6))) Z))))), [(500, ⟨0, [.vw 501000000 0 [], .vw 18 0 [], .vw 501000002 0 [], .vw 501000003 0 []], none⟩)], [(18, ⟨117, [.sl true 116 [.int .i64, .int .i64]], (gL p 7), [], 0, [0, 0, 0, 0], 0⟩), aR 200009 116 [.int .i64, .int .i64] (gL p 8), aR 501000000 3 [.int .i64] (gL p 9), aR 501000002 123 [.int .i64, .int .i64] (gL p 10), aR 501000003 32 lt3 (gL p 11)], 1⟩)]
def T_facts_Func_bases : TTab := [(0, [fun p => (.exit 0, ⟨(t1 (.pb 500 0 0)), [(500, ⟨0, [.vw 501000000 0 [], .vw 18 0 [], .vw 501000002 0 [], .vw 501000003 0 []], none⟩)], [(18, ⟨117, [.sl true 116 [.int .i64, .int .i64]], (gL p 0), [], 0, [0, 0, 0, 0], 0⟩), aR 501000000 3 [.int .i64] (gL p 1), aR 501000002 123 [.int .i64, .int .i64] (gL p 2), aR 501000003 32 lt3 (gL p 3)], 1⟩)]),
 (2, [fun p => (.exit 2, ⟨(t1 (.pb 500 0 0)), [(500, ⟨0, [.vw 501000000 0 [], .vw 18 0 [], .vw 501000002 0 [], .vw 501000003 0 []], none⟩)], [(18, ⟨117, [.sl true 116 [.int .i64, .int .i64]], (gL p 0), [], 0, [0, 0, 0, 0], 0⟩), aR 501000000 3 [.int .i64] (gL p 1), aR 501000002 123 [.int .i64, .int .i64] (gL p 2), aR 501000003 32 lt3 (gL p 3)], 1⟩)]),
 (4, [fun p => (.exit 4, ⟨(t2 (.pb 500 0 0) Z (t0 Z (t1 (nB p 0)))), [(500, ⟨0, [.vw 501000000 0 [], .vw 18 0 [], .vw 501000002 0 [], .vw 501000003 0 []], none⟩)], [(18, ⟨117, [.sl true 116 [.int .i64, .int .i64]], (gL p 1), [], 0, [0, 0, 0, 0], 0⟩), aR 501000000 3 [.int .i64] (gL p 2), aR 501000002 123 [.int .i64, .int .i64] (gL p 3), aR 501000003 32 lt3 (gL p 4)], 1⟩)]),
 (7, [fun p => (.exit 7, ⟨(t2 (.pb 500 0 0) (t0 (t0 (t2 (nI p 0) (t0 Z (t1 (.vw 501000003 0 []))) Z) Z) (t0 (t2 (.vw 200009 0 []) (t0 Z (t1 (nI p 1))) Z) Z)) (t0 (t0 (t0 (t0 Z (t1 (nI p 2))) Z) Z) (t1 (nB p 3)))), [(500, ⟨0, [.vw 501000000 0 [], .vw 18 0 [], .vw 501000002 0 [], .vw 501000003 0 []], none⟩)], [(18, ⟨117, [.sl true 116 [.int .i64, .int .i64]], (gL p 4), [], 0, [0, 0, 0, 0], 0⟩), aR 200009 116 [.int .i64, .int .i64] (gL p 5), aR 501000000 3 [.int .i64] (gL p 6), aR 501000002 123 [.int .i64, .int .i64] (gL p 7), aR 501000003 32 lt3 (gL p 8)], 1⟩)])]
def F_facts_Func_bases : Fn := { np := 2, bs := [0, 2, 4, 7], main := M_facts_Func_bases, lps := [(0, L_facts_Func_bases_0), (2, L_facts_Func_bases_2), (4, L_facts_Func_bases_4), (7, L_facts_Func_bases_7)] }
def M_slices_Clone_Sint64_int64 (x : List D) : Sh :=
 .ask (isNl (D.els (gD x 0)))
 (.bad)
 (.ask false
 (.ret (.l []) [])
 (.ask (lim (0 + (nE (gD x 0))) 8)
 (.ret (.l (D.els (gD x 0))) [])
 (.bad)))
def S_slices_Clone_Sint64_int64 : STab := []
def T_slices_Clone_Sint64_int64 : TTab := []
def F_slices_Clone_Sint64_int64 : Fn := { np := 1, bs := [], main := M_slices_Clone_Sint64_int64, lps := [] }
def M_ir_copyFunc (x : List D) : Sh :=
 .call slices_Clone_Sint_int [.l (eX (gD x 0) 2)] 0 fun r0 _ =>
 .loop 0 [.i (iX (gD x 0) 4), .l (eX (gD x 0) 4), .i 0, .s (D.toS (D.fld (gD x 0) 0)), .b (vB (gD x 0) 1), .i (vI (gD x 0) 3), .s [], .b false, .i 0, .l [], .l (D.els r0)] (.cons (fun p1 =>
 .ret (.l [aS p1 0, aB p1 1, aL p1 7, aI p1 2, aL p1 6]) [])
 .nil)
def L_ir_copyFunc_0 (p : List D) : Sh :=
 .ask (ltI (gI p 2) (gI p 0))
 (.ask (within (gI p 2) (List.length (gL p 1)))
 (.loop 2 [.l (D.els (gD (gL p 1) (tI p 2))), aI p 0, .i 0, aL p 1, .i (iE (gD (gL p 1) (tI p 2))), aI p 2, aS p 3, aB p 4, aI p 5, aS p 6, aB p 7, aI p 8, .l [], aL p 9, aL p 10] (.cons (fun p0 =>
 .ask (lim ((List.length (gL p0 10)) + 1) 24)
 (.again [aI p0 0, aL p0 1, .i (addA .i64 (gI p0 2) 1), aS p0 3, aB p0 4, aI p0 5, aS p0 6, aB p0 7, aI p0 8, .l ((gL p0 10) ++ [aL p0 9]), aL p0 11])
 (.bad))
 .nil))
 (.bad))
 (.out (0, [aS p 3, aB p 4, aI p 5, aS p 6, aB p 7, aI p 8, aL p 9, aL p 10]))
def L_ir_copyFunc_2 (p : List D) : Sh :=
 .ask (ltI (gI p 2) (gI p 4))
 (.ask (within (gI p 2) (List.length (gL p 0)))
 (.call ir_copyIns [.l [.i (vI (gD (gL p 0) (tI p 2)) 0), .i (vI (gD (gL p 0) (tI p 2)) 1), .i (vI (gD (gL p 0) (tI p 2)) 2), .i (vI (gD (gL p 0) (tI p 2)) 3), .i (vI (gD (gL p 0) (tI p 2)) 4), .l (eX (gD (gL p 0) (tI p 2)) 5), .l (eX (gD (gL p 0) (tI p 2)) 6)]] 0 fun r0 _ =>
 .ask (lim ((List.length (gL p 12)) + 1) 88)
 (.again [aL p 0, aI p 1, .i (addA .i64 (gI p 2) 1), aL p 3, aI p 4, aI p 5, aS p 6, aB p 7, aI p 8, aS p 9, aB p 10, aI p 11, .l ((gL p 12) ++ [.l [.i (vI r0 0), .i (vI r0 1), .i (vI r0 2), .i (vI r0 3), .i (vI r0 4), .l (eX r0 5), .l (eX r0 6)]]), aL p 13, aL p 14])
 (.bad))
 (.bad))
 (.out (0, [aI p 1, aL p 3, aI p 5, aS p 6, aB p 7, aI p 8, aS p 9, aB p 10, aI p 11, aL p 12, aL p 13, aL p 14]))
def S_ir_copyFunc : STab := [(0, fun p => ⟨(t0 (t2 (.pb 1 0 0) Z (t0 (t0 (t1 (nI p 0)) Z) Z)) (t2 (.pb 2 0 0) (t0 (t0 (t1 (fL 35 lt2 p 1)) Z) Z) (t0 (t0 (t1 (nI p 2)) Z) Z))), [(1, ⟨0, [.str (gS p 3), nB p 4, .vw 12000000 0 [], nI p 5, .vw 300068 0 []], none⟩), (2, ⟨0, [.str (gS p 6), nB p 7, .nils, nI p 8, .nils], none⟩)], [aR 300068 35 lt10 (gL p 9), aR 12000000 3 [.int .i64] (gL p 10)], 1⟩),
 (2, fun p => ⟨(t0 (t2 (.pb 1 0 0) (t0 (t0 Z (t1 (fL 32 lt3 p 0))) Z) (t0 (t0 (t1 (nI p 1)) (t1 (nI p 2))) Z)) (t2 (.pb 2 0 0) (t0 (t0 (t1 (fL 35 lt2 p 3)) (t1 (nI p 4))) Z) (t2 (.vw 200006 0 []) (t0 (t1 (nI p 5)) Z) Z))), [(1, ⟨0, [.str (gS p 6), nB p 7, .vw 12000000 0 [], nI p 8, .vw 300068 0 []], none⟩), (2, ⟨0, [.str (gS p 9), nB p 10, .nils, nI p 11, .nils], none⟩)], [aR 200006 32 lt11 (gL p 12), aR 300068 35 lt10 (gL p 13), aR 12000000 3 [.int .i64] (gL p 14)], 1⟩)]
def T_ir_copyFunc : TTab := [(0, [fun p => (.exit 0, ⟨(t0 (t1 (.pb 1 0 0)) (t1 (.pb 2 0 0))), [(1, ⟨0, [.str (gS p 0), nB p 1, .vw 12000000 0 [], nI p 2, .vw 300068 0 []], none⟩), (2, ⟨0, [.str (gS p 3), nB p 4, .nils, nI p 5, .nils], none⟩)], [aR 300068 35 lt10 (gL p 6), aR 12000000 3 [.int .i64] (gL p 7)], 1⟩)]),
 (2, [fun p => (.exit 2, ⟨(t0 (t2 (.pb 1 0 0) Z (t0 (t0 (t1 (nI p 0)) Z) Z)) (t2 (.pb 2 0 0) (t0 (t0 (t1 (fL 35 lt2 p 1)) Z) Z) (t2 (.vw 200006 0 []) (t0 (t1 (nI p 2)) Z) Z))), [(1, ⟨0, [.str (gS p 3), nB p 4, .vw 12000000 0 [], nI p 5, .vw 300068 0 []], none⟩), (2, ⟨0, [.str (gS p 6), nB p 7, .nils, nI p 8, .nils], none⟩)], [aR 200006 32 lt11 (gL p 9), aR 300068 35 lt10 (gL p 10), aR 12000000 3 [.int .i64] (gL p 11)], 1⟩)])]
def F_ir_copyFunc : Fn := { np := 1, bs := [0, 2], main := M_ir_copyFunc, lps := [(0, L_ir_copyFunc_0), (2, L_ir_copyFunc_2)] }
def M_wf_scalar (x : List D) : Sh :=
 .ret (.b ((eqI (D.toI (gD x 0)) 1) || (eqI (D.toI (gD x 0)) 2))) []
def S_wf_scalar : STab := []
def T_wf_scalar : TTab := []
def F_wf_scalar : Fn := { np := 1, bs := [], main := M_wf_scalar, lps := [] }
def M_wf_Name (x : List D) : Sh :=
 .ask ((ltI (iL (D.toS (gD x 0))) 1) || (ltI 12 (iL (D.toS (gD x 0)))))
 (.ret (.b false) [])
 (.loop 0 [.s (D.toS (gD x 0)), .i (iL (D.toS (gD x 0))), .i 0] (.cons (fun p0 =>
 .ret (aB p0 0) [])
 (.cons (fun p0 =>
 .ret (.b true) [])
 .nil)))
def L_wf_Name_0 (p : List D) : Sh :=
 .ask (ltI (gI p 2) (gI p 1))
 (.ask (within (gI p 2) (List.length (gS p 0)))
 (.ask ((!((leI 97 (byteV (gS p 0) (gI p 2))) && (leI (byteV (gS p 0) (gI p 2)) 122))) && ((eqI (gI p 2) 0) || ((!(eqI (byteV (gS p 0) (gI p 2)) 95)) && ((ltI (byteV (gS p 0) (gI p 2)) 48) || (ltI 57 (byteV (gS p 0) (gI p 2)))))))
 (.out (0, [.b false]))
 (.again [aS p 0, aI p 1, .i (addA .i64 (gI p 2) 1)]))
 (.bad))
 (.out (1, []))
def S_wf_Name : STab := [(0, fun p => ⟨(t2 (.str (gS p 0)) (t0 (t0 (t0 (t1 (nI p 1)) Z) Z) Z) (t0 (t0 (t0 (t1 (nI p 2)) Z) Z) Z)), [], [], 1⟩)]
def T_wf_Name : TTab := [(0, [fun p => (.ret, ⟨(t0 Z (t1 (nB p 0))), [], [], 1⟩),
  fun p => (.exit 0, ⟨(t0 Z (t0 Z Z)), [], [], 1⟩)])]
def F_wf_Name : Fn := { np := 1, bs := [0], main := M_wf_Name, lps := [(0, L_wf_Name_0)] }
def M_flow_Prev (x : List D) : Sh :=
 .ask ((leI 0 (iX (gD x 0) 4)) && ((eqI (iX (gD x 0) 4) (iX (gD x 0) 4)) && (lim (Int.toNat (iX (gD x 0) 4)) 24)))
 (.loop 0 [.i (iX (gD x 0) 4), .i 0, .s (D.toS (D.fld (gD x 0) 0)), .b (vB (gD x 0) 1), .l (eX (gD x 0) 2), .i (vI (gD x 0) 3), .l (eX (gD x 0) 4), .l (List.replicate (nX (gD x 0) 4) (D.l []))] (.cons (fun p0 =>
 .ret (aL p0 0) [])
 .nil))
 (.bad)
def L_flow_Prev_0 (p : List D) : Sh :=
 .ask (ltI (gI p 1) (gI p 0))
 (.call flow_Next [.l [aS p 2, aB p 3, aL p 4, aI p 5, aL p 6], aI p 1] 0 fun r0 _ =>
 .loop 2 [aI p 0, .i 0, aI p 1, .i (iE r0), aI p 1, aS p 2, aB p 3, aL p 4, aI p 5, aL p 6, aL p 7, .l (D.els r0)] (.cons (fun p1 =>
 .again [aI p1 0, .i (addA .i64 (gI p1 1) 1), aS p1 2, aB p1 3, aL p1 4, aI p1 5, aL p1 6, aL p1 7])
 .nil))
 (.out (0, [aL p 7]))
def L_flow_Prev_2 (p : List D) : Sh :=
 .ask (ltI (gI p 1) (gI p 3))
 (.ask (within (gI p 1) (List.length (gL p 11)))
 (.ask (within (D.toI (gD (gL p 11) (tI p 1))) (List.length (gL p 10)))
 (.ask (lim ((nE (gD (gL p 10) (Int.toNat (D.toI (gD (gL p 11) (tI p 1)))))) + 1) 8)
 (.ask (within (D.toI (gD (gL p 11) (tI p 1))) (List.length (gL p 10)))
 (.ask ((Nat.beq (Int.toNat (D.toI (gD (gL p 11) (tI p 1)))) (Int.toNat (D.toI (gD (gL p 11) (tI p 1))))) && true)
 (.again [aI p 0, .i (addA .i64 (gI p 1) 1), aI p 2, aI p 3, aI p 4, aS p 5, aB p 6, aL p 7, aI p 8, aL p 9, .l (List.set (gL p 10) (Int.toNat (D.toI (gD (gL p 11) (tI p 1)))) (D.l ((D.els (gD (gL p 10) (Int.toNat (D.toI (gD (gL p 11) (tI p 1)))))) ++ [aI p 2]))), aL p 11])
 (.bad))
 (.bad))
 (.bad))
 (.bad))
 (.bad))
 (.out (0, [aI p 0, aI p 4, aS p 5, aB p 6, aL p 7, aI p 8, aL p 9, aL p 10]))
def S_flow_Prev : STab := [(0, fun p => ⟨(t0 (t2 (.pb 1 0 0) (t1 (.vw 10 0 [])) (t0 Z (t1 (nI p 0)))) (t0 Z (t0 Z (t1 (nI p 1))))), [(1, ⟨0, [.str (gS p 2), nB p 3, fL 3 [.int .i64] p 4, nI p 5, fL 35 lt2 p 6], none⟩)], [(10, ⟨30, [.sl true 3 [.int .i64]], (gL p 7), [], 0, [0, 0, 0, 0], 0⟩)], 1⟩),
 (2, fun p => ⟨(t0 (t2 (.pb 1 0 0) (t2 (.vw 10 0 []) Z (t0 (t1 (.vw 20000000 0 [])) Z)) (t0 Z (t2 (nI p 0) (t1 (nI p 1)) Z))) (t0 (t2 (nI p 2) Z (t0 (t1 (nI p 3)) Z)) (t0 Z (t1 (nI p 4))))), [(1, ⟨0, [.str (gS p 5), nB p 6, fL 3 [.int .i64] p 7, nI p 8, fL 35 lt2 p 9], none⟩)], [(10, ⟨30, [.sl true 3 [.int .i64]], (gL p 10), [], 0, [0, 0, 0, 0], 0⟩), aR 20000000 3 [.int .i64] (gL p 11)], 1⟩)]
def T_flow_Prev : TTab := [(0, [fun p => (.exit 0, ⟨(t0 (t0 (t1 (.vw 10 0 [])) Z) (t0 Z Z)), [], [(10, ⟨30, [.sl true 3 [.int .i64]], (gL p 0), [], 0, [0, 0, 0, 0], 0⟩)], 1⟩)]),
 (2, [fun p => (.exit 2, ⟨(t0 (t2 (.pb 1 0 0) (t1 (.vw 10 0 [])) (t0 Z (t1 (nI p 0)))) (t0 Z (t0 Z (t1 (nI p 1))))), [(1, ⟨0, [.str (gS p 2), nB p 3, fL 3 [.int .i64] p 4, nI p 5, fL 35 lt2 p 6], none⟩)], [(10, ⟨30, [.sl true 3 [.int .i64]], (gL p 7), [], 0, [0, 0, 0, 0], 0⟩)], 1⟩)])]
def F_flow_Prev : Fn := { np := 1, bs := [0, 2], main := M_flow_Prev, lps := [(0, L_flow_Prev_0), (2, L_flow_Prev_2)] }
def J_wf_fitting_2 (x : List D) : Sh :=
 .ask (eqI (vI (gD x 3) 0) 16)
 (.ask ((eqI (vI (gD x 3) 1) 2) && true)
 (.call wf_all [.l (D.els (gD x 2)), .l (eX (gD x 3) 5), .i 2] 0 fun r0 _ =>
 .ret (.b ((eqI (vI (gD x 3) 1) 2) && (D.toB r0))) [])
 (.ret (.b ((eqI (vI (gD x 3) 1) 2) && (D.toB (.i 0)))) []))
 (.ask (eqI (vI (gD x 3) 0) 17)
 (.call wf_rows [.l (D.els (gD x 2)), .l (eX (gD x 3) 5), .l [.i 2, .i (vI (gD x 3) 1), .i (vI (gD x 3) 1)]] 0 fun r0 _ =>
 .ret (.b (D.toB r0)) [])
 (.ask (eqI (vI (gD x 3) 0) 19)
 (.ask ((eqI (vI (gD x 3) 1) 3) && true)
 (.call wf_rows [.l (D.els (gD x 2)), .l (eX (gD x 3) 5), .l [.i 3, .i 1]] 0 fun r0 _ =>
 .ret (.b ((eqI (vI (gD x 3) 1) 3) && (D.toB r0))) [])
 (.ret (.b ((eqI (vI (gD x 3) 1) 3) && (D.toB (.i 0)))) []))
 (.ask (eqI (vI (gD x 3) 0) 20)
 (.ask ((eqI (vI (gD x 3) 1) 1) && true)
 (.call wf_rows [.l (D.els (gD x 2)), .l (eX (gD x 3) 5), .l [.i 3]] 0 fun r0 _ =>
 .ret (.b ((eqI (vI (gD x 3) 1) 1) && (D.toB r0))) [])
 (.ret (.b ((eqI (vI (gD x 3) 1) 1) && (D.toB (.i 0)))) []))
 (.ask (eqI (vI (gD x 3) 0) 21)
 (.call wf_rows [.l (D.els (gD x 2)), .l (eX (gD x 3) 5), .l [.i 3, .i 1]] 0 fun r0 _ =>
 .ret (.b (D.toB r0)) [])
 (.ask (eqI (vI (gD x 3) 0) 24)
 (.ask ((eqI (vI (gD x 3) 1) 4) && true)
 (.call wf_rows [.l (D.els (gD x 2)), .l (eX (gD x 3) 5), .l [.i 1]] 0 fun r0 _ =>
 .ret (.b ((eqI (vI (gD x 3) 1) 4) && (D.toB r0))) [])
 (.ret (.b ((eqI (vI (gD x 3) 1) 4) && (D.toB (.i 0)))) []))
 (.ask (eqI (vI (gD x 3) 0) 25)
 (.ask (within 0 (nX (gD x 3) 5))
 (.ask (within (D.toI (gD (eX (gD x 3) 5) 0)) (nE (gD x 2)))
 (.ret (.b ((eqI (D.toI (gE (gD x 2) (Int.toNat (D.toI (gD (eX (gD x 3) 5) 0))))) 4) && (!(eqI (vI (gD x 3) 1) 3)))) [])
 (.bad))
 (.bad))
 (.ask (eqI (vI (gD x 3) 0) 22)
 (.ask (within (vI (gD x 3) 3) (nX (gD x 0) 3))
 (.ask ((eqI (vI (gD x 3) 1) (vI (gD (eX (gD x 0) 3) (Int.toNat (vI (gD x 3) 3))) 3)) && true)
 (.call wf_rows [.l (D.els (gD x 2)), .l (eX (gD x 3) 5), .l (eX (gD (eX (gD x 0) 3) (Int.toNat (vI (gD x 3) 3))) 2)] 0 fun r0 _ =>
 .ret (.b ((eqI (vI (gD x 3) 1) (vI (gD (eX (gD x 0) 3) (Int.toNat (vI (gD x 3) 3))) 3)) && (D.toB r0))) [])
 (.ret (.b ((eqI (vI (gD x 3) 1) (vI (gD (eX (gD x 0) 3) (Int.toNat (vI (gD x 3) 3))) 3)) && (D.toB (.i 0)))) []))
 (.bad))
 (.ask (eqI (vI (gD x 3) 0) 23)
 (.ask (within (vI (gD x 3) 3) (nX (gD x 0) 0))
 (.ask ((eqI (vI (gD x 3) 1) (vI (gD (eX (gD x 0) 0) (Int.toNat (vI (gD x 3) 3))) 2)) && true)
 (.call wf_rows [.l (D.els (gD x 2)), .l (eX (gD x 3) 5), .l (eX (gD (eX (gD x 0) 0) (Int.toNat (vI (gD x 3) 3))) 1)] 0 fun r0 _ =>
 .ret (.b ((eqI (vI (gD x 3) 1) (vI (gD (eX (gD x 0) 0) (Int.toNat (vI (gD x 3) 3))) 2)) && (D.toB r0))) [])
 (.ret (.b ((eqI (vI (gD x 3) 1) (vI (gD (eX (gD x 0) 0) (Int.toNat (vI (gD x 3) 3))) 2)) && (D.toB (.i 0)))) []))
 (.bad))
 (.ask (eqI (vI (gD x 3) 0) 26)
 (.call wf_all [.l (D.els (gD x 2)), .l (eX (gD x 3) 5), .i (vI (gD x 3) 1)] 0 fun r0 _ =>
 .ret (.b (D.toB r0)) [])
 (.ask (eqI (vI (gD x 3) 0) 28)
 (.call wf_rows [.l (D.els (gD x 2)), .l (eX (gD x 3) 5), .l [.i 2]] 0 fun r0 _ =>
 .ret (.b (D.toB r0)) [])
 (.ask (eqI (vI (gD x 3) 0) 29)
 (.ask (eqI (vI (gD x 1) 3) 0)
 (.ret (.b (eqI (iX (gD x 3) 5) 0)) [])
 (.call wf_rows [.l (D.els (gD x 2)), .l (eX (gD x 3) 5), .l [.i (vI (gD x 1) 3)]] 0 fun r0 _ =>
 .ret (.b (D.toB r0)) []))
 (.ret (.b true) []))))))))))))
def J_wf_fitting_3 (x : List D) : Sh :=
 .ask ((eqI (vI (gD x 3) 1) 2) && true)
 (.call wf_all [.l (D.els (gD x 2)), .l (eX (gD x 3) 5), .i 1] 0 fun r0 _ =>
 .ret (.b ((eqI (vI (gD x 3) 1) 2) && (D.toB r0))) [])
 (.ret (.b ((eqI (vI (gD x 3) 1) 2) && (D.toB (.i 0)))) [])
def J_wf_fitting_1 (x : List D) : Sh :=
 .ask (eqI (vI (gD x 3) 0) 14)
 (.ask (eqI (vI (gD x 3) 0) 14)
 (J_wf_fitting_3 x)
 (J_wf_fitting_2 x))
 (.ask (eqI (vI (gD x 3) 0) 15)
 (J_wf_fitting_3 x)
 (J_wf_fitting_2 x))
def J_wf_fitting_4 (x : List D) : Sh :=
 .ask ((eqI (vI (gD x 3) 1) 1) && true)
 (.call wf_all [.l (D.els (gD x 2)), .l (eX (gD x 3) 5), .i 1] 0 fun r0 _ =>
 .ret (.b ((eqI (vI (gD x 3) 1) 1) && (D.toB r0))) [])
 (.ret (.b ((eqI (vI (gD x 3) 1) 1) && (D.toB (.i 0)))) [])
def J_wf_fitting_0 (x : List D) : Sh :=
 .ask (eqI (vI (gD x 3) 0) 4)
 (.ask (eqI (vI (gD x 3) 0) 4)
 (J_wf_fitting_4 x)
 (J_wf_fitting_1 x))
 (.ask (eqI (vI (gD x 3) 0) 5)
 (.ask (eqI (vI (gD x 3) 0) 5)
 (J_wf_fitting_4 x)
 (J_wf_fitting_1 x))
 (.ask (eqI (vI (gD x 3) 0) 6)
 (.ask (eqI (vI (gD x 3) 0) 6)
 (J_wf_fitting_4 x)
 (J_wf_fitting_1 x))
 (.ask (eqI (vI (gD x 3) 0) 7)
 (.ask (eqI (vI (gD x 3) 0) 7)
 (J_wf_fitting_4 x)
 (J_wf_fitting_1 x))
 (.ask (eqI (vI (gD x 3) 0) 8)
 (.ask (eqI (vI (gD x 3) 0) 8)
 (J_wf_fitting_4 x)
 (J_wf_fitting_1 x))
 (.ask (eqI (vI (gD x 3) 0) 9)
 (.ask (eqI (vI (gD x 3) 0) 9)
 (J_wf_fitting_4 x)
 (J_wf_fitting_1 x))
 (.ask (eqI (vI (gD x 3) 0) 10)
 (.ask (eqI (vI (gD x 3) 0) 10)
 (J_wf_fitting_4 x)
 (J_wf_fitting_1 x))
 (.ask (eqI (vI (gD x 3) 0) 11)
 (.ask (eqI (vI (gD x 3) 0) 11)
 (J_wf_fitting_4 x)
 (J_wf_fitting_1 x))
 (.ask (eqI (vI (gD x 3) 0) 12)
 (.ask (eqI (vI (gD x 3) 0) 12)
 (J_wf_fitting_4 x)
 (J_wf_fitting_1 x))
 (.ask (eqI (vI (gD x 3) 0) 13)
 (J_wf_fitting_4 x)
 (J_wf_fitting_1 x))))))))))
def M_wf_fitting (x : List D) : Sh :=
 .ask (eqI (vI (gD x 3) 0) 1)
 (.ret (.b ((eqI (vI (gD x 3) 1) 1) || ((eqI (vI (gD x 3) 1) 2) && ((eqI (vI (gD x 3) 4) 0) || (eqI (vI (gD x 3) 4) 1))))) [])
 (.ask (eqI (vI (gD x 3) 0) 2)
 (.ret (.b (eqI (vI (gD x 3) 1) 4)) [])
 (.ask (eqI (vI (gD x 3) 0) 3)
 (.ask (eqI (vI (gD x 3) 0) 3)
 (.ret (.b (eqI (vI (gD x 3) 1) 3)) [])
 (J_wf_fitting_0 x))
 (.ask (eqI (vI (gD x 3) 0) 18)
 (.ret (.b (eqI (vI (gD x 3) 1) 3)) [])
 (J_wf_fitting_0 x))))
def S_wf_fitting : STab := []
def T_wf_fitting : TTab := []
def F_wf_fitting : Fn := { np := 4, bs := [], main := M_wf_fitting, lps := [] }
def M_facts_lesser (x : List D) : Sh :=
 .ask (!(eqI (vI (gD x 0) 0) (vI (gD x 1) 0)))
 (.ret (.i (wrapA .i64 ((vI (gD x 0) 0) - (vI (gD x 1) 0)))) [])
 (.ret (.i (wrapA .i64 ((vI (gD x 0) 1) - (vI (gD x 1) 1)))) [])
def S_facts_lesser : STab := []
def T_facts_lesser : TTab := []
def F_facts_lesser : Fn := { np := 2, bs := [], main := M_facts_lesser, lps := [] }
def M_slices_Compact_Sapi_Base_api_Base (x : List D) : Sh :=
 .ask (ltI (iE (gD x 0)) 2)
 (.ret (.l (D.els (gD x 0))) [])
 (.loop 0 [.i 1, .l (D.els (gD x 0))] (.cons (fun p0 =>
 .ret (aL p0 0) [])
 .nil))
def L_slices_Compact_Sapi_Base_api_Base_0 (p : List D) : Sh :=
 .ask (ltI (gI p 0) (iL (gL p 1)))
 (.ask (within (gI p 0) (List.length (gL p 1)))
 (.ask (within (wrapA .i64 ((gI p 0) - 1)) (List.length (gL p 1)))
 (.ask ((eqI (vI (gD (gL p 1) (tI p 0)) 0) (vI (gD (gL p 1) (Int.toNat (wrapA .i64 ((gI p 0) - 1)))) 0)) && ((eqI (vI (gD (gL p 1) (tI p 0)) 1) (vI (gD (gL p 1) (Int.toNat (wrapA .i64 ((gI p 0) - 1)))) 1)) && true))
 (.ask (bounds (gI p 0) (iL (gL p 1)) (iL (gL p 1)))
 (.loop 2 [aI p 0, .i 1, .l (List.drop (tI p 0) (List.take (List.length (gL p 1)) (gL p 1)))] (.cons (fun p0 =>
 .bad)
 .nil))
 (.bad))
 (.again [.i (addA .i64 (gI p 0) 1), aL p 1]))
 (.bad))
 (.bad))
 (.out (0, [aL p 1]))
def L_slices_Compact_Sapi_Base_api_Base_2 (p : List D) : Sh :=
 .ask (ltI (gI p 1) (iL (gL p 2)))
 (.ask (within (gI p 1) (List.length (gL p 2)))
 (.ask (within (wrapA .i64 ((gI p 1) - 1)) (List.length (gL p 2)))
 (.ask (!((eqI (vI (gD (gL p 2) (tI p 1)) 0) (vI (gD (gL p 2) (Int.toNat (wrapA .i64 ((gI p 1) - 1)))) 0)) && ((eqI (vI (gD (gL p 2) (tI p 1)) 1) (vI (gD (gL p 2) (Int.toNat (wrapA .i64 ((gI p 1) - 1)))) 1)) && true)))
 (.bad)
 (.again [aI p 0, .i (addA .i64 (gI p 1) 1), aL p 2]))
 (.bad))
 (.bad))
 (.out (0, [aI p 0]))
def S_slices_Compact_Sapi_Base_api_Base : STab := [(0, fun p => ⟨(t2 (.vw 500 0 []) (t0 (t1 (nI p 0)) Z) Z), [], [aR 500 116 [.int .i64, .int .i64] (gL p 1)], 1⟩),
 (2, fun p => ⟨(t0 (t0 (t1 (nI p 0)) (t1 (nI p 1))) (t0 (t1 (.vw 28 0 [])) Z)), [], [aR 28 116 [.int .i64, .int .i64] (gL p 2)], 1⟩)]
def T_slices_Compact_Sapi_Base_api_Base : TTab := [(0, [fun p => (.exit 0, ⟨(t2 (.vw 500 0 []) Z (t0 Z Z)), [], [aR 500 116 [.int .i64, .int .i64] (gL p 0)], 1⟩)]),
 (2, [fun p => (.exit 2, ⟨(t0 (t0 (t1 (nI p 0)) Z) (t0 Z Z)), [], [], 1⟩)])]
def F_slices_Compact_Sapi_Base_api_Base : Fn := { np := 1, bs := [0, 2], main := M_slices_Compact_Sapi_Base_api_Base, lps := [(0, L_slices_Compact_Sapi_Base_api_Base_0), (2, L_slices_Compact_Sapi_Base_api_Base_2)] }
def M_wf_all (x : List D) : Sh :=
 .loop 0 [.l (D.els (gD x 0)), .i 0, .l (D.els (gD x 1)), .i (D.toI (gD x 2)), .i (iE (gD x 1))] (.cons (fun p0 =>
 .ret (aB p0 0) [])
 (.cons (fun p0 =>
 .ret (.b true) [])
 .nil))
def L_wf_all_0 (p : List D) : Sh :=
 .ask (ltI (gI p 1) (gI p 4))
 (.ask (within (gI p 1) (List.length (gL p 2)))
 (.ask (within (D.toI (gD (gL p 2) (tI p 1))) (List.length (gL p 0)))
 (.ask (!(eqI (D.toI (gD (gL p 0) (Int.toNat (D.toI (gD (gL p 2) (tI p 1)))))) (gI p 3)))
 (.out (0, [.b false]))
 (.again [aL p 0, .i (addA .i64 (gI p 1) 1), aL p 2, aI p 3, aI p 4]))
 (.bad))
 (.bad))
 (.out (1, []))
def S_wf_all : STab := [(0, fun p => ⟨(t2 (fL 3 [.int .i64] p 0) (t0 (t0 Z (t1 (nI p 1))) (t0 (t1 (fL 3 [.int .i64] p 2)) Z)) (t2 (nI p 3) Z (t0 (t1 (nI p 4)) Z))), [], [], 1⟩)]
def T_wf_all : TTab := [(0, [fun p => (.ret, ⟨(t0 Z (t0 Z (t1 (nB p 0)))), [], [], 1⟩),
  fun p => (.exit 0, ⟨(t0 Z (t0 Z (t0 Z Z))), [], [], 1⟩)])]
def F_wf_all : Fn := { np := 3, bs := [0], main := M_wf_all, lps := [(0, L_wf_all_0)] }
def M_slices_Grow_Sapi_Base_api_Base (x : List D) : Sh :=
 .ask (ltI (D.toI (gD x 1)) 0)
 (.bad)
 (.bad)
def S_slices_Grow_Sapi_Base_api_Base : STab := []
def T_slices_Grow_Sapi_Base_api_Base : TTab := []
def F_slices_Grow_Sapi_Base_api_Base : Fn := { np := 2, bs := [], main := M_slices_Grow_Sapi_Base_api_Base, lps := [] }
def M_slices_Contains_Sint_int (x : List D) : Sh :=
 .call slices_Index_Sint_int [.l (D.els (gD x 0)), .i (D.toI (gD x 1))] 0 fun r0 _ =>
 .ret (.b (leI 0 (D.toI r0))) []
def S_slices_Contains_Sint_int : STab := []
def T_slices_Contains_Sint_int : TTab := []
def F_slices_Contains_Sint_int : Fn := { np := 2, bs := [], main := M_slices_Contains_Sint_int, lps := [] }
def M_r3_from (x : List D) : Sh :=
 .ask ((leI 0 (iX (gD x 0) 4)) && ((eqI (iX (gD x 0) 4) (iX (gD x 0) 4)) && (lim (Int.toNat (iX (gD x 0) 4)) 1)))
 (.ask (((ltI (D.toI (gD x 1)) 0) || (leI (iL (List.replicate (nX (gD x 0) 4) (D.b false))) (D.toI (gD x 1)))) || (eqI (D.toI (gD x 1)) (D.toI (gD x 2))))
 (.ret (.l (List.replicate (nX (gD x 0) 4) (D.b false))) [])
 (.ask (within (D.toI (gD x 1)) (List.length (List.replicate (nX (gD x 0) 4) (D.b false))))
 (.loop 0 [.i (D.toI (gD x 2)), .b true, .s (D.toS (D.fld (gD x 0) 0)), .b (vB (gD x 0) 1), .l (eX (gD x 0) 2), .i (vI (gD x 0) 3), .l (eX (gD x 0) 4), .l (List.set (List.replicate (nX (gD x 0) 4) (D.b false)) (Int.toNat (D.toI (gD x 1))) (D.b true))] (.cons (fun p0 =>
 .ret (aL p0 0) [])
 .nil))
 (.bad)))
 (.bad)
def L_r3_from_0 (p : List D) : Sh :=
 .ask (gB p 1)
 (.loop 2 [.i 0, aI p 0, .b false, aS p 2, aB p 3, aL p 4, aI p 5, aL p 6, aL p 7] (.cons (fun p0 =>
 .again [aI p0 0, aB p0 1, aS p0 2, aB p0 3, aL p0 4, aI p0 5, aL p0 6, aL p0 7])
 .nil))
 (.out (0, [aL p 7]))
def L_r3_from_2 (p : List D) : Sh :=
 .ask (ltI (gI p 0) (iL (gL p 8)))
 (.ask (within (gI p 0) (List.length (gL p 8)))
 (.ask (!(D.toB (gD (gL p 8) (tI p 0))))
 (.again [.i (addA .i64 (gI p 0) 1), aI p 1, aB p 2, aS p 3, aB p 4, aL p 5, aI p 6, aL p 7, aL p 8])
 (.call r3_Next [.l [aS p 3, aB p 4, aL p 5, aI p 6, aL p 7], aI p 0] 0 fun r0 _ =>
 .loop 4 [.i 0, aI p 0, aI p 1, aB p 2, aS p 3, aB p 4, aL p 5, aI p 6, aL p 7, aL p 8, .l (D.els r0)] (.cons (fun p1 =>
 .again [.i (addA .i64 (gI p1 0) 1), aI p1 1, aB p1 2, aS p1 3, aB p1 4, aL p1 5, aI p1 6, aL p1 7, aL p1 8])
 .nil)))
 (.bad))
 (.out (0, [aI p 1, aB p 2, aS p 3, aB p 4, aL p 5, aI p 6, aL p 7, aL p 8]))
def L_r3_from_4 (p : List D) : Sh :=
 .ask (ltI (gI p 0) (iL (gL p 10)))
 (.ask (within (gI p 0) (List.length (gL p 10)))
 (.ask ((!((!(eqI (D.toI (gD (gL p 10) (tI p 0))) (gI p 2))) && true)) || (within (gI p 0) (List.length (gL p 10))))
 (.ask ((!((!(eqI (D.toI (gD (gL p 10) (tI p 0))) (gI p 2))) && true)) || (within (D.toI (gD (gL p 10) (tI p 0))) (List.length (gL p 9))))
 (.ask ((!(eqI (D.toI (gD (gL p 10) (tI p 0))) (gI p 2))) && (!(D.toB (gD (gL p 9) (Int.toNat (D.toI (gD (gL p 10) (tI p 0))))))))
 (.ask (within (gI p 0) (List.length (gL p 10)))
 (.ask (within (D.toI (gD (gL p 10) (tI p 0))) (List.length (gL p 9)))
 (.again [.i (addA .i64 (gI p 0) 1), aI p 1, aI p 2, .b true, aS p 4, aB p 5, aL p 6, aI p 7, aL p 8, .l (List.set (gL p 9) (Int.toNat (D.toI (gD (gL p 10) (tI p 0)))) (D.b true)), aL p 10])
 (.bad))
 (.bad))
 (.again [.i (addA .i64 (gI p 0) 1), aI p 1, aI p 2, aB p 3, aS p 4, aB p 5, aL p 6, aI p 7, aL p 8, aL p 9, aL p 10]))
 (.bad))
 (.bad))
 (.bad))
 (.out (0, [aI p 1, aI p 2, aB p 3, aS p 4, aB p 5, aL p 6, aI p 7, aL p 8, aL p 9]))
def S_r3_from : STab := [(0, fun p => ⟨(t0 (t0 (t2 (.pb 3 0 0) (t1 (.vw 15 0 [])) Z) Z) (t2 (nI p 0) (t0 (t1 (nB p 1)) Z) Z)), [(3, ⟨0, [.str (gS p 2), nB p 3, fL 3 [.int .i64] p 4, nI p 5, fL 35 lt2 p 6], none⟩)], [aR 15 4 [.bool] (gL p 7)], 1⟩),
 (2, fun p => ⟨(t0 (t0 (t2 (.pb 3 0 0) (t1 (.vw 15 0 [])) Z) (t0 (t1 (nI p 0)) Z)) (t2 (nI p 1) (t0 (t1 (nB p 2)) Z) Z)), [(3, ⟨0, [.str (gS p 3), nB p 4, fL 3 [.int .i64] p 5, nI p 6, fL 35 lt2 p 7], none⟩)], [aR 15 4 [.bool] (gL p 8)], 1⟩),
 (4, fun p => ⟨(t0 (t0 (t2 (.pb 3 0 0) (t1 (.vw 15 0 [])) (t1 (nI p 0))) (t0 (t1 (nI p 1)) Z)) (t2 (nI p 2) (t0 (t1 (nB p 3)) Z) (t0 (t1 (.vw 48000000 0 [])) Z))), [(3, ⟨0, [.str (gS p 4), nB p 5, fL 3 [.int .i64] p 6, nI p 7, fL 35 lt2 p 8], none⟩)], [aR 15 4 [.bool] (gL p 9), aR 48000000 3 [.int .i64] (gL p 10)], 1⟩)]
def T_r3_from : TTab := [(0, [fun p => (.exit 0, ⟨(t0 (t0 (t0 (t1 (.vw 15 0 [])) Z) Z) (t0 Z (t0 Z Z))), [], [aR 15 4 [.bool] (gL p 0)], 1⟩)]),
 (2, [fun p => (.exit 2, ⟨(t0 (t0 (t2 (.pb 3 0 0) (t1 (.vw 15 0 [])) Z) Z) (t2 (nI p 0) (t0 (t1 (nB p 1)) Z) (t0 Z Z))), [(3, ⟨0, [.str (gS p 2), nB p 3, fL 3 [.int .i64] p 4, nI p 5, fL 35 lt2 p 6], none⟩)], [aR 15 4 [.bool] (gL p 7)], 1⟩)]),
 (4, [fun p => (.exit 4, ⟨(t0 (t0 (t2 (.pb 3 0 0) (t1 (.vw 15 0 [])) Z) (t0 (t1 (nI p 0)) Z)) (t2 (nI p 1) (t0 (t1 (nB p 2)) Z) (t0 Z Z))), [(3, ⟨0, [.str (gS p 3), nB p 4, fL 3 [.int .i64] p 5, nI p 6, fL 35 lt2 p 7], none⟩)], [aR 15 4 [.bool] (gL p 8)], 1⟩)])]
def F_r3_from : Fn := { np := 3, bs := [0, 2, 4], main := M_r3_from, lps := [(0, L_r3_from_0), (2, L_r3_from_2), (4, L_r3_from_4)] }
def M_slices_xorshift_Next (x : List D) : Sh :=
 .ask (leI 0 13)
 (.ask (leI 0 7)
 (.ask (leI 0 17)
 (let z0 := bitsA .xor .u64 (bitsA .xor .u64 (D.toI (gD x 0)) (shlV .u64 (D.toI (gD x 0)) 13)) (shrV .u64 (bitsA .xor .u64 (D.toI (gD x 0)) (shlV .u64 (D.toI (gD x 0)) 13)) 7); let z1 := D.i (bitsA .xor .u64 z0 (shlV .u64 z0 17)); .ret z1 [z1])
 (.bad))
 (.bad))
 (.bad)
def S_slices_xorshift_Next : STab := []
def T_slices_xorshift_Next : TTab := []
def F_slices_xorshift_Next : Fn := { np := 1, bs := [], main := M_slices_xorshift_Next, lps := [] }
def d_wf_Check : FD := mkD Go.Proofs.Tryz.f9 h9 9 F_wf_Check S_wf_Check T_wf_Check
theorem k_wf_Check : KM d_wf_Check := fun x => by kernel_rfl
theorem k_wf_Check_1 : KL d_wf_Check 1 L_wf_Check_1 := fun p => by kernel_rfl
theorem k_wf_Check_3 : KL d_wf_Check 3 L_wf_Check_3 := fun p => by kernel_rfl
theorem k_wf_Check_5 : KL d_wf_Check 5 L_wf_Check_5 := fun p => by kernel_rfl
theorem c_wf_Check : Cert E bodies sites wf_Check d_wf_Check := by refine ⟨?_,?_,?_,?_,?_,?_,sites_loops,?_,k_wf_Check,look_cons' k_wf_Check_1 (look_cons' k_wf_Check_3 (look_cons' k_wf_Check_5 (look_nil)))⟩ <;> kernel_rfl
def d_facts_Facts_Entry : FD := mkD Go.Proofs.Tryz.f13 h13 13 F_facts_Facts_Entry S_facts_Facts_Entry T_facts_Facts_Entry
theorem k_facts_Facts_Entry : KM d_facts_Facts_Entry := fun x => by kernel_rfl
theorem c_facts_Facts_Entry : Cert E bodies sites facts_Facts_Entry d_facts_Facts_Entry := by refine ⟨?_,?_,?_,?_,?_,?_,sites_loops,?_,k_facts_Facts_Entry,look_nil⟩ <;> kernel_rfl
def d_wf_used : FD := mkD Go.Proofs.Tryz.f22 h22 22 F_wf_used S_wf_used T_wf_used
theorem k_wf_used : KM d_wf_used := fun x => by kernel_rfl
theorem k_wf_used_0 : KL d_wf_used 0 L_wf_used_0 := fun p => by kernel_rfl
theorem k_wf_used_2 : KL d_wf_used 2 L_wf_used_2 := fun p => by kernel_rfl
theorem k_wf_used_4 : KL d_wf_used 4 L_wf_used_4 := fun p => by kernel_rfl
theorem k_wf_used_6 : KL d_wf_used 6 L_wf_used_6 := fun p => by kernel_rfl
theorem k_wf_used_8 : KL d_wf_used 8 L_wf_used_8 := fun p => by kernel_rfl
theorem k_wf_used_10 : KL d_wf_used 10 L_wf_used_10 := fun p => by kernel_rfl
theorem k_wf_used_12 : KL d_wf_used 12 L_wf_used_12 := fun p => by kernel_rfl
theorem c_wf_used : Cert E bodies sites wf_used d_wf_used := by refine ⟨?_,?_,?_,?_,?_,?_,sites_loops,?_,k_wf_used,look_cons' k_wf_used_0 (look_cons' k_wf_used_2 (look_cons' k_wf_used_4 (look_cons' k_wf_used_6 (look_cons' k_wf_used_8 (look_cons' k_wf_used_10 (look_cons' k_wf_used_12 (look_nil)))))))⟩ <;> kernel_rfl
def d_r10_Machine_Free : FD := mkD Go.Proofs.Tryz.f33 h33 33 F_r10_Machine_Free S_r10_Machine_Free T_r10_Machine_Free
theorem k_r10_Machine_Free : KM d_r10_Machine_Free := fun x => by kernel_rfl
theorem k_r10_Machine_Free_0 : KL d_r10_Machine_Free 0 L_r10_Machine_Free_0 := fun p => by kernel_rfl
theorem c_r10_Machine_Free : Cert E bodies sites r10_Machine_Free d_r10_Machine_Free := by refine ⟨?_,?_,?_,?_,?_,?_,sites_loops,?_,k_r10_Machine_Free,look_cons' k_r10_Machine_Free_0 (look_nil)⟩ <;> kernel_rfl
def d_slices_Contains_Sbool_bool : FD := mkD Go.Proofs.Tryz.f45 h45 45 F_slices_Contains_Sbool_bool S_slices_Contains_Sbool_bool T_slices_Contains_Sbool_bool
theorem k_slices_Contains_Sbool_bool : KM d_slices_Contains_Sbool_bool := fun x => by kernel_rfl
theorem c_slices_Contains_Sbool_bool : Cert E bodies sites slices_Contains_Sbool_bool d_slices_Contains_Sbool_bool := by refine ⟨?_,?_,?_,?_,?_,?_,sites_loops,?_,k_slices_Contains_Sbool_bool,look_nil⟩ <;> kernel_rfl
def d_r3_uses : FD := mkD Go.Proofs.Tryz.f64 h64 64 F_r3_uses S_r3_uses T_r3_uses
theorem k_r3_uses : KM d_r3_uses := fun x => by kernel_rfl
theorem k_r3_uses_0 : KL d_r3_uses 0 L_r3_uses_0 := fun p => by kernel_rfl
theorem k_r3_uses_2 : KL d_r3_uses 2 L_r3_uses_2 := fun p => by kernel_rfl
theorem k_r3_uses_4 : KL d_r3_uses 4 L_r3_uses_4 := fun p => by kernel_rfl
theorem k_r3_uses_6 : KL d_r3_uses 6 L_r3_uses_6 := fun p => by kernel_rfl
theorem k_r3_uses_8 : KL d_r3_uses 8 L_r3_uses_8 := fun p => by kernel_rfl
theorem c_r3_uses : Cert E bodies sites r3_uses d_r3_uses := by refine ⟨?_,?_,?_,?_,?_,?_,sites_loops,?_,k_r3_uses,look_cons' k_r3_uses_0 (look_cons' k_r3_uses_2 (look_cons' k_r3_uses_4 (look_cons' k_r3_uses_6 (look_cons' k_r3_uses_8 (look_nil)))))⟩ <;> kernel_rfl
def d_r3_types : FD := mkD Go.Proofs.Tryz.f65 h65 65 F_r3_types S_r3_types T_r3_types
theorem k_r3_types : KM d_r3_types := fun x => by kernel_rfl
theorem k_r3_types_0 : KL d_r3_types 0 L_r3_types_0 := fun p => by kernel_rfl
theorem k_r3_types_2 : KL d_r3_types 2 L_r3_types_2 := fun p => by kernel_rfl
theorem k_r3_types_4 : KL d_r3_types 4 L_r3_types_4 := fun p => by kernel_rfl
theorem c_r3_types : Cert E bodies sites r3_types d_r3_types := by refine ⟨?_,?_,?_,?_,?_,?_,sites_loops,?_,k_r3_types,look_cons' k_r3_types_0 (look_cons' k_r3_types_2 (look_cons' k_r3_types_4 (look_nil)))⟩ <;> kernel_rfl
def d_r3_Types : FD := mkD Go.Proofs.Tryz.f66 h66 66 F_r3_Types S_r3_Types T_r3_Types
theorem k_r3_Types : KM d_r3_Types := fun x => by kernel_rfl
theorem k_r3_Types_0 : KL d_r3_Types 0 L_r3_Types_0 := fun p => by kernel_rfl
theorem k_r3_Types_2 : KL d_r3_Types 2 L_r3_Types_2 := fun p => by kernel_rfl
theorem c_r3_Types : Cert E bodies sites r3_Types d_r3_Types := by refine ⟨?_,?_,?_,?_,?_,?_,sites_loops,?_,k_r3_Types,look_cons' k_r3_Types_0 (look_cons' k_r3_Types_2 (look_nil))⟩ <;> kernel_rfl
def d_r1_Do : FD := mkD Go.Proofs.Tryz.f69 h69 69 F_r1_Do S_r1_Do T_r1_Do
theorem k_r1_Do : KM d_r1_Do := fun x => by kernel_rfl
theorem c_r1_Do : Cert E bodies sites r1_Do d_r1_Do := by refine ⟨?_,?_,?_,?_,?_,?_,sites_loops,?_,k_r1_Do,look_nil⟩ <;> kernel_rfl
def d_wf_rows : FD := mkD Go.Proofs.Tryz.f77 h77 77 F_wf_rows S_wf_rows T_wf_rows
theorem k_wf_rows : KM d_wf_rows := fun x => by kernel_rfl
theorem k_wf_rows_0 : KL d_wf_rows 0 L_wf_rows_0 := fun p => by kernel_rfl
theorem c_wf_rows : Cert E bodies sites wf_rows d_wf_rows := by refine ⟨?_,?_,?_,?_,?_,?_,sites_loops,?_,k_wf_rows,look_cons' k_wf_rows_0 (look_nil)⟩ <;> kernel_rfl
def d_r3_Size : FD := mkD Go.Proofs.Tryz.f81 h81 81 F_r3_Size S_r3_Size T_r3_Size
theorem k_r3_Size : KM d_r3_Size := fun x => by kernel_rfl
theorem k_r3_Size_0 : KL d_r3_Size 0 L_r3_Size_0 := fun p => by kernel_rfl
theorem c_r3_Size : Cert E bodies sites r3_Size d_r3_Size := by refine ⟨?_,?_,?_,?_,?_,?_,sites_loops,?_,k_r3_Size,look_cons' k_r3_Size_0 (look_nil)⟩ <;> kernel_rfl
def d_r3_Ends : FD := mkD Go.Proofs.Tryz.f84 h84 84 F_r3_Ends S_r3_Ends T_r3_Ends
theorem k_r3_Ends : KM d_r3_Ends := fun x => by kernel_rfl
theorem c_r3_Ends : Cert E bodies sites r3_Ends d_r3_Ends := by refine ⟨?_,?_,?_,?_,?_,?_,sites_loops,?_,k_r3_Ends,look_nil⟩ <;> kernel_rfl
def d_slices_insertionSortCmpFunc_api_Base : FD := mkD Go.Proofs.Tryz.f96 h96 96 F_slices_insertionSortCmpFunc_api_Base S_slices_insertionSortCmpFunc_api_Base T_slices_insertionSortCmpFunc_api_Base
theorem k_slices_insertionSortCmpFunc_api_Base : KM d_slices_insertionSortCmpFunc_api_Base := fun x => by kernel_rfl
theorem k_slices_insertionSortCmpFunc_api_Base_0 : KL d_slices_insertionSortCmpFunc_api_Base 0 L_slices_insertionSortCmpFunc_api_Base_0 := fun p => by kernel_rfl
theorem k_slices_insertionSortCmpFunc_api_Base_2 : KL d_slices_insertionSortCmpFunc_api_Base 2 L_slices_insertionSortCmpFunc_api_Base_2 := fun p => by kernel_rfl
theorem c_slices_insertionSortCmpFunc_api_Base : Cert E bodies sites slices_insertionSortCmpFunc_api_Base d_slices_insertionSortCmpFunc_api_Base := by refine ⟨?_,?_,?_,?_,?_,?_,sites_loops,?_,k_slices_insertionSortCmpFunc_api_Base,look_cons' k_slices_insertionSortCmpFunc_api_Base_0 (look_cons' k_slices_insertionSortCmpFunc_api_Base_2 (look_nil))⟩ <;> kernel_rfl
def d_math_bits_Len64 : FD := mkD Go.Proofs.Tryz.f105 h105 105 F_math_bits_Len64 S_math_bits_Len64 T_math_bits_Len64
theorem k_math_bits_Len64 : KM d_math_bits_Len64 := fun x => by kernel_rfl
theorem c_math_bits_Len64 : Cert E bodies sites math_bits_Len64 d_math_bits_Len64 := by refine ⟨?_,?_,?_,?_,?_,?_,sites_loops,?_,k_math_bits_Len64,look_nil⟩ <;> kernel_rfl
def d_facts_Func_Num : FD := mkD Go.Proofs.Tryz.f12 h12 12 F_facts_Func_Num S_facts_Func_Num T_facts_Func_Num
theorem k_facts_Func_Num : KM d_facts_Func_Num := fun x => by kernel_rfl
theorem c_facts_Func_Num : Cert E bodies sites facts_Func_Num d_facts_Func_Num := by refine ⟨?_,?_,?_,?_,?_,?_,sites_loops,?_,k_facts_Func_Num,look_nil⟩ <;> kernel_rfl
def d_wf_named : FD := mkD Go.Proofs.Tryz.f19 h19 19 F_wf_named S_wf_named T_wf_named
theorem k_wf_named : KM d_wf_named := fun x => by kernel_rfl
theorem k_wf_named_0 : KL d_wf_named 0 L_wf_named_0 := fun p => by kernel_rfl
theorem k_wf_named_2 : KL d_wf_named 2 L_wf_named_2 := fun p => by kernel_rfl
theorem k_wf_named_4 : KL d_wf_named 4 L_wf_named_4 := fun p => by kernel_rfl
theorem k_wf_named_6 : KL d_wf_named 6 L_wf_named_6 := fun p => by kernel_rfl
theorem k_wf_named_8 : KL d_wf_named 8 L_wf_named_8 := fun p => by kernel_rfl
theorem c_wf_named : Cert E bodies sites wf_named d_wf_named := by refine ⟨?_,?_,?_,?_,?_,?_,sites_loops,?_,k_wf_named,look_cons' k_wf_named_0 (look_cons' k_wf_named_2 (look_cons' k_wf_named_4 (look_cons' k_wf_named_6 (look_cons' k_wf_named_8 (look_nil)))))⟩ <;> kernel_rfl
def d_r3_Check : FD := mkD Go.Proofs.Tryz.f30 h30 30 F_r3_Check S_r3_Check T_r3_Check
theorem k_r3_Check : KM d_r3_Check := fun x => by kernel_rfl
theorem k_r3_Check_0 : KL d_r3_Check 0 L_r3_Check_0 := fun p => by kernel_rfl
theorem k_r3_Check_2 : KL d_r3_Check 2 L_r3_Check_2 := fun p => by kernel_rfl
theorem k_r3_Check_4 : KL d_r3_Check 4 L_r3_Check_4 := fun p => by kernel_rfl
theorem c_r3_Check : Cert E bodies sites r3_Check d_r3_Check := by refine ⟨?_,?_,?_,?_,?_,?_,sites_loops,?_,k_r3_Check,look_cons' k_r3_Check_0 (look_cons' k_r3_Check_2 (look_cons' k_r3_Check_4 (look_nil)))⟩ <;> kernel_rfl
def d_wf_Ends : FD := mkD Go.Proofs.Tryz.f44 h44 44 F_wf_Ends S_wf_Ends T_wf_Ends
theorem k_wf_Ends : KM d_wf_Ends := fun x => by kernel_rfl
theorem c_wf_Ends : Cert E bodies sites wf_Ends d_wf_Ends := by refine ⟨?_,?_,?_,?_,?_,?_,sites_loops,?_,k_wf_Ends,look_nil⟩ <;> kernel_rfl
def d_flow_Reach : FD := mkD Go.Proofs.Tryz.f46 h46 46 F_flow_Reach S_flow_Reach T_flow_Reach
theorem k_flow_Reach : KM d_flow_Reach := fun x => by kernel_rfl
theorem k_flow_Reach_0 : KL d_flow_Reach 0 L_flow_Reach_0 := fun p => by kernel_rfl
theorem c_flow_Reach : Cert E bodies sites flow_Reach d_flow_Reach := by refine ⟨?_,?_,?_,?_,?_,?_,sites_loops,?_,k_flow_Reach,look_cons' k_flow_Reach_0 (look_nil)⟩ <;> kernel_rfl
def d_ir_copyIns : FD := mkD Go.Proofs.Tryz.f58 h58 58 F_ir_copyIns S_ir_copyIns T_ir_copyIns
theorem k_ir_copyIns : KM d_ir_copyIns := fun x => by kernel_rfl
theorem c_ir_copyIns : Cert E bodies sites ir_copyIns d_ir_copyIns := by refine ⟨?_,?_,?_,?_,?_,?_,sites_loops,?_,k_ir_copyIns,look_nil⟩ <;> kernel_rfl
def d_r3_limits : FD := mkD Go.Proofs.Tryz.f59 h59 59 F_r3_limits S_r3_limits T_r3_limits
theorem k_r3_limits : KM d_r3_limits := fun x => by kernel_rfl
theorem k_r3_limits_0 : KL d_r3_limits 0 L_r3_limits_0 := fun p => by kernel_rfl
theorem k_r3_limits_2 : KL d_r3_limits 2 L_r3_limits_2 := fun p => by kernel_rfl
theorem k_r3_limits_4 : KL d_r3_limits 4 L_r3_limits_4 := fun p => by kernel_rfl
theorem k_r3_limits_6 : KL d_r3_limits 6 L_r3_limits_6 := fun p => by kernel_rfl
theorem c_r3_limits : Cert E bodies sites r3_limits d_r3_limits := by refine ⟨?_,?_,?_,?_,?_,?_,sites_loops,?_,k_r3_limits,look_cons' k_r3_limits_0 (look_cons' k_r3_limits_2 (look_cons' k_r3_limits_4 (look_cons' k_r3_limits_6 (look_nil))))⟩ <;> kernel_rfl
def d_slices_Index_Sbool_bool : FD := mkD Go.Proofs.Tryz.f71 h71 71 F_slices_Index_Sbool_bool S_slices_Index_Sbool_bool T_slices_Index_Sbool_bool
theorem k_slices_Index_Sbool_bool : KM d_slices_Index_Sbool_bool := fun x => by kernel_rfl
theorem k_slices_Index_Sbool_bool_0 : KL d_slices_Index_Sbool_bool 0 L_slices_Index_Sbool_bool_0 := fun p => by kernel_rfl
theorem c_slices_Index_Sbool_bool : Cert E bodies sites slices_Index_Sbool_bool d_slices_Index_Sbool_bool := by refine ⟨?_,?_,?_,?_,?_,?_,sites_loops,?_,k_slices_Index_Sbool_bool,look_cons' k_slices_Index_Sbool_bool_0 (look_nil)⟩ <;> kernel_rfl
def d_dom_nearest : FD := mkD Go.Proofs.Tryz.f74 h74 74 F_dom_nearest S_dom_nearest T_dom_nearest
theorem k_dom_nearest : KM d_dom_nearest := fun x => by kernel_rfl
theorem k_dom_nearest_0 : KL d_dom_nearest 0 L_dom_nearest_0 := fun p => by kernel_rfl
theorem k_dom_nearest_2 : KL d_dom_nearest 2 L_dom_nearest_2 := fun p => by kernel_rfl
theorem c_dom_nearest : Cert E bodies sites dom_nearest d_dom_nearest := by refine ⟨?_,?_,?_,?_,?_,?_,sites_loops,?_,k_dom_nearest,look_cons' k_dom_nearest_0 (look_cons' k_dom_nearest_2 (look_nil))⟩ <;> kernel_rfl
def d_r3_form : FD := mkD Go.Proofs.Tryz.f82 h82 82 F_r3_form S_r3_form T_r3_form
theorem k_r3_form : KM d_r3_form := fun x => by kernel_rfl
theorem c_r3_form : Cert E bodies sites r3_form d_r3_form := by refine ⟨?_,?_,?_,?_,?_,?_,sites_loops,?_,k_r3_form,look_nil⟩ <;> kernel_rfl
def d_flow_walker_visit : FD := mkD Go.Proofs.Tryz.f93 h93 93 F_flow_walker_visit S_flow_walker_visit T_flow_walker_visit
theorem k_flow_walker_visit : KM d_flow_walker_visit := fun x => by kernel_rfl
theorem k_flow_walker_visit_0 : KL d_flow_walker_visit 0 L_flow_walker_visit_0 := fun p => by kernel_rfl
theorem c_flow_walker_visit : Cert E bodies sites flow_walker_visit d_flow_walker_visit := by refine ⟨?_,?_,?_,?_,?_,?_,sites_loops,?_,k_flow_walker_visit,look_cons' k_flow_walker_visit_0 (look_nil)⟩ <;> kernel_rfl
def d_math_bits_Len32 : FD := mkD Go.Proofs.Tryz.f104 h104 104 F_math_bits_Len32 S_math_bits_Len32 T_math_bits_Len32
theorem k_math_bits_Len32 : KM d_math_bits_Len32 := fun x => by kernel_rfl
theorem c_math_bits_Len32 : Cert E bodies sites math_bits_Len32 d_math_bits_Len32 := by refine ⟨?_,?_,?_,?_,?_,?_,sites_loops,?_,k_math_bits_Len32,look_nil⟩ <;> kernel_rfl
def d_r3_Name : FD := mkD Go.Proofs.Tryz.f107 h107 107 F_r3_Name S_r3_Name T_r3_Name
theorem k_r3_Name : KM d_r3_Name := fun x => by kernel_rfl
theorem k_r3_Name_0 : KL d_r3_Name 0 L_r3_Name_0 := fun p => by kernel_rfl
theorem c_r3_Name : Cert E bodies sites r3_Name d_r3_Name := by refine ⟨?_,?_,?_,?_,?_,?_,sites_loops,?_,k_r3_Name,look_cons' k_r3_Name_0 (look_nil)⟩ <;> kernel_rfl
def d_law29_table : FD := mkD Go.Proofs.Tryz.f5 h5 5 F_law29_table S_law29_table T_law29_table
theorem k_law29_table : KM d_law29_table := fun x => by kernel_rfl
theorem c_law29_table : Cert E bodies sites law29_table d_law29_table := by refine ⟨?_,?_,?_,?_,?_,?_,sites_loops,?_,k_law29_table,look_nil⟩ <;> kernel_rfl
def d_wf_small : FD := mkD Go.Proofs.Tryz.f17 h17 17 F_wf_small S_wf_small T_wf_small
theorem k_wf_small : KM d_wf_small := fun x => by kernel_rfl
theorem k_wf_small_0 : KL d_wf_small 0 L_wf_small_0 := fun p => by kernel_rfl
theorem k_wf_small_2 : KL d_wf_small 2 L_wf_small_2 := fun p => by kernel_rfl
theorem k_wf_small_4 : KL d_wf_small 4 L_wf_small_4 := fun p => by kernel_rfl
theorem k_wf_small_6 : KL d_wf_small 6 L_wf_small_6 := fun p => by kernel_rfl
theorem c_wf_small : Cert E bodies sites wf_small d_wf_small := by refine ⟨?_,?_,?_,?_,?_,?_,sites_loops,?_,k_wf_small,look_cons' k_wf_small_0 (look_cons' k_wf_small_2 (look_cons' k_wf_small_4 (look_cons' k_wf_small_6 (look_nil))))⟩ <;> kernel_rfl
def d_wf_formed : FD := mkD Go.Proofs.Tryz.f18 h18 18 F_wf_formed S_wf_formed T_wf_formed
theorem k_wf_formed : KM d_wf_formed := fun x => by kernel_rfl
theorem k_wf_formed_0 : KL d_wf_formed 0 L_wf_formed_0 := fun p => by kernel_rfl
theorem k_wf_formed_2 : KL d_wf_formed 2 L_wf_formed_2 := fun p => by kernel_rfl
theorem k_wf_formed_4 : KL d_wf_formed 4 L_wf_formed_4 := fun p => by kernel_rfl
theorem k_wf_formed_6 : KL d_wf_formed 6 L_wf_formed_6 := fun p => by kernel_rfl
theorem k_wf_formed_8 : KL d_wf_formed 8 L_wf_formed_8 := fun p => by kernel_rfl
theorem k_wf_formed_10 : KL d_wf_formed 10 L_wf_formed_10 := fun p => by kernel_rfl
theorem c_wf_formed : Cert E bodies sites wf_formed d_wf_formed := by refine ⟨?_,?_,?_,?_,?_,?_,sites_loops,?_,k_wf_formed,look_cons' k_wf_formed_0 (look_cons' k_wf_formed_2 (look_cons' k_wf_formed_4 (look_cons' k_wf_formed_6 (look_cons' k_wf_formed_8 (look_cons' k_wf_formed_10 (look_nil))))))⟩ <;> kernel_rfl
def d_wf_known : FD := mkD Go.Proofs.Tryz.f20 h20 20 F_wf_known S_wf_known T_wf_known
theorem k_wf_known : KM d_wf_known := fun x => by kernel_rfl
theorem k_wf_known_0 : KL d_wf_known 0 L_wf_known_0 := fun p => by kernel_rfl
theorem k_wf_known_2 : KL d_wf_known 2 L_wf_known_2 := fun p => by kernel_rfl
theorem k_wf_known_4 : KL d_wf_known 4 L_wf_known_4 := fun p => by kernel_rfl
theorem k_wf_known_6 : KL d_wf_known 6 L_wf_known_6 := fun p => by kernel_rfl
theorem k_wf_known_8 : KL d_wf_known 8 L_wf_known_8 := fun p => by kernel_rfl
theorem c_wf_known : Cert E bodies sites wf_known d_wf_known := by refine ⟨?_,?_,?_,?_,?_,?_,sites_loops,?_,k_wf_known,look_cons' k_wf_known_0 (look_cons' k_wf_known_2 (look_cons' k_wf_known_4 (look_cons' k_wf_known_6 (look_cons' k_wf_known_8 (look_nil)))))⟩ <;> kernel_rfl
def d_wf_typed : FD := mkD Go.Proofs.Tryz.f23 h23 23 F_wf_typed S_wf_typed T_wf_typed
theorem k_wf_typed : KM d_wf_typed := fun x => by kernel_rfl
theorem k_wf_typed_0 : KL d_wf_typed 0 L_wf_typed_0 := fun p => by kernel_rfl
theorem k_wf_typed_2 : KL d_wf_typed 2 L_wf_typed_2 := fun p => by kernel_rfl
theorem c_wf_typed : Cert E bodies sites wf_typed d_wf_typed := by refine ⟨?_,?_,?_,?_,?_,?_,sites_loops,?_,k_wf_typed,look_cons' k_wf_typed_0 (look_cons' k_wf_typed_2 (look_nil))⟩ <;> kernel_rfl
def d_facts_Func_offs : FD := mkD Go.Proofs.Tryz.f26 h26 26 F_facts_Func_offs S_facts_Func_offs T_facts_Func_offs
theorem k_facts_Func_offs : KM d_facts_Func_offs := fun x => by kernel_rfl
theorem k_facts_Func_offs_0 : KL d_facts_Func_offs 0 L_facts_Func_offs_0 := fun p => by kernel_rfl
theorem c_facts_Func_offs : Cert E bodies sites facts_Func_offs d_facts_Func_offs := by refine ⟨?_,?_,?_,?_,?_,?_,sites_loops,?_,k_facts_Func_offs,look_cons' k_facts_Func_offs_0 (look_nil)⟩ <;> kernel_rfl
def d_slices_Clone_Sint_int : FD := mkD Go.Proofs.Tryz.f27 h27 27 F_slices_Clone_Sint_int S_slices_Clone_Sint_int T_slices_Clone_Sint_int
theorem k_slices_Clone_Sint_int : KM d_slices_Clone_Sint_int := fun x => by kernel_rfl
theorem c_slices_Clone_Sint_int : Cert E bodies sites slices_Clone_Sint_int d_slices_Clone_Sint_int := by refine ⟨?_,?_,?_,?_,?_,?_,sites_loops,?_,k_slices_Clone_Sint_int,look_nil⟩ <;> kernel_rfl
def d_r10_Machine_trap : FD := mkD Go.Proofs.Tryz.f38 h38 38 F_r10_Machine_trap S_r10_Machine_trap T_r10_Machine_trap
theorem k_r10_Machine_trap : KM d_r10_Machine_trap := fun x => by kernel_rfl
theorem c_r10_Machine_trap : Cert E bodies sites r10_Machine_trap d_r10_Machine_trap := by refine ⟨?_,?_,?_,?_,?_,?_,sites_loops,?_,k_r10_Machine_trap,look_nil⟩ <;> kernel_rfl
def d_ir_Size : FD := mkD Go.Proofs.Tryz.f40 h40 40 F_ir_Size S_ir_Size T_ir_Size
theorem k_ir_Size : KM d_ir_Size := fun x => by kernel_rfl
theorem k_ir_Size_0 : KL d_ir_Size 0 L_ir_Size_0 := fun p => by kernel_rfl
theorem c_ir_Size : Cert E bodies sites ir_Size d_ir_Size := by refine ⟨?_,?_,?_,?_,?_,?_,sites_loops,?_,k_ir_Size,look_cons' k_ir_Size_0 (look_nil)⟩ <;> kernel_rfl
def d_slices_SortFunc_Sapi_Base_api_Base : FD := mkD Go.Proofs.Tryz.f54 h54 54 F_slices_SortFunc_Sapi_Base_api_Base S_slices_SortFunc_Sapi_Base_api_Base T_slices_SortFunc_Sapi_Base_api_Base
theorem k_slices_SortFunc_Sapi_Base_api_Base : KM d_slices_SortFunc_Sapi_Base_api_Base := fun x => by kernel_rfl
theorem c_slices_SortFunc_Sapi_Base_api_Base : Cert E bodies sites slices_SortFunc_Sapi_Base_api_Base d_slices_SortFunc_Sapi_Base_api_Base := by refine ⟨?_,?_,?_,?_,?_,?_,sites_loops,?_,k_slices_SortFunc_Sapi_Base_api_Base,look_nil⟩ <;> kernel_rfl
def d_flow_walked : FD := mkD Go.Proofs.Tryz.f72 h72 72 F_flow_walked S_flow_walked T_flow_walked
theorem k_flow_walked : KM d_flow_walked := fun x => by kernel_rfl
theorem c_flow_walked : Cert E bodies sites flow_walked d_flow_walked := by refine ⟨?_,?_,?_,?_,?_,?_,sites_loops,?_,k_flow_walked,look_nil⟩ <;> kernel_rfl
def d_dom_over : FD := mkD Go.Proofs.Tryz.f75 h75 75 F_dom_over S_dom_over T_dom_over
theorem k_dom_over : KM d_dom_over := fun x => by kernel_rfl
theorem k_dom_over_0 : KL d_dom_over 0 L_dom_over_0 := fun p => by kernel_rfl
theorem k_dom_over_2 : KL d_dom_over 2 L_dom_over_2 := fun p => by kernel_rfl
theorem k_dom_over_4 : KL d_dom_over 4 L_dom_over_4 := fun p => by kernel_rfl
theorem c_dom_over : Cert E bodies sites dom_over d_dom_over := by refine ⟨?_,?_,?_,?_,?_,?_,sites_loops,?_,k_dom_over,look_cons' k_dom_over_0 (look_cons' k_dom_over_2 (look_cons' k_dom_over_4 (look_nil)))⟩ <;> kernel_rfl
def d_r3_Prev : FD := mkD Go.Proofs.Tryz.f86 h86 86 F_r3_Prev S_r3_Prev T_r3_Prev
theorem k_r3_Prev : KM d_r3_Prev := fun x => by kernel_rfl
theorem k_r3_Prev_0 : KL d_r3_Prev 0 L_r3_Prev_0 := fun p => by kernel_rfl
theorem k_r3_Prev_2 : KL d_r3_Prev 2 L_r3_Prev_2 := fun p => by kernel_rfl
theorem c_r3_Prev : Cert E bodies sites r3_Prev d_r3_Prev := by refine ⟨?_,?_,?_,?_,?_,?_,sites_loops,?_,k_r3_Prev,look_cons' k_r3_Prev_0 (look_cons' k_r3_Prev_2 (look_nil))⟩ <;> kernel_rfl
def d_r1_bit : FD := mkD Go.Proofs.Tryz.f92 h92 92 F_r1_bit S_r1_bit T_r1_bit
theorem k_r1_bit : KM d_r1_bit := fun x => by kernel_rfl
theorem c_r1_bit : Cert E bodies sites r1_bit d_r1_bit := by refine ⟨?_,?_,?_,?_,?_,?_,sites_loops,?_,k_r1_bit,look_nil⟩ <;> kernel_rfl
def d_slices_nextPowerOfTwo : FD := mkD Go.Proofs.Tryz.f112 h112 112 F_slices_nextPowerOfTwo S_slices_nextPowerOfTwo T_slices_nextPowerOfTwo
theorem k_slices_nextPowerOfTwo : KM d_slices_nextPowerOfTwo := fun x => by kernel_rfl
theorem c_slices_nextPowerOfTwo : Cert E bodies sites slices_nextPowerOfTwo d_slices_nextPowerOfTwo := by refine ⟨?_,?_,?_,?_,?_,?_,sites_loops,?_,k_slices_nextPowerOfTwo,look_nil⟩ <;> kernel_rfl
def d_r3_In : FD := mkD Go.Proofs.Tryz.f117 h117 117 F_r3_In S_r3_In T_r3_In
theorem k_r3_In : KM d_r3_In := fun x => by kernel_rfl
theorem k_r3_In_0 : KL d_r3_In 0 L_r3_In_0 := fun p => by kernel_rfl
theorem c_r3_In : Cert E bodies sites r3_In d_r3_In := by refine ⟨?_,?_,?_,?_,?_,?_,sites_loops,?_,k_r3_In,look_cons' k_r3_In_0 (look_nil)⟩ <;> kernel_rfl
def d_ir_Copy : FD := mkD Go.Proofs.Tryz.f11 h11 11 F_ir_Copy S_ir_Copy T_ir_Copy
theorem k_ir_Copy : KM d_ir_Copy := fun x => by kernel_rfl
theorem k_ir_Copy_0 : KL d_ir_Copy 0 L_ir_Copy_0 := fun p => by kernel_rfl
theorem k_ir_Copy_2 : KL d_ir_Copy 2 L_ir_Copy_2 := fun p => by kernel_rfl
theorem k_ir_Copy_4 : KL d_ir_Copy 4 L_ir_Copy_4 := fun p => by kernel_rfl
theorem k_ir_Copy_6 : KL d_ir_Copy 6 L_ir_Copy_6 := fun p => by kernel_rfl
theorem c_ir_Copy : Cert E bodies sites ir_Copy d_ir_Copy := by refine ⟨?_,?_,?_,?_,?_,?_,sites_loops,?_,k_ir_Copy,look_cons' k_ir_Copy_0 (look_cons' k_ir_Copy_2 (look_cons' k_ir_Copy_4 (look_cons' k_ir_Copy_6 (look_nil))))⟩ <;> kernel_rfl
def d_facts_Facts_Fits : FD := mkD Go.Proofs.Tryz.f14 h14 14 F_facts_Facts_Fits S_facts_Facts_Fits T_facts_Facts_Fits
theorem k_facts_Facts_Fits : KM d_facts_Facts_Fits := fun x => by kernel_rfl
theorem k_facts_Facts_Fits_0 : KL d_facts_Facts_Fits 0 L_facts_Facts_Fits_0 := fun p => by kernel_rfl
theorem c_facts_Facts_Fits : Cert E bodies sites facts_Facts_Fits d_facts_Facts_Fits := by refine ⟨?_,?_,?_,?_,?_,?_,sites_loops,?_,k_facts_Facts_Fits,look_cons' k_facts_Facts_Fits_0 (look_nil)⟩ <;> kernel_rfl
def d_wf_flows : FD := mkD Go.Proofs.Tryz.f21 h21 21 F_wf_flows S_wf_flows T_wf_flows
theorem k_wf_flows : KM d_wf_flows := fun x => by kernel_rfl
theorem k_wf_flows_0 : KL d_wf_flows 0 L_wf_flows_0 := fun p => by kernel_rfl
theorem k_wf_flows_2 : KL d_wf_flows 2 L_wf_flows_2 := fun p => by kernel_rfl
theorem k_wf_flows_4 : KL d_wf_flows 4 L_wf_flows_4 := fun p => by kernel_rfl
theorem k_wf_flows_6 : KL d_wf_flows 6 L_wf_flows_6 := fun p => by kernel_rfl
theorem k_wf_flows_8 : KL d_wf_flows 8 L_wf_flows_8 := fun p => by kernel_rfl
theorem c_wf_flows : Cert E bodies sites wf_flows d_wf_flows := by refine ⟨?_,?_,?_,?_,?_,?_,sites_loops,?_,k_wf_flows,look_cons' k_wf_flows_0 (look_cons' k_wf_flows_2 (look_cons' k_wf_flows_4 (look_cons' k_wf_flows_6 (look_cons' k_wf_flows_8 (look_nil)))))⟩ <;> kernel_rfl
def d_r3_Values : FD := mkD Go.Proofs.Tryz.f32 h32 32 F_r3_Values S_r3_Values T_r3_Values
theorem k_r3_Values : KM d_r3_Values := fun x => by kernel_rfl
theorem c_r3_Values : Cert E bodies sites r3_Values d_r3_Values := by refine ⟨?_,?_,?_,?_,?_,?_,sites_loops,?_,k_r3_Values,look_nil⟩ <;> kernel_rfl
def d_dom_Over : FD := mkD Go.Proofs.Tryz.f49 h49 49 F_dom_Over S_dom_Over T_dom_Over
theorem k_dom_Over : KM d_dom_Over := fun x => by kernel_rfl
theorem c_dom_Over : Cert E bodies sites dom_Over d_dom_Over := by refine ⟨?_,?_,?_,?_,?_,?_,sites_loops,?_,k_dom_Over,look_nil⟩ <;> kernel_rfl
def d_r3_flows : FD := mkD Go.Proofs.Tryz.f63 h63 63 F_r3_flows S_r3_flows T_r3_flows
theorem k_r3_flows : KM d_r3_flows := fun x => by kernel_rfl
theorem k_r3_flows_0 : KL d_r3_flows 0 L_r3_flows_0 := fun p => by kernel_rfl
theorem k_r3_flows_2 : KL d_r3_flows 2 L_r3_flows_2 := fun p => by kernel_rfl
theorem k_r3_flows_4 : KL d_r3_flows 4 L_r3_flows_4 := fun p => by kernel_rfl
theorem k_r3_flows_6 : KL d_r3_flows 6 L_r3_flows_6 := fun p => by kernel_rfl
theorem k_r3_flows_8 : KL d_r3_flows 8 L_r3_flows_8 := fun p => by kernel_rfl
theorem c_r3_flows : Cert E bodies sites r3_flows d_r3_flows := by refine ⟨?_,?_,?_,?_,?_,?_,sites_loops,?_,k_r3_flows,look_cons' k_r3_flows_0 (look_cons' k_r3_flows_2 (look_cons' k_r3_flows_4 (look_cons' k_r3_flows_6 (look_cons' k_r3_flows_8 (look_nil)))))⟩ <;> kernel_rfl
def d_wf_Mark : FD := mkD Go.Proofs.Tryz.f70 h70 70 F_wf_Mark S_wf_Mark T_wf_Mark
theorem k_wf_Mark : KM d_wf_Mark := fun x => by kernel_rfl
theorem c_wf_Mark : Cert E bodies sites wf_Mark d_wf_Mark := by refine ⟨?_,?_,?_,?_,?_,?_,sites_loops,?_,k_wf_Mark,look_nil⟩ <;> kernel_rfl
def d_r3_Reach : FD := mkD Go.Proofs.Tryz.f85 h85 85 F_r3_Reach S_r3_Reach T_r3_Reach
theorem k_r3_Reach : KM d_r3_Reach := fun x => by kernel_rfl
theorem c_r3_Reach : Cert E bodies sites r3_Reach d_r3_Reach := by refine ⟨?_,?_,?_,?_,?_,?_,sites_loops,?_,k_r3_Reach,look_nil⟩ <;> kernel_rfl
def d_r3_Where : FD := mkD Go.Proofs.Tryz.f88 h88 88 F_r3_Where S_r3_Where T_r3_Where
theorem k_r3_Where : KM d_r3_Where := fun x => by kernel_rfl
theorem k_r3_Where_0 : KL d_r3_Where 0 L_r3_Where_0 := fun p => by kernel_rfl
theorem k_r3_Where_2 : KL d_r3_Where 2 L_r3_Where_2 := fun p => by kernel_rfl
theorem k_r3_Where_4 : KL d_r3_Where 4 L_r3_Where_4 := fun p => by kernel_rfl
theorem c_r3_Where : Cert E bodies sites r3_Where d_r3_Where := by refine ⟨?_,?_,?_,?_,?_,?_,sites_loops,?_,k_r3_Where,look_cons' k_r3_Where_0 (look_cons' k_r3_Where_2 (look_cons' k_r3_Where_4 (look_nil)))⟩ <;> kernel_rfl
def d_r3_Doms : FD := mkD Go.Proofs.Tryz.f89 h89 89 F_r3_Doms S_r3_Doms T_r3_Doms
theorem k_r3_Doms : KM d_r3_Doms := fun x => by kernel_rfl
theorem k_r3_Doms_0 : KL d_r3_Doms 0 L_r3_Doms_0 := fun p => by kernel_rfl
theorem k_r3_Doms_2 : KL d_r3_Doms 2 L_r3_Doms_2 := fun p => by kernel_rfl
theorem c_r3_Doms : Cert E bodies sites r3_Doms d_r3_Doms := by refine ⟨?_,?_,?_,?_,?_,?_,sites_loops,?_,k_r3_Doms,look_cons' k_r3_Doms_0 (look_cons' k_r3_Doms_2 (look_nil))⟩ <;> kernel_rfl
def d_r3_fits : FD := mkD Go.Proofs.Tryz.f90 h90 90 F_r3_fits S_r3_fits T_r3_fits
theorem k_r3_fits : KM d_r3_fits := fun x => by kernel_rfl
theorem k_r3_fits_1 : KL d_r3_fits 1 L_r3_fits_1 := fun p => by kernel_rfl
theorem c_r3_fits : Cert E bodies sites r3_fits d_r3_fits := by refine ⟨?_,?_,?_,?_,?_,?_,sites_loops,?_,k_r3_fits,look_cons' k_r3_fits_1 (look_nil)⟩ <;> kernel_rfl
def d_dom_without : FD := mkD Go.Proofs.Tryz.f95 h95 95 F_dom_without S_dom_without T_dom_without
theorem k_dom_without : KM d_dom_without := fun x => by kernel_rfl
theorem k_dom_without_0 : KL d_dom_without 0 L_dom_without_0 := fun p => by kernel_rfl
theorem k_dom_without_2 : KL d_dom_without 2 L_dom_without_2 := fun p => by kernel_rfl
theorem c_dom_without : Cert E bodies sites dom_without d_dom_without := by refine ⟨?_,?_,?_,?_,?_,?_,sites_loops,?_,k_dom_without,look_cons' k_dom_without_0 (look_cons' k_dom_without_2 (look_nil))⟩ <;> kernel_rfl
def d_r3_Mark : FD := mkD Go.Proofs.Tryz.f106 h106 106 F_r3_Mark S_r3_Mark T_r3_Mark
theorem k_r3_Mark : KM d_r3_Mark := fun x => by kernel_rfl
theorem c_r3_Mark : Cert E bodies sites r3_Mark d_r3_Mark := by refine ⟨?_,?_,?_,?_,?_,?_,sites_loops,?_,k_r3_Mark,look_nil⟩ <;> kernel_rfl
def d_r3_Next : FD := mkD Go.Proofs.Tryz.f109 h109 109 F_r3_Next S_r3_Next T_r3_Next
theorem k_r3_Next : KM d_r3_Next := fun x => by kernel_rfl
theorem k_r3_Next_0 : KL d_r3_Next 0 L_r3_Next_0 := fun p => by kernel_rfl
theorem c_r3_Next : Cert E bodies sites r3_Next d_r3_Next := by refine ⟨?_,?_,?_,?_,?_,?_,sites_loops,?_,k_r3_Next,look_cons' k_r3_Next_0 (look_nil)⟩ <;> kernel_rfl
def d_slices_Index_Sint_int : FD := mkD Go.Proofs.Tryz.f110 h110 110 F_slices_Index_Sint_int S_slices_Index_Sint_int T_slices_Index_Sint_int
theorem k_slices_Index_Sint_int : KM d_slices_Index_Sint_int := fun x => by kernel_rfl
theorem k_slices_Index_Sint_int_0 : KL d_slices_Index_Sint_int 0 L_slices_Index_Sint_int_0 := fun p => by kernel_rfl
theorem c_slices_Index_Sint_int : Cert E bodies sites slices_Index_Sint_int d_slices_Index_Sint_int := by refine ⟨?_,?_,?_,?_,?_,?_,sites_loops,?_,k_slices_Index_Sint_int,look_cons' k_slices_Index_Sint_int_0 (look_nil)⟩ <;> kernel_rfl
def d_keep_Ops : FD := mkD Go.Proofs.Tryz.f8 h8 8 F_keep_Ops S_keep_Ops T_keep_Ops
theorem k_keep_Ops : KM d_keep_Ops := fun x => by kernel_rfl
theorem k_keep_Ops_0 : KL d_keep_Ops 0 L_keep_Ops_0 := fun p => by kernel_rfl
theorem k_keep_Ops_2 : KL d_keep_Ops 2 L_keep_Ops_2 := fun p => by kernel_rfl
theorem k_keep_Ops_4 : KL d_keep_Ops 4 L_keep_Ops_4 := fun p => by kernel_rfl
theorem c_keep_Ops : Cert E bodies sites keep_Ops d_keep_Ops := by refine ⟨?_,?_,?_,?_,?_,?_,sites_loops,?_,k_keep_Ops,look_cons' k_keep_Ops_0 (look_cons' k_keep_Ops_2 (look_cons' k_keep_Ops_4 (look_nil)))⟩ <;> kernel_rfl
def d_ir_Types : FD := mkD Go.Proofs.Tryz.f24 h24 24 F_ir_Types S_ir_Types T_ir_Types
theorem k_ir_Types : KM d_ir_Types := fun x => by kernel_rfl
theorem k_ir_Types_0 : KL d_ir_Types 0 L_ir_Types_0 := fun p => by kernel_rfl
theorem k_ir_Types_2 : KL d_ir_Types 2 L_ir_Types_2 := fun p => by kernel_rfl
theorem c_ir_Types : Cert E bodies sites ir_Types d_ir_Types := by refine ⟨?_,?_,?_,?_,?_,?_,sites_loops,?_,k_ir_Types,look_cons' k_ir_Types_0 (look_cons' k_ir_Types_2 (look_nil))⟩ <;> kernel_rfl
def d_wf_shaped : FD := mkD Go.Proofs.Tryz.f42 h42 42 F_wf_shaped S_wf_shaped T_wf_shaped
theorem k_wf_shaped : KM d_wf_shaped := fun x => by kernel_rfl
theorem c_wf_shaped : Cert E bodies sites wf_shaped d_wf_shaped := by refine ⟨?_,?_,?_,?_,?_,?_,sites_loops,?_,k_wf_shaped,look_nil⟩ <;> kernel_rfl
def d_slices_Equal_Sint_int : FD := mkD Go.Proofs.Tryz.f48 h48 48 F_slices_Equal_Sint_int S_slices_Equal_Sint_int T_slices_Equal_Sint_int
theorem k_slices_Equal_Sint_int : KM d_slices_Equal_Sint_int := fun x => by kernel_rfl
theorem k_slices_Equal_Sint_int_0 : KL d_slices_Equal_Sint_int 0 L_slices_Equal_Sint_int_0 := fun p => by kernel_rfl
theorem c_slices_Equal_Sint_int : Cert E bodies sites slices_Equal_Sint_int d_slices_Equal_Sint_int := by refine ⟨?_,?_,?_,?_,?_,?_,sites_loops,?_,k_slices_Equal_Sint_int,look_cons' k_slices_Equal_Sint_int_0 (look_nil)⟩ <;> kernel_rfl
def d_wf_ahead : FD := mkD Go.Proofs.Tryz.f50 h50 50 F_wf_ahead S_wf_ahead T_wf_ahead
theorem k_wf_ahead : KM d_wf_ahead := fun x => by kernel_rfl
theorem k_wf_ahead_0 : KL d_wf_ahead 0 L_wf_ahead_0 := fun p => by kernel_rfl
theorem k_wf_ahead_2 : KL d_wf_ahead 2 L_wf_ahead_2 := fun p => by kernel_rfl
theorem c_wf_ahead : Cert E bodies sites wf_ahead d_wf_ahead := by refine ⟨?_,?_,?_,?_,?_,?_,sites_loops,?_,k_wf_ahead,look_cons' k_wf_ahead_0 (look_cons' k_wf_ahead_2 (look_nil))⟩ <;> kernel_rfl
def d_slices_Clone_Sapi_Base_api_Base : FD := mkD Go.Proofs.Tryz.f53 h53 53 F_slices_Clone_Sapi_Base_api_Base S_slices_Clone_Sapi_Base_api_Base T_slices_Clone_Sapi_Base_api_Base
theorem k_slices_Clone_Sapi_Base_api_Base : KM d_slices_Clone_Sapi_Base_api_Base := fun x => by kernel_rfl
theorem c_slices_Clone_Sapi_Base_api_Base : Cert E bodies sites slices_Clone_Sapi_Base_api_Base d_slices_Clone_Sapi_Base_api_Base := by refine ⟨?_,?_,?_,?_,?_,?_,sites_loops,?_,k_slices_Clone_Sapi_Base_api_Base,look_nil⟩ <;> kernel_rfl
def d_facts_Func_off : FD := mkD Go.Proofs.Tryz.f57 h57 57 F_facts_Func_off S_facts_Func_off T_facts_Func_off
theorem k_facts_Func_off : KM d_facts_Func_off := fun x => by kernel_rfl
theorem c_facts_Func_off : Cert E bodies sites facts_Func_off d_facts_Func_off := by refine ⟨?_,?_,?_,?_,?_,?_,sites_loops,?_,k_facts_Func_off,look_nil⟩ <;> kernel_rfl
def d_r3_forms : FD := mkD Go.Proofs.Tryz.f60 h60 60 F_r3_forms S_r3_forms T_r3_forms
theorem k_r3_forms : KM d_r3_forms := fun x => by kernel_rfl
theorem k_r3_forms_0 : KL d_r3_forms 0 L_r3_forms_0 := fun p => by kernel_rfl
theorem k_r3_forms_2 : KL d_r3_forms 2 L_r3_forms_2 := fun p => by kernel_rfl
theorem k_r3_forms_4 : KL d_r3_forms 4 L_r3_forms_4 := fun p => by kernel_rfl
theorem k_r3_forms_6 : KL d_r3_forms 6 L_r3_forms_6 := fun p => by kernel_rfl
theorem k_r3_forms_8 : KL d_r3_forms 8 L_r3_forms_8 := fun p => by kernel_rfl
theorem k_r3_forms_10 : KL d_r3_forms 10 L_r3_forms_10 := fun p => by kernel_rfl
theorem c_r3_forms : Cert E bodies sites r3_forms d_r3_forms := by refine ⟨?_,?_,?_,?_,?_,?_,sites_loops,?_,k_r3_forms,look_cons' k_r3_forms_0 (look_cons' k_r3_forms_2 (look_cons' k_r3_forms_4 (look_cons' k_r3_forms_6 (look_cons' k_r3_forms_8 (look_cons' k_r3_forms_10 (look_nil))))))⟩ <;> kernel_rfl
def d_r3_names : FD := mkD Go.Proofs.Tryz.f61 h61 61 F_r3_names S_r3_names T_r3_names
theorem k_r3_names : KM d_r3_names := fun x => by kernel_rfl
theorem k_r3_names_0 : KL d_r3_names 0 L_r3_names_0 := fun p => by kernel_rfl
theorem k_r3_names_2 : KL d_r3_names 2 L_r3_names_2 := fun p => by kernel_rfl
theorem k_r3_names_4 : KL d_r3_names 4 L_r3_names_4 := fun p => by kernel_rfl
theorem k_r3_names_6 : KL d_r3_names 6 L_r3_names_6 := fun p => by kernel_rfl
theorem c_r3_names : Cert E bodies sites r3_names d_r3_names := by refine ⟨?_,?_,?_,?_,?_,?_,sites_loops,?_,k_r3_names,look_cons' k_r3_names_0 (look_cons' k_r3_names_2 (look_cons' k_r3_names_4 (look_cons' k_r3_names_6 (look_nil))))⟩ <;> kernel_rfl
def d_r3_syms : FD := mkD Go.Proofs.Tryz.f62 h62 62 F_r3_syms S_r3_syms T_r3_syms
theorem k_r3_syms : KM d_r3_syms := fun x => by kernel_rfl
theorem k_r3_syms_0 : KL d_r3_syms 0 L_r3_syms_0 := fun p => by kernel_rfl
theorem k_r3_syms_2 : KL d_r3_syms 2 L_r3_syms_2 := fun p => by kernel_rfl
theorem k_r3_syms_4 : KL d_r3_syms 4 L_r3_syms_4 := fun p => by kernel_rfl
theorem k_r3_syms_6 : KL d_r3_syms 6 L_r3_syms_6 := fun p => by kernel_rfl
theorem k_r3_syms_8 : KL d_r3_syms 8 L_r3_syms_8 := fun p => by kernel_rfl
theorem c_r3_syms : Cert E bodies sites r3_syms d_r3_syms := by refine ⟨?_,?_,?_,?_,?_,?_,sites_loops,?_,k_r3_syms,look_cons' k_r3_syms_0 (look_cons' k_r3_syms_2 (look_cons' k_r3_syms_4 (look_cons' k_r3_syms_6 (look_cons' k_r3_syms_8 (look_nil)))))⟩ <;> kernel_rfl
def d_flow_Next : FD := mkD Go.Proofs.Tryz.f73 h73 73 F_flow_Next S_flow_Next T_flow_Next
theorem k_flow_Next : KM d_flow_Next := fun x => by kernel_rfl
theorem k_flow_Next_0 : KL d_flow_Next 0 L_flow_Next_0 := fun p => by kernel_rfl
theorem c_flow_Next : Cert E bodies sites flow_Next d_flow_Next := by refine ⟨?_,?_,?_,?_,?_,?_,sites_loops,?_,k_flow_Next,look_cons' k_flow_Next_0 (look_nil)⟩ <;> kernel_rfl
def d_slices_pdqsortCmpFunc_api_Base : FD := mkD Go.Proofs.Tryz.f79 h79 79 F_slices_pdqsortCmpFunc_api_Base S_slices_pdqsortCmpFunc_api_Base T_slices_pdqsortCmpFunc_api_Base
theorem k_slices_pdqsortCmpFunc_api_Base : KM d_slices_pdqsortCmpFunc_api_Base := fun x => by kernel_rfl
theorem k_slices_pdqsortCmpFunc_api_Base_0 : KL d_slices_pdqsortCmpFunc_api_Base 0 L_slices_pdqsortCmpFunc_api_Base_0 := fun p => by kernel_rfl
theorem c_slices_pdqsortCmpFunc_api_Base : Cert E bodies sites slices_pdqsortCmpFunc_api_Base d_slices_pdqsortCmpFunc_api_Base := by refine ⟨?_,?_,?_,?_,?_,?_,sites_loops,?_,k_slices_pdqsortCmpFunc_api_Base,look_cons' k_slices_pdqsortCmpFunc_api_Base_0 (look_nil)⟩ <;> kernel_rfl
def d_math_bits_Len : FD := mkD Go.Proofs.Tryz.f80 h80 80 F_math_bits_Len S_math_bits_Len T_math_bits_Len
theorem k_math_bits_Len : KM d_math_bits_Len := fun x => by kernel_rfl
theorem c_math_bits_Len : Cert E bodies sites math_bits_Len d_math_bits_Len := by refine ⟨?_,?_,?_,?_,?_,?_,sites_loops,?_,k_math_bits_Len,look_nil⟩ <;> kernel_rfl
def d_r3_Ints : FD := mkD Go.Proofs.Tryz.f87 h87 87 F_r3_Ints S_r3_Ints T_r3_Ints
theorem k_r3_Ints : KM d_r3_Ints := fun x => by kernel_rfl
theorem k_r3_Ints_0 : KL d_r3_Ints 0 L_r3_Ints_0 := fun p => by kernel_rfl
theorem c_r3_Ints : Cert E bodies sites r3_Ints d_r3_Ints := by refine ⟨?_,?_,?_,?_,?_,?_,sites_loops,?_,k_r3_Ints,look_cons' k_r3_Ints_0 (look_nil)⟩ <;> kernel_rfl
def d_r3_Last : FD := mkD Go.Proofs.Tryz.f116 h116 116 F_r3_Last S_r3_Last T_r3_Last
theorem k_r3_Last : KM d_r3_Last := fun x => by kernel_rfl
theorem c_r3_Last : Cert E bodies sites r3_Last d_r3_Last := by refine ⟨?_,?_,?_,?_,?_,?_,sites_loops,?_,k_r3_Last,look_nil⟩ <;> kernel_rfl
def d_facts_Of : FD := mkD Go.Proofs.Tryz.f10 h10 10 F_facts_Of S_facts_Of T_facts_Of
theorem k_facts_Of : KM d_facts_Of := fun x => by kernel_rfl
theorem k_facts_Of_0 : KL d_facts_Of 0 L_facts_Of_0 := fun p => by kernel_rfl
theorem k_facts_Of_2 : KL d_facts_Of 2 L_facts_Of_2 := fun p => by kernel_rfl
theorem k_facts_Of_4 : KL d_facts_Of 4 L_facts_Of_4 := fun p => by kernel_rfl
theorem k_facts_Of_6 : KL d_facts_Of 6 L_facts_Of_6 := fun p => by kernel_rfl
theorem k_facts_Of_8 : KL d_facts_Of 8 L_facts_Of_8 := fun p => by kernel_rfl
theorem c_facts_Of : Cert E bodies sites facts_Of d_facts_Of := by refine ⟨?_,?_,?_,?_,?_,?_,sites_loops,?_,k_facts_Of,look_cons' k_facts_Of_0 (look_cons' k_facts_Of_2 (look_cons' k_facts_Of_4 (look_cons' k_facts_Of_6 (look_cons' k_facts_Of_8 (look_nil)))))⟩ <;> kernel_rfl
def d_r10_Start : FD := mkD Go.Proofs.Tryz.f15 h15 15 F_r10_Start S_r10_Start T_r10_Start
theorem k_r10_Start : KM d_r10_Start := fun x => by kernel_rfl
theorem k_r10_Start_0 : KL d_r10_Start 0 L_r10_Start_0 := fun p => by kernel_rfl
theorem k_r10_Start_2 : KL d_r10_Start 2 L_r10_Start_2 := fun p => by kernel_rfl
theorem k_r10_Start_4 : KL d_r10_Start 4 L_r10_Start_4 := fun p => by kernel_rfl
theorem c_r10_Start : Cert E bodies sites r10_Start d_r10_Start := by refine ⟨?_,?_,?_,?_,?_,?_,sites_loops,?_,k_r10_Start,look_cons' k_r10_Start_0 (look_cons' k_r10_Start_2 (look_cons' k_r10_Start_4 (look_nil)))⟩ <;> kernel_rfl
def d_facts_Func_bases : FD := mkD Go.Proofs.Tryz.f25 h25 25 F_facts_Func_bases S_facts_Func_bases T_facts_Func_bases
theorem k_facts_Func_bases : KM d_facts_Func_bases := fun x => by kernel_rfl
theorem k_facts_Func_bases_0 : KL d_facts_Func_bases 0 L_facts_Func_bases_0 := fun p => by kernel_rfl
theorem k_facts_Func_bases_2 : KL d_facts_Func_bases 2 L_facts_Func_bases_2 := fun p => by kernel_rfl
theorem k_facts_Func_bases_4 : KL d_facts_Func_bases 4 L_facts_Func_bases_4 := fun p => by kernel_rfl
theorem k_facts_Func_bases_7 : KL d_facts_Func_bases 7 L_facts_Func_bases_7 := fun p => by kernel_rfl
theorem c_facts_Func_bases : Cert E bodies sites facts_Func_bases d_facts_Func_bases := by refine ⟨?_,?_,?_,?_,?_,?_,sites_loops,?_,k_facts_Func_bases,look_cons' k_facts_Func_bases_0 (look_cons' k_facts_Func_bases_2 (look_cons' k_facts_Func_bases_4 (look_cons' k_facts_Func_bases_7 (look_nil))))⟩ <;> kernel_rfl
def d_slices_Clone_Sint64_int64 : FD := mkD Go.Proofs.Tryz.f28 h28 28 F_slices_Clone_Sint64_int64 S_slices_Clone_Sint64_int64 T_slices_Clone_Sint64_int64
theorem k_slices_Clone_Sint64_int64 : KM d_slices_Clone_Sint64_int64 := fun x => by kernel_rfl
theorem c_slices_Clone_Sint64_int64 : Cert E bodies sites slices_Clone_Sint64_int64 d_slices_Clone_Sint64_int64 := by refine ⟨?_,?_,?_,?_,?_,?_,sites_loops,?_,k_slices_Clone_Sint64_int64,look_nil⟩ <;> kernel_rfl
def d_ir_copyFunc : FD := mkD Go.Proofs.Tryz.f29 h29 29 F_ir_copyFunc S_ir_copyFunc T_ir_copyFunc
theorem k_ir_copyFunc : KM d_ir_copyFunc := fun x => by kernel_rfl
theorem k_ir_copyFunc_0 : KL d_ir_copyFunc 0 L_ir_copyFunc_0 := fun p => by kernel_rfl
theorem k_ir_copyFunc_2 : KL d_ir_copyFunc 2 L_ir_copyFunc_2 := fun p => by kernel_rfl
theorem c_ir_copyFunc : Cert E bodies sites ir_copyFunc d_ir_copyFunc := by refine ⟨?_,?_,?_,?_,?_,?_,sites_loops,?_,k_ir_copyFunc,look_cons' k_ir_copyFunc_0 (look_cons' k_ir_copyFunc_2 (look_nil))⟩ <;> kernel_rfl
def d_wf_scalar : FD := mkD Go.Proofs.Tryz.f41 h41 41 F_wf_scalar S_wf_scalar T_wf_scalar
theorem k_wf_scalar : KM d_wf_scalar := fun x => by kernel_rfl
theorem c_wf_scalar : Cert E bodies sites wf_scalar d_wf_scalar := by refine ⟨?_,?_,?_,?_,?_,?_,sites_loops,?_,k_wf_scalar,look_nil⟩ <;> kernel_rfl
def d_wf_Name : FD := mkD Go.Proofs.Tryz.f43 h43 43 F_wf_Name S_wf_Name T_wf_Name
theorem k_wf_Name : KM d_wf_Name := fun x => by kernel_rfl
theorem k_wf_Name_0 : KL d_wf_Name 0 L_wf_Name_0 := fun p => by kernel_rfl
theorem c_wf_Name : Cert E bodies sites wf_Name d_wf_Name := by refine ⟨?_,?_,?_,?_,?_,?_,sites_loops,?_,k_wf_Name,look_cons' k_wf_Name_0 (look_nil)⟩ <;> kernel_rfl
def d_flow_Prev : FD := mkD Go.Proofs.Tryz.f47 h47 47 F_flow_Prev S_flow_Prev T_flow_Prev
theorem k_flow_Prev : KM d_flow_Prev := fun x => by kernel_rfl
theorem k_flow_Prev_0 : KL d_flow_Prev 0 L_flow_Prev_0 := fun p => by kernel_rfl
theorem k_flow_Prev_2 : KL d_flow_Prev 2 L_flow_Prev_2 := fun p => by kernel_rfl
theorem c_flow_Prev : Cert E bodies sites flow_Prev d_flow_Prev := by refine ⟨?_,?_,?_,?_,?_,?_,sites_loops,?_,k_flow_Prev,look_cons' k_flow_Prev_0 (look_cons' k_flow_Prev_2 (look_nil))⟩ <;> kernel_rfl
def d_wf_fitting : FD := mkD Go.Proofs.Tryz.f51 h51 51 F_wf_fitting S_wf_fitting T_wf_fitting
theorem k_wf_fitting : KM d_wf_fitting := fun x => by kernel_rfl
theorem c_wf_fitting : Cert E bodies sites wf_fitting d_wf_fitting := by refine ⟨?_,?_,?_,?_,?_,?_,sites_loops,?_,k_wf_fitting,look_nil⟩ <;> kernel_rfl
def d_facts_lesser : FD := mkD Go.Proofs.Tryz.f55 h55 55 F_facts_lesser S_facts_lesser T_facts_lesser
theorem k_facts_lesser : KM d_facts_lesser := fun x => by kernel_rfl
theorem c_facts_lesser : Cert E bodies sites facts_lesser d_facts_lesser := by refine ⟨?_,?_,?_,?_,?_,?_,sites_loops,?_,k_facts_lesser,look_nil⟩ <;> kernel_rfl
def d_slices_Compact_Sapi_Base_api_Base : FD := mkD Go.Proofs.Tryz.f56 h56 56 F_slices_Compact_Sapi_Base_api_Base S_slices_Compact_Sapi_Base_api_Base T_slices_Compact_Sapi_Base_api_Base
theorem k_slices_Compact_Sapi_Base_api_Base : KM d_slices_Compact_Sapi_Base_api_Base := fun x => by kernel_rfl
theorem k_slices_Compact_Sapi_Base_api_Base_0 : KL d_slices_Compact_Sapi_Base_api_Base 0 L_slices_Compact_Sapi_Base_api_Base_0 := fun p => by kernel_rfl
theorem k_slices_Compact_Sapi_Base_api_Base_2 : KL d_slices_Compact_Sapi_Base_api_Base 2 L_slices_Compact_Sapi_Base_api_Base_2 := fun p => by kernel_rfl
theorem c_slices_Compact_Sapi_Base_api_Base : Cert E bodies sites slices_Compact_Sapi_Base_api_Base d_slices_Compact_Sapi_Base_api_Base := by refine ⟨?_,?_,?_,?_,?_,?_,sites_loops,?_,k_slices_Compact_Sapi_Base_api_Base,look_cons' k_slices_Compact_Sapi_Base_api_Base_0 (look_cons' k_slices_Compact_Sapi_Base_api_Base_2 (look_nil))⟩ <;> kernel_rfl
def d_wf_all : FD := mkD Go.Proofs.Tryz.f76 h76 76 F_wf_all S_wf_all T_wf_all
theorem k_wf_all : KM d_wf_all := fun x => by kernel_rfl
theorem k_wf_all_0 : KL d_wf_all 0 L_wf_all_0 := fun p => by kernel_rfl
theorem c_wf_all : Cert E bodies sites wf_all d_wf_all := by refine ⟨?_,?_,?_,?_,?_,?_,sites_loops,?_,k_wf_all,look_cons' k_wf_all_0 (look_nil)⟩ <;> kernel_rfl
def d_slices_Grow_Sapi_Base_api_Base : FD := mkD Go.Proofs.Tryz.f78 h78 78 F_slices_Grow_Sapi_Base_api_Base S_slices_Grow_Sapi_Base_api_Base T_slices_Grow_Sapi_Base_api_Base
theorem k_slices_Grow_Sapi_Base_api_Base : KM d_slices_Grow_Sapi_Base_api_Base := fun x => by kernel_rfl
theorem c_slices_Grow_Sapi_Base_api_Base : Cert E bodies sites slices_Grow_Sapi_Base_api_Base d_slices_Grow_Sapi_Base_api_Base := by refine ⟨?_,?_,?_,?_,?_,?_,sites_loops,?_,k_slices_Grow_Sapi_Base_api_Base,look_nil⟩ <;> kernel_rfl
def d_slices_Contains_Sint_int : FD := mkD Go.Proofs.Tryz.f94 h94 94 F_slices_Contains_Sint_int S_slices_Contains_Sint_int T_slices_Contains_Sint_int
theorem k_slices_Contains_Sint_int : KM d_slices_Contains_Sint_int := fun x => by kernel_rfl
theorem c_slices_Contains_Sint_int : Cert E bodies sites slices_Contains_Sint_int d_slices_Contains_Sint_int := by refine ⟨?_,?_,?_,?_,?_,?_,sites_loops,?_,k_slices_Contains_Sint_int,look_nil⟩ <;> kernel_rfl
def d_r3_from : FD := mkD Go.Proofs.Tryz.f108 h108 108 F_r3_from S_r3_from T_r3_from
theorem k_r3_from : KM d_r3_from := fun x => by kernel_rfl
theorem k_r3_from_0 : KL d_r3_from 0 L_r3_from_0 := fun p => by kernel_rfl
theorem k_r3_from_2 : KL d_r3_from 2 L_r3_from_2 := fun p => by kernel_rfl
theorem k_r3_from_4 : KL d_r3_from 4 L_r3_from_4 := fun p => by kernel_rfl
theorem c_r3_from : Cert E bodies sites r3_from d_r3_from := by refine ⟨?_,?_,?_,?_,?_,?_,sites_loops,?_,k_r3_from,look_cons' k_r3_from_0 (look_cons' k_r3_from_2 (look_cons' k_r3_from_4 (look_nil)))⟩ <;> kernel_rfl
def d_slices_xorshift_Next : FD := mkD Go.Proofs.Tryz.f113 h113 113 F_slices_xorshift_Next S_slices_xorshift_Next T_slices_xorshift_Next
theorem k_slices_xorshift_Next : KM d_slices_xorshift_Next := fun x => by kernel_rfl
theorem c_slices_xorshift_Next : Cert E bodies sites slices_xorshift_Next d_slices_xorshift_Next := by refine ⟨?_,?_,?_,?_,?_,?_,sites_loops,?_,k_slices_xorshift_Next,look_nil⟩ <;> kernel_rfl
def progV : BT Fn := (.node 61 F_r3_names (.node 32 F_r3_Values (.node 18 F_wf_formed (.node 12 F_facts_Func_Num (.node 9 F_wf_Check (.node 8 F_keep_Ops (.node 5 F_law29_table .nil .nil) .nil) (.node 11 F_ir_Copy (.node 10 F_facts_Of .nil .nil) .nil)) (.node 15 F_r10_Start (.node 14 F_facts_Facts_Fits (.node 13 F_facts_Facts_Entry .nil .nil) .nil) (.node 17 F_wf_small .nil .nil))) (.node 24 F_ir_Types (.node 21 F_wf_flows (.node 20 F_wf_known (.node 19 F_wf_named .nil .nil) .nil) (.node 23 F_wf_typed (.node 22 F_wf_used .nil .nil) .nil)) (.node 29 F_ir_copyFunc (.node 26 F_facts_Func_offs (.node 25 F_facts_Func_bases .nil .nil) .nil) (.node 30 F_r3_Check .nil .nil)))) (.node 48 F_slices_Equal_Sint_int (.node 43 F_wf_Name (.node 40 F_ir_Size (.node 38 F_r10_Machine_trap (.node 33 F_r10_Machine_Free .nil .nil) .nil) (.node 42 F_wf_shaped (.node 41 F_wf_scalar .nil .nil) .nil)) (.node 46 F_flow_Reach (.node 45 F_slices_Contains_Sbool_bool (.node 44 F_wf_Ends .nil .nil) .nil) (.node 47 F_flow_Prev .nil .nil))) (.node 56 F_slices_Compact_Sapi_Base_api_Base (.node 51 F_wf_fitting (.node 50 F_wf_ahead (.node 49 F_dom_Over .nil .nil) .nil) (.node 55 F_facts_lesser (.node 54 F_slices_SortFunc_Sapi_Base_api_Base .nil .nil) .nil)) (.node 59 F_r3_limits (.node 58 F_ir_copyIns (.node 57 F_facts_Func_off .nil .nil) .nil) (.node 60 F_r3_forms .nil .nil))))) (.node 86 F_r3_Prev (.node 74 F_dom_nearest (.node 69 F_r1_Do (.node 64 F_r3_uses (.node 63 F_r3_flows (.node 62 F_r3_syms .nil .nil) .nil) (.node 66 F_r3_Types (.node 65 F_r3_types .nil .nil) .nil)) (.node 72 F_flow_walked (.node 71 F_slices_Index_Sbool_bool (.node 70 F_wf_Mark .nil .nil) .nil) (.node 73 F_flow_Next .nil .nil))) (.node 80 F_math_bits_Len (.node 77 F_wf_rows (.node 76 F_wf_all (.node 75 F_dom_over .nil .nil) .nil) (.node 79 F_slices_pdqsortCmpFunc_api_Base (.node 78 F_slices_Grow_Sapi_Base_api_Base .nil .nil) .nil)) (.node 84 F_r3_Ends (.node 82 F_r3_form (.node 81 F_r3_Size .nil .nil) .nil) (.node 85 F_r3_Reach .nil .nil)))) (.node 105 F_math_bits_Len64 (.node 93 F_flow_walker_visit (.node 89 F_r3_Doms (.node 88 F_r3_Where (.node 87 F_r3_Ints .nil .nil) .nil) (.node 92 F_r1_bit (.node 90 F_r3_fits .nil .nil) .nil)) (.node 96 F_slices_insertionSortCmpFunc_api_Base (.node 95 F_dom_without (.node 94 F_slices_Contains_Sint_int .nil .nil) .nil) (.node 104 F_math_bits_Len32 .nil .nil))) (.node 110 F_slices_Index_Sint_int (.node 108 F_r3_from (.node 107 F_r3_Name (.node 106 F_r3_Mark .nil .nil) .nil) (.node 109 F_r3_Next .nil .nil)) (.node 116 F_r3_Last (.node 113 F_slices_xorshift_Next (.node 112 F_slices_nextPowerOfTwo .nil .nil) .nil) (.node 117 F_r3_In .nil .nil))))))
theorem progV_all : AllC E bodies sites progV := ⟨⟨d_r3_names, by kernel_rfl, c_r3_names, by kernel_rfl⟩, ⟨⟨d_r3_Values, by kernel_rfl, c_r3_Values, by kernel_rfl⟩, ⟨⟨d_wf_formed, by kernel_rfl, c_wf_formed, by kernel_rfl⟩, ⟨⟨d_facts_Func_Num, by kernel_rfl, c_facts_Func_Num, by kernel_rfl⟩, ⟨⟨d_wf_Check, by kernel_rfl, c_wf_Check, by kernel_rfl⟩, ⟨⟨d_keep_Ops, by kernel_rfl, c_keep_Ops, by kernel_rfl⟩, ⟨⟨d_law29_table, by kernel_rfl, c_law29_table, by kernel_rfl⟩, trivial, trivial⟩, trivial⟩, ⟨⟨d_ir_Copy, by kernel_rfl, c_ir_Copy, by kernel_rfl⟩, ⟨⟨d_facts_Of, by kernel_rfl, c_facts_Of, by kernel_rfl⟩, trivial, trivial⟩, trivial⟩⟩, ⟨⟨d_r10_Start, by kernel_rfl, c_r10_Start, by kernel_rfl⟩, ⟨⟨d_facts_Facts_Fits, by kernel_rfl, c_facts_Facts_Fits, by kernel_rfl⟩, ⟨⟨d_facts_Facts_Entry, by kernel_rfl, c_facts_Facts_Entry, by kernel_rfl⟩, trivial, trivial⟩, trivial⟩, ⟨⟨d_wf_small, by kernel_rfl, c_wf_small, by kernel_rfl⟩, trivial, trivial⟩⟩⟩, ⟨⟨d_ir_Types, by kernel_rfl, c_ir_Types, by kernel_rfl⟩, ⟨⟨d_wf_flows, by kernel_rfl, c_wf_flows, by kernel_rfl⟩, ⟨⟨d_wf_known, by kernel_rfl, c_wf_known, by kernel_rfl⟩, ⟨⟨d_wf_named, by kernel_rfl, c_wf_named, by kernel_rfl⟩, trivial, trivial⟩, trivial⟩, ⟨⟨d_wf_typed, by kernel_rfl, c_wf_typed, by kernel_rfl⟩, ⟨⟨d_wf_used, by kernel_rfl, c_wf_used, by kernel_rfl⟩, trivial, trivial⟩, trivial⟩⟩, ⟨⟨d_ir_copyFunc, by kernel_rfl, c_ir_copyFunc, by kernel_rfl⟩, ⟨⟨d_facts_Func_offs, by kernel_rfl, c_facts_Func_offs, by kernel_rfl⟩, ⟨⟨d_facts_Func_bases, by kernel_rfl, c_facts_Func_bases, by kernel_rfl⟩, trivial, trivial⟩, trivial⟩, ⟨⟨d_r3_Check, by kernel_rfl, c_r3_Check, by kernel_rfl⟩, trivial, trivial⟩⟩⟩⟩, ⟨⟨d_slices_Equal_Sint_int, by kernel_rfl, c_slices_Equal_Sint_int, by kernel_rfl⟩, ⟨⟨d_wf_Name, by kernel_rfl, c_wf_Name, by kernel_rfl⟩, ⟨⟨d_ir_Size, by kernel_rfl, c_ir_Size, by kernel_rfl⟩, ⟨⟨d_r10_Machine_trap, by kernel_rfl, c_r10_Machine_trap, by kernel_rfl⟩, ⟨⟨d_r10_Machine_Free, by kernel_rfl, c_r10_Machine_Free, by kernel_rfl⟩, trivial, trivial⟩, trivial⟩, ⟨⟨d_wf_shaped, by kernel_rfl, c_wf_shaped, by kernel_rfl⟩, ⟨⟨d_wf_scalar, by kernel_rfl, c_wf_scalar, by kernel_rfl⟩, trivial, trivial⟩, trivial⟩⟩, ⟨⟨d_flow_Reach, by kernel_rfl, c_flow_Reach, by kernel_rfl⟩, ⟨⟨d_slices_Contains_Sbool_bool, by kernel_rfl, c_slices_Contains_Sbool_bool, by kernel_rfl⟩, ⟨⟨d_wf_Ends, by kernel_rfl, c_wf_Ends, by kernel_rfl⟩, trivial, trivial⟩, trivial⟩, ⟨⟨d_flow_Prev, by kernel_rfl, c_flow_Prev, by kernel_rfl⟩, trivial, trivial⟩⟩⟩, ⟨⟨d_slices_Compact_Sapi_Base_api_Base, by kernel_rfl, c_slices_Compact_Sapi_Base_api_Base, by kernel_rfl⟩, ⟨⟨d_wf_fitting, by kernel_rfl, c_wf_fitting, by kernel_rfl⟩, ⟨⟨d_wf_ahead, by kernel_rfl, c_wf_ahead, by kernel_rfl⟩, ⟨⟨d_dom_Over, by kernel_rfl, c_dom_Over, by kernel_rfl⟩, trivial, trivial⟩, trivial⟩, ⟨⟨d_facts_lesser, by kernel_rfl, c_facts_lesser, by kernel_rfl⟩, ⟨⟨d_slices_SortFunc_Sapi_Base_api_Base, by kernel_rfl, c_slices_SortFunc_Sapi_Base_api_Base, by kernel_rfl⟩, trivial, trivial⟩, trivial⟩⟩, ⟨⟨d_r3_limits, by kernel_rfl, c_r3_limits, by kernel_rfl⟩, ⟨⟨d_ir_copyIns, by kernel_rfl, c_ir_copyIns, by kernel_rfl⟩, ⟨⟨d_facts_Func_off, by kernel_rfl, c_facts_Func_off, by kernel_rfl⟩, trivial, trivial⟩, trivial⟩, ⟨⟨d_r3_forms, by kernel_rfl, c_r3_forms, by kernel_rfl⟩, trivial, trivial⟩⟩⟩⟩⟩, ⟨⟨d_r3_Prev, by kernel_rfl, c_r3_Prev, by kernel_rfl⟩, ⟨⟨d_dom_nearest, by kernel_rfl, c_dom_nearest, by kernel_rfl⟩, ⟨⟨d_r1_Do, by kernel_rfl, c_r1_Do, by kernel_rfl⟩, ⟨⟨d_r3_uses, by kernel_rfl, c_r3_uses, by kernel_rfl⟩, ⟨⟨d_r3_flows, by kernel_rfl, c_r3_flows, by kernel_rfl⟩, ⟨⟨d_r3_syms, by kernel_rfl, c_r3_syms, by kernel_rfl⟩, trivial, trivial⟩, trivial⟩, ⟨⟨d_r3_Types, by kernel_rfl, c_r3_Types, by kernel_rfl⟩, ⟨⟨d_r3_types, by kernel_rfl, c_r3_types, by kernel_rfl⟩, trivial, trivial⟩, trivial⟩⟩, ⟨⟨d_flow_walked, by kernel_rfl, c_flow_walked, by kernel_rfl⟩, ⟨⟨d_slices_Index_Sbool_bool, by kernel_rfl, c_slices_Index_Sbool_bool, by kernel_rfl⟩, ⟨⟨d_wf_Mark, by kernel_rfl, c_wf_Mark, by kernel_rfl⟩, trivial, trivial⟩, trivial⟩, ⟨⟨d_flow_Next, by kernel_rfl, c_flow_Next, by kernel_rfl⟩, trivial, trivial⟩⟩⟩, ⟨⟨d_math_bits_Len, by kernel_rfl, c_math_bits_Len, by kernel_rfl⟩, ⟨⟨d_wf_rows, by kernel_rfl, c_wf_rows, by kernel_rfl⟩, ⟨⟨d_wf_all, by kernel_rfl, c_wf_all, by kernel_rfl⟩, ⟨⟨d_dom_over, by kernel_rfl, c_dom_over, by kernel_rfl⟩, trivial, trivial⟩, trivial⟩, ⟨⟨d_slices_pdqsortCmpFunc_api_Base, by kernel_rfl, c_slices_pdqsortCmpFunc_api_Base, by kernel_rfl⟩, ⟨⟨d_slices_Grow_Sapi_Base_api_Base, by kernel_rfl, c_slices_Grow_Sapi_Base_api_Base, by kernel_rfl⟩, trivial, trivial⟩, trivial⟩⟩, ⟨⟨d_r3_Ends, by kernel_rfl, c_r3_Ends, by kernel_rfl⟩, ⟨⟨d_r3_form, by kernel_rfl, c_r3_form, by kernel_rfl⟩, ⟨⟨d_r3_Size, by kernel_rfl, c_r3_Size, by kernel_rfl⟩, trivial, trivial⟩, trivial⟩, ⟨⟨d_r3_Reach, by kernel_rfl, c_r3_Reach, by kernel_rfl⟩, trivial, trivial⟩⟩⟩⟩, ⟨⟨d_math_bits_Len64, by kernel_rfl, c_math_bits_Len64, by kernel_rfl⟩, ⟨⟨d_flow_walker_visit, by kernel_rfl, c_flow_walker_visit, by kernel_rfl⟩, ⟨⟨d_r3_Doms, by kernel_rfl, c_r3_Doms, by kernel_rfl⟩, ⟨⟨d_r3_Where, by kernel_rfl, c_r3_Where, by kernel_rfl⟩, ⟨⟨d_r3_Ints, by kernel_rfl, c_r3_Ints, by kernel_rfl⟩, trivial, trivial⟩, trivial⟩, ⟨⟨d_r1_bit, by kernel_rfl, c_r1_bit, by kernel_rfl⟩, ⟨⟨d_r3_fits, by kernel_rfl, c_r3_fits, by kernel_rfl⟩, trivial, trivial⟩, trivial⟩⟩, ⟨⟨d_slices_insertionSortCmpFunc_api_Base, by kernel_rfl, c_slices_insertionSortCmpFunc_api_Base, by kernel_rfl⟩, ⟨⟨d_dom_without, by kernel_rfl, c_dom_without, by kernel_rfl⟩, ⟨⟨d_slices_Contains_Sint_int, by kernel_rfl, c_slices_Contains_Sint_int, by kernel_rfl⟩, trivial, trivial⟩, trivial⟩, ⟨⟨d_math_bits_Len32, by kernel_rfl, c_math_bits_Len32, by kernel_rfl⟩, trivial, trivial⟩⟩⟩, ⟨⟨d_slices_Index_Sint_int, by kernel_rfl, c_slices_Index_Sint_int, by kernel_rfl⟩, ⟨⟨d_r3_from, by kernel_rfl, c_r3_from, by kernel_rfl⟩, ⟨⟨d_r3_Name, by kernel_rfl, c_r3_Name, by kernel_rfl⟩, ⟨⟨d_r3_Mark, by kernel_rfl, c_r3_Mark, by kernel_rfl⟩, trivial, trivial⟩, trivial⟩, ⟨⟨d_r3_Next, by kernel_rfl, c_r3_Next, by kernel_rfl⟩, trivial, trivial⟩⟩, ⟨⟨d_r3_Last, by kernel_rfl, c_r3_Last, by kernel_rfl⟩, ⟨⟨d_slices_xorshift_Next, by kernel_rfl, c_slices_xorshift_Next, by kernel_rfl⟩, ⟨⟨d_slices_nextPowerOfTwo, by kernel_rfl, c_slices_nextPowerOfTwo, by kernel_rfl⟩, trivial, trivial⟩, trivial⟩, ⟨⟨d_r3_In, by kernel_rfl, c_r3_In, by kernel_rfl⟩, trivial, trivial⟩⟩⟩⟩⟩⟩
end
end Go.Eng.V
