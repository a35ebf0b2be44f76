/- Part of the proof. -/
import Derived.Test.YtpipdilhgmolhabTrA
set_option linter.unusedVariables false
namespace Go.Eng.A
open Go.Eng
noncomputable section
def S_ir_copyFunc : STab := [(0, fun p => ⟨(t0 (t2 (.pb 1 0 0) .nil (t0 (t0 (t1 (.int .i64 (gI p 0))) .nil) .nil)) (t2 (.pb 2 0 0) (t0 (t0 (t1 (.fz [] 40 lt4 (gL p 1))) .nil) .nil) (t0 (t0 (t1 (.int .i64 (gI p 2))) .nil) .nil))), [(1, ⟨0, [.str (gS p 3), .bool (gB p 4), .vw 12000000 0 [], .int .i64 (gI p 5), .vw 300068 0 []], none⟩), (2, ⟨0, [.str (gS p 6), .bool (gB p 7), .nils, .int .i64 (gI p 8), .nils], none⟩)], [(300068, ⟨40, lt8, (gL p 9), [], 0, [0, 0, 0, 0], 0⟩), (12000000, ⟨3, [.int .i64], (gL p 10), [], 0, [0, 0, 0, 0], 0⟩)], 1⟩),
 (2, fun p => ⟨(t0 (t2 (.pb 1 0 0) (t0 (t0 .nil (t1 (.fz [] 27 lt5 (gL p 0)))) .nil) (t0 (t0 (t1 (.int .i64 (gI p 1))) (t1 (.int .i64 (gI p 2)))) .nil)) (t2 (.pb 2 0 0) (t0 (t0 (t1 (.fz [] 40 lt4 (gL p 3))) (t1 (.int .i64 (gI p 4)))) .nil) (t2 (.vw 200006 0 []) (t0 (t1 (.int .i64 (gI p 5))) .nil) .nil))), [(1, ⟨0, [.str (gS p 6), .bool (gB p 7), .vw 12000000 0 [], .int .i64 (gI p 8), .vw 300068 0 []], none⟩), (2, ⟨0, [.str (gS p 9), .bool (gB p 10), .nils, .int .i64 (gI p 11), .nils], none⟩)], [(200006, ⟨27, lt0, (gL p 12), [], 0, [0, 0, 0, 0], 0⟩), (300068, ⟨40, lt8, (gL p 13), [], 0, [0, 0, 0, 0], 0⟩), (12000000, ⟨3, [.int .i64], (gL p 14), [], 0, [0, 0, 0, 0], 0⟩)], 1⟩)]
def T_ir_copyFunc : TTab := [(0, [fun p => (.exit 0, ⟨(t0 (t1 (.pb 1 0 0)) (t1 (.pb 2 0 0))), [(1, ⟨0, [.str (gS p 0), .bool (gB p 1), .vw 12000000 0 [], .int .i64 (gI p 2), .vw 300068 0 []], none⟩), (2, ⟨0, [.str (gS p 3), .bool (gB p 4), .nils, .int .i64 (gI p 5), .nils], none⟩)], [(300068, ⟨40, lt8, (gL p 6), [], 0, [0, 0, 0, 0], 0⟩), (12000000, ⟨3, [.int .i64], (gL p 7), [], 0, [0, 0, 0, 0], 0⟩)], 1⟩)]),
 (2, [fun p => (.exit 2, ⟨(t0 (t2 (.pb 1 0 0) .nil (t0 (t0 (t1 (.int .i64 (gI p 0))) .nil) .nil)) (t2 (.pb 2 0 0) (t0 (t0 (t1 (.fz [] 40 lt4 (gL p 1))) .nil) .nil) (t2 (.vw 200006 0 []) (t0 (t1 (.int .i64 (gI p 2))) .nil) .nil))), [(1, ⟨0, [.str (gS p 3), .bool (gB p 4), .vw 12000000 0 [], .int .i64 (gI p 5), .vw 300068 0 []], none⟩), (2, ⟨0, [.str (gS p 6), .bool (gB p 7), .nils, .int .i64 (gI p 8), .nils], none⟩)], [(200006, ⟨27, lt0, (gL p 9), [], 0, [0, 0, 0, 0], 0⟩), (300068, ⟨40, lt8, (gL p 10), [], 0, [0, 0, 0, 0], 0⟩), (12000000, ⟨3, [.int .i64], (gL p 11), [], 0, [0, 0, 0, 0], 0⟩)], 1⟩)])]
def F_ir_copyFunc : Fn := { np := 1, bs := [0, 2], main := M_ir_copyFunc, lps := [(0, L_ir_copyFunc_0), (2, L_ir_copyFunc_2)] }
def M_wf_Name (x : List D) : Sh :=
 .ask ((ltI (Int.ofNat (List.length (D.toS (gD x 0)))) 1) || (ltI 12 (Int.ofNat (List.length (D.toS (gD x 0))))))
 (.ret (.b false) [])
 (.loop 0 [.s (D.toS (gD x 0)), .i (Int.ofNat (List.length (D.toS (gD x 0)))), .i 0] (.cons (fun p0 =>
 .ret (.b (gB p0 0)) [])
 (.cons (fun p0 =>
 .ret (.b true) [])
 .nil)))
def L_wf_Name_0 (p : List D) : Sh :=
 .ask (ltI (gI p 2) (gI p 1))
 (.ask (within (gI p 2) (List.length (gS p 0)))
 (.ask ((!((leI 97 (byteV (gS p 0) (gI p 2))) && (leI (byteV (gS p 0) (gI p 2)) 122))) && ((eqI (gI p 2) 0) || ((!(eqI (byteV (gS p 0) (gI p 2)) 95)) && ((ltI (byteV (gS p 0) (gI p 2)) 48) || (ltI 57 (byteV (gS p 0) (gI p 2)))))))
 (.out (0, [.b false]))
 (.again [.s (gS p 0), .i (gI p 1), .i (wrapA .i64 ((gI p 2) + 1))]))
 (.bad))
 (.out (1, []))
def S_wf_Name : STab := [(0, fun p => ⟨(t2 (.str (gS p 0)) (t0 (t0 (t0 (t1 (.int .i64 (gI p 1))) .nil) .nil) .nil) (t0 (t0 (t0 (t1 (.int .i64 (gI p 2))) .nil) .nil) .nil)), [], [], 1⟩)]
def T_wf_Name : TTab := [(0, [fun p => (.ret, ⟨(t0 .nil (t1 (.bool (gB p 0)))), [], [], 1⟩),
  fun p => (.exit 0, ⟨(t0 .nil (t0 .nil .nil)), [], [], 1⟩)])]
def F_wf_Name : Fn := { np := 1, bs := [0], main := M_wf_Name, lps := [(0, L_wf_Name_0)] }
def M_slices_Contains_Sbool_bool (x : List D) : Sh :=
 .call slices_Index_Sbool_bool [.l (D.els (gD x 0)), .b (D.toB (gD x 1))] 0 fun r0 _ =>
 .ret (.b (leI 0 (D.toI r0))) []
def S_slices_Contains_Sbool_bool : STab := []
def T_slices_Contains_Sbool_bool : TTab := []
def F_slices_Contains_Sbool_bool : Fn := { np := 2, bs := [], main := M_slices_Contains_Sbool_bool, lps := [] }
def M_slices_Equal_Sint_int (x : List D) : Sh :=
 .ask (!(eqI (Int.ofNat (List.length (D.els (gD x 0)))) (Int.ofNat (List.length (D.els (gD x 1))))))
 (.ret (.b false) [])
 (.loop 0 [.l (D.els (gD x 0)), .l (D.els (gD x 1)), .i 0, .i (Int.ofNat (List.length (D.els (gD x 0))))] (.cons (fun p0 =>
 .ret (.b (gB p0 0)) [])
 (.cons (fun p0 =>
 .ret (.b true) [])
 .nil)))
def L_slices_Equal_Sint_int_0 (p : List D) : Sh :=
 .ask (ltI (gI p 2) (gI p 3))
 (.ask (within (gI p 2) (List.length (gL p 0)))
 (.ask (within (gI p 2) (List.length (gL p 1)))
 (.ask (!(eqI (D.toI (gD (gL p 0) (Int.toNat (gI p 2)))) (D.toI (gD (gL p 1) (Int.toNat (gI p 2))))))
 (.out (0, [.b false]))
 (.again [.l (gL p 0), .l (gL p 1), .i (wrapA .i64 ((gI p 2) + 1)), .i (gI p 3)]))
 (.bad))
 (.bad))
 (.out (1, []))
def S_slices_Equal_Sint_int : STab := [(0, fun p => ⟨(t2 (.fz [] 3 [.int .i64] (gL p 0)) (t2 (.fz [] 3 [.int .i64] (gL p 1)) .nil (t0 .nil (t1 (.int .i64 (gI p 2))))) (t0 (t0 .nil (t1 (.int .i64 (gI p 3)))) .nil)), [], [], 1⟩)]
def T_slices_Equal_Sint_int : TTab := [(0, [fun p => (.ret, ⟨(t0 .nil (t0 (t1 (.bool (gB p 0))) .nil)), [], [], 1⟩),
  fun p => (.exit 0, ⟨(t0 .nil (t0 (t0 .nil .nil) .nil)), [], [], 1⟩)])]
def F_slices_Equal_Sint_int : Fn := { np := 2, bs := [0], main := M_slices_Equal_Sint_int, lps := [(0, L_slices_Equal_Sint_int_0)] }
def M_dom_over (x : List D) : Sh :=
 .ask ((leI 0 (Int.ofNat (List.length (D.els (D.fld (gD x 0) 4))))) && ((eqI (Int.ofNat (List.length (D.els (D.fld (gD x 0) 4)))) (Int.ofNat (List.length (D.els (D.fld (gD x 0) 4))))) && (lim (Int.toNat (Int.ofNat (List.length (D.els (D.fld (gD x 0) 4))))) 24)))
 (.loop 0 [.i (Int.ofNat (List.length (D.els (D.fld (gD x 0) 4)))), .i 0, .i (Int.ofNat (List.length (D.els (D.fld (gD x 0) 4)))), .s (D.toS (D.fld (gD x 0) 0)), .b (D.toB (D.fld (gD x 0) 1)), .l (D.els (D.fld (gD x 0) 2)), .i (D.toI (D.fld (gD x 0) 3)), .l (D.els (D.fld (gD x 0) 4)), .l (List.replicate (List.length (D.els (D.fld (gD x 0) 4))) (D.l []))] (.cons (fun p0 =>
 .call flow_Reach [.l [.s (gS p0 1), .b (gB p0 2), .l (gL p0 3), .i (gI p0 4), .l (gL p0 5)]] 0 fun r1 _ =>
 .ask ((leI 0 (gI p0 0)) && ((eqI (gI p0 0) (gI p0 0)) && (lim (Int.toNat (gI p0 0)) 24)))
 (.loop 2 [.i (gI p0 0), .i (gI p0 0), .i 0, .l (gL p0 6), .l (List.replicate (Int.toNat (gI p0 0)) (D.l [])), .l (D.els r1)] (.cons (fun p2 =>
 .ret (.l (gL p2 0)) [])
 .nil))
 (.bad))
 .nil))
 (.bad)
def L_dom_over_0 (p : List D) : Sh :=
 .ask (ltI (gI p 1) (gI p 2))
 (.call flow_Next [.l [.s (gS p 3), .b (gB p 4), .l (gL p 5), .i (gI p 6), .l (gL p 7)], .i (gI p 1)] 0 fun r0 _ =>
 .ask (within (gI p 1) (List.length (gL p 8)))
 (.again [.i (gI p 0), .i (wrapA .i64 ((gI p 1) + 1)), .i (gI p 2), .s (gS p 3), .b (gB p 4), .l (gL p 5), .i (gI p 6), .l (gL p 7), .l (List.set (gL p 8) (Int.toNat (gI p 1)) (D.l (D.els r0)))])
 (.bad))
 (.out (0, [.i (gI p 0), .s (gS p 3), .b (gB p 4), .l (gL p 5), .i (gI p 6), .l (gL p 7), .l (gL p 8)]))
def L_dom_over_2 (p : List D) : Sh :=
 .ask (ltI (gI p 2) (gI p 1))
 (.ask ((leI 0 (gI p 0)) && ((eqI (gI p 0) (gI p 0)) && (lim (Int.toNat (gI p 0)) 1)))
 (.ask (within (gI p 2) (List.length (gL p 4)))
 (.ask (within (gI p 2) (List.length (gL p 5)))
 (.ask (!(D.toB (gD (gL p 5) (Int.toNat (gI p 2)))))
 (.again [.i (gI p 0), .i (gI p 1), .i (wrapA .i64 ((gI p 2) + 1)), .l (gL p 3), .l (List.set (gL p 4) (Int.toNat (gI p 2)) (D.l (List.replicate (Int.toNat (gI p 0)) (D.b false)))), .l (gL p 5)])
 (.call dom_without [.l (gL p 3), .i (gI p 2)] 0 fun r0 _ =>
 .loop 4 [.i (gI p 0), .i (gI p 1), .i 0, .i (gI p 2), .i (gI p 2), .i (gI p 0), .l (gL p 3), .l (List.set (gL p 4) (Int.toNat (gI p 2)) (D.l (List.replicate (Int.toNat (gI p 0)) (D.b false)))), .l (gL p 5), .l (D.els r0)] (.cons (fun p1 =>
 .again [.i (gI p1 0), .i (gI p1 1), .i (wrapA .i64 ((gI p1 2) + 1)), .l (gL p1 3), .l (gL p1 4), .l (gL p1 5)])
 .nil)))
 (.bad))
 (.bad))
 (.bad))
 (.out (0, [.l (gL p 4)]))
def L_dom_over_4 (p : List D) : Sh :=
 .ask (ltI (gI p 2) (gI p 5))
 (.ask (within (gI p 3) (List.length (gL p 7)))
 (.ask (within (gI p 2) (List.length (gL p 8)))
 (.ask ((!((D.toB (gD (gL p 8) (Int.toNat (gI p 2)))) && true)) || (within (gI p 2) (List.length (gL p 9))))
 (.ask (within (gI p 2) (List.length (D.els (gD (gL p 7) (Int.toNat (gI p 3))))))
 (.again [.i (gI p 0), .i (gI p 1), .i (wrapA .i64 ((gI p 2) + 1)), .i (gI p 3), .i (gI p 4), .i (gI p 5), .l (gL p 6), .l (List.set (gL p 7) (Int.toNat (gI p 3)) (D.l (List.set (D.els (gD (gL p 7) (Int.toNat (gI p 3)))) (Int.toNat (gI p 2)) (D.b ((D.toB (gD (gL p 8) (Int.toNat (gI p 2)))) && (!(D.toB (gD (gL p 9) (Int.toNat (gI p 2)))))))))), .l (gL p 8), .l (gL p 9)])
 (.bad))
 (.bad))
 (.bad))
 (.bad))
 (.out (0, [.i (gI p 0), .i (gI p 1), .i (gI p 4), .l (gL p 6), .l (gL p 7), .l (gL p 8)]))
def S_dom_over : STab := [(0, fun p => ⟨(t0 (t2 (.pb 1 0 0) (t1 (.int .i64 (gI p 0))) (t0 (t0 (t1 (.int .i64 (gI p 1))) .nil) .nil)) (t0 (t2 (.vw 15 0 []) (t0 (t1 (.int .i64 (gI p 2))) .nil) .nil) .nil)), [(1, ⟨0, [.str (gS p 3), .bool (gB p 4), .fz [] 3 [.int .i64] (gL p 5), .int .i64 (gI p 6), .fz [] 40 lt4 (gL p 7)], none⟩)], [(15, ⟨24, [.sl true 3 [.int .i64]], (gL p 8), [], 0, [0, 0, 0, 0], 0⟩)], 1⟩),
 (2, fun p => ⟨(t0 (t0 (t2 (.int .i64 (gI p 0)) (t2 (.vw 30 0 []) (t0 (t1 (.int .i64 (gI p 1))) .nil) .nil) .nil) .nil) (t0 (t2 (.vw 15 0 []) (t0 (t0 (t1 (.int .i64 (gI p 2))) .nil) .nil) .nil) (t1 (.vw 29000000 0 [])))), [], [(15, ⟨24, [.sl true 3 [.int .i64]], (gL p 3), [], 0, [0, 0, 0, 0], 0⟩), (30, ⟨51, [.sl true 4 [.bool]], (gL p 4), [], 0, [0, 0, 0, 0], 0⟩), (29000000, ⟨4, [.bool], (gL p 5), [], 0, [0, 0, 0, 0], 0⟩)], 1⟩),
 (4, fun p => ⟨(t0 (t0 (t2 (.int .i64 (gI p 0)) (t2 (.vw 30 0 []) (t0 (t1 (.int .i64 (gI p 1))) .nil) .nil) .nil) (t0 (t2 (.vw 48000000 0 []) (t0 .nil (t1 (.int .i64 (gI p 2)))) .nil) .nil)) (t0 (t2 (.vw 15 0 []) (t2 (.int .i64 (gI p 3)) (t0 (t1 (.int .i64 (gI p 4))) (t1 (.int .i64 (gI p 5)))) .nil) .nil) (t1 (.vw 29000000 0 [])))), [], [(15, ⟨24, [.sl true 3 [.int .i64]], (gL p 6), [], 0, [0, 0, 0, 0], 0⟩), (30, ⟨51, [.sl true 4 [.bool]], (gL p 7), [], 0, [0, 0, 0, 0], 0⟩), (29000000, ⟨4, [.bool], (gL p 8), [], 0, [0, 0, 0, 0], 0⟩), (48000000, ⟨4, [.bool], (gL p 9), [], 0, [0, 0, 0, 0], 0⟩)], 1⟩)]
def T_dom_over : TTab := [(0, [fun p => (.exit 0, ⟨(t0 (t2 (.pb 1 0 0) (t1 (.int .i64 (gI p 0))) .nil) (t0 (t1 (.vw 15 0 [])) .nil)), [(1, ⟨0, [.str (gS p 1), .bool (gB p 2), .fz [] 3 [.int .i64] (gL p 3), .int .i64 (gI p 4), .fz [] 40 lt4 (gL p 5)], none⟩)], [(15, ⟨24, [.sl true 3 [.int .i64]], (gL p 6), [], 0, [0, 0, 0, 0], 0⟩)], 1⟩)]),
 (2, [fun p => (.exit 2, ⟨(t0 (t0 (t0 (t1 (.vw 30 0 [])) .nil) .nil) (t0 .nil .nil)), [], [(30, ⟨51, [.sl true 4 [.bool]], (gL p 0), [], 0, [0, 0, 0, 0], 0⟩)], 1⟩)]),
 (4, [fun p => (.exit 4, ⟨(t0 (t0 (t2 (.int .i64 (gI p 0)) (t2 (.vw 30 0 []) (t0 (t1 (.int .i64 (gI p 1))) .nil) .nil) .nil) .nil) (t0 (t2 (.vw 15 0 []) (t0 (t0 (t1 (.int .i64 (gI p 2))) .nil) .nil) .nil) (t1 (.vw 29000000 0 [])))), [], [(15, ⟨24, [.sl true 3 [.int .i64]], (gL p 3), [], 0, [0, 0, 0, 0], 0⟩), (30, ⟨51, [.sl true 4 [.bool]], (gL p 4), [], 0, [0, 0, 0, 0], 0⟩), (29000000, ⟨4, [.bool], (gL p 5), [], 0, [0, 0, 0, 0], 0⟩)], 1⟩)])]
def F_dom_over : Fn := { np := 1, bs := [0, 2, 4], main := M_dom_over, lps := [(0, L_dom_over_0), (2, L_dom_over_2), (4, L_dom_over_4)] }
def M_slices_SortFunc_Sapi_Base_api_Base (x : List D) : Sh :=
 .call math_bits_Len [.i (wrapA .u64 (Int.ofNat (List.length (D.els (gD x 0)))))] 0 fun r0 _ =>
 .call slices_pdqsortCmpFunc_api_Base [.l (D.els (gD x 0)), .i 0, .i (Int.ofNat (List.length (D.els (gD x 0)))), .i (D.toI r0), .l []] 0 fun r1 _ =>
 .ret (.l []) []
def S_slices_SortFunc_Sapi_Base_api_Base : STab := []
def T_slices_SortFunc_Sapi_Base_api_Base : TTab := []
def F_slices_SortFunc_Sapi_Base_api_Base : Fn := { np := 2, bs := [], main := M_slices_SortFunc_Sapi_Base_api_Base, lps := [] }
def M_slices_Compact_Sapi_Base_api_Base (x : List D) : Sh :=
 .ask (ltI (Int.ofNat (List.length (D.els (gD x 0)))) 2)
 (.ret (.l (D.els (gD x 0))) [])
 (.loop 0 [.i 1, .l (D.els (gD x 0))] (.cons (fun p0 =>
 .ret (.l (gL p0 0)) [])
 .nil))
def L_slices_Compact_Sapi_Base_api_Base_0 (p : List D) : Sh :=
 .ask (ltI (gI p 0) (Int.ofNat (List.length (gL p 1))))
 (.ask (within (gI p 0) (List.length (gL p 1)))
 (.ask (within (wrapA .i64 ((gI p 0) - 1)) (List.length (gL p 1)))
 (.ask ((eqI (D.toI (D.fld (gD (gL p 1) (Int.toNat (gI p 0))) 0)) (D.toI (D.fld (gD (gL p 1) (Int.toNat (wrapA .i64 ((gI p 0) - 1)))) 0))) && ((eqI (D.toI (D.fld (gD (gL p 1) (Int.toNat (gI p 0))) 1)) (D.toI (D.fld (gD (gL p 1) (Int.toNat (wrapA .i64 ((gI p 0) - 1)))) 1))) && true))
 (.ask (bounds (gI p 0) (Int.ofNat (List.length (gL p 1))) (Int.ofNat (List.length (gL p 1))))
 (.loop 2 [.i (gI p 0), .i 1, .l (List.drop (Int.toNat (gI p 0)) (List.take (List.length (gL p 1)) (gL p 1)))] (.cons (fun p0 =>
 .bad)
 .nil))
 (.bad))
 (.again [.i (wrapA .i64 ((gI p 0) + 1)), .l (gL p 1)]))
 (.bad))
 (.bad))
 (.out (0, [.l (gL p 1)]))
def L_slices_Compact_Sapi_Base_api_Base_2 (p : List D) : Sh :=
 .ask (ltI (gI p 1) (Int.ofNat (List.length (gL p 2))))
 (.ask (within (gI p 1) (List.length (gL p 2)))
 (.ask (within (wrapA .i64 ((gI p 1) - 1)) (List.length (gL p 2)))
 (.ask (!((eqI (D.toI (D.fld (gD (gL p 2) (Int.toNat (gI p 1))) 0)) (D.toI (D.fld (gD (gL p 2) (Int.toNat (wrapA .i64 ((gI p 1) - 1)))) 0))) && ((eqI (D.toI (D.fld (gD (gL p 2) (Int.toNat (gI p 1))) 1)) (D.toI (D.fld (gD (gL p 2) (Int.toNat (wrapA .i64 ((gI p 1) - 1)))) 1))) && true)))
 (.bad)
 (.again [.i (gI p 0), .i (wrapA .i64 ((gI p 1) + 1)), .l (gL p 2)]))
 (.bad))
 (.bad))
 (.out (0, [.i (gI p 0)]))
def S_slices_Compact_Sapi_Base_api_Base : STab := [(0, fun p => ⟨(t2 (.vw 500 0 []) (t0 (t1 (.int .i64 (gI p 0))) .nil) .nil), [], [(500, ⟨110, [.int .i64, .int .i64], (gL p 1), [], 0, [0, 0, 0, 0], 0⟩)], 1⟩),
 (2, fun p => ⟨(t0 (t0 (t1 (.int .i64 (gI p 0))) (t1 (.int .i64 (gI p 1)))) (t0 (t1 (.vw 28 0 [])) .nil)), [], [(28, ⟨110, [.int .i64, .int .i64], (gL p 2), [], 0, [0, 0, 0, 0], 0⟩)], 1⟩)]
def T_slices_Compact_Sapi_Base_api_Base : TTab := [(0, [fun p => (.exit 0, ⟨(t2 (.vw 500 0 []) .nil (t0 .nil .nil)), [], [(500, ⟨110, [.int .i64, .int .i64], (gL p 0), [], 0, [0, 0, 0, 0], 0⟩)], 1⟩)]),
 (2, [fun p => (.exit 2, ⟨(t0 (t0 (t1 (.int .i64 (gI p 0))) .nil) (t0 .nil .nil)), [], [], 1⟩)])]
def F_slices_Compact_Sapi_Base_api_Base : Fn := { np := 1, bs := [0, 2], main := M_slices_Compact_Sapi_Base_api_Base, lps := [(0, L_slices_Compact_Sapi_Base_api_Base_0), (2, L_slices_Compact_Sapi_Base_api_Base_2)] }
def M_math_bits_Len (x : List D) : Sh :=
 .ask false
 (.call math_bits_Len32 [.i (wrapA .u32 (D.toI (gD x 0)))] 0 fun r0 _ =>
 .ret (.i (D.toI r0)) [])
 (.call math_bits_Len64 [.i (D.toI (gD x 0))] 0 fun r0 _ =>
 .ret (.i (D.toI r0)) [])
def S_math_bits_Len : STab := []
def T_math_bits_Len : TTab := []
def F_math_bits_Len : Fn := { np := 1, bs := [], main := M_math_bits_Len, lps := [] }
def M_slices_xorshift_Next (x : List D) : Sh :=
 .ask (leI 0 13)
 (.ask (leI 0 7)
 (.ask (leI 0 17)
 (let z0 := bitsA .xor .u64 (bitsA .xor .u64 (D.toI (gD x 0)) (shlV .u64 (D.toI (gD x 0)) 13)) (shrV .u64 (bitsA .xor .u64 (D.toI (gD x 0)) (shlV .u64 (D.toI (gD x 0)) 13)) 7); let z1 := D.i (bitsA .xor .u64 z0 (shlV .u64 z0 17)); .ret z1 [z1])
 (.bad))
 (.bad))
 (.bad)
def S_slices_xorshift_Next : STab := []
def T_slices_xorshift_Next : TTab := []
def F_slices_xorshift_Next : Fn := { np := 1, bs := [], main := M_slices_xorshift_Next, lps := [] }
def M_r3_Ints (x : List D) : Sh :=
 .ask (!(eqI (Int.ofNat (List.length (D.els (gD x 0)))) (Int.ofNat (List.length (D.els (gD x 1))))))
 (.ret (.b false) [])
 (.loop 0 [.l (D.els (gD x 0)), .l (D.els (gD x 1)), .i 0] (.cons (fun p0 =>
 .ret (.b (gB p0 0)) [])
 (.cons (fun p0 =>
 .ret (.b true) [])
 .nil)))
def L_r3_Ints_0 (p : List D) : Sh :=
 .ask (ltI (gI p 2) (Int.ofNat (List.length (gL p 0))))
 (.ask (within (gI p 2) (List.length (gL p 0)))
 (.ask (within (gI p 2) (List.length (gL p 1)))
 (.ask (!(eqI (D.toI (gD (gL p 0) (Int.toNat (gI p 2)))) (D.toI (gD (gL p 1) (Int.toNat (gI p 2))))))
 (.out (0, [.b false]))
 (.again [.l (gL p 0), .l (gL p 1), .i (wrapA .i64 ((gI p 2) + 1))]))
 (.bad))
 (.bad))
 (.out (1, []))
def S_r3_Ints : STab := [(0, fun p => ⟨(t2 (.fz [] 3 [.int .i64] (gL p 0)) (t2 (.fz [] 3 [.int .i64] (gL p 1)) .nil (t1 (.int .i64 (gI p 2)))) .nil), [], [], 1⟩)]
def T_r3_Ints : TTab := [(0, [fun p => (.ret, ⟨(t0 .nil (t0 (t1 (.bool (gB p 0))) .nil)), [], [], 1⟩),
  fun p => (.exit 0, ⟨(t0 .nil (t0 (t0 .nil .nil) .nil)), [], [], 1⟩)])]
def F_r3_Ints : Fn := { np := 2, bs := [0], main := M_r3_Ints, lps := [(0, L_r3_Ints_0)] }
def M_args_Dead (x : List D) : Sh :=
 .call wf_Check [.l [.l (D.els (D.fld (gD x 0) 0)), .l (D.els (D.fld (gD x 0) 1)), .l (D.els (D.fld (gD x 0) 2)), .l (D.els (D.fld (gD x 0) 3))]] 0 fun r0 _ =>
 .ask (!(eqI (D.toI r0) 0))
 (.ret (.l []) [])
 (.ask ((leI 0 (Int.ofNat (List.length (D.els (D.fld (gD x 0) 3))))) && ((eqI (Int.ofNat (List.length (D.els (D.fld (gD x 0) 3)))) (Int.ofNat (List.length (D.els (D.fld (gD x 0) 3))))) && (lim (Int.toNat (Int.ofNat (List.length (D.els (D.fld (gD x 0) 3))))) 24)))
 (.call args_free [.l [.l (D.els (D.fld (gD x 0) 0)), .l (D.els (D.fld (gD x 0) 1)), .l (D.els (D.fld (gD x 0) 2)), .l (D.els (D.fld (gD x 0) 3))]] 0 fun r1 _ =>
 .loop 0 [.i (Int.ofNat (List.length (D.els r1))), .i 0, .l (D.els (D.fld (gD x 0) 0)), .l (D.els (D.fld (gD x 0) 1)), .l (D.els (D.fld (gD x 0) 2)), .l (D.els (D.fld (gD x 0) 3)), .l (List.replicate (List.length (D.els (D.fld (gD x 0) 3))) (D.l [])), .l (D.els r1)] (.cons (fun p2 =>
 .ret (.l (gL p2 0)) [])
 .nil))
 (.bad))
def L_args_Dead_0 (p : List D) : Sh :=
 .ask (ltI (gI p 1) (gI p 0))
 (.ask (within (gI p 1) (List.length (gL p 7)))
 (.ask (!(D.toB (gD (gL p 7) (Int.toNat (gI p 1)))))
 (.again [.i (gI p 0), .i (wrapA .i64 ((gI p 1) + 1)), .l (gL p 2), .l (gL p 3), .l (gL p 4), .l (gL p 5), .l (gL p 6), .l (gL p 7)])
 (.ask (within (gI p 1) (List.length (gL p 5)))
 (.call ir_Uses [.l [.s (D.toS (D.fld (gD (gL p 5) (Int.toNat (gI p 1))) 0)), .b (D.toB (D.fld (gD (gL p 5) (Int.toNat (gI p 1))) 1)), .l (D.els (D.fld (gD (gL p 5) (Int.toNat (gI p 1))) 2)), .i (D.toI (D.fld (gD (gL p 5) (Int.toNat (gI p 1))) 3)), .l (D.els (D.fld (gD (gL p 5) (Int.toNat (gI p 1))) 4))]] 0 fun r0 _ =>
 .ask (within (gI p 1) (List.length (gL p 5)))
 (.loop 2 [.i (gI p 0), .i (Int.ofNat (List.length (D.els (D.fld (gD (gL p 5) (Int.toNat (gI p 1))) 2)))), .i (gI p 1), .i (gI p 1), .i 0, .l (gL p 2), .l (gL p 3), .l (gL p 4), .l (gL p 5), .l (gL p 6), .l (gL p 7), .l (D.els r0)] (.cons (fun p1 =>
 .again [.i (gI p1 0), .i (wrapA .i64 ((gI p1 1) + 1)), .l (gL p1 2), .l (gL p1 3), .l (gL p1 4), .l (gL p1 5), .l (gL p1 6), .l (gL p1 7)])
 .nil))
 (.bad))
 (.bad)))
 (.bad))
 (.out (0, [.l (gL p 6)]))
def L_args_Dead_2 (p : List D) : Sh :=
 .ask (ltI (gI p 4) (gI p 1))
 (.ask (within (wrapA .i64 ((gI p 4) + 1)) (List.length (gL p 11)))
 (.ask (eqI (D.toI (gD (gL p 11) (Int.toNat (wrapA .i64 ((gI p 4) + 1))))) 0)
 (.ask (within (gI p 2) (List.length (gL p 9)))
 (.ask (lim ((List.length (D.els (gD (gL p 9) (Int.toNat (gI p 2))))) + 1) 8)
 (.ask (within (gI p 2) (List.length (gL p 9)))
 (.ask ((Nat.beq (Int.toNat (gI p 2)) (Int.toNat (gI p 2))) && true)
 (.again [.i (gI p 0), .i (gI p 1), .i (gI p 2), .i (gI p 3), .i (wrapA .i64 ((gI p 4) + 1)), .l (gL p 5), .l (gL p 6), .l (gL p 7), .l (gL p 8), .l (List.set (gL p 9) (Int.toNat (gI p 2)) (D.l ((D.els (gD (gL p 9) (Int.toNat (gI p 2)))) ++ [.i (wrapA .i64 ((gI p 4) + 1))]))), .l (gL p 10), .l (gL p 11)])
 (.bad))
 (.bad))
 (.bad))
 (.bad))
 (.again [.i (gI p 0), .i (gI p 1), .i (gI p 2), .i (gI p 3), .i (wrapA .i64 ((gI p 4) + 1)), .l (gL p 5), .l (gL p 6), .l (gL p 7), .l (gL p 8), .l (gL p 9), .l (gL p 10), .l (gL p 11)]))
 (.bad))
 (.out (0, [.i (gI p 0), .i (gI p 3), .l (gL p 5), .l (gL p 6), .l (gL p 7), .l (gL p 8), .l (gL p 9), .l (gL p 10)]))
def S_args_Dead : STab := [(0, fun p => ⟨(t0 (t2 (.pb 1 0 0) (t1 (.vw 14 0 [])) (t0 (t0 (t1 (.int .i64 (gI p 0))) .nil) .nil)) (t0 (t0 (t0 (t1 (.vw 17000000 0 [])) .nil) .nil) (t0 (t0 (t1 (.int .i64 (gI p 1))) .nil) .nil))), [(1, ⟨0, [.fz [] 38 lt1 (gL p 2), .fz [] 67 [.str, .sl false 2 [.int .i64]] (gL p 3), .fz [] 70 [.str, .sl false 3 [.int .i64]] (gL p 4), .fz [] 43 lt2 (gL p 5)], none⟩)], [(14, ⟨24, [.sl true 3 [.int .i64]], (gL p 6), [], 0, [0, 0, 0, 0], 0⟩), (17000000, ⟨4, [.bool], (gL p 7), [], 0, [0, 0, 0, 0], 0⟩)], 1⟩),
 (2, fun p => ⟨(t0 (t2 (.pb 1 0 0) (t1 (.vw 14 0 [])) (t0 (t0 (t1 (.int .i64 (gI p 0))) .nil) (t0 (t0 (t1 (.int .i64 (gI p 1))) .nil) .nil))) (t0 (t2 (.int .i64 (gI p 2)) (t0 (t1 (.vw 17000000 0 [])) .nil) .nil) (t2 (.vw 31000000 0 []) (t0 (t1 (.int .i64 (gI p 3))) .nil) (t0 (t0 (t1 (.int .i64 (gI p 4))) .nil) .nil)))), [(1, ⟨0, [.fz [] 38 lt1 (gL p 5), .fz [] 67 [.str, .sl false 2 [.int .i64]] (gL p 6), .fz [] 70 [.str, .sl false 3 [.int .i64]] (gL p 7), .fz [] 43 lt2 (gL p 8)], none⟩)], [(14, ⟨24, [.sl true 3 [.int .i64]], (gL p 9), [], 0, [0, 0, 0, 0], 0⟩), (17000000, ⟨4, [.bool], (gL p 10), [], 0, [0, 0, 0, 0], 0⟩), (31000000, ⟨3, [.int .i64], (gL p 11), [], 0, [0, 0, 0, 0], 0⟩)], 1⟩)]
def T_args_Dead : TTab := [(0, [fun p => (.exit 0, ⟨(t0 (t0 (t1 (.vw 14 0 [])) .nil) (t0 .nil .nil)), [], [(14, ⟨24, [.sl true 3 [.int .i64]], (gL p 0), [], 0, [0, 0, 0, 0], 0⟩)], 1⟩)]),
 (2, [fun p => (.exit 2, ⟨(t0 (t2 (.pb 1 0 0) (t1 (.vw 14 0 [])) (t0 (t0 (t1 (.int .i64 (gI p 0))) .nil) .nil)) (t0 (t0 (t0 (t1 (.vw 17000000 0 [])) .nil) .nil) (t0 (t0 (t1 (.int .i64 (gI p 1))) .nil) .nil))), [(1, ⟨0, [.fz [] 38 lt1 (gL p 2), .fz [] 67 [.str, .sl false 2 [.int .i64]] (gL p 3), .fz [] 70 [.str, .sl false 3 [.int .i64]] (gL p 4), .fz [] 43 lt2 (gL p 5)], none⟩)], [(14, ⟨24, [.sl true 3 [.int .i64]], (gL p 6), [], 0, [0, 0, 0, 0], 0⟩), (17000000, ⟨4, [.bool], (gL p 7), [], 0, [0, 0, 0, 0], 0⟩)], 1⟩)])]
def F_args_Dead : Fn := { np := 1, bs := [0, 2], main := M_args_Dead, lps := [(0, L_args_Dead_0), (2, L_args_Dead_2)] }
def M_args_Unused (x : List D) : Sh :=
 .call wf_Check [.l [.l (D.els (D.fld (gD x 0) 0)), .l (D.els (D.fld (gD x 0) 1)), .l (D.els (D.fld (gD x 0) 2)), .l (D.els (D.fld (gD x 0) 3))]] 0 fun r0 _ =>
 .ask (!(eqI (D.toI r0) 0))
 (.ret (.l []) [])
 (.call args_free [.l [.l (D.els (D.fld (gD x 0) 0)), .l (D.els (D.fld (gD x 0) 1)), .l (D.els (D.fld (gD x 0) 2)), .l (D.els (D.fld (gD x 0) 3))]] 0 fun r1 _ =>
 .loop 0 [.l (D.els (D.fld (gD x 0) 3)), .i 0, .i (Int.ofNat (List.length (D.els (D.fld (gD x 0) 3)))), .l (D.els (D.fld (gD x 0) 0)), .l (D.els (D.fld (gD x 0) 1)), .l (D.els (D.fld (gD x 0) 2)), .l (D.els (D.fld (gD x 0) 3)), .l (D.els r1)] (.cons (fun p2 =>
 .loop 2 [.i (Int.ofNat (List.length (gL p2 3))), .l (gL p2 3), .i 0, .l (gL p2 4)] (.cons (fun p3 =>
 .ret (.l (gL p3 0)) [])
 .nil))
 .nil))
def L_args_Unused_0 (p : List D) : Sh :=
 .ask (ltI (gI p 1) (gI p 2))
 (.ask (within (gI p 1) (List.length (gL p 0)))
 (.ask (within (gI p 1) (List.length (gL p 7)))
 (.ask (within (gI p 1) (List.length (gL p 7)))
 (.again [.l (gL p 0), .i (wrapA .i64 ((gI p 1) + 1)), .i (gI p 2), .l (gL p 3), .l (gL p 4), .l (gL p 5), .l (gL p 6), .l (List.set (gL p 7) (Int.toNat (gI p 1)) (D.b ((D.toB (gD (gL p 7) (Int.toNat (gI p 1)))) && (!(eqI (D.toI (D.fld (gD (gL p 0) (Int.toNat (gI p 1))) 3)) 0)))))])
 (.bad))
 (.bad))
 (.bad))
 (.out (0, [.l (gL p 3), .l (gL p 4), .l (gL p 5), .l (gL p 6), .l (gL p 7)]))
def L_args_Unused_2 (p : List D) : Sh :=
 .ask (ltI (gI p 2) (gI p 0))
 (.ask (within (gI p 2) (List.length (gL p 1)))
 (.call ir_Uses [.l [.s (D.toS (D.fld (gD (gL p 1) (Int.toNat (gI p 2))) 0)), .b (D.toB (D.fld (gD (gL p 1) (Int.toNat (gI p 2))) 1)), .l (D.els (D.fld (gD (gL p 1) (Int.toNat (gI p 2))) 2)), .i (D.toI (D.fld (gD (gL p 1) (Int.toNat (gI p 2))) 3)), .l (D.els (D.fld (gD (gL p 1) (Int.toNat (gI p 2))) 4))]] 0 fun r0 _ =>
 .loop 4 [.i 0, .l (D.els (D.fld (gD (gL p 1) (Int.toNat (gI p 2))) 4)), .i (gI p 0), .l (gL p 1), .i (Int.ofNat (List.length (D.els (D.fld (gD (gL p 1) (Int.toNat (gI p 2))) 4)))), .i (gI p 2), .l (gL p 3), .l (D.els r0)] (.cons (fun p1 =>
 .again [.i (gI p1 0), .l (gL p1 1), .i (wrapA .i64 ((gI p1 2) + 1)), .l (gL p1 3)])
 .nil))
 (.bad))
 (.out (0, [.l (gL p 3)]))
def L_args_Unused_4 (p : List D) : Sh :=
 .ask (ltI (gI p 0) (gI p 4))
 (.ask (within (gI p 0) (List.length (gL p 1)))
 (.loop 6 [.i (gI p 0), .l (gL p 1), .i (gI p 2), .i (Int.ofNat (List.length (D.els (gD (gL p 1) (Int.toNat (gI p 0)))))), .l (gL p 3), .l (D.els (gD (gL p 1) (Int.toNat (gI p 0)))), .i (gI p 4), .i (gI p 5), .i 0, .l (gL p 6), .l (gL p 7)] (.cons (fun p0 =>
 .again [.i (wrapA .i64 ((gI p0 0) + 1)), .l (gL p0 1), .i (gI p0 2), .l (gL p0 3), .i (gI p0 4), .i (gI p0 5), .l (gL p0 6), .l (gL p0 7)])
 .nil))
 (.bad))
 (.out (0, [.i (gI p 2), .l (gL p 3), .i (gI p 5), .l (gL p 6)]))
def L_args_Unused_6 (p : List D) : Sh :=
 .ask (ltI (gI p 8) (gI p 3))
 (.ask (within (gI p 8) (List.length (gL p 5)))
 (.ask ((!(((eqI (D.toI (D.fld (gD (gL p 5) (Int.toNat (gI p 8))) 0)) 22) && (!(eqI (D.toI (D.fld (gD (gL p 5) (Int.toNat (gI p 8))) 1)) 0))) && true)) || (within (D.toI (D.fld (gD (gL p 5) (Int.toNat (gI p 8))) 2)) (List.length (gL p 10))))
 (.ask (((eqI (D.toI (D.fld (gD (gL p 5) (Int.toNat (gI p 8))) 0)) 22) && (!(eqI (D.toI (D.fld (gD (gL p 5) (Int.toNat (gI p 8))) 1)) 0))) && (ltI 0 (D.toI (gD (gL p 10) (Int.toNat (D.toI (D.fld (gD (gL p 5) (Int.toNat (gI p 8))) 2)))))))
 (.ask (within (D.toI (D.fld (gD (gL p 5) (Int.toNat (gI p 8))) 3)) (List.length (gL p 9)))
 (.again [.i (gI p 0), .l (gL p 1), .i (gI p 2), .i (gI p 3), .l (gL p 4), .l (gL p 5), .i (gI p 6), .i (gI p 7), .i (wrapA .i64 ((gI p 8) + 1)), .l (List.set (gL p 9) (Int.toNat (D.toI (D.fld (gD (gL p 5) (Int.toNat (gI p 8))) 3))) (D.b false)), .l (gL p 10)])
 (.bad))
 (.again [.i (gI p 0), .l (gL p 1), .i (gI p 2), .i (gI p 3), .l (gL p 4), .l (gL p 5), .i (gI p 6), .i (gI p 7), .i (wrapA .i64 ((gI p 8) + 1)), .l (gL p 9), .l (gL p 10)]))
 (.bad))
 (.bad))
 (.out (0, [.i (gI p 0), .l (gL p 1), .i (gI p 2), .l (gL p 4), .i (gI p 6), .i (gI p 7), .l (gL p 9), .l (gL p 10)]))
def S_args_Unused : STab := [(0, fun p => ⟨(t0 (t2 (.pb 1 0 0) (t2 (.vw 18000000 0 []) .nil (t0 (t1 (.fz [] 43 lt2 (gL p 0))) .nil)) (t0 .nil (t0 (t1 (.int .i64 (gI p 1))) .nil))) (t0 (t0 .nil (t0 (t1 (.int .i64 (gI p 2))) .nil)) .nil)), [(1, ⟨0, [.fz [] 38 lt1 (gL p 3), .fz [] 67 [.str, .sl false 2 [.int .i64]] (gL p 4), .fz [] 70 [.str, .sl false 3 [.int .i64]] (gL p 5), .fz [] 43 lt2 (gL p 6)], none⟩)], [(18000000, ⟨4, [.bool], (gL p 7), [], 0, [0, 0, 0, 0], 0⟩)], 1⟩),
 (2, fun p => ⟨(t0 (t0 (t1 (.vw 18000000 0 [])) (t0 (t0 .nil (t0 (t1 (.int .i64 (gI p 0))) .nil)) .nil)) (t0 (t0 (t0 .nil (t0 (t1 (.fz [] 43 lt2 (gL p 1))) .nil)) .nil) (t0 (t0 .nil (t0 (t1 (.int .i64 (gI p 2))) .nil)) .nil))), [], [(18000000, ⟨4, [.bool], (gL p 3), [], 0, [0, 0, 0, 0], 0⟩)], 1⟩),
 (4, fun p => ⟨(t0 (t0 (t2 (.vw 18000000 0 []) .nil (t0 (t0 .nil (t1 (.int .i64 (gI p 0)))) .nil)) (t0 (t0 (t0 .nil (t1 (.fz [] 40 lt4 (gL p 1)))) (t0 (t1 (.int .i64 (gI p 2))) .nil)) .nil)) (t0 (t0 (t2 (.vw 48000000 0 []) .nil (t0 (t1 (.fz [] 43 lt2 (gL p 3))) .nil)) .nil) (t0 (t0 (t0 .nil (t1 (.int .i64 (gI p 4)))) (t0 (t1 (.int .i64 (gI p 5))) .nil)) .nil))), [], [(18000000, ⟨4, [.bool], (gL p 6), [], 0, [0, 0, 0, 0], 0⟩), (48000000, ⟨3, [.int .i64], (gL p 7), [], 0, [0, 0, 0, 0], 0⟩)], 1⟩),
 (6, fun p => ⟨(t0 (t0 (t2 (.vw 18000000 0 []) .nil (t0 (t0 .nil (t1 (.int .i64 (gI p 0)))) .nil)) (t0 (t0 (t0 .nil (t1 (.fz [] 40 lt4 (gL p 1)))) (t0 (t1 (.int .i64 (gI p 2))) (t1 (.int .i64 (gI p 3))))) .nil)) (t0 (t0 (t2 (.vw 48000000 0 []) .nil (t0 (t1 (.fz [] 43 lt2 (gL p 4))) (t1 (.fz [] 27 lt5 (gL p 5))))) .nil) (t0 (t0 (t0 .nil (t1 (.int .i64 (gI p 6)))) (t0 (t1 (.int .i64 (gI p 7))) (t1 (.int .i64 (gI p 8))))) .nil))), [], [(18000000, ⟨4, [.bool], (gL p 9), [], 0, [0, 0, 0, 0], 0⟩), (48000000, ⟨3, [.int .i64], (gL p 10), [], 0, [0, 0, 0, 0], 0⟩)], 1⟩)]
def T_args_Unused : TTab := [(0, [fun p => (.exit 0, ⟨(t0 (t2 (.pb 1 0 0) (t1 (.vw 18000000 0 [])) .nil) (t0 .nil .nil)), [(1, ⟨0, [.fz [] 38 lt1 (gL p 0), .fz [] 67 [.str, .sl false 2 [.int .i64]] (gL p 1), .fz [] 70 [.str, .sl false 3 [.int .i64]] (gL p 2), .fz [] 43 lt2 (gL p 3)], none⟩)], [(18000000, ⟨4, [.bool], (gL p 4), [], 0, [0, 0, 0, 0], 0⟩)], 1⟩)]),
 (2, [fun p => (.exit 2, ⟨(t0 (t0 (t1 (.vw 18000000 0 [])) .nil) (t0 .nil .nil)), [], [(18000000, ⟨4, [.bool], (gL p 0), [], 0, [0, 0, 0, 0], 0⟩)], 1⟩)]),
 (4, [fun p => (.exit 4, ⟨(t0 (t0 (t1 (.vw 18000000 0 [])) (t0 (t0 .nil (t0 (t1 (.int .i64 (gI p 0))) .nil)) .nil)) (t0 (t0 (t0 .nil (t0 (t1 (.fz [] 43 lt2 (gL p 1))) .nil)) .nil) (t0 (t0 .nil (t0 (t1 (.int .i64 (gI p 2))) .nil)) .nil))), [], [(18000000, ⟨4, [.bool], (gL p 3), [], 0, [0, 0, 0, 0], 0⟩)], 1⟩)]),
 (6, [fun p => (.exit 6, ⟨(t0 (t0 (t2 (.vw 18000000 0 []) .nil (t0 (t0 .nil (t1 (.int .i64 (gI p 0)))) .nil)) (t0 (t0 (t0 .nil (t1 (.fz [] 40 lt4 (gL p 1)))) (t0 (t1 (.int .i64 (gI p 2))) .nil)) .nil)) (t0 (t0 (t2 (.vw 48000000 0 []) .nil (t0 (t1 (.fz [] 43 lt2 (gL p 3))) .nil)) .nil) (t0 (t0 (t0 .nil (t1 (.int .i64 (gI p 4)))) (t0 (t1 (.int .i64 (gI p 5))) .nil)) .nil))), [], [(18000000, ⟨4, [.bool], (gL p 6), [], 0, [0, 0, 0, 0], 0⟩), (48000000, ⟨3, [.int .i64], (gL p 7), [], 0, [0, 0, 0, 0], 0⟩)], 1⟩)])]
def F_args_Unused : Fn := { np := 1, bs := [0, 2, 4, 6], main := M_args_Unused, lps := [(0, L_args_Unused_0), (2, L_args_Unused_2), (4, L_args_Unused_4), (6, L_args_Unused_6)] }
def M_ir_Neat (x : List D) : Sh :=
 .call ir_copyFunc [.l [.s (D.toS (D.fld (gD x 0) 0)), .b (D.toB (D.fld (gD x 0) 1)), .l (D.els (D.fld (gD x 0) 2)), .i (D.toI (D.fld (gD x 0) 3)), .l (D.els (D.fld (gD x 0) 4))]] 0 fun r0 _ =>
 .loop 0 [.i (Int.ofNat (List.length (D.els (D.fld r0 4)))), .i (Int.ofNat (List.length (D.els (D.fld r0 2)))), .i 0, .s (D.toS (D.fld r0 0)), .b (D.toB (D.fld r0 1)), .i (D.toI (D.fld r0 3)), .s [], .b false, .i 0, .l [], .l (D.els (D.fld r0 2)), .l (D.els (D.fld r0 4))] (.cons (fun p1 =>
 .loop 4 [.i 0, .i (Int.ofNat (List.length (gL p1 8))), .s (gS p1 0), .b (gB p1 1), .i (gI p1 2), .s (gS p1 3), .b (gB p1 4), .i (gI p1 5), .l (gL p1 6), .l (gL p1 7), .l (gL p1 8)] (.cons (fun p2 =>
 .ret (.l [.s (gS p2 0), .b (gB p2 1), .l (gL p2 6), .i (gI p2 2), .l (gL p2 7)]) [])
 .nil))
 .nil)
def L_ir_Neat_0 (p : List D) : Sh :=
 .ask (ltI (gI p 2) (gI p 0))
 (.ask (within (gI p 2) (List.length (gL p 11)))
 (.loop 2 [.i (gI p 0), .i (gI p 2), .i (Int.ofNat (List.length (D.els (gD (gL p 11) (Int.toNat (gI p 2)))))), .i (gI p 1), .i (gI p 2), .i 0, .s (gS p 3), .b (gB p 4), .i (gI p 5), .s (gS p 6), .b (gB p 7), .i (gI p 8), .l (gL p 9), .l (gL p 10), .l (gL p 11)] (.cons (fun p0 =>
 .again [.i (gI p0 0), .i (gI p0 1), .i (wrapA .i64 ((gI p0 2) + 1)), .s (gS p0 3), .b (gB p0 4), .i (gI p0 5), .s (gS p0 6), .b (gB p0 7), .i (gI p0 8), .l (gL p0 9), .l (gL p0 10), .l (gL p0 11)])
 .nil))
 (.bad))
 (.out (0, [.s (gS p 3), .b (gB p 4), .i (gI p 5), .s (gS p 6), .b (gB p 7), .i (gI p 8), .l (gL p 9), .l (gL p 10), .l (gL p 11)]))
def L_ir_Neat_2 (p : List D) : Sh :=
 .ask (ltI (gI p 5) (gI p 2))
 (.ask (within (gI p 1) (List.length (gL p 14)))
 (.ask (within (gI p 5) (List.length (D.els (gD (gL p 14) (Int.toNat (gI p 1))))))
 (.ask ((eqI (D.toI (D.fld (gD (D.els (gD (gL p 14) (Int.toNat (gI p 1)))) (Int.toNat (gI p 5))) 0)) 26) && (eqI (Int.ofNat (List.length (D.els (D.fld (gD (D.els (gD (gL p 14) (Int.toNat (gI p 1)))) (Int.toNat (gI p 5))) 5)))) (Int.ofNat (List.length (D.els (D.fld (gD (D.els (gD (gL p 14) (Int.toNat (gI p 1)))) (Int.toNat (gI p 5))) 6))))))
 (.bad)
 (.ask (eqI (D.toI (D.fld (gD (D.els (gD (gL p 14) (Int.toNat (gI p 1)))) (Int.toNat (gI p 5))) 1)) 0)
 (.again [.i (gI p 0), .i (gI p 1), .i (gI p 2), .i (gI p 3), .i (gI p 4), .i (wrapA .i64 ((gI p 5) + 1)), .s (gS p 6), .b (gB p 7), .i (gI p 8), .s (gS p 9), .b (gB p 10), .i (gI p 11), .l (gL p 12), .l (gL p 13), .l (List.set (gL p 14) (Int.toNat (gI p 1)) (D.l (List.set (D.els (gD (gL p 14) (Int.toNat (gI p 1)))) (Int.toNat (gI p 5)) (D.l (setPad (D.els (gD (D.els (gD (gL p 14) (Int.toNat (gI p 1)))) (Int.toNat (gI p 5)))) 2 (.i 0))))))])
 (.ask (!(isGot (findD (.int .i64) (.i (D.toI (D.fld (gD (D.els (gD (gL p 14) (Int.toNat (gI p 1)))) (Int.toNat (gI p 5))) 2))) 0 (gL p 12))))
 (.again (let z0 := D.i (D.toI (D.fld (gD (D.els (gD (gL p 14) (Int.toNat (gI p 1)))) (Int.toNat (gI p 5))) 2)); [.i (gI p 0), .i (gI p 1), .i (gI p 2), .i (wrapA .i64 ((gI p 3) + 1)), .i (gI p 4), .i (wrapA .i64 ((gI p 5) + 1)), .s (gS p 6), .b (gB p 7), .i (gI p 8), .s (gS p 9), .b (gB p 10), .i (gI p 11), .l (putD z0 (D.i (wrapA .i64 ((gI p 3) + 1))) (gL p 12) (findD (.int .i64) z0 0 (gL p 12))), .l (gL p 13), .l (List.set (gL p 14) (Int.toNat (gI p 1)) (D.l (List.set (D.els (gD (gL p 14) (Int.toNat (gI p 1)))) (Int.toNat (gI p 5)) (D.l (setPad (D.els (gD (D.els (gD (gL p 14) (Int.toNat (gI p 1)))) (Int.toNat (gI p 5)))) 2 (D.i (wrapA .i64 ((gI p 3) + 1))))))))]))
 (.again [.i (gI p 0), .i (gI p 1), .i (gI p 2), .i (wrapA .i64 ((gI p 3) + 1)), .i (gI p 4), .i (wrapA .i64 ((gI p 5) + 1)), .s (gS p 6), .b (gB p 7), .i (gI p 8), .s (gS p 9), .b (gB p 10), .i (gI p 11), .l (gL p 12), .l (gL p 13), .l (List.set (gL p 14) (Int.toNat (gI p 1)) (D.l (List.set (D.els (gD (gL p 14) (Int.toNat (gI p 1)))) (Int.toNat (gI p 5)) (D.l (setPad (D.els (gD (D.els (gD (gL p 14) (Int.toNat (gI p 1)))) (Int.toNat (gI p 5)))) 2 (.i (wrapA .i64 ((gI p 3) + 1))))))))]))))
 (.bad))
 (.bad))
 (.out (0, [.i (gI p 0), .i (gI p 3), .i (gI p 4), .s (gS p 6), .b (gB p 7), .i (gI p 8), .s (gS p 9), .b (gB p 10), .i (gI p 11), .l (gL p 12), .l (gL p 13), .l (gL p 14)]))
def L_ir_Neat_4 (p : List D) : Sh :=
 .ask (ltI (gI p 0) (gI p 1))
 (.ask (within (gI p 0) (List.length (gL p 10)))
 (.loop 6 [.i 0, .i (gI p 0), .i (Int.ofNat (Int.toNat (gI p 0))), .i (gI p 1), .i (Int.ofNat (List.length (D.els (gD (gL p 10) (Int.toNat (gI p 0)))))), .s (gS p 2), .b (gB p 3), .i (gI p 4), .s (gS p 5), .b (gB p 6), .i (gI p 7), .l (gL p 8), .l (gL p 9), .l (gL p 10)] (.cons (fun p0 =>
 .again [.i (wrapA .i64 ((gI p0 0) + 1)), .i (gI p0 1), .s (gS p0 2), .b (gB p0 3), .i (gI p0 4), .s (gS p0 5), .b (gB p0 6), .i (gI p0 7), .l (gL p0 8), .l (gL p0 9), .l (gL p0 10)])
 .nil))
 (.bad))
 (.out (0, [.s (gS p 2), .b (gB p 3), .i (gI p 4), .s (gS p 5), .b (gB p 6), .i (gI p 7), .l (gL p 9), .l (gL p 10)]))
def L_ir_Neat_6 (p : List D) : Sh :=
 .ask (ltI (gI p 0) (gI p 4))
 (.ask (within (gI p 0) (List.length (D.els (gD (gL p 13) (gN p 2)))))
 (.loop 8 [.i (gI p 0), .i (gI p 1), .i (Int.ofNat (List.length (D.els (D.fld (gD (D.els (gD (gL p 13) (gN p 2))) (Int.toNat (gI p 0))) 5)))), .i (Int.ofNat (gN p 2)), .i (gI p 3), .i (Int.ofNat (gN p 2)), .i (Int.ofNat (Int.toNat (gI p 0))), .i 0, .i (gI p 4), .s (gS p 5), .b (gB p 6), .i (gI p 7), .s (gS p 8), .b (gB p 9), .i (gI p 10), .i (D.toI (D.fld (gD (D.els (gD (gL p 13) (gN p 2))) (Int.toNat (gI p 0))) 0)), .i (D.toI (D.fld (gD (D.els (gD (gL p 13) (gN p 2))) (Int.toNat (gI p 0))) 1)), .i (D.toI (D.fld (gD (D.els (gD (gL p 13) (gN p 2))) (Int.toNat (gI p 0))) 2)), .i (D.toI (D.fld (gD (D.els (gD (gL p 13) (gN p 2))) (Int.toNat (gI p 0))) 3)), .i (D.toI (D.fld (gD (D.els (gD (gL p 13) (gN p 2))) (Int.toNat (gI p 0))) 4)), .i (Int.ofNat (gN p 2)), .i (Int.ofNat (Int.toNat (gI p 0))), .i (Int.ofNat (gN p 2)), .i (Int.ofNat (Int.toNat (gI p 0))), .l (gL p 11), .l (gL p 12), .l (gL p 13)] (.cons (fun p0 =>
 .again [.i (wrapA .i64 ((gI p0 0) + 1)), .i (gI p0 1), .i (Int.ofNat (gN p0 2)), .i (gI p0 3), .i (gI p0 4), .s (gS p0 5), .b (gB p0 6), .i (gI p0 7), .s (gS p0 8), .b (gB p0 9), .i (gI p0 10), .l (gL p0 11), .l (gL p0 12), .l (gL p0 13)])
 .nil))
 (.bad))
 (.out (0, [.i (gI p 1), .i (gI p 3), .s (gS p 5), .b (gB p 6), .i (gI p 7), .s (gS p 8), .b (gB p 9), .i (gI p 10), .l (gL p 11), .l (gL p 12), .l (gL p 13)]))
def L_ir_Neat_8 (p : List D) : Sh :=
 .ask (ltI (gI p 7) (gI p 2))
 (.ask (within (gI p 7) (List.length (D.els (D.fld (gD (D.els (gD (gL p 26) (gN p 5))) (gN p 6)) 5))))
 (.ask ((leI 1 (D.toI (gD (D.els (D.fld (gD (D.els (gD (gL p 26) (gN p 5))) (gN p 6)) 5)) (Int.toNat (gI p 7))))) && (leI (D.toI (gD (D.els (D.fld (gD (D.els (gD (gL p 26) (gN p 5))) (gN p 6)) 5)) (Int.toNat (gI p 7)))) (Int.ofNat (List.length (gL p 25)))))
 (.again [.i (gI p 0), .i (gI p 1), .i (gI p 2), .i (Int.ofNat (gN p 3)), .i (gI p 4), .i (Int.ofNat (gN p 5)), .i (Int.ofNat (gN p 6)), .i (wrapA .i64 ((gI p 7) + 1)), .i (gI p 8), .s (gS p 9), .b (gB p 10), .i (gI p 11), .s (gS p 12), .b (gB p 13), .i (gI p 14), .i (gI p 15), .i (gI p 16), .i (gI p 17), .i (gI p 18), .i (gI p 19), .i (Int.ofNat (gN p 20)), .i (Int.ofNat (gN p 21)), .i (Int.ofNat (gN p 22)), .i (Int.ofNat (gN p 23)), .l (gL p 24), .l (gL p 25), .l (gL p 26)])
 (.ask (within (gI p 7) (List.length (D.els (D.fld (gD (D.els (gD (gL p 26) (gN p 20))) (gN p 21)) 5))))
 (.again [.i (gI p 0), .i (gI p 1), .i (gI p 2), .i (Int.ofNat (gN p 3)), .i (gI p 4), .i (Int.ofNat (gN p 5)), .i (Int.ofNat (gN p 6)), .i (wrapA .i64 ((gI p 7) + 1)), .i (gI p 8), .s (gS p 9), .b (gB p 10), .i (gI p 11), .s (gS p 12), .b (gB p 13), .i (gI p 14), .i (gI p 15), .i (gI p 16), .i (gI p 17), .i (gI p 18), .i (gI p 19), .i (Int.ofNat (gN p 20)), .i (Int.ofNat (gN p 21)), .i (Int.ofNat (gN p 22)), .i (Int.ofNat (gN p 23)), .l (gL p 24), .l (gL p 25), .l (List.set (gL p 26) (gN p 20) (D.l (List.set (D.els (gD (gL p 26) (gN p 20))) (gN p 21) (D.l (setPad (D.els (gD (D.els (gD (gL p 26) (gN p 20))) (gN p 21))) 5 (.l (List.set (D.els (D.fld (gD (D.els (gD (gL p 26) (gN p 20))) (gN p 21)) 5)) (Int.toNat (gI p 7)) (D.i (D.toI (gotD (.int .i64) (findD (.int .i64) (.i (D.toI (gD (D.els (D.fld (gD (D.els (gD (gL p 26) (gN p 5))) (gN p 6)) 5)) (Int.toNat (gI p 7))))) 0 (gL p 24))))))))))))])
 (.bad)))
 (.bad))
 (.out (0, [.i (gI p 0), .i (gI p 1), .i (Int.ofNat (gN p 3)), .i (gI p 4), .i (gI p 8), .s (gS p 9), .b (gB p 10), .i (gI p 11), .s (gS p 12), .b (gB p 13), .i (gI p 14), .l (gL p 24), .l (gL p 25), .l (gL p 26)]))
def S_ir_Neat : STab := [(0, fun p => ⟨(t0 (t2 (.pb 1 0 0) (t2 (.mp 17 0) (t0 .nil (t1 (.int .i64 (gI p 0)))) .nil) .nil) (t2 (.pb 2 0 0) (t2 (.int .i64 (gI p 1)) (t0 .nil (t1 (.int .i64 (gI p 2)))) .nil) .nil)), [(1, ⟨0, [.str (gS p 3), .bool (gB p 4), .vw 17000002 0 [], .int .i64 (gI p 5), .vw 17000004 0 []], none⟩), (2, ⟨0, [.str (gS p 6), .bool (gB p 7), .nils, .int .i64 (gI p 8), .nils], none⟩), (17, ⟨0, [], some ⟨.int .i64, .int .i64, (gL p 9)⟩⟩)], [(17000002, ⟨3, [.int .i64], (gL p 10), [], 0, [0, 0, 0, 0], 0⟩), (17000004, ⟨40, lt8, (gL p 11), [], 0, [0, 0, 0, 0], 0⟩)], 1⟩),
 (2, fun p => ⟨(t0 (t2 (.pb 1 0 0) (t2 (.mp 17 0) (t0 .nil (t1 (.int .i64 (gI p 0)))) .nil) (t2 (.int .i64 (gI p 1)) (t0 (t0 (t1 (.int .i64 (gI p 2))) .nil) .nil) .nil)) (t2 (.pb 2 0 0) (t2 (.int .i64 (gI p 3)) (t0 .nil (t1 (.int .i64 (gI p 4)))) .nil) (t0 (t0 (t0 (t1 (.int .i64 (gI p 5))) .nil) .nil) .nil))), [(1, ⟨0, [.str (gS p 6), .bool (gB p 7), .vw 17000002 0 [], .int .i64 (gI p 8), .vw 17000004 0 []], none⟩), (2, ⟨0, [.str (gS p 9), .bool (gB p 10), .nils, .int .i64 (gI p 11), .nils], none⟩), (17, ⟨0, [], some ⟨.int .i64, .int .i64, (gL p 12)⟩⟩)], [(17000002, ⟨3, [.int .i64], (gL p 13), [], 0, [0, 0, 0, 0], 0⟩), (17000004, ⟨40, lt8, (gL p 14), [], 0, [0, 0, 0, 0], 0⟩)], 1⟩),
 (4, fun p => ⟨(t0 (t2 (.pb 1 0 0) (t1 (.mp 17 0)) (t0 .nil (t0 (t0 (t0 .nil (t1 (.int .i64 (gI p 0)))) .nil) .nil))) (t2 (.pb 2 0 0) (t0 .nil (t0 (t0 (t0 .nil (t1 (.int .i64 (gI p 1)))) .nil) .nil)) .nil)), [(1, ⟨0, [.str (gS p 2), .bool (gB p 3), .vw 17000002 0 [], .int .i64 (gI p 4), .vw 17000004 0 []], none⟩), (2, ⟨0, [.str (gS p 5), .bool (gB p 6), .nils, .int .i64 (gI p 7), .nils], none⟩), (17, ⟨0, [], some ⟨.int .i64, .int .i64, (gL p 8)⟩⟩)], [(17000002, ⟨3, [.int .i64], (gL p 9), [], 0, [0, 0, 0, 0], 0⟩), (17000004, ⟨40, lt8, (gL p 10), [], 0, [0, 0, 0, 0], 0⟩)], 1⟩),
 (6, fun p => ⟨(t0 (t2 (.pb 1 0 0) (t2 (.mp 17 0) (t0 (t0 .nil (t0 .nil (t1 (.int .i64 (gI p 0))))) .nil) .nil) (t0 .nil (t0 (t0 (t0 .nil (t1 (.int .i64 (gI p 1)))) .nil) (t0 (t0 .nil (t1 (.vw 17000004 0 [((gN p 2), 0)]))) .nil)))) (t2 (.pb 2 0 0) (t0 .nil (t0 (t0 (t0 .nil (t1 (.int .i64 (gI p 3)))) .nil) .nil)) (t0 .nil (t0 .nil (t0 (t0 .nil (t1 (.int .i64 (gI p 4)))) .nil))))), [(1, ⟨0, [.str (gS p 5), .bool (gB p 6), .vw 17000002 0 [], .int .i64 (gI p 7), .vw 17000004 0 []], none⟩), (2, ⟨0, [.str (gS p 8), .bool (gB p 9), .nils, .int .i64 (gI p 10), .nils], none⟩), (17, ⟨0, [], some ⟨.int .i64, .int .i64, (gL p 11)⟩⟩)], [(17000002, ⟨3, [.int .i64], (gL p 12), [], 0, [0, 0, 0, 0], 0⟩), (17000004, ⟨40, lt8, (gL p 13), [], 0, [0, 0, 0, 0], 0⟩)], 1⟩),
 (8, fun p => ⟨(t0 (t2 (.pb 1 0 0) (t2 (.mp 17 0) (t0 (t0 .nil (t0 .nil (t1 (.int .i64 (gI p 0))))) .nil) .nil) (t0 .nil (t0 (t0 (t0 .nil (t1 (.int .i64 (gI p 1)))) (t0 .nil (t1 (.int .i64 (gI p 2))))) (t0 (t0 .nil (t1 (.vw 17000004 0 [((gN p 3), 0)]))) .nil)))) (t2 (.pb 2 0 0) (t0 .nil (t2 (.pb 12 0 0) (t0 (t0 .nil (t1 (.int .i64 (gI p 4)))) (t0 .nil (t1 (.vw 17000004 0 [((gN p 5), 0), ((gN p 6), 5)])))) .nil)) (t0 .nil (t0 (t0 .nil (t0 .nil (t1 (.int .i64 (gI p 7))))) (t0 (t0 .nil (t1 (.int .i64 (gI p 8)))) .nil))))), [(1, ⟨0, [.str (gS p 9), .bool (gB p 10), .vw 17000002 0 [], .int .i64 (gI p 11), .vw 17000004 0 []], none⟩), (2, ⟨0, [.str (gS p 12), .bool (gB p 13), .nils, .int .i64 (gI p 14), .nils], none⟩), (12, ⟨0, [.int .i64 (gI p 15), .int .i64 (gI p 16), .int .i64 (gI p 17), .int .i64 (gI p 18), .int .i64 (gI p 19), .vw 17000004 0 [((gN p 20), 0), ((gN p 21), 5)], .vw 17000004 0 [((gN p 22), 0), ((gN p 23), 6)]], none⟩), (17, ⟨0, [], some ⟨.int .i64, .int .i64, (gL p 24)⟩⟩)], [(17000002, ⟨3, [.int .i64], (gL p 25), [], 0, [0, 0, 0, 0], 0⟩), (17000004, ⟨40, lt8, (gL p 26), [], 0, [0, 0, 0, 0], 0⟩)], 1⟩)]
def T_ir_Neat : TTab := [(0, [fun p => (.exit 0, ⟨(t0 (t2 (.pb 1 0 0) (t1 (.mp 17 0)) .nil) (t1 (.pb 2 0 0))), [(1, ⟨0, [.str (gS p 0), .bool (gB p 1), .vw 17000002 0 [], .int .i64 (gI p 2), .vw 17000004 0 []], none⟩), (2, ⟨0, [.str (gS p 3), .bool (gB p 4), .nils, .int .i64 (gI p 5), .nils], none⟩), (17, ⟨0, [], some ⟨.int .i64, .int .i64, (gL p 6)⟩⟩)], [(17000002, ⟨3, [.int .i64], (gL p 7), [], 0, [0, 0, 0, 0], 0⟩), (17000004, ⟨40, lt8, (gL p 8), [], 0, [0, 0, 0, 0], 0⟩)], 1⟩)]),
 (2, [fun p => (.exit 2, ⟨(t0 (t2 (.pb 1 0 0) (t2 (.mp 17 0) (t0 .nil (t1 (.int .i64 (gI p 0)))) .nil) .nil) (t2 (.pb 2 0 0) (t2 (.int .i64 (gI p 1)) (t0 .nil (t1 (.int .i64 (gI p 2)))) .nil) .nil)), [(1, ⟨0, [.str (gS p 3), .bool (gB p 4), .vw 17000002 0 [], .int .i64 (gI p 5), .vw 17000004 0 []], none⟩), (2, ⟨0, [.str (gS p 6), .bool (gB p 7), .nils, .int .i64 (gI p 8), .nils], none⟩), (17, ⟨0, [], some ⟨.int .i64, .int .i64, (gL p 9)⟩⟩)], [(17000002, ⟨3, [.int .i64], (gL p 10), [], 0, [0, 0, 0, 0], 0⟩), (17000004, ⟨40, lt8, (gL p 11), [], 0, [0, 0, 0, 0], 0⟩)], 1⟩)]),
 (4, [fun p => (.exit 4, ⟨(t0 (t1 (.pb 1 0 0)) (t1 (.pb 2 0 0))), [(1, ⟨0, [.str (gS p 0), .bool (gB p 1), .vw 17000002 0 [], .int .i64 (gI p 2), .vw 17000004 0 []], none⟩), (2, ⟨0, [.str (gS p 3), .bool (gB p 4), .nils, .int .i64 (gI p 5), .nils], none⟩)], [(17000002, ⟨3, [.int .i64], (gL p 6), [], 0, [0, 0, 0, 0], 0⟩), (17000004, ⟨40, lt8, (gL p 7), [], 0, [0, 0, 0, 0], 0⟩)], 1⟩)]),
 (6, [fun p => (.exit 6, ⟨(t0 (t2 (.pb 1 0 0) (t1 (.mp 17 0)) (t0 .nil (t0 (t0 (t0 .nil (t1 (.int .i64 (gI p 0)))) .nil) .nil))) (t2 (.pb 2 0 0) (t0 .nil (t0 (t0 (t0 .nil (t1 (.int .i64 (gI p 1)))) .nil) .nil)) .nil)), [(1, ⟨0, [.str (gS p 2), .bool (gB p 3), .vw 17000002 0 [], .int .i64 (gI p 4), .vw 17000004 0 []], none⟩), (2, ⟨0, [.str (gS p 5), .bool (gB p 6), .nils, .int .i64 (gI p 7), .nils], none⟩), (17, ⟨0, [], some ⟨.int .i64, .int .i64, (gL p 8)⟩⟩)], [(17000002, ⟨3, [.int .i64], (gL p 9), [], 0, [0, 0, 0, 0], 0⟩), (17000004, ⟨40, lt8, (gL p 10), [], 0, [0, 0, 0, 0], 0⟩)], 1⟩)]),
 (8, [fun p => (.exit 8, ⟨(t0 (t2 (.pb 1 0 0) (t2 (.mp 17 0) (t0 (t0 .nil (t0 .nil (t1 (.int .i64 (gI p 0))))) .nil) .nil) (t0 .nil (t0 (t0 (t0 .nil (t1 (.int .i64 (gI p 1)))) .nil) (t0 (t0 .nil (t1 (.vw 17000004 0 [((gN p 2), 0)]))) .nil)))) (t2 (.pb 2 0 0) (t0 .nil (t0 (t0 (t0 .nil (t1 (.int .i64 (gI p 3)))) .nil) .nil)) (t0 .nil (t0 .nil (t0 (t0 .nil (t1 (.int .i64 (gI p 4)))) .nil))))), [(1, ⟨0, [.str (gS p 5), .bool (gB p 6), .vw 17000002 0 [], .int .i64 (gI p 7), .vw 17000004 0 []], none⟩), (2, ⟨0, [.str (gS p 8), .bool (gB p 9), .nils, .int .i64 (gI p 10), .nils], none⟩), (17, ⟨0, [], some ⟨.int .i64, .int .i64, (gL p 11)⟩⟩)], [(17000002, ⟨3, [.int .i64], (gL p 12), [], 0, [0, 0, 0, 0], 0⟩), (17000004, ⟨40, lt8, (gL p 13), [], 0, [0, 0, 0, 0], 0⟩)], 1⟩)])]
def F_ir_Neat : Fn := { np := 1, bs := [0, 2, 4, 6, 8], main := M_ir_Neat, lps := [(0, L_ir_Neat_0), (2, L_ir_Neat_2), (4, L_ir_Neat_4), (6, L_ir_Neat_6), (8, L_ir_Neat_8)] }
def M_args_free (x : List D) : Sh :=
 .call facts_Of [.l [.l (D.els (D.fld (gD x 0) 0)), .l (D.els (D.fld (gD x 0) 1)), .l (D.els (D.fld (gD x 0) 2)), .l (D.els (D.fld (gD x 0) 3))]] 0 fun r0 _ =>
 .ask (isNl (D.els r0))
 (.bad)
 (.loop 0 [.i (Int.ofNat (List.length (D.els (D.fld (gD x 0) 3)))), .l (D.els (D.fld (gD x 0) 3)), .i 0, .l (D.els (D.fld (hdD (D.els r0)) 4))] (.cons (fun p1 =>
 .ret (.l (gL p1 0)) [])
 .nil))
def L_args_free_0 (p : List D) : Sh :=
 .ask (ltI (gI p 2) (gI p 0))
 (.ask (within (gI p 2) (List.length (gL p 1)))
 (.ask (within (gI p 2) (List.length (gL p 3)))
 (.ask (within (gI p 2) (List.length (gL p 3)))
 (.again [.i (gI p 0), .l (gL p 1), .i (wrapA .i64 ((gI p 2) + 1)), .l (List.set (gL p 3) (Int.toNat (gI p 2)) (D.b ((!(D.toB (gD (gL p 3) (Int.toNat (gI p 2))))) && (!(D.toB (D.fld (gD (gL p 1) (Int.toNat (gI p 2))) 1))))))])
 (.bad))
 (.bad))
 (.bad))
 (.out (0, [.l (gL p 3)]))
def S_args_free : STab := [(0, fun p => ⟨(t0 (t0 (t1 (.vw 8000004 0 [])) (t0 .nil (t1 (.int .i64 (gI p 0))))) (t0 (t0 .nil (t1 (.fz [] 43 lt2 (gL p 1)))) (t0 .nil (t1 (.int .i64 (gI p 2)))))), [], [(8000004, ⟨4, [.bool], (gL p 3), [], 0, [0, 0, 0, 0], 0⟩)], 1⟩)]
def T_args_free : TTab := [(0, [fun p => (.exit 0, ⟨(t0 (t0 (t1 (.vw 8000004 0 [])) .nil) (t0 .nil .nil)), [], [(8000004, ⟨4, [.bool], (gL p 0), [], 0, [0, 0, 0, 0], 0⟩)], 1⟩)])]
def F_args_free : Fn := { np := 1, bs := [0], main := M_args_free, lps := [(0, L_args_free_0)] }
def M_wf_flows (x : List D) : Sh :=
 .loop 0 [.i 0, .l (D.els (D.fld (gD x 0) 4)), .i (Int.ofNat (List.length (D.els (D.fld (gD x 0) 4)))), .s (D.toS (D.fld (gD x 0) 0)), .b (D.toB (D.fld (gD x 0) 1)), .l (D.els (D.fld (gD x 0) 2)), .i (D.toI (D.fld (gD x 0) 3)), .l (D.els (D.fld (gD x 0) 4))] (.cons (fun p0 =>
 .ret (.b (gB p0 0)) [])
 (.cons (fun p0 =>
 .call flow_Reach [.l [.s (gS p0 0), .b (gB p0 1), .l (gL p0 2), .i (gI p0 3), .l (gL p0 4)]] 0 fun r1 _ =>
 .call slices_Contains_Sbool_bool [.l (D.els r1), .b false] 0 fun r2 _ =>
 .ask (D.toB r2)
 (.ret (.b false) [])
 (.call flow_Prev [.l [.s (gS p0 0), .b (gB p0 1), .l (gL p0 2), .i (gI p0 3), .l (gL p0 4)]] 0 fun r3 _ =>
 .loop 6 [.i 0, .l (gL p0 4), .i (Int.ofNat (List.length (gL p0 4))), .l (D.els r3)] (.cons (fun p4 =>
 .ret (.b (gB p4 0)) [])
 (.cons (fun p4 =>
 .ret (.b true) [])
 .nil))))
 .nil))
def L_wf_flows_0 (p : List D) : Sh :=
 .ask (ltI (gI p 0) (gI p 2))
 (.ask (within (gI p 0) (List.length (gL p 1)))
 (.ask (eqI (Int.ofNat (List.length (D.els (gD (gL p 1) (Int.toNat (gI p 0)))))) 0)
 (.out (0, [.b false, .s (gS p 3), .b (gB p 4), .l (gL p 5), .i (gI p 6), .l (gL p 7)]))
 (.loop 2 [.i (gI p 0), .i 0, .i (gI p 0), .b false, .l (gL p 1), .l (D.els (gD (gL p 1) (Int.toNat (gI p 0)))), .i (gI p 2), .i (Int.ofNat (List.length (D.els (gD (gL p 1) (Int.toNat (gI p 0)))))), .s (gS p 3), .b (gB p 4), .l (gL p 5), .i (gI p 6), .l (gL p 7), .l (D.els (gD (gL p 1) (Int.toNat (gI p 0))))] (.cons (fun p0 =>
 .out (0, [.b (gB p0 2), .s (gS p0 4), .b (gB p0 5), .l (gL p0 6), .i (gI p0 7), .l (gL p0 8)]))
 (.cons (fun p0 =>
 .ask (within (wrapA .i64 ((Int.ofNat (List.length (gL p0 8))) - 1)) (List.length (gL p0 8)))
 (.loop 4 (let z0 := D.els (D.fld (gD (gL p0 8) (Int.toNat (wrapA .i64 ((Int.ofNat (List.length (gL p0 8))) - 1)))) 6); [.i (gI p0 0), .i (Int.ofNat (List.length z0)), .l (gL p0 1), .l z0, .i 0, .i (gI p0 2), .l z0, .s (gS p0 3), .b (gB p0 4), .l (gL p0 5), .i (gI p0 6), .l (gL p0 7)]) (.cons (fun p1 =>
 .out (0, [.b (gB p1 2), .s (gS p1 5), .b (gB p1 6), .l (gL p1 7), .i (gI p1 8), .l (gL p1 9)]))
 (.cons (fun p1 =>
 .ask ((!((eqI (Int.ofNat (List.length (gL p1 2))) 2) && true)) || (within 0 (List.length (gL p1 2))))
 (.ask ((!((eqI (Int.ofNat (List.length (gL p1 2))) 2) && true)) || (within 1 (List.length (gL p1 2))))
 (.ask ((eqI (Int.ofNat (List.length (gL p1 2))) 2) && (eqI (D.toI (gD (gL p1 2) 0)) (D.toI (gD (gL p1 2) 1))))
 (.out (0, [.b false, .s (gS p1 4), .b (gB p1 5), .l (gL p1 6), .i (gI p1 7), .l (gL p1 8)]))
 (.again [.i (wrapA .i64 ((gI p1 0) + 1)), .l (gL p1 1), .i (gI p1 3), .s (gS p1 4), .b (gB p1 5), .l (gL p1 6), .i (gI p1 7), .l (gL p1 8)]))
 (.bad))
 (.bad))
 .nil)))
 (.bad))
 .nil))))
 (.bad))
 (.out (1, [.s (gS p 3), .b (gB p 4), .l (gL p 5), .i (gI p 6), .l (gL p 7)]))
def L_wf_flows_2 (p : List D) : Sh :=
 .ask (ltI (gI p 1) (gI p 7))
 (.ask (within (gI p 1) (List.length (gL p 5)))
 (.call wf_Ends [.i (D.toI (D.fld (gD (gL p 5) (Int.toNat (gI p 1))) 0))] 0 fun r0 _ =>
 .ask ((!(bif D.toB r0 then eqI (gI p 1) (wrapA .i64 ((Int.ofNat (List.length (gL p 13))) - 1)) else !(eqI (gI p 1) (wrapA .i64 ((Int.ofNat (List.length (gL p 13))) - 1))))) || ((eqI (D.toI (D.fld (gD (gL p 5) (Int.toNat (gI p 1))) 0)) 26) && ((gB p 3) || (eqI (gI p 0) 0))))
 (.out (0, [.i (gI p 2), .l (gL p 4), .b false, .i (gI p 6), .s (gS p 8), .b (gB p 9), .l (gL p 10), .i (gI p 11), .l (gL p 12), .l (gL p 13)]))
 (.again [.i (gI p 0), .i (wrapA .i64 ((gI p 1) + 1)), .i (gI p 2), .b ((gB p 3) || (!(eqI (D.toI (D.fld (gD (gL p 5) (Int.toNat (gI p 1))) 0)) 26))), .l (gL p 4), .l (gL p 5), .i (gI p 6), .i (gI p 7), .s (gS p 8), .b (gB p 9), .l (gL p 10), .i (gI p 11), .l (gL p 12), .l (gL p 13)]))
 (.bad))
 (.out (1, [.i (gI p 2), .l (gL p 4), .i (gI p 6), .s (gS p 8), .b (gB p 9), .l (gL p 10), .i (gI p 11), .l (gL p 12), .l (gL p 13)]))
def L_wf_flows_4 (p : List D) : Sh :=
 .ask (ltI (gI p 4) (gI p 1))
 (.ask (within (gI p 4) (List.length (gL p 6)))
 (.ask ((ltI (D.toI (gD (gL p 6) (Int.toNat (gI p 4)))) 1) || (leI (Int.ofNat (List.length (gL p 11))) (D.toI (gD (gL p 6) (Int.toNat (gI p 4))))))
 (.out (0, [.i (gI p 0), .l (gL p 2), .b false, .l (gL p 3), .i (gI p 5), .s (gS p 7), .b (gB p 8), .l (gL p 9), .i (gI p 10), .l (gL p 11)]))
 (.again [.i (gI p 0), .i (gI p 1), .l (gL p 2), .l (gL p 3), .i (wrapA .i64 ((gI p 4) + 1)), .i (gI p 5), .l (gL p 6), .s (gS p 7), .b (gB p 8), .l (gL p 9), .i (gI p 10), .l (gL p 11)]))
 (.bad))
 (.out (1, [.i (gI p 0), .l (gL p 2), .l (gL p 3), .i (gI p 5), .s (gS p 7), .b (gB p 8), .l (gL p 9), .i (gI p 10), .l (gL p 11)]))
def L_wf_flows_6 (p : List D) : Sh :=
 .ask (ltI (gI p 0) (gI p 2))
 (.ask (within (gI p 0) (List.length (gL p 1)))
 (.loop 8 [.i (gI p 0), .i 0, .l (D.els (gD (gL p 1) (Int.toNat (gI p 0)))), .l (gL p 1), .i (gI p 0), .i (Int.ofNat (List.length (D.els (gD (gL p 1) (Int.toNat (gI p 0)))))), .i (gI p 2), .l (gL p 3)] (.cons (fun p0 =>
 .out (0, [.b (gB p0 2)]))
 (.cons (fun p0 =>
 .again [.i (wrapA .i64 ((gI p0 0) + 1)), .l (gL p0 1), .i (gI p0 2), .l (gL p0 3)])
 .nil)))
 (.bad))
 (.out (1, []))
def L_wf_flows_8 (p : List D) : Sh :=
 .ask (ltI (gI p 1) (gI p 5))
 (.ask (within (gI p 1) (List.length (gL p 2)))
 (.ask ((!((eqI (D.toI (D.fld (gD (gL p 2) (Int.toNat (gI p 1))) 0)) 26) && true)) || (within (gI p 4) (List.length (gL p 7))))
 (.ask ((eqI (D.toI (D.fld (gD (gL p 2) (Int.toNat (gI p 1))) 0)) 26) && true)
 (.call slices_Equal_Sint_int [.l (D.els (D.fld (gD (gL p 2) (Int.toNat (gI p 1))) 6)), .l (D.els (gD (gL p 7) (Int.toNat (gI p 4))))] 0 fun r0 _ =>
 .ask ((eqI (D.toI (D.fld (gD (gL p 2) (Int.toNat (gI p 1))) 0)) 26) && (!(D.toB r0)))
 (.out (0, [.i (gI p 0), .l (gL p 3), .b false, .i (gI p 6), .l (gL p 7)]))
 (.again [.i (gI p 0), .i (wrapA .i64 ((gI p 1) + 1)), .l (gL p 2), .l (gL p 3), .i (gI p 4), .i (gI p 5), .i (gI p 6), .l (gL p 7)]))
 (.ask ((eqI (D.toI (D.fld (gD (gL p 2) (Int.toNat (gI p 1))) 0)) 26) && (!(D.toB (.i 0))))
 (.out (0, [.i (gI p 0), .l (gL p 3), .b false, .i (gI p 6), .l (gL p 7)]))
 (.again [.i (gI p 0), .i (wrapA .i64 ((gI p 1) + 1)), .l (gL p 2), .l (gL p 3), .i (gI p 4), .i (gI p 5), .i (gI p 6), .l (gL p 7)])))
 (.bad))
 (.bad))
 (.out (1, [.i (gI p 0), .l (gL p 3), .i (gI p 6), .l (gL p 7)]))
def S_wf_flows : STab := [(0, fun p => ⟨(t0 (t2 (.pb 1 0 0) (t0 .nil (t0 (t1 (.int .i64 (gI p 0))) .nil)) (t0 (t0 (t1 (.fz [] 40 lt4 (gL p 1))) .nil) .nil)) (t0 .nil (t0 (t0 (t1 (.int .i64 (gI p 2))) .nil) .nil))), [(1, ⟨0, [.str (gS p 3), .bool (gB p 4), .fz [] 3 [.int .i64] (gL p 5), .int .i64 (gI p 6), .fz [] 40 lt4 (gL p 7)], none⟩)], [], 1⟩),
 (2, fun p => ⟨(t0 (t2 (.pb 1 0 0) (t2 (.int .i64 (gI p 0)) (t0 (t0 (t1 (.int .i64 (gI p 1))) .nil) .nil) (t0 (t1 (.int .i64 (gI p 2))) .nil)) (t2 (.bool (gB p 3)) (t0 (t1 (.fz [] 40 lt4 (gL p 4))) .nil) (t0 .nil (t1 (.fz [] 27 lt5 (gL p 5)))))) (t0 (t1 (.pb 4 0 0)) (t0 (t0 (t1 (.int .i64 (gI p 6))) .nil) (t0 .nil (t1 (.int .i64 (gI p 7))))))), [(1, ⟨0, [.str (gS p 8), .bool (gB p 9), .fz [] 3 [.int .i64] (gL p 10), .int .i64 (gI p 11), .fz [] 40 lt4 (gL p 12)], none⟩), (4, ⟨0, [.fz [] 27 lt5 (gL p 13)], none⟩)], [], 1⟩),
 (4, fun p => ⟨(t0 (t2 (.pb 1 0 0) (t0 .nil (t0 (t1 (.int .i64 (gI p 0))) (t0 (t0 (t1 (.int .i64 (gI p 1))) .nil) .nil))) (t0 (t0 (t1 (.fz [] 40 lt4 (gL p 2))) .nil) .nil)) (t0 (t0 (t1 (.fz [] 3 [.int .i64] (gL p 3))) (t0 .nil (t0 (t0 (t1 (.int .i64 (gI p 4))) .nil) .nil))) (t0 (t0 (t1 (.int .i64 (gI p 5))) (t0 (t0 (t1 (.fz [] 3 [.int .i64] (gL p 6))) .nil) .nil)) .nil))), [(1, ⟨0, [.str (gS p 7), .bool (gB p 8), .fz [] 3 [.int .i64] (gL p 9), .int .i64 (gI p 10), .fz [] 40 lt4 (gL p 11)], none⟩)], [], 1⟩),
 (6, fun p => ⟨(t0 (t0 (t0 (t0 (t0 .nil (t0 .nil (t1 (.int .i64 (gI p 0))))) .nil) (t1 (.vw 108000000 0 []))) (t0 .nil (t0 .nil (t0 (t0 .nil (t1 (.fz [] 40 lt4 (gL p 1)))) .nil)))) (t0 .nil (t0 .nil (t0 .nil (t0 (t0 .nil (t1 (.int .i64 (gI p 2)))) .nil))))), [], [(108000000, ⟨24, [.sl true 3 [.int .i64]], (gL p 3), [], 0, [0, 0, 0, 0], 0⟩)], 1⟩),
 (8, fun p => ⟨(t0 (t0 (t0 (t0 (t0 .nil (t0 .nil (t1 (.int .i64 (gI p 0))))) (t0 .nil (t0 .nil (t1 (.int .i64 (gI p 1)))))) (t1 (.vw 108000000 0 []))) (t0 .nil (t0 (t0 .nil (t0 .nil (t1 (.fz [] 27 lt5 (gL p 2))))) (t0 (t0 .nil (t1 (.fz [] 40 lt4 (gL p 3)))) .nil)))) (t0 (t0 .nil (t1 (.int .i64 (gI p 4)))) (t0 .nil (t0 (t0 .nil (t0 .nil (t1 (.int .i64 (gI p 5))))) (t0 (t0 .nil (t1 (.int .i64 (gI p 6)))) .nil))))), [], [(108000000, ⟨24, [.sl true 3 [.int .i64]], (gL p 7), [], 0, [0, 0, 0, 0], 0⟩)], 1⟩)]
def T_wf_flows : TTab := [(0, [fun p => (.ret, ⟨(t0 (t1 (.pb 1 0 0)) (t1 (.bool (gB p 0)))), [(1, ⟨0, [.str (gS p 1), .bool (gB p 2), .fz [] 3 [.int .i64] (gL p 3), .int .i64 (gI p 4), .fz [] 40 lt4 (gL p 5)], none⟩)], [], 1⟩),
  fun p => (.exit 0, ⟨(t0 (t1 (.pb 1 0 0)) (t0 .nil .nil)), [(1, ⟨0, [.str (gS p 0), .bool (gB p 1), .fz [] 3 [.int .i64] (gL p 2), .int .i64 (gI p 3), .fz [] 40 lt4 (gL p 4)], none⟩)], [], 1⟩)]),
 (2, [fun p => (.ret, ⟨(t0 (t2 (.pb 1 0 0) (t0 .nil (t0 (t1 (.int .i64 (gI p 0))) .nil)) (t0 (t0 (t1 (.fz [] 40 lt4 (gL p 1))) .nil) .nil)) (t2 (.bool (gB p 2)) (t1 (.pb 4 0 0)) (t0 (t0 (t1 (.int .i64 (gI p 3))) .nil) .nil))), [(1, ⟨0, [.str (gS p 4), .bool (gB p 5), .fz [] 3 [.int .i64] (gL p 6), .int .i64 (gI p 7), .fz [] 40 lt4 (gL p 8)], none⟩), (4, ⟨0, [.fz [] 27 lt5 (gL p 9)], none⟩)], [], 1⟩),
  fun p => (.exit 2, ⟨(t0 (t2 (.pb 1 0 0) (t0 .nil (t0 (t1 (.int .i64 (gI p 0))) .nil)) (t0 (t0 (t1 (.fz [] 40 lt4 (gL p 1))) .nil) .nil)) (t0 (t1 (.pb 4 0 0)) (t0 (t0 (t1 (.int .i64 (gI p 2))) .nil) .nil))), [(1, ⟨0, [.str (gS p 3), .bool (gB p 4), .fz [] 3 [.int .i64] (gL p 5), .int .i64 (gI p 6), .fz [] 40 lt4 (gL p 7)], none⟩), (4, ⟨0, [.fz [] 27 lt5 (gL p 8)], none⟩)], [], 1⟩)]),
 (4, [fun p => (.ret, ⟨(t0 (t2 (.pb 1 0 0) (t0 .nil (t0 (t1 (.int .i64 (gI p 0))) .nil)) (t0 (t0 (t1 (.fz [] 40 lt4 (gL p 1))) .nil) .nil)) (t2 (.bool (gB p 2)) (t0 (t1 (.fz [] 3 [.int .i64] (gL p 3))) .nil) (t0 (t0 (t1 (.int .i64 (gI p 4))) .nil) .nil))), [(1, ⟨0, [.str (gS p 5), .bool (gB p 6), .fz [] 3 [.int .i64] (gL p 7), .int .i64 (gI p 8), .fz [] 40 lt4 (gL p 9)], none⟩)], [], 1⟩),
  fun p => (.exit 4, ⟨(t0 (t2 (.pb 1 0 0) (t0 .nil (t0 (t1 (.int .i64 (gI p 0))) .nil)) (t0 (t0 (t1 (.fz [] 40 lt4 (gL p 1))) .nil) .nil)) (t0 (t0 (t1 (.fz [] 3 [.int .i64] (gL p 2))) .nil) (t0 (t0 (t1 (.int .i64 (gI p 3))) .nil) .nil))), [(1, ⟨0, [.str (gS p 4), .bool (gB p 5), .fz [] 3 [.int .i64] (gL p 6), .int .i64 (gI p 7), .fz [] 40 lt4 (gL p 8)], none⟩)], [], 1⟩)]),
 (6, [fun p => (.ret, ⟨(t0 .nil (t1 (.bool (gB p 0)))), [], [], 1⟩),
  fun p => (.exit 6, ⟨(t0 .nil (t0 .nil .nil)), [], [], 1⟩)]),
 (8, [fun p => (.ret, ⟨(t0 (t0 (t0 (t0 (t0 .nil (t0 .nil (t1 (.int .i64 (gI p 0))))) .nil) (t1 (.vw 108000000 0 []))) (t0 .nil (t0 .nil (t0 (t0 .nil (t1 (.fz [] 40 lt4 (gL p 1)))) .nil)))) (t2 (.bool (gB p 2)) .nil (t0 .nil (t0 .nil (t0 (t0 .nil (t1 (.int .i64 (gI p 3)))) .nil))))), [], [(108000000, ⟨24, [.sl true 3 [.int .i64]], (gL p 4), [], 0, [0, 0, 0, 0], 0⟩)], 1⟩),
  fun p => (.exit 8, ⟨(t0 (t0 (t0 (t0 (t0 .nil (t0 .nil (t1 (.int .i64 (gI p 0))))) .nil) (t1 (.vw 108000000 0 []))) (t0 .nil (t0 .nil (t0 (t0 .nil (t1 (.fz [] 40 lt4 (gL p 1)))) .nil)))) (t0 .nil (t0 .nil (t0 .nil (t0 (t0 .nil (t1 (.int .i64 (gI p 2)))) .nil))))), [], [(108000000, ⟨24, [.sl true 3 [.int .i64]], (gL p 3), [], 0, [0, 0, 0, 0], 0⟩)], 1⟩)])]
def F_wf_flows : Fn := { np := 1, bs := [0, 2, 4, 6, 8], main := M_wf_flows, lps := [(0, L_wf_flows_0), (2, L_wf_flows_2), (4, L_wf_flows_4), (6, L_wf_flows_6), (8, L_wf_flows_8)] }
def M_slices_Clone_Sint64_int64 (x : List D) : Sh :=
 .ask (isNl (D.els (gD x 0)))
 (.bad)
 (.ask false
 (.ret (.l []) [])
 (.ask (lim (0 + (List.length (D.els (gD x 0)))) 8)
 (.ret (.l (D.els (gD x 0))) [])
 (.bad)))
def S_slices_Clone_Sint64_int64 : STab := []
def T_slices_Clone_Sint64_int64 : TTab := []
def F_slices_Clone_Sint64_int64 : Fn := { np := 1, bs := [], main := M_slices_Clone_Sint64_int64, lps := [] }
def M_ir_rise (x : List D) : Sh :=
 .loop 0 [.i 1, .i (D.toI (D.fld (gD x 0) 0)), .i (D.toI (D.fld (gD x 0) 1)), .i (D.toI (D.fld (gD x 0) 2)), .i (D.toI (D.fld (gD x 0) 3)), .i (D.toI (D.fld (gD x 0) 4)), .l (D.els (D.fld (gD x 0) 5)), .l (D.els (D.fld (gD x 0) 6))] (.cons (fun p0 =>
 .ret (.l []) [.l [.i (gI p0 0), .i (gI p0 1), .i (gI p0 2), .i (gI p0 3), .i (gI p0 4), .l (gL p0 5), .l (gL p0 6)]])
 .nil)
def L_ir_rise_0 (p : List D) : Sh :=
 .ask (ltI (gI p 0) (Int.ofNat (List.length (gL p 7))))
 (.loop 2 [.i (gI p 0), .i (gI p 0), .i (gI p 1), .i (gI p 2), .i (gI p 3), .i (gI p 4), .i (gI p 5), .l (gL p 6), .l (gL p 7)] (.cons (fun p0 =>
 .again [.i (wrapA .i64 ((gI p0 0) + 1)), .i (gI p0 1), .i (gI p0 2), .i (gI p0 3), .i (gI p0 4), .i (gI p0 5), .l (gL p0 6), .l (gL p0 7)])
 .nil))
 (.out (0, [.i (gI p 1), .i (gI p 2), .i (gI p 3), .i (gI p 4), .i (gI p 5), .l (gL p 6), .l (gL p 7)]))
def L_ir_rise_2 (p : List D) : Sh :=
 .ask ((!((ltI 0 (gI p 0)) && true)) || (within (gI p 0) (List.length (gL p 8))))
 (.ask ((!((ltI 0 (gI p 0)) && true)) || (within (wrapA .i64 ((gI p 0) - 1)) (List.length (gL p 8))))
 (.ask ((ltI 0 (gI p 0)) && (ltI (D.toI (gD (gL p 8) (Int.toNat (gI p 0)))) (D.toI (gD (gL p 8) (Int.toNat (wrapA .i64 ((gI p 0) - 1)))))))
 (.ask (within (wrapA .i64 ((gI p 0) - 1)) (List.length (gL p 8)))
 (.ask (within (gI p 0) (List.length (gL p 8)))
 (.ask (within (gI p 0) (List.length (gL p 8)))
 (.ask (within (wrapA .i64 ((gI p 0) - 1)) (List.length (List.set (gL p 8) (Int.toNat (gI p 0)) (D.i (D.toI (gD (gL p 8) (Int.toNat (wrapA .i64 ((gI p 0) - 1)))))))))
 (.ask (within (wrapA .i64 ((gI p 0) - 1)) (List.length (gL p 7)))
 (.ask (within (gI p 0) (List.length (gL p 7)))
 (.ask (within (gI p 0) (List.length (gL p 7)))
 (.ask (within (wrapA .i64 ((gI p 0) - 1)) (List.length (List.set (gL p 7) (Int.toNat (gI p 0)) (D.i (D.toI (gD (gL p 7) (Int.toNat (wrapA .i64 ((gI p 0) - 1)))))))))
 (.again [.i (wrapA .i64 ((gI p 0) - 1)), .i (gI p 1), .i (gI p 2), .i (gI p 3), .i (gI p 4), .i (gI p 5), .i (gI p 6), .l (List.set (List.set (gL p 7) (Int.toNat (gI p 0)) (D.i (D.toI (gD (gL p 7) (Int.toNat (wrapA .i64 ((gI p 0) - 1))))))) (Int.toNat (wrapA .i64 ((gI p 0) - 1))) (D.i (D.toI (gD (gL p 7) (Int.toNat (gI p 0)))))), .l (List.set (List.set (gL p 8) (Int.toNat (gI p 0)) (D.i (D.toI (gD (gL p 8) (Int.toNat (wrapA .i64 ((gI p 0) - 1))))))) (Int.toNat (wrapA .i64 ((gI p 0) - 1))) (D.i (D.toI (gD (gL p 8) (Int.toNat (gI p 0))))))])
 (.bad))
 (.bad))
 (.bad))
 (.bad))
 (.bad))
 (.bad))
 (.bad))
 (.bad))
 (.out (0, [.i (gI p 1), .i (gI p 2), .i (gI p 3), .i (gI p 4), .i (gI p 5), .i (gI p 6), .l (gL p 7), .l (gL p 8)])))
 (.bad))
 (.bad)
def S_ir_rise : STab := [(0, fun p => ⟨(t2 (.pb 500 0 0) .nil (t1 (.int .i64 (gI p 0)))), [(500, ⟨0, [.int .i64 (gI p 1), .int .i64 (gI p 2), .int .i64 (gI p 3), .int .i64 (gI p 4), .int .i64 (gI p 5), .vw 501000005 0 [], .vw 501000006 0 []], none⟩)], [(501000005, ⟨3, [.int .i64], (gL p 6), [], 0, [0, 0, 0, 0], 0⟩), (501000006, ⟨3, [.int .i64], (gL p 7), [], 0, [0, 0, 0, 0], 0⟩)], 1⟩),
 (2, fun p => ⟨(t2 (.pb 500 0 0) (t0 (t1 (.int .i64 (gI p 0))) .nil) (t1 (.int .i64 (gI p 1)))), [(500, ⟨0, [.int .i64 (gI p 2), .int .i64 (gI p 3), .int .i64 (gI p 4), .int .i64 (gI p 5), .int .i64 (gI p 6), .vw 501000005 0 [], .vw 501000006 0 []], none⟩)], [(501000005, ⟨3, [.int .i64], (gL p 7), [], 0, [0, 0, 0, 0], 0⟩), (501000006, ⟨3, [.int .i64], (gL p 8), [], 0, [0, 0, 0, 0], 0⟩)], 1⟩)]
def T_ir_rise : TTab := [(0, [fun p => (.exit 0, ⟨(t1 (.pb 500 0 0)), [(500, ⟨0, [.int .i64 (gI p 0), .int .i64 (gI p 1), .int .i64 (gI p 2), .int .i64 (gI p 3), .int .i64 (gI p 4), .vw 501000005 0 [], .vw 501000006 0 []], none⟩)], [(501000005, ⟨3, [.int .i64], (gL p 5), [], 0, [0, 0, 0, 0], 0⟩), (501000006, ⟨3, [.int .i64], (gL p 6), [], 0, [0, 0, 0, 0], 0⟩)], 1⟩)]),
 (2, [fun p => (.exit 2, ⟨(t2 (.pb 500 0 0) .nil (t1 (.int .i64 (gI p 0)))), [(500, ⟨0, [.int .i64 (gI p 1), .int .i64 (gI p 2), .int .i64 (gI p 3), .int .i64 (gI p 4), .int .i64 (gI p 5), .vw 501000005 0 [], .vw 501000006 0 []], none⟩)], [(501000005, ⟨3, [.int .i64], (gL p 6), [], 0, [0, 0, 0, 0], 0⟩), (501000006, ⟨3, [.int .i64], (gL p 7), [], 0, [0, 0, 0, 0], 0⟩)], 1⟩)])]
def F_ir_rise : Fn := { np := 1, bs := [0, 2], main := M_ir_rise, lps := [(0, L_ir_rise_0), (2, L_ir_rise_2)] }
def M_wf_Ends (x : List D) : Sh :=
 .ret (.b ((((eqI (D.toI (gD x 0)) 27) || (eqI (D.toI (gD x 0)) 28)) || (eqI (D.toI (gD x 0)) 29)) || (eqI (D.toI (gD x 0)) 30))) []
def S_wf_Ends : STab := []
def T_wf_Ends : TTab := []
def F_wf_Ends : Fn := { np := 1, bs := [], main := M_wf_Ends, lps := [] }
def M_facts_Func_offs (x : List D) : Sh :=
 .ask ((leI 0 (Int.ofNat (List.length (D.els (D.fld (gD x 0) 0))))) && ((eqI (Int.ofNat (List.length (D.els (D.fld (gD x 0) 0)))) (Int.ofNat (List.length (D.els (D.fld (gD x 0) 0))))) && (lim (Int.toNat (Int.ofNat (List.length (D.els (D.fld (gD x 0) 0))))) 16)))
 (.loop 0 [.i 0, .i (Int.ofNat (List.length (D.els (D.fld (gD x 0) 0)))), .l (D.els (D.fld (gD x 0) 0)), .l (D.els (D.fld (gD x 0) 1)), .l (List.replicate (List.length (D.els (D.fld (gD x 0) 0))) (D.l [.i 0, .i 0])), .l (D.els (D.fld (gD x 0) 3))] (.cons (fun p0 =>
 .ret (.l []) [.l [.l (gL p0 0), .l (gL p0 1), .l (gL p0 2), .l (gL p0 3)]])
 .nil))
 (.bad)
def L_facts_Func_offs_0 (p : List D) : Sh :=
 .ask (ltI (gI p 0) (gI p 1))
 (.call facts_Func_off [.l [.l (gL p 2), .l (gL p 3), .l (gL p 4), .l (gL p 5)], .i (gI p 0)] 1 fun r0 q0 =>
 .again [.i (wrapA .i64 ((gI p 0) + 1)), .i (gI p 1), .l (D.els (D.fld (gD q0 0) 0)), .l (D.els (D.fld (gD q0 0) 1)), .l (D.els (D.fld (gD q0 0) 2)), .l (D.els (D.fld (gD q0 0) 3))])
 (.out (0, [.l (gL p 2), .l (gL p 3), .l (gL p 4), .l (gL p 5)]))
def S_facts_Func_offs : STab := [(0, fun p => ⟨(t2 (.pb 500 0 0) (t0 .nil (t0 (t0 (t1 (.int .i64 (gI p 0))) .nil) .nil)) (t0 (t0 (t0 (t1 (.int .i64 (gI p 1))) .nil) .nil) .nil)), [(500, ⟨0, [.vw 332000 0 [], .vw 332001 0 [], .vw 332002 0 [], .vw 332003 0 []], none⟩)], [(332000, ⟨3, [.int .i64], (gL p 2), [], 0, [0, 0, 0, 0], 0⟩), (332001, ⟨111, [.sl true 110 [.int .i64, .int .i64]], (gL p 3), [], 0, [0, 0, 0, 0], 0⟩), (332002, ⟨117, [.int .i64, .int .i64], (gL p 4), [], 0, [0, 0, 0, 0], 0⟩), (332003, ⟨27, lt5, (gL p 5), [], 0, [0, 0, 0, 0], 0⟩)], 1⟩)]
def T_facts_Func_offs : TTab := [(0, [fun p => (.exit 0, ⟨(t1 (.pb 500 0 0)), [(500, ⟨0, [.vw 332000 0 [], .vw 332001 0 [], .vw 332002 0 [], .vw 332003 0 []], none⟩)], [(332000, ⟨3, [.int .i64], (gL p 0), [], 0, [0, 0, 0, 0], 0⟩), (332001, ⟨111, [.sl true 110 [.int .i64, .int .i64]], (gL p 1), [], 0, [0, 0, 0, 0], 0⟩), (332002, ⟨117, [.int .i64, .int .i64], (gL p 2), [], 0, [0, 0, 0, 0], 0⟩), (332003, ⟨27, lt5, (gL p 3), [], 0, [0, 0, 0, 0], 0⟩)], 1⟩)])]
def F_facts_Func_offs : Fn := { np := 1, bs := [0], main := M_facts_Func_offs, lps := [(0, L_facts_Func_offs_0)] }
def M_flow_walked (x : List D) : Sh :=
 .ask ((leI 0 (Int.ofNat (List.length (D.els (D.fld (gD x 0) 4))))) && ((eqI (Int.ofNat (List.length (D.els (D.fld (gD x 0) 4)))) (Int.ofNat (List.length (D.els (D.fld (gD x 0) 4))))) && (lim (Int.toNat (Int.ofNat (List.length (D.els (D.fld (gD x 0) 4))))) 8)))
 (.ask (ltI 0 (Int.ofNat (List.length (D.els (D.fld (gD x 0) 4)))))
 (.call flow_walker_visit [.l [.s (D.toS (D.fld (gD x 0) 0)), .b (D.toB (D.fld (gD x 0) 1)), .l (D.els (D.fld (gD x 0) 2)), .i (D.toI (D.fld (gD x 0) 3)), .l (D.els (D.fld (gD x 0) 4)), .l (List.replicate (List.length (D.els (D.fld (gD x 0) 4))) (D.i 0)), .l [], .b false], .i 0] 1 fun r0 q0 =>
 .ret (.l [.l [.s (D.toS (D.fld (gD q0 0) 0)), .b (D.toB (D.fld (gD q0 0) 1)), .l (D.els (D.fld (gD q0 0) 2)), .i (D.toI (D.fld (gD q0 0) 3)), .l (D.els (D.fld (gD q0 0) 4)), .l (D.els (D.fld (gD q0 0) 5)), .l (D.els (D.fld (gD q0 0) 6)), .b (D.toB (D.fld (gD q0 0) 7))]]) [])
 (.ret (.l [.l [.s (D.toS (D.fld (gD x 0) 0)), .b (D.toB (D.fld (gD x 0) 1)), .l (D.els (D.fld (gD x 0) 2)), .i (D.toI (D.fld (gD x 0) 3)), .l (D.els (D.fld (gD x 0) 4)), .l (List.replicate (List.length (D.els (D.fld (gD x 0) 4))) (D.i 0)), .l [], .b false]]) []))
 (.bad)
def S_flow_walked : STab := []
def T_flow_walked : TTab := []
def F_flow_walked : Fn := { np := 1, bs := [], main := M_flow_walked, lps := [] }
def M_wf_all (x : List D) : Sh :=
 .loop 0 [.l (D.els (gD x 0)), .i 0, .l (D.els (gD x 1)), .i (D.toI (gD x 2)), .i (Int.ofNat (List.length (D.els (gD x 1))))] (.cons (fun p0 =>
 .ret (.b (gB p0 0)) [])
 (.cons (fun p0 =>
 .ret (.b true) [])
 .nil))
def L_wf_all_0 (p : List D) : Sh :=
 .ask (ltI (gI p 1) (gI p 4))
 (.ask (within (gI p 1) (List.length (gL p 2)))
 (.ask (within (D.toI (gD (gL p 2) (Int.toNat (gI p 1)))) (List.length (gL p 0)))
 (.ask (!(eqI (D.toI (gD (gL p 0) (Int.toNat (D.toI (gD (gL p 2) (Int.toNat (gI p 1))))))) (gI p 3)))
 (.out (0, [.b false]))
 (.again [.l (gL p 0), .i (wrapA .i64 ((gI p 1) + 1)), .l (gL p 2), .i (gI p 3), .i (gI p 4)]))
 (.bad))
 (.bad))
 (.out (1, []))
def S_wf_all : STab := [(0, fun p => ⟨(t2 (.fz [] 3 [.int .i64] (gL p 0)) (t0 (t0 .nil (t1 (.int .i64 (gI p 1)))) (t0 (t1 (.fz [] 3 [.int .i64] (gL p 2))) .nil)) (t2 (.int .i64 (gI p 3)) .nil (t0 (t1 (.int .i64 (gI p 4))) .nil))), [], [], 1⟩)]
def T_wf_all : TTab := [(0, [fun p => (.ret, ⟨(t0 .nil (t0 .nil (t1 (.bool (gB p 0))))), [], [], 1⟩),
  fun p => (.exit 0, ⟨(t0 .nil (t0 .nil (t0 .nil .nil))), [], [], 1⟩)])]
def F_wf_all : Fn := { np := 3, bs := [0], main := M_wf_all, lps := [(0, L_wf_all_0)] }
def M_slices_Grow_Sapi_Base_api_Base (x : List D) : Sh :=
 .ask (ltI (D.toI (gD x 1)) 0)
 (.bad)
 (.bad)
def S_slices_Grow_Sapi_Base_api_Base : STab := []
def T_slices_Grow_Sapi_Base_api_Base : TTab := []
def F_slices_Grow_Sapi_Base_api_Base : Fn := { np := 2, bs := [], main := M_slices_Grow_Sapi_Base_api_Base, lps := [] }
def M_slices_nextPowerOfTwo (x : List D) : Sh :=
 .call math_bits_Len [.i (wrapA .u64 (D.toI (gD x 0)))] 0 fun r0 _ =>
 .ask (leI 0 (D.toI r0))
 (.ret (.i (shlV .u64 1 (D.toI r0))) [])
 (.bad)
def S_slices_nextPowerOfTwo : STab := []
def T_slices_nextPowerOfTwo : TTab := []
def F_slices_nextPowerOfTwo : Fn := { np := 1, bs := [], main := M_slices_nextPowerOfTwo, lps := [] }
def d_law28_ArgsRow : FD := { f := Go.Proofs.Try.f3, h := h3, c := cd Go.Proofs.Try.f3, s := sgOf sigs 3, F := F_law28_ArgsRow, S := S_law28_ArgsRow, T := T_law28_ArgsRow }
theorem k_law28_ArgsRow : KM d_law28_ArgsRow := fun x => by kernel_rfl
theorem k_law28_ArgsRow_0 : KL d_law28_ArgsRow 0 L_law28_ArgsRow_0 := fun p => by kernel_rfl
theorem k_law28_ArgsRow_2 : KL d_law28_ArgsRow 2 L_law28_ArgsRow_2 := fun p => by kernel_rfl
theorem c_law28_ArgsRow : Cert E bodies sites law28_ArgsRow d_law28_ArgsRow := ⟨by kernel_rfl, by kernel_rfl, by kernel_rfl, by kernel_rfl, by kernel_rfl, by kernel_rfl, sites_loops, by kernel_rfl, k_law28_ArgsRow, look_cons' k_law28_ArgsRow_0 (look_cons' k_law28_ArgsRow_2 (look_nil))⟩
def d_keep_Bools : FD := { f := Go.Proofs.Try.f10, h := h10, c := cd Go.Proofs.Try.f10, s := sgOf sigs 10, F := F_keep_Bools, S := S_keep_Bools, T := T_keep_Bools }
theorem k_keep_Bools : KM d_keep_Bools := fun x => by kernel_rfl
theorem k_keep_Bools_0 : KL d_keep_Bools 0 L_keep_Bools_0 := fun p => by kernel_rfl
theorem c_keep_Bools : Cert E bodies sites keep_Bools d_keep_Bools := ⟨by kernel_rfl, by kernel_rfl, by kernel_rfl, by kernel_rfl, by kernel_rfl, by kernel_rfl, sites_loops, by kernel_rfl, k_keep_Bools, look_cons' k_keep_Bools_0 (look_nil)⟩
def d_wf_small : FD := { f := Go.Proofs.Try.f19, h := h19, c := cd Go.Proofs.Try.f19, s := sgOf sigs 19, F := F_wf_small, S := S_wf_small, T := T_wf_small }
theorem k_wf_small : KM d_wf_small := fun x => by kernel_rfl
theorem k_wf_small_0 : KL d_wf_small 0 L_wf_small_0 := fun p => by kernel_rfl
theorem k_wf_small_2 : KL d_wf_small 2 L_wf_small_2 := fun p => by kernel_rfl
theorem k_wf_small_4 : KL d_wf_small 4 L_wf_small_4 := fun p => by kernel_rfl
theorem k_wf_small_6 : KL d_wf_small 6 L_wf_small_6 := fun p => by kernel_rfl
theorem c_wf_small : Cert E bodies sites wf_small d_wf_small := ⟨by kernel_rfl, by kernel_rfl, by kernel_rfl, by kernel_rfl, by kernel_rfl, by kernel_rfl, sites_loops, by kernel_rfl, k_wf_small, look_cons' k_wf_small_0 (look_cons' k_wf_small_2 (look_cons' k_wf_small_4 (look_cons' k_wf_small_6 (look_nil))))⟩
def d_slices_Clone_Sint_int : FD := { f := Go.Proofs.Try.f26, h := h26, c := cd Go.Proofs.Try.f26, s := sgOf sigs 26, F := F_slices_Clone_Sint_int, S := S_slices_Clone_Sint_int, T := T_slices_Clone_Sint_int }
theorem k_slices_Clone_Sint_int : KM d_slices_Clone_Sint_int := fun x => by kernel_rfl
theorem c_slices_Clone_Sint_int : Cert E bodies sites slices_Clone_Sint_int d_slices_Clone_Sint_int := ⟨by kernel_rfl, by kernel_rfl, by kernel_rfl, by kernel_rfl, by kernel_rfl, by kernel_rfl, sites_loops, by kernel_rfl, k_slices_Clone_Sint_int, look_nil⟩
def d_facts_Of : FD := { f := Go.Proofs.Try.f30, h := h30, c := cd Go.Proofs.Try.f30, s := sgOf sigs 30, F := F_facts_Of, S := S_facts_Of, T := T_facts_Of }
theorem k_facts_Of : KM d_facts_Of := fun x => by kernel_rfl
theorem k_facts_Of_0 : KL d_facts_Of 0 L_facts_Of_0 := fun p => by kernel_rfl
theorem k_facts_Of_2 : KL d_facts_Of 2 L_facts_Of_2 := fun p => by kernel_rfl
theorem k_facts_Of_4 : KL d_facts_Of 4 L_facts_Of_4 := fun p => by kernel_rfl
theorem k_facts_Of_6 : KL d_facts_Of 6 L_facts_Of_6 := fun p => by kernel_rfl
theorem k_facts_Of_8 : KL d_facts_Of 8 L_facts_Of_8 := fun p => by kernel_rfl
theorem c_facts_Of : Cert E bodies sites facts_Of d_facts_Of := ⟨by kernel_rfl, by kernel_rfl, by kernel_rfl, by kernel_rfl, by kernel_rfl, by kernel_rfl, sites_loops, by kernel_rfl, k_facts_Of, look_cons' k_facts_Of_0 (look_cons' k_facts_Of_2 (look_cons' k_facts_Of_4 (look_cons' k_facts_Of_6 (look_cons' k_facts_Of_8 (look_nil)))))⟩
def d_ir_Size : FD := { f := Go.Proofs.Try.f32, h := h32, c := cd Go.Proofs.Try.f32, s := sgOf sigs 32, F := F_ir_Size, S := S_ir_Size, T := T_ir_Size }
theorem k_ir_Size : KM d_ir_Size := fun x => by kernel_rfl
theorem k_ir_Size_0 : KL d_ir_Size 0 L_ir_Size_0 := fun p => by kernel_rfl
theorem c_ir_Size : Cert E bodies sites ir_Size d_ir_Size := ⟨by kernel_rfl, by kernel_rfl, by kernel_rfl, by kernel_rfl, by kernel_rfl, by kernel_rfl, sites_loops, by kernel_rfl, k_ir_Size, look_cons' k_ir_Size_0 (look_nil)⟩
def d_wf_scalar : FD := { f := Go.Proofs.Try.f33, h := h33, c := cd Go.Proofs.Try.f33, s := sgOf sigs 33, F := F_wf_scalar, S := S_wf_scalar, T := T_wf_scalar }
theorem k_wf_scalar : KM d_wf_scalar := fun x => by kernel_rfl
theorem c_wf_scalar : Cert E bodies sites wf_scalar d_wf_scalar := ⟨by kernel_rfl, by kernel_rfl, by kernel_rfl, by kernel_rfl, by kernel_rfl, by kernel_rfl, sites_loops, by kernel_rfl, k_wf_scalar, look_nil⟩
def d_flow_Reach : FD := { f := Go.Proofs.Try.f38, h := h38, c := cd Go.Proofs.Try.f38, s := sgOf sigs 38, F := F_flow_Reach, S := S_flow_Reach, T := T_flow_Reach }
theorem k_flow_Reach : KM d_flow_Reach := fun x => by kernel_rfl
theorem k_flow_Reach_0 : KL d_flow_Reach 0 L_flow_Reach_0 := fun p => by kernel_rfl
theorem c_flow_Reach : Cert E bodies sites flow_Reach d_flow_Reach := ⟨by kernel_rfl, by kernel_rfl, by kernel_rfl, by kernel_rfl, by kernel_rfl, by kernel_rfl, sites_loops, by kernel_rfl, k_flow_Reach, look_cons' k_flow_Reach_0 (look_nil)⟩
def d_wf_ahead : FD := { f := Go.Proofs.Try.f42, h := h42, c := cd Go.Proofs.Try.f42, s := sgOf sigs 42, F := F_wf_ahead, S := S_wf_ahead, T := T_wf_ahead }
theorem k_wf_ahead : KM d_wf_ahead := fun x => by kernel_rfl
theorem k_wf_ahead_0 : KL d_wf_ahead 0 L_wf_ahead_0 := fun p => by kernel_rfl
theorem k_wf_ahead_2 : KL d_wf_ahead 2 L_wf_ahead_2 := fun p => by kernel_rfl
theorem c_wf_ahead : Cert E bodies sites wf_ahead d_wf_ahead := ⟨by kernel_rfl, by kernel_rfl, by kernel_rfl, by kernel_rfl, by kernel_rfl, by kernel_rfl, sites_loops, by kernel_rfl, k_wf_ahead, look_cons' k_wf_ahead_0 (look_cons' k_wf_ahead_2 (look_nil))⟩
def d_ir_Types : FD := { f := Go.Proofs.Try.f43, h := h43, c := cd Go.Proofs.Try.f43, s := sgOf sigs 43, F := F_ir_Types, S := S_ir_Types, T := T_ir_Types }
theorem k_ir_Types : KM d_ir_Types := fun x => by kernel_rfl
theorem k_ir_Types_0 : KL d_ir_Types 0 L_ir_Types_0 := fun p => by kernel_rfl
theorem k_ir_Types_2 : KL d_ir_Types 2 L_ir_Types_2 := fun p => by kernel_rfl
theorem c_ir_Types : Cert E bodies sites ir_Types d_ir_Types := ⟨by kernel_rfl, by kernel_rfl, by kernel_rfl, by kernel_rfl, by kernel_rfl, by kernel_rfl, sites_loops, by kernel_rfl, k_ir_Types, look_cons' k_ir_Types_0 (look_cons' k_ir_Types_2 (look_nil))⟩
def d_ir_copyIns : FD := { f := Go.Proofs.Try.f45, h := h45, c := cd Go.Proofs.Try.f45, s := sgOf sigs 45, F := F_ir_copyIns, S := S_ir_copyIns, T := T_ir_copyIns }
theorem k_ir_copyIns : KM d_ir_copyIns := fun x => by kernel_rfl
theorem c_ir_copyIns : Cert E bodies sites ir_copyIns d_ir_copyIns := ⟨by kernel_rfl, by kernel_rfl, by kernel_rfl, by kernel_rfl, by kernel_rfl, by kernel_rfl, sites_loops, by kernel_rfl, k_ir_copyIns, look_nil⟩
def d_facts_Func_off : FD := { f := Go.Proofs.Try.f61, h := h61, c := cd Go.Proofs.Try.f61, s := sgOf sigs 61, F := F_facts_Func_off, S := S_facts_Func_off, T := T_facts_Func_off }
theorem k_facts_Func_off : KM d_facts_Func_off := fun x => by kernel_rfl
theorem c_facts_Func_off : Cert E bodies sites facts_Func_off d_facts_Func_off := ⟨by kernel_rfl, by kernel_rfl, by kernel_rfl, by kernel_rfl, by kernel_rfl, by kernel_rfl, sites_loops, by kernel_rfl, k_facts_Func_off, look_nil⟩
def d_flow_walker_visit : FD := { f := Go.Proofs.Try.f62, h := h62, c := cd Go.Proofs.Try.f62, s := sgOf sigs 62, F := F_flow_walker_visit, S := S_flow_walker_visit, T := T_flow_walker_visit }
theorem k_flow_walker_visit : KM d_flow_walker_visit := fun x => by kernel_rfl
theorem k_flow_walker_visit_0 : KL d_flow_walker_visit 0 L_flow_walker_visit_0 := fun p => by kernel_rfl
theorem c_flow_walker_visit : Cert E bodies sites flow_walker_visit d_flow_walker_visit := ⟨by kernel_rfl, by kernel_rfl, by kernel_rfl, by kernel_rfl, by kernel_rfl, by kernel_rfl, sites_loops, by kernel_rfl, k_flow_walker_visit, look_cons' k_flow_walker_visit_0 (look_nil)⟩
def d_math_bits_Len32 : FD := { f := Go.Proofs.Try.f78, h := h78, c := cd Go.Proofs.Try.f78, s := sgOf sigs 78, F := F_math_bits_Len32, S := S_math_bits_Len32, T := T_math_bits_Len32 }
theorem k_math_bits_Len32 : KM d_math_bits_Len32 := fun x => by kernel_rfl
theorem c_math_bits_Len32 : Cert E bodies sites math_bits_Len32 d_math_bits_Len32 := ⟨by kernel_rfl, by kernel_rfl, by kernel_rfl, by kernel_rfl, by kernel_rfl, by kernel_rfl, sites_loops, by kernel_rfl, k_math_bits_Len32, look_nil⟩
def d_law28_idle : FD := { f := Go.Proofs.Try.f7, h := h7, c := cd Go.Proofs.Try.f7, s := sgOf sigs 7, F := F_law28_idle, S := S_law28_idle, T := T_law28_idle }
theorem k_law28_idle : KM d_law28_idle := fun x => by kernel_rfl
theorem c_law28_idle : Cert E bodies sites law28_idle d_law28_idle := ⟨by kernel_rfl, by kernel_rfl, by kernel_rfl, by kernel_rfl, by kernel_rfl, by kernel_rfl, sites_loops, by kernel_rfl, k_law28_idle, look_nil⟩
def d_args_without : FD := { f := Go.Proofs.Try.f14, h := h14, c := cd Go.Proofs.Try.f14, s := sgOf sigs 14, F := F_args_without, S := S_args_without, T := T_args_without }
theorem k_args_without : KM d_args_without := fun x => by kernel_rfl
theorem k_args_without_0 : KL d_args_without 0 L_args_without_0 := fun p => by kernel_rfl
theorem c_args_without : Cert E bodies sites args_without d_args_without := ⟨by kernel_rfl, by kernel_rfl, by kernel_rfl, by kernel_rfl, by kernel_rfl, by kernel_rfl, sites_loops, by kernel_rfl, k_args_without, look_cons' k_args_without_0 (look_nil)⟩
def d_ir_Uses : FD := { f := Go.Proofs.Try.f18, h := h18, c := cd Go.Proofs.Try.f18, s := sgOf sigs 18, F := F_ir_Uses, S := S_ir_Uses, T := T_ir_Uses }
theorem k_ir_Uses : KM d_ir_Uses := fun x => by kernel_rfl
theorem k_ir_Uses_0 : KL d_ir_Uses 0 L_ir_Uses_0 := fun p => by kernel_rfl
theorem k_ir_Uses_2 : KL d_ir_Uses 2 L_ir_Uses_2 := fun p => by kernel_rfl
theorem k_ir_Uses_4 : KL d_ir_Uses 4 L_ir_Uses_4 := fun p => by kernel_rfl
theorem c_ir_Uses : Cert E bodies sites ir_Uses d_ir_Uses := ⟨by kernel_rfl, by kernel_rfl, by kernel_rfl, by kernel_rfl, by kernel_rfl, by kernel_rfl, sites_loops, by kernel_rfl, k_ir_Uses, look_cons' k_ir_Uses_0 (look_cons' k_ir_Uses_2 (look_cons' k_ir_Uses_4 (look_nil)))⟩
def d_wf_named : FD := { f := Go.Proofs.Try.f21, h := h21, c := cd Go.Proofs.Try.f21, s := sgOf sigs 21, F := F_wf_named, S := S_wf_named, T := T_wf_named }
theorem k_wf_named : KM d_wf_named := fun x => by kernel_rfl
theorem k_wf_named_0 : KL d_wf_named 0 L_wf_named_0 := fun p => by kernel_rfl
theorem k_wf_named_2 : KL d_wf_named 2 L_wf_named_2 := fun p => by kernel_rfl
theorem k_wf_named_4 : KL d_wf_named 4 L_wf_named_4 := fun p => by kernel_rfl
theorem k_wf_named_6 : KL d_wf_named 6 L_wf_named_6 := fun p => by kernel_rfl
theorem k_wf_named_8 : KL d_wf_named 8 L_wf_named_8 := fun p => by kernel_rfl
theorem c_wf_named : Cert E bodies sites wf_named d_wf_named := ⟨by kernel_rfl, by kernel_rfl, by kernel_rfl, by kernel_rfl, by kernel_rfl, by kernel_rfl, sites_loops, by kernel_rfl, k_wf_named, look_cons' k_wf_named_0 (look_cons' k_wf_named_2 (look_cons' k_wf_named_4 (look_cons' k_wf_named_6 (look_cons' k_wf_named_8 (look_nil)))))⟩
def d_wf_used : FD := { f := Go.Proofs.Try.f24, h := h24, c := cd Go.Proofs.Try.f24, s := sgOf sigs 24, F := F_wf_used, S := S_wf_used, T := T_wf_used }
theorem k_wf_used : KM d_wf_used := fun x => by kernel_rfl
theorem k_wf_used_0 : KL d_wf_used 0 L_wf_used_0 := fun p => by kernel_rfl
theorem k_wf_used_2 : KL d_wf_used 2 L_wf_used_2 := fun p => by kernel_rfl
theorem k_wf_used_4 : KL d_wf_used 4 L_wf_used_4 := fun p => by kernel_rfl
theorem k_wf_used_6 : KL d_wf_used 6 L_wf_used_6 := fun p => by kernel_rfl
theorem k_wf_used_8 : KL d_wf_used 8 L_wf_used_8 := fun p => by kernel_rfl
theorem k_wf_used_10 : KL d_wf_used 10 L_wf_used_10 := fun p => by kernel_rfl
theorem k_wf_used_12 : KL d_wf_used 12 L_wf_used_12 := fun p => by kernel_rfl
theorem c_wf_used : Cert E bodies sites wf_used d_wf_used := ⟨by kernel_rfl, by kernel_rfl, by kernel_rfl, by kernel_rfl, by kernel_rfl, by kernel_rfl, sites_loops, by kernel_rfl, k_wf_used, look_cons' k_wf_used_0 (look_cons' k_wf_used_2 (look_cons' k_wf_used_4 (look_cons' k_wf_used_6 (look_cons' k_wf_used_8 (look_cons' k_wf_used_10 (look_cons' k_wf_used_12 (look_nil)))))))⟩
def d_ir_Values : FD := { f := Go.Proofs.Try.f31, h := h31, c := cd Go.Proofs.Try.f31, s := sgOf sigs 31, F := F_ir_Values, S := S_ir_Values, T := T_ir_Values }
theorem k_ir_Values : KM d_ir_Values := fun x => by kernel_rfl
theorem c_ir_Values : Cert E bodies sites ir_Values d_ir_Values := ⟨by kernel_rfl, by kernel_rfl, by kernel_rfl, by kernel_rfl, by kernel_rfl, by kernel_rfl, sites_loops, by kernel_rfl, k_ir_Values, look_nil⟩
def d_dom_Over : FD := { f := Go.Proofs.Try.f41, h := h41, c := cd Go.Proofs.Try.f41, s := sgOf sigs 41, F := F_dom_Over, S := S_dom_Over, T := T_dom_Over }
theorem k_dom_Over : KM d_dom_Over := fun x => by kernel_rfl
theorem c_dom_Over : Cert E bodies sites dom_Over d_dom_Over := ⟨by kernel_rfl, by kernel_rfl, by kernel_rfl, by kernel_rfl, by kernel_rfl, by kernel_rfl, sites_loops, by kernel_rfl, k_dom_Over, look_nil⟩
def d_wf_fitting : FD := { f := Go.Proofs.Try.f44, h := h44, c := cd Go.Proofs.Try.f44, s := sgOf sigs 44, F := F_wf_fitting, S := S_wf_fitting, T := T_wf_fitting }
theorem k_wf_fitting : KM d_wf_fitting := fun x => by kernel_rfl
theorem c_wf_fitting : Cert E bodies sites wf_fitting d_wf_fitting := ⟨by kernel_rfl, by kernel_rfl, by kernel_rfl, by kernel_rfl, by kernel_rfl, by kernel_rfl, sites_loops, by kernel_rfl, k_wf_fitting, look_nil⟩
def d_flow_Next : FD := { f := Go.Proofs.Try.f51, h := h51, c := cd Go.Proofs.Try.f51, s := sgOf sigs 51, F := F_flow_Next, S := S_flow_Next, T := T_flow_Next }
theorem k_flow_Next : KM d_flow_Next := fun x => by kernel_rfl
theorem k_flow_Next_0 : KL d_flow_Next 0 L_flow_Next_0 := fun p => by kernel_rfl
theorem c_flow_Next : Cert E bodies sites flow_Next d_flow_Next := ⟨by kernel_rfl, by kernel_rfl, by kernel_rfl, by kernel_rfl, by kernel_rfl, by kernel_rfl, sites_loops, by kernel_rfl, k_flow_Next, look_cons' k_flow_Next_0 (look_nil)⟩
def d_dom_nearest : FD := { f := Go.Proofs.Try.f52, h := h52, c := cd Go.Proofs.Try.f52, s := sgOf sigs 52, F := F_dom_nearest, S := S_dom_nearest, T := T_dom_nearest }
theorem k_dom_nearest : KM d_dom_nearest := fun x => by kernel_rfl
theorem k_dom_nearest_0 : KL d_dom_nearest 0 L_dom_nearest_0 := fun p => by kernel_rfl
theorem k_dom_nearest_2 : KL d_dom_nearest 2 L_dom_nearest_2 := fun p => by kernel_rfl
theorem c_dom_nearest : Cert E bodies sites dom_nearest d_dom_nearest := ⟨by kernel_rfl, by kernel_rfl, by kernel_rfl, by kernel_rfl, by kernel_rfl, by kernel_rfl, sites_loops, by kernel_rfl, k_dom_nearest, look_cons' k_dom_nearest_0 (look_cons' k_dom_nearest_2 (look_nil))⟩
def d_facts_lesser : FD := { f := Go.Proofs.Try.f59, h := h59, c := cd Go.Proofs.Try.f59, s := sgOf sigs 59, F := F_facts_lesser, S := S_facts_lesser, T := T_facts_lesser }
theorem k_facts_lesser : KM d_facts_lesser := fun x => by kernel_rfl
theorem c_facts_lesser : Cert E bodies sites facts_lesser d_facts_lesser := ⟨by kernel_rfl, by kernel_rfl, by kernel_rfl, by kernel_rfl, by kernel_rfl, by kernel_rfl, sites_loops, by kernel_rfl, k_facts_lesser, look_nil⟩
def d_dom_without : FD := { f := Go.Proofs.Try.f64, h := h64, c := cd Go.Proofs.Try.f64, s := sgOf sigs 64, F := F_dom_without, S := S_dom_without, T := T_dom_without }
theorem k_dom_without : KM d_dom_without := fun x => by kernel_rfl
theorem k_dom_without_0 : KL d_dom_without 0 L_dom_without_0 := fun p => by kernel_rfl
theorem k_dom_without_2 : KL d_dom_without 2 L_dom_without_2 := fun p => by kernel_rfl
theorem c_dom_without : Cert E bodies sites dom_without d_dom_without := ⟨by kernel_rfl, by kernel_rfl, by kernel_rfl, by kernel_rfl, by kernel_rfl, by kernel_rfl, sites_loops, by kernel_rfl, k_dom_without, look_cons' k_dom_without_0 (look_cons' k_dom_without_2 (look_nil))⟩
def d_facts_Func_Num : FD := { f := Go.Proofs.Try.f68, h := h68, c := cd Go.Proofs.Try.f68, s := sgOf sigs 68, F := F_facts_Func_Num, S := S_facts_Func_Num, T := T_facts_Func_Num }
theorem k_facts_Func_Num : KM d_facts_Func_Num := fun x => by kernel_rfl
theorem c_facts_Func_Num : Cert E bodies sites facts_Func_Num d_facts_Func_Num := ⟨by kernel_rfl, by kernel_rfl, by kernel_rfl, by kernel_rfl, by kernel_rfl, by kernel_rfl, sites_loops, by kernel_rfl, k_facts_Func_Num, look_nil⟩
def d_slices_Index_Sint_int : FD := { f := Go.Proofs.Try.f69, h := h69, c := cd Go.Proofs.Try.f69, s := sgOf sigs 69, F := F_slices_Index_Sint_int, S := S_slices_Index_Sint_int, T := T_slices_Index_Sint_int }
theorem k_slices_Index_Sint_int : KM d_slices_Index_Sint_int := fun x => by kernel_rfl
theorem k_slices_Index_Sint_int_0 : KL d_slices_Index_Sint_int 0 L_slices_Index_Sint_int_0 := fun p => by kernel_rfl
theorem c_slices_Index_Sint_int : Cert E bodies sites slices_Index_Sint_int d_slices_Index_Sint_int := ⟨by kernel_rfl, by kernel_rfl, by kernel_rfl, by kernel_rfl, by kernel_rfl, by kernel_rfl, sites_loops, by kernel_rfl, k_slices_Index_Sint_int, look_cons' k_slices_Index_Sint_int_0 (look_nil)⟩
def d_keep_Rows : FD := { f := Go.Proofs.Try.f8, h := h8, c := cd Go.Proofs.Try.f8, s := sgOf sigs 8, F := F_keep_Rows, S := S_keep_Rows, T := T_keep_Rows }
theorem k_keep_Rows : KM d_keep_Rows := fun x => by kernel_rfl
theorem k_keep_Rows_0 : KL d_keep_Rows 0 L_keep_Rows_0 := fun p => by kernel_rfl
theorem c_keep_Rows : Cert E bodies sites keep_Rows d_keep_Rows := ⟨by kernel_rfl, by kernel_rfl, by kernel_rfl, by kernel_rfl, by kernel_rfl, by kernel_rfl, sites_loops, by kernel_rfl, k_keep_Rows, look_cons' k_keep_Rows_0 (look_nil)⟩
def d_wf_Check : FD := { f := Go.Proofs.Try.f12, h := h12, c := cd Go.Proofs.Try.f12, s := sgOf sigs 12, F := F_wf_Check, S := S_wf_Check, T := T_wf_Check }
theorem k_wf_Check : KM d_wf_Check := fun x => by kernel_rfl
theorem k_wf_Check_1 : KL d_wf_Check 1 L_wf_Check_1 := fun p => by kernel_rfl
theorem k_wf_Check_3 : KL d_wf_Check 3 L_wf_Check_3 := fun p => by kernel_rfl
theorem k_wf_Check_5 : KL d_wf_Check 5 L_wf_Check_5 := fun p => by kernel_rfl
theorem c_wf_Check : Cert E bodies sites wf_Check d_wf_Check := ⟨by kernel_rfl, by kernel_rfl, by kernel_rfl, by kernel_rfl, by kernel_rfl, by kernel_rfl, sites_loops, by kernel_rfl, k_wf_Check, look_cons' k_wf_Check_1 (look_cons' k_wf_Check_3 (look_cons' k_wf_Check_5 (look_nil)))⟩
def d_ir_Copy : FD := { f := Go.Proofs.Try.f13, h := h13, c := cd Go.Proofs.Try.f13, s := sgOf sigs 13, F := F_ir_Copy, S := S_ir_Copy, T := T_ir_Copy }
theorem k_ir_Copy : KM d_ir_Copy := fun x => by kernel_rfl
theorem k_ir_Copy_0 : KL d_ir_Copy 0 L_ir_Copy_0 := fun p => by kernel_rfl
theorem k_ir_Copy_2 : KL d_ir_Copy 2 L_ir_Copy_2 := fun p => by kernel_rfl
theorem k_ir_Copy_4 : KL d_ir_Copy 4 L_ir_Copy_4 := fun p => by kernel_rfl
theorem k_ir_Copy_6 : KL d_ir_Copy 6 L_ir_Copy_6 := fun p => by kernel_rfl
theorem c_ir_Copy : Cert E bodies sites ir_Copy d_ir_Copy := ⟨by kernel_rfl, by kernel_rfl, by kernel_rfl, by kernel_rfl, by kernel_rfl, by kernel_rfl, sites_loops, by kernel_rfl, k_ir_Copy, look_cons' k_ir_Copy_0 (look_cons' k_ir_Copy_2 (look_cons' k_ir_Copy_4 (look_cons' k_ir_Copy_6 (look_nil))))⟩
def d_wf_known : FD := { f := Go.Proofs.Try.f22, h := h22, c := cd Go.Proofs.Try.f22, s := sgOf sigs 22, F := F_wf_known, S := S_wf_known, T := T_wf_known }
theorem k_wf_known : KM d_wf_known := fun x => by kernel_rfl
theorem k_wf_known_0 : KL d_wf_known 0 L_wf_known_0 := fun p => by kernel_rfl
theorem k_wf_known_2 : KL d_wf_known 2 L_wf_known_2 := fun p => by kernel_rfl
theorem k_wf_known_4 : KL d_wf_known 4 L_wf_known_4 := fun p => by kernel_rfl
theorem k_wf_known_6 : KL d_wf_known 6 L_wf_known_6 := fun p => by kernel_rfl
theorem k_wf_known_8 : KL d_wf_known 8 L_wf_known_8 := fun p => by kernel_rfl
theorem c_wf_known : Cert E bodies sites wf_known d_wf_known := ⟨by kernel_rfl, by kernel_rfl, by kernel_rfl, by kernel_rfl, by kernel_rfl, by kernel_rfl, sites_loops, by kernel_rfl, k_wf_known, look_cons' k_wf_known_0 (look_cons' k_wf_known_2 (look_cons' k_wf_known_4 (look_cons' k_wf_known_6 (look_cons' k_wf_known_8 (look_nil)))))⟩
def d_wf_shaped : FD := { f := Go.Proofs.Try.f34, h := h34, c := cd Go.Proofs.Try.f34, s := sgOf sigs 34, F := F_wf_shaped, S := S_wf_shaped, T := T_wf_shaped }
theorem k_wf_shaped : KM d_wf_shaped := fun x => by kernel_rfl
theorem c_wf_shaped : Cert E bodies sites wf_shaped d_wf_shaped := ⟨by kernel_rfl, by kernel_rfl, by kernel_rfl, by kernel_rfl, by kernel_rfl, by kernel_rfl, sites_loops, by kernel_rfl, k_wf_shaped, look_nil⟩
def d_flow_Prev : FD := { f := Go.Proofs.Try.f39, h := h39, c := cd Go.Proofs.Try.f39, s := sgOf sigs 39, F := F_flow_Prev, S := S_flow_Prev, T := T_flow_Prev }
theorem k_flow_Prev : KM d_flow_Prev := fun x => by kernel_rfl
theorem k_flow_Prev_0 : KL d_flow_Prev 0 L_flow_Prev_0 := fun p => by kernel_rfl
theorem k_flow_Prev_2 : KL d_flow_Prev 2 L_flow_Prev_2 := fun p => by kernel_rfl
theorem c_flow_Prev : Cert E bodies sites flow_Prev d_flow_Prev := ⟨by kernel_rfl, by kernel_rfl, by kernel_rfl, by kernel_rfl, by kernel_rfl, by kernel_rfl, sites_loops, by kernel_rfl, k_flow_Prev, look_cons' k_flow_Prev_0 (look_cons' k_flow_Prev_2 (look_nil))⟩
def d_facts_Func_bases : FD := { f := Go.Proofs.Try.f46, h := h46, c := cd Go.Proofs.Try.f46, s := sgOf sigs 46, F := F_facts_Func_bases, S := S_facts_Func_bases, T := T_facts_Func_bases }
theorem k_facts_Func_bases : KM d_facts_Func_bases := fun x => by kernel_rfl
theorem k_facts_Func_bases_0 : KL d_facts_Func_bases 0 L_facts_Func_bases_0 := fun p => by kernel_rfl
theorem k_facts_Func_bases_2 : KL d_facts_Func_bases 2 L_facts_Func_bases_2 := fun p => by kernel_rfl
theorem k_facts_Func_bases_4 : KL d_facts_Func_bases 4 L_facts_Func_bases_4 := fun p => by kernel_rfl
theorem k_facts_Func_bases_7 : KL d_facts_Func_bases 7 L_facts_Func_bases_7 := fun p => by kernel_rfl
theorem c_facts_Func_bases : Cert E bodies sites facts_Func_bases d_facts_Func_bases := ⟨by kernel_rfl, by kernel_rfl, by kernel_rfl, by kernel_rfl, by kernel_rfl, by kernel_rfl, sites_loops, by kernel_rfl, k_facts_Func_bases, look_cons' k_facts_Func_bases_0 (look_cons' k_facts_Func_bases_2 (look_cons' k_facts_Func_bases_4 (look_cons' k_facts_Func_bases_7 (look_nil))))⟩
def d_wf_Mark : FD := { f := Go.Proofs.Try.f48, h := h48, c := cd Go.Proofs.Try.f48, s := sgOf sigs 48, F := F_wf_Mark, S := S_wf_Mark, T := T_wf_Mark }
theorem k_wf_Mark : KM d_wf_Mark := fun x => by kernel_rfl
theorem c_wf_Mark : Cert E bodies sites wf_Mark d_wf_Mark := ⟨by kernel_rfl, by kernel_rfl, by kernel_rfl, by kernel_rfl, by kernel_rfl, by kernel_rfl, sites_loops, by kernel_rfl, k_wf_Mark, look_nil⟩
def d_slices_Index_Sbool_bool : FD := { f := Go.Proofs.Try.f49, h := h49, c := cd Go.Proofs.Try.f49, s := sgOf sigs 49, F := F_slices_Index_Sbool_bool, S := S_slices_Index_Sbool_bool, T := T_slices_Index_Sbool_bool }
theorem k_slices_Index_Sbool_bool : KM d_slices_Index_Sbool_bool := fun x => by kernel_rfl
theorem k_slices_Index_Sbool_bool_0 : KL d_slices_Index_Sbool_bool 0 L_slices_Index_Sbool_bool_0 := fun p => by kernel_rfl
theorem c_slices_Index_Sbool_bool : Cert E bodies sites slices_Index_Sbool_bool d_slices_Index_Sbool_bool := ⟨by kernel_rfl, by kernel_rfl, by kernel_rfl, by kernel_rfl, by kernel_rfl, by kernel_rfl, sites_loops, by kernel_rfl, k_slices_Index_Sbool_bool, look_cons' k_slices_Index_Sbool_bool_0 (look_nil)⟩
def d_wf_rows : FD := { f := Go.Proofs.Try.f55, h := h55, c := cd Go.Proofs.Try.f55, s := sgOf sigs 55, F := F_wf_rows, S := S_wf_rows, T := T_wf_rows }
theorem k_wf_rows : KM d_wf_rows := fun x => by kernel_rfl
theorem k_wf_rows_0 : KL d_wf_rows 0 L_wf_rows_0 := fun p => by kernel_rfl
theorem c_wf_rows : Cert E bodies sites wf_rows d_wf_rows := ⟨by kernel_rfl, by kernel_rfl, by kernel_rfl, by kernel_rfl, by kernel_rfl, by kernel_rfl, sites_loops, by kernel_rfl, k_wf_rows, look_cons' k_wf_rows_0 (look_nil)⟩
def d_slices_Contains_Sint_int : FD := { f := Go.Proofs.Try.f63, h := h63, c := cd Go.Proofs.Try.f63, s := sgOf sigs 63, F := F_slices_Contains_Sint_int, S := S_slices_Contains_Sint_int, T := T_slices_Contains_Sint_int }
theorem k_slices_Contains_Sint_int : KM d_slices_Contains_Sint_int := fun x => by kernel_rfl
theorem c_slices_Contains_Sint_int : Cert E bodies sites slices_Contains_Sint_int d_slices_Contains_Sint_int := ⟨by kernel_rfl, by kernel_rfl, by kernel_rfl, by kernel_rfl, by kernel_rfl, by kernel_rfl, sites_loops, by kernel_rfl, k_slices_Contains_Sint_int, look_nil⟩
def d_math_bits_Len64 : FD := { f := Go.Proofs.Try.f79, h := h79, c := cd Go.Proofs.Try.f79, s := sgOf sigs 79, F := F_math_bits_Len64, S := S_math_bits_Len64, T := T_math_bits_Len64 }
theorem k_math_bits_Len64 : KM d_math_bits_Len64 := fun x => by kernel_rfl
theorem c_math_bits_Len64 : Cert E bodies sites math_bits_Len64 d_math_bits_Len64 := ⟨by kernel_rfl, by kernel_rfl, by kernel_rfl, by kernel_rfl, by kernel_rfl, by kernel_rfl, sites_loops, by kernel_rfl, k_math_bits_Len64, look_nil⟩
def d_args_Run : FD := { f := Go.Proofs.Try.f5, h := h5, c := cd Go.Proofs.Try.f5, s := sgOf sigs 5, F := F_args_Run, S := S_args_Run, T := T_args_Run }
theorem k_args_Run : KM d_args_Run := fun x => by kernel_rfl
theorem k_args_Run_0 : KL d_args_Run 0 L_args_Run_0 := fun p => by kernel_rfl
theorem k_args_Run_2 : KL d_args_Run 2 L_args_Run_2 := fun p => by kernel_rfl
theorem k_args_Run_4 : KL d_args_Run 4 L_args_Run_4 := fun p => by kernel_rfl
theorem k_args_Run_1000 : KL d_args_Run 1000 L_args_Run_1000 := fun p => by kernel_rfl
theorem k_args_Run_1002 : KL d_args_Run 1002 L_args_Run_1002 := fun p => by kernel_rfl
theorem k_args_Run_1004 : KL d_args_Run 1004 L_args_Run_1004 := fun p => by kernel_rfl
theorem k_args_Run_1006 : KL d_args_Run 1006 L_args_Run_1006 := fun p => by kernel_rfl
theorem c_args_Run : Cert E bodies sites args_Run d_args_Run := ⟨by kernel_rfl, by kernel_rfl, by kernel_rfl, by kernel_rfl, by kernel_rfl, by kernel_rfl, sites_loops, by kernel_rfl, k_args_Run, look_cons' k_args_Run_0 (look_cons' k_args_Run_2 (look_cons' k_args_Run_4 (look_cons' k_args_Run_1000 (look_cons' k_args_Run_1002 (look_cons' k_args_Run_1004 (look_cons' k_args_Run_1006 (look_nil)))))))⟩
def d_wf_formed : FD := { f := Go.Proofs.Try.f20, h := h20, c := cd Go.Proofs.Try.f20, s := sgOf sigs 20, F := F_wf_formed, S := S_wf_formed, T := T_wf_formed }
theorem k_wf_formed : KM d_wf_formed := fun x => by kernel_rfl
theorem k_wf_formed_0 : KL d_wf_formed 0 L_wf_formed_0 := fun p => by kernel_rfl
theorem k_wf_formed_2 : KL d_wf_formed 2 L_wf_formed_2 := fun p => by kernel_rfl
theorem k_wf_formed_4 : KL d_wf_formed 4 L_wf_formed_4 := fun p => by kernel_rfl
theorem k_wf_formed_6 : KL d_wf_formed 6 L_wf_formed_6 := fun p => by kernel_rfl
theorem k_wf_formed_8 : KL d_wf_formed 8 L_wf_formed_8 := fun p => by kernel_rfl
theorem k_wf_formed_10 : KL d_wf_formed 10 L_wf_formed_10 := fun p => by kernel_rfl
theorem c_wf_formed : Cert E bodies sites wf_formed d_wf_formed := ⟨by kernel_rfl, by kernel_rfl, by kernel_rfl, by kernel_rfl, by kernel_rfl, by kernel_rfl, sites_loops, by kernel_rfl, k_wf_formed, look_cons' k_wf_formed_0 (look_cons' k_wf_formed_2 (look_cons' k_wf_formed_4 (look_cons' k_wf_formed_6 (look_cons' k_wf_formed_8 (look_cons' k_wf_formed_10 (look_nil))))))⟩
def d_wf_typed : FD := { f := Go.Proofs.Try.f25, h := h25, c := cd Go.Proofs.Try.f25, s := sgOf sigs 25, F := F_wf_typed, S := S_wf_typed, T := T_wf_typed }
theorem k_wf_typed : KM d_wf_typed := fun x => by kernel_rfl
theorem k_wf_typed_0 : KL d_wf_typed 0 L_wf_typed_0 := fun p => by kernel_rfl
theorem k_wf_typed_2 : KL d_wf_typed 2 L_wf_typed_2 := fun p => by kernel_rfl
theorem c_wf_typed : Cert E bodies sites wf_typed d_wf_typed := ⟨by kernel_rfl, by kernel_rfl, by kernel_rfl, by kernel_rfl, by kernel_rfl, by kernel_rfl, sites_loops, by kernel_rfl, k_wf_typed, look_cons' k_wf_typed_0 (look_cons' k_wf_typed_2 (look_nil))⟩
def d_ir_copyFunc : FD := { f := Go.Proofs.Try.f28, h := h28, c := cd Go.Proofs.Try.f28, s := sgOf sigs 28, F := F_ir_copyFunc, S := S_ir_copyFunc, T := T_ir_copyFunc }
theorem k_ir_copyFunc : KM d_ir_copyFunc := fun x => by kernel_rfl
theorem k_ir_copyFunc_0 : KL d_ir_copyFunc 0 L_ir_copyFunc_0 := fun p => by kernel_rfl
theorem k_ir_copyFunc_2 : KL d_ir_copyFunc 2 L_ir_copyFunc_2 := fun p => by kernel_rfl
theorem c_ir_copyFunc : Cert E bodies sites ir_copyFunc d_ir_copyFunc := ⟨by kernel_rfl, by kernel_rfl, by kernel_rfl, by kernel_rfl, by kernel_rfl, by kernel_rfl, sites_loops, by kernel_rfl, k_ir_copyFunc, look_cons' k_ir_copyFunc_0 (look_cons' k_ir_copyFunc_2 (look_nil))⟩
def d_wf_Name : FD := { f := Go.Proofs.Try.f35, h := h35, c := cd Go.Proofs.Try.f35, s := sgOf sigs 35, F := F_wf_Name, S := S_wf_Name, T := T_wf_Name }
theorem k_wf_Name : KM d_wf_Name := fun x => by kernel_rfl
theorem k_wf_Name_0 : KL d_wf_Name 0 L_wf_Name_0 := fun p => by kernel_rfl
theorem c_wf_Name : Cert E bodies sites wf_Name d_wf_Name := ⟨by kernel_rfl, by kernel_rfl, by kernel_rfl, by kernel_rfl, by kernel_rfl, by kernel_rfl, sites_loops, by kernel_rfl, k_wf_Name, look_cons' k_wf_Name_0 (look_nil)⟩
def d_slices_Contains_Sbool_bool : FD := { f := Go.Proofs.Try.f37, h := h37, c := cd Go.Proofs.Try.f37, s := sgOf sigs 37, F := F_slices_Contains_Sbool_bool, S := S_slices_Contains_Sbool_bool, T := T_slices_Contains_Sbool_bool }
theorem k_slices_Contains_Sbool_bool : KM d_slices_Contains_Sbool_bool := fun x => by kernel_rfl
theorem c_slices_Contains_Sbool_bool : Cert E bodies sites slices_Contains_Sbool_bool d_slices_Contains_Sbool_bool := ⟨by kernel_rfl, by kernel_rfl, by kernel_rfl, by kernel_rfl, by kernel_rfl, by kernel_rfl, sites_loops, by kernel_rfl, k_slices_Contains_Sbool_bool, look_nil⟩
def d_slices_Equal_Sint_int : FD := { f := Go.Proofs.Try.f40, h := h40, c := cd Go.Proofs.Try.f40, s := sgOf sigs 40, F := F_slices_Equal_Sint_int, S := S_slices_Equal_Sint_int, T := T_slices_Equal_Sint_int }
theorem k_slices_Equal_Sint_int : KM d_slices_Equal_Sint_int := fun x => by kernel_rfl
theorem k_slices_Equal_Sint_int_0 : KL d_slices_Equal_Sint_int 0 L_slices_Equal_Sint_int_0 := fun p => by kernel_rfl
theorem c_slices_Equal_Sint_int : Cert E bodies sites slices_Equal_Sint_int d_slices_Equal_Sint_int := ⟨by kernel_rfl, by kernel_rfl, by kernel_rfl, by kernel_rfl, by kernel_rfl, by kernel_rfl, sites_loops, by kernel_rfl, k_slices_Equal_Sint_int, look_cons' k_slices_Equal_Sint_int_0 (look_nil)⟩
def d_dom_over : FD := { f := Go.Proofs.Try.f53, h := h53, c := cd Go.Proofs.Try.f53, s := sgOf sigs 53, F := F_dom_over, S := S_dom_over, T := T_dom_over }
theorem k_dom_over : KM d_dom_over := fun x => by kernel_rfl
theorem k_dom_over_0 : KL d_dom_over 0 L_dom_over_0 := fun p => by kernel_rfl
theorem k_dom_over_2 : KL d_dom_over 2 L_dom_over_2 := fun p => by kernel_rfl
theorem k_dom_over_4 : KL d_dom_over 4 L_dom_over_4 := fun p => by kernel_rfl
theorem c_dom_over : Cert E bodies sites dom_over d_dom_over := ⟨by kernel_rfl, by kernel_rfl, by kernel_rfl, by kernel_rfl, by kernel_rfl, by kernel_rfl, sites_loops, by kernel_rfl, k_dom_over, look_cons' k_dom_over_0 (look_cons' k_dom_over_2 (look_cons' k_dom_over_4 (look_nil)))⟩
def d_slices_SortFunc_Sapi_Base_api_Base : FD := { f := Go.Proofs.Try.f58, h := h58, c := cd Go.Proofs.Try.f58, s := sgOf sigs 58, F := F_slices_SortFunc_Sapi_Base_api_Base, S := S_slices_SortFunc_Sapi_Base_api_Base, T := T_slices_SortFunc_Sapi_Base_api_Base }
theorem k_slices_SortFunc_Sapi_Base_api_Base : KM d_slices_SortFunc_Sapi_Base_api_Base := fun x => by kernel_rfl
theorem c_slices_SortFunc_Sapi_Base_api_Base : Cert E bodies sites slices_SortFunc_Sapi_Base_api_Base d_slices_SortFunc_Sapi_Base_api_Base := ⟨by kernel_rfl, by kernel_rfl, by kernel_rfl, by kernel_rfl, by kernel_rfl, by kernel_rfl, sites_loops, by kernel_rfl, k_slices_SortFunc_Sapi_Base_api_Base, look_nil⟩
def d_slices_Compact_Sapi_Base_api_Base : FD := { f := Go.Proofs.Try.f60, h := h60, c := cd Go.Proofs.Try.f60, s := sgOf sigs 60, F := F_slices_Compact_Sapi_Base_api_Base, S := S_slices_Compact_Sapi_Base_api_Base, T := T_slices_Compact_Sapi_Base_api_Base }
theorem k_slices_Compact_Sapi_Base_api_Base : KM d_slices_Compact_Sapi_Base_api_Base := fun x => by kernel_rfl
theorem k_slices_Compact_Sapi_Base_api_Base_0 : KL d_slices_Compact_Sapi_Base_api_Base 0 L_slices_Compact_Sapi_Base_api_Base_0 := fun p => by kernel_rfl
theorem k_slices_Compact_Sapi_Base_api_Base_2 : KL d_slices_Compact_Sapi_Base_api_Base 2 L_slices_Compact_Sapi_Base_api_Base_2 := fun p => by kernel_rfl
theorem c_slices_Compact_Sapi_Base_api_Base : Cert E bodies sites slices_Compact_Sapi_Base_api_Base d_slices_Compact_Sapi_Base_api_Base := ⟨by kernel_rfl, by kernel_rfl, by kernel_rfl, by kernel_rfl, by kernel_rfl, by kernel_rfl, sites_loops, by kernel_rfl, k_slices_Compact_Sapi_Base_api_Base, look_cons' k_slices_Compact_Sapi_Base_api_Base_0 (look_cons' k_slices_Compact_Sapi_Base_api_Base_2 (look_nil))⟩
def d_math_bits_Len : FD := { f := Go.Proofs.Try.f67, h := h67, c := cd Go.Proofs.Try.f67, s := sgOf sigs 67, F := F_math_bits_Len, S := S_math_bits_Len, T := T_math_bits_Len }
theorem k_math_bits_Len : KM d_math_bits_Len := fun x => by kernel_rfl
theorem c_math_bits_Len : Cert E bodies sites math_bits_Len d_math_bits_Len := ⟨by kernel_rfl, by kernel_rfl, by kernel_rfl, by kernel_rfl, by kernel_rfl, by kernel_rfl, sites_loops, by kernel_rfl, k_math_bits_Len, look_nil⟩
def d_slices_xorshift_Next : FD := { f := Go.Proofs.Try.f82, h := h82, c := cd Go.Proofs.Try.f82, s := sgOf sigs 82, F := F_slices_xorshift_Next, S := S_slices_xorshift_Next, T := T_slices_xorshift_Next }
theorem k_slices_xorshift_Next : KM d_slices_xorshift_Next := fun x => by kernel_rfl
theorem c_slices_xorshift_Next : Cert E bodies sites slices_xorshift_Next d_slices_xorshift_Next := ⟨by kernel_rfl, by kernel_rfl, by kernel_rfl, by kernel_rfl, by kernel_rfl, by kernel_rfl, sites_loops, by kernel_rfl, k_slices_xorshift_Next, look_nil⟩
def d_r3_Ints : FD := { f := Go.Proofs.Try.f6, h := h6, c := cd Go.Proofs.Try.f6, s := sgOf sigs 6, F := F_r3_Ints, S := S_r3_Ints, T := T_r3_Ints }
theorem k_r3_Ints : KM d_r3_Ints := fun x => by kernel_rfl
theorem k_r3_Ints_0 : KL d_r3_Ints 0 L_r3_Ints_0 := fun p => by kernel_rfl
theorem c_r3_Ints : Cert E bodies sites r3_Ints d_r3_Ints := ⟨by kernel_rfl, by kernel_rfl, by kernel_rfl, by kernel_rfl, by kernel_rfl, by kernel_rfl, sites_loops, by kernel_rfl, k_r3_Ints, look_cons' k_r3_Ints_0 (look_nil)⟩
def d_args_Dead : FD := { f := Go.Proofs.Try.f9, h := h9, c := cd Go.Proofs.Try.f9, s := sgOf sigs 9, F := F_args_Dead, S := S_args_Dead, T := T_args_Dead }
theorem k_args_Dead : KM d_args_Dead := fun x => by kernel_rfl
theorem k_args_Dead_0 : KL d_args_Dead 0 L_args_Dead_0 := fun p => by kernel_rfl
theorem k_args_Dead_2 : KL d_args_Dead 2 L_args_Dead_2 := fun p => by kernel_rfl
theorem c_args_Dead : Cert E bodies sites args_Dead d_args_Dead := ⟨by kernel_rfl, by kernel_rfl, by kernel_rfl, by kernel_rfl, by kernel_rfl, by kernel_rfl, sites_loops, by kernel_rfl, k_args_Dead, look_cons' k_args_Dead_0 (look_cons' k_args_Dead_2 (look_nil))⟩
def d_args_Unused : FD := { f := Go.Proofs.Try.f11, h := h11, c := cd Go.Proofs.Try.f11, s := sgOf sigs 11, F := F_args_Unused, S := S_args_Unused, T := T_args_Unused }
theorem k_args_Unused : KM d_args_Unused := fun x => by kernel_rfl
theorem k_args_Unused_0 : KL d_args_Unused 0 L_args_Unused_0 := fun p => by kernel_rfl
theorem k_args_Unused_2 : KL d_args_Unused 2 L_args_Unused_2 := fun p => by kernel_rfl
theorem k_args_Unused_4 : KL d_args_Unused 4 L_args_Unused_4 := fun p => by kernel_rfl
theorem k_args_Unused_6 : KL d_args_Unused 6 L_args_Unused_6 := fun p => by kernel_rfl
theorem c_args_Unused : Cert E bodies sites args_Unused d_args_Unused := ⟨by kernel_rfl, by kernel_rfl, by kernel_rfl, by kernel_rfl, by kernel_rfl, by kernel_rfl, sites_loops, by kernel_rfl, k_args_Unused, look_cons' k_args_Unused_0 (look_cons' k_args_Unused_2 (look_cons' k_args_Unused_4 (look_cons' k_args_Unused_6 (look_nil))))⟩
def d_ir_Neat : FD := { f := Go.Proofs.Try.f15, h := h15, c := cd Go.Proofs.Try.f15, s := sgOf sigs 15, F := F_ir_Neat, S := S_ir_Neat, T := T_ir_Neat }
theorem k_ir_Neat : KM d_ir_Neat := fun x => by kernel_rfl
theorem k_ir_Neat_0 : KL d_ir_Neat 0 L_ir_Neat_0 := fun p => by kernel_rfl
theorem k_ir_Neat_2 : KL d_ir_Neat 2 L_ir_Neat_2 := fun p => by kernel_rfl
theorem k_ir_Neat_4 : KL d_ir_Neat 4 L_ir_Neat_4 := fun p => by kernel_rfl
theorem k_ir_Neat_6 : KL d_ir_Neat 6 L_ir_Neat_6 := fun p => by kernel_rfl
theorem k_ir_Neat_8 : KL d_ir_Neat 8 L_ir_Neat_8 := fun p => by kernel_rfl
theorem c_ir_Neat : Cert E bodies sites ir_Neat d_ir_Neat := ⟨by kernel_rfl, by kernel_rfl, by kernel_rfl, by kernel_rfl, by kernel_rfl, by kernel_rfl, sites_loops, by kernel_rfl, k_ir_Neat, look_cons' k_ir_Neat_0 (look_cons' k_ir_Neat_2 (look_cons' k_ir_Neat_4 (look_cons' k_ir_Neat_6 (look_cons' k_ir_Neat_8 (look_nil)))))⟩
def d_args_free : FD := { f := Go.Proofs.Try.f17, h := h17, c := cd Go.Proofs.Try.f17, s := sgOf sigs 17, F := F_args_free, S := S_args_free, T := T_args_free }
theorem k_args_free : KM d_args_free := fun x => by kernel_rfl
theorem k_args_free_0 : KL d_args_free 0 L_args_free_0 := fun p => by kernel_rfl
theorem c_args_free : Cert E bodies sites args_free d_args_free := ⟨by kernel_rfl, by kernel_rfl, by kernel_rfl, by kernel_rfl, by kernel_rfl, by kernel_rfl, sites_loops, by kernel_rfl, k_args_free, look_cons' k_args_free_0 (look_nil)⟩
def d_wf_flows : FD := { f := Go.Proofs.Try.f23, h := h23, c := cd Go.Proofs.Try.f23, s := sgOf sigs 23, F := F_wf_flows, S := S_wf_flows, T := T_wf_flows }
theorem k_wf_flows : KM d_wf_flows := fun x => by kernel_rfl
theorem k_wf_flows_0 : KL d_wf_flows 0 L_wf_flows_0 := fun p => by kernel_rfl
theorem k_wf_flows_2 : KL d_wf_flows 2 L_wf_flows_2 := fun p => by kernel_rfl
theorem k_wf_flows_4 : KL d_wf_flows 4 L_wf_flows_4 := fun p => by kernel_rfl
theorem k_wf_flows_6 : KL d_wf_flows 6 L_wf_flows_6 := fun p => by kernel_rfl
theorem k_wf_flows_8 : KL d_wf_flows 8 L_wf_flows_8 := fun p => by kernel_rfl
theorem c_wf_flows : Cert E bodies sites wf_flows d_wf_flows := ⟨by kernel_rfl, by kernel_rfl, by kernel_rfl, by kernel_rfl, by kernel_rfl, by kernel_rfl, sites_loops, by kernel_rfl, k_wf_flows, look_cons' k_wf_flows_0 (look_cons' k_wf_flows_2 (look_cons' k_wf_flows_4 (look_cons' k_wf_flows_6 (look_cons' k_wf_flows_8 (look_nil)))))⟩
def d_slices_Clone_Sint64_int64 : FD := { f := Go.Proofs.Try.f27, h := h27, c := cd Go.Proofs.Try.f27, s := sgOf sigs 27, F := F_slices_Clone_Sint64_int64, S := S_slices_Clone_Sint64_int64, T := T_slices_Clone_Sint64_int64 }
theorem k_slices_Clone_Sint64_int64 : KM d_slices_Clone_Sint64_int64 := fun x => by kernel_rfl
theorem c_slices_Clone_Sint64_int64 : Cert E bodies sites slices_Clone_Sint64_int64 d_slices_Clone_Sint64_int64 := ⟨by kernel_rfl, by kernel_rfl, by kernel_rfl, by kernel_rfl, by kernel_rfl, by kernel_rfl, sites_loops, by kernel_rfl, k_slices_Clone_Sint64_int64, look_nil⟩
def d_ir_rise : FD := { f := Go.Proofs.Try.f29, h := h29, c := cd Go.Proofs.Try.f29, s := sgOf sigs 29, F := F_ir_rise, S := S_ir_rise, T := T_ir_rise }
theorem k_ir_rise : KM d_ir_rise := fun x => by kernel_rfl
theorem k_ir_rise_0 : KL d_ir_rise 0 L_ir_rise_0 := fun p => by kernel_rfl
theorem k_ir_rise_2 : KL d_ir_rise 2 L_ir_rise_2 := fun p => by kernel_rfl
theorem c_ir_rise : Cert E bodies sites ir_rise d_ir_rise := ⟨by kernel_rfl, by kernel_rfl, by kernel_rfl, by kernel_rfl, by kernel_rfl, by kernel_rfl, sites_loops, by kernel_rfl, k_ir_rise, look_cons' k_ir_rise_0 (look_cons' k_ir_rise_2 (look_nil))⟩
def d_wf_Ends : FD := { f := Go.Proofs.Try.f36, h := h36, c := cd Go.Proofs.Try.f36, s := sgOf sigs 36, F := F_wf_Ends, S := S_wf_Ends, T := T_wf_Ends }
theorem k_wf_Ends : KM d_wf_Ends := fun x => by kernel_rfl
theorem c_wf_Ends : Cert E bodies sites wf_Ends d_wf_Ends := ⟨by kernel_rfl, by kernel_rfl, by kernel_rfl, by kernel_rfl, by kernel_rfl, by kernel_rfl, sites_loops, by kernel_rfl, k_wf_Ends, look_nil⟩
def d_facts_Func_offs : FD := { f := Go.Proofs.Try.f47, h := h47, c := cd Go.Proofs.Try.f47, s := sgOf sigs 47, F := F_facts_Func_offs, S := S_facts_Func_offs, T := T_facts_Func_offs }
theorem k_facts_Func_offs : KM d_facts_Func_offs := fun x => by kernel_rfl
theorem k_facts_Func_offs_0 : KL d_facts_Func_offs 0 L_facts_Func_offs_0 := fun p => by kernel_rfl
theorem c_facts_Func_offs : Cert E bodies sites facts_Func_offs d_facts_Func_offs := ⟨by kernel_rfl, by kernel_rfl, by kernel_rfl, by kernel_rfl, by kernel_rfl, by kernel_rfl, sites_loops, by kernel_rfl, k_facts_Func_offs, look_cons' k_facts_Func_offs_0 (look_nil)⟩
def d_flow_walked : FD := { f := Go.Proofs.Try.f50, h := h50, c := cd Go.Proofs.Try.f50, s := sgOf sigs 50, F := F_flow_walked, S := S_flow_walked, T := T_flow_walked }
theorem k_flow_walked : KM d_flow_walked := fun x => by kernel_rfl
theorem c_flow_walked : Cert E bodies sites flow_walked d_flow_walked := ⟨by kernel_rfl, by kernel_rfl, by kernel_rfl, by kernel_rfl, by kernel_rfl, by kernel_rfl, sites_loops, by kernel_rfl, k_flow_walked, look_nil⟩
def d_wf_all : FD := { f := Go.Proofs.Try.f54, h := h54, c := cd Go.Proofs.Try.f54, s := sgOf sigs 54, F := F_wf_all, S := S_wf_all, T := T_wf_all }
theorem k_wf_all : KM d_wf_all := fun x => by kernel_rfl
theorem k_wf_all_0 : KL d_wf_all 0 L_wf_all_0 := fun p => by kernel_rfl
theorem c_wf_all : Cert E bodies sites wf_all d_wf_all := ⟨by kernel_rfl, by kernel_rfl, by kernel_rfl, by kernel_rfl, by kernel_rfl, by kernel_rfl, sites_loops, by kernel_rfl, k_wf_all, look_cons' k_wf_all_0 (look_nil)⟩
def d_slices_Grow_Sapi_Base_api_Base : FD := { f := Go.Proofs.Try.f65, h := h65, c := cd Go.Proofs.Try.f65, s := sgOf sigs 65, F := F_slices_Grow_Sapi_Base_api_Base, S := S_slices_Grow_Sapi_Base_api_Base, T := T_slices_Grow_Sapi_Base_api_Base }
theorem k_slices_Grow_Sapi_Base_api_Base : KM d_slices_Grow_Sapi_Base_api_Base := fun x => by kernel_rfl
theorem c_slices_Grow_Sapi_Base_api_Base : Cert E bodies sites slices_Grow_Sapi_Base_api_Base d_slices_Grow_Sapi_Base_api_Base := ⟨by kernel_rfl, by kernel_rfl, by kernel_rfl, by kernel_rfl, by kernel_rfl, by kernel_rfl, sites_loops, by kernel_rfl, k_slices_Grow_Sapi_Base_api_Base, look_nil⟩
def d_slices_nextPowerOfTwo : FD := { f := Go.Proofs.Try.f81, h := h81, c := cd Go.Proofs.Try.f81, s := sgOf sigs 81, F := F_slices_nextPowerOfTwo, S := S_slices_nextPowerOfTwo, T := T_slices_nextPowerOfTwo }
theorem k_slices_nextPowerOfTwo : KM d_slices_nextPowerOfTwo := fun x => by kernel_rfl
theorem c_slices_nextPowerOfTwo : Cert E bodies sites slices_nextPowerOfTwo d_slices_nextPowerOfTwo := ⟨by kernel_rfl, by kernel_rfl, by kernel_rfl, by kernel_rfl, by kernel_rfl, by kernel_rfl, sites_loops, by kernel_rfl, k_slices_nextPowerOfTwo, look_nil⟩
def progA : BT Fn := (.node 39 F_flow_Prev (.node 21 F_wf_named (.node 12 F_wf_Check (.node 8 F_keep_Rows (.node 6 F_r3_Ints (.node 5 F_args_Run (.node 3 F_law28_ArgsRow .nil .nil) .nil) (.node 7 F_law28_idle .nil .nil)) (.node 10 F_keep_Bools (.node 9 F_args_Dead .nil .nil) (.node 11 F_args_Unused .nil .nil))) (.node 17 F_args_free (.node 14 F_args_without (.node 13 F_ir_Copy .nil .nil) (.node 15 F_ir_Neat .nil .nil)) (.node 19 F_wf_small (.node 18 F_ir_Uses .nil .nil) (.node 20 F_wf_formed .nil .nil)))) (.node 31 F_ir_Values (.node 25 F_wf_typed (.node 23 F_wf_flows (.node 22 F_wf_known .nil .nil) (.node 24 F_wf_used .nil .nil)) (.node 29 F_ir_rise (.node 28 F_ir_copyFunc .nil .nil) (.node 30 F_facts_Of .nil .nil))) (.node 35 F_wf_Name (.node 33 F_wf_scalar (.node 32 F_ir_Size .nil .nil) (.node 34 F_wf_shaped .nil .nil)) (.node 37 F_slices_Contains_Sbool_bool (.node 36 F_wf_Ends .nil .nil) (.node 38 F_flow_Reach .nil .nil))))) (.node 55 F_wf_rows (.node 47 F_facts_Func_offs (.node 43 F_ir_Types (.node 41 F_dom_Over (.node 40 F_slices_Equal_Sint_int .nil .nil) (.node 42 F_wf_ahead .nil .nil)) (.node 45 F_ir_copyIns (.node 44 F_wf_fitting .nil .nil) (.node 46 F_facts_Func_bases .nil .nil))) (.node 51 F_flow_Next (.node 49 F_slices_Index_Sbool_bool (.node 48 F_wf_Mark .nil .nil) (.node 50 F_flow_walked .nil .nil)) (.node 53 F_dom_over (.node 52 F_dom_nearest .nil .nil) (.node 54 F_wf_all .nil .nil)))) (.node 65 F_slices_Grow_Sapi_Base_api_Base (.node 61 F_facts_Func_off (.node 59 F_facts_lesser (.node 58 F_slices_SortFunc_Sapi_Base_api_Base .nil .nil) (.node 60 F_slices_Compact_Sapi_Base_api_Base .nil .nil)) (.node 63 F_slices_Contains_Sint_int (.node 62 F_flow_walker_visit .nil .nil) (.node 64 F_dom_without .nil .nil))) (.node 78 F_math_bits_Len32 (.node 68 F_facts_Func_Num (.node 67 F_math_bits_Len .nil .nil) (.node 69 F_slices_Index_Sint_int .nil .nil)) (.node 81 F_slices_nextPowerOfTwo (.node 79 F_math_bits_Len64 .nil .nil) (.node 82 F_slices_xorshift_Next .nil .nil))))))
theorem progA_all : AllC E bodies sites progA := ⟨⟨d_flow_Prev, by kernel_rfl, c_flow_Prev, by kernel_rfl⟩, ⟨⟨d_wf_named, by kernel_rfl, c_wf_named, by kernel_rfl⟩, ⟨⟨d_wf_Check, by kernel_rfl, c_wf_Check, by kernel_rfl⟩, ⟨⟨d_keep_Rows, by kernel_rfl, c_keep_Rows, by kernel_rfl⟩, ⟨⟨d_r3_Ints, by kernel_rfl, c_r3_Ints, by kernel_rfl⟩, ⟨⟨d_args_Run, by kernel_rfl, c_args_Run, by kernel_rfl⟩, ⟨⟨d_law28_ArgsRow, by kernel_rfl, c_law28_ArgsRow, by kernel_rfl⟩, trivial, trivial⟩, trivial⟩, ⟨⟨d_law28_idle, by kernel_rfl, c_law28_idle, by kernel_rfl⟩, trivial, trivial⟩⟩, ⟨⟨d_keep_Bools, by kernel_rfl, c_keep_Bools, by kernel_rfl⟩, ⟨⟨d_args_Dead, by kernel_rfl, c_args_Dead, by kernel_rfl⟩, trivial, trivial⟩, ⟨⟨d_args_Unused, by kernel_rfl, c_args_Unused, by kernel_rfl⟩, trivial, trivial⟩⟩⟩, ⟨⟨d_args_free, by kernel_rfl, c_args_free, by kernel_rfl⟩, ⟨⟨d_args_without, by kernel_rfl, c_args_without, by kernel_rfl⟩, ⟨⟨d_ir_Copy, by kernel_rfl, c_ir_Copy, by kernel_rfl⟩, trivial, trivial⟩, ⟨⟨d_ir_Neat, by kernel_rfl, c_ir_Neat, by kernel_rfl⟩, trivial, trivial⟩⟩, ⟨⟨d_wf_small, by kernel_rfl, c_wf_small, by kernel_rfl⟩, ⟨⟨d_ir_Uses, by kernel_rfl, c_ir_Uses, by kernel_rfl⟩, trivial, trivial⟩, ⟨⟨d_wf_formed, by kernel_rfl, c_wf_formed, by kernel_rfl⟩, trivial, trivial⟩⟩⟩⟩, ⟨⟨d_ir_Values, by kernel_rfl, c_ir_Values, by kernel_rfl⟩, ⟨⟨d_wf_typed, by kernel_rfl, c_wf_typed, by kernel_rfl⟩, ⟨⟨d_wf_flows, by kernel_rfl, c_wf_flows, by kernel_rfl⟩, ⟨⟨d_wf_known, by kernel_rfl, c_wf_known, by kernel_rfl⟩, trivial, trivial⟩, ⟨⟨d_wf_used, by kernel_rfl, c_wf_used, by kernel_rfl⟩, trivial, trivial⟩⟩, ⟨⟨d_ir_rise, by kernel_rfl, c_ir_rise, by kernel_rfl⟩, ⟨⟨d_ir_copyFunc, by kernel_rfl, c_ir_copyFunc, by kernel_rfl⟩, trivial, trivial⟩, ⟨⟨d_facts_Of, by kernel_rfl, c_facts_Of, by kernel_rfl⟩, trivial, trivial⟩⟩⟩, ⟨⟨d_wf_Name, by kernel_rfl, c_wf_Name, by kernel_rfl⟩, ⟨⟨d_wf_scalar, by kernel_rfl, c_wf_scalar, by kernel_rfl⟩, ⟨⟨d_ir_Size, by kernel_rfl, c_ir_Size, by kernel_rfl⟩, trivial, trivial⟩, ⟨⟨d_wf_shaped, by kernel_rfl, c_wf_shaped, by kernel_rfl⟩, trivial, trivial⟩⟩, ⟨⟨d_slices_Contains_Sbool_bool, by kernel_rfl, c_slices_Contains_Sbool_bool, by kernel_rfl⟩, ⟨⟨d_wf_Ends, by kernel_rfl, c_wf_Ends, by kernel_rfl⟩, trivial, trivial⟩, ⟨⟨d_flow_Reach, by kernel_rfl, c_flow_Reach, by kernel_rfl⟩, trivial, trivial⟩⟩⟩⟩⟩, ⟨⟨d_wf_rows, by kernel_rfl, c_wf_rows, by kernel_rfl⟩, ⟨⟨d_facts_Func_offs, by kernel_rfl, c_facts_Func_offs, by kernel_rfl⟩, ⟨⟨d_ir_Types, by kernel_rfl, c_ir_Types, by kernel_rfl⟩, ⟨⟨d_dom_Over, by kernel_rfl, c_dom_Over, by kernel_rfl⟩, ⟨⟨d_slices_Equal_Sint_int, by kernel_rfl, c_slices_Equal_Sint_int, by kernel_rfl⟩, trivial, trivial⟩, ⟨⟨d_wf_ahead, by kernel_rfl, c_wf_ahead, by kernel_rfl⟩, trivial, trivial⟩⟩, ⟨⟨d_ir_copyIns, by kernel_rfl, c_ir_copyIns, by kernel_rfl⟩, ⟨⟨d_wf_fitting, by kernel_rfl, c_wf_fitting, by kernel_rfl⟩, trivial, trivial⟩, ⟨⟨d_facts_Func_bases, by kernel_rfl, c_facts_Func_bases, by kernel_rfl⟩, trivial, trivial⟩⟩⟩, ⟨⟨d_flow_Next, by kernel_rfl, c_flow_Next, by kernel_rfl⟩, ⟨⟨d_slices_Index_Sbool_bool, by kernel_rfl, c_slices_Index_Sbool_bool, by kernel_rfl⟩, ⟨⟨d_wf_Mark, by kernel_rfl, c_wf_Mark, by kernel_rfl⟩, trivial, trivial⟩, ⟨⟨d_flow_walked, by kernel_rfl, c_flow_walked, by kernel_rfl⟩, trivial, trivial⟩⟩, ⟨⟨d_dom_over, by kernel_rfl, c_dom_over, by kernel_rfl⟩, ⟨⟨d_dom_nearest, by kernel_rfl, c_dom_nearest, by kernel_rfl⟩, trivial, trivial⟩, ⟨⟨d_wf_all, by kernel_rfl, c_wf_all, by kernel_rfl⟩, trivial, trivial⟩⟩⟩⟩, ⟨⟨d_slices_Grow_Sapi_Base_api_Base, by kernel_rfl, c_slices_Grow_Sapi_Base_api_Base, by kernel_rfl⟩, ⟨⟨d_facts_Func_off, by kernel_rfl, c_facts_Func_off, by kernel_rfl⟩, ⟨⟨d_facts_lesser, by kernel_rfl, c_facts_lesser, by kernel_rfl⟩, ⟨⟨d_slices_SortFunc_Sapi_Base_api_Base, by kernel_rfl, c_slices_SortFunc_Sapi_Base_api_Base, by kernel_rfl⟩, trivial, trivial⟩, ⟨⟨d_slices_Compact_Sapi_Base_api_Base, by kernel_rfl, c_slices_Compact_Sapi_Base_api_Base, by kernel_rfl⟩, trivial, trivial⟩⟩, ⟨⟨d_slices_Contains_Sint_int, by kernel_rfl, c_slices_Contains_Sint_int, by kernel_rfl⟩, ⟨⟨d_flow_walker_visit, by kernel_rfl, c_flow_walker_visit, by kernel_rfl⟩, trivial, trivial⟩, ⟨⟨d_dom_without, by kernel_rfl, c_dom_without, by kernel_rfl⟩, trivial, trivial⟩⟩⟩, ⟨⟨d_math_bits_Len32, by kernel_rfl, c_math_bits_Len32, by kernel_rfl⟩, ⟨⟨d_facts_Func_Num, by kernel_rfl, c_facts_Func_Num, by kernel_rfl⟩, ⟨⟨d_math_bits_Len, by kernel_rfl, c_math_bits_Len, by kernel_rfl⟩, trivial, trivial⟩, ⟨⟨d_slices_Index_Sint_int, by kernel_rfl, c_slices_Index_Sint_int, by kernel_rfl⟩, trivial, trivial⟩⟩, ⟨⟨d_slices_nextPowerOfTwo, by kernel_rfl, c_slices_nextPowerOfTwo, by kernel_rfl⟩, ⟨⟨d_math_bits_Len64, by kernel_rfl, c_math_bits_Len64, by kernel_rfl⟩, trivial, trivial⟩, ⟨⟨d_slices_xorshift_Next, by kernel_rfl, c_slices_xorshift_Next, by kernel_rfl⟩, trivial, trivial⟩⟩⟩⟩⟩⟩
end
end Go.Eng.A
