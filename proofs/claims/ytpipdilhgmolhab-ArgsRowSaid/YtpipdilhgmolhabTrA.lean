/- Part of the proof. -/
import Derived.Test.YtpipdilhgmolhabEnv
set_option linter.unusedVariables false
namespace Go.Eng.A
open Go.Eng
noncomputable section
abbrev main_main : Nat := 0
abbrev gosem_cut : Nat := 1
abbrev gosem_cut_init : Nat := 2
abbrev law28_ArgsRow : Nat := 3
abbrev law28_first : Nat := 4
abbrev args_Run : Nat := 5
abbrev r3_Ints : Nat := 6
abbrev law28_idle : Nat := 7
abbrev keep_Rows : Nat := 8
abbrev args_Dead : Nat := 9
abbrev keep_Bools : Nat := 10
abbrev args_Unused : Nat := 11
abbrev wf_Check : Nat := 12
abbrev ir_Copy : Nat := 13
abbrev args_without : Nat := 14
abbrev ir_Neat : Nat := 15
abbrev args_fewer : Nat := 16
abbrev args_free : Nat := 17
abbrev ir_Uses : Nat := 18
abbrev wf_small : Nat := 19
abbrev wf_formed : Nat := 20
abbrev wf_named : Nat := 21
abbrev wf_known : Nat := 22
abbrev wf_flows : Nat := 23
abbrev wf_used : Nat := 24
abbrev wf_typed : Nat := 25
abbrev slices_Clone_Sint_int : Nat := 26
abbrev slices_Clone_Sint64_int64 : Nat := 27
abbrev ir_copyFunc : Nat := 28
abbrev ir_rise : Nat := 29
abbrev facts_Of : Nat := 30
abbrev ir_Values : Nat := 31
abbrev ir_Size : Nat := 32
abbrev wf_scalar : Nat := 33
abbrev wf_shaped : Nat := 34
abbrev wf_Name : Nat := 35
abbrev wf_Ends : Nat := 36
abbrev slices_Contains_Sbool_bool : Nat := 37
abbrev flow_Reach : Nat := 38
abbrev flow_Prev : Nat := 39
abbrev slices_Equal_Sint_int : Nat := 40
abbrev dom_Over : Nat := 41
abbrev wf_ahead : Nat := 42
abbrev ir_Types : Nat := 43
abbrev wf_fitting : Nat := 44
abbrev ir_copyIns : Nat := 45
abbrev facts_Func_bases : Nat := 46
abbrev facts_Func_offs : Nat := 47
abbrev wf_Mark : Nat := 48
abbrev slices_Index_Sbool_bool : Nat := 49
abbrev flow_walked : Nat := 50
abbrev flow_Next : Nat := 51
abbrev dom_nearest : Nat := 52
abbrev dom_over : Nat := 53
abbrev wf_all : Nat := 54
abbrev wf_rows : Nat := 55
abbrev slices_Concat_Sapi_Base_api_Base : Nat := 56
abbrev slices_Clone_Sapi_Base_api_Base : Nat := 57
abbrev slices_SortFunc_Sapi_Base_api_Base : Nat := 58
abbrev facts_lesser : Nat := 59
abbrev slices_Compact_Sapi_Base_api_Base : Nat := 60
abbrev facts_Func_off : Nat := 61
abbrev flow_walker_visit : Nat := 62
abbrev slices_Contains_Sint_int : Nat := 63
abbrev dom_without : Nat := 64
abbrev slices_Grow_Sapi_Base_api_Base : Nat := 65
abbrev slices_pdqsortCmpFunc_api_Base : Nat := 66
abbrev math_bits_Len : Nat := 67
abbrev facts_Func_Num : Nat := 68
abbrev slices_Index_Sint_int : Nat := 69
abbrev slices_insertionSortCmpFunc_api_Base : Nat := 70
abbrev slices_heapSortCmpFunc_api_Base : Nat := 71
abbrev slices_breakPatternsCmpFunc_api_Base : Nat := 72
abbrev slices_choosePivotCmpFunc_api_Base : Nat := 73
abbrev slices_reverseRangeCmpFunc_api_Base : Nat := 74
abbrev slices_partialInsertionSortCmpFunc_api_Base : Nat := 75
abbrev slices_partitionEqualCmpFunc_api_Base : Nat := 76
abbrev slices_partitionCmpFunc_api_Base : Nat := 77
abbrev math_bits_Len32 : Nat := 78
abbrev math_bits_Len64 : Nat := 79
abbrev slices_siftDownCmpFunc_api_Base : Nat := 80
abbrev slices_nextPowerOfTwo : Nat := 81
abbrev slices_xorshift_Next : Nat := 82
abbrev slices_medianAdjacentCmpFunc_api_Base : Nat := 83
abbrev slices_medianCmpFunc_api_Base : Nat := 84
abbrev slices_order2CmpFunc_api_Base : Nat := 85
abbrev runtime_boundsError_Error : Nat := 86
abbrev runtime_boundsError_RuntimeError : Nat := 87
abbrev runtime_errorString_Error : Nat := 88
abbrev runtime_errorString_RuntimeError : Nat := 89
abbrev runtime_plainError_Error : Nat := 90
abbrev runtime_plainError_RuntimeError : Nat := 91
abbrev runtime_errorAddressString_Error : Nat := 92
abbrev runtime_errorAddressString_RuntimeError : Nat := 93
abbrev runtime_TypeAssertionError_Error : Nat := 94
abbrev runtime_TypeAssertionError_RuntimeError : Nat := 95
abbrev runtime_PanicNilError_Error : Nat := 96
abbrev runtime_PanicNilError_RuntimeError : Nat := 97
abbrev internal_abi_Type_Align : Nat := 98
abbrev internal_runtime_maps_unhashableTypeError_Error : Nat := 99
abbrev internal_runtime_maps_unhashableTypeError_RuntimeError : Nat := 100
abbrev api_Errno_Error : Nat := 101
abbrev facts_Facts_Entry : Nat := 102
abbrev internal_abi_Kind_String : Nat := 103
def lt0 : List LT := [.int .i64, .int .i64, .int .i64, .int .i64, .int .i64, .sl true 3 [.int .i64], .sl true 3 [.int .i64]]
def lt1 : List LT := [.str, .sl false 3 [.int .i64], .int .i64]
def lt2 : List LT := [.str, .bool, .sl false 3 [.int .i64], .int .i64, .sl false 40 [.sl false 27 [.int .i64, .int .i64, .int .i64, .int .i64, .int .i64, .sl false 3 [.int .i64], .sl false 3 [.int .i64]]]]
def lt3 : List LT := [.sl true 3 [.int .i64], .sl true 111 [.sl true 110 [.int .i64, .int .i64]], .sl true 117 [.int .i64, .int .i64], .sl true 27 [.int .i64, .int .i64, .int .i64, .int .i64, .int .i64, .sl false 3 [.int .i64], .sl false 3 [.int .i64]]]
def lt4 : List LT := [.sl false 27 [.int .i64, .int .i64, .int .i64, .int .i64, .int .i64, .sl false 3 [.int .i64], .sl false 3 [.int .i64]]]
def lt5 : List LT := [.int .i64, .int .i64, .int .i64, .int .i64, .int .i64, .sl false 3 [.int .i64], .sl false 3 [.int .i64]]
def lt6 : List LT := [.str, .sl true 3 [.int .i64], .int .i64]
def lt7 : List LT := [.str, .bool, .sl true 3 [.int .i64], .int .i64, .sl true 40 [.sl true 27 [.int .i64, .int .i64, .int .i64, .int .i64, .int .i64, .sl true 3 [.int .i64], .sl true 3 [.int .i64]]]]
def lt8 : List LT := [.sl true 27 [.int .i64, .int .i64, .int .i64, .int .i64, .int .i64, .sl true 3 [.int .i64], .sl true 3 [.int .i64]]]
abbrev KM (d : FD) : Prop := ∀ x : List D, mainX E d.h sites (itN E sites (tOf d.T) deep) (tOf d.T) d.f d.c d.s (expl x 0 d.F.np) = (d.F.main x).up d.S d.T 0
abbrev KL (d : FD) (b : Nat) (g : List D → Sh) : Prop := ∀ p : List D, roundX E (laOf d sites b).h sites (itN E sites (tOf d.T) deep) (laOf d sites b).lb (tOf d.T) (laOf d sites b).b (loopAt (laOf d sites b).b (laOf d sites b).c) (stOf d.S b p) = (g p).up d.S d.T b
def M_law28_ArgsRow (x : List D) : Sh :=
 .call law28_first [] 0 fun r0 _ =>
 .ask (!(D.toB r0))
 (.ret (.b false) [])
 (.loop 0 [.i (bitsA .and .i64 (D.toI (gD x 0)) 31), .i 6, .i 1, .l [], .l []] (.cons (fun p1 =>
 .ask (lim ((List.length (gL p1 1)) + 1) 88)
 (.loop 2 [.i (gI p1 0), .i 1, .l ((gL p1 1) ++ [.l [.i 29, .i 0, .i 0, .i 0, .i 0, .l [], .l []]]), .l (gL p1 2), .l []] (.cons (fun p2 =>
 .ask (lim ((List.length (gL p2 3)) + 2) 88)
 (.call args_Run [.l [.l [.l [.s [101], .l [.i 1], .i 0]], .l [], .l [], .l [.l [.s [102], .b true, .l [], .i 0, .l [.l ((gL p2 3) ++ [.l [.i 22, .i 0, .i 0, .i 1, .i 0, .l [.i 1, .i 2, .i 3, .i 4, .i 5], .l []], .l [.i 29, .i 0, .i 0, .i 0, .i 0, .l [], .l []]])]], .l [.s [103], .b false, .l [.i 1, .i 1, .i 1, .i 1, .i 1], .i 0, .l [.l (gL p2 1)]]]]] 0 fun r3 _ =>
 .ask ((!(!((!(eqI (D.toI (D.fld r3 1)) 0)) || (!(eqI (Int.ofNat (List.length (D.els (D.fld (D.fld r3 0) 3)))) 2))))) || (within 0 (List.length (D.els (D.fld (D.fld r3 0) 3)))))
 (.ask ((!(!(((!(eqI (D.toI (D.fld r3 1)) 0)) || (!(eqI (Int.ofNat (List.length (D.els (D.fld (D.fld r3 0) 3)))) 2))) || (!(eqI (Int.ofNat (List.length (D.els (D.fld (gD (D.els (D.fld (D.fld r3 0) 3)) 0) 4)))) 1))))) || (within 0 (List.length (D.els (D.fld (D.fld r3 0) 3)))))
 (.ask ((!(!(((!(eqI (D.toI (D.fld r3 1)) 0)) || (!(eqI (Int.ofNat (List.length (D.els (D.fld (D.fld r3 0) 3)))) 2))) || (!(eqI (Int.ofNat (List.length (D.els (D.fld (gD (D.els (D.fld (D.fld r3 0) 3)) 0) 4)))) 1))))) || (within 0 (List.length (D.els (D.fld (gD (D.els (D.fld (D.fld r3 0) 3)) 0) 4)))))
 (.ask ((((!(eqI (D.toI (D.fld r3 1)) 0)) || (!(eqI (Int.ofNat (List.length (D.els (D.fld (D.fld r3 0) 3)))) 2))) || (!(eqI (Int.ofNat (List.length (D.els (D.fld (gD (D.els (D.fld (D.fld r3 0) 3)) 0) 4)))) 1))) || (!(eqI (Int.ofNat (List.length (D.els (gD (D.els (D.fld (gD (D.els (D.fld (D.fld r3 0) 3)) 0) 4)) 0)))) (wrapA .i64 ((gI p2 0) + 1)))))
 (.ret (.b false) [])
 (.ask (within 0 (List.length (D.els (D.fld (D.fld r3 0) 3))))
 (.ask (within 0 (List.length (D.els (D.fld (gD (D.els (D.fld (D.fld r3 0) 3)) 0) 4))))
 (.ask (within 5 (List.length (D.els (gD (D.els (D.fld (gD (D.els (D.fld (D.fld r3 0) 3)) 0) 4)) 0))))
 (.call r3_Ints [.l (D.els (D.fld (gD (D.els (gD (D.els (D.fld (gD (D.els (D.fld (D.fld r3 0) 3)) 0) 4)) 0)) 5) 5)), .l (gL p2 2)] 0 fun r4 _ =>
 .ask ((!((D.toB r4) && true)) || (within 1 (List.length (D.els (D.fld (D.fld r3 0) 3)))))
 (.ret (.b ((D.toB r4) && (eqI (Int.ofNat (List.length (D.els (D.fld (gD (D.els (D.fld (D.fld r3 0) 3)) 1) 2)))) (Int.ofNat (List.length (gL p2 2)))))) [])
 (.bad))
 (.bad))
 (.bad))
 (.bad)))
 (.bad))
 (.bad))
 (.bad))
 (.bad))
 .nil))
 (.bad))
 .nil))
def L_law28_ArgsRow_0 (p : List D) : Sh :=
 .ask (leI (gI p 2) 5)
 (.ask (leI 0 (wrapA .u64 (wrapA .i64 ((gI p 2) - 1))))
 (.ask (eqI (bitsA .and .i64 (shrV .i64 (gI p 0) (wrapA .u64 (wrapA .i64 ((gI p 2) - 1)))) 1) 1)
 (.ask (lim ((List.length (gL p 3)) + 1) 88)
 (.ask (lim ((List.length (gL p 4)) + 1) 8)
 (.again [.i (gI p 0), .i (gI p 1), .i (wrapA .i64 ((gI p 2) + 1)), .l ((gL p 3) ++ [.l [.i 23, .i 0, .i 0, .i 0, .i 0, .l [.i (gI p 2)], .l []]]), .l ((gL p 4) ++ [.i (gI p 2)])])
 (.bad))
 (.bad))
 (.again [.i (gI p 0), .i (gI p 1), .i (wrapA .i64 ((gI p 2) + 1)), .l (gL p 3), .l (gL p 4)]))
 (.bad))
 (.out (0, [.i (gI p 1), .l (gL p 3), .l (gL p 4)]))
def L_law28_ArgsRow_2 (p : List D) : Sh :=
 .ask (leI (gI p 1) 5)
 (.ask (lim ((List.length (gL p 4)) + 1) 88)
 (.again [.i (gI p 0), .i (wrapA .i64 ((gI p 1) + 1)), .l (gL p 2), .l (gL p 3), .l ((gL p 4) ++ [.l [.i 1, .i 1, .i (gI p 1), .i 0, .i (gI p 1), .l [], .l []]])])
 (.bad))
 (.out (0, [.i (gI p 0), .l (gL p 2), .l (gL p 3), .l (gL p 4)]))
def S_law28_ArgsRow : STab := [(0, fun p => ⟨(t2 (.int .i64 (gI p 0)) (t0 (t1 (.vw 200003 0 [])) (t1 (.int .i64 (gI p 1)))) (t0 (t1 (.vw 200004 0 [])) (t1 (.int .i64 (gI p 2))))), [], [(200003, ⟨27, lt0, (gL p 3), [], 0, [0, 0, 0, 0], 0⟩), (200004, ⟨3, [.int .i64], (gL p 4), [], 0, [0, 0, 0, 0], 0⟩)], 1⟩),
 (2, fun p => ⟨(t0 (t0 (t2 (.vw 39 0 []) (t1 (.vw 200007 0 [])) .nil) (t1 (.int .i64 (gI p 0)))) (t0 (t2 (.vw 200004 0 []) (t1 (.int .i64 (gI p 1))) .nil) .nil)), [], [(39, ⟨27, lt0, (gL p 2), [], 0, [0, 0, 0, 0], 0⟩), (200004, ⟨3, [.int .i64], (gL p 3), [], 0, [0, 0, 0, 0], 0⟩), (200007, ⟨27, lt0, (gL p 4), [], 0, [0, 0, 0, 0], 0⟩)], 1⟩)]
def T_law28_ArgsRow : TTab := [(0, [fun p => (.exit 0, ⟨(t0 (t0 (t1 (.vw 200003 0 [])) (t1 (.int .i64 (gI p 0)))) (t0 (t1 (.vw 200004 0 [])) .nil)), [], [(200003, ⟨27, lt0, (gL p 1), [], 0, [0, 0, 0, 0], 0⟩), (200004, ⟨3, [.int .i64], (gL p 2), [], 0, [0, 0, 0, 0], 0⟩)], 1⟩)]),
 (2, [fun p => (.exit 2, ⟨(t0 (t0 (t2 (.vw 39 0 []) (t1 (.vw 200007 0 [])) .nil) (t1 (.int .i64 (gI p 0)))) (t0 (t1 (.vw 200004 0 [])) .nil)), [], [(39, ⟨27, lt0, (gL p 1), [], 0, [0, 0, 0, 0], 0⟩), (200004, ⟨3, [.int .i64], (gL p 2), [], 0, [0, 0, 0, 0], 0⟩), (200007, ⟨27, lt0, (gL p 3), [], 0, [0, 0, 0, 0], 0⟩)], 1⟩)])]
def F_law28_ArgsRow : Fn := { np := 1, bs := [0, 2], main := M_law28_ArgsRow, lps := [(0, L_law28_ArgsRow_0), (2, L_law28_ArgsRow_2)] }
def M_keep_Bools (x : List D) : Sh :=
 .ask (!(eqI (Int.ofNat (List.length (D.els (gD x 0)))) (Int.ofNat (List.length (D.els (gD x 1))))))
 (.ret (.b false) [])
 (.loop 0 [.l (D.els (gD x 0)), .l (D.els (gD x 1)), .i 0] (.cons (fun p0 =>
 .ret (.b (gB p0 0)) [])
 (.cons (fun p0 =>
 .ret (.b true) [])
 .nil)))
def L_keep_Bools_0 (p : List D) : Sh :=
 .ask (ltI (gI p 2) (Int.ofNat (List.length (gL p 0))))
 (.ask (within (gI p 2) (List.length (gL p 0)))
 (.ask (within (gI p 2) (List.length (gL p 1)))
 (.ask (!(bif D.toB (gD (gL p 0) (Int.toNat (gI p 2))) then D.toB (gD (gL p 1) (Int.toNat (gI p 2))) else !(D.toB (gD (gL p 1) (Int.toNat (gI p 2))))))
 (.out (0, [.b false]))
 (.again [.l (gL p 0), .l (gL p 1), .i (wrapA .i64 ((gI p 2) + 1))]))
 (.bad))
 (.bad))
 (.out (1, []))
def S_keep_Bools : STab := [(0, fun p => ⟨(t2 (.fz [] 4 [.bool] (gL p 0)) (t2 (.fz [] 4 [.bool] (gL p 1)) .nil (t1 (.int .i64 (gI p 2)))) .nil), [], [], 1⟩)]
def T_keep_Bools : TTab := [(0, [fun p => (.ret, ⟨(t0 .nil (t0 (t1 (.bool (gB p 0))) .nil)), [], [], 1⟩),
  fun p => (.exit 0, ⟨(t0 .nil (t0 (t0 .nil .nil) .nil)), [], [], 1⟩)])]
def F_keep_Bools : Fn := { np := 2, bs := [0], main := M_keep_Bools, lps := [(0, L_keep_Bools_0)] }
def M_wf_small (x : List D) : Sh :=
 .ask ((((ltI 24 (Int.ofNat (List.length (D.els (D.fld (gD x 0) 3))))) || (ltI 12 (Int.ofNat (List.length (D.els (D.fld (gD x 0) 0)))))) || (ltI 12 (Int.ofNat (List.length (D.els (D.fld (gD x 0) 1)))))) || (ltI 6 (Int.ofNat (List.length (D.els (D.fld (gD x 0) 2))))))
 (.ret (.b false) [])
 (.loop 0 [.i (Int.ofNat (List.length (D.els (D.fld (gD x 0) 0)))), .i 0, .l (D.els (D.fld (gD x 0) 0)), .l (D.els (D.fld (gD x 0) 0)), .l (D.els (D.fld (gD x 0) 1)), .l (D.els (D.fld (gD x 0) 2)), .l (D.els (D.fld (gD x 0) 3))] (.cons (fun p0 =>
 .ret (.b (gB p0 0)) [])
 (.cons (fun p0 =>
 .loop 2 [.i (Int.ofNat (List.length (gL p0 1))), .i 0, .l (gL p0 1), .l (gL p0 0), .l (gL p0 1), .l (gL p0 2), .l (gL p0 3)] (.cons (fun p1 =>
 .ret (.b (gB p1 0)) [])
 (.cons (fun p1 =>
 .loop 4 [.i (Int.ofNat (List.length (gL p1 2))), .l (gL p1 2), .i 0, .l (gL p1 0), .l (gL p1 1), .l (gL p1 2), .l (gL p1 3)] (.cons (fun p2 =>
 .ret (.b (gB p2 0)) [])
 (.cons (fun p2 =>
 .loop 6 [.i (Int.ofNat (List.length (gL p2 3))), .i 0, .l (gL p2 3)] (.cons (fun p3 =>
 .ret (.b (gB p3 0)) [])
 (.cons (fun p3 =>
 .ret (.b true) [])
 .nil)))
 .nil)))
 .nil)))
 .nil)))
def L_wf_small_0 (p : List D) : Sh :=
 .ask (ltI (gI p 1) (gI p 0))
 (.ask (within (gI p 1) (List.length (gL p 2)))
 (.ask (ltI 5 (Int.ofNat (List.length (D.els (D.fld (gD (gL p 2) (Int.toNat (gI p 1))) 1)))))
 (.out (0, [.b false, .l (gL p 3), .l (gL p 4), .l (gL p 5), .l (gL p 6)]))
 (.again [.i (gI p 0), .i (wrapA .i64 ((gI p 1) + 1)), .l (gL p 2), .l (gL p 3), .l (gL p 4), .l (gL p 5), .l (gL p 6)]))
 (.bad))
 (.out (1, [.l (gL p 3), .l (gL p 4), .l (gL p 5), .l (gL p 6)]))
def L_wf_small_2 (p : List D) : Sh :=
 .ask (ltI (gI p 1) (gI p 0))
 (.ask (within (gI p 1) (List.length (gL p 2)))
 (.ask ((ltI (Int.ofNat (List.length (D.els (D.fld (gD (gL p 2) (Int.toNat (gI p 1))) 1)))) 1) || (ltI 16 (Int.ofNat (List.length (D.els (D.fld (gD (gL p 2) (Int.toNat (gI p 1))) 1))))))
 (.out (0, [.b false, .l (gL p 3), .l (gL p 4), .l (gL p 5), .l (gL p 6)]))
 (.again [.i (gI p 0), .i (wrapA .i64 ((gI p 1) + 1)), .l (gL p 2), .l (gL p 3), .l (gL p 4), .l (gL p 5), .l (gL p 6)]))
 (.bad))
 (.out (1, [.l (gL p 3), .l (gL p 4), .l (gL p 5), .l (gL p 6)]))
def L_wf_small_4 (p : List D) : Sh :=
 .ask (ltI (gI p 2) (gI p 0))
 (.ask (within (gI p 2) (List.length (gL p 1)))
 (.ask ((ltI (Int.ofNat (List.length (D.els (D.fld (gD (gL p 1) (Int.toNat (gI p 2))) 1)))) 1) || (ltI 12 (Int.ofNat (List.length (D.els (D.fld (gD (gL p 1) (Int.toNat (gI p 2))) 1))))))
 (.out (0, [.b false, .l (gL p 3), .l (gL p 4), .l (gL p 5), .l (gL p 6)]))
 (.again [.i (gI p 0), .l (gL p 1), .i (wrapA .i64 ((gI p 2) + 1)), .l (gL p 3), .l (gL p 4), .l (gL p 5), .l (gL p 6)]))
 (.bad))
 (.out (1, [.l (gL p 3), .l (gL p 4), .l (gL p 5), .l (gL p 6)]))
def L_wf_small_6 (p : List D) : Sh :=
 .ask (ltI (gI p 1) (gI p 0))
 (.ask (within (gI p 1) (List.length (gL p 2)))
 (.ask (!(((ltI 5 (Int.ofNat (List.length (D.els (D.fld (gD (gL p 2) (Int.toNat (gI p 1))) 2))))) || (ltI (Int.ofNat (List.length (D.els (D.fld (gD (gL p 2) (Int.toNat (gI p 1))) 4)))) 1)) || (ltI 40 (Int.ofNat (List.length (D.els (D.fld (gD (gL p 2) (Int.toNat (gI p 1))) 4)))))))
 (.call ir_Size [.l [.s (D.toS (D.fld (gD (gL p 2) (Int.toNat (gI p 1))) 0)), .b (D.toB (D.fld (gD (gL p 2) (Int.toNat (gI p 1))) 1)), .l (D.els (D.fld (gD (gL p 2) (Int.toNat (gI p 1))) 2)), .i (D.toI (D.fld (gD (gL p 2) (Int.toNat (gI p 1))) 3)), .l (D.els (D.fld (gD (gL p 2) (Int.toNat (gI p 1))) 4))]] 0 fun r0 _ =>
 .ask ((((ltI 5 (Int.ofNat (List.length (D.els (D.fld (gD (gL p 2) (Int.toNat (gI p 1))) 2))))) || (ltI (Int.ofNat (List.length (D.els (D.fld (gD (gL p 2) (Int.toNat (gI p 1))) 4)))) 1)) || (ltI 40 (Int.ofNat (List.length (D.els (D.fld (gD (gL p 2) (Int.toNat (gI p 1))) 4)))))) || (ltI 300 (D.toI r0)))
 (.out (0, [.b false]))
 (.again [.i (gI p 0), .i (wrapA .i64 ((gI p 1) + 1)), .l (gL p 2)]))
 (.ask ((((ltI 5 (Int.ofNat (List.length (D.els (D.fld (gD (gL p 2) (Int.toNat (gI p 1))) 2))))) || (ltI (Int.ofNat (List.length (D.els (D.fld (gD (gL p 2) (Int.toNat (gI p 1))) 4)))) 1)) || (ltI 40 (Int.ofNat (List.length (D.els (D.fld (gD (gL p 2) (Int.toNat (gI p 1))) 4)))))) || (ltI 300 0))
 (.out (0, [.b false]))
 (.again [.i (gI p 0), .i (wrapA .i64 ((gI p 1) + 1)), .l (gL p 2)])))
 (.bad))
 (.out (1, []))
def S_wf_small : STab := [(0, fun p => ⟨(t0 (t2 (.pb 1 0 0) (t0 .nil (t0 (t0 (t1 (.int .i64 (gI p 0))) .nil) .nil)) .nil) (t0 (t0 .nil (t0 (t0 (t1 (.int .i64 (gI p 1))) .nil) .nil)) (t0 (t0 (t0 (t1 (.fz [] 38 lt1 (gL p 2))) .nil) .nil) .nil))), [(1, ⟨0, [.fz [] 38 lt1 (gL p 3), .fz [] 67 [.str, .sl false 2 [.int .i64]] (gL p 4), .fz [] 70 [.str, .sl false 3 [.int .i64]] (gL p 5), .fz [] 43 lt2 (gL p 6)], none⟩)], [], 1⟩),
 (2, fun p => ⟨(t0 (t2 (.pb 1 0 0) (t0 (t0 (t0 .nil (t1 (.int .i64 (gI p 0)))) .nil) .nil) .nil) (t0 (t0 (t0 (t0 .nil (t1 (.int .i64 (gI p 1)))) .nil) .nil) (t0 .nil (t0 .nil (t0 (t1 (.fz [] 67 [.str, .sl false 2 [.int .i64]] (gL p 2))) .nil))))), [(1, ⟨0, [.fz [] 38 lt1 (gL p 3), .fz [] 67 [.str, .sl false 2 [.int .i64]] (gL p 4), .fz [] 70 [.str, .sl false 3 [.int .i64]] (gL p 5), .fz [] 43 lt2 (gL p 6)], none⟩)], [], 1⟩),
 (4, fun p => ⟨(t0 (t2 (.pb 1 0 0) .nil (t0 (t0 (t0 (t0 (t1 (.int .i64 (gI p 0))) .nil) .nil) .nil) .nil)) (t0 (t0 (t0 (t0 (t0 (t1 (.fz [] 70 [.str, .sl false 3 [.int .i64]] (gL p 1))) .nil) .nil) .nil) .nil) (t0 (t0 (t0 (t0 (t1 (.int .i64 (gI p 2))) .nil) .nil) .nil) .nil))), [(1, ⟨0, [.fz [] 38 lt1 (gL p 3), .fz [] 67 [.str, .sl false 2 [.int .i64]] (gL p 4), .fz [] 70 [.str, .sl false 3 [.int .i64]] (gL p 5), .fz [] 43 lt2 (gL p 6)], none⟩)], [], 1⟩),
 (6, fun p => ⟨(t0 (t0 (t0 .nil (t0 (t0 .nil (t0 (t1 (.int .i64 (gI p 0))) .nil)) .nil)) .nil) (t0 (t0 .nil (t0 (t0 .nil (t0 (t1 (.int .i64 (gI p 1))) .nil)) .nil)) (t0 (t0 (t0 .nil (t0 (t1 (.fz [] 43 lt2 (gL p 2))) .nil)) .nil) .nil))), [], [], 1⟩)]
def T_wf_small : TTab := [(0, [fun p => (.ret, ⟨(t0 (t1 (.pb 1 0 0)) (t1 (.bool (gB p 0)))), [(1, ⟨0, [.fz [] 38 lt1 (gL p 1), .fz [] 67 [.str, .sl false 2 [.int .i64]] (gL p 2), .fz [] 70 [.str, .sl false 3 [.int .i64]] (gL p 3), .fz [] 43 lt2 (gL p 4)], none⟩)], [], 1⟩),
  fun p => (.exit 0, ⟨(t0 (t1 (.pb 1 0 0)) (t0 .nil .nil)), [(1, ⟨0, [.fz [] 38 lt1 (gL p 0), .fz [] 67 [.str, .sl false 2 [.int .i64]] (gL p 1), .fz [] 70 [.str, .sl false 3 [.int .i64]] (gL p 2), .fz [] 43 lt2 (gL p 3)], none⟩)], [], 1⟩)]),
 (2, [fun p => (.ret, ⟨(t0 (t1 (.pb 1 0 0)) (t1 (.bool (gB p 0)))), [(1, ⟨0, [.fz [] 38 lt1 (gL p 1), .fz [] 67 [.str, .sl false 2 [.int .i64]] (gL p 2), .fz [] 70 [.str, .sl false 3 [.int .i64]] (gL p 3), .fz [] 43 lt2 (gL p 4)], none⟩)], [], 1⟩),
  fun p => (.exit 2, ⟨(t0 (t1 (.pb 1 0 0)) (t0 .nil .nil)), [(1, ⟨0, [.fz [] 38 lt1 (gL p 0), .fz [] 67 [.str, .sl false 2 [.int .i64]] (gL p 1), .fz [] 70 [.str, .sl false 3 [.int .i64]] (gL p 2), .fz [] 43 lt2 (gL p 3)], none⟩)], [], 1⟩)]),
 (4, [fun p => (.ret, ⟨(t0 (t1 (.pb 1 0 0)) (t1 (.bool (gB p 0)))), [(1, ⟨0, [.fz [] 38 lt1 (gL p 1), .fz [] 67 [.str, .sl false 2 [.int .i64]] (gL p 2), .fz [] 70 [.str, .sl false 3 [.int .i64]] (gL p 3), .fz [] 43 lt2 (gL p 4)], none⟩)], [], 1⟩),
  fun p => (.exit 4, ⟨(t0 (t1 (.pb 1 0 0)) (t0 .nil .nil)), [(1, ⟨0, [.fz [] 38 lt1 (gL p 0), .fz [] 67 [.str, .sl false 2 [.int .i64]] (gL p 1), .fz [] 70 [.str, .sl false 3 [.int .i64]] (gL p 2), .fz [] 43 lt2 (gL p 3)], none⟩)], [], 1⟩)]),
 (6, [fun p => (.ret, ⟨(t0 .nil (t1 (.bool (gB p 0)))), [], [], 1⟩),
  fun p => (.exit 6, ⟨(t0 .nil (t0 .nil .nil)), [], [], 1⟩)])]
def F_wf_small : Fn := { np := 1, bs := [0, 2, 4, 6], main := M_wf_small, lps := [(0, L_wf_small_0), (2, L_wf_small_2), (4, L_wf_small_4), (6, L_wf_small_6)] }
def M_slices_Clone_Sint_int (x : List D) : Sh :=
 .ask (isNl (D.els (gD x 0)))
 (.bad)
 (.ask false
 (.ret (.l []) [])
 (.ask (lim (0 + (List.length (D.els (gD x 0)))) 8)
 (.ret (.l (D.els (gD x 0))) [])
 (.bad)))
def S_slices_Clone_Sint_int : STab := []
def T_slices_Clone_Sint_int : TTab := []
def F_slices_Clone_Sint_int : Fn := { np := 1, bs := [], main := M_slices_Clone_Sint_int, lps := [] }
def M_facts_Of (x : List D) : Sh :=
 .ask ((leI 0 (Int.ofNat (List.length (D.els (D.fld (gD x 0) 3))))) && ((eqI (Int.ofNat (List.length (D.els (D.fld (gD x 0) 3)))) (Int.ofNat (List.length (D.els (D.fld (gD x 0) 3))))) && (lim (Int.toNat (Int.ofNat (List.length (D.els (D.fld (gD x 0) 3))))) 1)))
 (.loop 0 [.l (D.els (D.fld (gD x 0) 2)), .i 0, .i (Int.ofNat (List.length (D.els (D.fld (gD x 0) 2)))), .l (D.els (D.fld (gD x 0) 0)), .l (D.els (D.fld (gD x 0) 1)), .l (D.els (D.fld (gD x 0) 2)), .l (D.els (D.fld (gD x 0) 3)), .l (D.els (D.fld (gD x 0) 0)), .l (D.els (D.fld (gD x 0) 1)), .l (D.els (D.fld (gD x 0) 2)), .l (D.els (D.fld (gD x 0) 3)), .l (List.replicate (List.length (D.els (D.fld (gD x 0) 3))) (D.b false))] (.cons (fun p0 =>
 .loop 4 [.l (gL p0 3), .i 0, .i (Int.ofNat (List.length (gL p0 3))), .l (gL p0 4), .l (gL p0 5), .l (gL p0 6), .l (gL p0 7), .l (gL p0 8), .l []] (.cons (fun p1 =>
 .ret (.l [.l [.l (gL p1 0), .l (gL p1 1), .l (gL p1 2), .l (gL p1 3), .l (gL p1 4), .l (gL p1 5)]]) [])
 .nil))
 .nil))
 (.bad)
def L_facts_Of_0 (p : List D) : Sh :=
 .ask (ltI (gI p 1) (gI p 2))
 (.ask (within (gI p 1) (List.length (gL p 0)))
 (.loop 2 [.i (Int.ofNat (List.length (D.els (D.fld (gD (gL p 0) (Int.toNat (gI p 1))) 1)))), .l (gL p 0), .i (gI p 1), .i 0, .i (gI p 2), .l (D.els (D.fld (gD (gL p 0) (Int.toNat (gI p 1))) 1)), .l (gL p 3), .l (gL p 4), .l (gL p 5), .l (gL p 6), .l (gL p 7), .l (gL p 8), .l (gL p 9), .l (gL p 10), .l (gL p 11)] (.cons (fun p0 =>
 .again [.l (gL p0 0), .i (wrapA .i64 ((gI p0 1) + 1)), .i (gI p0 2), .l (gL p0 3), .l (gL p0 4), .l (gL p0 5), .l (gL p0 6), .l (gL p0 7), .l (gL p0 8), .l (gL p0 9), .l (gL p0 10), .l (gL p0 11)])
 .nil))
 (.bad))
 (.out (0, [.l (gL p 3), .l (gL p 4), .l (gL p 5), .l (gL p 6), .l (gL p 7), .l (gL p 8), .l (gL p 9), .l (gL p 10), .l (gL p 11)]))
def L_facts_Of_2 (p : List D) : Sh :=
 .ask (ltI (gI p 3) (gI p 0))
 (.ask (within (gI p 3) (List.length (gL p 5)))
 (.ask (leI 0 (D.toI (gD (gL p 5) (Int.toNat (gI p 3)))))
 (.ask (within (D.toI (gD (gL p 5) (Int.toNat (gI p 3)))) (List.length (gL p 14)))
 (.again [.i (gI p 0), .l (gL p 1), .i (gI p 2), .i (wrapA .i64 ((gI p 3) + 1)), .i (gI p 4), .l (gL p 5), .l (gL p 6), .l (gL p 7), .l (gL p 8), .l (gL p 9), .l (gL p 10), .l (gL p 11), .l (gL p 12), .l (gL p 13), .l (List.set (gL p 14) (Int.toNat (D.toI (gD (gL p 5) (Int.toNat (gI p 3))))) (D.b true))])
 (.bad))
 (.again [.i (gI p 0), .l (gL p 1), .i (gI p 2), .i (wrapA .i64 ((gI p 3) + 1)), .i (gI p 4), .l (gL p 5), .l (gL p 6), .l (gL p 7), .l (gL p 8), .l (gL p 9), .l (gL p 10), .l (gL p 11), .l (gL p 12), .l (gL p 13), .l (gL p 14)]))
 (.bad))
 (.out (0, [.l (gL p 1), .i (gI p 2), .i (gI p 4), .l (gL p 6), .l (gL p 7), .l (gL p 8), .l (gL p 9), .l (gL p 10), .l (gL p 11), .l (gL p 12), .l (gL p 13), .l (gL p 14)]))
def L_facts_Of_4 (p : List D) : Sh :=
 .ask (ltI (gI p 1) (gI p 2))
 (.ask (within (gI p 1) (List.length (gL p 0)))
 (.call ir_Types [.l [.s (D.toS (D.fld (gD (gL p 0) (Int.toNat (gI p 1))) 0)), .b (D.toB (D.fld (gD (gL p 0) (Int.toNat (gI p 1))) 1)), .l (D.els (D.fld (gD (gL p 0) (Int.toNat (gI p 1))) 2)), .i (D.toI (D.fld (gD (gL p 0) (Int.toNat (gI p 1))) 3)), .l (D.els (D.fld (gD (gL p 0) (Int.toNat (gI p 1))) 4))]] 0 fun r0 _ =>
 .ask ((leI 0 (Int.ofNat (List.length (D.els r0)))) && ((eqI (Int.ofNat (List.length (D.els r0))) (Int.ofNat (List.length (D.els r0)))) && (lim (Int.toNat (Int.ofNat (List.length (D.els r0)))) 88)))
 (.loop 6 [.i (Int.ofNat (List.length (D.els (D.fld (gD (gL p 0) (Int.toNat (gI p 1))) 4)))), .l (gL p 0), .i (gI p 1), .i 0, .i (gI p 2), .l (D.els (D.fld (gD (gL p 0) (Int.toNat (gI p 1))) 4)), .s (D.toS (D.fld (gD (gL p 0) (Int.toNat (gI p 1))) 0)), .b (D.toB (D.fld (gD (gL p 0) (Int.toNat (gI p 1))) 1)), .l (D.els (D.fld (gD (gL p 0) (Int.toNat (gI p 1))) 2)), .i (D.toI (D.fld (gD (gL p 0) (Int.toNat (gI p 1))) 3)), .l (D.els (D.fld (gD (gL p 0) (Int.toNat (gI p 1))) 4)), .l (gL p 3), .l (gL p 4), .l (gL p 5), .l (gL p 6), .l (gL p 7), .l (List.replicate (List.length (D.els r0)) (D.l [.i 0, .i 0, .i 0, .i 0, .i 0, .l [], .l []])), .l (gL p 8), .l (D.els r0)] (.cons (fun p1 =>
 .call facts_Func_bases [.l [.l (gL p1 15), .l [], .l [], .l (gL p1 13)], .l [.s (gS p1 3), .b (gB p1 4), .l (gL p1 5), .i (gI p1 6), .l (gL p1 7)]] 1 fun r2 q2 =>
 .call facts_Func_offs [.l [.l (D.els (D.fld (gD q2 0) 0)), .l (D.els (D.fld (gD q2 0) 1)), .l (D.els (D.fld (gD q2 0) 2)), .l (D.els (D.fld (gD q2 0) 3))]] 1 fun r3 q3 =>
 .ask (lim ((List.length (gL p1 14)) + 1) 96)
 (.again [.l (gL p1 0), .i (wrapA .i64 ((gI p1 1) + 1)), .i (gI p1 2), .l (gL p1 8), .l (gL p1 9), .l (gL p1 10), .l (gL p1 11), .l (gL p1 12), .l ((gL p1 14) ++ [.l [.l (D.els (D.fld (gD q3 0) 0)), .l (D.els (D.fld (gD q3 0) 1)), .l (D.els (D.fld (gD q3 0) 2)), .l (D.els (D.fld (gD q3 0) 3))]])])
 (.bad))
 .nil))
 (.bad))
 (.bad))
 (.out (0, [.l (gL p 3), .l (gL p 4), .l (gL p 5), .l (gL p 6), .l (gL p 7), .l (gL p 8)]))
def L_facts_Of_6 (p : List D) : Sh :=
 .ask (ltI (gI p 3) (gI p 0))
 (.ask (within (gI p 3) (List.length (gL p 5)))
 (.loop 8 [.i (gI p 0), .l (gL p 1), .i 0, .i (gI p 2), .l (D.els (gD (gL p 5) (Int.toNat (gI p 3)))), .i (gI p 3), .i (gI p 4), .i (Int.ofNat (List.length (D.els (gD (gL p 5) (Int.toNat (gI p 3)))))), .l (gL p 5), .s (gS p 6), .b (gB p 7), .l (gL p 8), .i (gI p 9), .l (gL p 10), .l (gL p 11), .l (gL p 12), .l (gL p 13), .l (gL p 14), .l (gL p 15), .l (gL p 16), .l (gL p 17), .l (gL p 18)] (.cons (fun p0 =>
 .again [.i (gI p0 0), .l (gL p0 1), .i (gI p0 2), .i (wrapA .i64 ((gI p0 3) + 1)), .i (gI p0 4), .l (gL p0 5), .s (gS p0 6), .b (gB p0 7), .l (gL p0 8), .i (gI p0 9), .l (gL p0 10), .l (gL p0 11), .l (gL p0 12), .l (gL p0 13), .l (gL p0 14), .l (gL p0 15), .l (gL p0 16), .l (gL p0 17), .l (gL p0 18)])
 .nil))
 (.bad))
 (.out (0, [.l (gL p 1), .i (gI p 2), .i (gI p 4), .s (gS p 6), .b (gB p 7), .l (gL p 8), .i (gI p 9), .l (gL p 10), .l (gL p 11), .l (gL p 12), .l (gL p 13), .l (gL p 14), .l (gL p 15), .l (gL p 16), .l (gL p 17), .l (gL p 18)]))
def L_facts_Of_8 (p : List D) : Sh :=
 .ask (ltI (gI p 2) (gI p 7))
 (.ask (within (gI p 2) (List.length (gL p 4)))
 (.ask (eqI (D.toI (D.fld (gD (gL p 4) (Int.toNat (gI p 2))) 0)) 2)
 (.ask (within (D.toI (D.fld (gD (gL p 4) (Int.toNat (gI p 2))) 3)) (List.length (gL p 18)))
 (.ask (!(eqI (D.toI (D.fld (gD (gL p 4) (Int.toNat (gI p 2))) 1)) 0))
 (.ask (within (D.toI (D.fld (gD (gL p 4) (Int.toNat (gI p 2))) 2)) (List.length (gL p 19)))
 (.again (let z0 := List.set (gL p 19) (Int.toNat (D.toI (D.fld (gD (gL p 4) (Int.toNat (gI p 2))) 2))) (D.l (setPad (D.els (gD (gL p 19) (Int.toNat (D.toI (D.fld (gD (gL p 4) (Int.toNat (gI p 2))) 2))))) 0 (D.i (D.toI (D.fld (gD (gL p 4) (Int.toNat (gI p 2))) 0))))); let z1 := List.set z0 (Int.toNat (D.toI (D.fld (gD (gL p 4) (Int.toNat (gI p 2))) 2))) (D.l (setPad (D.els (gD z0 (Int.toNat (D.toI (D.fld (gD (gL p 4) (Int.toNat (gI p 2))) 2))))) 1 (D.i (D.toI (D.fld (gD (gL p 4) (Int.toNat (gI p 2))) 1))))); let z2 := List.set z1 (Int.toNat (D.toI (D.fld (gD (gL p 4) (Int.toNat (gI p 2))) 2))) (D.l (setPad (D.els (gD z1 (Int.toNat (D.toI (D.fld (gD (gL p 4) (Int.toNat (gI p 2))) 2))))) 2 (D.i (D.toI (D.fld (gD (gL p 4) (Int.toNat (gI p 2))) 2))))); let z3 := List.set z2 (Int.toNat (D.toI (D.fld (gD (gL p 4) (Int.toNat (gI p 2))) 2))) (D.l (setPad (D.els (gD z2 (Int.toNat (D.toI (D.fld (gD (gL p 4) (Int.toNat (gI p 2))) 2))))) 3 (D.i (D.toI (D.fld (gD (gL p 4) (Int.toNat (gI p 2))) 3))))); let z4 := List.set z3 (Int.toNat (D.toI (D.fld (gD (gL p 4) (Int.toNat (gI p 2))) 2))) (D.l (setPad (D.els (gD z3 (Int.toNat (D.toI (D.fld (gD (gL p 4) (Int.toNat (gI p 2))) 2))))) 4 (D.i (D.toI (D.fld (gD (gL p 4) (Int.toNat (gI p 2))) 4))))); let z5 := List.set z4 (Int.toNat (D.toI (D.fld (gD (gL p 4) (Int.toNat (gI p 2))) 2))) (D.l (setPad (D.els (gD z4 (Int.toNat (D.toI (D.fld (gD (gL p 4) (Int.toNat (gI p 2))) 2))))) 5 (D.l (D.els (D.fld (gD (gL p 4) (Int.toNat (gI p 2))) 5))))); [.i (gI p 0), .l (gL p 1), .i (wrapA .i64 ((gI p 2) + 1)), .i (gI p 3), .l (gL p 4), .i (gI p 5), .i (gI p 6), .i (gI p 7), .l (gL p 8), .s (gS p 9), .b (gB p 10), .l (gL p 11), .i (gI p 12), .l (gL p 13), .l (gL p 14), .l (gL p 15), .l (gL p 16), .l (gL p 17), .l (List.set (gL p 18) (Int.toNat (D.toI (D.fld (gD (gL p 4) (Int.toNat (gI p 2))) 3))) (D.b true)), .l (List.set z5 (Int.toNat (D.toI (D.fld (gD (gL p 4) (Int.toNat (gI p 2))) 2))) (D.l (setPad (D.els (gD z5 (Int.toNat (D.toI (D.fld (gD (gL p 4) (Int.toNat (gI p 2))) 2))))) 6 (D.l (D.els (D.fld (gD (gL p 4) (Int.toNat (gI p 2))) 6)))))), .l (gL p 20), .l (gL p 21)]))
 (.bad))
 (.again [.i (gI p 0), .l (gL p 1), .i (wrapA .i64 ((gI p 2) + 1)), .i (gI p 3), .l (gL p 4), .i (gI p 5), .i (gI p 6), .i (gI p 7), .l (gL p 8), .s (gS p 9), .b (gB p 10), .l (gL p 11), .i (gI p 12), .l (gL p 13), .l (gL p 14), .l (gL p 15), .l (gL p 16), .l (gL p 17), .l (List.set (gL p 18) (Int.toNat (D.toI (D.fld (gD (gL p 4) (Int.toNat (gI p 2))) 3))) (D.b true)), .l (gL p 19), .l (gL p 20), .l (gL p 21)]))
 (.bad))
 (.ask (!(eqI (D.toI (D.fld (gD (gL p 4) (Int.toNat (gI p 2))) 1)) 0))
 (.ask (within (D.toI (D.fld (gD (gL p 4) (Int.toNat (gI p 2))) 2)) (List.length (gL p 19)))
 (.again (let z0 := List.set (gL p 19) (Int.toNat (D.toI (D.fld (gD (gL p 4) (Int.toNat (gI p 2))) 2))) (D.l (setPad (D.els (gD (gL p 19) (Int.toNat (D.toI (D.fld (gD (gL p 4) (Int.toNat (gI p 2))) 2))))) 0 (D.i (D.toI (D.fld (gD (gL p 4) (Int.toNat (gI p 2))) 0))))); let z1 := List.set z0 (Int.toNat (D.toI (D.fld (gD (gL p 4) (Int.toNat (gI p 2))) 2))) (D.l (setPad (D.els (gD z0 (Int.toNat (D.toI (D.fld (gD (gL p 4) (Int.toNat (gI p 2))) 2))))) 1 (D.i (D.toI (D.fld (gD (gL p 4) (Int.toNat (gI p 2))) 1))))); let z2 := List.set z1 (Int.toNat (D.toI (D.fld (gD (gL p 4) (Int.toNat (gI p 2))) 2))) (D.l (setPad (D.els (gD z1 (Int.toNat (D.toI (D.fld (gD (gL p 4) (Int.toNat (gI p 2))) 2))))) 2 (D.i (D.toI (D.fld (gD (gL p 4) (Int.toNat (gI p 2))) 2))))); let z3 := List.set z2 (Int.toNat (D.toI (D.fld (gD (gL p 4) (Int.toNat (gI p 2))) 2))) (D.l (setPad (D.els (gD z2 (Int.toNat (D.toI (D.fld (gD (gL p 4) (Int.toNat (gI p 2))) 2))))) 3 (D.i (D.toI (D.fld (gD (gL p 4) (Int.toNat (gI p 2))) 3))))); let z4 := List.set z3 (Int.toNat (D.toI (D.fld (gD (gL p 4) (Int.toNat (gI p 2))) 2))) (D.l (setPad (D.els (gD z3 (Int.toNat (D.toI (D.fld (gD (gL p 4) (Int.toNat (gI p 2))) 2))))) 4 (D.i (D.toI (D.fld (gD (gL p 4) (Int.toNat (gI p 2))) 4))))); let z5 := List.set z4 (Int.toNat (D.toI (D.fld (gD (gL p 4) (Int.toNat (gI p 2))) 2))) (D.l (setPad (D.els (gD z4 (Int.toNat (D.toI (D.fld (gD (gL p 4) (Int.toNat (gI p 2))) 2))))) 5 (D.l (D.els (D.fld (gD (gL p 4) (Int.toNat (gI p 2))) 5))))); [.i (gI p 0), .l (gL p 1), .i (wrapA .i64 ((gI p 2) + 1)), .i (gI p 3), .l (gL p 4), .i (gI p 5), .i (gI p 6), .i (gI p 7), .l (gL p 8), .s (gS p 9), .b (gB p 10), .l (gL p 11), .i (gI p 12), .l (gL p 13), .l (gL p 14), .l (gL p 15), .l (gL p 16), .l (gL p 17), .l (gL p 18), .l (List.set z5 (Int.toNat (D.toI (D.fld (gD (gL p 4) (Int.toNat (gI p 2))) 2))) (D.l (setPad (D.els (gD z5 (Int.toNat (D.toI (D.fld (gD (gL p 4) (Int.toNat (gI p 2))) 2))))) 6 (D.l (D.els (D.fld (gD (gL p 4) (Int.toNat (gI p 2))) 6)))))), .l (gL p 20), .l (gL p 21)]))
 (.bad))
 (.again [.i (gI p 0), .l (gL p 1), .i (wrapA .i64 ((gI p 2) + 1)), .i (gI p 3), .l (gL p 4), .i (gI p 5), .i (gI p 6), .i (gI p 7), .l (gL p 8), .s (gS p 9), .b (gB p 10), .l (gL p 11), .i (gI p 12), .l (gL p 13), .l (gL p 14), .l (gL p 15), .l (gL p 16), .l (gL p 17), .l (gL p 18), .l (gL p 19), .l (gL p 20), .l (gL p 21)])))
 (.bad))
 (.out (0, [.i (gI p 0), .l (gL p 1), .i (gI p 3), .i (gI p 5), .i (gI p 6), .l (gL p 8), .s (gS p 9), .b (gB p 10), .l (gL p 11), .i (gI p 12), .l (gL p 13), .l (gL p 14), .l (gL p 15), .l (gL p 16), .l (gL p 17), .l (gL p 18), .l (gL p 19), .l (gL p 20), .l (gL p 21)]))
def S_facts_Of : STab := [(0, fun p => ⟨(t0 (t2 (.pb 1 0 0) (t2 (.pb 21 0 0) (t0 .nil (t1 (.fz [] 70 [.str, .sl false 3 [.int .i64]] (gL p 0)))) .nil) (t0 (t0 .nil (t1 (.int .i64 (gI p 1)))) .nil)) (t0 (t0 (t0 .nil (t1 (.int .i64 (gI p 2)))) .nil) .nil)), [(1, ⟨0, [.fz [] 38 lt1 (gL p 3), .fz [] 67 [.str, .sl false 2 [.int .i64]] (gL p 4), .fz [] 70 [.str, .sl false 3 [.int .i64]] (gL p 5), .fz [] 43 lt2 (gL p 6)], none⟩), (21, ⟨0, [.fz [] 38 lt1 (gL p 7), .fz [] 67 [.str, .sl false 2 [.int .i64]] (gL p 8), .fz [] 70 [.str, .sl false 3 [.int .i64]] (gL p 9), .fz [] 43 lt2 (gL p 10), .vw 19 0 [], .nils], none⟩)], [(19, ⟨4, [.bool], (gL p 11), [], 0, [0, 0, 0, 0], 0⟩)], 1⟩),
 (2, fun p => ⟨(t0 (t2 (.pb 1 0 0) (t2 (.pb 21 0 0) (t0 (t0 (t1 (.int .i64 (gI p 0))) .nil) (t1 (.fz [] 70 [.str, .sl false 3 [.int .i64]] (gL p 1)))) .nil) (t0 (t0 .nil (t1 (.int .i64 (gI p 2)))) .nil)) (t0 (t0 (t0 (t0 (t1 (.int .i64 (gI p 3))) .nil) (t1 (.int .i64 (gI p 4)))) .nil) (t0 .nil (t0 .nil (t1 (.fz [] 3 [.int .i64] (gL p 5))))))), [(1, ⟨0, [.fz [] 38 lt1 (gL p 6), .fz [] 67 [.str, .sl false 2 [.int .i64]] (gL p 7), .fz [] 70 [.str, .sl false 3 [.int .i64]] (gL p 8), .fz [] 43 lt2 (gL p 9)], none⟩), (21, ⟨0, [.fz [] 38 lt1 (gL p 10), .fz [] 67 [.str, .sl false 2 [.int .i64]] (gL p 11), .fz [] 70 [.str, .sl false 3 [.int .i64]] (gL p 12), .fz [] 43 lt2 (gL p 13), .vw 19 0 [], .nils], none⟩)], [(19, ⟨4, [.bool], (gL p 14), [], 0, [0, 0, 0, 0], 0⟩)], 1⟩),
 (4, fun p => ⟨(t0 (t0 (t2 (.pb 21 0 0) (t0 (t0 .nil (t1 (.fz [] 43 lt2 (gL p 0)))) .nil) .nil) (t0 (t0 (t0 .nil (t1 (.int .i64 (gI p 1)))) .nil) .nil)) (t0 (t0 (t0 (t0 .nil (t1 (.int .i64 (gI p 2)))) .nil) .nil) .nil)), [(21, ⟨0, [.fz [] 38 lt1 (gL p 3), .fz [] 67 [.str, .sl false 2 [.int .i64]] (gL p 4), .fz [] 70 [.str, .sl false 3 [.int .i64]] (gL p 5), .fz [] 43 lt2 (gL p 6), .vw 19 0 [], .vw 301349 0 []], none⟩)], [(19, ⟨4, [.bool], (gL p 7), [], 0, [0, 0, 0, 0], 0⟩), (301349, ⟨94, lt3, (gL p 8), [], 0, [0, 0, 0, 0], 0⟩)], 1⟩),
 (6, fun p => ⟨(t0 (t0 (t2 (.pb 21 0 0) (t0 (t0 (t0 (t1 (.int .i64 (gI p 0))) .nil) (t1 (.fz [] 43 lt2 (gL p 1)))) .nil) .nil) (t0 (t2 (.pb 9 0 0) (t0 .nil (t1 (.int .i64 (gI p 2)))) .nil) .nil)) (t0 (t0 (t0 (t0 (t0 (t1 (.int .i64 (gI p 3))) .nil) (t1 (.int .i64 (gI p 4)))) .nil) .nil) (t0 (t1 (.pb 10 0 0)) (t0 .nil (t0 .nil (t1 (.fz [] 40 lt4 (gL p 5)))))))), [(9, ⟨0, [.str (gS p 6), .bool (gB p 7), .fz [] 3 [.int .i64] (gL p 8), .int .i64 (gI p 9), .fz [] 40 lt4 (gL p 10)], none⟩), (10, ⟨0, [.vw 55000000 0 [], .nils, .nils, .vw 59 0 []], none⟩), (21, ⟨0, [.fz [] 38 lt1 (gL p 11), .fz [] 67 [.str, .sl false 2 [.int .i64]] (gL p 12), .fz [] 70 [.str, .sl false 3 [.int .i64]] (gL p 13), .fz [] 43 lt2 (gL p 14), .vw 19 0 [], .vw 301349 0 []], none⟩)], [(19, ⟨4, [.bool], (gL p 15), [], 0, [0, 0, 0, 0], 0⟩), (59, ⟨27, lt5, (gL p 16), [], 0, [0, 0, 0, 0], 0⟩), (301349, ⟨94, lt3, (gL p 17), [], 0, [0, 0, 0, 0], 0⟩), (55000000, ⟨3, [.int .i64], (gL p 18), [], 0, [0, 0, 0, 0], 0⟩)], 1⟩),
 (8, fun p => ⟨(t0 (t0 (t2 (.pb 21 0 0) (t0 (t0 (t0 (t1 (.int .i64 (gI p 0))) .nil) (t1 (.fz [] 43 lt2 (gL p 1)))) (t0 (t0 (t1 (.int .i64 (gI p 2))) .nil) .nil)) .nil) (t0 (t2 (.pb 9 0 0) (t0 .nil (t1 (.int .i64 (gI p 3)))) .nil) (t0 (t0 (t0 (t1 (.fz [] 27 lt5 (gL p 4))) .nil) .nil) .nil))) (t0 (t0 (t0 (t0 (t0 (t1 (.int .i64 (gI p 5))) .nil) (t1 (.int .i64 (gI p 6)))) .nil) .nil) (t0 (t1 (.pb 10 0 0)) (t0 (t0 (t0 (t1 (.int .i64 (gI p 7))) .nil) .nil) (t0 .nil (t1 (.fz [] 40 lt4 (gL p 8)))))))), [(9, ⟨0, [.str (gS p 9), .bool (gB p 10), .fz [] 3 [.int .i64] (gL p 11), .int .i64 (gI p 12), .fz [] 40 lt4 (gL p 13)], none⟩), (10, ⟨0, [.vw 55000000 0 [], .nils, .nils, .vw 59 0 []], none⟩), (21, ⟨0, [.fz [] 38 lt1 (gL p 14), .fz [] 67 [.str, .sl false 2 [.int .i64]] (gL p 15), .fz [] 70 [.str, .sl false 3 [.int .i64]] (gL p 16), .fz [] 43 lt2 (gL p 17), .vw 19 0 [], .vw 301349 0 []], none⟩)], [(19, ⟨4, [.bool], (gL p 18), [], 0, [0, 0, 0, 0], 0⟩), (59, ⟨27, lt5, (gL p 19), [], 0, [0, 0, 0, 0], 0⟩), (301349, ⟨94, lt3, (gL p 20), [], 0, [0, 0, 0, 0], 0⟩), (55000000, ⟨3, [.int .i64], (gL p 21), [], 0, [0, 0, 0, 0], 0⟩)], 1⟩)]
def T_facts_Of : TTab := [(0, [fun p => (.exit 0, ⟨(t0 (t2 (.pb 1 0 0) (t1 (.pb 21 0 0)) .nil) (t0 .nil .nil)), [(1, ⟨0, [.fz [] 38 lt1 (gL p 0), .fz [] 67 [.str, .sl false 2 [.int .i64]] (gL p 1), .fz [] 70 [.str, .sl false 3 [.int .i64]] (gL p 2), .fz [] 43 lt2 (gL p 3)], none⟩), (21, ⟨0, [.fz [] 38 lt1 (gL p 4), .fz [] 67 [.str, .sl false 2 [.int .i64]] (gL p 5), .fz [] 70 [.str, .sl false 3 [.int .i64]] (gL p 6), .fz [] 43 lt2 (gL p 7), .vw 19 0 [], .nils], none⟩)], [(19, ⟨4, [.bool], (gL p 8), [], 0, [0, 0, 0, 0], 0⟩)], 1⟩)]),
 (2, [fun p => (.exit 2, ⟨(t0 (t2 (.pb 1 0 0) (t2 (.pb 21 0 0) (t0 .nil (t1 (.fz [] 70 [.str, .sl false 3 [.int .i64]] (gL p 0)))) .nil) (t0 (t0 .nil (t1 (.int .i64 (gI p 1)))) .nil)) (t0 (t0 (t0 .nil (t1 (.int .i64 (gI p 2)))) .nil) .nil)), [(1, ⟨0, [.fz [] 38 lt1 (gL p 3), .fz [] 67 [.str, .sl false 2 [.int .i64]] (gL p 4), .fz [] 70 [.str, .sl false 3 [.int .i64]] (gL p 5), .fz [] 43 lt2 (gL p 6)], none⟩), (21, ⟨0, [.fz [] 38 lt1 (gL p 7), .fz [] 67 [.str, .sl false 2 [.int .i64]] (gL p 8), .fz [] 70 [.str, .sl false 3 [.int .i64]] (gL p 9), .fz [] 43 lt2 (gL p 10), .vw 19 0 [], .nils], none⟩)], [(19, ⟨4, [.bool], (gL p 11), [], 0, [0, 0, 0, 0], 0⟩)], 1⟩)]),
 (4, [fun p => (.exit 4, ⟨(t0 (t0 (t1 (.pb 21 0 0)) .nil) (t0 .nil .nil)), [(21, ⟨0, [.fz [] 38 lt1 (gL p 0), .fz [] 67 [.str, .sl false 2 [.int .i64]] (gL p 1), .fz [] 70 [.str, .sl false 3 [.int .i64]] (gL p 2), .fz [] 43 lt2 (gL p 3), .vw 19 0 [], .vw 301349 0 []], none⟩)], [(19, ⟨4, [.bool], (gL p 4), [], 0, [0, 0, 0, 0], 0⟩), (301349, ⟨94, lt3, (gL p 5), [], 0, [0, 0, 0, 0], 0⟩)], 1⟩)]),
 (6, [fun p => (.exit 6, ⟨(t0 (t0 (t2 (.pb 21 0 0) (t0 (t0 .nil (t1 (.fz [] 43 lt2 (gL p 0)))) .nil) .nil) (t0 (t2 (.pb 9 0 0) (t0 .nil (t1 (.int .i64 (gI p 1)))) .nil) .nil)) (t0 (t0 (t0 (t0 .nil (t1 (.int .i64 (gI p 2)))) .nil) .nil) (t0 (t1 (.pb 10 0 0)) .nil))), [(9, ⟨0, [.str (gS p 3), .bool (gB p 4), .fz [] 3 [.int .i64] (gL p 5), .int .i64 (gI p 6), .fz [] 40 lt4 (gL p 7)], none⟩), (10, ⟨0, [.vw 55000000 0 [], .nils, .nils, .vw 59 0 []], none⟩), (21, ⟨0, [.fz [] 38 lt1 (gL p 8), .fz [] 67 [.str, .sl false 2 [.int .i64]] (gL p 9), .fz [] 70 [.str, .sl false 3 [.int .i64]] (gL p 10), .fz [] 43 lt2 (gL p 11), .vw 19 0 [], .vw 301349 0 []], none⟩)], [(19, ⟨4, [.bool], (gL p 12), [], 0, [0, 0, 0, 0], 0⟩), (59, ⟨27, lt5, (gL p 13), [], 0, [0, 0, 0, 0], 0⟩), (301349, ⟨94, lt3, (gL p 14), [], 0, [0, 0, 0, 0], 0⟩), (55000000, ⟨3, [.int .i64], (gL p 15), [], 0, [0, 0, 0, 0], 0⟩)], 1⟩)]),
 (8, [fun p => (.exit 8, ⟨(t0 (t0 (t2 (.pb 21 0 0) (t0 (t0 (t0 (t1 (.int .i64 (gI p 0))) .nil) (t1 (.fz [] 43 lt2 (gL p 1)))) .nil) .nil) (t0 (t2 (.pb 9 0 0) (t0 .nil (t1 (.int .i64 (gI p 2)))) .nil) .nil)) (t0 (t0 (t0 (t0 (t0 (t1 (.int .i64 (gI p 3))) .nil) (t1 (.int .i64 (gI p 4)))) .nil) .nil) (t0 (t1 (.pb 10 0 0)) (t0 .nil (t0 .nil (t1 (.fz [] 40 lt4 (gL p 5)))))))), [(9, ⟨0, [.str (gS p 6), .bool (gB p 7), .fz [] 3 [.int .i64] (gL p 8), .int .i64 (gI p 9), .fz [] 40 lt4 (gL p 10)], none⟩), (10, ⟨0, [.vw 55000000 0 [], .nils, .nils, .vw 59 0 []], none⟩), (21, ⟨0, [.fz [] 38 lt1 (gL p 11), .fz [] 67 [.str, .sl false 2 [.int .i64]] (gL p 12), .fz [] 70 [.str, .sl false 3 [.int .i64]] (gL p 13), .fz [] 43 lt2 (gL p 14), .vw 19 0 [], .vw 301349 0 []], none⟩)], [(19, ⟨4, [.bool], (gL p 15), [], 0, [0, 0, 0, 0], 0⟩), (59, ⟨27, lt5, (gL p 16), [], 0, [0, 0, 0, 0], 0⟩), (301349, ⟨94, lt3, (gL p 17), [], 0, [0, 0, 0, 0], 0⟩), (55000000, ⟨3, [.int .i64], (gL p 18), [], 0, [0, 0, 0, 0], 0⟩)], 1⟩)])]
def F_facts_Of : Fn := { np := 1, bs := [0, 2, 4, 6, 8], main := M_facts_Of, lps := [(0, L_facts_Of_0), (2, L_facts_Of_2), (4, L_facts_Of_4), (6, L_facts_Of_6), (8, L_facts_Of_8)] }
def M_ir_Size (x : List D) : Sh :=
 .loop 0 [.i 0, .l (D.els (D.fld (gD x 0) 4)), .i 0, .i (Int.ofNat (List.length (D.els (D.fld (gD x 0) 4))))] (.cons (fun p0 =>
 .ret (.i (gI p0 0)) [])
 .nil)
def L_ir_Size_0 (p : List D) : Sh :=
 .ask (ltI (gI p 2) (gI p 3))
 (.ask (within (gI p 2) (List.length (gL p 1)))
 (.again [.i (wrapA .i64 ((gI p 0) + (Int.ofNat (List.length (D.els (gD (gL p 1) (Int.toNat (gI p 2)))))))), .l (gL p 1), .i (wrapA .i64 ((gI p 2) + 1)), .i (gI p 3)])
 (.bad))
 (.out (0, [.i (gI p 0)]))
def S_ir_Size : STab := [(0, fun p => ⟨(t0 (t0 (t2 (.int .i64 (gI p 0)) (t1 (.fz [] 40 lt4 (gL p 1))) .nil) (t0 (t1 (.int .i64 (gI p 2))) .nil)) (t0 (t0 (t1 (.int .i64 (gI p 3))) .nil) .nil)), [], [], 1⟩)]
def T_ir_Size : TTab := [(0, [fun p => (.exit 0, ⟨(t0 (t0 (t1 (.int .i64 (gI p 0))) .nil) (t0 .nil .nil)), [], [], 1⟩)])]
def F_ir_Size : Fn := { np := 1, bs := [0], main := M_ir_Size, lps := [(0, L_ir_Size_0)] }
def M_wf_scalar (x : List D) : Sh :=
 .ret (.b ((eqI (D.toI (gD x 0)) 1) || (eqI (D.toI (gD x 0)) 2))) []
def S_wf_scalar : STab := []
def T_wf_scalar : TTab := []
def F_wf_scalar : Fn := { np := 1, bs := [], main := M_wf_scalar, lps := [] }
def M_flow_Reach (x : List D) : Sh :=
 .call flow_walked [.l [.s (D.toS (D.fld (gD x 0) 0)), .b (D.toB (D.fld (gD x 0) 1)), .l (D.els (D.fld (gD x 0) 2)), .i (D.toI (D.fld (gD x 0) 3)), .l (D.els (D.fld (gD x 0) 4))]] 0 fun r0 _ =>
 .ask (isNl (D.els r0))
 (.ask ((leI 0 (Int.ofNat (List.length (D.els (D.fld (gD x 0) 4))))) && ((eqI (Int.ofNat (List.length (D.els (D.fld (gD x 0) 4)))) (Int.ofNat (List.length (D.els (D.fld (gD x 0) 4))))) && (lim (Int.toNat (Int.ofNat (List.length (D.els (D.fld (gD x 0) 4))))) 1)))
 (.bad)
 (.bad))
 (.ask ((leI 0 (Int.ofNat (List.length (D.els (D.fld (gD x 0) 4))))) && ((eqI (Int.ofNat (List.length (D.els (D.fld (gD x 0) 4)))) (Int.ofNat (List.length (D.els (D.fld (gD x 0) 4))))) && (lim (Int.toNat (Int.ofNat (List.length (D.els (D.fld (gD x 0) 4))))) 1)))
 (.loop 0 [.i (Int.ofNat (List.length (D.els (D.fld (hdD (D.els r0)) 5)))), .i 0, .l (List.replicate (List.length (D.els (D.fld (gD x 0) 4))) (D.b false)), .l (D.els (D.fld (hdD (D.els r0)) 5))] (.cons (fun p1 =>
 .ret (.l (gL p1 0)) [])
 .nil))
 (.bad))
def L_flow_Reach_0 (p : List D) : Sh :=
 .ask (ltI (gI p 1) (gI p 0))
 (.ask (within (gI p 1) (List.length (gL p 3)))
 (.ask (within (gI p 1) (List.length (gL p 2)))
 (.again [.i (gI p 0), .i (wrapA .i64 ((gI p 1) + 1)), .l (List.set (gL p 2) (Int.toNat (gI p 1)) (D.b (!(eqI (D.toI (gD (gL p 3) (Int.toNat (gI p 1)))) 0)))), .l (gL p 3)])
 (.bad))
 (.bad))
 (.out (0, [.l (gL p 2)]))
def S_flow_Reach : STab := [(0, fun p => ⟨(t0 (t0 .nil (t0 (t0 (t1 (.int .i64 (gI p 0))) .nil) .nil)) (t0 (t2 (.vw 12 0 []) (t0 (t1 (.vw 9000005 0 [])) .nil) .nil) (t0 (t0 (t1 (.int .i64 (gI p 1))) .nil) .nil))), [], [(12, ⟨4, [.bool], (gL p 2), [], 0, [0, 0, 0, 0], 0⟩), (9000005, ⟨3, [.int .i64], (gL p 3), [], 0, [0, 0, 0, 0], 0⟩)], 1⟩)]
def T_flow_Reach : TTab := [(0, [fun p => (.exit 0, ⟨(t0 .nil (t0 (t1 (.vw 12 0 [])) .nil)), [], [(12, ⟨4, [.bool], (gL p 0), [], 0, [0, 0, 0, 0], 0⟩)], 1⟩)])]
def F_flow_Reach : Fn := { np := 1, bs := [0], main := M_flow_Reach, lps := [(0, L_flow_Reach_0)] }
def M_wf_ahead (x : List D) : Sh :=
 .ask (bounds 0 (D.toI (gD x 1)) (Int.ofNat (List.length (D.els (D.fld (gD x 0) 4)))))
 (.loop 0 [.i (Int.ofNat (List.length (D.els (D.fld (gD x 0) 2)))), .i (Int.ofNat (List.length (List.drop 0 (List.take (Int.toNat (D.toI (gD x 1))) (D.els (D.fld (gD x 0) 4)))))), .l (List.drop 0 (List.take (Int.toNat (D.toI (gD x 1))) (D.els (D.fld (gD x 0) 4)))), .i 0] (.cons (fun p0 =>
 .ret (.i (gI p0 0)) [])
 .nil))
 (.bad)
def L_wf_ahead_0 (p : List D) : Sh :=
 .ask (ltI (gI p 3) (gI p 1))
 (.ask (within (gI p 3) (List.length (gL p 2)))
 (.loop 2 [.l (D.els (gD (gL p 2) (Int.toNat (gI p 3)))), .i (gI p 0), .i (gI p 1), .i 0, .l (gL p 2), .i (Int.ofNat (List.length (D.els (gD (gL p 2) (Int.toNat (gI p 3)))))), .i (gI p 3)] (.cons (fun p0 =>
 .again [.i (gI p0 0), .i (gI p0 1), .l (gL p0 2), .i (wrapA .i64 ((gI p0 3) + 1))])
 .nil))
 (.bad))
 (.out (0, [.i (gI p 0)]))
def L_wf_ahead_2 (p : List D) : Sh :=
 .ask (ltI (gI p 3) (gI p 5))
 (.ask (within (gI p 3) (List.length (gL p 0)))
 (.ask (!(eqI (D.toI (D.fld (gD (gL p 0) (Int.toNat (gI p 3))) 1)) 0))
 (.again [.l (gL p 0), .i (wrapA .i64 ((gI p 1) + 1)), .i (gI p 2), .i (wrapA .i64 ((gI p 3) + 1)), .l (gL p 4), .i (gI p 5), .i (gI p 6)])
 (.again [.l (gL p 0), .i (gI p 1), .i (gI p 2), .i (wrapA .i64 ((gI p 3) + 1)), .l (gL p 4), .i (gI p 5), .i (gI p 6)]))
 (.bad))
 (.out (0, [.i (gI p 1), .i (gI p 2), .l (gL p 4), .i (gI p 6)]))
def S_wf_ahead : STab := [(0, fun p => ⟨(t0 (t0 .nil (t2 (.int .i64 (gI p 0)) (t0 (t1 (.int .i64 (gI p 1))) .nil) .nil)) (t0 (t0 (t0 (t1 (.fz [] 40 lt4 (gL p 2))) .nil) .nil) (t0 (t0 (t1 (.int .i64 (gI p 3))) .nil) .nil))), [], [], 1⟩),
 (2, fun p => ⟨(t0 (t0 (t0 (t0 .nil (t1 (.fz [] 27 lt5 (gL p 0)))) .nil) (t2 (.int .i64 (gI p 1)) (t0 (t1 (.int .i64 (gI p 2))) (t1 (.int .i64 (gI p 3)))) .nil)) (t0 (t0 (t0 (t1 (.fz [] 40 lt4 (gL p 4))) (t1 (.int .i64 (gI p 5)))) .nil) (t0 (t0 (t1 (.int .i64 (gI p 6))) .nil) .nil))), [], [], 1⟩)]
def T_wf_ahead : TTab := [(0, [fun p => (.exit 0, ⟨(t0 (t0 .nil (t1 (.int .i64 (gI p 0)))) (t0 (t0 .nil .nil) .nil)), [], [], 1⟩)]),
 (2, [fun p => (.exit 2, ⟨(t0 (t0 .nil (t2 (.int .i64 (gI p 0)) (t0 (t1 (.int .i64 (gI p 1))) .nil) .nil)) (t0 (t0 (t0 (t1 (.fz [] 40 lt4 (gL p 2))) .nil) .nil) (t0 (t0 (t1 (.int .i64 (gI p 3))) .nil) .nil))), [], [], 1⟩)])]
def F_wf_ahead : Fn := { np := 2, bs := [0, 2], main := M_wf_ahead, lps := [(0, L_wf_ahead_0), (2, L_wf_ahead_2)] }
def M_ir_Types (x : List D) : Sh :=
 .ask (lim (1 + (List.length (D.els (D.fld (gD x 0) 2)))) 8)
 (.loop 0 [.i 0, .l (D.els (D.fld (gD x 0) 4)), .i (Int.ofNat (List.length (D.els (D.fld (gD x 0) 4)))), .l ([.i 0] ++ (D.els (D.fld (gD x 0) 2)))] (.cons (fun p0 =>
 .ret (.l (gL p0 0)) [])
 .nil))
 (.bad)
def L_ir_Types_0 (p : List D) : Sh :=
 .ask (ltI (gI p 0) (gI p 2))
 (.ask (within (gI p 0) (List.length (gL p 1)))
 (.loop 2 [.i (gI p 0), .l (gL p 1), .i (Int.ofNat (List.length (D.els (gD (gL p 1) (Int.toNat (gI p 0)))))), .l (D.els (gD (gL p 1) (Int.toNat (gI p 0)))), .i (gI p 2), .i 0, .l (gL p 3)] (.cons (fun p0 =>
 .again [.i (wrapA .i64 ((gI p0 0) + 1)), .l (gL p0 1), .i (gI p0 2), .l (gL p0 3)])
 .nil))
 (.bad))
 (.out (0, [.l (gL p 3)]))
def L_ir_Types_2 (p : List D) : Sh :=
 .ask (ltI (gI p 5) (gI p 2))
 (.ask (within (gI p 5) (List.length (gL p 3)))
 (.ask (!(eqI (D.toI (D.fld (gD (gL p 3) (Int.toNat (gI p 5))) 1)) 0))
 (.ask (lim ((List.length (gL p 6)) + 1) 8)
 (.again [.i (gI p 0), .l (gL p 1), .i (gI p 2), .l (gL p 3), .i (gI p 4), .i (wrapA .i64 ((gI p 5) + 1)), .l ((gL p 6) ++ [.i (D.toI (D.fld (gD (gL p 3) (Int.toNat (gI p 5))) 1))])])
 (.bad))
 (.again [.i (gI p 0), .l (gL p 1), .i (gI p 2), .l (gL p 3), .i (gI p 4), .i (wrapA .i64 ((gI p 5) + 1)), .l (gL p 6)]))
 (.bad))
 (.out (0, [.i (gI p 0), .l (gL p 1), .i (gI p 4), .l (gL p 6)]))
def S_ir_Types : STab := [(0, fun p => ⟨(t0 (t0 (t2 (.vw 200003 0 []) (t0 (t1 (.int .i64 (gI p 0))) .nil) .nil) (t0 .nil (t1 (.fz [] 40 lt4 (gL p 1))))) (t0 .nil (t0 .nil (t1 (.int .i64 (gI p 2)))))), [], [(200003, ⟨3, [.int .i64], (gL p 3), [], 0, [0, 0, 0, 0], 0⟩)], 1⟩),
 (2, fun p => ⟨(t0 (t0 (t2 (.vw 200003 0 []) (t0 (t1 (.int .i64 (gI p 0))) .nil) .nil) (t0 .nil (t2 (.fz [] 40 lt4 (gL p 1)) (t1 (.int .i64 (gI p 2))) .nil))) (t0 (t0 .nil (t0 (t1 (.fz [] 27 lt5 (gL p 3))) .nil)) (t0 .nil (t2 (.int .i64 (gI p 4)) (t1 (.int .i64 (gI p 5))) .nil)))), [], [(200003, ⟨3, [.int .i64], (gL p 6), [], 0, [0, 0, 0, 0], 0⟩)], 1⟩)]
def T_ir_Types : TTab := [(0, [fun p => (.exit 0, ⟨(t0 (t0 (t1 (.vw 200003 0 [])) .nil) (t0 .nil .nil)), [], [(200003, ⟨3, [.int .i64], (gL p 0), [], 0, [0, 0, 0, 0], 0⟩)], 1⟩)]),
 (2, [fun p => (.exit 2, ⟨(t0 (t0 (t2 (.vw 200003 0 []) (t0 (t1 (.int .i64 (gI p 0))) .nil) .nil) (t0 .nil (t1 (.fz [] 40 lt4 (gL p 1))))) (t0 .nil (t0 .nil (t1 (.int .i64 (gI p 2)))))), [], [(200003, ⟨3, [.int .i64], (gL p 3), [], 0, [0, 0, 0, 0], 0⟩)], 1⟩)])]
def F_ir_Types : Fn := { np := 1, bs := [0, 2], main := M_ir_Types, lps := [(0, L_ir_Types_0), (2, L_ir_Types_2)] }
def M_ir_copyIns (x : List D) : Sh :=
 .call slices_Clone_Sint_int [.l (D.els (D.fld (gD x 0) 5))] 0 fun r0 _ =>
 .call slices_Clone_Sint_int [.l (D.els (D.fld (gD x 0) 6))] 0 fun r1 _ =>
 .ret (.l [.i (D.toI (D.fld (gD x 0) 0)), .i (D.toI (D.fld (gD x 0) 1)), .i (D.toI (D.fld (gD x 0) 2)), .i (D.toI (D.fld (gD x 0) 3)), .i (D.toI (D.fld (gD x 0) 4)), .l (D.els r0), .l (D.els r1)]) []
def S_ir_copyIns : STab := []
def T_ir_copyIns : TTab := []
def F_ir_copyIns : Fn := { np := 1, bs := [], main := M_ir_copyIns, lps := [] }
def J_facts_Func_off_0 (x : List D) : Sh :=
 .ask (eqI (D.toI (D.fld (gD (D.els (D.fld (gD x 0) 3)) (Int.toNat (D.toI (gD x 1)))) 0)) 19)
 (.ask (within 0 (List.length (D.els (D.fld (gD (D.els (D.fld (gD x 0) 3)) (Int.toNat (D.toI (gD x 1)))) 5))))
 (.call facts_Func_off [.l [.l (D.els (D.fld (gD x 0) 0)), .l (D.els (D.fld (gD x 0) 1)), .l (D.els (D.fld (gD x 0) 2)), .l (D.els (D.fld (gD x 0) 3))], .i (D.toI (gD (D.els (D.fld (gD (D.els (D.fld (gD x 0) 3)) (Int.toNat (D.toI (gD x 1)))) 5)) 0))] 1 fun r0 q0 =>
 .ask (within 1 (List.length (D.els (D.fld (gD (D.els (D.fld (gD x 0) 3)) (Int.toNat (D.toI (gD x 1)))) 5))))
 (.call facts_Func_Num [.l [.l (D.els (D.fld (gD q0 0) 0)), .l (D.els (D.fld (gD q0 0) 1)), .l (D.els (D.fld (gD q0 0) 2)), .l (D.els (D.fld (gD q0 0) 3))], .i (D.toI (gD (D.els (D.fld (gD (D.els (D.fld (gD x 0) 3)) (Int.toNat (D.toI (gD x 1)))) 5)) 1))] 0 fun r1 _ =>
 .ask ((eqI (D.toI (D.fld r0 0)) 1) && (D.toB (D.fld r1 1)))
 (.ask (within (D.toI (gD x 1)) (List.length (D.els (D.fld (gD q0 0) 2))))
 (let z0 := List.set (D.els (D.fld (gD q0 0) 2)) (Int.toNat (D.toI (gD x 1))) (D.l (setPad (D.els (gD (D.els (D.fld (gD q0 0) 2)) (Int.toNat (D.toI (gD x 1))))) 0 (D.i 1))); .ret (D.l [D.i 1, D.i (wrapA .i64 ((D.toI (D.fld r0 1)) + (D.toI (D.fld r1 0))))]) [D.l [D.l (D.els (D.fld (gD q0 0) 0)), D.l (D.els (D.fld (gD q0 0) 1)), D.l (List.set z0 (Int.toNat (D.toI (gD x 1))) (D.l (setPad (D.els (gD z0 (Int.toNat (D.toI (gD x 1))))) 1 (D.i (wrapA .i64 ((D.toI (D.fld r0 1)) + (D.toI (D.fld r1 0)))))))), D.l (D.els (D.fld (gD q0 0) 3))]])
 (.bad))
 (.ask (within (D.toI (gD x 1)) (List.length (D.els (D.fld (gD q0 0) 2))))
 (let z0 := List.set (D.els (D.fld (gD q0 0) 2)) (Int.toNat (D.toI (gD x 1))) (D.l (setPad (D.els (gD (D.els (D.fld (gD q0 0) 2)) (Int.toNat (D.toI (gD x 1))))) 0 (D.i 2))); .ret (D.l [D.i 2, D.i 0]) [D.l [D.l (D.els (D.fld (gD q0 0) 0)), D.l (D.els (D.fld (gD q0 0) 1)), D.l (List.set z0 (Int.toNat (D.toI (gD x 1))) (D.l (setPad (D.els (gD z0 (Int.toNat (D.toI (gD x 1))))) 1 (D.i 0)))), D.l (D.els (D.fld (gD q0 0) 3))]])
 (.bad)))
 (.bad))
 (.bad))
 (.ask (within (D.toI (gD x 1)) (List.length (D.els (D.fld (gD x 0) 2))))
 (let z0 := List.set (D.els (D.fld (gD x 0) 2)) (Int.toNat (D.toI (gD x 1))) (D.l (setPad (D.els (gD (D.els (D.fld (gD x 0) 2)) (Int.toNat (D.toI (gD x 1))))) 0 (D.i 2))); .ret (D.l [D.i 2, D.i 0]) [D.l [D.l (D.els (D.fld (gD x 0) 0)), D.l (D.els (D.fld (gD x 0) 1)), D.l (List.set z0 (Int.toNat (D.toI (gD x 1))) (D.l (setPad (D.els (gD z0 (Int.toNat (D.toI (gD x 1))))) 1 (D.i 0)))), D.l (D.els (D.fld (gD x 0) 3))]])
 (.bad))
def J_facts_Func_off_1 (x : List D) : Sh :=
 .ask (within (D.toI (gD x 1)) (List.length (D.els (D.fld (gD x 0) 2))))
 (let z0 := List.set (D.els (D.fld (gD x 0) 2)) (Int.toNat (D.toI (gD x 1))) (D.l (setPad (D.els (gD (D.els (D.fld (gD x 0) 2)) (Int.toNat (D.toI (gD x 1))))) 0 (D.i 1))); .ret (D.l [D.i 1, D.i 0]) [D.l [D.l (D.els (D.fld (gD x 0) 0)), D.l (D.els (D.fld (gD x 0) 1)), D.l (List.set z0 (Int.toNat (D.toI (gD x 1))) (D.l (setPad (D.els (gD z0 (Int.toNat (D.toI (gD x 1))))) 1 (D.i 0)))), D.l (D.els (D.fld (gD x 0) 3))]])
 (.bad)
def M_facts_Func_off (x : List D) : Sh :=
 .ask (within (D.toI (gD x 1)) (List.length (D.els (D.fld (gD x 0) 0))))
 (.ask ((!(!(!(eqI (D.toI (gD (D.els (D.fld (gD x 0) 0)) (Int.toNat (D.toI (gD x 1))))) 3)))) || (within (D.toI (gD x 1)) (List.length (D.els (D.fld (gD x 0) 2)))))
 (.ask ((!(eqI (D.toI (gD (D.els (D.fld (gD x 0) 0)) (Int.toNat (D.toI (gD x 1))))) 3)) || (!(eqI (D.toI (D.fld (gD (D.els (D.fld (gD x 0) 2)) (Int.toNat (D.toI (gD x 1)))) 0)) 0)))
 (.ask (within (D.toI (gD x 1)) (List.length (D.els (D.fld (gD x 0) 2))))
 (.ret (.l [.i (D.toI (D.fld (gD (D.els (D.fld (gD x 0) 2)) (Int.toNat (D.toI (gD x 1)))) 0)), .i (D.toI (D.fld (gD (D.els (D.fld (gD x 0) 2)) (Int.toNat (D.toI (gD x 1)))) 1))]) [.l [.l (D.els (D.fld (gD x 0) 0)), .l (D.els (D.fld (gD x 0) 1)), .l (D.els (D.fld (gD x 0) 2)), .l (D.els (D.fld (gD x 0) 3))]])
 (.bad))
 (.ask (within (D.toI (gD x 1)) (List.length (D.els (D.fld (gD x 0) 3))))
 (.ask (eqI (D.toI (D.fld (gD (D.els (D.fld (gD x 0) 3)) (Int.toNat (D.toI (gD x 1)))) 0)) 18)
 (.ask (eqI (D.toI (D.fld (gD (D.els (D.fld (gD x 0) 3)) (Int.toNat (D.toI (gD x 1)))) 0)) 18)
 (J_facts_Func_off_1 x)
 (J_facts_Func_off_0 x))
 (.ask (eqI (D.toI (D.fld (gD (D.els (D.fld (gD x 0) 3)) (Int.toNat (D.toI (gD x 1)))) 0)) 3)
 (J_facts_Func_off_1 x)
 (J_facts_Func_off_0 x)))
 (.bad)))
 (.bad))
 (.bad)
def S_facts_Func_off : STab := []
def T_facts_Func_off : TTab := []
def F_facts_Func_off : Fn := { np := 2, bs := [], main := M_facts_Func_off, lps := [] }
def M_flow_walker_visit (x : List D) : Sh :=
 .ask (within (D.toI (gD x 1)) (List.length (D.els (D.fld (gD x 0) 5))))
 (.call flow_Next [.l [.s (D.toS (D.fld (gD x 0) 0)), .b (D.toB (D.fld (gD x 0) 1)), .l (D.els (D.fld (gD x 0) 2)), .i (D.toI (D.fld (gD x 0) 3)), .l (D.els (D.fld (gD x 0) 4))], .i (D.toI (gD x 1))] 0 fun r0 _ =>
 .loop 0 [.i (D.toI (gD x 1)), .i 0, .i (Int.ofNat (List.length (D.els r0))), .s (D.toS (D.fld (gD x 0) 0)), .b (D.toB (D.fld (gD x 0) 1)), .l (D.els (D.fld (gD x 0) 2)), .i (D.toI (D.fld (gD x 0) 3)), .l (D.els (D.fld (gD x 0) 4)), .b (D.toB (D.fld (gD x 0) 7)), .l (List.set (D.els (D.fld (gD x 0) 5)) (Int.toNat (D.toI (gD x 1))) (D.i 1)), .l (D.els (D.fld (gD x 0) 6)), .l (D.els r0)] (.cons (fun p1 =>
 .ask (within (gI p1 0) (List.length (gL p1 7)))
 (.ask (lim ((List.length (gL p1 8)) + 1) 8)
 (.ret (.l []) [.l [.s (gS p1 1), .b (gB p1 2), .l (gL p1 3), .i (gI p1 4), .l (gL p1 5), .l (List.set (gL p1 7) (Int.toNat (gI p1 0)) (D.i 2)), .l ((gL p1 8) ++ [.i (gI p1 0)]), .b (gB p1 6)]])
 (.bad))
 (.bad))
 .nil))
 (.bad)
def L_flow_walker_visit_0 (p : List D) : Sh :=
 .ask (ltI (gI p 1) (gI p 2))
 (.ask (within (gI p 1) (List.length (gL p 11)))
 (.ask (within (D.toI (gD (gL p 11) (Int.toNat (gI p 1)))) (List.length (gL p 9)))
 (.ask (eqI (D.toI (gD (gL p 9) (Int.toNat (D.toI (gD (gL p 11) (Int.toNat (gI p 1))))))) 0)
 (.call flow_walker_visit [.l [.s (gS p 3), .b (gB p 4), .l (gL p 5), .i (gI p 6), .l (gL p 7), .l (gL p 9), .l (gL p 10), .b (gB p 8)], .i (D.toI (gD (gL p 11) (Int.toNat (gI p 1))))] 1 fun r0 q0 =>
 .again [.i (gI p 0), .i (wrapA .i64 ((gI p 1) + 1)), .i (gI p 2), .s (D.toS (D.fld (gD q0 0) 0)), .b (D.toB (D.fld (gD q0 0) 1)), .l (D.els (D.fld (gD q0 0) 2)), .i (D.toI (D.fld (gD q0 0) 3)), .l (D.els (D.fld (gD q0 0) 4)), .b (D.toB (D.fld (gD q0 0) 7)), .l (D.els (D.fld (gD q0 0) 5)), .l (D.els (D.fld (gD q0 0) 6)), .l (gL p 11)])
 (.ask (eqI (D.toI (gD (gL p 9) (Int.toNat (D.toI (gD (gL p 11) (Int.toNat (gI p 1))))))) 1)
 (.again [.i (gI p 0), .i (wrapA .i64 ((gI p 1) + 1)), .i (gI p 2), .s (gS p 3), .b (gB p 4), .l (gL p 5), .i (gI p 6), .l (gL p 7), .b true, .l (gL p 9), .l (gL p 10), .l (gL p 11)])
 (.again [.i (gI p 0), .i (wrapA .i64 ((gI p 1) + 1)), .i (gI p 2), .s (gS p 3), .b (gB p 4), .l (gL p 5), .i (gI p 6), .l (gL p 7), .b (gB p 8), .l (gL p 9), .l (gL p 10), .l (gL p 11)])))
 (.bad))
 (.bad))
 (.out (0, [.i (gI p 0), .s (gS p 3), .b (gB p 4), .l (gL p 5), .i (gI p 6), .l (gL p 7), .b (gB p 8), .l (gL p 9), .l (gL p 10)]))
def S_flow_walker_visit : STab := [(0, fun p => ⟨(t2 (.pb 500 0 0) (t2 (.int .i64 (gI p 0)) (t0 .nil (t0 (t1 (.int .i64 (gI p 1))) .nil)) (t0 (t0 (t1 (.vw 18000000 0 [])) .nil) .nil)) (t0 .nil (t0 (t0 (t1 (.int .i64 (gI p 2))) .nil) .nil))), [(500, ⟨0, [.str (gS p 3), .bool (gB p 4), .fz [] 3 [.int .i64] (gL p 5), .int .i64 (gI p 6), .fz [] 40 lt4 (gL p 7), .vw 332005 0 [], .vw 332006 0 [], .bool (gB p 8)], none⟩)], [(332005, ⟨3, [.int .i64], (gL p 9), [], 0, [0, 0, 0, 0], 0⟩), (332006, ⟨3, [.int .i64], (gL p 10), [], 0, [0, 0, 0, 0], 0⟩), (18000000, ⟨3, [.int .i64], (gL p 11), [], 0, [0, 0, 0, 0], 0⟩)], 1⟩)]
def T_flow_walker_visit : TTab := [(0, [fun p => (.exit 0, ⟨(t2 (.pb 500 0 0) (t1 (.int .i64 (gI p 0))) .nil), [(500, ⟨0, [.str (gS p 1), .bool (gB p 2), .fz [] 3 [.int .i64] (gL p 3), .int .i64 (gI p 4), .fz [] 40 lt4 (gL p 5), .vw 332005 0 [], .vw 332006 0 [], .bool (gB p 6)], none⟩)], [(332005, ⟨3, [.int .i64], (gL p 7), [], 0, [0, 0, 0, 0], 0⟩), (332006, ⟨3, [.int .i64], (gL p 8), [], 0, [0, 0, 0, 0], 0⟩)], 1⟩)])]
def F_flow_walker_visit : Fn := { np := 2, bs := [0], main := M_flow_walker_visit, lps := [(0, L_flow_walker_visit_0)] }
def M_math_bits_Len32 (x : List D) : Sh :=
 .ask (leI 65536 (D.toI (gD x 0)))
 (.ask (leI 0 16)
 (.ask (leI 256 (shrV .u32 (D.toI (gD x 0)) 16))
 (.ask (leI 0 8)
 (.ask (within (wrapA .u8 (shrV .u32 (shrV .u32 (D.toI (gD x 0)) 16) 8)) 256)
 (.ret (.i (wrapA .i64 ((wrapA .i64 (16 + 8)) + (wrapA .i64 (byteV [0, 1, 2, 2, 3, 3, 3, 3, 4, 4, 4, 4, 4, 4, 4, 4, 5, 5, 5, 5, 5, 5, 5, 5, 5, 5, 5, 5, 5, 5, 5, 5, 6, 6, 6, 6, 6, 6, 6, 6, 6, 6, 6, 6, 6, 6, 6, 6, 6, 6, 6, 6, 6, 6, 6, 6, 6, 6, 6, 6, 6, 6, 6, 6, 7, 7, 7, 7, 7, 7, 7, 7, 7, 7, 7, 7, 7, 7, 7, 7, 7, 7, 7, 7, 7, 7, 7, 7, 7, 7, 7, 7, 7, 7, 7, 7, 7, 7, 7, 7, 7, 7, 7, 7, 7, 7, 7, 7, 7, 7, 7, 7, 7, 7, 7, 7, 7, 7, 7, 7, 7, 7, 7, 7, 7, 7, 7, 7, 8, 8, 8, 8, 8, 8, 8, 8, 8, 8, 8, 8, 8, 8, 8, 8, 8, 8, 8, 8, 8, 8, 8, 8, 8, 8, 8, 8, 8, 8, 8, 8, 8, 8, 8, 8, 8, 8, 8, 8, 8, 8, 8, 8, 8, 8, 8, 8, 8, 8, 8, 8, 8, 8, 8, 8, 8, 8, 8, 8, 8, 8, 8, 8, 8, 8, 8, 8, 8, 8, 8, 8, 8, 8, 8, 8, 8, 8, 8, 8, 8, 8, 8, 8, 8, 8, 8, 8, 8, 8, 8, 8, 8, 8, 8, 8, 8, 8, 8, 8, 8, 8, 8, 8, 8, 8, 8, 8, 8, 8, 8, 8, 8, 8, 8, 8, 8, 8, 8, 8, 8, 8, 8, 8, 8, 8, 8, 8] (wrapA .u8 (shrV .u32 (shrV .u32 (D.toI (gD x 0)) 16) 8))))))) [])
 (.bad))
 (.bad))
 (.ask (within (wrapA .u8 (shrV .u32 (D.toI (gD x 0)) 16)) 256)
 (.ret (.i (wrapA .i64 (16 + (wrapA .i64 (byteV [0, 1, 2, 2, 3, 3, 3, 3, 4, 4, 4, 4, 4, 4, 4, 4, 5, 5, 5, 5, 5, 5, 5, 5, 5, 5, 5, 5, 5, 5, 5, 5, 6, 6, 6, 6, 6, 6, 6, 6, 6, 6, 6, 6, 6, 6, 6, 6, 6, 6, 6, 6, 6, 6, 6, 6, 6, 6, 6, 6, 6, 6, 6, 6, 7, 7, 7, 7, 7, 7, 7, 7, 7, 7, 7, 7, 7, 7, 7, 7, 7, 7, 7, 7, 7, 7, 7, 7, 7, 7, 7, 7, 7, 7, 7, 7, 7, 7, 7, 7, 7, 7, 7, 7, 7, 7, 7, 7, 7, 7, 7, 7, 7, 7, 7, 7, 7, 7, 7, 7, 7, 7, 7, 7, 7, 7, 7, 7, 8, 8, 8, 8, 8, 8, 8, 8, 8, 8, 8, 8, 8, 8, 8, 8, 8, 8, 8, 8, 8, 8, 8, 8, 8, 8, 8, 8, 8, 8, 8, 8, 8, 8, 8, 8, 8, 8, 8, 8, 8, 8, 8, 8, 8, 8, 8, 8, 8, 8, 8, 8, 8, 8, 8, 8, 8, 8, 8, 8, 8, 8, 8, 8, 8, 8, 8, 8, 8, 8, 8, 8, 8, 8, 8, 8, 8, 8, 8, 8, 8, 8, 8, 8, 8, 8, 8, 8, 8, 8, 8, 8, 8, 8, 8, 8, 8, 8, 8, 8, 8, 8, 8, 8, 8, 8, 8, 8, 8, 8, 8, 8, 8, 8, 8, 8, 8, 8, 8, 8, 8, 8, 8, 8, 8, 8, 8, 8] (wrapA .u8 (shrV .u32 (D.toI (gD x 0)) 16))))))) [])
 (.bad)))
 (.bad))
 (.ask (leI 256 (D.toI (gD x 0)))
 (.ask (leI 0 8)
 (.ask (within (wrapA .u8 (shrV .u32 (D.toI (gD x 0)) 8)) 256)
 (.ret (.i (wrapA .i64 ((wrapA .i64 (0 + 8)) + (wrapA .i64 (byteV [0, 1, 2, 2, 3, 3, 3, 3, 4, 4, 4, 4, 4, 4, 4, 4, 5, 5, 5, 5, 5, 5, 5, 5, 5, 5, 5, 5, 5, 5, 5, 5, 6, 6, 6, 6, 6, 6, 6, 6, 6, 6, 6, 6, 6, 6, 6, 6, 6, 6, 6, 6, 6, 6, 6, 6, 6, 6, 6, 6, 6, 6, 6, 6, 7, 7, 7, 7, 7, 7, 7, 7, 7, 7, 7, 7, 7, 7, 7, 7, 7, 7, 7, 7, 7, 7, 7, 7, 7, 7, 7, 7, 7, 7, 7, 7, 7, 7, 7, 7, 7, 7, 7, 7, 7, 7, 7, 7, 7, 7, 7, 7, 7, 7, 7, 7, 7, 7, 7, 7, 7, 7, 7, 7, 7, 7, 7, 7, 8, 8, 8, 8, 8, 8, 8, 8, 8, 8, 8, 8, 8, 8, 8, 8, 8, 8, 8, 8, 8, 8, 8, 8, 8, 8, 8, 8, 8, 8, 8, 8, 8, 8, 8, 8, 8, 8, 8, 8, 8, 8, 8, 8, 8, 8, 8, 8, 8, 8, 8, 8, 8, 8, 8, 8, 8, 8, 8, 8, 8, 8, 8, 8, 8, 8, 8, 8, 8, 8, 8, 8, 8, 8, 8, 8, 8, 8, 8, 8, 8, 8, 8, 8, 8, 8, 8, 8, 8, 8, 8, 8, 8, 8, 8, 8, 8, 8, 8, 8, 8, 8, 8, 8, 8, 8, 8, 8, 8, 8, 8, 8, 8, 8, 8, 8, 8, 8, 8, 8, 8, 8, 8, 8, 8, 8, 8, 8] (wrapA .u8 (shrV .u32 (D.toI (gD x 0)) 8))))))) [])
 (.bad))
 (.bad))
 (.ask (within (wrapA .u8 (D.toI (gD x 0))) 256)
 (.ret (.i (wrapA .i64 (0 + (wrapA .i64 (byteV [0, 1, 2, 2, 3, 3, 3, 3, 4, 4, 4, 4, 4, 4, 4, 4, 5, 5, 5, 5, 5, 5, 5, 5, 5, 5, 5, 5, 5, 5, 5, 5, 6, 6, 6, 6, 6, 6, 6, 6, 6, 6, 6, 6, 6, 6, 6, 6, 6, 6, 6, 6, 6, 6, 6, 6, 6, 6, 6, 6, 6, 6, 6, 6, 7, 7, 7, 7, 7, 7, 7, 7, 7, 7, 7, 7, 7, 7, 7, 7, 7, 7, 7, 7, 7, 7, 7, 7, 7, 7, 7, 7, 7, 7, 7, 7, 7, 7, 7, 7, 7, 7, 7, 7, 7, 7, 7, 7, 7, 7, 7, 7, 7, 7, 7, 7, 7, 7, 7, 7, 7, 7, 7, 7, 7, 7, 7, 7, 8, 8, 8, 8, 8, 8, 8, 8, 8, 8, 8, 8, 8, 8, 8, 8, 8, 8, 8, 8, 8, 8, 8, 8, 8, 8, 8, 8, 8, 8, 8, 8, 8, 8, 8, 8, 8, 8, 8, 8, 8, 8, 8, 8, 8, 8, 8, 8, 8, 8, 8, 8, 8, 8, 8, 8, 8, 8, 8, 8, 8, 8, 8, 8, 8, 8, 8, 8, 8, 8, 8, 8, 8, 8, 8, 8, 8, 8, 8, 8, 8, 8, 8, 8, 8, 8, 8, 8, 8, 8, 8, 8, 8, 8, 8, 8, 8, 8, 8, 8, 8, 8, 8, 8, 8, 8, 8, 8, 8, 8, 8, 8, 8, 8, 8, 8, 8, 8, 8, 8, 8, 8, 8, 8, 8, 8, 8, 8] (wrapA .u8 (D.toI (gD x 0)))))))) [])
 (.bad)))
def S_math_bits_Len32 : STab := []
def T_math_bits_Len32 : TTab := []
def F_math_bits_Len32 : Fn := { np := 1, bs := [], main := M_math_bits_Len32, lps := [] }
def M_law28_idle (x : List D) : Sh :=
 .ret (.l [.l [], .l [], .l [], .l [.l [.s [102], .b true, .l [.i 1], .i 0, .l [.l [.l [.i 1, .i 1, .i 2, .i 0, .i 5, .l [], .l []], .l [.i 22, .i 1, .i 3, .i 1, .i 0, .l [.i 1, .i 2], .l []], .l [.i 29, .i 0, .i 0, .i 0, .i 0, .l [], .l []]]]], .l [.s [103], .b false, .l [.i 1, .i 1], .i 1, .l [.l [.l [.i 29, .i 0, .i 0, .i 0, .i 0, .l [.i 2], .l []]]]]]]) []
def S_law28_idle : STab := []
def T_law28_idle : TTab := []
def F_law28_idle : Fn := { np := 0, bs := [], main := M_law28_idle, lps := [] }
def M_args_without (x : List D) : Sh :=
 .loop 0 [.l (D.els (gD x 1)), .i 0, .l (D.els (gD x 0)), .i 0, .i (Int.ofNat (List.length (D.els (gD x 0)))), .l []] (.cons (fun p0 =>
 .ret (.l (gL p0 0)) [])
 .nil)
def L_args_without_0 (p : List D) : Sh :=
 .ask (ltI (gI p 1) (gI p 4))
 (.ask (within (gI p 1) (List.length (gL p 2)))
 (.ask ((!((ltI (gI p 3) (Int.ofNat (List.length (gL p 0)))) && true)) || (within (gI p 3) (List.length (gL p 0))))
 (.ask ((ltI (gI p 3) (Int.ofNat (List.length (gL p 0)))) && (eqI (D.toI (gD (gL p 0) (Int.toNat (gI p 3)))) (wrapA .i64 ((gI p 1) + 1))))
 (.again [.l (gL p 0), .i (wrapA .i64 ((gI p 1) + 1)), .l (gL p 2), .i (wrapA .i64 ((gI p 3) + 1)), .i (gI p 4), .l (gL p 5)])
 (.ask (lim ((List.length (gL p 5)) + 1) 8)
 (.again [.l (gL p 0), .i (wrapA .i64 ((gI p 1) + 1)), .l (gL p 2), .i (gI p 3), .i (gI p 4), .l ((gL p 5) ++ [.i (D.toI (gD (gL p 2) (Int.toNat (gI p 1))))])])
 (.bad)))
 (.bad))
 (.bad))
 (.out (0, [.l (gL p 5)]))
def S_args_without : STab := [(0, fun p => ⟨(t0 (t2 (.fz [] 3 [.int .i64] (gL p 0)) (t0 .nil (t1 (.int .i64 (gI p 1)))) (t2 (.vw 200005 0 []) (t1 (.fz [] 3 [.int .i64] (gL p 2))) .nil)) (t0 .nil (t2 (.int .i64 (gI p 3)) (t1 (.int .i64 (gI p 4))) .nil))), [], [(200005, ⟨3, [.int .i64], (gL p 5), [], 0, [0, 0, 0, 0], 0⟩)], 1⟩)]
def T_args_without : TTab := [(0, [fun p => (.exit 0, ⟨(t0 (t0 .nil (t1 (.vw 200005 0 []))) (t0 (t0 .nil .nil) .nil)), [], [(200005, ⟨3, [.int .i64], (gL p 0), [], 0, [0, 0, 0, 0], 0⟩)], 1⟩)])]
def F_args_without : Fn := { np := 2, bs := [0], main := M_args_without, lps := [(0, L_args_without_0)] }
def M_ir_Uses (x : List D) : Sh :=
 .call ir_Values [.l [.s (D.toS (D.fld (gD x 0) 0)), .b (D.toB (D.fld (gD x 0) 1)), .l (D.els (D.fld (gD x 0) 2)), .i (D.toI (D.fld (gD x 0) 3)), .l (D.els (D.fld (gD x 0) 4))]] 0 fun r0 _ =>
 .ask ((leI 0 (wrapA .i64 ((D.toI r0) + 1))) && ((eqI (wrapA .i64 ((D.toI r0) + 1)) (wrapA .i64 ((D.toI r0) + 1))) && (lim (Int.toNat (wrapA .i64 ((D.toI r0) + 1))) 8)))
 (.loop 0 [.l (D.els (D.fld (gD x 0) 4)), .i 0, .i (Int.ofNat (List.length (D.els (D.fld (gD x 0) 4)))), .l (List.replicate (Int.toNat (wrapA .i64 ((D.toI r0) + 1))) (D.i 0))] (.cons (fun p1 =>
 .ret (.l (gL p1 0)) [])
 .nil))
 (.bad)
def L_ir_Uses_0 (p : List D) : Sh :=
 .ask (ltI (gI p 1) (gI p 2))
 (.ask (within (gI p 1) (List.length (gL p 0)))
 (.loop 2 [.l (gL p 0), .i (Int.ofNat (List.length (D.els (gD (gL p 0) (Int.toNat (gI p 1)))))), .i (gI p 1), .i (gI p 2), .i 0, .l (D.els (gD (gL p 0) (Int.toNat (gI p 1)))), .l (gL p 3)] (.cons (fun p0 =>
 .again [.l (gL p0 0), .i (wrapA .i64 ((gI p0 1) + 1)), .i (gI p0 2), .l (gL p0 3)])
 .nil))
 (.bad))
 (.out (0, [.l (gL p 3)]))
def L_ir_Uses_2 (p : List D) : Sh :=
 .ask (ltI (gI p 4) (gI p 1))
 (.ask (within (gI p 4) (List.length (gL p 5)))
 (.loop 4 [.l (gL p 0), .i 0, .i (gI p 1), .i (gI p 2), .l (D.els (D.fld (gD (gL p 5) (Int.toNat (gI p 4))) 5)), .i (gI p 3), .i (gI p 4), .l (gL p 5), .i (Int.ofNat (List.length (D.els (D.fld (gD (gL p 5) (Int.toNat (gI p 4))) 5)))), .l (gL p 6)] (.cons (fun p0 =>
 .again [.l (gL p0 0), .i (gI p0 1), .i (gI p0 2), .i (gI p0 3), .i (wrapA .i64 ((gI p0 4) + 1)), .l (gL p0 5), .l (gL p0 6)])
 .nil))
 (.bad))
 (.out (0, [.l (gL p 0), .i (gI p 2), .i (gI p 3), .l (gL p 6)]))
def L_ir_Uses_4 (p : List D) : Sh :=
 .ask (ltI (gI p 1) (gI p 8))
 (.ask (within (gI p 1) (List.length (gL p 4)))
 (.ask ((leI 0 (D.toI (gD (gL p 4) (Int.toNat (gI p 1))))) && (ltI (D.toI (gD (gL p 4) (Int.toNat (gI p 1)))) (Int.ofNat (List.length (gL p 9)))))
 (.ask (within (D.toI (gD (gL p 4) (Int.toNat (gI p 1)))) (List.length (gL p 9)))
 (.ask (within (D.toI (gD (gL p 4) (Int.toNat (gI p 1)))) (List.length (gL p 9)))
 (.again [.l (gL p 0), .i (wrapA .i64 ((gI p 1) + 1)), .i (gI p 2), .i (gI p 3), .l (gL p 4), .i (gI p 5), .i (gI p 6), .l (gL p 7), .i (gI p 8), .l (List.set (gL p 9) (Int.toNat (D.toI (gD (gL p 4) (Int.toNat (gI p 1))))) (D.i (wrapA .i64 ((D.toI (gD (gL p 9) (Int.toNat (D.toI (gD (gL p 4) (Int.toNat (gI p 1))))))) + 1))))])
 (.bad))
 (.bad))
 (.again [.l (gL p 0), .i (wrapA .i64 ((gI p 1) + 1)), .i (gI p 2), .i (gI p 3), .l (gL p 4), .i (gI p 5), .i (gI p 6), .l (gL p 7), .i (gI p 8), .l (gL p 9)]))
 (.bad))
 (.out (0, [.l (gL p 0), .i (gI p 2), .i (gI p 3), .i (gI p 5), .i (gI p 6), .l (gL p 7), .l (gL p 9)]))
def S_ir_Uses : STab := [(0, fun p => ⟨(t0 (t0 (t2 (.vw 13 0 []) (t0 (t1 (.fz [] 40 lt4 (gL p 0))) .nil) .nil) (t0 (t0 (t1 (.int .i64 (gI p 1))) .nil) .nil)) (t0 (t0 (t0 (t1 (.int .i64 (gI p 2))) .nil) .nil) .nil)), [], [(13, ⟨3, [.int .i64], (gL p 3), [], 0, [0, 0, 0, 0], 0⟩)], 1⟩),
 (2, fun p => ⟨(t0 (t0 (t2 (.vw 13 0 []) (t0 (t1 (.fz [] 40 lt4 (gL p 0))) (t1 (.int .i64 (gI p 1)))) .nil) (t0 (t0 (t1 (.int .i64 (gI p 2))) .nil) .nil)) (t0 (t0 (t0 (t1 (.int .i64 (gI p 3))) (t1 (.int .i64 (gI p 4)))) .nil) (t0 .nil (t0 (t1 (.fz [] 27 lt5 (gL p 5))) .nil)))), [], [(13, ⟨3, [.int .i64], (gL p 6), [], 0, [0, 0, 0, 0], 0⟩)], 1⟩),
 (4, fun p => ⟨(t0 (t0 (t2 (.vw 13 0 []) (t0 (t2 (.fz [] 40 lt4 (gL p 0)) (t1 (.int .i64 (gI p 1))) .nil) (t1 (.int .i64 (gI p 2)))) .nil) (t0 (t0 (t1 (.int .i64 (gI p 3))) .nil) (t0 .nil (t1 (.fz [] 3 [.int .i64] (gL p 4)))))) (t0 (t0 (t0 (t1 (.int .i64 (gI p 5))) (t1 (.int .i64 (gI p 6)))) .nil) (t0 .nil (t0 (t1 (.fz [] 27 lt5 (gL p 7))) (t1 (.int .i64 (gI p 8))))))), [], [(13, ⟨3, [.int .i64], (gL p 9), [], 0, [0, 0, 0, 0], 0⟩)], 1⟩)]
def T_ir_Uses : TTab := [(0, [fun p => (.exit 0, ⟨(t0 (t0 (t1 (.vw 13 0 [])) .nil) (t0 .nil .nil)), [], [(13, ⟨3, [.int .i64], (gL p 0), [], 0, [0, 0, 0, 0], 0⟩)], 1⟩)]),
 (2, [fun p => (.exit 2, ⟨(t0 (t0 (t2 (.vw 13 0 []) (t0 (t1 (.fz [] 40 lt4 (gL p 0))) .nil) .nil) (t0 (t0 (t1 (.int .i64 (gI p 1))) .nil) .nil)) (t0 (t0 (t0 (t1 (.int .i64 (gI p 2))) .nil) .nil) .nil)), [], [(13, ⟨3, [.int .i64], (gL p 3), [], 0, [0, 0, 0, 0], 0⟩)], 1⟩)]),
 (4, [fun p => (.exit 4, ⟨(t0 (t0 (t2 (.vw 13 0 []) (t0 (t1 (.fz [] 40 lt4 (gL p 0))) (t1 (.int .i64 (gI p 1)))) .nil) (t0 (t0 (t1 (.int .i64 (gI p 2))) .nil) .nil)) (t0 (t0 (t0 (t1 (.int .i64 (gI p 3))) (t1 (.int .i64 (gI p 4)))) .nil) (t0 .nil (t0 (t1 (.fz [] 27 lt5 (gL p 5))) .nil)))), [], [(13, ⟨3, [.int .i64], (gL p 6), [], 0, [0, 0, 0, 0], 0⟩)], 1⟩)])]
def F_ir_Uses : Fn := { np := 1, bs := [0, 2, 4], main := M_ir_Uses, lps := [(0, L_ir_Uses_0), (2, L_ir_Uses_2), (4, L_ir_Uses_4)] }
def M_wf_named (x : List D) : Sh :=
 .loop 0 [.i (Int.ofNat (List.length (D.els (D.fld (gD x 0) 0)))), .l (D.els (D.fld (gD x 0) 0)), .i 0, .l (D.els (D.fld (gD x 0) 0)), .l (D.els (D.fld (gD x 0) 1)), .l (D.els (D.fld (gD x 0) 2)), .l (D.els (D.fld (gD x 0) 3)), .l []] (.cons (fun p0 =>
 .loop 2 [.i 0, .l (gL p0 1), .i (Int.ofNat (List.length (gL p0 1))), .l (gL p0 0), .l (gL p0 1), .l (gL p0 2), .l (gL p0 3), .l (gL p0 4)] (.cons (fun p1 =>
 .loop 4 [.i (Int.ofNat (List.length (gL p1 2))), .i 0, .l (gL p1 2), .l (gL p1 0), .l (gL p1 1), .l (gL p1 2), .l (gL p1 3), .l (gL p1 4)] (.cons (fun p2 =>
 .loop 6 [.l (gL p2 3), .i 0, .i (Int.ofNat (List.length (gL p2 3))), .l (gL p2 4)] (.cons (fun p3 =>
 .loop 8 [.i (Int.ofNat (List.length (gL p3 0))), .i 0, .l [], .l (gL p3 0)] (.cons (fun p4 =>
 .ret (.b (gB p4 0)) [])
 (.cons (fun p4 =>
 .ret (.b true) [])
 .nil)))
 .nil))
 .nil))
 .nil))
 .nil)
def L_wf_named_0 (p : List D) : Sh :=
 .ask (ltI (gI p 2) (gI p 0))
 (.ask (within (gI p 2) (List.length (gL p 1)))
 (.ask (lim ((List.length (gL p 7)) + 1) 16)
 (.again [.i (gI p 0), .l (gL p 1), .i (wrapA .i64 ((gI p 2) + 1)), .l (gL p 3), .l (gL p 4), .l (gL p 5), .l (gL p 6), .l ((gL p 7) ++ [.s (D.toS (D.fld (gD (gL p 1) (Int.toNat (gI p 2))) 0))])])
 (.bad))
 (.bad))
 (.out (0, [.l (gL p 3), .l (gL p 4), .l (gL p 5), .l (gL p 6), .l (gL p 7)]))
def L_wf_named_2 (p : List D) : Sh :=
 .ask (ltI (gI p 0) (gI p 2))
 (.ask (within (gI p 0) (List.length (gL p 1)))
 (.ask (lim ((List.length (gL p 7)) + 1) 16)
 (.again [.i (wrapA .i64 ((gI p 0) + 1)), .l (gL p 1), .i (gI p 2), .l (gL p 3), .l (gL p 4), .l (gL p 5), .l (gL p 6), .l ((gL p 7) ++ [.s (D.toS (D.fld (gD (gL p 1) (Int.toNat (gI p 0))) 0))])])
 (.bad))
 (.bad))
 (.out (0, [.l (gL p 3), .l (gL p 4), .l (gL p 5), .l (gL p 6), .l (gL p 7)]))
def L_wf_named_4 (p : List D) : Sh :=
 .ask (ltI (gI p 1) (gI p 0))
 (.ask (within (gI p 1) (List.length (gL p 2)))
 (.ask (lim ((List.length (gL p 7)) + 1) 16)
 (.again [.i (gI p 0), .i (wrapA .i64 ((gI p 1) + 1)), .l (gL p 2), .l (gL p 3), .l (gL p 4), .l (gL p 5), .l (gL p 6), .l ((gL p 7) ++ [.s (D.toS (D.fld (gD (gL p 2) (Int.toNat (gI p 1))) 0))])])
 (.bad))
 (.bad))
 (.out (0, [.l (gL p 3), .l (gL p 4), .l (gL p 5), .l (gL p 6), .l (gL p 7)]))
def L_wf_named_6 (p : List D) : Sh :=
 .ask (ltI (gI p 1) (gI p 2))
 (.ask (within (gI p 1) (List.length (gL p 0)))
 (.ask (lim ((List.length (gL p 3)) + 1) 16)
 (.again [.l (gL p 0), .i (wrapA .i64 ((gI p 1) + 1)), .i (gI p 2), .l ((gL p 3) ++ [.s (D.toS (D.fld (gD (gL p 0) (Int.toNat (gI p 1))) 0))])])
 (.bad))
 (.bad))
 (.out (0, [.l (gL p 3)]))
def L_wf_named_8 (p : List D) : Sh :=
 .ask (ltI (gI p 1) (gI p 0))
 (.ask (within (gI p 1) (List.length (gL p 3)))
 (.call wf_Name [.s (D.toS (gD (gL p 3) (Int.toNat (gI p 1))))] 0 fun r0 _ =>
 .ask ((!(D.toB r0)) || (ltI 1 (D.toI (gotD (.int .i64) (findD .str (.s (D.toS (gD (gL p 3) (Int.toNat (gI p 1))))) 0 (putD (.s (D.toS (gD (gL p 3) (Int.toNat (gI p 1))))) (.i (wrapA .i64 ((D.toI (gotD (.int .i64) (findD .str (.s (D.toS (gD (gL p 3) (Int.toNat (gI p 1))))) 0 (gL p 2)))) + 1))) (gL p 2) (findD .str (.s (D.toS (gD (gL p 3) (Int.toNat (gI p 1))))) 0 (gL p 2))))))))
 (.out (0, [.b false]))
 (.again [.i (gI p 0), .i (wrapA .i64 ((gI p 1) + 1)), .l (putD (.s (D.toS (gD (gL p 3) (Int.toNat (gI p 1))))) (.i (wrapA .i64 ((D.toI (gotD (.int .i64) (findD .str (.s (D.toS (gD (gL p 3) (Int.toNat (gI p 1))))) 0 (gL p 2)))) + 1))) (gL p 2) (findD .str (.s (D.toS (gD (gL p 3) (Int.toNat (gI p 1))))) 0 (gL p 2))), .l (gL p 3)]))
 (.bad))
 (.out (1, []))
def S_wf_named : STab := [(0, fun p => ⟨(t0 (t2 (.pb 1 0 0) (t1 (.vw 200003 0 [])) (t0 (t0 (t1 (.int .i64 (gI p 0))) .nil) .nil)) (t0 (t0 (t0 (t1 (.fz [] 38 lt1 (gL p 1))) .nil) .nil) (t0 (t0 (t1 (.int .i64 (gI p 2))) .nil) .nil))), [(1, ⟨0, [.fz [] 38 lt1 (gL p 3), .fz [] 67 [.str, .sl false 2 [.int .i64]] (gL p 4), .fz [] 70 [.str, .sl false 3 [.int .i64]] (gL p 5), .fz [] 43 lt2 (gL p 6)], none⟩)], [(200003, ⟨9, [.str], (gL p 7), [], 0, [0, 0, 0, 0], 0⟩)], 1⟩),
 (2, fun p => ⟨(t0 (t2 (.pb 1 0 0) (t2 (.vw 200003 0 []) (t0 (t0 (t1 (.int .i64 (gI p 0))) .nil) .nil) .nil) (t0 .nil (t0 .nil (t1 (.fz [] 67 [.str, .sl false 2 [.int .i64]] (gL p 1)))))) (t0 .nil (t0 .nil (t0 .nil (t1 (.int .i64 (gI p 2))))))), [(1, ⟨0, [.fz [] 38 lt1 (gL p 3), .fz [] 67 [.str, .sl false 2 [.int .i64]] (gL p 4), .fz [] 70 [.str, .sl false 3 [.int .i64]] (gL p 5), .fz [] 43 lt2 (gL p 6)], none⟩)], [(200003, ⟨9, [.str], (gL p 7), [], 0, [0, 0, 0, 0], 0⟩)], 1⟩),
 (4, fun p => ⟨(t0 (t2 (.pb 1 0 0) (t2 (.vw 200003 0 []) .nil (t0 .nil (t0 (t1 (.int .i64 (gI p 0))) .nil))) .nil) (t0 (t0 .nil (t0 .nil (t0 (t1 (.int .i64 (gI p 1))) .nil))) (t0 (t0 .nil (t0 (t1 (.fz [] 70 [.str, .sl false 3 [.int .i64]] (gL p 2))) .nil)) .nil))), [(1, ⟨0, [.fz [] 38 lt1 (gL p 3), .fz [] 67 [.str, .sl false 2 [.int .i64]] (gL p 4), .fz [] 70 [.str, .sl false 3 [.int .i64]] (gL p 5), .fz [] 43 lt2 (gL p 6)], none⟩)], [(200003, ⟨9, [.str], (gL p 7), [], 0, [0, 0, 0, 0], 0⟩)], 1⟩),
 (6, fun p => ⟨(t0 (t0 (t2 (.vw 200003 0 []) (t0 .nil (t0 .nil (t1 (.fz [] 43 lt2 (gL p 0))))) .nil) (t0 (t0 .nil (t0 .nil (t1 (.int .i64 (gI p 1))))) .nil)) (t0 (t0 (t0 .nil (t0 .nil (t1 (.int .i64 (gI p 2))))) .nil) .nil)), [], [(200003, ⟨9, [.str], (gL p 3), [], 0, [0, 0, 0, 0], 0⟩)], 1⟩),
 (8, fun p => ⟨(t0 (t0 .nil (t0 .nil (t0 (t0 (t0 (t1 (.int .i64 (gI p 0))) .nil) .nil) .nil))) (t0 (t0 .nil (t2 (.mp 67 0) (t0 (t0 (t1 (.vw 200003 0 [])) .nil) .nil) .nil)) (t0 .nil (t0 (t0 (t0 (t1 (.int .i64 (gI p 1))) .nil) .nil) .nil)))), [(67, ⟨0, [], some ⟨.str, .int .i64, (gL p 2)⟩⟩)], [(200003, ⟨9, [.str], (gL p 3), [], 0, [0, 0, 0, 0], 0⟩)], 1⟩)]
def T_wf_named : TTab := [(0, [fun p => (.exit 0, ⟨(t0 (t2 (.pb 1 0 0) (t1 (.vw 200003 0 [])) .nil) (t0 .nil .nil)), [(1, ⟨0, [.fz [] 38 lt1 (gL p 0), .fz [] 67 [.str, .sl false 2 [.int .i64]] (gL p 1), .fz [] 70 [.str, .sl false 3 [.int .i64]] (gL p 2), .fz [] 43 lt2 (gL p 3)], none⟩)], [(200003, ⟨9, [.str], (gL p 4), [], 0, [0, 0, 0, 0], 0⟩)], 1⟩)]),
 (2, [fun p => (.exit 2, ⟨(t0 (t2 (.pb 1 0 0) (t1 (.vw 200003 0 [])) .nil) (t0 .nil .nil)), [(1, ⟨0, [.fz [] 38 lt1 (gL p 0), .fz [] 67 [.str, .sl false 2 [.int .i64]] (gL p 1), .fz [] 70 [.str, .sl false 3 [.int .i64]] (gL p 2), .fz [] 43 lt2 (gL p 3)], none⟩)], [(200003, ⟨9, [.str], (gL p 4), [], 0, [0, 0, 0, 0], 0⟩)], 1⟩)]),
 (4, [fun p => (.exit 4, ⟨(t0 (t2 (.pb 1 0 0) (t1 (.vw 200003 0 [])) .nil) (t0 .nil .nil)), [(1, ⟨0, [.fz [] 38 lt1 (gL p 0), .fz [] 67 [.str, .sl false 2 [.int .i64]] (gL p 1), .fz [] 70 [.str, .sl false 3 [.int .i64]] (gL p 2), .fz [] 43 lt2 (gL p 3)], none⟩)], [(200003, ⟨9, [.str], (gL p 4), [], 0, [0, 0, 0, 0], 0⟩)], 1⟩)]),
 (6, [fun p => (.exit 6, ⟨(t0 (t0 (t1 (.vw 200003 0 [])) .nil) (t0 .nil .nil)), [], [(200003, ⟨9, [.str], (gL p 0), [], 0, [0, 0, 0, 0], 0⟩)], 1⟩)]),
 (8, [fun p => (.ret, ⟨(t0 .nil (t1 (.bool (gB p 0)))), [], [], 1⟩),
  fun p => (.exit 8, ⟨(t0 .nil (t0 .nil .nil)), [], [], 1⟩)])]
def F_wf_named : Fn := { np := 1, bs := [0, 2, 4, 6, 8], main := M_wf_named, lps := [(0, L_wf_named_0), (2, L_wf_named_2), (4, L_wf_named_4), (6, L_wf_named_6), (8, L_wf_named_8)] }
def M_wf_used (x : List D) : Sh :=
 .ask ((leI 0 (wrapA .i64 ((Int.ofNat (List.length (D.els (D.fld (gD x 0) 2)))) + 1))) && ((eqI (wrapA .i64 ((Int.ofNat (List.length (D.els (D.fld (gD x 0) 2)))) + 1)) (wrapA .i64 ((Int.ofNat (List.length (D.els (D.fld (gD x 0) 2)))) + 1))) && (lim (Int.toNat (wrapA .i64 ((Int.ofNat (List.length (D.els (D.fld (gD x 0) 2)))) + 1))) 8)))
 (.loop 0 [.i (Int.ofNat (List.length (D.els (D.fld (gD x 0) 2)))), .i (Int.ofNat (List.length (D.els (D.fld (gD x 0) 4)))), .l (D.els (D.fld (gD x 0) 4)), .i 0, .s (D.toS (D.fld (gD x 0) 0)), .b (D.toB (D.fld (gD x 0) 1)), .l (D.els (D.fld (gD x 0) 2)), .i (D.toI (D.fld (gD x 0) 3)), .l (D.els (D.fld (gD x 0) 4)), .l (List.replicate (Int.toNat (wrapA .i64 ((Int.ofNat (List.length (D.els (D.fld (gD x 0) 2)))) + 1))) (D.i 0))] (.cons (fun p0 =>
 .ret (.b (gB p0 1)) [])
 (.cons (fun p0 =>
 .ask ((leI 0 (Int.ofNat (List.length (gL p0 5)))) && ((eqI (Int.ofNat (List.length (gL p0 5))) (Int.ofNat (List.length (gL p0 5)))) && (lim (Int.toNat (Int.ofNat (List.length (gL p0 5)))) 24)))
 (.call dom_Over [.l [.s (gS p0 1), .b (gB p0 2), .l (gL p0 3), .i (gI p0 4), .l (gL p0 5)]] 0 fun r1 _ =>
 .loop 4 [.i (gI p0 0), .i 0, .i (Int.ofNat (List.length (List.replicate (List.length (gL p0 5)) (D.l [])))), .s (gS p0 1), .b (gB p0 2), .l (gL p0 3), .i (gI p0 4), .l (gL p0 5), .l (List.replicate (List.length (gL p0 5)) (D.l [])), .l (gL p0 6), .l (D.els r1)] (.cons (fun p2 =>
 .loop 8 [.i (gI p2 0), .i (Int.ofNat (List.length (gL p2 5))), .i 0, .l (gL p2 5), .s (gS p2 1), .b (gB p2 2), .l (gL p2 3), .i (gI p2 4), .l (gL p2 5), .l (gL p2 6), .l (gL p2 7)] (.cons (fun p3 =>
 .ret (.b (gB p3 0)) [])
 (.cons (fun p3 =>
 .ret (.b true) [])
 .nil)))
 .nil))
 (.bad))
 .nil)))
 (.bad)
def L_wf_used_0 (p : List D) : Sh :=
 .ask (ltI (gI p 3) (gI p 1))
 (.ask (within (gI p 3) (List.length (gL p 2)))
 (.loop 2 [.i (gI p 0), .i (gI p 3), .i (Int.ofNat (List.length (D.els (gD (gL p 2) (Int.toNat (gI p 3)))))), .i (gI p 1), .l (D.els (gD (gL p 2) (Int.toNat (gI p 3)))), .l (gL p 2), .i 0, .i (gI p 3), .s (gS p 4), .b (gB p 5), .l (gL p 6), .i (gI p 7), .l (gL p 8), .l (gL p 9)] (.cons (fun p0 =>
 .out (0, [.i (gI p0 0), .b (gB p0 2), .s (gS p0 5), .b (gB p0 6), .l (gL p0 7), .i (gI p0 8), .l (gL p0 9), .l (gL p0 10)]))
 (.cons (fun p0 =>
 .again [.i (gI p0 0), .i (gI p0 1), .l (gL p0 2), .i (wrapA .i64 ((gI p0 3) + 1)), .s (gS p0 4), .b (gB p0 5), .l (gL p0 6), .i (gI p0 7), .l (gL p0 8), .l (gL p0 9)])
 .nil)))
 (.bad))
 (.out (1, [.i (gI p 0), .s (gS p 4), .b (gB p 5), .l (gL p 6), .i (gI p 7), .l (gL p 8), .l (gL p 9)]))
def L_wf_used_2 (p : List D) : Sh :=
 .ask (ltI (gI p 6) (gI p 2))
 (.ask (within (gI p 6) (List.length (gL p 4)))
 (.ask (eqI (D.toI (D.fld (gD (gL p 4) (Int.toNat (gI p 6))) 1)) 0)
 (.again [.i (gI p 0), .i (gI p 1), .i (gI p 2), .i (gI p 3), .l (gL p 4), .l (gL p 5), .i (wrapA .i64 ((gI p 6) + 1)), .i (gI p 7), .s (gS p 8), .b (gB p 9), .l (gL p 10), .i (gI p 11), .l (gL p 12), .l (gL p 13)])
 (.ask (!(eqI (D.toI (D.fld (gD (gL p 4) (Int.toNat (gI p 6))) 2)) (wrapA .i64 ((gI p 0) + 1))))
 (.out (0, [.i (wrapA .i64 ((gI p 0) + 1)), .i (gI p 3), .b false, .l (gL p 5), .i (gI p 7), .s (gS p 8), .b (gB p 9), .l (gL p 10), .i (gI p 11), .l (gL p 12), .l (gL p 13)]))
 (.ask (lim ((List.length (gL p 13)) + 1) 8)
 (.again [.i (wrapA .i64 ((gI p 0) + 1)), .i (gI p 1), .i (gI p 2), .i (gI p 3), .l (gL p 4), .l (gL p 5), .i (wrapA .i64 ((gI p 6) + 1)), .i (gI p 7), .s (gS p 8), .b (gB p 9), .l (gL p 10), .i (gI p 11), .l (gL p 12), .l ((gL p 13) ++ [.i (gI p 1)])])
 (.bad))))
 (.bad))
 (.out (1, [.i (gI p 0), .i (gI p 3), .l (gL p 5), .i (gI p 7), .s (gS p 8), .b (gB p 9), .l (gL p 10), .i (gI p 11), .l (gL p 12), .l (gL p 13)]))
def L_wf_used_4 (p : List D) : Sh :=
 .ask (ltI (gI p 1) (gI p 2))
 (.ask ((leI 0 (Int.ofNat (List.length (gL p 7)))) && ((eqI (Int.ofNat (List.length (gL p 7))) (Int.ofNat (List.length (gL p 7)))) && (lim (Int.toNat (Int.ofNat (List.length (gL p 7)))) 1)))
 (.ask (within (gI p 1) (List.length (gL p 8)))
 (.loop 6 [.i (gI p 0), .i (gI p 1), .i (gI p 1), .i (gI p 2), .i (gI p 1), .s (gS p 3), .b (gB p 4), .l (gL p 5), .i (gI p 6), .l (gL p 7), .l (List.set (gL p 8) (Int.toNat (gI p 1)) (D.l (List.replicate (List.length (gL p 7)) (D.b false)))), .l (gL p 9), .l (gL p 10)] (.cons (fun p0 =>
 .again [.i (gI p0 0), .i (wrapA .i64 ((gI p0 1) + 1)), .i (gI p0 2), .s (gS p0 3), .b (gB p0 4), .l (gL p0 5), .i (gI p0 6), .l (gL p0 7), .l (gL p0 8), .l (gL p0 9), .l (gL p0 10)])
 .nil))
 (.bad))
 (.bad))
 (.out (0, [.i (gI p 0), .s (gS p 3), .b (gB p 4), .l (gL p 5), .i (gI p 6), .l (gL p 7), .l (gL p 8), .l (gL p 9)]))
def L_wf_used_6 (p : List D) : Sh :=
 .ask (leI 0 (gI p 4))
 (.ask (within (gI p 1) (List.length (gL p 10)))
 (.ask (within (gI p 4) (List.length (D.els (gD (gL p 10) (Int.toNat (gI p 1))))))
 (.ask (within (gI p 4) (List.length (gL p 12)))
 (.again [.i (gI p 0), .i (gI p 1), .i (gI p 2), .i (gI p 3), .i (D.toI (gD (gL p 12) (Int.toNat (gI p 4)))), .s (gS p 5), .b (gB p 6), .l (gL p 7), .i (gI p 8), .l (gL p 9), .l (List.set (gL p 10) (Int.toNat (gI p 1)) (D.l (List.set (D.els (gD (gL p 10) (Int.toNat (gI p 1)))) (Int.toNat (gI p 4)) (D.b true)))), .l (gL p 11), .l (gL p 12)])
 (.bad))
 (.bad))
 (.bad))
 (.out (0, [.i (gI p 0), .i (gI p 2), .i (gI p 3), .s (gS p 5), .b (gB p 6), .l (gL p 7), .i (gI p 8), .l (gL p 9), .l (gL p 10), .l (gL p 11), .l (gL p 12)]))
def L_wf_used_8 (p : List D) : Sh :=
 .ask (ltI (gI p 2) (gI p 1))
 (.ask (within (gI p 2) (List.length (gL p 3)))
 (.ask (ltI 0 (Int.ofNat (List.length (D.els (gD (gL p 3) (Int.toNat (gI p 2)))))))
 (.call wf_ahead [.l [.s (gS p 4), .b (gB p 5), .l (gL p 6), .i (gI p 7), .l (gL p 8)], .i (gI p 2)] 0 fun r0 _ =>
 .loop 10 [.i (gI p 0), .i (D.toI r0), .i (gI p 1), .i (gI p 2), .i (Int.ofNat (List.length (D.els (gD (gL p 3) (Int.toNat (gI p 2)))))), .l (D.els (gD (gL p 3) (Int.toNat (gI p 2)))), .i (gI p 2), .l (gL p 3), .i 0, .s (gS p 4), .b (gB p 5), .l (gL p 6), .i (gI p 7), .l (gL p 8), .l (gL p 9), .l (gL p 10)] (.cons (fun p1 =>
 .out (0, [.b (gB p1 2)]))
 (.cons (fun p1 =>
 .again [.i (gI p1 0), .i (gI p1 1), .i (wrapA .i64 ((gI p1 2) + 1)), .l (gL p1 3), .s (gS p1 4), .b (gB p1 5), .l (gL p1 6), .i (gI p1 7), .l (gL p1 8), .l (gL p1 9), .l (gL p1 10)])
 .nil)))
 (.loop 10 [.i (gI p 0), .i (Int.ofNat (List.length (gL p 6))), .i (gI p 1), .i (gI p 2), .i (Int.ofNat (List.length (D.els (gD (gL p 3) (Int.toNat (gI p 2)))))), .l (D.els (gD (gL p 3) (Int.toNat (gI p 2)))), .i (gI p 2), .l (gL p 3), .i 0, .s (gS p 4), .b (gB p 5), .l (gL p 6), .i (gI p 7), .l (gL p 8), .l (gL p 9), .l (gL p 10)] (.cons (fun p0 =>
 .out (0, [.b (gB p0 2)]))
 (.cons (fun p0 =>
 .again [.i (gI p0 0), .i (gI p0 1), .i (wrapA .i64 ((gI p0 2) + 1)), .l (gL p0 3), .s (gS p0 4), .b (gB p0 5), .l (gL p0 6), .i (gI p0 7), .l (gL p0 8), .l (gL p0 9), .l (gL p0 10)])
 .nil))))
 (.bad))
 (.out (1, []))
def L_wf_used_10 (p : List D) : Sh :=
 .ask (ltI (gI p 8) (gI p 4))
 (.ask (within (gI p 8) (List.length (gL p 5)))
 (.loop 12 [.i (gI p 0), .i (gI p 1), .l (D.els (D.fld (gD (gL p 5) (Int.toNat (gI p 8))) 5)), .i (gI p 2), .i (gI p 3), .i 0, .i (gI p 4), .i (Int.ofNat (List.length (D.els (D.fld (gD (gL p 5) (Int.toNat (gI p 8))) 5)))), .l (gL p 5), .i (gI p 6), .l (gL p 7), .i (gI p 8), .s (gS p 9), .b (gB p 10), .l (gL p 11), .i (gI p 12), .l (gL p 13), .i (D.toI (D.fld (gD (gL p 5) (Int.toNat (gI p 8))) 0)), .i (D.toI (D.fld (gD (gL p 5) (Int.toNat (gI p 8))) 1)), .i (D.toI (D.fld (gD (gL p 5) (Int.toNat (gI p 8))) 2)), .i (D.toI (D.fld (gD (gL p 5) (Int.toNat (gI p 8))) 3)), .i (D.toI (D.fld (gD (gL p 5) (Int.toNat (gI p 8))) 4)), .l (D.els (D.fld (gD (gL p 5) (Int.toNat (gI p 8))) 5)), .l (D.els (D.fld (gD (gL p 5) (Int.toNat (gI p 8))) 6)), .l (gL p 14), .l (gL p 15)] (.cons (fun p0 =>
 .out (0, [.i (gI p0 0), .i (gI p0 2), .b (gB p0 5), .i (gI p0 7), .l (gL p0 8), .s (gS p0 10), .b (gB p0 11), .l (gL p0 12), .i (gI p0 13), .l (gL p0 14), .l (gL p0 22), .l (gL p0 23)]))
 (.cons (fun p0 =>
 .ask (!(eqI (gI p0 15) 0))
 (.again [.i (gI p0 0), .i (gI p0 16), .i (gI p0 2), .i (gI p0 3), .i (gI p0 4), .l (gL p0 5), .i (gI p0 6), .l (gL p0 7), .i (wrapA .i64 ((gI p0 8) + 1)), .s (gS p0 9), .b (gB p0 10), .l (gL p0 11), .i (gI p0 12), .l (gL p0 13), .l (gL p0 21), .l (gL p0 22)])
 (.again [.i (gI p0 0), .i (gI p0 1), .i (gI p0 2), .i (gI p0 3), .i (gI p0 4), .l (gL p0 5), .i (gI p0 6), .l (gL p0 7), .i (wrapA .i64 ((gI p0 8) + 1)), .s (gS p0 9), .b (gB p0 10), .l (gL p0 11), .i (gI p0 12), .l (gL p0 13), .l (gL p0 21), .l (gL p0 22)]))
 .nil)))
 (.bad))
 (.out (1, [.i (gI p 0), .i (gI p 2), .i (gI p 6), .l (gL p 7), .s (gS p 9), .b (gB p 10), .l (gL p 11), .i (gI p 12), .l (gL p 13), .l (gL p 14), .l (gL p 15)]))
def L_wf_used_12 (p : List D) : Sh :=
 .ask (ltI (gI p 5) (gI p 7))
 (.ask (within (gI p 5) (List.length (gL p 2)))
 (.ask ((ltI (D.toI (gD (gL p 2) (Int.toNat (gI p 5)))) 1) || (ltI (gI p 0) (D.toI (gD (gL p 2) (Int.toNat (gI p 5))))))
 (.out (0, [.i (gI p 0), .i (gI p 1), .i (gI p 3), .i (gI p 4), .i (gI p 6), .b false, .l (gL p 8), .i (gI p 9), .l (gL p 10), .i (gI p 11), .s (gS p 12), .b (gB p 13), .l (gL p 14), .i (gI p 15), .l (gL p 16), .i (gI p 17), .i (gI p 18), .i (gI p 19), .i (gI p 20), .i (gI p 21), .l (gL p 22), .l (gL p 23), .l (gL p 24), .l (gL p 25)]))
 (.ask (leI (D.toI (gD (gL p 2) (Int.toNat (gI p 5)))) (Int.ofNat (List.length (gL p 14))))
 (.again [.i (gI p 0), .i (gI p 1), .l (gL p 2), .i (gI p 3), .i (gI p 4), .i (wrapA .i64 ((gI p 5) + 1)), .i (gI p 6), .i (gI p 7), .l (gL p 8), .i (gI p 9), .l (gL p 10), .i (gI p 11), .s (gS p 12), .b (gB p 13), .l (gL p 14), .i (gI p 15), .l (gL p 16), .i (gI p 17), .i (gI p 18), .i (gI p 19), .i (gI p 20), .i (gI p 21), .l (gL p 22), .l (gL p 23), .l (gL p 24), .l (gL p 25)])
 (.ask (within (D.toI (gD (gL p 2) (Int.toNat (gI p 5)))) (List.length (gL p 25)))
 (.ask ((!((!(eqI (D.toI (gD (gL p 25) (Int.toNat (D.toI (gD (gL p 2) (Int.toNat (gI p 5))))))) (gI p 4))) && true)) || (within (gI p 4) (List.length (gL p 24))))
 (.ask ((!((!(eqI (D.toI (gD (gL p 25) (Int.toNat (D.toI (gD (gL p 2) (Int.toNat (gI p 5))))))) (gI p 4))) && true)) || (within (D.toI (gD (gL p 2) (Int.toNat (gI p 5)))) (List.length (gL p 25))))
 (.ask ((!((!(eqI (D.toI (gD (gL p 25) (Int.toNat (D.toI (gD (gL p 2) (Int.toNat (gI p 5))))))) (gI p 4))) && true)) || (within (D.toI (gD (gL p 25) (Int.toNat (D.toI (gD (gL p 2) (Int.toNat (gI p 5))))))) (List.length (D.els (gD (gL p 24) (Int.toNat (gI p 4)))))))
 (.ask ((!(!((!(eqI (D.toI (gD (gL p 25) (Int.toNat (D.toI (gD (gL p 2) (Int.toNat (gI p 5))))))) (gI p 4))) && (D.toB (gD (D.els (gD (gL p 24) (Int.toNat (gI p 4)))) (Int.toNat (D.toI (gD (gL p 25) (Int.toNat (D.toI (gD (gL p 2) (Int.toNat (gI p 5))))))))))))) || (within (D.toI (gD (gL p 2) (Int.toNat (gI p 5)))) (List.length (gL p 25))))
 (.ask (eqI (gI p 17) 26)
 (.ask (within (gI p 5) (List.length (gL p 23)))
 (.ask (within (D.toI (gD (gL p 23) (Int.toNat (gI p 5)))) (List.length (gL p 24)))
 (.ask (within (D.toI (gD (gL p 2) (Int.toNat (gI p 5)))) (List.length (gL p 25)))
 (.ask (within (D.toI (gD (gL p 25) (Int.toNat (D.toI (gD (gL p 2) (Int.toNat (gI p 5))))))) (List.length (D.els (gD (gL p 24) (Int.toNat (D.toI (gD (gL p 23) (Int.toNat (gI p 5)))))))))
 (.ask (!(D.toB (gD (D.els (gD (gL p 24) (Int.toNat (D.toI (gD (gL p 23) (Int.toNat (gI p 5))))))) (Int.toNat (D.toI (gD (gL p 25) (Int.toNat (D.toI (gD (gL p 2) (Int.toNat (gI p 5)))))))))))
 (.out (0, [.i (gI p 0), .i (gI p 1), .i (gI p 3), .i (gI p 4), .i (gI p 6), .b false, .l (gL p 8), .i (gI p 9), .l (gL p 10), .i (gI p 11), .s (gS p 12), .b (gB p 13), .l (gL p 14), .i (gI p 15), .l (gL p 16), .i (gI p 17), .i (gI p 18), .i (gI p 19), .i (gI p 20), .i (gI p 21), .l (gL p 22), .l (gL p 23), .l (gL p 24), .l (gL p 25)]))
 (.again [.i (gI p 0), .i (gI p 1), .l (gL p 2), .i (gI p 3), .i (gI p 4), .i (wrapA .i64 ((gI p 5) + 1)), .i (gI p 6), .i (gI p 7), .l (gL p 8), .i (gI p 9), .l (gL p 10), .i (gI p 11), .s (gS p 12), .b (gB p 13), .l (gL p 14), .i (gI p 15), .l (gL p 16), .i (gI p 17), .i (gI p 18), .i (gI p 19), .i (gI p 20), .i (gI p 21), .l (gL p 22), .l (gL p 23), .l (gL p 24), .l (gL p 25)]))
 (.bad))
 (.bad))
 (.bad))
 (.bad))
 (.ask (!(((!(eqI (D.toI (gD (gL p 25) (Int.toNat (D.toI (gD (gL p 2) (Int.toNat (gI p 5))))))) (gI p 4))) && (D.toB (gD (D.els (gD (gL p 24) (Int.toNat (gI p 4)))) (Int.toNat (D.toI (gD (gL p 25) (Int.toNat (D.toI (gD (gL p 2) (Int.toNat (gI p 5))))))))))) || ((eqI (D.toI (gD (gL p 25) (Int.toNat (D.toI (gD (gL p 2) (Int.toNat (gI p 5))))))) (gI p 4)) && (leI (D.toI (gD (gL p 2) (Int.toNat (gI p 5)))) (gI p 1)))))
 (.out (0, [.i (gI p 0), .i (gI p 1), .i (gI p 3), .i (gI p 4), .i (gI p 6), .b false, .l (gL p 8), .i (gI p 9), .l (gL p 10), .i (gI p 11), .s (gS p 12), .b (gB p 13), .l (gL p 14), .i (gI p 15), .l (gL p 16), .i (gI p 17), .i (gI p 18), .i (gI p 19), .i (gI p 20), .i (gI p 21), .l (gL p 22), .l (gL p 23), .l (gL p 24), .l (gL p 25)]))
 (.again [.i (gI p 0), .i (gI p 1), .l (gL p 2), .i (gI p 3), .i (gI p 4), .i (wrapA .i64 ((gI p 5) + 1)), .i (gI p 6), .i (gI p 7), .l (gL p 8), .i (gI p 9), .l (gL p 10), .i (gI p 11), .s (gS p 12), .b (gB p 13), .l (gL p 14), .i (gI p 15), .l (gL p 16), .i (gI p 17), .i (gI p 18), .i (gI p 19), .i (gI p 20), .i (gI p 21), .l (gL p 22), .l (gL p 23), .l (gL p 24), .l (gL p 25)])))
 (.bad))
 (.bad))
 (.bad))
 (.bad))
 (.bad))))
 (.bad))
 (.out (1, [.i (gI p 0), .i (gI p 1), .i (gI p 3), .i (gI p 4), .i (gI p 6), .l (gL p 8), .i (gI p 9), .l (gL p 10), .i (gI p 11), .s (gS p 12), .b (gB p 13), .l (gL p 14), .i (gI p 15), .l (gL p 16), .i (gI p 17), .i (gI p 18), .i (gI p 19), .i (gI p 20), .i (gI p 21), .l (gL p 22), .l (gL p 23), .l (gL p 24), .l (gL p 25)]))
def S_wf_used : STab := [(0, fun p => ⟨(t0 (t2 (.pb 1 0 0) (t1 (.int .i64 (gI p 0))) (t0 .nil (t0 .nil (t1 (.int .i64 (gI p 1)))))) (t0 (t2 (.vw 200004 0 []) .nil (t0 .nil (t1 (.fz [] 40 lt4 (gL p 2))))) (t0 .nil (t0 .nil (t1 (.int .i64 (gI p 3))))))), [(1, ⟨0, [.str (gS p 4), .bool (gB p 5), .fz [] 3 [.int .i64] (gL p 6), .int .i64 (gI p 7), .fz [] 40 lt4 (gL p 8)], none⟩)], [(200004, ⟨3, [.int .i64], (gL p 9), [], 0, [0, 0, 0, 0], 0⟩)], 1⟩),
 (2, fun p => ⟨(t0 (t2 (.pb 1 0 0) (t1 (.int .i64 (gI p 0))) (t2 (.int .i64 (gI p 1)) .nil (t0 (t0 (t1 (.int .i64 (gI p 2))) .nil) (t1 (.int .i64 (gI p 3)))))) (t0 (t2 (.vw 200004 0 []) .nil (t0 (t0 (t1 (.fz [] 27 lt5 (gL p 4))) .nil) (t1 (.fz [] 40 lt4 (gL p 5))))) (t0 .nil (t0 (t0 (t1 (.int .i64 (gI p 6))) .nil) (t1 (.int .i64 (gI p 7))))))), [(1, ⟨0, [.str (gS p 8), .bool (gB p 9), .fz [] 3 [.int .i64] (gL p 10), .int .i64 (gI p 11), .fz [] 40 lt4 (gL p 12)], none⟩)], [(200004, ⟨3, [.int .i64], (gL p 13), [], 0, [0, 0, 0, 0], 0⟩)], 1⟩),
 (4, fun p => ⟨(t0 (t2 (.pb 1 0 0) (t1 (.int .i64 (gI p 0))) (t0 (t2 (.vw 60 0 []) (t0 (t0 (t1 (.int .i64 (gI p 1))) .nil) .nil) .nil) .nil)) (t0 (t2 (.vw 200004 0 []) (t0 (t0 (t0 (t1 (.int .i64 (gI p 2))) .nil) .nil) .nil) .nil) (t0 (t1 (.vw 63000000 0 [])) .nil))), [(1, ⟨0, [.str (gS p 3), .bool (gB p 4), .fz [] 3 [.int .i64] (gL p 5), .int .i64 (gI p 6), .fz [] 40 lt4 (gL p 7)], none⟩)], [(60, ⟨51, [.sl true 4 [.bool]], (gL p 8), [], 0, [0, 0, 0, 0], 0⟩), (200004, ⟨3, [.int .i64], (gL p 9), [], 0, [0, 0, 0, 0], 0⟩), (63000000, ⟨3, [.int .i64], (gL p 10), [], 0, [0, 0, 0, 0], 0⟩)], 1⟩),
 (6, fun p => ⟨(t0 (t2 (.pb 1 0 0) (t2 (.int .i64 (gI p 0)) .nil (t1 (.int .i64 (gI p 1)))) (t0 (t2 (.vw 60 0 []) (t0 (t0 (t1 (.int .i64 (gI p 2))) .nil) .nil) .nil) .nil)) (t0 (t2 (.vw 200004 0 []) (t0 (t0 (t0 (t1 (.int .i64 (gI p 3))) .nil) .nil) .nil) (t1 (.int .i64 (gI p 4)))) (t0 (t1 (.vw 63000000 0 [])) .nil))), [(1, ⟨0, [.str (gS p 5), .bool (gB p 6), .fz [] 3 [.int .i64] (gL p 7), .int .i64 (gI p 8), .fz [] 40 lt4 (gL p 9)], none⟩)], [(60, ⟨51, [.sl true 4 [.bool]], (gL p 10), [], 0, [0, 0, 0, 0], 0⟩), (200004, ⟨3, [.int .i64], (gL p 11), [], 0, [0, 0, 0, 0], 0⟩), (63000000, ⟨3, [.int .i64], (gL p 12), [], 0, [0, 0, 0, 0], 0⟩)], 1⟩),
 (8, fun p => ⟨(t0 (t2 (.pb 1 0 0) (t2 (.int .i64 (gI p 0)) .nil (t0 .nil (t0 .nil (t0 (t1 (.int .i64 (gI p 1))) .nil)))) (t0 (t1 (.vw 60 0 [])) .nil)) (t0 (t2 (.vw 200004 0 []) .nil (t0 .nil (t0 .nil (t0 (t1 (.int .i64 (gI p 2))) .nil)))) (t0 (t0 .nil (t0 .nil (t0 (t1 (.fz [] 40 lt4 (gL p 3))) .nil))) .nil))), [(1, ⟨0, [.str (gS p 4), .bool (gB p 5), .fz [] 3 [.int .i64] (gL p 6), .int .i64 (gI p 7), .fz [] 40 lt4 (gL p 8)], none⟩)], [(60, ⟨51, [.sl true 4 [.bool]], (gL p 9), [], 0, [0, 0, 0, 0], 0⟩), (200004, ⟨3, [.int .i64], (gL p 10), [], 0, [0, 0, 0, 0], 0⟩)], 1⟩),
 (10, fun p => ⟨(t0 (t2 (.pb 1 0 0) (t2 (.int .i64 (gI p 0)) (t0 (t1 (.int .i64 (gI p 1))) .nil) (t0 .nil (t0 .nil (t0 (t1 (.int .i64 (gI p 2))) .nil)))) (t0 (t1 (.vw 60 0 [])) (t2 (.int .i64 (gI p 3)) .nil (t0 (t0 .nil (t1 (.int .i64 (gI p 4)))) .nil)))) (t0 (t2 (.vw 200004 0 []) .nil (t0 .nil (t0 (t0 .nil (t1 (.fz [] 27 lt5 (gL p 5)))) (t0 (t1 (.int .i64 (gI p 6))) .nil)))) (t0 (t0 .nil (t0 .nil (t0 (t1 (.fz [] 40 lt4 (gL p 7))) .nil))) (t0 .nil (t0 (t0 .nil (t1 (.int .i64 (gI p 8)))) .nil))))), [(1, ⟨0, [.str (gS p 9), .bool (gB p 10), .fz [] 3 [.int .i64] (gL p 11), .int .i64 (gI p 12), .fz [] 40 lt4 (gL p 13)], none⟩)], [(60, ⟨51, [.sl true 4 [.bool]], (gL p 14), [], 0, [0, 0, 0, 0], 0⟩), (200004, ⟨3, [.int .i64], (gL p 15), [], 0, [0, 0, 0, 0], 0⟩)], 1⟩),
 (12, fun p => ⟨(t0 (t2 (.pb 1 0 0) (t2 (.int .i64 (gI p 0)) (t0 (t1 (.int .i64 (gI p 1))) .nil) (t0 (t0 .nil (t0 .nil (t1 (.fz [] 3 [.int .i64] (gL p 2))))) (t0 .nil (t0 (t1 (.int .i64 (gI p 3))) .nil)))) (t0 (t2 (.vw 60 0 []) (t1 (.pb 17 0 0)) .nil) (t2 (.int .i64 (gI p 4)) (t0 .nil (t0 .nil (t1 (.int .i64 (gI p 5))))) (t0 (t0 .nil (t1 (.int .i64 (gI p 6)))) .nil)))) (t0 (t2 (.vw 200004 0 []) .nil (t0 (t0 .nil (t0 .nil (t1 (.int .i64 (gI p 7))))) (t0 (t0 .nil (t1 (.fz [] 27 lt5 (gL p 8)))) (t0 (t1 (.int .i64 (gI p 9))) .nil)))) (t0 (t0 .nil (t0 .nil (t0 (t1 (.fz [] 40 lt4 (gL p 10))) .nil))) (t0 .nil (t0 (t0 .nil (t1 (.int .i64 (gI p 11)))) .nil))))), [(1, ⟨0, [.str (gS p 12), .bool (gB p 13), .fz [] 3 [.int .i64] (gL p 14), .int .i64 (gI p 15), .fz [] 40 lt4 (gL p 16)], none⟩), (17, ⟨0, [.int .i64 (gI p 17), .int .i64 (gI p 18), .int .i64 (gI p 19), .int .i64 (gI p 20), .int .i64 (gI p 21), .fz [] 3 [.int .i64] (gL p 22), .fz [] 3 [.int .i64] (gL p 23)], none⟩)], [(60, ⟨51, [.sl true 4 [.bool]], (gL p 24), [], 0, [0, 0, 0, 0], 0⟩), (200004, ⟨3, [.int .i64], (gL p 25), [], 0, [0, 0, 0, 0], 0⟩)], 1⟩)]
def T_wf_used : TTab := [(0, [fun p => (.ret, ⟨(t0 (t2 (.pb 1 0 0) (t1 (.int .i64 (gI p 0))) .nil) (t2 (.bool (gB p 1)) (t1 (.vw 200004 0 [])) .nil)), [(1, ⟨0, [.str (gS p 2), .bool (gB p 3), .fz [] 3 [.int .i64] (gL p 4), .int .i64 (gI p 5), .fz [] 40 lt4 (gL p 6)], none⟩)], [(200004, ⟨3, [.int .i64], (gL p 7), [], 0, [0, 0, 0, 0], 0⟩)], 1⟩),
  fun p => (.exit 0, ⟨(t0 (t2 (.pb 1 0 0) (t1 (.int .i64 (gI p 0))) .nil) (t0 (t1 (.vw 200004 0 [])) .nil)), [(1, ⟨0, [.str (gS p 1), .bool (gB p 2), .fz [] 3 [.int .i64] (gL p 3), .int .i64 (gI p 4), .fz [] 40 lt4 (gL p 5)], none⟩)], [(200004, ⟨3, [.int .i64], (gL p 6), [], 0, [0, 0, 0, 0], 0⟩)], 1⟩)]),
 (2, [fun p => (.ret, ⟨(t0 (t2 (.pb 1 0 0) (t1 (.int .i64 (gI p 0))) (t0 .nil (t0 .nil (t1 (.int .i64 (gI p 1)))))) (t2 (.bool (gB p 2)) (t2 (.vw 200004 0 []) .nil (t0 .nil (t1 (.fz [] 40 lt4 (gL p 3))))) (t0 .nil (t0 .nil (t1 (.int .i64 (gI p 4))))))), [(1, ⟨0, [.str (gS p 5), .bool (gB p 6), .fz [] 3 [.int .i64] (gL p 7), .int .i64 (gI p 8), .fz [] 40 lt4 (gL p 9)], none⟩)], [(200004, ⟨3, [.int .i64], (gL p 10), [], 0, [0, 0, 0, 0], 0⟩)], 1⟩),
  fun p => (.exit 2, ⟨(t0 (t2 (.pb 1 0 0) (t1 (.int .i64 (gI p 0))) (t0 .nil (t0 .nil (t1 (.int .i64 (gI p 1)))))) (t0 (t2 (.vw 200004 0 []) .nil (t0 .nil (t1 (.fz [] 40 lt4 (gL p 2))))) (t0 .nil (t0 .nil (t1 (.int .i64 (gI p 3))))))), [(1, ⟨0, [.str (gS p 4), .bool (gB p 5), .fz [] 3 [.int .i64] (gL p 6), .int .i64 (gI p 7), .fz [] 40 lt4 (gL p 8)], none⟩)], [(200004, ⟨3, [.int .i64], (gL p 9), [], 0, [0, 0, 0, 0], 0⟩)], 1⟩)]),
 (4, [fun p => (.exit 4, ⟨(t0 (t2 (.pb 1 0 0) (t1 (.int .i64 (gI p 0))) (t0 (t1 (.vw 60 0 [])) .nil)) (t0 (t1 (.vw 200004 0 [])) .nil)), [(1, ⟨0, [.str (gS p 1), .bool (gB p 2), .fz [] 3 [.int .i64] (gL p 3), .int .i64 (gI p 4), .fz [] 40 lt4 (gL p 5)], none⟩)], [(60, ⟨51, [.sl true 4 [.bool]], (gL p 6), [], 0, [0, 0, 0, 0], 0⟩), (200004, ⟨3, [.int .i64], (gL p 7), [], 0, [0, 0, 0, 0], 0⟩)], 1⟩)]),
 (6, [fun p => (.exit 6, ⟨(t0 (t2 (.pb 1 0 0) (t1 (.int .i64 (gI p 0))) (t0 (t2 (.vw 60 0 []) (t0 (t0 (t1 (.int .i64 (gI p 1))) .nil) .nil) .nil) .nil)) (t0 (t2 (.vw 200004 0 []) (t0 (t0 (t0 (t1 (.int .i64 (gI p 2))) .nil) .nil) .nil) .nil) (t0 (t1 (.vw 63000000 0 [])) .nil))), [(1, ⟨0, [.str (gS p 3), .bool (gB p 4), .fz [] 3 [.int .i64] (gL p 5), .int .i64 (gI p 6), .fz [] 40 lt4 (gL p 7)], none⟩)], [(60, ⟨51, [.sl true 4 [.bool]], (gL p 8), [], 0, [0, 0, 0, 0], 0⟩), (200004, ⟨3, [.int .i64], (gL p 9), [], 0, [0, 0, 0, 0], 0⟩), (63000000, ⟨3, [.int .i64], (gL p 10), [], 0, [0, 0, 0, 0], 0⟩)], 1⟩)]),
 (8, [fun p => (.ret, ⟨(t0 .nil (t1 (.bool (gB p 0)))), [], [], 1⟩),
  fun p => (.exit 8, ⟨(t0 .nil (t0 .nil .nil)), [], [], 1⟩)]),
 (10, [fun p => (.ret, ⟨(t0 (t2 (.pb 1 0 0) (t2 (.int .i64 (gI p 0)) .nil (t0 .nil (t0 .nil (t0 (t1 (.int .i64 (gI p 1))) .nil)))) (t0 (t1 (.vw 60 0 [])) .nil)) (t2 (.bool (gB p 2)) (t2 (.vw 200004 0 []) .nil (t0 .nil (t0 .nil (t0 (t1 (.int .i64 (gI p 3))) .nil)))) (t0 (t0 .nil (t0 .nil (t0 (t1 (.fz [] 40 lt4 (gL p 4))) .nil))) .nil))), [(1, ⟨0, [.str (gS p 5), .bool (gB p 6), .fz [] 3 [.int .i64] (gL p 7), .int .i64 (gI p 8), .fz [] 40 lt4 (gL p 9)], none⟩)], [(60, ⟨51, [.sl true 4 [.bool]], (gL p 10), [], 0, [0, 0, 0, 0], 0⟩), (200004, ⟨3, [.int .i64], (gL p 11), [], 0, [0, 0, 0, 0], 0⟩)], 1⟩),
  fun p => (.exit 10, ⟨(t0 (t2 (.pb 1 0 0) (t2 (.int .i64 (gI p 0)) .nil (t0 .nil (t0 .nil (t0 (t1 (.int .i64 (gI p 1))) .nil)))) (t0 (t1 (.vw 60 0 [])) .nil)) (t0 (t2 (.vw 200004 0 []) .nil (t0 .nil (t0 .nil (t0 (t1 (.int .i64 (gI p 2))) .nil)))) (t0 (t0 .nil (t0 .nil (t0 (t1 (.fz [] 40 lt4 (gL p 3))) .nil))) .nil))), [(1, ⟨0, [.str (gS p 4), .bool (gB p 5), .fz [] 3 [.int .i64] (gL p 6), .int .i64 (gI p 7), .fz [] 40 lt4 (gL p 8)], none⟩)], [(60, ⟨51, [.sl true 4 [.bool]], (gL p 9), [], 0, [0, 0, 0, 0], 0⟩), (200004, ⟨3, [.int .i64], (gL p 10), [], 0, [0, 0, 0, 0], 0⟩)], 1⟩)]),
 (12, [fun p => (.ret, ⟨(t0 (t2 (.pb 1 0 0) (t2 (.int .i64 (gI p 0)) (t0 (t1 (.int .i64 (gI p 1))) .nil) (t0 .nil (t0 .nil (t0 (t1 (.int .i64 (gI p 2))) .nil)))) (t0 (t2 (.vw 60 0 []) (t1 (.pb 17 0 0)) .nil) (t2 (.int .i64 (gI p 3)) .nil (t0 (t0 .nil (t1 (.int .i64 (gI p 4)))) .nil)))) (t2 (.bool (gB p 5)) (t2 (.vw 200004 0 []) .nil (t0 .nil (t0 (t0 .nil (t1 (.fz [] 27 lt5 (gL p 6)))) (t0 (t1 (.int .i64 (gI p 7))) .nil)))) (t0 (t0 .nil (t0 .nil (t0 (t1 (.fz [] 40 lt4 (gL p 8))) .nil))) (t0 .nil (t0 (t0 .nil (t1 (.int .i64 (gI p 9)))) .nil))))), [(1, ⟨0, [.str (gS p 10), .bool (gB p 11), .fz [] 3 [.int .i64] (gL p 12), .int .i64 (gI p 13), .fz [] 40 lt4 (gL p 14)], none⟩), (17, ⟨0, [.int .i64 (gI p 15), .int .i64 (gI p 16), .int .i64 (gI p 17), .int .i64 (gI p 18), .int .i64 (gI p 19), .fz [] 3 [.int .i64] (gL p 20), .fz [] 3 [.int .i64] (gL p 21)], none⟩)], [(60, ⟨51, [.sl true 4 [.bool]], (gL p 22), [], 0, [0, 0, 0, 0], 0⟩), (200004, ⟨3, [.int .i64], (gL p 23), [], 0, [0, 0, 0, 0], 0⟩)], 1⟩),
  fun p => (.exit 12, ⟨(t0 (t2 (.pb 1 0 0) (t2 (.int .i64 (gI p 0)) (t0 (t1 (.int .i64 (gI p 1))) .nil) (t0 .nil (t0 .nil (t0 (t1 (.int .i64 (gI p 2))) .nil)))) (t0 (t2 (.vw 60 0 []) (t1 (.pb 17 0 0)) .nil) (t2 (.int .i64 (gI p 3)) .nil (t0 (t0 .nil (t1 (.int .i64 (gI p 4)))) .nil)))) (t0 (t2 (.vw 200004 0 []) .nil (t0 .nil (t0 (t0 .nil (t1 (.fz [] 27 lt5 (gL p 5)))) (t0 (t1 (.int .i64 (gI p 6))) .nil)))) (t0 (t0 .nil (t0 .nil (t0 (t1 (.fz [] 40 lt4 (gL p 7))) .nil))) (t0 .nil (t0 (t0 .nil (t1 (.int .i64 (gI p 8)))) .nil))))), [(1, ⟨0, [.str (gS p 9), .bool (gB p 10), .fz [] 3 [.int .i64] (gL p 11), .int .i64 (gI p 12), .fz [] 40 lt4 (gL p 13)], none⟩), (17, ⟨0, [.int .i64 (gI p 14), .int .i64 (gI p 15), .int .i64 (gI p 16), .int .i64 (gI p 17), .int .i64 (gI p 18), .fz [] 3 [.int .i64] (gL p 19), .fz [] 3 [.int .i64] (gL p 20)], none⟩)], [(60, ⟨51, [.sl true 4 [.bool]], (gL p 21), [], 0, [0, 0, 0, 0], 0⟩), (200004, ⟨3, [.int .i64], (gL p 22), [], 0, [0, 0, 0, 0], 0⟩)], 1⟩)])]
def F_wf_used : Fn := { np := 1, bs := [0, 2, 4, 6, 8, 10, 12], main := M_wf_used, lps := [(0, L_wf_used_0), (2, L_wf_used_2), (4, L_wf_used_4), (6, L_wf_used_6), (8, L_wf_used_8), (10, L_wf_used_10), (12, L_wf_used_12)] }
def M_ir_Values (x : List D) : Sh :=
 .call ir_Types [.l [.s (D.toS (D.fld (gD x 0) 0)), .b (D.toB (D.fld (gD x 0) 1)), .l (D.els (D.fld (gD x 0) 2)), .i (D.toI (D.fld (gD x 0) 3)), .l (D.els (D.fld (gD x 0) 4))]] 0 fun r0 _ =>
 .ret (.i (wrapA .i64 ((Int.ofNat (List.length (D.els r0))) - 1))) []
def S_ir_Values : STab := []
def T_ir_Values : TTab := []
def F_ir_Values : Fn := { np := 1, bs := [], main := M_ir_Values, lps := [] }
def M_dom_Over (x : List D) : Sh :=
 .call dom_over [.l [.s (D.toS (D.fld (gD x 0) 0)), .b (D.toB (D.fld (gD x 0) 1)), .l (D.els (D.fld (gD x 0) 2)), .i (D.toI (D.fld (gD x 0) 3)), .l (D.els (D.fld (gD x 0) 4))]] 0 fun r0 _ =>
 .call dom_nearest [.l (D.els r0)] 0 fun r1 _ =>
 .ret (.l (D.els r1)) []
def S_dom_Over : STab := []
def T_dom_Over : TTab := []
def F_dom_Over : Fn := { np := 1, bs := [], main := M_dom_Over, lps := [] }
def J_wf_fitting_2 (x : List D) : Sh :=
 .ask (eqI (D.toI (D.fld (gD x 3) 0)) 16)
 (.ask ((eqI (D.toI (D.fld (gD x 3) 1)) 2) && true)
 (.call wf_all [.l (D.els (gD x 2)), .l (D.els (D.fld (gD x 3) 5)), .i 2] 0 fun r0 _ =>
 .ret (.b ((eqI (D.toI (D.fld (gD x 3) 1)) 2) && (D.toB r0))) [])
 (.ret (.b ((eqI (D.toI (D.fld (gD x 3) 1)) 2) && (D.toB (.i 0)))) []))
 (.ask (eqI (D.toI (D.fld (gD x 3) 0)) 17)
 (.call wf_rows [.l (D.els (gD x 2)), .l (D.els (D.fld (gD x 3) 5)), .l [.i 2, .i (D.toI (D.fld (gD x 3) 1)), .i (D.toI (D.fld (gD x 3) 1))]] 0 fun r0 _ =>
 .ret (.b (D.toB r0)) [])
 (.ask (eqI (D.toI (D.fld (gD x 3) 0)) 19)
 (.ask ((eqI (D.toI (D.fld (gD x 3) 1)) 3) && true)
 (.call wf_rows [.l (D.els (gD x 2)), .l (D.els (D.fld (gD x 3) 5)), .l [.i 3, .i 1]] 0 fun r0 _ =>
 .ret (.b ((eqI (D.toI (D.fld (gD x 3) 1)) 3) && (D.toB r0))) [])
 (.ret (.b ((eqI (D.toI (D.fld (gD x 3) 1)) 3) && (D.toB (.i 0)))) []))
 (.ask (eqI (D.toI (D.fld (gD x 3) 0)) 20)
 (.ask ((eqI (D.toI (D.fld (gD x 3) 1)) 1) && true)
 (.call wf_rows [.l (D.els (gD x 2)), .l (D.els (D.fld (gD x 3) 5)), .l [.i 3]] 0 fun r0 _ =>
 .ret (.b ((eqI (D.toI (D.fld (gD x 3) 1)) 1) && (D.toB r0))) [])
 (.ret (.b ((eqI (D.toI (D.fld (gD x 3) 1)) 1) && (D.toB (.i 0)))) []))
 (.ask (eqI (D.toI (D.fld (gD x 3) 0)) 21)
 (.call wf_rows [.l (D.els (gD x 2)), .l (D.els (D.fld (gD x 3) 5)), .l [.i 3, .i 1]] 0 fun r0 _ =>
 .ret (.b (D.toB r0)) [])
 (.ask (eqI (D.toI (D.fld (gD x 3) 0)) 24)
 (.ask ((eqI (D.toI (D.fld (gD x 3) 1)) 4) && true)
 (.call wf_rows [.l (D.els (gD x 2)), .l (D.els (D.fld (gD x 3) 5)), .l [.i 1]] 0 fun r0 _ =>
 .ret (.b ((eqI (D.toI (D.fld (gD x 3) 1)) 4) && (D.toB r0))) [])
 (.ret (.b ((eqI (D.toI (D.fld (gD x 3) 1)) 4) && (D.toB (.i 0)))) []))
 (.ask (eqI (D.toI (D.fld (gD x 3) 0)) 25)
 (.ask (within 0 (List.length (D.els (D.fld (gD x 3) 5))))
 (.ask (within (D.toI (gD (D.els (D.fld (gD x 3) 5)) 0)) (List.length (D.els (gD x 2))))
 (.ret (.b ((eqI (D.toI (gD (D.els (gD x 2)) (Int.toNat (D.toI (gD (D.els (D.fld (gD x 3) 5)) 0))))) 4) && (!(eqI (D.toI (D.fld (gD x 3) 1)) 3)))) [])
 (.bad))
 (.bad))
 (.ask (eqI (D.toI (D.fld (gD x 3) 0)) 22)
 (.ask (within (D.toI (D.fld (gD x 3) 3)) (List.length (D.els (D.fld (gD x 0) 3))))
 (.ask ((eqI (D.toI (D.fld (gD x 3) 1)) (D.toI (D.fld (gD (D.els (D.fld (gD x 0) 3)) (Int.toNat (D.toI (D.fld (gD x 3) 3)))) 3))) && true)
 (.call wf_rows [.l (D.els (gD x 2)), .l (D.els (D.fld (gD x 3) 5)), .l (D.els (D.fld (gD (D.els (D.fld (gD x 0) 3)) (Int.toNat (D.toI (D.fld (gD x 3) 3)))) 2))] 0 fun r0 _ =>
 .ret (.b ((eqI (D.toI (D.fld (gD x 3) 1)) (D.toI (D.fld (gD (D.els (D.fld (gD x 0) 3)) (Int.toNat (D.toI (D.fld (gD x 3) 3)))) 3))) && (D.toB r0))) [])
 (.ret (.b ((eqI (D.toI (D.fld (gD x 3) 1)) (D.toI (D.fld (gD (D.els (D.fld (gD x 0) 3)) (Int.toNat (D.toI (D.fld (gD x 3) 3)))) 3))) && (D.toB (.i 0)))) []))
 (.bad))
 (.ask (eqI (D.toI (D.fld (gD x 3) 0)) 23)
 (.ask (within (D.toI (D.fld (gD x 3) 3)) (List.length (D.els (D.fld (gD x 0) 0))))
 (.ask ((eqI (D.toI (D.fld (gD x 3) 1)) (D.toI (D.fld (gD (D.els (D.fld (gD x 0) 0)) (Int.toNat (D.toI (D.fld (gD x 3) 3)))) 2))) && true)
 (.call wf_rows [.l (D.els (gD x 2)), .l (D.els (D.fld (gD x 3) 5)), .l (D.els (D.fld (gD (D.els (D.fld (gD x 0) 0)) (Int.toNat (D.toI (D.fld (gD x 3) 3)))) 1))] 0 fun r0 _ =>
 .ret (.b ((eqI (D.toI (D.fld (gD x 3) 1)) (D.toI (D.fld (gD (D.els (D.fld (gD x 0) 0)) (Int.toNat (D.toI (D.fld (gD x 3) 3)))) 2))) && (D.toB r0))) [])
 (.ret (.b ((eqI (D.toI (D.fld (gD x 3) 1)) (D.toI (D.fld (gD (D.els (D.fld (gD x 0) 0)) (Int.toNat (D.toI (D.fld (gD x 3) 3)))) 2))) && (D.toB (.i 0)))) []))
 (.bad))
 (.ask (eqI (D.toI (D.fld (gD x 3) 0)) 26)
 (.call wf_all [.l (D.els (gD x 2)), .l (D.els (D.fld (gD x 3) 5)), .i (D.toI (D.fld (gD x 3) 1))] 0 fun r0 _ =>
 .ret (.b (D.toB r0)) [])
 (.ask (eqI (D.toI (D.fld (gD x 3) 0)) 28)
 (.call wf_rows [.l (D.els (gD x 2)), .l (D.els (D.fld (gD x 3) 5)), .l [.i 2]] 0 fun r0 _ =>
 .ret (.b (D.toB r0)) [])
 (.ask (eqI (D.toI (D.fld (gD x 3) 0)) 29)
 (.ask (eqI (D.toI (D.fld (gD x 1) 3)) 0)
 (.ret (.b (eqI (Int.ofNat (List.length (D.els (D.fld (gD x 3) 5)))) 0)) [])
 (.call wf_rows [.l (D.els (gD x 2)), .l (D.els (D.fld (gD x 3) 5)), .l [.i (D.toI (D.fld (gD x 1) 3))]] 0 fun r0 _ =>
 .ret (.b (D.toB r0)) []))
 (.ret (.b true) []))))))))))))
def J_wf_fitting_3 (x : List D) : Sh :=
 .ask ((eqI (D.toI (D.fld (gD x 3) 1)) 2) && true)
 (.call wf_all [.l (D.els (gD x 2)), .l (D.els (D.fld (gD x 3) 5)), .i 1] 0 fun r0 _ =>
 .ret (.b ((eqI (D.toI (D.fld (gD x 3) 1)) 2) && (D.toB r0))) [])
 (.ret (.b ((eqI (D.toI (D.fld (gD x 3) 1)) 2) && (D.toB (.i 0)))) [])
def J_wf_fitting_1 (x : List D) : Sh :=
 .ask (eqI (D.toI (D.fld (gD x 3) 0)) 14)
 (.ask (eqI (D.toI (D.fld (gD x 3) 0)) 14)
 (J_wf_fitting_3 x)
 (J_wf_fitting_2 x))
 (.ask (eqI (D.toI (D.fld (gD x 3) 0)) 15)
 (J_wf_fitting_3 x)
 (J_wf_fitting_2 x))
def J_wf_fitting_4 (x : List D) : Sh :=
 .ask ((eqI (D.toI (D.fld (gD x 3) 1)) 1) && true)
 (.call wf_all [.l (D.els (gD x 2)), .l (D.els (D.fld (gD x 3) 5)), .i 1] 0 fun r0 _ =>
 .ret (.b ((eqI (D.toI (D.fld (gD x 3) 1)) 1) && (D.toB r0))) [])
 (.ret (.b ((eqI (D.toI (D.fld (gD x 3) 1)) 1) && (D.toB (.i 0)))) [])
def J_wf_fitting_0 (x : List D) : Sh :=
 .ask (eqI (D.toI (D.fld (gD x 3) 0)) 4)
 (.ask (eqI (D.toI (D.fld (gD x 3) 0)) 4)
 (J_wf_fitting_4 x)
 (J_wf_fitting_1 x))
 (.ask (eqI (D.toI (D.fld (gD x 3) 0)) 5)
 (.ask (eqI (D.toI (D.fld (gD x 3) 0)) 5)
 (J_wf_fitting_4 x)
 (J_wf_fitting_1 x))
 (.ask (eqI (D.toI (D.fld (gD x 3) 0)) 6)
 (.ask (eqI (D.toI (D.fld (gD x 3) 0)) 6)
 (J_wf_fitting_4 x)
 (J_wf_fitting_1 x))
 (.ask (eqI (D.toI (D.fld (gD x 3) 0)) 7)
 (.ask (eqI (D.toI (D.fld (gD x 3) 0)) 7)
 (J_wf_fitting_4 x)
 (J_wf_fitting_1 x))
 (.ask (eqI (D.toI (D.fld (gD x 3) 0)) 8)
 (.ask (eqI (D.toI (D.fld (gD x 3) 0)) 8)
 (J_wf_fitting_4 x)
 (J_wf_fitting_1 x))
 (.ask (eqI (D.toI (D.fld (gD x 3) 0)) 9)
 (.ask (eqI (D.toI (D.fld (gD x 3) 0)) 9)
 (J_wf_fitting_4 x)
 (J_wf_fitting_1 x))
 (.ask (eqI (D.toI (D.fld (gD x 3) 0)) 10)
 (.ask (eqI (D.toI (D.fld (gD x 3) 0)) 10)
 (J_wf_fitting_4 x)
 (J_wf_fitting_1 x))
 (.ask (eqI (D.toI (D.fld (gD x 3) 0)) 11)
 (.ask (eqI (D.toI (D.fld (gD x 3) 0)) 11)
 (J_wf_fitting_4 x)
 (J_wf_fitting_1 x))
 (.ask (eqI (D.toI (D.fld (gD x 3) 0)) 12)
 (.ask (eqI (D.toI (D.fld (gD x 3) 0)) 12)
 (J_wf_fitting_4 x)
 (J_wf_fitting_1 x))
 (.ask (eqI (D.toI (D.fld (gD x 3) 0)) 13)
 (J_wf_fitting_4 x)
 (J_wf_fitting_1 x))))))))))
def M_wf_fitting (x : List D) : Sh :=
 .ask (eqI (D.toI (D.fld (gD x 3) 0)) 1)
 (.ret (.b ((eqI (D.toI (D.fld (gD x 3) 1)) 1) || ((eqI (D.toI (D.fld (gD x 3) 1)) 2) && ((eqI (D.toI (D.fld (gD x 3) 4)) 0) || (eqI (D.toI (D.fld (gD x 3) 4)) 1))))) [])
 (.ask (eqI (D.toI (D.fld (gD x 3) 0)) 2)
 (.ret (.b (eqI (D.toI (D.fld (gD x 3) 1)) 4)) [])
 (.ask (eqI (D.toI (D.fld (gD x 3) 0)) 3)
 (.ask (eqI (D.toI (D.fld (gD x 3) 0)) 3)
 (.ret (.b (eqI (D.toI (D.fld (gD x 3) 1)) 3)) [])
 (J_wf_fitting_0 x))
 (.ask (eqI (D.toI (D.fld (gD x 3) 0)) 18)
 (.ret (.b (eqI (D.toI (D.fld (gD x 3) 1)) 3)) [])
 (J_wf_fitting_0 x))))
def S_wf_fitting : STab := []
def T_wf_fitting : TTab := []
def F_wf_fitting : Fn := { np := 4, bs := [], main := M_wf_fitting, lps := [] }
def M_flow_Next (x : List D) : Sh :=
 .ask ((!(!((ltI (D.toI (gD x 1)) 0) || (leI (Int.ofNat (List.length (D.els (D.fld (gD x 0) 4)))) (D.toI (gD x 1)))))) || (within (D.toI (gD x 1)) (List.length (D.els (D.fld (gD x 0) 4)))))
 (.ask (((ltI (D.toI (gD x 1)) 0) || (leI (Int.ofNat (List.length (D.els (D.fld (gD x 0) 4)))) (D.toI (gD x 1)))) || (eqI (Int.ofNat (List.length (D.els (gD (D.els (D.fld (gD x 0) 4)) (Int.toNat (D.toI (gD x 1))))))) 0))
 (.ret (.l []) [])
 (.ask (within (D.toI (gD x 1)) (List.length (D.els (D.fld (gD x 0) 4))))
 (.ask (within (D.toI (gD x 1)) (List.length (D.els (D.fld (gD x 0) 4))))
 (.ask (within (wrapA .i64 ((Int.ofNat (List.length (D.els (gD (D.els (D.fld (gD x 0) 4)) (Int.toNat (D.toI (gD x 1))))))) - 1)) (List.length (D.els (gD (D.els (D.fld (gD x 0) 4)) (Int.toNat (D.toI (gD x 1)))))))
 (.ask ((!(eqI (D.toI (D.fld (gD (D.els (gD (D.els (D.fld (gD x 0) 4)) (Int.toNat (D.toI (gD x 1))))) (Int.toNat (wrapA .i64 ((Int.ofNat (List.length (D.els (gD (D.els (D.fld (gD x 0) 4)) (Int.toNat (D.toI (gD x 1))))))) - 1)))) 0)) 27)) && (!(eqI (D.toI (D.fld (gD (D.els (gD (D.els (D.fld (gD x 0) 4)) (Int.toNat (D.toI (gD x 1))))) (Int.toNat (wrapA .i64 ((Int.ofNat (List.length (D.els (gD (D.els (D.fld (gD x 0) 4)) (Int.toNat (D.toI (gD x 1))))))) - 1)))) 0)) 28)))
 (.ret (.l []) [])
 (.loop 0 (let z0 := D.els (D.fld (gD (D.els (gD (D.els (D.fld (gD x 0) 4)) (Int.toNat (D.toI (gD x 1))))) (Int.toNat (wrapA .i64 ((Int.ofNat (List.length (D.els (gD (D.els (D.fld (gD x 0) 4)) (Int.toNat (D.toI (gD x 1))))))) - 1)))) 6); [.l z0, .i 0, .i (Int.ofNat (List.length z0)), .s (D.toS (D.fld (gD x 0) 0)), .b (D.toB (D.fld (gD x 0) 1)), .l (D.els (D.fld (gD x 0) 2)), .i (D.toI (D.fld (gD x 0) 3)), .l (D.els (D.fld (gD x 0) 4)), .l []]) (.cons (fun p0 =>
 .ret (.l (gL p0 0)) [])
 .nil)))
 (.bad))
 (.bad))
 (.bad)))
 (.bad)
def J_flow_Next_0 (p : List D) : Sh :=
 .ask (lim ((List.length (gL p 8)) + 1) 8)
 (.again [.l (gL p 0), .i (wrapA .i64 ((gI p 1) + 1)), .i (gI p 2), .s (gS p 3), .b (gB p 4), .l (gL p 5), .i (gI p 6), .l (gL p 7), .l ((gL p 8) ++ [.i (D.toI (gD (gL p 0) (Int.toNat (gI p 1))))])])
 (.bad)
def L_flow_Next_0 (p : List D) : Sh :=
 .ask (ltI (gI p 1) (gI p 2))
 (.ask (within (gI p 1) (List.length (gL p 0)))
 (.ask (((leI 0 (D.toI (gD (gL p 0) (Int.toNat (gI p 1))))) && (ltI (D.toI (gD (gL p 0) (Int.toNat (gI p 1)))) (Int.ofNat (List.length (gL p 7))))) && true)
 (.call slices_Contains_Sint_int [.l (gL p 8), .i (D.toI (gD (gL p 0) (Int.toNat (gI p 1))))] 0 fun r0 _ =>
 .ask (((leI 0 (D.toI (gD (gL p 0) (Int.toNat (gI p 1))))) && (ltI (D.toI (gD (gL p 0) (Int.toNat (gI p 1)))) (Int.ofNat (List.length (gL p 7))))) && (!(D.toB r0)))
 (J_flow_Next_0 p)
 (.again [.l (gL p 0), .i (wrapA .i64 ((gI p 1) + 1)), .i (gI p 2), .s (gS p 3), .b (gB p 4), .l (gL p 5), .i (gI p 6), .l (gL p 7), .l (gL p 8)]))
 (.ask (((leI 0 (D.toI (gD (gL p 0) (Int.toNat (gI p 1))))) && (ltI (D.toI (gD (gL p 0) (Int.toNat (gI p 1)))) (Int.ofNat (List.length (gL p 7))))) && (!(D.toB (.i 0))))
 (J_flow_Next_0 p)
 (.again [.l (gL p 0), .i (wrapA .i64 ((gI p 1) + 1)), .i (gI p 2), .s (gS p 3), .b (gB p 4), .l (gL p 5), .i (gI p 6), .l (gL p 7), .l (gL p 8)])))
 (.bad))
 (.out (0, [.l (gL p 8)]))
def S_flow_Next : STab := [(0, fun p => ⟨(t0 (t0 (t0 (t0 .nil (t0 .nil (t1 (.fz [] 3 [.int .i64] (gL p 0))))) .nil) (t2 (.vw 200005 0 []) (t0 .nil (t0 .nil (t1 (.int .i64 (gI p 1))))) .nil)) (t2 (.pb 2 0 0) (t0 (t0 .nil (t0 .nil (t1 (.int .i64 (gI p 2))))) .nil) .nil)), [(2, ⟨0, [.str (gS p 3), .bool (gB p 4), .fz [] 3 [.int .i64] (gL p 5), .int .i64 (gI p 6), .fz [] 40 lt4 (gL p 7)], none⟩)], [(200005, ⟨3, [.int .i64], (gL p 8), [], 0, [0, 0, 0, 0], 0⟩)], 1⟩)]
def T_flow_Next : TTab := [(0, [fun p => (.exit 0, ⟨(t0 (t0 .nil (t1 (.vw 200005 0 []))) (t0 (t0 .nil .nil) .nil)), [], [(200005, ⟨3, [.int .i64], (gL p 0), [], 0, [0, 0, 0, 0], 0⟩)], 1⟩)])]
def F_flow_Next : Fn := { np := 2, bs := [0], main := M_flow_Next, lps := [(0, L_flow_Next_0)] }
def M_dom_nearest (x : List D) : Sh :=
 .ask ((leI 0 (Int.ofNat (List.length (D.els (gD x 0))))) && ((eqI (Int.ofNat (List.length (D.els (gD x 0)))) (Int.ofNat (List.length (D.els (gD x 0))))) && (lim (Int.toNat (Int.ofNat (List.length (D.els (gD x 0))))) 8)))
 (.loop 0 [.l (D.els (gD x 0)), .i 0, .i (Int.ofNat (List.length (List.replicate (List.length (D.els (gD x 0))) (D.i 0)))), .l (List.replicate (List.length (D.els (gD x 0))) (D.i 0))] (.cons (fun p0 =>
 .ret (.l (gL p0 0)) [])
 .nil))
 (.bad)
def L_dom_nearest_0 (p : List D) : Sh :=
 .ask (ltI (gI p 1) (gI p 2))
 (.ask (within (gI p 1) (List.length (gL p 3)))
 (.loop 2 [.l (gL p 0), .i (gI p 1), .i 0, .i (gI p 1), .i (gI p 2), .i (Int.ofNat (List.length (gL p 0))), .l (List.set (gL p 3) (Int.toNat (gI p 1)) (D.i (-1)))] (.cons (fun p0 =>
 .again [.l (gL p0 0), .i (wrapA .i64 ((gI p0 1) + 1)), .i (gI p0 2), .l (gL p0 3)])
 .nil))
 (.bad))
 (.out (0, [.l (gL p 3)]))
def L_dom_nearest_2 (p : List D) : Sh :=
 .ask (ltI (gI p 2) (gI p 5))
 (.ask ((!(!(eqI (gI p 2) (gI p 3)))) || (within (gI p 2) (List.length (gL p 0))))
 (.ask ((!(!(eqI (gI p 2) (gI p 3)))) || (within (gI p 3) (List.length (D.els (gD (gL p 0) (Int.toNat (gI p 2)))))))
 (.ask ((eqI (gI p 2) (gI p 3)) || (!(D.toB (gD (D.els (gD (gL p 0) (Int.toNat (gI p 2)))) (Int.toNat (gI p 3))))))
 (.again [.l (gL p 0), .i (gI p 1), .i (wrapA .i64 ((gI p 2) + 1)), .i (gI p 3), .i (gI p 4), .i (gI p 5), .l (gL p 6)])
 (.ask (within (gI p 3) (List.length (gL p 6)))
 (.ask ((!(!(ltI (D.toI (gD (gL p 6) (Int.toNat (gI p 3)))) 0))) || (within (gI p 3) (List.length (gL p 6))))
 (.ask ((!(!(ltI (D.toI (gD (gL p 6) (Int.toNat (gI p 3)))) 0))) || (within (D.toI (gD (gL p 6) (Int.toNat (gI p 3)))) (List.length (gL p 0))))
 (.ask ((!(!(ltI (D.toI (gD (gL p 6) (Int.toNat (gI p 3)))) 0))) || (within (gI p 2) (List.length (D.els (gD (gL p 0) (Int.toNat (D.toI (gD (gL p 6) (Int.toNat (gI p 3))))))))))
 (.ask ((ltI (D.toI (gD (gL p 6) (Int.toNat (gI p 3)))) 0) || (D.toB (gD (D.els (gD (gL p 0) (Int.toNat (D.toI (gD (gL p 6) (Int.toNat (gI p 3))))))) (Int.toNat (gI p 2)))))
 (.ask (within (gI p 3) (List.length (gL p 6)))
 (.again [.l (gL p 0), .i (gI p 1), .i (wrapA .i64 ((gI p 2) + 1)), .i (gI p 3), .i (gI p 4), .i (gI p 5), .l (List.set (gL p 6) (Int.toNat (gI p 3)) (D.i (gI p 2)))])
 (.bad))
 (.again [.l (gL p 0), .i (gI p 1), .i (wrapA .i64 ((gI p 2) + 1)), .i (gI p 3), .i (gI p 4), .i (gI p 5), .l (gL p 6)]))
 (.bad))
 (.bad))
 (.bad))
 (.bad)))
 (.bad))
 (.bad))
 (.out (0, [.l (gL p 0), .i (gI p 1), .i (gI p 4), .l (gL p 6)]))
def S_dom_nearest : STab := [(0, fun p => ⟨(t2 (.fz [] 51 [.sl false 4 [.bool]] (gL p 0)) (t0 (t2 (.vw 8 0 []) .nil (t1 (.int .i64 (gI p 1)))) .nil) (t0 .nil (t0 (t1 (.int .i64 (gI p 2))) .nil))), [], [(8, ⟨3, [.int .i64], (gL p 3), [], 0, [0, 0, 0, 0], 0⟩)], 1⟩),
 (2, fun p => ⟨(t2 (.fz [] 51 [.sl false 4 [.bool]] (gL p 0)) (t0 (t2 (.vw 8 0 []) .nil (t2 (.int .i64 (gI p 1)) (t1 (.int .i64 (gI p 2))) .nil)) .nil) (t0 (t1 (.int .i64 (gI p 3))) (t0 (t2 (.int .i64 (gI p 4)) (t1 (.int .i64 (gI p 5))) .nil) .nil))), [], [(8, ⟨3, [.int .i64], (gL p 6), [], 0, [0, 0, 0, 0], 0⟩)], 1⟩)]
def T_dom_nearest : TTab := [(0, [fun p => (.exit 0, ⟨(t0 (t0 (t1 (.vw 8 0 [])) .nil) (t0 .nil .nil)), [], [(8, ⟨3, [.int .i64], (gL p 0), [], 0, [0, 0, 0, 0], 0⟩)], 1⟩)]),
 (2, [fun p => (.exit 2, ⟨(t2 (.fz [] 51 [.sl false 4 [.bool]] (gL p 0)) (t0 (t2 (.vw 8 0 []) .nil (t1 (.int .i64 (gI p 1)))) .nil) (t0 .nil (t0 (t1 (.int .i64 (gI p 2))) .nil))), [], [(8, ⟨3, [.int .i64], (gL p 3), [], 0, [0, 0, 0, 0], 0⟩)], 1⟩)])]
def F_dom_nearest : Fn := { np := 1, bs := [0, 2], main := M_dom_nearest, lps := [(0, L_dom_nearest_0), (2, L_dom_nearest_2)] }
def M_facts_lesser (x : List D) : Sh :=
 .ask (!(eqI (D.toI (D.fld (gD x 0) 0)) (D.toI (D.fld (gD x 1) 0))))
 (.ret (.i (wrapA .i64 ((D.toI (D.fld (gD x 0) 0)) - (D.toI (D.fld (gD x 1) 0))))) [])
 (.ret (.i (wrapA .i64 ((D.toI (D.fld (gD x 0) 1)) - (D.toI (D.fld (gD x 1) 1))))) [])
def S_facts_lesser : STab := []
def T_facts_lesser : TTab := []
def F_facts_lesser : Fn := { np := 2, bs := [], main := M_facts_lesser, lps := [] }
def M_dom_without (x : List D) : Sh :=
 .ask ((leI 0 (Int.ofNat (List.length (D.els (gD x 0))))) && ((eqI (Int.ofNat (List.length (D.els (gD x 0)))) (Int.ofNat (List.length (D.els (gD x 0))))) && (lim (Int.toNat (Int.ofNat (List.length (D.els (gD x 0))))) 1)))
 (.ask (!(eqI (D.toI (gD x 1)) 0))
 (.ask (within 0 (List.length (List.replicate (List.length (D.els (gD x 0))) (D.b false))))
 (.ask (lim (0 + 1) 8)
 (.loop 0 [.l (D.els (gD x 0)), .i (D.toI (gD x 1)), .l (List.set (List.replicate (List.length (D.els (gD x 0))) (D.b false)) 0 (D.b true)), .l [.i 0]] (.cons (fun p0 =>
 .ret (.l (gL p0 0)) [])
 .nil))
 (.bad))
 (.bad))
 (.loop 0 [.l (D.els (gD x 0)), .i (D.toI (gD x 1)), .l (List.replicate (List.length (D.els (gD x 0))) (D.b false)), .l []] (.cons (fun p0 =>
 .ret (.l (gL p0 0)) [])
 .nil)))
 (.bad)
def L_dom_without_0 (p : List D) : Sh :=
 .ask (ltI 0 (Int.ofNat (List.length (gL p 3))))
 (.ask (within (wrapA .i64 ((Int.ofNat (List.length (gL p 3))) - 1)) (List.length (gL p 3)))
 (.ask (bounds 0 (wrapA .i64 ((Int.ofNat (List.length (gL p 3))) - 1)) (Int.ofNat (List.length (gL p 3))))
 (.ask (within (D.toI (gD (gL p 3) (Int.toNat (wrapA .i64 ((Int.ofNat (List.length (gL p 3))) - 1))))) (List.length (gL p 0)))
 (.loop 2 (let z0 := D.els (gD (gL p 0) (Int.toNat (D.toI (gD (gL p 3) (Int.toNat (wrapA .i64 ((Int.ofNat (List.length (gL p 3))) - 1))))))); [.l (gL p 0), .i (gI p 1), .i 0, .l z0, .i (Int.ofNat (List.length z0)), .l (gL p 2), .l (List.drop 0 (List.take (Int.toNat (wrapA .i64 ((Int.ofNat (List.length (gL p 3))) - 1))) (gL p 3)))]) (.cons (fun p0 =>
 .again [.l (gL p0 0), .i (gI p0 1), .l (gL p0 2), .l (gL p0 3)])
 .nil))
 (.bad))
 (.bad))
 (.bad))
 (.out (0, [.l (gL p 2)]))
def L_dom_without_2 (p : List D) : Sh :=
 .ask (ltI (gI p 2) (gI p 4))
 (.ask (within (gI p 2) (List.length (gL p 3)))
 (.ask ((!((!(eqI (D.toI (gD (gL p 3) (Int.toNat (gI p 2)))) (gI p 1))) && true)) || (within (D.toI (gD (gL p 3) (Int.toNat (gI p 2)))) (List.length (gL p 5))))
 (.ask ((!(eqI (D.toI (gD (gL p 3) (Int.toNat (gI p 2)))) (gI p 1))) && (!(D.toB (gD (gL p 5) (Int.toNat (D.toI (gD (gL p 3) (Int.toNat (gI p 2)))))))))
 (.ask (within (D.toI (gD (gL p 3) (Int.toNat (gI p 2)))) (List.length (gL p 5)))
 (.ask (lim ((List.length (gL p 6)) + 1) 8)
 (.again [.l (gL p 0), .i (gI p 1), .i (wrapA .i64 ((gI p 2) + 1)), .l (gL p 3), .i (gI p 4), .l (List.set (gL p 5) (Int.toNat (D.toI (gD (gL p 3) (Int.toNat (gI p 2))))) (D.b true)), .l ((gL p 6) ++ [.i (D.toI (gD (gL p 3) (Int.toNat (gI p 2))))])])
 (.bad))
 (.bad))
 (.again [.l (gL p 0), .i (gI p 1), .i (wrapA .i64 ((gI p 2) + 1)), .l (gL p 3), .i (gI p 4), .l (gL p 5), .l (gL p 6)]))
 (.bad))
 (.bad))
 (.out (0, [.l (gL p 0), .i (gI p 1), .l (gL p 5), .l (gL p 6)]))
def S_dom_without : STab := [(0, fun p => ⟨(t2 (.fz [] 24 [.sl false 3 [.int .i64]] (gL p 0)) (t2 (.int .i64 (gI p 1)) .nil (t1 (.vw 12 0 []))) (t0 .nil (t1 (.vw 200006 0 [])))), [], [(12, ⟨4, [.bool], (gL p 2), [], 0, [0, 0, 0, 0], 0⟩), (200006, ⟨3, [.int .i64], (gL p 3), [], 0, [0, 0, 0, 0], 0⟩)], 1⟩),
 (2, fun p => ⟨(t2 (.fz [] 24 [.sl false 3 [.int .i64]] (gL p 0)) (t2 (.int .i64 (gI p 1)) (t0 (t0 .nil (t0 (t1 (.int .i64 (gI p 2))) .nil)) .nil) (t2 (.vw 12 0 []) .nil (t0 (t0 (t1 (.fz [] 3 [.int .i64] (gL p 3))) .nil) .nil))) (t0 .nil (t2 (.vw 200006 0 []) .nil (t0 (t0 (t1 (.int .i64 (gI p 4))) .nil) .nil)))), [], [(12, ⟨4, [.bool], (gL p 5), [], 0, [0, 0, 0, 0], 0⟩), (200006, ⟨3, [.int .i64], (gL p 6), [], 0, [0, 0, 0, 0], 0⟩)], 1⟩)]
def T_dom_without : TTab := [(0, [fun p => (.exit 0, ⟨(t0 (t0 .nil (t1 (.vw 12 0 []))) (t0 (t0 .nil .nil) .nil)), [], [(12, ⟨4, [.bool], (gL p 0), [], 0, [0, 0, 0, 0], 0⟩)], 1⟩)]),
 (2, [fun p => (.exit 2, ⟨(t2 (.fz [] 24 [.sl false 3 [.int .i64]] (gL p 0)) (t2 (.int .i64 (gI p 1)) .nil (t1 (.vw 12 0 []))) (t0 (t0 .nil .nil) (t1 (.vw 200006 0 [])))), [], [(12, ⟨4, [.bool], (gL p 2), [], 0, [0, 0, 0, 0], 0⟩), (200006, ⟨3, [.int .i64], (gL p 3), [], 0, [0, 0, 0, 0], 0⟩)], 1⟩)])]
def F_dom_without : Fn := { np := 2, bs := [0, 2], main := M_dom_without, lps := [(0, L_dom_without_0), (2, L_dom_without_2)] }
def M_facts_Func_Num (x : List D) : Sh :=
 .ask (within (D.toI (gD x 1)) (List.length (D.els (D.fld (gD x 0) 3))))
 (.ret (.l [.i (D.toI (D.fld (gD (D.els (D.fld (gD x 0) 3)) (Int.toNat (D.toI (gD x 1)))) 4)), .b (eqI (D.toI (D.fld (gD (D.els (D.fld (gD x 0) 3)) (Int.toNat (D.toI (gD x 1)))) 0)) 1)]) [])
 (.bad)
def S_facts_Func_Num : STab := []
def T_facts_Func_Num : TTab := []
def F_facts_Func_Num : Fn := { np := 2, bs := [], main := M_facts_Func_Num, lps := [] }
def M_slices_Index_Sint_int (x : List D) : Sh :=
 .loop 0 [.l (D.els (gD x 0)), .i (D.toI (gD x 1)), .i (Int.ofNat (List.length (D.els (gD x 0)))), .i 0] (.cons (fun p0 =>
 .ret (.i (gI p0 0)) [])
 (.cons (fun p0 =>
 .ret (.i (-1)) [])
 .nil))
def L_slices_Index_Sint_int_0 (p : List D) : Sh :=
 .ask (ltI (gI p 3) (gI p 2))
 (.ask (within (gI p 3) (List.length (gL p 0)))
 (.ask (eqI (gI p 1) (D.toI (gD (gL p 0) (Int.toNat (gI p 3)))))
 (.out (0, [.i (gI p 3)]))
 (.again [.l (gL p 0), .i (gI p 1), .i (gI p 2), .i (wrapA .i64 ((gI p 3) + 1))]))
 (.bad))
 (.out (1, []))
def S_slices_Index_Sint_int : STab := [(0, fun p => ⟨(t2 (.fz [] 3 [.int .i64] (gL p 0)) (t2 (.int .i64 (gI p 1)) (t0 (t1 (.int .i64 (gI p 2))) .nil) .nil) (t0 (t0 (t1 (.int .i64 (gI p 3))) .nil) .nil)), [], [], 1⟩)]
def T_slices_Index_Sint_int : TTab := [(0, [fun p => (.ret, ⟨(t0 .nil (t0 (t1 (.int .i64 (gI p 0))) .nil)), [], [], 1⟩),
  fun p => (.exit 0, ⟨(t0 .nil (t0 (t0 .nil .nil) .nil)), [], [], 1⟩)])]
def F_slices_Index_Sint_int : Fn := { np := 2, bs := [0], main := M_slices_Index_Sint_int, lps := [(0, L_slices_Index_Sint_int_0)] }
def M_keep_Rows (x : List D) : Sh :=
 .ask (!(eqI (Int.ofNat (List.length (D.els (gD x 0)))) (Int.ofNat (List.length (D.els (gD x 1))))))
 (.ret (.b false) [])
 (.loop 0 [.l (D.els (gD x 0)), .l (D.els (gD x 1)), .i 0] (.cons (fun p0 =>
 .ret (.b (gB p0 0)) [])
 (.cons (fun p0 =>
 .ret (.b true) [])
 .nil)))
def L_keep_Rows_0 (p : List D) : Sh :=
 .ask (ltI (gI p 2) (Int.ofNat (List.length (gL p 0))))
 (.ask (within (gI p 2) (List.length (gL p 0)))
 (.ask (within (gI p 2) (List.length (gL p 1)))
 (.call r3_Ints [.l (D.els (gD (gL p 0) (Int.toNat (gI p 2)))), .l (D.els (gD (gL p 1) (Int.toNat (gI p 2))))] 0 fun r0 _ =>
 .ask (!(D.toB r0))
 (.out (0, [.b false]))
 (.again [.l (gL p 0), .l (gL p 1), .i (wrapA .i64 ((gI p 2) + 1))]))
 (.bad))
 (.bad))
 (.out (1, []))
def S_keep_Rows : STab := [(0, fun p => ⟨(t2 (.fz [] 24 [.sl false 3 [.int .i64]] (gL p 0)) (t2 (.fz [] 24 [.sl false 3 [.int .i64]] (gL p 1)) .nil (t1 (.int .i64 (gI p 2)))) .nil), [], [], 1⟩)]
def T_keep_Rows : TTab := [(0, [fun p => (.ret, ⟨(t0 .nil (t0 (t1 (.bool (gB p 0))) .nil)), [], [], 1⟩),
  fun p => (.exit 0, ⟨(t0 .nil (t0 (t0 .nil .nil) .nil)), [], [], 1⟩)])]
def F_keep_Rows : Fn := { np := 2, bs := [0], main := M_keep_Rows, lps := [(0, L_keep_Rows_0)] }
def M_wf_Check (x : List D) : Sh :=
 .call wf_small [.l [.l (D.els (D.fld (gD x 0) 0)), .l (D.els (D.fld (gD x 0) 1)), .l (D.els (D.fld (gD x 0) 2)), .l (D.els (D.fld (gD x 0) 3))]] 0 fun r0 _ =>
 .ask (!(D.toB r0))
 (.ret (.i 2) [])
 (.call wf_formed [.l [.l (D.els (D.fld (gD x 0) 0)), .l (D.els (D.fld (gD x 0) 1)), .l (D.els (D.fld (gD x 0) 2)), .l (D.els (D.fld (gD x 0) 3))]] 0 fun r1 _ =>
 .ask (!(D.toB r1))
 (.ret (.i 1) [])
 (.call wf_named [.l [.l (D.els (D.fld (gD x 0) 0)), .l (D.els (D.fld (gD x 0) 1)), .l (D.els (D.fld (gD x 0) 2)), .l (D.els (D.fld (gD x 0) 3))]] 0 fun r2 _ =>
 .ask (!(D.toB r2))
 (.ret (.i 3) [])
 (.call wf_known [.l [.l (D.els (D.fld (gD x 0) 0)), .l (D.els (D.fld (gD x 0) 1)), .l (D.els (D.fld (gD x 0) 2)), .l (D.els (D.fld (gD x 0) 3))]] 0 fun r3 _ =>
 .ask (!(D.toB r3))
 (.ret (.i 4) [])
 (.loop 1 [.i (Int.ofNat (List.length (D.els (D.fld (gD x 0) 3)))), .i 0, .l (D.els (D.fld (gD x 0) 3)), .l (D.els (D.fld (gD x 0) 0)), .l (D.els (D.fld (gD x 0) 1)), .l (D.els (D.fld (gD x 0) 2)), .l (D.els (D.fld (gD x 0) 3))] (.cons (fun p4 =>
 .ret (.i (gI p4 0)) [])
 (.cons (fun p4 =>
 .loop 3 [.i 0, .l (gL p4 3), .i (Int.ofNat (List.length (gL p4 3))), .l (gL p4 0), .l (gL p4 1), .l (gL p4 2), .l (gL p4 3)] (.cons (fun p5 =>
 .ret (.i (gI p5 0)) [])
 (.cons (fun p5 =>
 .loop 5 [.i (Int.ofNat (List.length (gL p5 3))), .l (gL p5 3), .i 0, .l (gL p5 0), .l (gL p5 1), .l (gL p5 2), .l (gL p5 3)] (.cons (fun p6 =>
 .ret (.i (gI p6 0)) [])
 (.cons (fun p6 =>
 .ret (.i 0) [])
 .nil)))
 .nil)))
 .nil))))))
def L_wf_Check_1 (p : List D) : Sh :=
 .ask (ltI (gI p 1) (gI p 0))
 (.ask (within (gI p 1) (List.length (gL p 2)))
 (.call wf_flows [.l [.s (D.toS (D.fld (gD (gL p 2) (Int.toNat (gI p 1))) 0)), .b (D.toB (D.fld (gD (gL p 2) (Int.toNat (gI p 1))) 1)), .l (D.els (D.fld (gD (gL p 2) (Int.toNat (gI p 1))) 2)), .i (D.toI (D.fld (gD (gL p 2) (Int.toNat (gI p 1))) 3)), .l (D.els (D.fld (gD (gL p 2) (Int.toNat (gI p 1))) 4))]] 0 fun r0 _ =>
 .ask (!(D.toB r0))
 (.out (0, [.i 5, .l (gL p 3), .l (gL p 4), .l (gL p 5), .l (gL p 6)]))
 (.again [.i (gI p 0), .i (wrapA .i64 ((gI p 1) + 1)), .l (gL p 2), .l (gL p 3), .l (gL p 4), .l (gL p 5), .l (gL p 6)]))
 (.bad))
 (.out (1, [.l (gL p 3), .l (gL p 4), .l (gL p 5), .l (gL p 6)]))
def L_wf_Check_3 (p : List D) : Sh :=
 .ask (ltI (gI p 0) (gI p 2))
 (.ask (within (gI p 0) (List.length (gL p 1)))
 (.call wf_used [.l [.s (D.toS (D.fld (gD (gL p 1) (Int.toNat (gI p 0))) 0)), .b (D.toB (D.fld (gD (gL p 1) (Int.toNat (gI p 0))) 1)), .l (D.els (D.fld (gD (gL p 1) (Int.toNat (gI p 0))) 2)), .i (D.toI (D.fld (gD (gL p 1) (Int.toNat (gI p 0))) 3)), .l (D.els (D.fld (gD (gL p 1) (Int.toNat (gI p 0))) 4))]] 0 fun r0 _ =>
 .ask (!(D.toB r0))
 (.out (0, [.i 6, .l (gL p 3), .l (gL p 4), .l (gL p 5), .l (gL p 6)]))
 (.again [.i (wrapA .i64 ((gI p 0) + 1)), .l (gL p 1), .i (gI p 2), .l (gL p 3), .l (gL p 4), .l (gL p 5), .l (gL p 6)]))
 (.bad))
 (.out (1, [.l (gL p 3), .l (gL p 4), .l (gL p 5), .l (gL p 6)]))
def L_wf_Check_5 (p : List D) : Sh :=
 .ask (ltI (gI p 2) (gI p 0))
 (.ask (within (gI p 2) (List.length (gL p 1)))
 (.call wf_typed [.l [.l (gL p 3), .l (gL p 4), .l (gL p 5), .l (gL p 6)], .l [.s (D.toS (D.fld (gD (gL p 1) (Int.toNat (gI p 2))) 0)), .b (D.toB (D.fld (gD (gL p 1) (Int.toNat (gI p 2))) 1)), .l (D.els (D.fld (gD (gL p 1) (Int.toNat (gI p 2))) 2)), .i (D.toI (D.fld (gD (gL p 1) (Int.toNat (gI p 2))) 3)), .l (D.els (D.fld (gD (gL p 1) (Int.toNat (gI p 2))) 4))]] 0 fun r0 _ =>
 .ask (!(D.toB r0))
 (.out (0, [.i 7]))
 (.again [.i (gI p 0), .l (gL p 1), .i (wrapA .i64 ((gI p 2) + 1)), .l (gL p 3), .l (gL p 4), .l (gL p 5), .l (gL p 6)]))
 (.bad))
 (.out (1, []))
def S_wf_Check : STab := [(1, fun p => ⟨(t0 (t2 (.pb 1 0 0) (t0 .nil (t0 .nil (t1 (.int .i64 (gI p 0))))) .nil) (t0 (t0 .nil (t0 .nil (t1 (.int .i64 (gI p 1))))) (t0 (t0 .nil (t1 (.fz [] 43 lt2 (gL p 2)))) .nil))), [(1, ⟨0, [.fz [] 38 lt1 (gL p 3), .fz [] 67 [.str, .sl false 2 [.int .i64]] (gL p 4), .fz [] 70 [.str, .sl false 3 [.int .i64]] (gL p 5), .fz [] 43 lt2 (gL p 6)], none⟩)], [], 1⟩),
 (3, fun p => ⟨(t0 (t2 (.pb 1 0 0) (t0 (t0 .nil (t0 (t1 (.int .i64 (gI p 0))) .nil)) .nil) (t0 .nil (t0 (t0 (t1 (.fz [] 43 lt2 (gL p 1))) .nil) .nil))) (t0 .nil (t0 .nil (t0 (t0 (t1 (.int .i64 (gI p 2))) .nil) .nil)))), [(1, ⟨0, [.fz [] 38 lt1 (gL p 3), .fz [] 67 [.str, .sl false 2 [.int .i64]] (gL p 4), .fz [] 70 [.str, .sl false 3 [.int .i64]] (gL p 5), .fz [] 43 lt2 (gL p 6)], none⟩)], [], 1⟩),
 (5, fun p => ⟨(t0 (t2 (.pb 1 0 0) .nil (t0 (t0 (t0 .nil (t1 (.int .i64 (gI p 0)))) .nil) .nil)) (t0 (t0 (t0 (t0 .nil (t1 (.fz [] 43 lt2 (gL p 1)))) .nil) .nil) (t0 (t0 (t0 .nil (t1 (.int .i64 (gI p 2)))) .nil) .nil))), [(1, ⟨0, [.fz [] 38 lt1 (gL p 3), .fz [] 67 [.str, .sl false 2 [.int .i64]] (gL p 4), .fz [] 70 [.str, .sl false 3 [.int .i64]] (gL p 5), .fz [] 43 lt2 (gL p 6)], none⟩)], [], 1⟩)]
def T_wf_Check : TTab := [(1, [fun p => (.ret, ⟨(t0 (t1 (.pb 1 0 0)) (t1 (.int .i64 (gI p 0)))), [(1, ⟨0, [.fz [] 38 lt1 (gL p 1), .fz [] 67 [.str, .sl false 2 [.int .i64]] (gL p 2), .fz [] 70 [.str, .sl false 3 [.int .i64]] (gL p 3), .fz [] 43 lt2 (gL p 4)], none⟩)], [], 1⟩),
  fun p => (.exit 1, ⟨(t0 (t1 (.pb 1 0 0)) (t0 .nil .nil)), [(1, ⟨0, [.fz [] 38 lt1 (gL p 0), .fz [] 67 [.str, .sl false 2 [.int .i64]] (gL p 1), .fz [] 70 [.str, .sl false 3 [.int .i64]] (gL p 2), .fz [] 43 lt2 (gL p 3)], none⟩)], [], 1⟩)]),
 (3, [fun p => (.ret, ⟨(t0 (t1 (.pb 1 0 0)) (t1 (.int .i64 (gI p 0)))), [(1, ⟨0, [.fz [] 38 lt1 (gL p 1), .fz [] 67 [.str, .sl false 2 [.int .i64]] (gL p 2), .fz [] 70 [.str, .sl false 3 [.int .i64]] (gL p 3), .fz [] 43 lt2 (gL p 4)], none⟩)], [], 1⟩),
  fun p => (.exit 3, ⟨(t0 (t1 (.pb 1 0 0)) (t0 .nil .nil)), [(1, ⟨0, [.fz [] 38 lt1 (gL p 0), .fz [] 67 [.str, .sl false 2 [.int .i64]] (gL p 1), .fz [] 70 [.str, .sl false 3 [.int .i64]] (gL p 2), .fz [] 43 lt2 (gL p 3)], none⟩)], [], 1⟩)]),
 (5, [fun p => (.ret, ⟨(t0 .nil (t1 (.int .i64 (gI p 0)))), [], [], 1⟩),
  fun p => (.exit 5, ⟨(t0 .nil (t0 .nil .nil)), [], [], 1⟩)])]
def F_wf_Check : Fn := { np := 1, bs := [1, 3, 5], main := M_wf_Check, lps := [(1, L_wf_Check_1), (3, L_wf_Check_3), (5, L_wf_Check_5)] }
def M_ir_Copy (x : List D) : Sh :=
 .loop 0 [.i 0, .l (D.els (D.fld (gD x 0) 0)), .i (Int.ofNat (List.length (D.els (D.fld (gD x 0) 0)))), .l (D.els (D.fld (gD x 0) 0)), .l (D.els (D.fld (gD x 0) 1)), .l (D.els (D.fld (gD x 0) 2)), .l (D.els (D.fld (gD x 0) 3)), .l []] (.cons (fun p0 =>
 .loop 2 [.l (gL p0 1), .i 0, .i (Int.ofNat (List.length (gL p0 1))), .l (gL p0 0), .l (gL p0 1), .l (gL p0 2), .l (gL p0 3), .l (gL p0 4), .l []] (.cons (fun p1 =>
 .loop 4 [.i 0, .l (gL p1 2), .i (Int.ofNat (List.length (gL p1 2))), .l (gL p1 0), .l (gL p1 1), .l (gL p1 2), .l (gL p1 3), .l (gL p1 4), .l (gL p1 5), .l []] (.cons (fun p2 =>
 .loop 6 [.l (gL p2 3), .i 0, .i (Int.ofNat (List.length (gL p2 3))), .l (gL p2 4), .l (gL p2 5), .l (gL p2 6), .l []] (.cons (fun p3 =>
 .ret (.l [.l (gL p3 0), .l (gL p3 1), .l (gL p3 2), .l (gL p3 3)]) [])
 .nil))
 .nil))
 .nil))
 .nil)
def L_ir_Copy_0 (p : List D) : Sh :=
 .ask (ltI (gI p 0) (gI p 2))
 (.ask (within (gI p 0) (List.length (gL p 1)))
 (.call slices_Clone_Sint_int [.l (D.els (D.fld (gD (gL p 1) (Int.toNat (gI p 0))) 1))] 0 fun r0 _ =>
 .ask (lim ((List.length (gL p 7)) + 1) 48)
 (.again [.i (wrapA .i64 ((gI p 0) + 1)), .l (gL p 1), .i (gI p 2), .l (gL p 3), .l (gL p 4), .l (gL p 5), .l (gL p 6), .l ((gL p 7) ++ [.l [.s (D.toS (D.fld (gD (gL p 1) (Int.toNat (gI p 0))) 0)), .l (D.els r0), .i (D.toI (D.fld (gD (gL p 1) (Int.toNat (gI p 0))) 2))]])])
 (.bad))
 (.bad))
 (.out (0, [.l (gL p 3), .l (gL p 4), .l (gL p 5), .l (gL p 6), .l (gL p 7)]))
def L_ir_Copy_2 (p : List D) : Sh :=
 .ask (ltI (gI p 1) (gI p 2))
 (.ask (within (gI p 1) (List.length (gL p 0)))
 (.call slices_Clone_Sint64_int64 [.l (D.els (D.fld (gD (gL p 0) (Int.toNat (gI p 1))) 1))] 0 fun r0 _ =>
 .ask (lim ((List.length (gL p 8)) + 1) 40)
 (.again [.l (gL p 0), .i (wrapA .i64 ((gI p 1) + 1)), .i (gI p 2), .l (gL p 3), .l (gL p 4), .l (gL p 5), .l (gL p 6), .l (gL p 7), .l ((gL p 8) ++ [.l [.s (D.toS (D.fld (gD (gL p 0) (Int.toNat (gI p 1))) 0)), .l (D.els r0)]])])
 (.bad))
 (.bad))
 (.out (0, [.l (gL p 3), .l (gL p 4), .l (gL p 5), .l (gL p 6), .l (gL p 7), .l (gL p 8)]))
def L_ir_Copy_4 (p : List D) : Sh :=
 .ask (ltI (gI p 0) (gI p 2))
 (.ask (within (gI p 0) (List.length (gL p 1)))
 (.call slices_Clone_Sint_int [.l (D.els (D.fld (gD (gL p 1) (Int.toNat (gI p 0))) 1))] 0 fun r0 _ =>
 .ask (lim ((List.length (gL p 9)) + 1) 40)
 (.again [.i (wrapA .i64 ((gI p 0) + 1)), .l (gL p 1), .i (gI p 2), .l (gL p 3), .l (gL p 4), .l (gL p 5), .l (gL p 6), .l (gL p 7), .l (gL p 8), .l ((gL p 9) ++ [.l [.s (D.toS (D.fld (gD (gL p 1) (Int.toNat (gI p 0))) 0)), .l (D.els r0)]])])
 (.bad))
 (.bad))
 (.out (0, [.l (gL p 3), .l (gL p 4), .l (gL p 5), .l (gL p 6), .l (gL p 7), .l (gL p 8), .l (gL p 9)]))
def L_ir_Copy_6 (p : List D) : Sh :=
 .ask (ltI (gI p 1) (gI p 2))
 (.ask (within (gI p 1) (List.length (gL p 0)))
 (.call ir_copyFunc [.l [.s (D.toS (D.fld (gD (gL p 0) (Int.toNat (gI p 1))) 0)), .b (D.toB (D.fld (gD (gL p 0) (Int.toNat (gI p 1))) 1)), .l (D.els (D.fld (gD (gL p 0) (Int.toNat (gI p 1))) 2)), .i (D.toI (D.fld (gD (gL p 0) (Int.toNat (gI p 1))) 3)), .l (D.els (D.fld (gD (gL p 0) (Int.toNat (gI p 1))) 4))]] 0 fun r0 _ =>
 .ask (lim ((List.length (gL p 6)) + 1) 80)
 (.again [.l (gL p 0), .i (wrapA .i64 ((gI p 1) + 1)), .i (gI p 2), .l (gL p 3), .l (gL p 4), .l (gL p 5), .l ((gL p 6) ++ [.l [.s (D.toS (D.fld r0 0)), .b (D.toB (D.fld r0 1)), .l (D.els (D.fld r0 2)), .i (D.toI (D.fld r0 3)), .l (D.els (D.fld r0 4))]])])
 (.bad))
 (.bad))
 (.out (0, [.l (gL p 3), .l (gL p 4), .l (gL p 5), .l (gL p 6)]))
def S_ir_Copy : STab := [(0, fun p => ⟨(t0 (t2 (.pb 1 0 0) (t2 (.pb 3 0 0) (t0 (t1 (.int .i64 (gI p 0))) .nil) .nil) (t0 .nil (t1 (.fz [] 38 lt1 (gL p 1))))) (t2 (.pb 2 0 0) .nil (t0 .nil (t1 (.int .i64 (gI p 2)))))), [(1, ⟨0, [.fz [] 38 lt1 (gL p 3), .fz [] 67 [.str, .sl false 2 [.int .i64]] (gL p 4), .fz [] 70 [.str, .sl false 3 [.int .i64]] (gL p 5), .fz [] 43 lt2 (gL p 6)], none⟩), (2, ⟨0, [.nils, .nils, .nils, .nils], none⟩), (3, ⟨0, [.vw 300192 0 [], .nils, .nils, .nils], none⟩)], [(300192, ⟨38, lt6, (gL p 7), [], 0, [0, 0, 0, 0], 0⟩)], 1⟩),
 (2, fun p => ⟨(t0 (t2 (.pb 1 0 0) (t2 (.pb 3 0 0) (t0 (t0 (t1 (.fz [] 67 [.str, .sl false 2 [.int .i64]] (gL p 0))) .nil) .nil) .nil) (t0 (t0 (t0 (t1 (.int .i64 (gI p 1))) .nil) .nil) .nil)) (t2 (.pb 2 0 0) (t0 (t0 (t0 (t1 (.int .i64 (gI p 2))) .nil) .nil) .nil) .nil)), [(1, ⟨0, [.fz [] 38 lt1 (gL p 3), .fz [] 67 [.str, .sl false 2 [.int .i64]] (gL p 4), .fz [] 70 [.str, .sl false 3 [.int .i64]] (gL p 5), .fz [] 43 lt2 (gL p 6)], none⟩), (2, ⟨0, [.nils, .nils, .nils, .nils], none⟩), (3, ⟨0, [.vw 300192 0 [], .vw 300193 0 [], .nils, .nils], none⟩)], [(300192, ⟨38, lt6, (gL p 7), [], 0, [0, 0, 0, 0], 0⟩), (300193, ⟨67, [.str, .sl true 2 [.int .i64]], (gL p 8), [], 0, [0, 0, 0, 0], 0⟩)], 1⟩),
 (4, fun p => ⟨(t0 (t2 (.pb 1 0 0) (t2 (.pb 3 0 0) .nil (t0 (t0 .nil (t1 (.int .i64 (gI p 0)))) .nil)) (t0 (t0 (t0 .nil (t1 (.fz [] 70 [.str, .sl false 3 [.int .i64]] (gL p 1)))) .nil) .nil)) (t2 (.pb 2 0 0) .nil (t0 (t0 (t0 .nil (t1 (.int .i64 (gI p 2)))) .nil) .nil))), [(1, ⟨0, [.fz [] 38 lt1 (gL p 3), .fz [] 67 [.str, .sl false 2 [.int .i64]] (gL p 4), .fz [] 70 [.str, .sl false 3 [.int .i64]] (gL p 5), .fz [] 43 lt2 (gL p 6)], none⟩), (2, ⟨0, [.nils, .nils, .nils, .nils], none⟩), (3, ⟨0, [.vw 300192 0 [], .vw 300193 0 [], .vw 300194 0 [], .nils], none⟩)], [(300192, ⟨38, lt6, (gL p 7), [], 0, [0, 0, 0, 0], 0⟩), (300193, ⟨67, [.str, .sl true 2 [.int .i64]], (gL p 8), [], 0, [0, 0, 0, 0], 0⟩), (300194, ⟨70, [.str, .sl true 3 [.int .i64]], (gL p 9), [], 0, [0, 0, 0, 0], 0⟩)], 1⟩),
 (6, fun p => ⟨(t0 (t0 (t2 (.pb 3 0 0) .nil (t0 (t0 (t0 (t1 (.fz [] 43 lt2 (gL p 0))) .nil) .nil) .nil)) (t0 .nil (t0 (t0 (t0 (t1 (.int .i64 (gI p 1))) .nil) .nil) .nil))) (t2 (.pb 2 0 0) (t0 .nil (t0 (t0 (t0 (t1 (.int .i64 (gI p 2))) .nil) .nil) .nil)) .nil)), [(2, ⟨0, [.nils, .nils, .nils, .nils], none⟩), (3, ⟨0, [.vw 300192 0 [], .vw 300193 0 [], .vw 300194 0 [], .vw 300195 0 []], none⟩)], [(300192, ⟨38, lt6, (gL p 3), [], 0, [0, 0, 0, 0], 0⟩), (300193, ⟨67, [.str, .sl true 2 [.int .i64]], (gL p 4), [], 0, [0, 0, 0, 0], 0⟩), (300194, ⟨70, [.str, .sl true 3 [.int .i64]], (gL p 5), [], 0, [0, 0, 0, 0], 0⟩), (300195, ⟨43, lt7, (gL p 6), [], 0, [0, 0, 0, 0], 0⟩)], 1⟩)]
def T_ir_Copy : TTab := [(0, [fun p => (.exit 0, ⟨(t0 (t2 (.pb 1 0 0) (t1 (.pb 3 0 0)) .nil) (t1 (.pb 2 0 0))), [(1, ⟨0, [.fz [] 38 lt1 (gL p 0), .fz [] 67 [.str, .sl false 2 [.int .i64]] (gL p 1), .fz [] 70 [.str, .sl false 3 [.int .i64]] (gL p 2), .fz [] 43 lt2 (gL p 3)], none⟩), (2, ⟨0, [.nils, .nils, .nils, .nils], none⟩), (3, ⟨0, [.vw 300192 0 [], .nils, .nils, .nils], none⟩)], [(300192, ⟨38, lt6, (gL p 4), [], 0, [0, 0, 0, 0], 0⟩)], 1⟩)]),
 (2, [fun p => (.exit 2, ⟨(t0 (t2 (.pb 1 0 0) (t1 (.pb 3 0 0)) .nil) (t1 (.pb 2 0 0))), [(1, ⟨0, [.fz [] 38 lt1 (gL p 0), .fz [] 67 [.str, .sl false 2 [.int .i64]] (gL p 1), .fz [] 70 [.str, .sl false 3 [.int .i64]] (gL p 2), .fz [] 43 lt2 (gL p 3)], none⟩), (2, ⟨0, [.nils, .nils, .nils, .nils], none⟩), (3, ⟨0, [.vw 300192 0 [], .vw 300193 0 [], .nils, .nils], none⟩)], [(300192, ⟨38, lt6, (gL p 4), [], 0, [0, 0, 0, 0], 0⟩), (300193, ⟨67, [.str, .sl true 2 [.int .i64]], (gL p 5), [], 0, [0, 0, 0, 0], 0⟩)], 1⟩)]),
 (4, [fun p => (.exit 4, ⟨(t0 (t2 (.pb 1 0 0) (t1 (.pb 3 0 0)) .nil) (t1 (.pb 2 0 0))), [(1, ⟨0, [.fz [] 38 lt1 (gL p 0), .fz [] 67 [.str, .sl false 2 [.int .i64]] (gL p 1), .fz [] 70 [.str, .sl false 3 [.int .i64]] (gL p 2), .fz [] 43 lt2 (gL p 3)], none⟩), (2, ⟨0, [.nils, .nils, .nils, .nils], none⟩), (3, ⟨0, [.vw 300192 0 [], .vw 300193 0 [], .vw 300194 0 [], .nils], none⟩)], [(300192, ⟨38, lt6, (gL p 4), [], 0, [0, 0, 0, 0], 0⟩), (300193, ⟨67, [.str, .sl true 2 [.int .i64]], (gL p 5), [], 0, [0, 0, 0, 0], 0⟩), (300194, ⟨70, [.str, .sl true 3 [.int .i64]], (gL p 6), [], 0, [0, 0, 0, 0], 0⟩)], 1⟩)]),
 (6, [fun p => (.exit 6, ⟨(t0 (t0 (t1 (.pb 3 0 0)) .nil) (t1 (.pb 2 0 0))), [(2, ⟨0, [.nils, .nils, .nils, .nils], none⟩), (3, ⟨0, [.vw 300192 0 [], .vw 300193 0 [], .vw 300194 0 [], .vw 300195 0 []], none⟩)], [(300192, ⟨38, lt6, (gL p 0), [], 0, [0, 0, 0, 0], 0⟩), (300193, ⟨67, [.str, .sl true 2 [.int .i64]], (gL p 1), [], 0, [0, 0, 0, 0], 0⟩), (300194, ⟨70, [.str, .sl true 3 [.int .i64]], (gL p 2), [], 0, [0, 0, 0, 0], 0⟩), (300195, ⟨43, lt7, (gL p 3), [], 0, [0, 0, 0, 0], 0⟩)], 1⟩)])]
def F_ir_Copy : Fn := { np := 1, bs := [0, 2, 4, 6], main := M_ir_Copy, lps := [(0, L_ir_Copy_0), (2, L_ir_Copy_2), (4, L_ir_Copy_4), (6, L_ir_Copy_6)] }
def M_wf_known (x : List D) : Sh :=
 .loop 0 [.l (D.els (D.fld (gD x 0) 2)), .i 0, .i (Int.ofNat (List.length (D.els (D.fld (gD x 0) 2)))), .l (D.els (D.fld (gD x 0) 0)), .l (D.els (D.fld (gD x 0) 1)), .l (D.els (D.fld (gD x 0) 2)), .l (D.els (D.fld (gD x 0) 3))] (.cons (fun p0 =>
 .ret (.b (gB p0 0)) [])
 (.cons (fun p0 =>
 .loop 4 [.i (Int.ofNat (List.length (gL p0 3))), .l (gL p0 3), .i 0, .l (gL p0 0), .l (gL p0 1), .l (gL p0 2), .l (gL p0 3)] (.cons (fun p1 =>
 .ret (.b (gB p1 0)) [])
 (.cons (fun p1 =>
 .ret (.b true) [])
 .nil)))
 .nil))
def L_wf_known_0 (p : List D) : Sh :=
 .ask (ltI (gI p 1) (gI p 2))
 (.ask (within (gI p 1) (List.length (gL p 0)))
 (.loop 2 [.l (gL p 0), .i (Int.ofNat (List.length (D.els (D.fld (gD (gL p 0) (Int.toNat (gI p 1))) 1)))), .i (gI p 1), .i (gI p 2), .i 0, .l (D.els (D.fld (gD (gL p 0) (Int.toNat (gI p 1))) 1)), .l (gL p 3), .l (gL p 4), .l (gL p 5), .l (gL p 6)] (.cons (fun p0 =>
 .out (0, [.b (gB p0 2), .l (gL p0 4), .l (gL p0 5), .l (gL p0 6), .l (gL p0 7)]))
 (.cons (fun p0 =>
 .again [.l (gL p0 0), .i (wrapA .i64 ((gI p0 1) + 1)), .i (gI p0 2), .l (gL p0 3), .l (gL p0 4), .l (gL p0 5), .l (gL p0 6)])
 .nil)))
 (.bad))
 (.out (1, [.l (gL p 3), .l (gL p 4), .l (gL p 5), .l (gL p 6)]))
def L_wf_known_2 (p : List D) : Sh :=
 .ask (ltI (gI p 4) (gI p 1))
 (.ask (within (gI p 4) (List.length (gL p 5)))
 (.ask ((ltI (D.toI (gD (gL p 5) (Int.toNat (gI p 4)))) (-1)) || (leI (Int.ofNat (List.length (gL p 9))) (D.toI (gD (gL p 5) (Int.toNat (gI p 4))))))
 (.out (0, [.l (gL p 0), .i (gI p 2), .b false, .i (gI p 3), .l (gL p 6), .l (gL p 7), .l (gL p 8), .l (gL p 9)]))
 (.again [.l (gL p 0), .i (gI p 1), .i (gI p 2), .i (gI p 3), .i (wrapA .i64 ((gI p 4) + 1)), .l (gL p 5), .l (gL p 6), .l (gL p 7), .l (gL p 8), .l (gL p 9)]))
 (.bad))
 (.out (1, [.l (gL p 0), .i (gI p 2), .i (gI p 3), .l (gL p 6), .l (gL p 7), .l (gL p 8), .l (gL p 9)]))
def L_wf_known_4 (p : List D) : Sh :=
 .ask (ltI (gI p 2) (gI p 0))
 (.ask (within (gI p 2) (List.length (gL p 1)))
 (.loop 6 [.l (D.els (D.fld (gD (gL p 1) (Int.toNat (gI p 2))) 4)), .i 0, .i (gI p 0), .i (Int.ofNat (List.length (D.els (D.fld (gD (gL p 1) (Int.toNat (gI p 2))) 4)))), .l (gL p 1), .i (gI p 2), .l (gL p 3), .l (gL p 4), .l (gL p 5), .l (gL p 6)] (.cons (fun p0 =>
 .out (0, [.b (gB p0 1)]))
 (.cons (fun p0 =>
 .again [.i (gI p0 0), .l (gL p0 1), .i (wrapA .i64 ((gI p0 2) + 1)), .l (gL p0 3), .l (gL p0 4), .l (gL p0 5), .l (gL p0 6)])
 .nil)))
 (.bad))
 (.out (1, []))
def L_wf_known_6 (p : List D) : Sh :=
 .ask (ltI (gI p 1) (gI p 3))
 (.ask (within (gI p 1) (List.length (gL p 0)))
 (.loop 8 [.l (gL p 0), .i (Int.ofNat (List.length (D.els (gD (gL p 0) (Int.toNat (gI p 1)))))), .i (gI p 1), .i (gI p 2), .i (gI p 3), .l (gL p 4), .i 0, .i (gI p 5), .l (D.els (gD (gL p 0) (Int.toNat (gI p 1)))), .l (gL p 6), .l (gL p 7), .l (gL p 8), .l (gL p 9)] (.cons (fun p0 =>
 .out (0, [.i (gI p0 2), .b (gB p0 3), .l (gL p0 5), .i (gI p0 6), .l (gL p0 7), .l (gL p0 8), .l (gL p0 9), .l (gL p0 10)]))
 (.cons (fun p0 =>
 .again [.l (gL p0 0), .i (wrapA .i64 ((gI p0 1) + 1)), .i (gI p0 2), .i (gI p0 3), .l (gL p0 4), .i (gI p0 5), .l (gL p0 6), .l (gL p0 7), .l (gL p0 8), .l (gL p0 9)])
 .nil)))
 (.bad))
 (.out (1, [.i (gI p 2), .l (gL p 4), .i (gI p 5), .l (gL p 6), .l (gL p 7), .l (gL p 8), .l (gL p 9)]))
def J_wf_known_0 (p : List D) : Sh :=
 .ask (eqI (D.toI (D.fld (gD (gL p 8) (Int.toNat (gI p 6))) 0)) 3)
 (.ask ((ltI (D.toI (D.fld (gD (gL p 8) (Int.toNat (gI p 6))) 3)) 0) || (leI (Int.ofNat (List.length (gL p 10))) (D.toI (D.fld (gD (gL p 8) (Int.toNat (gI p 6))) 3))))
 (.out (0, [.l (gL p 0), .i (gI p 2), .i (gI p 3), .b false, .i (gI p 4), .l (gL p 5), .i (gI p 7), .l (gL p 9), .l (gL p 10), .l (gL p 11), .l (gL p 12)]))
 (.again [.l (gL p 0), .i (gI p 1), .i (gI p 2), .i (gI p 3), .i (gI p 4), .l (gL p 5), .i (wrapA .i64 ((gI p 6) + 1)), .i (gI p 7), .l (gL p 8), .l (gL p 9), .l (gL p 10), .l (gL p 11), .l (gL p 12)]))
 (.ask (eqI (D.toI (D.fld (gD (gL p 8) (Int.toNat (gI p 6))) 0)) 23)
 (.ask ((ltI (D.toI (D.fld (gD (gL p 8) (Int.toNat (gI p 6))) 3)) 0) || (leI (Int.ofNat (List.length (gL p 9))) (D.toI (D.fld (gD (gL p 8) (Int.toNat (gI p 6))) 3))))
 (.out (0, [.l (gL p 0), .i (gI p 2), .i (gI p 3), .b false, .i (gI p 4), .l (gL p 5), .i (gI p 7), .l (gL p 9), .l (gL p 10), .l (gL p 11), .l (gL p 12)]))
 (.again [.l (gL p 0), .i (gI p 1), .i (gI p 2), .i (gI p 3), .i (gI p 4), .l (gL p 5), .i (wrapA .i64 ((gI p 6) + 1)), .i (gI p 7), .l (gL p 8), .l (gL p 9), .l (gL p 10), .l (gL p 11), .l (gL p 12)]))
 (.ask (eqI (D.toI (D.fld (gD (gL p 8) (Int.toNat (gI p 6))) 0)) 24)
 (.ask ((ltI (D.toI (D.fld (gD (gL p 8) (Int.toNat (gI p 6))) 3)) 0) || (leI (Int.ofNat (List.length (gL p 11))) (D.toI (D.fld (gD (gL p 8) (Int.toNat (gI p 6))) 3))))
 (.out (0, [.l (gL p 0), .i (gI p 2), .i (gI p 3), .b false, .i (gI p 4), .l (gL p 5), .i (gI p 7), .l (gL p 9), .l (gL p 10), .l (gL p 11), .l (gL p 12)]))
 (.again [.l (gL p 0), .i (gI p 1), .i (gI p 2), .i (gI p 3), .i (gI p 4), .l (gL p 5), .i (wrapA .i64 ((gI p 6) + 1)), .i (gI p 7), .l (gL p 8), .l (gL p 9), .l (gL p 10), .l (gL p 11), .l (gL p 12)]))
 (.ask ((ltI (D.toI (D.fld (gD (gL p 8) (Int.toNat (gI p 6))) 3)) 0) || (leI (wrapA .i64 ((D.toI (D.fld (gD (gL p 8) (Int.toNat (gI p 6))) 3)) + 1)) (D.toI (D.fld (gD (gL p 8) (Int.toNat (gI p 6))) 3))))
 (.out (0, [.l (gL p 0), .i (gI p 2), .i (gI p 3), .b false, .i (gI p 4), .l (gL p 5), .i (gI p 7), .l (gL p 9), .l (gL p 10), .l (gL p 11), .l (gL p 12)]))
 (.again [.l (gL p 0), .i (gI p 1), .i (gI p 2), .i (gI p 3), .i (gI p 4), .l (gL p 5), .i (wrapA .i64 ((gI p 6) + 1)), .i (gI p 7), .l (gL p 8), .l (gL p 9), .l (gL p 10), .l (gL p 11), .l (gL p 12)]))))
def J_wf_known_1 (p : List D) : Sh :=
 .ask ((ltI (D.toI (D.fld (gD (gL p 8) (Int.toNat (gI p 6))) 3)) 0) || (leI (Int.ofNat (List.length (gL p 12))) (D.toI (D.fld (gD (gL p 8) (Int.toNat (gI p 6))) 3))))
 (.out (0, [.l (gL p 0), .i (gI p 2), .i (gI p 3), .b false, .i (gI p 4), .l (gL p 5), .i (gI p 7), .l (gL p 9), .l (gL p 10), .l (gL p 11), .l (gL p 12)]))
 (.again [.l (gL p 0), .i (gI p 1), .i (gI p 2), .i (gI p 3), .i (gI p 4), .l (gL p 5), .i (wrapA .i64 ((gI p 6) + 1)), .i (gI p 7), .l (gL p 8), .l (gL p 9), .l (gL p 10), .l (gL p 11), .l (gL p 12)])
def L_wf_known_8 (p : List D) : Sh :=
 .ask (ltI (gI p 6) (gI p 1))
 (.ask (within (gI p 6) (List.length (gL p 8)))
 (.ask (eqI (D.toI (D.fld (gD (gL p 8) (Int.toNat (gI p 6))) 0)) 2)
 (.ask (eqI (D.toI (D.fld (gD (gL p 8) (Int.toNat (gI p 6))) 0)) 2)
 (J_wf_known_1 p)
 (J_wf_known_0 p))
 (.ask (eqI (D.toI (D.fld (gD (gL p 8) (Int.toNat (gI p 6))) 0)) 22)
 (J_wf_known_1 p)
 (J_wf_known_0 p)))
 (.bad))
 (.out (1, [.l (gL p 0), .i (gI p 2), .i (gI p 3), .i (gI p 4), .l (gL p 5), .i (gI p 7), .l (gL p 9), .l (gL p 10), .l (gL p 11), .l (gL p 12)]))
def S_wf_known : STab := [(0, fun p => ⟨(t0 (t2 (.pb 1 0 0) (t0 (t0 (t1 (.fz [] 70 [.str, .sl false 3 [.int .i64]] (gL p 0))) .nil) .nil) (t0 (t0 (t1 (.int .i64 (gI p 1))) .nil) .nil)) (t0 (t0 (t0 (t1 (.int .i64 (gI p 2))) .nil) .nil) .nil)), [(1, ⟨0, [.fz [] 38 lt1 (gL p 3), .fz [] 67 [.str, .sl false 2 [.int .i64]] (gL p 4), .fz [] 70 [.str, .sl false 3 [.int .i64]] (gL p 5), .fz [] 43 lt2 (gL p 6)], none⟩)], [], 1⟩),
 (2, fun p => ⟨(t0 (t2 (.pb 1 0 0) (t0 (t0 (t1 (.fz [] 70 [.str, .sl false 3 [.int .i64]] (gL p 0))) (t1 (.int .i64 (gI p 1)))) .nil) (t0 (t0 (t1 (.int .i64 (gI p 2))) .nil) .nil)) (t0 (t0 (t0 (t1 (.int .i64 (gI p 3))) (t1 (.int .i64 (gI p 4)))) .nil) (t0 .nil (t0 (t1 (.fz [] 3 [.int .i64] (gL p 5))) .nil)))), [(1, ⟨0, [.fz [] 38 lt1 (gL p 6), .fz [] 67 [.str, .sl false 2 [.int .i64]] (gL p 7), .fz [] 70 [.str, .sl false 3 [.int .i64]] (gL p 8), .fz [] 43 lt2 (gL p 9)], none⟩)], [], 1⟩),
 (4, fun p => ⟨(t0 (t2 (.pb 1 0 0) .nil (t0 (t0 .nil (t0 (t1 (.int .i64 (gI p 0))) .nil)) .nil)) (t0 (t0 (t0 .nil (t0 (t1 (.fz [] 43 lt2 (gL p 1))) .nil)) .nil) (t0 (t0 .nil (t0 (t1 (.int .i64 (gI p 2))) .nil)) .nil))), [(1, ⟨0, [.fz [] 38 lt1 (gL p 3), .fz [] 67 [.str, .sl false 2 [.int .i64]] (gL p 4), .fz [] 70 [.str, .sl false 3 [.int .i64]] (gL p 5), .fz [] 43 lt2 (gL p 6)], none⟩)], [], 1⟩),
 (6, fun p => ⟨(t0 (t2 (.pb 1 0 0) (t0 (t0 (t0 .nil (t1 (.fz [] 40 lt4 (gL p 0)))) .nil) .nil) (t0 (t0 (t0 .nil (t1 (.int .i64 (gI p 1)))) (t0 (t1 (.int .i64 (gI p 2))) .nil)) .nil)) (t0 (t0 (t0 (t0 .nil (t1 (.int .i64 (gI p 3)))) (t0 (t1 (.fz [] 43 lt2 (gL p 4))) .nil)) .nil) (t0 (t0 .nil (t0 (t1 (.int .i64 (gI p 5))) .nil)) .nil))), [(1, ⟨0, [.fz [] 38 lt1 (gL p 6), .fz [] 67 [.str, .sl false 2 [.int .i64]] (gL p 7), .fz [] 70 [.str, .sl false 3 [.int .i64]] (gL p 8), .fz [] 43 lt2 (gL p 9)], none⟩)], [], 1⟩),
 (8, fun p => ⟨(t0 (t2 (.pb 1 0 0) (t0 (t0 (t0 .nil (t1 (.fz [] 40 lt4 (gL p 0)))) (t0 .nil (t1 (.int .i64 (gI p 1))))) .nil) (t0 (t0 (t0 .nil (t1 (.int .i64 (gI p 2)))) (t0 (t1 (.int .i64 (gI p 3))) .nil)) .nil)) (t0 (t0 (t0 (t0 .nil (t1 (.int .i64 (gI p 4)))) (t0 (t1 (.fz [] 43 lt2 (gL p 5))) (t1 (.int .i64 (gI p 6))))) .nil) (t0 (t0 .nil (t0 (t1 (.int .i64 (gI p 7))) .nil)) (t0 (t0 .nil (t1 (.fz [] 27 lt5 (gL p 8)))) .nil)))), [(1, ⟨0, [.fz [] 38 lt1 (gL p 9), .fz [] 67 [.str, .sl false 2 [.int .i64]] (gL p 10), .fz [] 70 [.str, .sl false 3 [.int .i64]] (gL p 11), .fz [] 43 lt2 (gL p 12)], none⟩)], [], 1⟩)]
def T_wf_known : TTab := [(0, [fun p => (.ret, ⟨(t0 (t1 (.pb 1 0 0)) (t1 (.bool (gB p 0)))), [(1, ⟨0, [.fz [] 38 lt1 (gL p 1), .fz [] 67 [.str, .sl false 2 [.int .i64]] (gL p 2), .fz [] 70 [.str, .sl false 3 [.int .i64]] (gL p 3), .fz [] 43 lt2 (gL p 4)], none⟩)], [], 1⟩),
  fun p => (.exit 0, ⟨(t0 (t1 (.pb 1 0 0)) (t0 .nil .nil)), [(1, ⟨0, [.fz [] 38 lt1 (gL p 0), .fz [] 67 [.str, .sl false 2 [.int .i64]] (gL p 1), .fz [] 70 [.str, .sl false 3 [.int .i64]] (gL p 2), .fz [] 43 lt2 (gL p 3)], none⟩)], [], 1⟩)]),
 (2, [fun p => (.ret, ⟨(t0 (t2 (.pb 1 0 0) (t0 (t0 (t1 (.fz [] 70 [.str, .sl false 3 [.int .i64]] (gL p 0))) .nil) .nil) (t0 (t0 (t1 (.int .i64 (gI p 1))) .nil) .nil)) (t2 (.bool (gB p 2)) (t0 (t0 (t1 (.int .i64 (gI p 3))) .nil) .nil) .nil)), [(1, ⟨0, [.fz [] 38 lt1 (gL p 4), .fz [] 67 [.str, .sl false 2 [.int .i64]] (gL p 5), .fz [] 70 [.str, .sl false 3 [.int .i64]] (gL p 6), .fz [] 43 lt2 (gL p 7)], none⟩)], [], 1⟩),
  fun p => (.exit 2, ⟨(t0 (t2 (.pb 1 0 0) (t0 (t0 (t1 (.fz [] 70 [.str, .sl false 3 [.int .i64]] (gL p 0))) .nil) .nil) (t0 (t0 (t1 (.int .i64 (gI p 1))) .nil) .nil)) (t0 (t0 (t0 (t1 (.int .i64 (gI p 2))) .nil) .nil) .nil)), [(1, ⟨0, [.fz [] 38 lt1 (gL p 3), .fz [] 67 [.str, .sl false 2 [.int .i64]] (gL p 4), .fz [] 70 [.str, .sl false 3 [.int .i64]] (gL p 5), .fz [] 43 lt2 (gL p 6)], none⟩)], [], 1⟩)]),
 (4, [fun p => (.ret, ⟨(t0 .nil (t1 (.bool (gB p 0)))), [], [], 1⟩),
  fun p => (.exit 4, ⟨(t0 .nil (t0 .nil .nil)), [], [], 1⟩)]),
 (6, [fun p => (.ret, ⟨(t0 (t2 (.pb 1 0 0) .nil (t0 (t0 .nil (t0 (t1 (.int .i64 (gI p 0))) .nil)) .nil)) (t2 (.bool (gB p 1)) (t0 (t0 .nil (t0 (t1 (.fz [] 43 lt2 (gL p 2))) .nil)) .nil) (t0 (t0 .nil (t0 (t1 (.int .i64 (gI p 3))) .nil)) .nil))), [(1, ⟨0, [.fz [] 38 lt1 (gL p 4), .fz [] 67 [.str, .sl false 2 [.int .i64]] (gL p 5), .fz [] 70 [.str, .sl false 3 [.int .i64]] (gL p 6), .fz [] 43 lt2 (gL p 7)], none⟩)], [], 1⟩),
  fun p => (.exit 6, ⟨(t0 (t2 (.pb 1 0 0) .nil (t0 (t0 .nil (t0 (t1 (.int .i64 (gI p 0))) .nil)) .nil)) (t0 (t0 (t0 .nil (t0 (t1 (.fz [] 43 lt2 (gL p 1))) .nil)) .nil) (t0 (t0 .nil (t0 (t1 (.int .i64 (gI p 2))) .nil)) .nil))), [(1, ⟨0, [.fz [] 38 lt1 (gL p 3), .fz [] 67 [.str, .sl false 2 [.int .i64]] (gL p 4), .fz [] 70 [.str, .sl false 3 [.int .i64]] (gL p 5), .fz [] 43 lt2 (gL p 6)], none⟩)], [], 1⟩)]),
 (8, [fun p => (.ret, ⟨(t0 (t2 (.pb 1 0 0) (t0 (t0 (t0 .nil (t1 (.fz [] 40 lt4 (gL p 0)))) .nil) .nil) (t0 (t0 (t0 .nil (t1 (.int .i64 (gI p 1)))) (t0 (t1 (.int .i64 (gI p 2))) .nil)) .nil)) (t2 (.bool (gB p 3)) (t0 (t0 (t0 .nil (t1 (.int .i64 (gI p 4)))) (t0 (t1 (.fz [] 43 lt2 (gL p 5))) .nil)) .nil) (t0 (t0 .nil (t0 (t1 (.int .i64 (gI p 6))) .nil)) .nil))), [(1, ⟨0, [.fz [] 38 lt1 (gL p 7), .fz [] 67 [.str, .sl false 2 [.int .i64]] (gL p 8), .fz [] 70 [.str, .sl false 3 [.int .i64]] (gL p 9), .fz [] 43 lt2 (gL p 10)], none⟩)], [], 1⟩),
  fun p => (.exit 8, ⟨(t0 (t2 (.pb 1 0 0) (t0 (t0 (t0 .nil (t1 (.fz [] 40 lt4 (gL p 0)))) .nil) .nil) (t0 (t0 (t0 .nil (t1 (.int .i64 (gI p 1)))) (t0 (t1 (.int .i64 (gI p 2))) .nil)) .nil)) (t0 (t0 (t0 (t0 .nil (t1 (.int .i64 (gI p 3)))) (t0 (t1 (.fz [] 43 lt2 (gL p 4))) .nil)) .nil) (t0 (t0 .nil (t0 (t1 (.int .i64 (gI p 5))) .nil)) .nil))), [(1, ⟨0, [.fz [] 38 lt1 (gL p 6), .fz [] 67 [.str, .sl false 2 [.int .i64]] (gL p 7), .fz [] 70 [.str, .sl false 3 [.int .i64]] (gL p 8), .fz [] 43 lt2 (gL p 9)], none⟩)], [], 1⟩)])]
def F_wf_known : Fn := { np := 1, bs := [0, 2, 4, 6, 8], main := M_wf_known, lps := [(0, L_wf_known_0), (2, L_wf_known_2), (4, L_wf_known_4), (6, L_wf_known_6), (8, L_wf_known_8)] }
def J_wf_shaped_1 (x : List D) : Sh :=
 .ask (!(eqI (D.toI (D.fld (gD x 0) 0)) 21))
 (.call wf_Ends [.i (D.toI (D.fld (gD x 0) 0))] 0 fun r1 _ =>
 .ask ((!(((eqI (D.toI (D.fld (gD x 0) 0)) 22) || (eqI (D.toI (D.fld (gD x 0) 0)) 23)) || (eqI (D.toI (D.fld (gD x 0) 0)) 25))) && (!(bif (eqI (D.toI (D.fld (gD x 0) 0)) 21) || (D.toB r1) then eqI (D.toI (D.fld (gD x 0) 1)) 0 else !(eqI (D.toI (D.fld (gD x 0) 1)) 0))))
 (.ret (.b false) [])
 (.ask (eqI (D.toI (D.fld (gD x 0) 1)) 0)
 (.ret (.b (eqI (D.toI (D.fld (gD x 0) 2)) 0)) [])
 (.ret (.b (leI 1 (D.toI (D.fld (gD x 0) 2)))) [])))
 (.ask ((!(((eqI (D.toI (D.fld (gD x 0) 0)) 22) || (eqI (D.toI (D.fld (gD x 0) 0)) 23)) || (eqI (D.toI (D.fld (gD x 0) 0)) 25))) && (!(bif (eqI (D.toI (D.fld (gD x 0) 0)) 21) || (D.toB (.i 0)) then eqI (D.toI (D.fld (gD x 0) 1)) 0 else !(eqI (D.toI (D.fld (gD x 0) 1)) 0))))
 (.ret (.b false) [])
 (.ask (eqI (D.toI (D.fld (gD x 0) 1)) 0)
 (.ret (.b (eqI (D.toI (D.fld (gD x 0) 2)) 0)) [])
 (.ret (.b (leI 1 (D.toI (D.fld (gD x 0) 2)))) [])))
def J_wf_shaped_0 (x : List D) (r0 : D) : Sh :=
 .ask (eqI (D.toI (D.fld (gD x 0) 0)) 18)
 (.ask (((((!(((((ltI (D.toI (D.fld r0 0)) 0) || (eqI (Int.ofNat (List.length (D.els (D.fld (gD x 0) 5)))) (D.toI (D.fld r0 0)))) && ((ltI (D.toI (D.fld r0 1)) 0) || (eqI (Int.ofNat (List.length (D.els (D.fld (gD x 0) 6)))) (D.toI (D.fld r0 1))))) && (leI 1 (D.toI (D.fld (gD x 0) 4)))) && (leI (D.toI (D.fld (gD x 0) 4)) 16))) || ((!(D.toB (D.fld r0 2))) && (!(eqI (D.toI (D.fld (gD x 0) 3)) 0)))) || ((!(D.toB (D.fld r0 3))) && (!(eqI (D.toI (D.fld (gD x 0) 4)) 0)))) || (ltI (D.toI (D.fld (gD x 0) 1)) 0)) || (ltI 4 (D.toI (D.fld (gD x 0) 1))))
 (.ret (.b false) [])
 (J_wf_shaped_1 x))
 (.ask (((((!(((ltI (D.toI (D.fld r0 0)) 0) || (eqI (Int.ofNat (List.length (D.els (D.fld (gD x 0) 5)))) (D.toI (D.fld r0 0)))) && ((ltI (D.toI (D.fld r0 1)) 0) || (eqI (Int.ofNat (List.length (D.els (D.fld (gD x 0) 6)))) (D.toI (D.fld r0 1)))))) || ((!(D.toB (D.fld r0 2))) && (!(eqI (D.toI (D.fld (gD x 0) 3)) 0)))) || ((!(D.toB (D.fld r0 3))) && (!(eqI (D.toI (D.fld (gD x 0) 4)) 0)))) || (ltI (D.toI (D.fld (gD x 0) 1)) 0)) || (ltI 4 (D.toI (D.fld (gD x 0) 1))))
 (.ret (.b false) [])
 (J_wf_shaped_1 x))
def J_wf_shaped_2 (x : List D) (r0 : D) : Sh :=
 .ask (((((!((((ltI (D.toI (D.fld r0 0)) 0) || (eqI (Int.ofNat (List.length (D.els (D.fld (gD x 0) 5)))) (D.toI (D.fld r0 0)))) && ((ltI (D.toI (D.fld r0 1)) 0) || (eqI (Int.ofNat (List.length (D.els (D.fld (gD x 0) 6)))) (D.toI (D.fld r0 1))))) && (leI (Int.ofNat (List.length (D.els (D.fld (gD x 0) 5)))) 5))) || ((!(D.toB (D.fld r0 2))) && (!(eqI (D.toI (D.fld (gD x 0) 3)) 0)))) || ((!(D.toB (D.fld r0 3))) && (!(eqI (D.toI (D.fld (gD x 0) 4)) 0)))) || (ltI (D.toI (D.fld (gD x 0) 1)) 0)) || (ltI 4 (D.toI (D.fld (gD x 0) 1))))
 (.ret (.b false) [])
 (.ask (!(eqI (D.toI (D.fld (gD x 0) 0)) 21))
 (.call wf_Ends [.i (D.toI (D.fld (gD x 0) 0))] 0 fun r1 _ =>
 .ask ((!(((eqI (D.toI (D.fld (gD x 0) 0)) 22) || (eqI (D.toI (D.fld (gD x 0) 0)) 23)) || (eqI (D.toI (D.fld (gD x 0) 0)) 25))) && (!(bif (eqI (D.toI (D.fld (gD x 0) 0)) 21) || (D.toB r1) then eqI (D.toI (D.fld (gD x 0) 1)) 0 else !(eqI (D.toI (D.fld (gD x 0) 1)) 0))))
 (.ret (.b false) [])
 (.ask (eqI (D.toI (D.fld (gD x 0) 1)) 0)
 (.ret (.b (eqI (D.toI (D.fld (gD x 0) 2)) 0)) [])
 (.ret (.b (leI 1 (D.toI (D.fld (gD x 0) 2)))) [])))
 (.ask ((!(((eqI (D.toI (D.fld (gD x 0) 0)) 22) || (eqI (D.toI (D.fld (gD x 0) 0)) 23)) || (eqI (D.toI (D.fld (gD x 0) 0)) 25))) && (!(bif (eqI (D.toI (D.fld (gD x 0) 0)) 21) || (D.toB (.i 0)) then eqI (D.toI (D.fld (gD x 0) 1)) 0 else !(eqI (D.toI (D.fld (gD x 0) 1)) 0))))
 (.ret (.b false) [])
 (.ask (eqI (D.toI (D.fld (gD x 0) 1)) 0)
 (.ret (.b (eqI (D.toI (D.fld (gD x 0) 2)) 0)) [])
 (.ret (.b (leI 1 (D.toI (D.fld (gD x 0) 2)))) []))))
def J_wf_shaped_3 (x : List D) : Sh :=
 .ask (!(eqI (D.toI (D.fld (gD x 0) 0)) 21))
 (.call wf_Ends [.i (D.toI (D.fld (gD x 0) 0))] 0 fun r1 _ =>
 .ask ((!(((eqI (D.toI (D.fld (gD x 0) 0)) 22) || (eqI (D.toI (D.fld (gD x 0) 0)) 23)) || (eqI (D.toI (D.fld (gD x 0) 0)) 25))) && (!(bif (eqI (D.toI (D.fld (gD x 0) 0)) 21) || (D.toB r1) then eqI (D.toI (D.fld (gD x 0) 1)) 0 else !(eqI (D.toI (D.fld (gD x 0) 1)) 0))))
 (.ret (.b false) [])
 (.ask (eqI (D.toI (D.fld (gD x 0) 1)) 0)
 (.ret (.b (eqI (D.toI (D.fld (gD x 0) 2)) 0)) [])
 (.ret (.b (leI 1 (D.toI (D.fld (gD x 0) 2)))) [])))
 (.ask ((!(((eqI (D.toI (D.fld (gD x 0) 0)) 22) || (eqI (D.toI (D.fld (gD x 0) 0)) 23)) || (eqI (D.toI (D.fld (gD x 0) 0)) 25))) && (!(bif (eqI (D.toI (D.fld (gD x 0) 0)) 21) || (D.toB (.i 0)) then eqI (D.toI (D.fld (gD x 0) 1)) 0 else !(eqI (D.toI (D.fld (gD x 0) 1)) 0))))
 (.ret (.b false) [])
 (.ask (eqI (D.toI (D.fld (gD x 0) 1)) 0)
 (.ret (.b (eqI (D.toI (D.fld (gD x 0) 2)) 0)) [])
 (.ret (.b (leI 1 (D.toI (D.fld (gD x 0) 2)))) [])))
def M_wf_shaped (x : List D) : Sh :=
 .ask ((ltI (D.toI (D.fld (gD x 0) 0)) 1) || (ltI 30 (D.toI (D.fld (gD x 0) 0))))
 (.ret (.b false) [])
 (.call wf_Mark [.i (D.toI (D.fld (gD x 0) 0))] 0 fun r0 _ =>
 .ask (eqI (D.toI (D.fld (gD x 0) 0)) 26)
 (.ask (((((!((eqI (Int.ofNat (List.length (D.els (D.fld (gD x 0) 5)))) (Int.ofNat (List.length (D.els (D.fld (gD x 0) 6))))) && (leI 1 (Int.ofNat (List.length (D.els (D.fld (gD x 0) 5))))))) || ((!(D.toB (D.fld r0 2))) && (!(eqI (D.toI (D.fld (gD x 0) 3)) 0)))) || ((!(D.toB (D.fld r0 3))) && (!(eqI (D.toI (D.fld (gD x 0) 4)) 0)))) || (ltI (D.toI (D.fld (gD x 0) 1)) 0)) || (ltI 4 (D.toI (D.fld (gD x 0) 1))))
 (.ret (.b false) [])
 (J_wf_shaped_3 x))
 (.ask (eqI (D.toI (D.fld (gD x 0) 0)) 29)
 (.ask (((((!((((ltI (D.toI (D.fld r0 0)) 0) || (eqI (Int.ofNat (List.length (D.els (D.fld (gD x 0) 5)))) (D.toI (D.fld r0 0)))) && ((ltI (D.toI (D.fld r0 1)) 0) || (eqI (Int.ofNat (List.length (D.els (D.fld (gD x 0) 6)))) (D.toI (D.fld r0 1))))) && (leI (Int.ofNat (List.length (D.els (D.fld (gD x 0) 5)))) 1))) || ((!(D.toB (D.fld r0 2))) && (!(eqI (D.toI (D.fld (gD x 0) 3)) 0)))) || ((!(D.toB (D.fld r0 3))) && (!(eqI (D.toI (D.fld (gD x 0) 4)) 0)))) || (ltI (D.toI (D.fld (gD x 0) 1)) 0)) || (ltI 4 (D.toI (D.fld (gD x 0) 1))))
 (.ret (.b false) [])
 (J_wf_shaped_3 x))
 (.ask (eqI (D.toI (D.fld (gD x 0) 0)) 25)
 (.ask (((((!(((((ltI (D.toI (D.fld r0 0)) 0) || (eqI (Int.ofNat (List.length (D.els (D.fld (gD x 0) 5)))) (D.toI (D.fld r0 0)))) && ((ltI (D.toI (D.fld r0 1)) 0) || (eqI (Int.ofNat (List.length (D.els (D.fld (gD x 0) 6)))) (D.toI (D.fld r0 1))))) && (leI 1 (Int.ofNat (List.length (D.els (D.fld (gD x 0) 5)))))) && (leI (Int.ofNat (List.length (D.els (D.fld (gD x 0) 5)))) 6))) || ((!(D.toB (D.fld r0 2))) && (!(eqI (D.toI (D.fld (gD x 0) 3)) 0)))) || ((!(D.toB (D.fld r0 3))) && (!(eqI (D.toI (D.fld (gD x 0) 4)) 0)))) || (ltI (D.toI (D.fld (gD x 0) 1)) 0)) || (ltI 4 (D.toI (D.fld (gD x 0) 1))))
 (.ret (.b false) [])
 (J_wf_shaped_3 x))
 (.ask (eqI (D.toI (D.fld (gD x 0) 0)) 22)
 (.ask (eqI (D.toI (D.fld (gD x 0) 0)) 22)
 (J_wf_shaped_2 x r0)
 (J_wf_shaped_0 x r0))
 (.ask (eqI (D.toI (D.fld (gD x 0) 0)) 23)
 (J_wf_shaped_2 x r0)
 (J_wf_shaped_0 x r0))))))
def S_wf_shaped : STab := []
def T_wf_shaped : TTab := []
def F_wf_shaped : Fn := { np := 1, bs := [], main := M_wf_shaped, lps := [] }
def M_flow_Prev (x : List D) : Sh :=
 .ask ((leI 0 (Int.ofNat (List.length (D.els (D.fld (gD x 0) 4))))) && ((eqI (Int.ofNat (List.length (D.els (D.fld (gD x 0) 4)))) (Int.ofNat (List.length (D.els (D.fld (gD x 0) 4))))) && (lim (Int.toNat (Int.ofNat (List.length (D.els (D.fld (gD x 0) 4))))) 24)))
 (.loop 0 [.i (Int.ofNat (List.length (D.els (D.fld (gD x 0) 4)))), .i 0, .s (D.toS (D.fld (gD x 0) 0)), .b (D.toB (D.fld (gD x 0) 1)), .l (D.els (D.fld (gD x 0) 2)), .i (D.toI (D.fld (gD x 0) 3)), .l (D.els (D.fld (gD x 0) 4)), .l (List.replicate (List.length (D.els (D.fld (gD x 0) 4))) (D.l []))] (.cons (fun p0 =>
 .ret (.l (gL p0 0)) [])
 .nil))
 (.bad)
def L_flow_Prev_0 (p : List D) : Sh :=
 .ask (ltI (gI p 1) (gI p 0))
 (.call flow_Next [.l [.s (gS p 2), .b (gB p 3), .l (gL p 4), .i (gI p 5), .l (gL p 6)], .i (gI p 1)] 0 fun r0 _ =>
 .loop 2 [.i (gI p 0), .i 0, .i (gI p 1), .i (Int.ofNat (List.length (D.els r0))), .i (gI p 1), .s (gS p 2), .b (gB p 3), .l (gL p 4), .i (gI p 5), .l (gL p 6), .l (gL p 7), .l (D.els r0)] (.cons (fun p1 =>
 .again [.i (gI p1 0), .i (wrapA .i64 ((gI p1 1) + 1)), .s (gS p1 2), .b (gB p1 3), .l (gL p1 4), .i (gI p1 5), .l (gL p1 6), .l (gL p1 7)])
 .nil))
 (.out (0, [.l (gL p 7)]))
def L_flow_Prev_2 (p : List D) : Sh :=
 .ask (ltI (gI p 1) (gI p 3))
 (.ask (within (gI p 1) (List.length (gL p 11)))
 (.ask (within (D.toI (gD (gL p 11) (Int.toNat (gI p 1)))) (List.length (gL p 10)))
 (.ask (lim ((List.length (D.els (gD (gL p 10) (Int.toNat (D.toI (gD (gL p 11) (Int.toNat (gI p 1)))))))) + 1) 8)
 (.ask (within (D.toI (gD (gL p 11) (Int.toNat (gI p 1)))) (List.length (gL p 10)))
 (.ask ((Nat.beq (Int.toNat (D.toI (gD (gL p 11) (Int.toNat (gI p 1))))) (Int.toNat (D.toI (gD (gL p 11) (Int.toNat (gI p 1)))))) && true)
 (.again [.i (gI p 0), .i (wrapA .i64 ((gI p 1) + 1)), .i (gI p 2), .i (gI p 3), .i (gI p 4), .s (gS p 5), .b (gB p 6), .l (gL p 7), .i (gI p 8), .l (gL p 9), .l (List.set (gL p 10) (Int.toNat (D.toI (gD (gL p 11) (Int.toNat (gI p 1))))) (D.l ((D.els (gD (gL p 10) (Int.toNat (D.toI (gD (gL p 11) (Int.toNat (gI p 1))))))) ++ [.i (gI p 2)]))), .l (gL p 11)])
 (.bad))
 (.bad))
 (.bad))
 (.bad))
 (.bad))
 (.out (0, [.i (gI p 0), .i (gI p 4), .s (gS p 5), .b (gB p 6), .l (gL p 7), .i (gI p 8), .l (gL p 9), .l (gL p 10)]))
def S_flow_Prev : STab := [(0, fun p => ⟨(t0 (t2 (.pb 1 0 0) (t1 (.vw 10 0 [])) (t0 .nil (t1 (.int .i64 (gI p 0))))) (t0 .nil (t0 .nil (t1 (.int .i64 (gI p 1)))))), [(1, ⟨0, [.str (gS p 2), .bool (gB p 3), .fz [] 3 [.int .i64] (gL p 4), .int .i64 (gI p 5), .fz [] 40 lt4 (gL p 6)], none⟩)], [(10, ⟨24, [.sl true 3 [.int .i64]], (gL p 7), [], 0, [0, 0, 0, 0], 0⟩)], 1⟩),
 (2, fun p => ⟨(t0 (t2 (.pb 1 0 0) (t2 (.vw 10 0 []) .nil (t0 (t1 (.vw 20000000 0 [])) .nil)) (t0 .nil (t2 (.int .i64 (gI p 0)) (t1 (.int .i64 (gI p 1))) .nil))) (t0 (t2 (.int .i64 (gI p 2)) .nil (t0 (t1 (.int .i64 (gI p 3))) .nil)) (t0 .nil (t1 (.int .i64 (gI p 4)))))), [(1, ⟨0, [.str (gS p 5), .bool (gB p 6), .fz [] 3 [.int .i64] (gL p 7), .int .i64 (gI p 8), .fz [] 40 lt4 (gL p 9)], none⟩)], [(10, ⟨24, [.sl true 3 [.int .i64]], (gL p 10), [], 0, [0, 0, 0, 0], 0⟩), (20000000, ⟨3, [.int .i64], (gL p 11), [], 0, [0, 0, 0, 0], 0⟩)], 1⟩)]
def T_flow_Prev : TTab := [(0, [fun p => (.exit 0, ⟨(t0 (t0 (t1 (.vw 10 0 [])) .nil) (t0 .nil .nil)), [], [(10, ⟨24, [.sl true 3 [.int .i64]], (gL p 0), [], 0, [0, 0, 0, 0], 0⟩)], 1⟩)]),
 (2, [fun p => (.exit 2, ⟨(t0 (t2 (.pb 1 0 0) (t1 (.vw 10 0 [])) (t0 .nil (t1 (.int .i64 (gI p 0))))) (t0 .nil (t0 .nil (t1 (.int .i64 (gI p 1)))))), [(1, ⟨0, [.str (gS p 2), .bool (gB p 3), .fz [] 3 [.int .i64] (gL p 4), .int .i64 (gI p 5), .fz [] 40 lt4 (gL p 6)], none⟩)], [(10, ⟨24, [.sl true 3 [.int .i64]], (gL p 7), [], 0, [0, 0, 0, 0], 0⟩)], 1⟩)])]
def F_flow_Prev : Fn := { np := 1, bs := [0, 2], main := M_flow_Prev, lps := [(0, L_flow_Prev_0), (2, L_flow_Prev_2)] }
def M_facts_Func_bases (x : List D) : Sh :=
 .ask ((leI 0 (Int.ofNat (List.length (D.els (D.fld (gD x 0) 0))))) && ((eqI (Int.ofNat (List.length (D.els (D.fld (gD x 0) 0)))) (Int.ofNat (List.length (D.els (D.fld (gD x 0) 0))))) && (lim (Int.toNat (Int.ofNat (List.length (D.els (D.fld (gD x 0) 0))))) 24)))
 (.loop 0 [.i (Int.ofNat (List.length (D.els (D.fld (gD x 1) 2)))), .i 0, .l (D.els (D.fld (gD x 1) 2)), .l (List.replicate (List.length (D.els (D.fld (gD x 0) 0))) (D.l [])), .l (D.els (D.fld (gD x 0) 0)), .l (D.els (D.fld (gD x 0) 2)), .l (D.els (D.fld (gD x 0) 3))] (.cons (fun p0 =>
 .loop 2 [.b true, .l (gL p0 0), .l (gL p0 1), .l (gL p0 2), .l (gL p0 3)] (.cons (fun p1 =>
 .ret (.l []) [.l [.l (gL p1 1), .l (gL p1 0), .l (gL p1 2), .l (gL p1 3)]])
 .nil))
 .nil))
 (.bad)
def L_facts_Func_bases_0 (p : List D) : Sh :=
 .ask (ltI (gI p 1) (gI p 0))
 (.ask (within (gI p 1) (List.length (gL p 2)))
 (.ask (eqI (D.toI (gD (gL p 2) (Int.toNat (gI p 1)))) 3)
 (.ask (within (wrapA .i64 ((gI p 1) + 1)) (List.length (gL p 3)))
 (.again [.i (gI p 0), .i (wrapA .i64 ((gI p 1) + 1)), .l (gL p 2), .l (List.set (gL p 3) (Int.toNat (wrapA .i64 ((gI p 1) + 1))) (D.l [.l [.i 1, .i (wrapA .i64 ((gI p 1) + 1))]])), .l (gL p 4), .l (gL p 5), .l (gL p 6)])
 (.bad))
 (.again [.i (gI p 0), .i (wrapA .i64 ((gI p 1) + 1)), .l (gL p 2), .l (gL p 3), .l (gL p 4), .l (gL p 5), .l (gL p 6)]))
 (.bad))
 (.out (0, [.l (gL p 3), .l (gL p 4), .l (gL p 5), .l (gL p 6)]))
def L_facts_Func_bases_2 (p : List D) : Sh :=
 .ask (gB p 0)
 (.loop 4 [.i 0, .i (Int.ofNat (List.length (gL p 4))), .b false, .l (gL p 1), .l (gL p 2), .l (gL p 3), .l (gL p 4)] (.cons (fun p0 =>
 .again [.b (gB p0 0), .l (gL p0 1), .l (gL p0 2), .l (gL p0 3), .l (gL p0 4)])
 .nil))
 (.out (0, [.l (gL p 1), .l (gL p 2), .l (gL p 3), .l (gL p 4)]))
def J_facts_Func_bases_0 (p : List D) (r2 : D) : Sh :=
 .ask (!(eqI (Int.ofNat (List.length (D.els r2))) (Int.ofNat (List.length (D.els (gD (gL p 3) (Int.toNat (gI p 0))))))))
 (.ask (within (gI p 0) (List.length (gL p 3)))
 (.again [.i (wrapA .i64 ((gI p 0) + 1)), .i (gI p 1), .b true, .l (List.set (gL p 3) (Int.toNat (gI p 0)) (D.l (D.els r2))), .l (gL p 4), .l (gL p 5), .l (gL p 6)])
 (.bad))
 (.again [.i (wrapA .i64 ((gI p 0) + 1)), .i (gI p 1), .b (gB p 2), .l (gL p 3), .l (gL p 4), .l (gL p 5), .l (gL p 6)])
def L_facts_Func_bases_4 (p : List D) : Sh :=
 .ask (ltI (gI p 0) (gI p 1))
 (.ask (within (gI p 0) (List.length (gL p 6)))
 (.ask (!(eqI (D.toI (D.fld (gD (gL p 6) (Int.toNat (gI p 0))) 1)) 3))
 (.again [.i (wrapA .i64 ((gI p 0) + 1)), .i (gI p 1), .b (gB p 2), .l (gL p 3), .l (gL p 4), .l (gL p 5), .l (gL p 6)])
 (.ask (eqI (D.toI (D.fld (gD (gL p 6) (Int.toNat (gI p 0))) 0)) 18)
 (.call slices_Clone_Sapi_Base_api_Base [.l [.l [.i 2, .i (gI p 0)]]] 0 fun r0 _ =>
 .call slices_SortFunc_Sapi_Base_api_Base [.l (D.els r0), .l []] 0 fun r1 _ =>
 .call slices_Compact_Sapi_Base_api_Base [.l (D.els r0)] 0 fun r2 _ =>
 .ask (within (gI p 0) (List.length (gL p 3)))
 (J_facts_Func_bases_0 p r2)
 (.bad))
 (.ask (eqI (D.toI (D.fld (gD (gL p 6) (Int.toNat (gI p 0))) 0)) 3)
 (.call slices_Clone_Sapi_Base_api_Base [.l [.l [.i 3, .i (D.toI (D.fld (gD (gL p 6) (Int.toNat (gI p 0))) 3))]]] 0 fun r0 _ =>
 .call slices_SortFunc_Sapi_Base_api_Base [.l (D.els r0), .l []] 0 fun r1 _ =>
 .call slices_Compact_Sapi_Base_api_Base [.l (D.els r0)] 0 fun r2 _ =>
 .ask (within (gI p 0) (List.length (gL p 3)))
 (J_facts_Func_bases_0 p r2)
 (.bad))
 (.ask (eqI (D.toI (D.fld (gD (gL p 6) (Int.toNat (gI p 0))) 0)) 19)
 (.ask (within 0 (List.length (D.els (D.fld (gD (gL p 6) (Int.toNat (gI p 0))) 5))))
 (.ask (within (D.toI (gD (D.els (D.fld (gD (gL p 6) (Int.toNat (gI p 0))) 5)) 0)) (List.length (gL p 3)))
 (.call slices_Clone_Sapi_Base_api_Base [.l (D.els (gD (gL p 3) (Int.toNat (D.toI (gD (D.els (D.fld (gD (gL p 6) (Int.toNat (gI p 0))) 5)) 0)))))] 0 fun r0 _ =>
 .call slices_SortFunc_Sapi_Base_api_Base [.l (D.els r0), .l []] 0 fun r1 _ =>
 .call slices_Compact_Sapi_Base_api_Base [.l (D.els r0)] 0 fun r2 _ =>
 .ask (within (gI p 0) (List.length (gL p 3)))
 (J_facts_Func_bases_0 p r2)
 (.bad))
 (.bad))
 (.bad))
 (.ask (eqI (D.toI (D.fld (gD (gL p 6) (Int.toNat (gI p 0))) 0)) 17)
 (.ask (within 1 (List.length (D.els (D.fld (gD (gL p 6) (Int.toNat (gI p 0))) 5))))
 (.ask (within (D.toI (gD (D.els (D.fld (gD (gL p 6) (Int.toNat (gI p 0))) 5)) 1)) (List.length (gL p 3)))
 (.ask (within 2 (List.length (D.els (D.fld (gD (gL p 6) (Int.toNat (gI p 0))) 5))))
 (.ask (within (D.toI (gD (D.els (D.fld (gD (gL p 6) (Int.toNat (gI p 0))) 5)) 2)) (List.length (gL p 3)))
 (.call slices_Concat_Sapi_Base_api_Base [.l [.l (D.els (gD (gL p 3) (Int.toNat (D.toI (gD (D.els (D.fld (gD (gL p 6) (Int.toNat (gI p 0))) 5)) 1))))), .l (D.els (gD (gL p 3) (Int.toNat (D.toI (gD (D.els (D.fld (gD (gL p 6) (Int.toNat (gI p 0))) 5)) 2)))))]] 0 fun r0 _ =>
 .call slices_Clone_Sapi_Base_api_Base [.l (D.els r0)] 0 fun r1 _ =>
 .call slices_SortFunc_Sapi_Base_api_Base [.l (D.els r1), .l []] 0 fun r2 _ =>
 .call slices_Compact_Sapi_Base_api_Base [.l (D.els r1)] 0 fun r3 _ =>
 .ask (within (gI p 0) (List.length (gL p 3)))
 (.ask (!(eqI (Int.ofNat (List.length (D.els r3))) (Int.ofNat (List.length (D.els (gD (gL p 3) (Int.toNat (gI p 0))))))))
 (.ask (within (gI p 0) (List.length (gL p 3)))
 (.again [.i (wrapA .i64 ((gI p 0) + 1)), .i (gI p 1), .b true, .l (List.set (gL p 3) (Int.toNat (gI p 0)) (D.l (D.els r3))), .l (gL p 4), .l (gL p 5), .l (gL p 6)])
 (.bad))
 (.again [.i (wrapA .i64 ((gI p 0) + 1)), .i (gI p 1), .b (gB p 2), .l (gL p 3), .l (gL p 4), .l (gL p 5), .l (gL p 6)]))
 (.bad))
 (.bad))
 (.bad))
 (.bad))
 (.bad))
 (.ask (eqI (D.toI (D.fld (gD (gL p 6) (Int.toNat (gI p 0))) 0)) 26)
 (.loop 7 [.i (gI p 0), .i 0, .i (gI p 0), .l (D.els (D.fld (gD (gL p 6) (Int.toNat (gI p 0))) 5)), .i (gI p 1), .b (gB p 2), .i (Int.ofNat (List.length (D.els (D.fld (gD (gL p 6) (Int.toNat (gI p 0))) 5)))), .l (gL p 3), .l [], .l (gL p 4), .l (gL p 5), .l (gL p 6)] (.cons (fun p0 =>
 .call slices_Clone_Sapi_Base_api_Base [.l (gL p0 5)] 0 fun r1 _ =>
 .call slices_SortFunc_Sapi_Base_api_Base [.l (D.els r1), .l []] 0 fun r2 _ =>
 .call slices_Compact_Sapi_Base_api_Base [.l (D.els r1)] 0 fun r3 _ =>
 .ask (within (gI p0 0) (List.length (gL p0 4)))
 (.ask (!(eqI (Int.ofNat (List.length (D.els r3))) (Int.ofNat (List.length (D.els (gD (gL p0 4) (Int.toNat (gI p0 0))))))))
 (.ask (within (gI p0 0) (List.length (gL p0 4)))
 (.again [.i (wrapA .i64 ((gI p0 1) + 1)), .i (gI p0 2), .b true, .l (List.set (gL p0 4) (Int.toNat (gI p0 0)) (D.l (D.els r3))), .l (gL p0 6), .l (gL p0 7), .l (gL p0 8)])
 (.bad))
 (.again [.i (wrapA .i64 ((gI p0 1) + 1)), .i (gI p0 2), .b (gB p0 3), .l (gL p0 4), .l (gL p0 6), .l (gL p0 7), .l (gL p0 8)]))
 (.bad))
 .nil))
 (.call slices_Clone_Sapi_Base_api_Base [.l []] 0 fun r0 _ =>
 .call slices_SortFunc_Sapi_Base_api_Base [.l (D.els r0), .l []] 0 fun r1 _ =>
 .call slices_Compact_Sapi_Base_api_Base [.l (D.els r0)] 0 fun r2 _ =>
 .ask (within (gI p 0) (List.length (gL p 3)))
 (J_facts_Func_bases_0 p r2)
 (.bad))))))))
 (.bad))
 (.out (0, [.b (gB p 2), .l (gL p 3), .l (gL p 4), .l (gL p 5), .l (gL p 6)]))
def L_facts_Func_bases_7 (p : List D) : Sh :=
 .ask (ltI (gI p 1) (gI p 6))
 (.ask (within (gI p 1) (List.length (gL p 3)))
 (.ask (within (D.toI (gD (gL p 3) (Int.toNat (gI p 1)))) (List.length (gL p 7)))
 (.ask (lim ((List.length (gL p 8)) + (List.length (D.els (gD (gL p 7) (Int.toNat (D.toI (gD (gL p 3) (Int.toNat (gI p 1))))))))) 16)
 (.again [.i (gI p 0), .i (wrapA .i64 ((gI p 1) + 1)), .i (gI p 2), .l (gL p 3), .i (gI p 4), .b (gB p 5), .i (gI p 6), .l (gL p 7), .l ((gL p 8) ++ (D.els (gD (gL p 7) (Int.toNat (D.toI (gD (gL p 3) (Int.toNat (gI p 1)))))))), .l (gL p 9), .l (gL p 10), .l (gL p 11)])
 (.bad))
 (.bad))
 (.bad))
 (.out (0, [.i (gI p 0), .i (gI p 2), .i (gI p 4), .b (gB p 5), .l (gL p 7), .l (gL p 8), .l (gL p 9), .l (gL p 10), .l (gL p 11)]))
def S_facts_Func_bases : STab := [(0, fun p => ⟨(t2 (.pb 500 0 0) (t0 (t0 (t0 .nil (t1 (.int .i64 (gI p 0)))) .nil) .nil) (t0 (t0 (t0 .nil (t1 (.int .i64 (gI p 1)))) .nil) (t0 .nil (t0 (t1 (.fz [] 3 [.int .i64] (gL p 2))) .nil)))), [(500, ⟨0, [.vw 501000000 0 [], .vw 18 0 [], .vw 501000002 0 [], .vw 501000003 0 []], none⟩)], [(18, ⟨111, [.sl true 110 [.int .i64, .int .i64]], (gL p 3), [], 0, [0, 0, 0, 0], 0⟩), (501000000, ⟨3, [.int .i64], (gL p 4), [], 0, [0, 0, 0, 0], 0⟩), (501000002, ⟨117, [.int .i64, .int .i64], (gL p 5), [], 0, [0, 0, 0, 0], 0⟩), (501000003, ⟨27, lt5, (gL p 6), [], 0, [0, 0, 0, 0], 0⟩)], 1⟩),
 (2, fun p => ⟨(t2 (.pb 500 0 0) .nil (t0 .nil (t1 (.bool (gB p 0))))), [(500, ⟨0, [.vw 501000000 0 [], .vw 18 0 [], .vw 501000002 0 [], .vw 501000003 0 []], none⟩)], [(18, ⟨111, [.sl true 110 [.int .i64, .int .i64]], (gL p 1), [], 0, [0, 0, 0, 0], 0⟩), (501000000, ⟨3, [.int .i64], (gL p 2), [], 0, [0, 0, 0, 0], 0⟩), (501000002, ⟨117, [.int .i64, .int .i64], (gL p 3), [], 0, [0, 0, 0, 0], 0⟩), (501000003, ⟨27, lt5, (gL p 4), [], 0, [0, 0, 0, 0], 0⟩)], 1⟩),
 (4, fun p => ⟨(t2 (.pb 500 0 0) (t0 (t0 (t0 (t0 .nil (t1 (.vw 501000003 0 []))) .nil) .nil) (t0 (t0 (t0 .nil (t1 (.int .i64 (gI p 0)))) .nil) .nil)) (t0 (t0 (t0 (t0 .nil (t1 (.int .i64 (gI p 1)))) .nil) .nil) (t1 (.bool (gB p 2))))), [(500, ⟨0, [.vw 501000000 0 [], .vw 18 0 [], .vw 501000002 0 [], .vw 501000003 0 []], none⟩)], [(18, ⟨111, [.sl true 110 [.int .i64, .int .i64]], (gL p 3), [], 0, [0, 0, 0, 0], 0⟩), (501000000, ⟨3, [.int .i64], (gL p 4), [], 0, [0, 0, 0, 0], 0⟩), (501000002, ⟨117, [.int .i64, .int .i64], (gL p 5), [], 0, [0, 0, 0, 0], 0⟩), (501000003, ⟨27, lt5, (gL p 6), [], 0, [0, 0, 0, 0], 0⟩)], 1⟩),
 (7, fun p => ⟨(t2 (.pb 500 0 0) (t0 (t0 (t2 (.int .i64 (gI p 0)) (t0 .nil (t2 (.vw 501000003 0 []) .nil (t1 (.int .i64 (gI p 1))))) .nil) .nil) (t0 (t2 (.vw 200009 0 []) (t0 .nil (t1 (.int .i64 (gI p 2)))) .nil) (t0 .nil (t0 (t0 .nil (t1 (.fz [] 3 [.int .i64] (gL p 3)))) .nil)))) (t0 (t0 (t0 (t0 .nil (t1 (.int .i64 (gI p 4)))) .nil) .nil) (t2 (.bool (gB p 5)) .nil (t0 .nil (t0 (t0 .nil (t1 (.int .i64 (gI p 6)))) .nil))))), [(500, ⟨0, [.vw 501000000 0 [], .vw 18 0 [], .vw 501000002 0 [], .vw 501000003 0 []], none⟩)], [(18, ⟨111, [.sl true 110 [.int .i64, .int .i64]], (gL p 7), [], 0, [0, 0, 0, 0], 0⟩), (200009, ⟨110, [.int .i64, .int .i64], (gL p 8), [], 0, [0, 0, 0, 0], 0⟩), (501000000, ⟨3, [.int .i64], (gL p 9), [], 0, [0, 0, 0, 0], 0⟩), (501000002, ⟨117, [.int .i64, .int .i64], (gL p 10), [], 0, [0, 0, 0, 0], 0⟩), (501000003, ⟨27, lt5, (gL p 11), [], 0, [0, 0, 0, 0], 0⟩)], 1⟩)]
def T_facts_Func_bases : TTab := [(0, [fun p => (.exit 0, ⟨(t1 (.pb 500 0 0)), [(500, ⟨0, [.vw 501000000 0 [], .vw 18 0 [], .vw 501000002 0 [], .vw 501000003 0 []], none⟩)], [(18, ⟨111, [.sl true 110 [.int .i64, .int .i64]], (gL p 0), [], 0, [0, 0, 0, 0], 0⟩), (501000000, ⟨3, [.int .i64], (gL p 1), [], 0, [0, 0, 0, 0], 0⟩), (501000002, ⟨117, [.int .i64, .int .i64], (gL p 2), [], 0, [0, 0, 0, 0], 0⟩), (501000003, ⟨27, lt5, (gL p 3), [], 0, [0, 0, 0, 0], 0⟩)], 1⟩)]),
 (2, [fun p => (.exit 2, ⟨(t1 (.pb 500 0 0)), [(500, ⟨0, [.vw 501000000 0 [], .vw 18 0 [], .vw 501000002 0 [], .vw 501000003 0 []], none⟩)], [(18, ⟨111, [.sl true 110 [.int .i64, .int .i64]], (gL p 0), [], 0, [0, 0, 0, 0], 0⟩), (501000000, ⟨3, [.int .i64], (gL p 1), [], 0, [0, 0, 0, 0], 0⟩), (501000002, ⟨117, [.int .i64, .int .i64], (gL p 2), [], 0, [0, 0, 0, 0], 0⟩), (501000003, ⟨27, lt5, (gL p 3), [], 0, [0, 0, 0, 0], 0⟩)], 1⟩)]),
 (4, [fun p => (.exit 4, ⟨(t2 (.pb 500 0 0) .nil (t0 .nil (t1 (.bool (gB p 0))))), [(500, ⟨0, [.vw 501000000 0 [], .vw 18 0 [], .vw 501000002 0 [], .vw 501000003 0 []], none⟩)], [(18, ⟨111, [.sl true 110 [.int .i64, .int .i64]], (gL p 1), [], 0, [0, 0, 0, 0], 0⟩), (501000000, ⟨3, [.int .i64], (gL p 2), [], 0, [0, 0, 0, 0], 0⟩), (501000002, ⟨117, [.int .i64, .int .i64], (gL p 3), [], 0, [0, 0, 0, 0], 0⟩), (501000003, ⟨27, lt5, (gL p 4), [], 0, [0, 0, 0, 0], 0⟩)], 1⟩)]),
 (7, [fun p => (.exit 7, ⟨(t2 (.pb 500 0 0) (t0 (t0 (t2 (.int .i64 (gI p 0)) (t0 .nil (t1 (.vw 501000003 0 []))) .nil) .nil) (t0 (t2 (.vw 200009 0 []) (t0 .nil (t1 (.int .i64 (gI p 1)))) .nil) .nil)) (t0 (t0 (t0 (t0 .nil (t1 (.int .i64 (gI p 2)))) .nil) .nil) (t1 (.bool (gB p 3))))), [(500, ⟨0, [.vw 501000000 0 [], .vw 18 0 [], .vw 501000002 0 [], .vw 501000003 0 []], none⟩)], [(18, ⟨111, [.sl true 110 [.int .i64, .int .i64]], (gL p 4), [], 0, [0, 0, 0, 0], 0⟩), (200009, ⟨110, [.int .i64, .int .i64], (gL p 5), [], 0, [0, 0, 0, 0], 0⟩), (501000000, ⟨3, [.int .i64], (gL p 6), [], 0, [0, 0, 0, 0], 0⟩), (501000002, ⟨117, [.int .i64, .int .i64], (gL p 7), [], 0, [0, 0, 0, 0], 0⟩), (501000003, ⟨27, lt5, (gL p 8), [], 0, [0, 0, 0, 0], 0⟩)], 1⟩)])]
def F_facts_Func_bases : Fn := { np := 2, bs := [0, 2, 4, 7], main := M_facts_Func_bases, lps := [(0, L_facts_Func_bases_0), (2, L_facts_Func_bases_2), (4, L_facts_Func_bases_4), (7, L_facts_Func_bases_7)] }
def J_wf_Mark_5 (x : List D) : Sh :=
 .ask (eqI (D.toI (gD x 0)) 26)
 (.ret (.l [.i (-1), .i (-1), .b false, .b false]) [])
 (.ask (eqI (D.toI (gD x 0)) 27)
 (.ret (.l [.i 0, .i 1, .b false, .b false]) [])
 (.ask (eqI (D.toI (gD x 0)) 28)
 (.ret (.l [.i 1, .i 2, .b false, .b false]) [])
 (.ret (.l [.i 0, .i 0, .b false, .b false]) [])))
def J_wf_Mark_4 (x : List D) : Sh :=
 .ask (eqI (D.toI (gD x 0)) 24)
 (.ret (.l [.i 1, .i 0, .b true, .b false]) [])
 (.ask (eqI (D.toI (gD x 0)) 25)
 (.ask (eqI (D.toI (gD x 0)) 25)
 (.ret (.l [.i (-1), .i 0, .b false, .b false]) [])
 (J_wf_Mark_5 x))
 (.ask (eqI (D.toI (gD x 0)) 29)
 (.ret (.l [.i (-1), .i 0, .b false, .b false]) [])
 (J_wf_Mark_5 x)))
def J_wf_Mark_3 (x : List D) : Sh :=
 .ask (eqI (D.toI (gD x 0)) 17)
 (.ret (.l [.i 3, .i 0, .b false, .b false]) [])
 (.ask (eqI (D.toI (gD x 0)) 22)
 (.ask (eqI (D.toI (gD x 0)) 22)
 (.ret (.l [.i (-1), .i 0, .b true, .b false]) [])
 (J_wf_Mark_4 x))
 (.ask (eqI (D.toI (gD x 0)) 23)
 (.ret (.l [.i (-1), .i 0, .b true, .b false]) [])
 (J_wf_Mark_4 x)))
def J_wf_Mark_2 (x : List D) : Sh :=
 .ask (eqI (D.toI (gD x 0)) 16)
 (.ask (eqI (D.toI (gD x 0)) 16)
 (.ret (.l [.i 1, .i 0, .b false, .b false]) [])
 (J_wf_Mark_3 x))
 (.ask (eqI (D.toI (gD x 0)) 20)
 (.ret (.l [.i 1, .i 0, .b false, .b false]) [])
 (J_wf_Mark_3 x))
def J_wf_Mark_1 (x : List D) : Sh :=
 .ask (eqI (D.toI (gD x 0)) 4)
 (.ask (eqI (D.toI (gD x 0)) 4)
 (.ret (.l [.i 2, .i 0, .b false, .b false]) [])
 (J_wf_Mark_2 x))
 (.ask (eqI (D.toI (gD x 0)) 5)
 (.ask (eqI (D.toI (gD x 0)) 5)
 (.ret (.l [.i 2, .i 0, .b false, .b false]) [])
 (J_wf_Mark_2 x))
 (.ask (eqI (D.toI (gD x 0)) 6)
 (.ask (eqI (D.toI (gD x 0)) 6)
 (.ret (.l [.i 2, .i 0, .b false, .b false]) [])
 (J_wf_Mark_2 x))
 (.ask (eqI (D.toI (gD x 0)) 7)
 (.ask (eqI (D.toI (gD x 0)) 7)
 (.ret (.l [.i 2, .i 0, .b false, .b false]) [])
 (J_wf_Mark_2 x))
 (.ask (eqI (D.toI (gD x 0)) 8)
 (.ask (eqI (D.toI (gD x 0)) 8)
 (.ret (.l [.i 2, .i 0, .b false, .b false]) [])
 (J_wf_Mark_2 x))
 (.ask (eqI (D.toI (gD x 0)) 9)
 (.ask (eqI (D.toI (gD x 0)) 9)
 (.ret (.l [.i 2, .i 0, .b false, .b false]) [])
 (J_wf_Mark_2 x))
 (.ask (eqI (D.toI (gD x 0)) 10)
 (.ask (eqI (D.toI (gD x 0)) 10)
 (.ret (.l [.i 2, .i 0, .b false, .b false]) [])
 (J_wf_Mark_2 x))
 (.ask (eqI (D.toI (gD x 0)) 11)
 (.ask (eqI (D.toI (gD x 0)) 11)
 (.ret (.l [.i 2, .i 0, .b false, .b false]) [])
 (J_wf_Mark_2 x))
 (.ask (eqI (D.toI (gD x 0)) 12)
 (.ask (eqI (D.toI (gD x 0)) 12)
 (.ret (.l [.i 2, .i 0, .b false, .b false]) [])
 (J_wf_Mark_2 x))
 (.ask (eqI (D.toI (gD x 0)) 13)
 (.ask (eqI (D.toI (gD x 0)) 13)
 (.ret (.l [.i 2, .i 0, .b false, .b false]) [])
 (J_wf_Mark_2 x))
 (.ask (eqI (D.toI (gD x 0)) 14)
 (.ask (eqI (D.toI (gD x 0)) 14)
 (.ret (.l [.i 2, .i 0, .b false, .b false]) [])
 (J_wf_Mark_2 x))
 (.ask (eqI (D.toI (gD x 0)) 15)
 (.ask (eqI (D.toI (gD x 0)) 15)
 (.ret (.l [.i 2, .i 0, .b false, .b false]) [])
 (J_wf_Mark_2 x))
 (.ask (eqI (D.toI (gD x 0)) 19)
 (.ask (eqI (D.toI (gD x 0)) 19)
 (.ret (.l [.i 2, .i 0, .b false, .b false]) [])
 (J_wf_Mark_2 x))
 (.ask (eqI (D.toI (gD x 0)) 21)
 (.ret (.l [.i 2, .i 0, .b false, .b false]) [])
 (J_wf_Mark_2 x))))))))))))))
def J_wf_Mark_0 (x : List D) : Sh :=
 .ask (eqI (D.toI (gD x 0)) 2)
 (.ask (eqI (D.toI (gD x 0)) 2)
 (.ret (.l [.i 0, .i 0, .b true, .b false]) [])
 (J_wf_Mark_1 x))
 (.ask (eqI (D.toI (gD x 0)) 3)
 (.ret (.l [.i 0, .i 0, .b true, .b false]) [])
 (J_wf_Mark_1 x))
def M_wf_Mark (x : List D) : Sh :=
 .ask (eqI (D.toI (gD x 0)) 1)
 (.ask (eqI (D.toI (gD x 0)) 1)
 (.ret (.l [.i 0, .i 0, .b false, .b true]) [])
 (J_wf_Mark_0 x))
 (.ask (eqI (D.toI (gD x 0)) 18)
 (.ret (.l [.i 0, .i 0, .b false, .b true]) [])
 (J_wf_Mark_0 x))
def S_wf_Mark : STab := []
def T_wf_Mark : TTab := []
def F_wf_Mark : Fn := { np := 1, bs := [], main := M_wf_Mark, lps := [] }
def M_slices_Index_Sbool_bool (x : List D) : Sh :=
 .loop 0 [.l (D.els (gD x 0)), .b (D.toB (gD x 1)), .i (Int.ofNat (List.length (D.els (gD x 0)))), .i 0] (.cons (fun p0 =>
 .ret (.i (gI p0 0)) [])
 (.cons (fun p0 =>
 .ret (.i (-1)) [])
 .nil))
def L_slices_Index_Sbool_bool_0 (p : List D) : Sh :=
 .ask (ltI (gI p 3) (gI p 2))
 (.ask (within (gI p 3) (List.length (gL p 0)))
 (.ask (bif (gB p 1) then D.toB (gD (gL p 0) (Int.toNat (gI p 3))) else !(D.toB (gD (gL p 0) (Int.toNat (gI p 3)))))
 (.out (0, [.i (gI p 3)]))
 (.again [.l (gL p 0), .b (gB p 1), .i (gI p 2), .i (wrapA .i64 ((gI p 3) + 1))]))
 (.bad))
 (.out (1, []))
def S_slices_Index_Sbool_bool : STab := [(0, fun p => ⟨(t2 (.fz [] 4 [.bool] (gL p 0)) (t2 (.bool (gB p 1)) (t0 (t1 (.int .i64 (gI p 2))) .nil) .nil) (t0 (t0 (t1 (.int .i64 (gI p 3))) .nil) .nil)), [], [], 1⟩)]
def T_slices_Index_Sbool_bool : TTab := [(0, [fun p => (.ret, ⟨(t0 .nil (t0 (t1 (.int .i64 (gI p 0))) .nil)), [], [], 1⟩),
  fun p => (.exit 0, ⟨(t0 .nil (t0 (t0 .nil .nil) .nil)), [], [], 1⟩)])]
def F_slices_Index_Sbool_bool : Fn := { np := 2, bs := [0], main := M_slices_Index_Sbool_bool, lps := [(0, L_slices_Index_Sbool_bool_0)] }
def M_wf_rows (x : List D) : Sh :=
 .ask (!(eqI (Int.ofNat (List.length (D.els (gD x 1)))) (Int.ofNat (List.length (D.els (gD x 2))))))
 (.ret (.b false) [])
 (.loop 0 [.l (D.els (gD x 0)), .i (Int.ofNat (List.length (D.els (gD x 1)))), .l (D.els (gD x 2)), .i 0, .l (D.els (gD x 1))] (.cons (fun p0 =>
 .ret (.b (gB p0 0)) [])
 (.cons (fun p0 =>
 .ret (.b true) [])
 .nil)))
def L_wf_rows_0 (p : List D) : Sh :=
 .ask (ltI (gI p 3) (gI p 1))
 (.ask (within (gI p 3) (List.length (gL p 4)))
 (.ask (within (D.toI (gD (gL p 4) (Int.toNat (gI p 3)))) (List.length (gL p 0)))
 (.ask (within (gI p 3) (List.length (gL p 2)))
 (.ask (!(eqI (D.toI (gD (gL p 0) (Int.toNat (D.toI (gD (gL p 4) (Int.toNat (gI p 3))))))) (D.toI (gD (gL p 2) (Int.toNat (gI p 3))))))
 (.out (0, [.b false]))
 (.again [.l (gL p 0), .i (gI p 1), .l (gL p 2), .i (wrapA .i64 ((gI p 3) + 1)), .l (gL p 4)]))
 (.bad))
 (.bad))
 (.bad))
 (.out (1, []))
def S_wf_rows : STab := [(0, fun p => ⟨(t2 (.fz [] 3 [.int .i64] (gL p 0)) (t0 (t0 (t0 (t1 (.int .i64 (gI p 1))) .nil) .nil) .nil) (t2 (.fz [] 3 [.int .i64] (gL p 2)) (t0 (t0 (t1 (.int .i64 (gI p 3))) .nil) .nil) (t0 .nil (t1 (.fz [] 3 [.int .i64] (gL p 4)))))), [], [], 1⟩)]
def T_wf_rows : TTab := [(0, [fun p => (.ret, ⟨(t0 .nil (t0 .nil (t1 (.bool (gB p 0))))), [], [], 1⟩),
  fun p => (.exit 0, ⟨(t0 .nil (t0 .nil (t0 .nil .nil))), [], [], 1⟩)])]
def F_wf_rows : Fn := { np := 3, bs := [0], main := M_wf_rows, lps := [(0, L_wf_rows_0)] }
def M_slices_Contains_Sint_int (x : List D) : Sh :=
 .call slices_Index_Sint_int [.l (D.els (gD x 0)), .i (D.toI (gD x 1))] 0 fun r0 _ =>
 .ret (.b (leI 0 (D.toI r0))) []
def S_slices_Contains_Sint_int : STab := []
def T_slices_Contains_Sint_int : TTab := []
def F_slices_Contains_Sint_int : Fn := { np := 2, bs := [], main := M_slices_Contains_Sint_int, lps := [] }
def M_math_bits_Len64 (x : List D) : Sh :=
 .ask (leI 4294967296 (D.toI (gD x 0)))
 (.ask (leI 0 32)
 (.ask (leI 65536 (shrV .u64 (D.toI (gD x 0)) 32))
 (.ask (leI 0 16)
 (.ask (leI 256 (shrV .u64 (shrV .u64 (D.toI (gD x 0)) 32) 16))
 (.ask (leI 0 8)
 (.ask (within (wrapA .u8 (shrV .u64 (shrV .u64 (shrV .u64 (D.toI (gD x 0)) 32) 16) 8)) 256)
 (.ret (.i (wrapA .i64 ((wrapA .i64 ((wrapA .i64 (32 + 16)) + 8)) + (wrapA .i64 (byteV [0, 1, 2, 2, 3, 3, 3, 3, 4, 4, 4, 4, 4, 4, 4, 4, 5, 5, 5, 5, 5, 5, 5, 5, 5, 5, 5, 5, 5, 5, 5, 5, 6, 6, 6, 6, 6, 6, 6, 6, 6, 6, 6, 6, 6, 6, 6, 6, 6, 6, 6, 6, 6, 6, 6, 6, 6, 6, 6, 6, 6, 6, 6, 6, 7, 7, 7, 7, 7, 7, 7, 7, 7, 7, 7, 7, 7, 7, 7, 7, 7, 7, 7, 7, 7, 7, 7, 7, 7, 7, 7, 7, 7, 7, 7, 7, 7, 7, 7, 7, 7, 7, 7, 7, 7, 7, 7, 7, 7, 7, 7, 7, 7, 7, 7, 7, 7, 7, 7, 7, 7, 7, 7, 7, 7, 7, 7, 7, 8, 8, 8, 8, 8, 8, 8, 8, 8, 8, 8, 8, 8, 8, 8, 8, 8, 8, 8, 8, 8, 8, 8, 8, 8, 8, 8, 8, 8, 8, 8, 8, 8, 8, 8, 8, 8, 8, 8, 8, 8, 8, 8, 8, 8, 8, 8, 8, 8, 8, 8, 8, 8, 8, 8, 8, 8, 8, 8, 8, 8, 8, 8, 8, 8, 8, 8, 8, 8, 8, 8, 8, 8, 8, 8, 8, 8, 8, 8, 8, 8, 8, 8, 8, 8, 8, 8, 8, 8, 8, 8, 8, 8, 8, 8, 8, 8, 8, 8, 8, 8, 8, 8, 8, 8, 8, 8, 8, 8, 8, 8, 8, 8, 8, 8, 8, 8, 8, 8, 8, 8, 8, 8, 8, 8, 8, 8, 8] (wrapA .u8 (shrV .u64 (shrV .u64 (shrV .u64 (D.toI (gD x 0)) 32) 16) 8))))))) [])
 (.bad))
 (.bad))
 (.ask (within (wrapA .u8 (shrV .u64 (shrV .u64 (D.toI (gD x 0)) 32) 16)) 256)
 (.ret (.i (wrapA .i64 ((wrapA .i64 (32 + 16)) + (wrapA .i64 (byteV [0, 1, 2, 2, 3, 3, 3, 3, 4, 4, 4, 4, 4, 4, 4, 4, 5, 5, 5, 5, 5, 5, 5, 5, 5, 5, 5, 5, 5, 5, 5, 5, 6, 6, 6, 6, 6, 6, 6, 6, 6, 6, 6, 6, 6, 6, 6, 6, 6, 6, 6, 6, 6, 6, 6, 6, 6, 6, 6, 6, 6, 6, 6, 6, 7, 7, 7, 7, 7, 7, 7, 7, 7, 7, 7, 7, 7, 7, 7, 7, 7, 7, 7, 7, 7, 7, 7, 7, 7, 7, 7, 7, 7, 7, 7, 7, 7, 7, 7, 7, 7, 7, 7, 7, 7, 7, 7, 7, 7, 7, 7, 7, 7, 7, 7, 7, 7, 7, 7, 7, 7, 7, 7, 7, 7, 7, 7, 7, 8, 8, 8, 8, 8, 8, 8, 8, 8, 8, 8, 8, 8, 8, 8, 8, 8, 8, 8, 8, 8, 8, 8, 8, 8, 8, 8, 8, 8, 8, 8, 8, 8, 8, 8, 8, 8, 8, 8, 8, 8, 8, 8, 8, 8, 8, 8, 8, 8, 8, 8, 8, 8, 8, 8, 8, 8, 8, 8, 8, 8, 8, 8, 8, 8, 8, 8, 8, 8, 8, 8, 8, 8, 8, 8, 8, 8, 8, 8, 8, 8, 8, 8, 8, 8, 8, 8, 8, 8, 8, 8, 8, 8, 8, 8, 8, 8, 8, 8, 8, 8, 8, 8, 8, 8, 8, 8, 8, 8, 8, 8, 8, 8, 8, 8, 8, 8, 8, 8, 8, 8, 8, 8, 8, 8, 8, 8, 8] (wrapA .u8 (shrV .u64 (shrV .u64 (D.toI (gD x 0)) 32) 16))))))) [])
 (.bad)))
 (.bad))
 (.ask (leI 256 (shrV .u64 (D.toI (gD x 0)) 32))
 (.ask (leI 0 8)
 (.ask (within (wrapA .u8 (shrV .u64 (shrV .u64 (D.toI (gD x 0)) 32) 8)) 256)
 (.ret (.i (wrapA .i64 ((wrapA .i64 (32 + 8)) + (wrapA .i64 (byteV [0, 1, 2, 2, 3, 3, 3, 3, 4, 4, 4, 4, 4, 4, 4, 4, 5, 5, 5, 5, 5, 5, 5, 5, 5, 5, 5, 5, 5, 5, 5, 5, 6, 6, 6, 6, 6, 6, 6, 6, 6, 6, 6, 6, 6, 6, 6, 6, 6, 6, 6, 6, 6, 6, 6, 6, 6, 6, 6, 6, 6, 6, 6, 6, 7, 7, 7, 7, 7, 7, 7, 7, 7, 7, 7, 7, 7, 7, 7, 7, 7, 7, 7, 7, 7, 7, 7, 7, 7, 7, 7, 7, 7, 7, 7, 7, 7, 7, 7, 7, 7, 7, 7, 7, 7, 7, 7, 7, 7, 7, 7, 7, 7, 7, 7, 7, 7, 7, 7, 7, 7, 7, 7, 7, 7, 7, 7, 7, 8, 8, 8, 8, 8, 8, 8, 8, 8, 8, 8, 8, 8, 8, 8, 8, 8, 8, 8, 8, 8, 8, 8, 8, 8, 8, 8, 8, 8, 8, 8, 8, 8, 8, 8, 8, 8, 8, 8, 8, 8, 8, 8, 8, 8, 8, 8, 8, 8, 8, 8, 8, 8, 8, 8, 8, 8, 8, 8, 8, 8, 8, 8, 8, 8, 8, 8, 8, 8, 8, 8, 8, 8, 8, 8, 8, 8, 8, 8, 8, 8, 8, 8, 8, 8, 8, 8, 8, 8, 8, 8, 8, 8, 8, 8, 8, 8, 8, 8, 8, 8, 8, 8, 8, 8, 8, 8, 8, 8, 8, 8, 8, 8, 8, 8, 8, 8, 8, 8, 8, 8, 8, 8, 8, 8, 8, 8, 8] (wrapA .u8 (shrV .u64 (shrV .u64 (D.toI (gD x 0)) 32) 8))))))) [])
 (.bad))
 (.bad))
 (.ask (within (wrapA .u8 (shrV .u64 (D.toI (gD x 0)) 32)) 256)
 (.ret (.i (wrapA .i64 (32 + (wrapA .i64 (byteV [0, 1, 2, 2, 3, 3, 3, 3, 4, 4, 4, 4, 4, 4, 4, 4, 5, 5, 5, 5, 5, 5, 5, 5, 5, 5, 5, 5, 5, 5, 5, 5, 6, 6, 6, 6, 6, 6, 6, 6, 6, 6, 6, 6, 6, 6, 6, 6, 6, 6, 6, 6, 6, 6, 6, 6, 6, 6, 6, 6, 6, 6, 6, 6, 7, 7, 7, 7, 7, 7, 7, 7, 7, 7, 7, 7, 7, 7, 7, 7, 7, 7, 7, 7, 7, 7, 7, 7, 7, 7, 7, 7, 7, 7, 7, 7, 7, 7, 7, 7, 7, 7, 7, 7, 7, 7, 7, 7, 7, 7, 7, 7, 7, 7, 7, 7, 7, 7, 7, 7, 7, 7, 7, 7, 7, 7, 7, 7, 8, 8, 8, 8, 8, 8, 8, 8, 8, 8, 8, 8, 8, 8, 8, 8, 8, 8, 8, 8, 8, 8, 8, 8, 8, 8, 8, 8, 8, 8, 8, 8, 8, 8, 8, 8, 8, 8, 8, 8, 8, 8, 8, 8, 8, 8, 8, 8, 8, 8, 8, 8, 8, 8, 8, 8, 8, 8, 8, 8, 8, 8, 8, 8, 8, 8, 8, 8, 8, 8, 8, 8, 8, 8, 8, 8, 8, 8, 8, 8, 8, 8, 8, 8, 8, 8, 8, 8, 8, 8, 8, 8, 8, 8, 8, 8, 8, 8, 8, 8, 8, 8, 8, 8, 8, 8, 8, 8, 8, 8, 8, 8, 8, 8, 8, 8, 8, 8, 8, 8, 8, 8, 8, 8, 8, 8, 8, 8] (wrapA .u8 (shrV .u64 (D.toI (gD x 0)) 32))))))) [])
 (.bad))))
 (.bad))
 (.ask (leI 65536 (D.toI (gD x 0)))
 (.ask (leI 0 16)
 (.ask (leI 256 (shrV .u64 (D.toI (gD x 0)) 16))
 (.ask (leI 0 8)
 (.ask (within (wrapA .u8 (shrV .u64 (shrV .u64 (D.toI (gD x 0)) 16) 8)) 256)
 (.ret (.i (wrapA .i64 ((wrapA .i64 ((wrapA .i64 (0 + 16)) + 8)) + (wrapA .i64 (byteV [0, 1, 2, 2, 3, 3, 3, 3, 4, 4, 4, 4, 4, 4, 4, 4, 5, 5, 5, 5, 5, 5, 5, 5, 5, 5, 5, 5, 5, 5, 5, 5, 6, 6, 6, 6, 6, 6, 6, 6, 6, 6, 6, 6, 6, 6, 6, 6, 6, 6, 6, 6, 6, 6, 6, 6, 6, 6, 6, 6, 6, 6, 6, 6, 7, 7, 7, 7, 7, 7, 7, 7, 7, 7, 7, 7, 7, 7, 7, 7, 7, 7, 7, 7, 7, 7, 7, 7, 7, 7, 7, 7, 7, 7, 7, 7, 7, 7, 7, 7, 7, 7, 7, 7, 7, 7, 7, 7, 7, 7, 7, 7, 7, 7, 7, 7, 7, 7, 7, 7, 7, 7, 7, 7, 7, 7, 7, 7, 8, 8, 8, 8, 8, 8, 8, 8, 8, 8, 8, 8, 8, 8, 8, 8, 8, 8, 8, 8, 8, 8, 8, 8, 8, 8, 8, 8, 8, 8, 8, 8, 8, 8, 8, 8, 8, 8, 8, 8, 8, 8, 8, 8, 8, 8, 8, 8, 8, 8, 8, 8, 8, 8, 8, 8, 8, 8, 8, 8, 8, 8, 8, 8, 8, 8, 8, 8, 8, 8, 8, 8, 8, 8, 8, 8, 8, 8, 8, 8, 8, 8, 8, 8, 8, 8, 8, 8, 8, 8, 8, 8, 8, 8, 8, 8, 8, 8, 8, 8, 8, 8, 8, 8, 8, 8, 8, 8, 8, 8, 8, 8, 8, 8, 8, 8, 8, 8, 8, 8, 8, 8, 8, 8, 8, 8, 8, 8] (wrapA .u8 (shrV .u64 (shrV .u64 (D.toI (gD x 0)) 16) 8))))))) [])
 (.bad))
 (.bad))
 (.ask (within (wrapA .u8 (shrV .u64 (D.toI (gD x 0)) 16)) 256)
 (.ret (.i (wrapA .i64 ((wrapA .i64 (0 + 16)) + (wrapA .i64 (byteV [0, 1, 2, 2, 3, 3, 3, 3, 4, 4, 4, 4, 4, 4, 4, 4, 5, 5, 5, 5, 5, 5, 5, 5, 5, 5, 5, 5, 5, 5, 5, 5, 6, 6, 6, 6, 6, 6, 6, 6, 6, 6, 6, 6, 6, 6, 6, 6, 6, 6, 6, 6, 6, 6, 6, 6, 6, 6, 6, 6, 6, 6, 6, 6, 7, 7, 7, 7, 7, 7, 7, 7, 7, 7, 7, 7, 7, 7, 7, 7, 7, 7, 7, 7, 7, 7, 7, 7, 7, 7, 7, 7, 7, 7, 7, 7, 7, 7, 7, 7, 7, 7, 7, 7, 7, 7, 7, 7, 7, 7, 7, 7, 7, 7, 7, 7, 7, 7, 7, 7, 7, 7, 7, 7, 7, 7, 7, 7, 8, 8, 8, 8, 8, 8, 8, 8, 8, 8, 8, 8, 8, 8, 8, 8, 8, 8, 8, 8, 8, 8, 8, 8, 8, 8, 8, 8, 8, 8, 8, 8, 8, 8, 8, 8, 8, 8, 8, 8, 8, 8, 8, 8, 8, 8, 8, 8, 8, 8, 8, 8, 8, 8, 8, 8, 8, 8, 8, 8, 8, 8, 8, 8, 8, 8, 8, 8, 8, 8, 8, 8, 8, 8, 8, 8, 8, 8, 8, 8, 8, 8, 8, 8, 8, 8, 8, 8, 8, 8, 8, 8, 8, 8, 8, 8, 8, 8, 8, 8, 8, 8, 8, 8, 8, 8, 8, 8, 8, 8, 8, 8, 8, 8, 8, 8, 8, 8, 8, 8, 8, 8, 8, 8, 8, 8, 8, 8] (wrapA .u8 (shrV .u64 (D.toI (gD x 0)) 16))))))) [])
 (.bad)))
 (.bad))
 (.ask (leI 256 (D.toI (gD x 0)))
 (.ask (leI 0 8)
 (.ask (within (wrapA .u8 (shrV .u64 (D.toI (gD x 0)) 8)) 256)
 (.ret (.i (wrapA .i64 ((wrapA .i64 (0 + 8)) + (wrapA .i64 (byteV [0, 1, 2, 2, 3, 3, 3, 3, 4, 4, 4, 4, 4, 4, 4, 4, 5, 5, 5, 5, 5, 5, 5, 5, 5, 5, 5, 5, 5, 5, 5, 5, 6, 6, 6, 6, 6, 6, 6, 6, 6, 6, 6, 6, 6, 6, 6, 6, 6, 6, 6, 6, 6, 6, 6, 6, 6, 6, 6, 6, 6, 6, 6, 6, 7, 7, 7, 7, 7, 7, 7, 7, 7, 7, 7, 7, 7, 7, 7, 7, 7, 7, 7, 7, 7, 7, 7, 7, 7, 7, 7, 7, 7, 7, 7, 7, 7, 7, 7, 7, 7, 7, 7, 7, 7, 7, 7, 7, 7, 7, 7, 7, 7, 7, 7, 7, 7, 7, 7, 7, 7, 7, 7, 7, 7, 7, 7, 7, 8, 8, 8, 8, 8, 8, 8, 8, 8, 8, 8, 8, 8, 8, 8, 8, 8, 8, 8, 8, 8, 8, 8, 8, 8, 8, 8, 8, 8, 8, 8, 8, 8, 8, 8, 8, 8, 8, 8, 8, 8, 8, 8, 8, 8, 8, 8, 8, 8, 8, 8, 8, 8, 8, 8, 8, 8, 8, 8, 8, 8, 8, 8, 8, 8, 8, 8, 8, 8, 8, 8, 8, 8, 8, 8, 8, 8, 8, 8, 8, 8, 8, 8, 8, 8, 8, 8, 8, 8, 8, 8, 8, 8, 8, 8, 8, 8, 8, 8, 8, 8, 8, 8, 8, 8, 8, 8, 8, 8, 8, 8, 8, 8, 8, 8, 8, 8, 8, 8, 8, 8, 8, 8, 8, 8, 8, 8, 8] (wrapA .u8 (shrV .u64 (D.toI (gD x 0)) 8))))))) [])
 (.bad))
 (.bad))
 (.ask (within (wrapA .u8 (D.toI (gD x 0))) 256)
 (.ret (.i (wrapA .i64 (0 + (wrapA .i64 (byteV [0, 1, 2, 2, 3, 3, 3, 3, 4, 4, 4, 4, 4, 4, 4, 4, 5, 5, 5, 5, 5, 5, 5, 5, 5, 5, 5, 5, 5, 5, 5, 5, 6, 6, 6, 6, 6, 6, 6, 6, 6, 6, 6, 6, 6, 6, 6, 6, 6, 6, 6, 6, 6, 6, 6, 6, 6, 6, 6, 6, 6, 6, 6, 6, 7, 7, 7, 7, 7, 7, 7, 7, 7, 7, 7, 7, 7, 7, 7, 7, 7, 7, 7, 7, 7, 7, 7, 7, 7, 7, 7, 7, 7, 7, 7, 7, 7, 7, 7, 7, 7, 7, 7, 7, 7, 7, 7, 7, 7, 7, 7, 7, 7, 7, 7, 7, 7, 7, 7, 7, 7, 7, 7, 7, 7, 7, 7, 7, 8, 8, 8, 8, 8, 8, 8, 8, 8, 8, 8, 8, 8, 8, 8, 8, 8, 8, 8, 8, 8, 8, 8, 8, 8, 8, 8, 8, 8, 8, 8, 8, 8, 8, 8, 8, 8, 8, 8, 8, 8, 8, 8, 8, 8, 8, 8, 8, 8, 8, 8, 8, 8, 8, 8, 8, 8, 8, 8, 8, 8, 8, 8, 8, 8, 8, 8, 8, 8, 8, 8, 8, 8, 8, 8, 8, 8, 8, 8, 8, 8, 8, 8, 8, 8, 8, 8, 8, 8, 8, 8, 8, 8, 8, 8, 8, 8, 8, 8, 8, 8, 8, 8, 8, 8, 8, 8, 8, 8, 8, 8, 8, 8, 8, 8, 8, 8, 8, 8, 8, 8, 8, 8, 8, 8, 8, 8, 8] (wrapA .u8 (D.toI (gD x 0)))))))) [])
 (.bad))))
def S_math_bits_Len64 : STab := []
def T_math_bits_Len64 : TTab := []
def F_math_bits_Len64 : Fn := { np := 1, bs := [], main := M_math_bits_Len64, lps := [] }
def M_args_Run (x : List D) : Sh :=
 .call wf_Check [.l [.l (D.els (D.fld (gD x 0) 0)), .l (D.els (D.fld (gD x 0) 1)), .l (D.els (D.fld (gD x 0) 2)), .l (D.els (D.fld (gD x 0) 3))]] 0 fun r0 _ =>
 .ask (!(eqI (D.toI r0) 0))
 (.ret (.l [.l [.l [], .l [], .l [], .l []], .i (D.toI r0)]) [])
 (.call args_Dead [.l [.l (D.els (D.fld (gD x 0) 0)), .l (D.els (D.fld (gD x 0) 1)), .l (D.els (D.fld (gD x 0) 2)), .l (D.els (D.fld (gD x 0) 3))]] 0 fun r1 _ =>
 .call args_Unused [.l [.l (D.els (D.fld (gD x 0) 0)), .l (D.els (D.fld (gD x 0) 1)), .l (D.els (D.fld (gD x 0) 2)), .l (D.els (D.fld (gD x 0) 3))]] 0 fun r2 _ =>
 .call ir_Copy [.l [.l (D.els (D.fld (gD x 0) 0)), .l (D.els (D.fld (gD x 0) 1)), .l (D.els (D.fld (gD x 0) 2)), .l (D.els (D.fld (gD x 0) 3))]] 0 fun r3 _ =>
 .loop 0 [.i (Int.ofNat (List.length (D.els (D.fld r3 3)))), .i 0, .l (D.els r1), .l (D.els r2), .l (D.els (D.fld r3 0)), .l (D.els (D.fld r3 1)), .l (D.els (D.fld r3 2)), .l (D.els (D.fld r3 3))] (.cons (fun p4 =>
 .ret (.l [.l [.l (gL p4 0), .l (gL p4 1), .l (gL p4 2), .l (gL p4 3)], .i 0]) [])
 .nil))
def L_args_Run_0 (p : List D) : Sh :=
 .ask (ltI (gI p 1) (gI p 0))
 (.ask (within (gI p 1) (List.length (gL p 7)))
 (.loop 2 [.i (Int.ofNat (List.length (D.els (D.fld (gD (gL p 7) (Int.toNat (gI p 1))) 4)))), .i (gI p 0), .i (Int.ofNat (Int.toNat (gI p 1))), .i (gI p 1), .i 0, .i (gI p 1), .l (gL p 2), .l (gL p 3), .l (gL p 4), .l (gL p 5), .l (gL p 6), .l (gL p 7)] (.cons (fun p0 =>
 .ask (within (gI p0 2) (List.length (gL p0 5)))
 (.ask (D.toB (gD (gL p0 5) (Int.toNat (gI p0 2))))
 (.ask (within (gI p0 2) (List.length (gL p0 4)))
 (.ask (eqI (Int.ofNat (List.length (D.els (gD (gL p0 4) (Int.toNat (gI p0 2)))))) 0)
 (.call ir_Neat (let z0 := gD (List.set (gL p0 9) (gN p0 1) (D.l (setPad (D.els (gD (gL p0 9) (gN p0 1))) 3 (D.i 0)))) (gN p0 1); [D.l [D.s (D.toS (D.fld z0 0)), D.b (D.toB (D.fld z0 1)), D.l (D.els (D.fld z0 2)), D.i (D.toI (D.fld z0 3)), D.l (D.els (D.fld z0 4))]]) 0 fun r1 _ =>
 .ask (within (gI p0 2) (List.length (List.set (gL p0 9) (gN p0 1) (D.l (setPad (D.els (gD (gL p0 9) (gN p0 1))) 3 (.i 0))))))
 (.again (let z0 := List.set (gL p0 9) (gN p0 1) (D.l (setPad (D.els (gD (gL p0 9) (gN p0 1))) 3 (D.i 0))); let z1 := List.set z0 (Int.toNat (gI p0 2)) (D.l (setPad (D.els (gD z0 (Int.toNat (gI p0 2)))) 0 (D.s (D.toS (D.fld r1 0))))); let z2 := List.set z1 (Int.toNat (gI p0 2)) (D.l (setPad (D.els (gD z1 (Int.toNat (gI p0 2)))) 1 (D.b (D.toB (D.fld r1 1))))); let z3 := List.set z2 (Int.toNat (gI p0 2)) (D.l (setPad (D.els (gD z2 (Int.toNat (gI p0 2)))) 2 (D.l (D.els (D.fld r1 2))))); let z4 := List.set z3 (Int.toNat (gI p0 2)) (D.l (setPad (D.els (gD z3 (Int.toNat (gI p0 2)))) 3 (D.i (D.toI (D.fld r1 3))))); [.i (gI p0 0), .i (wrapA .i64 ((gI p0 3) + 1)), .l (gL p0 4), .l (gL p0 5), .l (gL p0 6), .l (gL p0 7), .l (gL p0 8), .l (List.set z4 (Int.toNat (gI p0 2)) (D.l (setPad (D.els (gD z4 (Int.toNat (gI p0 2)))) 4 (D.l (D.els (D.fld r1 4))))))]))
 (.bad))
 (.ask ((leI 0 (wrapA .i64 ((Int.ofNat (List.length (D.els (D.fld (gD (List.set (gL p0 9) (gN p0 1) (D.l (setPad (D.els (gD (gL p0 9) (gN p0 1))) 3 (.i 0)))) (gN p0 1)) 2)))) + 1))) && ((eqI (wrapA .i64 ((Int.ofNat (List.length (D.els (D.fld (gD (List.set (gL p0 9) (gN p0 1) (D.l (setPad (D.els (gD (gL p0 9) (gN p0 1))) 3 (.i 0)))) (gN p0 1)) 2)))) + 1)) (wrapA .i64 ((Int.ofNat (List.length (D.els (D.fld (gD (List.set (gL p0 9) (gN p0 1) (D.l (setPad (D.els (gD (gL p0 9) (gN p0 1))) 3 (.i 0)))) (gN p0 1)) 2)))) + 1))) && (lim (Int.toNat (wrapA .i64 ((Int.ofNat (List.length (D.els (D.fld (gD (List.set (gL p0 9) (gN p0 1) (D.l (setPad (D.els (gD (gL p0 9) (gN p0 1))) 3 (.i 0)))) (gN p0 1)) 2)))) + 1))) 8)))
 (.loop 1000 (let z0 := List.set (gL p0 9) (gN p0 1) (D.l (setPad (D.els (gD (gL p0 9) (gN p0 1))) 3 (D.i 0))); let z1 := gD z0 (gN p0 1); [.i (Int.ofNat (Int.toNat (gI p0 2))), .i 0, .i (gI p0 2), .i (gI p0 0), .i 1, .i (gI p0 3), .i 0, .s (D.toS (D.fld z1 0)), .b (D.toB (D.fld z1 1)), .i (Int.ofNat (gN p0 1)), .i (D.toI (D.fld z1 3)), .i (Int.ofNat (gN p0 1)), .s [], .b false, .i 0, .l (List.replicate (Int.toNat (wrapA .i64 ((Int.ofNat (List.length (D.els (D.fld z1 2)))) + 1))) (D.i 0)), .l (gL p0 4), .l (gL p0 5), .l (gL p0 6), .l (gL p0 7), .l (gL p0 8), .l z0]) (.cons (fun p1 =>
 .loop 1002 [.i (Int.ofNat (gN p1 0)), .i (gI p1 1), .i (gI p1 2), .i (Int.ofNat (List.length (D.els (D.fld (gD (gL p1 18) (gN p1 8)) 4)))), .i (Int.ofNat (gN p1 8)), .i (gI p1 3), .i 0, .s (gS p1 4), .b (gB p1 5), .i (Int.ofNat (gN p1 6)), .i (gI p1 7), .i (Int.ofNat (gN p1 8)), .s (gS p1 9), .b (gB p1 10), .i (gI p1 11), .l (gL p1 12), .l (gL p1 13), .l (gL p1 14), .l (gL p1 15), .l (gL p1 16), .l (gL p1 17), .l (gL p1 18)] (.cons (fun p2 =>
 .call args_without [.l (D.els (D.fld (gD (gL p2 17) (gN p2 6)) 2)), .l (D.els (gD (gL p2 12) (gN p2 0)))] 0 fun r3 _ =>
 .call ir_Neat [.l [.s (gS p2 4), .b (gB p2 5), .l (D.els r3), .i (gI p2 7), .l (D.els (D.fld (gD (gL p2 17) (gN p2 8)) 4))]] 0 fun r4 _ =>
 .ask (within (gI p2 1) (List.length (gL p2 17)))
 (.again (let z0 := List.set (gL p2 17) (Int.toNat (gI p2 1)) (D.l (setPad (D.els (gD (gL p2 17) (Int.toNat (gI p2 1)))) 0 (D.s (D.toS (D.fld r4 0))))); let z1 := List.set z0 (Int.toNat (gI p2 1)) (D.l (setPad (D.els (gD z0 (Int.toNat (gI p2 1)))) 1 (D.b (D.toB (D.fld r4 1))))); let z2 := List.set z1 (Int.toNat (gI p2 1)) (D.l (setPad (D.els (gD z1 (Int.toNat (gI p2 1)))) 2 (D.l (D.els (D.fld r4 2))))); let z3 := List.set z2 (Int.toNat (gI p2 1)) (D.l (setPad (D.els (gD z2 (Int.toNat (gI p2 1)))) 3 (D.i (D.toI (D.fld r4 3))))); [.i (gI p2 2), .i (wrapA .i64 ((gI p2 3) + 1)), .l (gL p2 12), .l (gL p2 13), .l (gL p2 14), .l (gL p2 15), .l (gL p2 16), .l (List.set z3 (Int.toNat (gI p2 1)) (D.l (setPad (D.els (gD z3 (Int.toNat (gI p2 1)))) 4 (D.l (D.els (D.fld r4 4))))))]))
 (.bad))
 .nil))
 .nil))
 (.bad)))
 (.bad))
 (.ask (within (gI p0 2) (List.length (gL p0 4)))
 (.ask (eqI (Int.ofNat (List.length (D.els (gD (gL p0 4) (Int.toNat (gI p0 2)))))) 0)
 (.call ir_Neat [.l [.s (D.toS (D.fld (gD (gL p0 9) (gN p0 1)) 0)), .b (D.toB (D.fld (gD (gL p0 9) (gN p0 1)) 1)), .l (D.els (D.fld (gD (gL p0 9) (gN p0 1)) 2)), .i (D.toI (D.fld (gD (gL p0 9) (gN p0 1)) 3)), .l (D.els (D.fld (gD (gL p0 9) (gN p0 1)) 4))]] 0 fun r1 _ =>
 .ask (within (gI p0 2) (List.length (gL p0 9)))
 (.again (let z0 := List.set (gL p0 9) (Int.toNat (gI p0 2)) (D.l (setPad (D.els (gD (gL p0 9) (Int.toNat (gI p0 2)))) 0 (D.s (D.toS (D.fld r1 0))))); let z1 := List.set z0 (Int.toNat (gI p0 2)) (D.l (setPad (D.els (gD z0 (Int.toNat (gI p0 2)))) 1 (D.b (D.toB (D.fld r1 1))))); let z2 := List.set z1 (Int.toNat (gI p0 2)) (D.l (setPad (D.els (gD z1 (Int.toNat (gI p0 2)))) 2 (D.l (D.els (D.fld r1 2))))); let z3 := List.set z2 (Int.toNat (gI p0 2)) (D.l (setPad (D.els (gD z2 (Int.toNat (gI p0 2)))) 3 (D.i (D.toI (D.fld r1 3))))); [.i (gI p0 0), .i (wrapA .i64 ((gI p0 3) + 1)), .l (gL p0 4), .l (gL p0 5), .l (gL p0 6), .l (gL p0 7), .l (gL p0 8), .l (List.set z3 (Int.toNat (gI p0 2)) (D.l (setPad (D.els (gD z3 (Int.toNat (gI p0 2)))) 4 (D.l (D.els (D.fld r1 4))))))]))
 (.bad))
 (.ask ((leI 0 (wrapA .i64 ((Int.ofNat (List.length (D.els (D.fld (gD (gL p0 9) (gN p0 1)) 2)))) + 1))) && ((eqI (wrapA .i64 ((Int.ofNat (List.length (D.els (D.fld (gD (gL p0 9) (gN p0 1)) 2)))) + 1)) (wrapA .i64 ((Int.ofNat (List.length (D.els (D.fld (gD (gL p0 9) (gN p0 1)) 2)))) + 1))) && (lim (Int.toNat (wrapA .i64 ((Int.ofNat (List.length (D.els (D.fld (gD (gL p0 9) (gN p0 1)) 2)))) + 1))) 8)))
 (.loop 1000 [.i (Int.ofNat (Int.toNat (gI p0 2))), .i 0, .i (gI p0 2), .i (gI p0 0), .i 1, .i (gI p0 3), .i 0, .s (D.toS (D.fld (gD (gL p0 9) (gN p0 1)) 0)), .b (D.toB (D.fld (gD (gL p0 9) (gN p0 1)) 1)), .i (Int.ofNat (gN p0 1)), .i (D.toI (D.fld (gD (gL p0 9) (gN p0 1)) 3)), .i (Int.ofNat (gN p0 1)), .s [], .b false, .i 0, .l (List.replicate (Int.toNat (wrapA .i64 ((Int.ofNat (List.length (D.els (D.fld (gD (gL p0 9) (gN p0 1)) 2)))) + 1))) (D.i 0)), .l (gL p0 4), .l (gL p0 5), .l (gL p0 6), .l (gL p0 7), .l (gL p0 8), .l (gL p0 9)] (.cons (fun p1 =>
 .loop 1002 [.i (Int.ofNat (gN p1 0)), .i (gI p1 1), .i (gI p1 2), .i (Int.ofNat (List.length (D.els (D.fld (gD (gL p1 18) (gN p1 8)) 4)))), .i (Int.ofNat (gN p1 8)), .i (gI p1 3), .i 0, .s (gS p1 4), .b (gB p1 5), .i (Int.ofNat (gN p1 6)), .i (gI p1 7), .i (Int.ofNat (gN p1 8)), .s (gS p1 9), .b (gB p1 10), .i (gI p1 11), .l (gL p1 12), .l (gL p1 13), .l (gL p1 14), .l (gL p1 15), .l (gL p1 16), .l (gL p1 17), .l (gL p1 18)] (.cons (fun p2 =>
 .call args_without [.l (D.els (D.fld (gD (gL p2 17) (gN p2 6)) 2)), .l (D.els (gD (gL p2 12) (gN p2 0)))] 0 fun r3 _ =>
 .call ir_Neat [.l [.s (gS p2 4), .b (gB p2 5), .l (D.els r3), .i (gI p2 7), .l (D.els (D.fld (gD (gL p2 17) (gN p2 8)) 4))]] 0 fun r4 _ =>
 .ask (within (gI p2 1) (List.length (gL p2 17)))
 (.again (let z0 := List.set (gL p2 17) (Int.toNat (gI p2 1)) (D.l (setPad (D.els (gD (gL p2 17) (Int.toNat (gI p2 1)))) 0 (D.s (D.toS (D.fld r4 0))))); let z1 := List.set z0 (Int.toNat (gI p2 1)) (D.l (setPad (D.els (gD z0 (Int.toNat (gI p2 1)))) 1 (D.b (D.toB (D.fld r4 1))))); let z2 := List.set z1 (Int.toNat (gI p2 1)) (D.l (setPad (D.els (gD z1 (Int.toNat (gI p2 1)))) 2 (D.l (D.els (D.fld r4 2))))); let z3 := List.set z2 (Int.toNat (gI p2 1)) (D.l (setPad (D.els (gD z2 (Int.toNat (gI p2 1)))) 3 (D.i (D.toI (D.fld r4 3))))); [.i (gI p2 2), .i (wrapA .i64 ((gI p2 3) + 1)), .l (gL p2 12), .l (gL p2 13), .l (gL p2 14), .l (gL p2 15), .l (gL p2 16), .l (List.set z3 (Int.toNat (gI p2 1)) (D.l (setPad (D.els (gD z3 (Int.toNat (gI p2 1)))) 4 (D.l (D.els (D.fld r4 4))))))]))
 (.bad))
 .nil))
 .nil))
 (.bad)))
 (.bad)))
 (.bad))
 .nil))
 (.bad))
 (.out (0, [.l (gL p 4), .l (gL p 5), .l (gL p 6), .l (gL p 7)]))
def L_args_Run_2 (p : List D) : Sh :=
 .ask (ltI (gI p 4) (gI p 0))
 (.ask (within (gI p 4) (List.length (D.els (D.fld (gD (gL p 11) (gN p 2)) 4))))
 (.loop 4 [.i (gI p 0), .i (Int.ofNat (List.length (D.els (gD (D.els (D.fld (gD (gL p 11) (gN p 2)) 4)) (Int.toNat (gI p 4)))))), .i (gI p 1), .i (Int.ofNat (gN p 2)), .i (gI p 3), .i (gI p 4), .i 0, .i (gI p 5), .i (gI p 4), .l (gL p 6), .l (gL p 7), .l (gL p 8), .l (gL p 9), .l (gL p 10), .l (gL p 11)] (.cons (fun p0 =>
 .again [.i (gI p0 0), .i (gI p0 1), .i (Int.ofNat (gN p0 2)), .i (gI p0 3), .i (wrapA .i64 ((gI p0 4) + 1)), .i (gI p0 5), .l (gL p0 6), .l (gL p0 7), .l (gL p0 8), .l (gL p0 9), .l (gL p0 10), .l (gL p0 11)])
 .nil))
 (.bad))
 (.out (0, [.i (gI p 1), .i (Int.ofNat (gN p 2)), .i (gI p 3), .i (gI p 5), .l (gL p 6), .l (gL p 7), .l (gL p 8), .l (gL p 9), .l (gL p 10), .l (gL p 11)]))
def L_args_Run_4 (p : List D) : Sh :=
 .ask (ltI (gI p 6) (gI p 1))
 (.ask (within (gI p 8) (List.length (D.els (D.fld (gD (gL p 14) (gN p 3)) 4))))
 (.ask (within (gI p 6) (List.length (D.els (gD (D.els (D.fld (gD (gL p 14) (gN p 3)) 4)) (Int.toNat (gI p 8))))))
 (.ask (eqI (D.toI (D.fld (gD (D.els (gD (D.els (D.fld (gD (gL p 14) (gN p 3)) 4)) (Int.toNat (gI p 8)))) (Int.toNat (gI p 6))) 0)) 22)
 (.ask (within (D.toI (D.fld (gD (D.els (gD (D.els (D.fld (gD (gL p 14) (gN p 3)) 4)) (Int.toNat (gI p 8)))) (Int.toNat (gI p 6))) 3)) (List.length (gL p 9)))
 (.call args_without (let z0 := gD (D.els (gD (D.els (D.fld (gD (gL p 14) (gN p 3)) 4)) (Int.toNat (gI p 8)))) (Int.toNat (gI p 6)); [D.l (D.els (D.fld z0 5)), D.l (D.els (gD (gL p 9) (Int.toNat (D.toI (D.fld z0 3)))))]) 0 fun r0 _ =>
 .ask (within (D.toI (D.fld (gD (D.els (gD (D.els (D.fld (gD (List.set (gL p 14) (gN p 3) (D.l (setPad (D.els (gD (gL p 14) (gN p 3))) 4 (.l (List.set (D.els (D.fld (gD (gL p 14) (gN p 3)) 4)) (Int.toNat (gI p 8)) (D.l (List.set (D.els (gD (D.els (D.fld (gD (gL p 14) (gN p 3)) 4)) (Int.toNat (gI p 8)))) (Int.toNat (gI p 6)) (D.l (setPad (D.els (gD (D.els (gD (D.els (D.fld (gD (gL p 14) (gN p 3)) 4)) (Int.toNat (gI p 8)))) (Int.toNat (gI p 6)))) 5 (.l (D.els r0))))))))))) (gN p 3)) 4)) (Int.toNat (gI p 8)))) (Int.toNat (gI p 6))) 3)) (List.length (gL p 10)))
 (.ask (D.toB (gD (gL p 10) (Int.toNat (D.toI (D.fld (gD (D.els (gD (D.els (D.fld (gD (List.set (gL p 14) (gN p 3) (D.l (setPad (D.els (gD (gL p 14) (gN p 3))) 4 (.l (List.set (D.els (D.fld (gD (gL p 14) (gN p 3)) 4)) (Int.toNat (gI p 8)) (D.l (List.set (D.els (gD (D.els (D.fld (gD (gL p 14) (gN p 3)) 4)) (Int.toNat (gI p 8)))) (Int.toNat (gI p 6)) (D.l (setPad (D.els (gD (D.els (gD (D.els (D.fld (gD (gL p 14) (gN p 3)) 4)) (Int.toNat (gI p 8)))) (Int.toNat (gI p 6)))) 5 (.l (D.els r0))))))))))) (gN p 3)) 4)) (Int.toNat (gI p 8)))) (Int.toNat (gI p 6))) 3)))))
 (.ask ((!((eqI (D.toI (D.fld (gD (D.els (gD (D.els (D.fld (gD (List.set (List.set (List.set (gL p 14) (gN p 3) (D.l (setPad (D.els (gD (gL p 14) (gN p 3))) 4 (.l (List.set (D.els (D.fld (gD (gL p 14) (gN p 3)) 4)) (Int.toNat (gI p 8)) (D.l (List.set (D.els (gD (D.els (D.fld (gD (gL p 14) (gN p 3)) 4)) (Int.toNat (gI p 8)))) (Int.toNat (gI p 6)) (D.l (setPad (D.els (gD (D.els (gD (D.els (D.fld (gD (gL p 14) (gN p 3)) 4)) (Int.toNat (gI p 8)))) (Int.toNat (gI p 6)))) 5 (.l (D.els r0))))))))))) (gN p 3) (D.l (setPad (D.els (gD (List.set (gL p 14) (gN p 3) (D.l (setPad (D.els (gD (gL p 14) (gN p 3))) 4 (.l (List.set (D.els (D.fld (gD (gL p 14) (gN p 3)) 4)) (Int.toNat (gI p 8)) (D.l (List.set (D.els (gD (D.els (D.fld (gD (gL p 14) (gN p 3)) 4)) (Int.toNat (gI p 8)))) (Int.toNat (gI p 6)) (D.l (setPad (D.els (gD (D.els (gD (D.els (D.fld (gD (gL p 14) (gN p 3)) 4)) (Int.toNat (gI p 8)))) (Int.toNat (gI p 6)))) 5 (.l (D.els r0))))))))))) (gN p 3))) 4 (.l (List.set (D.els (D.fld (gD (List.set (gL p 14) (gN p 3) (D.l (setPad (D.els (gD (gL p 14) (gN p 3))) 4 (.l (List.set (D.els (D.fld (gD (gL p 14) (gN p 3)) 4)) (Int.toNat (gI p 8)) (D.l (List.set (D.els (gD (D.els (D.fld (gD (gL p 14) (gN p 3)) 4)) (Int.toNat (gI p 8)))) (Int.toNat (gI p 6)) (D.l (setPad (D.els (gD (D.els (gD (D.els (D.fld (gD (gL p 14) (gN p 3)) 4)) (Int.toNat (gI p 8)))) (Int.toNat (gI p 6)))) 5 (.l (D.els r0))))))))))) (gN p 3)) 4)) (Int.toNat (gI p 8)) (D.l (List.set (D.els (gD (D.els (D.fld (gD (List.set (gL p 14) (gN p 3) (D.l (setPad (D.els (gD (gL p 14) (gN p 3))) 4 (.l (List.set (D.els (D.fld (gD (gL p 14) (gN p 3)) 4)) (Int.toNat (gI p 8)) (D.l (List.set (D.els (gD (D.els (D.fld (gD (gL p 14) (gN p 3)) 4)) (Int.toNat (gI p 8)))) (Int.toNat (gI p 6)) (D.l (setPad (D.els (gD (D.els (gD (D.els (D.fld (gD (gL p 14) (gN p 3)) 4)) (Int.toNat (gI p 8)))) (Int.toNat (gI p 6)))) 5 (.l (D.els r0))))))))))) (gN p 3)) 4)) (Int.toNat (gI p 8)))) (Int.toNat (gI p 6)) (D.l (setPad (D.els (gD (D.els (gD (D.els (D.fld (gD (List.set (gL p 14) (gN p 3) (D.l (setPad (D.els (gD (gL p 14) (gN p 3))) 4 (.l (List.set (D.els (D.fld (gD (gL p 14) (gN p 3)) 4)) (Int.toNat (gI p 8)) (D.l (List.set (D.els (gD (D.els (D.fld (gD (gL p 14) (gN p 3)) 4)) (Int.toNat (gI p 8)))) (Int.toNat (gI p 6)) (D.l (setPad (D.els (gD (D.els (gD (D.els (D.fld (gD (gL p 14) (gN p 3)) 4)) (Int.toNat (gI p 8)))) (Int.toNat (gI p 6)))) 5 (.l (D.els r0))))))))))) (gN p 3)) 4)) (Int.toNat (gI p 8)))) (Int.toNat (gI p 6)))) 1 (.i 0)))))))))) (gN p 3) (D.l (setPad (D.els (gD (List.set (List.set (gL p 14) (gN p 3) (D.l (setPad (D.els (gD (gL p 14) (gN p 3))) 4 (.l (List.set (D.els (D.fld (gD (gL p 14) (gN p 3)) 4)) (Int.toNat (gI p 8)) (D.l (List.set (D.els (gD (D.els (D.fld (gD (gL p 14) (gN p 3)) 4)) (Int.toNat (gI p 8)))) (Int.toNat (gI p 6)) (D.l (setPad (D.els (gD (D.els (gD (D.els (D.fld (gD (gL p 14) (gN p 3)) 4)) (Int.toNat (gI p 8)))) (Int.toNat (gI p 6)))) 5 (.l (D.els r0))))))))))) (gN p 3) (D.l (setPad (D.els (gD (List.set (gL p 14) (gN p 3) (D.l (setPad (D.els (gD (gL p 14) (gN p 3))) 4 (.l (List.set (D.els (D.fld (gD (gL p 14) (gN p 3)) 4)) (Int.toNat (gI p 8)) (D.l (List.set (D.els (gD (D.els (D.fld (gD (gL p 14) (gN p 3)) 4)) (Int.toNat (gI p 8)))) (Int.toNat (gI p 6)) (D.l (setPad (D.els (gD (D.els (gD (D.els (D.fld (gD (gL p 14) (gN p 3)) 4)) (Int.toNat (gI p 8)))) (Int.toNat (gI p 6)))) 5 (.l (D.els r0))))))))))) (gN p 3))) 4 (.l (List.set (D.els (D.fld (gD (List.set (gL p 14) (gN p 3) (D.l (setPad (D.els (gD (gL p 14) (gN p 3))) 4 (.l (List.set (D.els (D.fld (gD (gL p 14) (gN p 3)) 4)) (Int.toNat (gI p 8)) (D.l (List.set (D.els (gD (D.els (D.fld (gD (gL p 14) (gN p 3)) 4)) (Int.toNat (gI p 8)))) (Int.toNat (gI p 6)) (D.l (setPad (D.els (gD (D.els (gD (D.els (D.fld (gD (gL p 14) (gN p 3)) 4)) (Int.toNat (gI p 8)))) (Int.toNat (gI p 6)))) 5 (.l (D.els r0))))))))))) (gN p 3)) 4)) (Int.toNat (gI p 8)) (D.l (List.set (D.els (gD (D.els (D.fld (gD (List.set (gL p 14) (gN p 3) (D.l (setPad (D.els (gD (gL p 14) (gN p 3))) 4 (.l (List.set (D.els (D.fld (gD (gL p 14) (gN p 3)) 4)) (Int.toNat (gI p 8)) (D.l (List.set (D.els (gD (D.els (D.fld (gD (gL p 14) (gN p 3)) 4)) (Int.toNat (gI p 8)))) (Int.toNat (gI p 6)) (D.l (setPad (D.els (gD (D.els (gD (D.els (D.fld (gD (gL p 14) (gN p 3)) 4)) (Int.toNat (gI p 8)))) (Int.toNat (gI p 6)))) 5 (.l (D.els r0))))))))))) (gN p 3)) 4)) (Int.toNat (gI p 8)))) (Int.toNat (gI p 6)) (D.l (setPad (D.els (gD (D.els (gD (D.els (D.fld (gD (List.set (gL p 14) (gN p 3) (D.l (setPad (D.els (gD (gL p 14) (gN p 3))) 4 (.l (List.set (D.els (D.fld (gD (gL p 14) (gN p 3)) 4)) (Int.toNat (gI p 8)) (D.l (List.set (D.els (gD (D.els (D.fld (gD (gL p 14) (gN p 3)) 4)) (Int.toNat (gI p 8)))) (Int.toNat (gI p 6)) (D.l (setPad (D.els (gD (D.els (gD (D.els (D.fld (gD (gL p 14) (gN p 3)) 4)) (Int.toNat (gI p 8)))) (Int.toNat (gI p 6)))) 5 (.l (D.els r0))))))))))) (gN p 3)) 4)) (Int.toNat (gI p 8)))) (Int.toNat (gI p 6)))) 1 (.i 0)))))))))) (gN p 3))) 4 (.l (List.set (D.els (D.fld (gD (List.set (List.set (gL p 14) (gN p 3) (D.l (setPad (D.els (gD (gL p 14) (gN p 3))) 4 (.l (List.set (D.els (D.fld (gD (gL p 14) (gN p 3)) 4)) (Int.toNat (gI p 8)) (D.l (List.set (D.els (gD (D.els (D.fld (gD (gL p 14) (gN p 3)) 4)) (Int.toNat (gI p 8)))) (Int.toNat (gI p 6)) (D.l (setPad (D.els (gD (D.els (gD (D.els (D.fld (gD (gL p 14) (gN p 3)) 4)) (Int.toNat (gI p 8)))) (Int.toNat (gI p 6)))) 5 (.l (D.els r0))))))))))) (gN p 3) (D.l (setPad (D.els (gD (List.set (gL p 14) (gN p 3) (D.l (setPad (D.els (gD (gL p 14) (gN p 3))) 4 (.l (List.set (D.els (D.fld (gD (gL p 14) (gN p 3)) 4)) (Int.toNat (gI p 8)) (D.l (List.set (D.els (gD (D.els (D.fld (gD (gL p 14) (gN p 3)) 4)) (Int.toNat (gI p 8)))) (Int.toNat (gI p 6)) (D.l (setPad (D.els (gD (D.els (gD (D.els (D.fld (gD (gL p 14) (gN p 3)) 4)) (Int.toNat (gI p 8)))) (Int.toNat (gI p 6)))) 5 (.l (D.els r0))))))))))) (gN p 3))) 4 (.l (List.set (D.els (D.fld (gD (List.set (gL p 14) (gN p 3) (D.l (setPad (D.els (gD (gL p 14) (gN p 3))) 4 (.l (List.set (D.els (D.fld (gD (gL p 14) (gN p 3)) 4)) (Int.toNat (gI p 8)) (D.l (List.set (D.els (gD (D.els (D.fld (gD (gL p 14) (gN p 3)) 4)) (Int.toNat (gI p 8)))) (Int.toNat (gI p 6)) (D.l (setPad (D.els (gD (D.els (gD (D.els (D.fld (gD (gL p 14) (gN p 3)) 4)) (Int.toNat (gI p 8)))) (Int.toNat (gI p 6)))) 5 (.l (D.els r0))))))))))) (gN p 3)) 4)) (Int.toNat (gI p 8)) (D.l (List.set (D.els (gD (D.els (D.fld (gD (List.set (gL p 14) (gN p 3) (D.l (setPad (D.els (gD (gL p 14) (gN p 3))) 4 (.l (List.set (D.els (D.fld (gD (gL p 14) (gN p 3)) 4)) (Int.toNat (gI p 8)) (D.l (List.set (D.els (gD (D.els (D.fld (gD (gL p 14) (gN p 3)) 4)) (Int.toNat (gI p 8)))) (Int.toNat (gI p 6)) (D.l (setPad (D.els (gD (D.els (gD (D.els (D.fld (gD (gL p 14) (gN p 3)) 4)) (Int.toNat (gI p 8)))) (Int.toNat (gI p 6)))) 5 (.l (D.els r0))))))))))) (gN p 3)) 4)) (Int.toNat (gI p 8)))) (Int.toNat (gI p 6)) (D.l (setPad (D.els (gD (D.els (gD (D.els (D.fld (gD (List.set (gL p 14) (gN p 3) (D.l (setPad (D.els (gD (gL p 14) (gN p 3))) 4 (.l (List.set (D.els (D.fld (gD (gL p 14) (gN p 3)) 4)) (Int.toNat (gI p 8)) (D.l (List.set (D.els (gD (D.els (D.fld (gD (gL p 14) (gN p 3)) 4)) (Int.toNat (gI p 8)))) (Int.toNat (gI p 6)) (D.l (setPad (D.els (gD (D.els (gD (D.els (D.fld (gD (gL p 14) (gN p 3)) 4)) (Int.toNat (gI p 8)))) (Int.toNat (gI p 6)))) 5 (.l (D.els r0))))))))))) (gN p 3)) 4)) (Int.toNat (gI p 8)))) (Int.toNat (gI p 6)))) 1 (.i 0)))))))))) (gN p 3)) 4)) (Int.toNat (gI p 8)) (D.l (List.set (D.els (gD (D.els (D.fld (gD (List.set (List.set (gL p 14) (gN p 3) (D.l (setPad (D.els (gD (gL p 14) (gN p 3))) 4 (.l (List.set (D.els (D.fld (gD (gL p 14) (gN p 3)) 4)) (Int.toNat (gI p 8)) (D.l (List.set (D.els (gD (D.els (D.fld (gD (gL p 14) (gN p 3)) 4)) (Int.toNat (gI p 8)))) (Int.toNat (gI p 6)) (D.l (setPad (D.els (gD (D.els (gD (D.els (D.fld (gD (gL p 14) (gN p 3)) 4)) (Int.toNat (gI p 8)))) (Int.toNat (gI p 6)))) 5 (.l (D.els r0))))))))))) (gN p 3) (D.l (setPad (D.els (gD (List.set (gL p 14) (gN p 3) (D.l (setPad (D.els (gD (gL p 14) (gN p 3))) 4 (.l (List.set (D.els (D.fld (gD (gL p 14) (gN p 3)) 4)) (Int.toNat (gI p 8)) (D.l (List.set (D.els (gD (D.els (D.fld (gD (gL p 14) (gN p 3)) 4)) (Int.toNat (gI p 8)))) (Int.toNat (gI p 6)) (D.l (setPad (D.els (gD (D.els (gD (D.els (D.fld (gD (gL p 14) (gN p 3)) 4)) (Int.toNat (gI p 8)))) (Int.toNat (gI p 6)))) 5 (.l (D.els r0))))))))))) (gN p 3))) 4 (.l (List.set (D.els (D.fld (gD (List.set (gL p 14) (gN p 3) (D.l (setPad (D.els (gD (gL p 14) (gN p 3))) 4 (.l (List.set (D.els (D.fld (gD (gL p 14) (gN p 3)) 4)) (Int.toNat (gI p 8)) (D.l (List.set (D.els (gD (D.els (D.fld (gD (gL p 14) (gN p 3)) 4)) (Int.toNat (gI p 8)))) (Int.toNat (gI p 6)) (D.l (setPad (D.els (gD (D.els (gD (D.els (D.fld (gD (gL p 14) (gN p 3)) 4)) (Int.toNat (gI p 8)))) (Int.toNat (gI p 6)))) 5 (.l (D.els r0))))))))))) (gN p 3)) 4)) (Int.toNat (gI p 8)) (D.l (List.set (D.els (gD (D.els (D.fld (gD (List.set (gL p 14) (gN p 3) (D.l (setPad (D.els (gD (gL p 14) (gN p 3))) 4 (.l (List.set (D.els (D.fld (gD (gL p 14) (gN p 3)) 4)) (Int.toNat (gI p 8)) (D.l (List.set (D.els (gD (D.els (D.fld (gD (gL p 14) (gN p 3)) 4)) (Int.toNat (gI p 8)))) (Int.toNat (gI p 6)) (D.l (setPad (D.els (gD (D.els (gD (D.els (D.fld (gD (gL p 14) (gN p 3)) 4)) (Int.toNat (gI p 8)))) (Int.toNat (gI p 6)))) 5 (.l (D.els r0))))))))))) (gN p 3)) 4)) (Int.toNat (gI p 8)))) (Int.toNat (gI p 6)) (D.l (setPad (D.els (gD (D.els (gD (D.els (D.fld (gD (List.set (gL p 14) (gN p 3) (D.l (setPad (D.els (gD (gL p 14) (gN p 3))) 4 (.l (List.set (D.els (D.fld (gD (gL p 14) (gN p 3)) 4)) (Int.toNat (gI p 8)) (D.l (List.set (D.els (gD (D.els (D.fld (gD (gL p 14) (gN p 3)) 4)) (Int.toNat (gI p 8)))) (Int.toNat (gI p 6)) (D.l (setPad (D.els (gD (D.els (gD (D.els (D.fld (gD (gL p 14) (gN p 3)) 4)) (Int.toNat (gI p 8)))) (Int.toNat (gI p 6)))) 5 (.l (D.els r0))))))))))) (gN p 3)) 4)) (Int.toNat (gI p 8)))) (Int.toNat (gI p 6)))) 1 (.i 0)))))))))) (gN p 3)) 4)) (Int.toNat (gI p 8)))) (Int.toNat (gI p 6)) (D.l (setPad (D.els (gD (D.els (gD (D.els (D.fld (gD (List.set (List.set (gL p 14) (gN p 3) (D.l (setPad (D.els (gD (gL p 14) (gN p 3))) 4 (.l (List.set (D.els (D.fld (gD (gL p 14) (gN p 3)) 4)) (Int.toNat (gI p 8)) (D.l (List.set (D.els (gD (D.els (D.fld (gD (gL p 14) (gN p 3)) 4)) (Int.toNat (gI p 8)))) (Int.toNat (gI p 6)) (D.l (setPad (D.els (gD (D.els (gD (D.els (D.fld (gD (gL p 14) (gN p 3)) 4)) (Int.toNat (gI p 8)))) (Int.toNat (gI p 6)))) 5 (.l (D.els r0))))))))))) (gN p 3) (D.l (setPad (D.els (gD (List.set (gL p 14) (gN p 3) (D.l (setPad (D.els (gD (gL p 14) (gN p 3))) 4 (.l (List.set (D.els (D.fld (gD (gL p 14) (gN p 3)) 4)) (Int.toNat (gI p 8)) (D.l (List.set (D.els (gD (D.els (D.fld (gD (gL p 14) (gN p 3)) 4)) (Int.toNat (gI p 8)))) (Int.toNat (gI p 6)) (D.l (setPad (D.els (gD (D.els (gD (D.els (D.fld (gD (gL p 14) (gN p 3)) 4)) (Int.toNat (gI p 8)))) (Int.toNat (gI p 6)))) 5 (.l (D.els r0))))))))))) (gN p 3))) 4 (.l (List.set (D.els (D.fld (gD (List.set (gL p 14) (gN p 3) (D.l (setPad (D.els (gD (gL p 14) (gN p 3))) 4 (.l (List.set (D.els (D.fld (gD (gL p 14) (gN p 3)) 4)) (Int.toNat (gI p 8)) (D.l (List.set (D.els (gD (D.els (D.fld (gD (gL p 14) (gN p 3)) 4)) (Int.toNat (gI p 8)))) (Int.toNat (gI p 6)) (D.l (setPad (D.els (gD (D.els (gD (D.els (D.fld (gD (gL p 14) (gN p 3)) 4)) (Int.toNat (gI p 8)))) (Int.toNat (gI p 6)))) 5 (.l (D.els r0))))))))))) (gN p 3)) 4)) (Int.toNat (gI p 8)) (D.l (List.set (D.els (gD (D.els (D.fld (gD (List.set (gL p 14) (gN p 3) (D.l (setPad (D.els (gD (gL p 14) (gN p 3))) 4 (.l (List.set (D.els (D.fld (gD (gL p 14) (gN p 3)) 4)) (Int.toNat (gI p 8)) (D.l (List.set (D.els (gD (D.els (D.fld (gD (gL p 14) (gN p 3)) 4)) (Int.toNat (gI p 8)))) (Int.toNat (gI p 6)) (D.l (setPad (D.els (gD (D.els (gD (D.els (D.fld (gD (gL p 14) (gN p 3)) 4)) (Int.toNat (gI p 8)))) (Int.toNat (gI p 6)))) 5 (.l (D.els r0))))))))))) (gN p 3)) 4)) (Int.toNat (gI p 8)))) (Int.toNat (gI p 6)) (D.l (setPad (D.els (gD (D.els (gD (D.els (D.fld (gD (List.set (gL p 14) (gN p 3) (D.l (setPad (D.els (gD (gL p 14) (gN p 3))) 4 (.l (List.set (D.els (D.fld (gD (gL p 14) (gN p 3)) 4)) (Int.toNat (gI p 8)) (D.l (List.set (D.els (gD (D.els (D.fld (gD (gL p 14) (gN p 3)) 4)) (Int.toNat (gI p 8)))) (Int.toNat (gI p 6)) (D.l (setPad (D.els (gD (D.els (gD (D.els (D.fld (gD (gL p 14) (gN p 3)) 4)) (Int.toNat (gI p 8)))) (Int.toNat (gI p 6)))) 5 (.l (D.els r0))))))))))) (gN p 3)) 4)) (Int.toNat (gI p 8)))) (Int.toNat (gI p 6)))) 1 (.i 0)))))))))) (gN p 3)) 4)) (Int.toNat (gI p 8)))) (Int.toNat (gI p 6)))) 2 (.i 0)))))))))) (gN p 3)) 4)) (Int.toNat (gI p 8)))) (Int.toNat (gI p 6))) 0)) 29) && true)) || (within (gI p 4) (List.length (gL p 10))))
 (.ask ((eqI (D.toI (D.fld (gD (D.els (gD (D.els (D.fld (gD (List.set (List.set (List.set (gL p 14) (gN p 3) (D.l (setPad (D.els (gD (gL p 14) (gN p 3))) 4 (.l (List.set (D.els (D.fld (gD (gL p 14) (gN p 3)) 4)) (Int.toNat (gI p 8)) (D.l (List.set (D.els (gD (D.els (D.fld (gD (gL p 14) (gN p 3)) 4)) (Int.toNat (gI p 8)))) (Int.toNat (gI p 6)) (D.l (setPad (D.els (gD (D.els (gD (D.els (D.fld (gD (gL p 14) (gN p 3)) 4)) (Int.toNat (gI p 8)))) (Int.toNat (gI p 6)))) 5 (.l (D.els r0))))))))))) (gN p 3) (D.l (setPad (D.els (gD (List.set (gL p 14) (gN p 3) (D.l (setPad (D.els (gD (gL p 14) (gN p 3))) 4 (.l (List.set (D.els (D.fld (gD (gL p 14) (gN p 3)) 4)) (Int.toNat (gI p 8)) (D.l (List.set (D.els (gD (D.els (D.fld (gD (gL p 14) (gN p 3)) 4)) (Int.toNat (gI p 8)))) (Int.toNat (gI p 6)) (D.l (setPad (D.els (gD (D.els (gD (D.els (D.fld (gD (gL p 14) (gN p 3)) 4)) (Int.toNat (gI p 8)))) (Int.toNat (gI p 6)))) 5 (.l (D.els r0))))))))))) (gN p 3))) 4 (.l (List.set (D.els (D.fld (gD (List.set (gL p 14) (gN p 3) (D.l (setPad (D.els (gD (gL p 14) (gN p 3))) 4 (.l (List.set (D.els (D.fld (gD (gL p 14) (gN p 3)) 4)) (Int.toNat (gI p 8)) (D.l (List.set (D.els (gD (D.els (D.fld (gD (gL p 14) (gN p 3)) 4)) (Int.toNat (gI p 8)))) (Int.toNat (gI p 6)) (D.l (setPad (D.els (gD (D.els (gD (D.els (D.fld (gD (gL p 14) (gN p 3)) 4)) (Int.toNat (gI p 8)))) (Int.toNat (gI p 6)))) 5 (.l (D.els r0))))))))))) (gN p 3)) 4)) (Int.toNat (gI p 8)) (D.l (List.set (D.els (gD (D.els (D.fld (gD (List.set (gL p 14) (gN p 3) (D.l (setPad (D.els (gD (gL p 14) (gN p 3))) 4 (.l (List.set (D.els (D.fld (gD (gL p 14) (gN p 3)) 4)) (Int.toNat (gI p 8)) (D.l (List.set (D.els (gD (D.els (D.fld (gD (gL p 14) (gN p 3)) 4)) (Int.toNat (gI p 8)))) (Int.toNat (gI p 6)) (D.l (setPad (D.els (gD (D.els (gD (D.els (D.fld (gD (gL p 14) (gN p 3)) 4)) (Int.toNat (gI p 8)))) (Int.toNat (gI p 6)))) 5 (.l (D.els r0))))))))))) (gN p 3)) 4)) (Int.toNat (gI p 8)))) (Int.toNat (gI p 6)) (D.l (setPad (D.els (gD (D.els (gD (D.els (D.fld (gD (List.set (gL p 14) (gN p 3) (D.l (setPad (D.els (gD (gL p 14) (gN p 3))) 4 (.l (List.set (D.els (D.fld (gD (gL p 14) (gN p 3)) 4)) (Int.toNat (gI p 8)) (D.l (List.set (D.els (gD (D.els (D.fld (gD (gL p 14) (gN p 3)) 4)) (Int.toNat (gI p 8)))) (Int.toNat (gI p 6)) (D.l (setPad (D.els (gD (D.els (gD (D.els (D.fld (gD (gL p 14) (gN p 3)) 4)) (Int.toNat (gI p 8)))) (Int.toNat (gI p 6)))) 5 (.l (D.els r0))))))))))) (gN p 3)) 4)) (Int.toNat (gI p 8)))) (Int.toNat (gI p 6)))) 1 (.i 0)))))))))) (gN p 3) (D.l (setPad (D.els (gD (List.set (List.set (gL p 14) (gN p 3) (D.l (setPad (D.els (gD (gL p 14) (gN p 3))) 4 (.l (List.set (D.els (D.fld (gD (gL p 14) (gN p 3)) 4)) (Int.toNat (gI p 8)) (D.l (List.set (D.els (gD (D.els (D.fld (gD (gL p 14) (gN p 3)) 4)) (Int.toNat (gI p 8)))) (Int.toNat (gI p 6)) (D.l (setPad (D.els (gD (D.els (gD (D.els (D.fld (gD (gL p 14) (gN p 3)) 4)) (Int.toNat (gI p 8)))) (Int.toNat (gI p 6)))) 5 (.l (D.els r0))))))))))) (gN p 3) (D.l (setPad (D.els (gD (List.set (gL p 14) (gN p 3) (D.l (setPad (D.els (gD (gL p 14) (gN p 3))) 4 (.l (List.set (D.els (D.fld (gD (gL p 14) (gN p 3)) 4)) (Int.toNat (gI p 8)) (D.l (List.set (D.els (gD (D.els (D.fld (gD (gL p 14) (gN p 3)) 4)) (Int.toNat (gI p 8)))) (Int.toNat (gI p 6)) (D.l (setPad (D.els (gD (D.els (gD (D.els (D.fld (gD (gL p 14) (gN p 3)) 4)) (Int.toNat (gI p 8)))) (Int.toNat (gI p 6)))) 5 (.l (D.els r0))))))))))) (gN p 3))) 4 (.l (List.set (D.els (D.fld (gD (List.set (gL p 14) (gN p 3) (D.l (setPad (D.els (gD (gL p 14) (gN p 3))) 4 (.l (List.set (D.els (D.fld (gD (gL p 14) (gN p 3)) 4)) (Int.toNat (gI p 8)) (D.l (List.set (D.els (gD (D.els (D.fld (gD (gL p 14) (gN p 3)) 4)) (Int.toNat (gI p 8)))) (Int.toNat (gI p 6)) (D.l (setPad (D.els (gD (D.els (gD (D.els (D.fld (gD (gL p 14) (gN p 3)) 4)) (Int.toNat (gI p 8)))) (Int.toNat (gI p 6)))) 5 (.l (D.els r0))))))))))) (gN p 3)) 4)) (Int.toNat (gI p 8)) (D.l (List.set (D.els (gD (D.els (D.fld (gD (List.set (gL p 14) (gN p 3) (D.l (setPad (D.els (gD (gL p 14) (gN p 3))) 4 (.l (List.set (D.els (D.fld (gD (gL p 14) (gN p 3)) 4)) (Int.toNat (gI p 8)) (D.l (List.set (D.els (gD (D.els (D.fld (gD (gL p 14) (gN p 3)) 4)) (Int.toNat (gI p 8)))) (Int.toNat (gI p 6)) (D.l (setPad (D.els (gD (D.els (gD (D.els (D.fld (gD (gL p 14) (gN p 3)) 4)) (Int.toNat (gI p 8)))) (Int.toNat (gI p 6)))) 5 (.l (D.els r0))))))))))) (gN p 3)) 4)) (Int.toNat (gI p 8)))) (Int.toNat (gI p 6)) (D.l (setPad (D.els (gD (D.els (gD (D.els (D.fld (gD (List.set (gL p 14) (gN p 3) (D.l (setPad (D.els (gD (gL p 14) (gN p 3))) 4 (.l (List.set (D.els (D.fld (gD (gL p 14) (gN p 3)) 4)) (Int.toNat (gI p 8)) (D.l (List.set (D.els (gD (D.els (D.fld (gD (gL p 14) (gN p 3)) 4)) (Int.toNat (gI p 8)))) (Int.toNat (gI p 6)) (D.l (setPad (D.els (gD (D.els (gD (D.els (D.fld (gD (gL p 14) (gN p 3)) 4)) (Int.toNat (gI p 8)))) (Int.toNat (gI p 6)))) 5 (.l (D.els r0))))))))))) (gN p 3)) 4)) (Int.toNat (gI p 8)))) (Int.toNat (gI p 6)))) 1 (.i 0)))))))))) (gN p 3))) 4 (.l (List.set (D.els (D.fld (gD (List.set (List.set (gL p 14) (gN p 3) (D.l (setPad (D.els (gD (gL p 14) (gN p 3))) 4 (.l (List.set (D.els (D.fld (gD (gL p 14) (gN p 3)) 4)) (Int.toNat (gI p 8)) (D.l (List.set (D.els (gD (D.els (D.fld (gD (gL p 14) (gN p 3)) 4)) (Int.toNat (gI p 8)))) (Int.toNat (gI p 6)) (D.l (setPad (D.els (gD (D.els (gD (D.els (D.fld (gD (gL p 14) (gN p 3)) 4)) (Int.toNat (gI p 8)))) (Int.toNat (gI p 6)))) 5 (.l (D.els r0))))))))))) (gN p 3) (D.l (setPad (D.els (gD (List.set (gL p 14) (gN p 3) (D.l (setPad (D.els (gD (gL p 14) (gN p 3))) 4 (.l (List.set (D.els (D.fld (gD (gL p 14) (gN p 3)) 4)) (Int.toNat (gI p 8)) (D.l (List.set (D.els (gD (D.els (D.fld (gD (gL p 14) (gN p 3)) 4)) (Int.toNat (gI p 8)))) (Int.toNat (gI p 6)) (D.l (setPad (D.els (gD (D.els (gD (D.els (D.fld (gD (gL p 14) (gN p 3)) 4)) (Int.toNat (gI p 8)))) (Int.toNat (gI p 6)))) 5 (.l (D.els r0))))))))))) (gN p 3))) 4 (.l (List.set (D.els (D.fld (gD (List.set (gL p 14) (gN p 3) (D.l (setPad (D.els (gD (gL p 14) (gN p 3))) 4 (.l (List.set (D.els (D.fld (gD (gL p 14) (gN p 3)) 4)) (Int.toNat (gI p 8)) (D.l (List.set (D.els (gD (D.els (D.fld (gD (gL p 14) (gN p 3)) 4)) (Int.toNat (gI p 8)))) (Int.toNat (gI p 6)) (D.l (setPad (D.els (gD (D.els (gD (D.els (D.fld (gD (gL p 14) (gN p 3)) 4)) (Int.toNat (gI p 8)))) (Int.toNat (gI p 6)))) 5 (.l (D.els r0))))))))))) (gN p 3)) 4)) (Int.toNat (gI p 8)) (D.l (List.set (D.els (gD (D.els (D.fld (gD (List.set (gL p 14) (gN p 3) (D.l (setPad (D.els (gD (gL p 14) (gN p 3))) 4 (.l (List.set (D.els (D.fld (gD (gL p 14) (gN p 3)) 4)) (Int.toNat (gI p 8)) (D.l (List.set (D.els (gD (D.els (D.fld (gD (gL p 14) (gN p 3)) 4)) (Int.toNat (gI p 8)))) (Int.toNat (gI p 6)) (D.l (setPad (D.els (gD (D.els (gD (D.els (D.fld (gD (gL p 14) (gN p 3)) 4)) (Int.toNat (gI p 8)))) (Int.toNat (gI p 6)))) 5 (.l (D.els r0))))))))))) (gN p 3)) 4)) (Int.toNat (gI p 8)))) (Int.toNat (gI p 6)) (D.l (setPad (D.els (gD (D.els (gD (D.els (D.fld (gD (List.set (gL p 14) (gN p 3) (D.l (setPad (D.els (gD (gL p 14) (gN p 3))) 4 (.l (List.set (D.els (D.fld (gD (gL p 14) (gN p 3)) 4)) (Int.toNat (gI p 8)) (D.l (List.set (D.els (gD (D.els (D.fld (gD (gL p 14) (gN p 3)) 4)) (Int.toNat (gI p 8)))) (Int.toNat (gI p 6)) (D.l (setPad (D.els (gD (D.els (gD (D.els (D.fld (gD (gL p 14) (gN p 3)) 4)) (Int.toNat (gI p 8)))) (Int.toNat (gI p 6)))) 5 (.l (D.els r0))))))))))) (gN p 3)) 4)) (Int.toNat (gI p 8)))) (Int.toNat (gI p 6)))) 1 (.i 0)))))))))) (gN p 3)) 4)) (Int.toNat (gI p 8)) (D.l (List.set (D.els (gD (D.els (D.fld (gD (List.set (List.set (gL p 14) (gN p 3) (D.l (setPad (D.els (gD (gL p 14) (gN p 3))) 4 (.l (List.set (D.els (D.fld (gD (gL p 14) (gN p 3)) 4)) (Int.toNat (gI p 8)) (D.l (List.set (D.els (gD (D.els (D.fld (gD (gL p 14) (gN p 3)) 4)) (Int.toNat (gI p 8)))) (Int.toNat (gI p 6)) (D.l (setPad (D.els (gD (D.els (gD (D.els (D.fld (gD (gL p 14) (gN p 3)) 4)) (Int.toNat (gI p 8)))) (Int.toNat (gI p 6)))) 5 (.l (D.els r0))))))))))) (gN p 3) (D.l (setPad (D.els (gD (List.set (gL p 14) (gN p 3) (D.l (setPad (D.els (gD (gL p 14) (gN p 3))) 4 (.l (List.set (D.els (D.fld (gD (gL p 14) (gN p 3)) 4)) (Int.toNat (gI p 8)) (D.l (List.set (D.els (gD (D.els (D.fld (gD (gL p 14) (gN p 3)) 4)) (Int.toNat (gI p 8)))) (Int.toNat (gI p 6)) (D.l (setPad (D.els (gD (D.els (gD (D.els (D.fld (gD (gL p 14) (gN p 3)) 4)) (Int.toNat (gI p 8)))) (Int.toNat (gI p 6)))) 5 (.l (D.els r0))))))))))) (gN p 3))) 4 (.l (List.set (D.els (D.fld (gD (List.set (gL p 14) (gN p 3) (D.l (setPad (D.els (gD (gL p 14) (gN p 3))) 4 (.l (List.set (D.els (D.fld (gD (gL p 14) (gN p 3)) 4)) (Int.toNat (gI p 8)) (D.l (List.set (D.els (gD (D.els (D.fld (gD (gL p 14) (gN p 3)) 4)) (Int.toNat (gI p 8)))) (Int.toNat (gI p 6)) (D.l (setPad (D.els (gD (D.els (gD (D.els (D.fld (gD (gL p 14) (gN p 3)) 4)) (Int.toNat (gI p 8)))) (Int.toNat (gI p 6)))) 5 (.l (D.els r0))))))))))) (gN p 3)) 4)) (Int.toNat (gI p 8)) (D.l (List.set (D.els (gD (D.els (D.fld (gD (List.set (gL p 14) (gN p 3) (D.l (setPad (D.els (gD (gL p 14) (gN p 3))) 4 (.l (List.set (D.els (D.fld (gD (gL p 14) (gN p 3)) 4)) (Int.toNat (gI p 8)) (D.l (List.set (D.els (gD (D.els (D.fld (gD (gL p 14) (gN p 3)) 4)) (Int.toNat (gI p 8)))) (Int.toNat (gI p 6)) (D.l (setPad (D.els (gD (D.els (gD (D.els (D.fld (gD (gL p 14) (gN p 3)) 4)) (Int.toNat (gI p 8)))) (Int.toNat (gI p 6)))) 5 (.l (D.els r0))))))))))) (gN p 3)) 4)) (Int.toNat (gI p 8)))) (Int.toNat (gI p 6)) (D.l (setPad (D.els (gD (D.els (gD (D.els (D.fld (gD (List.set (gL p 14) (gN p 3) (D.l (setPad (D.els (gD (gL p 14) (gN p 3))) 4 (.l (List.set (D.els (D.fld (gD (gL p 14) (gN p 3)) 4)) (Int.toNat (gI p 8)) (D.l (List.set (D.els (gD (D.els (D.fld (gD (gL p 14) (gN p 3)) 4)) (Int.toNat (gI p 8)))) (Int.toNat (gI p 6)) (D.l (setPad (D.els (gD (D.els (gD (D.els (D.fld (gD (gL p 14) (gN p 3)) 4)) (Int.toNat (gI p 8)))) (Int.toNat (gI p 6)))) 5 (.l (D.els r0))))))))))) (gN p 3)) 4)) (Int.toNat (gI p 8)))) (Int.toNat (gI p 6)))) 1 (.i 0)))))))))) (gN p 3)) 4)) (Int.toNat (gI p 8)))) (Int.toNat (gI p 6)) (D.l (setPad (D.els (gD (D.els (gD (D.els (D.fld (gD (List.set (List.set (gL p 14) (gN p 3) (D.l (setPad (D.els (gD (gL p 14) (gN p 3))) 4 (.l (List.set (D.els (D.fld (gD (gL p 14) (gN p 3)) 4)) (Int.toNat (gI p 8)) (D.l (List.set (D.els (gD (D.els (D.fld (gD (gL p 14) (gN p 3)) 4)) (Int.toNat (gI p 8)))) (Int.toNat (gI p 6)) (D.l (setPad (D.els (gD (D.els (gD (D.els (D.fld (gD (gL p 14) (gN p 3)) 4)) (Int.toNat (gI p 8)))) (Int.toNat (gI p 6)))) 5 (.l (D.els r0))))))))))) (gN p 3) (D.l (setPad (D.els (gD (List.set (gL p 14) (gN p 3) (D.l (setPad (D.els (gD (gL p 14) (gN p 3))) 4 (.l (List.set (D.els (D.fld (gD (gL p 14) (gN p 3)) 4)) (Int.toNat (gI p 8)) (D.l (List.set (D.els (gD (D.els (D.fld (gD (gL p 14) (gN p 3)) 4)) (Int.toNat (gI p 8)))) (Int.toNat (gI p 6)) (D.l (setPad (D.els (gD (D.els (gD (D.els (D.fld (gD (gL p 14) (gN p 3)) 4)) (Int.toNat (gI p 8)))) (Int.toNat (gI p 6)))) 5 (.l (D.els r0))))))))))) (gN p 3))) 4 (.l (List.set (D.els (D.fld (gD (List.set (gL p 14) (gN p 3) (D.l (setPad (D.els (gD (gL p 14) (gN p 3))) 4 (.l (List.set (D.els (D.fld (gD (gL p 14) (gN p 3)) 4)) (Int.toNat (gI p 8)) (D.l (List.set (D.els (gD (D.els (D.fld (gD (gL p 14) (gN p 3)) 4)) (Int.toNat (gI p 8)))) (Int.toNat (gI p 6)) (D.l (setPad (D.els (gD (D.els (gD (D.els (D.fld (gD (gL p 14) (gN p 3)) 4)) (Int.toNat (gI p 8)))) (Int.toNat (gI p 6)))) 5 (.l (D.els r0))))))))))) (gN p 3)) 4)) (Int.toNat (gI p 8)) (D.l (List.set (D.els (gD (D.els (D.fld (gD (List.set (gL p 14) (gN p 3) (D.l (setPad (D.els (gD (gL p 14) (gN p 3))) 4 (.l (List.set (D.els (D.fld (gD (gL p 14) (gN p 3)) 4)) (Int.toNat (gI p 8)) (D.l (List.set (D.els (gD (D.els (D.fld (gD (gL p 14) (gN p 3)) 4)) (Int.toNat (gI p 8)))) (Int.toNat (gI p 6)) (D.l (setPad (D.els (gD (D.els (gD (D.els (D.fld (gD (gL p 14) (gN p 3)) 4)) (Int.toNat (gI p 8)))) (Int.toNat (gI p 6)))) 5 (.l (D.els r0))))))))))) (gN p 3)) 4)) (Int.toNat (gI p 8)))) (Int.toNat (gI p 6)) (D.l (setPad (D.els (gD (D.els (gD (D.els (D.fld (gD (List.set (gL p 14) (gN p 3) (D.l (setPad (D.els (gD (gL p 14) (gN p 3))) 4 (.l (List.set (D.els (D.fld (gD (gL p 14) (gN p 3)) 4)) (Int.toNat (gI p 8)) (D.l (List.set (D.els (gD (D.els (D.fld (gD (gL p 14) (gN p 3)) 4)) (Int.toNat (gI p 8)))) (Int.toNat (gI p 6)) (D.l (setPad (D.els (gD (D.els (gD (D.els (D.fld (gD (gL p 14) (gN p 3)) 4)) (Int.toNat (gI p 8)))) (Int.toNat (gI p 6)))) 5 (.l (D.els r0))))))))))) (gN p 3)) 4)) (Int.toNat (gI p 8)))) (Int.toNat (gI p 6)))) 1 (.i 0)))))))))) (gN p 3)) 4)) (Int.toNat (gI p 8)))) (Int.toNat (gI p 6)))) 2 (.i 0)))))))))) (gN p 3)) 4)) (Int.toNat (gI p 8)))) (Int.toNat (gI p 6))) 0)) 29) && (D.toB (gD (gL p 10) (Int.toNat (gI p 4)))))
 (.again (let z0 := List.set (gL p 14) (gN p 3) (D.l (setPad (D.els (gD (gL p 14) (gN p 3))) 4 (D.l (List.set (D.els (D.fld (gD (gL p 14) (gN p 3)) 4)) (Int.toNat (gI p 8)) (D.l (List.set (D.els (gD (D.els (D.fld (gD (gL p 14) (gN p 3)) 4)) (Int.toNat (gI p 8)))) (Int.toNat (gI p 6)) (D.l (setPad (D.els (gD (D.els (gD (D.els (D.fld (gD (gL p 14) (gN p 3)) 4)) (Int.toNat (gI p 8)))) (Int.toNat (gI p 6)))) 5 (D.l (D.els r0)))))))))); let z1 := gD z0 (gN p 3); let z2 := D.els (D.fld z1 4); let z3 := D.els (gD z2 (Int.toNat (gI p 8))); let z4 := List.set z0 (gN p 3) (D.l (setPad (D.els z1) 4 (D.l (List.set z2 (Int.toNat (gI p 8)) (D.l (List.set z3 (Int.toNat (gI p 6)) (D.l (setPad (D.els (gD z3 (Int.toNat (gI p 6)))) 1 (D.i 0))))))))); let z5 := gD z4 (gN p 3); let z6 := D.els (D.fld z5 4); let z7 := D.els (gD z6 (Int.toNat (gI p 8))); let z8 := List.set z4 (gN p 3) (D.l (setPad (D.els z5) 4 (D.l (List.set z6 (Int.toNat (gI p 8)) (D.l (List.set z7 (Int.toNat (gI p 6)) (D.l (setPad (D.els (gD z7 (Int.toNat (gI p 6)))) 2 (D.i 0))))))))); let z9 := gD z8 (gN p 3); let z10 := D.els (D.fld z9 4); let z11 := D.els (gD z10 (Int.toNat (gI p 8))); [.i (gI p 0), .i (gI p 1), .i (gI p 2), .i (Int.ofNat (gN p 3)), .i (gI p 4), .i (gI p 5), .i (wrapA .i64 ((gI p 6) + 1)), .i (gI p 7), .i (gI p 8), .l (gL p 9), .l (gL p 10), .l (gL p 11), .l (gL p 12), .l (gL p 13), .l (List.set z8 (gN p 3) (D.l (setPad (D.els z9) 4 (D.l (List.set z10 (Int.toNat (gI p 8)) (D.l (List.set z11 (Int.toNat (gI p 6)) (D.l (setPad (D.els (gD z11 (Int.toNat (gI p 6)))) 5 (D.l []))))))))))]))
 (.again (let z0 := List.set (gL p 14) (gN p 3) (D.l (setPad (D.els (gD (gL p 14) (gN p 3))) 4 (D.l (List.set (D.els (D.fld (gD (gL p 14) (gN p 3)) 4)) (Int.toNat (gI p 8)) (D.l (List.set (D.els (gD (D.els (D.fld (gD (gL p 14) (gN p 3)) 4)) (Int.toNat (gI p 8)))) (Int.toNat (gI p 6)) (D.l (setPad (D.els (gD (D.els (gD (D.els (D.fld (gD (gL p 14) (gN p 3)) 4)) (Int.toNat (gI p 8)))) (Int.toNat (gI p 6)))) 5 (D.l (D.els r0)))))))))); let z1 := gD z0 (gN p 3); let z2 := D.els (D.fld z1 4); let z3 := D.els (gD z2 (Int.toNat (gI p 8))); let z4 := List.set z0 (gN p 3) (D.l (setPad (D.els z1) 4 (D.l (List.set z2 (Int.toNat (gI p 8)) (D.l (List.set z3 (Int.toNat (gI p 6)) (D.l (setPad (D.els (gD z3 (Int.toNat (gI p 6)))) 1 (D.i 0))))))))); let z5 := gD z4 (gN p 3); let z6 := D.els (D.fld z5 4); let z7 := D.els (gD z6 (Int.toNat (gI p 8))); [.i (gI p 0), .i (gI p 1), .i (gI p 2), .i (Int.ofNat (gN p 3)), .i (gI p 4), .i (gI p 5), .i (wrapA .i64 ((gI p 6) + 1)), .i (gI p 7), .i (gI p 8), .l (gL p 9), .l (gL p 10), .l (gL p 11), .l (gL p 12), .l (gL p 13), .l (List.set z4 (gN p 3) (D.l (setPad (D.els z5) 4 (D.l (List.set z6 (Int.toNat (gI p 8)) (D.l (List.set z7 (Int.toNat (gI p 6)) (D.l (setPad (D.els (gD z7 (Int.toNat (gI p 6)))) 2 (D.i 0))))))))))])))
 (.bad))
 (.ask ((!((eqI (D.toI (D.fld (gD (D.els (gD (D.els (D.fld (gD (List.set (gL p 14) (gN p 3) (D.l (setPad (D.els (gD (gL p 14) (gN p 3))) 4 (.l (List.set (D.els (D.fld (gD (gL p 14) (gN p 3)) 4)) (Int.toNat (gI p 8)) (D.l (List.set (D.els (gD (D.els (D.fld (gD (gL p 14) (gN p 3)) 4)) (Int.toNat (gI p 8)))) (Int.toNat (gI p 6)) (D.l (setPad (D.els (gD (D.els (gD (D.els (D.fld (gD (gL p 14) (gN p 3)) 4)) (Int.toNat (gI p 8)))) (Int.toNat (gI p 6)))) 5 (.l (D.els r0))))))))))) (gN p 3)) 4)) (Int.toNat (gI p 8)))) (Int.toNat (gI p 6))) 0)) 29) && true)) || (within (gI p 4) (List.length (gL p 10))))
 (.ask ((eqI (D.toI (D.fld (gD (D.els (gD (D.els (D.fld (gD (List.set (gL p 14) (gN p 3) (D.l (setPad (D.els (gD (gL p 14) (gN p 3))) 4 (.l (List.set (D.els (D.fld (gD (gL p 14) (gN p 3)) 4)) (Int.toNat (gI p 8)) (D.l (List.set (D.els (gD (D.els (D.fld (gD (gL p 14) (gN p 3)) 4)) (Int.toNat (gI p 8)))) (Int.toNat (gI p 6)) (D.l (setPad (D.els (gD (D.els (gD (D.els (D.fld (gD (gL p 14) (gN p 3)) 4)) (Int.toNat (gI p 8)))) (Int.toNat (gI p 6)))) 5 (.l (D.els r0))))))))))) (gN p 3)) 4)) (Int.toNat (gI p 8)))) (Int.toNat (gI p 6))) 0)) 29) && (D.toB (gD (gL p 10) (Int.toNat (gI p 4)))))
 (.again (let z0 := List.set (gL p 14) (gN p 3) (D.l (setPad (D.els (gD (gL p 14) (gN p 3))) 4 (D.l (List.set (D.els (D.fld (gD (gL p 14) (gN p 3)) 4)) (Int.toNat (gI p 8)) (D.l (List.set (D.els (gD (D.els (D.fld (gD (gL p 14) (gN p 3)) 4)) (Int.toNat (gI p 8)))) (Int.toNat (gI p 6)) (D.l (setPad (D.els (gD (D.els (gD (D.els (D.fld (gD (gL p 14) (gN p 3)) 4)) (Int.toNat (gI p 8)))) (Int.toNat (gI p 6)))) 5 (D.l (D.els r0)))))))))); let z1 := gD z0 (gN p 3); let z2 := D.els (D.fld z1 4); let z3 := D.els (gD z2 (Int.toNat (gI p 8))); [.i (gI p 0), .i (gI p 1), .i (gI p 2), .i (Int.ofNat (gN p 3)), .i (gI p 4), .i (gI p 5), .i (wrapA .i64 ((gI p 6) + 1)), .i (gI p 7), .i (gI p 8), .l (gL p 9), .l (gL p 10), .l (gL p 11), .l (gL p 12), .l (gL p 13), .l (List.set z0 (gN p 3) (D.l (setPad (D.els z1) 4 (D.l (List.set z2 (Int.toNat (gI p 8)) (D.l (List.set z3 (Int.toNat (gI p 6)) (D.l (setPad (D.els (gD z3 (Int.toNat (gI p 6)))) 5 (D.l []))))))))))]))
 (.again [.i (gI p 0), .i (gI p 1), .i (gI p 2), .i (Int.ofNat (gN p 3)), .i (gI p 4), .i (gI p 5), .i (wrapA .i64 ((gI p 6) + 1)), .i (gI p 7), .i (gI p 8), .l (gL p 9), .l (gL p 10), .l (gL p 11), .l (gL p 12), .l (gL p 13), .l (List.set (gL p 14) (gN p 3) (D.l (setPad (D.els (gD (gL p 14) (gN p 3))) 4 (.l (List.set (D.els (D.fld (gD (gL p 14) (gN p 3)) 4)) (Int.toNat (gI p 8)) (D.l (List.set (D.els (gD (D.els (D.fld (gD (gL p 14) (gN p 3)) 4)) (Int.toNat (gI p 8)))) (Int.toNat (gI p 6)) (D.l (setPad (D.els (gD (D.els (gD (D.els (D.fld (gD (gL p 14) (gN p 3)) 4)) (Int.toNat (gI p 8)))) (Int.toNat (gI p 6)))) 5 (.l (D.els r0)))))))))))]))
 (.bad)))
 (.bad))
 (.bad))
 (.ask ((!((eqI (D.toI (D.fld (gD (D.els (gD (D.els (D.fld (gD (gL p 14) (gN p 3)) 4)) (Int.toNat (gI p 8)))) (Int.toNat (gI p 6))) 0)) 29) && true)) || (within (gI p 4) (List.length (gL p 10))))
 (.ask ((eqI (D.toI (D.fld (gD (D.els (gD (D.els (D.fld (gD (gL p 14) (gN p 3)) 4)) (Int.toNat (gI p 8)))) (Int.toNat (gI p 6))) 0)) 29) && (D.toB (gD (gL p 10) (Int.toNat (gI p 4)))))
 (.again [.i (gI p 0), .i (gI p 1), .i (gI p 2), .i (Int.ofNat (gN p 3)), .i (gI p 4), .i (gI p 5), .i (wrapA .i64 ((gI p 6) + 1)), .i (gI p 7), .i (gI p 8), .l (gL p 9), .l (gL p 10), .l (gL p 11), .l (gL p 12), .l (gL p 13), .l (List.set (gL p 14) (gN p 3) (D.l (setPad (D.els (gD (gL p 14) (gN p 3))) 4 (.l (List.set (D.els (D.fld (gD (gL p 14) (gN p 3)) 4)) (Int.toNat (gI p 8)) (D.l (List.set (D.els (gD (D.els (D.fld (gD (gL p 14) (gN p 3)) 4)) (Int.toNat (gI p 8)))) (Int.toNat (gI p 6)) (D.l (setPad (D.els (gD (D.els (gD (D.els (D.fld (gD (gL p 14) (gN p 3)) 4)) (Int.toNat (gI p 8)))) (Int.toNat (gI p 6)))) 5 (.l []))))))))))])
 (.again [.i (gI p 0), .i (gI p 1), .i (gI p 2), .i (Int.ofNat (gN p 3)), .i (gI p 4), .i (gI p 5), .i (wrapA .i64 ((gI p 6) + 1)), .i (gI p 7), .i (gI p 8), .l (gL p 9), .l (gL p 10), .l (gL p 11), .l (gL p 12), .l (gL p 13), .l (gL p 14)]))
 (.bad)))
 (.bad))
 (.bad))
 (.out (0, [.i (gI p 0), .i (gI p 2), .i (Int.ofNat (gN p 3)), .i (gI p 4), .i (gI p 5), .i (gI p 7), .l (gL p 9), .l (gL p 10), .l (gL p 11), .l (gL p 12), .l (gL p 13), .l (gL p 14)]))
def L_args_Run_1000 (p : List D) : Sh :=
 .ask (leI (gI p 4) (Int.ofNat (List.length (D.els (D.fld (gD (gL p 21) (gN p 9)) 2)))))
 (.ask ((!((ltI (gI p 1) (Int.ofNat (List.length (D.els (gD (gL p 16) (gN p 0)))))) && true)) || (within (gI p 1) (List.length (D.els (gD (gL p 16) (gN p 0))))))
 (.ask ((ltI (gI p 1) (Int.ofNat (List.length (D.els (gD (gL p 16) (gN p 0)))))) && (eqI (D.toI (gD (D.els (gD (gL p 16) (gN p 0))) (Int.toNat (gI p 1)))) (gI p 4)))
 (.again [.i (Int.ofNat (gN p 0)), .i (wrapA .i64 ((gI p 1) + 1)), .i (gI p 2), .i (gI p 3), .i (wrapA .i64 ((gI p 4) + 1)), .i (gI p 5), .i (gI p 6), .s (gS p 7), .b (gB p 8), .i (Int.ofNat (gN p 9)), .i (gI p 10), .i (Int.ofNat (gN p 11)), .s (gS p 12), .b (gB p 13), .i (gI p 14), .l (gL p 15), .l (gL p 16), .l (gL p 17), .l (gL p 18), .l (gL p 19), .l (gL p 20), .l (gL p 21)])
 (.ask (within (gI p 4) (List.length (gL p 15)))
 (.again [.i (Int.ofNat (gN p 0)), .i (gI p 1), .i (gI p 2), .i (gI p 3), .i (wrapA .i64 ((gI p 4) + 1)), .i (gI p 5), .i (wrapA .i64 ((gI p 6) + 1)), .s (gS p 7), .b (gB p 8), .i (Int.ofNat (gN p 9)), .i (gI p 10), .i (Int.ofNat (gN p 11)), .s (gS p 12), .b (gB p 13), .i (gI p 14), .l (List.set (gL p 15) (Int.toNat (gI p 4)) (D.i (wrapA .i64 ((gI p 6) + 1)))), .l (gL p 16), .l (gL p 17), .l (gL p 18), .l (gL p 19), .l (gL p 20), .l (gL p 21)])
 (.bad)))
 (.bad))
 (.out (0, [.i (Int.ofNat (gN p 0)), .i (gI p 2), .i (gI p 3), .i (gI p 5), .s (gS p 7), .b (gB p 8), .i (Int.ofNat (gN p 9)), .i (gI p 10), .i (Int.ofNat (gN p 11)), .s (gS p 12), .b (gB p 13), .i (gI p 14), .l (gL p 15), .l (gL p 16), .l (gL p 17), .l (gL p 18), .l (gL p 19), .l (gL p 20), .l (gL p 21)]))
def L_args_Run_1002 (p : List D) : Sh :=
 .ask (ltI (gI p 6) (gI p 3))
 (.ask (within (gI p 6) (List.length (D.els (D.fld (gD (gL p 21) (gN p 4)) 4))))
 (.loop 1004 [.i (Int.ofNat (gN p 0)), .i (gI p 1), .i (gI p 2), .i (Int.ofNat (gN p 4)), .i (Int.ofNat (Int.toNat (gI p 6))), .i (gI p 3), .i 0, .i (Int.ofNat (gN p 4)), .i (gI p 5), .i (Int.ofNat (List.length (D.els (gD (D.els (D.fld (gD (gL p 21) (gN p 4)) 4)) (Int.toNat (gI p 6)))))), .i (gI p 6), .s (gS p 7), .b (gB p 8), .i (Int.ofNat (gN p 9)), .i (gI p 10), .i (Int.ofNat (gN p 11)), .s (gS p 12), .b (gB p 13), .i (gI p 14), .l (gL p 15), .l (gL p 16), .l (gL p 17), .l (gL p 18), .l (gL p 19), .l (gL p 20), .l (gL p 21)] (.cons (fun p0 =>
 .again [.i (Int.ofNat (gN p0 0)), .i (gI p0 1), .i (gI p0 2), .i (gI p0 3), .i (Int.ofNat (gN p0 4)), .i (gI p0 5), .i (wrapA .i64 ((gI p0 6) + 1)), .s (gS p0 7), .b (gB p0 8), .i (Int.ofNat (gN p0 9)), .i (gI p0 10), .i (Int.ofNat (gN p0 11)), .s (gS p0 12), .b (gB p0 13), .i (gI p0 14), .l (gL p0 15), .l (gL p0 16), .l (gL p0 17), .l (gL p0 18), .l (gL p0 19), .l (gL p0 20), .l (gL p0 21)])
 .nil))
 (.bad))
 (.out (0, [.i (Int.ofNat (gN p 0)), .i (gI p 1), .i (gI p 2), .i (gI p 5), .s (gS p 7), .b (gB p 8), .i (Int.ofNat (gN p 9)), .i (gI p 10), .i (Int.ofNat (gN p 11)), .s (gS p 12), .b (gB p 13), .i (gI p 14), .l (gL p 16), .l (gL p 17), .l (gL p 18), .l (gL p 19), .l (gL p 20), .l (gL p 21)]))
def L_args_Run_1004 (p : List D) : Sh :=
 .ask (ltI (gI p 6) (gI p 9))
 (.ask (within (gI p 6) (List.length (D.els (gD (D.els (D.fld (gD (gL p 25) (gN p 3)) 4)) (gN p 4)))))
 (.loop 1006 (let z0 := gD (D.els (gD (D.els (D.fld (gD (gL p 25) (gN p 3)) 4)) (gN p 4))) (Int.toNat (gI p 6)); [.i (Int.ofNat (gN p 0)), .i (Int.ofNat (List.length (D.els (D.fld z0 5)))), .i (gI p 1), .i (gI p 2), .i (Int.ofNat (gN p 3)), .i (Int.ofNat (gN p 4)), .i (gI p 5), .i (gI p 6), .i 0, .i (Int.ofNat (gN p 7)), .i (gI p 8), .i (gI p 9), .i (Int.ofNat (gN p 3)), .i (Int.ofNat (gN p 4)), .i (Int.ofNat (Int.toNat (gI p 6))), .i (gI p 10), .s (gS p 11), .b (gB p 12), .i (Int.ofNat (gN p 13)), .i (gI p 14), .i (Int.ofNat (gN p 15)), .s (gS p 16), .b (gB p 17), .i (gI p 18), .i (D.toI (D.fld z0 0)), .i (D.toI (D.fld z0 1)), .i (D.toI (D.fld z0 2)), .i (D.toI (D.fld z0 3)), .i (D.toI (D.fld z0 4)), .i (Int.ofNat (gN p 3)), .i (Int.ofNat (gN p 4)), .i (Int.ofNat (Int.toNat (gI p 6))), .i (Int.ofNat (gN p 3)), .i (Int.ofNat (gN p 4)), .i (Int.ofNat (Int.toNat (gI p 6))), .l (gL p 19), .l (gL p 20), .l (gL p 21), .l (gL p 22), .l (gL p 23), .l (gL p 24), .l (gL p 25)]) (.cons (fun p0 =>
 .again [.i (Int.ofNat (gN p0 0)), .i (gI p0 1), .i (gI p0 2), .i (Int.ofNat (gN p0 3)), .i (Int.ofNat (gN p0 4)), .i (gI p0 5), .i (wrapA .i64 ((gI p0 6) + 1)), .i (Int.ofNat (gN p0 7)), .i (gI p0 8), .i (gI p0 9), .i (gI p0 10), .s (gS p0 11), .b (gB p0 12), .i (Int.ofNat (gN p0 13)), .i (gI p0 14), .i (Int.ofNat (gN p0 15)), .s (gS p0 16), .b (gB p0 17), .i (gI p0 18), .l (gL p0 19), .l (gL p0 20), .l (gL p0 21), .l (gL p0 22), .l (gL p0 23), .l (gL p0 24), .l (gL p0 25)])
 .nil))
 (.bad))
 (.out (0, [.i (Int.ofNat (gN p 0)), .i (gI p 1), .i (gI p 2), .i (gI p 5), .i (Int.ofNat (gN p 7)), .i (gI p 8), .i (gI p 10), .s (gS p 11), .b (gB p 12), .i (Int.ofNat (gN p 13)), .i (gI p 14), .i (Int.ofNat (gN p 15)), .s (gS p 16), .b (gB p 17), .i (gI p 18), .l (gL p 19), .l (gL p 20), .l (gL p 21), .l (gL p 22), .l (gL p 23), .l (gL p 24), .l (gL p 25)]))
def L_args_Run_1006 (p : List D) : Sh :=
 .ask (ltI (gI p 8) (gI p 1))
 (.ask (within (gI p 8) (List.length (D.els (D.fld (gD (D.els (gD (D.els (D.fld (gD (gL p 41) (gN p 12)) 4)) (gN p 13))) (gN p 14)) 5))))
 (.ask (ltI (D.toI (gD (D.els (D.fld (gD (D.els (gD (D.els (D.fld (gD (gL p 41) (gN p 12)) 4)) (gN p 13))) (gN p 14)) 5)) (Int.toNat (gI p 8)))) (Int.ofNat (List.length (gL p 35))))
 (.ask (within (D.toI (gD (D.els (D.fld (gD (D.els (gD (D.els (D.fld (gD (gL p 41) (gN p 12)) 4)) (gN p 13))) (gN p 14)) 5)) (Int.toNat (gI p 8)))) (List.length (gL p 35)))
 (.ask (within (gI p 8) (List.length (D.els (D.fld (gD (D.els (gD (D.els (D.fld (gD (gL p 41) (gN p 29)) 4)) (gN p 30))) (gN p 31)) 5))))
 (.again [.i (Int.ofNat (gN p 0)), .i (gI p 1), .i (gI p 2), .i (gI p 3), .i (Int.ofNat (gN p 4)), .i (Int.ofNat (gN p 5)), .i (gI p 6), .i (gI p 7), .i (wrapA .i64 ((gI p 8) + 1)), .i (Int.ofNat (gN p 9)), .i (gI p 10), .i (gI p 11), .i (Int.ofNat (gN p 12)), .i (Int.ofNat (gN p 13)), .i (Int.ofNat (gN p 14)), .i (gI p 15), .s (gS p 16), .b (gB p 17), .i (Int.ofNat (gN p 18)), .i (gI p 19), .i (Int.ofNat (gN p 20)), .s (gS p 21), .b (gB p 22), .i (gI p 23), .i (gI p 24), .i (gI p 25), .i (gI p 26), .i (gI p 27), .i (gI p 28), .i (Int.ofNat (gN p 29)), .i (Int.ofNat (gN p 30)), .i (Int.ofNat (gN p 31)), .i (Int.ofNat (gN p 32)), .i (Int.ofNat (gN p 33)), .i (Int.ofNat (gN p 34)), .l (gL p 35), .l (gL p 36), .l (gL p 37), .l (gL p 38), .l (gL p 39), .l (gL p 40), .l (List.set (gL p 41) (gN p 29) (D.l (setPad (D.els (gD (gL p 41) (gN p 29))) 4 (.l (List.set (D.els (D.fld (gD (gL p 41) (gN p 29)) 4)) (gN p 30) (D.l (List.set (D.els (gD (D.els (D.fld (gD (gL p 41) (gN p 29)) 4)) (gN p 30))) (gN p 31) (D.l (setPad (D.els (gD (D.els (gD (D.els (D.fld (gD (gL p 41) (gN p 29)) 4)) (gN p 30))) (gN p 31))) 5 (.l (List.set (D.els (D.fld (gD (D.els (gD (D.els (D.fld (gD (gL p 41) (gN p 29)) 4)) (gN p 30))) (gN p 31)) 5)) (Int.toNat (gI p 8)) (D.i (D.toI (gD (gL p 35) (Int.toNat (D.toI (gD (D.els (D.fld (gD (D.els (gD (D.els (D.fld (gD (gL p 41) (gN p 12)) 4)) (gN p 13))) (gN p 14)) 5)) (Int.toNat (gI p 8)))))))))))))))))))])
 (.bad))
 (.bad))
 (.again [.i (Int.ofNat (gN p 0)), .i (gI p 1), .i (gI p 2), .i (gI p 3), .i (Int.ofNat (gN p 4)), .i (Int.ofNat (gN p 5)), .i (gI p 6), .i (gI p 7), .i (wrapA .i64 ((gI p 8) + 1)), .i (Int.ofNat (gN p 9)), .i (gI p 10), .i (gI p 11), .i (Int.ofNat (gN p 12)), .i (Int.ofNat (gN p 13)), .i (Int.ofNat (gN p 14)), .i (gI p 15), .s (gS p 16), .b (gB p 17), .i (Int.ofNat (gN p 18)), .i (gI p 19), .i (Int.ofNat (gN p 20)), .s (gS p 21), .b (gB p 22), .i (gI p 23), .i (gI p 24), .i (gI p 25), .i (gI p 26), .i (gI p 27), .i (gI p 28), .i (Int.ofNat (gN p 29)), .i (Int.ofNat (gN p 30)), .i (Int.ofNat (gN p 31)), .i (Int.ofNat (gN p 32)), .i (Int.ofNat (gN p 33)), .i (Int.ofNat (gN p 34)), .l (gL p 35), .l (gL p 36), .l (gL p 37), .l (gL p 38), .l (gL p 39), .l (gL p 40), .l (gL p 41)]))
 (.bad))
 (.out (0, [.i (Int.ofNat (gN p 0)), .i (gI p 2), .i (gI p 3), .i (Int.ofNat (gN p 4)), .i (Int.ofNat (gN p 5)), .i (gI p 6), .i (gI p 7), .i (Int.ofNat (gN p 9)), .i (gI p 10), .i (gI p 11), .i (gI p 15), .s (gS p 16), .b (gB p 17), .i (Int.ofNat (gN p 18)), .i (gI p 19), .i (Int.ofNat (gN p 20)), .s (gS p 21), .b (gB p 22), .i (gI p 23), .l (gL p 35), .l (gL p 36), .l (gL p 37), .l (gL p 38), .l (gL p 39), .l (gL p 40), .l (gL p 41)]))
def S_args_Run : STab := [(0, fun p => ⟨(t0 (t0 (t0 (t1 (.pb 7 0 0)) (t0 .nil (t1 (.int .i64 (gI p 0))))) (t1 (.vw 21000000 0 []))) (t2 (.pb 2 0 0) (t0 .nil (t0 .nil (t1 (.int .i64 (gI p 1))))) (t1 (.vw 23000000 0 [])))), [(2, ⟨0, [.nils, .nils, .nils, .nils], none⟩), (7, ⟨0, [.vw 25000000 0 [], .vw 25000001 0 [], .vw 25000002 0 [], .vw 25000003 0 []], none⟩)], [(21000000, ⟨24, [.sl true 3 [.int .i64]], (gL p 2), [], 0, [0, 0, 0, 0], 0⟩), (23000000, ⟨4, [.bool], (gL p 3), [], 0, [0, 0, 0, 0], 0⟩), (25000000, ⟨38, lt6, (gL p 4), [], 0, [0, 0, 0, 0], 0⟩), (25000001, ⟨67, [.str, .sl true 2 [.int .i64]], (gL p 5), [], 0, [0, 0, 0, 0], 0⟩), (25000002, ⟨70, [.str, .sl true 3 [.int .i64]], (gL p 6), [], 0, [0, 0, 0, 0], 0⟩), (25000003, ⟨43, lt7, (gL p 7), [], 0, [0, 0, 0, 0], 0⟩)], 1⟩),
 (2, fun p => ⟨(t0 (t0 (t0 (t2 (.pb 7 0 0) .nil (t0 (t1 (.int .i64 (gI p 0))) .nil)) (t0 .nil (t1 (.int .i64 (gI p 1))))) (t2 (.vw 21000000 0 []) (t1 (.pa 25000003 0 [] 5 (gN p 2) 0)) .nil)) (t2 (.pb 2 0 0) (t0 (t2 (.int .i64 (gI p 3)) .nil (t0 (t1 (.int .i64 (gI p 4))) .nil)) (t0 .nil (t1 (.int .i64 (gI p 5))))) (t1 (.vw 23000000 0 [])))), [(2, ⟨0, [.nils, .nils, .nils, .nils], none⟩), (7, ⟨0, [.vw 25000000 0 [], .vw 25000001 0 [], .vw 25000002 0 [], .vw 25000003 0 []], none⟩)], [(21000000, ⟨24, [.sl true 3 [.int .i64]], (gL p 6), [], 0, [0, 0, 0, 0], 0⟩), (23000000, ⟨4, [.bool], (gL p 7), [], 0, [0, 0, 0, 0], 0⟩), (25000000, ⟨38, lt6, (gL p 8), [], 0, [0, 0, 0, 0], 0⟩), (25000001, ⟨67, [.str, .sl true 2 [.int .i64]], (gL p 9), [], 0, [0, 0, 0, 0], 0⟩), (25000002, ⟨70, [.str, .sl true 3 [.int .i64]], (gL p 10), [], 0, [0, 0, 0, 0], 0⟩), (25000003, ⟨43, lt7, (gL p 11), [], 0, [0, 0, 0, 0], 0⟩)], 1⟩),
 (4, fun p => ⟨(t0 (t0 (t0 (t2 (.pb 7 0 0) .nil (t0 (t1 (.int .i64 (gI p 0))) .nil)) (t0 (t0 .nil (t1 (.int .i64 (gI p 1)))) (t1 (.int .i64 (gI p 2))))) (t2 (.vw 21000000 0 []) (t1 (.pa 25000003 0 [] 5 (gN p 3) 0)) .nil)) (t2 (.pb 2 0 0) (t0 (t2 (.int .i64 (gI p 4)) .nil (t0 (t1 (.int .i64 (gI p 5))) .nil)) (t0 (t0 .nil (t1 (.int .i64 (gI p 6)))) (t1 (.int .i64 (gI p 7))))) (t2 (.vw 23000000 0 []) (t1 (.int .i64 (gI p 8))) .nil))), [(2, ⟨0, [.nils, .nils, .nils, .nils], none⟩), (7, ⟨0, [.vw 25000000 0 [], .vw 25000001 0 [], .vw 25000002 0 [], .vw 25000003 0 []], none⟩)], [(21000000, ⟨24, [.sl true 3 [.int .i64]], (gL p 9), [], 0, [0, 0, 0, 0], 0⟩), (23000000, ⟨4, [.bool], (gL p 10), [], 0, [0, 0, 0, 0], 0⟩), (25000000, ⟨38, lt6, (gL p 11), [], 0, [0, 0, 0, 0], 0⟩), (25000001, ⟨67, [.str, .sl true 2 [.int .i64]], (gL p 12), [], 0, [0, 0, 0, 0], 0⟩), (25000002, ⟨70, [.str, .sl true 3 [.int .i64]], (gL p 13), [], 0, [0, 0, 0, 0], 0⟩), (25000003, ⟨43, lt7, (gL p 14), [], 0, [0, 0, 0, 0], 0⟩)], 1⟩),
 (1000, fun p => ⟨(t0 (t2 (.vw 21000000 0 [((gN p 0), 0)]) (t0 (t2 (.int .i64 (gI p 1)) .nil (t0 .nil (t0 (t0 .nil (t0 .nil (t0 .nil (t0 .nil (t1 (.pb 7 0 0)))))) .nil))) (t0 .nil (t0 (t0 (t0 .nil (t0 (t0 (t0 (t0 (t1 (.int .i64 (gI p 2))) .nil) .nil) .nil) .nil)) (t0 .nil (t0 .nil (t0 .nil (t0 .nil (t1 (.int .i64 (gI p 3)))))))) .nil))) (t2 (.vw 1023 0 []) (t0 .nil (t0 (t0 (t0 .nil (t0 (t0 (t0 (t0 (t1 (.pb 7 0 3)) .nil) .nil) .nil) .nil)) .nil) .nil)) (t0 (t0 .nil (t0 (t0 .nil (t0 .nil (t0 .nil (t0 .nil (t1 (.vw 21000000 0 [])))))) .nil)) .nil))) (t2 (.pb 1002 0 0) (t2 (.pb 1004 0 0) (t1 (.int .i64 (gI p 4))) (t0 .nil (t0 (t0 .nil (t0 .nil (t0 .nil (t0 .nil (t0 .nil (t1 (.int .i64 (gI p 5)))))))) .nil))) (t2 (.int .i64 (gI p 6)) (t0 (t0 .nil (t0 (t0 .nil (t0 .nil (t0 .nil (t0 .nil (t1 (.pb 2 0 0)))))) .nil)) (t0 (t0 (t0 .nil (t0 (t0 (t0 (t0 (t1 (.vw 25000003 0 [])) .nil) .nil) .nil) .nil)) .nil) .nil)) (t0 (t0 .nil (t0 (t0 .nil (t0 .nil (t0 .nil (t0 .nil (t1 (.vw 23000000 0 [])))))) .nil)) .nil)))), [(2, ⟨0, [.nils, .nils, .nils, .nils], none⟩), (7, ⟨0, [.vw 25000000 0 [], .vw 25000001 0 [], .vw 25000002 0 [], .vw 25000003 0 []], none⟩), (1002, ⟨0, [.str (gS p 7), .bool (gB p 8), .vw 25000003 0 [((gN p 9), 2)], .int .i64 (gI p 10), .vw 25000003 0 [((gN p 11), 4)]], none⟩), (1004, ⟨0, [.str (gS p 12), .bool (gB p 13), .nils, .int .i64 (gI p 14), .nils], none⟩)], [(1023, ⟨3, [.int .i64], (gL p 15), [], 0, [0, 0, 0, 0], 0⟩), (21000000, ⟨24, [.sl true 3 [.int .i64]], (gL p 16), [], 0, [0, 0, 0, 0], 0⟩), (23000000, ⟨4, [.bool], (gL p 17), [], 0, [0, 0, 0, 0], 0⟩), (25000000, ⟨38, lt6, (gL p 18), [], 0, [0, 0, 0, 0], 0⟩), (25000001, ⟨67, [.str, .sl true 2 [.int .i64]], (gL p 19), [], 0, [0, 0, 0, 0], 0⟩), (25000002, ⟨70, [.str, .sl true 3 [.int .i64]], (gL p 20), [], 0, [0, 0, 0, 0], 0⟩), (25000003, ⟨43, lt7, (gL p 21), [], 0, [0, 0, 0, 0], 0⟩)], 1⟩),
 (1002, fun p => ⟨(t0 (t2 (.vw 21000000 0 [((gN p 0), 0)]) (t0 (t0 .nil (t0 .nil (t0 (t0 .nil (t0 .nil (t0 .nil (t0 .nil (t1 (.pb 7 0 0)))))) .nil))) (t0 .nil (t0 (t0 (t0 .nil (t0 (t0 (t0 (t0 (t1 (.int .i64 (gI p 1))) .nil) .nil) .nil) .nil)) (t0 .nil (t0 .nil (t0 .nil (t0 .nil (t1 (.int .i64 (gI p 2)))))))) .nil))) (t2 (.vw 1023 0 []) (t0 .nil (t0 (t0 (t0 .nil (t0 (t0 (t0 (t0 (t1 (.pb 7 0 3)) .nil) .nil) .nil) .nil)) .nil) .nil)) (t0 (t0 .nil (t2 (.int .i64 (gI p 3)) (t0 .nil (t0 .nil (t0 .nil (t0 .nil (t1 (.vw 21000000 0 [])))))) .nil)) .nil))) (t2 (.pb 1002 0 0) (t2 (.pb 1004 0 0) .nil (t0 (t0 .nil (t1 (.vw 25000003 0 [((gN p 4), 4)]))) (t0 (t0 .nil (t0 .nil (t0 .nil (t0 .nil (t0 .nil (t1 (.int .i64 (gI p 5)))))))) .nil))) (t0 (t0 (t0 .nil (t0 (t0 .nil (t0 .nil (t0 .nil (t0 .nil (t1 (.pb 2 0 0)))))) .nil)) (t0 (t0 (t0 .nil (t0 (t0 (t0 (t0 (t1 (.vw 25000003 0 [])) .nil) .nil) .nil) .nil)) .nil) .nil)) (t0 (t0 .nil (t2 (.int .i64 (gI p 6)) (t0 .nil (t0 .nil (t0 .nil (t0 .nil (t1 (.vw 23000000 0 [])))))) .nil)) .nil)))), [(2, ⟨0, [.nils, .nils, .nils, .nils], none⟩), (7, ⟨0, [.vw 25000000 0 [], .vw 25000001 0 [], .vw 25000002 0 [], .vw 25000003 0 []], none⟩), (1002, ⟨0, [.str (gS p 7), .bool (gB p 8), .vw 25000003 0 [((gN p 9), 2)], .int .i64 (gI p 10), .vw 25000003 0 [((gN p 11), 4)]], none⟩), (1004, ⟨0, [.str (gS p 12), .bool (gB p 13), .nils, .int .i64 (gI p 14), .nils], none⟩)], [(1023, ⟨3, [.int .i64], (gL p 15), [], 0, [0, 0, 0, 0], 0⟩), (21000000, ⟨24, [.sl true 3 [.int .i64]], (gL p 16), [], 0, [0, 0, 0, 0], 0⟩), (23000000, ⟨4, [.bool], (gL p 17), [], 0, [0, 0, 0, 0], 0⟩), (25000000, ⟨38, lt6, (gL p 18), [], 0, [0, 0, 0, 0], 0⟩), (25000001, ⟨67, [.str, .sl true 2 [.int .i64]], (gL p 19), [], 0, [0, 0, 0, 0], 0⟩), (25000002, ⟨70, [.str, .sl true 3 [.int .i64]], (gL p 20), [], 0, [0, 0, 0, 0], 0⟩), (25000003, ⟨43, lt7, (gL p 21), [], 0, [0, 0, 0, 0], 0⟩)], 1⟩),
 (1004, fun p => ⟨(t0 (t2 (.vw 21000000 0 [((gN p 0), 0)]) (t0 (t0 .nil (t0 .nil (t0 (t0 .nil (t0 .nil (t0 .nil (t0 .nil (t1 (.pb 7 0 0)))))) .nil))) (t0 .nil (t0 (t0 (t0 .nil (t0 (t0 (t0 (t0 (t1 (.int .i64 (gI p 1))) .nil) .nil) .nil) .nil)) (t0 .nil (t0 .nil (t0 .nil (t0 .nil (t1 (.int .i64 (gI p 2)))))))) (t1 (.vw 25000003 0 [((gN p 3), 4), ((gN p 4), 0)]))))) (t2 (.vw 1023 0 []) (t0 .nil (t0 (t0 (t0 .nil (t0 (t0 (t0 (t0 (t1 (.pb 7 0 3)) .nil) .nil) .nil) .nil)) .nil) .nil)) (t0 (t0 .nil (t2 (.int .i64 (gI p 5)) (t0 .nil (t0 .nil (t0 .nil (t0 .nil (t1 (.vw 21000000 0 [])))))) .nil)) (t0 .nil (t1 (.int .i64 (gI p 6))))))) (t2 (.pb 1002 0 0) (t2 (.pb 1004 0 0) .nil (t0 (t0 .nil (t1 (.vw 25000003 0 [((gN p 7), 4)]))) (t0 (t0 .nil (t0 .nil (t0 .nil (t0 .nil (t0 .nil (t1 (.int .i64 (gI p 8)))))))) (t1 (.int .i64 (gI p 9)))))) (t0 (t0 (t0 .nil (t0 (t0 .nil (t0 .nil (t0 .nil (t0 .nil (t1 (.pb 2 0 0)))))) .nil)) (t0 (t0 (t0 .nil (t0 (t0 (t0 (t0 (t1 (.vw 25000003 0 [])) .nil) .nil) .nil) .nil)) .nil) .nil)) (t0 (t0 .nil (t2 (.int .i64 (gI p 10)) (t0 .nil (t0 .nil (t0 .nil (t0 .nil (t1 (.vw 23000000 0 [])))))) .nil)) .nil)))), [(2, ⟨0, [.nils, .nils, .nils, .nils], none⟩), (7, ⟨0, [.vw 25000000 0 [], .vw 25000001 0 [], .vw 25000002 0 [], .vw 25000003 0 []], none⟩), (1002, ⟨0, [.str (gS p 11), .bool (gB p 12), .vw 25000003 0 [((gN p 13), 2)], .int .i64 (gI p 14), .vw 25000003 0 [((gN p 15), 4)]], none⟩), (1004, ⟨0, [.str (gS p 16), .bool (gB p 17), .nils, .int .i64 (gI p 18), .nils], none⟩)], [(1023, ⟨3, [.int .i64], (gL p 19), [], 0, [0, 0, 0, 0], 0⟩), (21000000, ⟨24, [.sl true 3 [.int .i64]], (gL p 20), [], 0, [0, 0, 0, 0], 0⟩), (23000000, ⟨4, [.bool], (gL p 21), [], 0, [0, 0, 0, 0], 0⟩), (25000000, ⟨38, lt6, (gL p 22), [], 0, [0, 0, 0, 0], 0⟩), (25000001, ⟨67, [.str, .sl true 2 [.int .i64]], (gL p 23), [], 0, [0, 0, 0, 0], 0⟩), (25000002, ⟨70, [.str, .sl true 3 [.int .i64]], (gL p 24), [], 0, [0, 0, 0, 0], 0⟩), (25000003, ⟨43, lt7, (gL p 25), [], 0, [0, 0, 0, 0], 0⟩)], 1⟩),
 (1006, fun p => ⟨(t0 (t2 (.vw 21000000 0 [((gN p 0), 0)]) (t0 (t0 .nil (t0 .nil (t0 (t0 .nil (t0 .nil (t0 .nil (t0 .nil (t1 (.pb 7 0 0)))))) .nil))) (t0 (t0 (t0 (t1 (.int .i64 (gI p 1))) .nil) .nil) (t0 (t0 (t0 .nil (t0 (t0 (t0 (t0 (t1 (.int .i64 (gI p 2))) .nil) .nil) .nil) .nil)) (t0 .nil (t0 .nil (t0 .nil (t0 .nil (t1 (.int .i64 (gI p 3)))))))) (t1 (.vw 25000003 0 [((gN p 4), 4), ((gN p 5), 0)]))))) (t2 (.vw 1023 0 []) (t0 .nil (t0 (t0 (t0 .nil (t0 (t0 (t0 (t0 (t1 (.pb 7 0 3)) .nil) .nil) .nil) .nil)) .nil) .nil)) (t0 (t0 .nil (t2 (.int .i64 (gI p 6)) (t0 .nil (t0 .nil (t0 .nil (t0 .nil (t1 (.vw 21000000 0 [])))))) .nil)) (t0 .nil (t1 (.int .i64 (gI p 7))))))) (t2 (.pb 1002 0 0) (t2 (.pb 1004 0 0) .nil (t2 (.pb 1012 0 0) (t0 (t0 (t1 (.int .i64 (gI p 8))) .nil) (t1 (.vw 25000003 0 [((gN p 9), 4)]))) (t0 (t0 .nil (t0 .nil (t0 .nil (t0 .nil (t0 .nil (t1 (.int .i64 (gI p 10)))))))) (t1 (.int .i64 (gI p 11)))))) (t0 (t0 (t0 (t0 (t1 (.vw 25000003 0 [((gN p 12), 4), ((gN p 13), 0), ((gN p 14), 5)])) .nil) (t0 (t0 .nil (t0 .nil (t0 .nil (t0 .nil (t1 (.pb 2 0 0)))))) .nil)) (t0 (t0 (t0 .nil (t0 (t0 (t0 (t0 (t1 (.vw 25000003 0 [])) .nil) .nil) .nil) .nil)) .nil) .nil)) (t0 (t0 .nil (t2 (.int .i64 (gI p 15)) (t0 .nil (t0 .nil (t0 .nil (t0 .nil (t1 (.vw 23000000 0 [])))))) .nil)) .nil)))), [(2, ⟨0, [.nils, .nils, .nils, .nils], none⟩), (7, ⟨0, [.vw 25000000 0 [], .vw 25000001 0 [], .vw 25000002 0 [], .vw 25000003 0 []], none⟩), (1002, ⟨0, [.str (gS p 16), .bool (gB p 17), .vw 25000003 0 [((gN p 18), 2)], .int .i64 (gI p 19), .vw 25000003 0 [((gN p 20), 4)]], none⟩), (1004, ⟨0, [.str (gS p 21), .bool (gB p 22), .nils, .int .i64 (gI p 23), .nils], none⟩), (1012, ⟨0, [.int .i64 (gI p 24), .int .i64 (gI p 25), .int .i64 (gI p 26), .int .i64 (gI p 27), .int .i64 (gI p 28), .vw 25000003 0 [((gN p 29), 4), ((gN p 30), 0), ((gN p 31), 5)], .vw 25000003 0 [((gN p 32), 4), ((gN p 33), 0), ((gN p 34), 6)]], none⟩)], [(1023, ⟨3, [.int .i64], (gL p 35), [], 0, [0, 0, 0, 0], 0⟩), (21000000, ⟨24, [.sl true 3 [.int .i64]], (gL p 36), [], 0, [0, 0, 0, 0], 0⟩), (23000000, ⟨4, [.bool], (gL p 37), [], 0, [0, 0, 0, 0], 0⟩), (25000000, ⟨38, lt6, (gL p 38), [], 0, [0, 0, 0, 0], 0⟩), (25000001, ⟨67, [.str, .sl true 2 [.int .i64]], (gL p 39), [], 0, [0, 0, 0, 0], 0⟩), (25000002, ⟨70, [.str, .sl true 3 [.int .i64]], (gL p 40), [], 0, [0, 0, 0, 0], 0⟩), (25000003, ⟨43, lt7, (gL p 41), [], 0, [0, 0, 0, 0], 0⟩)], 1⟩)]
def T_args_Run : TTab := [(0, [fun p => (.exit 0, ⟨(t0 (t0 (t0 (t1 (.pb 7 0 0)) .nil) .nil) (t1 (.pb 2 0 0))), [(2, ⟨0, [.nils, .nils, .nils, .nils], none⟩), (7, ⟨0, [.vw 25000000 0 [], .vw 25000001 0 [], .vw 25000002 0 [], .vw 25000003 0 []], none⟩)], [(25000000, ⟨38, lt6, (gL p 0), [], 0, [0, 0, 0, 0], 0⟩), (25000001, ⟨67, [.str, .sl true 2 [.int .i64]], (gL p 1), [], 0, [0, 0, 0, 0], 0⟩), (25000002, ⟨70, [.str, .sl true 3 [.int .i64]], (gL p 2), [], 0, [0, 0, 0, 0], 0⟩), (25000003, ⟨43, lt7, (gL p 3), [], 0, [0, 0, 0, 0], 0⟩)], 1⟩)]),
 (2, [fun p => (.exit 2, ⟨(t0 (t0 (t0 (t1 (.pb 7 0 0)) (t0 .nil (t1 (.int .i64 (gI p 0))))) (t2 (.vw 21000000 0 []) (t1 (.pa 25000003 0 [] 5 (gN p 1) 0)) .nil)) (t2 (.pb 2 0 0) (t0 (t1 (.int .i64 (gI p 2))) (t0 .nil (t1 (.int .i64 (gI p 3))))) (t1 (.vw 23000000 0 [])))), [(2, ⟨0, [.nils, .nils, .nils, .nils], none⟩), (7, ⟨0, [.vw 25000000 0 [], .vw 25000001 0 [], .vw 25000002 0 [], .vw 25000003 0 []], none⟩)], [(21000000, ⟨24, [.sl true 3 [.int .i64]], (gL p 4), [], 0, [0, 0, 0, 0], 0⟩), (23000000, ⟨4, [.bool], (gL p 5), [], 0, [0, 0, 0, 0], 0⟩), (25000000, ⟨38, lt6, (gL p 6), [], 0, [0, 0, 0, 0], 0⟩), (25000001, ⟨67, [.str, .sl true 2 [.int .i64]], (gL p 7), [], 0, [0, 0, 0, 0], 0⟩), (25000002, ⟨70, [.str, .sl true 3 [.int .i64]], (gL p 8), [], 0, [0, 0, 0, 0], 0⟩), (25000003, ⟨43, lt7, (gL p 9), [], 0, [0, 0, 0, 0], 0⟩)], 1⟩)]),
 (4, [fun p => (.exit 4, ⟨(t0 (t0 (t0 (t2 (.pb 7 0 0) .nil (t0 (t1 (.int .i64 (gI p 0))) .nil)) (t0 .nil (t1 (.int .i64 (gI p 1))))) (t2 (.vw 21000000 0 []) (t1 (.pa 25000003 0 [] 5 (gN p 2) 0)) .nil)) (t2 (.pb 2 0 0) (t0 (t2 (.int .i64 (gI p 3)) .nil (t0 (t1 (.int .i64 (gI p 4))) .nil)) (t0 .nil (t1 (.int .i64 (gI p 5))))) (t1 (.vw 23000000 0 [])))), [(2, ⟨0, [.nils, .nils, .nils, .nils], none⟩), (7, ⟨0, [.vw 25000000 0 [], .vw 25000001 0 [], .vw 25000002 0 [], .vw 25000003 0 []], none⟩)], [(21000000, ⟨24, [.sl true 3 [.int .i64]], (gL p 6), [], 0, [0, 0, 0, 0], 0⟩), (23000000, ⟨4, [.bool], (gL p 7), [], 0, [0, 0, 0, 0], 0⟩), (25000000, ⟨38, lt6, (gL p 8), [], 0, [0, 0, 0, 0], 0⟩), (25000001, ⟨67, [.str, .sl true 2 [.int .i64]], (gL p 9), [], 0, [0, 0, 0, 0], 0⟩), (25000002, ⟨70, [.str, .sl true 3 [.int .i64]], (gL p 10), [], 0, [0, 0, 0, 0], 0⟩), (25000003, ⟨43, lt7, (gL p 11), [], 0, [0, 0, 0, 0], 0⟩)], 1⟩)]),
 (1000, [fun p => (.exit 0, ⟨(t0 (t2 (.vw 21000000 0 [((gN p 0), 0)]) (t0 (t0 .nil (t0 .nil (t0 (t0 .nil (t0 .nil (t0 .nil (t0 .nil (t1 (.pb 7 0 0)))))) .nil))) (t0 .nil (t0 (t0 (t0 .nil (t0 (t0 (t0 (t0 (t1 (.int .i64 (gI p 1))) .nil) .nil) .nil) .nil)) (t0 .nil (t0 .nil (t0 .nil (t0 .nil (t1 (.int .i64 (gI p 2)))))))) .nil))) (t2 (.vw 1023 0 []) (t0 .nil (t0 (t0 (t0 .nil (t0 (t0 (t0 (t0 (t1 (.pb 7 0 3)) .nil) .nil) .nil) .nil)) .nil) .nil)) (t0 (t0 .nil (t0 (t0 .nil (t0 .nil (t0 .nil (t0 .nil (t1 (.vw 21000000 0 [])))))) .nil)) .nil))) (t2 (.pb 1002 0 0) (t2 (.pb 1004 0 0) .nil (t0 .nil (t0 (t0 .nil (t0 .nil (t0 .nil (t0 .nil (t0 .nil (t1 (.int .i64 (gI p 3)))))))) .nil))) (t0 (t0 (t0 .nil (t0 (t0 .nil (t0 .nil (t0 .nil (t0 .nil (t1 (.pb 2 0 0)))))) .nil)) (t0 (t0 (t0 .nil (t0 (t0 (t0 (t0 (t1 (.vw 25000003 0 [])) .nil) .nil) .nil) .nil)) .nil) .nil)) (t0 (t0 .nil (t0 (t0 .nil (t0 .nil (t0 .nil (t0 .nil (t1 (.vw 23000000 0 [])))))) .nil)) .nil)))), [(2, ⟨0, [.nils, .nils, .nils, .nils], none⟩), (7, ⟨0, [.vw 25000000 0 [], .vw 25000001 0 [], .vw 25000002 0 [], .vw 25000003 0 []], none⟩), (1002, ⟨0, [.str (gS p 4), .bool (gB p 5), .vw 25000003 0 [((gN p 6), 2)], .int .i64 (gI p 7), .vw 25000003 0 [((gN p 8), 4)]], none⟩), (1004, ⟨0, [.str (gS p 9), .bool (gB p 10), .nils, .int .i64 (gI p 11), .nils], none⟩)], [(1023, ⟨3, [.int .i64], (gL p 12), [], 0, [0, 0, 0, 0], 0⟩), (21000000, ⟨24, [.sl true 3 [.int .i64]], (gL p 13), [], 0, [0, 0, 0, 0], 0⟩), (23000000, ⟨4, [.bool], (gL p 14), [], 0, [0, 0, 0, 0], 0⟩), (25000000, ⟨38, lt6, (gL p 15), [], 0, [0, 0, 0, 0], 0⟩), (25000001, ⟨67, [.str, .sl true 2 [.int .i64]], (gL p 16), [], 0, [0, 0, 0, 0], 0⟩), (25000002, ⟨70, [.str, .sl true 3 [.int .i64]], (gL p 17), [], 0, [0, 0, 0, 0], 0⟩), (25000003, ⟨43, lt7, (gL p 18), [], 0, [0, 0, 0, 0], 0⟩)], 1⟩)]),
 (1002, [fun p => (.exit 2, ⟨(t0 (t2 (.vw 21000000 0 [((gN p 0), 0)]) (t0 (t0 .nil (t0 .nil (t0 (t0 .nil (t0 .nil (t0 .nil (t0 .nil (t1 (.pb 7 0 0)))))) .nil))) (t0 .nil (t0 (t0 (t0 .nil (t0 (t0 (t0 (t0 (t1 (.int .i64 (gI p 1))) .nil) .nil) .nil) .nil)) (t0 .nil (t0 .nil (t0 .nil (t0 .nil (t1 (.int .i64 (gI p 2)))))))) .nil))) (t0 (t0 .nil (t0 (t0 (t0 .nil (t0 (t0 (t0 (t0 (t1 (.pb 7 0 3)) .nil) .nil) .nil) .nil)) .nil) .nil)) (t0 (t0 .nil (t0 (t0 .nil (t0 .nil (t0 .nil (t0 .nil (t1 (.vw 21000000 0 [])))))) .nil)) .nil))) (t2 (.pb 1002 0 0) (t2 (.pb 1004 0 0) .nil (t0 .nil (t0 (t0 .nil (t0 .nil (t0 .nil (t0 .nil (t0 .nil (t1 (.int .i64 (gI p 3)))))))) .nil))) (t0 (t0 (t0 .nil (t0 (t0 .nil (t0 .nil (t0 .nil (t0 .nil (t1 (.pb 2 0 0)))))) .nil)) (t0 (t0 (t0 .nil (t0 (t0 (t0 (t0 (t1 (.vw 25000003 0 [])) .nil) .nil) .nil) .nil)) .nil) .nil)) (t0 (t0 .nil (t0 (t0 .nil (t0 .nil (t0 .nil (t0 .nil (t1 (.vw 23000000 0 [])))))) .nil)) .nil)))), [(2, ⟨0, [.nils, .nils, .nils, .nils], none⟩), (7, ⟨0, [.vw 25000000 0 [], .vw 25000001 0 [], .vw 25000002 0 [], .vw 25000003 0 []], none⟩), (1002, ⟨0, [.str (gS p 4), .bool (gB p 5), .vw 25000003 0 [((gN p 6), 2)], .int .i64 (gI p 7), .vw 25000003 0 [((gN p 8), 4)]], none⟩), (1004, ⟨0, [.str (gS p 9), .bool (gB p 10), .nils, .int .i64 (gI p 11), .nils], none⟩)], [(21000000, ⟨24, [.sl true 3 [.int .i64]], (gL p 12), [], 0, [0, 0, 0, 0], 0⟩), (23000000, ⟨4, [.bool], (gL p 13), [], 0, [0, 0, 0, 0], 0⟩), (25000000, ⟨38, lt6, (gL p 14), [], 0, [0, 0, 0, 0], 0⟩), (25000001, ⟨67, [.str, .sl true 2 [.int .i64]], (gL p 15), [], 0, [0, 0, 0, 0], 0⟩), (25000002, ⟨70, [.str, .sl true 3 [.int .i64]], (gL p 16), [], 0, [0, 0, 0, 0], 0⟩), (25000003, ⟨43, lt7, (gL p 17), [], 0, [0, 0, 0, 0], 0⟩)], 1⟩)]),
 (1004, [fun p => (.exit 4, ⟨(t0 (t2 (.vw 21000000 0 [((gN p 0), 0)]) (t0 (t0 .nil (t0 .nil (t0 (t0 .nil (t0 .nil (t0 .nil (t0 .nil (t1 (.pb 7 0 0)))))) .nil))) (t0 .nil (t0 (t0 (t0 .nil (t0 (t0 (t0 (t0 (t1 (.int .i64 (gI p 1))) .nil) .nil) .nil) .nil)) (t0 .nil (t0 .nil (t0 .nil (t0 .nil (t1 (.int .i64 (gI p 2)))))))) .nil))) (t2 (.vw 1023 0 []) (t0 .nil (t0 (t0 (t0 .nil (t0 (t0 (t0 (t0 (t1 (.pb 7 0 3)) .nil) .nil) .nil) .nil)) .nil) .nil)) (t0 (t0 .nil (t2 (.int .i64 (gI p 3)) (t0 .nil (t0 .nil (t0 .nil (t0 .nil (t1 (.vw 21000000 0 [])))))) .nil)) .nil))) (t2 (.pb 1002 0 0) (t2 (.pb 1004 0 0) .nil (t0 (t0 .nil (t1 (.vw 25000003 0 [((gN p 4), 4)]))) (t0 (t0 .nil (t0 .nil (t0 .nil (t0 .nil (t0 .nil (t1 (.int .i64 (gI p 5)))))))) .nil))) (t0 (t0 (t0 .nil (t0 (t0 .nil (t0 .nil (t0 .nil (t0 .nil (t1 (.pb 2 0 0)))))) .nil)) (t0 (t0 (t0 .nil (t0 (t0 (t0 (t0 (t1 (.vw 25000003 0 [])) .nil) .nil) .nil) .nil)) .nil) .nil)) (t0 (t0 .nil (t2 (.int .i64 (gI p 6)) (t0 .nil (t0 .nil (t0 .nil (t0 .nil (t1 (.vw 23000000 0 [])))))) .nil)) .nil)))), [(2, ⟨0, [.nils, .nils, .nils, .nils], none⟩), (7, ⟨0, [.vw 25000000 0 [], .vw 25000001 0 [], .vw 25000002 0 [], .vw 25000003 0 []], none⟩), (1002, ⟨0, [.str (gS p 7), .bool (gB p 8), .vw 25000003 0 [((gN p 9), 2)], .int .i64 (gI p 10), .vw 25000003 0 [((gN p 11), 4)]], none⟩), (1004, ⟨0, [.str (gS p 12), .bool (gB p 13), .nils, .int .i64 (gI p 14), .nils], none⟩)], [(1023, ⟨3, [.int .i64], (gL p 15), [], 0, [0, 0, 0, 0], 0⟩), (21000000, ⟨24, [.sl true 3 [.int .i64]], (gL p 16), [], 0, [0, 0, 0, 0], 0⟩), (23000000, ⟨4, [.bool], (gL p 17), [], 0, [0, 0, 0, 0], 0⟩), (25000000, ⟨38, lt6, (gL p 18), [], 0, [0, 0, 0, 0], 0⟩), (25000001, ⟨67, [.str, .sl true 2 [.int .i64]], (gL p 19), [], 0, [0, 0, 0, 0], 0⟩), (25000002, ⟨70, [.str, .sl true 3 [.int .i64]], (gL p 20), [], 0, [0, 0, 0, 0], 0⟩), (25000003, ⟨43, lt7, (gL p 21), [], 0, [0, 0, 0, 0], 0⟩)], 1⟩)]),
 (1006, [fun p => (.exit 6, ⟨(t0 (t2 (.vw 21000000 0 [((gN p 0), 0)]) (t0 (t0 .nil (t0 .nil (t0 (t0 .nil (t0 .nil (t0 .nil (t0 .nil (t1 (.pb 7 0 0)))))) .nil))) (t0 .nil (t0 (t0 (t0 .nil (t0 (t0 (t0 (t0 (t1 (.int .i64 (gI p 1))) .nil) .nil) .nil) .nil)) (t0 .nil (t0 .nil (t0 .nil (t0 .nil (t1 (.int .i64 (gI p 2)))))))) (t1 (.vw 25000003 0 [((gN p 3), 4), ((gN p 4), 0)]))))) (t2 (.vw 1023 0 []) (t0 .nil (t0 (t0 (t0 .nil (t0 (t0 (t0 (t0 (t1 (.pb 7 0 3)) .nil) .nil) .nil) .nil)) .nil) .nil)) (t0 (t0 .nil (t2 (.int .i64 (gI p 5)) (t0 .nil (t0 .nil (t0 .nil (t0 .nil (t1 (.vw 21000000 0 [])))))) .nil)) (t0 .nil (t1 (.int .i64 (gI p 6))))))) (t2 (.pb 1002 0 0) (t2 (.pb 1004 0 0) .nil (t0 (t0 .nil (t1 (.vw 25000003 0 [((gN p 7), 4)]))) (t0 (t0 .nil (t0 .nil (t0 .nil (t0 .nil (t0 .nil (t1 (.int .i64 (gI p 8)))))))) (t1 (.int .i64 (gI p 9)))))) (t0 (t0 (t0 .nil (t0 (t0 .nil (t0 .nil (t0 .nil (t0 .nil (t1 (.pb 2 0 0)))))) .nil)) (t0 (t0 (t0 .nil (t0 (t0 (t0 (t0 (t1 (.vw 25000003 0 [])) .nil) .nil) .nil) .nil)) .nil) .nil)) (t0 (t0 .nil (t2 (.int .i64 (gI p 10)) (t0 .nil (t0 .nil (t0 .nil (t0 .nil (t1 (.vw 23000000 0 [])))))) .nil)) .nil)))), [(2, ⟨0, [.nils, .nils, .nils, .nils], none⟩), (7, ⟨0, [.vw 25000000 0 [], .vw 25000001 0 [], .vw 25000002 0 [], .vw 25000003 0 []], none⟩), (1002, ⟨0, [.str (gS p 11), .bool (gB p 12), .vw 25000003 0 [((gN p 13), 2)], .int .i64 (gI p 14), .vw 25000003 0 [((gN p 15), 4)]], none⟩), (1004, ⟨0, [.str (gS p 16), .bool (gB p 17), .nils, .int .i64 (gI p 18), .nils], none⟩)], [(1023, ⟨3, [.int .i64], (gL p 19), [], 0, [0, 0, 0, 0], 0⟩), (21000000, ⟨24, [.sl true 3 [.int .i64]], (gL p 20), [], 0, [0, 0, 0, 0], 0⟩), (23000000, ⟨4, [.bool], (gL p 21), [], 0, [0, 0, 0, 0], 0⟩), (25000000, ⟨38, lt6, (gL p 22), [], 0, [0, 0, 0, 0], 0⟩), (25000001, ⟨67, [.str, .sl true 2 [.int .i64]], (gL p 23), [], 0, [0, 0, 0, 0], 0⟩), (25000002, ⟨70, [.str, .sl true 3 [.int .i64]], (gL p 24), [], 0, [0, 0, 0, 0], 0⟩), (25000003, ⟨43, lt7, (gL p 25), [], 0, [0, 0, 0, 0], 0⟩)], 1⟩)])]
def F_args_Run : Fn := { np := 1, bs := [0, 2, 4], main := M_args_Run, lps := [(0, L_args_Run_0), (2, L_args_Run_2), (4, L_args_Run_4), (1000, L_args_Run_1000), (1002, L_args_Run_1002), (1004, L_args_Run_1004), (1006, L_args_Run_1006)] }
def M_wf_formed (x : List D) : Sh :=
 .loop 0 [.i (Int.ofNat (List.length (D.els (D.fld (gD x 0) 0)))), .l (D.els (D.fld (gD x 0) 0)), .i 0, .l (D.els (D.fld (gD x 0) 0)), .l (D.els (D.fld (gD x 0) 1)), .l (D.els (D.fld (gD x 0) 2)), .l (D.els (D.fld (gD x 0) 3))] (.cons (fun p0 =>
 .ret (.b (gB p0 0)) [])
 (.cons (fun p0 =>
 .loop 4 [.i (Int.ofNat (List.length (gL p0 3))), .l (gL p0 3), .i 0] (.cons (fun p1 =>
 .ret (.b (gB p1 0)) [])
 (.cons (fun p1 =>
 .ret (.b true) [])
 .nil)))
 .nil))
def L_wf_formed_0 (p : List D) : Sh :=
 .ask (ltI (gI p 2) (gI p 0))
 (.ask (within (gI p 2) (List.length (gL p 1)))
 (.loop 2 [.l (D.els (D.fld (gD (gL p 1) (Int.toNat (gI p 2))) 1)), .i (gI p 0), .i 0, .l (gL p 1), .i (Int.ofNat (List.length (D.els (D.fld (gD (gL p 1) (Int.toNat (gI p 2))) 1)))), .i (gI p 2), .l (gL p 3), .l (gL p 4), .l (gL p 5), .l (gL p 6), .s (D.toS (D.fld (gD (gL p 1) (Int.toNat (gI p 2))) 0)), .l (D.els (D.fld (gD (gL p 1) (Int.toNat (gI p 2))) 1)), .i (D.toI (D.fld (gD (gL p 1) (Int.toNat (gI p 2))) 2))] (.cons (fun p0 =>
 .out (0, [.b (gB p0 1), .l (gL p0 4), .l (gL p0 5), .l (gL p0 6), .l (gL p0 7)]))
 (.cons (fun p0 =>
 .ask ((!(eqI (gI p0 9) 0)) && true)
 (.call wf_scalar [.i (gI p0 9)] 0 fun r1 _ =>
 .ask ((!(eqI (gI p0 9) 0)) && (!(D.toB r1)))
 (.out (0, [.b false, .l (gL p0 3), .l (gL p0 4), .l (gL p0 5), .l (gL p0 6)]))
 (.again [.i (gI p0 0), .l (gL p0 1), .i (wrapA .i64 ((gI p0 2) + 1)), .l (gL p0 3), .l (gL p0 4), .l (gL p0 5), .l (gL p0 6)]))
 (.ask ((!(eqI (gI p0 9) 0)) && (!(D.toB (.i 0))))
 (.out (0, [.b false, .l (gL p0 3), .l (gL p0 4), .l (gL p0 5), .l (gL p0 6)]))
 (.again [.i (gI p0 0), .l (gL p0 1), .i (wrapA .i64 ((gI p0 2) + 1)), .l (gL p0 3), .l (gL p0 4), .l (gL p0 5), .l (gL p0 6)])))
 .nil)))
 (.bad))
 (.out (1, [.l (gL p 3), .l (gL p 4), .l (gL p 5), .l (gL p 6)]))
def L_wf_formed_2 (p : List D) : Sh :=
 .ask (ltI (gI p 2) (gI p 4))
 (.ask (within (gI p 2) (List.length (gL p 0)))
 (.call wf_scalar [.i (D.toI (gD (gL p 0) (Int.toNat (gI p 2))))] 0 fun r0 _ =>
 .ask (!(D.toB r0))
 (.out (0, [.i (gI p 1), .b false, .l (gL p 3), .i (gI p 5), .l (gL p 6), .l (gL p 7), .l (gL p 8), .l (gL p 9), .s (gS p 10), .l (gL p 11), .i (gI p 12)]))
 (.again [.l (gL p 0), .i (gI p 1), .i (wrapA .i64 ((gI p 2) + 1)), .l (gL p 3), .i (gI p 4), .i (gI p 5), .l (gL p 6), .l (gL p 7), .l (gL p 8), .l (gL p 9), .s (gS p 10), .l (gL p 11), .i (gI p 12)]))
 (.bad))
 (.out (1, [.i (gI p 1), .l (gL p 3), .i (gI p 5), .l (gL p 6), .l (gL p 7), .l (gL p 8), .l (gL p 9), .s (gS p 10), .l (gL p 11), .i (gI p 12)]))
def L_wf_formed_4 (p : List D) : Sh :=
 .ask (ltI (gI p 2) (gI p 0))
 (.ask (within (gI p 2) (List.length (gL p 1)))
 (.ask ((!(eqI (D.toI (D.fld (gD (gL p 1) (Int.toNat (gI p 2))) 3)) 0)) && true)
 (.call wf_scalar [.i (D.toI (D.fld (gD (gL p 1) (Int.toNat (gI p 2))) 3))] 0 fun r0 _ =>
 .ask (((!(eqI (D.toI (D.fld (gD (gL p 1) (Int.toNat (gI p 2))) 3)) 0)) && (!(D.toB r0))) && ((!(eqI (D.toI (D.fld (gD (gL p 1) (Int.toNat (gI p 2))) 3)) 4)) || (D.toB (D.fld (gD (gL p 1) (Int.toNat (gI p 2))) 1))))
 (.out (0, [.b false]))
 (.loop 6 [.i 0, .l (D.els (D.fld (gD (gL p 1) (Int.toNat (gI p 2))) 2)), .i (gI p 0), .l (gL p 1), .i (Int.ofNat (List.length (D.els (D.fld (gD (gL p 1) (Int.toNat (gI p 2))) 2)))), .i (gI p 2), .s (D.toS (D.fld (gD (gL p 1) (Int.toNat (gI p 2))) 0)), .b (D.toB (D.fld (gD (gL p 1) (Int.toNat (gI p 2))) 1)), .l (D.els (D.fld (gD (gL p 1) (Int.toNat (gI p 2))) 2)), .i (D.toI (D.fld (gD (gL p 1) (Int.toNat (gI p 2))) 3)), .l (D.els (D.fld (gD (gL p 1) (Int.toNat (gI p 2))) 4))] (.cons (fun p1 =>
 .out (0, [.b (gB p1 1)]))
 (.cons (fun p1 =>
 .loop 8 [.i (gI p1 0), .i (Int.ofNat (List.length (gL p1 7))), .l (gL p1 1), .l (gL p1 7), .i (gI p1 2), .i 0] (.cons (fun p2 =>
 .out (0, [.b (gB p2 1)]))
 (.cons (fun p2 =>
 .again [.i (gI p2 0), .l (gL p2 1), .i (wrapA .i64 ((gI p2 2) + 1))])
 .nil)))
 .nil))))
 (.ask (((!(eqI (D.toI (D.fld (gD (gL p 1) (Int.toNat (gI p 2))) 3)) 0)) && (!(D.toB (.i 0)))) && ((!(eqI (D.toI (D.fld (gD (gL p 1) (Int.toNat (gI p 2))) 3)) 4)) || (D.toB (D.fld (gD (gL p 1) (Int.toNat (gI p 2))) 1))))
 (.out (0, [.b false]))
 (.loop 6 [.i 0, .l (D.els (D.fld (gD (gL p 1) (Int.toNat (gI p 2))) 2)), .i (gI p 0), .l (gL p 1), .i (Int.ofNat (List.length (D.els (D.fld (gD (gL p 1) (Int.toNat (gI p 2))) 2)))), .i (gI p 2), .s (D.toS (D.fld (gD (gL p 1) (Int.toNat (gI p 2))) 0)), .b (D.toB (D.fld (gD (gL p 1) (Int.toNat (gI p 2))) 1)), .l (D.els (D.fld (gD (gL p 1) (Int.toNat (gI p 2))) 2)), .i (D.toI (D.fld (gD (gL p 1) (Int.toNat (gI p 2))) 3)), .l (D.els (D.fld (gD (gL p 1) (Int.toNat (gI p 2))) 4))] (.cons (fun p0 =>
 .out (0, [.b (gB p0 1)]))
 (.cons (fun p0 =>
 .loop 8 [.i (gI p0 0), .i (Int.ofNat (List.length (gL p0 7))), .l (gL p0 1), .l (gL p0 7), .i (gI p0 2), .i 0] (.cons (fun p1 =>
 .out (0, [.b (gB p1 1)]))
 (.cons (fun p1 =>
 .again [.i (gI p1 0), .l (gL p1 1), .i (wrapA .i64 ((gI p1 2) + 1))])
 .nil)))
 .nil)))))
 (.bad))
 (.out (1, []))
def L_wf_formed_6 (p : List D) : Sh :=
 .ask (ltI (gI p 0) (gI p 4))
 (.ask (within (gI p 0) (List.length (gL p 1)))
 (.ask ((!((ltI (D.toI (gD (gL p 1) (Int.toNat (gI p 0)))) 1) || (ltI 4 (D.toI (gD (gL p 1) (Int.toNat (gI p 0))))))) && ((gB p 7) && true))
 (.call wf_scalar [.i (D.toI (gD (gL p 1) (Int.toNat (gI p 0))))] 0 fun r0 _ =>
 .ask (((ltI (D.toI (gD (gL p 1) (Int.toNat (gI p 0)))) 1) || (ltI 4 (D.toI (gD (gL p 1) (Int.toNat (gI p 0)))))) || ((gB p 7) && (!(D.toB r0))))
 (.out (0, [.i (gI p 2), .b false, .l (gL p 3), .i (gI p 5), .s (gS p 6), .b (gB p 7), .l (gL p 8), .i (gI p 9), .l (gL p 10)]))
 (.again [.i (wrapA .i64 ((gI p 0) + 1)), .l (gL p 1), .i (gI p 2), .l (gL p 3), .i (gI p 4), .i (gI p 5), .s (gS p 6), .b (gB p 7), .l (gL p 8), .i (gI p 9), .l (gL p 10)]))
 (.ask (((ltI (D.toI (gD (gL p 1) (Int.toNat (gI p 0)))) 1) || (ltI 4 (D.toI (gD (gL p 1) (Int.toNat (gI p 0)))))) || ((gB p 7) && (!(D.toB (.i 0)))))
 (.out (0, [.i (gI p 2), .b false, .l (gL p 3), .i (gI p 5), .s (gS p 6), .b (gB p 7), .l (gL p 8), .i (gI p 9), .l (gL p 10)]))
 (.again [.i (wrapA .i64 ((gI p 0) + 1)), .l (gL p 1), .i (gI p 2), .l (gL p 3), .i (gI p 4), .i (gI p 5), .s (gS p 6), .b (gB p 7), .l (gL p 8), .i (gI p 9), .l (gL p 10)])))
 (.bad))
 (.out (1, [.i (gI p 2), .l (gL p 3), .i (gI p 5), .s (gS p 6), .b (gB p 7), .l (gL p 8), .i (gI p 9), .l (gL p 10)]))
def L_wf_formed_8 (p : List D) : Sh :=
 .ask (ltI (gI p 5) (gI p 1))
 (.ask (within (gI p 5) (List.length (gL p 3)))
 (.loop 10 [.l (D.els (gD (gL p 3) (Int.toNat (gI p 5)))), .i 0, .i (gI p 0), .i (gI p 1), .i (Int.ofNat (List.length (D.els (gD (gL p 3) (Int.toNat (gI p 5)))))), .l (gL p 2), .l (gL p 3), .i (gI p 4), .i (gI p 5)] (.cons (fun p0 =>
 .out (0, [.i (gI p0 0), .b (gB p0 2), .l (gL p0 3), .i (gI p0 5)]))
 (.cons (fun p0 =>
 .again [.i (gI p0 0), .i (gI p0 1), .l (gL p0 2), .l (gL p0 3), .i (gI p0 4), .i (wrapA .i64 ((gI p0 5) + 1))])
 .nil)))
 (.bad))
 (.out (1, [.i (gI p 0), .l (gL p 2), .i (gI p 4)]))
def L_wf_formed_10 (p : List D) : Sh :=
 .ask (ltI (gI p 1) (gI p 4))
 (.ask (within (gI p 1) (List.length (gL p 0)))
 (.call wf_shaped [.l [.i (D.toI (D.fld (gD (gL p 0) (Int.toNat (gI p 1))) 0)), .i (D.toI (D.fld (gD (gL p 0) (Int.toNat (gI p 1))) 1)), .i (D.toI (D.fld (gD (gL p 0) (Int.toNat (gI p 1))) 2)), .i (D.toI (D.fld (gD (gL p 0) (Int.toNat (gI p 1))) 3)), .i (D.toI (D.fld (gD (gL p 0) (Int.toNat (gI p 1))) 4)), .l (D.els (D.fld (gD (gL p 0) (Int.toNat (gI p 1))) 5)), .l (D.els (D.fld (gD (gL p 0) (Int.toNat (gI p 1))) 6))]] 0 fun r0 _ =>
 .ask (!(D.toB r0))
 (.out (0, [.i (gI p 2), .i (gI p 3), .b false, .l (gL p 5), .l (gL p 6), .i (gI p 7), .i (gI p 8)]))
 (.again [.l (gL p 0), .i (wrapA .i64 ((gI p 1) + 1)), .i (gI p 2), .i (gI p 3), .i (gI p 4), .l (gL p 5), .l (gL p 6), .i (gI p 7), .i (gI p 8)]))
 (.bad))
 (.out (1, [.i (gI p 2), .i (gI p 3), .l (gL p 5), .l (gL p 6), .i (gI p 7), .i (gI p 8)]))
def S_wf_formed : STab := [(0, fun p => ⟨(t0 (t2 (.pb 1 0 0) .nil (t0 (t0 (t1 (.int .i64 (gI p 0))) .nil) .nil)) (t0 (t0 (t0 (t1 (.fz [] 38 lt1 (gL p 1))) .nil) .nil) (t0 (t0 (t1 (.int .i64 (gI p 2))) .nil) .nil))), [(1, ⟨0, [.fz [] 38 lt1 (gL p 3), .fz [] 67 [.str, .sl false 2 [.int .i64]] (gL p 4), .fz [] 70 [.str, .sl false 3 [.int .i64]] (gL p 5), .fz [] 43 lt2 (gL p 6)], none⟩)], [], 1⟩),
 (2, fun p => ⟨(t0 (t2 (.pb 1 0 0) (t0 (t0 .nil (t1 (.fz [] 3 [.int .i64] (gL p 0)))) .nil) (t0 (t0 (t1 (.int .i64 (gI p 1))) (t1 (.int .i64 (gI p 2)))) .nil)) (t0 (t2 (.pb 4 0 0) (t0 (t1 (.fz [] 38 lt1 (gL p 3))) (t1 (.int .i64 (gI p 4)))) .nil) (t0 (t0 (t1 (.int .i64 (gI p 5))) .nil) .nil))), [(1, ⟨0, [.fz [] 38 lt1 (gL p 6), .fz [] 67 [.str, .sl false 2 [.int .i64]] (gL p 7), .fz [] 70 [.str, .sl false 3 [.int .i64]] (gL p 8), .fz [] 43 lt2 (gL p 9)], none⟩), (4, ⟨0, [.str (gS p 10), .fz [] 3 [.int .i64] (gL p 11), .int .i64 (gI p 12)], none⟩)], [], 1⟩),
 (4, fun p => ⟨(t0 (t0 .nil (t0 .nil (t0 .nil (t0 (t1 (.int .i64 (gI p 0))) .nil)))) (t0 (t0 .nil (t0 .nil (t0 (t1 (.fz [] 43 lt2 (gL p 1))) .nil))) (t0 .nil (t0 .nil (t0 (t1 (.int .i64 (gI p 2))) .nil))))), [], [], 1⟩),
 (6, fun p => ⟨(t0 (t0 (t0 (t0 .nil (t0 (t0 (t1 (.int .i64 (gI p 0))) .nil) .nil)) .nil) (t0 .nil (t0 (t0 (t0 (t1 (.fz [] 3 [.int .i64] (gL p 1))) .nil) .nil) (t0 (t1 (.int .i64 (gI p 2))) .nil)))) (t0 (t0 (t1 (.pb 8 0 0)) (t0 .nil (t0 (t1 (.fz [] 43 lt2 (gL p 3))) .nil))) (t0 .nil (t0 (t0 (t0 (t1 (.int .i64 (gI p 4))) .nil) .nil) (t0 (t1 (.int .i64 (gI p 5))) .nil))))), [(8, ⟨0, [.str (gS p 6), .bool (gB p 7), .fz [] 3 [.int .i64] (gL p 8), .int .i64 (gI p 9), .fz [] 40 lt4 (gL p 10)], none⟩)], [], 1⟩),
 (8, fun p => ⟨(t0 (t0 .nil (t0 .nil (t0 .nil (t0 (t1 (.int .i64 (gI p 0))) (t0 (t1 (.int .i64 (gI p 1))) .nil))))) (t0 (t0 .nil (t0 .nil (t0 (t1 (.fz [] 43 lt2 (gL p 2))) (t0 (t1 (.fz [] 40 lt4 (gL p 3))) .nil)))) (t0 .nil (t0 .nil (t0 (t1 (.int .i64 (gI p 4))) (t0 (t1 (.int .i64 (gI p 5))) .nil)))))), [], [], 1⟩),
 (10, fun p => ⟨(t0 (t0 (t0 .nil (t0 (t0 (t0 .nil (t1 (.fz [] 27 lt5 (gL p 0)))) .nil) .nil)) (t0 .nil (t0 (t0 (t0 .nil (t1 (.int .i64 (gI p 1)))) .nil) (t0 (t1 (.int .i64 (gI p 2))) (t0 (t1 (.int .i64 (gI p 3))) .nil))))) (t0 (t0 .nil (t0 (t0 (t0 .nil (t1 (.int .i64 (gI p 4)))) .nil) (t0 (t1 (.fz [] 43 lt2 (gL p 5))) (t0 (t1 (.fz [] 40 lt4 (gL p 6))) .nil)))) (t0 .nil (t0 .nil (t0 (t1 (.int .i64 (gI p 7))) (t0 (t1 (.int .i64 (gI p 8))) .nil)))))), [], [], 1⟩)]
def T_wf_formed : TTab := [(0, [fun p => (.ret, ⟨(t0 (t1 (.pb 1 0 0)) (t1 (.bool (gB p 0)))), [(1, ⟨0, [.fz [] 38 lt1 (gL p 1), .fz [] 67 [.str, .sl false 2 [.int .i64]] (gL p 2), .fz [] 70 [.str, .sl false 3 [.int .i64]] (gL p 3), .fz [] 43 lt2 (gL p 4)], none⟩)], [], 1⟩),
  fun p => (.exit 0, ⟨(t0 (t1 (.pb 1 0 0)) (t0 .nil .nil)), [(1, ⟨0, [.fz [] 38 lt1 (gL p 0), .fz [] 67 [.str, .sl false 2 [.int .i64]] (gL p 1), .fz [] 70 [.str, .sl false 3 [.int .i64]] (gL p 2), .fz [] 43 lt2 (gL p 3)], none⟩)], [], 1⟩)]),
 (2, [fun p => (.ret, ⟨(t0 (t2 (.pb 1 0 0) .nil (t0 (t0 (t1 (.int .i64 (gI p 0))) .nil) .nil)) (t2 (.bool (gB p 1)) (t2 (.pb 4 0 0) (t0 (t1 (.fz [] 38 lt1 (gL p 2))) .nil) .nil) (t0 (t0 (t1 (.int .i64 (gI p 3))) .nil) .nil))), [(1, ⟨0, [.fz [] 38 lt1 (gL p 4), .fz [] 67 [.str, .sl false 2 [.int .i64]] (gL p 5), .fz [] 70 [.str, .sl false 3 [.int .i64]] (gL p 6), .fz [] 43 lt2 (gL p 7)], none⟩), (4, ⟨0, [.str (gS p 8), .fz [] 3 [.int .i64] (gL p 9), .int .i64 (gI p 10)], none⟩)], [], 1⟩),
  fun p => (.exit 2, ⟨(t0 (t2 (.pb 1 0 0) .nil (t0 (t0 (t1 (.int .i64 (gI p 0))) .nil) .nil)) (t0 (t2 (.pb 4 0 0) (t0 (t1 (.fz [] 38 lt1 (gL p 1))) .nil) .nil) (t0 (t0 (t1 (.int .i64 (gI p 2))) .nil) .nil))), [(1, ⟨0, [.fz [] 38 lt1 (gL p 3), .fz [] 67 [.str, .sl false 2 [.int .i64]] (gL p 4), .fz [] 70 [.str, .sl false 3 [.int .i64]] (gL p 5), .fz [] 43 lt2 (gL p 6)], none⟩), (4, ⟨0, [.str (gS p 7), .fz [] 3 [.int .i64] (gL p 8), .int .i64 (gI p 9)], none⟩)], [], 1⟩)]),
 (4, [fun p => (.ret, ⟨(t0 .nil (t1 (.bool (gB p 0)))), [], [], 1⟩),
  fun p => (.exit 4, ⟨(t0 .nil (t0 .nil .nil)), [], [], 1⟩)]),
 (6, [fun p => (.ret, ⟨(t0 (t0 .nil (t0 .nil (t0 .nil (t0 (t1 (.int .i64 (gI p 0))) .nil)))) (t2 (.bool (gB p 1)) (t0 (t1 (.pb 8 0 0)) (t0 .nil (t0 (t1 (.fz [] 43 lt2 (gL p 2))) .nil))) (t0 .nil (t0 .nil (t0 (t1 (.int .i64 (gI p 3))) .nil))))), [(8, ⟨0, [.str (gS p 4), .bool (gB p 5), .fz [] 3 [.int .i64] (gL p 6), .int .i64 (gI p 7), .fz [] 40 lt4 (gL p 8)], none⟩)], [], 1⟩),
  fun p => (.exit 6, ⟨(t0 (t0 .nil (t0 .nil (t0 .nil (t0 (t1 (.int .i64 (gI p 0))) .nil)))) (t0 (t0 (t1 (.pb 8 0 0)) (t0 .nil (t0 (t1 (.fz [] 43 lt2 (gL p 1))) .nil))) (t0 .nil (t0 .nil (t0 (t1 (.int .i64 (gI p 2))) .nil))))), [(8, ⟨0, [.str (gS p 3), .bool (gB p 4), .fz [] 3 [.int .i64] (gL p 5), .int .i64 (gI p 6), .fz [] 40 lt4 (gL p 7)], none⟩)], [], 1⟩)]),
 (8, [fun p => (.ret, ⟨(t0 (t0 .nil (t0 .nil (t0 .nil (t0 (t1 (.int .i64 (gI p 0))) .nil)))) (t2 (.bool (gB p 1)) (t0 .nil (t0 .nil (t0 (t1 (.fz [] 43 lt2 (gL p 2))) .nil))) (t0 .nil (t0 .nil (t0 (t1 (.int .i64 (gI p 3))) .nil))))), [], [], 1⟩),
  fun p => (.exit 8, ⟨(t0 (t0 .nil (t0 .nil (t0 .nil (t0 (t1 (.int .i64 (gI p 0))) .nil)))) (t0 (t0 .nil (t0 .nil (t0 (t1 (.fz [] 43 lt2 (gL p 1))) .nil))) (t0 .nil (t0 .nil (t0 (t1 (.int .i64 (gI p 2))) .nil))))), [], [], 1⟩)]),
 (10, [fun p => (.ret, ⟨(t0 (t0 .nil (t0 .nil (t0 .nil (t0 (t1 (.int .i64 (gI p 0))) (t0 (t1 (.int .i64 (gI p 1))) .nil))))) (t2 (.bool (gB p 2)) (t0 .nil (t0 .nil (t0 (t1 (.fz [] 43 lt2 (gL p 3))) (t0 (t1 (.fz [] 40 lt4 (gL p 4))) .nil)))) (t0 .nil (t0 .nil (t0 (t1 (.int .i64 (gI p 5))) (t0 (t1 (.int .i64 (gI p 6))) .nil)))))), [], [], 1⟩),
  fun p => (.exit 10, ⟨(t0 (t0 .nil (t0 .nil (t0 .nil (t0 (t1 (.int .i64 (gI p 0))) (t0 (t1 (.int .i64 (gI p 1))) .nil))))) (t0 (t0 .nil (t0 .nil (t0 (t1 (.fz [] 43 lt2 (gL p 2))) (t0 (t1 (.fz [] 40 lt4 (gL p 3))) .nil)))) (t0 .nil (t0 .nil (t0 (t1 (.int .i64 (gI p 4))) (t0 (t1 (.int .i64 (gI p 5))) .nil)))))), [], [], 1⟩)])]
def F_wf_formed : Fn := { np := 1, bs := [0, 2, 4, 6, 8, 10], main := M_wf_formed, lps := [(0, L_wf_formed_0), (2, L_wf_formed_2), (4, L_wf_formed_4), (6, L_wf_formed_6), (8, L_wf_formed_8), (10, L_wf_formed_10)] }
def M_wf_typed (x : List D) : Sh :=
 .call ir_Types [.l [.s (D.toS (D.fld (gD x 1) 0)), .b (D.toB (D.fld (gD x 1) 1)), .l (D.els (D.fld (gD x 1) 2)), .i (D.toI (D.fld (gD x 1) 3)), .l (D.els (D.fld (gD x 1) 4))]] 0 fun r0 _ =>
 .loop 0 [.i 0, .l (D.els (D.fld (gD x 1) 4)), .i (Int.ofNat (List.length (D.els (D.fld (gD x 1) 4)))), .l (D.els (D.fld (gD x 0) 0)), .l (D.els (D.fld (gD x 0) 1)), .l (D.els (D.fld (gD x 0) 2)), .l (D.els (D.fld (gD x 0) 3)), .s (D.toS (D.fld (gD x 1) 0)), .b (D.toB (D.fld (gD x 1) 1)), .l (D.els (D.fld (gD x 1) 2)), .i (D.toI (D.fld (gD x 1) 3)), .l (D.els (D.fld (gD x 1) 4)), .l (D.els r0)] (.cons (fun p1 =>
 .ret (.b (gB p1 0)) [])
 (.cons (fun p1 =>
 .ret (.b true) [])
 .nil))
def L_wf_typed_0 (p : List D) : Sh :=
 .ask (ltI (gI p 0) (gI p 2))
 (.ask (within (gI p 0) (List.length (gL p 1)))
 (.loop 2 [.i (gI p 0), .l (gL p 1), .i (Int.ofNat (List.length (D.els (gD (gL p 1) (Int.toNat (gI p 0)))))), .l (D.els (gD (gL p 1) (Int.toNat (gI p 0)))), .i (gI p 2), .i 0, .l (gL p 3), .l (gL p 4), .l (gL p 5), .l (gL p 6), .s (gS p 7), .b (gB p 8), .l (gL p 9), .i (gI p 10), .l (gL p 11), .l (gL p 12)] (.cons (fun p0 =>
 .out (0, [.b (gB p0 2)]))
 (.cons (fun p0 =>
 .again [.i (wrapA .i64 ((gI p0 0) + 1)), .l (gL p0 1), .i (gI p0 2), .l (gL p0 3), .l (gL p0 4), .l (gL p0 5), .l (gL p0 6), .s (gS p0 7), .b (gB p0 8), .l (gL p0 9), .i (gI p0 10), .l (gL p0 11), .l (gL p0 12)])
 .nil)))
 (.bad))
 (.out (1, []))
def L_wf_typed_2 (p : List D) : Sh :=
 .ask (ltI (gI p 5) (gI p 2))
 (.ask (within (gI p 5) (List.length (gL p 3)))
 (.call wf_fitting [.l [.l (gL p 6), .l (gL p 7), .l (gL p 8), .l (gL p 9)], .l [.s (gS p 10), .b (gB p 11), .l (gL p 12), .i (gI p 13), .l (gL p 14)], .l (gL p 15), .l [.i (D.toI (D.fld (gD (gL p 3) (Int.toNat (gI p 5))) 0)), .i (D.toI (D.fld (gD (gL p 3) (Int.toNat (gI p 5))) 1)), .i (D.toI (D.fld (gD (gL p 3) (Int.toNat (gI p 5))) 2)), .i (D.toI (D.fld (gD (gL p 3) (Int.toNat (gI p 5))) 3)), .i (D.toI (D.fld (gD (gL p 3) (Int.toNat (gI p 5))) 4)), .l (D.els (D.fld (gD (gL p 3) (Int.toNat (gI p 5))) 5)), .l (D.els (D.fld (gD (gL p 3) (Int.toNat (gI p 5))) 6))]] 0 fun r0 _ =>
 .ask (!(D.toB r0))
 (.out (0, [.i (gI p 0), .l (gL p 1), .b false, .i (gI p 4), .l (gL p 6), .l (gL p 7), .l (gL p 8), .l (gL p 9), .s (gS p 10), .b (gB p 11), .l (gL p 12), .i (gI p 13), .l (gL p 14), .l (gL p 15)]))
 (.again [.i (gI p 0), .l (gL p 1), .i (gI p 2), .l (gL p 3), .i (gI p 4), .i (wrapA .i64 ((gI p 5) + 1)), .l (gL p 6), .l (gL p 7), .l (gL p 8), .l (gL p 9), .s (gS p 10), .b (gB p 11), .l (gL p 12), .i (gI p 13), .l (gL p 14), .l (gL p 15)]))
 (.bad))
 (.out (1, [.i (gI p 0), .l (gL p 1), .i (gI p 4), .l (gL p 6), .l (gL p 7), .l (gL p 8), .l (gL p 9), .s (gS p 10), .b (gB p 11), .l (gL p 12), .i (gI p 13), .l (gL p 14), .l (gL p 15)]))
def S_wf_typed : STab := [(0, fun p => ⟨(t0 (t0 (t2 (.pb 3 0 0) (t0 (t1 (.int .i64 (gI p 0))) .nil) .nil) (t2 (.vw 12000000 0 []) .nil (t1 (.fz [] 40 lt4 (gL p 1))))) (t2 (.pb 2 0 0) .nil (t0 .nil (t1 (.int .i64 (gI p 2)))))), [(2, ⟨0, [.fz [] 38 lt1 (gL p 3), .fz [] 67 [.str, .sl false 2 [.int .i64]] (gL p 4), .fz [] 70 [.str, .sl false 3 [.int .i64]] (gL p 5), .fz [] 43 lt2 (gL p 6)], none⟩), (3, ⟨0, [.str (gS p 7), .bool (gB p 8), .fz [] 3 [.int .i64] (gL p 9), .int .i64 (gI p 10), .fz [] 40 lt4 (gL p 11)], none⟩)], [(12000000, ⟨3, [.int .i64], (gL p 12), [], 0, [0, 0, 0, 0], 0⟩)], 1⟩),
 (2, fun p => ⟨(t0 (t0 (t2 (.pb 3 0 0) (t0 (t1 (.int .i64 (gI p 0))) .nil) .nil) (t2 (.vw 12000000 0 []) .nil (t2 (.fz [] 40 lt4 (gL p 1)) (t1 (.int .i64 (gI p 2))) .nil))) (t2 (.pb 2 0 0) (t0 .nil (t0 (t1 (.fz [] 27 lt5 (gL p 3))) .nil)) (t0 .nil (t2 (.int .i64 (gI p 4)) (t1 (.int .i64 (gI p 5))) .nil)))), [(2, ⟨0, [.fz [] 38 lt1 (gL p 6), .fz [] 67 [.str, .sl false 2 [.int .i64]] (gL p 7), .fz [] 70 [.str, .sl false 3 [.int .i64]] (gL p 8), .fz [] 43 lt2 (gL p 9)], none⟩), (3, ⟨0, [.str (gS p 10), .bool (gB p 11), .fz [] 3 [.int .i64] (gL p 12), .int .i64 (gI p 13), .fz [] 40 lt4 (gL p 14)], none⟩)], [(12000000, ⟨3, [.int .i64], (gL p 15), [], 0, [0, 0, 0, 0], 0⟩)], 1⟩)]
def T_wf_typed : TTab := [(0, [fun p => (.ret, ⟨(t0 .nil (t0 (t1 (.bool (gB p 0))) .nil)), [], [], 1⟩),
  fun p => (.exit 0, ⟨(t0 .nil (t0 (t0 .nil .nil) .nil)), [], [], 1⟩)]),
 (2, [fun p => (.ret, ⟨(t0 (t0 (t2 (.pb 3 0 0) (t0 (t1 (.int .i64 (gI p 0))) .nil) .nil) (t2 (.vw 12000000 0 []) .nil (t1 (.fz [] 40 lt4 (gL p 1))))) (t2 (.pb 2 0 0) (t1 (.bool (gB p 2))) (t0 .nil (t1 (.int .i64 (gI p 3)))))), [(2, ⟨0, [.fz [] 38 lt1 (gL p 4), .fz [] 67 [.str, .sl false 2 [.int .i64]] (gL p 5), .fz [] 70 [.str, .sl false 3 [.int .i64]] (gL p 6), .fz [] 43 lt2 (gL p 7)], none⟩), (3, ⟨0, [.str (gS p 8), .bool (gB p 9), .fz [] 3 [.int .i64] (gL p 10), .int .i64 (gI p 11), .fz [] 40 lt4 (gL p 12)], none⟩)], [(12000000, ⟨3, [.int .i64], (gL p 13), [], 0, [0, 0, 0, 0], 0⟩)], 1⟩),
  fun p => (.exit 2, ⟨(t0 (t0 (t2 (.pb 3 0 0) (t0 (t1 (.int .i64 (gI p 0))) .nil) .nil) (t2 (.vw 12000000 0 []) .nil (t1 (.fz [] 40 lt4 (gL p 1))))) (t2 (.pb 2 0 0) (t0 .nil .nil) (t0 .nil (t1 (.int .i64 (gI p 2)))))), [(2, ⟨0, [.fz [] 38 lt1 (gL p 3), .fz [] 67 [.str, .sl false 2 [.int .i64]] (gL p 4), .fz [] 70 [.str, .sl false 3 [.int .i64]] (gL p 5), .fz [] 43 lt2 (gL p 6)], none⟩), (3, ⟨0, [.str (gS p 7), .bool (gB p 8), .fz [] 3 [.int .i64] (gL p 9), .int .i64 (gI p 10), .fz [] 40 lt4 (gL p 11)], none⟩)], [(12000000, ⟨3, [.int .i64], (gL p 12), [], 0, [0, 0, 0, 0], 0⟩)], 1⟩)])]
def F_wf_typed : Fn := { np := 2, bs := [0, 2], main := M_wf_typed, lps := [(0, L_wf_typed_0), (2, L_wf_typed_2)] }
def M_ir_copyFunc (x : List D) : Sh :=
 .call slices_Clone_Sint_int [.l (D.els (D.fld (gD x 0) 2))] 0 fun r0 _ =>
 .loop 0 [.i (Int.ofNat (List.length (D.els (D.fld (gD x 0) 4)))), .l (D.els (D.fld (gD x 0) 4)), .i 0, .s (D.toS (D.fld (gD x 0) 0)), .b (D.toB (D.fld (gD x 0) 1)), .i (D.toI (D.fld (gD x 0) 3)), .s [], .b false, .i 0, .l [], .l (D.els r0)] (.cons (fun p1 =>
 .ret (.l [.s (gS p1 0), .b (gB p1 1), .l (gL p1 7), .i (gI p1 2), .l (gL p1 6)]) [])
 .nil)
def L_ir_copyFunc_0 (p : List D) : Sh :=
 .ask (ltI (gI p 2) (gI p 0))
 (.ask (within (gI p 2) (List.length (gL p 1)))
 (.loop 2 [.l (D.els (gD (gL p 1) (Int.toNat (gI p 2)))), .i (gI p 0), .i 0, .l (gL p 1), .i (Int.ofNat (List.length (D.els (gD (gL p 1) (Int.toNat (gI p 2)))))), .i (gI p 2), .s (gS p 3), .b (gB p 4), .i (gI p 5), .s (gS p 6), .b (gB p 7), .i (gI p 8), .l [], .l (gL p 9), .l (gL p 10)] (.cons (fun p0 =>
 .ask (lim ((List.length (gL p0 10)) + 1) 24)
 (.again [.i (gI p0 0), .l (gL p0 1), .i (wrapA .i64 ((gI p0 2) + 1)), .s (gS p0 3), .b (gB p0 4), .i (gI p0 5), .s (gS p0 6), .b (gB p0 7), .i (gI p0 8), .l ((gL p0 10) ++ [.l (gL p0 9)]), .l (gL p0 11)])
 (.bad))
 .nil))
 (.bad))
 (.out (0, [.s (gS p 3), .b (gB p 4), .i (gI p 5), .s (gS p 6), .b (gB p 7), .i (gI p 8), .l (gL p 9), .l (gL p 10)]))
def L_ir_copyFunc_2 (p : List D) : Sh :=
 .ask (ltI (gI p 2) (gI p 4))
 (.ask (within (gI p 2) (List.length (gL p 0)))
 (.call ir_copyIns [.l [.i (D.toI (D.fld (gD (gL p 0) (Int.toNat (gI p 2))) 0)), .i (D.toI (D.fld (gD (gL p 0) (Int.toNat (gI p 2))) 1)), .i (D.toI (D.fld (gD (gL p 0) (Int.toNat (gI p 2))) 2)), .i (D.toI (D.fld (gD (gL p 0) (Int.toNat (gI p 2))) 3)), .i (D.toI (D.fld (gD (gL p 0) (Int.toNat (gI p 2))) 4)), .l (D.els (D.fld (gD (gL p 0) (Int.toNat (gI p 2))) 5)), .l (D.els (D.fld (gD (gL p 0) (Int.toNat (gI p 2))) 6))]] 0 fun r0 _ =>
 .ask (lim ((List.length (gL p 12)) + 1) 88)
 (.again [.l (gL p 0), .i (gI p 1), .i (wrapA .i64 ((gI p 2) + 1)), .l (gL p 3), .i (gI p 4), .i (gI p 5), .s (gS p 6), .b (gB p 7), .i (gI p 8), .s (gS p 9), .b (gB p 10), .i (gI p 11), .l ((gL p 12) ++ [.l [.i (D.toI (D.fld r0 0)), .i (D.toI (D.fld r0 1)), .i (D.toI (D.fld r0 2)), .i (D.toI (D.fld r0 3)), .i (D.toI (D.fld r0 4)), .l (D.els (D.fld r0 5)), .l (D.els (D.fld r0 6))]]), .l (gL p 13), .l (gL p 14)])
 (.bad))
 (.bad))
 (.out (0, [.i (gI p 1), .l (gL p 3), .i (gI p 5), .s (gS p 6), .b (gB p 7), .i (gI p 8), .s (gS p 9), .b (gB p 10), .i (gI p 11), .l (gL p 12), .l (gL p 13), .l (gL p 14)]))
end
end Go.Eng.A
