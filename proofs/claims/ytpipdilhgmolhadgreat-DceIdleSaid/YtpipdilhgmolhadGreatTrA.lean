/- Part of the proof. -/
import Derived.Test.YtpipdilhgmolhadGreatEnv
set_option linter.unusedVariables false
namespace Go.Eng.I
open Go.Eng
noncomputable section
abbrev iX (x : D) (n : Nat) : Int := Int.ofNat (List.length (D.els (D.fld x n)))
abbrev iE (x : D) : Int := Int.ofNat (List.length (D.els x))
abbrev nX (x : D) (n : Nat) : Nat := List.length (D.els (D.fld x n))
abbrev nE (x : D) : Nat := List.length (D.els x)
abbrev eX (x : D) (n : Nat) : List D := D.els (D.fld x n)
abbrev vI (x : D) (n : Nat) : Int := D.toI (D.fld x n)
abbrev vB (x : D) (n : Nat) : Bool := D.toB (D.fld x n)
abbrev gE (x : D) (n : Nat) : D := gD (D.els x) n
abbrev iL {α : Type} (l : List α) : Int := Int.ofNat (List.length l)
abbrev aI (p : List D) (n : Nat) : D := .i (gI p n)
abbrev aL (p : List D) (n : Nat) : D := .l (gL p n)
abbrev aS (p : List D) (n : Nat) : D := .s (gS p n)
abbrev aB (p : List D) (n : Nat) : D := .b (gB p n)
abbrev aN (p : List D) (n : Nat) : D := .i (Int.ofNat (gN p n))
abbrev tI (p : List D) (n : Nat) : Nat := Int.toNat (gI p n)
abbrev nI (p : List D) (n : Nat) : A := .int .i64 (gI p n)
abbrev nB (p : List D) (n : Nat) : A := .bool (gB p n)
abbrev fL (t : TypeId) (l : List LT) (p : List D) (n : Nat) : A := .fz [] t l (gL p n)
abbrev Z : Tr := .nil
abbrev bX (n : Nat) (l : List A) : Nat × Bx := (n, ⟨0, l, none⟩)
abbrev aR (n : Nat) (t : TypeId) (l : List LT) (d : List D) : Nat × Arr := (n, ⟨t, l, d, [], 0, [0, 0, 0, 0], 0⟩)
abbrev main_main : Nat := 0
abbrev gosem_cut : Nat := 1
abbrev gosem_cut_init : Nat := 2
abbrev law21_DceIdle : Nat := 3
abbrev law21_first : Nat := 4
abbrev dce_Run : Nat := 5
abbrev r3_Check : Nat := 6
abbrev keep_Ops : Nat := 7
abbrev law21_waste : Nat := 8
abbrev r3_Whole : Nat := 9
abbrev wf_Check : Nat := 10
abbrev facts_Of : Nat := 11
abbrev facts_Facts_Idle : Nat := 12
abbrev ir_Copy : Nat := 13
abbrev dce_needed : Nat := 14
abbrev ir_Neat : Nat := 15
abbrev r3_limits : Nat := 16
abbrev r3_forms : Nat := 17
abbrev r3_names : Nat := 18
abbrev r3_syms : Nat := 19
abbrev r3_flows : Nat := 20
abbrev r3_uses : Nat := 21
abbrev r3_types : Nat := 22
abbrev r3_Size : Nat := 23
abbrev wf_small : Nat := 24
abbrev wf_formed : Nat := 25
abbrev wf_named : Nat := 26
abbrev wf_known : Nat := 27
abbrev wf_flows : Nat := 28
abbrev wf_used : Nat := 29
abbrev wf_typed : Nat := 30
abbrev ir_Types : Nat := 31
abbrev facts_Func_bases : Nat := 32
abbrev facts_Func_offs : Nat := 33
abbrev facts_Facts_Effects : Nat := 34
abbrev facts_Facts_Traps : Nat := 35
abbrev facts_Facts_Ends : Nat := 36
abbrev slices_Clone_Sint_int : Nat := 37
abbrev slices_Clone_Sint64_int64 : Nat := 38
abbrev ir_copyFunc : Nat := 39
abbrev dce_mute : Nat := 40
abbrev dce_does : Nat := 41
abbrev ir_rise : Nat := 42
abbrev r3_form : Nat := 43
abbrev r3_one : Nat := 44
abbrev r3_Ends : Nat := 45
abbrev r3_Reach : Nat := 46
abbrev r3_Prev : Nat := 47
abbrev r3_Ints : Nat := 48
abbrev r3_Where : Nat := 49
abbrev r3_Doms : Nat := 50
abbrev r3_Types : Nat := 51
abbrev r3_fits : Nat := 52
abbrev ir_Size : Nat := 53
abbrev wf_scalar : Nat := 54
abbrev wf_shaped : Nat := 55
abbrev wf_Name : Nat := 56
abbrev wf_Ends : Nat := 57
abbrev slices_Contains_Sbool_bool : Nat := 58
abbrev flow_Reach : Nat := 59
abbrev flow_Prev : Nat := 60
abbrev slices_Equal_Sint_int : Nat := 61
abbrev dom_Over : Nat := 62
abbrev wf_ahead : Nat := 63
abbrev wf_fitting : Nat := 64
abbrev slices_Concat_Sapi_Base_api_Base : Nat := 65
abbrev slices_Clone_Sapi_Base_api_Base : Nat := 66
abbrev slices_SortFunc_Sapi_Base_api_Base : Nat := 67
abbrev facts_lesser : Nat := 68
abbrev slices_Compact_Sapi_Base_api_Base : Nat := 69
abbrev facts_Func_off : Nat := 70
abbrev facts_Facts_effect : Nat := 71
abbrev facts_weight : Nat := 72
abbrev facts_Facts_Each : Nat := 73
abbrev facts_Facts_Traps_1 : Nat := 74
abbrev facts_Facts_Sure : Nat := 75
abbrev facts_Facts_At : Nat := 76
abbrev facts_Facts_Edges : Nat := 77
abbrev scc_Order : Nat := 78
abbrev flow_Loops : Nat := 79
abbrev scc_Rec : Nat := 80
abbrev ir_copyIns : Nat := 81
abbrev facts_Facts_Leaks : Nat := 82
abbrev dce_mute_1 : Nat := 83
abbrev facts_Facts_Safe : Nat := 84
abbrev r3_Mark : Nat := 85
abbrev r3_Name : Nat := 86
abbrev r3_from : Nat := 87
abbrev r3_Next : Nat := 88
abbrev r3_Values : Nat := 89
abbrev wf_Mark : Nat := 90
abbrev slices_Index_Sbool_bool : Nat := 91
abbrev flow_walked : Nat := 92
abbrev flow_Next : Nat := 93
abbrev dom_nearest : Nat := 94
abbrev dom_over : Nat := 95
abbrev wf_all : Nat := 96
abbrev wf_rows : Nat := 97
abbrev slices_Grow_Sapi_Base_api_Base : Nat := 98
abbrev slices_pdqsortCmpFunc_api_Base : Nat := 99
abbrev math_bits_Len : Nat := 100
abbrev facts_Func_Num : Nat := 101
abbrev facts_Facts_effect_1 : Nat := 102
abbrev facts_note : Nat := 103
abbrev facts_risen : Nat := 104
abbrev facts_Facts_Entry : Nat := 105
abbrev facts_Facts_Fits : Nat := 106
abbrev facts_Facts_Edges_1 : Nat := 107
abbrev scc_Of : Nat := 108
abbrev facts_Facts_Leaks_1 : Nat := 109
abbrev r3_Last : Nat := 110
abbrev r3_In : Nat := 111
abbrev flow_walker_visit : Nat := 112
abbrev slices_Contains_Sint_int : Nat := 113
abbrev dom_without : Nat := 114
abbrev slices_insertionSortCmpFunc_api_Base : Nat := 115
abbrev slices_heapSortCmpFunc_api_Base : Nat := 116
abbrev slices_breakPatternsCmpFunc_api_Base : Nat := 117
abbrev slices_choosePivotCmpFunc_api_Base : Nat := 118
abbrev slices_reverseRangeCmpFunc_api_Base : Nat := 119
abbrev slices_partialInsertionSortCmpFunc_api_Base : Nat := 120
abbrev slices_partitionEqualCmpFunc_api_Base : Nat := 121
abbrev slices_partitionCmpFunc_api_Base : Nat := 122
abbrev math_bits_Len32 : Nat := 123
abbrev math_bits_Len64 : Nat := 124
abbrev slices_Sort_Sint_int : Nat := 125
abbrev slices_Compact_Sint_int : Nat := 126
abbrev scc_tarjan_from : Nat := 127
abbrev scc_tarjan_free : Nat := 128
abbrev slices_Index_Sint_int : Nat := 129
abbrev slices_siftDownCmpFunc_api_Base : Nat := 130
abbrev slices_nextPowerOfTwo : Nat := 131
abbrev slices_xorshift_Next : Nat := 132
abbrev slices_medianAdjacentCmpFunc_api_Base : Nat := 133
abbrev slices_medianCmpFunc_api_Base : Nat := 134
abbrev slices_pdqsortOrdered_int : Nat := 135
abbrev scc_tarjan_open : Nat := 136
abbrev scc_tarjan_shut : Nat := 137
abbrev slices_order2CmpFunc_api_Base : Nat := 138
abbrev slices_insertionSortOrdered_int : Nat := 139
abbrev slices_heapSortOrdered_int : Nat := 140
abbrev slices_breakPatternsOrdered_int : Nat := 141
abbrev slices_choosePivotOrdered_int : Nat := 142
abbrev slices_reverseRangeOrdered_int : Nat := 143
abbrev slices_partialInsertionSortOrdered_int : Nat := 144
abbrev cmp_Less_int : Nat := 145
abbrev slices_partitionEqualOrdered_int : Nat := 146
abbrev slices_partitionOrdered_int : Nat := 147
abbrev slices_siftDownOrdered_int : Nat := 148
abbrev slices_medianAdjacentOrdered_int : Nat := 149
abbrev slices_medianOrdered_int : Nat := 150
abbrev cmp_isNaN_int : Nat := 151
abbrev slices_order2Ordered_int : Nat := 152
abbrev runtime_boundsError_Error : Nat := 153
abbrev runtime_boundsError_RuntimeError : Nat := 154
abbrev runtime_errorString_Error : Nat := 155
abbrev runtime_errorString_RuntimeError : Nat := 156
abbrev runtime_plainError_Error : Nat := 157
abbrev runtime_plainError_RuntimeError : Nat := 158
abbrev runtime_errorAddressString_Error : Nat := 159
abbrev runtime_errorAddressString_RuntimeError : Nat := 160
abbrev runtime_TypeAssertionError_Error : Nat := 161
abbrev runtime_TypeAssertionError_RuntimeError : Nat := 162
abbrev runtime_PanicNilError_Error : Nat := 163
abbrev runtime_PanicNilError_RuntimeError : Nat := 164
abbrev internal_abi_Type_Align : Nat := 165
abbrev internal_runtime_maps_unhashableTypeError_Error : Nat := 166
abbrev internal_runtime_maps_unhashableTypeError_RuntimeError : Nat := 167
abbrev api_Errno_Error : Nat := 168
abbrev internal_abi_Kind_String : Nat := 169
def lt0 : List LT := [.str, .sl false 3 [.int .i64], .int .i64]
def lt1 : List LT := [.str, .bool, .sl false 3 [.int .i64], .int .i64, .sl false 28 [.sl false 25 [.int .i64, .int .i64, .int .i64, .int .i64, .int .i64, .sl false 3 [.int .i64], .sl false 3 [.int .i64]]]]
def lt2 : List LT := [.sl false 25 [.int .i64, .int .i64, .int .i64, .int .i64, .int .i64, .sl false 3 [.int .i64], .sl false 3 [.int .i64]]]
def lt3 : List LT := [.int .i64, .int .i64, .int .i64, .int .i64, .int .i64, .sl false 3 [.int .i64], .sl false 3 [.int .i64]]
def lt4 : List LT := [.sl false 31 [.str, .sl false 3 [.int .i64], .int .i64], .sl false 35 [.str, .sl false 2 [.int .i64]], .sl false 68 [.str, .sl false 3 [.int .i64]], .sl false 38 [.str, .bool, .sl false 3 [.int .i64], .int .i64, .sl false 28 [.sl false 25 [.int .i64, .int .i64, .int .i64, .int .i64, .int .i64, .sl false 3 [.int .i64], .sl false 3 [.int .i64]]]], .sl false 4 [.bool], .sl false 73 [.sl false 3 [.int .i64], .sl false 108 [.sl false 107 [.int .i64, .int .i64]], .sl false 114 [.int .i64, .int .i64], .sl false 25 [.int .i64, .int .i64, .int .i64, .int .i64, .int .i64, .sl false 3 [.int .i64], .sl false 3 [.int .i64]]]]
def lt5 : List LT := [.sl true 3 [.int .i64], .sl true 3 [.int .i64], .sl true 3 [.int .i64], .sl true 3 [.int .i64], .bool]
def lt6 : List LT := [.sl true 25 [.int .i64, .int .i64, .int .i64, .int .i64, .int .i64, .sl false 3 [.int .i64], .sl false 3 [.int .i64]]]
def lt7 : List LT := [.sl false 3 [.int .i64], .sl false 108 [.sl false 107 [.int .i64, .int .i64]], .sl false 114 [.int .i64, .int .i64], .sl false 25 [.int .i64, .int .i64, .int .i64, .int .i64, .int .i64, .sl false 3 [.int .i64], .sl false 3 [.int .i64]]]
def lt8 : List LT := [.sl true 3 [.int .i64], .sl true 108 [.sl true 107 [.int .i64, .int .i64]], .sl true 114 [.int .i64, .int .i64], .sl true 25 [.int .i64, .int .i64, .int .i64, .int .i64, .int .i64, .sl false 3 [.int .i64], .sl false 3 [.int .i64]]]
def lt9 : List LT := [.str, .sl true 3 [.int .i64], .int .i64]
def lt10 : List LT := [.str, .bool, .sl true 3 [.int .i64], .int .i64, .sl true 28 [.sl true 25 [.int .i64, .int .i64, .int .i64, .int .i64, .int .i64, .sl false 3 [.int .i64], .sl false 3 [.int .i64]]]]
def lt11 : List LT := [.sl true 25 [.int .i64, .int .i64, .int .i64, .int .i64, .int .i64, .sl true 3 [.int .i64], .sl true 3 [.int .i64]]]
def lt12 : List LT := [.int .i64, .int .i64, .int .i64, .int .i64, .int .i64, .sl true 3 [.int .i64], .sl true 3 [.int .i64]]
def lt13 : List LT := [.sl false 3 [.int .i64], .sl false 3 [.int .i64], .sl false 3 [.int .i64], .sl false 3 [.int .i64], .bool]
def lt14 : List LT := [.sl false 23 [.sl false 3 [.int .i64]], .sl false 3 [.int .i64], .sl false 3 [.int .i64], .sl false 4 [.bool], .sl false 3 [.int .i64], .int .i64, .sl false 3 [.int .i64], .int .i64]
def mkD (f : Func) (h : Hint) (n : Nat) (F : Fn) (S : STab) (T : TTab) : FD := { f := f, h := h, c := cd f, s := sgOf sigs n, F := F, S := S, T := T }
abbrev KM (d : FD) : Prop := ∀ x : List D, mainX E d.h sites (itN E sites (tOf d.T) deep) (tOf d.T) d.f d.c d.s (expl x 0 d.F.np) = (d.F.main x).up d.S d.T 0
abbrev KL (d : FD) (b : Nat) (g : List D → Sh) : Prop := ∀ p : List D, roundX E (laOf d sites b).h sites (itN E sites (tOf d.T) deep) (laOf d sites b).lb (tOf d.T) (laOf d sites b).b (loopAt (laOf d sites b).b (laOf d sites b).c) (stOf d.S b p) = (g p).up d.S d.T b
def M_r3_syms (x : List D) : Sh :=
 .loop 0 [.i 0, .l (eX (gD x 0) 0), .l (eX (gD x 0) 1), .l (eX (gD x 0) 2), .l (eX (gD x 0) 3)] (.cons (fun p0 =>
 .ret (aB p0 0) [])
 (.cons (fun p0 =>
 .loop 4 [.i 0, aL p0 0, aL p0 1, aL p0 2, aL p0 3] (.cons (fun p1 =>
 .ret (aB p1 0) [])
 (.cons (fun p1 =>
 .ret (.b true) [])
 .nil)))
 .nil))
def L_r3_syms_0 (p : List D) : Sh :=
 .ask (ltI (gI p 0) (iL (gL p 3)))
 (.loop 2 [aI p 0, .i 0, aL p 1, aL p 2, aL p 3, aL p 4] (.cons (fun p0 =>
 .out (0, [aB p0 1, aL p0 2, aL p0 3, aL p0 4, aL p0 5]))
 (.cons (fun p0 =>
 .again [.i (addA .i64 (gI p0 0) 1), aL p0 1, aL p0 2, aL p0 3, aL p0 4])
 .nil)))
 (.out (1, [aL p 1, aL p 2, aL p 3, aL p 4]))
def L_r3_syms_2 (p : List D) : Sh :=
 .ask (within (gI p 0) (List.length (gL p 4)))
 (.ask (ltI (gI p 1) (iX (gD (gL p 4) (tI p 0)) 1))
 (.ask (within (gI p 0) (List.length (gL p 4)))
 (.ask (within (gI p 1) (nX (gD (gL p 4) (tI p 0)) 1))
 (.ask ((ltI (D.toI (gD (eX (gD (gL p 4) (tI p 0)) 1) (tI p 1))) (-1)) || (leI (iL (gL p 5)) (D.toI (gD (eX (gD (gL p 4) (tI p 0)) 1) (tI p 1)))))
 (.out (0, [aI p 0, .b false, aL p 2, aL p 3, aL p 4, aL p 5]))
 (.again [aI p 0, .i (addA .i64 (gI p 1) 1), aL p 2, aL p 3, aL p 4, aL p 5]))
 (.bad))
 (.bad))
 (.out (1, [aI p 0, aL p 2, aL p 3, aL p 4, aL p 5])))
 (.bad)
def L_r3_syms_4 (p : List D) : Sh :=
 .ask (ltI (gI p 0) (iL (gL p 4)))
 (.loop 6 [.i 0, aI p 0, aL p 1, aL p 2, aL p 3, aL p 4] (.cons (fun p0 =>
 .out (0, [aB p0 0]))
 (.cons (fun p0 =>
 .again [.i (addA .i64 (gI p0 0) 1), aL p0 1, aL p0 2, aL p0 3, aL p0 4])
 .nil)))
 (.out (1, []))
def L_r3_syms_6 (p : List D) : Sh :=
 .ask (within (gI p 1) (List.length (gL p 5)))
 (.ask (ltI (gI p 0) (iX (gD (gL p 5) (tI p 1)) 4))
 (.loop 8 [aI p 0, .i 0, aI p 1, aL p 2, aL p 3, aL p 4, aL p 5] (.cons (fun p0 =>
 .out (0, [aB p0 1, aI p0 2, aL p0 3, aL p0 4, aL p0 5, aL p0 6]))
 (.cons (fun p0 =>
 .again [.i (addA .i64 (gI p0 0) 1), aI p0 1, aL p0 2, aL p0 3, aL p0 4, aL p0 5])
 .nil)))
 (.out (1, [aI p 1, aL p 2, aL p 3, aL p 4, aL p 5])))
 (.bad)
def J_r3_syms_0 (p : List D) : Sh :=
 .ask (eqI (vI (gE (gD (eX (gD (gL p 6) (tI p 2)) 4) (tI p 0)) (tI p 1)) 0) 3)
 (.ask ((ltI (vI (gE (gD (eX (gD (gL p 6) (tI p 2)) 4) (tI p 0)) (tI p 1)) 3) 0) || (leI (iL (gL p 4)) (vI (gE (gD (eX (gD (gL p 6) (tI p 2)) 4) (tI p 0)) (tI p 1)) 3)))
 (.out (0, [aI p 0, .b false, aI p 2, aL p 3, aL p 4, aL p 5, aL p 6]))
 (.again [aI p 0, .i (addA .i64 (gI p 1) 1), aI p 2, aL p 3, aL p 4, aL p 5, aL p 6]))
 (.ask (eqI (vI (gE (gD (eX (gD (gL p 6) (tI p 2)) 4) (tI p 0)) (tI p 1)) 0) 23)
 (.ask ((ltI (vI (gE (gD (eX (gD (gL p 6) (tI p 2)) 4) (tI p 0)) (tI p 1)) 3) 0) || (leI (iL (gL p 3)) (vI (gE (gD (eX (gD (gL p 6) (tI p 2)) 4) (tI p 0)) (tI p 1)) 3)))
 (.out (0, [aI p 0, .b false, aI p 2, aL p 3, aL p 4, aL p 5, aL p 6]))
 (.again [aI p 0, .i (addA .i64 (gI p 1) 1), aI p 2, aL p 3, aL p 4, aL p 5, aL p 6]))
 (.ask (eqI (vI (gE (gD (eX (gD (gL p 6) (tI p 2)) 4) (tI p 0)) (tI p 1)) 0) 24)
 (.ask ((ltI (vI (gE (gD (eX (gD (gL p 6) (tI p 2)) 4) (tI p 0)) (tI p 1)) 3) 0) || (leI (iL (gL p 5)) (vI (gE (gD (eX (gD (gL p 6) (tI p 2)) 4) (tI p 0)) (tI p 1)) 3)))
 (.out (0, [aI p 0, .b false, aI p 2, aL p 3, aL p 4, aL p 5, aL p 6]))
 (.again [aI p 0, .i (addA .i64 (gI p 1) 1), aI p 2, aL p 3, aL p 4, aL p 5, aL p 6]))
 (.ask ((ltI (vI (gE (gD (eX (gD (gL p 6) (tI p 2)) 4) (tI p 0)) (tI p 1)) 3) 0) || (leI 1 (vI (gE (gD (eX (gD (gL p 6) (tI p 2)) 4) (tI p 0)) (tI p 1)) 3)))
 (.out (0, [aI p 0, .b false, aI p 2, aL p 3, aL p 4, aL p 5, aL p 6]))
 (.again [aI p 0, .i (addA .i64 (gI p 1) 1), aI p 2, aL p 3, aL p 4, aL p 5, aL p 6]))))
def J_r3_syms_1 (p : List D) : Sh :=
 .ask ((ltI (vI (gE (gD (eX (gD (gL p 6) (tI p 2)) 4) (tI p 0)) (tI p 1)) 3) 0) || (leI (iL (gL p 6)) (vI (gE (gD (eX (gD (gL p 6) (tI p 2)) 4) (tI p 0)) (tI p 1)) 3)))
 (.out (0, [aI p 0, .b false, aI p 2, aL p 3, aL p 4, aL p 5, aL p 6]))
 (.again [aI p 0, .i (addA .i64 (gI p 1) 1), aI p 2, aL p 3, aL p 4, aL p 5, aL p 6])
def L_r3_syms_8 (p : List D) : Sh :=
 .ask (within (gI p 2) (List.length (gL p 6)))
 (.ask (within (gI p 0) (nX (gD (gL p 6) (tI p 2)) 4))
 (.ask (ltI (gI p 1) (iE (gD (eX (gD (gL p 6) (tI p 2)) 4) (tI p 0))))
 (.ask (within (gI p 2) (List.length (gL p 6)))
 (.ask (within (gI p 0) (nX (gD (gL p 6) (tI p 2)) 4))
 (.ask (within (gI p 1) (nE (gD (eX (gD (gL p 6) (tI p 2)) 4) (tI p 0))))
 (.ask (eqI (vI (gE (gD (eX (gD (gL p 6) (tI p 2)) 4) (tI p 0)) (tI p 1)) 0) 2)
 (.ask (eqI (vI (gE (gD (eX (gD (gL p 6) (tI p 2)) 4) (tI p 0)) (tI p 1)) 0) 2)
 (J_r3_syms_1 p)
 (J_r3_syms_0 p))
 (.ask (eqI (vI (gE (gD (eX (gD (gL p 6) (tI p 2)) 4) (tI p 0)) (tI p 1)) 0) 22)
 (J_r3_syms_1 p)
 (J_r3_syms_0 p)))
 (.bad))
 (.bad))
 (.bad))
 (.out (1, [aI p 0, aI p 2, aL p 3, aL p 4, aL p 5, aL p 6])))
 (.bad))
 (.bad)
def S_r3_syms : STab := [(0, fun p => ⟨(t0 (t2 (.pb 1 0 0) (t1 (nI p 0)) Z) Z), [(1, ⟨0, [fL 31 lt0 p 1, .fz [] 35 [.str, .sl false 2 [.int .i64]] (gL p 2), .fz [] 68 [.str, .sl false 3 [.int .i64]] (gL p 3), fL 38 lt1 p 4], none⟩)], [], 1⟩),
 (2, fun p => ⟨(t0 (t2 (.pb 1 0 0) (t1 (nI p 0)) Z) (t0 (t1 (nI p 1)) Z)), [(1, ⟨0, [fL 31 lt0 p 2, .fz [] 35 [.str, .sl false 2 [.int .i64]] (gL p 3), .fz [] 68 [.str, .sl false 3 [.int .i64]] (gL p 4), fL 38 lt1 p 5], none⟩)], [], 1⟩),
 (4, fun p => ⟨(t0 (t1 (.pb 1 0 0)) (t0 Z (t1 (nI p 0)))), [(1, ⟨0, [fL 31 lt0 p 1, .fz [] 35 [.str, .sl false 2 [.int .i64]] (gL p 2), .fz [] 68 [.str, .sl false 3 [.int .i64]] (gL p 3), fL 38 lt1 p 4], none⟩)], [], 1⟩),
 (6, fun p => ⟨(t0 (t2 (.pb 1 0 0) (t0 (t1 (nI p 0)) Z) Z) (t0 Z (t1 (nI p 1)))), [(1, ⟨0, [fL 31 lt0 p 2, .fz [] 35 [.str, .sl false 2 [.int .i64]] (gL p 3), .fz [] 68 [.str, .sl false 3 [.int .i64]] (gL p 4), fL 38 lt1 p 5], none⟩)], [], 1⟩),
 (8, fun p => ⟨(t0 (t2 (.pb 1 0 0) (t0 (t1 (nI p 0)) Z) Z) (t0 (t0 (t1 (nI p 1)) Z) (t1 (nI p 2)))), [(1, ⟨0, [fL 31 lt0 p 3, .fz [] 35 [.str, .sl false 2 [.int .i64]] (gL p 4), .fz [] 68 [.str, .sl false 3 [.int .i64]] (gL p 5), fL 38 lt1 p 6], none⟩)], [], 1⟩)]
def T_r3_syms : TTab := [(0, [fun p => (.ret, ⟨(t0 (t1 (.pb 1 0 0)) (t1 (nB p 0))), [(1, ⟨0, [fL 31 lt0 p 1, .fz [] 35 [.str, .sl false 2 [.int .i64]] (gL p 2), .fz [] 68 [.str, .sl false 3 [.int .i64]] (gL p 3), fL 38 lt1 p 4], none⟩)], [], 1⟩),
  fun p => (.exit 0, ⟨(t0 (t1 (.pb 1 0 0)) (t0 Z Z)), [(1, ⟨0, [fL 31 lt0 p 0, .fz [] 35 [.str, .sl false 2 [.int .i64]] (gL p 1), .fz [] 68 [.str, .sl false 3 [.int .i64]] (gL p 2), fL 38 lt1 p 3], none⟩)], [], 1⟩)]),
 (2, [fun p => (.ret, ⟨(t0 (t2 (.pb 1 0 0) (t1 (nI p 0)) Z) (t1 (nB p 1))), [(1, ⟨0, [fL 31 lt0 p 2, .fz [] 35 [.str, .sl false 2 [.int .i64]] (gL p 3), .fz [] 68 [.str, .sl false 3 [.int .i64]] (gL p 4), fL 38 lt1 p 5], none⟩)], [], 1⟩),
  fun p => (.exit 2, ⟨(t0 (t2 (.pb 1 0 0) (t1 (nI p 0)) Z) (t0 Z Z)), [(1, ⟨0, [fL 31 lt0 p 1, .fz [] 35 [.str, .sl false 2 [.int .i64]] (gL p 2), .fz [] 68 [.str, .sl false 3 [.int .i64]] (gL p 3), fL 38 lt1 p 4], none⟩)], [], 1⟩)]),
 (4, [fun p => (.ret, ⟨(t0 Z (t1 (nB p 0))), [], [], 1⟩),
  fun p => (.exit 4, ⟨(t0 Z (t0 Z Z)), [], [], 1⟩)]),
 (6, [fun p => (.ret, ⟨(t0 (t1 (.pb 1 0 0)) (t2 (nB p 0) Z (t1 (nI p 1)))), [(1, ⟨0, [fL 31 lt0 p 2, .fz [] 35 [.str, .sl false 2 [.int .i64]] (gL p 3), .fz [] 68 [.str, .sl false 3 [.int .i64]] (gL p 4), fL 38 lt1 p 5], none⟩)], [], 1⟩),
  fun p => (.exit 6, ⟨(t0 (t1 (.pb 1 0 0)) (t0 Z (t1 (nI p 0)))), [(1, ⟨0, [fL 31 lt0 p 1, .fz [] 35 [.str, .sl false 2 [.int .i64]] (gL p 2), .fz [] 68 [.str, .sl false 3 [.int .i64]] (gL p 3), fL 38 lt1 p 4], none⟩)], [], 1⟩)]),
 (8, [fun p => (.ret, ⟨(t0 (t2 (.pb 1 0 0) (t0 (t1 (nI p 0)) Z) Z) (t2 (nB p 1) Z (t1 (nI p 2)))), [(1, ⟨0, [fL 31 lt0 p 3, .fz [] 35 [.str, .sl false 2 [.int .i64]] (gL p 4), .fz [] 68 [.str, .sl false 3 [.int .i64]] (gL p 5), fL 38 lt1 p 6], none⟩)], [], 1⟩),
  fun p => (.exit 8, ⟨(t0 (t2 (.pb 1 0 0) (t0 (t1 (nI p 0)) Z) Z) (t0 Z (t1 (nI p 1)))), [(1, ⟨0, [fL 31 lt0 p 2, .fz [] 35 [.str, .sl false 2 [.int .i64]] (gL p 3), .fz [] 68 [.str, .sl false 3 [.int .i64]] (gL p 4), fL 38 lt1 p 5], none⟩)], [], 1⟩)])]
def F_r3_syms : Fn := { np := 1, bs := [0, 2, 4, 6, 8], main := M_r3_syms, lps := [(0, L_r3_syms_0), (2, L_r3_syms_2), (4, L_r3_syms_4), (6, L_r3_syms_6), (8, L_r3_syms_8)] }
def M_r3_flows (x : List D) : Sh :=
 .loop 0 [.i 0, .s (D.toS (D.fld (gD x 0) 0)), .b (vB (gD x 0) 1), .l (eX (gD x 0) 2), .i (vI (gD x 0) 3), .l (eX (gD x 0) 4)] (.cons (fun p0 =>
 .ret (aB p0 0) [])
 (.cons (fun p0 =>
 .call r3_Reach [.l [aS p0 0, aB p0 1, aL p0 2, aI p0 3, aL p0 4]] 0 fun r1 _ =>
 .call r3_Prev [.l [aS p0 0, aB p0 1, aL p0 2, aI p0 3, aL p0 4]] 0 fun r2 _ =>
 .loop 6 [.i 0, aS p0 0, aB p0 1, aL p0 2, aI p0 3, aL p0 4, .l (D.els r1), .l (D.els r2)] (.cons (fun p3 =>
 .ret (aB p3 0) [])
 (.cons (fun p3 =>
 .ret (.b true) [])
 .nil)))
 .nil))
def L_r3_flows_0 (p : List D) : Sh :=
 .ask (ltI (gI p 0) (iL (gL p 5)))
 (.ask (within (gI p 0) (List.length (gL p 5)))
 (.ask (eqI (iE (gD (gL p 5) (tI p 0))) 0)
 (.out (0, [.b false, aS p 1, aB p 2, aL p 3, aI p 4, aL p 5]))
 (.loop 2 [aI p 0, .i 0, .l (D.els (gD (gL p 5) (tI p 0))), aS p 1, aB p 2, aL p 3, aI p 4, aL p 5] (.cons (fun p0 =>
 .out (0, [aB p0 1, aS p0 3, aB p0 4, aL p0 5, aI p0 6, aL p0 7]))
 (.cons (fun p0 =>
 .ask (within (wrapA .i64 ((iL (gL p0 1)) - 1)) (List.length (gL p0 1)))
 (.loop 4 [aI p0 0, .i 0, aS p0 2, aB p0 3, aL p0 4, aI p0 5, aL p0 6, .i (vI (gD (gL p0 1) (Int.toNat (wrapA .i64 ((iL (gL p0 1)) - 1)))) 0), .i (vI (gD (gL p0 1) (Int.toNat (wrapA .i64 ((iL (gL p0 1)) - 1)))) 1), .i (vI (gD (gL p0 1) (Int.toNat (wrapA .i64 ((iL (gL p0 1)) - 1)))) 2), .i (vI (gD (gL p0 1) (Int.toNat (wrapA .i64 ((iL (gL p0 1)) - 1)))) 3), .i (vI (gD (gL p0 1) (Int.toNat (wrapA .i64 ((iL (gL p0 1)) - 1)))) 4), .l (eX (gD (gL p0 1) (Int.toNat (wrapA .i64 ((iL (gL p0 1)) - 1)))) 5), .l (eX (gD (gL p0 1) (Int.toNat (wrapA .i64 ((iL (gL p0 1)) - 1)))) 6)] (.cons (fun p1 =>
 .out (0, [aB p1 1, aS p1 2, aB p1 3, aL p1 4, aI p1 5, aL p1 6]))
 (.cons (fun p1 =>
 .ask ((!((eqI (gI p1 6) 28) && true)) || (within 0 (List.length (gL p1 12))))
 (.ask ((!((eqI (gI p1 6) 28) && true)) || (within 1 (List.length (gL p1 12))))
 (.ask ((eqI (gI p1 6) 28) && (eqI (D.toI (gD (gL p1 12) 0)) (D.toI (gD (gL p1 12) 1))))
 (.out (0, [.b false, aS p1 1, aB p1 2, aL p1 3, aI p1 4, aL p1 5]))
 (.again [.i (addA .i64 (gI p1 0) 1), aS p1 1, aB p1 2, aL p1 3, aI p1 4, aL p1 5]))
 (.bad))
 (.bad))
 .nil)))
 (.bad))
 .nil))))
 (.bad))
 (.out (1, [aS p 1, aB p 2, aL p 3, aI p 4, aL p 5]))
def L_r3_flows_2 (p : List D) : Sh :=
 .ask (ltI (gI p 1) (iL (gL p 2)))
 (.ask (within (gI p 1) (List.length (gL p 2)))
 (.call r3_Ends [.i (vI (gD (gL p 2) (tI p 1)) 0)] 0 fun r0 _ =>
 .ask ((!((!(!(bif D.toB r0 then eqI (gI p 1) (wrapA .i64 ((iL (gL p 2)) - 1)) else !(eqI (gI p 1) (wrapA .i64 ((iL (gL p 2)) - 1)))))) && ((ltI 0 (gI p 1)) && true))) || (within (gI p 1) (List.length (gL p 2))))
 (.ask ((!((!(!(bif D.toB r0 then eqI (gI p 1) (wrapA .i64 ((iL (gL p 2)) - 1)) else !(eqI (gI p 1) (wrapA .i64 ((iL (gL p 2)) - 1)))))) && (((ltI 0 (gI p 1)) && (eqI (vI (gD (gL p 2) (tI p 1)) 0) 26)) && true))) || (within (wrapA .i64 ((gI p 1) - 1)) (List.length (gL p 2))))
 (.ask ((!(bif D.toB r0 then eqI (gI p 1) (wrapA .i64 ((iL (gL p 2)) - 1)) else !(eqI (gI p 1) (wrapA .i64 ((iL (gL p 2)) - 1))))) || (((ltI 0 (gI p 1)) && (eqI (vI (gD (gL p 2) (tI p 1)) 0) 26)) && (!(eqI (vI (gD (gL p 2) (Int.toNat (wrapA .i64 ((gI p 1) - 1)))) 0) 26))))
 (.out (0, [aI p 0, .b false, aL p 2, aS p 3, aB p 4, aL p 5, aI p 6, aL p 7]))
 (.again [aI p 0, .i (addA .i64 (gI p 1) 1), aL p 2, aS p 3, aB p 4, aL p 5, aI p 6, aL p 7]))
 (.bad))
 (.bad))
 (.bad))
 (.out (1, [aI p 0, aL p 2, aS p 3, aB p 4, aL p 5, aI p 6, aL p 7]))
def L_r3_flows_4 (p : List D) : Sh :=
 .ask (ltI (gI p 1) (iL (gL p 13)))
 (.ask (within (gI p 1) (List.length (gL p 13)))
 (.ask ((!(!(ltI (D.toI (gD (gL p 13) (tI p 1))) 1))) || (within (gI p 1) (List.length (gL p 13))))
 (.ask ((ltI (D.toI (gD (gL p 13) (tI p 1))) 1) || (leI (iL (gL p 6)) (D.toI (gD (gL p 13) (tI p 1)))))
 (.out (0, [aI p 0, .b false, aS p 2, aB p 3, aL p 4, aI p 5, aL p 6, aI p 7, aI p 8, aI p 9, aI p 10, aI p 11, aL p 12, aL p 13]))
 (.again [aI p 0, .i (addA .i64 (gI p 1) 1), aS p 2, aB p 3, aL p 4, aI p 5, aL p 6, aI p 7, aI p 8, aI p 9, aI p 10, aI p 11, aL p 12, aL p 13]))
 (.bad))
 (.bad))
 (.out (1, [aI p 0, aS p 2, aB p 3, aL p 4, aI p 5, aL p 6, aI p 7, aI p 8, aI p 9, aI p 10, aI p 11, aL p 12, aL p 13]))
def L_r3_flows_6 (p : List D) : Sh :=
 .ask (ltI (gI p 0) (iL (gL p 5)))
 (.ask (within (gI p 0) (List.length (gL p 6)))
 (.ask (!(D.toB (gD (gL p 6) (tI p 0))))
 (.out (0, [.b false]))
 (.ask (within (gI p 0) (List.length (gL p 5)))
 (.loop 8 [.l (D.els (gD (gL p 5) (tI p 0))), .i 0, aI p 0, aS p 1, aB p 2, aL p 3, aI p 4, aL p 5, aL p 6, aL p 7] (.cons (fun p0 =>
 .out (0, [aB p0 0]))
 (.cons (fun p0 =>
 .again [.i (addA .i64 (gI p0 0) 1), aS p0 1, aB p0 2, aL p0 3, aI p0 4, aL p0 5, aL p0 6, aL p0 7])
 .nil)))
 (.bad)))
 (.bad))
 (.out (1, []))
def L_r3_flows_8 (p : List D) : Sh :=
 .ask (ltI (gI p 1) (iL (gL p 0)))
 (.ask (within (gI p 1) (List.length (gL p 0)))
 (.ask ((!(((eqI (vI (gD (gL p 0) (tI p 1)) 0) 26) && true) && (!(eqI (gI p 2) 0)))) || (within (gI p 1) (List.length (gL p 0))))
 (.ask ((!(((eqI (vI (gD (gL p 0) (tI p 1)) 0) 26) && true) && (!(eqI (gI p 2) 0)))) || (within (gI p 2) (List.length (gL p 9))))
 (.ask (((eqI (vI (gD (gL p 0) (tI p 1)) 0) 26) && true) && (!(eqI (gI p 2) 0)))
 (.call r3_Ints [.l (eX (gD (gL p 0) (tI p 1)) 6), .l (D.els (gD (gL p 9) (tI p 2)))] 0 fun r0 _ =>
 .ask ((eqI (vI (gD (gL p 0) (tI p 1)) 0) 26) && ((eqI (gI p 2) 0) || (!(D.toB r0))))
 (.out (0, [.b false, aI p 2, aS p 3, aB p 4, aL p 5, aI p 6, aL p 7, aL p 8, aL p 9]))
 (.again [aL p 0, .i (addA .i64 (gI p 1) 1), aI p 2, aS p 3, aB p 4, aL p 5, aI p 6, aL p 7, aL p 8, aL p 9]))
 (.ask ((eqI (vI (gD (gL p 0) (tI p 1)) 0) 26) && ((eqI (gI p 2) 0) || (!(D.toB (.i 0)))))
 (.out (0, [.b false, aI p 2, aS p 3, aB p 4, aL p 5, aI p 6, aL p 7, aL p 8, aL p 9]))
 (.again [aL p 0, .i (addA .i64 (gI p 1) 1), aI p 2, aS p 3, aB p 4, aL p 5, aI p 6, aL p 7, aL p 8, aL p 9])))
 (.bad))
 (.bad))
 (.bad))
 (.out (1, [aI p 2, aS p 3, aB p 4, aL p 5, aI p 6, aL p 7, aL p 8, aL p 9]))
def S_r3_flows : STab := [(0, fun p => ⟨(t0 (t2 (.pb 1 0 0) (t1 (nI p 0)) Z) Z), [(1, ⟨0, [.str (gS p 1), nB p 2, fL 3 [.int .i64] p 3, nI p 4, fL 28 lt2 p 5], none⟩)], [], 1⟩),
 (2, fun p => ⟨(t0 (t2 (.pb 1 0 0) (t1 (nI p 0)) (t1 (nI p 1))) (t0 (t1 (fL 25 lt3 p 2)) Z)), [(1, ⟨0, [.str (gS p 3), nB p 4, fL 3 [.int .i64] p 5, nI p 6, fL 28 lt2 p 7], none⟩)], [], 1⟩),
 (4, fun p => ⟨(t0 (t2 (.pb 1 0 0) (t2 (nI p 0) (t1 (nI p 1)) Z) Z) (t0 Z (t1 (.pb 6 0 0)))), [(1, ⟨0, [.str (gS p 2), nB p 3, fL 3 [.int .i64] p 4, nI p 5, fL 28 lt2 p 6], none⟩), (6, ⟨0, [nI p 7, nI p 8, nI p 9, nI p 10, nI p 11, fL 3 [.int .i64] p 12, fL 3 [.int .i64] p 13], none⟩)], [], 1⟩),
 (6, fun p => ⟨(t0 (t2 (.pb 1 0 0) Z (t0 (t1 (.vw 116000000 0 [])) Z)) (t0 (t0 (t1 (.vw 114000000 0 [])) Z) (t0 (t1 (nI p 0)) Z))), [(1, ⟨0, [.str (gS p 1), nB p 2, fL 3 [.int .i64] p 3, nI p 4, fL 28 lt2 p 5], none⟩)], [aR 114000000 4 [.bool] (gL p 6), (116000000, ⟨23, [.sl true 3 [.int .i64]], (gL p 7), [], 0, [0, 0, 0, 0], 0⟩)], 1⟩),
 (8, fun p => ⟨(t0 (t2 (.pb 1 0 0) (t0 Z (t1 (fL 25 lt3 p 0))) (t0 (t1 (.vw 116000000 0 [])) Z)) (t0 (t0 (t1 (.vw 114000000 0 [])) (t1 (nI p 1))) (t0 (t1 (nI p 2)) Z))), [(1, ⟨0, [.str (gS p 3), nB p 4, fL 3 [.int .i64] p 5, nI p 6, fL 28 lt2 p 7], none⟩)], [aR 114000000 4 [.bool] (gL p 8), (116000000, ⟨23, [.sl true 3 [.int .i64]], (gL p 9), [], 0, [0, 0, 0, 0], 0⟩)], 1⟩)]
def T_r3_flows : TTab := [(0, [fun p => (.ret, ⟨(t0 (t1 (.pb 1 0 0)) (t1 (nB p 0))), [(1, ⟨0, [.str (gS p 1), nB p 2, fL 3 [.int .i64] p 3, nI p 4, fL 28 lt2 p 5], none⟩)], [], 1⟩),
  fun p => (.exit 0, ⟨(t0 (t1 (.pb 1 0 0)) (t0 Z Z)), [(1, ⟨0, [.str (gS p 0), nB p 1, fL 3 [.int .i64] p 2, nI p 3, fL 28 lt2 p 4], none⟩)], [], 1⟩)]),
 (2, [fun p => (.ret, ⟨(t0 (t2 (.pb 1 0 0) (t1 (nI p 0)) Z) (t2 (nB p 1) (t1 (fL 25 lt3 p 2)) Z)), [(1, ⟨0, [.str (gS p 3), nB p 4, fL 3 [.int .i64] p 5, nI p 6, fL 28 lt2 p 7], none⟩)], [], 1⟩),
  fun p => (.exit 2, ⟨(t0 (t2 (.pb 1 0 0) (t1 (nI p 0)) Z) (t0 (t1 (fL 25 lt3 p 1)) Z)), [(1, ⟨0, [.str (gS p 2), nB p 3, fL 3 [.int .i64] p 4, nI p 5, fL 28 lt2 p 6], none⟩)], [], 1⟩)]),
 (4, [fun p => (.ret, ⟨(t0 (t2 (.pb 1 0 0) (t1 (nI p 0)) Z) (t2 (nB p 1) Z (t1 (.pb 6 0 0)))), [(1, ⟨0, [.str (gS p 2), nB p 3, fL 3 [.int .i64] p 4, nI p 5, fL 28 lt2 p 6], none⟩), (6, ⟨0, [nI p 7, nI p 8, nI p 9, nI p 10, nI p 11, fL 3 [.int .i64] p 12, fL 3 [.int .i64] p 13], none⟩)], [], 1⟩),
  fun p => (.exit 4, ⟨(t0 (t2 (.pb 1 0 0) (t1 (nI p 0)) Z) (t0 Z (t1 (.pb 6 0 0)))), [(1, ⟨0, [.str (gS p 1), nB p 2, fL 3 [.int .i64] p 3, nI p 4, fL 28 lt2 p 5], none⟩), (6, ⟨0, [nI p 6, nI p 7, nI p 8, nI p 9, nI p 10, fL 3 [.int .i64] p 11, fL 3 [.int .i64] p 12], none⟩)], [], 1⟩)]),
 (6, [fun p => (.ret, ⟨(t0 Z (t1 (nB p 0))), [], [], 1⟩),
  fun p => (.exit 6, ⟨(t0 Z (t0 Z Z)), [], [], 1⟩)]),
 (8, [fun p => (.ret, ⟨(t0 (t2 (.pb 1 0 0) Z (t0 (t1 (.vw 116000000 0 [])) Z)) (t2 (nB p 0) (t0 (t1 (.vw 114000000 0 [])) Z) (t0 (t1 (nI p 1)) Z))), [(1, ⟨0, [.str (gS p 2), nB p 3, fL 3 [.int .i64] p 4, nI p 5, fL 28 lt2 p 6], none⟩)], [aR 114000000 4 [.bool] (gL p 7), (116000000, ⟨23, [.sl true 3 [.int .i64]], (gL p 8), [], 0, [0, 0, 0, 0], 0⟩)], 1⟩),
  fun p => (.exit 8, ⟨(t0 (t2 (.pb 1 0 0) Z (t0 (t1 (.vw 116000000 0 [])) Z)) (t0 (t0 (t1 (.vw 114000000 0 [])) Z) (t0 (t1 (nI p 0)) Z))), [(1, ⟨0, [.str (gS p 1), nB p 2, fL 3 [.int .i64] p 3, nI p 4, fL 28 lt2 p 5], none⟩)], [aR 114000000 4 [.bool] (gL p 6), (116000000, ⟨23, [.sl true 3 [.int .i64]], (gL p 7), [], 0, [0, 0, 0, 0], 0⟩)], 1⟩)])]
def F_r3_flows : Fn := { np := 1, bs := [0, 2, 4, 6, 8], main := M_r3_flows, lps := [(0, L_r3_flows_0), (2, L_r3_flows_2), (4, L_r3_flows_4), (6, L_r3_flows_6), (8, L_r3_flows_8)] }
def M_facts_Facts_Effects (x : List D) : Sh :=
 .ask ((leI 0 (iX (gD x 0) 3)) && ((eqI (iX (gD x 0) 3) (iX (gD x 0) 3)) && (lim (Int.toNat (iX (gD x 0) 3)) 104)))
 (.loop 0 [(gD x 0), .b true, .l (List.replicate (nX (gD x 0) 3) (D.l [.l [], .l [], .l [], .l [], .b false]))] (.cons (fun p0 =>
 .ret (aL p0 0) [])
 .nil))
 (.bad)
def L_facts_Facts_Effects_0 (p : List D) : Sh :=
 .ask (gB p 1)
 (.loop 2 [(gD p 0), .i 0, .b false, .i (iL (gL p 2)), aL p 2] (.cons (fun p0 =>
 .again [(gD p0 0), aB p0 1, aL p0 2])
 .nil))
 (.out (0, [aL p 2]))
def L_facts_Facts_Effects_2 (p : List D) : Sh :=
 .ask (ltI (gI p 1) (gI p 3))
 (.call facts_Facts_effect [(gD p 0), aI p 1, aL p 4] 0 fun r0 _ =>
 .ask (within (gI p 1) (List.length (gL p 4)))
 (.call facts_weight [.l [.l (eX r0 0), .l (eX r0 1), .l (eX r0 2), .l (eX r0 3), .b (vB r0 4)]] 0 fun r1 _ =>
 .call facts_weight [.l [.l (eX (gD (gL p 4) (tI p 1)) 0), .l (eX (gD (gL p 4) (tI p 1)) 1), .l (eX (gD (gL p 4) (tI p 1)) 2), .l (eX (gD (gL p 4) (tI p 1)) 3), .b (vB (gD (gL p 4) (tI p 1)) 4)]] 0 fun r2 _ =>
 .ask (!(eqI (D.toI r1) (D.toI r2)))
 (.ask (within (gI p 1) (List.length (gL p 4)))
 (.again (let z0 := List.set (gL p 4) (tI p 1) (D.l (setPad (D.els (gD (gL p 4) (tI p 1))) 0 (D.l (eX r0 0)))); let z1 := List.set z0 (tI p 1) (D.l (setPad (D.els (gD z0 (tI p 1))) 1 (D.l (eX r0 1)))); let z2 := List.set z1 (tI p 1) (D.l (setPad (D.els (gD z1 (tI p 1))) 2 (D.l (eX r0 2)))); let z3 := List.set z2 (tI p 1) (D.l (setPad (D.els (gD z2 (tI p 1))) 3 (D.l (eX r0 3)))); [(gD p 0), .i (addA .i64 (gI p 1) 1), .b true, aI p 3, .l (List.set z3 (tI p 1) (D.l (setPad (D.els (gD z3 (tI p 1))) 4 (D.b (vB r0 4)))))]))
 (.bad))
 (.ask (within (gI p 1) (List.length (gL p 4)))
 (.again (let z0 := List.set (gL p 4) (tI p 1) (D.l (setPad (D.els (gD (gL p 4) (tI p 1))) 0 (D.l (eX r0 0)))); let z1 := List.set z0 (tI p 1) (D.l (setPad (D.els (gD z0 (tI p 1))) 1 (D.l (eX r0 1)))); let z2 := List.set z1 (tI p 1) (D.l (setPad (D.els (gD z1 (tI p 1))) 2 (D.l (eX r0 2)))); let z3 := List.set z2 (tI p 1) (D.l (setPad (D.els (gD z2 (tI p 1))) 3 (D.l (eX r0 3)))); [(gD p 0), .i (addA .i64 (gI p 1) 1), aB p 2, aI p 3, .l (List.set z3 (tI p 1) (D.l (setPad (D.els (gD z3 (tI p 1))) 4 (D.b (vB r0 4)))))]))
 (.bad)))
 (.bad))
 (.out (0, [(gD p 0), aB p 2, aL p 4]))
def S_facts_Facts_Effects : STab := [(0, fun p => ⟨(t2 (.pz [] lt4 (gD p 0) 0) (t0 (t1 (.vw 13 0 [])) Z) (t0 (t1 (nB p 1)) Z)), [], [aR 13 78 lt5 (gL p 2)], 1⟩),
 (2, fun p => ⟨(t2 (.pz [] lt4 (gD p 0) 0) (t0 (t1 (.vw 13 0 [])) (t0 (t0 (t1 (nI p 1)) Z) Z)) (t0 (t2 (nB p 2) (t0 (t1 (nI p 3)) Z) Z) Z)), [], [aR 13 78 lt5 (gL p 4)], 1⟩)]
def T_facts_Facts_Effects : TTab := [(0, [fun p => (.exit 0, ⟨(t0 (t0 (t1 (.vw 13 0 [])) Z) (t0 Z Z)), [], [aR 13 78 lt5 (gL p 0)], 1⟩)]),
 (2, [fun p => (.exit 2, ⟨(t2 (.pz [] lt4 (gD p 0) 0) (t0 (t1 (.vw 13 0 [])) Z) (t0 (t1 (nB p 1)) Z)), [], [aR 13 78 lt5 (gL p 2)], 1⟩)])]
def F_facts_Facts_Effects : Fn := { np := 1, bs := [0, 2], main := M_facts_Facts_Effects, lps := [(0, L_facts_Facts_Effects_0), (2, L_facts_Facts_Effects_2)] }
def M_ir_copyFunc (x : List D) : Sh :=
 .call slices_Clone_Sint_int [.l (eX (gD x 0) 2)] 0 fun r0 _ =>
 .loop 0 [.i (iX (gD x 0) 4), .l (eX (gD x 0) 4), .i 0, .s (D.toS (D.fld (gD x 0) 0)), .b (vB (gD x 0) 1), .i (vI (gD x 0) 3), .s [], .b false, .i 0, .l [], .l (D.els r0)] (.cons (fun p1 =>
 .ret (.l [aS p1 0, aB p1 1, aL p1 7, aI p1 2, aL p1 6]) [])
 .nil)
def L_ir_copyFunc_0 (p : List D) : Sh :=
 .ask (ltI (gI p 2) (gI p 0))
 (.ask (within (gI p 2) (List.length (gL p 1)))
 (.loop 2 [.l (D.els (gD (gL p 1) (tI p 2))), aI p 0, .i 0, aL p 1, .i (iE (gD (gL p 1) (tI p 2))), aI p 2, aS p 3, aB p 4, aI p 5, aS p 6, aB p 7, aI p 8, .l [], aL p 9, aL p 10] (.cons (fun p0 =>
 .ask (lim ((List.length (gL p0 10)) + 1) 24)
 (.again [aI p0 0, aL p0 1, .i (addA .i64 (gI p0 2) 1), aS p0 3, aB p0 4, aI p0 5, aS p0 6, aB p0 7, aI p0 8, .l ((gL p0 10) ++ [aL p0 9]), aL p0 11])
 (.bad))
 .nil))
 (.bad))
 (.out (0, [aS p 3, aB p 4, aI p 5, aS p 6, aB p 7, aI p 8, aL p 9, aL p 10]))
def L_ir_copyFunc_2 (p : List D) : Sh :=
 .ask (ltI (gI p 2) (gI p 4))
 (.ask (within (gI p 2) (List.length (gL p 0)))
 (.call ir_copyIns [.l [.i (vI (gD (gL p 0) (tI p 2)) 0), .i (vI (gD (gL p 0) (tI p 2)) 1), .i (vI (gD (gL p 0) (tI p 2)) 2), .i (vI (gD (gL p 0) (tI p 2)) 3), .i (vI (gD (gL p 0) (tI p 2)) 4), .l (eX (gD (gL p 0) (tI p 2)) 5), .l (eX (gD (gL p 0) (tI p 2)) 6)]] 0 fun r0 _ =>
 .ask (lim ((List.length (gL p 12)) + 1) 88)
 (.again [aL p 0, aI p 1, .i (addA .i64 (gI p 2) 1), aL p 3, aI p 4, aI p 5, aS p 6, aB p 7, aI p 8, aS p 9, aB p 10, aI p 11, .l ((gL p 12) ++ [.l [.i (vI r0 0), .i (vI r0 1), .i (vI r0 2), .i (vI r0 3), .i (vI r0 4), .l (eX r0 5), .l (eX r0 6)]]), aL p 13, aL p 14])
 (.bad))
 (.bad))
 (.out (0, [aI p 1, aL p 3, aI p 5, aS p 6, aB p 7, aI p 8, aS p 9, aB p 10, aI p 11, aL p 12, aL p 13, aL p 14]))
def S_ir_copyFunc : STab := [(0, fun p => ⟨(t0 (t2 (.pb 1 0 0) Z (t0 (t0 (t1 (nI p 0)) Z) Z)) (t2 (.pb 2 0 0) (t0 (t0 (t1 (fL 28 lt2 p 1)) Z) Z) (t0 (t0 (t1 (nI p 2)) Z) Z))), [(1, ⟨0, [.str (gS p 3), nB p 4, .vw 12000000 0 [], nI p 5, .vw 300068 0 []], none⟩), (2, ⟨0, [.str (gS p 6), nB p 7, .nils, nI p 8, .nils], none⟩)], [aR 300068 28 lt6 (gL p 9), aR 12000000 3 [.int .i64] (gL p 10)], 1⟩),
 (2, fun p => ⟨(t0 (t2 (.pb 1 0 0) (t0 (t0 Z (t1 (fL 25 lt3 p 0))) Z) (t0 (t0 (t1 (nI p 1)) (t1 (nI p 2))) Z)) (t2 (.pb 2 0 0) (t0 (t0 (t1 (fL 28 lt2 p 3)) (t1 (nI p 4))) Z) (t2 (.vw 200006 0 []) (t0 (t1 (nI p 5)) Z) Z))), [(1, ⟨0, [.str (gS p 6), nB p 7, .vw 12000000 0 [], nI p 8, .vw 300068 0 []], none⟩), (2, ⟨0, [.str (gS p 9), nB p 10, .nils, nI p 11, .nils], none⟩)], [aR 200006 25 lt3 (gL p 12), aR 300068 28 lt6 (gL p 13), aR 12000000 3 [.int .i64] (gL p 14)], 1⟩)]
def T_ir_copyFunc : TTab := [(0, [fun p => (.exit 0, ⟨(t0 (t1 (.pb 1 0 0)) (t1 (.pb 2 0 0))), [(1, ⟨0, [.str (gS p 0), nB p 1, .vw 12000000 0 [], nI p 2, .vw 300068 0 []], none⟩), (2, ⟨0, [.str (gS p 3), nB p 4, .nils, nI p 5, .nils], none⟩)], [aR 300068 28 lt6 (gL p 6), aR 12000000 3 [.int .i64] (gL p 7)], 1⟩)]),
 (2, [fun p => (.exit 2, ⟨(t0 (t2 (.pb 1 0 0) Z (t0 (t0 (t1 (nI p 0)) Z) Z)) (t2 (.pb 2 0 0) (t0 (t0 (t1 (fL 28 lt2 p 1)) Z) Z) (t2 (.vw 200006 0 []) (t0 (t1 (nI p 2)) Z) Z))), [(1, ⟨0, [.str (gS p 3), nB p 4, .vw 12000000 0 [], nI p 5, .vw 300068 0 []], none⟩), (2, ⟨0, [.str (gS p 6), nB p 7, .nils, nI p 8, .nils], none⟩)], [aR 200006 25 lt3 (gL p 9), aR 300068 28 lt6 (gL p 10), aR 12000000 3 [.int .i64] (gL p 11)], 1⟩)])]
def F_ir_copyFunc : Fn := { np := 1, bs := [0, 2], main := M_ir_copyFunc, lps := [(0, L_ir_copyFunc_0), (2, L_ir_copyFunc_2)] }
def M_r3_Ints (x : List D) : Sh :=
 .ask (!(eqI (iE (gD x 0)) (iE (gD x 1))))
 (.ret (.b false) [])
 (.loop 0 [.l (D.els (gD x 0)), .l (D.els (gD x 1)), .i 0] (.cons (fun p0 =>
 .ret (aB p0 0) [])
 (.cons (fun p0 =>
 .ret (.b true) [])
 .nil)))
def L_r3_Ints_0 (p : List D) : Sh :=
 .ask (ltI (gI p 2) (iL (gL p 0)))
 (.ask (within (gI p 2) (List.length (gL p 0)))
 (.ask (within (gI p 2) (List.length (gL p 1)))
 (.ask (!(eqI (D.toI (gD (gL p 0) (tI p 2))) (D.toI (gD (gL p 1) (tI p 2)))))
 (.out (0, [.b false]))
 (.again [aL p 0, aL p 1, .i (addA .i64 (gI p 2) 1)]))
 (.bad))
 (.bad))
 (.out (1, []))
def S_r3_Ints : STab := [(0, fun p => ⟨(t2 (fL 3 [.int .i64] p 0) (t2 (fL 3 [.int .i64] p 1) Z (t1 (nI p 2))) Z), [], [], 1⟩)]
def T_r3_Ints : TTab := [(0, [fun p => (.ret, ⟨(t0 Z (t0 (t1 (nB p 0)) Z)), [], [], 1⟩),
  fun p => (.exit 0, ⟨(t0 Z (t0 (t0 Z Z) Z)), [], [], 1⟩)])]
def F_r3_Ints : Fn := { np := 2, bs := [0], main := M_r3_Ints, lps := [(0, L_r3_Ints_0)] }
def M_r3_Where (x : List D) : Sh :=
 .call r3_Values [.l [.s (D.toS (D.fld (gD x 0) 0)), .b (vB (gD x 0) 1), .l (eX (gD x 0) 2), .i (vI (gD x 0) 3), .l (eX (gD x 0) 4)]] 0 fun r0 _ =>
 .ask ((leI 0 (addA .i64 (D.toI r0) 1)) && ((eqI (addA .i64 (D.toI r0) 1) (addA .i64 (D.toI r0) 1)) && (lim (Int.toNat (addA .i64 (D.toI r0) 1)) 16)))
 (.loop 0 [.i 0, .s (D.toS (D.fld (gD x 0) 0)), .b (vB (gD x 0) 1), .l (eX (gD x 0) 2), .i (vI (gD x 0) 3), .l (eX (gD x 0) 4), .l (List.replicate (Int.toNat (addA .i64 (D.toI r0) 1)) (D.l [.i 0, .i 0]))] (.cons (fun p1 =>
 .loop 2 [.i (iL (gL p1 2)), .i 0, aS p1 0, aB p1 1, aL p1 2, aI p1 3, aL p1 4, aL p1 5] (.cons (fun p2 =>
 .ret (aL p2 0) [])
 .nil))
 .nil))
 (.bad)
def L_r3_Where_0 (p : List D) : Sh :=
 .ask (leI (gI p 0) (iL (gL p 3)))
 (.ask (within (gI p 0) (List.length (gL p 6)))
 (.again (let z0 := List.set (gL p 6) (tI p 0) (D.l (setPad (D.els (gD (gL p 6) (tI p 0))) 0 (D.i (-1)))); [.i (addA .i64 (gI p 0) 1), aS p 1, aB p 2, aL p 3, aI p 4, aL p 5, .l (List.set z0 (tI p 0) (D.l (setPad (D.els (gD z0 (tI p 0))) 1 (D.i (-1)))))]))
 (.bad))
 (.out (0, [aS p 1, aB p 2, aL p 3, aI p 4, aL p 5, aL p 6]))
def L_r3_Where_2 (p : List D) : Sh :=
 .ask (ltI (gI p 1) (iL (gL p 6)))
 (.loop 4 [.i 0, aI p 0, aI p 1, aS p 2, aB p 3, aL p 4, aI p 5, aL p 6, aL p 7] (.cons (fun p0 =>
 .again [aI p0 0, .i (addA .i64 (gI p0 1) 1), aS p0 2, aB p0 3, aL p0 4, aI p0 5, aL p0 6, aL p0 7])
 .nil))
 (.out (0, [aL p 7]))
def L_r3_Where_4 (p : List D) : Sh :=
 .ask (within (gI p 2) (List.length (gL p 7)))
 (.ask (ltI (gI p 0) (iE (gD (gL p 7) (tI p 2))))
 (.ask (within (gI p 2) (List.length (gL p 7)))
 (.ask (within (gI p 0) (nE (gD (gL p 7) (tI p 2))))
 (.ask (!(eqI (vI (gE (gD (gL p 7) (tI p 2)) (tI p 0)) 1) 0))
 (.ask (within (addA .i64 (gI p 1) 1) (List.length (gL p 8)))
 (.again (let z0 := List.set (gL p 8) (Int.toNat (addA .i64 (gI p 1) 1)) (D.l (setPad (D.els (gD (gL p 8) (Int.toNat (addA .i64 (gI p 1) 1)))) 0 (aI p 2))); [.i (addA .i64 (gI p 0) 1), .i (addA .i64 (gI p 1) 1), aI p 2, aS p 3, aB p 4, aL p 5, aI p 6, aL p 7, .l (List.set z0 (Int.toNat (addA .i64 (gI p 1) 1)) (D.l (setPad (D.els (gD z0 (Int.toNat (addA .i64 (gI p 1) 1)))) 1 (aI p 0))))]))
 (.bad))
 (.again [.i (addA .i64 (gI p 0) 1), aI p 1, aI p 2, aS p 3, aB p 4, aL p 5, aI p 6, aL p 7, aL p 8]))
 (.bad))
 (.bad))
 (.out (0, [aI p 1, aI p 2, aS p 3, aB p 4, aL p 5, aI p 6, aL p 7, aL p 8])))
 (.bad)
def S_r3_Where : STab := [(0, fun p => ⟨(t0 (t2 (.pb 1 0 0) (t1 (.vw 11 0 [])) Z) (t0 (t1 (nI p 0)) Z)), [(1, ⟨0, [.str (gS p 1), nB p 2, fL 3 [.int .i64] p 3, nI p 4, fL 28 lt2 p 5], none⟩)], [aR 11 98 [.int .i64, .int .i64] (gL p 6)], 1⟩),
 (2, fun p => ⟨(t0 (t2 (.pb 1 0 0) (t1 (.vw 11 0 [])) (t1 (nI p 0))) (t0 Z (t1 (nI p 1)))), [(1, ⟨0, [.str (gS p 2), nB p 3, fL 3 [.int .i64] p 4, nI p 5, fL 28 lt2 p 6], none⟩)], [aR 11 98 [.int .i64, .int .i64] (gL p 7)], 1⟩),
 (4, fun p => ⟨(t0 (t2 (.pb 1 0 0) (t2 (.vw 11 0 []) (t1 (nI p 0)) Z) (t1 (nI p 1))) (t0 Z (t1 (nI p 2)))), [(1, ⟨0, [.str (gS p 3), nB p 4, fL 3 [.int .i64] p 5, nI p 6, fL 28 lt2 p 7], none⟩)], [aR 11 98 [.int .i64, .int .i64] (gL p 8)], 1⟩)]
def T_r3_Where : TTab := [(0, [fun p => (.exit 0, ⟨(t0 (t2 (.pb 1 0 0) (t1 (.vw 11 0 [])) Z) (t0 Z Z)), [(1, ⟨0, [.str (gS p 0), nB p 1, fL 3 [.int .i64] p 2, nI p 3, fL 28 lt2 p 4], none⟩)], [aR 11 98 [.int .i64, .int .i64] (gL p 5)], 1⟩)]),
 (2, [fun p => (.exit 2, ⟨(t0 (t0 (t1 (.vw 11 0 [])) Z) (t0 Z Z)), [], [aR 11 98 [.int .i64, .int .i64] (gL p 0)], 1⟩)]),
 (4, [fun p => (.exit 4, ⟨(t0 (t2 (.pb 1 0 0) (t1 (.vw 11 0 [])) (t1 (nI p 0))) (t0 Z (t1 (nI p 1)))), [(1, ⟨0, [.str (gS p 2), nB p 3, fL 3 [.int .i64] p 4, nI p 5, fL 28 lt2 p 6], none⟩)], [aR 11 98 [.int .i64, .int .i64] (gL p 7)], 1⟩)])]
def F_r3_Where : Fn := { np := 1, bs := [0, 2, 4], main := M_r3_Where, lps := [(0, L_r3_Where_0), (2, L_r3_Where_2), (4, L_r3_Where_4)] }
def M_r3_Doms (x : List D) : Sh :=
 .ask ((leI 0 (iX (gD x 0) 4)) && ((eqI (iX (gD x 0) 4) (iX (gD x 0) 4)) && (lim (Int.toNat (iX (gD x 0) 4)) 24)))
 (.call r3_Reach [.l [.s (D.toS (D.fld (gD x 0) 0)), .b (vB (gD x 0) 1), .l (eX (gD x 0) 2), .i (vI (gD x 0) 3), .l (eX (gD x 0) 4)]] 0 fun r0 _ =>
 .loop 0 [.i 0, .s (D.toS (D.fld (gD x 0) 0)), .b (vB (gD x 0) 1), .l (eX (gD x 0) 2), .i (vI (gD x 0) 3), .l (eX (gD x 0) 4), .l (List.replicate (nX (gD x 0) 4) (D.l [])), .l (D.els r0)] (.cons (fun p1 =>
 .ret (aL p1 0) [])
 .nil))
 (.bad)
def L_r3_Doms_0 (p : List D) : Sh :=
 .ask (ltI (gI p 0) (iL (gL p 6)))
 (.ask ((leI 0 (iL (gL p 7))) && ((eqI (iL (gL p 7)) (iL (gL p 7))) && (lim (Int.toNat (iL (gL p 7))) 1)))
 (.ask (within (gI p 0) (List.length (gL p 6)))
 (.ask (within (gI p 0) (List.length (gL p 7)))
 (.ask (!(D.toB (gD (gL p 7) (tI p 0))))
 (.again [.i (addA .i64 (gI p 0) 1), aS p 1, aB p 2, aL p 3, aI p 4, aL p 5, .l (List.set (gL p 6) (tI p 0) (D.l (List.replicate (List.length (gL p 7)) (D.b false)))), aL p 7])
 (.call r3_from [.l [aS p 1, aB p 2, aL p 3, aI p 4, aL p 5], .i 0, aI p 0] 0 fun r0 _ =>
 .loop 2 [.i 0, aI p 0, aS p 1, aB p 2, aL p 3, aI p 4, aL p 5, .l (List.set (gL p 6) (tI p 0) (D.l (List.replicate (List.length (gL p 7)) (D.b false)))), aL p 7, .l (D.els r0)] (.cons (fun p1 =>
 .again [.i (addA .i64 (gI p1 0) 1), aS p1 1, aB p1 2, aL p1 3, aI p1 4, aL p1 5, aL p1 6, aL p1 7])
 .nil)))
 (.bad))
 (.bad))
 (.bad))
 (.out (0, [aL p 6]))
def L_r3_Doms_2 (p : List D) : Sh :=
 .ask (ltI (gI p 0) (iL (gL p 8)))
 (.ask (within (gI p 1) (List.length (gL p 7)))
 (.ask (within (gI p 0) (List.length (gL p 8)))
 (.ask ((!(((D.toB (gD (gL p 8) (tI p 0))) && true) && (!(eqI (gI p 1) (gI p 0))))) || (within (gI p 0) (List.length (gL p 9))))
 (.ask (within (gI p 0) (nE (gD (gL p 7) (tI p 1))))
 (.again [.i (addA .i64 (gI p 0) 1), aI p 1, aS p 2, aB p 3, aL p 4, aI p 5, aL p 6, .l (List.set (gL p 7) (tI p 1) (D.l (List.set (D.els (gD (gL p 7) (tI p 1))) (tI p 0) (D.b ((D.toB (gD (gL p 8) (tI p 0))) && ((eqI (gI p 1) (gI p 0)) || (!(D.toB (gD (gL p 9) (tI p 0)))))))))), aL p 8, aL p 9])
 (.bad))
 (.bad))
 (.bad))
 (.bad))
 (.out (0, [aI p 1, aS p 2, aB p 3, aL p 4, aI p 5, aL p 6, aL p 7, aL p 8]))
def S_r3_Doms : STab := [(0, fun p => ⟨(t0 (t2 (.pb 1 0 0) (t1 (.vw 11 0 [])) (t1 (nI p 0))) (t0 (t1 (.vw 14000000 0 [])) Z)), [(1, ⟨0, [.str (gS p 1), nB p 2, fL 3 [.int .i64] p 3, nI p 4, fL 28 lt2 p 5], none⟩)], [(11, ⟨53, [.sl true 4 [.bool]], (gL p 6), [], 0, [0, 0, 0, 0], 0⟩), aR 14000000 4 [.bool] (gL p 7)], 1⟩),
 (2, fun p => ⟨(t0 (t2 (.pb 1 0 0) (t2 (.vw 11 0 []) (t1 (nI p 0)) Z) (t1 (nI p 1))) (t0 (t1 (.vw 14000000 0 [])) (t1 (.vw 34000000 0 [])))), [(1, ⟨0, [.str (gS p 2), nB p 3, fL 3 [.int .i64] p 4, nI p 5, fL 28 lt2 p 6], none⟩)], [(11, ⟨53, [.sl true 4 [.bool]], (gL p 7), [], 0, [0, 0, 0, 0], 0⟩), aR 14000000 4 [.bool] (gL p 8), aR 34000000 4 [.bool] (gL p 9)], 1⟩)]
def T_r3_Doms : TTab := [(0, [fun p => (.exit 0, ⟨(t0 (t0 (t1 (.vw 11 0 [])) Z) (t0 Z Z)), [], [(11, ⟨53, [.sl true 4 [.bool]], (gL p 0), [], 0, [0, 0, 0, 0], 0⟩)], 1⟩)]),
 (2, [fun p => (.exit 2, ⟨(t0 (t2 (.pb 1 0 0) (t1 (.vw 11 0 [])) (t1 (nI p 0))) (t0 (t1 (.vw 14000000 0 [])) Z)), [(1, ⟨0, [.str (gS p 1), nB p 2, fL 3 [.int .i64] p 3, nI p 4, fL 28 lt2 p 5], none⟩)], [(11, ⟨53, [.sl true 4 [.bool]], (gL p 6), [], 0, [0, 0, 0, 0], 0⟩), aR 14000000 4 [.bool] (gL p 7)], 1⟩)])]
def F_r3_Doms : Fn := { np := 1, bs := [0, 2], main := M_r3_Doms, lps := [(0, L_r3_Doms_0), (2, L_r3_Doms_2)] }
def M_wf_scalar (x : List D) : Sh :=
 .ret (.b ((eqI (D.toI (gD x 0)) 1) || (eqI (D.toI (gD x 0)) 2))) []
def S_wf_scalar : STab := []
def T_wf_scalar : TTab := []
def F_wf_scalar : Fn := { np := 1, bs := [], main := M_wf_scalar, lps := [] }
def M_dom_Over (x : List D) : Sh :=
 .call dom_over [.l [.s (D.toS (D.fld (gD x 0) 0)), .b (vB (gD x 0) 1), .l (eX (gD x 0) 2), .i (vI (gD x 0) 3), .l (eX (gD x 0) 4)]] 0 fun r0 _ =>
 .call dom_nearest [.l (D.els r0)] 0 fun r1 _ =>
 .ret (.l (D.els r1)) []
def S_dom_Over : STab := []
def T_dom_Over : TTab := []
def F_dom_Over : Fn := { np := 1, bs := [], main := M_dom_Over, lps := [] }
def M_facts_weight (x : List D) : Sh :=
 .ask (vB (gD x 0) 4)
 (.ret (.i (addA .i64 (addA .i64 (addA .i64 (addA .i64 (iX (gD x 0) 0) (iX (gD x 0) 1)) (iX (gD x 0) 2)) (iX (gD x 0) 3)) 1)) [])
 (.ret (.i (addA .i64 (addA .i64 (addA .i64 (iX (gD x 0) 0) (iX (gD x 0) 1)) (iX (gD x 0) 2)) (iX (gD x 0) 3))) [])
def S_facts_weight : STab := []
def T_facts_weight : TTab := []
def F_facts_weight : Fn := { np := 1, bs := [], main := M_facts_weight, lps := [] }
def M_scc_Rec (x : List D) : Sh :=
 .ask ((ltI (D.toI (gD x 1)) 0) || (leI (iE (gD x 0)) (D.toI (gD x 1))))
 (.ret (.b false) [])
 (.ask ((leI 0 (iE (gD x 0))) && ((eqI (iE (gD x 0)) (iE (gD x 0))) && (lim (Int.toNat (iE (gD x 0))) 1)))
 (.loop 0 [.l (D.els (gD x 0)), .i (D.toI (gD x 1)), .l (List.replicate (nE (gD x 0)) (D.b false)), .l [.i (D.toI (gD x 1))]] (.cons (fun p0 =>
 .ret (aB p0 0) [])
 (.cons (fun p0 =>
 .ret (.b false) [])
 .nil)))
 (.bad))
def L_scc_Rec_0 (p : List D) : Sh :=
 .ask (ltI 0 (iL (gL p 3)))
 (.ask (within (wrapA .i64 ((iL (gL p 3)) - 1)) (List.length (gL p 3)))
 (.ask (bounds 0 (wrapA .i64 ((iL (gL p 3)) - 1)) (iL (gL p 3)))
 (.ask (within (D.toI (gD (gL p 3) (Int.toNat (wrapA .i64 ((iL (gL p 3)) - 1))))) (List.length (gL p 0)))
 (.loop 2 (let z0 := D.els (gD (gL p 0) (Int.toNat (D.toI (gD (gL p 3) (Int.toNat (wrapA .i64 ((iL (gL p 3)) - 1))))))); [aL p 0, aI p 1, .i (iL z0), .l z0, .i 0, aL p 2, .l (List.drop 0 (List.take (Int.toNat (wrapA .i64 ((iL (gL p 3)) - 1))) (gL p 3)))]) (.cons (fun p0 =>
 .out (0, [aB p0 2]))
 (.cons (fun p0 =>
 .again [aL p0 0, aI p0 1, aL p0 2, aL p0 3])
 .nil)))
 (.bad))
 (.bad))
 (.bad))
 (.out (1, []))
def L_scc_Rec_2 (p : List D) : Sh :=
 .ask (ltI (gI p 4) (gI p 2))
 (.ask (within (gI p 4) (List.length (gL p 3)))
 (.ask (eqI (D.toI (gD (gL p 3) (tI p 4))) (gI p 1))
 (.out (0, [aL p 0, aI p 1, .b true, aL p 5, aL p 6]))
 (.ask ((!(((leI 0 (D.toI (gD (gL p 3) (tI p 4)))) && (ltI (D.toI (gD (gL p 3) (tI p 4))) (iL (gL p 0)))) && true)) || (within (D.toI (gD (gL p 3) (tI p 4))) (List.length (gL p 5))))
 (.ask (((leI 0 (D.toI (gD (gL p 3) (tI p 4)))) && (ltI (D.toI (gD (gL p 3) (tI p 4))) (iL (gL p 0)))) && (!(D.toB (gD (gL p 5) (Int.toNat (D.toI (gD (gL p 3) (tI p 4))))))))
 (.ask (within (D.toI (gD (gL p 3) (tI p 4))) (List.length (gL p 5)))
 (.ask (lim ((List.length (gL p 6)) + 1) 8)
 (.again [aL p 0, aI p 1, aI p 2, aL p 3, .i (addA .i64 (gI p 4) 1), .l (List.set (gL p 5) (Int.toNat (D.toI (gD (gL p 3) (tI p 4)))) (D.b true)), .l ((gL p 6) ++ [.i (D.toI (gD (gL p 3) (tI p 4)))])])
 (.bad))
 (.bad))
 (.again [aL p 0, aI p 1, aI p 2, aL p 3, .i (addA .i64 (gI p 4) 1), aL p 5, aL p 6]))
 (.bad)))
 (.bad))
 (.out (1, [aL p 0, aI p 1, aL p 5, aL p 6]))
def S_scc_Rec : STab := [(0, fun p => ⟨(t2 (.fz [] 23 [.sl false 3 [.int .i64]] (gL p 0)) (t2 (nI p 1) Z (t1 (.vw 20 0 []))) (t0 Z (t1 (.vw 200006 0 [])))), [], [aR 20 4 [.bool] (gL p 2), aR 200006 3 [.int .i64] (gL p 3)], 1⟩),
 (2, fun p => ⟨(t2 (.fz [] 23 [.sl false 3 [.int .i64]] (gL p 0)) (t2 (nI p 1) Z (t2 (.vw 20 0 []) (t0 Z (t0 (t1 (nI p 2)) Z)) Z)) (t0 (t0 (t0 Z (t0 (t1 (fL 3 [.int .i64] p 3)) Z)) Z) (t2 (.vw 200006 0 []) (t0 Z (t0 (t1 (nI p 4)) Z)) Z))), [], [aR 20 4 [.bool] (gL p 5), aR 200006 3 [.int .i64] (gL p 6)], 1⟩)]
def T_scc_Rec : TTab := [(0, [fun p => (.ret, ⟨(t0 Z (t0 (t1 (nB p 0)) Z)), [], [], 1⟩),
  fun p => (.exit 0, ⟨(t0 Z (t0 (t0 Z Z) Z)), [], [], 1⟩)]),
 (2, [fun p => (.ret, ⟨(t2 (.fz [] 23 [.sl false 3 [.int .i64]] (gL p 0)) (t2 (nI p 1) Z (t1 (.vw 20 0 []))) (t0 (t1 (nB p 2)) (t1 (.vw 200006 0 [])))), [], [aR 20 4 [.bool] (gL p 3), aR 200006 3 [.int .i64] (gL p 4)], 1⟩),
  fun p => (.exit 2, ⟨(t2 (.fz [] 23 [.sl false 3 [.int .i64]] (gL p 0)) (t2 (nI p 1) Z (t1 (.vw 20 0 []))) (t0 (t0 Z Z) (t1 (.vw 200006 0 [])))), [], [aR 20 4 [.bool] (gL p 2), aR 200006 3 [.int .i64] (gL p 3)], 1⟩)])]
def F_scc_Rec : Fn := { np := 2, bs := [0, 2], main := M_scc_Rec, lps := [(0, L_scc_Rec_0), (2, L_scc_Rec_2)] }
def M_facts_Facts_Safe (x : List D) : Sh :=
 .ask ((!(eqI (vI (gD x 2) 0) 20)) && (!(eqI (vI (gD x 2) 0) 21)))
 (.ret (.b false) [])
 (.ask (within (D.toI (gD x 1)) (nX (gD x 0) 5))
 (.ask (within 0 (nX (gD x 2) 5))
 (.ask (within (D.toI (gD (eX (gD x 2) 5) 0)) (nX (gD (eX (gD x 0) 5) (Int.toNat (D.toI (gD x 1)))) 2))
 (.ask (!(eqI (vI (gD (eX (gD (eX (gD x 0) 5) (Int.toNat (D.toI (gD x 1)))) 2) (Int.toNat (D.toI (gD (eX (gD x 2) 5) 0)))) 0) 1))
 (.ret (.b false) [])
 (.ask (within 0 (nX (gD x 2) 5))
 (.ask (within (D.toI (gD (eX (gD x 2) 5) 0)) (nX (gD (eX (gD x 0) 5) (Int.toNat (D.toI (gD x 1)))) 1))
 (.ask (within 0 (nE (gD (eX (gD (eX (gD x 0) 5) (Int.toNat (D.toI (gD x 1)))) 1) (Int.toNat (D.toI (gD (eX (gD x 2) 5) 0))))))
 (.ask (eqI (vI (gE (gD (eX (gD (eX (gD x 0) 5) (Int.toNat (D.toI (gD x 1)))) 1) (Int.toNat (D.toI (gD (eX (gD x 2) 5) 0)))) 0) 0) 3)
 (.ask (within (vI (gE (gD (eX (gD (eX (gD x 0) 5) (Int.toNat (D.toI (gD x 1)))) 1) (Int.toNat (D.toI (gD (eX (gD x 2) 5) 0)))) 0) 1) (nX (gD x 0) 1))
 (let z0 := vI (gD (eX (gD (eX (gD x 0) 5) (Int.toNat (D.toI (gD x 1)))) 2) (Int.toNat (D.toI (gD (eX (gD x 2) 5) 0)))) 1; .ret (D.b ((leI 0 z0) && (ltI z0 (iX (gD (eX (gD x 0) 1) (Int.toNat (vI (gE (gD (eX (gD (eX (gD x 0) 5) (Int.toNat (D.toI (gD x 1)))) 1) (Int.toNat (D.toI (gD (eX (gD x 2) 5) 0)))) 0) 1))) 1)))) [])
 (.bad))
 (.ask (within (vI (gE (gD (eX (gD (eX (gD x 0) 5) (Int.toNat (D.toI (gD x 1)))) 1) (Int.toNat (D.toI (gD (eX (gD x 2) 5) 0)))) 0) 1) (nX (gD (eX (gD x 0) 5) (Int.toNat (D.toI (gD x 1)))) 3))
 (let z0 := vI (gD (eX (gD (eX (gD x 0) 5) (Int.toNat (D.toI (gD x 1)))) 2) (Int.toNat (D.toI (gD (eX (gD x 2) 5) 0)))) 1; .ret (D.b ((leI 0 z0) && (ltI z0 (vI (gD (eX (gD (eX (gD x 0) 5) (Int.toNat (D.toI (gD x 1)))) 3) (Int.toNat (vI (gE (gD (eX (gD (eX (gD x 0) 5) (Int.toNat (D.toI (gD x 1)))) 1) (Int.toNat (D.toI (gD (eX (gD x 2) 5) 0)))) 0) 1))) 4)))) [])
 (.bad)))
 (.bad))
 (.bad))
 (.bad)))
 (.bad))
 (.bad))
 (.bad))
def S_facts_Facts_Safe : STab := []
def T_facts_Facts_Safe : TTab := []
def F_facts_Facts_Safe : Fn := { np := 3, bs := [], main := M_facts_Facts_Safe, lps := [] }
def M_r3_Next (x : List D) : Sh :=
 .call r3_Last [.l [.s (D.toS (D.fld (gD x 0) 0)), .b (vB (gD x 0) 1), .l (eX (gD x 0) 2), .i (vI (gD x 0) 3), .l (eX (gD x 0) 4)], .i (D.toI (gD x 1))] 0 fun r0 _ =>
 .ask ((!(vB r0 1)) || ((!(eqI (vI (D.fld r0 0) 0) 27)) && (!(eqI (vI (D.fld r0 0) 0) 28))))
 (.ret (.l []) [])
 (.loop 0 [.i 0, .s (D.toS (D.fld (gD x 0) 0)), .b (vB (gD x 0) 1), .l (eX (gD x 0) 2), .i (vI (gD x 0) 3), .l (eX (gD x 0) 4), .i (vI (D.fld r0 0) 0), .i (vI (D.fld r0 0) 1), .i (vI (D.fld r0 0) 2), .i (vI (D.fld r0 0) 3), .i (vI (D.fld r0 0) 4), .l (eX (D.fld r0 0) 5), .l (eX (D.fld r0 0) 6), .l []] (.cons (fun p1 =>
 .ret (aL p1 0) [])
 .nil))
def J_r3_Next_0 (p : List D) : Sh :=
 .ask (lim ((List.length (gL p 13)) + 1) 8)
 (.again [.i (addA .i64 (gI p 0) 1), aS p 1, aB p 2, aL p 3, aI p 4, aL p 5, aI p 6, aI p 7, aI p 8, aI p 9, aI p 10, aL p 11, aL p 12, .l ((gL p 13) ++ [.i (D.toI (gD (gL p 12) (tI p 0)))])])
 (.bad)
def L_r3_Next_0 (p : List D) : Sh :=
 .ask (ltI (gI p 0) (iL (gL p 12)))
 (.ask (within (gI p 0) (List.length (gL p 12)))
 (.ask (((leI 0 (D.toI (gD (gL p 12) (tI p 0)))) && (ltI (D.toI (gD (gL p 12) (tI p 0))) (iL (gL p 5)))) && true)
 (.call r3_In [aL p 13, .i (D.toI (gD (gL p 12) (tI p 0)))] 0 fun r0 _ =>
 .ask (((leI 0 (D.toI (gD (gL p 12) (tI p 0)))) && (ltI (D.toI (gD (gL p 12) (tI p 0))) (iL (gL p 5)))) && (!(D.toB r0)))
 (J_r3_Next_0 p)
 (.again [.i (addA .i64 (gI p 0) 1), aS p 1, aB p 2, aL p 3, aI p 4, aL p 5, aI p 6, aI p 7, aI p 8, aI p 9, aI p 10, aL p 11, aL p 12, aL p 13]))
 (.ask (((leI 0 (D.toI (gD (gL p 12) (tI p 0)))) && (ltI (D.toI (gD (gL p 12) (tI p 0))) (iL (gL p 5)))) && (!(D.toB (.i 0))))
 (J_r3_Next_0 p)
 (.again [.i (addA .i64 (gI p 0) 1), aS p 1, aB p 2, aL p 3, aI p 4, aL p 5, aI p 6, aI p 7, aI p 8, aI p 9, aI p 10, aL p 11, aL p 12, aL p 13])))
 (.bad))
 (.out (0, [aL p 13]))
def S_r3_Next : STab := [(0, fun p => ⟨(t0 (t0 (t0 (t1 (.vw 200007 0 [])) Z) (t1 (.pb 5 0 0))) (t2 (.pb 2 0 0) (t0 (t1 (nI p 0)) Z) Z)), [(2, ⟨0, [.str (gS p 1), nB p 2, fL 3 [.int .i64] p 3, nI p 4, fL 28 lt2 p 5], none⟩), (5, ⟨0, [nI p 6, nI p 7, nI p 8, nI p 9, nI p 10, fL 3 [.int .i64] p 11, fL 3 [.int .i64] p 12], none⟩)], [aR 200007 3 [.int .i64] (gL p 13)], 1⟩)]
def T_r3_Next : TTab := [(0, [fun p => (.exit 0, ⟨(t0 (t0 (t0 (t1 (.vw 200007 0 [])) Z) Z) (t0 (t0 Z Z) Z)), [], [aR 200007 3 [.int .i64] (gL p 0)], 1⟩)])]
def F_r3_Next : Fn := { np := 2, bs := [0], main := M_r3_Next, lps := [(0, L_r3_Next_0)] }
def M_flow_walked (x : List D) : Sh :=
 .ask ((leI 0 (iX (gD x 0) 4)) && ((eqI (iX (gD x 0) 4) (iX (gD x 0) 4)) && (lim (Int.toNat (iX (gD x 0) 4)) 8)))
 (.ask (ltI 0 (iX (gD x 0) 4))
 (.call flow_walker_visit [.l [.s (D.toS (D.fld (gD x 0) 0)), .b (vB (gD x 0) 1), .l (eX (gD x 0) 2), .i (vI (gD x 0) 3), .l (eX (gD x 0) 4), .l (List.replicate (nX (gD x 0) 4) (D.i 0)), .l [], .b false], .i 0] 1 fun r0 q0 =>
 .ret (.l [.l [.s (D.toS (D.fld (gD q0 0) 0)), .b (vB (gD q0 0) 1), .l (eX (gD q0 0) 2), .i (vI (gD q0 0) 3), .l (eX (gD q0 0) 4), .l (eX (gD q0 0) 5), .l (eX (gD q0 0) 6), .b (vB (gD q0 0) 7)]]) [])
 (.ret (.l [.l [.s (D.toS (D.fld (gD x 0) 0)), .b (vB (gD x 0) 1), .l (eX (gD x 0) 2), .i (vI (gD x 0) 3), .l (eX (gD x 0) 4), .l (List.replicate (nX (gD x 0) 4) (D.i 0)), .l [], .b false]]) []))
 (.bad)
def S_flow_walked : STab := []
def T_flow_walked : TTab := []
def F_flow_walked : Fn := { np := 1, bs := [], main := M_flow_walked, lps := [] }
def M_flow_Next (x : List D) : Sh :=
 .ask ((!(!((ltI (D.toI (gD x 1)) 0) || (leI (iX (gD x 0) 4) (D.toI (gD x 1)))))) || (within (D.toI (gD x 1)) (nX (gD x 0) 4)))
 (.ask (((ltI (D.toI (gD x 1)) 0) || (leI (iX (gD x 0) 4) (D.toI (gD x 1)))) || (eqI (iE (gD (eX (gD x 0) 4) (Int.toNat (D.toI (gD x 1))))) 0))
 (.ret (.l []) [])
 (.ask (within (D.toI (gD x 1)) (nX (gD x 0) 4))
 (.ask (within (D.toI (gD x 1)) (nX (gD x 0) 4))
 (.ask (within (wrapA .i64 ((iE (gD (eX (gD x 0) 4) (Int.toNat (D.toI (gD x 1))))) - 1)) (nE (gD (eX (gD x 0) 4) (Int.toNat (D.toI (gD x 1))))))
 (.ask ((!(eqI (vI (gE (gD (eX (gD x 0) 4) (Int.toNat (D.toI (gD x 1)))) (Int.toNat (wrapA .i64 ((iE (gD (eX (gD x 0) 4) (Int.toNat (D.toI (gD x 1))))) - 1)))) 0) 27)) && (!(eqI (vI (gE (gD (eX (gD x 0) 4) (Int.toNat (D.toI (gD x 1)))) (Int.toNat (wrapA .i64 ((iE (gD (eX (gD x 0) 4) (Int.toNat (D.toI (gD x 1))))) - 1)))) 0) 28)))
 (.ret (.l []) [])
 (.loop 0 (let z0 := eX (gE (gD (eX (gD x 0) 4) (Int.toNat (D.toI (gD x 1)))) (Int.toNat (wrapA .i64 ((iE (gD (eX (gD x 0) 4) (Int.toNat (D.toI (gD x 1))))) - 1)))) 6; [.l z0, .i 0, .i (iL z0), .s (D.toS (D.fld (gD x 0) 0)), .b (vB (gD x 0) 1), .l (eX (gD x 0) 2), .i (vI (gD x 0) 3), .l (eX (gD x 0) 4), .l []]) (.cons (fun p0 =>
 .ret (aL p0 0) [])
 .nil)))
 (.bad))
 (.bad))
 (.bad)))
 (.bad)
def J_flow_Next_0 (p : List D) : Sh :=
 .ask (lim ((List.length (gL p 8)) + 1) 8)
 (.again [aL p 0, .i (addA .i64 (gI p 1) 1), aI p 2, aS p 3, aB p 4, aL p 5, aI p 6, aL p 7, .l ((gL p 8) ++ [.i (D.toI (gD (gL p 0) (tI p 1)))])])
 (.bad)
def L_flow_Next_0 (p : List D) : Sh :=
 .ask (ltI (gI p 1) (gI p 2))
 (.ask (within (gI p 1) (List.length (gL p 0)))
 (.ask (((leI 0 (D.toI (gD (gL p 0) (tI p 1)))) && (ltI (D.toI (gD (gL p 0) (tI p 1))) (iL (gL p 7)))) && true)
 (.call slices_Contains_Sint_int [aL p 8, .i (D.toI (gD (gL p 0) (tI p 1)))] 0 fun r0 _ =>
 .ask (((leI 0 (D.toI (gD (gL p 0) (tI p 1)))) && (ltI (D.toI (gD (gL p 0) (tI p 1))) (iL (gL p 7)))) && (!(D.toB r0)))
 (J_flow_Next_0 p)
 (.again [aL p 0, .i (addA .i64 (gI p 1) 1), aI p 2, aS p 3, aB p 4, aL p 5, aI p 6, aL p 7, aL p 8]))
 (.ask (((leI 0 (D.toI (gD (gL p 0) (tI p 1)))) && (ltI (D.toI (gD (gL p 0) (tI p 1))) (iL (gL p 7)))) && (!(D.toB (.i 0))))
 (J_flow_Next_0 p)
 (.again [aL p 0, .i (addA .i64 (gI p 1) 1), aI p 2, aS p 3, aB p 4, aL p 5, aI p 6, aL p 7, aL p 8])))
 (.bad))
 (.out (0, [aL p 8]))
def S_flow_Next : STab := [(0, fun p => ⟨(t0 (t0 (t0 (t0 Z (t0 Z (t1 (fL 3 [.int .i64] p 0)))) Z) (t2 (.vw 200005 0 []) (t0 Z (t0 Z (t1 (nI p 1)))) Z)) (t2 (.pb 2 0 0) (t0 (t0 Z (t0 Z (t1 (nI p 2)))) Z) Z)), [(2, ⟨0, [.str (gS p 3), nB p 4, fL 3 [.int .i64] p 5, nI p 6, fL 28 lt2 p 7], none⟩)], [aR 200005 3 [.int .i64] (gL p 8)], 1⟩)]
def T_flow_Next : TTab := [(0, [fun p => (.exit 0, ⟨(t0 (t0 Z (t1 (.vw 200005 0 []))) (t0 (t0 Z Z) Z)), [], [aR 200005 3 [.int .i64] (gL p 0)], 1⟩)])]
def F_flow_Next : Fn := { np := 2, bs := [0], main := M_flow_Next, lps := [(0, L_flow_Next_0)] }
def M_slices_pdqsortCmpFunc_api_Base (x : List D) : Sh :=
 .loop 0 [.l (D.els (gD x 0)), .i (D.toI (gD x 1)), .i (D.toI (gD x 3)), .b true, .i (D.toI (gD x 2)), .b true] (.cons (fun p0 =>
 .ret (.l []) [])
 .nil)
def L_slices_pdqsortCmpFunc_api_Base_0 (p : List D) : Sh :=
 .ask (leI (wrapA .i64 ((gI p 4) - (gI p 1))) 12)
 (.call slices_insertionSortCmpFunc_api_Base [aL p 0, aI p 1, aI p 4, .l []] 0 fun r0 _ =>
 .out (0, []))
 (.ask (eqI (gI p 2) 0)
 (.bad)
 (.ask (!(gB p 5))
 (.bad)
 (.bad)))
def S_slices_pdqsortCmpFunc_api_Base : STab := [(0, fun p => ⟨(t2 (fL 107 [.int .i64, .int .i64] p 0) (t2 (nI p 1) (t2 (nI p 2) Z (t1 (nB p 3))) Z) (t2 (nI p 4) (t1 (.fn 68 [])) (t0 (t1 (nB p 5)) Z))), [], [], 1⟩)]
def T_slices_pdqsortCmpFunc_api_Base : TTab := [(0, [fun p => (.ret, ⟨Z, [], [], 1⟩)])]
def F_slices_pdqsortCmpFunc_api_Base : Fn := { np := 5, bs := [0], main := M_slices_pdqsortCmpFunc_api_Base, lps := [(0, L_slices_pdqsortCmpFunc_api_Base_0)] }
def M_facts_Func_Num (x : List D) : Sh :=
 .ask (within (D.toI (gD x 1)) (nX (gD x 0) 3))
 (.ret (.l [.i (vI (gD (eX (gD x 0) 3) (Int.toNat (D.toI (gD x 1)))) 4), .b (eqI (vI (gD (eX (gD x 0) 3) (Int.toNat (D.toI (gD x 1)))) 0) 1)]) [])
 (.bad)
def S_facts_Func_Num : STab := []
def T_facts_Func_Num : TTab := []
def F_facts_Func_Num : Fn := { np := 2, bs := [], main := M_facts_Func_Num, lps := [] }
def M_slices_Contains_Sint_int (x : List D) : Sh :=
 .call slices_Index_Sint_int [.l (D.els (gD x 0)), .i (D.toI (gD x 1))] 0 fun r0 _ =>
 .ret (.b (leI 0 (D.toI r0))) []
def S_slices_Contains_Sint_int : STab := []
def T_slices_Contains_Sint_int : TTab := []
def F_slices_Contains_Sint_int : Fn := { np := 2, bs := [], main := M_slices_Contains_Sint_int, lps := [] }
def M_cmp_Less_int (x : List D) : Sh :=
 .call cmp_isNaN_int [.i (D.toI (gD x 0))] 0 fun r0 _ =>
 .ask ((D.toB r0) && true)
 (.call cmp_isNaN_int [.i (D.toI (gD x 1))] 0 fun r1 _ =>
 .ret (.b (((D.toB r0) && (!(D.toB r1))) || (ltI (D.toI (gD x 0)) (D.toI (gD x 1))))) [])
 (.ret (.b (((D.toB r0) && (!(D.toB (.i 0)))) || (ltI (D.toI (gD x 0)) (D.toI (gD x 1))))) [])
def S_cmp_Less_int : STab := []
def T_cmp_Less_int : TTab := []
def F_cmp_Less_int : Fn := { np := 2, bs := [], main := M_cmp_Less_int, lps := [] }
def M_keep_Ops (x : List D) : Sh :=
 .loop 0 [.i (D.toI (gD x 1)), .i 0, .i 0, .l (eX (gD x 0) 0), .l (eX (gD x 0) 1), .l (eX (gD x 0) 2), .l (eX (gD x 0) 3)] (.cons (fun p0 =>
 .ret (aI p0 0) [])
 .nil)
def L_keep_Ops_0 (p : List D) : Sh :=
 .ask (ltI (gI p 2) (iL (gL p 6)))
 (.loop 2 [aI p 0, .i 0, aI p 1, aI p 2, aL p 3, aL p 4, aL p 5, aL p 6] (.cons (fun p0 =>
 .again [aI p0 0, aI p0 1, .i (addA .i64 (gI p0 2) 1), aL p0 3, aL p0 4, aL p0 5, aL p0 6])
 .nil))
 (.out (0, [aI p 1]))
def L_keep_Ops_2 (p : List D) : Sh :=
 .ask (within (gI p 3) (List.length (gL p 7)))
 (.ask (ltI (gI p 1) (iX (gD (gL p 7) (tI p 3)) 4))
 (.loop 4 [aI p 0, aI p 1, aI p 2, .i 0, aI p 3, aL p 4, aL p 5, aL p 6, aL p 7] (.cons (fun p0 =>
 .again [aI p0 0, .i (addA .i64 (gI p0 1) 1), aI p0 2, aI p0 3, aL p0 4, aL p0 5, aL p0 6, aL p0 7])
 .nil))
 (.out (0, [aI p 0, aI p 2, aI p 3, aL p 4, aL p 5, aL p 6, aL p 7])))
 (.bad)
def L_keep_Ops_4 (p : List D) : Sh :=
 .ask (within (gI p 4) (List.length (gL p 8)))
 (.ask (within (gI p 1) (nX (gD (gL p 8) (tI p 4)) 4))
 (.ask (ltI (gI p 3) (iE (gD (eX (gD (gL p 8) (tI p 4)) 4) (tI p 1))))
 (.ask (within (gI p 4) (List.length (gL p 8)))
 (.ask (within (gI p 1) (nX (gD (gL p 8) (tI p 4)) 4))
 (.ask (within (gI p 3) (nE (gD (eX (gD (gL p 8) (tI p 4)) 4) (tI p 1))))
 (.ask (eqI (vI (gE (gD (eX (gD (gL p 8) (tI p 4)) 4) (tI p 1)) (tI p 3)) 0) (gI p 0))
 (.again [aI p 0, aI p 1, .i (addA .i64 (gI p 2) 1), .i (addA .i64 (gI p 3) 1), aI p 4, aL p 5, aL p 6, aL p 7, aL p 8])
 (.again [aI p 0, aI p 1, aI p 2, .i (addA .i64 (gI p 3) 1), aI p 4, aL p 5, aL p 6, aL p 7, aL p 8]))
 (.bad))
 (.bad))
 (.bad))
 (.out (0, [aI p 0, aI p 1, aI p 2, aI p 4, aL p 5, aL p 6, aL p 7, aL p 8])))
 (.bad))
 (.bad)
def S_keep_Ops : STab := [(0, fun p => ⟨(t0 (t2 (nI p 0) Z (t1 (nI p 1))) (t2 (.pb 2 0 0) Z (t1 (nI p 2)))), [(2, ⟨0, [fL 31 lt0 p 3, .fz [] 35 [.str, .sl false 2 [.int .i64]] (gL p 4), .fz [] 68 [.str, .sl false 3 [.int .i64]] (gL p 5), fL 38 lt1 p 6], none⟩)], [], 1⟩),
 (2, fun p => ⟨(t0 (t2 (nI p 0) (t0 (t1 (nI p 1)) Z) (t1 (nI p 2))) (t2 (.pb 2 0 0) Z (t1 (nI p 3)))), [(2, ⟨0, [fL 31 lt0 p 4, .fz [] 35 [.str, .sl false 2 [.int .i64]] (gL p 5), .fz [] 68 [.str, .sl false 3 [.int .i64]] (gL p 6), fL 38 lt1 p 7], none⟩)], [], 1⟩),
 (4, fun p => ⟨(t0 (t2 (nI p 0) (t0 (t1 (nI p 1)) Z) (t1 (nI p 2))) (t2 (.pb 2 0 0) (t0 (t1 (nI p 3)) Z) (t1 (nI p 4)))), [(2, ⟨0, [fL 31 lt0 p 5, .fz [] 35 [.str, .sl false 2 [.int .i64]] (gL p 6), .fz [] 68 [.str, .sl false 3 [.int .i64]] (gL p 7), fL 38 lt1 p 8], none⟩)], [], 1⟩)]
def T_keep_Ops : TTab := [(0, [fun p => (.exit 0, ⟨(t0 (t0 Z (t1 (nI p 0))) (t0 (t0 Z Z) Z)), [], [], 1⟩)]),
 (2, [fun p => (.exit 2, ⟨(t0 (t2 (nI p 0) Z (t1 (nI p 1))) (t2 (.pb 2 0 0) (t0 Z Z) (t1 (nI p 2)))), [(2, ⟨0, [fL 31 lt0 p 3, .fz [] 35 [.str, .sl false 2 [.int .i64]] (gL p 4), .fz [] 68 [.str, .sl false 3 [.int .i64]] (gL p 5), fL 38 lt1 p 6], none⟩)], [], 1⟩)]),
 (4, [fun p => (.exit 4, ⟨(t0 (t2 (nI p 0) (t0 (t1 (nI p 1)) Z) (t1 (nI p 2))) (t2 (.pb 2 0 0) (t0 Z Z) (t1 (nI p 3)))), [(2, ⟨0, [fL 31 lt0 p 4, .fz [] 35 [.str, .sl false 2 [.int .i64]] (gL p 5), .fz [] 68 [.str, .sl false 3 [.int .i64]] (gL p 6), fL 38 lt1 p 7], none⟩)], [], 1⟩)])]
def F_keep_Ops : Fn := { np := 2, bs := [0, 2, 4], main := M_keep_Ops, lps := [(0, L_keep_Ops_0), (2, L_keep_Ops_2), (4, L_keep_Ops_4)] }
def M_facts_Facts_Idle (x : List D) : Sh :=
 .call facts_Facts_Effects [(gD x 0)] 0 fun r0 _ =>
 .call facts_Facts_Traps [(gD x 0)] 0 fun r1 _ =>
 .call facts_Facts_Ends [(gD x 0)] 0 fun r2 _ =>
 .ask ((leI 0 (iX (gD x 0) 3)) && ((eqI (iX (gD x 0) 3) (iX (gD x 0) 3)) && (lim (Int.toNat (iX (gD x 0) 3)) 1)))
 (.loop 0 [.i (iE r0), .l (D.els r1), .i 0, .l (List.replicate (nX (gD x 0) 3) (D.b false)), .l (D.els r0), .l (D.els r2)] (.cons (fun p3 =>
 .ret (aL p3 0) [])
 .nil))
 (.bad)
def L_facts_Facts_Idle_0 (p : List D) : Sh :=
 .ask (ltI (gI p 2) (gI p 0))
 (.ask (within (gI p 2) (List.length (gL p 4)))
 (.ask ((!((((eqI (iX (gD (gL p 4) (tI p 2)) 1) 0) && (eqI (iX (gD (gL p 4) (tI p 2)) 3) 0)) && (!(vB (gD (gL p 4) (tI p 2)) 4))) && true)) || (within (gI p 2) (List.length (gL p 1))))
 (.ask ((!(((((eqI (iX (gD (gL p 4) (tI p 2)) 1) 0) && (eqI (iX (gD (gL p 4) (tI p 2)) 3) 0)) && (!(vB (gD (gL p 4) (tI p 2)) 4))) && (!(D.toB (gD (gL p 1) (tI p 2))))) && true)) || (within (gI p 2) (List.length (gL p 5))))
 (.ask (within (gI p 2) (List.length (gL p 3)))
 (.again [aI p 0, aL p 1, .i (addA .i64 (gI p 2) 1), .l (List.set (gL p 3) (tI p 2) (D.b (((((eqI (iX (gD (gL p 4) (tI p 2)) 1) 0) && (eqI (iX (gD (gL p 4) (tI p 2)) 3) 0)) && (!(vB (gD (gL p 4) (tI p 2)) 4))) && (!(D.toB (gD (gL p 1) (tI p 2))))) && (D.toB (gD (gL p 5) (tI p 2)))))), aL p 4, aL p 5])
 (.bad))
 (.bad))
 (.bad))
 (.bad))
 (.out (0, [aL p 3]))
def S_facts_Facts_Idle : STab := [(0, fun p => ⟨(t0 (t0 (t0 (t0 Z (t1 (nI p 0))) Z) (t1 (.vw 15000000 0 []))) (t0 (t2 (fL 4 [.bool] p 1) (t0 Z (t1 (nI p 2))) Z) (t2 (.vw 21 0 []) Z (t0 (t1 (.vw 11000000 0 [])) Z)))), [], [aR 21 4 [.bool] (gL p 3), aR 11000000 78 lt5 (gL p 4), aR 15000000 4 [.bool] (gL p 5)], 1⟩)]
def T_facts_Facts_Idle : TTab := [(0, [fun p => (.exit 0, ⟨(t0 Z (t0 Z (t1 (.vw 21 0 [])))), [], [aR 21 4 [.bool] (gL p 0)], 1⟩)])]
def F_facts_Facts_Idle : Fn := { np := 1, bs := [0], main := M_facts_Facts_Idle, lps := [(0, L_facts_Facts_Idle_0)] }
def M_r3_types (x : List D) : Sh :=
 .call r3_Types [.l [.s (D.toS (D.fld (gD x 1) 0)), .b (vB (gD x 1) 1), .l (eX (gD x 1) 2), .i (vI (gD x 1) 3), .l (eX (gD x 1) 4)]] 0 fun r0 _ =>
 .loop 0 [.i 0, .l (eX (gD x 0) 0), .l (eX (gD x 0) 1), .l (eX (gD x 0) 2), .l (eX (gD x 0) 3), .s (D.toS (D.fld (gD x 1) 0)), .b (vB (gD x 1) 1), .l (eX (gD x 1) 2), .i (vI (gD x 1) 3), .l (eX (gD x 1) 4), .l (D.els r0)] (.cons (fun p1 =>
 .ret (aB p1 0) [])
 (.cons (fun p1 =>
 .ret (.b true) [])
 .nil))
def L_r3_types_0 (p : List D) : Sh :=
 .ask (ltI (gI p 0) (iL (gL p 9)))
 (.loop 2 [.i 0, aI p 0, aL p 1, aL p 2, aL p 3, aL p 4, aS p 5, aB p 6, aL p 7, aI p 8, aL p 9, aL p 10] (.cons (fun p0 =>
 .out (0, [aB p0 0]))
 (.cons (fun p0 =>
 .again [.i (addA .i64 (gI p0 0) 1), aL p0 1, aL p0 2, aL p0 3, aL p0 4, aS p0 5, aB p0 6, aL p0 7, aI p0 8, aL p0 9, aL p0 10])
 .nil)))
 (.out (1, []))
def L_r3_types_2 (p : List D) : Sh :=
 .ask (within (gI p 1) (List.length (gL p 10)))
 (.ask (ltI (gI p 0) (iE (gD (gL p 10) (tI p 1))))
 (.ask (within (gI p 1) (List.length (gL p 10)))
 (.ask (within (gI p 0) (nE (gD (gL p 10) (tI p 1))))
 (.loop 4 [aI p 0, aI p 1, .i 0, aL p 2, aL p 3, aL p 4, aL p 5, aS p 6, aB p 7, aL p 8, aI p 9, aL p 10, .i (vI (gE (gD (gL p 10) (tI p 1)) (tI p 0)) 0), .i (vI (gE (gD (gL p 10) (tI p 1)) (tI p 0)) 1), .i (vI (gE (gD (gL p 10) (tI p 1)) (tI p 0)) 2), .i (vI (gE (gD (gL p 10) (tI p 1)) (tI p 0)) 3), .i (vI (gE (gD (gL p 10) (tI p 1)) (tI p 0)) 4), .l (eX (gE (gD (gL p 10) (tI p 1)) (tI p 0)) 5), .l (eX (gE (gD (gL p 10) (tI p 1)) (tI p 0)) 6), .l [], aL p 11] (.cons (fun p0 =>
 .call r3_fits [.l [aL p0 2, aL p0 3, aL p0 4, aL p0 5], .l [aS p0 6, aB p0 7, aL p0 8, aI p0 9, aL p0 10], .l [aI p0 11, aI p0 12, aI p0 13, aI p0 14, aI p0 15, aL p0 16, aL p0 17], aL p0 18] 0 fun r1 _ =>
 .ask (!(D.toB r1))
 (.out (0, [.b false, aI p0 1, aL p0 2, aL p0 3, aL p0 4, aL p0 5, aS p0 6, aB p0 7, aL p0 8, aI p0 9, aL p0 10, aL p0 19]))
 (.again [.i (addA .i64 (gI p0 0) 1), aI p0 1, aL p0 2, aL p0 3, aL p0 4, aL p0 5, aS p0 6, aB p0 7, aL p0 8, aI p0 9, aL p0 10, aL p0 19]))
 .nil))
 (.bad))
 (.bad))
 (.out (1, [aI p 1, aL p 2, aL p 3, aL p 4, aL p 5, aS p 6, aB p 7, aL p 8, aI p 9, aL p 10, aL p 11])))
 (.bad)
def L_r3_types_4 (p : List D) : Sh :=
 .ask (ltI (gI p 2) (iL (gL p 17)))
 (.ask (within (gI p 2) (List.length (gL p 17)))
 (.ask (within (D.toI (gD (gL p 17) (tI p 2))) (List.length (gL p 20)))
 (.ask (lim ((List.length (gL p 19)) + 1) 8)
 (.again [aI p 0, aI p 1, .i (addA .i64 (gI p 2) 1), aL p 3, aL p 4, aL p 5, aL p 6, aS p 7, aB p 8, aL p 9, aI p 10, aL p 11, aI p 12, aI p 13, aI p 14, aI p 15, aI p 16, aL p 17, aL p 18, .l ((gL p 19) ++ [.i (D.toI (gD (gL p 20) (Int.toNat (D.toI (gD (gL p 17) (tI p 2))))))]), aL p 20])
 (.bad))
 (.bad))
 (.bad))
 (.out (0, [aI p 0, aI p 1, aL p 3, aL p 4, aL p 5, aL p 6, aS p 7, aB p 8, aL p 9, aI p 10, aL p 11, aI p 12, aI p 13, aI p 14, aI p 15, aI p 16, aL p 17, aL p 18, aL p 19, aL p 20]))
def S_r3_types : STab := [(0, fun p => ⟨(t0 (t0 (t1 (.pb 3 0 0)) (t1 (.vw 13000000 0 []))) (t2 (.pb 2 0 0) Z (t1 (nI p 0)))), [(2, ⟨0, [fL 31 lt0 p 1, .fz [] 35 [.str, .sl false 2 [.int .i64]] (gL p 2), .fz [] 68 [.str, .sl false 3 [.int .i64]] (gL p 3), fL 38 lt1 p 4], none⟩), (3, ⟨0, [.str (gS p 5), nB p 6, fL 3 [.int .i64] p 7, nI p 8, fL 28 lt2 p 9], none⟩)], [aR 13000000 3 [.int .i64] (gL p 10)], 1⟩),
 (2, fun p => ⟨(t0 (t0 (t2 (.pb 3 0 0) (t1 (nI p 0)) Z) (t1 (.vw 13000000 0 []))) (t2 (.pb 2 0 0) Z (t1 (nI p 1)))), [(2, ⟨0, [fL 31 lt0 p 2, .fz [] 35 [.str, .sl false 2 [.int .i64]] (gL p 3), .fz [] 68 [.str, .sl false 3 [.int .i64]] (gL p 4), fL 38 lt1 p 5], none⟩), (3, ⟨0, [.str (gS p 6), nB p 7, fL 3 [.int .i64] p 8, nI p 9, fL 28 lt2 p 10], none⟩)], [aR 13000000 3 [.int .i64] (gL p 11)], 1⟩),
 (4, fun p => ⟨(t0 (t0 (t2 (.pb 3 0 0) (t1 (nI p 0)) Z) (t2 (.vw 13000000 0 []) (t1 (.vw 200009 0 [])) Z)) (t2 (.pb 2 0 0) (t0 (t1 (.pb 8 0 0)) Z) (t2 (nI p 1) (t1 (nI p 2)) Z))), [(2, ⟨0, [fL 31 lt0 p 3, .fz [] 35 [.str, .sl false 2 [.int .i64]] (gL p 4), .fz [] 68 [.str, .sl false 3 [.int .i64]] (gL p 5), fL 38 lt1 p 6], none⟩), (3, ⟨0, [.str (gS p 7), nB p 8, fL 3 [.int .i64] p 9, nI p 10, fL 28 lt2 p 11], none⟩), (8, ⟨0, [nI p 12, nI p 13, nI p 14, nI p 15, nI p 16, fL 3 [.int .i64] p 17, fL 3 [.int .i64] p 18], none⟩)], [aR 200009 3 [.int .i64] (gL p 19), aR 13000000 3 [.int .i64] (gL p 20)], 1⟩)]
def T_r3_types : TTab := [(0, [fun p => (.ret, ⟨(t0 Z (t0 (t1 (nB p 0)) Z)), [], [], 1⟩),
  fun p => (.exit 0, ⟨(t0 Z (t0 (t0 Z Z) Z)), [], [], 1⟩)]),
 (2, [fun p => (.ret, ⟨(t0 (t0 (t1 (.pb 3 0 0)) (t1 (.vw 13000000 0 []))) (t2 (.pb 2 0 0) (t1 (nB p 0)) (t1 (nI p 1)))), [(2, ⟨0, [fL 31 lt0 p 2, .fz [] 35 [.str, .sl false 2 [.int .i64]] (gL p 3), .fz [] 68 [.str, .sl false 3 [.int .i64]] (gL p 4), fL 38 lt1 p 5], none⟩), (3, ⟨0, [.str (gS p 6), nB p 7, fL 3 [.int .i64] p 8, nI p 9, fL 28 lt2 p 10], none⟩)], [aR 13000000 3 [.int .i64] (gL p 11)], 1⟩),
  fun p => (.exit 2, ⟨(t0 (t0 (t1 (.pb 3 0 0)) (t1 (.vw 13000000 0 []))) (t2 (.pb 2 0 0) (t0 Z Z) (t1 (nI p 0)))), [(2, ⟨0, [fL 31 lt0 p 1, .fz [] 35 [.str, .sl false 2 [.int .i64]] (gL p 2), .fz [] 68 [.str, .sl false 3 [.int .i64]] (gL p 3), fL 38 lt1 p 4], none⟩), (3, ⟨0, [.str (gS p 5), nB p 6, fL 3 [.int .i64] p 7, nI p 8, fL 28 lt2 p 9], none⟩)], [aR 13000000 3 [.int .i64] (gL p 10)], 1⟩)]),
 (4, [fun p => (.exit 4, ⟨(t0 (t0 (t2 (.pb 3 0 0) (t1 (nI p 0)) Z) (t2 (.vw 13000000 0 []) (t1 (.vw 200009 0 [])) Z)) (t2 (.pb 2 0 0) (t0 (t1 (.pb 8 0 0)) Z) (t1 (nI p 1)))), [(2, ⟨0, [fL 31 lt0 p 2, .fz [] 35 [.str, .sl false 2 [.int .i64]] (gL p 3), .fz [] 68 [.str, .sl false 3 [.int .i64]] (gL p 4), fL 38 lt1 p 5], none⟩), (3, ⟨0, [.str (gS p 6), nB p 7, fL 3 [.int .i64] p 8, nI p 9, fL 28 lt2 p 10], none⟩), (8, ⟨0, [nI p 11, nI p 12, nI p 13, nI p 14, nI p 15, fL 3 [.int .i64] p 16, fL 3 [.int .i64] p 17], none⟩)], [aR 200009 3 [.int .i64] (gL p 18), aR 13000000 3 [.int .i64] (gL p 19)], 1⟩)])]
def F_r3_types : Fn := { np := 2, bs := [0, 2, 4], main := M_r3_types, lps := [(0, L_r3_types_0), (2, L_r3_types_2), (4, L_r3_types_4)] }
def M_wf_named (x : List D) : Sh :=
 .loop 0 [.i (iX (gD x 0) 0), .l (eX (gD x 0) 0), .i 0, .l (eX (gD x 0) 0), .l (eX (gD x 0) 1), .l (eX (gD x 0) 2), .l (eX (gD x 0) 3), .l []] (.cons (fun p0 =>
 .loop 2 [.i 0, aL p0 1, .i (iL (gL p0 1)), aL p0 0, aL p0 1, aL p0 2, aL p0 3, aL p0 4] (.cons (fun p1 =>
 .loop 4 [.i (iL (gL p1 2)), .i 0, aL p1 2, aL p1 0, aL p1 1, aL p1 2, aL p1 3, aL p1 4] (.cons (fun p2 =>
 .loop 6 [aL p2 3, .i 0, .i (iL (gL p2 3)), aL p2 4] (.cons (fun p3 =>
 .loop 8 [.i (iL (gL p3 0)), .i 0, .l [], aL p3 0] (.cons (fun p4 =>
 .ret (aB p4 0) [])
 (.cons (fun p4 =>
 .ret (.b true) [])
 .nil)))
 .nil))
 .nil))
 .nil))
 .nil)
def L_wf_named_0 (p : List D) : Sh :=
 .ask (ltI (gI p 2) (gI p 0))
 (.ask (within (gI p 2) (List.length (gL p 1)))
 (.ask (lim ((List.length (gL p 7)) + 1) 16)
 (.again [aI p 0, aL p 1, .i (addA .i64 (gI p 2) 1), aL p 3, aL p 4, aL p 5, aL p 6, .l ((gL p 7) ++ [.s (D.toS (D.fld (gD (gL p 1) (tI p 2)) 0))])])
 (.bad))
 (.bad))
 (.out (0, [aL p 3, aL p 4, aL p 5, aL p 6, aL p 7]))
def L_wf_named_2 (p : List D) : Sh :=
 .ask (ltI (gI p 0) (gI p 2))
 (.ask (within (gI p 0) (List.length (gL p 1)))
 (.ask (lim ((List.length (gL p 7)) + 1) 16)
 (.again [.i (addA .i64 (gI p 0) 1), aL p 1, aI p 2, aL p 3, aL p 4, aL p 5, aL p 6, .l ((gL p 7) ++ [.s (D.toS (D.fld (gD (gL p 1) (tI p 0)) 0))])])
 (.bad))
 (.bad))
 (.out (0, [aL p 3, aL p 4, aL p 5, aL p 6, aL p 7]))
def L_wf_named_4 (p : List D) : Sh :=
 .ask (ltI (gI p 1) (gI p 0))
 (.ask (within (gI p 1) (List.length (gL p 2)))
 (.ask (lim ((List.length (gL p 7)) + 1) 16)
 (.again [aI p 0, .i (addA .i64 (gI p 1) 1), aL p 2, aL p 3, aL p 4, aL p 5, aL p 6, .l ((gL p 7) ++ [.s (D.toS (D.fld (gD (gL p 2) (tI p 1)) 0))])])
 (.bad))
 (.bad))
 (.out (0, [aL p 3, aL p 4, aL p 5, aL p 6, aL p 7]))
def L_wf_named_6 (p : List D) : Sh :=
 .ask (ltI (gI p 1) (gI p 2))
 (.ask (within (gI p 1) (List.length (gL p 0)))
 (.ask (lim ((List.length (gL p 3)) + 1) 16)
 (.again [aL p 0, .i (addA .i64 (gI p 1) 1), aI p 2, .l ((gL p 3) ++ [.s (D.toS (D.fld (gD (gL p 0) (tI p 1)) 0))])])
 (.bad))
 (.bad))
 (.out (0, [aL p 3]))
def L_wf_named_8 (p : List D) : Sh :=
 .ask (ltI (gI p 1) (gI p 0))
 (.ask (within (gI p 1) (List.length (gL p 3)))
 (.call wf_Name [.s (D.toS (gD (gL p 3) (tI p 1)))] 0 fun r0 _ =>
 .ask ((!(D.toB r0)) || (ltI 1 (D.toI (gotD (.int .i64) (findD .str (.s (D.toS (gD (gL p 3) (tI p 1)))) 0 (putD (.s (D.toS (gD (gL p 3) (tI p 1)))) (.i (addA .i64 (D.toI (gotD (.int .i64) (findD .str (.s (D.toS (gD (gL p 3) (tI p 1)))) 0 (gL p 2)))) 1)) (gL p 2) (findD .str (.s (D.toS (gD (gL p 3) (tI p 1)))) 0 (gL p 2))))))))
 (.out (0, [.b false]))
 (.again [aI p 0, .i (addA .i64 (gI p 1) 1), .l (putD (.s (D.toS (gD (gL p 3) (tI p 1)))) (.i (addA .i64 (D.toI (gotD (.int .i64) (findD .str (.s (D.toS (gD (gL p 3) (tI p 1)))) 0 (gL p 2)))) 1)) (gL p 2) (findD .str (.s (D.toS (gD (gL p 3) (tI p 1)))) 0 (gL p 2))), aL p 3]))
 (.bad))
 (.out (1, []))
def S_wf_named : STab := [(0, fun p => ⟨(t0 (t2 (.pb 1 0 0) (t1 (.vw 200003 0 [])) (t0 (t0 (t1 (nI p 0)) Z) Z)) (t0 (t0 (t0 (t1 (fL 31 lt0 p 1)) Z) Z) (t0 (t0 (t1 (nI p 2)) Z) Z))), [(1, ⟨0, [fL 31 lt0 p 3, .fz [] 35 [.str, .sl false 2 [.int .i64]] (gL p 4), .fz [] 68 [.str, .sl false 3 [.int .i64]] (gL p 5), fL 38 lt1 p 6], none⟩)], [aR 200003 9 [.str] (gL p 7)], 1⟩),
 (2, fun p => ⟨(t0 (t2 (.pb 1 0 0) (t2 (.vw 200003 0 []) (t0 (t0 (t1 (nI p 0)) Z) Z) Z) (t0 Z (t0 Z (t1 (.fz [] 35 [.str, .sl false 2 [.int .i64]] (gL p 1)))))) (t0 Z (t0 Z (t0 Z (t1 (nI p 2)))))), [(1, ⟨0, [fL 31 lt0 p 3, .fz [] 35 [.str, .sl false 2 [.int .i64]] (gL p 4), .fz [] 68 [.str, .sl false 3 [.int .i64]] (gL p 5), fL 38 lt1 p 6], none⟩)], [aR 200003 9 [.str] (gL p 7)], 1⟩),
 (4, fun p => ⟨(t0 (t2 (.pb 1 0 0) (t2 (.vw 200003 0 []) Z (t0 Z (t0 (t1 (nI p 0)) Z))) Z) (t0 (t0 Z (t0 Z (t0 (t1 (nI p 1)) Z))) (t0 (t0 Z (t0 (t1 (.fz [] 68 [.str, .sl false 3 [.int .i64]] (gL p 2))) Z)) Z))), [(1, ⟨0, [fL 31 lt0 p 3, .fz [] 35 [.str, .sl false 2 [.int .i64]] (gL p 4), .fz [] 68 [.str, .sl false 3 [.int .i64]] (gL p 5), fL 38 lt1 p 6], none⟩)], [aR 200003 9 [.str] (gL p 7)], 1⟩),
 (6, fun p => ⟨(t0 (t0 (t2 (.vw 200003 0 []) (t0 Z (t0 Z (t1 (fL 38 lt1 p 0)))) Z) (t0 (t0 Z (t0 Z (t1 (nI p 1)))) Z)) (t0 (t0 (t0 Z (t0 Z (t1 (nI p 2)))) Z) Z)), [], [aR 200003 9 [.str] (gL p 3)], 1⟩),
 (8, fun p => ⟨(t0 (t0 Z (t0 Z (t0 (t0 (t0 (t1 (nI p 0)) Z) Z) Z))) (t0 (t0 Z (t2 (.mp 67 0) (t0 (t0 (t1 (.vw 200003 0 [])) Z) Z) Z)) (t0 Z (t0 (t0 (t0 (t1 (nI p 1)) Z) Z) Z)))), [(67, ⟨0, [], some ⟨.str, .int .i64, (gL p 2)⟩⟩)], [aR 200003 9 [.str] (gL p 3)], 1⟩)]
def T_wf_named : TTab := [(0, [fun p => (.exit 0, ⟨(t0 (t2 (.pb 1 0 0) (t1 (.vw 200003 0 [])) Z) (t0 Z Z)), [(1, ⟨0, [fL 31 lt0 p 0, .fz [] 35 [.str, .sl false 2 [.int .i64]] (gL p 1), .fz [] 68 [.str, .sl false 3 [.int .i64]] (gL p 2), fL 38 lt1 p 3], none⟩)], [aR 200003 9 [.str] (gL p 4)], 1⟩)]),
 (2, [fun p => (.exit 2, ⟨(t0 (t2 (.pb 1 0 0) (t1 (.vw 200003 0 [])) Z) (t0 Z Z)), [(1, ⟨0, [fL 31 lt0 p 0, .fz [] 35 [.str, .sl false 2 [.int .i64]] (gL p 1), .fz [] 68 [.str, .sl false 3 [.int .i64]] (gL p 2), fL 38 lt1 p 3], none⟩)], [aR 200003 9 [.str] (gL p 4)], 1⟩)]),
 (4, [fun p => (.exit 4, ⟨(t0 (t2 (.pb 1 0 0) (t1 (.vw 200003 0 [])) Z) (t0 Z Z)), [(1, ⟨0, [fL 31 lt0 p 0, .fz [] 35 [.str, .sl false 2 [.int .i64]] (gL p 1), .fz [] 68 [.str, .sl false 3 [.int .i64]] (gL p 2), fL 38 lt1 p 3], none⟩)], [aR 200003 9 [.str] (gL p 4)], 1⟩)]),
 (6, [fun p => (.exit 6, ⟨(t0 (t0 (t1 (.vw 200003 0 [])) Z) (t0 Z Z)), [], [aR 200003 9 [.str] (gL p 0)], 1⟩)]),
 (8, [fun p => (.ret, ⟨(t0 Z (t1 (nB p 0))), [], [], 1⟩),
  fun p => (.exit 8, ⟨(t0 Z (t0 Z Z)), [], [], 1⟩)])]
def F_wf_named : Fn := { np := 1, bs := [0, 2, 4, 6, 8], main := M_wf_named, lps := [(0, L_wf_named_0), (2, L_wf_named_2), (4, L_wf_named_4), (6, L_wf_named_6), (8, L_wf_named_8)] }
def M_wf_used (x : List D) : Sh :=
 .ask ((leI 0 (addA .i64 (iX (gD x 0) 2) 1)) && ((eqI (addA .i64 (iX (gD x 0) 2) 1) (addA .i64 (iX (gD x 0) 2) 1)) && (lim (Int.toNat (addA .i64 (iX (gD x 0) 2) 1)) 8)))
 (.loop 0 [.i (iX (gD x 0) 2), .i (iX (gD x 0) 4), .l (eX (gD x 0) 4), .i 0, .s (D.toS (D.fld (gD x 0) 0)), .b (vB (gD x 0) 1), .l (eX (gD x 0) 2), .i (vI (gD x 0) 3), .l (eX (gD x 0) 4), .l (List.replicate (Int.toNat (addA .i64 (iX (gD x 0) 2) 1)) (D.i 0))] (.cons (fun p0 =>
 .ret (aB p0 1) [])
 (.cons (fun p0 =>
 .ask ((leI 0 (iL (gL p0 5))) && ((eqI (iL (gL p0 5)) (iL (gL p0 5))) && (lim (Int.toNat (iL (gL p0 5))) 24)))
 (.call dom_Over [.l [aS p0 1, aB p0 2, aL p0 3, aI p0 4, aL p0 5]] 0 fun r1 _ =>
 .loop 4 [aI p0 0, .i 0, .i (iL (List.replicate (List.length (gL p0 5)) (D.l []))), aS p0 1, aB p0 2, aL p0 3, aI p0 4, aL p0 5, .l (List.replicate (List.length (gL p0 5)) (D.l [])), aL p0 6, .l (D.els r1)] (.cons (fun p2 =>
 .loop 8 [aI p2 0, .i (iL (gL p2 5)), .i 0, aL p2 5, aS p2 1, aB p2 2, aL p2 3, aI p2 4, aL p2 5, aL p2 6, aL p2 7] (.cons (fun p3 =>
 .ret (aB p3 0) [])
 (.cons (fun p3 =>
 .ret (.b true) [])
 .nil)))
 .nil))
 (.bad))
 .nil)))
 (.bad)
def L_wf_used_0 (p : List D) : Sh :=
 .ask (ltI (gI p 3) (gI p 1))
 (.ask (within (gI p 3) (List.length (gL p 2)))
 (.loop 2 [aI p 0, aI p 3, .i (iE (gD (gL p 2) (tI p 3))), aI p 1, .l (D.els (gD (gL p 2) (tI p 3))), aL p 2, .i 0, aI p 3, aS p 4, aB p 5, aL p 6, aI p 7, aL p 8, aL p 9] (.cons (fun p0 =>
 .out (0, [aI p0 0, aB p0 2, aS p0 5, aB p0 6, aL p0 7, aI p0 8, aL p0 9, aL p0 10]))
 (.cons (fun p0 =>
 .again [aI p0 0, aI p0 1, aL p0 2, .i (addA .i64 (gI p0 3) 1), aS p0 4, aB p0 5, aL p0 6, aI p0 7, aL p0 8, aL p0 9])
 .nil)))
 (.bad))
 (.out (1, [aI p 0, aS p 4, aB p 5, aL p 6, aI p 7, aL p 8, aL p 9]))
def L_wf_used_2 (p : List D) : Sh :=
 .ask (ltI (gI p 6) (gI p 2))
 (.ask (within (gI p 6) (List.length (gL p 4)))
 (.ask (eqI (vI (gD (gL p 4) (tI p 6)) 1) 0)
 (.again [aI p 0, aI p 1, aI p 2, aI p 3, aL p 4, aL p 5, .i (addA .i64 (gI p 6) 1), aI p 7, aS p 8, aB p 9, aL p 10, aI p 11, aL p 12, aL p 13])
 (.ask (!(eqI (vI (gD (gL p 4) (tI p 6)) 2) (addA .i64 (gI p 0) 1)))
 (.out (0, [.i (addA .i64 (gI p 0) 1), aI p 3, .b false, aL p 5, aI p 7, aS p 8, aB p 9, aL p 10, aI p 11, aL p 12, aL p 13]))
 (.ask (lim ((List.length (gL p 13)) + 1) 8)
 (.again [.i (addA .i64 (gI p 0) 1), aI p 1, aI p 2, aI p 3, aL p 4, aL p 5, .i (addA .i64 (gI p 6) 1), aI p 7, aS p 8, aB p 9, aL p 10, aI p 11, aL p 12, .l ((gL p 13) ++ [aI p 1])])
 (.bad))))
 (.bad))
 (.out (1, [aI p 0, aI p 3, aL p 5, aI p 7, aS p 8, aB p 9, aL p 10, aI p 11, aL p 12, aL p 13]))
def L_wf_used_4 (p : List D) : Sh :=
 .ask (ltI (gI p 1) (gI p 2))
 (.ask ((leI 0 (iL (gL p 7))) && ((eqI (iL (gL p 7)) (iL (gL p 7))) && (lim (Int.toNat (iL (gL p 7))) 1)))
 (.ask (within (gI p 1) (List.length (gL p 8)))
 (.loop 6 [aI p 0, aI p 1, aI p 1, aI p 2, aI p 1, aS p 3, aB p 4, aL p 5, aI p 6, aL p 7, .l (List.set (gL p 8) (tI p 1) (D.l (List.replicate (List.length (gL p 7)) (D.b false)))), aL p 9, aL p 10] (.cons (fun p0 =>
 .again [aI p0 0, .i (addA .i64 (gI p0 1) 1), aI p0 2, aS p0 3, aB p0 4, aL p0 5, aI p0 6, aL p0 7, aL p0 8, aL p0 9, aL p0 10])
 .nil))
 (.bad))
 (.bad))
 (.out (0, [aI p 0, aS p 3, aB p 4, aL p 5, aI p 6, aL p 7, aL p 8, aL p 9]))
def L_wf_used_6 (p : List D) : Sh :=
 .ask (leI 0 (gI p 4))
 (.ask (within (gI p 1) (List.length (gL p 10)))
 (.ask (within (gI p 4) (nE (gD (gL p 10) (tI p 1))))
 (.ask (within (gI p 4) (List.length (gL p 12)))
 (.again [aI p 0, aI p 1, aI p 2, aI p 3, .i (D.toI (gD (gL p 12) (tI p 4))), aS p 5, aB p 6, aL p 7, aI p 8, aL p 9, .l (List.set (gL p 10) (tI p 1) (D.l (List.set (D.els (gD (gL p 10) (tI p 1))) (tI p 4) (D.b true)))), aL p 11, aL p 12])
 (.bad))
 (.bad))
 (.bad))
 (.out (0, [aI p 0, aI p 2, aI p 3, aS p 5, aB p 6, aL p 7, aI p 8, aL p 9, aL p 10, aL p 11, aL p 12]))
def L_wf_used_8 (p : List D) : Sh :=
 .ask (ltI (gI p 2) (gI p 1))
 (.ask (within (gI p 2) (List.length (gL p 3)))
 (.ask (ltI 0 (iE (gD (gL p 3) (tI p 2))))
 (.call wf_ahead [.l [aS p 4, aB p 5, aL p 6, aI p 7, aL p 8], aI p 2] 0 fun r0 _ =>
 .loop 10 [aI p 0, .i (D.toI r0), aI p 1, aI p 2, .i (iE (gD (gL p 3) (tI p 2))), .l (D.els (gD (gL p 3) (tI p 2))), aI p 2, aL p 3, .i 0, aS p 4, aB p 5, aL p 6, aI p 7, aL p 8, aL p 9, aL p 10] (.cons (fun p1 =>
 .out (0, [aB p1 2]))
 (.cons (fun p1 =>
 .again [aI p1 0, aI p1 1, .i (addA .i64 (gI p1 2) 1), aL p1 3, aS p1 4, aB p1 5, aL p1 6, aI p1 7, aL p1 8, aL p1 9, aL p1 10])
 .nil)))
 (.loop 10 [aI p 0, .i (iL (gL p 6)), aI p 1, aI p 2, .i (iE (gD (gL p 3) (tI p 2))), .l (D.els (gD (gL p 3) (tI p 2))), aI p 2, aL p 3, .i 0, aS p 4, aB p 5, aL p 6, aI p 7, aL p 8, aL p 9, aL p 10] (.cons (fun p0 =>
 .out (0, [aB p0 2]))
 (.cons (fun p0 =>
 .again [aI p0 0, aI p0 1, .i (addA .i64 (gI p0 2) 1), aL p0 3, aS p0 4, aB p0 5, aL p0 6, aI p0 7, aL p0 8, aL p0 9, aL p0 10])
 .nil))))
 (.bad))
 (.out (1, []))
def L_wf_used_10 (p : List D) : Sh :=
 .ask (ltI (gI p 8) (gI p 4))
 (.ask (within (gI p 8) (List.length (gL p 5)))
 (.loop 12 [aI p 0, aI p 1, .l (eX (gD (gL p 5) (tI p 8)) 5), aI p 2, aI p 3, .i 0, aI p 4, .i (iX (gD (gL p 5) (tI p 8)) 5), aL p 5, aI p 6, aL p 7, aI p 8, aS p 9, aB p 10, aL p 11, aI p 12, aL p 13, .i (vI (gD (gL p 5) (tI p 8)) 0), .i (vI (gD (gL p 5) (tI p 8)) 1), .i (vI (gD (gL p 5) (tI p 8)) 2), .i (vI (gD (gL p 5) (tI p 8)) 3), .i (vI (gD (gL p 5) (tI p 8)) 4), .l (eX (gD (gL p 5) (tI p 8)) 5), .l (eX (gD (gL p 5) (tI p 8)) 6), aL p 14, aL p 15] (.cons (fun p0 =>
 .out (0, [aI p0 0, aI p0 2, aB p0 5, aI p0 7, aL p0 8, aS p0 10, aB p0 11, aL p0 12, aI p0 13, aL p0 14, aL p0 22, aL p0 23]))
 (.cons (fun p0 =>
 .ask (!(eqI (gI p0 15) 0))
 (.again [aI p0 0, aI p0 16, aI p0 2, aI p0 3, aI p0 4, aL p0 5, aI p0 6, aL p0 7, .i (addA .i64 (gI p0 8) 1), aS p0 9, aB p0 10, aL p0 11, aI p0 12, aL p0 13, aL p0 21, aL p0 22])
 (.again [aI p0 0, aI p0 1, aI p0 2, aI p0 3, aI p0 4, aL p0 5, aI p0 6, aL p0 7, .i (addA .i64 (gI p0 8) 1), aS p0 9, aB p0 10, aL p0 11, aI p0 12, aL p0 13, aL p0 21, aL p0 22]))
 .nil)))
 (.bad))
 (.out (1, [aI p 0, aI p 2, aI p 6, aL p 7, aS p 9, aB p 10, aL p 11, aI p 12, aL p 13, aL p 14, aL p 15]))
def L_wf_used_12 (p : List D) : Sh :=
 .ask (ltI (gI p 5) (gI p 7))
 (.ask (within (gI p 5) (List.length (gL p 2)))
 (.ask ((ltI (D.toI (gD (gL p 2) (tI p 5))) 1) || (ltI (gI p 0) (D.toI (gD (gL p 2) (tI p 5)))))
 (.out (0, [aI p 0, aI p 1, aI p 3, aI p 4, aI p 6, .b false, aL p 8, aI p 9, aL p 10, aI p 11, aS p 12, aB p 13, aL p 14, aI p 15, aL p 16, aI p 17, aI p 18, aI p 19, aI p 20, aI p 21, aL p 22, aL p 23, aL p 24, aL p 25]))
 (.ask (leI (D.toI (gD (gL p 2) (tI p 5))) (iL (gL p 14)))
 (.again [aI p 0, aI p 1, aL p 2, aI p 3, aI p 4, .i (addA .i64 (gI p 5) 1), aI p 6, aI p 7, aL p 8, aI p 9, aL p 10, aI p 11, aS p 12, aB p 13, aL p 14, aI p 15, aL p 16, aI p 17, aI p 18, aI p 19, aI p 20, aI p 21, aL p 22, aL p 23, aL p 24, aL p 25])
 (.ask (within (D.toI (gD (gL p 2) (tI p 5))) (List.length (gL p 25)))
 (.ask ((!((!(eqI (D.toI (gD (gL p 25) (Int.toNat (D.toI (gD (gL p 2) (tI p 5)))))) (gI p 4))) && true)) || (within (gI p 4) (List.length (gL p 24))))
 (.ask ((!((!(eqI (D.toI (gD (gL p 25) (Int.toNat (D.toI (gD (gL p 2) (tI p 5)))))) (gI p 4))) && true)) || (within (D.toI (gD (gL p 2) (tI p 5))) (List.length (gL p 25))))
 (.ask ((!((!(eqI (D.toI (gD (gL p 25) (Int.toNat (D.toI (gD (gL p 2) (tI p 5)))))) (gI p 4))) && true)) || (within (D.toI (gD (gL p 25) (Int.toNat (D.toI (gD (gL p 2) (tI p 5)))))) (nE (gD (gL p 24) (tI p 4)))))
 (.ask ((!(!((!(eqI (D.toI (gD (gL p 25) (Int.toNat (D.toI (gD (gL p 2) (tI p 5)))))) (gI p 4))) && (D.toB (gE (gD (gL p 24) (tI p 4)) (Int.toNat (D.toI (gD (gL p 25) (Int.toNat (D.toI (gD (gL p 2) (tI p 5)))))))))))) || (within (D.toI (gD (gL p 2) (tI p 5))) (List.length (gL p 25))))
 (.ask (eqI (gI p 17) 26)
 (.ask (within (gI p 5) (List.length (gL p 23)))
 (.ask (within (D.toI (gD (gL p 23) (tI p 5))) (List.length (gL p 24)))
 (.ask (within (D.toI (gD (gL p 2) (tI p 5))) (List.length (gL p 25)))
 (.ask (within (D.toI (gD (gL p 25) (Int.toNat (D.toI (gD (gL p 2) (tI p 5)))))) (nE (gD (gL p 24) (Int.toNat (D.toI (gD (gL p 23) (tI p 5)))))))
 (.ask (!(D.toB (gE (gD (gL p 24) (Int.toNat (D.toI (gD (gL p 23) (tI p 5))))) (Int.toNat (D.toI (gD (gL p 25) (Int.toNat (D.toI (gD (gL p 2) (tI p 5))))))))))
 (.out (0, [aI p 0, aI p 1, aI p 3, aI p 4, aI p 6, .b false, aL p 8, aI p 9, aL p 10, aI p 11, aS p 12, aB p 13, aL p 14, aI p 15, aL p 16, aI p 17, aI p 18, aI p 19, aI p 20, aI p 21, aL p 22, aL p 23, aL p 24, aL p 25]))
 (.again [aI p 0, aI p 1, aL p 2, aI p 3, aI p 4, .i (addA .i64 (gI p 5) 1), aI p 6, aI p 7, aL p 8, aI p 9, aL p 10, aI p 11, aS p 12, aB p 13, aL p 14, aI p 15, aL p 16, aI p 17, aI p 18, aI p 19, aI p 20, aI p 21, aL p 22, aL p 23, aL p 24, aL p 25]))
 (.bad))
 (.bad))
 (.bad))
 (.bad))
 (.ask (!(((!(eqI (D.toI (gD (gL p 25) (Int.toNat (D.toI (gD (gL p 2) (tI p 5)))))) (gI p 4))) && (D.toB (gE (gD (gL p 24) (tI p 4)) (Int.toNat (D.toI (gD (gL p 25) (Int.toNat (D.toI (gD (gL p 2) (tI p 5)))))))))) || ((eqI (D.toI (gD (gL p 25) (Int.toNat (D.toI (gD (gL p 2) (tI p 5)))))) (gI p 4)) && (leI (D.toI (gD (gL p 2) (tI p 5))) (gI p 1)))))
 (.out (0, [aI p 0, aI p 1, aI p 3, aI p 4, aI p 6, .b false, aL p 8, aI p 9, aL p 10, aI p 11, aS p 12, aB p 13, aL p 14, aI p 15, aL p 16, aI p 17, aI p 18, aI p 19, aI p 20, aI p 21, aL p 22, aL p 23, aL p 24, aL p 25]))
 (.again [aI p 0, aI p 1, aL p 2, aI p 3, aI p 4, .i (addA .i64 (gI p 5) 1), aI p 6, aI p 7, aL p 8, aI p 9, aL p 10, aI p 11, aS p 12, aB p 13, aL p 14, aI p 15, aL p 16, aI p 17, aI p 18, aI p 19, aI p 20, aI p 21, aL p 22, aL p 23, aL p 24, aL p 25])))
 (.bad))
 (.bad))
 (.bad))
 (.bad))
 (.bad))))
 (.bad))
 (.out (1, [aI p 0, aI p 1, aI p 3, aI p 4, aI p 6, aL p 8, aI p 9, aL p 10, aI p 11, aS p 12, aB p 13, aL p 14, aI p 15, aL p 16, aI p 17, aI p 18, aI p 19, aI p 20, aI p 21, aL p 22, aL p 23, aL p 24, aL p 25]))
def S_wf_used : STab := [(0, fun p => ⟨(t0 (t2 (.pb 1 0 0) (t1 (nI p 0)) (t0 Z (t0 Z (t1 (nI p 1))))) (t0 (t2 (.vw 200004 0 []) Z (t0 Z (t1 (fL 28 lt2 p 2)))) (t0 Z (t0 Z (t1 (nI p 3)))))), [(1, ⟨0, [.str (gS p 4), nB p 5, fL 3 [.int .i64] p 6, nI p 7, fL 28 lt2 p 8], none⟩)], [aR 200004 3 [.int .i64] (gL p 9)], 1⟩),
 (2, fun p => ⟨(t0 (t2 (.pb 1 0 0) (t1 (nI p 0)) (t2 (nI p 1) Z (t0 (t0 (t1 (nI p 2)) Z) (t1 (nI p 3))))) (t0 (t2 (.vw 200004 0 []) Z (t0 (t0 (t1 (fL 25 lt3 p 4)) Z) (t1 (fL 28 lt2 p 5)))) (t0 Z (t0 (t0 (t1 (nI p 6)) Z) (t1 (nI p 7)))))), [(1, ⟨0, [.str (gS p 8), nB p 9, fL 3 [.int .i64] p 10, nI p 11, fL 28 lt2 p 12], none⟩)], [aR 200004 3 [.int .i64] (gL p 13)], 1⟩),
 (4, fun p => ⟨(t0 (t2 (.pb 1 0 0) (t1 (nI p 0)) (t0 (t2 (.vw 60 0 []) (t0 (t0 (t1 (nI p 1)) Z) Z) Z) Z)) (t0 (t2 (.vw 200004 0 []) (t0 (t0 (t0 (t1 (nI p 2)) Z) Z) Z) Z) (t0 (t1 (.vw 63000000 0 [])) Z))), [(1, ⟨0, [.str (gS p 3), nB p 4, fL 3 [.int .i64] p 5, nI p 6, fL 28 lt2 p 7], none⟩)], [(60, ⟨53, [.sl true 4 [.bool]], (gL p 8), [], 0, [0, 0, 0, 0], 0⟩), aR 200004 3 [.int .i64] (gL p 9), aR 63000000 3 [.int .i64] (gL p 10)], 1⟩),
 (6, fun p => ⟨(t0 (t2 (.pb 1 0 0) (t2 (nI p 0) Z (t1 (nI p 1))) (t0 (t2 (.vw 60 0 []) (t0 (t0 (t1 (nI p 2)) Z) Z) Z) Z)) (t0 (t2 (.vw 200004 0 []) (t0 (t0 (t0 (t1 (nI p 3)) Z) Z) Z) (t1 (nI p 4))) (t0 (t1 (.vw 63000000 0 [])) Z))), [(1, ⟨0, [.str (gS p 5), nB p 6, fL 3 [.int .i64] p 7, nI p 8, fL 28 lt2 p 9], none⟩)], [(60, ⟨53, [.sl true 4 [.bool]], (gL p 10), [], 0, [0, 0, 0, 0], 0⟩), aR 200004 3 [.int .i64] (gL p 11), aR 63000000 3 [.int .i64] (gL p 12)], 1⟩),
 (8, fun p => ⟨(t0 (t2 (.pb 1 0 0) (t2 (nI p 0) Z (t0 Z (t0 Z (t0 (t1 (nI p 1)) Z)))) (t0 (t1 (.vw 60 0 [])) Z)) (t0 (t2 (.vw 200004 0 []) Z (t0 Z (t0 Z (t0 (t1 (nI p 2)) Z)))) (t0 (t0 Z (t0 Z (t0 (t1 (fL 28 lt2 p 3)) Z))) Z))), [(1, ⟨0, [.str (gS p 4), nB p 5, fL 3 [.int .i64] p 6, nI p 7, fL 28 lt2 p 8], none⟩)], [(60, ⟨53, [.sl true 4 [.bool]], (gL p 9), [], 0, [0, 0, 0, 0], 0⟩), aR 200004 3 [.int .i64] (gL p 10)], 1⟩),
 (10, fun p => ⟨(t0 (t2 (.pb 1 0 0) (t2 (nI p 0) (t0 (t1 (nI p 1)) Z) (t0 Z (t0 Z (t0 (t1 (nI p 2)) Z)))) (t0 (t1 (.vw 60 0 [])) (t2 (nI p 3) Z (t0 (t0 Z (t1 (nI p 4))) Z)))) (t0 (t2 (.vw 200004 0 []) Z (t0 Z (t0 (t0 Z (t1 (fL 25 lt3 p 5))) (t0 (t1 (nI p 6)) Z)))) (t0 (t0 Z (t0 Z (t0 (t1 (fL 28 lt2 p 7)) Z))) (t0 Z (t0 (t0 Z (t1 (nI p 8))) Z))))), [(1, ⟨0, [.str (gS p 9), nB p 10, fL 3 [.int .i64] p 11, nI p 12, fL 28 lt2 p 13], none⟩)], [(60, ⟨53, [.sl true 4 [.bool]], (gL p 14), [], 0, [0, 0, 0, 0], 0⟩), aR 200004 3 [.int .i64] (gL p 15)], 1⟩),
 (12, fun p => ⟨(t0 (t2 (.pb 1 0 0) (t2 (nI p 0) (t0 (t1 (nI p 1)) Z) (t0 (t0 Z (t0 Z (t1 (fL 3 [.int .i64] p 2)))) (t0 Z (t0 (t1 (nI p 3)) Z)))) (t0 (t2 (.vw 60 0 []) (t1 (.pb 17 0 0)) Z) (t2 (nI p 4) (t0 Z (t0 Z (t1 (nI p 5)))) (t0 (t0 Z (t1 (nI p 6))) Z)))) (t0 (t2 (.vw 200004 0 []) Z (t0 (t0 Z (t0 Z (t1 (nI p 7)))) (t0 (t0 Z (t1 (fL 25 lt3 p 8))) (t0 (t1 (nI p 9)) Z)))) (t0 (t0 Z (t0 Z (t0 (t1 (fL 28 lt2 p 10)) Z))) (t0 Z (t0 (t0 Z (t1 (nI p 11))) Z))))), [(1, ⟨0, [.str (gS p 12), nB p 13, fL 3 [.int .i64] p 14, nI p 15, fL 28 lt2 p 16], none⟩), (17, ⟨0, [nI p 17, nI p 18, nI p 19, nI p 20, nI p 21, fL 3 [.int .i64] p 22, fL 3 [.int .i64] p 23], none⟩)], [(60, ⟨53, [.sl true 4 [.bool]], (gL p 24), [], 0, [0, 0, 0, 0], 0⟩), aR 200004 3 [.int .i64] (gL p 25)], 1⟩)]
def T_wf_used : TTab := [(0, [fun p => (.ret, ⟨(t0 (t2 (.pb 1 0 0) (t1 (nI p 0)) Z) (t2 (nB p 1) (t1 (.vw 200004 0 [])) Z)), [(1, ⟨0, [.str (gS p 2), nB p 3, fL 3 [.int .i64] p 4, nI p 5, fL 28 lt2 p 6], none⟩)], [aR 200004 3 [.int .i64] (gL p 7)], 1⟩),
  fun p => (.exit 0, ⟨(t0 (t2 (.pb 1 0 0) (t1 (nI p 0)) Z) (t0 (t1 (.vw 200004 0 [])) Z)), [(1, ⟨0, [.str (gS p 1), nB p 2, fL 3 [.int .i64] p 3, nI p 4, fL 28 lt2 p 5], none⟩)], [aR 200004 3 [.int .i64] (gL p 6)], 1⟩)]),
 (2, [fun p => (.ret, ⟨(t0 (t2 (.pb 1 0 0) (t1 (nI p 0)) (t0 Z (t0 Z (t1 (nI p 1))))) (t2 (nB p 2) (t2 (.vw 200004 0 []) Z (t0 Z (t1 (fL 28 lt2 p 3)))) (t0 Z (t0 Z (t1 (nI p 4)))))), [(1, ⟨0, [.str (gS p 5), nB p 6, fL 3 [.int .i64] p 7, nI p 8, fL 28 lt2 p 9], none⟩)], [aR 200004 3 [.int .i64] (gL p 10)], 1⟩),
  fun p => (.exit 2, ⟨(t0 (t2 (.pb 1 0 0) (t1 (nI p 0)) (t0 Z (t0 Z (t1 (nI p 1))))) (t0 (t2 (.vw 200004 0 []) Z (t0 Z (t1 (fL 28 lt2 p 2)))) (t0 Z (t0 Z (t1 (nI p 3)))))), [(1, ⟨0, [.str (gS p 4), nB p 5, fL 3 [.int .i64] p 6, nI p 7, fL 28 lt2 p 8], none⟩)], [aR 200004 3 [.int .i64] (gL p 9)], 1⟩)]),
 (4, [fun p => (.exit 4, ⟨(t0 (t2 (.pb 1 0 0) (t1 (nI p 0)) (t0 (t1 (.vw 60 0 [])) Z)) (t0 (t1 (.vw 200004 0 [])) Z)), [(1, ⟨0, [.str (gS p 1), nB p 2, fL 3 [.int .i64] p 3, nI p 4, fL 28 lt2 p 5], none⟩)], [(60, ⟨53, [.sl true 4 [.bool]], (gL p 6), [], 0, [0, 0, 0, 0], 0⟩), aR 200004 3 [.int .i64] (gL p 7)], 1⟩)]),
 (6, [fun p => (.exit 6, ⟨(t0 (t2 (.pb 1 0 0) (t1 (nI p 0)) (t0 (t2 (.vw 60 0 []) (t0 (t0 (t1 (nI p 1)) Z) Z) Z) Z)) (t0 (t2 (.vw 200004 0 []) (t0 (t0 (t0 (t1 (nI p 2)) Z) Z) Z) Z) (t0 (t1 (.vw 63000000 0 [])) Z))), [(1, ⟨0, [.str (gS p 3), nB p 4, fL 3 [.int .i64] p 5, nI p 6, fL 28 lt2 p 7], none⟩)], [(60, ⟨53, [.sl true 4 [.bool]], (gL p 8), [], 0, [0, 0, 0, 0], 0⟩), aR 200004 3 [.int .i64] (gL p 9), aR 63000000 3 [.int .i64] (gL p 10)], 1⟩)]),
 (8, [fun p => (.ret, ⟨(t0 Z (t1 (nB p 0))), [], [], 1⟩),
  fun p => (.exit 8, ⟨(t0 Z (t0 Z Z)), [], [], 1⟩)]),
 (10, [fun p => (.ret, ⟨(t0 (t2 (.pb 1 0 0) (t2 (nI p 0) Z (t0 Z (t0 Z (t0 (t1 (nI p 1)) Z)))) (t0 (t1 (.vw 60 0 [])) Z)) (t2 (nB p 2) (t2 (.vw 200004 0 []) Z (t0 Z (t0 Z (t0 (t1 (nI p 3)) Z)))) (t0 (t0 Z (t0 Z (t0 (t1 (fL 28 lt2 p 4)) Z))) Z))), [(1, ⟨0, [.str (gS p 5), nB p 6, fL 3 [.int .i64] p 7, nI p 8, fL 28 lt2 p 9], none⟩)], [(60, ⟨53, [.sl true 4 [.bool]], (gL p 10), [], 0, [0, 0, 0, 0], 0⟩), aR 200004 3 [.int .i64] (gL p 11)], 1⟩),
  fun p => (.exit 10, ⟨(t0 (t2 (.pb 1 0 0) (t2 (nI p 0) Z (t0 Z (t0 Z (t0 (t1 (nI p 1)) Z)))) (t0 (t1 (.vw 60 0 [])) Z)) (t0 (t2 (.vw 200004 0 []) Z (t0 Z (t0 Z (t0 (t1 (nI p 2)) Z)))) (t0 (t0 Z (t0 Z (t0 (t1 (fL 28 lt2 p 3)) Z))) Z))), [(1, ⟨0, [.str (gS p 4), nB p 5, fL 3 [.int .i64] p 6, nI p 7, fL 28 lt2 p 8], none⟩)], [(60, ⟨53, [.sl true 4 [.bool]], (gL p 9), [], 0, [0, 0, 0, 0], 0⟩), aR 200004 3 [.int .i64] (gL p 10)], 1⟩)]),
 (12, [fun p => (.ret, ⟨(t0 (t2 (.pb 1 0 0) (t2 (nI p 0) (t0 (t1 (nI p 1)) Z) (t0 Z (t0 Z (t0 (t1 (nI p 2)) Z)))) (t0 (t2 (.vw 60 0 []) (t1 (.pb 17 0 0)) Z) (t2 (nI p 3) Z (t0 (t0 Z (t1 (nI p 4))) Z)))) (t2 (nB p 5) (t2 (.vw 200004 0 []) Z (t0 Z (t0 (t0 Z (t1 (fL 25 lt3 p 6))) (t0 (t1 (nI p 7)) Z)))) (t0 (t0 Z (t0 Z (t0 (t1 (fL 28 lt2 p 8)) Z))) (t0 Z (t0 (t0 Z (t1 (nI p 9))) Z))))), [(1, ⟨0, [.str (gS p 10), nB p 11, fL 3 [.int .i64] p 12, nI p 13, fL 28 lt2 p 14], none⟩), (17, ⟨0, [nI p 15, nI p 16, nI p 17, nI p 18, nI p 19, fL 3 [.int .i64] p 20, fL 3 [.int .i64] p 21], none⟩)], [(60, ⟨53, [.sl true 4 [.bool]], (gL p 22), [], 0, [0, 0, 0, 0], 0⟩), aR 200004 3 [.int .i64] (gL p 23)], 1⟩),
  fun p => (.exit 12, ⟨(t0 (t2 (.pb 1 0 0) (t2 (nI p 0) (t0 (t1 (nI p 1)) Z) (t0 Z (t0 Z (t0 (t1 (nI p 2)) Z)))) (t0 (t2 (.vw 60 0 []) (t1 (.pb 17 0 0)) Z) (t2 (nI p 3) Z (t0 (t0 Z (t1 (nI p 4))) Z)))) (t0 (t2 (.vw 200004 0 []) Z (t0 Z (t0 (t0 Z (t1 (fL 25 lt3 p 5))) (t0 (t1 (nI p 6)) Z)))) (t0 (t0 Z (t0 Z (t0 (t1 (fL 28 lt2 p 7)) Z))) (t0 Z (t0 (t0 Z (t1 (nI p 8))) Z))))), [(1, ⟨0, [.str (gS p 9), nB p 10, fL 3 [.int .i64] p 11, nI p 12, fL 28 lt2 p 13], none⟩), (17, ⟨0, [nI p 14, nI p 15, nI p 16, nI p 17, nI p 18, fL 3 [.int .i64] p 19, fL 3 [.int .i64] p 20], none⟩)], [(60, ⟨53, [.sl true 4 [.bool]], (gL p 21), [], 0, [0, 0, 0, 0], 0⟩), aR 200004 3 [.int .i64] (gL p 22)], 1⟩)])]
def F_wf_used : Fn := { np := 1, bs := [0, 2, 4, 6, 8, 10, 12], main := M_wf_used, lps := [(0, L_wf_used_0), (2, L_wf_used_2), (4, L_wf_used_4), (6, L_wf_used_6), (8, L_wf_used_8), (10, L_wf_used_10), (12, L_wf_used_12)] }
def M_ir_Types (x : List D) : Sh :=
 .ask (lim (1 + (nX (gD x 0) 2)) 8)
 (.loop 0 [.i 0, .l (eX (gD x 0) 4), .i (iX (gD x 0) 4), .l ([.i 0] ++ (eX (gD x 0) 2))] (.cons (fun p0 =>
 .ret (aL p0 0) [])
 .nil))
 (.bad)
def L_ir_Types_0 (p : List D) : Sh :=
 .ask (ltI (gI p 0) (gI p 2))
 (.ask (within (gI p 0) (List.length (gL p 1)))
 (.loop 2 [aI p 0, aL p 1, .i (iE (gD (gL p 1) (tI p 0))), .l (D.els (gD (gL p 1) (tI p 0))), aI p 2, .i 0, aL p 3] (.cons (fun p0 =>
 .again [.i (addA .i64 (gI p0 0) 1), aL p0 1, aI p0 2, aL p0 3])
 .nil))
 (.bad))
 (.out (0, [aL p 3]))
def L_ir_Types_2 (p : List D) : Sh :=
 .ask (ltI (gI p 5) (gI p 2))
 (.ask (within (gI p 5) (List.length (gL p 3)))
 (.ask (!(eqI (vI (gD (gL p 3) (tI p 5)) 1) 0))
 (.ask (lim ((List.length (gL p 6)) + 1) 8)
 (.again [aI p 0, aL p 1, aI p 2, aL p 3, aI p 4, .i (addA .i64 (gI p 5) 1), .l ((gL p 6) ++ [.i (vI (gD (gL p 3) (tI p 5)) 1)])])
 (.bad))
 (.again [aI p 0, aL p 1, aI p 2, aL p 3, aI p 4, .i (addA .i64 (gI p 5) 1), aL p 6]))
 (.bad))
 (.out (0, [aI p 0, aL p 1, aI p 4, aL p 6]))
def S_ir_Types : STab := [(0, fun p => ⟨(t0 (t0 (t2 (.vw 200003 0 []) (t0 (t1 (nI p 0)) Z) Z) (t0 Z (t1 (fL 28 lt2 p 1)))) (t0 Z (t0 Z (t1 (nI p 2))))), [], [aR 200003 3 [.int .i64] (gL p 3)], 1⟩),
 (2, fun p => ⟨(t0 (t0 (t2 (.vw 200003 0 []) (t0 (t1 (nI p 0)) Z) Z) (t0 Z (t2 (fL 28 lt2 p 1) (t1 (nI p 2)) Z))) (t0 (t0 Z (t0 (t1 (fL 25 lt3 p 3)) Z)) (t0 Z (t2 (nI p 4) (t1 (nI p 5)) Z)))), [], [aR 200003 3 [.int .i64] (gL p 6)], 1⟩)]
def T_ir_Types : TTab := [(0, [fun p => (.exit 0, ⟨(t0 (t0 (t1 (.vw 200003 0 [])) Z) (t0 Z Z)), [], [aR 200003 3 [.int .i64] (gL p 0)], 1⟩)]),
 (2, [fun p => (.exit 2, ⟨(t0 (t0 (t2 (.vw 200003 0 []) (t0 (t1 (nI p 0)) Z) Z) (t0 Z (t1 (fL 28 lt2 p 1)))) (t0 Z (t0 Z (t1 (nI p 2))))), [], [aR 200003 3 [.int .i64] (gL p 3)], 1⟩)])]
def F_ir_Types : Fn := { np := 1, bs := [0, 2], main := M_ir_Types, lps := [(0, L_ir_Types_0), (2, L_ir_Types_2)] }
def M_facts_Func_offs (x : List D) : Sh :=
 .ask ((leI 0 (iX (gD x 0) 0)) && ((eqI (iX (gD x 0) 0) (iX (gD x 0) 0)) && (lim (Int.toNat (iX (gD x 0) 0)) 16)))
 (.loop 0 [.i 0, .i (iX (gD x 0) 0), .l (eX (gD x 0) 0), .l (eX (gD x 0) 1), .l (List.replicate (nX (gD x 0) 0) (D.l [.i 0, .i 0])), .l (eX (gD x 0) 3)] (.cons (fun p0 =>
 .ret (.l []) [.l [aL p0 0, aL p0 1, aL p0 2, aL p0 3]])
 .nil))
 (.bad)
def L_facts_Func_offs_0 (p : List D) : Sh :=
 .ask (ltI (gI p 0) (gI p 1))
 (.call facts_Func_off [.l [aL p 2, aL p 3, aL p 4, aL p 5], aI p 0] 1 fun r0 q0 =>
 .again [.i (addA .i64 (gI p 0) 1), aI p 1, .l (eX (gD q0 0) 0), .l (eX (gD q0 0) 1), .l (eX (gD q0 0) 2), .l (eX (gD q0 0) 3)])
 (.out (0, [aL p 2, aL p 3, aL p 4, aL p 5]))
def S_facts_Func_offs : STab := [(0, fun p => ⟨(t2 (.pb 500 0 0) (t0 Z (t0 (t0 (t1 (nI p 0)) Z) Z)) (t0 (t0 (t0 (t1 (nI p 1)) Z) Z) Z)), [(500, ⟨0, [.vw 332000 0 [], .vw 332001 0 [], .vw 332002 0 [], .vw 332003 0 []], none⟩)], [aR 332000 3 [.int .i64] (gL p 2), (332001, ⟨108, [.sl true 107 [.int .i64, .int .i64]], (gL p 3), [], 0, [0, 0, 0, 0], 0⟩), aR 332002 114 [.int .i64, .int .i64] (gL p 4), aR 332003 25 lt3 (gL p 5)], 1⟩)]
def T_facts_Func_offs : TTab := [(0, [fun p => (.exit 0, ⟨(t1 (.pb 500 0 0)), [(500, ⟨0, [.vw 332000 0 [], .vw 332001 0 [], .vw 332002 0 [], .vw 332003 0 []], none⟩)], [aR 332000 3 [.int .i64] (gL p 0), (332001, ⟨108, [.sl true 107 [.int .i64, .int .i64]], (gL p 1), [], 0, [0, 0, 0, 0], 0⟩), aR 332002 114 [.int .i64, .int .i64] (gL p 2), aR 332003 25 lt3 (gL p 3)], 1⟩)])]
def F_facts_Func_offs : Fn := { np := 1, bs := [0], main := M_facts_Func_offs, lps := [(0, L_facts_Func_offs_0)] }
def M_facts_Facts_Ends (x : List D) : Sh :=
 .call facts_Facts_Edges [(gD x 0)] 0 fun r0 _ =>
 .ask ((leI 0 (iX (gD x 0) 3)) && ((eqI (iX (gD x 0) 3) (iX (gD x 0) 3)) && (lim (Int.toNat (iX (gD x 0) 3)) 1)))
 (.call scc_Order [.l (D.els r0)] 0 fun r1 _ =>
 .loop 0 [(gD x 0), .l (D.els r0), .i 0, .i (iE r1), .l (List.replicate (nX (gD x 0) 3) (D.b false)), .l (D.els r1)] (.cons (fun p2 =>
 .ret (aL p2 0) [])
 .nil))
 (.bad)
def L_facts_Facts_Ends_0 (p : List D) : Sh :=
 .ask (ltI (gI p 2) (gI p 3))
 (.ask (within (gI p 2) (List.length (gL p 5)))
 (.ask (within (D.toI (gD (gL p 5) (tI p 2))) (nX (gD p 0) 3))
 (.call flow_Loops [.l [.s (D.toS (D.fld (gD (eX (gD p 0) 3) (Int.toNat (D.toI (gD (gL p 5) (tI p 2))))) 0)), .b (vB (gD (eX (gD p 0) 3) (Int.toNat (D.toI (gD (gL p 5) (tI p 2))))) 1), .l (eX (gD (eX (gD p 0) 3) (Int.toNat (D.toI (gD (gL p 5) (tI p 2))))) 2), .i (vI (gD (eX (gD p 0) 3) (Int.toNat (D.toI (gD (gL p 5) (tI p 2))))) 3), .l (eX (gD (eX (gD p 0) 3) (Int.toNat (D.toI (gD (gL p 5) (tI p 2))))) 4)]] 0 fun r0 _ =>
 .ask ((!(D.toB r0)) && true)
 (.call scc_Rec [aL p 1, .i (D.toI (gD (gL p 5) (tI p 2)))] 0 fun r1 _ =>
 .ask (within (D.toI (gD (gL p 5) (tI p 2))) (List.length (gL p 4)))
 (.ask (within (D.toI (gD (gL p 5) (tI p 2))) (List.length (gL p 1)))
 (.loop 2 [(gD p 0), aL p 1, .l (D.els (gD (gL p 1) (Int.toNat (D.toI (gD (gL p 5) (tI p 2)))))), .i 0, aI p 2, .i (iE (gD (gL p 1) (Int.toNat (D.toI (gD (gL p 5) (tI p 2)))))), aI p 3, .i (D.toI (gD (gL p 5) (tI p 2))), .l (List.set (gL p 4) (Int.toNat (D.toI (gD (gL p 5) (tI p 2)))) (D.b ((!(D.toB r0)) && (!(D.toB r1))))), aL p 5] (.cons (fun p2 =>
 .again [(gD p2 0), aL p2 1, .i (addA .i64 (gI p2 2) 1), aI p2 3, aL p2 4, aL p2 5])
 .nil))
 (.bad))
 (.bad))
 (.ask (within (D.toI (gD (gL p 5) (tI p 2))) (List.length (gL p 4)))
 (.ask (within (D.toI (gD (gL p 5) (tI p 2))) (List.length (gL p 1)))
 (.loop 2 [(gD p 0), aL p 1, .l (D.els (gD (gL p 1) (Int.toNat (D.toI (gD (gL p 5) (tI p 2)))))), .i 0, aI p 2, .i (iE (gD (gL p 1) (Int.toNat (D.toI (gD (gL p 5) (tI p 2)))))), aI p 3, .i (D.toI (gD (gL p 5) (tI p 2))), .l (List.set (gL p 4) (Int.toNat (D.toI (gD (gL p 5) (tI p 2)))) (D.b ((!(D.toB r0)) && (!(D.toB (.i 0)))))), aL p 5] (.cons (fun p1 =>
 .again [(gD p1 0), aL p1 1, .i (addA .i64 (gI p1 2) 1), aI p1 3, aL p1 4, aL p1 5])
 .nil))
 (.bad))
 (.bad)))
 (.bad))
 (.bad))
 (.out (0, [aL p 4]))
def L_facts_Facts_Ends_2 (p : List D) : Sh :=
 .ask (ltI (gI p 3) (gI p 5))
 (.ask (within (gI p 3) (List.length (gL p 2)))
 (.ask (within (gI p 7) (List.length (gL p 8)))
 (.ask ((!((D.toB (gD (gL p 8) (tI p 7))) && true)) || (within (D.toI (gD (gL p 2) (tI p 3))) (List.length (gL p 8))))
 (.ask (within (gI p 7) (List.length (gL p 8)))
 (.again [(gD p 0), aL p 1, aL p 2, .i (addA .i64 (gI p 3) 1), aI p 4, aI p 5, aI p 6, aI p 7, .l (List.set (gL p 8) (tI p 7) (D.b ((D.toB (gD (gL p 8) (tI p 7))) && (D.toB (gD (gL p 8) (Int.toNat (D.toI (gD (gL p 2) (tI p 3))))))))), aL p 9])
 (.bad))
 (.bad))
 (.bad))
 (.bad))
 (.out (0, [(gD p 0), aL p 1, aI p 4, aI p 6, aL p 8, aL p 9]))
def S_facts_Facts_Ends : STab := [(0, fun p => ⟨(t2 (.pz [] lt4 (gD p 0) 0) (t0 (t2 (.fz [] 23 [.sl false 3 [.int .i64]] (gL p 1)) Z (t0 (t1 (.vw 20000000 0 [])) Z)) (t0 Z (t0 (t1 (nI p 2)) Z))) (t0 (t2 (.vw 17 0 []) Z (t0 (t1 (nI p 3)) Z)) Z)), [], [aR 17 4 [.bool] (gL p 4), aR 20000000 3 [.int .i64] (gL p 5)], 1⟩),
 (2, fun p => ⟨(t2 (.pz [] lt4 (gD p 0) 0) (t0 (t2 (.fz [] 23 [.sl false 3 [.int .i64]] (gL p 1)) (t0 (t0 Z (t1 (fL 3 [.int .i64] p 2))) Z) (t0 (t1 (.vw 20000000 0 [])) Z)) (t0 (t0 (t0 Z (t1 (nI p 3))) Z) (t0 (t1 (nI p 4)) Z))) (t0 (t2 (.vw 17 0 []) (t0 (t0 Z (t1 (nI p 5))) Z) (t0 (t1 (nI p 6)) Z)) (t1 (nI p 7)))), [], [aR 17 4 [.bool] (gL p 8), aR 20000000 3 [.int .i64] (gL p 9)], 1⟩)]
def T_facts_Facts_Ends : TTab := [(0, [fun p => (.exit 0, ⟨(t0 Z (t0 (t1 (.vw 17 0 [])) Z)), [], [aR 17 4 [.bool] (gL p 0)], 1⟩)]),
 (2, [fun p => (.exit 2, ⟨(t2 (.pz [] lt4 (gD p 0) 0) (t0 (t2 (.fz [] 23 [.sl false 3 [.int .i64]] (gL p 1)) Z (t0 (t1 (.vw 20000000 0 [])) Z)) (t0 Z (t0 (t1 (nI p 2)) Z))) (t0 (t2 (.vw 17 0 []) Z (t0 (t1 (nI p 3)) Z)) Z)), [], [aR 17 4 [.bool] (gL p 4), aR 20000000 3 [.int .i64] (gL p 5)], 1⟩)])]
def F_facts_Facts_Ends : Fn := { np := 1, bs := [0, 2], main := M_facts_Facts_Ends, lps := [(0, L_facts_Facts_Ends_0), (2, L_facts_Facts_Ends_2)] }
def M_slices_Clone_Sint_int (x : List D) : Sh :=
 .ask (isNl (D.els (gD x 0)))
 (.bad)
 (.ask false
 (.ret (.l []) [])
 (.ask (lim (0 + (nE (gD x 0))) 8)
 (.ret (.l (D.els (gD x 0))) [])
 (.bad)))
def S_slices_Clone_Sint_int : STab := []
def T_slices_Clone_Sint_int : TTab := []
def F_slices_Clone_Sint_int : Fn := { np := 1, bs := [], main := M_slices_Clone_Sint_int, lps := [] }
def M_r3_Reach (x : List D) : Sh :=
 .call r3_from [.l [.s (D.toS (D.fld (gD x 0) 0)), .b (vB (gD x 0) 1), .l (eX (gD x 0) 2), .i (vI (gD x 0) 3), .l (eX (gD x 0) 4)], .i 0, .i (-1)] 0 fun r0 _ =>
 .ret (.l (D.els r0)) []
def S_r3_Reach : STab := []
def T_r3_Reach : TTab := []
def F_r3_Reach : Fn := { np := 1, bs := [], main := M_r3_Reach, lps := [] }
def M_r3_Prev (x : List D) : Sh :=
 .ask ((leI 0 (iX (gD x 0) 4)) && ((eqI (iX (gD x 0) 4) (iX (gD x 0) 4)) && (lim (Int.toNat (iX (gD x 0) 4)) 24)))
 (.loop 0 [.i 0, .s (D.toS (D.fld (gD x 0) 0)), .b (vB (gD x 0) 1), .l (eX (gD x 0) 2), .i (vI (gD x 0) 3), .l (eX (gD x 0) 4), .l (List.replicate (nX (gD x 0) 4) (D.l []))] (.cons (fun p0 =>
 .ret (aL p0 0) [])
 .nil))
 (.bad)
def L_r3_Prev_0 (p : List D) : Sh :=
 .ask (ltI (gI p 0) (iL (gL p 5)))
 (.call r3_Next [.l [aS p 1, aB p 2, aL p 3, aI p 4, aL p 5], aI p 0] 0 fun r0 _ =>
 .loop 2 [aI p 0, .i 0, aS p 1, aB p 2, aL p 3, aI p 4, aL p 5, aL p 6, .l (D.els r0)] (.cons (fun p1 =>
 .again [.i (addA .i64 (gI p1 0) 1), aS p1 1, aB p1 2, aL p1 3, aI p1 4, aL p1 5, aL p1 6])
 .nil))
 (.out (0, [aL p 6]))
def L_r3_Prev_2 (p : List D) : Sh :=
 .ask (ltI (gI p 1) (iL (gL p 8)))
 (.ask (within (gI p 1) (List.length (gL p 8)))
 (.ask (within (gI p 1) (List.length (gL p 8)))
 (.ask (within (D.toI (gD (gL p 8) (tI p 1))) (List.length (gL p 7)))
 (.ask (lim ((nE (gD (gL p 7) (Int.toNat (D.toI (gD (gL p 8) (tI p 1)))))) + 1) 8)
 (.ask ((eqI (D.toI (gD (gL p 8) (tI p 1))) (D.toI (gD (gL p 8) (tI p 1)))) && true)
 (.ask (within (D.toI (gD (gL p 8) (tI p 1))) (List.length (gL p 7)))
 (.ask ((Nat.beq (Int.toNat (D.toI (gD (gL p 8) (tI p 1)))) (Int.toNat (D.toI (gD (gL p 8) (tI p 1))))) && true)
 (.again [aI p 0, .i (addA .i64 (gI p 1) 1), aS p 2, aB p 3, aL p 4, aI p 5, aL p 6, .l (List.set (gL p 7) (Int.toNat (D.toI (gD (gL p 8) (tI p 1)))) (D.l ((D.els (gD (gL p 7) (Int.toNat (D.toI (gD (gL p 8) (tI p 1)))))) ++ [aI p 0]))), aL p 8])
 (.bad))
 (.bad))
 (.bad))
 (.bad))
 (.bad))
 (.bad))
 (.bad))
 (.out (0, [aI p 0, aS p 2, aB p 3, aL p 4, aI p 5, aL p 6, aL p 7]))
def S_r3_Prev : STab := [(0, fun p => ⟨(t0 (t2 (.pb 1 0 0) (t1 (.vw 10 0 [])) Z) (t0 (t1 (nI p 0)) Z)), [(1, ⟨0, [.str (gS p 1), nB p 2, fL 3 [.int .i64] p 3, nI p 4, fL 28 lt2 p 5], none⟩)], [(10, ⟨23, [.sl true 3 [.int .i64]], (gL p 6), [], 0, [0, 0, 0, 0], 0⟩)], 1⟩),
 (2, fun p => ⟨(t0 (t2 (.pb 1 0 0) (t1 (.vw 10 0 [])) (t1 (.vw 21000000 0 []))) (t0 (t1 (nI p 0)) (t1 (nI p 1)))), [(1, ⟨0, [.str (gS p 2), nB p 3, fL 3 [.int .i64] p 4, nI p 5, fL 28 lt2 p 6], none⟩)], [(10, ⟨23, [.sl true 3 [.int .i64]], (gL p 7), [], 0, [0, 0, 0, 0], 0⟩), aR 21000000 3 [.int .i64] (gL p 8)], 1⟩)]
def T_r3_Prev : TTab := [(0, [fun p => (.exit 0, ⟨(t0 (t0 (t1 (.vw 10 0 [])) Z) (t0 Z Z)), [], [(10, ⟨23, [.sl true 3 [.int .i64]], (gL p 0), [], 0, [0, 0, 0, 0], 0⟩)], 1⟩)]),
 (2, [fun p => (.exit 2, ⟨(t0 (t2 (.pb 1 0 0) (t1 (.vw 10 0 [])) Z) (t0 (t1 (nI p 0)) Z)), [(1, ⟨0, [.str (gS p 1), nB p 2, fL 3 [.int .i64] p 3, nI p 4, fL 28 lt2 p 5], none⟩)], [(10, ⟨23, [.sl true 3 [.int .i64]], (gL p 6), [], 0, [0, 0, 0, 0], 0⟩)], 1⟩)])]
def F_r3_Prev : Fn := { np := 1, bs := [0, 2], main := M_r3_Prev, lps := [(0, L_r3_Prev_0), (2, L_r3_Prev_2)] }
def M_ir_Size (x : List D) : Sh :=
 .loop 0 [.i 0, .l (eX (gD x 0) 4), .i 0, .i (iX (gD x 0) 4)] (.cons (fun p0 =>
 .ret (aI p0 0) [])
 .nil)
def L_ir_Size_0 (p : List D) : Sh :=
 .ask (ltI (gI p 2) (gI p 3))
 (.ask (within (gI p 2) (List.length (gL p 1)))
 (.again [.i (addA .i64 (gI p 0) (iE (gD (gL p 1) (tI p 2)))), aL p 1, .i (addA .i64 (gI p 2) 1), aI p 3])
 (.bad))
 (.out (0, [aI p 0]))
def S_ir_Size : STab := [(0, fun p => ⟨(t0 (t0 (t2 (nI p 0) (t1 (fL 28 lt2 p 1)) Z) (t0 (t1 (nI p 2)) Z)) (t0 (t0 (t1 (nI p 3)) Z) Z)), [], [], 1⟩)]
def T_ir_Size : TTab := [(0, [fun p => (.exit 0, ⟨(t0 (t0 (t1 (nI p 0)) Z) (t0 Z Z)), [], [], 1⟩)])]
def F_ir_Size : Fn := { np := 1, bs := [0], main := M_ir_Size, lps := [(0, L_ir_Size_0)] }
def M_slices_Contains_Sbool_bool (x : List D) : Sh :=
 .call slices_Index_Sbool_bool [.l (D.els (gD x 0)), .b (D.toB (gD x 1))] 0 fun r0 _ =>
 .ret (.b (leI 0 (D.toI r0))) []
def S_slices_Contains_Sbool_bool : STab := []
def T_slices_Contains_Sbool_bool : TTab := []
def F_slices_Contains_Sbool_bool : Fn := { np := 2, bs := [], main := M_slices_Contains_Sbool_bool, lps := [] }
def M_flow_Prev (x : List D) : Sh :=
 .ask ((leI 0 (iX (gD x 0) 4)) && ((eqI (iX (gD x 0) 4) (iX (gD x 0) 4)) && (lim (Int.toNat (iX (gD x 0) 4)) 24)))
 (.loop 0 [.i (iX (gD x 0) 4), .i 0, .s (D.toS (D.fld (gD x 0) 0)), .b (vB (gD x 0) 1), .l (eX (gD x 0) 2), .i (vI (gD x 0) 3), .l (eX (gD x 0) 4), .l (List.replicate (nX (gD x 0) 4) (D.l []))] (.cons (fun p0 =>
 .ret (aL p0 0) [])
 .nil))
 (.bad)
def L_flow_Prev_0 (p : List D) : Sh :=
 .ask (ltI (gI p 1) (gI p 0))
 (.call flow_Next [.l [aS p 2, aB p 3, aL p 4, aI p 5, aL p 6], aI p 1] 0 fun r0 _ =>
 .loop 2 [aI p 0, .i 0, aI p 1, .i (iE r0), aI p 1, aS p 2, aB p 3, aL p 4, aI p 5, aL p 6, aL p 7, .l (D.els r0)] (.cons (fun p1 =>
 .again [aI p1 0, .i (addA .i64 (gI p1 1) 1), aS p1 2, aB p1 3, aL p1 4, aI p1 5, aL p1 6, aL p1 7])
 .nil))
 (.out (0, [aL p 7]))
def L_flow_Prev_2 (p : List D) : Sh :=
 .ask (ltI (gI p 1) (gI p 3))
 (.ask (within (gI p 1) (List.length (gL p 11)))
 (.ask (within (D.toI (gD (gL p 11) (tI p 1))) (List.length (gL p 10)))
 (.ask (lim ((nE (gD (gL p 10) (Int.toNat (D.toI (gD (gL p 11) (tI p 1)))))) + 1) 8)
 (.ask (within (D.toI (gD (gL p 11) (tI p 1))) (List.length (gL p 10)))
 (.ask ((Nat.beq (Int.toNat (D.toI (gD (gL p 11) (tI p 1)))) (Int.toNat (D.toI (gD (gL p 11) (tI p 1))))) && true)
 (.again [aI p 0, .i (addA .i64 (gI p 1) 1), aI p 2, aI p 3, aI p 4, aS p 5, aB p 6, aL p 7, aI p 8, aL p 9, .l (List.set (gL p 10) (Int.toNat (D.toI (gD (gL p 11) (tI p 1)))) (D.l ((D.els (gD (gL p 10) (Int.toNat (D.toI (gD (gL p 11) (tI p 1)))))) ++ [aI p 2]))), aL p 11])
 (.bad))
 (.bad))
 (.bad))
 (.bad))
 (.bad))
 (.out (0, [aI p 0, aI p 4, aS p 5, aB p 6, aL p 7, aI p 8, aL p 9, aL p 10]))
def S_flow_Prev : STab := [(0, fun p => ⟨(t0 (t2 (.pb 1 0 0) (t1 (.vw 10 0 [])) (t0 Z (t1 (nI p 0)))) (t0 Z (t0 Z (t1 (nI p 1))))), [(1, ⟨0, [.str (gS p 2), nB p 3, fL 3 [.int .i64] p 4, nI p 5, fL 28 lt2 p 6], none⟩)], [(10, ⟨23, [.sl true 3 [.int .i64]], (gL p 7), [], 0, [0, 0, 0, 0], 0⟩)], 1⟩),
 (2, fun p => ⟨(t0 (t2 (.pb 1 0 0) (t2 (.vw 10 0 []) Z (t0 (t1 (.vw 20000000 0 [])) Z)) (t0 Z (t2 (nI p 0) (t1 (nI p 1)) Z))) (t0 (t2 (nI p 2) Z (t0 (t1 (nI p 3)) Z)) (t0 Z (t1 (nI p 4))))), [(1, ⟨0, [.str (gS p 5), nB p 6, fL 3 [.int .i64] p 7, nI p 8, fL 28 lt2 p 9], none⟩)], [(10, ⟨23, [.sl true 3 [.int .i64]], (gL p 10), [], 0, [0, 0, 0, 0], 0⟩), aR 20000000 3 [.int .i64] (gL p 11)], 1⟩)]
def T_flow_Prev : TTab := [(0, [fun p => (.exit 0, ⟨(t0 (t0 (t1 (.vw 10 0 [])) Z) (t0 Z Z)), [], [(10, ⟨23, [.sl true 3 [.int .i64]], (gL p 0), [], 0, [0, 0, 0, 0], 0⟩)], 1⟩)]),
 (2, [fun p => (.exit 2, ⟨(t0 (t2 (.pb 1 0 0) (t1 (.vw 10 0 [])) (t0 Z (t1 (nI p 0)))) (t0 Z (t0 Z (t1 (nI p 1))))), [(1, ⟨0, [.str (gS p 2), nB p 3, fL 3 [.int .i64] p 4, nI p 5, fL 28 lt2 p 6], none⟩)], [(10, ⟨23, [.sl true 3 [.int .i64]], (gL p 7), [], 0, [0, 0, 0, 0], 0⟩)], 1⟩)])]
def F_flow_Prev : Fn := { np := 1, bs := [0, 2], main := M_flow_Prev, lps := [(0, L_flow_Prev_0), (2, L_flow_Prev_2)] }
def M_slices_Clone_Sapi_Base_api_Base (x : List D) : Sh :=
 .ask (isNl (D.els (gD x 0)))
 (.bad)
 (.ask false
 (.ret (.l []) [])
 (.ask (lim (0 + (nE (gD x 0))) 16)
 (.ret (.l (D.els (gD x 0))) [])
 (.bad)))
def S_slices_Clone_Sapi_Base_api_Base : STab := []
def T_slices_Clone_Sapi_Base_api_Base : TTab := []
def F_slices_Clone_Sapi_Base_api_Base : Fn := { np := 1, bs := [], main := M_slices_Clone_Sapi_Base_api_Base, lps := [] }
def J_facts_Func_off_0 (x : List D) : Sh :=
 .ask (eqI (vI (gD (eX (gD x 0) 3) (Int.toNat (D.toI (gD x 1)))) 0) 19)
 (.ask (within 0 (nX (gD (eX (gD x 0) 3) (Int.toNat (D.toI (gD x 1)))) 5))
 (.call facts_Func_off [.l [.l (eX (gD x 0) 0), .l (eX (gD x 0) 1), .l (eX (gD x 0) 2), .l (eX (gD x 0) 3)], .i (D.toI (gD (eX (gD (eX (gD x 0) 3) (Int.toNat (D.toI (gD x 1)))) 5) 0))] 1 fun r0 q0 =>
 .ask (within 1 (nX (gD (eX (gD x 0) 3) (Int.toNat (D.toI (gD x 1)))) 5))
 (.call facts_Func_Num [.l [.l (eX (gD q0 0) 0), .l (eX (gD q0 0) 1), .l (eX (gD q0 0) 2), .l (eX (gD q0 0) 3)], .i (D.toI (gD (eX (gD (eX (gD x 0) 3) (Int.toNat (D.toI (gD x 1)))) 5) 1))] 0 fun r1 _ =>
 .ask ((eqI (vI r0 0) 1) && (vB r1 1))
 (.ask (within (D.toI (gD x 1)) (nX (gD q0 0) 2))
 (let z0 := List.set (eX (gD q0 0) 2) (Int.toNat (D.toI (gD x 1))) (D.l (setPad (D.els (gD (eX (gD q0 0) 2) (Int.toNat (D.toI (gD x 1))))) 0 (D.i 1))); .ret (D.l [D.i 1, D.i (addA .i64 (vI r0 1) (vI r1 0))]) [D.l [D.l (eX (gD q0 0) 0), D.l (eX (gD q0 0) 1), D.l (List.set z0 (Int.toNat (D.toI (gD x 1))) (D.l (setPad (D.els (gD z0 (Int.toNat (D.toI (gD x 1))))) 1 (D.i (addA .i64 (vI r0 1) (vI r1 0)))))), D.l (eX (gD q0 0) 3)]])
 (.bad))
 (.ask (within (D.toI (gD x 1)) (nX (gD q0 0) 2))
 (let z0 := List.set (eX (gD q0 0) 2) (Int.toNat (D.toI (gD x 1))) (D.l (setPad (D.els (gD (eX (gD q0 0) 2) (Int.toNat (D.toI (gD x 1))))) 0 (D.i 2))); .ret (D.l [D.i 2, D.i 0]) [D.l [D.l (eX (gD q0 0) 0), D.l (eX (gD q0 0) 1), D.l (List.set z0 (Int.toNat (D.toI (gD x 1))) (D.l (setPad (D.els (gD z0 (Int.toNat (D.toI (gD x 1))))) 1 (D.i 0)))), D.l (eX (gD q0 0) 3)]])
 (.bad)))
 (.bad))
 (.bad))
 (.ask (within (D.toI (gD x 1)) (nX (gD x 0) 2))
 (let z0 := List.set (eX (gD x 0) 2) (Int.toNat (D.toI (gD x 1))) (D.l (setPad (D.els (gD (eX (gD x 0) 2) (Int.toNat (D.toI (gD x 1))))) 0 (D.i 2))); .ret (D.l [D.i 2, D.i 0]) [D.l [D.l (eX (gD x 0) 0), D.l (eX (gD x 0) 1), D.l (List.set z0 (Int.toNat (D.toI (gD x 1))) (D.l (setPad (D.els (gD z0 (Int.toNat (D.toI (gD x 1))))) 1 (D.i 0)))), D.l (eX (gD x 0) 3)]])
 (.bad))
def J_facts_Func_off_1 (x : List D) : Sh :=
 .ask (within (D.toI (gD x 1)) (nX (gD x 0) 2))
 (let z0 := List.set (eX (gD x 0) 2) (Int.toNat (D.toI (gD x 1))) (D.l (setPad (D.els (gD (eX (gD x 0) 2) (Int.toNat (D.toI (gD x 1))))) 0 (D.i 1))); .ret (D.l [D.i 1, D.i 0]) [D.l [D.l (eX (gD x 0) 0), D.l (eX (gD x 0) 1), D.l (List.set z0 (Int.toNat (D.toI (gD x 1))) (D.l (setPad (D.els (gD z0 (Int.toNat (D.toI (gD x 1))))) 1 (D.i 0)))), D.l (eX (gD x 0) 3)]])
 (.bad)
def M_facts_Func_off (x : List D) : Sh :=
 .ask (within (D.toI (gD x 1)) (nX (gD x 0) 0))
 (.ask ((!(!(!(eqI (D.toI (gD (eX (gD x 0) 0) (Int.toNat (D.toI (gD x 1))))) 3)))) || (within (D.toI (gD x 1)) (nX (gD x 0) 2)))
 (.ask ((!(eqI (D.toI (gD (eX (gD x 0) 0) (Int.toNat (D.toI (gD x 1))))) 3)) || (!(eqI (vI (gD (eX (gD x 0) 2) (Int.toNat (D.toI (gD x 1)))) 0) 0)))
 (.ask (within (D.toI (gD x 1)) (nX (gD x 0) 2))
 (.ret (.l [.i (vI (gD (eX (gD x 0) 2) (Int.toNat (D.toI (gD x 1)))) 0), .i (vI (gD (eX (gD x 0) 2) (Int.toNat (D.toI (gD x 1)))) 1)]) [.l [.l (eX (gD x 0) 0), .l (eX (gD x 0) 1), .l (eX (gD x 0) 2), .l (eX (gD x 0) 3)]])
 (.bad))
 (.ask (within (D.toI (gD x 1)) (nX (gD x 0) 3))
 (.ask (eqI (vI (gD (eX (gD x 0) 3) (Int.toNat (D.toI (gD x 1)))) 0) 18)
 (.ask (eqI (vI (gD (eX (gD x 0) 3) (Int.toNat (D.toI (gD x 1)))) 0) 18)
 (J_facts_Func_off_1 x)
 (J_facts_Func_off_0 x))
 (.ask (eqI (vI (gD (eX (gD x 0) 3) (Int.toNat (D.toI (gD x 1)))) 0) 3)
 (J_facts_Func_off_1 x)
 (J_facts_Func_off_0 x)))
 (.bad)))
 (.bad))
 (.bad)
def S_facts_Func_off : STab := []
def T_facts_Func_off : TTab := []
def F_facts_Func_off : Fn := { np := 2, bs := [], main := M_facts_Func_off, lps := [] }
def M_scc_Order (x : List D) : Sh :=
 .call scc_Of [.l (D.els (gD x 0))] 0 fun r0 _ =>
 .loop 0 [.l (D.els r0), .i 0, .i (iE r0), .l []] (.cons (fun p1 =>
 .ret (aL p1 0) [])
 .nil)
def L_scc_Order_0 (p : List D) : Sh :=
 .ask (ltI (gI p 1) (gI p 2))
 (.ask (within (gI p 1) (List.length (gL p 0)))
 (.ask (lim ((List.length (gL p 3)) + (nE (gD (gL p 0) (tI p 1)))) 8)
 (.again [aL p 0, .i (addA .i64 (gI p 1) 1), aI p 2, .l ((gL p 3) ++ (D.els (gD (gL p 0) (tI p 1))))])
 (.bad))
 (.bad))
 (.out (0, [aL p 3]))
def S_scc_Order : STab := [(0, fun p => ⟨(t0 (t0 (t2 (.vw 200003 0 []) (t1 (.fz [] 23 [.sl false 3 [.int .i64]] (gL p 0))) Z) (t0 (t1 (nI p 1)) Z)) (t0 (t0 (t1 (nI p 2)) Z) Z)), [], [aR 200003 3 [.int .i64] (gL p 3)], 1⟩)]
def T_scc_Order : TTab := [(0, [fun p => (.exit 0, ⟨(t0 (t0 (t1 (.vw 200003 0 [])) Z) (t0 Z Z)), [], [aR 200003 3 [.int .i64] (gL p 0)], 1⟩)])]
def F_scc_Order : Fn := { np := 1, bs := [0], main := M_scc_Order, lps := [(0, L_scc_Order_0)] }
def M_ir_copyIns (x : List D) : Sh :=
 .call slices_Clone_Sint_int [.l (eX (gD x 0) 5)] 0 fun r0 _ =>
 .call slices_Clone_Sint_int [.l (eX (gD x 0) 6)] 0 fun r1 _ =>
 .ret (.l [.i (vI (gD x 0) 0), .i (vI (gD x 0) 1), .i (vI (gD x 0) 2), .i (vI (gD x 0) 3), .i (vI (gD x 0) 4), .l (D.els r0), .l (D.els r1)]) []
def S_ir_copyIns : STab := []
def T_ir_copyIns : TTab := []
def F_ir_copyIns : Fn := { np := 1, bs := [], main := M_ir_copyIns, lps := [] }
def M_r3_Name (x : List D) : Sh :=
 .ask ((!(!((ltI (iL (D.toS (gD x 0))) 1) || (ltI 12 (iL (D.toS (gD x 0))))))) || (within 0 (List.length (D.toS (gD x 0)))))
 (.ask ((!(!(((ltI (iL (D.toS (gD x 0))) 1) || (ltI 12 (iL (D.toS (gD x 0))))) || (ltI (byteV (D.toS (gD x 0)) 0) 97)))) || (within 0 (List.length (D.toS (gD x 0)))))
 (.ask ((((ltI (iL (D.toS (gD x 0))) 1) || (ltI 12 (iL (D.toS (gD x 0))))) || (ltI (byteV (D.toS (gD x 0)) 0) 97)) || (ltI 122 (byteV (D.toS (gD x 0)) 0)))
 (.ret (.b false) [])
 (.loop 0 [.s (D.toS (gD x 0)), .i 0] (.cons (fun p0 =>
 .ret (aB p0 0) [])
 (.cons (fun p0 =>
 .ret (.b true) [])
 .nil))))
 (.bad))
 (.bad)
def L_r3_Name_0 (p : List D) : Sh :=
 .ask (ltI (gI p 1) (iL (gS p 0)))
 (.ask (within (gI p 1) (List.length (gS p 0)))
 (.ask ((((ltI (byteV (gS p 0) (gI p 1)) 97) || (ltI 122 (byteV (gS p 0) (gI p 1)))) && ((ltI (byteV (gS p 0) (gI p 1)) 48) || (ltI 57 (byteV (gS p 0) (gI p 1))))) && (!(eqI (byteV (gS p 0) (gI p 1)) 95)))
 (.out (0, [.b false]))
 (.again [aS p 0, .i (addA .i64 (gI p 1) 1)]))
 (.bad))
 (.out (1, []))
def S_r3_Name : STab := [(0, fun p => ⟨(t2 (.str (gS p 0)) (t0 (t1 (nI p 1)) Z) Z), [], [], 1⟩)]
def T_r3_Name : TTab := [(0, [fun p => (.ret, ⟨(t0 Z (t1 (nB p 0))), [], [], 1⟩),
  fun p => (.exit 0, ⟨(t0 Z (t0 Z Z)), [], [], 1⟩)])]
def F_r3_Name : Fn := { np := 1, bs := [0], main := M_r3_Name, lps := [(0, L_r3_Name_0)] }
def J_wf_Mark_5 (x : List D) : Sh :=
 .ask (eqI (D.toI (gD x 0)) 26)
 (.ret (.l [.i (-1), .i (-1), .b false, .b false]) [])
 (.ask (eqI (D.toI (gD x 0)) 27)
 (.ret (.l [.i 0, .i 1, .b false, .b false]) [])
 (.ask (eqI (D.toI (gD x 0)) 28)
 (.ret (.l [.i 1, .i 2, .b false, .b false]) [])
 (.ret (.l [.i 0, .i 0, .b false, .b false]) [])))
def J_wf_Mark_4 (x : List D) : Sh :=
 .ask (eqI (D.toI (gD x 0)) 24)
 (.ret (.l [.i 1, .i 0, .b true, .b false]) [])
 (.ask (eqI (D.toI (gD x 0)) 25)
 (.ask (eqI (D.toI (gD x 0)) 25)
 (.ret (.l [.i (-1), .i 0, .b false, .b false]) [])
 (J_wf_Mark_5 x))
 (.ask (eqI (D.toI (gD x 0)) 29)
 (.ret (.l [.i (-1), .i 0, .b false, .b false]) [])
 (J_wf_Mark_5 x)))
def J_wf_Mark_3 (x : List D) : Sh :=
 .ask (eqI (D.toI (gD x 0)) 17)
 (.ret (.l [.i 3, .i 0, .b false, .b false]) [])
 (.ask (eqI (D.toI (gD x 0)) 22)
 (.ask (eqI (D.toI (gD x 0)) 22)
 (.ret (.l [.i (-1), .i 0, .b true, .b false]) [])
 (J_wf_Mark_4 x))
 (.ask (eqI (D.toI (gD x 0)) 23)
 (.ret (.l [.i (-1), .i 0, .b true, .b false]) [])
 (J_wf_Mark_4 x)))
def J_wf_Mark_2 (x : List D) : Sh :=
 .ask (eqI (D.toI (gD x 0)) 16)
 (.ask (eqI (D.toI (gD x 0)) 16)
 (.ret (.l [.i 1, .i 0, .b false, .b false]) [])
 (J_wf_Mark_3 x))
 (.ask (eqI (D.toI (gD x 0)) 20)
 (.ret (.l [.i 1, .i 0, .b false, .b false]) [])
 (J_wf_Mark_3 x))
def J_wf_Mark_1 (x : List D) : Sh :=
 .ask (eqI (D.toI (gD x 0)) 4)
 (.ask (eqI (D.toI (gD x 0)) 4)
 (.ret (.l [.i 2, .i 0, .b false, .b false]) [])
 (J_wf_Mark_2 x))
 (.ask (eqI (D.toI (gD x 0)) 5)
 (.ask (eqI (D.toI (gD x 0)) 5)
 (.ret (.l [.i 2, .i 0, .b false, .b false]) [])
 (J_wf_Mark_2 x))
 (.ask (eqI (D.toI (gD x 0)) 6)
 (.ask (eqI (D.toI (gD x 0)) 6)
 (.ret (.l [.i 2, .i 0, .b false, .b false]) [])
 (J_wf_Mark_2 x))
 (.ask (eqI (D.toI (gD x 0)) 7)
 (.ask (eqI (D.toI (gD x 0)) 7)
 (.ret (.l [.i 2, .i 0, .b false, .b false]) [])
 (J_wf_Mark_2 x))
 (.ask (eqI (D.toI (gD x 0)) 8)
 (.ask (eqI (D.toI (gD x 0)) 8)
 (.ret (.l [.i 2, .i 0, .b false, .b false]) [])
 (J_wf_Mark_2 x))
 (.ask (eqI (D.toI (gD x 0)) 9)
 (.ask (eqI (D.toI (gD x 0)) 9)
 (.ret (.l [.i 2, .i 0, .b false, .b false]) [])
 (J_wf_Mark_2 x))
 (.ask (eqI (D.toI (gD x 0)) 10)
 (.ask (eqI (D.toI (gD x 0)) 10)
 (.ret (.l [.i 2, .i 0, .b false, .b false]) [])
 (J_wf_Mark_2 x))
 (.ask (eqI (D.toI (gD x 0)) 11)
 (.ask (eqI (D.toI (gD x 0)) 11)
 (.ret (.l [.i 2, .i 0, .b false, .b false]) [])
 (J_wf_Mark_2 x))
 (.ask (eqI (D.toI (gD x 0)) 12)
 (.ask (eqI (D.toI (gD x 0)) 12)
 (.ret (.l [.i 2, .i 0, .b false, .b false]) [])
 (J_wf_Mark_2 x))
 (.ask (eqI (D.toI (gD x 0)) 13)
 (.ask (eqI (D.toI (gD x 0)) 13)
 (.ret (.l [.i 2, .i 0, .b false, .b false]) [])
 (J_wf_Mark_2 x))
 (.ask (eqI (D.toI (gD x 0)) 14)
 (.ask (eqI (D.toI (gD x 0)) 14)
 (.ret (.l [.i 2, .i 0, .b false, .b false]) [])
 (J_wf_Mark_2 x))
 (.ask (eqI (D.toI (gD x 0)) 15)
 (.ask (eqI (D.toI (gD x 0)) 15)
 (.ret (.l [.i 2, .i 0, .b false, .b false]) [])
 (J_wf_Mark_2 x))
 (.ask (eqI (D.toI (gD x 0)) 19)
 (.ask (eqI (D.toI (gD x 0)) 19)
 (.ret (.l [.i 2, .i 0, .b false, .b false]) [])
 (J_wf_Mark_2 x))
 (.ask (eqI (D.toI (gD x 0)) 21)
 (.ret (.l [.i 2, .i 0, .b false, .b false]) [])
 (J_wf_Mark_2 x))))))))))))))
def J_wf_Mark_0 (x : List D) : Sh :=
 .ask (eqI (D.toI (gD x 0)) 2)
 (.ask (eqI (D.toI (gD x 0)) 2)
 (.ret (.l [.i 0, .i 0, .b true, .b false]) [])
 (J_wf_Mark_1 x))
 (.ask (eqI (D.toI (gD x 0)) 3)
 (.ret (.l [.i 0, .i 0, .b true, .b false]) [])
 (J_wf_Mark_1 x))
def M_wf_Mark (x : List D) : Sh :=
 .ask (eqI (D.toI (gD x 0)) 1)
 (.ask (eqI (D.toI (gD x 0)) 1)
 (.ret (.l [.i 0, .i 0, .b false, .b true]) [])
 (J_wf_Mark_0 x))
 (.ask (eqI (D.toI (gD x 0)) 18)
 (.ret (.l [.i 0, .i 0, .b false, .b true]) [])
 (J_wf_Mark_0 x))
def S_wf_Mark : STab := []
def T_wf_Mark : TTab := []
def F_wf_Mark : Fn := { np := 1, bs := [], main := M_wf_Mark, lps := [] }
def M_slices_Index_Sbool_bool (x : List D) : Sh :=
 .loop 0 [.l (D.els (gD x 0)), .b (D.toB (gD x 1)), .i (iE (gD x 0)), .i 0] (.cons (fun p0 =>
 .ret (aI p0 0) [])
 (.cons (fun p0 =>
 .ret (.i (-1)) [])
 .nil))
def L_slices_Index_Sbool_bool_0 (p : List D) : Sh :=
 .ask (ltI (gI p 3) (gI p 2))
 (.ask (within (gI p 3) (List.length (gL p 0)))
 (.ask (bif (gB p 1) then D.toB (gD (gL p 0) (tI p 3)) else !(D.toB (gD (gL p 0) (tI p 3))))
 (.out (0, [aI p 3]))
 (.again [aL p 0, aB p 1, aI p 2, .i (addA .i64 (gI p 3) 1)]))
 (.bad))
 (.out (1, []))
def S_slices_Index_Sbool_bool : STab := [(0, fun p => ⟨(t2 (fL 4 [.bool] p 0) (t2 (nB p 1) (t0 (t1 (nI p 2)) Z) Z) (t0 (t0 (t1 (nI p 3)) Z) Z)), [], [], 1⟩)]
def T_slices_Index_Sbool_bool : TTab := [(0, [fun p => (.ret, ⟨(t0 Z (t0 (t1 (nI p 0)) Z)), [], [], 1⟩),
  fun p => (.exit 0, ⟨(t0 Z (t0 (t0 Z Z) Z)), [], [], 1⟩)])]
def F_slices_Index_Sbool_bool : Fn := { np := 2, bs := [0], main := M_slices_Index_Sbool_bool, lps := [(0, L_slices_Index_Sbool_bool_0)] }
def M_wf_rows (x : List D) : Sh :=
 .ask (!(eqI (iE (gD x 1)) (iE (gD x 2))))
 (.ret (.b false) [])
 (.loop 0 [.l (D.els (gD x 0)), .i (iE (gD x 1)), .l (D.els (gD x 2)), .i 0, .l (D.els (gD x 1))] (.cons (fun p0 =>
 .ret (aB p0 0) [])
 (.cons (fun p0 =>
 .ret (.b true) [])
 .nil)))
def L_wf_rows_0 (p : List D) : Sh :=
 .ask (ltI (gI p 3) (gI p 1))
 (.ask (within (gI p 3) (List.length (gL p 4)))
 (.ask (within (D.toI (gD (gL p 4) (tI p 3))) (List.length (gL p 0)))
 (.ask (within (gI p 3) (List.length (gL p 2)))
 (.ask (!(eqI (D.toI (gD (gL p 0) (Int.toNat (D.toI (gD (gL p 4) (tI p 3)))))) (D.toI (gD (gL p 2) (tI p 3)))))
 (.out (0, [.b false]))
 (.again [aL p 0, aI p 1, aL p 2, .i (addA .i64 (gI p 3) 1), aL p 4]))
 (.bad))
 (.bad))
 (.bad))
 (.out (1, []))
def S_wf_rows : STab := [(0, fun p => ⟨(t2 (fL 3 [.int .i64] p 0) (t0 (t0 (t0 (t1 (nI p 1)) Z) Z) Z) (t2 (fL 3 [.int .i64] p 2) (t0 (t0 (t1 (nI p 3)) Z) Z) (t0 Z (t1 (fL 3 [.int .i64] p 4))))), [], [], 1⟩)]
def T_wf_rows : TTab := [(0, [fun p => (.ret, ⟨(t0 Z (t0 Z (t1 (nB p 0)))), [], [], 1⟩),
  fun p => (.exit 0, ⟨(t0 Z (t0 Z (t0 Z Z))), [], [], 1⟩)])]
def F_wf_rows : Fn := { np := 3, bs := [0], main := M_wf_rows, lps := [(0, L_wf_rows_0)] }
def M_r3_Last (x : List D) : Sh :=
 .ask ((!(!((ltI (D.toI (gD x 1)) 0) || (leI (iX (gD x 0) 4) (D.toI (gD x 1)))))) || (within (D.toI (gD x 1)) (nX (gD x 0) 4)))
 (.ask (((ltI (D.toI (gD x 1)) 0) || (leI (iX (gD x 0) 4) (D.toI (gD x 1)))) || (eqI (iE (gD (eX (gD x 0) 4) (Int.toNat (D.toI (gD x 1))))) 0))
 (.ret (.l [.l [.i 0, .i 0, .i 0, .i 0, .i 0, .l [], .l []], .b false]) [])
 (.ask (within (D.toI (gD x 1)) (nX (gD x 0) 4))
 (.ask (within (wrapA .i64 ((iE (gD (eX (gD x 0) 4) (Int.toNat (D.toI (gD x 1))))) - 1)) (nE (gD (eX (gD x 0) 4) (Int.toNat (D.toI (gD x 1))))))
 (let z0 := gE (gD (eX (gD x 0) 4) (Int.toNat (D.toI (gD x 1)))) (Int.toNat (wrapA .i64 ((iE (gD (eX (gD x 0) 4) (Int.toNat (D.toI (gD x 1))))) - 1))); .ret (D.l [D.l [D.i (vI z0 0), D.i (vI z0 1), D.i (vI z0 2), D.i (vI z0 3), D.i (vI z0 4), D.l (eX z0 5), D.l (eX z0 6)], D.b true]) [])
 (.bad))
 (.bad)))
 (.bad)
def S_r3_Last : STab := []
def T_r3_Last : TTab := []
def F_r3_Last : Fn := { np := 2, bs := [], main := M_r3_Last, lps := [] }
def M_r3_In (x : List D) : Sh :=
 .loop 0 [.l (D.els (gD x 0)), .i (D.toI (gD x 1)), .i 0] (.cons (fun p0 =>
 .ret (aB p0 0) [])
 (.cons (fun p0 =>
 .ret (.b false) [])
 .nil))
def L_r3_In_0 (p : List D) : Sh :=
 .ask (ltI (gI p 2) (iL (gL p 0)))
 (.ask (within (gI p 2) (List.length (gL p 0)))
 (.ask (eqI (D.toI (gD (gL p 0) (tI p 2))) (gI p 1))
 (.out (0, [.b true]))
 (.again [aL p 0, aI p 1, .i (addA .i64 (gI p 2) 1)]))
 (.bad))
 (.out (1, []))
def S_r3_In : STab := [(0, fun p => ⟨(t2 (fL 3 [.int .i64] p 0) (t2 (nI p 1) Z (t1 (nI p 2))) Z), [], [], 1⟩)]
def T_r3_In : TTab := [(0, [fun p => (.ret, ⟨(t0 Z (t0 (t1 (nB p 0)) Z)), [], [], 1⟩),
  fun p => (.exit 0, ⟨(t0 Z (t0 (t0 Z Z) Z)), [], [], 1⟩)])]
def F_r3_In : Fn := { np := 2, bs := [0], main := M_r3_In, lps := [(0, L_r3_In_0)] }
def M_slices_insertionSortCmpFunc_api_Base (x : List D) : Sh :=
 .loop 0 [.l (D.els (gD x 0)), .i (D.toI (gD x 1)), .i (D.toI (gD x 2)), .i (addA .i64 (D.toI (gD x 1)) 1)] (.cons (fun p0 =>
 .ret (.l []) [])
 .nil)
def L_slices_insertionSortCmpFunc_api_Base_0 (p : List D) : Sh :=
 .ask (ltI (gI p 3) (gI p 2))
 (.loop 2 [aL p 0, aI p 1, aI p 3, aI p 2, aI p 3] (.cons (fun p0 =>
 .again [aL p0 0, aI p0 1, aI p0 2, .i (addA .i64 (gI p0 3) 1)])
 .nil))
 (.out (0, []))
def J_slices_insertionSortCmpFunc_api_Base_0 (p : List D) : Sh :=
 .ask (within (wrapA .i64 ((gI p 2) - 1)) (List.length (gL p 0)))
 (.ask (within (gI p 2) (List.length (gL p 0)))
 (.ask (within (gI p 2) (List.length (gL p 0)))
 (.bad)
 (.bad))
 (.bad))
 (.bad)
def L_slices_insertionSortCmpFunc_api_Base_2 (p : List D) : Sh :=
 .ask ((!((ltI (gI p 1) (gI p 2)) && true)) || (within (gI p 2) (List.length (gL p 0))))
 (.ask ((!((ltI (gI p 1) (gI p 2)) && true)) || (within (wrapA .i64 ((gI p 2) - 1)) (List.length (gL p 0))))
 (.ask ((ltI (gI p 1) (gI p 2)) && true)
 (.call facts_lesser [.l [.i (vI (gD (gL p 0) (tI p 2)) 0), .i (vI (gD (gL p 0) (tI p 2)) 1)], .l [.i (vI (gD (gL p 0) (Int.toNat (wrapA .i64 ((gI p 2) - 1)))) 0), .i (vI (gD (gL p 0) (Int.toNat (wrapA .i64 ((gI p 2) - 1)))) 1)]] 0 fun r0 _ =>
 .ask ((ltI (gI p 1) (gI p 2)) && (ltI (D.toI r0) 0))
 (J_slices_insertionSortCmpFunc_api_Base_0 p)
 (.out (0, [aL p 0, aI p 1, aI p 3, aI p 4])))
 (.ask ((ltI (gI p 1) (gI p 2)) && (ltI 0 0))
 (J_slices_insertionSortCmpFunc_api_Base_0 p)
 (.out (0, [aL p 0, aI p 1, aI p 3, aI p 4]))))
 (.bad))
 (.bad)
def S_slices_insertionSortCmpFunc_api_Base : STab := [(0, fun p => ⟨(t2 (fL 107 [.int .i64, .int .i64] p 0) (t2 (nI p 1) (t1 (.fn 68 [])) Z) (t2 (nI p 2) (t0 (t1 (nI p 3)) Z) Z)), [], [], 1⟩),
 (2, fun p => ⟨(t2 (fL 107 [.int .i64, .int .i64] p 0) (t2 (nI p 1) (t1 (.fn 68 [])) (t0 (t1 (nI p 2)) Z)) (t2 (nI p 3) (t0 (t1 (nI p 4)) Z) Z)), [], [], 1⟩)]
def T_slices_insertionSortCmpFunc_api_Base : TTab := [(0, [fun p => (.exit 0, ⟨Z, [], [], 1⟩)]),
 (2, [fun p => (.exit 2, ⟨(t2 (fL 107 [.int .i64, .int .i64] p 0) (t2 (nI p 1) (t1 (.fn 68 [])) Z) (t2 (nI p 2) (t0 (t1 (nI p 3)) Z) Z)), [], [], 1⟩)])]
def F_slices_insertionSortCmpFunc_api_Base : Fn := { np := 4, bs := [0, 2], main := M_slices_insertionSortCmpFunc_api_Base, lps := [(0, L_slices_insertionSortCmpFunc_api_Base_0), (2, L_slices_insertionSortCmpFunc_api_Base_2)] }
def M_slices_Sort_Sint_int (x : List D) : Sh :=
 .call math_bits_Len [.i (wrapA .u64 (iE (gD x 0)))] 0 fun r0 _ =>
 .call slices_pdqsortOrdered_int [.l (D.els (gD x 0)), .i 0, .i (iE (gD x 0)), .i (D.toI r0)] 0 fun r1 _ =>
 .ret (.l []) []
def S_slices_Sort_Sint_int : STab := []
def T_slices_Sort_Sint_int : TTab := []
def F_slices_Sort_Sint_int : Fn := { np := 1, bs := [], main := M_slices_Sort_Sint_int, lps := [] }
def M_cmp_isNaN_int (x : List D) : Sh :=
 .ret (.b (!(eqI (D.toI (gD x 0)) (D.toI (gD x 0))))) []
def S_cmp_isNaN_int : STab := []
def T_cmp_isNaN_int : TTab := []
def F_cmp_isNaN_int : Fn := { np := 1, bs := [], main := M_cmp_isNaN_int, lps := [] }
def M_law21_waste (x : List D) : Sh :=
 .ret (.l [.l [], .l [], .l [], .l [.l [.s [102], .b true, .l [.i 1], .i 0, .l [.l [.l [.i 4, .i 1, .i 2, .i 0, .i 0, .l [.i 1, .i 1], .l []], .l [.i 7, .i 1, .i 3, .i 0, .i 0, .l [.i 1, .i 1], .l []], .l [.i 29, .i 0, .i 0, .i 0, .i 0, .l [], .l []]]]]]]) []
def S_law21_waste : STab := []
def T_law21_waste : TTab := []
def F_law21_waste : Fn := { np := 0, bs := [], main := M_law21_waste, lps := [] }
def M_wf_Check (x : List D) : Sh :=
 .call wf_small [.l [.l (eX (gD x 0) 0), .l (eX (gD x 0) 1), .l (eX (gD x 0) 2), .l (eX (gD x 0) 3)]] 0 fun r0 _ =>
 .ask (!(D.toB r0))
 (.ret (.i 2) [])
 (.call wf_formed [.l [.l (eX (gD x 0) 0), .l (eX (gD x 0) 1), .l (eX (gD x 0) 2), .l (eX (gD x 0) 3)]] 0 fun r1 _ =>
 .ask (!(D.toB r1))
 (.ret (.i 1) [])
 (.call wf_named [.l [.l (eX (gD x 0) 0), .l (eX (gD x 0) 1), .l (eX (gD x 0) 2), .l (eX (gD x 0) 3)]] 0 fun r2 _ =>
 .ask (!(D.toB r2))
 (.ret (.i 3) [])
 (.call wf_known [.l [.l (eX (gD x 0) 0), .l (eX (gD x 0) 1), .l (eX (gD x 0) 2), .l (eX (gD x 0) 3)]] 0 fun r3 _ =>
 .ask (!(D.toB r3))
 (.ret (.i 4) [])
 (.loop 1 [.i (iX (gD x 0) 3), .i 0, .l (eX (gD x 0) 3), .l (eX (gD x 0) 0), .l (eX (gD x 0) 1), .l (eX (gD x 0) 2), .l (eX (gD x 0) 3)] (.cons (fun p4 =>
 .ret (aI p4 0) [])
 (.cons (fun p4 =>
 .loop 3 [.i 0, aL p4 3, .i (iL (gL p4 3)), aL p4 0, aL p4 1, aL p4 2, aL p4 3] (.cons (fun p5 =>
 .ret (aI p5 0) [])
 (.cons (fun p5 =>
 .loop 5 [.i (iL (gL p5 3)), aL p5 3, .i 0, aL p5 0, aL p5 1, aL p5 2, aL p5 3] (.cons (fun p6 =>
 .ret (aI p6 0) [])
 (.cons (fun p6 =>
 .ret (.i 0) [])
 .nil)))
 .nil)))
 .nil))))))
def L_wf_Check_1 (p : List D) : Sh :=
 .ask (ltI (gI p 1) (gI p 0))
 (.ask (within (gI p 1) (List.length (gL p 2)))
 (.call wf_flows [.l [.s (D.toS (D.fld (gD (gL p 2) (tI p 1)) 0)), .b (vB (gD (gL p 2) (tI p 1)) 1), .l (eX (gD (gL p 2) (tI p 1)) 2), .i (vI (gD (gL p 2) (tI p 1)) 3), .l (eX (gD (gL p 2) (tI p 1)) 4)]] 0 fun r0 _ =>
 .ask (!(D.toB r0))
 (.out (0, [.i 5, aL p 3, aL p 4, aL p 5, aL p 6]))
 (.again [aI p 0, .i (addA .i64 (gI p 1) 1), aL p 2, aL p 3, aL p 4, aL p 5, aL p 6]))
 (.bad))
 (.out (1, [aL p 3, aL p 4, aL p 5, aL p 6]))
def L_wf_Check_3 (p : List D) : Sh :=
 .ask (ltI (gI p 0) (gI p 2))
 (.ask (within (gI p 0) (List.length (gL p 1)))
 (.call wf_used [.l [.s (D.toS (D.fld (gD (gL p 1) (tI p 0)) 0)), .b (vB (gD (gL p 1) (tI p 0)) 1), .l (eX (gD (gL p 1) (tI p 0)) 2), .i (vI (gD (gL p 1) (tI p 0)) 3), .l (eX (gD (gL p 1) (tI p 0)) 4)]] 0 fun r0 _ =>
 .ask (!(D.toB r0))
 (.out (0, [.i 6, aL p 3, aL p 4, aL p 5, aL p 6]))
 (.again [.i (addA .i64 (gI p 0) 1), aL p 1, aI p 2, aL p 3, aL p 4, aL p 5, aL p 6]))
 (.bad))
 (.out (1, [aL p 3, aL p 4, aL p 5, aL p 6]))
def L_wf_Check_5 (p : List D) : Sh :=
 .ask (ltI (gI p 2) (gI p 0))
 (.ask (within (gI p 2) (List.length (gL p 1)))
 (.call wf_typed [.l [aL p 3, aL p 4, aL p 5, aL p 6], .l [.s (D.toS (D.fld (gD (gL p 1) (tI p 2)) 0)), .b (vB (gD (gL p 1) (tI p 2)) 1), .l (eX (gD (gL p 1) (tI p 2)) 2), .i (vI (gD (gL p 1) (tI p 2)) 3), .l (eX (gD (gL p 1) (tI p 2)) 4)]] 0 fun r0 _ =>
 .ask (!(D.toB r0))
 (.out (0, [.i 7]))
 (.again [aI p 0, aL p 1, .i (addA .i64 (gI p 2) 1), aL p 3, aL p 4, aL p 5, aL p 6]))
 (.bad))
 (.out (1, []))
def S_wf_Check : STab := [(1, fun p => ⟨(t0 (t2 (.pb 1 0 0) (t0 Z (t0 Z (t1 (nI p 0)))) Z) (t0 (t0 Z (t0 Z (t1 (nI p 1)))) (t0 (t0 Z (t1 (fL 38 lt1 p 2))) Z))), [(1, ⟨0, [fL 31 lt0 p 3, .fz [] 35 [.str, .sl false 2 [.int .i64]] (gL p 4), .fz [] 68 [.str, .sl false 3 [.int .i64]] (gL p 5), fL 38 lt1 p 6], none⟩)], [], 1⟩),
 (3, fun p => ⟨(t0 (t2 (.pb 1 0 0) (t0 (t0 Z (t0 (t1 (nI p 0)) Z)) Z) (t0 Z (t0 (t0 (t1 (fL 38 lt1 p 1)) Z) Z))) (t0 Z (t0 Z (t0 (t0 (t1 (nI p 2)) Z) Z)))), [(1, ⟨0, [fL 31 lt0 p 3, .fz [] 35 [.str, .sl false 2 [.int .i64]] (gL p 4), .fz [] 68 [.str, .sl false 3 [.int .i64]] (gL p 5), fL 38 lt1 p 6], none⟩)], [], 1⟩),
 (5, fun p => ⟨(t0 (t2 (.pb 1 0 0) Z (t0 (t0 (t0 Z (t1 (nI p 0))) Z) Z)) (t0 (t0 (t0 (t0 Z (t1 (fL 38 lt1 p 1))) Z) Z) (t0 (t0 (t0 Z (t1 (nI p 2))) Z) Z))), [(1, ⟨0, [fL 31 lt0 p 3, .fz [] 35 [.str, .sl false 2 [.int .i64]] (gL p 4), .fz [] 68 [.str, .sl false 3 [.int .i64]] (gL p 5), fL 38 lt1 p 6], none⟩)], [], 1⟩)]
def T_wf_Check : TTab := [(1, [fun p => (.ret, ⟨(t0 (t1 (.pb 1 0 0)) (t1 (nI p 0))), [(1, ⟨0, [fL 31 lt0 p 1, .fz [] 35 [.str, .sl false 2 [.int .i64]] (gL p 2), .fz [] 68 [.str, .sl false 3 [.int .i64]] (gL p 3), fL 38 lt1 p 4], none⟩)], [], 1⟩),
  fun p => (.exit 1, ⟨(t0 (t1 (.pb 1 0 0)) (t0 Z Z)), [(1, ⟨0, [fL 31 lt0 p 0, .fz [] 35 [.str, .sl false 2 [.int .i64]] (gL p 1), .fz [] 68 [.str, .sl false 3 [.int .i64]] (gL p 2), fL 38 lt1 p 3], none⟩)], [], 1⟩)]),
 (3, [fun p => (.ret, ⟨(t0 (t1 (.pb 1 0 0)) (t1 (nI p 0))), [(1, ⟨0, [fL 31 lt0 p 1, .fz [] 35 [.str, .sl false 2 [.int .i64]] (gL p 2), .fz [] 68 [.str, .sl false 3 [.int .i64]] (gL p 3), fL 38 lt1 p 4], none⟩)], [], 1⟩),
  fun p => (.exit 3, ⟨(t0 (t1 (.pb 1 0 0)) (t0 Z Z)), [(1, ⟨0, [fL 31 lt0 p 0, .fz [] 35 [.str, .sl false 2 [.int .i64]] (gL p 1), .fz [] 68 [.str, .sl false 3 [.int .i64]] (gL p 2), fL 38 lt1 p 3], none⟩)], [], 1⟩)]),
 (5, [fun p => (.ret, ⟨(t0 Z (t1 (nI p 0))), [], [], 1⟩),
  fun p => (.exit 5, ⟨(t0 Z (t0 Z Z)), [], [], 1⟩)])]
def F_wf_Check : Fn := { np := 1, bs := [1, 3, 5], main := M_wf_Check, lps := [(1, L_wf_Check_1), (3, L_wf_Check_3), (5, L_wf_Check_5)] }
def M_r3_names (x : List D) : Sh :=
 .loop 0 [.i 0, .i 0, .l (eX (gD x 0) 0), .l (eX (gD x 0) 1), .l (eX (gD x 0) 2), .l (eX (gD x 0) 3), .l []] (.cons (fun p0 =>
 .loop 2 [aI p0 0, .i 0, aL p0 1, aL p0 2, aL p0 3, aL p0 4, aL p0 5] (.cons (fun p1 =>
 .loop 4 [.i 0, aI p1 0, aL p1 1, aL p1 2, aL p1 3, aL p1 4, aL p1 5] (.cons (fun p2 =>
 .loop 6 [aI p2 0, .i 0, aL p2 1, aL p2 2, aL p2 3, aL p2 4, aL p2 5] (.cons (fun p3 =>
 .ret (.b (eqI (gI p3 0) 0)) [])
 .nil))
 .nil))
 .nil))
 .nil)
def L_r3_names_0 (p : List D) : Sh :=
 .ask (ltI (gI p 0) (iL (gL p 2)))
 (.ask (within (gI p 0) (List.length (gL p 2)))
 (.call r3_Name [.s (D.toS (D.fld (gD (gL p 2) (tI p 0)) 0))] 0 fun r0 _ =>
 .ask ((!(D.toB r0)) || (ltI 1 (D.toI (gotD (.int .i64) (findD .str (.s (D.toS (D.fld (gD (gL p 2) (tI p 0)) 0))) 0 (putD (.s (D.toS (D.fld (gD (gL p 2) (tI p 0)) 0))) (.i (addA .i64 (D.toI (gotD (.int .i64) (findD .str (.s (D.toS (D.fld (gD (gL p 2) (tI p 0)) 0))) 0 (gL p 6)))) 1)) (gL p 6) (findD .str (.s (D.toS (D.fld (gD (gL p 2) (tI p 0)) 0))) 0 (gL p 6))))))))
 (.again (let z0 := findD .str (D.s (D.toS (D.fld (gD (gL p 2) (tI p 0)) 0))) 0 (gL p 6); [.i (addA .i64 (gI p 0) 1), .i (addA .i64 (gI p 1) 1), aL p 2, aL p 3, aL p 4, aL p 5, .l (putD (D.s (D.toS (D.fld (gD (gL p 2) (tI p 0)) 0))) (D.i (addA .i64 (D.toI (gotD (.int .i64) z0)) 1)) (gL p 6) z0)]))
 (.again (let z0 := findD .str (D.s (D.toS (D.fld (gD (gL p 2) (tI p 0)) 0))) 0 (gL p 6); [.i (addA .i64 (gI p 0) 1), .i (addA .i64 (gI p 1) 0), aL p 2, aL p 3, aL p 4, aL p 5, .l (putD (D.s (D.toS (D.fld (gD (gL p 2) (tI p 0)) 0))) (D.i (addA .i64 (D.toI (gotD (.int .i64) z0)) 1)) (gL p 6) z0)])))
 (.bad))
 (.out (0, [aI p 1, aL p 2, aL p 3, aL p 4, aL p 5, aL p 6]))
def L_r3_names_2 (p : List D) : Sh :=
 .ask (ltI (gI p 1) (iL (gL p 3)))
 (.ask (within (gI p 1) (List.length (gL p 3)))
 (.call r3_Name [.s (D.toS (D.fld (gD (gL p 3) (tI p 1)) 0))] 0 fun r0 _ =>
 .ask ((!(D.toB r0)) || (ltI 1 (D.toI (gotD (.int .i64) (findD .str (.s (D.toS (D.fld (gD (gL p 3) (tI p 1)) 0))) 0 (putD (.s (D.toS (D.fld (gD (gL p 3) (tI p 1)) 0))) (.i (addA .i64 (D.toI (gotD (.int .i64) (findD .str (.s (D.toS (D.fld (gD (gL p 3) (tI p 1)) 0))) 0 (gL p 6)))) 1)) (gL p 6) (findD .str (.s (D.toS (D.fld (gD (gL p 3) (tI p 1)) 0))) 0 (gL p 6))))))))
 (.again (let z0 := findD .str (D.s (D.toS (D.fld (gD (gL p 3) (tI p 1)) 0))) 0 (gL p 6); [.i (addA .i64 (gI p 0) 1), .i (addA .i64 (gI p 1) 1), aL p 2, aL p 3, aL p 4, aL p 5, .l (putD (D.s (D.toS (D.fld (gD (gL p 3) (tI p 1)) 0))) (D.i (addA .i64 (D.toI (gotD (.int .i64) z0)) 1)) (gL p 6) z0)]))
 (.again (let z0 := findD .str (D.s (D.toS (D.fld (gD (gL p 3) (tI p 1)) 0))) 0 (gL p 6); [.i (addA .i64 (gI p 0) 0), .i (addA .i64 (gI p 1) 1), aL p 2, aL p 3, aL p 4, aL p 5, .l (putD (D.s (D.toS (D.fld (gD (gL p 3) (tI p 1)) 0))) (D.i (addA .i64 (D.toI (gotD (.int .i64) z0)) 1)) (gL p 6) z0)])))
 (.bad))
 (.out (0, [aI p 0, aL p 2, aL p 3, aL p 4, aL p 5, aL p 6]))
def L_r3_names_4 (p : List D) : Sh :=
 .ask (ltI (gI p 0) (iL (gL p 4)))
 (.ask (within (gI p 0) (List.length (gL p 4)))
 (.call r3_Name [.s (D.toS (D.fld (gD (gL p 4) (tI p 0)) 0))] 0 fun r0 _ =>
 .ask ((!(D.toB r0)) || (ltI 1 (D.toI (gotD (.int .i64) (findD .str (.s (D.toS (D.fld (gD (gL p 4) (tI p 0)) 0))) 0 (putD (.s (D.toS (D.fld (gD (gL p 4) (tI p 0)) 0))) (.i (addA .i64 (D.toI (gotD (.int .i64) (findD .str (.s (D.toS (D.fld (gD (gL p 4) (tI p 0)) 0))) 0 (gL p 6)))) 1)) (gL p 6) (findD .str (.s (D.toS (D.fld (gD (gL p 4) (tI p 0)) 0))) 0 (gL p 6))))))))
 (.again (let z0 := findD .str (D.s (D.toS (D.fld (gD (gL p 4) (tI p 0)) 0))) 0 (gL p 6); [.i (addA .i64 (gI p 0) 1), .i (addA .i64 (gI p 1) 1), aL p 2, aL p 3, aL p 4, aL p 5, .l (putD (D.s (D.toS (D.fld (gD (gL p 4) (tI p 0)) 0))) (D.i (addA .i64 (D.toI (gotD (.int .i64) z0)) 1)) (gL p 6) z0)]))
 (.again (let z0 := findD .str (D.s (D.toS (D.fld (gD (gL p 4) (tI p 0)) 0))) 0 (gL p 6); [.i (addA .i64 (gI p 0) 1), .i (addA .i64 (gI p 1) 0), aL p 2, aL p 3, aL p 4, aL p 5, .l (putD (D.s (D.toS (D.fld (gD (gL p 4) (tI p 0)) 0))) (D.i (addA .i64 (D.toI (gotD (.int .i64) z0)) 1)) (gL p 6) z0)])))
 (.bad))
 (.out (0, [aI p 1, aL p 2, aL p 3, aL p 4, aL p 5, aL p 6]))
def L_r3_names_6 (p : List D) : Sh :=
 .ask (ltI (gI p 1) (iL (gL p 5)))
 (.ask (within (gI p 1) (List.length (gL p 5)))
 (.call r3_Name [.s (D.toS (D.fld (gD (gL p 5) (tI p 1)) 0))] 0 fun r0 _ =>
 .ask ((!(D.toB r0)) || (ltI 1 (D.toI (gotD (.int .i64) (findD .str (.s (D.toS (D.fld (gD (gL p 5) (tI p 1)) 0))) 0 (putD (.s (D.toS (D.fld (gD (gL p 5) (tI p 1)) 0))) (.i (addA .i64 (D.toI (gotD (.int .i64) (findD .str (.s (D.toS (D.fld (gD (gL p 5) (tI p 1)) 0))) 0 (gL p 6)))) 1)) (gL p 6) (findD .str (.s (D.toS (D.fld (gD (gL p 5) (tI p 1)) 0))) 0 (gL p 6))))))))
 (.again (let z0 := findD .str (D.s (D.toS (D.fld (gD (gL p 5) (tI p 1)) 0))) 0 (gL p 6); [.i (addA .i64 (gI p 0) 1), .i (addA .i64 (gI p 1) 1), aL p 2, aL p 3, aL p 4, aL p 5, .l (putD (D.s (D.toS (D.fld (gD (gL p 5) (tI p 1)) 0))) (D.i (addA .i64 (D.toI (gotD (.int .i64) z0)) 1)) (gL p 6) z0)]))
 (.again (let z0 := findD .str (D.s (D.toS (D.fld (gD (gL p 5) (tI p 1)) 0))) 0 (gL p 6); [.i (addA .i64 (gI p 0) 0), .i (addA .i64 (gI p 1) 1), aL p 2, aL p 3, aL p 4, aL p 5, .l (putD (D.s (D.toS (D.fld (gD (gL p 5) (tI p 1)) 0))) (D.i (addA .i64 (D.toI (gotD (.int .i64) z0)) 1)) (gL p 6) z0)])))
 (.bad))
 (.out (0, [aI p 0]))
def S_r3_names : STab := [(0, fun p => ⟨(t0 (t2 (.pb 1 0 0) (t1 (.mp 9 0)) (t1 (nI p 0))) (t0 (t1 (nI p 1)) Z)), [(1, ⟨0, [fL 31 lt0 p 2, .fz [] 35 [.str, .sl false 2 [.int .i64]] (gL p 3), .fz [] 68 [.str, .sl false 3 [.int .i64]] (gL p 4), fL 38 lt1 p 5], none⟩), (9, ⟨0, [], some ⟨.str, .int .i64, (gL p 6)⟩⟩)], [], 1⟩),
 (2, fun p => ⟨(t0 (t2 (.pb 1 0 0) (t1 (.mp 9 0)) Z) (t0 (t1 (nI p 0)) (t1 (nI p 1)))), [(1, ⟨0, [fL 31 lt0 p 2, .fz [] 35 [.str, .sl false 2 [.int .i64]] (gL p 3), .fz [] 68 [.str, .sl false 3 [.int .i64]] (gL p 4), fL 38 lt1 p 5], none⟩), (9, ⟨0, [], some ⟨.str, .int .i64, (gL p 6)⟩⟩)], [], 1⟩),
 (4, fun p => ⟨(t0 (t2 (.pb 1 0 0) (t2 (.mp 9 0) (t1 (nI p 0)) Z) Z) (t0 (t1 (nI p 1)) Z)), [(1, ⟨0, [fL 31 lt0 p 2, .fz [] 35 [.str, .sl false 2 [.int .i64]] (gL p 3), .fz [] 68 [.str, .sl false 3 [.int .i64]] (gL p 4), fL 38 lt1 p 5], none⟩), (9, ⟨0, [], some ⟨.str, .int .i64, (gL p 6)⟩⟩)], [], 1⟩),
 (6, fun p => ⟨(t0 (t2 (.pb 1 0 0) (t1 (.mp 9 0)) Z) (t0 (t2 (nI p 0) (t1 (nI p 1)) Z) Z)), [(1, ⟨0, [fL 31 lt0 p 2, .fz [] 35 [.str, .sl false 2 [.int .i64]] (gL p 3), .fz [] 68 [.str, .sl false 3 [.int .i64]] (gL p 4), fL 38 lt1 p 5], none⟩), (9, ⟨0, [], some ⟨.str, .int .i64, (gL p 6)⟩⟩)], [], 1⟩)]
def T_r3_names : TTab := [(0, [fun p => (.exit 0, ⟨(t0 (t2 (.pb 1 0 0) (t1 (.mp 9 0)) Z) (t0 (t1 (nI p 0)) Z)), [(1, ⟨0, [fL 31 lt0 p 1, .fz [] 35 [.str, .sl false 2 [.int .i64]] (gL p 2), .fz [] 68 [.str, .sl false 3 [.int .i64]] (gL p 3), fL 38 lt1 p 4], none⟩), (9, ⟨0, [], some ⟨.str, .int .i64, (gL p 5)⟩⟩)], [], 1⟩)]),
 (2, [fun p => (.exit 2, ⟨(t0 (t2 (.pb 1 0 0) (t1 (.mp 9 0)) Z) (t0 (t1 (nI p 0)) Z)), [(1, ⟨0, [fL 31 lt0 p 1, .fz [] 35 [.str, .sl false 2 [.int .i64]] (gL p 2), .fz [] 68 [.str, .sl false 3 [.int .i64]] (gL p 3), fL 38 lt1 p 4], none⟩), (9, ⟨0, [], some ⟨.str, .int .i64, (gL p 5)⟩⟩)], [], 1⟩)]),
 (4, [fun p => (.exit 4, ⟨(t0 (t2 (.pb 1 0 0) (t1 (.mp 9 0)) Z) (t0 (t1 (nI p 0)) Z)), [(1, ⟨0, [fL 31 lt0 p 1, .fz [] 35 [.str, .sl false 2 [.int .i64]] (gL p 2), .fz [] 68 [.str, .sl false 3 [.int .i64]] (gL p 3), fL 38 lt1 p 4], none⟩), (9, ⟨0, [], some ⟨.str, .int .i64, (gL p 5)⟩⟩)], [], 1⟩)]),
 (6, [fun p => (.exit 6, ⟨(t0 Z (t0 (t1 (nI p 0)) Z)), [], [], 1⟩)])]
def F_r3_names : Fn := { np := 1, bs := [0, 2, 4, 6], main := M_r3_names, lps := [(0, L_r3_names_0), (2, L_r3_names_2), (4, L_r3_names_4), (6, L_r3_names_6)] }
def M_r3_uses (x : List D) : Sh :=
 .loop 0 [.i (iX (gD x 0) 2), .i 0, .s (D.toS (D.fld (gD x 0) 0)), .b (vB (gD x 0) 1), .l (eX (gD x 0) 2), .i (vI (gD x 0) 3), .l (eX (gD x 0) 4)] (.cons (fun p0 =>
 .ret (aB p0 1) [])
 (.cons (fun p0 =>
 .call r3_Where [.l [aS p0 1, aB p0 2, aL p0 3, aI p0 4, aL p0 5]] 0 fun r1 _ =>
 .call r3_Doms [.l [aS p0 1, aB p0 2, aL p0 3, aI p0 4, aL p0 5]] 0 fun r2 _ =>
 .loop 4 [aI p0 0, .i 0, aS p0 1, aB p0 2, aL p0 3, aI p0 4, aL p0 5, .l (D.els r1), .l (D.els r2)] (.cons (fun p3 =>
 .ret (aB p3 0) [])
 (.cons (fun p3 =>
 .ret (.b true) [])
 .nil)))
 .nil))
def L_r3_uses_0 (p : List D) : Sh :=
 .ask (ltI (gI p 1) (iL (gL p 6)))
 (.loop 2 [aI p 0, .i 0, aI p 1, aS p 2, aB p 3, aL p 4, aI p 5, aL p 6] (.cons (fun p0 =>
 .out (0, [aI p0 0, aB p0 1, aS p0 3, aB p0 4, aL p0 5, aI p0 6, aL p0 7]))
 (.cons (fun p0 =>
 .again [aI p0 0, .i (addA .i64 (gI p0 1) 1), aS p0 2, aB p0 3, aL p0 4, aI p0 5, aL p0 6])
 .nil)))
 (.out (1, [aI p 0, aS p 2, aB p 3, aL p 4, aI p 5, aL p 6]))
def L_r3_uses_2 (p : List D) : Sh :=
 .ask (within (gI p 2) (List.length (gL p 7)))
 (.ask (ltI (gI p 1) (iE (gD (gL p 7) (tI p 2))))
 (.ask (within (gI p 2) (List.length (gL p 7)))
 (.ask (within (gI p 1) (nE (gD (gL p 7) (tI p 2))))
 (.ask (!(eqI (vI (gE (gD (gL p 7) (tI p 2)) (tI p 1)) 1) 0))
 (.ask (!(eqI (vI (gE (gD (gL p 7) (tI p 2)) (tI p 1)) 2) (addA .i64 (gI p 0) 1)))
 (.out (0, [.i (addA .i64 (gI p 0) 1), .b false, aI p 2, aS p 3, aB p 4, aL p 5, aI p 6, aL p 7]))
 (.again [.i (addA .i64 (gI p 0) 1), .i (addA .i64 (gI p 1) 1), aI p 2, aS p 3, aB p 4, aL p 5, aI p 6, aL p 7]))
 (.again [aI p 0, .i (addA .i64 (gI p 1) 1), aI p 2, aS p 3, aB p 4, aL p 5, aI p 6, aL p 7]))
 (.bad))
 (.bad))
 (.out (1, [aI p 0, aI p 2, aS p 3, aB p 4, aL p 5, aI p 6, aL p 7])))
 (.bad)
def L_r3_uses_4 (p : List D) : Sh :=
 .ask (ltI (gI p 1) (iL (gL p 6)))
 (.loop 6 [aI p 0, aI p 1, .i 0, aS p 2, aB p 3, aL p 4, aI p 5, aL p 6, aL p 7, aL p 8] (.cons (fun p0 =>
 .out (0, [aB p0 2]))
 (.cons (fun p0 =>
 .again [aI p0 0, .i (addA .i64 (gI p0 1) 1), aS p0 2, aB p0 3, aL p0 4, aI p0 5, aL p0 6, aL p0 7, aL p0 8])
 .nil)))
 (.out (1, []))
def L_r3_uses_6 (p : List D) : Sh :=
 .ask (within (gI p 1) (List.length (gL p 7)))
 (.ask (ltI (gI p 2) (iE (gD (gL p 7) (tI p 1))))
 (.ask (within (gI p 1) (List.length (gL p 7)))
 (.ask (within (gI p 2) (nE (gD (gL p 7) (tI p 1))))
 (.loop 8 [aI p 0, aI p 1, .i 0, aI p 2, aS p 3, aB p 4, aL p 5, aI p 6, aL p 7, .i (vI (gE (gD (gL p 7) (tI p 1)) (tI p 2)) 0), .i (vI (gE (gD (gL p 7) (tI p 1)) (tI p 2)) 1), .i (vI (gE (gD (gL p 7) (tI p 1)) (tI p 2)) 2), .i (vI (gE (gD (gL p 7) (tI p 1)) (tI p 2)) 3), .i (vI (gE (gD (gL p 7) (tI p 1)) (tI p 2)) 4), .l (eX (gE (gD (gL p 7) (tI p 1)) (tI p 2)) 5), .l (eX (gE (gD (gL p 7) (tI p 1)) (tI p 2)) 6), aL p 8, aL p 9] (.cons (fun p0 =>
 .out (0, [aI p0 0, aI p0 1, aB p0 2, aS p0 4, aB p0 5, aL p0 6, aI p0 7, aL p0 8, aL p0 9, aL p0 10]))
 (.cons (fun p0 =>
 .again [aI p0 0, aI p0 1, .i (addA .i64 (gI p0 2) 1), aS p0 3, aB p0 4, aL p0 5, aI p0 6, aL p0 7, aL p0 8, aL p0 9])
 .nil)))
 (.bad))
 (.bad))
 (.out (1, [aI p 0, aI p 1, aS p 3, aB p 4, aL p 5, aI p 6, aL p 7, aL p 8, aL p 9])))
 (.bad)
def L_r3_uses_8 (p : List D) : Sh :=
 .ask (ltI (gI p 2) (iL (gL p 14)))
 (.ask (within (gI p 2) (List.length (gL p 14)))
 (.ask ((ltI (D.toI (gD (gL p 14) (tI p 2))) 1) || (ltI (gI p 0) (D.toI (gD (gL p 14) (tI p 2)))))
 (.out (0, [aI p 0, aI p 1, .b false, aI p 3, aS p 4, aB p 5, aL p 6, aI p 7, aL p 8, aL p 16, aL p 17]))
 (.ask (within (D.toI (gD (gL p 14) (tI p 2))) (List.length (gL p 16)))
 (.ask (within 0 2)
 (.ask (ltI (vI (gD (gL p 16) (Int.toNat (D.toI (gD (gL p 14) (tI p 2))))) 0) 0)
 (.again [aI p 0, aI p 1, .i (addA .i64 (gI p 2) 1), aI p 3, aS p 4, aB p 5, aL p 6, aI p 7, aL p 8, aI p 9, aI p 10, aI p 11, aI p 12, aI p 13, aL p 14, aL p 15, aL p 16, aL p 17])
 (.ask (eqI (gI p 9) 26)
 (.ask (within 0 2)
 (.ask (within (vI (gD (gL p 16) (Int.toNat (D.toI (gD (gL p 14) (tI p 2))))) 0) (List.length (gL p 17)))
 (.ask (within (gI p 2) (List.length (gL p 15)))
 (.ask (within (D.toI (gD (gL p 15) (tI p 2))) (nE (gD (gL p 17) (Int.toNat (vI (gD (gL p 16) (Int.toNat (D.toI (gD (gL p 14) (tI p 2))))) 0)))))
 (.ask (!(D.toB (gE (gD (gL p 17) (Int.toNat (vI (gD (gL p 16) (Int.toNat (D.toI (gD (gL p 14) (tI p 2))))) 0))) (Int.toNat (D.toI (gD (gL p 15) (tI p 2)))))))
 (.out (0, [aI p 0, aI p 1, .b false, aI p 3, aS p 4, aB p 5, aL p 6, aI p 7, aL p 8, aL p 16, aL p 17]))
 (.again [aI p 0, aI p 1, .i (addA .i64 (gI p 2) 1), aI p 3, aS p 4, aB p 5, aL p 6, aI p 7, aL p 8, aI p 9, aI p 10, aI p 11, aI p 12, aI p 13, aL p 14, aL p 15, aL p 16, aL p 17]))
 (.bad))
 (.bad))
 (.bad))
 (.bad))
 (.ask (within 0 2)
 (.ask ((!((eqI (vI (gD (gL p 16) (Int.toNat (D.toI (gD (gL p 14) (tI p 2))))) 0) (gI p 1)) && true)) || (within 1 2))
 (.ask ((!(!((eqI (vI (gD (gL p 16) (Int.toNat (D.toI (gD (gL p 14) (tI p 2))))) 0) (gI p 1)) && (leI (gI p 3) (vI (gD (gL p 16) (Int.toNat (D.toI (gD (gL p 14) (tI p 2))))) 1))))) || (within 0 2))
 (.ask ((!((!((eqI (vI (gD (gL p 16) (Int.toNat (D.toI (gD (gL p 14) (tI p 2))))) 0) (gI p 1)) && (leI (gI p 3) (vI (gD (gL p 16) (Int.toNat (D.toI (gD (gL p 14) (tI p 2))))) 1)))) && ((!(eqI (vI (gD (gL p 16) (Int.toNat (D.toI (gD (gL p 14) (tI p 2))))) 0) (gI p 1))) && true))) || (within 0 2))
 (.ask ((!((!((eqI (vI (gD (gL p 16) (Int.toNat (D.toI (gD (gL p 14) (tI p 2))))) 0) (gI p 1)) && (leI (gI p 3) (vI (gD (gL p 16) (Int.toNat (D.toI (gD (gL p 14) (tI p 2))))) 1)))) && ((!(eqI (vI (gD (gL p 16) (Int.toNat (D.toI (gD (gL p 14) (tI p 2))))) 0) (gI p 1))) && true))) || (within (vI (gD (gL p 16) (Int.toNat (D.toI (gD (gL p 14) (tI p 2))))) 0) (List.length (gL p 17))))
 (.ask ((!((!((eqI (vI (gD (gL p 16) (Int.toNat (D.toI (gD (gL p 14) (tI p 2))))) 0) (gI p 1)) && (leI (gI p 3) (vI (gD (gL p 16) (Int.toNat (D.toI (gD (gL p 14) (tI p 2))))) 1)))) && ((!(eqI (vI (gD (gL p 16) (Int.toNat (D.toI (gD (gL p 14) (tI p 2))))) 0) (gI p 1))) && true))) || (within (gI p 1) (nE (gD (gL p 17) (Int.toNat (vI (gD (gL p 16) (Int.toNat (D.toI (gD (gL p 14) (tI p 2))))) 0))))))
 (.ask (((eqI (vI (gD (gL p 16) (Int.toNat (D.toI (gD (gL p 14) (tI p 2))))) 0) (gI p 1)) && (leI (gI p 3) (vI (gD (gL p 16) (Int.toNat (D.toI (gD (gL p 14) (tI p 2))))) 1))) || ((!(eqI (vI (gD (gL p 16) (Int.toNat (D.toI (gD (gL p 14) (tI p 2))))) 0) (gI p 1))) && (!(D.toB (gE (gD (gL p 17) (Int.toNat (vI (gD (gL p 16) (Int.toNat (D.toI (gD (gL p 14) (tI p 2))))) 0))) (tI p 1))))))
 (.out (0, [aI p 0, aI p 1, .b false, aI p 3, aS p 4, aB p 5, aL p 6, aI p 7, aL p 8, aL p 16, aL p 17]))
 (.again [aI p 0, aI p 1, .i (addA .i64 (gI p 2) 1), aI p 3, aS p 4, aB p 5, aL p 6, aI p 7, aL p 8, aI p 9, aI p 10, aI p 11, aI p 12, aI p 13, aL p 14, aL p 15, aL p 16, aL p 17]))
 (.bad))
 (.bad))
 (.bad))
 (.bad))
 (.bad))
 (.bad))))
 (.bad))
 (.bad)))
 (.bad))
 (.out (1, [aI p 0, aI p 1, aI p 3, aS p 4, aB p 5, aL p 6, aI p 7, aL p 8, aL p 16, aL p 17]))
def S_r3_uses : STab := [(0, fun p => ⟨(t0 (t2 (.pb 1 0 0) (t1 (nI p 0)) Z) (t0 (t1 (nI p 1)) Z)), [(1, ⟨0, [.str (gS p 2), nB p 3, fL 3 [.int .i64] p 4, nI p 5, fL 28 lt2 p 6], none⟩)], [], 1⟩),
 (2, fun p => ⟨(t0 (t2 (.pb 1 0 0) (t1 (nI p 0)) (t1 (nI p 1))) (t0 (t1 (nI p 2)) Z)), [(1, ⟨0, [.str (gS p 3), nB p 4, fL 3 [.int .i64] p 5, nI p 6, fL 28 lt2 p 7], none⟩)], [], 1⟩),
 (4, fun p => ⟨(t0 (t2 (.pb 1 0 0) (t2 (nI p 0) (t1 (.vw 56000000 0 [])) Z) (t0 (t1 (nI p 1)) Z)) (t0 (t0 (t1 (.vw 58000000 0 [])) Z) Z)), [(1, ⟨0, [.str (gS p 2), nB p 3, fL 3 [.int .i64] p 4, nI p 5, fL 28 lt2 p 6], none⟩)], [aR 56000000 98 [.int .i64, .int .i64] (gL p 7), (58000000, ⟨53, [.sl true 4 [.bool]], (gL p 8), [], 0, [0, 0, 0, 0], 0⟩)], 1⟩),
 (6, fun p => ⟨(t0 (t2 (.pb 1 0 0) (t2 (nI p 0) (t1 (.vw 56000000 0 [])) Z) (t0 (t1 (nI p 1)) Z)) (t0 (t0 (t1 (.vw 58000000 0 [])) Z) (t0 (t1 (nI p 2)) Z))), [(1, ⟨0, [.str (gS p 3), nB p 4, fL 3 [.int .i64] p 5, nI p 6, fL 28 lt2 p 7], none⟩)], [aR 56000000 98 [.int .i64, .int .i64] (gL p 8), (58000000, ⟨53, [.sl true 4 [.bool]], (gL p 9), [], 0, [0, 0, 0, 0], 0⟩)], 1⟩),
 (8, fun p => ⟨(t0 (t2 (.pb 1 0 0) (t2 (nI p 0) (t1 (.vw 56000000 0 [])) (t1 (.pb 11 0 0))) (t0 (t1 (nI p 1)) Z)) (t0 (t0 (t1 (.vw 58000000 0 [])) (t1 (nI p 2))) (t0 (t1 (nI p 3)) Z))), [(1, ⟨0, [.str (gS p 4), nB p 5, fL 3 [.int .i64] p 6, nI p 7, fL 28 lt2 p 8], none⟩), (11, ⟨0, [nI p 9, nI p 10, nI p 11, nI p 12, nI p 13, fL 3 [.int .i64] p 14, fL 3 [.int .i64] p 15], none⟩)], [aR 56000000 98 [.int .i64, .int .i64] (gL p 16), (58000000, ⟨53, [.sl true 4 [.bool]], (gL p 17), [], 0, [0, 0, 0, 0], 0⟩)], 1⟩)]
def T_r3_uses : TTab := [(0, [fun p => (.ret, ⟨(t0 (t2 (.pb 1 0 0) (t1 (nI p 0)) Z) (t1 (nB p 1))), [(1, ⟨0, [.str (gS p 2), nB p 3, fL 3 [.int .i64] p 4, nI p 5, fL 28 lt2 p 6], none⟩)], [], 1⟩),
  fun p => (.exit 0, ⟨(t0 (t2 (.pb 1 0 0) (t1 (nI p 0)) Z) (t0 Z Z)), [(1, ⟨0, [.str (gS p 1), nB p 2, fL 3 [.int .i64] p 3, nI p 4, fL 28 lt2 p 5], none⟩)], [], 1⟩)]),
 (2, [fun p => (.ret, ⟨(t0 (t2 (.pb 1 0 0) (t1 (nI p 0)) Z) (t2 (nB p 1) (t1 (nI p 2)) Z)), [(1, ⟨0, [.str (gS p 3), nB p 4, fL 3 [.int .i64] p 5, nI p 6, fL 28 lt2 p 7], none⟩)], [], 1⟩),
  fun p => (.exit 2, ⟨(t0 (t2 (.pb 1 0 0) (t1 (nI p 0)) Z) (t0 (t1 (nI p 1)) Z)), [(1, ⟨0, [.str (gS p 2), nB p 3, fL 3 [.int .i64] p 4, nI p 5, fL 28 lt2 p 6], none⟩)], [], 1⟩)]),
 (4, [fun p => (.ret, ⟨(t0 Z (t1 (nB p 0))), [], [], 1⟩),
  fun p => (.exit 4, ⟨(t0 Z (t0 Z Z)), [], [], 1⟩)]),
 (6, [fun p => (.ret, ⟨(t0 (t2 (.pb 1 0 0) (t2 (nI p 0) (t1 (.vw 56000000 0 [])) Z) (t0 (t1 (nI p 1)) Z)) (t2 (nB p 2) (t0 (t1 (.vw 58000000 0 [])) Z) Z)), [(1, ⟨0, [.str (gS p 3), nB p 4, fL 3 [.int .i64] p 5, nI p 6, fL 28 lt2 p 7], none⟩)], [aR 56000000 98 [.int .i64, .int .i64] (gL p 8), (58000000, ⟨53, [.sl true 4 [.bool]], (gL p 9), [], 0, [0, 0, 0, 0], 0⟩)], 1⟩),
  fun p => (.exit 6, ⟨(t0 (t2 (.pb 1 0 0) (t2 (nI p 0) (t1 (.vw 56000000 0 [])) Z) (t0 (t1 (nI p 1)) Z)) (t0 (t0 (t1 (.vw 58000000 0 [])) Z) Z)), [(1, ⟨0, [.str (gS p 2), nB p 3, fL 3 [.int .i64] p 4, nI p 5, fL 28 lt2 p 6], none⟩)], [aR 56000000 98 [.int .i64, .int .i64] (gL p 7), (58000000, ⟨53, [.sl true 4 [.bool]], (gL p 8), [], 0, [0, 0, 0, 0], 0⟩)], 1⟩)]),
 (8, [fun p => (.ret, ⟨(t0 (t2 (.pb 1 0 0) (t2 (nI p 0) (t1 (.vw 56000000 0 [])) Z) (t0 (t1 (nI p 1)) Z)) (t2 (nB p 2) (t0 (t1 (.vw 58000000 0 [])) Z) (t0 (t1 (nI p 3)) Z))), [(1, ⟨0, [.str (gS p 4), nB p 5, fL 3 [.int .i64] p 6, nI p 7, fL 28 lt2 p 8], none⟩)], [aR 56000000 98 [.int .i64, .int .i64] (gL p 9), (58000000, ⟨53, [.sl true 4 [.bool]], (gL p 10), [], 0, [0, 0, 0, 0], 0⟩)], 1⟩),
  fun p => (.exit 8, ⟨(t0 (t2 (.pb 1 0 0) (t2 (nI p 0) (t1 (.vw 56000000 0 [])) Z) (t0 (t1 (nI p 1)) Z)) (t0 (t0 (t1 (.vw 58000000 0 [])) Z) (t0 (t1 (nI p 2)) Z))), [(1, ⟨0, [.str (gS p 3), nB p 4, fL 3 [.int .i64] p 5, nI p 6, fL 28 lt2 p 7], none⟩)], [aR 56000000 98 [.int .i64, .int .i64] (gL p 8), (58000000, ⟨53, [.sl true 4 [.bool]], (gL p 9), [], 0, [0, 0, 0, 0], 0⟩)], 1⟩)])]
def F_r3_uses : Fn := { np := 1, bs := [0, 2, 4, 6, 8], main := M_r3_uses, lps := [(0, L_r3_uses_0), (2, L_r3_uses_2), (4, L_r3_uses_4), (6, L_r3_uses_6), (8, L_r3_uses_8)] }
def M_r3_Size (x : List D) : Sh :=
 .loop 0 [.i 0, .i 0, .s (D.toS (D.fld (gD x 0) 0)), .b (vB (gD x 0) 1), .l (eX (gD x 0) 2), .i (vI (gD x 0) 3), .l (eX (gD x 0) 4)] (.cons (fun p0 =>
 .ret (aI p0 0) [])
 .nil)
def L_r3_Size_0 (p : List D) : Sh :=
 .ask (ltI (gI p 1) (iL (gL p 6)))
 (.ask (within (gI p 1) (List.length (gL p 6)))
 (.again [.i (addA .i64 (gI p 0) (iE (gD (gL p 6) (tI p 1)))), .i (addA .i64 (gI p 1) 1), aS p 2, aB p 3, aL p 4, aI p 5, aL p 6])
 (.bad))
 (.out (0, [aI p 0]))
def S_r3_Size : STab := [(0, fun p => ⟨(t0 (t2 (.pb 1 0 0) (t1 (nI p 0)) Z) (t0 (t1 (nI p 1)) Z)), [(1, ⟨0, [.str (gS p 2), nB p 3, fL 3 [.int .i64] p 4, nI p 5, fL 28 lt2 p 6], none⟩)], [], 1⟩)]
def T_r3_Size : TTab := [(0, [fun p => (.exit 0, ⟨(t0 (t0 (t1 (nI p 0)) Z) (t0 Z Z)), [], [], 1⟩)])]
def F_r3_Size : Fn := { np := 1, bs := [0], main := M_r3_Size, lps := [(0, L_r3_Size_0)] }
def M_wf_known (x : List D) : Sh :=
 .loop 0 [.l (eX (gD x 0) 2), .i 0, .i (iX (gD x 0) 2), .l (eX (gD x 0) 0), .l (eX (gD x 0) 1), .l (eX (gD x 0) 2), .l (eX (gD x 0) 3)] (.cons (fun p0 =>
 .ret (aB p0 0) [])
 (.cons (fun p0 =>
 .loop 4 [.i (iL (gL p0 3)), aL p0 3, .i 0, aL p0 0, aL p0 1, aL p0 2, aL p0 3] (.cons (fun p1 =>
 .ret (aB p1 0) [])
 (.cons (fun p1 =>
 .ret (.b true) [])
 .nil)))
 .nil))
def L_wf_known_0 (p : List D) : Sh :=
 .ask (ltI (gI p 1) (gI p 2))
 (.ask (within (gI p 1) (List.length (gL p 0)))
 (.loop 2 [aL p 0, .i (iX (gD (gL p 0) (tI p 1)) 1), aI p 1, aI p 2, .i 0, .l (eX (gD (gL p 0) (tI p 1)) 1), aL p 3, aL p 4, aL p 5, aL p 6] (.cons (fun p0 =>
 .out (0, [aB p0 2, aL p0 4, aL p0 5, aL p0 6, aL p0 7]))
 (.cons (fun p0 =>
 .again [aL p0 0, .i (addA .i64 (gI p0 1) 1), aI p0 2, aL p0 3, aL p0 4, aL p0 5, aL p0 6])
 .nil)))
 (.bad))
 (.out (1, [aL p 3, aL p 4, aL p 5, aL p 6]))
def L_wf_known_2 (p : List D) : Sh :=
 .ask (ltI (gI p 4) (gI p 1))
 (.ask (within (gI p 4) (List.length (gL p 5)))
 (.ask ((ltI (D.toI (gD (gL p 5) (tI p 4))) (-1)) || (leI (iL (gL p 9)) (D.toI (gD (gL p 5) (tI p 4)))))
 (.out (0, [aL p 0, aI p 2, .b false, aI p 3, aL p 6, aL p 7, aL p 8, aL p 9]))
 (.again [aL p 0, aI p 1, aI p 2, aI p 3, .i (addA .i64 (gI p 4) 1), aL p 5, aL p 6, aL p 7, aL p 8, aL p 9]))
 (.bad))
 (.out (1, [aL p 0, aI p 2, aI p 3, aL p 6, aL p 7, aL p 8, aL p 9]))
def L_wf_known_4 (p : List D) : Sh :=
 .ask (ltI (gI p 2) (gI p 0))
 (.ask (within (gI p 2) (List.length (gL p 1)))
 (.loop 6 [.l (eX (gD (gL p 1) (tI p 2)) 4), .i 0, aI p 0, .i (iX (gD (gL p 1) (tI p 2)) 4), aL p 1, aI p 2, aL p 3, aL p 4, aL p 5, aL p 6] (.cons (fun p0 =>
 .out (0, [aB p0 1]))
 (.cons (fun p0 =>
 .again [aI p0 0, aL p0 1, .i (addA .i64 (gI p0 2) 1), aL p0 3, aL p0 4, aL p0 5, aL p0 6])
 .nil)))
 (.bad))
 (.out (1, []))
def L_wf_known_6 (p : List D) : Sh :=
 .ask (ltI (gI p 1) (gI p 3))
 (.ask (within (gI p 1) (List.length (gL p 0)))
 (.loop 8 [aL p 0, .i (iE (gD (gL p 0) (tI p 1))), aI p 1, aI p 2, aI p 3, aL p 4, .i 0, aI p 5, .l (D.els (gD (gL p 0) (tI p 1))), aL p 6, aL p 7, aL p 8, aL p 9] (.cons (fun p0 =>
 .out (0, [aI p0 2, aB p0 3, aL p0 5, aI p0 6, aL p0 7, aL p0 8, aL p0 9, aL p0 10]))
 (.cons (fun p0 =>
 .again [aL p0 0, .i (addA .i64 (gI p0 1) 1), aI p0 2, aI p0 3, aL p0 4, aI p0 5, aL p0 6, aL p0 7, aL p0 8, aL p0 9])
 .nil)))
 (.bad))
 (.out (1, [aI p 2, aL p 4, aI p 5, aL p 6, aL p 7, aL p 8, aL p 9]))
def J_wf_known_0 (p : List D) : Sh :=
 .ask (eqI (vI (gD (gL p 8) (tI p 6)) 0) 3)
 (.ask ((ltI (vI (gD (gL p 8) (tI p 6)) 3) 0) || (leI (iL (gL p 10)) (vI (gD (gL p 8) (tI p 6)) 3)))
 (.out (0, [aL p 0, aI p 2, aI p 3, .b false, aI p 4, aL p 5, aI p 7, aL p 9, aL p 10, aL p 11, aL p 12]))
 (.again [aL p 0, aI p 1, aI p 2, aI p 3, aI p 4, aL p 5, .i (addA .i64 (gI p 6) 1), aI p 7, aL p 8, aL p 9, aL p 10, aL p 11, aL p 12]))
 (.ask (eqI (vI (gD (gL p 8) (tI p 6)) 0) 23)
 (.ask ((ltI (vI (gD (gL p 8) (tI p 6)) 3) 0) || (leI (iL (gL p 9)) (vI (gD (gL p 8) (tI p 6)) 3)))
 (.out (0, [aL p 0, aI p 2, aI p 3, .b false, aI p 4, aL p 5, aI p 7, aL p 9, aL p 10, aL p 11, aL p 12]))
 (.again [aL p 0, aI p 1, aI p 2, aI p 3, aI p 4, aL p 5, .i (addA .i64 (gI p 6) 1), aI p 7, aL p 8, aL p 9, aL p 10, aL p 11, aL p 12]))
 (.ask (eqI (vI (gD (gL p 8) (tI p 6)) 0) 24)
 (.ask ((ltI (vI (gD (gL p 8) (tI p 6)) 3) 0) || (leI (iL (gL p 11)) (vI (gD (gL p 8) (tI p 6)) 3)))
 (.out (0, [aL p 0, aI p 2, aI p 3, .b false, aI p 4, aL p 5, aI p 7, aL p 9, aL p 10, aL p 11, aL p 12]))
 (.again [aL p 0, aI p 1, aI p 2, aI p 3, aI p 4, aL p 5, .i (addA .i64 (gI p 6) 1), aI p 7, aL p 8, aL p 9, aL p 10, aL p 11, aL p 12]))
 (.ask ((ltI (vI (gD (gL p 8) (tI p 6)) 3) 0) || (leI (addA .i64 (vI (gD (gL p 8) (tI p 6)) 3) 1) (vI (gD (gL p 8) (tI p 6)) 3)))
 (.out (0, [aL p 0, aI p 2, aI p 3, .b false, aI p 4, aL p 5, aI p 7, aL p 9, aL p 10, aL p 11, aL p 12]))
 (.again [aL p 0, aI p 1, aI p 2, aI p 3, aI p 4, aL p 5, .i (addA .i64 (gI p 6) 1), aI p 7, aL p 8, aL p 9, aL p 10, aL p 11, aL p 12]))))
def J_wf_known_1 (p : List D) : Sh :=
 .ask ((ltI (vI (gD (gL p 8) (tI p 6)) 3) 0) || (leI (iL (gL p 12)) (vI (gD (gL p 8) (tI p 6)) 3)))
 (.out (0, [aL p 0, aI p 2, aI p 3, .b false, aI p 4, aL p 5, aI p 7, aL p 9, aL p 10, aL p 11, aL p 12]))
 (.again [aL p 0, aI p 1, aI p 2, aI p 3, aI p 4, aL p 5, .i (addA .i64 (gI p 6) 1), aI p 7, aL p 8, aL p 9, aL p 10, aL p 11, aL p 12])
def L_wf_known_8 (p : List D) : Sh :=
 .ask (ltI (gI p 6) (gI p 1))
 (.ask (within (gI p 6) (List.length (gL p 8)))
 (.ask (eqI (vI (gD (gL p 8) (tI p 6)) 0) 2)
 (.ask (eqI (vI (gD (gL p 8) (tI p 6)) 0) 2)
 (J_wf_known_1 p)
 (J_wf_known_0 p))
 (.ask (eqI (vI (gD (gL p 8) (tI p 6)) 0) 22)
 (J_wf_known_1 p)
 (J_wf_known_0 p)))
 (.bad))
 (.out (1, [aL p 0, aI p 2, aI p 3, aI p 4, aL p 5, aI p 7, aL p 9, aL p 10, aL p 11, aL p 12]))
def S_wf_known : STab := [(0, fun p => ⟨(t0 (t2 (.pb 1 0 0) (t0 (t0 (t1 (.fz [] 68 [.str, .sl false 3 [.int .i64]] (gL p 0))) Z) Z) (t0 (t0 (t1 (nI p 1)) Z) Z)) (t0 (t0 (t0 (t1 (nI p 2)) Z) Z) Z)), [(1, ⟨0, [fL 31 lt0 p 3, .fz [] 35 [.str, .sl false 2 [.int .i64]] (gL p 4), .fz [] 68 [.str, .sl false 3 [.int .i64]] (gL p 5), fL 38 lt1 p 6], none⟩)], [], 1⟩),
 (2, fun p => ⟨(t0 (t2 (.pb 1 0 0) (t0 (t0 (t1 (.fz [] 68 [.str, .sl false 3 [.int .i64]] (gL p 0))) (t1 (nI p 1))) Z) (t0 (t0 (t1 (nI p 2)) Z) Z)) (t0 (t0 (t0 (t1 (nI p 3)) (t1 (nI p 4))) Z) (t0 Z (t0 (t1 (fL 3 [.int .i64] p 5)) Z)))), [(1, ⟨0, [fL 31 lt0 p 6, .fz [] 35 [.str, .sl false 2 [.int .i64]] (gL p 7), .fz [] 68 [.str, .sl false 3 [.int .i64]] (gL p 8), fL 38 lt1 p 9], none⟩)], [], 1⟩),
 (4, fun p => ⟨(t0 (t2 (.pb 1 0 0) Z (t0 (t0 Z (t0 (t1 (nI p 0)) Z)) Z)) (t0 (t0 (t0 Z (t0 (t1 (fL 38 lt1 p 1)) Z)) Z) (t0 (t0 Z (t0 (t1 (nI p 2)) Z)) Z))), [(1, ⟨0, [fL 31 lt0 p 3, .fz [] 35 [.str, .sl false 2 [.int .i64]] (gL p 4), .fz [] 68 [.str, .sl false 3 [.int .i64]] (gL p 5), fL 38 lt1 p 6], none⟩)], [], 1⟩),
 (6, fun p => ⟨(t0 (t2 (.pb 1 0 0) (t0 (t0 (t0 Z (t1 (fL 28 lt2 p 0))) Z) Z) (t0 (t0 (t0 Z (t1 (nI p 1))) (t0 (t1 (nI p 2)) Z)) Z)) (t0 (t0 (t0 (t0 Z (t1 (nI p 3))) (t0 (t1 (fL 38 lt1 p 4)) Z)) Z) (t0 (t0 Z (t0 (t1 (nI p 5)) Z)) Z))), [(1, ⟨0, [fL 31 lt0 p 6, .fz [] 35 [.str, .sl false 2 [.int .i64]] (gL p 7), .fz [] 68 [.str, .sl false 3 [.int .i64]] (gL p 8), fL 38 lt1 p 9], none⟩)], [], 1⟩),
 (8, fun p => ⟨(t0 (t2 (.pb 1 0 0) (t0 (t0 (t0 Z (t1 (fL 28 lt2 p 0))) (t0 Z (t1 (nI p 1)))) Z) (t0 (t0 (t0 Z (t1 (nI p 2))) (t0 (t1 (nI p 3)) Z)) Z)) (t0 (t0 (t0 (t0 Z (t1 (nI p 4))) (t0 (t1 (fL 38 lt1 p 5)) (t1 (nI p 6)))) Z) (t0 (t0 Z (t0 (t1 (nI p 7)) Z)) (t0 (t0 Z (t1 (fL 25 lt3 p 8))) Z)))), [(1, ⟨0, [fL 31 lt0 p 9, .fz [] 35 [.str, .sl false 2 [.int .i64]] (gL p 10), .fz [] 68 [.str, .sl false 3 [.int .i64]] (gL p 11), fL 38 lt1 p 12], none⟩)], [], 1⟩)]
def T_wf_known : TTab := [(0, [fun p => (.ret, ⟨(t0 (t1 (.pb 1 0 0)) (t1 (nB p 0))), [(1, ⟨0, [fL 31 lt0 p 1, .fz [] 35 [.str, .sl false 2 [.int .i64]] (gL p 2), .fz [] 68 [.str, .sl false 3 [.int .i64]] (gL p 3), fL 38 lt1 p 4], none⟩)], [], 1⟩),
  fun p => (.exit 0, ⟨(t0 (t1 (.pb 1 0 0)) (t0 Z Z)), [(1, ⟨0, [fL 31 lt0 p 0, .fz [] 35 [.str, .sl false 2 [.int .i64]] (gL p 1), .fz [] 68 [.str, .sl false 3 [.int .i64]] (gL p 2), fL 38 lt1 p 3], none⟩)], [], 1⟩)]),
 (2, [fun p => (.ret, ⟨(t0 (t2 (.pb 1 0 0) (t0 (t0 (t1 (.fz [] 68 [.str, .sl false 3 [.int .i64]] (gL p 0))) Z) Z) (t0 (t0 (t1 (nI p 1)) Z) Z)) (t2 (nB p 2) (t0 (t0 (t1 (nI p 3)) Z) Z) Z)), [(1, ⟨0, [fL 31 lt0 p 4, .fz [] 35 [.str, .sl false 2 [.int .i64]] (gL p 5), .fz [] 68 [.str, .sl false 3 [.int .i64]] (gL p 6), fL 38 lt1 p 7], none⟩)], [], 1⟩),
  fun p => (.exit 2, ⟨(t0 (t2 (.pb 1 0 0) (t0 (t0 (t1 (.fz [] 68 [.str, .sl false 3 [.int .i64]] (gL p 0))) Z) Z) (t0 (t0 (t1 (nI p 1)) Z) Z)) (t0 (t0 (t0 (t1 (nI p 2)) Z) Z) Z)), [(1, ⟨0, [fL 31 lt0 p 3, .fz [] 35 [.str, .sl false 2 [.int .i64]] (gL p 4), .fz [] 68 [.str, .sl false 3 [.int .i64]] (gL p 5), fL 38 lt1 p 6], none⟩)], [], 1⟩)]),
 (4, [fun p => (.ret, ⟨(t0 Z (t1 (nB p 0))), [], [], 1⟩),
  fun p => (.exit 4, ⟨(t0 Z (t0 Z Z)), [], [], 1⟩)]),
 (6, [fun p => (.ret, ⟨(t0 (t2 (.pb 1 0 0) Z (t0 (t0 Z (t0 (t1 (nI p 0)) Z)) Z)) (t2 (nB p 1) (t0 (t0 Z (t0 (t1 (fL 38 lt1 p 2)) Z)) Z) (t0 (t0 Z (t0 (t1 (nI p 3)) Z)) Z))), [(1, ⟨0, [fL 31 lt0 p 4, .fz [] 35 [.str, .sl false 2 [.int .i64]] (gL p 5), .fz [] 68 [.str, .sl false 3 [.int .i64]] (gL p 6), fL 38 lt1 p 7], none⟩)], [], 1⟩),
  fun p => (.exit 6, ⟨(t0 (t2 (.pb 1 0 0) Z (t0 (t0 Z (t0 (t1 (nI p 0)) Z)) Z)) (t0 (t0 (t0 Z (t0 (t1 (fL 38 lt1 p 1)) Z)) Z) (t0 (t0 Z (t0 (t1 (nI p 2)) Z)) Z))), [(1, ⟨0, [fL 31 lt0 p 3, .fz [] 35 [.str, .sl false 2 [.int .i64]] (gL p 4), .fz [] 68 [.str, .sl false 3 [.int .i64]] (gL p 5), fL 38 lt1 p 6], none⟩)], [], 1⟩)]),
 (8, [fun p => (.ret, ⟨(t0 (t2 (.pb 1 0 0) (t0 (t0 (t0 Z (t1 (fL 28 lt2 p 0))) Z) Z) (t0 (t0 (t0 Z (t1 (nI p 1))) (t0 (t1 (nI p 2)) Z)) Z)) (t2 (nB p 3) (t0 (t0 (t0 Z (t1 (nI p 4))) (t0 (t1 (fL 38 lt1 p 5)) Z)) Z) (t0 (t0 Z (t0 (t1 (nI p 6)) Z)) Z))), [(1, ⟨0, [fL 31 lt0 p 7, .fz [] 35 [.str, .sl false 2 [.int .i64]] (gL p 8), .fz [] 68 [.str, .sl false 3 [.int .i64]] (gL p 9), fL 38 lt1 p 10], none⟩)], [], 1⟩),
  fun p => (.exit 8, ⟨(t0 (t2 (.pb 1 0 0) (t0 (t0 (t0 Z (t1 (fL 28 lt2 p 0))) Z) Z) (t0 (t0 (t0 Z (t1 (nI p 1))) (t0 (t1 (nI p 2)) Z)) Z)) (t0 (t0 (t0 (t0 Z (t1 (nI p 3))) (t0 (t1 (fL 38 lt1 p 4)) Z)) Z) (t0 (t0 Z (t0 (t1 (nI p 5)) Z)) Z))), [(1, ⟨0, [fL 31 lt0 p 6, .fz [] 35 [.str, .sl false 2 [.int .i64]] (gL p 7), .fz [] 68 [.str, .sl false 3 [.int .i64]] (gL p 8), fL 38 lt1 p 9], none⟩)], [], 1⟩)])]
def F_wf_known : Fn := { np := 1, bs := [0, 2, 4, 6, 8], main := M_wf_known, lps := [(0, L_wf_known_0), (2, L_wf_known_2), (4, L_wf_known_4), (6, L_wf_known_6), (8, L_wf_known_8)] }
def M_facts_Func_bases (x : List D) : Sh :=
 .ask ((leI 0 (iX (gD x 0) 0)) && ((eqI (iX (gD x 0) 0) (iX (gD x 0) 0)) && (lim (Int.toNat (iX (gD x 0) 0)) 24)))
 (.loop 0 [.i (iX (gD x 1) 2), .i 0, .l (eX (gD x 1) 2), .l (List.replicate (nX (gD x 0) 0) (D.l [])), .l (eX (gD x 0) 0), .l (eX (gD x 0) 2), .l (eX (gD x 0) 3)] (.cons (fun p0 =>
 .loop 2 [.b true, aL p0 0, aL p0 1, aL p0 2, aL p0 3] (.cons (fun p1 =>
 .ret (.l []) [.l [aL p1 1, aL p1 0, aL p1 2, aL p1 3]])
 .nil))
 .nil))
 (.bad)
def L_facts_Func_bases_0 (p : List D) : Sh :=
 .ask (ltI (gI p 1) (gI p 0))
 (.ask (within (gI p 1) (List.length (gL p 2)))
 (.ask (eqI (D.toI (gD (gL p 2) (tI p 1))) 3)
 (.ask (within (addA .i64 (gI p 1) 1) (List.length (gL p 3)))
 (.again [aI p 0, .i (addA .i64 (gI p 1) 1), aL p 2, .l (List.set (gL p 3) (Int.toNat (addA .i64 (gI p 1) 1)) (D.l [.l [.i 1, .i (addA .i64 (gI p 1) 1)]])), aL p 4, aL p 5, aL p 6])
 (.bad))
 (.again [aI p 0, .i (addA .i64 (gI p 1) 1), aL p 2, aL p 3, aL p 4, aL p 5, aL p 6]))
 (.bad))
 (.out (0, [aL p 3, aL p 4, aL p 5, aL p 6]))
def L_facts_Func_bases_2 (p : List D) : Sh :=
 .ask (gB p 0)
 (.loop 4 [.i 0, .i (iL (gL p 4)), .b false, aL p 1, aL p 2, aL p 3, aL p 4] (.cons (fun p0 =>
 .again [aB p0 0, aL p0 1, aL p0 2, aL p0 3, aL p0 4])
 .nil))
 (.out (0, [aL p 1, aL p 2, aL p 3, aL p 4]))
def J_facts_Func_bases_0 (p : List D) (r2 : D) : Sh :=
 .ask (!(eqI (iE r2) (iE (gD (gL p 3) (tI p 0)))))
 (.ask (within (gI p 0) (List.length (gL p 3)))
 (.again [.i (addA .i64 (gI p 0) 1), aI p 1, .b true, .l (List.set (gL p 3) (tI p 0) (D.l (D.els r2))), aL p 4, aL p 5, aL p 6])
 (.bad))
 (.again [.i (addA .i64 (gI p 0) 1), aI p 1, aB p 2, aL p 3, aL p 4, aL p 5, aL p 6])
def L_facts_Func_bases_4 (p : List D) : Sh :=
 .ask (ltI (gI p 0) (gI p 1))
 (.ask (within (gI p 0) (List.length (gL p 6)))
 (.ask (!(eqI (vI (gD (gL p 6) (tI p 0)) 1) 3))
 (.again [.i (addA .i64 (gI p 0) 1), aI p 1, aB p 2, aL p 3, aL p 4, aL p 5, aL p 6])
 (.ask (eqI (vI (gD (gL p 6) (tI p 0)) 0) 18)
 (.call slices_Clone_Sapi_Base_api_Base [.l [.l [.i 2, aI p 0]]] 0 fun r0 _ =>
 .call slices_SortFunc_Sapi_Base_api_Base [.l (D.els r0), .l []] 0 fun r1 _ =>
 .call slices_Compact_Sapi_Base_api_Base [.l (D.els r0)] 0 fun r2 _ =>
 .ask (within (gI p 0) (List.length (gL p 3)))
 (J_facts_Func_bases_0 p r2)
 (.bad))
 (.ask (eqI (vI (gD (gL p 6) (tI p 0)) 0) 3)
 (.call slices_Clone_Sapi_Base_api_Base [.l [.l [.i 3, .i (vI (gD (gL p 6) (tI p 0)) 3)]]] 0 fun r0 _ =>
 .call slices_SortFunc_Sapi_Base_api_Base [.l (D.els r0), .l []] 0 fun r1 _ =>
 .call slices_Compact_Sapi_Base_api_Base [.l (D.els r0)] 0 fun r2 _ =>
 .ask (within (gI p 0) (List.length (gL p 3)))
 (J_facts_Func_bases_0 p r2)
 (.bad))
 (.ask (eqI (vI (gD (gL p 6) (tI p 0)) 0) 19)
 (.ask (within 0 (nX (gD (gL p 6) (tI p 0)) 5))
 (.ask (within (D.toI (gD (eX (gD (gL p 6) (tI p 0)) 5) 0)) (List.length (gL p 3)))
 (.call slices_Clone_Sapi_Base_api_Base [.l (D.els (gD (gL p 3) (Int.toNat (D.toI (gD (eX (gD (gL p 6) (tI p 0)) 5) 0)))))] 0 fun r0 _ =>
 .call slices_SortFunc_Sapi_Base_api_Base [.l (D.els r0), .l []] 0 fun r1 _ =>
 .call slices_Compact_Sapi_Base_api_Base [.l (D.els r0)] 0 fun r2 _ =>
 .ask (within (gI p 0) (List.length (gL p 3)))
 (J_facts_Func_bases_0 p r2)
 (.bad))
 (.bad))
 (.bad))
 (.ask (eqI (vI (gD (gL p 6) (tI p 0)) 0) 17)
 (.ask (within 1 (nX (gD (gL p 6) (tI p 0)) 5))
 (.ask (within (D.toI (gD (eX (gD (gL p 6) (tI p 0)) 5) 1)) (List.length (gL p 3)))
 (.ask (within 2 (nX (gD (gL p 6) (tI p 0)) 5))
 (.ask (within (D.toI (gD (eX (gD (gL p 6) (tI p 0)) 5) 2)) (List.length (gL p 3)))
 (.call slices_Concat_Sapi_Base_api_Base [.l [.l (D.els (gD (gL p 3) (Int.toNat (D.toI (gD (eX (gD (gL p 6) (tI p 0)) 5) 1))))), .l (D.els (gD (gL p 3) (Int.toNat (D.toI (gD (eX (gD (gL p 6) (tI p 0)) 5) 2)))))]] 0 fun r0 _ =>
 .call slices_Clone_Sapi_Base_api_Base [.l (D.els r0)] 0 fun r1 _ =>
 .call slices_SortFunc_Sapi_Base_api_Base [.l (D.els r1), .l []] 0 fun r2 _ =>
 .call slices_Compact_Sapi_Base_api_Base [.l (D.els r1)] 0 fun r3 _ =>
 .ask (within (gI p 0) (List.length (gL p 3)))
 (.ask (!(eqI (iE r3) (iE (gD (gL p 3) (tI p 0)))))
 (.ask (within (gI p 0) (List.length (gL p 3)))
 (.again [.i (addA .i64 (gI p 0) 1), aI p 1, .b true, .l (List.set (gL p 3) (tI p 0) (D.l (D.els r3))), aL p 4, aL p 5, aL p 6])
 (.bad))
 (.again [.i (addA .i64 (gI p 0) 1), aI p 1, aB p 2, aL p 3, aL p 4, aL p 5, aL p 6]))
 (.bad))
 (.bad))
 (.bad))
 (.bad))
 (.bad))
 (.ask (eqI (vI (gD (gL p 6) (tI p 0)) 0) 26)
 (.loop 7 [aI p 0, .i 0, aI p 0, .l (eX (gD (gL p 6) (tI p 0)) 5), aI p 1, aB p 2, .i (iX (gD (gL p 6) (tI p 0)) 5), aL p 3, .l [], aL p 4, aL p 5, aL p 6] (.cons (fun p0 =>
 .call slices_Clone_Sapi_Base_api_Base [aL p0 5] 0 fun r1 _ =>
 .call slices_SortFunc_Sapi_Base_api_Base [.l (D.els r1), .l []] 0 fun r2 _ =>
 .call slices_Compact_Sapi_Base_api_Base [.l (D.els r1)] 0 fun r3 _ =>
 .ask (within (gI p0 0) (List.length (gL p0 4)))
 (.ask (!(eqI (iE r3) (iE (gD (gL p0 4) (tI p0 0)))))
 (.ask (within (gI p0 0) (List.length (gL p0 4)))
 (.again [.i (addA .i64 (gI p0 1) 1), aI p0 2, .b true, .l (List.set (gL p0 4) (tI p0 0) (D.l (D.els r3))), aL p0 6, aL p0 7, aL p0 8])
 (.bad))
 (.again [.i (addA .i64 (gI p0 1) 1), aI p0 2, aB p0 3, aL p0 4, aL p0 6, aL p0 7, aL p0 8]))
 (.bad))
 .nil))
 (.call slices_Clone_Sapi_Base_api_Base [.l []] 0 fun r0 _ =>
 .call slices_SortFunc_Sapi_Base_api_Base [.l (D.els r0), .l []] 0 fun r1 _ =>
 .call slices_Compact_Sapi_Base_api_Base [.l (D.els r0)] 0 fun r2 _ =>
 .ask (within (gI p 0) (List.length (gL p 3)))
 (J_facts_Func_bases_0 p r2)
 (.bad))))))))
 (.bad))
 (.out (0, [aB p 2, aL p 3, aL p 4, aL p 5, aL p 6]))
def L_facts_Func_bases_7 (p : List D) : Sh :=
 .ask (ltI (gI p 1) (gI p 6))
 (.ask (within (gI p 1) (List.length (gL p 3)))
 (.ask (within (D.toI (gD (gL p 3) (tI p 1))) (List.length (gL p 7)))
 (.ask (lim ((List.length (gL p 8)) + (nE (gD (gL p 7) (Int.toNat (D.toI (gD (gL p 3) (tI p 1))))))) 16)
 (.again [aI p 0, .i (addA .i64 (gI p 1) 1), aI p 2, aL p 3, aI p 4, aB p 5, aI p 6, aL p 7, .l ((gL p 8) ++ (D.els (gD (gL p 7) (Int.toNat (D.toI (gD (gL p 3) (tI p 1))))))), aL p 9, aL p 10, aL p 11])
 (.bad))
 (.bad))
 (.bad))
 (.out (0, [aI p 0, aI p 2, aI p 4, aB p 5, aL p 7, aL p 8, aL p 9, aL p 10, aL p 11]))
def S_facts_Func_bases : STab := [(0, fun p => ⟨(t2 (.pb 500 0 0) (t0 (t0 (t0 Z (t1 (nI p 0))) Z) Z) (t0 (t0 (t0 Z (t1 (nI p 1))) Z) (t0 Z (t0 (t1 (fL 3 [.int .i64] p 2)) Z)))), [(500, ⟨0, [.vw 501000000 0 [], .vw 18 0 [], .vw 501000002 0 [], .vw 501000003 0 []], none⟩)], [(18, ⟨108, [.sl true 107 [.int .i64, .int .i64]], (gL p 3), [], 0, [0, 0, 0, 0], 0⟩), aR 501000000 3 [.int .i64] (gL p 4), aR 501000002 114 [.int .i64, .int .i64] (gL p 5), aR 501000003 25 lt3 (gL p 6)], 1⟩),
 (2, fun p => ⟨(t2 (.pb 500 0 0) Z (t0 Z (t1 (nB p 0)))), [(500, ⟨0, [.vw 501000000 0 [], .vw 18 0 [], .vw 501000002 0 [], .vw 501000003 0 []], none⟩)], [(18, ⟨108, [.sl true 107 [.int .i64, .int .i64]], (gL p 1), [], 0, [0, 0, 0, 0], 0⟩), aR 501000000 3 [.int .i64] (gL p 2), aR 501000002 114 [.int .i64, .int .i64] (gL p 3), aR 501000003 25 lt3 (gL p 4)], 1⟩),
 (4, fun p => ⟨(t2 (.pb 500 0 0) (t0 (t0 (t0 (t0 Z (t1 (.vw 501000003 0 []))) Z) Z) (t0 (t0 (t0 Z (t1 (nI p 0))) Z) Z)) (t0 (t0 (t0 (t0 Z (t1 (nI p 1))) Z) Z) (t1 (nB p 2)))), [(500, ⟨0, [.vw 501000000 0 [], .vw 18 0 [], .vw 501000002 0 [], .vw 501000003 0 []], none⟩)], [(18, ⟨108, [.sl true 107 [.int .i64, .int .i64]], (gL p 3), [], 0, [0, 0, 0, 0], 0⟩), aR 501000000 3 [.int .i64] (gL p 4), aR 501000002 114 [.int .i64, .int .i64] (gL p 5), aR 501000003 25 lt3 (gL p 6)], 1⟩),
 (7, fun p => ⟨(t2 (.pb 500 0 0) (t0 (t0 (t2 (nI p 0) (t0 Z (t2 (.vw 501000003 0 []) Z (t1 (nI p 1)))) Z) Z) (t0 (t2 (.vw 200009 0 []) (t0 Z (t1 (nI p 2))) Z) (t0 Z (t0 (t0 Z (t1 (fL 3 [.int .i64] p 3))) Z)))) (t0 (t0 (t0 (t0 Z (t1 (nI p 4))) Z) Z) (t2 (nB p 5) Z (t0 Z (t0 (t0 Z (t1 (nI p 6))) Z))))), [(500, ⟨0, [.vw 501000000 0 [], .vw 18 0 [], .vw 501000002 0 [], .vw 501000003 0 []], none⟩)], [(18, ⟨108, [.sl true 107 [.int .i64, .int .i64]], (gL p 7), [], 0, [0, 0, 0, 0], 0⟩), aR 200009 107 [.int .i64, .int .i64] (gL p 8), aR 501000000 3 [.int .i64] (gL p 9), aR 501000002 114 [.int .i64, .int .i64] (gL p 10), aR 501000003 25 lt3 (gL p 11)], 1⟩)]
def T_facts_Func_bases : TTab := [(0, [fun p => (.exit 0, ⟨(t1 (.pb 500 0 0)), [(500, ⟨0, [.vw 501000000 0 [], .vw 18 0 [], .vw 501000002 0 [], .vw 501000003 0 []], none⟩)], [(18, ⟨108, [.sl true 107 [.int .i64, .int .i64]], (gL p 0), [], 0, [0, 0, 0, 0], 0⟩), aR 501000000 3 [.int .i64] (gL p 1), aR 501000002 114 [.int .i64, .int .i64] (gL p 2), aR 501000003 25 lt3 (gL p 3)], 1⟩)]),
 (2, [fun p => (.exit 2, ⟨(t1 (.pb 500 0 0)), [(500, ⟨0, [.vw 501000000 0 [], .vw 18 0 [], .vw 501000002 0 [], .vw 501000003 0 []], none⟩)], [(18, ⟨108, [.sl true 107 [.int .i64, .int .i64]], (gL p 0), [], 0, [0, 0, 0, 0], 0⟩), aR 501000000 3 [.int .i64] (gL p 1), aR 501000002 114 [.int .i64, .int .i64] (gL p 2), aR 501000003 25 lt3 (gL p 3)], 1⟩)]),
 (4, [fun p => (.exit 4, ⟨(t2 (.pb 500 0 0) Z (t0 Z (t1 (nB p 0)))), [(500, ⟨0, [.vw 501000000 0 [], .vw 18 0 [], .vw 501000002 0 [], .vw 501000003 0 []], none⟩)], [(18, ⟨108, [.sl true 107 [.int .i64, .int .i64]], (gL p 1), [], 0, [0, 0, 0, 0], 0⟩), aR 501000000 3 [.int .i64] (gL p 2), aR 501000002 114 [.int .i64, .int .i64] (gL p 3), aR 501000003 25 lt3 (gL p 4)], 1⟩)]),
 (7, [fun p => (.exit 7, ⟨(t2 (.pb 500 0 0) (t0 (t0 (t2 (nI p 0) (t0 Z (t1 (.vw 501000003 0 []))) Z) Z) (t0 (t2 (.vw 200009 0 []) (t0 Z (t1 (nI p 1))) Z) Z)) (t0 (t0 (t0 (t0 Z (t1 (nI p 2))) Z) Z) (t1 (nB p 3)))), [(500, ⟨0, [.vw 501000000 0 [], .vw 18 0 [], .vw 501000002 0 [], .vw 501000003 0 []], none⟩)], [(18, ⟨108, [.sl true 107 [.int .i64, .int .i64]], (gL p 4), [], 0, [0, 0, 0, 0], 0⟩), aR 200009 107 [.int .i64, .int .i64] (gL p 5), aR 501000000 3 [.int .i64] (gL p 6), aR 501000002 114 [.int .i64, .int .i64] (gL p 7), aR 501000003 25 lt3 (gL p 8)], 1⟩)])]
def F_facts_Func_bases : Fn := { np := 2, bs := [0, 2, 4, 7], main := M_facts_Func_bases, lps := [(0, L_facts_Func_bases_0), (2, L_facts_Func_bases_2), (4, L_facts_Func_bases_4), (7, L_facts_Func_bases_7)] }
def M_slices_Clone_Sint64_int64 (x : List D) : Sh :=
 .ask (isNl (D.els (gD x 0)))
 (.bad)
 (.ask false
 (.ret (.l []) [])
 (.ask (lim (0 + (nE (gD x 0))) 8)
 (.ret (.l (D.els (gD x 0))) [])
 (.bad)))
def S_slices_Clone_Sint64_int64 : STab := []
def T_slices_Clone_Sint64_int64 : TTab := []
def F_slices_Clone_Sint64_int64 : Fn := { np := 1, bs := [], main := M_slices_Clone_Sint64_int64, lps := [] }
def J_dce_does_0 (x : List D) : Sh :=
 .ask (eqI (vI (gD x 2) 0) 22)
 (.ask (within (vI (gD x 2) 3) (nE (gD x 3)))
 (.ret (.b (!(D.toB (gE (gD x 3) (Int.toNat (vI (gD x 2) 3)))))) [])
 (.bad))
 (.ask (eqI (vI (gD x 2) 0) 21)
 (.call facts_Facts_Safe [(gD x 0), .i (D.toI (gD x 1)), .l [.i (vI (gD x 2) 0), .i (vI (gD x 2) 1), .i (vI (gD x 2) 2), .i (vI (gD x 2) 3), .i (vI (gD x 2) 4), .l (eX (gD x 2) 5), .l (eX (gD x 2) 6)]] 0 fun r0 _ =>
 .ask (!(D.toB r0))
 (.ret (.b true) [])
 (.ask (within (D.toI (gD x 1)) (nX (gD x 0) 5))
 (.ask (within 0 (nX (gD x 2) 5))
 (.ask (within (D.toI (gD (eX (gD x 2) 5) 0)) (nX (gD (eX (gD x 0) 5) (Int.toNat (D.toI (gD x 1)))) 1))
 (.loop 1 (let z0 := D.els (gD (eX (gD (eX (gD x 0) 5) (Int.toNat (D.toI (gD x 1)))) 1) (Int.toNat (D.toI (gD (eX (gD x 2) 5) 0)))); [.i (iL z0), .l (D.els (gD x 4)), .i 0, .l z0]) (.cons (fun p1 =>
 .ret (aB p1 0) [])
 (.cons (fun p1 =>
 .ret (.b false) [])
 .nil)))
 (.bad))
 (.bad))
 (.bad)))
 (.call wf_Ends [.i (vI (gD x 2) 0)] 0 fun r0 _ =>
 .ask (!(D.toB r0))
 (.call facts_Facts_Sure [(gD x 0), .i (D.toI (gD x 1)), .l [.i (vI (gD x 2) 0), .i (vI (gD x 2) 1), .i (vI (gD x 2) 2), .i (vI (gD x 2) 3), .i (vI (gD x 2) 4), .l (eX (gD x 2) 5), .l (eX (gD x 2) 6)]] 0 fun r1 _ =>
 .ret (.b ((D.toB r0) || (!(D.toB r1)))) [])
 (.ret (.b ((D.toB r0) || (!(D.toB (.i 0))))) [])))
def M_dce_does (x : List D) : Sh :=
 .ask (eqI (vI (gD x 2) 0) 23)
 (.ask (eqI (vI (gD x 2) 0) 23)
 (.ret (.b true) [])
 (J_dce_does_0 x))
 (.ask (eqI (vI (gD x 2) 0) 25)
 (.ret (.b true) [])
 (J_dce_does_0 x))
def L_dce_does_1 (p : List D) : Sh :=
 .ask (ltI (gI p 2) (gI p 0))
 (.ask (within (gI p 2) (List.length (gL p 3)))
 (.ask ((!(!(!(eqI (vI (gD (gL p 3) (tI p 2)) 0) 2)))) || (within (vI (gD (gL p 3) (tI p 2)) 1) (List.length (gL p 1))))
 (.ask ((!(eqI (vI (gD (gL p 3) (tI p 2)) 0) 2)) || (!(D.toB (gD (gL p 1) (Int.toNat (vI (gD (gL p 3) (tI p 2)) 1))))))
 (.out (0, [.b true]))
 (.again [aI p 0, aL p 1, .i (addA .i64 (gI p 2) 1), aL p 3]))
 (.bad))
 (.bad))
 (.out (1, []))
def S_dce_does : STab := [(1, fun p => ⟨(t0 (t0 (t0 (t0 (t0 Z (t1 (nI p 0))) Z) Z) Z) (t0 (t2 (fL 4 [.bool] p 1) (t0 (t0 Z (t1 (nI p 2))) Z) Z) (t0 Z (t0 Z (t0 (t1 (fL 107 [.int .i64, .int .i64] p 3)) Z))))), [], [], 1⟩)]
def T_dce_does : TTab := [(1, [fun p => (.ret, ⟨(t0 (t0 (t0 (t0 Z Z) Z) Z) (t0 Z (t0 (t1 (nB p 0)) Z))), [], [], 1⟩),
  fun p => (.exit 1, ⟨(t0 (t0 (t0 (t0 Z Z) Z) Z) (t0 Z (t0 (t0 Z Z) Z))), [], [], 1⟩)])]
def F_dce_does : Fn := { np := 5, bs := [1], main := M_dce_does, lps := [(1, L_dce_does_1)] }
def M_r3_Ends (x : List D) : Sh :=
 .ret (.b ((leI 27 (D.toI (gD x 0))) && (leI (D.toI (gD x 0)) 30))) []
def S_r3_Ends : STab := []
def T_r3_Ends : TTab := []
def F_r3_Ends : Fn := { np := 1, bs := [], main := M_r3_Ends, lps := [] }
def M_wf_Name (x : List D) : Sh :=
 .ask ((ltI (iL (D.toS (gD x 0))) 1) || (ltI 12 (iL (D.toS (gD x 0)))))
 (.ret (.b false) [])
 (.loop 0 [.s (D.toS (gD x 0)), .i (iL (D.toS (gD x 0))), .i 0] (.cons (fun p0 =>
 .ret (aB p0 0) [])
 (.cons (fun p0 =>
 .ret (.b true) [])
 .nil)))
def L_wf_Name_0 (p : List D) : Sh :=
 .ask (ltI (gI p 2) (gI p 1))
 (.ask (within (gI p 2) (List.length (gS p 0)))
 (.ask ((!((leI 97 (byteV (gS p 0) (gI p 2))) && (leI (byteV (gS p 0) (gI p 2)) 122))) && ((eqI (gI p 2) 0) || ((!(eqI (byteV (gS p 0) (gI p 2)) 95)) && ((ltI (byteV (gS p 0) (gI p 2)) 48) || (ltI 57 (byteV (gS p 0) (gI p 2)))))))
 (.out (0, [.b false]))
 (.again [aS p 0, aI p 1, .i (addA .i64 (gI p 2) 1)]))
 (.bad))
 (.out (1, []))
def S_wf_Name : STab := [(0, fun p => ⟨(t2 (.str (gS p 0)) (t0 (t0 (t0 (t1 (nI p 1)) Z) Z) Z) (t0 (t0 (t0 (t1 (nI p 2)) Z) Z) Z)), [], [], 1⟩)]
def T_wf_Name : TTab := [(0, [fun p => (.ret, ⟨(t0 Z (t1 (nB p 0))), [], [], 1⟩),
  fun p => (.exit 0, ⟨(t0 Z (t0 Z Z)), [], [], 1⟩)])]
def F_wf_Name : Fn := { np := 1, bs := [0], main := M_wf_Name, lps := [(0, L_wf_Name_0)] }
def M_wf_Ends (x : List D) : Sh :=
 .ret (.b ((((eqI (D.toI (gD x 0)) 27) || (eqI (D.toI (gD x 0)) 28)) || (eqI (D.toI (gD x 0)) 29)) || (eqI (D.toI (gD x 0)) 30))) []
def S_wf_Ends : STab := []
def T_wf_Ends : TTab := []
def F_wf_Ends : Fn := { np := 1, bs := [], main := M_wf_Ends, lps := [] }
def M_flow_Reach (x : List D) : Sh :=
 .call flow_walked [.l [.s (D.toS (D.fld (gD x 0) 0)), .b (vB (gD x 0) 1), .l (eX (gD x 0) 2), .i (vI (gD x 0) 3), .l (eX (gD x 0) 4)]] 0 fun r0 _ =>
 .ask (isNl (D.els r0))
 (.ask ((leI 0 (iX (gD x 0) 4)) && ((eqI (iX (gD x 0) 4) (iX (gD x 0) 4)) && (lim (Int.toNat (iX (gD x 0) 4)) 1)))
 (.bad)
 (.bad))
 (.ask ((leI 0 (iX (gD x 0) 4)) && ((eqI (iX (gD x 0) 4) (iX (gD x 0) 4)) && (lim (Int.toNat (iX (gD x 0) 4)) 1)))
 (.loop 0 [.i (iX (hdD (D.els r0)) 5), .i 0, .l (List.replicate (nX (gD x 0) 4) (D.b false)), .l (eX (hdD (D.els r0)) 5)] (.cons (fun p1 =>
 .ret (aL p1 0) [])
 .nil))
 (.bad))
def L_flow_Reach_0 (p : List D) : Sh :=
 .ask (ltI (gI p 1) (gI p 0))
 (.ask (within (gI p 1) (List.length (gL p 3)))
 (.ask (within (gI p 1) (List.length (gL p 2)))
 (.again [aI p 0, .i (addA .i64 (gI p 1) 1), .l (List.set (gL p 2) (tI p 1) (D.b (!(eqI (D.toI (gD (gL p 3) (tI p 1))) 0)))), aL p 3])
 (.bad))
 (.bad))
 (.out (0, [aL p 2]))
def S_flow_Reach : STab := [(0, fun p => ⟨(t0 (t0 Z (t0 (t0 (t1 (nI p 0)) Z) Z)) (t0 (t2 (.vw 12 0 []) (t0 (t1 (.vw 9000005 0 [])) Z) Z) (t0 (t0 (t1 (nI p 1)) Z) Z))), [], [aR 12 4 [.bool] (gL p 2), aR 9000005 3 [.int .i64] (gL p 3)], 1⟩)]
def T_flow_Reach : TTab := [(0, [fun p => (.exit 0, ⟨(t0 Z (t0 (t1 (.vw 12 0 [])) Z)), [], [aR 12 4 [.bool] (gL p 0)], 1⟩)])]
def F_flow_Reach : Fn := { np := 1, bs := [0], main := M_flow_Reach, lps := [(0, L_flow_Reach_0)] }
def M_facts_Facts_effect (x : List D) : Sh :=
 .ask (within (D.toI (gD x 1)) (nX (gD x 0) 5))
 (.ask (within (D.toI (gD x 1)) (nX (gD x 0) 3))
 (.loop 13000 [.i (iX (gD (eX (gD x 0) 3) (Int.toNat (D.toI (gD x 1)))) 4), .i 0, .l (eX (gD (eX (gD x 0) 3) (Int.toNat (D.toI (gD x 1)))) 4), (gD x 0), .i (D.toI (gD x 1)), .l (D.els (gD x 2)), .b false, .b false, gD (eX (gD x 0) 5) (Int.toNat (D.toI (gD x 1))), .l [], .l [], .l [], .l []] (.cons (fun p0 =>
 .call facts_risen [aL p0 2] 0 fun r1 _ =>
 .ask true
 (.call facts_risen [aL p0 3] 0 fun r2 _ =>
 .call facts_risen [aL p0 4] 0 fun r3 _ =>
 .ask true
 (.call facts_risen [aL p0 5] 0 fun r4 _ =>
 .ret (.l [.l (D.els r1), .l (D.els r2), .l (D.els r3), .l (D.els r4), aB p0 1]) [])
 (.bad))
 (.bad))
 .nil))
 (.bad))
 (.bad)
def L_facts_Facts_effect_13000 (p : List D) : Sh :=
 .ask (ltI (gI p 1) (gI p 0))
 (.ask (within (gI p 1) (List.length (gL p 2)))
 (.loop 13002 [aI p 0, .i 0, .l (D.els (gD (gL p 2) (tI p 1))), aI p 1, aL p 2, .i (iE (gD (gL p 2) (tI p 1))), (gD p 3), aI p 4, aL p 5, aB p 6, aB p 7, (gD p 8), aL p 9, aL p 10, aL p 11, aL p 12] (.cons (fun p0 =>
 .again [aI p0 0, .i (addA .i64 (gI p0 1) 1), aL p0 2, (gD p0 3), aI p0 4, aL p0 5, aB p0 6, aB p0 7, (gD p0 8), aL p0 9, aL p0 10, aL p0 11, aL p0 12])
 .nil))
 (.bad))
 (.out (0, [aB p 6, aB p 7, aL p 9, aL p 10, aL p 11, aL p 12]))
def J_facts_Facts_effect_0 (p0 : List D) : Sh :=
 .ask (bounds 1 (iL (gL p0 17)) (iL (gL p0 17)))
 (.call facts_Facts_At [(gD p0 6), aI p0 7, .l [aI p0 12, aI p0 13, aI p0 14, aI p0 15, aI p0 16, aL p0 17, aL p0 18]] 0 fun r1 _ =>
 .loop 14001 [.l (List.drop 1 (List.take (List.length (gL p0 17)) (gL p0 17))), aI p0 0, aI p0 1, aL p0 2, .i (iE r1), aI p0 3, aL p0 4, aI p0 5, .i 0, (gD p0 6), aI p0 7, aL p0 8, aB p0 9, aB p0 10, (gD p0 11), aL p0 19, aL p0 20, aL p0 21, aL p0 22, .l (D.els r1)] (.cons (fun p2 =>
 .again [aI p2 0, .i (addA .i64 (gI p2 1) 1), aL p2 2, aI p2 3, aL p2 4, aI p2 5, (gD p2 6), aI p2 7, aL p2 8, aB p2 9, aB p2 10, (gD p2 11), aL p2 12, aL p2 13, aL p2 14, aL p2 15])
 .nil))
 (.bad)
def J_facts_Facts_effect_1 (p0 : List D) : Sh :=
 .call facts_Facts_At [(gD p0 6), aI p0 7, .l [aI p0 12, aI p0 13, aI p0 14, aI p0 15, aI p0 16, aL p0 17, aL p0 18]] 0 fun r1 _ =>
 .loop 14001 [aL p0 17, aI p0 0, aI p0 1, aL p0 2, .i (iE r1), aI p0 3, aL p0 4, aI p0 5, .i 0, (gD p0 6), aI p0 7, aL p0 8, aB p0 9, aB p0 10, (gD p0 11), aL p0 19, aL p0 20, aL p0 21, aL p0 22, .l (D.els r1)] (.cons (fun p2 =>
 .again [aI p2 0, .i (addA .i64 (gI p2 1) 1), aL p2 2, aI p2 3, aL p2 4, aI p2 5, (gD p2 6), aI p2 7, aL p2 8, aB p2 9, aB p2 10, (gD p2 11), aL p2 12, aL p2 13, aL p2 14, aL p2 15])
 .nil)
def L_facts_Facts_effect_13002 (p : List D) : Sh :=
 .ask (ltI (gI p 1) (gI p 5))
 (.ask (within (gI p 1) (List.length (gL p 2)))
 (.ask (eqI (vI (gD (gL p 2) (tI p 1)) 0) 23)
 (.ask (eqI (vI (gD (gL p 2) (tI p 1)) 0) 25)
 (.ask (bounds 1 (iX (gD (gL p 2) (tI p 1)) 5) (iX (gD (gL p 2) (tI p 1)) 5))
 (.call facts_Facts_At [(gD p 6), aI p 7, .l [.i (vI (gD (gL p 2) (tI p 1)) 0), .i (vI (gD (gL p 2) (tI p 1)) 1), .i (vI (gD (gL p 2) (tI p 1)) 2), .i (vI (gD (gL p 2) (tI p 1)) 3), .i (vI (gD (gL p 2) (tI p 1)) 4), .l (eX (gD (gL p 2) (tI p 1)) 5), .l (eX (gD (gL p 2) (tI p 1)) 6)]] 0 fun r0 _ =>
 .loop 14001 [.l (List.drop 1 (List.take (nX (gD (gL p 2) (tI p 1)) 5) (eX (gD (gL p 2) (tI p 1)) 5))), aI p 0, aI p 1, aL p 2, .i (iE r0), aI p 3, aL p 4, aI p 5, .i 0, (gD p 6), aI p 7, aL p 8, aB p 9, .b true, (gD p 11), aL p 12, aL p 13, aL p 14, aL p 15, .l (D.els r0)] (.cons (fun p1 =>
 .again [aI p1 0, .i (addA .i64 (gI p1 1) 1), aL p1 2, aI p1 3, aL p1 4, aI p1 5, (gD p1 6), aI p1 7, aL p1 8, aB p1 9, aB p1 10, (gD p1 11), aL p1 12, aL p1 13, aL p1 14, aL p1 15])
 .nil))
 (.bad))
 (.call facts_Facts_At [(gD p 6), aI p 7, .l [.i (vI (gD (gL p 2) (tI p 1)) 0), .i (vI (gD (gL p 2) (tI p 1)) 1), .i (vI (gD (gL p 2) (tI p 1)) 2), .i (vI (gD (gL p 2) (tI p 1)) 3), .i (vI (gD (gL p 2) (tI p 1)) 4), .l (eX (gD (gL p 2) (tI p 1)) 5), .l (eX (gD (gL p 2) (tI p 1)) 6)]] 0 fun r0 _ =>
 .loop 14001 [.l (eX (gD (gL p 2) (tI p 1)) 5), aI p 0, aI p 1, aL p 2, .i (iE r0), aI p 3, aL p 4, aI p 5, .i 0, (gD p 6), aI p 7, aL p 8, aB p 9, .b true, (gD p 11), aL p 12, aL p 13, aL p 14, aL p 15, .l (D.els r0)] (.cons (fun p1 =>
 .again [aI p1 0, .i (addA .i64 (gI p1 1) 1), aL p1 2, aI p1 3, aL p1 4, aI p1 5, (gD p1 6), aI p1 7, aL p1 8, aB p1 9, aB p1 10, (gD p1 11), aL p1 12, aL p1 13, aL p1 14, aL p1 15])
 .nil)))
 (.ask (eqI (vI (gD (gL p 2) (tI p 1)) 0) 20)
 (.ask (within 0 (nX (gD (gL p 2) (tI p 1)) 5))
 (.ask (within (D.toI (gD (eX (gD (gL p 2) (tI p 1)) 5) 0)) (nX (gD p 11) 1))
 (.loop 15000 (let z0 := D.els (gD (eX (gD p 11) 1) (Int.toNat (D.toI (gD (eX (gD (gL p 2) (tI p 1)) 5) 0)))); [aI p 0, aI p 1, .i (iL z0), aL p 2, .l z0, aI p 3, .i 0, aL p 4, aI p 5, (gD p 6), aI p 7, aL p 8, aB p 9, aB p 10, (gD p 11), .i (vI (gD (gL p 2) (tI p 1)) 0), .i (vI (gD (gL p 2) (tI p 1)) 1), .i (vI (gD (gL p 2) (tI p 1)) 2), .i (vI (gD (gL p 2) (tI p 1)) 3), .i (vI (gD (gL p 2) (tI p 1)) 4), .l (eX (gD (gL p 2) (tI p 1)) 5), .l (eX (gD (gL p 2) (tI p 1)) 6), aL p 12, aL p 13, aL p 14, aL p 15]) (.cons (fun p0 =>
 .ask (eqI (gI p0 12) 25)
 (J_facts_Facts_effect_0 p0)
 (J_facts_Facts_effect_1 p0))
 .nil))
 (.bad))
 (.bad))
 (.ask (eqI (vI (gD (gL p 2) (tI p 1)) 0) 21)
 (.ask (within 0 (nX (gD (gL p 2) (tI p 1)) 5))
 (.ask (within (D.toI (gD (eX (gD (gL p 2) (tI p 1)) 5) 0)) (nX (gD p 11) 1))
 (.loop 16000 (let z0 := D.els (gD (eX (gD p 11) 1) (Int.toNat (D.toI (gD (eX (gD (gL p 2) (tI p 1)) 5) 0)))); [aI p 0, aI p 1, .i (iL z0), aL p 2, .l z0, aI p 3, .i 0, aL p 4, aI p 5, (gD p 6), aI p 7, aL p 8, aB p 9, aB p 10, (gD p 11), .i (vI (gD (gL p 2) (tI p 1)) 0), .i (vI (gD (gL p 2) (tI p 1)) 1), .i (vI (gD (gL p 2) (tI p 1)) 2), .i (vI (gD (gL p 2) (tI p 1)) 3), .i (vI (gD (gL p 2) (tI p 1)) 4), .l (eX (gD (gL p 2) (tI p 1)) 5), .l (eX (gD (gL p 2) (tI p 1)) 6), aL p 12, aL p 13, aL p 14, aL p 15]) (.cons (fun p0 =>
 .ask (eqI (gI p0 12) 25)
 (J_facts_Facts_effect_0 p0)
 (J_facts_Facts_effect_1 p0))
 .nil))
 (.bad))
 (.bad))
 (.ask (eqI (vI (gD (gL p 2) (tI p 1)) 0) 25)
 (.ask (bounds 1 (iX (gD (gL p 2) (tI p 1)) 5) (iX (gD (gL p 2) (tI p 1)) 5))
 (.call facts_Facts_At [(gD p 6), aI p 7, .l [.i (vI (gD (gL p 2) (tI p 1)) 0), .i (vI (gD (gL p 2) (tI p 1)) 1), .i (vI (gD (gL p 2) (tI p 1)) 2), .i (vI (gD (gL p 2) (tI p 1)) 3), .i (vI (gD (gL p 2) (tI p 1)) 4), .l (eX (gD (gL p 2) (tI p 1)) 5), .l (eX (gD (gL p 2) (tI p 1)) 6)]] 0 fun r0 _ =>
 .loop 14001 [.l (List.drop 1 (List.take (nX (gD (gL p 2) (tI p 1)) 5) (eX (gD (gL p 2) (tI p 1)) 5))), aI p 0, aI p 1, aL p 2, .i (iE r0), aI p 3, aL p 4, aI p 5, .i 0, (gD p 6), aI p 7, aL p 8, aB p 9, aB p 10, (gD p 11), aL p 12, aL p 13, aL p 14, aL p 15, .l (D.els r0)] (.cons (fun p1 =>
 .again [aI p1 0, .i (addA .i64 (gI p1 1) 1), aL p1 2, aI p1 3, aL p1 4, aI p1 5, (gD p1 6), aI p1 7, aL p1 8, aB p1 9, aB p1 10, (gD p1 11), aL p1 12, aL p1 13, aL p1 14, aL p1 15])
 .nil))
 (.bad))
 (.call facts_Facts_At [(gD p 6), aI p 7, .l [.i (vI (gD (gL p 2) (tI p 1)) 0), .i (vI (gD (gL p 2) (tI p 1)) 1), .i (vI (gD (gL p 2) (tI p 1)) 2), .i (vI (gD (gL p 2) (tI p 1)) 3), .i (vI (gD (gL p 2) (tI p 1)) 4), .l (eX (gD (gL p 2) (tI p 1)) 5), .l (eX (gD (gL p 2) (tI p 1)) 6)]] 0 fun r0 _ =>
 .loop 14001 [.l (eX (gD (gL p 2) (tI p 1)) 5), aI p 0, aI p 1, aL p 2, .i (iE r0), aI p 3, aL p 4, aI p 5, .i 0, (gD p 6), aI p 7, aL p 8, aB p 9, aB p 10, (gD p 11), aL p 12, aL p 13, aL p 14, aL p 15, .l (D.els r0)] (.cons (fun p1 =>
 .again [aI p1 0, .i (addA .i64 (gI p1 1) 1), aL p1 2, aI p1 3, aL p1 4, aI p1 5, (gD p1 6), aI p1 7, aL p1 8, aB p1 9, aB p1 10, (gD p1 11), aL p1 12, aL p1 13, aL p1 14, aL p1 15])
 .nil))))))
 (.bad))
 (.out (0, [aI p 0, aI p 3, aL p 4, (gD p 6), aI p 7, aL p 8, aB p 9, aB p 10, (gD p 11), aL p 12, aL p 13, aL p 14, aL p 15]))
def L_facts_Facts_effect_14001 (p : List D) : Sh :=
 .ask (ltI (gI p 8) (gI p 4))
 (.ask (within (gI p 8) (List.length (gL p 19)))
 (.ask (within (D.toI (gD (gL p 19) (tI p 8))) (List.length (gL p 11)))
 (.ask (lim ((List.length (gL p 15)) + (nX (gD (gL p 11) (Int.toNat (D.toI (gD (gL p 19) (tI p 8))))) 0)) 8)
 (.ask (lim ((List.length (gL p 16)) + (nX (gD (gL p 11) (Int.toNat (D.toI (gD (gL p 19) (tI p 8))))) 1)) 8)
 (.loop 14003 [aL p 0, aI p 1, .i (iX (gD (gL p 11) (Int.toNat (D.toI (gD (gL p 19) (tI p 8))))) 2), aI p 2, aL p 3, aI p 4, aI p 5, .i 0, aL p 6, .l (eX (gD (gL p 11) (Int.toNat (D.toI (gD (gL p 19) (tI p 8))))) 2), aI p 7, aI p 8, (gD p 9), aI p 10, aL p 11, aB p 12, .b ((gB p 13) || (vB (gD (gL p 11) (Int.toNat (D.toI (gD (gL p 19) (tI p 8))))) 4)), (gD p 14), .l (eX (gD (gL p 11) (Int.toNat (D.toI (gD (gL p 19) (tI p 8))))) 0), .l (eX (gD (gL p 11) (Int.toNat (D.toI (gD (gL p 19) (tI p 8))))) 1), .l (eX (gD (gL p 11) (Int.toNat (D.toI (gD (gL p 19) (tI p 8))))) 2), .l (eX (gD (gL p 11) (Int.toNat (D.toI (gD (gL p 19) (tI p 8))))) 3), .b (vB (gD (gL p 11) (Int.toNat (D.toI (gD (gL p 19) (tI p 8))))) 4), .l ((gL p 15) ++ (eX (gD (gL p 11) (Int.toNat (D.toI (gD (gL p 19) (tI p 8))))) 0)), .l ((gL p 16) ++ (eX (gD (gL p 11) (Int.toNat (D.toI (gD (gL p 19) (tI p 8))))) 1)), aL p 17, aL p 18, aL p 19] (.cons (fun p0 =>
 .loop 14005 [aL p0 0, aI p0 1, aI p0 2, .i (iL (gL p0 18)), aL p0 3, aI p0 4, aL p0 18, aI p0 5, .i 0, aL p0 6, aI p0 7, aI p0 8, (gD p0 9), aI p0 10, aL p0 11, aB p0 12, aB p0 13, (gD p0 14), aL p0 20, aL p0 21, aL p0 22, aL p0 23, aL p0 24] (.cons (fun p1 =>
 .again [aL p1 0, aI p1 1, aI p1 2, aL p1 3, aI p1 4, aI p1 5, aL p1 6, aI p1 7, .i (addA .i64 (gI p1 8) 1), (gD p1 9), aI p1 10, aL p1 11, aB p1 12, aB p1 13, (gD p1 14), aL p1 15, aL p1 16, aL p1 17, aL p1 18, aL p1 19])
 .nil))
 .nil))
 (.bad))
 (.bad))
 (.bad))
 (.bad))
 (.out (0, [aI p 1, aI p 2, aL p 3, aI p 5, aL p 6, aI p 7, (gD p 9), aI p 10, aL p 11, aB p 12, aB p 13, (gD p 14), aL p 15, aL p 16, aL p 17, aL p 18]))
def L_facts_Facts_effect_14003 (p : List D) : Sh :=
 .ask (ltI (gI p 7) (gI p 2))
 (.ask (within (gI p 7) (List.length (gL p 9)))
 (.ask (within (wrapA .i64 ((D.toI (gD (gL p 9) (tI p 7))) - 1)) (List.length (gL p 0)))
 (.ask (within (D.toI (gD (gL p 0) (Int.toNat (wrapA .i64 ((D.toI (gD (gL p 9) (tI p 7))) - 1))))) (nX (gD p 17) 1))
 (.loop 17000 (let z0 := D.els (gD (eX (gD p 17) 1) (Int.toNat (D.toI (gD (gL p 0) (Int.toNat (wrapA .i64 ((D.toI (gD (gL p 9) (tI p 7))) - 1))))))); [aL p 0, aI p 1, aI p 2, aI p 3, .i (iL z0), aL p 4, aI p 5, .l z0, aI p 6, aI p 7, .i 0, aL p 8, aL p 9, aI p 10, aI p 11, (gD p 12), aI p 13, aL p 14, aB p 15, aB p 16, (gD p 17), aL p 18, aL p 19, aL p 20, aL p 21, aB p 22, aL p 23, aL p 24, aL p 25, aL p 26, aL p 27]) (.cons (fun p0 =>
 .again [aL p0 0, aI p0 1, aI p0 2, aI p0 3, aL p0 4, aI p0 5, aI p0 6, .i (addA .i64 (gI p0 7) 1), aL p0 8, aL p0 9, aI p0 10, aI p0 11, (gD p0 12), aI p0 13, aL p0 14, aB p0 15, aB p0 16, (gD p0 17), aL p0 18, aL p0 19, aL p0 20, aL p0 21, aB p0 22, aL p0 23, aL p0 24, aL p0 25, aL p0 26, aL p0 27])
 .nil))
 (.bad))
 (.bad))
 (.bad))
 (.out (0, [aL p 0, aI p 1, aI p 3, aL p 4, aI p 5, aI p 6, aL p 8, aI p 10, aI p 11, (gD p 12), aI p 13, aL p 14, aB p 15, aB p 16, (gD p 17), aL p 18, aL p 19, aL p 20, aL p 21, aB p 22, aL p 23, aL p 24, aL p 25, aL p 26, aL p 27]))
def L_facts_Facts_effect_17000 (p : List D) : Sh :=
 .ask (ltI (gI p 10) (gI p 4))
 (.ask (within (gI p 10) (List.length (gL p 7)))
 (.ask (eqI (vI (gD (gL p 7) (tI p 10)) 0) 3)
 (.ask (lim ((List.length (gL p 26)) + 1) 8)
 (.again [aL p 0, aI p 1, aI p 2, aI p 3, aI p 4, aL p 5, aI p 6, aL p 7, aI p 8, aI p 9, .i (addA .i64 (gI p 10) 1), aL p 11, aL p 12, aI p 13, aI p 14, (gD p 15), aI p 16, aL p 17, aB p 18, aB p 19, (gD p 20), aL p 21, aL p 22, aL p 23, aL p 24, aB p 25, .l ((gL p 26) ++ [.i (vI (gD (gL p 7) (tI p 10)) 1)]), aL p 27, aL p 28, aL p 29, aL p 30])
 (.bad))
 (.ask (eqI (vI (gD (gL p 7) (tI p 10)) 0) 1)
 (.ask (lim ((List.length (gL p 28)) + 1) 8)
 (.again [aL p 0, aI p 1, aI p 2, aI p 3, aI p 4, aL p 5, aI p 6, aL p 7, aI p 8, aI p 9, .i (addA .i64 (gI p 10) 1), aL p 11, aL p 12, aI p 13, aI p 14, (gD p 15), aI p 16, aL p 17, aB p 18, aB p 19, (gD p 20), aL p 21, aL p 22, aL p 23, aL p 24, aB p 25, aL p 26, aL p 27, .l ((gL p 28) ++ [.i (vI (gD (gL p 7) (tI p 10)) 1)]), aL p 29, aL p 30])
 (.bad))
 (.again [aL p 0, aI p 1, aI p 2, aI p 3, aI p 4, aL p 5, aI p 6, aL p 7, aI p 8, aI p 9, .i (addA .i64 (gI p 10) 1), aL p 11, aL p 12, aI p 13, aI p 14, (gD p 15), aI p 16, aL p 17, aB p 18, aB p 19, (gD p 20), aL p 21, aL p 22, aL p 23, aL p 24, aB p 25, aL p 26, aL p 27, aL p 28, aL p 29, aL p 30])))
 (.bad))
 (.out (0, [aL p 0, aI p 1, aI p 2, aI p 3, aL p 5, aI p 6, aI p 8, aI p 9, aL p 11, aL p 12, aI p 13, aI p 14, (gD p 15), aI p 16, aL p 17, aB p 18, aB p 19, (gD p 20), aL p 21, aL p 22, aL p 23, aL p 24, aB p 25, aL p 26, aL p 27, aL p 28, aL p 29, aL p 30]))
def L_facts_Facts_effect_14005 (p : List D) : Sh :=
 .ask (ltI (gI p 8) (gI p 3))
 (.ask (within (gI p 8) (List.length (gL p 6)))
 (.ask (within (wrapA .i64 ((D.toI (gD (gL p 6) (tI p 8))) - 1)) (List.length (gL p 0)))
 (.ask (within (D.toI (gD (gL p 0) (Int.toNat (wrapA .i64 ((D.toI (gD (gL p 6) (tI p 8))) - 1))))) (nX (gD p 17) 1))
 (.loop 18000 (let z0 := D.els (gD (eX (gD p 17) 1) (Int.toNat (D.toI (gD (gL p 0) (Int.toNat (wrapA .i64 ((D.toI (gD (gL p 6) (tI p 8))) - 1))))))); [aL p 0, aI p 1, aI p 2, .i (iL z0), aI p 3, aL p 4, aI p 5, .l z0, aL p 6, aI p 7, .i 0, aI p 8, aL p 9, aI p 10, aI p 11, (gD p 12), aI p 13, aL p 14, aB p 15, aB p 16, (gD p 17), aL p 18, aL p 19, aL p 20, aL p 21, aL p 22]) (.cons (fun p0 =>
 .again [aL p0 0, aI p0 1, aI p0 2, aI p0 3, aL p0 4, aI p0 5, aL p0 6, aI p0 7, .i (addA .i64 (gI p0 8) 1), aL p0 9, aI p0 10, aI p0 11, (gD p0 12), aI p0 13, aL p0 14, aB p0 15, aB p0 16, (gD p0 17), aL p0 18, aL p0 19, aL p0 20, aL p0 21, aL p0 22])
 .nil))
 (.bad))
 (.bad))
 (.bad))
 (.out (0, [aL p 0, aI p 1, aI p 2, aL p 4, aI p 5, aI p 7, aL p 9, aI p 10, aI p 11, (gD p 12), aI p 13, aL p 14, aB p 15, aB p 16, (gD p 17), aL p 18, aL p 19, aL p 20, aL p 21, aL p 22]))
def L_facts_Facts_effect_18000 (p : List D) : Sh :=
 .ask (ltI (gI p 10) (gI p 3))
 (.ask (within (gI p 10) (List.length (gL p 7)))
 (.ask (eqI (vI (gD (gL p 7) (tI p 10)) 0) 3)
 (.ask (lim ((List.length (gL p 22)) + 1) 8)
 (.again [aL p 0, aI p 1, aI p 2, aI p 3, aI p 4, aL p 5, aI p 6, aL p 7, aL p 8, aI p 9, .i (addA .i64 (gI p 10) 1), aI p 11, aL p 12, aI p 13, aI p 14, (gD p 15), aI p 16, aL p 17, aB p 18, aB p 19, (gD p 20), aL p 21, .l ((gL p 22) ++ [.i (vI (gD (gL p 7) (tI p 10)) 1)]), aL p 23, aL p 24, aL p 25])
 (.bad))
 (.ask (eqI (vI (gD (gL p 7) (tI p 10)) 0) 1)
 (.ask (lim ((List.length (gL p 24)) + 1) 8)
 (.again [aL p 0, aI p 1, aI p 2, aI p 3, aI p 4, aL p 5, aI p 6, aL p 7, aL p 8, aI p 9, .i (addA .i64 (gI p 10) 1), aI p 11, aL p 12, aI p 13, aI p 14, (gD p 15), aI p 16, aL p 17, aB p 18, aB p 19, (gD p 20), aL p 21, aL p 22, aL p 23, .l ((gL p 24) ++ [.i (vI (gD (gL p 7) (tI p 10)) 1)]), aL p 25])
 (.bad))
 (.again [aL p 0, aI p 1, aI p 2, aI p 3, aI p 4, aL p 5, aI p 6, aL p 7, aL p 8, aI p 9, .i (addA .i64 (gI p 10) 1), aI p 11, aL p 12, aI p 13, aI p 14, (gD p 15), aI p 16, aL p 17, aB p 18, aB p 19, (gD p 20), aL p 21, aL p 22, aL p 23, aL p 24, aL p 25])))
 (.bad))
 (.out (0, [aL p 0, aI p 1, aI p 2, aI p 4, aL p 5, aI p 6, aL p 8, aI p 9, aI p 11, aL p 12, aI p 13, aI p 14, (gD p 15), aI p 16, aL p 17, aB p 18, aB p 19, (gD p 20), aL p 21, aL p 22, aL p 23, aL p 24, aL p 25]))
def L_facts_Facts_effect_15000 (p : List D) : Sh :=
 .ask (ltI (gI p 6) (gI p 2))
 (.ask (within (gI p 6) (List.length (gL p 4)))
 (.ask (eqI (vI (gD (gL p 4) (tI p 6)) 0) 3)
 (.ask (lim ((List.length (gL p 22)) + 1) 8)
 (.again [aI p 0, aI p 1, aI p 2, aL p 3, aL p 4, aI p 5, .i (addA .i64 (gI p 6) 1), aL p 7, aI p 8, (gD p 9), aI p 10, aL p 11, aB p 12, aB p 13, (gD p 14), aI p 15, aI p 16, aI p 17, aI p 18, aI p 19, aL p 20, aL p 21, .l ((gL p 22) ++ [.i (vI (gD (gL p 4) (tI p 6)) 1)]), aL p 23, aL p 24, aL p 25])
 (.bad))
 (.ask (eqI (vI (gD (gL p 4) (tI p 6)) 0) 1)
 (.ask (lim ((List.length (gL p 24)) + 1) 8)
 (.again [aI p 0, aI p 1, aI p 2, aL p 3, aL p 4, aI p 5, .i (addA .i64 (gI p 6) 1), aL p 7, aI p 8, (gD p 9), aI p 10, aL p 11, aB p 12, aB p 13, (gD p 14), aI p 15, aI p 16, aI p 17, aI p 18, aI p 19, aL p 20, aL p 21, aL p 22, aL p 23, .l ((gL p 24) ++ [.i (vI (gD (gL p 4) (tI p 6)) 1)]), aL p 25])
 (.bad))
 (.again [aI p 0, aI p 1, aI p 2, aL p 3, aL p 4, aI p 5, .i (addA .i64 (gI p 6) 1), aL p 7, aI p 8, (gD p 9), aI p 10, aL p 11, aB p 12, aB p 13, (gD p 14), aI p 15, aI p 16, aI p 17, aI p 18, aI p 19, aL p 20, aL p 21, aL p 22, aL p 23, aL p 24, aL p 25])))
 (.bad))
 (.out (0, [aI p 0, aI p 1, aL p 3, aI p 5, aL p 7, aI p 8, (gD p 9), aI p 10, aL p 11, aB p 12, aB p 13, (gD p 14), aI p 15, aI p 16, aI p 17, aI p 18, aI p 19, aL p 20, aL p 21, aL p 22, aL p 23, aL p 24, aL p 25]))
def L_facts_Facts_effect_16000 (p : List D) : Sh :=
 .ask (ltI (gI p 6) (gI p 2))
 (.ask (within (gI p 6) (List.length (gL p 4)))
 (.ask (eqI (vI (gD (gL p 4) (tI p 6)) 0) 3)
 (.ask (lim ((List.length (gL p 23)) + 1) 8)
 (.again [aI p 0, aI p 1, aI p 2, aL p 3, aL p 4, aI p 5, .i (addA .i64 (gI p 6) 1), aL p 7, aI p 8, (gD p 9), aI p 10, aL p 11, aB p 12, aB p 13, (gD p 14), aI p 15, aI p 16, aI p 17, aI p 18, aI p 19, aL p 20, aL p 21, aL p 22, .l ((gL p 23) ++ [.i (vI (gD (gL p 4) (tI p 6)) 1)]), aL p 24, aL p 25])
 (.bad))
 (.ask (eqI (vI (gD (gL p 4) (tI p 6)) 0) 1)
 (.ask (lim ((List.length (gL p 25)) + 1) 8)
 (.again [aI p 0, aI p 1, aI p 2, aL p 3, aL p 4, aI p 5, .i (addA .i64 (gI p 6) 1), aL p 7, aI p 8, (gD p 9), aI p 10, aL p 11, aB p 12, aB p 13, (gD p 14), aI p 15, aI p 16, aI p 17, aI p 18, aI p 19, aL p 20, aL p 21, aL p 22, aL p 23, aL p 24, .l ((gL p 25) ++ [.i (vI (gD (gL p 4) (tI p 6)) 1)])])
 (.bad))
 (.again [aI p 0, aI p 1, aI p 2, aL p 3, aL p 4, aI p 5, .i (addA .i64 (gI p 6) 1), aL p 7, aI p 8, (gD p 9), aI p 10, aL p 11, aB p 12, aB p 13, (gD p 14), aI p 15, aI p 16, aI p 17, aI p 18, aI p 19, aL p 20, aL p 21, aL p 22, aL p 23, aL p 24, aL p 25])))
 (.bad))
 (.out (0, [aI p 0, aI p 1, aL p 3, aI p 5, aL p 7, aI p 8, (gD p 9), aI p 10, aL p 11, aB p 12, aB p 13, (gD p 14), aI p 15, aI p 16, aI p 17, aI p 18, aI p 19, aL p 20, aL p 21, aL p 22, aL p 23, aL p 24, aL p 25]))
end
end Go.Eng.I
