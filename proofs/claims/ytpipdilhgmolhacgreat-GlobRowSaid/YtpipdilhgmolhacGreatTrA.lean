/- Part of the proof. -/
import Derived.Test.YtpipdilhgmolhacGreatEnv
set_option linter.unusedVariables false
namespace Go.Eng.G
open Go.Eng
noncomputable section
abbrev iX (x : D) (n : Nat) : Int := Int.ofNat (List.length (D.els (D.fld x n)))
abbrev iE (x : D) : Int := Int.ofNat (List.length (D.els x))
abbrev nX (x : D) (n : Nat) : Nat := List.length (D.els (D.fld x n))
abbrev nE (x : D) : Nat := List.length (D.els x)
abbrev eX (x : D) (n : Nat) : List D := D.els (D.fld x n)
abbrev vI (x : D) (n : Nat) : Int := D.toI (D.fld x n)
abbrev vB (x : D) (n : Nat) : Bool := D.toB (D.fld x n)
abbrev gE (x : D) (n : Nat) : D := gD (D.els x) n
abbrev iL {α : Type} (l : List α) : Int := Int.ofNat (List.length l)
abbrev aI (p : List D) (n : Nat) : D := .i (gI p n)
abbrev aL (p : List D) (n : Nat) : D := .l (gL p n)
abbrev aS (p : List D) (n : Nat) : D := .s (gS p n)
abbrev aB (p : List D) (n : Nat) : D := .b (gB p n)
abbrev aN (p : List D) (n : Nat) : D := .i (Int.ofNat (gN p n))
abbrev tI (p : List D) (n : Nat) : Nat := Int.toNat (gI p n)
abbrev nI (p : List D) (n : Nat) : A := .int .i64 (gI p n)
abbrev nB (p : List D) (n : Nat) : A := .bool (gB p n)
abbrev fL (t : TypeId) (l : List LT) (p : List D) (n : Nat) : A := .fz [] t l (gL p n)
abbrev Z : Tr := .nil
abbrev bX (n : Nat) (l : List A) : Nat × Bx := (n, ⟨0, l, none⟩)
abbrev aR (n : Nat) (t : TypeId) (l : List LT) (d : List D) : Nat × Arr := (n, ⟨t, l, d, [], 0, [0, 0, 0, 0], 0⟩)
abbrev main_main : Nat := 0
abbrev gosem_cut : Nat := 1
abbrev gosem_cut_init : Nat := 2
abbrev law30_GlobRow : Nat := 3
abbrev law30_first : Nat := 4
abbrev glob_Run : Nat := 5
abbrev keep_Ops : Nat := 6
abbrev r12_NumOf : Nat := 7
abbrev law30_read : Nat := 8
abbrev keep_Bools : Nat := 9
abbrev glob_Still : Nat := 10
abbrev glob_Unread : Nat := 11
abbrev wf_Check : Nat := 12
abbrev facts_Of : Nat := 13
abbrev ir_Copy : Nat := 14
abbrev facts_Facts_Safe : Nat := 15
abbrev glob_constant : Nat := 16
abbrev ir_Neat : Nat := 17
abbrev r12_Def : Nat := 18
abbrev facts_Facts_Effects : Nat := 19
abbrev glob_rest : Nat := 20
abbrev wf_small : Nat := 21
abbrev wf_formed : Nat := 22
abbrev wf_named : Nat := 23
abbrev wf_known : Nat := 24
abbrev wf_flows : Nat := 25
abbrev wf_used : Nat := 26
abbrev wf_typed : Nat := 27
abbrev ir_Types : Nat := 28
abbrev facts_Func_bases : Nat := 29
abbrev facts_Func_offs : Nat := 30
abbrev slices_Clone_Sint_int : Nat := 31
abbrev slices_Clone_Sint64_int64 : Nat := 32
abbrev ir_copyFunc : Nat := 33
abbrev edit_Const : Nat := 34
abbrev ir_rise : Nat := 35
abbrev facts_Facts_effect : Nat := 36
abbrev facts_weight : Nat := 37
abbrev ir_Size : Nat := 38
abbrev wf_scalar : Nat := 39
abbrev wf_shaped : Nat := 40
abbrev wf_Name : Nat := 41
abbrev wf_Ends : Nat := 42
abbrev slices_Contains_Sbool_bool : Nat := 43
abbrev flow_Reach : Nat := 44
abbrev flow_Prev : Nat := 45
abbrev slices_Equal_Sint_int : Nat := 46
abbrev dom_Over : Nat := 47
abbrev wf_ahead : Nat := 48
abbrev wf_fitting : Nat := 49
abbrev slices_Concat_Sapi_Base_api_Base : Nat := 50
abbrev slices_Clone_Sapi_Base_api_Base : Nat := 51
abbrev slices_SortFunc_Sapi_Base_api_Base : Nat := 52
abbrev facts_lesser : Nat := 53
abbrev slices_Compact_Sapi_Base_api_Base : Nat := 54
abbrev facts_Func_off : Nat := 55
abbrev ir_copyIns : Nat := 56
abbrev edit_copied : Nat := 57
abbrev edit_Def : Nat := 58
abbrev slices_Delete_Sapi_Ins_api_Ins : Nat := 59
abbrev slices_Insert_Sapi_Ins_api_Ins : Nat := 60
abbrev facts_Facts_Each : Nat := 61
abbrev facts_Facts_effect_1 : Nat := 62
abbrev facts_note : Nat := 63
abbrev facts_Facts_At : Nat := 64
abbrev facts_risen : Nat := 65
abbrev wf_Mark : Nat := 66
abbrev slices_Index_Sbool_bool : Nat := 67
abbrev flow_walked : Nat := 68
abbrev flow_Next : Nat := 69
abbrev dom_nearest : Nat := 70
abbrev dom_over : Nat := 71
abbrev wf_all : Nat := 72
abbrev wf_rows : Nat := 73
abbrev slices_Grow_Sapi_Base_api_Base : Nat := 74
abbrev slices_pdqsortCmpFunc_api_Base : Nat := 75
abbrev math_bits_Len : Nat := 76
abbrev facts_Func_Num : Nat := 77
abbrev slices_overlaps_api_Ins : Nat := 78
abbrev slices_rotateRight_api_Ins : Nat := 79
abbrev facts_Facts_Fits : Nat := 80
abbrev slices_Sort_Sint_int : Nat := 81
abbrev slices_Compact_Sint_int : Nat := 82
abbrev flow_walker_visit : Nat := 83
abbrev slices_Contains_Sint_int : Nat := 84
abbrev dom_without : Nat := 85
abbrev slices_insertionSortCmpFunc_api_Base : Nat := 86
abbrev slices_heapSortCmpFunc_api_Base : Nat := 87
abbrev slices_breakPatternsCmpFunc_api_Base : Nat := 88
abbrev slices_choosePivotCmpFunc_api_Base : Nat := 89
abbrev slices_reverseRangeCmpFunc_api_Base : Nat := 90
abbrev slices_partialInsertionSortCmpFunc_api_Base : Nat := 91
abbrev slices_partitionEqualCmpFunc_api_Base : Nat := 92
abbrev slices_partitionCmpFunc_api_Base : Nat := 93
abbrev math_bits_Len32 : Nat := 94
abbrev math_bits_Len64 : Nat := 95
abbrev slices_rotateLeft_api_Ins : Nat := 96
abbrev slices_pdqsortOrdered_int : Nat := 97
abbrev slices_Index_Sint_int : Nat := 98
abbrev slices_siftDownCmpFunc_api_Base : Nat := 99
abbrev slices_nextPowerOfTwo : Nat := 100
abbrev slices_xorshift_Next : Nat := 101
abbrev slices_medianAdjacentCmpFunc_api_Base : Nat := 102
abbrev slices_medianCmpFunc_api_Base : Nat := 103
abbrev slices_Reverse_Sapi_Ins_api_Ins : Nat := 104
abbrev slices_insertionSortOrdered_int : Nat := 105
abbrev slices_heapSortOrdered_int : Nat := 106
abbrev slices_breakPatternsOrdered_int : Nat := 107
abbrev slices_choosePivotOrdered_int : Nat := 108
abbrev slices_reverseRangeOrdered_int : Nat := 109
abbrev slices_partialInsertionSortOrdered_int : Nat := 110
abbrev cmp_Less_int : Nat := 111
abbrev slices_partitionEqualOrdered_int : Nat := 112
abbrev slices_partitionOrdered_int : Nat := 113
abbrev slices_order2CmpFunc_api_Base : Nat := 114
abbrev slices_siftDownOrdered_int : Nat := 115
abbrev slices_medianAdjacentOrdered_int : Nat := 116
abbrev slices_medianOrdered_int : Nat := 117
abbrev cmp_isNaN_int : Nat := 118
abbrev slices_order2Ordered_int : Nat := 119
abbrev runtime_boundsError_Error : Nat := 120
abbrev runtime_boundsError_RuntimeError : Nat := 121
abbrev runtime_errorString_Error : Nat := 122
abbrev runtime_errorString_RuntimeError : Nat := 123
abbrev runtime_plainError_Error : Nat := 124
abbrev runtime_plainError_RuntimeError : Nat := 125
abbrev runtime_errorAddressString_Error : Nat := 126
abbrev runtime_errorAddressString_RuntimeError : Nat := 127
abbrev runtime_TypeAssertionError_Error : Nat := 128
abbrev runtime_TypeAssertionError_RuntimeError : Nat := 129
abbrev runtime_PanicNilError_Error : Nat := 130
abbrev runtime_PanicNilError_RuntimeError : Nat := 131
abbrev internal_abi_Type_Align : Nat := 132
abbrev internal_runtime_maps_unhashableTypeError_Error : Nat := 133
abbrev internal_runtime_maps_unhashableTypeError_RuntimeError : Nat := 134
abbrev api_Errno_Error : Nat := 135
abbrev facts_Facts_Entry : Nat := 136
abbrev internal_abi_Kind_String : Nat := 137
def lt0 : List LT := [.str, .sl false 3 [.int .i64], .int .i64]
def lt1 : List LT := [.str, .bool, .sl false 3 [.int .i64], .int .i64, .sl false 40 [.sl false 26 [.int .i64, .int .i64, .int .i64, .int .i64, .int .i64, .sl false 3 [.int .i64], .sl false 3 [.int .i64]]]]
def lt2 : List LT := [.sl false 88 [.str, .sl false 3 [.int .i64], .int .i64], .sl false 38 [.str, .sl false 2 [.int .i64]], .sl false 84 [.str, .sl false 3 [.int .i64]], .sl false 43 [.str, .bool, .sl false 3 [.int .i64], .int .i64, .sl false 40 [.sl false 26 [.int .i64, .int .i64, .int .i64, .int .i64, .int .i64, .sl false 3 [.int .i64], .sl false 3 [.int .i64]]]], .sl false 4 [.bool], .sl false 60 [.sl false 3 [.int .i64], .sl false 67 [.sl false 66 [.int .i64, .int .i64]], .sl false 70 [.int .i64, .int .i64], .sl false 26 [.int .i64, .int .i64, .int .i64, .int .i64, .int .i64, .sl false 3 [.int .i64], .sl false 3 [.int .i64]]]]
def lt3 : List LT := [.sl true 3 [.int .i64], .sl true 3 [.int .i64], .sl true 3 [.int .i64], .sl true 3 [.int .i64], .bool]
def lt4 : List LT := [.sl false 26 [.int .i64, .int .i64, .int .i64, .int .i64, .int .i64, .sl false 3 [.int .i64], .sl false 3 [.int .i64]]]
def lt5 : List LT := [.int .i64, .int .i64, .int .i64, .int .i64, .int .i64, .sl false 3 [.int .i64], .sl false 3 [.int .i64]]
def lt6 : List LT := [.sl true 3 [.int .i64], .sl true 67 [.sl true 66 [.int .i64, .int .i64]], .sl true 70 [.int .i64, .int .i64], .sl true 26 [.int .i64, .int .i64, .int .i64, .int .i64, .int .i64, .sl false 3 [.int .i64], .sl false 3 [.int .i64]]]
def lt7 : List LT := [.sl true 26 [.int .i64, .int .i64, .int .i64, .int .i64, .int .i64, .sl false 3 [.int .i64], .sl false 3 [.int .i64]]]
def lt8 : List LT := [.sl false 3 [.int .i64], .sl false 3 [.int .i64], .sl false 3 [.int .i64], .sl false 3 [.int .i64], .bool]
def lt9 : List LT := [.sl false 3 [.int .i64], .sl false 67 [.sl false 66 [.int .i64, .int .i64]], .sl false 70 [.int .i64, .int .i64], .sl false 26 [.int .i64, .int .i64, .int .i64, .int .i64, .int .i64, .sl false 3 [.int .i64], .sl false 3 [.int .i64]]]
def mkD (f : Func) (h : Hint) (n : Nat) (F : Fn) (S : STab) (T : TTab) : FD := { f := f, h := h, c := cd f, s := sgOf sigs n, F := F, S := S, T := T }
abbrev KM (d : FD) : Prop := ∀ x : List D, mainX E d.h sites (itN E sites (tOf d.T) deep) (tOf d.T) d.f d.c d.s (expl x 0 d.F.np) = (d.F.main x).up d.S d.T 0
abbrev KL (d : FD) (b : Nat) (g : List D → Sh) : Prop := ∀ p : List D, roundX E (laOf d sites b).h sites (itN E sites (tOf d.T) deep) (laOf d sites b).lb (tOf d.T) (laOf d sites b).b (loopAt (laOf d sites b).b (laOf d sites b).c) (stOf d.S b p) = (g p).up d.S d.T b
def M_keep_Ops (x : List D) : Sh :=
 .loop 0 [.i (D.toI (gD x 1)), .i 0, .i 0, .l (eX (gD x 0) 0), .l (eX (gD x 0) 1), .l (eX (gD x 0) 2), .l (eX (gD x 0) 3)] (.cons (fun p0 =>
 .ret (aI p0 0) [])
 .nil)
def L_keep_Ops_0 (p : List D) : Sh :=
 .ask (ltI (gI p 2) (iL (gL p 6)))
 (.loop 2 [aI p 0, .i 0, aI p 1, aI p 2, aL p 3, aL p 4, aL p 5, aL p 6] (.cons (fun p0 =>
 .again [aI p0 0, aI p0 1, .i (addA .i64 (gI p0 2) 1), aL p0 3, aL p0 4, aL p0 5, aL p0 6])
 .nil))
 (.out (0, [aI p 1]))
def L_keep_Ops_2 (p : List D) : Sh :=
 .ask (within (gI p 3) (List.length (gL p 7)))
 (.ask (ltI (gI p 1) (iX (gD (gL p 7) (tI p 3)) 4))
 (.loop 4 [aI p 0, aI p 1, aI p 2, .i 0, aI p 3, aL p 4, aL p 5, aL p 6, aL p 7] (.cons (fun p0 =>
 .again [aI p0 0, .i (addA .i64 (gI p0 1) 1), aI p0 2, aI p0 3, aL p0 4, aL p0 5, aL p0 6, aL p0 7])
 .nil))
 (.out (0, [aI p 0, aI p 2, aI p 3, aL p 4, aL p 5, aL p 6, aL p 7])))
 (.bad)
def L_keep_Ops_4 (p : List D) : Sh :=
 .ask (within (gI p 4) (List.length (gL p 8)))
 (.ask (within (gI p 1) (nX (gD (gL p 8) (tI p 4)) 4))
 (.ask (ltI (gI p 3) (iE (gD (eX (gD (gL p 8) (tI p 4)) 4) (tI p 1))))
 (.ask (within (gI p 4) (List.length (gL p 8)))
 (.ask (within (gI p 1) (nX (gD (gL p 8) (tI p 4)) 4))
 (.ask (within (gI p 3) (nE (gD (eX (gD (gL p 8) (tI p 4)) 4) (tI p 1))))
 (.ask (eqI (vI (gE (gD (eX (gD (gL p 8) (tI p 4)) 4) (tI p 1)) (tI p 3)) 0) (gI p 0))
 (.again [aI p 0, aI p 1, .i (addA .i64 (gI p 2) 1), .i (addA .i64 (gI p 3) 1), aI p 4, aL p 5, aL p 6, aL p 7, aL p 8])
 (.again [aI p 0, aI p 1, aI p 2, .i (addA .i64 (gI p 3) 1), aI p 4, aL p 5, aL p 6, aL p 7, aL p 8]))
 (.bad))
 (.bad))
 (.bad))
 (.out (0, [aI p 0, aI p 1, aI p 2, aI p 4, aL p 5, aL p 6, aL p 7, aL p 8])))
 (.bad))
 (.bad)
def S_keep_Ops : STab := [(0, fun p => ⟨(t0 (t2 (nI p 0) Z (t1 (nI p 1))) (t2 (.pb 2 0 0) Z (t1 (nI p 2)))), [(2, ⟨0, [fL 88 lt0 p 3, .fz [] 38 [.str, .sl false 2 [.int .i64]] (gL p 4), .fz [] 84 [.str, .sl false 3 [.int .i64]] (gL p 5), fL 43 lt1 p 6], none⟩)], [], 1⟩),
 (2, fun p => ⟨(t0 (t2 (nI p 0) (t0 (t1 (nI p 1)) Z) (t1 (nI p 2))) (t2 (.pb 2 0 0) Z (t1 (nI p 3)))), [(2, ⟨0, [fL 88 lt0 p 4, .fz [] 38 [.str, .sl false 2 [.int .i64]] (gL p 5), .fz [] 84 [.str, .sl false 3 [.int .i64]] (gL p 6), fL 43 lt1 p 7], none⟩)], [], 1⟩),
 (4, fun p => ⟨(t0 (t2 (nI p 0) (t0 (t1 (nI p 1)) Z) (t1 (nI p 2))) (t2 (.pb 2 0 0) (t0 (t1 (nI p 3)) Z) (t1 (nI p 4)))), [(2, ⟨0, [fL 88 lt0 p 5, .fz [] 38 [.str, .sl false 2 [.int .i64]] (gL p 6), .fz [] 84 [.str, .sl false 3 [.int .i64]] (gL p 7), fL 43 lt1 p 8], none⟩)], [], 1⟩)]
def T_keep_Ops : TTab := [(0, [fun p => (.exit 0, ⟨(t0 (t0 Z (t1 (nI p 0))) (t0 (t0 Z Z) Z)), [], [], 1⟩)]),
 (2, [fun p => (.exit 2, ⟨(t0 (t2 (nI p 0) Z (t1 (nI p 1))) (t2 (.pb 2 0 0) (t0 Z Z) (t1 (nI p 2)))), [(2, ⟨0, [fL 88 lt0 p 3, .fz [] 38 [.str, .sl false 2 [.int .i64]] (gL p 4), .fz [] 84 [.str, .sl false 3 [.int .i64]] (gL p 5), fL 43 lt1 p 6], none⟩)], [], 1⟩)]),
 (4, [fun p => (.exit 4, ⟨(t0 (t2 (nI p 0) (t0 (t1 (nI p 1)) Z) (t1 (nI p 2))) (t2 (.pb 2 0 0) (t0 Z Z) (t1 (nI p 3)))), [(2, ⟨0, [fL 88 lt0 p 4, .fz [] 38 [.str, .sl false 2 [.int .i64]] (gL p 5), .fz [] 84 [.str, .sl false 3 [.int .i64]] (gL p 6), fL 43 lt1 p 7], none⟩)], [], 1⟩)])]
def F_keep_Ops : Fn := { np := 2, bs := [0, 2, 4], main := M_keep_Ops, lps := [(0, L_keep_Ops_0), (2, L_keep_Ops_2), (4, L_keep_Ops_4)] }
def M_keep_Bools (x : List D) : Sh :=
 .ask (!(eqI (iE (gD x 0)) (iE (gD x 1))))
 (.ret (.b false) [])
 (.loop 0 [.l (D.els (gD x 0)), .l (D.els (gD x 1)), .i 0] (.cons (fun p0 =>
 .ret (aB p0 0) [])
 (.cons (fun p0 =>
 .ret (.b true) [])
 .nil)))
def L_keep_Bools_0 (p : List D) : Sh :=
 .ask (ltI (gI p 2) (iL (gL p 0)))
 (.ask (within (gI p 2) (List.length (gL p 0)))
 (.ask (within (gI p 2) (List.length (gL p 1)))
 (.ask (!(bif D.toB (gD (gL p 0) (tI p 2)) then D.toB (gD (gL p 1) (tI p 2)) else !(D.toB (gD (gL p 1) (tI p 2)))))
 (.out (0, [.b false]))
 (.again [aL p 0, aL p 1, .i (addA .i64 (gI p 2) 1)]))
 (.bad))
 (.bad))
 (.out (1, []))
def S_keep_Bools : STab := [(0, fun p => ⟨(t2 (fL 4 [.bool] p 0) (t2 (fL 4 [.bool] p 1) Z (t1 (nI p 2))) Z), [], [], 1⟩)]
def T_keep_Bools : TTab := [(0, [fun p => (.ret, ⟨(t0 Z (t0 (t1 (nB p 0)) Z)), [], [], 1⟩),
  fun p => (.exit 0, ⟨(t0 Z (t0 (t0 Z Z) Z)), [], [], 1⟩)])]
def F_keep_Bools : Fn := { np := 2, bs := [0], main := M_keep_Bools, lps := [(0, L_keep_Bools_0)] }
def M_facts_Facts_Effects (x : List D) : Sh :=
 .ask ((leI 0 (iX (gD x 0) 3)) && ((eqI (iX (gD x 0) 3) (iX (gD x 0) 3)) && (lim (Int.toNat (iX (gD x 0) 3)) 104)))
 (.loop 0 [(gD x 0), .b true, .l (List.replicate (nX (gD x 0) 3) (D.l [.l [], .l [], .l [], .l [], .b false]))] (.cons (fun p0 =>
 .ret (aL p0 0) [])
 .nil))
 (.bad)
def L_facts_Facts_Effects_0 (p : List D) : Sh :=
 .ask (gB p 1)
 (.loop 2 [(gD p 0), .i 0, .b false, .i (iL (gL p 2)), aL p 2] (.cons (fun p0 =>
 .again [(gD p0 0), aB p0 1, aL p0 2])
 .nil))
 (.out (0, [aL p 2]))
def L_facts_Facts_Effects_2 (p : List D) : Sh :=
 .ask (ltI (gI p 1) (gI p 3))
 (.call facts_Facts_effect [(gD p 0), aI p 1, aL p 4] 0 fun r0 _ =>
 .ask (within (gI p 1) (List.length (gL p 4)))
 (.call facts_weight [.l [.l (eX r0 0), .l (eX r0 1), .l (eX r0 2), .l (eX r0 3), .b (vB r0 4)]] 0 fun r1 _ =>
 .call facts_weight [.l [.l (eX (gD (gL p 4) (tI p 1)) 0), .l (eX (gD (gL p 4) (tI p 1)) 1), .l (eX (gD (gL p 4) (tI p 1)) 2), .l (eX (gD (gL p 4) (tI p 1)) 3), .b (vB (gD (gL p 4) (tI p 1)) 4)]] 0 fun r2 _ =>
 .ask (!(eqI (D.toI r1) (D.toI r2)))
 (.ask (within (gI p 1) (List.length (gL p 4)))
 (.again (let z0 := List.set (gL p 4) (tI p 1) (D.l (setPad (D.els (gD (gL p 4) (tI p 1))) 0 (D.l (eX r0 0)))); let z1 := List.set z0 (tI p 1) (D.l (setPad (D.els (gD z0 (tI p 1))) 1 (D.l (eX r0 1)))); let z2 := List.set z1 (tI p 1) (D.l (setPad (D.els (gD z1 (tI p 1))) 2 (D.l (eX r0 2)))); let z3 := List.set z2 (tI p 1) (D.l (setPad (D.els (gD z2 (tI p 1))) 3 (D.l (eX r0 3)))); [(gD p 0), .i (addA .i64 (gI p 1) 1), .b true, aI p 3, .l (List.set z3 (tI p 1) (D.l (setPad (D.els (gD z3 (tI p 1))) 4 (D.b (vB r0 4)))))]))
 (.bad))
 (.ask (within (gI p 1) (List.length (gL p 4)))
 (.again (let z0 := List.set (gL p 4) (tI p 1) (D.l (setPad (D.els (gD (gL p 4) (tI p 1))) 0 (D.l (eX r0 0)))); let z1 := List.set z0 (tI p 1) (D.l (setPad (D.els (gD z0 (tI p 1))) 1 (D.l (eX r0 1)))); let z2 := List.set z1 (tI p 1) (D.l (setPad (D.els (gD z1 (tI p 1))) 2 (D.l (eX r0 2)))); let z3 := List.set z2 (tI p 1) (D.l (setPad (D.els (gD z2 (tI p 1))) 3 (D.l (eX r0 3)))); [(gD p 0), .i (addA .i64 (gI p 1) 1), aB p 2, aI p 3, .l (List.set z3 (tI p 1) (D.l (setPad (D.els (gD z3 (tI p 1))) 4 (D.b (vB r0 4)))))]))
 (.bad)))
 (.bad))
 (.out (0, [(gD p 0), aB p 2, aL p 4]))
def S_facts_Facts_Effects : STab := [(0, fun p => ⟨(t2 (.pz [] lt2 (gD p 0) 0) (t0 (t1 (.vw 13 0 [])) Z) (t0 (t1 (nB p 1)) Z)), [], [aR 13 78 lt3 (gL p 2)], 1⟩),
 (2, fun p => ⟨(t2 (.pz [] lt2 (gD p 0) 0) (t0 (t1 (.vw 13 0 [])) (t0 (t0 (t1 (nI p 1)) Z) Z)) (t0 (t2 (nB p 2) (t0 (t1 (nI p 3)) Z) Z) Z)), [], [aR 13 78 lt3 (gL p 4)], 1⟩)]
def T_facts_Facts_Effects : TTab := [(0, [fun p => (.exit 0, ⟨(t0 (t0 (t1 (.vw 13 0 [])) Z) (t0 Z Z)), [], [aR 13 78 lt3 (gL p 0)], 1⟩)]),
 (2, [fun p => (.exit 2, ⟨(t2 (.pz [] lt2 (gD p 0) 0) (t0 (t1 (.vw 13 0 [])) Z) (t0 (t1 (nB p 1)) Z)), [], [aR 13 78 lt3 (gL p 2)], 1⟩)])]
def F_facts_Facts_Effects : Fn := { np := 1, bs := [0, 2], main := M_facts_Facts_Effects, lps := [(0, L_facts_Facts_Effects_0), (2, L_facts_Facts_Effects_2)] }
def M_wf_named (x : List D) : Sh :=
 .loop 0 [.i (iX (gD x 0) 0), .l (eX (gD x 0) 0), .i 0, .l (eX (gD x 0) 0), .l (eX (gD x 0) 1), .l (eX (gD x 0) 2), .l (eX (gD x 0) 3), .l []] (.cons (fun p0 =>
 .loop 2 [.i 0, aL p0 1, .i (iL (gL p0 1)), aL p0 0, aL p0 1, aL p0 2, aL p0 3, aL p0 4] (.cons (fun p1 =>
 .loop 4 [.i (iL (gL p1 2)), .i 0, aL p1 2, aL p1 0, aL p1 1, aL p1 2, aL p1 3, aL p1 4] (.cons (fun p2 =>
 .loop 6 [aL p2 3, .i 0, .i (iL (gL p2 3)), aL p2 4] (.cons (fun p3 =>
 .loop 8 [.i (iL (gL p3 0)), .i 0, .l [], aL p3 0] (.cons (fun p4 =>
 .ret (aB p4 0) [])
 (.cons (fun p4 =>
 .ret (.b true) [])
 .nil)))
 .nil))
 .nil))
 .nil))
 .nil)
def L_wf_named_0 (p : List D) : Sh :=
 .ask (ltI (gI p 2) (gI p 0))
 (.ask (within (gI p 2) (List.length (gL p 1)))
 (.ask (lim ((List.length (gL p 7)) + 1) 16)
 (.again [aI p 0, aL p 1, .i (addA .i64 (gI p 2) 1), aL p 3, aL p 4, aL p 5, aL p 6, .l ((gL p 7) ++ [.s (D.toS (D.fld (gD (gL p 1) (tI p 2)) 0))])])
 (.bad))
 (.bad))
 (.out (0, [aL p 3, aL p 4, aL p 5, aL p 6, aL p 7]))
def L_wf_named_2 (p : List D) : Sh :=
 .ask (ltI (gI p 0) (gI p 2))
 (.ask (within (gI p 0) (List.length (gL p 1)))
 (.ask (lim ((List.length (gL p 7)) + 1) 16)
 (.again [.i (addA .i64 (gI p 0) 1), aL p 1, aI p 2, aL p 3, aL p 4, aL p 5, aL p 6, .l ((gL p 7) ++ [.s (D.toS (D.fld (gD (gL p 1) (tI p 0)) 0))])])
 (.bad))
 (.bad))
 (.out (0, [aL p 3, aL p 4, aL p 5, aL p 6, aL p 7]))
def L_wf_named_4 (p : List D) : Sh :=
 .ask (ltI (gI p 1) (gI p 0))
 (.ask (within (gI p 1) (List.length (gL p 2)))
 (.ask (lim ((List.length (gL p 7)) + 1) 16)
 (.again [aI p 0, .i (addA .i64 (gI p 1) 1), aL p 2, aL p 3, aL p 4, aL p 5, aL p 6, .l ((gL p 7) ++ [.s (D.toS (D.fld (gD (gL p 2) (tI p 1)) 0))])])
 (.bad))
 (.bad))
 (.out (0, [aL p 3, aL p 4, aL p 5, aL p 6, aL p 7]))
def L_wf_named_6 (p : List D) : Sh :=
 .ask (ltI (gI p 1) (gI p 2))
 (.ask (within (gI p 1) (List.length (gL p 0)))
 (.ask (lim ((List.length (gL p 3)) + 1) 16)
 (.again [aL p 0, .i (addA .i64 (gI p 1) 1), aI p 2, .l ((gL p 3) ++ [.s (D.toS (D.fld (gD (gL p 0) (tI p 1)) 0))])])
 (.bad))
 (.bad))
 (.out (0, [aL p 3]))
def L_wf_named_8 (p : List D) : Sh :=
 .ask (ltI (gI p 1) (gI p 0))
 (.ask (within (gI p 1) (List.length (gL p 3)))
 (.call wf_Name [.s (D.toS (gD (gL p 3) (tI p 1)))] 0 fun r0 _ =>
 .ask ((!(D.toB r0)) || (ltI 1 (D.toI (gotD (.int .i64) (findD .str (.s (D.toS (gD (gL p 3) (tI p 1)))) 0 (putD (.s (D.toS (gD (gL p 3) (tI p 1)))) (.i (addA .i64 (D.toI (gotD (.int .i64) (findD .str (.s (D.toS (gD (gL p 3) (tI p 1)))) 0 (gL p 2)))) 1)) (gL p 2) (findD .str (.s (D.toS (gD (gL p 3) (tI p 1)))) 0 (gL p 2))))))))
 (.out (0, [.b false]))
 (.again [aI p 0, .i (addA .i64 (gI p 1) 1), .l (putD (.s (D.toS (gD (gL p 3) (tI p 1)))) (.i (addA .i64 (D.toI (gotD (.int .i64) (findD .str (.s (D.toS (gD (gL p 3) (tI p 1)))) 0 (gL p 2)))) 1)) (gL p 2) (findD .str (.s (D.toS (gD (gL p 3) (tI p 1)))) 0 (gL p 2))), aL p 3]))
 (.bad))
 (.out (1, []))
def S_wf_named : STab := [(0, fun p => ⟨(t0 (t2 (.pb 1 0 0) (t1 (.vw 200003 0 [])) (t0 (t0 (t1 (nI p 0)) Z) Z)) (t0 (t0 (t0 (t1 (fL 88 lt0 p 1)) Z) Z) (t0 (t0 (t1 (nI p 2)) Z) Z))), [(1, ⟨0, [fL 88 lt0 p 3, .fz [] 38 [.str, .sl false 2 [.int .i64]] (gL p 4), .fz [] 84 [.str, .sl false 3 [.int .i64]] (gL p 5), fL 43 lt1 p 6], none⟩)], [aR 200003 9 [.str] (gL p 7)], 1⟩),
 (2, fun p => ⟨(t0 (t2 (.pb 1 0 0) (t2 (.vw 200003 0 []) (t0 (t0 (t1 (nI p 0)) Z) Z) Z) (t0 Z (t0 Z (t1 (.fz [] 38 [.str, .sl false 2 [.int .i64]] (gL p 1)))))) (t0 Z (t0 Z (t0 Z (t1 (nI p 2)))))), [(1, ⟨0, [fL 88 lt0 p 3, .fz [] 38 [.str, .sl false 2 [.int .i64]] (gL p 4), .fz [] 84 [.str, .sl false 3 [.int .i64]] (gL p 5), fL 43 lt1 p 6], none⟩)], [aR 200003 9 [.str] (gL p 7)], 1⟩),
 (4, fun p => ⟨(t0 (t2 (.pb 1 0 0) (t2 (.vw 200003 0 []) Z (t0 Z (t0 (t1 (nI p 0)) Z))) Z) (t0 (t0 Z (t0 Z (t0 (t1 (nI p 1)) Z))) (t0 (t0 Z (t0 (t1 (.fz [] 84 [.str, .sl false 3 [.int .i64]] (gL p 2))) Z)) Z))), [(1, ⟨0, [fL 88 lt0 p 3, .fz [] 38 [.str, .sl false 2 [.int .i64]] (gL p 4), .fz [] 84 [.str, .sl false 3 [.int .i64]] (gL p 5), fL 43 lt1 p 6], none⟩)], [aR 200003 9 [.str] (gL p 7)], 1⟩),
 (6, fun p => ⟨(t0 (t0 (t2 (.vw 200003 0 []) (t0 Z (t0 Z (t1 (fL 43 lt1 p 0)))) Z) (t0 (t0 Z (t0 Z (t1 (nI p 1)))) Z)) (t0 (t0 (t0 Z (t0 Z (t1 (nI p 2)))) Z) Z)), [], [aR 200003 9 [.str] (gL p 3)], 1⟩),
 (8, fun p => ⟨(t0 (t0 Z (t0 Z (t0 (t0 (t0 (t1 (nI p 0)) Z) Z) Z))) (t0 (t0 Z (t2 (.mp 67 0) (t0 (t0 (t1 (.vw 200003 0 [])) Z) Z) Z)) (t0 Z (t0 (t0 (t0 (t1 (nI p 1)) Z) Z) Z)))), [(67, ⟨0, [], some ⟨.str, .int .i64, (gL p 2)⟩⟩)], [aR 200003 9 [.str] (gL p 3)], 1⟩)]
def T_wf_named : TTab := [(0, [fun p => (.exit 0, ⟨(t0 (t2 (.pb 1 0 0) (t1 (.vw 200003 0 [])) Z) (t0 Z Z)), [(1, ⟨0, [fL 88 lt0 p 0, .fz [] 38 [.str, .sl false 2 [.int .i64]] (gL p 1), .fz [] 84 [.str, .sl false 3 [.int .i64]] (gL p 2), fL 43 lt1 p 3], none⟩)], [aR 200003 9 [.str] (gL p 4)], 1⟩)]),
 (2, [fun p => (.exit 2, ⟨(t0 (t2 (.pb 1 0 0) (t1 (.vw 200003 0 [])) Z) (t0 Z Z)), [(1, ⟨0, [fL 88 lt0 p 0, .fz [] 38 [.str, .sl false 2 [.int .i64]] (gL p 1), .fz [] 84 [.str, .sl false 3 [.int .i64]] (gL p 2), fL 43 lt1 p 3], none⟩)], [aR 200003 9 [.str] (gL p 4)], 1⟩)]),
 (4, [fun p => (.exit 4, ⟨(t0 (t2 (.pb 1 0 0) (t1 (.vw 200003 0 [])) Z) (t0 Z Z)), [(1, ⟨0, [fL 88 lt0 p 0, .fz [] 38 [.str, .sl false 2 [.int .i64]] (gL p 1), .fz [] 84 [.str, .sl false 3 [.int .i64]] (gL p 2), fL 43 lt1 p 3], none⟩)], [aR 200003 9 [.str] (gL p 4)], 1⟩)]),
 (6, [fun p => (.exit 6, ⟨(t0 (t0 (t1 (.vw 200003 0 [])) Z) (t0 Z Z)), [], [aR 200003 9 [.str] (gL p 0)], 1⟩)]),
 (8, [fun p => (.ret, ⟨(t0 Z (t1 (nB p 0))), [], [], 1⟩),
  fun p => (.exit 8, ⟨(t0 Z (t0 Z Z)), [], [], 1⟩)])]
def F_wf_named : Fn := { np := 1, bs := [0, 2, 4, 6, 8], main := M_wf_named, lps := [(0, L_wf_named_0), (2, L_wf_named_2), (4, L_wf_named_4), (6, L_wf_named_6), (8, L_wf_named_8)] }
def M_wf_used (x : List D) : Sh :=
 .ask ((leI 0 (addA .i64 (iX (gD x 0) 2) 1)) && ((eqI (addA .i64 (iX (gD x 0) 2) 1) (addA .i64 (iX (gD x 0) 2) 1)) && (lim (Int.toNat (addA .i64 (iX (gD x 0) 2) 1)) 8)))
 (.loop 0 [.i (iX (gD x 0) 2), .i (iX (gD x 0) 4), .l (eX (gD x 0) 4), .i 0, .s (D.toS (D.fld (gD x 0) 0)), .b (vB (gD x 0) 1), .l (eX (gD x 0) 2), .i (vI (gD x 0) 3), .l (eX (gD x 0) 4), .l (List.replicate (Int.toNat (addA .i64 (iX (gD x 0) 2) 1)) (D.i 0))] (.cons (fun p0 =>
 .ret (aB p0 1) [])
 (.cons (fun p0 =>
 .ask ((leI 0 (iL (gL p0 5))) && ((eqI (iL (gL p0 5)) (iL (gL p0 5))) && (lim (Int.toNat (iL (gL p0 5))) 24)))
 (.call dom_Over [.l [aS p0 1, aB p0 2, aL p0 3, aI p0 4, aL p0 5]] 0 fun r1 _ =>
 .loop 4 [aI p0 0, .i 0, .i (iL (List.replicate (List.length (gL p0 5)) (D.l []))), aS p0 1, aB p0 2, aL p0 3, aI p0 4, aL p0 5, .l (List.replicate (List.length (gL p0 5)) (D.l [])), aL p0 6, .l (D.els r1)] (.cons (fun p2 =>
 .loop 8 [aI p2 0, .i (iL (gL p2 5)), .i 0, aL p2 5, aS p2 1, aB p2 2, aL p2 3, aI p2 4, aL p2 5, aL p2 6, aL p2 7] (.cons (fun p3 =>
 .ret (aB p3 0) [])
 (.cons (fun p3 =>
 .ret (.b true) [])
 .nil)))
 .nil))
 (.bad))
 .nil)))
 (.bad)
def L_wf_used_0 (p : List D) : Sh :=
 .ask (ltI (gI p 3) (gI p 1))
 (.ask (within (gI p 3) (List.length (gL p 2)))
 (.loop 2 [aI p 0, aI p 3, .i (iE (gD (gL p 2) (tI p 3))), aI p 1, .l (D.els (gD (gL p 2) (tI p 3))), aL p 2, .i 0, aI p 3, aS p 4, aB p 5, aL p 6, aI p 7, aL p 8, aL p 9] (.cons (fun p0 =>
 .out (0, [aI p0 0, aB p0 2, aS p0 5, aB p0 6, aL p0 7, aI p0 8, aL p0 9, aL p0 10]))
 (.cons (fun p0 =>
 .again [aI p0 0, aI p0 1, aL p0 2, .i (addA .i64 (gI p0 3) 1), aS p0 4, aB p0 5, aL p0 6, aI p0 7, aL p0 8, aL p0 9])
 .nil)))
 (.bad))
 (.out (1, [aI p 0, aS p 4, aB p 5, aL p 6, aI p 7, aL p 8, aL p 9]))
def L_wf_used_2 (p : List D) : Sh :=
 .ask (ltI (gI p 6) (gI p 2))
 (.ask (within (gI p 6) (List.length (gL p 4)))
 (.ask (eqI (vI (gD (gL p 4) (tI p 6)) 1) 0)
 (.again [aI p 0, aI p 1, aI p 2, aI p 3, aL p 4, aL p 5, .i (addA .i64 (gI p 6) 1), aI p 7, aS p 8, aB p 9, aL p 10, aI p 11, aL p 12, aL p 13])
 (.ask (!(eqI (vI (gD (gL p 4) (tI p 6)) 2) (addA .i64 (gI p 0) 1)))
 (.out (0, [.i (addA .i64 (gI p 0) 1), aI p 3, .b false, aL p 5, aI p 7, aS p 8, aB p 9, aL p 10, aI p 11, aL p 12, aL p 13]))
 (.ask (lim ((List.length (gL p 13)) + 1) 8)
 (.again [.i (addA .i64 (gI p 0) 1), aI p 1, aI p 2, aI p 3, aL p 4, aL p 5, .i (addA .i64 (gI p 6) 1), aI p 7, aS p 8, aB p 9, aL p 10, aI p 11, aL p 12, .l ((gL p 13) ++ [aI p 1])])
 (.bad))))
 (.bad))
 (.out (1, [aI p 0, aI p 3, aL p 5, aI p 7, aS p 8, aB p 9, aL p 10, aI p 11, aL p 12, aL p 13]))
def L_wf_used_4 (p : List D) : Sh :=
 .ask (ltI (gI p 1) (gI p 2))
 (.ask ((leI 0 (iL (gL p 7))) && ((eqI (iL (gL p 7)) (iL (gL p 7))) && (lim (Int.toNat (iL (gL p 7))) 1)))
 (.ask (within (gI p 1) (List.length (gL p 8)))
 (.loop 6 [aI p 0, aI p 1, aI p 1, aI p 2, aI p 1, aS p 3, aB p 4, aL p 5, aI p 6, aL p 7, .l (List.set (gL p 8) (tI p 1) (D.l (List.replicate (List.length (gL p 7)) (D.b false)))), aL p 9, aL p 10] (.cons (fun p0 =>
 .again [aI p0 0, .i (addA .i64 (gI p0 1) 1), aI p0 2, aS p0 3, aB p0 4, aL p0 5, aI p0 6, aL p0 7, aL p0 8, aL p0 9, aL p0 10])
 .nil))
 (.bad))
 (.bad))
 (.out (0, [aI p 0, aS p 3, aB p 4, aL p 5, aI p 6, aL p 7, aL p 8, aL p 9]))
def L_wf_used_6 (p : List D) : Sh :=
 .ask (leI 0 (gI p 4))
 (.ask (within (gI p 1) (List.length (gL p 10)))
 (.ask (within (gI p 4) (nE (gD (gL p 10) (tI p 1))))
 (.ask (within (gI p 4) (List.length (gL p 12)))
 (.again [aI p 0, aI p 1, aI p 2, aI p 3, .i (D.toI (gD (gL p 12) (tI p 4))), aS p 5, aB p 6, aL p 7, aI p 8, aL p 9, .l (List.set (gL p 10) (tI p 1) (D.l (List.set (D.els (gD (gL p 10) (tI p 1))) (tI p 4) (D.b true)))), aL p 11, aL p 12])
 (.bad))
 (.bad))
 (.bad))
 (.out (0, [aI p 0, aI p 2, aI p 3, aS p 5, aB p 6, aL p 7, aI p 8, aL p 9, aL p 10, aL p 11, aL p 12]))
def L_wf_used_8 (p : List D) : Sh :=
 .ask (ltI (gI p 2) (gI p 1))
 (.ask (within (gI p 2) (List.length (gL p 3)))
 (.ask (ltI 0 (iE (gD (gL p 3) (tI p 2))))
 (.call wf_ahead [.l [aS p 4, aB p 5, aL p 6, aI p 7, aL p 8], aI p 2] 0 fun r0 _ =>
 .loop 10 [aI p 0, .i (D.toI r0), aI p 1, aI p 2, .i (iE (gD (gL p 3) (tI p 2))), .l (D.els (gD (gL p 3) (tI p 2))), aI p 2, aL p 3, .i 0, aS p 4, aB p 5, aL p 6, aI p 7, aL p 8, aL p 9, aL p 10] (.cons (fun p1 =>
 .out (0, [aB p1 2]))
 (.cons (fun p1 =>
 .again [aI p1 0, aI p1 1, .i (addA .i64 (gI p1 2) 1), aL p1 3, aS p1 4, aB p1 5, aL p1 6, aI p1 7, aL p1 8, aL p1 9, aL p1 10])
 .nil)))
 (.loop 10 [aI p 0, .i (iL (gL p 6)), aI p 1, aI p 2, .i (iE (gD (gL p 3) (tI p 2))), .l (D.els (gD (gL p 3) (tI p 2))), aI p 2, aL p 3, .i 0, aS p 4, aB p 5, aL p 6, aI p 7, aL p 8, aL p 9, aL p 10] (.cons (fun p0 =>
 .out (0, [aB p0 2]))
 (.cons (fun p0 =>
 .again [aI p0 0, aI p0 1, .i (addA .i64 (gI p0 2) 1), aL p0 3, aS p0 4, aB p0 5, aL p0 6, aI p0 7, aL p0 8, aL p0 9, aL p0 10])
 .nil))))
 (.bad))
 (.out (1, []))
def L_wf_used_10 (p : List D) : Sh :=
 .ask (ltI (gI p 8) (gI p 4))
 (.ask (within (gI p 8) (List.length (gL p 5)))
 (.loop 12 [aI p 0, aI p 1, .l (eX (gD (gL p 5) (tI p 8)) 5), aI p 2, aI p 3, .i 0, aI p 4, .i (iX (gD (gL p 5) (tI p 8)) 5), aL p 5, aI p 6, aL p 7, aI p 8, aS p 9, aB p 10, aL p 11, aI p 12, aL p 13, .i (vI (gD (gL p 5) (tI p 8)) 0), .i (vI (gD (gL p 5) (tI p 8)) 1), .i (vI (gD (gL p 5) (tI p 8)) 2), .i (vI (gD (gL p 5) (tI p 8)) 3), .i (vI (gD (gL p 5) (tI p 8)) 4), .l (eX (gD (gL p 5) (tI p 8)) 5), .l (eX (gD (gL p 5) (tI p 8)) 6), aL p 14, aL p 15] (.cons (fun p0 =>
 .out (0, [aI p0 0, aI p0 2, aB p0 5, aI p0 7, aL p0 8, aS p0 10, aB p0 11, aL p0 12, aI p0 13, aL p0 14, aL p0 22, aL p0 23]))
 (.cons (fun p0 =>
 .ask (!(eqI (gI p0 15) 0))
 (.again [aI p0 0, aI p0 16, aI p0 2, aI p0 3, aI p0 4, aL p0 5, aI p0 6, aL p0 7, .i (addA .i64 (gI p0 8) 1), aS p0 9, aB p0 10, aL p0 11, aI p0 12, aL p0 13, aL p0 21, aL p0 22])
 (.again [aI p0 0, aI p0 1, aI p0 2, aI p0 3, aI p0 4, aL p0 5, aI p0 6, aL p0 7, .i (addA .i64 (gI p0 8) 1), aS p0 9, aB p0 10, aL p0 11, aI p0 12, aL p0 13, aL p0 21, aL p0 22]))
 .nil)))
 (.bad))
 (.out (1, [aI p 0, aI p 2, aI p 6, aL p 7, aS p 9, aB p 10, aL p 11, aI p 12, aL p 13, aL p 14, aL p 15]))
def L_wf_used_12 (p : List D) : Sh :=
 .ask (ltI (gI p 5) (gI p 7))
 (.ask (within (gI p 5) (List.length (gL p 2)))
 (.ask ((ltI (D.toI (gD (gL p 2) (tI p 5))) 1) || (ltI (gI p 0) (D.toI (gD (gL p 2) (tI p 5)))))
 (.out (0, [aI p 0, aI p 1, aI p 3, aI p 4, aI p 6, .b false, aL p 8, aI p 9, aL p 10, aI p 11, aS p 12, aB p 13, aL p 14, aI p 15, aL p 16, aI p 17, aI p 18, aI p 19, aI p 20, aI p 21, aL p 22, aL p 23, aL p 24, aL p 25]))
 (.ask (leI (D.toI (gD (gL p 2) (tI p 5))) (iL (gL p 14)))
 (.again [aI p 0, aI p 1, aL p 2, aI p 3, aI p 4, .i (addA .i64 (gI p 5) 1), aI p 6, aI p 7, aL p 8, aI p 9, aL p 10, aI p 11, aS p 12, aB p 13, aL p 14, aI p 15, aL p 16, aI p 17, aI p 18, aI p 19, aI p 20, aI p 21, aL p 22, aL p 23, aL p 24, aL p 25])
 (.ask (within (D.toI (gD (gL p 2) (tI p 5))) (List.length (gL p 25)))
 (.ask ((!((!(eqI (D.toI (gD (gL p 25) (Int.toNat (D.toI (gD (gL p 2) (tI p 5)))))) (gI p 4))) && true)) || (within (gI p 4) (List.length (gL p 24))))
 (.ask ((!((!(eqI (D.toI (gD (gL p 25) (Int.toNat (D.toI (gD (gL p 2) (tI p 5)))))) (gI p 4))) && true)) || (within (D.toI (gD (gL p 2) (tI p 5))) (List.length (gL p 25))))
 (.ask ((!((!(eqI (D.toI (gD (gL p 25) (Int.toNat (D.toI (gD (gL p 2) (tI p 5)))))) (gI p 4))) && true)) || (within (D.toI (gD (gL p 25) (Int.toNat (D.toI (gD (gL p 2) (tI p 5)))))) (nE (gD (gL p 24) (tI p 4)))))
 (.ask ((!(!((!(eqI (D.toI (gD (gL p 25) (Int.toNat (D.toI (gD (gL p 2) (tI p 5)))))) (gI p 4))) && (D.toB (gE (gD (gL p 24) (tI p 4)) (Int.toNat (D.toI (gD (gL p 25) (Int.toNat (D.toI (gD (gL p 2) (tI p 5)))))))))))) || (within (D.toI (gD (gL p 2) (tI p 5))) (List.length (gL p 25))))
 (.ask (eqI (gI p 17) 26)
 (.ask (within (gI p 5) (List.length (gL p 23)))
 (.ask (within (D.toI (gD (gL p 23) (tI p 5))) (List.length (gL p 24)))
 (.ask (within (D.toI (gD (gL p 2) (tI p 5))) (List.length (gL p 25)))
 (.ask (within (D.toI (gD (gL p 25) (Int.toNat (D.toI (gD (gL p 2) (tI p 5)))))) (nE (gD (gL p 24) (Int.toNat (D.toI (gD (gL p 23) (tI p 5)))))))
 (.ask (!(D.toB (gE (gD (gL p 24) (Int.toNat (D.toI (gD (gL p 23) (tI p 5))))) (Int.toNat (D.toI (gD (gL p 25) (Int.toNat (D.toI (gD (gL p 2) (tI p 5))))))))))
 (.out (0, [aI p 0, aI p 1, aI p 3, aI p 4, aI p 6, .b false, aL p 8, aI p 9, aL p 10, aI p 11, aS p 12, aB p 13, aL p 14, aI p 15, aL p 16, aI p 17, aI p 18, aI p 19, aI p 20, aI p 21, aL p 22, aL p 23, aL p 24, aL p 25]))
 (.again [aI p 0, aI p 1, aL p 2, aI p 3, aI p 4, .i (addA .i64 (gI p 5) 1), aI p 6, aI p 7, aL p 8, aI p 9, aL p 10, aI p 11, aS p 12, aB p 13, aL p 14, aI p 15, aL p 16, aI p 17, aI p 18, aI p 19, aI p 20, aI p 21, aL p 22, aL p 23, aL p 24, aL p 25]))
 (.bad))
 (.bad))
 (.bad))
 (.bad))
 (.ask (!(((!(eqI (D.toI (gD (gL p 25) (Int.toNat (D.toI (gD (gL p 2) (tI p 5)))))) (gI p 4))) && (D.toB (gE (gD (gL p 24) (tI p 4)) (Int.toNat (D.toI (gD (gL p 25) (Int.toNat (D.toI (gD (gL p 2) (tI p 5)))))))))) || ((eqI (D.toI (gD (gL p 25) (Int.toNat (D.toI (gD (gL p 2) (tI p 5)))))) (gI p 4)) && (leI (D.toI (gD (gL p 2) (tI p 5))) (gI p 1)))))
 (.out (0, [aI p 0, aI p 1, aI p 3, aI p 4, aI p 6, .b false, aL p 8, aI p 9, aL p 10, aI p 11, aS p 12, aB p 13, aL p 14, aI p 15, aL p 16, aI p 17, aI p 18, aI p 19, aI p 20, aI p 21, aL p 22, aL p 23, aL p 24, aL p 25]))
 (.again [aI p 0, aI p 1, aL p 2, aI p 3, aI p 4, .i (addA .i64 (gI p 5) 1), aI p 6, aI p 7, aL p 8, aI p 9, aL p 10, aI p 11, aS p 12, aB p 13, aL p 14, aI p 15, aL p 16, aI p 17, aI p 18, aI p 19, aI p 20, aI p 21, aL p 22, aL p 23, aL p 24, aL p 25])))
 (.bad))
 (.bad))
 (.bad))
 (.bad))
 (.bad))))
 (.bad))
 (.out (1, [aI p 0, aI p 1, aI p 3, aI p 4, aI p 6, aL p 8, aI p 9, aL p 10, aI p 11, aS p 12, aB p 13, aL p 14, aI p 15, aL p 16, aI p 17, aI p 18, aI p 19, aI p 20, aI p 21, aL p 22, aL p 23, aL p 24, aL p 25]))
def S_wf_used : STab := [(0, fun p => ⟨(t0 (t2 (.pb 1 0 0) (t1 (nI p 0)) (t0 Z (t0 Z (t1 (nI p 1))))) (t0 (t2 (.vw 200004 0 []) Z (t0 Z (t1 (fL 40 lt4 p 2)))) (t0 Z (t0 Z (t1 (nI p 3)))))), [(1, ⟨0, [.str (gS p 4), nB p 5, fL 3 [.int .i64] p 6, nI p 7, fL 40 lt4 p 8], none⟩)], [aR 200004 3 [.int .i64] (gL p 9)], 1⟩),
 (2, fun p => ⟨(t0 (t2 (.pb 1 0 0) (t1 (nI p 0)) (t2 (nI p 1) Z (t0 (t0 (t1 (nI p 2)) Z) (t1 (nI p 3))))) (t0 (t2 (.vw 200004 0 []) Z (t0 (t0 (t1 (fL 26 lt5 p 4)) Z) (t1 (fL 40 lt4 p 5)))) (t0 Z (t0 (t0 (t1 (nI p 6)) Z) (t1 (nI p 7)))))), [(1, ⟨0, [.str (gS p 8), nB p 9, fL 3 [.int .i64] p 10, nI p 11, fL 40 lt4 p 12], none⟩)], [aR 200004 3 [.int .i64] (gL p 13)], 1⟩),
 (4, fun p => ⟨(t0 (t2 (.pb 1 0 0) (t1 (nI p 0)) (t0 (t2 (.vw 60 0 []) (t0 (t0 (t1 (nI p 1)) Z) Z) Z) Z)) (t0 (t2 (.vw 200004 0 []) (t0 (t0 (t0 (t1 (nI p 2)) Z) Z) Z) Z) (t0 (t1 (.vw 63000000 0 [])) Z))), [(1, ⟨0, [.str (gS p 3), nB p 4, fL 3 [.int .i64] p 5, nI p 6, fL 40 lt4 p 7], none⟩)], [(60, ⟨50, [.sl true 4 [.bool]], (gL p 8), [], 0, [0, 0, 0, 0], 0⟩), aR 200004 3 [.int .i64] (gL p 9), aR 63000000 3 [.int .i64] (gL p 10)], 1⟩),
 (6, fun p => ⟨(t0 (t2 (.pb 1 0 0) (t2 (nI p 0) Z (t1 (nI p 1))) (t0 (t2 (.vw 60 0 []) (t0 (t0 (t1 (nI p 2)) Z) Z) Z) Z)) (t0 (t2 (.vw 200004 0 []) (t0 (t0 (t0 (t1 (nI p 3)) Z) Z) Z) (t1 (nI p 4))) (t0 (t1 (.vw 63000000 0 [])) Z))), [(1, ⟨0, [.str (gS p 5), nB p 6, fL 3 [.int .i64] p 7, nI p 8, fL 40 lt4 p 9], none⟩)], [(60, ⟨50, [.sl true 4 [.bool]], (gL p 10), [], 0, [0, 0, 0, 0], 0⟩), aR 200004 3 [.int .i64] (gL p 11), aR 63000000 3 [.int .i64] (gL p 12)], 1⟩),
 (8, fun p => ⟨(t0 (t2 (.pb 1 0 0) (t2 (nI p 0) Z (t0 Z (t0 Z (t0 (t1 (nI p 1)) Z)))) (t0 (t1 (.vw 60 0 [])) Z)) (t0 (t2 (.vw 200004 0 []) Z (t0 Z (t0 Z (t0 (t1 (nI p 2)) Z)))) (t0 (t0 Z (t0 Z (t0 (t1 (fL 40 lt4 p 3)) Z))) Z))), [(1, ⟨0, [.str (gS p 4), nB p 5, fL 3 [.int .i64] p 6, nI p 7, fL 40 lt4 p 8], none⟩)], [(60, ⟨50, [.sl true 4 [.bool]], (gL p 9), [], 0, [0, 0, 0, 0], 0⟩), aR 200004 3 [.int .i64] (gL p 10)], 1⟩),
 (10, fun p => ⟨(t0 (t2 (.pb 1 0 0) (t2 (nI p 0) (t0 (t1 (nI p 1)) Z) (t0 Z (t0 Z (t0 (t1 (nI p 2)) Z)))) (t0 (t1 (.vw 60 0 [])) (t2 (nI p 3) Z (t0 (t0 Z (t1 (nI p 4))) Z)))) (t0 (t2 (.vw 200004 0 []) Z (t0 Z (t0 (t0 Z (t1 (fL 26 lt5 p 5))) (t0 (t1 (nI p 6)) Z)))) (t0 (t0 Z (t0 Z (t0 (t1 (fL 40 lt4 p 7)) Z))) (t0 Z (t0 (t0 Z (t1 (nI p 8))) Z))))), [(1, ⟨0, [.str (gS p 9), nB p 10, fL 3 [.int .i64] p 11, nI p 12, fL 40 lt4 p 13], none⟩)], [(60, ⟨50, [.sl true 4 [.bool]], (gL p 14), [], 0, [0, 0, 0, 0], 0⟩), aR 200004 3 [.int .i64] (gL p 15)], 1⟩),
 (12, fun p => ⟨(t0 (t2 (.pb 1 0 0) (t2 (nI p 0) (t0 (t1 (nI p 1)) Z) (t0 (t0 Z (t0 Z (t1 (fL 3 [.int .i64] p 2)))) (t0 Z (t0 (t1 (nI p 3)) Z)))) (t0 (t2 (.vw 60 0 []) (t1 (.pb 17 0 0)) Z) (t2 (nI p 4) (t0 Z (t0 Z (t1 (nI p 5)))) (t0 (t0 Z (t1 (nI p 6))) Z)))) (t0 (t2 (.vw 200004 0 []) Z (t0 (t0 Z (t0 Z (t1 (nI p 7)))) (t0 (t0 Z (t1 (fL 26 lt5 p 8))) (t0 (t1 (nI p 9)) Z)))) (t0 (t0 Z (t0 Z (t0 (t1 (fL 40 lt4 p 10)) Z))) (t0 Z (t0 (t0 Z (t1 (nI p 11))) Z))))), [(1, ⟨0, [.str (gS p 12), nB p 13, fL 3 [.int .i64] p 14, nI p 15, fL 40 lt4 p 16], none⟩), (17, ⟨0, [nI p 17, nI p 18, nI p 19, nI p 20, nI p 21, fL 3 [.int .i64] p 22, fL 3 [.int .i64] p 23], none⟩)], [(60, ⟨50, [.sl true 4 [.bool]], (gL p 24), [], 0, [0, 0, 0, 0], 0⟩), aR 200004 3 [.int .i64] (gL p 25)], 1⟩)]
def T_wf_used : TTab := [(0, [fun p => (.ret, ⟨(t0 (t2 (.pb 1 0 0) (t1 (nI p 0)) Z) (t2 (nB p 1) (t1 (.vw 200004 0 [])) Z)), [(1, ⟨0, [.str (gS p 2), nB p 3, fL 3 [.int .i64] p 4, nI p 5, fL 40 lt4 p 6], none⟩)], [aR 200004 3 [.int .i64] (gL p 7)], 1⟩),
  fun p => (.exit 0, ⟨(t0 (t2 (.pb 1 0 0) (t1 (nI p 0)) Z) (t0 (t1 (.vw 200004 0 [])) Z)), [(1, ⟨0, [.str (gS p 1), nB p 2, fL 3 [.int .i64] p 3, nI p 4, fL 40 lt4 p 5], none⟩)], [aR 200004 3 [.int .i64] (gL p 6)], 1⟩)]),
 (2, [fun p => (.ret, ⟨(t0 (t2 (.pb 1 0 0) (t1 (nI p 0)) (t0 Z (t0 Z (t1 (nI p 1))))) (t2 (nB p 2) (t2 (.vw 200004 0 []) Z (t0 Z (t1 (fL 40 lt4 p 3)))) (t0 Z (t0 Z (t1 (nI p 4)))))), [(1, ⟨0, [.str (gS p 5), nB p 6, fL 3 [.int .i64] p 7, nI p 8, fL 40 lt4 p 9], none⟩)], [aR 200004 3 [.int .i64] (gL p 10)], 1⟩),
  fun p => (.exit 2, ⟨(t0 (t2 (.pb 1 0 0) (t1 (nI p 0)) (t0 Z (t0 Z (t1 (nI p 1))))) (t0 (t2 (.vw 200004 0 []) Z (t0 Z (t1 (fL 40 lt4 p 2)))) (t0 Z (t0 Z (t1 (nI p 3)))))), [(1, ⟨0, [.str (gS p 4), nB p 5, fL 3 [.int .i64] p 6, nI p 7, fL 40 lt4 p 8], none⟩)], [aR 200004 3 [.int .i64] (gL p 9)], 1⟩)]),
 (4, [fun p => (.exit 4, ⟨(t0 (t2 (.pb 1 0 0) (t1 (nI p 0)) (t0 (t1 (.vw 60 0 [])) Z)) (t0 (t1 (.vw 200004 0 [])) Z)), [(1, ⟨0, [.str (gS p 1), nB p 2, fL 3 [.int .i64] p 3, nI p 4, fL 40 lt4 p 5], none⟩)], [(60, ⟨50, [.sl true 4 [.bool]], (gL p 6), [], 0, [0, 0, 0, 0], 0⟩), aR 200004 3 [.int .i64] (gL p 7)], 1⟩)]),
 (6, [fun p => (.exit 6, ⟨(t0 (t2 (.pb 1 0 0) (t1 (nI p 0)) (t0 (t2 (.vw 60 0 []) (t0 (t0 (t1 (nI p 1)) Z) Z) Z) Z)) (t0 (t2 (.vw 200004 0 []) (t0 (t0 (t0 (t1 (nI p 2)) Z) Z) Z) Z) (t0 (t1 (.vw 63000000 0 [])) Z))), [(1, ⟨0, [.str (gS p 3), nB p 4, fL 3 [.int .i64] p 5, nI p 6, fL 40 lt4 p 7], none⟩)], [(60, ⟨50, [.sl true 4 [.bool]], (gL p 8), [], 0, [0, 0, 0, 0], 0⟩), aR 200004 3 [.int .i64] (gL p 9), aR 63000000 3 [.int .i64] (gL p 10)], 1⟩)]),
 (8, [fun p => (.ret, ⟨(t0 Z (t1 (nB p 0))), [], [], 1⟩),
  fun p => (.exit 8, ⟨(t0 Z (t0 Z Z)), [], [], 1⟩)]),
 (10, [fun p => (.ret, ⟨(t0 (t2 (.pb 1 0 0) (t2 (nI p 0) Z (t0 Z (t0 Z (t0 (t1 (nI p 1)) Z)))) (t0 (t1 (.vw 60 0 [])) Z)) (t2 (nB p 2) (t2 (.vw 200004 0 []) Z (t0 Z (t0 Z (t0 (t1 (nI p 3)) Z)))) (t0 (t0 Z (t0 Z (t0 (t1 (fL 40 lt4 p 4)) Z))) Z))), [(1, ⟨0, [.str (gS p 5), nB p 6, fL 3 [.int .i64] p 7, nI p 8, fL 40 lt4 p 9], none⟩)], [(60, ⟨50, [.sl true 4 [.bool]], (gL p 10), [], 0, [0, 0, 0, 0], 0⟩), aR 200004 3 [.int .i64] (gL p 11)], 1⟩),
  fun p => (.exit 10, ⟨(t0 (t2 (.pb 1 0 0) (t2 (nI p 0) Z (t0 Z (t0 Z (t0 (t1 (nI p 1)) Z)))) (t0 (t1 (.vw 60 0 [])) Z)) (t0 (t2 (.vw 200004 0 []) Z (t0 Z (t0 Z (t0 (t1 (nI p 2)) Z)))) (t0 (t0 Z (t0 Z (t0 (t1 (fL 40 lt4 p 3)) Z))) Z))), [(1, ⟨0, [.str (gS p 4), nB p 5, fL 3 [.int .i64] p 6, nI p 7, fL 40 lt4 p 8], none⟩)], [(60, ⟨50, [.sl true 4 [.bool]], (gL p 9), [], 0, [0, 0, 0, 0], 0⟩), aR 200004 3 [.int .i64] (gL p 10)], 1⟩)]),
 (12, [fun p => (.ret, ⟨(t0 (t2 (.pb 1 0 0) (t2 (nI p 0) (t0 (t1 (nI p 1)) Z) (t0 Z (t0 Z (t0 (t1 (nI p 2)) Z)))) (t0 (t2 (.vw 60 0 []) (t1 (.pb 17 0 0)) Z) (t2 (nI p 3) Z (t0 (t0 Z (t1 (nI p 4))) Z)))) (t2 (nB p 5) (t2 (.vw 200004 0 []) Z (t0 Z (t0 (t0 Z (t1 (fL 26 lt5 p 6))) (t0 (t1 (nI p 7)) Z)))) (t0 (t0 Z (t0 Z (t0 (t1 (fL 40 lt4 p 8)) Z))) (t0 Z (t0 (t0 Z (t1 (nI p 9))) Z))))), [(1, ⟨0, [.str (gS p 10), nB p 11, fL 3 [.int .i64] p 12, nI p 13, fL 40 lt4 p 14], none⟩), (17, ⟨0, [nI p 15, nI p 16, nI p 17, nI p 18, nI p 19, fL 3 [.int .i64] p 20, fL 3 [.int .i64] p 21], none⟩)], [(60, ⟨50, [.sl true 4 [.bool]], (gL p 22), [], 0, [0, 0, 0, 0], 0⟩), aR 200004 3 [.int .i64] (gL p 23)], 1⟩),
  fun p => (.exit 12, ⟨(t0 (t2 (.pb 1 0 0) (t2 (nI p 0) (t0 (t1 (nI p 1)) Z) (t0 Z (t0 Z (t0 (t1 (nI p 2)) Z)))) (t0 (t2 (.vw 60 0 []) (t1 (.pb 17 0 0)) Z) (t2 (nI p 3) Z (t0 (t0 Z (t1 (nI p 4))) Z)))) (t0 (t2 (.vw 200004 0 []) Z (t0 Z (t0 (t0 Z (t1 (fL 26 lt5 p 5))) (t0 (t1 (nI p 6)) Z)))) (t0 (t0 Z (t0 Z (t0 (t1 (fL 40 lt4 p 7)) Z))) (t0 Z (t0 (t0 Z (t1 (nI p 8))) Z))))), [(1, ⟨0, [.str (gS p 9), nB p 10, fL 3 [.int .i64] p 11, nI p 12, fL 40 lt4 p 13], none⟩), (17, ⟨0, [nI p 14, nI p 15, nI p 16, nI p 17, nI p 18, fL 3 [.int .i64] p 19, fL 3 [.int .i64] p 20], none⟩)], [(60, ⟨50, [.sl true 4 [.bool]], (gL p 21), [], 0, [0, 0, 0, 0], 0⟩), aR 200004 3 [.int .i64] (gL p 22)], 1⟩)])]
def F_wf_used : Fn := { np := 1, bs := [0, 2, 4, 6, 8, 10, 12], main := M_wf_used, lps := [(0, L_wf_used_0), (2, L_wf_used_2), (4, L_wf_used_4), (6, L_wf_used_6), (8, L_wf_used_8), (10, L_wf_used_10), (12, L_wf_used_12)] }
def M_facts_Func_bases (x : List D) : Sh :=
 .ask ((leI 0 (iX (gD x 0) 0)) && ((eqI (iX (gD x 0) 0) (iX (gD x 0) 0)) && (lim (Int.toNat (iX (gD x 0) 0)) 24)))
 (.loop 0 [.i (iX (gD x 1) 2), .i 0, .l (eX (gD x 1) 2), .l (List.replicate (nX (gD x 0) 0) (D.l [])), .l (eX (gD x 0) 0), .l (eX (gD x 0) 2), .l (eX (gD x 0) 3)] (.cons (fun p0 =>
 .loop 2 [.b true, aL p0 0, aL p0 1, aL p0 2, aL p0 3] (.cons (fun p1 =>
 .ret (.l []) [.l [aL p1 1, aL p1 0, aL p1 2, aL p1 3]])
 .nil))
 .nil))
 (.bad)
def L_facts_Func_bases_0 (p : List D) : Sh :=
 .ask (ltI (gI p 1) (gI p 0))
 (.ask (within (gI p 1) (List.length (gL p 2)))
 (.ask (eqI (D.toI (gD (gL p 2) (tI p 1))) 3)
 (.ask (within (addA .i64 (gI p 1) 1) (List.length (gL p 3)))
 (.again [aI p 0, .i (addA .i64 (gI p 1) 1), aL p 2, .l (List.set (gL p 3) (Int.toNat (addA .i64 (gI p 1) 1)) (D.l [.l [.i 1, .i (addA .i64 (gI p 1) 1)]])), aL p 4, aL p 5, aL p 6])
 (.bad))
 (.again [aI p 0, .i (addA .i64 (gI p 1) 1), aL p 2, aL p 3, aL p 4, aL p 5, aL p 6]))
 (.bad))
 (.out (0, [aL p 3, aL p 4, aL p 5, aL p 6]))
def L_facts_Func_bases_2 (p : List D) : Sh :=
 .ask (gB p 0)
 (.loop 4 [.i 0, .i (iL (gL p 4)), .b false, aL p 1, aL p 2, aL p 3, aL p 4] (.cons (fun p0 =>
 .again [aB p0 0, aL p0 1, aL p0 2, aL p0 3, aL p0 4])
 .nil))
 (.out (0, [aL p 1, aL p 2, aL p 3, aL p 4]))
def J_facts_Func_bases_0 (p : List D) (r2 : D) : Sh :=
 .ask (!(eqI (iE r2) (iE (gD (gL p 3) (tI p 0)))))
 (.ask (within (gI p 0) (List.length (gL p 3)))
 (.again [.i (addA .i64 (gI p 0) 1), aI p 1, .b true, .l (List.set (gL p 3) (tI p 0) (D.l (D.els r2))), aL p 4, aL p 5, aL p 6])
 (.bad))
 (.again [.i (addA .i64 (gI p 0) 1), aI p 1, aB p 2, aL p 3, aL p 4, aL p 5, aL p 6])
def L_facts_Func_bases_4 (p : List D) : Sh :=
 .ask (ltI (gI p 0) (gI p 1))
 (.ask (within (gI p 0) (List.length (gL p 6)))
 (.ask (!(eqI (vI (gD (gL p 6) (tI p 0)) 1) 3))
 (.again [.i (addA .i64 (gI p 0) 1), aI p 1, aB p 2, aL p 3, aL p 4, aL p 5, aL p 6])
 (.ask (eqI (vI (gD (gL p 6) (tI p 0)) 0) 18)
 (.call slices_Clone_Sapi_Base_api_Base [.l [.l [.i 2, aI p 0]]] 0 fun r0 _ =>
 .call slices_SortFunc_Sapi_Base_api_Base [.l (D.els r0), .l []] 0 fun r1 _ =>
 .call slices_Compact_Sapi_Base_api_Base [.l (D.els r0)] 0 fun r2 _ =>
 .ask (within (gI p 0) (List.length (gL p 3)))
 (J_facts_Func_bases_0 p r2)
 (.bad))
 (.ask (eqI (vI (gD (gL p 6) (tI p 0)) 0) 3)
 (.call slices_Clone_Sapi_Base_api_Base [.l [.l [.i 3, .i (vI (gD (gL p 6) (tI p 0)) 3)]]] 0 fun r0 _ =>
 .call slices_SortFunc_Sapi_Base_api_Base [.l (D.els r0), .l []] 0 fun r1 _ =>
 .call slices_Compact_Sapi_Base_api_Base [.l (D.els r0)] 0 fun r2 _ =>
 .ask (within (gI p 0) (List.length (gL p 3)))
 (J_facts_Func_bases_0 p r2)
 (.bad))
 (.ask (eqI (vI (gD (gL p 6) (tI p 0)) 0) 19)
 (.ask (within 0 (nX (gD (gL p 6) (tI p 0)) 5))
 (.ask (within (D.toI (gD (eX (gD (gL p 6) (tI p 0)) 5) 0)) (List.length (gL p 3)))
 (.call slices_Clone_Sapi_Base_api_Base [.l (D.els (gD (gL p 3) (Int.toNat (D.toI (gD (eX (gD (gL p 6) (tI p 0)) 5) 0)))))] 0 fun r0 _ =>
 .call slices_SortFunc_Sapi_Base_api_Base [.l (D.els r0), .l []] 0 fun r1 _ =>
 .call slices_Compact_Sapi_Base_api_Base [.l (D.els r0)] 0 fun r2 _ =>
 .ask (within (gI p 0) (List.length (gL p 3)))
 (J_facts_Func_bases_0 p r2)
 (.bad))
 (.bad))
 (.bad))
 (.ask (eqI (vI (gD (gL p 6) (tI p 0)) 0) 17)
 (.ask (within 1 (nX (gD (gL p 6) (tI p 0)) 5))
 (.ask (within (D.toI (gD (eX (gD (gL p 6) (tI p 0)) 5) 1)) (List.length (gL p 3)))
 (.ask (within 2 (nX (gD (gL p 6) (tI p 0)) 5))
 (.ask (within (D.toI (gD (eX (gD (gL p 6) (tI p 0)) 5) 2)) (List.length (gL p 3)))
 (.call slices_Concat_Sapi_Base_api_Base [.l [.l (D.els (gD (gL p 3) (Int.toNat (D.toI (gD (eX (gD (gL p 6) (tI p 0)) 5) 1))))), .l (D.els (gD (gL p 3) (Int.toNat (D.toI (gD (eX (gD (gL p 6) (tI p 0)) 5) 2)))))]] 0 fun r0 _ =>
 .call slices_Clone_Sapi_Base_api_Base [.l (D.els r0)] 0 fun r1 _ =>
 .call slices_SortFunc_Sapi_Base_api_Base [.l (D.els r1), .l []] 0 fun r2 _ =>
 .call slices_Compact_Sapi_Base_api_Base [.l (D.els r1)] 0 fun r3 _ =>
 .ask (within (gI p 0) (List.length (gL p 3)))
 (.ask (!(eqI (iE r3) (iE (gD (gL p 3) (tI p 0)))))
 (.ask (within (gI p 0) (List.length (gL p 3)))
 (.again [.i (addA .i64 (gI p 0) 1), aI p 1, .b true, .l (List.set (gL p 3) (tI p 0) (D.l (D.els r3))), aL p 4, aL p 5, aL p 6])
 (.bad))
 (.again [.i (addA .i64 (gI p 0) 1), aI p 1, aB p 2, aL p 3, aL p 4, aL p 5, aL p 6]))
 (.bad))
 (.bad))
 (.bad))
 (.bad))
 (.bad))
 (.ask (eqI (vI (gD (gL p 6) (tI p 0)) 0) 26)
 (.loop 7 [aI p 0, .i 0, aI p 0, .l (eX (gD (gL p 6) (tI p 0)) 5), aI p 1, aB p 2, .i (iX (gD (gL p 6) (tI p 0)) 5), aL p 3, .l [], aL p 4, aL p 5, aL p 6] (.cons (fun p0 =>
 .call slices_Clone_Sapi_Base_api_Base [aL p0 5] 0 fun r1 _ =>
 .call slices_SortFunc_Sapi_Base_api_Base [.l (D.els r1), .l []] 0 fun r2 _ =>
 .call slices_Compact_Sapi_Base_api_Base [.l (D.els r1)] 0 fun r3 _ =>
 .ask (within (gI p0 0) (List.length (gL p0 4)))
 (.ask (!(eqI (iE r3) (iE (gD (gL p0 4) (tI p0 0)))))
 (.ask (within (gI p0 0) (List.length (gL p0 4)))
 (.again [.i (addA .i64 (gI p0 1) 1), aI p0 2, .b true, .l (List.set (gL p0 4) (tI p0 0) (D.l (D.els r3))), aL p0 6, aL p0 7, aL p0 8])
 (.bad))
 (.again [.i (addA .i64 (gI p0 1) 1), aI p0 2, aB p0 3, aL p0 4, aL p0 6, aL p0 7, aL p0 8]))
 (.bad))
 .nil))
 (.call slices_Clone_Sapi_Base_api_Base [.l []] 0 fun r0 _ =>
 .call slices_SortFunc_Sapi_Base_api_Base [.l (D.els r0), .l []] 0 fun r1 _ =>
 .call slices_Compact_Sapi_Base_api_Base [.l (D.els r0)] 0 fun r2 _ =>
 .ask (within (gI p 0) (List.length (gL p 3)))
 (J_facts_Func_bases_0 p r2)
 (.bad))))))))
 (.bad))
 (.out (0, [aB p 2, aL p 3, aL p 4, aL p 5, aL p 6]))
def L_facts_Func_bases_7 (p : List D) : Sh :=
 .ask (ltI (gI p 1) (gI p 6))
 (.ask (within (gI p 1) (List.length (gL p 3)))
 (.ask (within (D.toI (gD (gL p 3) (tI p 1))) (List.length (gL p 7)))
 (.ask (lim ((List.length (gL p 8)) + (nE (gD (gL p 7) (Int.toNat (D.toI (gD (gL p 3) (tI p 1))))))) 16)
 (.again [aI p 0, .i (addA .i64 (gI p 1) 1), aI p 2, aL p 3, aI p 4, aB p 5, aI p 6, aL p 7, .l ((gL p 8) ++ (D.els (gD (gL p 7) (Int.toNat (D.toI (gD (gL p 3) (tI p 1))))))), aL p 9, aL p 10, aL p 11])
 (.bad))
 (.bad))
 (.bad))
 (.out (0, [aI p 0, aI p 2, aI p 4, aB p 5, aL p 7, aL p 8, aL p 9, aL p 10, aL p 11]))
def S_facts_Func_bases : STab := [(0, fun p => ⟨(t2 (.pb 500 0 0) (t0 (t0 (t0 Z (t1 (nI p 0))) Z) Z) (t0 (t0 (t0 Z (t1 (nI p 1))) Z) (t0 Z (t0 (t1 (fL 3 [.int .i64] p 2)) Z)))), [(500, ⟨0, [.vw 501000000 0 [], .vw 18 0 [], .vw 501000002 0 [], .vw 501000003 0 []], none⟩)], [(18, ⟨67, [.sl true 66 [.int .i64, .int .i64]], (gL p 3), [], 0, [0, 0, 0, 0], 0⟩), aR 501000000 3 [.int .i64] (gL p 4), aR 501000002 70 [.int .i64, .int .i64] (gL p 5), aR 501000003 26 lt5 (gL p 6)], 1⟩),
 (2, fun p => ⟨(t2 (.pb 500 0 0) Z (t0 Z (t1 (nB p 0)))), [(500, ⟨0, [.vw 501000000 0 [], .vw 18 0 [], .vw 501000002 0 [], .vw 501000003 0 []], none⟩)], [(18, ⟨67, [.sl true 66 [.int .i64, .int .i64]], (gL p 1), [], 0, [0, 0, 0, 0], 0⟩), aR 501000000 3 [.int .i64] (gL p 2), aR 501000002 70 [.int .i64, .int .i64] (gL p 3), aR 501000003 26 lt5 (gL p 4)], 1⟩),
 (4, fun p => ⟨(t2 (.pb 500 0 0) (t0 (t0 (t0 (t0 Z (t1 (.vw 501000003 0 []))) Z) Z) (t0 (t0 (t0 Z (t1 (nI p 0))) Z) Z)) (t0 (t0 (t0 (t0 Z (t1 (nI p 1))) Z) Z) (t1 (nB p 2)))), [(500, ⟨0, [.vw 501000000 0 [], .vw 18 0 [], .vw 501000002 0 [], .vw 501000003 0 []], none⟩)], [(18, ⟨67, [.sl true 66 [.int .i64, .int .i64]], (gL p 3), [], 0, [0, 0, 0, 0], 0⟩), aR 501000000 3 [.int .i64] (gL p 4), aR 501000002 70 [.int .i64, .int .i64] (gL p 5), aR 501000003 26 lt5 (gL p 6)], 1⟩),
 (7, fun p => ⟨(t2 (.pb 500 0 0) (t0 (t0 (t2 (nI p 0) (t0 Z (t2 (.vw 501000003 0 []) Z (t1 (nI p 1)))) Z) Z) (t0 (t2 (.vw 200009 0 []) (t0 Z (t1 (nI p 2))) Z) (t0 Z (t0 (t0 Z (t1 (fL 3 [.int .i64] p 3))) Z)))) (t0 (t0 (t0 (t0 Z (t1 (nI p 4))) Z) Z) (t2 (nB p 5) Z (t0 Z (t0 (t0 Z (t1 (nI p 6))) Z))))), [(500, ⟨0, [.vw 501000000 0 [], .vw 18 0 [], .vw 501000002 0 [], .vw 501000003 0 []], none⟩)], [(18, ⟨67, [.sl true 66 [.int .i64, .int .i64]], (gL p 7), [], 0, [0, 0, 0, 0], 0⟩), aR 200009 66 [.int .i64, .int .i64] (gL p 8), aR 501000000 3 [.int .i64] (gL p 9), aR 501000002 70 [.int .i64, .int .i64] (gL p 10), aR 501000003 26 lt5 (gL p 11)], 1⟩)]
def T_facts_Func_bases : TTab := [(0, [fun p => (.exit 0, ⟨(t1 (.pb 500 0 0)), [(500, ⟨0, [.vw 501000000 0 [], .vw 18 0 [], .vw 501000002 0 [], .vw 501000003 0 []], none⟩)], [(18, ⟨67, [.sl true 66 [.int .i64, .int .i64]], (gL p 0), [], 0, [0, 0, 0, 0], 0⟩), aR 501000000 3 [.int .i64] (gL p 1), aR 501000002 70 [.int .i64, .int .i64] (gL p 2), aR 501000003 26 lt5 (gL p 3)], 1⟩)]),
 (2, [fun p => (.exit 2, ⟨(t1 (.pb 500 0 0)), [(500, ⟨0, [.vw 501000000 0 [], .vw 18 0 [], .vw 501000002 0 [], .vw 501000003 0 []], none⟩)], [(18, ⟨67, [.sl true 66 [.int .i64, .int .i64]], (gL p 0), [], 0, [0, 0, 0, 0], 0⟩), aR 501000000 3 [.int .i64] (gL p 1), aR 501000002 70 [.int .i64, .int .i64] (gL p 2), aR 501000003 26 lt5 (gL p 3)], 1⟩)]),
 (4, [fun p => (.exit 4, ⟨(t2 (.pb 500 0 0) Z (t0 Z (t1 (nB p 0)))), [(500, ⟨0, [.vw 501000000 0 [], .vw 18 0 [], .vw 501000002 0 [], .vw 501000003 0 []], none⟩)], [(18, ⟨67, [.sl true 66 [.int .i64, .int .i64]], (gL p 1), [], 0, [0, 0, 0, 0], 0⟩), aR 501000000 3 [.int .i64] (gL p 2), aR 501000002 70 [.int .i64, .int .i64] (gL p 3), aR 501000003 26 lt5 (gL p 4)], 1⟩)]),
 (7, [fun p => (.exit 7, ⟨(t2 (.pb 500 0 0) (t0 (t0 (t2 (nI p 0) (t0 Z (t1 (.vw 501000003 0 []))) Z) Z) (t0 (t2 (.vw 200009 0 []) (t0 Z (t1 (nI p 1))) Z) Z)) (t0 (t0 (t0 (t0 Z (t1 (nI p 2))) Z) Z) (t1 (nB p 3)))), [(500, ⟨0, [.vw 501000000 0 [], .vw 18 0 [], .vw 501000002 0 [], .vw 501000003 0 []], none⟩)], [(18, ⟨67, [.sl true 66 [.int .i64, .int .i64]], (gL p 4), [], 0, [0, 0, 0, 0], 0⟩), aR 200009 66 [.int .i64, .int .i64] (gL p 5), aR 501000000 3 [.int .i64] (gL p 6), aR 501000002 70 [.int .i64, .int .i64] (gL p 7), aR 501000003 26 lt5 (gL p 8)], 1⟩)])]
def F_facts_Func_bases : Fn := { np := 2, bs := [0, 2, 4, 7], main := M_facts_Func_bases, lps := [(0, L_facts_Func_bases_0), (2, L_facts_Func_bases_2), (4, L_facts_Func_bases_4), (7, L_facts_Func_bases_7)] }
def M_slices_Clone_Sint64_int64 (x : List D) : Sh :=
 .ask (isNl (D.els (gD x 0)))
 (.bad)
 (.ask false
 (.ret (.l []) [])
 (.ask (lim (0 + (nE (gD x 0))) 8)
 (.ret (.l (D.els (gD x 0))) [])
 (.bad)))
def S_slices_Clone_Sint64_int64 : STab := []
def T_slices_Clone_Sint64_int64 : TTab := []
def F_slices_Clone_Sint64_int64 : Fn := { np := 1, bs := [], main := M_slices_Clone_Sint64_int64, lps := [] }
def M_facts_weight (x : List D) : Sh :=
 .ask (vB (gD x 0) 4)
 (.ret (.i (addA .i64 (addA .i64 (addA .i64 (addA .i64 (iX (gD x 0) 0) (iX (gD x 0) 1)) (iX (gD x 0) 2)) (iX (gD x 0) 3)) 1)) [])
 (.ret (.i (addA .i64 (addA .i64 (addA .i64 (iX (gD x 0) 0) (iX (gD x 0) 1)) (iX (gD x 0) 2)) (iX (gD x 0) 3))) [])
def S_facts_weight : STab := []
def T_facts_weight : TTab := []
def F_facts_weight : Fn := { np := 1, bs := [], main := M_facts_weight, lps := [] }
def J_wf_shaped_1 (x : List D) : Sh :=
 .ask (!(eqI (vI (gD x 0) 0) 21))
 (.call wf_Ends [.i (vI (gD x 0) 0)] 0 fun r1 _ =>
 .ask ((!(((eqI (vI (gD x 0) 0) 22) || (eqI (vI (gD x 0) 0) 23)) || (eqI (vI (gD x 0) 0) 25))) && (!(bif (eqI (vI (gD x 0) 0) 21) || (D.toB r1) then eqI (vI (gD x 0) 1) 0 else !(eqI (vI (gD x 0) 1) 0))))
 (.ret (.b false) [])
 (.ask (eqI (vI (gD x 0) 1) 0)
 (.ret (.b (eqI (vI (gD x 0) 2) 0)) [])
 (.ret (.b (leI 1 (vI (gD x 0) 2))) [])))
 (.ask ((!(((eqI (vI (gD x 0) 0) 22) || (eqI (vI (gD x 0) 0) 23)) || (eqI (vI (gD x 0) 0) 25))) && (!(bif (eqI (vI (gD x 0) 0) 21) || (D.toB (.i 0)) then eqI (vI (gD x 0) 1) 0 else !(eqI (vI (gD x 0) 1) 0))))
 (.ret (.b false) [])
 (.ask (eqI (vI (gD x 0) 1) 0)
 (.ret (.b (eqI (vI (gD x 0) 2) 0)) [])
 (.ret (.b (leI 1 (vI (gD x 0) 2))) [])))
def J_wf_shaped_0 (x : List D) (r0 : D) : Sh :=
 .ask (eqI (vI (gD x 0) 0) 18)
 (.ask (((((!(((((ltI (vI r0 0) 0) || (eqI (iX (gD x 0) 5) (vI r0 0))) && ((ltI (vI r0 1) 0) || (eqI (iX (gD x 0) 6) (vI r0 1)))) && (leI 1 (vI (gD x 0) 4))) && (leI (vI (gD x 0) 4) 16))) || ((!(vB r0 2)) && (!(eqI (vI (gD x 0) 3) 0)))) || ((!(vB r0 3)) && (!(eqI (vI (gD x 0) 4) 0)))) || (ltI (vI (gD x 0) 1) 0)) || (ltI 4 (vI (gD x 0) 1)))
 (.ret (.b false) [])
 (J_wf_shaped_1 x))
 (.ask (((((!(((ltI (vI r0 0) 0) || (eqI (iX (gD x 0) 5) (vI r0 0))) && ((ltI (vI r0 1) 0) || (eqI (iX (gD x 0) 6) (vI r0 1))))) || ((!(vB r0 2)) && (!(eqI (vI (gD x 0) 3) 0)))) || ((!(vB r0 3)) && (!(eqI (vI (gD x 0) 4) 0)))) || (ltI (vI (gD x 0) 1) 0)) || (ltI 4 (vI (gD x 0) 1)))
 (.ret (.b false) [])
 (J_wf_shaped_1 x))
def J_wf_shaped_2 (x : List D) (r0 : D) : Sh :=
 .ask (((((!((((ltI (vI r0 0) 0) || (eqI (iX (gD x 0) 5) (vI r0 0))) && ((ltI (vI r0 1) 0) || (eqI (iX (gD x 0) 6) (vI r0 1)))) && (leI (iX (gD x 0) 5) 5))) || ((!(vB r0 2)) && (!(eqI (vI (gD x 0) 3) 0)))) || ((!(vB r0 3)) && (!(eqI (vI (gD x 0) 4) 0)))) || (ltI (vI (gD x 0) 1) 0)) || (ltI 4 (vI (gD x 0) 1)))
 (.ret (.b false) [])
 (.ask (!(eqI (vI (gD x 0) 0) 21))
 (.call wf_Ends [.i (vI (gD x 0) 0)] 0 fun r1 _ =>
 .ask ((!(((eqI (vI (gD x 0) 0) 22) || (eqI (vI (gD x 0) 0) 23)) || (eqI (vI (gD x 0) 0) 25))) && (!(bif (eqI (vI (gD x 0) 0) 21) || (D.toB r1) then eqI (vI (gD x 0) 1) 0 else !(eqI (vI (gD x 0) 1) 0))))
 (.ret (.b false) [])
 (.ask (eqI (vI (gD x 0) 1) 0)
 (.ret (.b (eqI (vI (gD x 0) 2) 0)) [])
 (.ret (.b (leI 1 (vI (gD x 0) 2))) [])))
 (.ask ((!(((eqI (vI (gD x 0) 0) 22) || (eqI (vI (gD x 0) 0) 23)) || (eqI (vI (gD x 0) 0) 25))) && (!(bif (eqI (vI (gD x 0) 0) 21) || (D.toB (.i 0)) then eqI (vI (gD x 0) 1) 0 else !(eqI (vI (gD x 0) 1) 0))))
 (.ret (.b false) [])
 (.ask (eqI (vI (gD x 0) 1) 0)
 (.ret (.b (eqI (vI (gD x 0) 2) 0)) [])
 (.ret (.b (leI 1 (vI (gD x 0) 2))) []))))
def J_wf_shaped_3 (x : List D) : Sh :=
 .ask (!(eqI (vI (gD x 0) 0) 21))
 (.call wf_Ends [.i (vI (gD x 0) 0)] 0 fun r1 _ =>
 .ask ((!(((eqI (vI (gD x 0) 0) 22) || (eqI (vI (gD x 0) 0) 23)) || (eqI (vI (gD x 0) 0) 25))) && (!(bif (eqI (vI (gD x 0) 0) 21) || (D.toB r1) then eqI (vI (gD x 0) 1) 0 else !(eqI (vI (gD x 0) 1) 0))))
 (.ret (.b false) [])
 (.ask (eqI (vI (gD x 0) 1) 0)
 (.ret (.b (eqI (vI (gD x 0) 2) 0)) [])
 (.ret (.b (leI 1 (vI (gD x 0) 2))) [])))
 (.ask ((!(((eqI (vI (gD x 0) 0) 22) || (eqI (vI (gD x 0) 0) 23)) || (eqI (vI (gD x 0) 0) 25))) && (!(bif (eqI (vI (gD x 0) 0) 21) || (D.toB (.i 0)) then eqI (vI (gD x 0) 1) 0 else !(eqI (vI (gD x 0) 1) 0))))
 (.ret (.b false) [])
 (.ask (eqI (vI (gD x 0) 1) 0)
 (.ret (.b (eqI (vI (gD x 0) 2) 0)) [])
 (.ret (.b (leI 1 (vI (gD x 0) 2))) [])))
def M_wf_shaped (x : List D) : Sh :=
 .ask ((ltI (vI (gD x 0) 0) 1) || (ltI 30 (vI (gD x 0) 0)))
 (.ret (.b false) [])
 (.call wf_Mark [.i (vI (gD x 0) 0)] 0 fun r0 _ =>
 .ask (eqI (vI (gD x 0) 0) 26)
 (.ask (((((!((eqI (iX (gD x 0) 5) (iX (gD x 0) 6)) && (leI 1 (iX (gD x 0) 5)))) || ((!(vB r0 2)) && (!(eqI (vI (gD x 0) 3) 0)))) || ((!(vB r0 3)) && (!(eqI (vI (gD x 0) 4) 0)))) || (ltI (vI (gD x 0) 1) 0)) || (ltI 4 (vI (gD x 0) 1)))
 (.ret (.b false) [])
 (J_wf_shaped_3 x))
 (.ask (eqI (vI (gD x 0) 0) 29)
 (.ask (((((!((((ltI (vI r0 0) 0) || (eqI (iX (gD x 0) 5) (vI r0 0))) && ((ltI (vI r0 1) 0) || (eqI (iX (gD x 0) 6) (vI r0 1)))) && (leI (iX (gD x 0) 5) 1))) || ((!(vB r0 2)) && (!(eqI (vI (gD x 0) 3) 0)))) || ((!(vB r0 3)) && (!(eqI (vI (gD x 0) 4) 0)))) || (ltI (vI (gD x 0) 1) 0)) || (ltI 4 (vI (gD x 0) 1)))
 (.ret (.b false) [])
 (J_wf_shaped_3 x))
 (.ask (eqI (vI (gD x 0) 0) 25)
 (.ask (((((!(((((ltI (vI r0 0) 0) || (eqI (iX (gD x 0) 5) (vI r0 0))) && ((ltI (vI r0 1) 0) || (eqI (iX (gD x 0) 6) (vI r0 1)))) && (leI 1 (iX (gD x 0) 5))) && (leI (iX (gD x 0) 5) 6))) || ((!(vB r0 2)) && (!(eqI (vI (gD x 0) 3) 0)))) || ((!(vB r0 3)) && (!(eqI (vI (gD x 0) 4) 0)))) || (ltI (vI (gD x 0) 1) 0)) || (ltI 4 (vI (gD x 0) 1)))
 (.ret (.b false) [])
 (J_wf_shaped_3 x))
 (.ask (eqI (vI (gD x 0) 0) 22)
 (.ask (eqI (vI (gD x 0) 0) 22)
 (J_wf_shaped_2 x r0)
 (J_wf_shaped_0 x r0))
 (.ask (eqI (vI (gD x 0) 0) 23)
 (J_wf_shaped_2 x r0)
 (J_wf_shaped_0 x r0))))))
def S_wf_shaped : STab := []
def T_wf_shaped : TTab := []
def F_wf_shaped : Fn := { np := 1, bs := [], main := M_wf_shaped, lps := [] }
def M_slices_Contains_Sbool_bool (x : List D) : Sh :=
 .call slices_Index_Sbool_bool [.l (D.els (gD x 0)), .b (D.toB (gD x 1))] 0 fun r0 _ =>
 .ret (.b (leI 0 (D.toI r0))) []
def S_slices_Contains_Sbool_bool : STab := []
def T_slices_Contains_Sbool_bool : TTab := []
def F_slices_Contains_Sbool_bool : Fn := { np := 2, bs := [], main := M_slices_Contains_Sbool_bool, lps := [] }
def M_dom_Over (x : List D) : Sh :=
 .call dom_over [.l [.s (D.toS (D.fld (gD x 0) 0)), .b (vB (gD x 0) 1), .l (eX (gD x 0) 2), .i (vI (gD x 0) 3), .l (eX (gD x 0) 4)]] 0 fun r0 _ =>
 .call dom_nearest [.l (D.els r0)] 0 fun r1 _ =>
 .ret (.l (D.els r1)) []
def S_dom_Over : STab := []
def T_dom_Over : TTab := []
def F_dom_Over : Fn := { np := 1, bs := [], main := M_dom_Over, lps := [] }
def M_slices_Clone_Sapi_Base_api_Base (x : List D) : Sh :=
 .ask (isNl (D.els (gD x 0)))
 (.bad)
 (.ask false
 (.ret (.l []) [])
 (.ask (lim (0 + (nE (gD x 0))) 16)
 (.ret (.l (D.els (gD x 0))) [])
 (.bad)))
def S_slices_Clone_Sapi_Base_api_Base : STab := []
def T_slices_Clone_Sapi_Base_api_Base : TTab := []
def F_slices_Clone_Sapi_Base_api_Base : Fn := { np := 1, bs := [], main := M_slices_Clone_Sapi_Base_api_Base, lps := [] }
def J_facts_Func_off_0 (x : List D) : Sh :=
 .ask (eqI (vI (gD (eX (gD x 0) 3) (Int.toNat (D.toI (gD x 1)))) 0) 19)
 (.ask (within 0 (nX (gD (eX (gD x 0) 3) (Int.toNat (D.toI (gD x 1)))) 5))
 (.call facts_Func_off [.l [.l (eX (gD x 0) 0), .l (eX (gD x 0) 1), .l (eX (gD x 0) 2), .l (eX (gD x 0) 3)], .i (D.toI (gD (eX (gD (eX (gD x 0) 3) (Int.toNat (D.toI (gD x 1)))) 5) 0))] 1 fun r0 q0 =>
 .ask (within 1 (nX (gD (eX (gD x 0) 3) (Int.toNat (D.toI (gD x 1)))) 5))
 (.call facts_Func_Num [.l [.l (eX (gD q0 0) 0), .l (eX (gD q0 0) 1), .l (eX (gD q0 0) 2), .l (eX (gD q0 0) 3)], .i (D.toI (gD (eX (gD (eX (gD x 0) 3) (Int.toNat (D.toI (gD x 1)))) 5) 1))] 0 fun r1 _ =>
 .ask ((eqI (vI r0 0) 1) && (vB r1 1))
 (.ask (within (D.toI (gD x 1)) (nX (gD q0 0) 2))
 (let z0 := List.set (eX (gD q0 0) 2) (Int.toNat (D.toI (gD x 1))) (D.l (setPad (D.els (gD (eX (gD q0 0) 2) (Int.toNat (D.toI (gD x 1))))) 0 (D.i 1))); .ret (D.l [D.i 1, D.i (addA .i64 (vI r0 1) (vI r1 0))]) [D.l [D.l (eX (gD q0 0) 0), D.l (eX (gD q0 0) 1), D.l (List.set z0 (Int.toNat (D.toI (gD x 1))) (D.l (setPad (D.els (gD z0 (Int.toNat (D.toI (gD x 1))))) 1 (D.i (addA .i64 (vI r0 1) (vI r1 0)))))), D.l (eX (gD q0 0) 3)]])
 (.bad))
 (.ask (within (D.toI (gD x 1)) (nX (gD q0 0) 2))
 (let z0 := List.set (eX (gD q0 0) 2) (Int.toNat (D.toI (gD x 1))) (D.l (setPad (D.els (gD (eX (gD q0 0) 2) (Int.toNat (D.toI (gD x 1))))) 0 (D.i 2))); .ret (D.l [D.i 2, D.i 0]) [D.l [D.l (eX (gD q0 0) 0), D.l (eX (gD q0 0) 1), D.l (List.set z0 (Int.toNat (D.toI (gD x 1))) (D.l (setPad (D.els (gD z0 (Int.toNat (D.toI (gD x 1))))) 1 (D.i 0)))), D.l (eX (gD q0 0) 3)]])
 (.bad)))
 (.bad))
 (.bad))
 (.ask (within (D.toI (gD x 1)) (nX (gD x 0) 2))
 (let z0 := List.set (eX (gD x 0) 2) (Int.toNat (D.toI (gD x 1))) (D.l (setPad (D.els (gD (eX (gD x 0) 2) (Int.toNat (D.toI (gD x 1))))) 0 (D.i 2))); .ret (D.l [D.i 2, D.i 0]) [D.l [D.l (eX (gD x 0) 0), D.l (eX (gD x 0) 1), D.l (List.set z0 (Int.toNat (D.toI (gD x 1))) (D.l (setPad (D.els (gD z0 (Int.toNat (D.toI (gD x 1))))) 1 (D.i 0)))), D.l (eX (gD x 0) 3)]])
 (.bad))
def J_facts_Func_off_1 (x : List D) : Sh :=
 .ask (within (D.toI (gD x 1)) (nX (gD x 0) 2))
 (let z0 := List.set (eX (gD x 0) 2) (Int.toNat (D.toI (gD x 1))) (D.l (setPad (D.els (gD (eX (gD x 0) 2) (Int.toNat (D.toI (gD x 1))))) 0 (D.i 1))); .ret (D.l [D.i 1, D.i 0]) [D.l [D.l (eX (gD x 0) 0), D.l (eX (gD x 0) 1), D.l (List.set z0 (Int.toNat (D.toI (gD x 1))) (D.l (setPad (D.els (gD z0 (Int.toNat (D.toI (gD x 1))))) 1 (D.i 0)))), D.l (eX (gD x 0) 3)]])
 (.bad)
def M_facts_Func_off (x : List D) : Sh :=
 .ask (within (D.toI (gD x 1)) (nX (gD x 0) 0))
 (.ask ((!(!(!(eqI (D.toI (gD (eX (gD x 0) 0) (Int.toNat (D.toI (gD x 1))))) 3)))) || (within (D.toI (gD x 1)) (nX (gD x 0) 2)))
 (.ask ((!(eqI (D.toI (gD (eX (gD x 0) 0) (Int.toNat (D.toI (gD x 1))))) 3)) || (!(eqI (vI (gD (eX (gD x 0) 2) (Int.toNat (D.toI (gD x 1)))) 0) 0)))
 (.ask (within (D.toI (gD x 1)) (nX (gD x 0) 2))
 (.ret (.l [.i (vI (gD (eX (gD x 0) 2) (Int.toNat (D.toI (gD x 1)))) 0), .i (vI (gD (eX (gD x 0) 2) (Int.toNat (D.toI (gD x 1)))) 1)]) [.l [.l (eX (gD x 0) 0), .l (eX (gD x 0) 1), .l (eX (gD x 0) 2), .l (eX (gD x 0) 3)]])
 (.bad))
 (.ask (within (D.toI (gD x 1)) (nX (gD x 0) 3))
 (.ask (eqI (vI (gD (eX (gD x 0) 3) (Int.toNat (D.toI (gD x 1)))) 0) 18)
 (.ask (eqI (vI (gD (eX (gD x 0) 3) (Int.toNat (D.toI (gD x 1)))) 0) 18)
 (J_facts_Func_off_1 x)
 (J_facts_Func_off_0 x))
 (.ask (eqI (vI (gD (eX (gD x 0) 3) (Int.toNat (D.toI (gD x 1)))) 0) 3)
 (J_facts_Func_off_1 x)
 (J_facts_Func_off_0 x)))
 (.bad)))
 (.bad))
 (.bad)
def S_facts_Func_off : STab := []
def T_facts_Func_off : TTab := []
def F_facts_Func_off : Fn := { np := 2, bs := [], main := M_facts_Func_off, lps := [] }
def M_facts_Facts_At (x : List D) : Sh :=
 .ask (eqI (vI (gD x 2) 0) 22)
 (.ret (.l [.i (vI (gD x 2) 3)]) [])
 (.ask (eqI (vI (gD x 2) 0) 25)
 (.loop 1 [(gD x 0), .i (D.toI (gD x 1)), .l (eX (gD x 0) 3), .i 0, .i (iX (gD x 0) 3), .i (vI (gD x 2) 0), .i (vI (gD x 2) 1), .i (vI (gD x 2) 2), .i (vI (gD x 2) 3), .i (vI (gD x 2) 4), .l (eX (gD x 2) 5), .l (eX (gD x 2) 6), .l []] (.cons (fun p0 =>
 .ret (aL p0 0) [])
 .nil))
 (.ret (.l []) []))
def J_facts_Facts_At_0 (p : List D) : Sh :=
 .ask (lim ((List.length (gL p 12)) + 1) 8)
 (.again [(gD p 0), aI p 1, aL p 2, .i (addA .i64 (gI p 3) 1), aI p 4, aI p 5, aI p 6, aI p 7, aI p 8, aI p 9, aL p 10, aL p 11, .l ((gL p 12) ++ [aI p 3])])
 (.bad)
def L_facts_Facts_At_1 (p : List D) : Sh :=
 .ask (ltI (gI p 3) (gI p 4))
 (.ask (within (gI p 3) (List.length (gL p 2)))
 (.ask (within (gI p 3) (nX (gD p 0) 4))
 (.ask ((D.toB (gD (eX (gD p 0) 4) (tI p 3))) && true)
 (.call facts_Facts_Fits [(gD p 0), aI p 1, .l [aI p 5, aI p 6, aI p 7, aI p 8, aI p 9, aL p 10, aL p 11], .l [.s (D.toS (D.fld (gD (gL p 2) (tI p 3)) 0)), .b (vB (gD (gL p 2) (tI p 3)) 1), .l (eX (gD (gL p 2) (tI p 3)) 2), .i (vI (gD (gL p 2) (tI p 3)) 3), .l (eX (gD (gL p 2) (tI p 3)) 4)]] 0 fun r0 _ =>
 .ask ((D.toB (gD (eX (gD p 0) 4) (tI p 3))) && (D.toB r0))
 (J_facts_Facts_At_0 p)
 (.again [(gD p 0), aI p 1, aL p 2, .i (addA .i64 (gI p 3) 1), aI p 4, aI p 5, aI p 6, aI p 7, aI p 8, aI p 9, aL p 10, aL p 11, aL p 12]))
 (.ask ((D.toB (gD (eX (gD p 0) 4) (tI p 3))) && (D.toB (.i 0)))
 (J_facts_Facts_At_0 p)
 (.again [(gD p 0), aI p 1, aL p 2, .i (addA .i64 (gI p 3) 1), aI p 4, aI p 5, aI p 6, aI p 7, aI p 8, aI p 9, aL p 10, aL p 11, aL p 12])))
 (.bad))
 (.bad))
 (.out (0, [aL p 12]))
def S_facts_Facts_At : STab := [(1, fun p => ⟨(t2 (.pz [] lt2 (gD p 0) 0) (t2 (nI p 1) (t0 (t2 (.vw 200007 0 []) Z (t1 (fL 43 lt1 p 2))) Z) (t2 (.pb 5 0 0) (t0 Z (t1 (nI p 3))) Z)) (t0 (t0 (t0 Z (t1 (nI p 4))) Z) Z)), [(5, ⟨0, [nI p 5, nI p 6, nI p 7, nI p 8, nI p 9, fL 3 [.int .i64] p 10, fL 3 [.int .i64] p 11], none⟩)], [aR 200007 3 [.int .i64] (gL p 12)], 1⟩)]
def T_facts_Facts_At : TTab := [(1, [fun p => (.exit 1, ⟨(t0 (t0 (t0 (t1 (.vw 200007 0 [])) Z) Z) (t0 Z (t0 Z Z))), [], [aR 200007 3 [.int .i64] (gL p 0)], 1⟩)])]
def F_facts_Facts_At : Fn := { np := 3, bs := [1], main := M_facts_Facts_At, lps := [(1, L_facts_Facts_At_1)] }
def M_slices_Index_Sbool_bool (x : List D) : Sh :=
 .loop 0 [.l (D.els (gD x 0)), .b (D.toB (gD x 1)), .i (iE (gD x 0)), .i 0] (.cons (fun p0 =>
 .ret (aI p0 0) [])
 (.cons (fun p0 =>
 .ret (.i (-1)) [])
 .nil))
def L_slices_Index_Sbool_bool_0 (p : List D) : Sh :=
 .ask (ltI (gI p 3) (gI p 2))
 (.ask (within (gI p 3) (List.length (gL p 0)))
 (.ask (bif (gB p 1) then D.toB (gD (gL p 0) (tI p 3)) else !(D.toB (gD (gL p 0) (tI p 3))))
 (.out (0, [aI p 3]))
 (.again [aL p 0, aB p 1, aI p 2, .i (addA .i64 (gI p 3) 1)]))
 (.bad))
 (.out (1, []))
def S_slices_Index_Sbool_bool : STab := [(0, fun p => ⟨(t2 (fL 4 [.bool] p 0) (t2 (nB p 1) (t0 (t1 (nI p 2)) Z) Z) (t0 (t0 (t1 (nI p 3)) Z) Z)), [], [], 1⟩)]
def T_slices_Index_Sbool_bool : TTab := [(0, [fun p => (.ret, ⟨(t0 Z (t0 (t1 (nI p 0)) Z)), [], [], 1⟩),
  fun p => (.exit 0, ⟨(t0 Z (t0 (t0 Z Z) Z)), [], [], 1⟩)])]
def F_slices_Index_Sbool_bool : Fn := { np := 2, bs := [0], main := M_slices_Index_Sbool_bool, lps := [(0, L_slices_Index_Sbool_bool_0)] }
def M_dom_nearest (x : List D) : Sh :=
 .ask ((leI 0 (iE (gD x 0))) && ((eqI (iE (gD x 0)) (iE (gD x 0))) && (lim (Int.toNat (iE (gD x 0))) 8)))
 (.loop 0 [.l (D.els (gD x 0)), .i 0, .i (iL (List.replicate (nE (gD x 0)) (D.i 0))), .l (List.replicate (nE (gD x 0)) (D.i 0))] (.cons (fun p0 =>
 .ret (aL p0 0) [])
 .nil))
 (.bad)
def L_dom_nearest_0 (p : List D) : Sh :=
 .ask (ltI (gI p 1) (gI p 2))
 (.ask (within (gI p 1) (List.length (gL p 3)))
 (.loop 2 [aL p 0, aI p 1, .i 0, aI p 1, aI p 2, .i (iL (gL p 0)), .l (List.set (gL p 3) (tI p 1) (D.i (-1)))] (.cons (fun p0 =>
 .again [aL p0 0, .i (addA .i64 (gI p0 1) 1), aI p0 2, aL p0 3])
 .nil))
 (.bad))
 (.out (0, [aL p 3]))
def L_dom_nearest_2 (p : List D) : Sh :=
 .ask (ltI (gI p 2) (gI p 5))
 (.ask ((!(!(eqI (gI p 2) (gI p 3)))) || (within (gI p 2) (List.length (gL p 0))))
 (.ask ((!(!(eqI (gI p 2) (gI p 3)))) || (within (gI p 3) (nE (gD (gL p 0) (tI p 2)))))
 (.ask ((eqI (gI p 2) (gI p 3)) || (!(D.toB (gE (gD (gL p 0) (tI p 2)) (tI p 3)))))
 (.again [aL p 0, aI p 1, .i (addA .i64 (gI p 2) 1), aI p 3, aI p 4, aI p 5, aL p 6])
 (.ask (within (gI p 3) (List.length (gL p 6)))
 (.ask ((!(!(ltI (D.toI (gD (gL p 6) (tI p 3))) 0))) || (within (gI p 3) (List.length (gL p 6))))
 (.ask ((!(!(ltI (D.toI (gD (gL p 6) (tI p 3))) 0))) || (within (D.toI (gD (gL p 6) (tI p 3))) (List.length (gL p 0))))
 (.ask ((!(!(ltI (D.toI (gD (gL p 6) (tI p 3))) 0))) || (within (gI p 2) (nE (gD (gL p 0) (Int.toNat (D.toI (gD (gL p 6) (tI p 3))))))))
 (.ask ((ltI (D.toI (gD (gL p 6) (tI p 3))) 0) || (D.toB (gE (gD (gL p 0) (Int.toNat (D.toI (gD (gL p 6) (tI p 3))))) (tI p 2))))
 (.ask (within (gI p 3) (List.length (gL p 6)))
 (.again [aL p 0, aI p 1, .i (addA .i64 (gI p 2) 1), aI p 3, aI p 4, aI p 5, .l (List.set (gL p 6) (tI p 3) (aI p 2))])
 (.bad))
 (.again [aL p 0, aI p 1, .i (addA .i64 (gI p 2) 1), aI p 3, aI p 4, aI p 5, aL p 6]))
 (.bad))
 (.bad))
 (.bad))
 (.bad)))
 (.bad))
 (.bad))
 (.out (0, [aL p 0, aI p 1, aI p 4, aL p 6]))
def S_dom_nearest : STab := [(0, fun p => ⟨(t2 (.fz [] 50 [.sl false 4 [.bool]] (gL p 0)) (t0 (t2 (.vw 8 0 []) Z (t1 (nI p 1))) Z) (t0 Z (t0 (t1 (nI p 2)) Z))), [], [aR 8 3 [.int .i64] (gL p 3)], 1⟩),
 (2, fun p => ⟨(t2 (.fz [] 50 [.sl false 4 [.bool]] (gL p 0)) (t0 (t2 (.vw 8 0 []) Z (t2 (nI p 1) (t1 (nI p 2)) Z)) Z) (t0 (t1 (nI p 3)) (t0 (t2 (nI p 4) (t1 (nI p 5)) Z) Z))), [], [aR 8 3 [.int .i64] (gL p 6)], 1⟩)]
def T_dom_nearest : TTab := [(0, [fun p => (.exit 0, ⟨(t0 (t0 (t1 (.vw 8 0 [])) Z) (t0 Z Z)), [], [aR 8 3 [.int .i64] (gL p 0)], 1⟩)]),
 (2, [fun p => (.exit 2, ⟨(t2 (.fz [] 50 [.sl false 4 [.bool]] (gL p 0)) (t0 (t2 (.vw 8 0 []) Z (t1 (nI p 1))) Z) (t0 Z (t0 (t1 (nI p 2)) Z))), [], [aR 8 3 [.int .i64] (gL p 3)], 1⟩)])]
def F_dom_nearest : Fn := { np := 1, bs := [0, 2], main := M_dom_nearest, lps := [(0, L_dom_nearest_0), (2, L_dom_nearest_2)] }
def M_slices_pdqsortCmpFunc_api_Base (x : List D) : Sh :=
 .loop 0 [.l (D.els (gD x 0)), .i (D.toI (gD x 1)), .i (D.toI (gD x 3)), .b true, .i (D.toI (gD x 2)), .b true] (.cons (fun p0 =>
 .ret (.l []) [])
 .nil)
def L_slices_pdqsortCmpFunc_api_Base_0 (p : List D) : Sh :=
 .ask (leI (wrapA .i64 ((gI p 4) - (gI p 1))) 12)
 (.call slices_insertionSortCmpFunc_api_Base [aL p 0, aI p 1, aI p 4, .l []] 0 fun r0 _ =>
 .out (0, []))
 (.ask (eqI (gI p 2) 0)
 (.bad)
 (.ask (!(gB p 5))
 (.bad)
 (.bad)))
def S_slices_pdqsortCmpFunc_api_Base : STab := [(0, fun p => ⟨(t2 (fL 66 [.int .i64, .int .i64] p 0) (t2 (nI p 1) (t2 (nI p 2) Z (t1 (nB p 3))) Z) (t2 (nI p 4) (t1 (.fn 53 [])) (t0 (t1 (nB p 5)) Z))), [], [], 1⟩)]
def T_slices_pdqsortCmpFunc_api_Base : TTab := [(0, [fun p => (.ret, ⟨Z, [], [], 1⟩)])]
def F_slices_pdqsortCmpFunc_api_Base : Fn := { np := 5, bs := [0], main := M_slices_pdqsortCmpFunc_api_Base, lps := [(0, L_slices_pdqsortCmpFunc_api_Base_0)] }
def M_slices_Sort_Sint_int (x : List D) : Sh :=
 .call math_bits_Len [.i (wrapA .u64 (iE (gD x 0)))] 0 fun r0 _ =>
 .call slices_pdqsortOrdered_int [.l (D.els (gD x 0)), .i 0, .i (iE (gD x 0)), .i (D.toI r0)] 0 fun r1 _ =>
 .ret (.l []) []
def S_slices_Sort_Sint_int : STab := []
def T_slices_Sort_Sint_int : TTab := []
def F_slices_Sort_Sint_int : Fn := { np := 1, bs := [], main := M_slices_Sort_Sint_int, lps := [] }
def M_dom_without (x : List D) : Sh :=
 .ask ((leI 0 (iE (gD x 0))) && ((eqI (iE (gD x 0)) (iE (gD x 0))) && (lim (Int.toNat (iE (gD x 0))) 1)))
 (.ask (!(eqI (D.toI (gD x 1)) 0))
 (.ask (within 0 (List.length (List.replicate (nE (gD x 0)) (D.b false))))
 (.ask (lim (0 + 1) 8)
 (.loop 0 [.l (D.els (gD x 0)), .i (D.toI (gD x 1)), .l (List.set (List.replicate (nE (gD x 0)) (D.b false)) 0 (D.b true)), .l [.i 0]] (.cons (fun p0 =>
 .ret (aL p0 0) [])
 .nil))
 (.bad))
 (.bad))
 (.loop 0 [.l (D.els (gD x 0)), .i (D.toI (gD x 1)), .l (List.replicate (nE (gD x 0)) (D.b false)), .l []] (.cons (fun p0 =>
 .ret (aL p0 0) [])
 .nil)))
 (.bad)
def L_dom_without_0 (p : List D) : Sh :=
 .ask (ltI 0 (iL (gL p 3)))
 (.ask (within (wrapA .i64 ((iL (gL p 3)) - 1)) (List.length (gL p 3)))
 (.ask (bounds 0 (wrapA .i64 ((iL (gL p 3)) - 1)) (iL (gL p 3)))
 (.ask (within (D.toI (gD (gL p 3) (Int.toNat (wrapA .i64 ((iL (gL p 3)) - 1))))) (List.length (gL p 0)))
 (.loop 2 (let z0 := D.els (gD (gL p 0) (Int.toNat (D.toI (gD (gL p 3) (Int.toNat (wrapA .i64 ((iL (gL p 3)) - 1))))))); [aL p 0, aI p 1, .i 0, .l z0, .i (iL z0), aL p 2, .l (List.drop 0 (List.take (Int.toNat (wrapA .i64 ((iL (gL p 3)) - 1))) (gL p 3)))]) (.cons (fun p0 =>
 .again [aL p0 0, aI p0 1, aL p0 2, aL p0 3])
 .nil))
 (.bad))
 (.bad))
 (.bad))
 (.out (0, [aL p 2]))
def L_dom_without_2 (p : List D) : Sh :=
 .ask (ltI (gI p 2) (gI p 4))
 (.ask (within (gI p 2) (List.length (gL p 3)))
 (.ask ((!((!(eqI (D.toI (gD (gL p 3) (tI p 2))) (gI p 1))) && true)) || (within (D.toI (gD (gL p 3) (tI p 2))) (List.length (gL p 5))))
 (.ask ((!(eqI (D.toI (gD (gL p 3) (tI p 2))) (gI p 1))) && (!(D.toB (gD (gL p 5) (Int.toNat (D.toI (gD (gL p 3) (tI p 2))))))))
 (.ask (within (D.toI (gD (gL p 3) (tI p 2))) (List.length (gL p 5)))
 (.ask (lim ((List.length (gL p 6)) + 1) 8)
 (.again [aL p 0, aI p 1, .i (addA .i64 (gI p 2) 1), aL p 3, aI p 4, .l (List.set (gL p 5) (Int.toNat (D.toI (gD (gL p 3) (tI p 2)))) (D.b true)), .l ((gL p 6) ++ [.i (D.toI (gD (gL p 3) (tI p 2)))])])
 (.bad))
 (.bad))
 (.again [aL p 0, aI p 1, .i (addA .i64 (gI p 2) 1), aL p 3, aI p 4, aL p 5, aL p 6]))
 (.bad))
 (.bad))
 (.out (0, [aL p 0, aI p 1, aL p 5, aL p 6]))
def S_dom_without : STab := [(0, fun p => ⟨(t2 (.fz [] 24 [.sl false 3 [.int .i64]] (gL p 0)) (t2 (nI p 1) Z (t1 (.vw 12 0 []))) (t0 Z (t1 (.vw 200006 0 [])))), [], [aR 12 4 [.bool] (gL p 2), aR 200006 3 [.int .i64] (gL p 3)], 1⟩),
 (2, fun p => ⟨(t2 (.fz [] 24 [.sl false 3 [.int .i64]] (gL p 0)) (t2 (nI p 1) (t0 (t0 Z (t0 (t1 (nI p 2)) Z)) Z) (t2 (.vw 12 0 []) Z (t0 (t0 (t1 (fL 3 [.int .i64] p 3)) Z) Z))) (t0 Z (t2 (.vw 200006 0 []) Z (t0 (t0 (t1 (nI p 4)) Z) Z)))), [], [aR 12 4 [.bool] (gL p 5), aR 200006 3 [.int .i64] (gL p 6)], 1⟩)]
def T_dom_without : TTab := [(0, [fun p => (.exit 0, ⟨(t0 (t0 Z (t1 (.vw 12 0 []))) (t0 (t0 Z Z) Z)), [], [aR 12 4 [.bool] (gL p 0)], 1⟩)]),
 (2, [fun p => (.exit 2, ⟨(t2 (.fz [] 24 [.sl false 3 [.int .i64]] (gL p 0)) (t2 (nI p 1) Z (t1 (.vw 12 0 []))) (t0 (t0 Z Z) (t1 (.vw 200006 0 [])))), [], [aR 12 4 [.bool] (gL p 2), aR 200006 3 [.int .i64] (gL p 3)], 1⟩)])]
def F_dom_without : Fn := { np := 2, bs := [0, 2], main := M_dom_without, lps := [(0, L_dom_without_0), (2, L_dom_without_2)] }
def M_slices_pdqsortOrdered_int (x : List D) : Sh :=
 .loop 0 [.l (D.els (gD x 0)), .i (D.toI (gD x 1)), .i (D.toI (gD x 3)), .b true, .i (D.toI (gD x 2)), .b true] (.cons (fun p0 =>
 .ret (.l []) [])
 .nil)
def J_slices_pdqsortOrdered_int_0 (p : List D) (r1 : D) : Sh :=
 .call slices_partitionOrdered_int [aL p 0, aI p 1, aI p 4, .i (wrapA .i64 ((wrapA .i64 ((gI p 4) - 1)) - (wrapA .i64 ((vI r1 0) - (gI p 1)))))] 0 fun r4 _ =>
 .ask (!(eqI 8 0))
 (.ask (ltI (wrapA .i64 ((vI r4 0) - (gI p 1))) (wrapA .i64 ((gI p 4) - (vI r4 0))))
 (.call slices_pdqsortOrdered_int [aL p 0, aI p 1, .i (vI r4 0), .i (wrapA .i64 ((gI p 2) - 1))] 0 fun r5 _ =>
 .again [aL p 0, .i (addA .i64 (vI r4 0) 1), .i (wrapA .i64 ((gI p 2) - 1)), .b (vB r4 1), aI p 4, .b (leI (wrapA .i64 (Int.tdiv (wrapA .i64 ((gI p 4) - (gI p 1))) 8)) (wrapA .i64 ((vI r4 0) - (gI p 1))))])
 (.call slices_pdqsortOrdered_int [aL p 0, .i (addA .i64 (vI r4 0) 1), aI p 4, .i (wrapA .i64 ((gI p 2) - 1))] 0 fun r5 _ =>
 .again [aL p 0, aI p 1, .i (wrapA .i64 ((gI p 2) - 1)), .b (vB r4 1), .i (vI r4 0), .b (leI (wrapA .i64 (Int.tdiv (wrapA .i64 ((gI p 4) - (gI p 1))) 8)) (wrapA .i64 ((gI p 4) - (vI r4 0))))]))
 (.bad)
def J_slices_pdqsortOrdered_int_1 (p : List D) (r1 : D) : Sh :=
 .call slices_partitionOrdered_int [aL p 0, aI p 1, aI p 4, .i (vI r1 0)] 0 fun r3 _ =>
 .ask (!(eqI 8 0))
 (.ask (ltI (wrapA .i64 ((vI r3 0) - (gI p 1))) (wrapA .i64 ((gI p 4) - (vI r3 0))))
 (.call slices_pdqsortOrdered_int [aL p 0, aI p 1, .i (vI r3 0), .i (wrapA .i64 ((gI p 2) - 1))] 0 fun r4 _ =>
 .again [aL p 0, .i (addA .i64 (vI r3 0) 1), .i (wrapA .i64 ((gI p 2) - 1)), .b (vB r3 1), aI p 4, .b (leI (wrapA .i64 (Int.tdiv (wrapA .i64 ((gI p 4) - (gI p 1))) 8)) (wrapA .i64 ((vI r3 0) - (gI p 1))))])
 (.call slices_pdqsortOrdered_int [aL p 0, .i (addA .i64 (vI r3 0) 1), aI p 4, .i (wrapA .i64 ((gI p 2) - 1))] 0 fun r4 _ =>
 .again [aL p 0, aI p 1, .i (wrapA .i64 ((gI p 2) - 1)), .b (vB r3 1), .i (vI r3 0), .b (leI (wrapA .i64 (Int.tdiv (wrapA .i64 ((gI p 4) - (gI p 1))) 8)) (wrapA .i64 ((gI p 4) - (vI r3 0))))]))
 (.bad)
def J_slices_pdqsortOrdered_int_2 (p : List D) (r0 : D) : Sh :=
 .call slices_partitionOrdered_int [aL p 0, aI p 1, aI p 4, .i (wrapA .i64 ((wrapA .i64 ((gI p 4) - 1)) - (wrapA .i64 ((vI r0 0) - (gI p 1)))))] 0 fun r3 _ =>
 .ask (!(eqI 8 0))
 (.ask (ltI (wrapA .i64 ((vI r3 0) - (gI p 1))) (wrapA .i64 ((gI p 4) - (vI r3 0))))
 (.call slices_pdqsortOrdered_int [aL p 0, aI p 1, .i (vI r3 0), aI p 2] 0 fun r4 _ =>
 .again [aL p 0, .i (addA .i64 (vI r3 0) 1), aI p 2, .b (vB r3 1), aI p 4, .b (leI (wrapA .i64 (Int.tdiv (wrapA .i64 ((gI p 4) - (gI p 1))) 8)) (wrapA .i64 ((vI r3 0) - (gI p 1))))])
 (.call slices_pdqsortOrdered_int [aL p 0, .i (addA .i64 (vI r3 0) 1), aI p 4, aI p 2] 0 fun r4 _ =>
 .again [aL p 0, aI p 1, aI p 2, .b (vB r3 1), .i (vI r3 0), .b (leI (wrapA .i64 (Int.tdiv (wrapA .i64 ((gI p 4) - (gI p 1))) 8)) (wrapA .i64 ((gI p 4) - (vI r3 0))))]))
 (.bad)
def J_slices_pdqsortOrdered_int_3 (p : List D) (r0 : D) : Sh :=
 .call slices_partitionOrdered_int [aL p 0, aI p 1, aI p 4, .i (vI r0 0)] 0 fun r2 _ =>
 .ask (!(eqI 8 0))
 (.ask (ltI (wrapA .i64 ((vI r2 0) - (gI p 1))) (wrapA .i64 ((gI p 4) - (vI r2 0))))
 (.call slices_pdqsortOrdered_int [aL p 0, aI p 1, .i (vI r2 0), aI p 2] 0 fun r3 _ =>
 .again [aL p 0, .i (addA .i64 (vI r2 0) 1), aI p 2, .b (vB r2 1), aI p 4, .b (leI (wrapA .i64 (Int.tdiv (wrapA .i64 ((gI p 4) - (gI p 1))) 8)) (wrapA .i64 ((vI r2 0) - (gI p 1))))])
 (.call slices_pdqsortOrdered_int [aL p 0, .i (addA .i64 (vI r2 0) 1), aI p 4, aI p 2] 0 fun r3 _ =>
 .again [aL p 0, aI p 1, aI p 2, .b (vB r2 1), .i (vI r2 0), .b (leI (wrapA .i64 (Int.tdiv (wrapA .i64 ((gI p 4) - (gI p 1))) 8)) (wrapA .i64 ((gI p 4) - (vI r2 0))))]))
 (.bad)
def J_slices_pdqsortOrdered_int_4 (p : List D) (r1 : D) : Sh :=
 .call slices_partitionEqualOrdered_int [aL p 0, aI p 1, aI p 4, .i (wrapA .i64 ((wrapA .i64 ((gI p 4) - 1)) - (wrapA .i64 ((vI r1 0) - (gI p 1)))))] 0 fun r4 _ =>
 .again [aL p 0, .i (D.toI r4), .i (wrapA .i64 ((gI p 2) - 1)), aB p 3, aI p 4, aB p 5]
def J_slices_pdqsortOrdered_int_5 (p : List D) (r0 : D) : Sh :=
 .call slices_partitionEqualOrdered_int [aL p 0, aI p 1, aI p 4, .i (wrapA .i64 ((wrapA .i64 ((gI p 4) - 1)) - (wrapA .i64 ((vI r0 0) - (gI p 1)))))] 0 fun r3 _ =>
 .again [aL p 0, .i (D.toI r3), aI p 2, aB p 3, aI p 4, aB p 5]
def J_slices_pdqsortOrdered_int_6 (p : List D) (r1 : D) : Sh :=
 .call slices_partitionEqualOrdered_int [aL p 0, aI p 1, aI p 4, .i (vI r1 0)] 0 fun r3 _ =>
 .again [aL p 0, .i (D.toI r3), .i (wrapA .i64 ((gI p 2) - 1)), aB p 3, aI p 4, aB p 5]
def J_slices_pdqsortOrdered_int_7 (p : List D) (r0 : D) : Sh :=
 .call slices_partitionEqualOrdered_int [aL p 0, aI p 1, aI p 4, .i (vI r0 0)] 0 fun r2 _ =>
 .again [aL p 0, .i (D.toI r2), aI p 2, aB p 3, aI p 4, aB p 5]
def L_slices_pdqsortOrdered_int_0 (p : List D) : Sh :=
 .ask (leI (wrapA .i64 ((gI p 4) - (gI p 1))) 12)
 (.call slices_insertionSortOrdered_int [aL p 0, aI p 1, aI p 4] 0 fun r0 _ =>
 .out (0, []))
 (.ask (eqI (gI p 2) 0)
 (.call slices_heapSortOrdered_int [aL p 0, aI p 1, aI p 4] 0 fun r0 _ =>
 .out (0, []))
 (.ask (!(gB p 5))
 (.call slices_breakPatternsOrdered_int [aL p 0, aI p 1, aI p 4] 0 fun r0 _ =>
 .call slices_choosePivotOrdered_int [aL p 0, aI p 1, aI p 4] 0 fun r1 _ =>
 .ask (eqI (vI r1 1) 2)
 (.call slices_reverseRangeOrdered_int [aL p 0, aI p 1, aI p 4] 0 fun r2 _ =>
 .ask (((gB p 5) && (gB p 3)) && (eqI 1 1))
 (.call slices_partialInsertionSortOrdered_int [aL p 0, aI p 1, aI p 4] 0 fun r3 _ =>
 .ask (D.toB r3)
 (.out (0, []))
 (.ask ((!((ltI 0 (gI p 1)) && true)) || (within (wrapA .i64 ((gI p 1) - 1)) (List.length (gL p 0))))
 (.ask ((!((ltI 0 (gI p 1)) && true)) || (within (wrapA .i64 ((wrapA .i64 ((gI p 4) - 1)) - (wrapA .i64 ((vI r1 0) - (gI p 1))))) (List.length (gL p 0))))
 (.ask ((ltI 0 (gI p 1)) && true)
 (.call cmp_Less_int [.i (D.toI (gD (gL p 0) (Int.toNat (wrapA .i64 ((gI p 1) - 1))))), .i (D.toI (gD (gL p 0) (Int.toNat (wrapA .i64 ((wrapA .i64 ((gI p 4) - 1)) - (wrapA .i64 ((vI r1 0) - (gI p 1))))))))] 0 fun r4 _ =>
 .ask ((ltI 0 (gI p 1)) && (!(D.toB r4)))
 (.call slices_partitionEqualOrdered_int [aL p 0, aI p 1, aI p 4, .i (wrapA .i64 ((wrapA .i64 ((gI p 4) - 1)) - (wrapA .i64 ((vI r1 0) - (gI p 1)))))] 0 fun r5 _ =>
 .again [aL p 0, .i (D.toI r5), .i (wrapA .i64 ((gI p 2) - 1)), aB p 3, aI p 4, aB p 5])
 (.call slices_partitionOrdered_int [aL p 0, aI p 1, aI p 4, .i (wrapA .i64 ((wrapA .i64 ((gI p 4) - 1)) - (wrapA .i64 ((vI r1 0) - (gI p 1)))))] 0 fun r5 _ =>
 .ask (!(eqI 8 0))
 (.ask (ltI (wrapA .i64 ((vI r5 0) - (gI p 1))) (wrapA .i64 ((gI p 4) - (vI r5 0))))
 (.call slices_pdqsortOrdered_int [aL p 0, aI p 1, .i (vI r5 0), .i (wrapA .i64 ((gI p 2) - 1))] 0 fun r6 _ =>
 .again [aL p 0, .i (addA .i64 (vI r5 0) 1), .i (wrapA .i64 ((gI p 2) - 1)), .b (vB r5 1), aI p 4, .b (leI (wrapA .i64 (Int.tdiv (wrapA .i64 ((gI p 4) - (gI p 1))) 8)) (wrapA .i64 ((vI r5 0) - (gI p 1))))])
 (.call slices_pdqsortOrdered_int [aL p 0, .i (addA .i64 (vI r5 0) 1), aI p 4, .i (wrapA .i64 ((gI p 2) - 1))] 0 fun r6 _ =>
 .again [aL p 0, aI p 1, .i (wrapA .i64 ((gI p 2) - 1)), .b (vB r5 1), .i (vI r5 0), .b (leI (wrapA .i64 (Int.tdiv (wrapA .i64 ((gI p 4) - (gI p 1))) 8)) (wrapA .i64 ((gI p 4) - (vI r5 0))))]))
 (.bad)))
 (.ask ((ltI 0 (gI p 1)) && (!(D.toB (.i 0))))
 (J_slices_pdqsortOrdered_int_4 p r1)
 (J_slices_pdqsortOrdered_int_0 p r1)))
 (.bad))
 (.bad)))
 (.ask ((!((ltI 0 (gI p 1)) && true)) || (within (wrapA .i64 ((gI p 1) - 1)) (List.length (gL p 0))))
 (.ask ((!((ltI 0 (gI p 1)) && true)) || (within (wrapA .i64 ((wrapA .i64 ((gI p 4) - 1)) - (wrapA .i64 ((vI r1 0) - (gI p 1))))) (List.length (gL p 0))))
 (.ask ((ltI 0 (gI p 1)) && true)
 (.call cmp_Less_int [.i (D.toI (gD (gL p 0) (Int.toNat (wrapA .i64 ((gI p 1) - 1))))), .i (D.toI (gD (gL p 0) (Int.toNat (wrapA .i64 ((wrapA .i64 ((gI p 4) - 1)) - (wrapA .i64 ((vI r1 0) - (gI p 1))))))))] 0 fun r3 _ =>
 .ask ((ltI 0 (gI p 1)) && (!(D.toB r3)))
 (J_slices_pdqsortOrdered_int_4 p r1)
 (J_slices_pdqsortOrdered_int_0 p r1))
 (.ask ((ltI 0 (gI p 1)) && (!(D.toB (.i 0))))
 (.call slices_partitionEqualOrdered_int [aL p 0, aI p 1, aI p 4, .i (wrapA .i64 ((wrapA .i64 ((gI p 4) - 1)) - (wrapA .i64 ((vI r1 0) - (gI p 1)))))] 0 fun r3 _ =>
 .again [aL p 0, .i (D.toI r3), .i (wrapA .i64 ((gI p 2) - 1)), aB p 3, aI p 4, aB p 5])
 (.call slices_partitionOrdered_int [aL p 0, aI p 1, aI p 4, .i (wrapA .i64 ((wrapA .i64 ((gI p 4) - 1)) - (wrapA .i64 ((vI r1 0) - (gI p 1)))))] 0 fun r3 _ =>
 .ask (!(eqI 8 0))
 (.ask (ltI (wrapA .i64 ((vI r3 0) - (gI p 1))) (wrapA .i64 ((gI p 4) - (vI r3 0))))
 (.call slices_pdqsortOrdered_int [aL p 0, aI p 1, .i (vI r3 0), .i (wrapA .i64 ((gI p 2) - 1))] 0 fun r4 _ =>
 .again [aL p 0, .i (addA .i64 (vI r3 0) 1), .i (wrapA .i64 ((gI p 2) - 1)), .b (vB r3 1), aI p 4, .b (leI (wrapA .i64 (Int.tdiv (wrapA .i64 ((gI p 4) - (gI p 1))) 8)) (wrapA .i64 ((vI r3 0) - (gI p 1))))])
 (.call slices_pdqsortOrdered_int [aL p 0, .i (addA .i64 (vI r3 0) 1), aI p 4, .i (wrapA .i64 ((gI p 2) - 1))] 0 fun r4 _ =>
 .again [aL p 0, aI p 1, .i (wrapA .i64 ((gI p 2) - 1)), .b (vB r3 1), .i (vI r3 0), .b (leI (wrapA .i64 (Int.tdiv (wrapA .i64 ((gI p 4) - (gI p 1))) 8)) (wrapA .i64 ((gI p 4) - (vI r3 0))))]))
 (.bad))))
 (.bad))
 (.bad)))
 (.ask (((gB p 5) && (gB p 3)) && (eqI (vI r1 1) 1))
 (.call slices_partialInsertionSortOrdered_int [aL p 0, aI p 1, aI p 4] 0 fun r2 _ =>
 .ask (D.toB r2)
 (.out (0, []))
 (.ask ((!((ltI 0 (gI p 1)) && true)) || (within (wrapA .i64 ((gI p 1) - 1)) (List.length (gL p 0))))
 (.ask ((!((ltI 0 (gI p 1)) && true)) || (within (vI r1 0) (List.length (gL p 0))))
 (.ask ((ltI 0 (gI p 1)) && true)
 (.call cmp_Less_int [.i (D.toI (gD (gL p 0) (Int.toNat (wrapA .i64 ((gI p 1) - 1))))), .i (D.toI (gD (gL p 0) (Int.toNat (vI r1 0))))] 0 fun r3 _ =>
 .ask ((ltI 0 (gI p 1)) && (!(D.toB r3)))
 (.call slices_partitionEqualOrdered_int [aL p 0, aI p 1, aI p 4, .i (vI r1 0)] 0 fun r4 _ =>
 .again [aL p 0, .i (D.toI r4), .i (wrapA .i64 ((gI p 2) - 1)), aB p 3, aI p 4, aB p 5])
 (.call slices_partitionOrdered_int [aL p 0, aI p 1, aI p 4, .i (vI r1 0)] 0 fun r4 _ =>
 .ask (!(eqI 8 0))
 (.ask (ltI (wrapA .i64 ((vI r4 0) - (gI p 1))) (wrapA .i64 ((gI p 4) - (vI r4 0))))
 (.call slices_pdqsortOrdered_int [aL p 0, aI p 1, .i (vI r4 0), .i (wrapA .i64 ((gI p 2) - 1))] 0 fun r5 _ =>
 .again [aL p 0, .i (addA .i64 (vI r4 0) 1), .i (wrapA .i64 ((gI p 2) - 1)), .b (vB r4 1), aI p 4, .b (leI (wrapA .i64 (Int.tdiv (wrapA .i64 ((gI p 4) - (gI p 1))) 8)) (wrapA .i64 ((vI r4 0) - (gI p 1))))])
 (.call slices_pdqsortOrdered_int [aL p 0, .i (addA .i64 (vI r4 0) 1), aI p 4, .i (wrapA .i64 ((gI p 2) - 1))] 0 fun r5 _ =>
 .again [aL p 0, aI p 1, .i (wrapA .i64 ((gI p 2) - 1)), .b (vB r4 1), .i (vI r4 0), .b (leI (wrapA .i64 (Int.tdiv (wrapA .i64 ((gI p 4) - (gI p 1))) 8)) (wrapA .i64 ((gI p 4) - (vI r4 0))))]))
 (.bad)))
 (.ask ((ltI 0 (gI p 1)) && (!(D.toB (.i 0))))
 (J_slices_pdqsortOrdered_int_6 p r1)
 (J_slices_pdqsortOrdered_int_1 p r1)))
 (.bad))
 (.bad)))
 (.ask ((!((ltI 0 (gI p 1)) && true)) || (within (wrapA .i64 ((gI p 1) - 1)) (List.length (gL p 0))))
 (.ask ((!((ltI 0 (gI p 1)) && true)) || (within (vI r1 0) (List.length (gL p 0))))
 (.ask ((ltI 0 (gI p 1)) && true)
 (.call cmp_Less_int [.i (D.toI (gD (gL p 0) (Int.toNat (wrapA .i64 ((gI p 1) - 1))))), .i (D.toI (gD (gL p 0) (Int.toNat (vI r1 0))))] 0 fun r2 _ =>
 .ask ((ltI 0 (gI p 1)) && (!(D.toB r2)))
 (J_slices_pdqsortOrdered_int_6 p r1)
 (J_slices_pdqsortOrdered_int_1 p r1))
 (.ask ((ltI 0 (gI p 1)) && (!(D.toB (.i 0))))
 (.call slices_partitionEqualOrdered_int [aL p 0, aI p 1, aI p 4, .i (vI r1 0)] 0 fun r2 _ =>
 .again [aL p 0, .i (D.toI r2), .i (wrapA .i64 ((gI p 2) - 1)), aB p 3, aI p 4, aB p 5])
 (.call slices_partitionOrdered_int [aL p 0, aI p 1, aI p 4, .i (vI r1 0)] 0 fun r2 _ =>
 .ask (!(eqI 8 0))
 (.ask (ltI (wrapA .i64 ((vI r2 0) - (gI p 1))) (wrapA .i64 ((gI p 4) - (vI r2 0))))
 (.call slices_pdqsortOrdered_int [aL p 0, aI p 1, .i (vI r2 0), .i (wrapA .i64 ((gI p 2) - 1))] 0 fun r3 _ =>
 .again [aL p 0, .i (addA .i64 (vI r2 0) 1), .i (wrapA .i64 ((gI p 2) - 1)), .b (vB r2 1), aI p 4, .b (leI (wrapA .i64 (Int.tdiv (wrapA .i64 ((gI p 4) - (gI p 1))) 8)) (wrapA .i64 ((vI r2 0) - (gI p 1))))])
 (.call slices_pdqsortOrdered_int [aL p 0, .i (addA .i64 (vI r2 0) 1), aI p 4, .i (wrapA .i64 ((gI p 2) - 1))] 0 fun r3 _ =>
 .again [aL p 0, aI p 1, .i (wrapA .i64 ((gI p 2) - 1)), .b (vB r2 1), .i (vI r2 0), .b (leI (wrapA .i64 (Int.tdiv (wrapA .i64 ((gI p 4) - (gI p 1))) 8)) (wrapA .i64 ((gI p 4) - (vI r2 0))))]))
 (.bad))))
 (.bad))
 (.bad))))
 (.call slices_choosePivotOrdered_int [aL p 0, aI p 1, aI p 4] 0 fun r0 _ =>
 .ask (eqI (vI r0 1) 2)
 (.call slices_reverseRangeOrdered_int [aL p 0, aI p 1, aI p 4] 0 fun r1 _ =>
 .ask (((gB p 5) && (gB p 3)) && (eqI 1 1))
 (.call slices_partialInsertionSortOrdered_int [aL p 0, aI p 1, aI p 4] 0 fun r2 _ =>
 .ask (D.toB r2)
 (.out (0, []))
 (.ask ((!((ltI 0 (gI p 1)) && true)) || (within (wrapA .i64 ((gI p 1) - 1)) (List.length (gL p 0))))
 (.ask ((!((ltI 0 (gI p 1)) && true)) || (within (wrapA .i64 ((wrapA .i64 ((gI p 4) - 1)) - (wrapA .i64 ((vI r0 0) - (gI p 1))))) (List.length (gL p 0))))
 (.ask ((ltI 0 (gI p 1)) && true)
 (.call cmp_Less_int [.i (D.toI (gD (gL p 0) (Int.toNat (wrapA .i64 ((gI p 1) - 1))))), .i (D.toI (gD (gL p 0) (Int.toNat (wrapA .i64 ((wrapA .i64 ((gI p 4) - 1)) - (wrapA .i64 ((vI r0 0) - (gI p 1))))))))] 0 fun r3 _ =>
 .ask ((ltI 0 (gI p 1)) && (!(D.toB r3)))
 (.call slices_partitionEqualOrdered_int [aL p 0, aI p 1, aI p 4, .i (wrapA .i64 ((wrapA .i64 ((gI p 4) - 1)) - (wrapA .i64 ((vI r0 0) - (gI p 1)))))] 0 fun r4 _ =>
 .again [aL p 0, .i (D.toI r4), aI p 2, aB p 3, aI p 4, aB p 5])
 (.call slices_partitionOrdered_int [aL p 0, aI p 1, aI p 4, .i (wrapA .i64 ((wrapA .i64 ((gI p 4) - 1)) - (wrapA .i64 ((vI r0 0) - (gI p 1)))))] 0 fun r4 _ =>
 .ask (!(eqI 8 0))
 (.ask (ltI (wrapA .i64 ((vI r4 0) - (gI p 1))) (wrapA .i64 ((gI p 4) - (vI r4 0))))
 (.call slices_pdqsortOrdered_int [aL p 0, aI p 1, .i (vI r4 0), aI p 2] 0 fun r5 _ =>
 .again [aL p 0, .i (addA .i64 (vI r4 0) 1), aI p 2, .b (vB r4 1), aI p 4, .b (leI (wrapA .i64 (Int.tdiv (wrapA .i64 ((gI p 4) - (gI p 1))) 8)) (wrapA .i64 ((vI r4 0) - (gI p 1))))])
 (.call slices_pdqsortOrdered_int [aL p 0, .i (addA .i64 (vI r4 0) 1), aI p 4, aI p 2] 0 fun r5 _ =>
 .again [aL p 0, aI p 1, aI p 2, .b (vB r4 1), .i (vI r4 0), .b (leI (wrapA .i64 (Int.tdiv (wrapA .i64 ((gI p 4) - (gI p 1))) 8)) (wrapA .i64 ((gI p 4) - (vI r4 0))))]))
 (.bad)))
 (.ask ((ltI 0 (gI p 1)) && (!(D.toB (.i 0))))
 (J_slices_pdqsortOrdered_int_5 p r0)
 (J_slices_pdqsortOrdered_int_2 p r0)))
 (.bad))
 (.bad)))
 (.ask ((!((ltI 0 (gI p 1)) && true)) || (within (wrapA .i64 ((gI p 1) - 1)) (List.length (gL p 0))))
 (.ask ((!((ltI 0 (gI p 1)) && true)) || (within (wrapA .i64 ((wrapA .i64 ((gI p 4) - 1)) - (wrapA .i64 ((vI r0 0) - (gI p 1))))) (List.length (gL p 0))))
 (.ask ((ltI 0 (gI p 1)) && true)
 (.call cmp_Less_int [.i (D.toI (gD (gL p 0) (Int.toNat (wrapA .i64 ((gI p 1) - 1))))), .i (D.toI (gD (gL p 0) (Int.toNat (wrapA .i64 ((wrapA .i64 ((gI p 4) - 1)) - (wrapA .i64 ((vI r0 0) - (gI p 1))))))))] 0 fun r2 _ =>
 .ask ((ltI 0 (gI p 1)) && (!(D.toB r2)))
 (J_slices_pdqsortOrdered_int_5 p r0)
 (J_slices_pdqsortOrdered_int_2 p r0))
 (.ask ((ltI 0 (gI p 1)) && (!(D.toB (.i 0))))
 (.call slices_partitionEqualOrdered_int [aL p 0, aI p 1, aI p 4, .i (wrapA .i64 ((wrapA .i64 ((gI p 4) - 1)) - (wrapA .i64 ((vI r0 0) - (gI p 1)))))] 0 fun r2 _ =>
 .again [aL p 0, .i (D.toI r2), aI p 2, aB p 3, aI p 4, aB p 5])
 (.call slices_partitionOrdered_int [aL p 0, aI p 1, aI p 4, .i (wrapA .i64 ((wrapA .i64 ((gI p 4) - 1)) - (wrapA .i64 ((vI r0 0) - (gI p 1)))))] 0 fun r2 _ =>
 .ask (!(eqI 8 0))
 (.ask (ltI (wrapA .i64 ((vI r2 0) - (gI p 1))) (wrapA .i64 ((gI p 4) - (vI r2 0))))
 (.call slices_pdqsortOrdered_int [aL p 0, aI p 1, .i (vI r2 0), aI p 2] 0 fun r3 _ =>
 .again [aL p 0, .i (addA .i64 (vI r2 0) 1), aI p 2, .b (vB r2 1), aI p 4, .b (leI (wrapA .i64 (Int.tdiv (wrapA .i64 ((gI p 4) - (gI p 1))) 8)) (wrapA .i64 ((vI r2 0) - (gI p 1))))])
 (.call slices_pdqsortOrdered_int [aL p 0, .i (addA .i64 (vI r2 0) 1), aI p 4, aI p 2] 0 fun r3 _ =>
 .again [aL p 0, aI p 1, aI p 2, .b (vB r2 1), .i (vI r2 0), .b (leI (wrapA .i64 (Int.tdiv (wrapA .i64 ((gI p 4) - (gI p 1))) 8)) (wrapA .i64 ((gI p 4) - (vI r2 0))))]))
 (.bad))))
 (.bad))
 (.bad)))
 (.ask (((gB p 5) && (gB p 3)) && (eqI (vI r0 1) 1))
 (.call slices_partialInsertionSortOrdered_int [aL p 0, aI p 1, aI p 4] 0 fun r1 _ =>
 .ask (D.toB r1)
 (.out (0, []))
 (.ask ((!((ltI 0 (gI p 1)) && true)) || (within (wrapA .i64 ((gI p 1) - 1)) (List.length (gL p 0))))
 (.ask ((!((ltI 0 (gI p 1)) && true)) || (within (vI r0 0) (List.length (gL p 0))))
 (.ask ((ltI 0 (gI p 1)) && true)
 (.call cmp_Less_int [.i (D.toI (gD (gL p 0) (Int.toNat (wrapA .i64 ((gI p 1) - 1))))), .i (D.toI (gD (gL p 0) (Int.toNat (vI r0 0))))] 0 fun r2 _ =>
 .ask ((ltI 0 (gI p 1)) && (!(D.toB r2)))
 (.call slices_partitionEqualOrdered_int [aL p 0, aI p 1, aI p 4, .i (vI r0 0)] 0 fun r3 _ =>
 .again [aL p 0, .i (D.toI r3), aI p 2, aB p 3, aI p 4, aB p 5])
 (.call slices_partitionOrdered_int [aL p 0, aI p 1, aI p 4, .i (vI r0 0)] 0 fun r3 _ =>
 .ask (!(eqI 8 0))
 (.ask (ltI (wrapA .i64 ((vI r3 0) - (gI p 1))) (wrapA .i64 ((gI p 4) - (vI r3 0))))
 (.call slices_pdqsortOrdered_int [aL p 0, aI p 1, .i (vI r3 0), aI p 2] 0 fun r4 _ =>
 .again [aL p 0, .i (addA .i64 (vI r3 0) 1), aI p 2, .b (vB r3 1), aI p 4, .b (leI (wrapA .i64 (Int.tdiv (wrapA .i64 ((gI p 4) - (gI p 1))) 8)) (wrapA .i64 ((vI r3 0) - (gI p 1))))])
 (.call slices_pdqsortOrdered_int [aL p 0, .i (addA .i64 (vI r3 0) 1), aI p 4, aI p 2] 0 fun r4 _ =>
 .again [aL p 0, aI p 1, aI p 2, .b (vB r3 1), .i (vI r3 0), .b (leI (wrapA .i64 (Int.tdiv (wrapA .i64 ((gI p 4) - (gI p 1))) 8)) (wrapA .i64 ((gI p 4) - (vI r3 0))))]))
 (.bad)))
 (.ask ((ltI 0 (gI p 1)) && (!(D.toB (.i 0))))
 (J_slices_pdqsortOrdered_int_7 p r0)
 (J_slices_pdqsortOrdered_int_3 p r0)))
 (.bad))
 (.bad)))
 (.ask ((!((ltI 0 (gI p 1)) && true)) || (within (wrapA .i64 ((gI p 1) - 1)) (List.length (gL p 0))))
 (.ask ((!((ltI 0 (gI p 1)) && true)) || (within (vI r0 0) (List.length (gL p 0))))
 (.ask ((ltI 0 (gI p 1)) && true)
 (.call cmp_Less_int [.i (D.toI (gD (gL p 0) (Int.toNat (wrapA .i64 ((gI p 1) - 1))))), .i (D.toI (gD (gL p 0) (Int.toNat (vI r0 0))))] 0 fun r1 _ =>
 .ask ((ltI 0 (gI p 1)) && (!(D.toB r1)))
 (J_slices_pdqsortOrdered_int_7 p r0)
 (J_slices_pdqsortOrdered_int_3 p r0))
 (.ask ((ltI 0 (gI p 1)) && (!(D.toB (.i 0))))
 (.call slices_partitionEqualOrdered_int [aL p 0, aI p 1, aI p 4, .i (vI r0 0)] 0 fun r1 _ =>
 .again [aL p 0, .i (D.toI r1), aI p 2, aB p 3, aI p 4, aB p 5])
 (.call slices_partitionOrdered_int [aL p 0, aI p 1, aI p 4, .i (vI r0 0)] 0 fun r1 _ =>
 .ask (!(eqI 8 0))
 (.ask (ltI (wrapA .i64 ((vI r1 0) - (gI p 1))) (wrapA .i64 ((gI p 4) - (vI r1 0))))
 (.call slices_pdqsortOrdered_int [aL p 0, aI p 1, .i (vI r1 0), aI p 2] 0 fun r2 _ =>
 .again [aL p 0, .i (addA .i64 (vI r1 0) 1), aI p 2, .b (vB r1 1), aI p 4, .b (leI (wrapA .i64 (Int.tdiv (wrapA .i64 ((gI p 4) - (gI p 1))) 8)) (wrapA .i64 ((vI r1 0) - (gI p 1))))])
 (.call slices_pdqsortOrdered_int [aL p 0, .i (addA .i64 (vI r1 0) 1), aI p 4, aI p 2] 0 fun r2 _ =>
 .again [aL p 0, aI p 1, aI p 2, .b (vB r1 1), .i (vI r1 0), .b (leI (wrapA .i64 (Int.tdiv (wrapA .i64 ((gI p 4) - (gI p 1))) 8)) (wrapA .i64 ((gI p 4) - (vI r1 0))))]))
 (.bad))))
 (.bad))
 (.bad))))))
def S_slices_pdqsortOrdered_int : STab := [(0, fun p => ⟨(t2 (fL 3 [.int .i64] p 0) (t2 (nI p 1) (t1 (nI p 2)) (t0 (t1 (nB p 3)) Z)) (t2 (nI p 4) (t0 (t1 (nB p 5)) Z) Z)), [], [], 1⟩)]
def T_slices_pdqsortOrdered_int : TTab := [(0, [fun p => (.ret, ⟨Z, [], [], 1⟩)])]
def F_slices_pdqsortOrdered_int : Fn := { np := 4, bs := [0], main := M_slices_pdqsortOrdered_int, lps := [(0, L_slices_pdqsortOrdered_int_0)] }
def M_r12_NumOf (x : List D) : Sh :=
 .call r12_Def [.l [.s (D.toS (D.fld (gD x 0) 0)), .b (vB (gD x 0) 1), .l (eX (gD x 0) 2), .i (vI (gD x 0) 3), .l (eX (gD x 0) 4)], .i (D.toI (gD x 1))] 0 fun r0 _ =>
 .ask ((!(!(ltI (vI r0 0) 0))) || (within (vI r0 0) (nX (gD x 0) 4)))
 (.ask ((!(!(ltI (vI r0 0) 0))) || (within (vI r0 1) (nE (gD (eX (gD x 0) 4) (Int.toNat (vI r0 0))))))
 (.ask ((ltI (vI r0 0) 0) || (!(eqI (vI (gE (gD (eX (gD x 0) 4) (Int.toNat (vI r0 0))) (Int.toNat (vI r0 1))) 0) 1)))
 (.ret (.l [.i 0, .b false]) [])
 (.ask (within (vI r0 0) (nX (gD x 0) 4))
 (.ask (within (vI r0 1) (nE (gD (eX (gD x 0) 4) (Int.toNat (vI r0 0)))))
 (.ret (.l [.i (vI (gE (gD (eX (gD x 0) 4) (Int.toNat (vI r0 0))) (Int.toNat (vI r0 1))) 4), .b true]) [])
 (.bad))
 (.bad)))
 (.bad))
 (.bad)
def S_r12_NumOf : STab := []
def T_r12_NumOf : TTab := []
def F_r12_NumOf : Fn := { np := 2, bs := [], main := M_r12_NumOf, lps := [] }
def M_facts_Of (x : List D) : Sh :=
 .ask ((leI 0 (iX (gD x 0) 3)) && ((eqI (iX (gD x 0) 3) (iX (gD x 0) 3)) && (lim (Int.toNat (iX (gD x 0) 3)) 1)))
 (.loop 0 [.l (eX (gD x 0) 2), .i 0, .i (iX (gD x 0) 2), .l (eX (gD x 0) 0), .l (eX (gD x 0) 1), .l (eX (gD x 0) 2), .l (eX (gD x 0) 3), .l (eX (gD x 0) 0), .l (eX (gD x 0) 1), .l (eX (gD x 0) 2), .l (eX (gD x 0) 3), .l (List.replicate (nX (gD x 0) 3) (D.b false))] (.cons (fun p0 =>
 .loop 4 [aL p0 3, .i 0, .i (iL (gL p0 3)), aL p0 4, aL p0 5, aL p0 6, aL p0 7, aL p0 8, .l []] (.cons (fun p1 =>
 .ret (.l [.l [aL p1 0, aL p1 1, aL p1 2, aL p1 3, aL p1 4, aL p1 5]]) [])
 .nil))
 .nil))
 (.bad)
def L_facts_Of_0 (p : List D) : Sh :=
 .ask (ltI (gI p 1) (gI p 2))
 (.ask (within (gI p 1) (List.length (gL p 0)))
 (.loop 2 [.i (iX (gD (gL p 0) (tI p 1)) 1), aL p 0, aI p 1, .i 0, aI p 2, .l (eX (gD (gL p 0) (tI p 1)) 1), aL p 3, aL p 4, aL p 5, aL p 6, aL p 7, aL p 8, aL p 9, aL p 10, aL p 11] (.cons (fun p0 =>
 .again [aL p0 0, .i (addA .i64 (gI p0 1) 1), aI p0 2, aL p0 3, aL p0 4, aL p0 5, aL p0 6, aL p0 7, aL p0 8, aL p0 9, aL p0 10, aL p0 11])
 .nil))
 (.bad))
 (.out (0, [aL p 3, aL p 4, aL p 5, aL p 6, aL p 7, aL p 8, aL p 9, aL p 10, aL p 11]))
def L_facts_Of_2 (p : List D) : Sh :=
 .ask (ltI (gI p 3) (gI p 0))
 (.ask (within (gI p 3) (List.length (gL p 5)))
 (.ask (leI 0 (D.toI (gD (gL p 5) (tI p 3))))
 (.ask (within (D.toI (gD (gL p 5) (tI p 3))) (List.length (gL p 14)))
 (.again [aI p 0, aL p 1, aI p 2, .i (addA .i64 (gI p 3) 1), aI p 4, aL p 5, aL p 6, aL p 7, aL p 8, aL p 9, aL p 10, aL p 11, aL p 12, aL p 13, .l (List.set (gL p 14) (Int.toNat (D.toI (gD (gL p 5) (tI p 3)))) (D.b true))])
 (.bad))
 (.again [aI p 0, aL p 1, aI p 2, .i (addA .i64 (gI p 3) 1), aI p 4, aL p 5, aL p 6, aL p 7, aL p 8, aL p 9, aL p 10, aL p 11, aL p 12, aL p 13, aL p 14]))
 (.bad))
 (.out (0, [aL p 1, aI p 2, aI p 4, aL p 6, aL p 7, aL p 8, aL p 9, aL p 10, aL p 11, aL p 12, aL p 13, aL p 14]))
def L_facts_Of_4 (p : List D) : Sh :=
 .ask (ltI (gI p 1) (gI p 2))
 (.ask (within (gI p 1) (List.length (gL p 0)))
 (.call ir_Types [.l [.s (D.toS (D.fld (gD (gL p 0) (tI p 1)) 0)), .b (vB (gD (gL p 0) (tI p 1)) 1), .l (eX (gD (gL p 0) (tI p 1)) 2), .i (vI (gD (gL p 0) (tI p 1)) 3), .l (eX (gD (gL p 0) (tI p 1)) 4)]] 0 fun r0 _ =>
 .ask ((leI 0 (iE r0)) && ((eqI (iE r0) (iE r0)) && (lim (Int.toNat (iE r0)) 88)))
 (.loop 6 [.i (iX (gD (gL p 0) (tI p 1)) 4), aL p 0, aI p 1, .i 0, aI p 2, .l (eX (gD (gL p 0) (tI p 1)) 4), .s (D.toS (D.fld (gD (gL p 0) (tI p 1)) 0)), .b (vB (gD (gL p 0) (tI p 1)) 1), .l (eX (gD (gL p 0) (tI p 1)) 2), .i (vI (gD (gL p 0) (tI p 1)) 3), .l (eX (gD (gL p 0) (tI p 1)) 4), aL p 3, aL p 4, aL p 5, aL p 6, aL p 7, .l (List.replicate (nE r0) (D.l [.i 0, .i 0, .i 0, .i 0, .i 0, .l [], .l []])), aL p 8, .l (D.els r0)] (.cons (fun p1 =>
 .call facts_Func_bases [.l [aL p1 15, .l [], .l [], aL p1 13], .l [aS p1 3, aB p1 4, aL p1 5, aI p1 6, aL p1 7]] 1 fun r2 q2 =>
 .call facts_Func_offs [.l [.l (eX (gD q2 0) 0), .l (eX (gD q2 0) 1), .l (eX (gD q2 0) 2), .l (eX (gD q2 0) 3)]] 1 fun r3 q3 =>
 .ask (lim ((List.length (gL p1 14)) + 1) 96)
 (.again [aL p1 0, .i (addA .i64 (gI p1 1) 1), aI p1 2, aL p1 8, aL p1 9, aL p1 10, aL p1 11, aL p1 12, .l ((gL p1 14) ++ [.l [.l (eX (gD q3 0) 0), .l (eX (gD q3 0) 1), .l (eX (gD q3 0) 2), .l (eX (gD q3 0) 3)]])])
 (.bad))
 .nil))
 (.bad))
 (.bad))
 (.out (0, [aL p 3, aL p 4, aL p 5, aL p 6, aL p 7, aL p 8]))
def L_facts_Of_6 (p : List D) : Sh :=
 .ask (ltI (gI p 3) (gI p 0))
 (.ask (within (gI p 3) (List.length (gL p 5)))
 (.loop 8 [aI p 0, aL p 1, .i 0, aI p 2, .l (D.els (gD (gL p 5) (tI p 3))), aI p 3, aI p 4, .i (iE (gD (gL p 5) (tI p 3))), aL p 5, aS p 6, aB p 7, aL p 8, aI p 9, aL p 10, aL p 11, aL p 12, aL p 13, aL p 14, aL p 15, aL p 16, aL p 17, aL p 18] (.cons (fun p0 =>
 .again [aI p0 0, aL p0 1, aI p0 2, .i (addA .i64 (gI p0 3) 1), aI p0 4, aL p0 5, aS p0 6, aB p0 7, aL p0 8, aI p0 9, aL p0 10, aL p0 11, aL p0 12, aL p0 13, aL p0 14, aL p0 15, aL p0 16, aL p0 17, aL p0 18])
 .nil))
 (.bad))
 (.out (0, [aL p 1, aI p 2, aI p 4, aS p 6, aB p 7, aL p 8, aI p 9, aL p 10, aL p 11, aL p 12, aL p 13, aL p 14, aL p 15, aL p 16, aL p 17, aL p 18]))
def L_facts_Of_8 (p : List D) : Sh :=
 .ask (ltI (gI p 2) (gI p 7))
 (.ask (within (gI p 2) (List.length (gL p 4)))
 (.ask (eqI (vI (gD (gL p 4) (tI p 2)) 0) 2)
 (.ask (within (vI (gD (gL p 4) (tI p 2)) 3) (List.length (gL p 18)))
 (.ask (!(eqI (vI (gD (gL p 4) (tI p 2)) 1) 0))
 (.ask (within (vI (gD (gL p 4) (tI p 2)) 2) (List.length (gL p 19)))
 (.again (let z0 := List.set (gL p 19) (Int.toNat (vI (gD (gL p 4) (tI p 2)) 2)) (D.l (setPad (D.els (gD (gL p 19) (Int.toNat (vI (gD (gL p 4) (tI p 2)) 2)))) 0 (D.i (vI (gD (gL p 4) (tI p 2)) 0)))); let z1 := List.set z0 (Int.toNat (vI (gD (gL p 4) (tI p 2)) 2)) (D.l (setPad (D.els (gD z0 (Int.toNat (vI (gD (gL p 4) (tI p 2)) 2)))) 1 (D.i (vI (gD (gL p 4) (tI p 2)) 1)))); let z2 := List.set z1 (Int.toNat (vI (gD (gL p 4) (tI p 2)) 2)) (D.l (setPad (D.els (gD z1 (Int.toNat (vI (gD (gL p 4) (tI p 2)) 2)))) 2 (D.i (vI (gD (gL p 4) (tI p 2)) 2)))); let z3 := List.set z2 (Int.toNat (vI (gD (gL p 4) (tI p 2)) 2)) (D.l (setPad (D.els (gD z2 (Int.toNat (vI (gD (gL p 4) (tI p 2)) 2)))) 3 (D.i (vI (gD (gL p 4) (tI p 2)) 3)))); let z4 := List.set z3 (Int.toNat (vI (gD (gL p 4) (tI p 2)) 2)) (D.l (setPad (D.els (gD z3 (Int.toNat (vI (gD (gL p 4) (tI p 2)) 2)))) 4 (D.i (vI (gD (gL p 4) (tI p 2)) 4)))); let z5 := List.set z4 (Int.toNat (vI (gD (gL p 4) (tI p 2)) 2)) (D.l (setPad (D.els (gD z4 (Int.toNat (vI (gD (gL p 4) (tI p 2)) 2)))) 5 (D.l (eX (gD (gL p 4) (tI p 2)) 5)))); [aI p 0, aL p 1, .i (addA .i64 (gI p 2) 1), aI p 3, aL p 4, aI p 5, aI p 6, aI p 7, aL p 8, aS p 9, aB p 10, aL p 11, aI p 12, aL p 13, aL p 14, aL p 15, aL p 16, aL p 17, .l (List.set (gL p 18) (Int.toNat (vI (gD (gL p 4) (tI p 2)) 3)) (D.b true)), .l (List.set z5 (Int.toNat (vI (gD (gL p 4) (tI p 2)) 2)) (D.l (setPad (D.els (gD z5 (Int.toNat (vI (gD (gL p 4) (tI p 2)) 2)))) 6 (D.l (eX (gD (gL p 4) (tI p 2)) 6))))), aL p 20, aL p 21]))
 (.bad))
 (.again [aI p 0, aL p 1, .i (addA .i64 (gI p 2) 1), aI p 3, aL p 4, aI p 5, aI p 6, aI p 7, aL p 8, aS p 9, aB p 10, aL p 11, aI p 12, aL p 13, aL p 14, aL p 15, aL p 16, aL p 17, .l (List.set (gL p 18) (Int.toNat (vI (gD (gL p 4) (tI p 2)) 3)) (D.b true)), aL p 19, aL p 20, aL p 21]))
 (.bad))
 (.ask (!(eqI (vI (gD (gL p 4) (tI p 2)) 1) 0))
 (.ask (within (vI (gD (gL p 4) (tI p 2)) 2) (List.length (gL p 19)))
 (.again (let z0 := List.set (gL p 19) (Int.toNat (vI (gD (gL p 4) (tI p 2)) 2)) (D.l (setPad (D.els (gD (gL p 19) (Int.toNat (vI (gD (gL p 4) (tI p 2)) 2)))) 0 (D.i (vI (gD (gL p 4) (tI p 2)) 0)))); let z1 := List.set z0 (Int.toNat (vI (gD (gL p 4) (tI p 2)) 2)) (D.l (setPad (D.els (gD z0 (Int.toNat (vI (gD (gL p 4) (tI p 2)) 2)))) 1 (D.i (vI (gD (gL p 4) (tI p 2)) 1)))); let z2 := List.set z1 (Int.toNat (vI (gD (gL p 4) (tI p 2)) 2)) (D.l (setPad (D.els (gD z1 (Int.toNat (vI (gD (gL p 4) (tI p 2)) 2)))) 2 (D.i (vI (gD (gL p 4) (tI p 2)) 2)))); let z3 := List.set z2 (Int.toNat (vI (gD (gL p 4) (tI p 2)) 2)) (D.l (setPad (D.els (gD z2 (Int.toNat (vI (gD (gL p 4) (tI p 2)) 2)))) 3 (D.i (vI (gD (gL p 4) (tI p 2)) 3)))); let z4 := List.set z3 (Int.toNat (vI (gD (gL p 4) (tI p 2)) 2)) (D.l (setPad (D.els (gD z3 (Int.toNat (vI (gD (gL p 4) (tI p 2)) 2)))) 4 (D.i (vI (gD (gL p 4) (tI p 2)) 4)))); let z5 := List.set z4 (Int.toNat (vI (gD (gL p 4) (tI p 2)) 2)) (D.l (setPad (D.els (gD z4 (Int.toNat (vI (gD (gL p 4) (tI p 2)) 2)))) 5 (D.l (eX (gD (gL p 4) (tI p 2)) 5)))); [aI p 0, aL p 1, .i (addA .i64 (gI p 2) 1), aI p 3, aL p 4, aI p 5, aI p 6, aI p 7, aL p 8, aS p 9, aB p 10, aL p 11, aI p 12, aL p 13, aL p 14, aL p 15, aL p 16, aL p 17, aL p 18, .l (List.set z5 (Int.toNat (vI (gD (gL p 4) (tI p 2)) 2)) (D.l (setPad (D.els (gD z5 (Int.toNat (vI (gD (gL p 4) (tI p 2)) 2)))) 6 (D.l (eX (gD (gL p 4) (tI p 2)) 6))))), aL p 20, aL p 21]))
 (.bad))
 (.again [aI p 0, aL p 1, .i (addA .i64 (gI p 2) 1), aI p 3, aL p 4, aI p 5, aI p 6, aI p 7, aL p 8, aS p 9, aB p 10, aL p 11, aI p 12, aL p 13, aL p 14, aL p 15, aL p 16, aL p 17, aL p 18, aL p 19, aL p 20, aL p 21])))
 (.bad))
 (.out (0, [aI p 0, aL p 1, aI p 3, aI p 5, aI p 6, aL p 8, aS p 9, aB p 10, aL p 11, aI p 12, aL p 13, aL p 14, aL p 15, aL p 16, aL p 17, aL p 18, aL p 19, aL p 20, aL p 21]))
def S_facts_Of : STab := [(0, fun p => ⟨(t0 (t2 (.pb 1 0 0) (t2 (.pb 21 0 0) (t0 Z (t1 (.fz [] 84 [.str, .sl false 3 [.int .i64]] (gL p 0)))) Z) (t0 (t0 Z (t1 (nI p 1))) Z)) (t0 (t0 (t0 Z (t1 (nI p 2))) Z) Z)), [(1, ⟨0, [fL 88 lt0 p 3, .fz [] 38 [.str, .sl false 2 [.int .i64]] (gL p 4), .fz [] 84 [.str, .sl false 3 [.int .i64]] (gL p 5), fL 43 lt1 p 6], none⟩), (21, ⟨0, [fL 88 lt0 p 7, .fz [] 38 [.str, .sl false 2 [.int .i64]] (gL p 8), .fz [] 84 [.str, .sl false 3 [.int .i64]] (gL p 9), fL 43 lt1 p 10, .vw 19 0 [], .nils], none⟩)], [aR 19 4 [.bool] (gL p 11)], 1⟩),
 (2, fun p => ⟨(t0 (t2 (.pb 1 0 0) (t2 (.pb 21 0 0) (t0 (t0 (t1 (nI p 0)) Z) (t1 (.fz [] 84 [.str, .sl false 3 [.int .i64]] (gL p 1)))) Z) (t0 (t0 Z (t1 (nI p 2))) Z)) (t0 (t0 (t0 (t0 (t1 (nI p 3)) Z) (t1 (nI p 4))) Z) (t0 Z (t0 Z (t1 (fL 3 [.int .i64] p 5)))))), [(1, ⟨0, [fL 88 lt0 p 6, .fz [] 38 [.str, .sl false 2 [.int .i64]] (gL p 7), .fz [] 84 [.str, .sl false 3 [.int .i64]] (gL p 8), fL 43 lt1 p 9], none⟩), (21, ⟨0, [fL 88 lt0 p 10, .fz [] 38 [.str, .sl false 2 [.int .i64]] (gL p 11), .fz [] 84 [.str, .sl false 3 [.int .i64]] (gL p 12), fL 43 lt1 p 13, .vw 19 0 [], .nils], none⟩)], [aR 19 4 [.bool] (gL p 14)], 1⟩),
 (4, fun p => ⟨(t0 (t0 (t2 (.pb 21 0 0) (t0 (t0 Z (t1 (fL 43 lt1 p 0))) Z) Z) (t0 (t0 (t0 Z (t1 (nI p 1))) Z) Z)) (t0 (t0 (t0 (t0 Z (t1 (nI p 2))) Z) Z) Z)), [(21, ⟨0, [fL 88 lt0 p 3, .fz [] 38 [.str, .sl false 2 [.int .i64]] (gL p 4), .fz [] 84 [.str, .sl false 3 [.int .i64]] (gL p 5), fL 43 lt1 p 6, .vw 19 0 [], .vw 301349 0 []], none⟩)], [aR 19 4 [.bool] (gL p 7), aR 301349 60 lt6 (gL p 8)], 1⟩),
 (6, fun p => ⟨(t0 (t0 (t2 (.pb 21 0 0) (t0 (t0 (t0 (t1 (nI p 0)) Z) (t1 (fL 43 lt1 p 1))) Z) Z) (t0 (t2 (.pb 9 0 0) (t0 Z (t1 (nI p 2))) Z) Z)) (t0 (t0 (t0 (t0 (t0 (t1 (nI p 3)) Z) (t1 (nI p 4))) Z) Z) (t0 (t1 (.pb 10 0 0)) (t0 Z (t0 Z (t1 (fL 40 lt4 p 5))))))), [(9, ⟨0, [.str (gS p 6), nB p 7, fL 3 [.int .i64] p 8, nI p 9, fL 40 lt4 p 10], none⟩), (10, ⟨0, [.vw 55000000 0 [], .nils, .nils, .vw 59 0 []], none⟩), (21, ⟨0, [fL 88 lt0 p 11, .fz [] 38 [.str, .sl false 2 [.int .i64]] (gL p 12), .fz [] 84 [.str, .sl false 3 [.int .i64]] (gL p 13), fL 43 lt1 p 14, .vw 19 0 [], .vw 301349 0 []], none⟩)], [aR 19 4 [.bool] (gL p 15), aR 59 26 lt5 (gL p 16), aR 301349 60 lt6 (gL p 17), aR 55000000 3 [.int .i64] (gL p 18)], 1⟩),
 (8, fun p => ⟨(t0 (t0 (t2 (.pb 21 0 0) (t0 (t0 (t0 (t1 (nI p 0)) Z) (t1 (fL 43 lt1 p 1))) (t0 (t0 (t1 (nI p 2)) Z) Z)) Z) (t0 (t2 (.pb 9 0 0) (t0 Z (t1 (nI p 3))) Z) (t0 (t0 (t0 (t1 (fL 26 lt5 p 4)) Z) Z) Z))) (t0 (t0 (t0 (t0 (t0 (t1 (nI p 5)) Z) (t1 (nI p 6))) Z) Z) (t0 (t1 (.pb 10 0 0)) (t0 (t0 (t0 (t1 (nI p 7)) Z) Z) (t0 Z (t1 (fL 40 lt4 p 8))))))), [(9, ⟨0, [.str (gS p 9), nB p 10, fL 3 [.int .i64] p 11, nI p 12, fL 40 lt4 p 13], none⟩), (10, ⟨0, [.vw 55000000 0 [], .nils, .nils, .vw 59 0 []], none⟩), (21, ⟨0, [fL 88 lt0 p 14, .fz [] 38 [.str, .sl false 2 [.int .i64]] (gL p 15), .fz [] 84 [.str, .sl false 3 [.int .i64]] (gL p 16), fL 43 lt1 p 17, .vw 19 0 [], .vw 301349 0 []], none⟩)], [aR 19 4 [.bool] (gL p 18), aR 59 26 lt5 (gL p 19), aR 301349 60 lt6 (gL p 20), aR 55000000 3 [.int .i64] (gL p 21)], 1⟩)]
def T_facts_Of : TTab := [(0, [fun p => (.exit 0, ⟨(t0 (t2 (.pb 1 0 0) (t1 (.pb 21 0 0)) Z) (t0 Z Z)), [(1, ⟨0, [fL 88 lt0 p 0, .fz [] 38 [.str, .sl false 2 [.int .i64]] (gL p 1), .fz [] 84 [.str, .sl false 3 [.int .i64]] (gL p 2), fL 43 lt1 p 3], none⟩), (21, ⟨0, [fL 88 lt0 p 4, .fz [] 38 [.str, .sl false 2 [.int .i64]] (gL p 5), .fz [] 84 [.str, .sl false 3 [.int .i64]] (gL p 6), fL 43 lt1 p 7, .vw 19 0 [], .nils], none⟩)], [aR 19 4 [.bool] (gL p 8)], 1⟩)]),
 (2, [fun p => (.exit 2, ⟨(t0 (t2 (.pb 1 0 0) (t2 (.pb 21 0 0) (t0 Z (t1 (.fz [] 84 [.str, .sl false 3 [.int .i64]] (gL p 0)))) Z) (t0 (t0 Z (t1 (nI p 1))) Z)) (t0 (t0 (t0 Z (t1 (nI p 2))) Z) Z)), [(1, ⟨0, [fL 88 lt0 p 3, .fz [] 38 [.str, .sl false 2 [.int .i64]] (gL p 4), .fz [] 84 [.str, .sl false 3 [.int .i64]] (gL p 5), fL 43 lt1 p 6], none⟩), (21, ⟨0, [fL 88 lt0 p 7, .fz [] 38 [.str, .sl false 2 [.int .i64]] (gL p 8), .fz [] 84 [.str, .sl false 3 [.int .i64]] (gL p 9), fL 43 lt1 p 10, .vw 19 0 [], .nils], none⟩)], [aR 19 4 [.bool] (gL p 11)], 1⟩)]),
 (4, [fun p => (.exit 4, ⟨(t0 (t0 (t1 (.pb 21 0 0)) Z) (t0 Z Z)), [(21, ⟨0, [fL 88 lt0 p 0, .fz [] 38 [.str, .sl false 2 [.int .i64]] (gL p 1), .fz [] 84 [.str, .sl false 3 [.int .i64]] (gL p 2), fL 43 lt1 p 3, .vw 19 0 [], .vw 301349 0 []], none⟩)], [aR 19 4 [.bool] (gL p 4), aR 301349 60 lt6 (gL p 5)], 1⟩)]),
 (6, [fun p => (.exit 6, ⟨(t0 (t0 (t2 (.pb 21 0 0) (t0 (t0 Z (t1 (fL 43 lt1 p 0))) Z) Z) (t0 (t2 (.pb 9 0 0) (t0 Z (t1 (nI p 1))) Z) Z)) (t0 (t0 (t0 (t0 Z (t1 (nI p 2))) Z) Z) (t0 (t1 (.pb 10 0 0)) Z))), [(9, ⟨0, [.str (gS p 3), nB p 4, fL 3 [.int .i64] p 5, nI p 6, fL 40 lt4 p 7], none⟩), (10, ⟨0, [.vw 55000000 0 [], .nils, .nils, .vw 59 0 []], none⟩), (21, ⟨0, [fL 88 lt0 p 8, .fz [] 38 [.str, .sl false 2 [.int .i64]] (gL p 9), .fz [] 84 [.str, .sl false 3 [.int .i64]] (gL p 10), fL 43 lt1 p 11, .vw 19 0 [], .vw 301349 0 []], none⟩)], [aR 19 4 [.bool] (gL p 12), aR 59 26 lt5 (gL p 13), aR 301349 60 lt6 (gL p 14), aR 55000000 3 [.int .i64] (gL p 15)], 1⟩)]),
 (8, [fun p => (.exit 8, ⟨(t0 (t0 (t2 (.pb 21 0 0) (t0 (t0 (t0 (t1 (nI p 0)) Z) (t1 (fL 43 lt1 p 1))) Z) Z) (t0 (t2 (.pb 9 0 0) (t0 Z (t1 (nI p 2))) Z) Z)) (t0 (t0 (t0 (t0 (t0 (t1 (nI p 3)) Z) (t1 (nI p 4))) Z) Z) (t0 (t1 (.pb 10 0 0)) (t0 Z (t0 Z (t1 (fL 40 lt4 p 5))))))), [(9, ⟨0, [.str (gS p 6), nB p 7, fL 3 [.int .i64] p 8, nI p 9, fL 40 lt4 p 10], none⟩), (10, ⟨0, [.vw 55000000 0 [], .nils, .nils, .vw 59 0 []], none⟩), (21, ⟨0, [fL 88 lt0 p 11, .fz [] 38 [.str, .sl false 2 [.int .i64]] (gL p 12), .fz [] 84 [.str, .sl false 3 [.int .i64]] (gL p 13), fL 43 lt1 p 14, .vw 19 0 [], .vw 301349 0 []], none⟩)], [aR 19 4 [.bool] (gL p 15), aR 59 26 lt5 (gL p 16), aR 301349 60 lt6 (gL p 17), aR 55000000 3 [.int .i64] (gL p 18)], 1⟩)])]
def F_facts_Of : Fn := { np := 1, bs := [0, 2, 4, 6, 8], main := M_facts_Of, lps := [(0, L_facts_Of_0), (2, L_facts_Of_2), (4, L_facts_Of_4), (6, L_facts_Of_6), (8, L_facts_Of_8)] }
def M_glob_rest (x : List D) : Sh :=
 .ask ((leI 0 (D.toI (gD x 0))) && ((eqI (D.toI (gD x 0)) (D.toI (gD x 0))) && (lim (Int.toNat (D.toI (gD x 0))) 1)))
 (.loop 0 [.l (D.els (gD x 1)), .i 0, .i (iL (List.replicate (Int.toNat (D.toI (gD x 0))) (D.b false))), .l (List.replicate (Int.toNat (D.toI (gD x 0))) (D.b false))] (.cons (fun p0 =>
 .loop 2 [.i (iL (gL p0 0)), .i 0, aL p0 0, aL p0 1] (.cons (fun p1 =>
 .ret (aL p1 0) [])
 .nil))
 .nil))
 (.bad)
def L_glob_rest_0 (p : List D) : Sh :=
 .ask (ltI (gI p 1) (gI p 2))
 (.ask (within (gI p 1) (List.length (gL p 3)))
 (.again [aL p 0, .i (addA .i64 (gI p 1) 1), aI p 2, .l (List.set (gL p 3) (tI p 1) (D.b true))])
 (.bad))
 (.out (0, [aL p 0, aL p 3]))
def L_glob_rest_2 (p : List D) : Sh :=
 .ask (ltI (gI p 1) (gI p 0))
 (.ask (within (gI p 1) (List.length (gL p 2)))
 (.loop 4 [aI p 0, .i (iE (gD (gL p 2) (tI p 1))), aI p 1, .l (D.els (gD (gL p 2) (tI p 1))), aL p 2, .i 0, aL p 3] (.cons (fun p0 =>
 .again [aI p0 0, .i (addA .i64 (gI p0 1) 1), aL p0 2, aL p0 3])
 .nil))
 (.bad))
 (.out (0, [aL p 3]))
def L_glob_rest_4 (p : List D) : Sh :=
 .ask (ltI (gI p 5) (gI p 1))
 (.ask (within (gI p 5) (List.length (gL p 3)))
 (.ask (within (D.toI (gD (gL p 3) (tI p 5))) (List.length (gL p 6)))
 (.again [aI p 0, aI p 1, aI p 2, aL p 3, aL p 4, .i (addA .i64 (gI p 5) 1), .l (List.set (gL p 6) (Int.toNat (D.toI (gD (gL p 3) (tI p 5)))) (D.b false))])
 (.bad))
 (.bad))
 (.out (0, [aI p 0, aI p 2, aL p 4, aL p 6]))
def S_glob_rest : STab := [(0, fun p => ⟨(t0 (t2 (.fz [] 24 [.sl false 3 [.int .i64]] (gL p 0)) (t0 (t0 (t1 (nI p 1)) Z) Z) (t1 (.vw 12 0 []))) (t0 Z (t0 Z (t1 (nI p 2))))), [], [aR 12 4 [.bool] (gL p 3)], 1⟩),
 (2, fun p => ⟨(t0 (t0 (t0 (t0 Z (t1 (nI p 0))) Z) (t1 (.vw 12 0 []))) (t0 (t0 (t0 Z (t1 (nI p 1))) Z) (t0 Z (t0 (t1 (.fz [] 24 [.sl false 3 [.int .i64]] (gL p 2))) Z)))), [], [aR 12 4 [.bool] (gL p 3)], 1⟩),
 (4, fun p => ⟨(t0 (t0 (t0 (t0 Z (t1 (nI p 0))) Z) (t2 (.vw 12 0 []) Z (t0 Z (t1 (nI p 1))))) (t0 (t0 (t0 Z (t1 (nI p 2))) (t0 Z (t1 (fL 3 [.int .i64] p 3)))) (t0 Z (t0 (t1 (.fz [] 24 [.sl false 3 [.int .i64]] (gL p 4))) (t1 (nI p 5)))))), [], [aR 12 4 [.bool] (gL p 6)], 1⟩)]
def T_glob_rest : TTab := [(0, [fun p => (.exit 0, ⟨(t0 (t2 (.fz [] 24 [.sl false 3 [.int .i64]] (gL p 0)) Z (t1 (.vw 12 0 []))) (t0 (t0 Z Z) Z)), [], [aR 12 4 [.bool] (gL p 1)], 1⟩)]),
 (2, [fun p => (.exit 2, ⟨(t0 (t0 Z (t1 (.vw 12 0 []))) (t0 (t0 Z Z) Z)), [], [aR 12 4 [.bool] (gL p 0)], 1⟩)]),
 (4, [fun p => (.exit 4, ⟨(t0 (t0 (t0 (t0 Z (t1 (nI p 0))) Z) (t1 (.vw 12 0 []))) (t0 (t0 (t0 Z (t1 (nI p 1))) Z) (t0 Z (t0 (t1 (.fz [] 24 [.sl false 3 [.int .i64]] (gL p 2))) Z)))), [], [aR 12 4 [.bool] (gL p 3)], 1⟩)])]
def F_glob_rest : Fn := { np := 2, bs := [0, 2, 4], main := M_glob_rest, lps := [(0, L_glob_rest_0), (2, L_glob_rest_2), (4, L_glob_rest_4)] }
def M_wf_known (x : List D) : Sh :=
 .loop 0 [.l (eX (gD x 0) 2), .i 0, .i (iX (gD x 0) 2), .l (eX (gD x 0) 0), .l (eX (gD x 0) 1), .l (eX (gD x 0) 2), .l (eX (gD x 0) 3)] (.cons (fun p0 =>
 .ret (aB p0 0) [])
 (.cons (fun p0 =>
 .loop 4 [.i (iL (gL p0 3)), aL p0 3, .i 0, aL p0 0, aL p0 1, aL p0 2, aL p0 3] (.cons (fun p1 =>
 .ret (aB p1 0) [])
 (.cons (fun p1 =>
 .ret (.b true) [])
 .nil)))
 .nil))
def L_wf_known_0 (p : List D) : Sh :=
 .ask (ltI (gI p 1) (gI p 2))
 (.ask (within (gI p 1) (List.length (gL p 0)))
 (.loop 2 [aL p 0, .i (iX (gD (gL p 0) (tI p 1)) 1), aI p 1, aI p 2, .i 0, .l (eX (gD (gL p 0) (tI p 1)) 1), aL p 3, aL p 4, aL p 5, aL p 6] (.cons (fun p0 =>
 .out (0, [aB p0 2, aL p0 4, aL p0 5, aL p0 6, aL p0 7]))
 (.cons (fun p0 =>
 .again [aL p0 0, .i (addA .i64 (gI p0 1) 1), aI p0 2, aL p0 3, aL p0 4, aL p0 5, aL p0 6])
 .nil)))
 (.bad))
 (.out (1, [aL p 3, aL p 4, aL p 5, aL p 6]))
def L_wf_known_2 (p : List D) : Sh :=
 .ask (ltI (gI p 4) (gI p 1))
 (.ask (within (gI p 4) (List.length (gL p 5)))
 (.ask ((ltI (D.toI (gD (gL p 5) (tI p 4))) (-1)) || (leI (iL (gL p 9)) (D.toI (gD (gL p 5) (tI p 4)))))
 (.out (0, [aL p 0, aI p 2, .b false, aI p 3, aL p 6, aL p 7, aL p 8, aL p 9]))
 (.again [aL p 0, aI p 1, aI p 2, aI p 3, .i (addA .i64 (gI p 4) 1), aL p 5, aL p 6, aL p 7, aL p 8, aL p 9]))
 (.bad))
 (.out (1, [aL p 0, aI p 2, aI p 3, aL p 6, aL p 7, aL p 8, aL p 9]))
def L_wf_known_4 (p : List D) : Sh :=
 .ask (ltI (gI p 2) (gI p 0))
 (.ask (within (gI p 2) (List.length (gL p 1)))
 (.loop 6 [.l (eX (gD (gL p 1) (tI p 2)) 4), .i 0, aI p 0, .i (iX (gD (gL p 1) (tI p 2)) 4), aL p 1, aI p 2, aL p 3, aL p 4, aL p 5, aL p 6] (.cons (fun p0 =>
 .out (0, [aB p0 1]))
 (.cons (fun p0 =>
 .again [aI p0 0, aL p0 1, .i (addA .i64 (gI p0 2) 1), aL p0 3, aL p0 4, aL p0 5, aL p0 6])
 .nil)))
 (.bad))
 (.out (1, []))
def L_wf_known_6 (p : List D) : Sh :=
 .ask (ltI (gI p 1) (gI p 3))
 (.ask (within (gI p 1) (List.length (gL p 0)))
 (.loop 8 [aL p 0, .i (iE (gD (gL p 0) (tI p 1))), aI p 1, aI p 2, aI p 3, aL p 4, .i 0, aI p 5, .l (D.els (gD (gL p 0) (tI p 1))), aL p 6, aL p 7, aL p 8, aL p 9] (.cons (fun p0 =>
 .out (0, [aI p0 2, aB p0 3, aL p0 5, aI p0 6, aL p0 7, aL p0 8, aL p0 9, aL p0 10]))
 (.cons (fun p0 =>
 .again [aL p0 0, .i (addA .i64 (gI p0 1) 1), aI p0 2, aI p0 3, aL p0 4, aI p0 5, aL p0 6, aL p0 7, aL p0 8, aL p0 9])
 .nil)))
 (.bad))
 (.out (1, [aI p 2, aL p 4, aI p 5, aL p 6, aL p 7, aL p 8, aL p 9]))
def J_wf_known_0 (p : List D) : Sh :=
 .ask (eqI (vI (gD (gL p 8) (tI p 6)) 0) 3)
 (.ask ((ltI (vI (gD (gL p 8) (tI p 6)) 3) 0) || (leI (iL (gL p 10)) (vI (gD (gL p 8) (tI p 6)) 3)))
 (.out (0, [aL p 0, aI p 2, aI p 3, .b false, aI p 4, aL p 5, aI p 7, aL p 9, aL p 10, aL p 11, aL p 12]))
 (.again [aL p 0, aI p 1, aI p 2, aI p 3, aI p 4, aL p 5, .i (addA .i64 (gI p 6) 1), aI p 7, aL p 8, aL p 9, aL p 10, aL p 11, aL p 12]))
 (.ask (eqI (vI (gD (gL p 8) (tI p 6)) 0) 23)
 (.ask ((ltI (vI (gD (gL p 8) (tI p 6)) 3) 0) || (leI (iL (gL p 9)) (vI (gD (gL p 8) (tI p 6)) 3)))
 (.out (0, [aL p 0, aI p 2, aI p 3, .b false, aI p 4, aL p 5, aI p 7, aL p 9, aL p 10, aL p 11, aL p 12]))
 (.again [aL p 0, aI p 1, aI p 2, aI p 3, aI p 4, aL p 5, .i (addA .i64 (gI p 6) 1), aI p 7, aL p 8, aL p 9, aL p 10, aL p 11, aL p 12]))
 (.ask (eqI (vI (gD (gL p 8) (tI p 6)) 0) 24)
 (.ask ((ltI (vI (gD (gL p 8) (tI p 6)) 3) 0) || (leI (iL (gL p 11)) (vI (gD (gL p 8) (tI p 6)) 3)))
 (.out (0, [aL p 0, aI p 2, aI p 3, .b false, aI p 4, aL p 5, aI p 7, aL p 9, aL p 10, aL p 11, aL p 12]))
 (.again [aL p 0, aI p 1, aI p 2, aI p 3, aI p 4, aL p 5, .i (addA .i64 (gI p 6) 1), aI p 7, aL p 8, aL p 9, aL p 10, aL p 11, aL p 12]))
 (.ask ((ltI (vI (gD (gL p 8) (tI p 6)) 3) 0) || (leI (addA .i64 (vI (gD (gL p 8) (tI p 6)) 3) 1) (vI (gD (gL p 8) (tI p 6)) 3)))
 (.out (0, [aL p 0, aI p 2, aI p 3, .b false, aI p 4, aL p 5, aI p 7, aL p 9, aL p 10, aL p 11, aL p 12]))
 (.again [aL p 0, aI p 1, aI p 2, aI p 3, aI p 4, aL p 5, .i (addA .i64 (gI p 6) 1), aI p 7, aL p 8, aL p 9, aL p 10, aL p 11, aL p 12]))))
def J_wf_known_1 (p : List D) : Sh :=
 .ask ((ltI (vI (gD (gL p 8) (tI p 6)) 3) 0) || (leI (iL (gL p 12)) (vI (gD (gL p 8) (tI p 6)) 3)))
 (.out (0, [aL p 0, aI p 2, aI p 3, .b false, aI p 4, aL p 5, aI p 7, aL p 9, aL p 10, aL p 11, aL p 12]))
 (.again [aL p 0, aI p 1, aI p 2, aI p 3, aI p 4, aL p 5, .i (addA .i64 (gI p 6) 1), aI p 7, aL p 8, aL p 9, aL p 10, aL p 11, aL p 12])
def L_wf_known_8 (p : List D) : Sh :=
 .ask (ltI (gI p 6) (gI p 1))
 (.ask (within (gI p 6) (List.length (gL p 8)))
 (.ask (eqI (vI (gD (gL p 8) (tI p 6)) 0) 2)
 (.ask (eqI (vI (gD (gL p 8) (tI p 6)) 0) 2)
 (J_wf_known_1 p)
 (J_wf_known_0 p))
 (.ask (eqI (vI (gD (gL p 8) (tI p 6)) 0) 22)
 (J_wf_known_1 p)
 (J_wf_known_0 p)))
 (.bad))
 (.out (1, [aL p 0, aI p 2, aI p 3, aI p 4, aL p 5, aI p 7, aL p 9, aL p 10, aL p 11, aL p 12]))
def S_wf_known : STab := [(0, fun p => ⟨(t0 (t2 (.pb 1 0 0) (t0 (t0 (t1 (.fz [] 84 [.str, .sl false 3 [.int .i64]] (gL p 0))) Z) Z) (t0 (t0 (t1 (nI p 1)) Z) Z)) (t0 (t0 (t0 (t1 (nI p 2)) Z) Z) Z)), [(1, ⟨0, [fL 88 lt0 p 3, .fz [] 38 [.str, .sl false 2 [.int .i64]] (gL p 4), .fz [] 84 [.str, .sl false 3 [.int .i64]] (gL p 5), fL 43 lt1 p 6], none⟩)], [], 1⟩),
 (2, fun p => ⟨(t0 (t2 (.pb 1 0 0) (t0 (t0 (t1 (.fz [] 84 [.str, .sl false 3 [.int .i64]] (gL p 0))) (t1 (nI p 1))) Z) (t0 (t0 (t1 (nI p 2)) Z) Z)) (t0 (t0 (t0 (t1 (nI p 3)) (t1 (nI p 4))) Z) (t0 Z (t0 (t1 (fL 3 [.int .i64] p 5)) Z)))), [(1, ⟨0, [fL 88 lt0 p 6, .fz [] 38 [.str, .sl false 2 [.int .i64]] (gL p 7), .fz [] 84 [.str, .sl false 3 [.int .i64]] (gL p 8), fL 43 lt1 p 9], none⟩)], [], 1⟩),
 (4, fun p => ⟨(t0 (t2 (.pb 1 0 0) Z (t0 (t0 Z (t0 (t1 (nI p 0)) Z)) Z)) (t0 (t0 (t0 Z (t0 (t1 (fL 43 lt1 p 1)) Z)) Z) (t0 (t0 Z (t0 (t1 (nI p 2)) Z)) Z))), [(1, ⟨0, [fL 88 lt0 p 3, .fz [] 38 [.str, .sl false 2 [.int .i64]] (gL p 4), .fz [] 84 [.str, .sl false 3 [.int .i64]] (gL p 5), fL 43 lt1 p 6], none⟩)], [], 1⟩),
 (6, fun p => ⟨(t0 (t2 (.pb 1 0 0) (t0 (t0 (t0 Z (t1 (fL 40 lt4 p 0))) Z) Z) (t0 (t0 (t0 Z (t1 (nI p 1))) (t0 (t1 (nI p 2)) Z)) Z)) (t0 (t0 (t0 (t0 Z (t1 (nI p 3))) (t0 (t1 (fL 43 lt1 p 4)) Z)) Z) (t0 (t0 Z (t0 (t1 (nI p 5)) Z)) Z))), [(1, ⟨0, [fL 88 lt0 p 6, .fz [] 38 [.str, .sl false 2 [.int .i64]] (gL p 7), .fz [] 84 [.str, .sl false 3 [.int .i64]] (gL p 8), fL 43 lt1 p 9], none⟩)], [], 1⟩),
 (8, fun p => ⟨(t0 (t2 (.pb 1 0 0) (t0 (t0 (t0 Z (t1 (fL 40 lt4 p 0))) (t0 Z (t1 (nI p 1)))) Z) (t0 (t0 (t0 Z (t1 (nI p 2))) (t0 (t1 (nI p 3)) Z)) Z)) (t0 (t0 (t0 (t0 Z (t1 (nI p 4))) (t0 (t1 (fL 43 lt1 p 5)) (t1 (nI p 6)))) Z) (t0 (t0 Z (t0 (t1 (nI p 7)) Z)) (t0 (t0 Z (t1 (fL 26 lt5 p 8))) Z)))), [(1, ⟨0, [fL 88 lt0 p 9, .fz [] 38 [.str, .sl false 2 [.int .i64]] (gL p 10), .fz [] 84 [.str, .sl false 3 [.int .i64]] (gL p 11), fL 43 lt1 p 12], none⟩)], [], 1⟩)]
def T_wf_known : TTab := [(0, [fun p => (.ret, ⟨(t0 (t1 (.pb 1 0 0)) (t1 (nB p 0))), [(1, ⟨0, [fL 88 lt0 p 1, .fz [] 38 [.str, .sl false 2 [.int .i64]] (gL p 2), .fz [] 84 [.str, .sl false 3 [.int .i64]] (gL p 3), fL 43 lt1 p 4], none⟩)], [], 1⟩),
  fun p => (.exit 0, ⟨(t0 (t1 (.pb 1 0 0)) (t0 Z Z)), [(1, ⟨0, [fL 88 lt0 p 0, .fz [] 38 [.str, .sl false 2 [.int .i64]] (gL p 1), .fz [] 84 [.str, .sl false 3 [.int .i64]] (gL p 2), fL 43 lt1 p 3], none⟩)], [], 1⟩)]),
 (2, [fun p => (.ret, ⟨(t0 (t2 (.pb 1 0 0) (t0 (t0 (t1 (.fz [] 84 [.str, .sl false 3 [.int .i64]] (gL p 0))) Z) Z) (t0 (t0 (t1 (nI p 1)) Z) Z)) (t2 (nB p 2) (t0 (t0 (t1 (nI p 3)) Z) Z) Z)), [(1, ⟨0, [fL 88 lt0 p 4, .fz [] 38 [.str, .sl false 2 [.int .i64]] (gL p 5), .fz [] 84 [.str, .sl false 3 [.int .i64]] (gL p 6), fL 43 lt1 p 7], none⟩)], [], 1⟩),
  fun p => (.exit 2, ⟨(t0 (t2 (.pb 1 0 0) (t0 (t0 (t1 (.fz [] 84 [.str, .sl false 3 [.int .i64]] (gL p 0))) Z) Z) (t0 (t0 (t1 (nI p 1)) Z) Z)) (t0 (t0 (t0 (t1 (nI p 2)) Z) Z) Z)), [(1, ⟨0, [fL 88 lt0 p 3, .fz [] 38 [.str, .sl false 2 [.int .i64]] (gL p 4), .fz [] 84 [.str, .sl false 3 [.int .i64]] (gL p 5), fL 43 lt1 p 6], none⟩)], [], 1⟩)]),
 (4, [fun p => (.ret, ⟨(t0 Z (t1 (nB p 0))), [], [], 1⟩),
  fun p => (.exit 4, ⟨(t0 Z (t0 Z Z)), [], [], 1⟩)]),
 (6, [fun p => (.ret, ⟨(t0 (t2 (.pb 1 0 0) Z (t0 (t0 Z (t0 (t1 (nI p 0)) Z)) Z)) (t2 (nB p 1) (t0 (t0 Z (t0 (t1 (fL 43 lt1 p 2)) Z)) Z) (t0 (t0 Z (t0 (t1 (nI p 3)) Z)) Z))), [(1, ⟨0, [fL 88 lt0 p 4, .fz [] 38 [.str, .sl false 2 [.int .i64]] (gL p 5), .fz [] 84 [.str, .sl false 3 [.int .i64]] (gL p 6), fL 43 lt1 p 7], none⟩)], [], 1⟩),
  fun p => (.exit 6, ⟨(t0 (t2 (.pb 1 0 0) Z (t0 (t0 Z (t0 (t1 (nI p 0)) Z)) Z)) (t0 (t0 (t0 Z (t0 (t1 (fL 43 lt1 p 1)) Z)) Z) (t0 (t0 Z (t0 (t1 (nI p 2)) Z)) Z))), [(1, ⟨0, [fL 88 lt0 p 3, .fz [] 38 [.str, .sl false 2 [.int .i64]] (gL p 4), .fz [] 84 [.str, .sl false 3 [.int .i64]] (gL p 5), fL 43 lt1 p 6], none⟩)], [], 1⟩)]),
 (8, [fun p => (.ret, ⟨(t0 (t2 (.pb 1 0 0) (t0 (t0 (t0 Z (t1 (fL 40 lt4 p 0))) Z) Z) (t0 (t0 (t0 Z (t1 (nI p 1))) (t0 (t1 (nI p 2)) Z)) Z)) (t2 (nB p 3) (t0 (t0 (t0 Z (t1 (nI p 4))) (t0 (t1 (fL 43 lt1 p 5)) Z)) Z) (t0 (t0 Z (t0 (t1 (nI p 6)) Z)) Z))), [(1, ⟨0, [fL 88 lt0 p 7, .fz [] 38 [.str, .sl false 2 [.int .i64]] (gL p 8), .fz [] 84 [.str, .sl false 3 [.int .i64]] (gL p 9), fL 43 lt1 p 10], none⟩)], [], 1⟩),
  fun p => (.exit 8, ⟨(t0 (t2 (.pb 1 0 0) (t0 (t0 (t0 Z (t1 (fL 40 lt4 p 0))) Z) Z) (t0 (t0 (t0 Z (t1 (nI p 1))) (t0 (t1 (nI p 2)) Z)) Z)) (t0 (t0 (t0 (t0 Z (t1 (nI p 3))) (t0 (t1 (fL 43 lt1 p 4)) Z)) Z) (t0 (t0 Z (t0 (t1 (nI p 5)) Z)) Z))), [(1, ⟨0, [fL 88 lt0 p 6, .fz [] 38 [.str, .sl false 2 [.int .i64]] (gL p 7), .fz [] 84 [.str, .sl false 3 [.int .i64]] (gL p 8), fL 43 lt1 p 9], none⟩)], [], 1⟩)])]
def F_wf_known : Fn := { np := 1, bs := [0, 2, 4, 6, 8], main := M_wf_known, lps := [(0, L_wf_known_0), (2, L_wf_known_2), (4, L_wf_known_4), (6, L_wf_known_6), (8, L_wf_known_8)] }
def M_wf_typed (x : List D) : Sh :=
 .call ir_Types [.l [.s (D.toS (D.fld (gD x 1) 0)), .b (vB (gD x 1) 1), .l (eX (gD x 1) 2), .i (vI (gD x 1) 3), .l (eX (gD x 1) 4)]] 0 fun r0 _ =>
 .loop 0 [.i 0, .l (eX (gD x 1) 4), .i (iX (gD x 1) 4), .l (eX (gD x 0) 0), .l (eX (gD x 0) 1), .l (eX (gD x 0) 2), .l (eX (gD x 0) 3), .s (D.toS (D.fld (gD x 1) 0)), .b (vB (gD x 1) 1), .l (eX (gD x 1) 2), .i (vI (gD x 1) 3), .l (eX (gD x 1) 4), .l (D.els r0)] (.cons (fun p1 =>
 .ret (aB p1 0) [])
 (.cons (fun p1 =>
 .ret (.b true) [])
 .nil))
def L_wf_typed_0 (p : List D) : Sh :=
 .ask (ltI (gI p 0) (gI p 2))
 (.ask (within (gI p 0) (List.length (gL p 1)))
 (.loop 2 [aI p 0, aL p 1, .i (iE (gD (gL p 1) (tI p 0))), .l (D.els (gD (gL p 1) (tI p 0))), aI p 2, .i 0, aL p 3, aL p 4, aL p 5, aL p 6, aS p 7, aB p 8, aL p 9, aI p 10, aL p 11, aL p 12] (.cons (fun p0 =>
 .out (0, [aB p0 2]))
 (.cons (fun p0 =>
 .again [.i (addA .i64 (gI p0 0) 1), aL p0 1, aI p0 2, aL p0 3, aL p0 4, aL p0 5, aL p0 6, aS p0 7, aB p0 8, aL p0 9, aI p0 10, aL p0 11, aL p0 12])
 .nil)))
 (.bad))
 (.out (1, []))
def L_wf_typed_2 (p : List D) : Sh :=
 .ask (ltI (gI p 5) (gI p 2))
 (.ask (within (gI p 5) (List.length (gL p 3)))
 (.call wf_fitting [.l [aL p 6, aL p 7, aL p 8, aL p 9], .l [aS p 10, aB p 11, aL p 12, aI p 13, aL p 14], aL p 15, .l [.i (vI (gD (gL p 3) (tI p 5)) 0), .i (vI (gD (gL p 3) (tI p 5)) 1), .i (vI (gD (gL p 3) (tI p 5)) 2), .i (vI (gD (gL p 3) (tI p 5)) 3), .i (vI (gD (gL p 3) (tI p 5)) 4), .l (eX (gD (gL p 3) (tI p 5)) 5), .l (eX (gD (gL p 3) (tI p 5)) 6)]] 0 fun r0 _ =>
 .ask (!(D.toB r0))
 (.out (0, [aI p 0, aL p 1, .b false, aI p 4, aL p 6, aL p 7, aL p 8, aL p 9, aS p 10, aB p 11, aL p 12, aI p 13, aL p 14, aL p 15]))
 (.again [aI p 0, aL p 1, aI p 2, aL p 3, aI p 4, .i (addA .i64 (gI p 5) 1), aL p 6, aL p 7, aL p 8, aL p 9, aS p 10, aB p 11, aL p 12, aI p 13, aL p 14, aL p 15]))
 (.bad))
 (.out (1, [aI p 0, aL p 1, aI p 4, aL p 6, aL p 7, aL p 8, aL p 9, aS p 10, aB p 11, aL p 12, aI p 13, aL p 14, aL p 15]))
def S_wf_typed : STab := [(0, fun p => ⟨(t0 (t0 (t2 (.pb 3 0 0) (t0 (t1 (nI p 0)) Z) Z) (t2 (.vw 12000000 0 []) Z (t1 (fL 40 lt4 p 1)))) (t2 (.pb 2 0 0) Z (t0 Z (t1 (nI p 2))))), [(2, ⟨0, [fL 88 lt0 p 3, .fz [] 38 [.str, .sl false 2 [.int .i64]] (gL p 4), .fz [] 84 [.str, .sl false 3 [.int .i64]] (gL p 5), fL 43 lt1 p 6], none⟩), (3, ⟨0, [.str (gS p 7), nB p 8, fL 3 [.int .i64] p 9, nI p 10, fL 40 lt4 p 11], none⟩)], [aR 12000000 3 [.int .i64] (gL p 12)], 1⟩),
 (2, fun p => ⟨(t0 (t0 (t2 (.pb 3 0 0) (t0 (t1 (nI p 0)) Z) Z) (t2 (.vw 12000000 0 []) Z (t2 (fL 40 lt4 p 1) (t1 (nI p 2)) Z))) (t2 (.pb 2 0 0) (t0 Z (t0 (t1 (fL 26 lt5 p 3)) Z)) (t0 Z (t2 (nI p 4) (t1 (nI p 5)) Z)))), [(2, ⟨0, [fL 88 lt0 p 6, .fz [] 38 [.str, .sl false 2 [.int .i64]] (gL p 7), .fz [] 84 [.str, .sl false 3 [.int .i64]] (gL p 8), fL 43 lt1 p 9], none⟩), (3, ⟨0, [.str (gS p 10), nB p 11, fL 3 [.int .i64] p 12, nI p 13, fL 40 lt4 p 14], none⟩)], [aR 12000000 3 [.int .i64] (gL p 15)], 1⟩)]
def T_wf_typed : TTab := [(0, [fun p => (.ret, ⟨(t0 Z (t0 (t1 (nB p 0)) Z)), [], [], 1⟩),
  fun p => (.exit 0, ⟨(t0 Z (t0 (t0 Z Z) Z)), [], [], 1⟩)]),
 (2, [fun p => (.ret, ⟨(t0 (t0 (t2 (.pb 3 0 0) (t0 (t1 (nI p 0)) Z) Z) (t2 (.vw 12000000 0 []) Z (t1 (fL 40 lt4 p 1)))) (t2 (.pb 2 0 0) (t1 (nB p 2)) (t0 Z (t1 (nI p 3))))), [(2, ⟨0, [fL 88 lt0 p 4, .fz [] 38 [.str, .sl false 2 [.int .i64]] (gL p 5), .fz [] 84 [.str, .sl false 3 [.int .i64]] (gL p 6), fL 43 lt1 p 7], none⟩), (3, ⟨0, [.str (gS p 8), nB p 9, fL 3 [.int .i64] p 10, nI p 11, fL 40 lt4 p 12], none⟩)], [aR 12000000 3 [.int .i64] (gL p 13)], 1⟩),
  fun p => (.exit 2, ⟨(t0 (t0 (t2 (.pb 3 0 0) (t0 (t1 (nI p 0)) Z) Z) (t2 (.vw 12000000 0 []) Z (t1 (fL 40 lt4 p 1)))) (t2 (.pb 2 0 0) (t0 Z Z) (t0 Z (t1 (nI p 2))))), [(2, ⟨0, [fL 88 lt0 p 3, .fz [] 38 [.str, .sl false 2 [.int .i64]] (gL p 4), .fz [] 84 [.str, .sl false 3 [.int .i64]] (gL p 5), fL 43 lt1 p 6], none⟩), (3, ⟨0, [.str (gS p 7), nB p 8, fL 3 [.int .i64] p 9, nI p 10, fL 40 lt4 p 11], none⟩)], [aR 12000000 3 [.int .i64] (gL p 12)], 1⟩)])]
def F_wf_typed : Fn := { np := 2, bs := [0, 2], main := M_wf_typed, lps := [(0, L_wf_typed_0), (2, L_wf_typed_2)] }
def M_facts_Func_offs (x : List D) : Sh :=
 .ask ((leI 0 (iX (gD x 0) 0)) && ((eqI (iX (gD x 0) 0) (iX (gD x 0) 0)) && (lim (Int.toNat (iX (gD x 0) 0)) 16)))
 (.loop 0 [.i 0, .i (iX (gD x 0) 0), .l (eX (gD x 0) 0), .l (eX (gD x 0) 1), .l (List.replicate (nX (gD x 0) 0) (D.l [.i 0, .i 0])), .l (eX (gD x 0) 3)] (.cons (fun p0 =>
 .ret (.l []) [.l [aL p0 0, aL p0 1, aL p0 2, aL p0 3]])
 .nil))
 (.bad)
def L_facts_Func_offs_0 (p : List D) : Sh :=
 .ask (ltI (gI p 0) (gI p 1))
 (.call facts_Func_off [.l [aL p 2, aL p 3, aL p 4, aL p 5], aI p 0] 1 fun r0 q0 =>
 .again [.i (addA .i64 (gI p 0) 1), aI p 1, .l (eX (gD q0 0) 0), .l (eX (gD q0 0) 1), .l (eX (gD q0 0) 2), .l (eX (gD q0 0) 3)])
 (.out (0, [aL p 2, aL p 3, aL p 4, aL p 5]))
def S_facts_Func_offs : STab := [(0, fun p => ⟨(t2 (.pb 500 0 0) (t0 Z (t0 (t0 (t1 (nI p 0)) Z) Z)) (t0 (t0 (t0 (t1 (nI p 1)) Z) Z) Z)), [(500, ⟨0, [.vw 332000 0 [], .vw 332001 0 [], .vw 332002 0 [], .vw 332003 0 []], none⟩)], [aR 332000 3 [.int .i64] (gL p 2), (332001, ⟨67, [.sl true 66 [.int .i64, .int .i64]], (gL p 3), [], 0, [0, 0, 0, 0], 0⟩), aR 332002 70 [.int .i64, .int .i64] (gL p 4), aR 332003 26 lt5 (gL p 5)], 1⟩)]
def T_facts_Func_offs : TTab := [(0, [fun p => (.exit 0, ⟨(t1 (.pb 500 0 0)), [(500, ⟨0, [.vw 332000 0 [], .vw 332001 0 [], .vw 332002 0 [], .vw 332003 0 []], none⟩)], [aR 332000 3 [.int .i64] (gL p 0), (332001, ⟨67, [.sl true 66 [.int .i64, .int .i64]], (gL p 1), [], 0, [0, 0, 0, 0], 0⟩), aR 332002 70 [.int .i64, .int .i64] (gL p 2), aR 332003 26 lt5 (gL p 3)], 1⟩)])]
def F_facts_Func_offs : Fn := { np := 1, bs := [0], main := M_facts_Func_offs, lps := [(0, L_facts_Func_offs_0)] }
def M_ir_copyFunc (x : List D) : Sh :=
 .call slices_Clone_Sint_int [.l (eX (gD x 0) 2)] 0 fun r0 _ =>
 .loop 0 [.i (iX (gD x 0) 4), .l (eX (gD x 0) 4), .i 0, .s (D.toS (D.fld (gD x 0) 0)), .b (vB (gD x 0) 1), .i (vI (gD x 0) 3), .s [], .b false, .i 0, .l [], .l (D.els r0)] (.cons (fun p1 =>
 .ret (.l [aS p1 0, aB p1 1, aL p1 7, aI p1 2, aL p1 6]) [])
 .nil)
def L_ir_copyFunc_0 (p : List D) : Sh :=
 .ask (ltI (gI p 2) (gI p 0))
 (.ask (within (gI p 2) (List.length (gL p 1)))
 (.loop 2 [.l (D.els (gD (gL p 1) (tI p 2))), aI p 0, .i 0, aL p 1, .i (iE (gD (gL p 1) (tI p 2))), aI p 2, aS p 3, aB p 4, aI p 5, aS p 6, aB p 7, aI p 8, .l [], aL p 9, aL p 10] (.cons (fun p0 =>
 .ask (lim ((List.length (gL p0 10)) + 1) 24)
 (.again [aI p0 0, aL p0 1, .i (addA .i64 (gI p0 2) 1), aS p0 3, aB p0 4, aI p0 5, aS p0 6, aB p0 7, aI p0 8, .l ((gL p0 10) ++ [aL p0 9]), aL p0 11])
 (.bad))
 .nil))
 (.bad))
 (.out (0, [aS p 3, aB p 4, aI p 5, aS p 6, aB p 7, aI p 8, aL p 9, aL p 10]))
def L_ir_copyFunc_2 (p : List D) : Sh :=
 .ask (ltI (gI p 2) (gI p 4))
 (.ask (within (gI p 2) (List.length (gL p 0)))
 (.call ir_copyIns [.l [.i (vI (gD (gL p 0) (tI p 2)) 0), .i (vI (gD (gL p 0) (tI p 2)) 1), .i (vI (gD (gL p 0) (tI p 2)) 2), .i (vI (gD (gL p 0) (tI p 2)) 3), .i (vI (gD (gL p 0) (tI p 2)) 4), .l (eX (gD (gL p 0) (tI p 2)) 5), .l (eX (gD (gL p 0) (tI p 2)) 6)]] 0 fun r0 _ =>
 .ask (lim ((List.length (gL p 12)) + 1) 88)
 (.again [aL p 0, aI p 1, .i (addA .i64 (gI p 2) 1), aL p 3, aI p 4, aI p 5, aS p 6, aB p 7, aI p 8, aS p 9, aB p 10, aI p 11, .l ((gL p 12) ++ [.l [.i (vI r0 0), .i (vI r0 1), .i (vI r0 2), .i (vI r0 3), .i (vI r0 4), .l (eX r0 5), .l (eX r0 6)]]), aL p 13, aL p 14])
 (.bad))
 (.bad))
 (.out (0, [aI p 1, aL p 3, aI p 5, aS p 6, aB p 7, aI p 8, aS p 9, aB p 10, aI p 11, aL p 12, aL p 13, aL p 14]))
def S_ir_copyFunc : STab := [(0, fun p => ⟨(t0 (t2 (.pb 1 0 0) Z (t0 (t0 (t1 (nI p 0)) Z) Z)) (t2 (.pb 2 0 0) (t0 (t0 (t1 (fL 40 lt4 p 1)) Z) Z) (t0 (t0 (t1 (nI p 2)) Z) Z))), [(1, ⟨0, [.str (gS p 3), nB p 4, .vw 12000000 0 [], nI p 5, .vw 300068 0 []], none⟩), (2, ⟨0, [.str (gS p 6), nB p 7, .nils, nI p 8, .nils], none⟩)], [aR 300068 40 lt7 (gL p 9), aR 12000000 3 [.int .i64] (gL p 10)], 1⟩),
 (2, fun p => ⟨(t0 (t2 (.pb 1 0 0) (t0 (t0 Z (t1 (fL 26 lt5 p 0))) Z) (t0 (t0 (t1 (nI p 1)) (t1 (nI p 2))) Z)) (t2 (.pb 2 0 0) (t0 (t0 (t1 (fL 40 lt4 p 3)) (t1 (nI p 4))) Z) (t2 (.vw 200006 0 []) (t0 (t1 (nI p 5)) Z) Z))), [(1, ⟨0, [.str (gS p 6), nB p 7, .vw 12000000 0 [], nI p 8, .vw 300068 0 []], none⟩), (2, ⟨0, [.str (gS p 9), nB p 10, .nils, nI p 11, .nils], none⟩)], [aR 200006 26 lt5 (gL p 12), aR 300068 40 lt7 (gL p 13), aR 12000000 3 [.int .i64] (gL p 14)], 1⟩)]
def T_ir_copyFunc : TTab := [(0, [fun p => (.exit 0, ⟨(t0 (t1 (.pb 1 0 0)) (t1 (.pb 2 0 0))), [(1, ⟨0, [.str (gS p 0), nB p 1, .vw 12000000 0 [], nI p 2, .vw 300068 0 []], none⟩), (2, ⟨0, [.str (gS p 3), nB p 4, .nils, nI p 5, .nils], none⟩)], [aR 300068 40 lt7 (gL p 6), aR 12000000 3 [.int .i64] (gL p 7)], 1⟩)]),
 (2, [fun p => (.exit 2, ⟨(t0 (t2 (.pb 1 0 0) Z (t0 (t0 (t1 (nI p 0)) Z) Z)) (t2 (.pb 2 0 0) (t0 (t0 (t1 (fL 40 lt4 p 1)) Z) Z) (t2 (.vw 200006 0 []) (t0 (t1 (nI p 2)) Z) Z))), [(1, ⟨0, [.str (gS p 3), nB p 4, .vw 12000000 0 [], nI p 5, .vw 300068 0 []], none⟩), (2, ⟨0, [.str (gS p 6), nB p 7, .nils, nI p 8, .nils], none⟩)], [aR 200006 26 lt5 (gL p 9), aR 300068 40 lt7 (gL p 10), aR 12000000 3 [.int .i64] (gL p 11)], 1⟩)])]
def F_ir_copyFunc : Fn := { np := 1, bs := [0, 2], main := M_ir_copyFunc, lps := [(0, L_ir_copyFunc_0), (2, L_ir_copyFunc_2)] }
def M_ir_Size (x : List D) : Sh :=
 .loop 0 [.i 0, .l (eX (gD x 0) 4), .i 0, .i (iX (gD x 0) 4)] (.cons (fun p0 =>
 .ret (aI p0 0) [])
 .nil)
def L_ir_Size_0 (p : List D) : Sh :=
 .ask (ltI (gI p 2) (gI p 3))
 (.ask (within (gI p 2) (List.length (gL p 1)))
 (.again [.i (addA .i64 (gI p 0) (iE (gD (gL p 1) (tI p 2)))), aL p 1, .i (addA .i64 (gI p 2) 1), aI p 3])
 (.bad))
 (.out (0, [aI p 0]))
def S_ir_Size : STab := [(0, fun p => ⟨(t0 (t0 (t2 (nI p 0) (t1 (fL 40 lt4 p 1)) Z) (t0 (t1 (nI p 2)) Z)) (t0 (t0 (t1 (nI p 3)) Z) Z)), [], [], 1⟩)]
def T_ir_Size : TTab := [(0, [fun p => (.exit 0, ⟨(t0 (t0 (t1 (nI p 0)) Z) (t0 Z Z)), [], [], 1⟩)])]
def F_ir_Size : Fn := { np := 1, bs := [0], main := M_ir_Size, lps := [(0, L_ir_Size_0)] }
def M_wf_Name (x : List D) : Sh :=
 .ask ((ltI (iL (D.toS (gD x 0))) 1) || (ltI 12 (iL (D.toS (gD x 0)))))
 (.ret (.b false) [])
 (.loop 0 [.s (D.toS (gD x 0)), .i (iL (D.toS (gD x 0))), .i 0] (.cons (fun p0 =>
 .ret (aB p0 0) [])
 (.cons (fun p0 =>
 .ret (.b true) [])
 .nil)))
def L_wf_Name_0 (p : List D) : Sh :=
 .ask (ltI (gI p 2) (gI p 1))
 (.ask (within (gI p 2) (List.length (gS p 0)))
 (.ask ((!((leI 97 (byteV (gS p 0) (gI p 2))) && (leI (byteV (gS p 0) (gI p 2)) 122))) && ((eqI (gI p 2) 0) || ((!(eqI (byteV (gS p 0) (gI p 2)) 95)) && ((ltI (byteV (gS p 0) (gI p 2)) 48) || (ltI 57 (byteV (gS p 0) (gI p 2)))))))
 (.out (0, [.b false]))
 (.again [aS p 0, aI p 1, .i (addA .i64 (gI p 2) 1)]))
 (.bad))
 (.out (1, []))
def S_wf_Name : STab := [(0, fun p => ⟨(t2 (.str (gS p 0)) (t0 (t0 (t0 (t1 (nI p 1)) Z) Z) Z) (t0 (t0 (t0 (t1 (nI p 2)) Z) Z) Z)), [], [], 1⟩)]
def T_wf_Name : TTab := [(0, [fun p => (.ret, ⟨(t0 Z (t1 (nB p 0))), [], [], 1⟩),
  fun p => (.exit 0, ⟨(t0 Z (t0 Z Z)), [], [], 1⟩)])]
def F_wf_Name : Fn := { np := 1, bs := [0], main := M_wf_Name, lps := [(0, L_wf_Name_0)] }
def M_flow_Reach (x : List D) : Sh :=
 .call flow_walked [.l [.s (D.toS (D.fld (gD x 0) 0)), .b (vB (gD x 0) 1), .l (eX (gD x 0) 2), .i (vI (gD x 0) 3), .l (eX (gD x 0) 4)]] 0 fun r0 _ =>
 .ask (isNl (D.els r0))
 (.ask ((leI 0 (iX (gD x 0) 4)) && ((eqI (iX (gD x 0) 4) (iX (gD x 0) 4)) && (lim (Int.toNat (iX (gD x 0) 4)) 1)))
 (.bad)
 (.bad))
 (.ask ((leI 0 (iX (gD x 0) 4)) && ((eqI (iX (gD x 0) 4) (iX (gD x 0) 4)) && (lim (Int.toNat (iX (gD x 0) 4)) 1)))
 (.loop 0 [.i (iX (hdD (D.els r0)) 5), .i 0, .l (List.replicate (nX (gD x 0) 4) (D.b false)), .l (eX (hdD (D.els r0)) 5)] (.cons (fun p1 =>
 .ret (aL p1 0) [])
 .nil))
 (.bad))
def L_flow_Reach_0 (p : List D) : Sh :=
 .ask (ltI (gI p 1) (gI p 0))
 (.ask (within (gI p 1) (List.length (gL p 3)))
 (.ask (within (gI p 1) (List.length (gL p 2)))
 (.again [aI p 0, .i (addA .i64 (gI p 1) 1), .l (List.set (gL p 2) (tI p 1) (D.b (!(eqI (D.toI (gD (gL p 3) (tI p 1))) 0)))), aL p 3])
 (.bad))
 (.bad))
 (.out (0, [aL p 2]))
def S_flow_Reach : STab := [(0, fun p => ⟨(t0 (t0 Z (t0 (t0 (t1 (nI p 0)) Z) Z)) (t0 (t2 (.vw 12 0 []) (t0 (t1 (.vw 9000005 0 [])) Z) Z) (t0 (t0 (t1 (nI p 1)) Z) Z))), [], [aR 12 4 [.bool] (gL p 2), aR 9000005 3 [.int .i64] (gL p 3)], 1⟩)]
def T_flow_Reach : TTab := [(0, [fun p => (.exit 0, ⟨(t0 Z (t0 (t1 (.vw 12 0 [])) Z)), [], [aR 12 4 [.bool] (gL p 0)], 1⟩)])]
def F_flow_Reach : Fn := { np := 1, bs := [0], main := M_flow_Reach, lps := [(0, L_flow_Reach_0)] }
def M_wf_ahead (x : List D) : Sh :=
 .ask (bounds 0 (D.toI (gD x 1)) (iX (gD x 0) 4))
 (.loop 0 [.i (iX (gD x 0) 2), .i (iL (List.drop 0 (List.take (Int.toNat (D.toI (gD x 1))) (eX (gD x 0) 4)))), .l (List.drop 0 (List.take (Int.toNat (D.toI (gD x 1))) (eX (gD x 0) 4))), .i 0] (.cons (fun p0 =>
 .ret (aI p0 0) [])
 .nil))
 (.bad)
def L_wf_ahead_0 (p : List D) : Sh :=
 .ask (ltI (gI p 3) (gI p 1))
 (.ask (within (gI p 3) (List.length (gL p 2)))
 (.loop 2 [.l (D.els (gD (gL p 2) (tI p 3))), aI p 0, aI p 1, .i 0, aL p 2, .i (iE (gD (gL p 2) (tI p 3))), aI p 3] (.cons (fun p0 =>
 .again [aI p0 0, aI p0 1, aL p0 2, .i (addA .i64 (gI p0 3) 1)])
 .nil))
 (.bad))
 (.out (0, [aI p 0]))
def L_wf_ahead_2 (p : List D) : Sh :=
 .ask (ltI (gI p 3) (gI p 5))
 (.ask (within (gI p 3) (List.length (gL p 0)))
 (.ask (!(eqI (vI (gD (gL p 0) (tI p 3)) 1) 0))
 (.again [aL p 0, .i (addA .i64 (gI p 1) 1), aI p 2, .i (addA .i64 (gI p 3) 1), aL p 4, aI p 5, aI p 6])
 (.again [aL p 0, aI p 1, aI p 2, .i (addA .i64 (gI p 3) 1), aL p 4, aI p 5, aI p 6]))
 (.bad))
 (.out (0, [aI p 1, aI p 2, aL p 4, aI p 6]))
def S_wf_ahead : STab := [(0, fun p => ⟨(t0 (t0 Z (t2 (nI p 0) (t0 (t1 (nI p 1)) Z) Z)) (t0 (t0 (t0 (t1 (fL 40 lt4 p 2)) Z) Z) (t0 (t0 (t1 (nI p 3)) Z) Z))), [], [], 1⟩),
 (2, fun p => ⟨(t0 (t0 (t0 (t0 Z (t1 (fL 26 lt5 p 0))) Z) (t2 (nI p 1) (t0 (t1 (nI p 2)) (t1 (nI p 3))) Z)) (t0 (t0 (t0 (t1 (fL 40 lt4 p 4)) (t1 (nI p 5))) Z) (t0 (t0 (t1 (nI p 6)) Z) Z))), [], [], 1⟩)]
def T_wf_ahead : TTab := [(0, [fun p => (.exit 0, ⟨(t0 (t0 Z (t1 (nI p 0))) (t0 (t0 Z Z) Z)), [], [], 1⟩)]),
 (2, [fun p => (.exit 2, ⟨(t0 (t0 Z (t2 (nI p 0) (t0 (t1 (nI p 1)) Z) Z)) (t0 (t0 (t0 (t1 (fL 40 lt4 p 2)) Z) Z) (t0 (t0 (t1 (nI p 3)) Z) Z))), [], [], 1⟩)])]
def F_wf_ahead : Fn := { np := 2, bs := [0, 2], main := M_wf_ahead, lps := [(0, L_wf_ahead_0), (2, L_wf_ahead_2)] }
def M_slices_SortFunc_Sapi_Base_api_Base (x : List D) : Sh :=
 .call math_bits_Len [.i (wrapA .u64 (iE (gD x 0)))] 0 fun r0 _ =>
 .call slices_pdqsortCmpFunc_api_Base [.l (D.els (gD x 0)), .i 0, .i (iE (gD x 0)), .i (D.toI r0), .l []] 0 fun r1 _ =>
 .ret (.l []) []
def S_slices_SortFunc_Sapi_Base_api_Base : STab := []
def T_slices_SortFunc_Sapi_Base_api_Base : TTab := []
def F_slices_SortFunc_Sapi_Base_api_Base : Fn := { np := 2, bs := [], main := M_slices_SortFunc_Sapi_Base_api_Base, lps := [] }
def M_ir_copyIns (x : List D) : Sh :=
 .call slices_Clone_Sint_int [.l (eX (gD x 0) 5)] 0 fun r0 _ =>
 .call slices_Clone_Sint_int [.l (eX (gD x 0) 6)] 0 fun r1 _ =>
 .ret (.l [.i (vI (gD x 0) 0), .i (vI (gD x 0) 1), .i (vI (gD x 0) 2), .i (vI (gD x 0) 3), .i (vI (gD x 0) 4), .l (D.els r0), .l (D.els r1)]) []
def S_ir_copyIns : STab := []
def T_ir_copyIns : TTab := []
def F_ir_copyIns : Fn := { np := 1, bs := [], main := M_ir_copyIns, lps := [] }
def M_facts_risen (x : List D) : Sh :=
 .call slices_Sort_Sint_int [.l (D.els (gD x 0))] 0 fun r0 _ =>
 .call slices_Compact_Sint_int [.l (D.els (gD x 0))] 0 fun r1 _ =>
 .ret (.l (D.els r1)) []
def S_facts_risen : STab := []
def T_facts_risen : TTab := []
def F_facts_risen : Fn := { np := 1, bs := [], main := M_facts_risen, lps := [] }
def M_flow_walked (x : List D) : Sh :=
 .ask ((leI 0 (iX (gD x 0) 4)) && ((eqI (iX (gD x 0) 4) (iX (gD x 0) 4)) && (lim (Int.toNat (iX (gD x 0) 4)) 8)))
 (.ask (ltI 0 (iX (gD x 0) 4))
 (.call flow_walker_visit [.l [.s (D.toS (D.fld (gD x 0) 0)), .b (vB (gD x 0) 1), .l (eX (gD x 0) 2), .i (vI (gD x 0) 3), .l (eX (gD x 0) 4), .l (List.replicate (nX (gD x 0) 4) (D.i 0)), .l [], .b false], .i 0] 1 fun r0 q0 =>
 .ret (.l [.l [.s (D.toS (D.fld (gD q0 0) 0)), .b (vB (gD q0 0) 1), .l (eX (gD q0 0) 2), .i (vI (gD q0 0) 3), .l (eX (gD q0 0) 4), .l (eX (gD q0 0) 5), .l (eX (gD q0 0) 6), .b (vB (gD q0 0) 7)]]) [])
 (.ret (.l [.l [.s (D.toS (D.fld (gD x 0) 0)), .b (vB (gD x 0) 1), .l (eX (gD x 0) 2), .i (vI (gD x 0) 3), .l (eX (gD x 0) 4), .l (List.replicate (nX (gD x 0) 4) (D.i 0)), .l [], .b false]]) []))
 (.bad)
def S_flow_walked : STab := []
def T_flow_walked : TTab := []
def F_flow_walked : Fn := { np := 1, bs := [], main := M_flow_walked, lps := [] }
def M_dom_over (x : List D) : Sh :=
 .ask ((leI 0 (iX (gD x 0) 4)) && ((eqI (iX (gD x 0) 4) (iX (gD x 0) 4)) && (lim (Int.toNat (iX (gD x 0) 4)) 24)))
 (.loop 0 [.i (iX (gD x 0) 4), .i 0, .i (iX (gD x 0) 4), .s (D.toS (D.fld (gD x 0) 0)), .b (vB (gD x 0) 1), .l (eX (gD x 0) 2), .i (vI (gD x 0) 3), .l (eX (gD x 0) 4), .l (List.replicate (nX (gD x 0) 4) (D.l []))] (.cons (fun p0 =>
 .call flow_Reach [.l [aS p0 1, aB p0 2, aL p0 3, aI p0 4, aL p0 5]] 0 fun r1 _ =>
 .ask ((leI 0 (gI p0 0)) && ((eqI (gI p0 0) (gI p0 0)) && (lim (tI p0 0) 24)))
 (.loop 2 [aI p0 0, aI p0 0, .i 0, aL p0 6, .l (List.replicate (tI p0 0) (D.l [])), .l (D.els r1)] (.cons (fun p2 =>
 .ret (aL p2 0) [])
 .nil))
 (.bad))
 .nil))
 (.bad)
def L_dom_over_0 (p : List D) : Sh :=
 .ask (ltI (gI p 1) (gI p 2))
 (.call flow_Next [.l [aS p 3, aB p 4, aL p 5, aI p 6, aL p 7], aI p 1] 0 fun r0 _ =>
 .ask (within (gI p 1) (List.length (gL p 8)))
 (.again [aI p 0, .i (addA .i64 (gI p 1) 1), aI p 2, aS p 3, aB p 4, aL p 5, aI p 6, aL p 7, .l (List.set (gL p 8) (tI p 1) (D.l (D.els r0)))])
 (.bad))
 (.out (0, [aI p 0, aS p 3, aB p 4, aL p 5, aI p 6, aL p 7, aL p 8]))
def L_dom_over_2 (p : List D) : Sh :=
 .ask (ltI (gI p 2) (gI p 1))
 (.ask ((leI 0 (gI p 0)) && ((eqI (gI p 0) (gI p 0)) && (lim (tI p 0) 1)))
 (.ask (within (gI p 2) (List.length (gL p 4)))
 (.ask (within (gI p 2) (List.length (gL p 5)))
 (.ask (!(D.toB (gD (gL p 5) (tI p 2))))
 (.again [aI p 0, aI p 1, .i (addA .i64 (gI p 2) 1), aL p 3, .l (List.set (gL p 4) (tI p 2) (D.l (List.replicate (tI p 0) (D.b false)))), aL p 5])
 (.call dom_without [aL p 3, aI p 2] 0 fun r0 _ =>
 .loop 4 [aI p 0, aI p 1, .i 0, aI p 2, aI p 2, aI p 0, aL p 3, .l (List.set (gL p 4) (tI p 2) (D.l (List.replicate (tI p 0) (D.b false)))), aL p 5, .l (D.els r0)] (.cons (fun p1 =>
 .again [aI p1 0, aI p1 1, .i (addA .i64 (gI p1 2) 1), aL p1 3, aL p1 4, aL p1 5])
 .nil)))
 (.bad))
 (.bad))
 (.bad))
 (.out (0, [aL p 4]))
def L_dom_over_4 (p : List D) : Sh :=
 .ask (ltI (gI p 2) (gI p 5))
 (.ask (within (gI p 3) (List.length (gL p 7)))
 (.ask (within (gI p 2) (List.length (gL p 8)))
 (.ask ((!((D.toB (gD (gL p 8) (tI p 2))) && true)) || (within (gI p 2) (List.length (gL p 9))))
 (.ask (within (gI p 2) (nE (gD (gL p 7) (tI p 3))))
 (.again [aI p 0, aI p 1, .i (addA .i64 (gI p 2) 1), aI p 3, aI p 4, aI p 5, aL p 6, .l (List.set (gL p 7) (tI p 3) (D.l (List.set (D.els (gD (gL p 7) (tI p 3))) (tI p 2) (D.b ((D.toB (gD (gL p 8) (tI p 2))) && (!(D.toB (gD (gL p 9) (tI p 2))))))))), aL p 8, aL p 9])
 (.bad))
 (.bad))
 (.bad))
 (.bad))
 (.out (0, [aI p 0, aI p 1, aI p 4, aL p 6, aL p 7, aL p 8]))
def S_dom_over : STab := [(0, fun p => ⟨(t0 (t2 (.pb 1 0 0) (t1 (nI p 0)) (t0 (t0 (t1 (nI p 1)) Z) Z)) (t0 (t2 (.vw 15 0 []) (t0 (t1 (nI p 2)) Z) Z) Z)), [(1, ⟨0, [.str (gS p 3), nB p 4, fL 3 [.int .i64] p 5, nI p 6, fL 40 lt4 p 7], none⟩)], [(15, ⟨24, [.sl true 3 [.int .i64]], (gL p 8), [], 0, [0, 0, 0, 0], 0⟩)], 1⟩),
 (2, fun p => ⟨(t0 (t0 (t2 (nI p 0) (t2 (.vw 30 0 []) (t0 (t1 (nI p 1)) Z) Z) Z) Z) (t0 (t2 (.vw 15 0 []) (t0 (t0 (t1 (nI p 2)) Z) Z) Z) (t1 (.vw 29000000 0 [])))), [], [(15, ⟨24, [.sl true 3 [.int .i64]], (gL p 3), [], 0, [0, 0, 0, 0], 0⟩), (30, ⟨50, [.sl true 4 [.bool]], (gL p 4), [], 0, [0, 0, 0, 0], 0⟩), aR 29000000 4 [.bool] (gL p 5)], 1⟩),
 (4, fun p => ⟨(t0 (t0 (t2 (nI p 0) (t2 (.vw 30 0 []) (t0 (t1 (nI p 1)) Z) Z) Z) (t0 (t2 (.vw 48000000 0 []) (t0 Z (t1 (nI p 2))) Z) Z)) (t0 (t2 (.vw 15 0 []) (t2 (nI p 3) (t0 (t1 (nI p 4)) (t1 (nI p 5))) Z) Z) (t1 (.vw 29000000 0 [])))), [], [(15, ⟨24, [.sl true 3 [.int .i64]], (gL p 6), [], 0, [0, 0, 0, 0], 0⟩), (30, ⟨50, [.sl true 4 [.bool]], (gL p 7), [], 0, [0, 0, 0, 0], 0⟩), aR 29000000 4 [.bool] (gL p 8), aR 48000000 4 [.bool] (gL p 9)], 1⟩)]
def T_dom_over : TTab := [(0, [fun p => (.exit 0, ⟨(t0 (t2 (.pb 1 0 0) (t1 (nI p 0)) Z) (t0 (t1 (.vw 15 0 [])) Z)), [(1, ⟨0, [.str (gS p 1), nB p 2, fL 3 [.int .i64] p 3, nI p 4, fL 40 lt4 p 5], none⟩)], [(15, ⟨24, [.sl true 3 [.int .i64]], (gL p 6), [], 0, [0, 0, 0, 0], 0⟩)], 1⟩)]),
 (2, [fun p => (.exit 2, ⟨(t0 (t0 (t0 (t1 (.vw 30 0 [])) Z) Z) (t0 Z Z)), [], [(30, ⟨50, [.sl true 4 [.bool]], (gL p 0), [], 0, [0, 0, 0, 0], 0⟩)], 1⟩)]),
 (4, [fun p => (.exit 4, ⟨(t0 (t0 (t2 (nI p 0) (t2 (.vw 30 0 []) (t0 (t1 (nI p 1)) Z) Z) Z) Z) (t0 (t2 (.vw 15 0 []) (t0 (t0 (t1 (nI p 2)) Z) Z) Z) (t1 (.vw 29000000 0 [])))), [], [(15, ⟨24, [.sl true 3 [.int .i64]], (gL p 3), [], 0, [0, 0, 0, 0], 0⟩), (30, ⟨50, [.sl true 4 [.bool]], (gL p 4), [], 0, [0, 0, 0, 0], 0⟩), aR 29000000 4 [.bool] (gL p 5)], 1⟩)])]
def F_dom_over : Fn := { np := 1, bs := [0, 2, 4], main := M_dom_over, lps := [(0, L_dom_over_0), (2, L_dom_over_2), (4, L_dom_over_4)] }
def M_math_bits_Len (x : List D) : Sh :=
 .ask false
 (.call math_bits_Len32 [.i (wrapA .u32 (D.toI (gD x 0)))] 0 fun r0 _ =>
 .ret (.i (D.toI r0)) [])
 (.call math_bits_Len64 [.i (D.toI (gD x 0))] 0 fun r0 _ =>
 .ret (.i (D.toI r0)) [])
def S_math_bits_Len : STab := []
def T_math_bits_Len : TTab := []
def F_math_bits_Len : Fn := { np := 1, bs := [], main := M_math_bits_Len, lps := [] }
def M_slices_insertionSortCmpFunc_api_Base (x : List D) : Sh :=
 .loop 0 [.l (D.els (gD x 0)), .i (D.toI (gD x 1)), .i (D.toI (gD x 2)), .i (addA .i64 (D.toI (gD x 1)) 1)] (.cons (fun p0 =>
 .ret (.l []) [])
 .nil)
def L_slices_insertionSortCmpFunc_api_Base_0 (p : List D) : Sh :=
 .ask (ltI (gI p 3) (gI p 2))
 (.loop 2 [aL p 0, aI p 1, aI p 3, aI p 2, aI p 3] (.cons (fun p0 =>
 .again [aL p0 0, aI p0 1, aI p0 2, .i (addA .i64 (gI p0 3) 1)])
 .nil))
 (.out (0, []))
def J_slices_insertionSortCmpFunc_api_Base_0 (p : List D) : Sh :=
 .ask (within (wrapA .i64 ((gI p 2) - 1)) (List.length (gL p 0)))
 (.ask (within (gI p 2) (List.length (gL p 0)))
 (.ask (within (gI p 2) (List.length (gL p 0)))
 (.bad)
 (.bad))
 (.bad))
 (.bad)
def L_slices_insertionSortCmpFunc_api_Base_2 (p : List D) : Sh :=
 .ask ((!((ltI (gI p 1) (gI p 2)) && true)) || (within (gI p 2) (List.length (gL p 0))))
 (.ask ((!((ltI (gI p 1) (gI p 2)) && true)) || (within (wrapA .i64 ((gI p 2) - 1)) (List.length (gL p 0))))
 (.ask ((ltI (gI p 1) (gI p 2)) && true)
 (.call facts_lesser [.l [.i (vI (gD (gL p 0) (tI p 2)) 0), .i (vI (gD (gL p 0) (tI p 2)) 1)], .l [.i (vI (gD (gL p 0) (Int.toNat (wrapA .i64 ((gI p 2) - 1)))) 0), .i (vI (gD (gL p 0) (Int.toNat (wrapA .i64 ((gI p 2) - 1)))) 1)]] 0 fun r0 _ =>
 .ask ((ltI (gI p 1) (gI p 2)) && (ltI (D.toI r0) 0))
 (J_slices_insertionSortCmpFunc_api_Base_0 p)
 (.out (0, [aL p 0, aI p 1, aI p 3, aI p 4])))
 (.ask ((ltI (gI p 1) (gI p 2)) && (ltI 0 0))
 (J_slices_insertionSortCmpFunc_api_Base_0 p)
 (.out (0, [aL p 0, aI p 1, aI p 3, aI p 4]))))
 (.bad))
 (.bad)
def S_slices_insertionSortCmpFunc_api_Base : STab := [(0, fun p => ⟨(t2 (fL 66 [.int .i64, .int .i64] p 0) (t2 (nI p 1) (t1 (.fn 53 [])) Z) (t2 (nI p 2) (t0 (t1 (nI p 3)) Z) Z)), [], [], 1⟩),
 (2, fun p => ⟨(t2 (fL 66 [.int .i64, .int .i64] p 0) (t2 (nI p 1) (t1 (.fn 53 [])) (t0 (t1 (nI p 2)) Z)) (t2 (nI p 3) (t0 (t1 (nI p 4)) Z) Z)), [], [], 1⟩)]
def T_slices_insertionSortCmpFunc_api_Base : TTab := [(0, [fun p => (.exit 0, ⟨Z, [], [], 1⟩)]),
 (2, [fun p => (.exit 2, ⟨(t2 (fL 66 [.int .i64, .int .i64] p 0) (t2 (nI p 1) (t1 (.fn 53 [])) Z) (t2 (nI p 2) (t0 (t1 (nI p 3)) Z) Z)), [], [], 1⟩)])]
def F_slices_insertionSortCmpFunc_api_Base : Fn := { np := 4, bs := [0, 2], main := M_slices_insertionSortCmpFunc_api_Base, lps := [(0, L_slices_insertionSortCmpFunc_api_Base_0), (2, L_slices_insertionSortCmpFunc_api_Base_2)] }
def M_slices_insertionSortOrdered_int (x : List D) : Sh :=
 .loop 0 [.l (D.els (gD x 0)), .i (D.toI (gD x 1)), .i (D.toI (gD x 2)), .i (addA .i64 (D.toI (gD x 1)) 1)] (.cons (fun p0 =>
 .ret (.l []) [])
 .nil)
def L_slices_insertionSortOrdered_int_0 (p : List D) : Sh :=
 .ask (ltI (gI p 3) (gI p 2))
 (.loop 2 [aL p 0, aI p 1, aI p 3, aI p 2, aI p 3] (.cons (fun p0 =>
 .again [aL p0 0, aI p0 1, aI p0 2, .i (addA .i64 (gI p0 3) 1)])
 .nil))
 (.out (0, []))
def J_slices_insertionSortOrdered_int_0 (p : List D) : Sh :=
 .ask (within (wrapA .i64 ((gI p 2) - 1)) (List.length (gL p 0)))
 (.ask (within (gI p 2) (List.length (gL p 0)))
 (.ask (within (gI p 2) (List.length (gL p 0)))
 (.bad)
 (.bad))
 (.bad))
 (.bad)
def L_slices_insertionSortOrdered_int_2 (p : List D) : Sh :=
 .ask ((!((ltI (gI p 1) (gI p 2)) && true)) || (within (gI p 2) (List.length (gL p 0))))
 (.ask ((!((ltI (gI p 1) (gI p 2)) && true)) || (within (wrapA .i64 ((gI p 2) - 1)) (List.length (gL p 0))))
 (.ask ((ltI (gI p 1) (gI p 2)) && true)
 (.call cmp_Less_int [.i (D.toI (gD (gL p 0) (tI p 2))), .i (D.toI (gD (gL p 0) (Int.toNat (wrapA .i64 ((gI p 2) - 1)))))] 0 fun r0 _ =>
 .ask ((ltI (gI p 1) (gI p 2)) && (D.toB r0))
 (J_slices_insertionSortOrdered_int_0 p)
 (.out (0, [aL p 0, aI p 1, aI p 3, aI p 4])))
 (.ask ((ltI (gI p 1) (gI p 2)) && (D.toB (.i 0)))
 (J_slices_insertionSortOrdered_int_0 p)
 (.out (0, [aL p 0, aI p 1, aI p 3, aI p 4]))))
 (.bad))
 (.bad)
def S_slices_insertionSortOrdered_int : STab := [(0, fun p => ⟨(t2 (fL 3 [.int .i64] p 0) (t1 (nI p 1)) (t2 (nI p 2) Z (t1 (nI p 3)))), [], [], 1⟩),
 (2, fun p => ⟨(t2 (fL 3 [.int .i64] p 0) (t2 (nI p 1) (t0 (t1 (nI p 2)) Z) Z) (t2 (nI p 3) Z (t1 (nI p 4)))), [], [], 1⟩)]
def T_slices_insertionSortOrdered_int : TTab := [(0, [fun p => (.exit 0, ⟨Z, [], [], 1⟩)]),
 (2, [fun p => (.exit 2, ⟨(t2 (fL 3 [.int .i64] p 0) (t1 (nI p 1)) (t2 (nI p 2) Z (t1 (nI p 3)))), [], [], 1⟩)])]
def F_slices_insertionSortOrdered_int : Fn := { np := 3, bs := [0, 2], main := M_slices_insertionSortOrdered_int, lps := [(0, L_slices_insertionSortOrdered_int_0), (2, L_slices_insertionSortOrdered_int_2)] }
def M_law30_read (x : List D) : Sh :=
 .ret (.l [.l [], .l [.l [.s [97], .l [.i 7, .i 8]]], .l [], .l [.l [.s [102], .b true, .l [], .i 1, .l [.l [.l [.i 3, .i 3, .i 1, .i 0, .i 0, .l [], .l []], .l [.i 1, .i 1, .i 2, .i 0, .i 1, .l [], .l []], .l [.i 19, .i 3, .i 3, .i 0, .i 0, .l [.i 1, .i 2], .l []], .l [.i 20, .i 1, .i 4, .i 0, .i 0, .l [.i 3], .l []], .l [.i 29, .i 0, .i 0, .i 0, .i 0, .l [.i 4], .l []]]]]]]) []
def S_law30_read : STab := []
def T_law30_read : TTab := []
def F_law30_read : Fn := { np := 0, bs := [], main := M_law30_read, lps := [] }
def M_r12_Def (x : List D) : Sh :=
 .loop 0 [.i (D.toI (gD x 1)), .i 0, .s (D.toS (D.fld (gD x 0) 0)), .b (vB (gD x 0) 1), .l (eX (gD x 0) 2), .i (vI (gD x 0) 3), .l (eX (gD x 0) 4)] (.cons (fun p0 =>
 .ret (.l [aI p0 1, aI p0 0]) [])
 (.cons (fun p0 =>
 .ret (.l [.i (-1), .i (-1)]) [])
 .nil))
def L_r12_Def_0 (p : List D) : Sh :=
 .ask (ltI (gI p 1) (iL (gL p 6)))
 (.loop 2 [aI p 0, .i 0, aI p 1, aS p 2, aB p 3, aL p 4, aI p 5, aL p 6] (.cons (fun p0 =>
 .out (0, [aI p0 1, aI p0 2]))
 (.cons (fun p0 =>
 .again [aI p0 0, .i (addA .i64 (gI p0 1) 1), aS p0 2, aB p0 3, aL p0 4, aI p0 5, aL p0 6])
 .nil)))
 (.out (1, []))
def L_r12_Def_2 (p : List D) : Sh :=
 .ask (within (gI p 2) (List.length (gL p 7)))
 (.ask (ltI (gI p 1) (iE (gD (gL p 7) (tI p 2))))
 (.ask (within (gI p 2) (List.length (gL p 7)))
 (.ask (within (gI p 1) (nE (gD (gL p 7) (tI p 2))))
 (.ask ((!(eqI (vI (gE (gD (gL p 7) (tI p 2)) (tI p 1)) 1) 0)) && (eqI (vI (gE (gD (gL p 7) (tI p 2)) (tI p 1)) 2) (gI p 0)))
 (.out (0, [aI p 0, aI p 1, aI p 2, aI p 2, aS p 3, aB p 4, aL p 5, aI p 6, aL p 7]))
 (.again [aI p 0, .i (addA .i64 (gI p 1) 1), aI p 2, aS p 3, aB p 4, aL p 5, aI p 6, aL p 7]))
 (.bad))
 (.bad))
 (.out (1, [aI p 0, aI p 2, aS p 3, aB p 4, aL p 5, aI p 6, aL p 7])))
 (.bad)
def S_r12_Def : STab := [(0, fun p => ⟨(t0 (t1 (nI p 0)) (t2 (.pb 2 0 0) Z (t1 (nI p 1)))), [(2, ⟨0, [.str (gS p 2), nB p 3, fL 3 [.int .i64] p 4, nI p 5, fL 40 lt4 p 6], none⟩)], [], 1⟩),
 (2, fun p => ⟨(t0 (t2 (nI p 0) (t0 (t1 (nI p 1)) Z) Z) (t2 (.pb 2 0 0) Z (t1 (nI p 2)))), [(2, ⟨0, [.str (gS p 3), nB p 4, fL 3 [.int .i64] p 5, nI p 6, fL 40 lt4 p 7], none⟩)], [], 1⟩)]
def T_r12_Def : TTab := [(0, [fun p => (.ret, ⟨(t0 (t0 Z (t1 (nI p 0))) (t0 (t1 (nI p 1)) Z)), [], [], 1⟩),
  fun p => (.exit 0, ⟨(t0 (t0 Z (t0 Z Z)) (t0 (t0 Z Z) Z)), [], [], 1⟩)]),
 (2, [fun p => (.ret, ⟨(t0 (t2 (nI p 0) Z (t1 (nI p 1))) (t2 (.pb 2 0 0) (t1 (nI p 2)) (t1 (nI p 3)))), [(2, ⟨0, [.str (gS p 4), nB p 5, fL 3 [.int .i64] p 6, nI p 7, fL 40 lt4 p 8], none⟩)], [], 1⟩),
  fun p => (.exit 2, ⟨(t0 (t2 (nI p 0) Z (t0 Z Z)) (t2 (.pb 2 0 0) (t0 Z Z) (t1 (nI p 1)))), [(2, ⟨0, [.str (gS p 2), nB p 3, fL 3 [.int .i64] p 4, nI p 5, fL 40 lt4 p 6], none⟩)], [], 1⟩)])]
def F_r12_Def : Fn := { np := 2, bs := [0, 2], main := M_r12_Def, lps := [(0, L_r12_Def_0), (2, L_r12_Def_2)] }
def M_wf_formed (x : List D) : Sh :=
 .loop 0 [.i (iX (gD x 0) 0), .l (eX (gD x 0) 0), .i 0, .l (eX (gD x 0) 0), .l (eX (gD x 0) 1), .l (eX (gD x 0) 2), .l (eX (gD x 0) 3)] (.cons (fun p0 =>
 .ret (aB p0 0) [])
 (.cons (fun p0 =>
 .loop 4 [.i (iL (gL p0 3)), aL p0 3, .i 0] (.cons (fun p1 =>
 .ret (aB p1 0) [])
 (.cons (fun p1 =>
 .ret (.b true) [])
 .nil)))
 .nil))
def L_wf_formed_0 (p : List D) : Sh :=
 .ask (ltI (gI p 2) (gI p 0))
 (.ask (within (gI p 2) (List.length (gL p 1)))
 (.loop 2 [.l (eX (gD (gL p 1) (tI p 2)) 1), aI p 0, .i 0, aL p 1, .i (iX (gD (gL p 1) (tI p 2)) 1), aI p 2, aL p 3, aL p 4, aL p 5, aL p 6, .s (D.toS (D.fld (gD (gL p 1) (tI p 2)) 0)), .l (eX (gD (gL p 1) (tI p 2)) 1), .i (vI (gD (gL p 1) (tI p 2)) 2)] (.cons (fun p0 =>
 .out (0, [aB p0 1, aL p0 4, aL p0 5, aL p0 6, aL p0 7]))
 (.cons (fun p0 =>
 .ask ((!(eqI (gI p0 9) 0)) && true)
 (.call wf_scalar [aI p0 9] 0 fun r1 _ =>
 .ask ((!(eqI (gI p0 9) 0)) && (!(D.toB r1)))
 (.out (0, [.b false, aL p0 3, aL p0 4, aL p0 5, aL p0 6]))
 (.again [aI p0 0, aL p0 1, .i (addA .i64 (gI p0 2) 1), aL p0 3, aL p0 4, aL p0 5, aL p0 6]))
 (.ask ((!(eqI (gI p0 9) 0)) && (!(D.toB (.i 0))))
 (.out (0, [.b false, aL p0 3, aL p0 4, aL p0 5, aL p0 6]))
 (.again [aI p0 0, aL p0 1, .i (addA .i64 (gI p0 2) 1), aL p0 3, aL p0 4, aL p0 5, aL p0 6])))
 .nil)))
 (.bad))
 (.out (1, [aL p 3, aL p 4, aL p 5, aL p 6]))
def L_wf_formed_2 (p : List D) : Sh :=
 .ask (ltI (gI p 2) (gI p 4))
 (.ask (within (gI p 2) (List.length (gL p 0)))
 (.call wf_scalar [.i (D.toI (gD (gL p 0) (tI p 2)))] 0 fun r0 _ =>
 .ask (!(D.toB r0))
 (.out (0, [aI p 1, .b false, aL p 3, aI p 5, aL p 6, aL p 7, aL p 8, aL p 9, aS p 10, aL p 11, aI p 12]))
 (.again [aL p 0, aI p 1, .i (addA .i64 (gI p 2) 1), aL p 3, aI p 4, aI p 5, aL p 6, aL p 7, aL p 8, aL p 9, aS p 10, aL p 11, aI p 12]))
 (.bad))
 (.out (1, [aI p 1, aL p 3, aI p 5, aL p 6, aL p 7, aL p 8, aL p 9, aS p 10, aL p 11, aI p 12]))
def L_wf_formed_4 (p : List D) : Sh :=
 .ask (ltI (gI p 2) (gI p 0))
 (.ask (within (gI p 2) (List.length (gL p 1)))
 (.ask ((!(eqI (vI (gD (gL p 1) (tI p 2)) 3) 0)) && true)
 (.call wf_scalar [.i (vI (gD (gL p 1) (tI p 2)) 3)] 0 fun r0 _ =>
 .ask (((!(eqI (vI (gD (gL p 1) (tI p 2)) 3) 0)) && (!(D.toB r0))) && ((!(eqI (vI (gD (gL p 1) (tI p 2)) 3) 4)) || (vB (gD (gL p 1) (tI p 2)) 1)))
 (.out (0, [.b false]))
 (.loop 6 [.i 0, .l (eX (gD (gL p 1) (tI p 2)) 2), aI p 0, aL p 1, .i (iX (gD (gL p 1) (tI p 2)) 2), aI p 2, .s (D.toS (D.fld (gD (gL p 1) (tI p 2)) 0)), .b (vB (gD (gL p 1) (tI p 2)) 1), .l (eX (gD (gL p 1) (tI p 2)) 2), .i (vI (gD (gL p 1) (tI p 2)) 3), .l (eX (gD (gL p 1) (tI p 2)) 4)] (.cons (fun p1 =>
 .out (0, [aB p1 1]))
 (.cons (fun p1 =>
 .loop 8 [aI p1 0, .i (iL (gL p1 7)), aL p1 1, aL p1 7, aI p1 2, .i 0] (.cons (fun p2 =>
 .out (0, [aB p2 1]))
 (.cons (fun p2 =>
 .again [aI p2 0, aL p2 1, .i (addA .i64 (gI p2 2) 1)])
 .nil)))
 .nil))))
 (.ask (((!(eqI (vI (gD (gL p 1) (tI p 2)) 3) 0)) && (!(D.toB (.i 0)))) && ((!(eqI (vI (gD (gL p 1) (tI p 2)) 3) 4)) || (vB (gD (gL p 1) (tI p 2)) 1)))
 (.out (0, [.b false]))
 (.loop 6 [.i 0, .l (eX (gD (gL p 1) (tI p 2)) 2), aI p 0, aL p 1, .i (iX (gD (gL p 1) (tI p 2)) 2), aI p 2, .s (D.toS (D.fld (gD (gL p 1) (tI p 2)) 0)), .b (vB (gD (gL p 1) (tI p 2)) 1), .l (eX (gD (gL p 1) (tI p 2)) 2), .i (vI (gD (gL p 1) (tI p 2)) 3), .l (eX (gD (gL p 1) (tI p 2)) 4)] (.cons (fun p0 =>
 .out (0, [aB p0 1]))
 (.cons (fun p0 =>
 .loop 8 [aI p0 0, .i (iL (gL p0 7)), aL p0 1, aL p0 7, aI p0 2, .i 0] (.cons (fun p1 =>
 .out (0, [aB p1 1]))
 (.cons (fun p1 =>
 .again [aI p1 0, aL p1 1, .i (addA .i64 (gI p1 2) 1)])
 .nil)))
 .nil)))))
 (.bad))
 (.out (1, []))
def L_wf_formed_6 (p : List D) : Sh :=
 .ask (ltI (gI p 0) (gI p 4))
 (.ask (within (gI p 0) (List.length (gL p 1)))
 (.ask ((!((ltI (D.toI (gD (gL p 1) (tI p 0))) 1) || (ltI 4 (D.toI (gD (gL p 1) (tI p 0)))))) && ((gB p 7) && true))
 (.call wf_scalar [.i (D.toI (gD (gL p 1) (tI p 0)))] 0 fun r0 _ =>
 .ask (((ltI (D.toI (gD (gL p 1) (tI p 0))) 1) || (ltI 4 (D.toI (gD (gL p 1) (tI p 0))))) || ((gB p 7) && (!(D.toB r0))))
 (.out (0, [aI p 2, .b false, aL p 3, aI p 5, aS p 6, aB p 7, aL p 8, aI p 9, aL p 10]))
 (.again [.i (addA .i64 (gI p 0) 1), aL p 1, aI p 2, aL p 3, aI p 4, aI p 5, aS p 6, aB p 7, aL p 8, aI p 9, aL p 10]))
 (.ask (((ltI (D.toI (gD (gL p 1) (tI p 0))) 1) || (ltI 4 (D.toI (gD (gL p 1) (tI p 0))))) || ((gB p 7) && (!(D.toB (.i 0)))))
 (.out (0, [aI p 2, .b false, aL p 3, aI p 5, aS p 6, aB p 7, aL p 8, aI p 9, aL p 10]))
 (.again [.i (addA .i64 (gI p 0) 1), aL p 1, aI p 2, aL p 3, aI p 4, aI p 5, aS p 6, aB p 7, aL p 8, aI p 9, aL p 10])))
 (.bad))
 (.out (1, [aI p 2, aL p 3, aI p 5, aS p 6, aB p 7, aL p 8, aI p 9, aL p 10]))
def L_wf_formed_8 (p : List D) : Sh :=
 .ask (ltI (gI p 5) (gI p 1))
 (.ask (within (gI p 5) (List.length (gL p 3)))
 (.loop 10 [.l (D.els (gD (gL p 3) (tI p 5))), .i 0, aI p 0, aI p 1, .i (iE (gD (gL p 3) (tI p 5))), aL p 2, aL p 3, aI p 4, aI p 5] (.cons (fun p0 =>
 .out (0, [aI p0 0, aB p0 2, aL p0 3, aI p0 5]))
 (.cons (fun p0 =>
 .again [aI p0 0, aI p0 1, aL p0 2, aL p0 3, aI p0 4, .i (addA .i64 (gI p0 5) 1)])
 .nil)))
 (.bad))
 (.out (1, [aI p 0, aL p 2, aI p 4]))
def L_wf_formed_10 (p : List D) : Sh :=
 .ask (ltI (gI p 1) (gI p 4))
 (.ask (within (gI p 1) (List.length (gL p 0)))
 (.call wf_shaped [.l [.i (vI (gD (gL p 0) (tI p 1)) 0), .i (vI (gD (gL p 0) (tI p 1)) 1), .i (vI (gD (gL p 0) (tI p 1)) 2), .i (vI (gD (gL p 0) (tI p 1)) 3), .i (vI (gD (gL p 0) (tI p 1)) 4), .l (eX (gD (gL p 0) (tI p 1)) 5), .l (eX (gD (gL p 0) (tI p 1)) 6)]] 0 fun r0 _ =>
 .ask (!(D.toB r0))
 (.out (0, [aI p 2, aI p 3, .b false, aL p 5, aL p 6, aI p 7, aI p 8]))
 (.again [aL p 0, .i (addA .i64 (gI p 1) 1), aI p 2, aI p 3, aI p 4, aL p 5, aL p 6, aI p 7, aI p 8]))
 (.bad))
 (.out (1, [aI p 2, aI p 3, aL p 5, aL p 6, aI p 7, aI p 8]))
def S_wf_formed : STab := [(0, fun p => ⟨(t0 (t2 (.pb 1 0 0) Z (t0 (t0 (t1 (nI p 0)) Z) Z)) (t0 (t0 (t0 (t1 (fL 88 lt0 p 1)) Z) Z) (t0 (t0 (t1 (nI p 2)) Z) Z))), [(1, ⟨0, [fL 88 lt0 p 3, .fz [] 38 [.str, .sl false 2 [.int .i64]] (gL p 4), .fz [] 84 [.str, .sl false 3 [.int .i64]] (gL p 5), fL 43 lt1 p 6], none⟩)], [], 1⟩),
 (2, fun p => ⟨(t0 (t2 (.pb 1 0 0) (t0 (t0 Z (t1 (fL 3 [.int .i64] p 0))) Z) (t0 (t0 (t1 (nI p 1)) (t1 (nI p 2))) Z)) (t0 (t2 (.pb 4 0 0) (t0 (t1 (fL 88 lt0 p 3)) (t1 (nI p 4))) Z) (t0 (t0 (t1 (nI p 5)) Z) Z))), [(1, ⟨0, [fL 88 lt0 p 6, .fz [] 38 [.str, .sl false 2 [.int .i64]] (gL p 7), .fz [] 84 [.str, .sl false 3 [.int .i64]] (gL p 8), fL 43 lt1 p 9], none⟩), (4, ⟨0, [.str (gS p 10), fL 3 [.int .i64] p 11, nI p 12], none⟩)], [], 1⟩),
 (4, fun p => ⟨(t0 (t0 Z (t0 Z (t0 Z (t0 (t1 (nI p 0)) Z)))) (t0 (t0 Z (t0 Z (t0 (t1 (fL 43 lt1 p 1)) Z))) (t0 Z (t0 Z (t0 (t1 (nI p 2)) Z))))), [], [], 1⟩),
 (6, fun p => ⟨(t0 (t0 (t0 (t0 Z (t0 (t0 (t1 (nI p 0)) Z) Z)) Z) (t0 Z (t0 (t0 (t0 (t1 (fL 3 [.int .i64] p 1)) Z) Z) (t0 (t1 (nI p 2)) Z)))) (t0 (t0 (t1 (.pb 8 0 0)) (t0 Z (t0 (t1 (fL 43 lt1 p 3)) Z))) (t0 Z (t0 (t0 (t0 (t1 (nI p 4)) Z) Z) (t0 (t1 (nI p 5)) Z))))), [(8, ⟨0, [.str (gS p 6), nB p 7, fL 3 [.int .i64] p 8, nI p 9, fL 40 lt4 p 10], none⟩)], [], 1⟩),
 (8, fun p => ⟨(t0 (t0 Z (t0 Z (t0 Z (t0 (t1 (nI p 0)) (t0 (t1 (nI p 1)) Z))))) (t0 (t0 Z (t0 Z (t0 (t1 (fL 43 lt1 p 2)) (t0 (t1 (fL 40 lt4 p 3)) Z)))) (t0 Z (t0 Z (t0 (t1 (nI p 4)) (t0 (t1 (nI p 5)) Z)))))), [], [], 1⟩),
 (10, fun p => ⟨(t0 (t0 (t0 Z (t0 (t0 (t0 Z (t1 (fL 26 lt5 p 0))) Z) Z)) (t0 Z (t0 (t0 (t0 Z (t1 (nI p 1))) Z) (t0 (t1 (nI p 2)) (t0 (t1 (nI p 3)) Z))))) (t0 (t0 Z (t0 (t0 (t0 Z (t1 (nI p 4))) Z) (t0 (t1 (fL 43 lt1 p 5)) (t0 (t1 (fL 40 lt4 p 6)) Z)))) (t0 Z (t0 Z (t0 (t1 (nI p 7)) (t0 (t1 (nI p 8)) Z)))))), [], [], 1⟩)]
def T_wf_formed : TTab := [(0, [fun p => (.ret, ⟨(t0 (t1 (.pb 1 0 0)) (t1 (nB p 0))), [(1, ⟨0, [fL 88 lt0 p 1, .fz [] 38 [.str, .sl false 2 [.int .i64]] (gL p 2), .fz [] 84 [.str, .sl false 3 [.int .i64]] (gL p 3), fL 43 lt1 p 4], none⟩)], [], 1⟩),
  fun p => (.exit 0, ⟨(t0 (t1 (.pb 1 0 0)) (t0 Z Z)), [(1, ⟨0, [fL 88 lt0 p 0, .fz [] 38 [.str, .sl false 2 [.int .i64]] (gL p 1), .fz [] 84 [.str, .sl false 3 [.int .i64]] (gL p 2), fL 43 lt1 p 3], none⟩)], [], 1⟩)]),
 (2, [fun p => (.ret, ⟨(t0 (t2 (.pb 1 0 0) Z (t0 (t0 (t1 (nI p 0)) Z) Z)) (t2 (nB p 1) (t2 (.pb 4 0 0) (t0 (t1 (fL 88 lt0 p 2)) Z) Z) (t0 (t0 (t1 (nI p 3)) Z) Z))), [(1, ⟨0, [fL 88 lt0 p 4, .fz [] 38 [.str, .sl false 2 [.int .i64]] (gL p 5), .fz [] 84 [.str, .sl false 3 [.int .i64]] (gL p 6), fL 43 lt1 p 7], none⟩), (4, ⟨0, [.str (gS p 8), fL 3 [.int .i64] p 9, nI p 10], none⟩)], [], 1⟩),
  fun p => (.exit 2, ⟨(t0 (t2 (.pb 1 0 0) Z (t0 (t0 (t1 (nI p 0)) Z) Z)) (t0 (t2 (.pb 4 0 0) (t0 (t1 (fL 88 lt0 p 1)) Z) Z) (t0 (t0 (t1 (nI p 2)) Z) Z))), [(1, ⟨0, [fL 88 lt0 p 3, .fz [] 38 [.str, .sl false 2 [.int .i64]] (gL p 4), .fz [] 84 [.str, .sl false 3 [.int .i64]] (gL p 5), fL 43 lt1 p 6], none⟩), (4, ⟨0, [.str (gS p 7), fL 3 [.int .i64] p 8, nI p 9], none⟩)], [], 1⟩)]),
 (4, [fun p => (.ret, ⟨(t0 Z (t1 (nB p 0))), [], [], 1⟩),
  fun p => (.exit 4, ⟨(t0 Z (t0 Z Z)), [], [], 1⟩)]),
 (6, [fun p => (.ret, ⟨(t0 (t0 Z (t0 Z (t0 Z (t0 (t1 (nI p 0)) Z)))) (t2 (nB p 1) (t0 (t1 (.pb 8 0 0)) (t0 Z (t0 (t1 (fL 43 lt1 p 2)) Z))) (t0 Z (t0 Z (t0 (t1 (nI p 3)) Z))))), [(8, ⟨0, [.str (gS p 4), nB p 5, fL 3 [.int .i64] p 6, nI p 7, fL 40 lt4 p 8], none⟩)], [], 1⟩),
  fun p => (.exit 6, ⟨(t0 (t0 Z (t0 Z (t0 Z (t0 (t1 (nI p 0)) Z)))) (t0 (t0 (t1 (.pb 8 0 0)) (t0 Z (t0 (t1 (fL 43 lt1 p 1)) Z))) (t0 Z (t0 Z (t0 (t1 (nI p 2)) Z))))), [(8, ⟨0, [.str (gS p 3), nB p 4, fL 3 [.int .i64] p 5, nI p 6, fL 40 lt4 p 7], none⟩)], [], 1⟩)]),
 (8, [fun p => (.ret, ⟨(t0 (t0 Z (t0 Z (t0 Z (t0 (t1 (nI p 0)) Z)))) (t2 (nB p 1) (t0 Z (t0 Z (t0 (t1 (fL 43 lt1 p 2)) Z))) (t0 Z (t0 Z (t0 (t1 (nI p 3)) Z))))), [], [], 1⟩),
  fun p => (.exit 8, ⟨(t0 (t0 Z (t0 Z (t0 Z (t0 (t1 (nI p 0)) Z)))) (t0 (t0 Z (t0 Z (t0 (t1 (fL 43 lt1 p 1)) Z))) (t0 Z (t0 Z (t0 (t1 (nI p 2)) Z))))), [], [], 1⟩)]),
 (10, [fun p => (.ret, ⟨(t0 (t0 Z (t0 Z (t0 Z (t0 (t1 (nI p 0)) (t0 (t1 (nI p 1)) Z))))) (t2 (nB p 2) (t0 Z (t0 Z (t0 (t1 (fL 43 lt1 p 3)) (t0 (t1 (fL 40 lt4 p 4)) Z)))) (t0 Z (t0 Z (t0 (t1 (nI p 5)) (t0 (t1 (nI p 6)) Z)))))), [], [], 1⟩),
  fun p => (.exit 10, ⟨(t0 (t0 Z (t0 Z (t0 Z (t0 (t1 (nI p 0)) (t0 (t1 (nI p 1)) Z))))) (t0 (t0 Z (t0 Z (t0 (t1 (fL 43 lt1 p 2)) (t0 (t1 (fL 40 lt4 p 3)) Z)))) (t0 Z (t0 Z (t0 (t1 (nI p 4)) (t0 (t1 (nI p 5)) Z)))))), [], [], 1⟩)])]
def F_wf_formed : Fn := { np := 1, bs := [0, 2, 4, 6, 8, 10], main := M_wf_formed, lps := [(0, L_wf_formed_0), (2, L_wf_formed_2), (4, L_wf_formed_4), (6, L_wf_formed_6), (8, L_wf_formed_8), (10, L_wf_formed_10)] }
def M_wf_flows (x : List D) : Sh :=
 .loop 0 [.i 0, .l (eX (gD x 0) 4), .i (iX (gD x 0) 4), .s (D.toS (D.fld (gD x 0) 0)), .b (vB (gD x 0) 1), .l (eX (gD x 0) 2), .i (vI (gD x 0) 3), .l (eX (gD x 0) 4)] (.cons (fun p0 =>
 .ret (aB p0 0) [])
 (.cons (fun p0 =>
 .call flow_Reach [.l [aS p0 0, aB p0 1, aL p0 2, aI p0 3, aL p0 4]] 0 fun r1 _ =>
 .call slices_Contains_Sbool_bool [.l (D.els r1), .b false] 0 fun r2 _ =>
 .ask (D.toB r2)
 (.ret (.b false) [])
 (.call flow_Prev [.l [aS p0 0, aB p0 1, aL p0 2, aI p0 3, aL p0 4]] 0 fun r3 _ =>
 .loop 6 [.i 0, aL p0 4, .i (iL (gL p0 4)), .l (D.els r3)] (.cons (fun p4 =>
 .ret (aB p4 0) [])
 (.cons (fun p4 =>
 .ret (.b true) [])
 .nil))))
 .nil))
def L_wf_flows_0 (p : List D) : Sh :=
 .ask (ltI (gI p 0) (gI p 2))
 (.ask (within (gI p 0) (List.length (gL p 1)))
 (.ask (eqI (iE (gD (gL p 1) (tI p 0))) 0)
 (.out (0, [.b false, aS p 3, aB p 4, aL p 5, aI p 6, aL p 7]))
 (.loop 2 [aI p 0, .i 0, aI p 0, .b false, aL p 1, .l (D.els (gD (gL p 1) (tI p 0))), aI p 2, .i (iE (gD (gL p 1) (tI p 0))), aS p 3, aB p 4, aL p 5, aI p 6, aL p 7, .l (D.els (gD (gL p 1) (tI p 0)))] (.cons (fun p0 =>
 .out (0, [aB p0 2, aS p0 4, aB p0 5, aL p0 6, aI p0 7, aL p0 8]))
 (.cons (fun p0 =>
 .ask (within (wrapA .i64 ((iL (gL p0 8)) - 1)) (List.length (gL p0 8)))
 (.loop 4 (let z0 := eX (gD (gL p0 8) (Int.toNat (wrapA .i64 ((iL (gL p0 8)) - 1)))) 6; [aI p0 0, .i (iL z0), aL p0 1, .l z0, .i 0, aI p0 2, .l z0, aS p0 3, aB p0 4, aL p0 5, aI p0 6, aL p0 7]) (.cons (fun p1 =>
 .out (0, [aB p1 2, aS p1 5, aB p1 6, aL p1 7, aI p1 8, aL p1 9]))
 (.cons (fun p1 =>
 .ask ((!((eqI (iL (gL p1 2)) 2) && true)) || (within 0 (List.length (gL p1 2))))
 (.ask ((!((eqI (iL (gL p1 2)) 2) && true)) || (within 1 (List.length (gL p1 2))))
 (.ask ((eqI (iL (gL p1 2)) 2) && (eqI (D.toI (gD (gL p1 2) 0)) (D.toI (gD (gL p1 2) 1))))
 (.out (0, [.b false, aS p1 4, aB p1 5, aL p1 6, aI p1 7, aL p1 8]))
 (.again [.i (addA .i64 (gI p1 0) 1), aL p1 1, aI p1 3, aS p1 4, aB p1 5, aL p1 6, aI p1 7, aL p1 8]))
 (.bad))
 (.bad))
 .nil)))
 (.bad))
 .nil))))
 (.bad))
 (.out (1, [aS p 3, aB p 4, aL p 5, aI p 6, aL p 7]))
def L_wf_flows_2 (p : List D) : Sh :=
 .ask (ltI (gI p 1) (gI p 7))
 (.ask (within (gI p 1) (List.length (gL p 5)))
 (.call wf_Ends [.i (vI (gD (gL p 5) (tI p 1)) 0)] 0 fun r0 _ =>
 .ask ((!(bif D.toB r0 then eqI (gI p 1) (wrapA .i64 ((iL (gL p 13)) - 1)) else !(eqI (gI p 1) (wrapA .i64 ((iL (gL p 13)) - 1))))) || ((eqI (vI (gD (gL p 5) (tI p 1)) 0) 26) && ((gB p 3) || (eqI (gI p 0) 0))))
 (.out (0, [aI p 2, aL p 4, .b false, aI p 6, aS p 8, aB p 9, aL p 10, aI p 11, aL p 12, aL p 13]))
 (.again [aI p 0, .i (addA .i64 (gI p 1) 1), aI p 2, .b ((gB p 3) || (!(eqI (vI (gD (gL p 5) (tI p 1)) 0) 26))), aL p 4, aL p 5, aI p 6, aI p 7, aS p 8, aB p 9, aL p 10, aI p 11, aL p 12, aL p 13]))
 (.bad))
 (.out (1, [aI p 2, aL p 4, aI p 6, aS p 8, aB p 9, aL p 10, aI p 11, aL p 12, aL p 13]))
def L_wf_flows_4 (p : List D) : Sh :=
 .ask (ltI (gI p 4) (gI p 1))
 (.ask (within (gI p 4) (List.length (gL p 6)))
 (.ask ((ltI (D.toI (gD (gL p 6) (tI p 4))) 1) || (leI (iL (gL p 11)) (D.toI (gD (gL p 6) (tI p 4)))))
 (.out (0, [aI p 0, aL p 2, .b false, aL p 3, aI p 5, aS p 7, aB p 8, aL p 9, aI p 10, aL p 11]))
 (.again [aI p 0, aI p 1, aL p 2, aL p 3, .i (addA .i64 (gI p 4) 1), aI p 5, aL p 6, aS p 7, aB p 8, aL p 9, aI p 10, aL p 11]))
 (.bad))
 (.out (1, [aI p 0, aL p 2, aL p 3, aI p 5, aS p 7, aB p 8, aL p 9, aI p 10, aL p 11]))
def L_wf_flows_6 (p : List D) : Sh :=
 .ask (ltI (gI p 0) (gI p 2))
 (.ask (within (gI p 0) (List.length (gL p 1)))
 (.loop 8 [aI p 0, .i 0, .l (D.els (gD (gL p 1) (tI p 0))), aL p 1, aI p 0, .i (iE (gD (gL p 1) (tI p 0))), aI p 2, aL p 3] (.cons (fun p0 =>
 .out (0, [aB p0 2]))
 (.cons (fun p0 =>
 .again [.i (addA .i64 (gI p0 0) 1), aL p0 1, aI p0 2, aL p0 3])
 .nil)))
 (.bad))
 (.out (1, []))
def L_wf_flows_8 (p : List D) : Sh :=
 .ask (ltI (gI p 1) (gI p 5))
 (.ask (within (gI p 1) (List.length (gL p 2)))
 (.ask ((!((eqI (vI (gD (gL p 2) (tI p 1)) 0) 26) && true)) || (within (gI p 4) (List.length (gL p 7))))
 (.ask ((eqI (vI (gD (gL p 2) (tI p 1)) 0) 26) && true)
 (.call slices_Equal_Sint_int [.l (eX (gD (gL p 2) (tI p 1)) 6), .l (D.els (gD (gL p 7) (tI p 4)))] 0 fun r0 _ =>
 .ask ((eqI (vI (gD (gL p 2) (tI p 1)) 0) 26) && (!(D.toB r0)))
 (.out (0, [aI p 0, aL p 3, .b false, aI p 6, aL p 7]))
 (.again [aI p 0, .i (addA .i64 (gI p 1) 1), aL p 2, aL p 3, aI p 4, aI p 5, aI p 6, aL p 7]))
 (.ask ((eqI (vI (gD (gL p 2) (tI p 1)) 0) 26) && (!(D.toB (.i 0))))
 (.out (0, [aI p 0, aL p 3, .b false, aI p 6, aL p 7]))
 (.again [aI p 0, .i (addA .i64 (gI p 1) 1), aL p 2, aL p 3, aI p 4, aI p 5, aI p 6, aL p 7])))
 (.bad))
 (.bad))
 (.out (1, [aI p 0, aL p 3, aI p 6, aL p 7]))
def S_wf_flows : STab := [(0, fun p => ⟨(t0 (t2 (.pb 1 0 0) (t0 Z (t0 (t1 (nI p 0)) Z)) (t0 (t0 (t1 (fL 40 lt4 p 1)) Z) Z)) (t0 Z (t0 (t0 (t1 (nI p 2)) Z) Z))), [(1, ⟨0, [.str (gS p 3), nB p 4, fL 3 [.int .i64] p 5, nI p 6, fL 40 lt4 p 7], none⟩)], [], 1⟩),
 (2, fun p => ⟨(t0 (t2 (.pb 1 0 0) (t2 (nI p 0) (t0 (t0 (t1 (nI p 1)) Z) Z) (t0 (t1 (nI p 2)) Z)) (t2 (nB p 3) (t0 (t1 (fL 40 lt4 p 4)) Z) (t0 Z (t1 (fL 26 lt5 p 5))))) (t0 (t1 (.pb 4 0 0)) (t0 (t0 (t1 (nI p 6)) Z) (t0 Z (t1 (nI p 7)))))), [(1, ⟨0, [.str (gS p 8), nB p 9, fL 3 [.int .i64] p 10, nI p 11, fL 40 lt4 p 12], none⟩), (4, ⟨0, [fL 26 lt5 p 13], none⟩)], [], 1⟩),
 (4, fun p => ⟨(t0 (t2 (.pb 1 0 0) (t0 Z (t0 (t1 (nI p 0)) (t0 (t0 (t1 (nI p 1)) Z) Z))) (t0 (t0 (t1 (fL 40 lt4 p 2)) Z) Z)) (t0 (t0 (t1 (fL 3 [.int .i64] p 3)) (t0 Z (t0 (t0 (t1 (nI p 4)) Z) Z))) (t0 (t0 (t1 (nI p 5)) (t0 (t0 (t1 (fL 3 [.int .i64] p 6)) Z) Z)) Z))), [(1, ⟨0, [.str (gS p 7), nB p 8, fL 3 [.int .i64] p 9, nI p 10, fL 40 lt4 p 11], none⟩)], [], 1⟩),
 (6, fun p => ⟨(t0 (t0 (t0 (t0 (t0 Z (t0 Z (t1 (nI p 0)))) Z) (t1 (.vw 108000000 0 []))) (t0 Z (t0 Z (t0 (t0 Z (t1 (fL 40 lt4 p 1))) Z)))) (t0 Z (t0 Z (t0 Z (t0 (t0 Z (t1 (nI p 2))) Z))))), [], [(108000000, ⟨24, [.sl true 3 [.int .i64]], (gL p 3), [], 0, [0, 0, 0, 0], 0⟩)], 1⟩),
 (8, fun p => ⟨(t0 (t0 (t0 (t0 (t0 Z (t0 Z (t1 (nI p 0)))) (t0 Z (t0 Z (t1 (nI p 1))))) (t1 (.vw 108000000 0 []))) (t0 Z (t0 (t0 Z (t0 Z (t1 (fL 26 lt5 p 2)))) (t0 (t0 Z (t1 (fL 40 lt4 p 3))) Z)))) (t0 (t0 Z (t1 (nI p 4))) (t0 Z (t0 (t0 Z (t0 Z (t1 (nI p 5)))) (t0 (t0 Z (t1 (nI p 6))) Z))))), [], [(108000000, ⟨24, [.sl true 3 [.int .i64]], (gL p 7), [], 0, [0, 0, 0, 0], 0⟩)], 1⟩)]
def T_wf_flows : TTab := [(0, [fun p => (.ret, ⟨(t0 (t1 (.pb 1 0 0)) (t1 (nB p 0))), [(1, ⟨0, [.str (gS p 1), nB p 2, fL 3 [.int .i64] p 3, nI p 4, fL 40 lt4 p 5], none⟩)], [], 1⟩),
  fun p => (.exit 0, ⟨(t0 (t1 (.pb 1 0 0)) (t0 Z Z)), [(1, ⟨0, [.str (gS p 0), nB p 1, fL 3 [.int .i64] p 2, nI p 3, fL 40 lt4 p 4], none⟩)], [], 1⟩)]),
 (2, [fun p => (.ret, ⟨(t0 (t2 (.pb 1 0 0) (t0 Z (t0 (t1 (nI p 0)) Z)) (t0 (t0 (t1 (fL 40 lt4 p 1)) Z) Z)) (t2 (nB p 2) (t1 (.pb 4 0 0)) (t0 (t0 (t1 (nI p 3)) Z) Z))), [(1, ⟨0, [.str (gS p 4), nB p 5, fL 3 [.int .i64] p 6, nI p 7, fL 40 lt4 p 8], none⟩), (4, ⟨0, [fL 26 lt5 p 9], none⟩)], [], 1⟩),
  fun p => (.exit 2, ⟨(t0 (t2 (.pb 1 0 0) (t0 Z (t0 (t1 (nI p 0)) Z)) (t0 (t0 (t1 (fL 40 lt4 p 1)) Z) Z)) (t0 (t1 (.pb 4 0 0)) (t0 (t0 (t1 (nI p 2)) Z) Z))), [(1, ⟨0, [.str (gS p 3), nB p 4, fL 3 [.int .i64] p 5, nI p 6, fL 40 lt4 p 7], none⟩), (4, ⟨0, [fL 26 lt5 p 8], none⟩)], [], 1⟩)]),
 (4, [fun p => (.ret, ⟨(t0 (t2 (.pb 1 0 0) (t0 Z (t0 (t1 (nI p 0)) Z)) (t0 (t0 (t1 (fL 40 lt4 p 1)) Z) Z)) (t2 (nB p 2) (t0 (t1 (fL 3 [.int .i64] p 3)) Z) (t0 (t0 (t1 (nI p 4)) Z) Z))), [(1, ⟨0, [.str (gS p 5), nB p 6, fL 3 [.int .i64] p 7, nI p 8, fL 40 lt4 p 9], none⟩)], [], 1⟩),
  fun p => (.exit 4, ⟨(t0 (t2 (.pb 1 0 0) (t0 Z (t0 (t1 (nI p 0)) Z)) (t0 (t0 (t1 (fL 40 lt4 p 1)) Z) Z)) (t0 (t0 (t1 (fL 3 [.int .i64] p 2)) Z) (t0 (t0 (t1 (nI p 3)) Z) Z))), [(1, ⟨0, [.str (gS p 4), nB p 5, fL 3 [.int .i64] p 6, nI p 7, fL 40 lt4 p 8], none⟩)], [], 1⟩)]),
 (6, [fun p => (.ret, ⟨(t0 Z (t1 (nB p 0))), [], [], 1⟩),
  fun p => (.exit 6, ⟨(t0 Z (t0 Z Z)), [], [], 1⟩)]),
 (8, [fun p => (.ret, ⟨(t0 (t0 (t0 (t0 (t0 Z (t0 Z (t1 (nI p 0)))) Z) (t1 (.vw 108000000 0 []))) (t0 Z (t0 Z (t0 (t0 Z (t1 (fL 40 lt4 p 1))) Z)))) (t2 (nB p 2) Z (t0 Z (t0 Z (t0 (t0 Z (t1 (nI p 3))) Z))))), [], [(108000000, ⟨24, [.sl true 3 [.int .i64]], (gL p 4), [], 0, [0, 0, 0, 0], 0⟩)], 1⟩),
  fun p => (.exit 8, ⟨(t0 (t0 (t0 (t0 (t0 Z (t0 Z (t1 (nI p 0)))) Z) (t1 (.vw 108000000 0 []))) (t0 Z (t0 Z (t0 (t0 Z (t1 (fL 40 lt4 p 1))) Z)))) (t0 Z (t0 Z (t0 Z (t0 (t0 Z (t1 (nI p 2))) Z))))), [], [(108000000, ⟨24, [.sl true 3 [.int .i64]], (gL p 3), [], 0, [0, 0, 0, 0], 0⟩)], 1⟩)])]
def F_wf_flows : Fn := { np := 1, bs := [0, 2, 4, 6, 8], main := M_wf_flows, lps := [(0, L_wf_flows_0), (2, L_wf_flows_2), (4, L_wf_flows_4), (6, L_wf_flows_6), (8, L_wf_flows_8)] }
def M_ir_Types (x : List D) : Sh :=
 .ask (lim (1 + (nX (gD x 0) 2)) 8)
 (.loop 0 [.i 0, .l (eX (gD x 0) 4), .i (iX (gD x 0) 4), .l ([.i 0] ++ (eX (gD x 0) 2))] (.cons (fun p0 =>
 .ret (aL p0 0) [])
 .nil))
 (.bad)
def L_ir_Types_0 (p : List D) : Sh :=
 .ask (ltI (gI p 0) (gI p 2))
 (.ask (within (gI p 0) (List.length (gL p 1)))
 (.loop 2 [aI p 0, aL p 1, .i (iE (gD (gL p 1) (tI p 0))), .l (D.els (gD (gL p 1) (tI p 0))), aI p 2, .i 0, aL p 3] (.cons (fun p0 =>
 .again [.i (addA .i64 (gI p0 0) 1), aL p0 1, aI p0 2, aL p0 3])
 .nil))
 (.bad))
 (.out (0, [aL p 3]))
def L_ir_Types_2 (p : List D) : Sh :=
 .ask (ltI (gI p 5) (gI p 2))
 (.ask (within (gI p 5) (List.length (gL p 3)))
 (.ask (!(eqI (vI (gD (gL p 3) (tI p 5)) 1) 0))
 (.ask (lim ((List.length (gL p 6)) + 1) 8)
 (.again [aI p 0, aL p 1, aI p 2, aL p 3, aI p 4, .i (addA .i64 (gI p 5) 1), .l ((gL p 6) ++ [.i (vI (gD (gL p 3) (tI p 5)) 1)])])
 (.bad))
 (.again [aI p 0, aL p 1, aI p 2, aL p 3, aI p 4, .i (addA .i64 (gI p 5) 1), aL p 6]))
 (.bad))
 (.out (0, [aI p 0, aL p 1, aI p 4, aL p 6]))
def S_ir_Types : STab := [(0, fun p => ⟨(t0 (t0 (t2 (.vw 200003 0 []) (t0 (t1 (nI p 0)) Z) Z) (t0 Z (t1 (fL 40 lt4 p 1)))) (t0 Z (t0 Z (t1 (nI p 2))))), [], [aR 200003 3 [.int .i64] (gL p 3)], 1⟩),
 (2, fun p => ⟨(t0 (t0 (t2 (.vw 200003 0 []) (t0 (t1 (nI p 0)) Z) Z) (t0 Z (t2 (fL 40 lt4 p 1) (t1 (nI p 2)) Z))) (t0 (t0 Z (t0 (t1 (fL 26 lt5 p 3)) Z)) (t0 Z (t2 (nI p 4) (t1 (nI p 5)) Z)))), [], [aR 200003 3 [.int .i64] (gL p 6)], 1⟩)]
def T_ir_Types : TTab := [(0, [fun p => (.exit 0, ⟨(t0 (t0 (t1 (.vw 200003 0 [])) Z) (t0 Z Z)), [], [aR 200003 3 [.int .i64] (gL p 0)], 1⟩)]),
 (2, [fun p => (.exit 2, ⟨(t0 (t0 (t2 (.vw 200003 0 []) (t0 (t1 (nI p 0)) Z) Z) (t0 Z (t1 (fL 40 lt4 p 1)))) (t0 Z (t0 Z (t1 (nI p 2))))), [], [aR 200003 3 [.int .i64] (gL p 3)], 1⟩)])]
def F_ir_Types : Fn := { np := 1, bs := [0, 2], main := M_ir_Types, lps := [(0, L_ir_Types_0), (2, L_ir_Types_2)] }
def M_slices_Clone_Sint_int (x : List D) : Sh :=
 .ask (isNl (D.els (gD x 0)))
 (.bad)
 (.ask false
 (.ret (.l []) [])
 (.ask (lim (0 + (nE (gD x 0))) 8)
 (.ret (.l (D.els (gD x 0))) [])
 (.bad)))
def S_slices_Clone_Sint_int : STab := []
def T_slices_Clone_Sint_int : TTab := []
def F_slices_Clone_Sint_int : Fn := { np := 1, bs := [], main := M_slices_Clone_Sint_int, lps := [] }
def M_facts_Facts_effect (x : List D) : Sh :=
 .ask (within (D.toI (gD x 1)) (nX (gD x 0) 5))
 (.ask (within (D.toI (gD x 1)) (nX (gD x 0) 3))
 (.loop 7000 [.i (iX (gD (eX (gD x 0) 3) (Int.toNat (D.toI (gD x 1)))) 4), .i 0, .l (eX (gD (eX (gD x 0) 3) (Int.toNat (D.toI (gD x 1)))) 4), (gD x 0), .i (D.toI (gD x 1)), .l (D.els (gD x 2)), .b false, .b false, gD (eX (gD x 0) 5) (Int.toNat (D.toI (gD x 1))), .l [], .l [], .l [], .l []] (.cons (fun p0 =>
 .call facts_risen [aL p0 2] 0 fun r1 _ =>
 .ask true
 (.call facts_risen [aL p0 3] 0 fun r2 _ =>
 .call facts_risen [aL p0 4] 0 fun r3 _ =>
 .ask true
 (.call facts_risen [aL p0 5] 0 fun r4 _ =>
 .ret (.l [.l (D.els r1), .l (D.els r2), .l (D.els r3), .l (D.els r4), aB p0 1]) [])
 (.bad))
 (.bad))
 .nil))
 (.bad))
 (.bad)
def L_facts_Facts_effect_7000 (p : List D) : Sh :=
 .ask (ltI (gI p 1) (gI p 0))
 (.ask (within (gI p 1) (List.length (gL p 2)))
 (.loop 7002 [aI p 0, .i 0, .l (D.els (gD (gL p 2) (tI p 1))), aI p 1, aL p 2, .i (iE (gD (gL p 2) (tI p 1))), (gD p 3), aI p 4, aL p 5, aB p 6, aB p 7, (gD p 8), aL p 9, aL p 10, aL p 11, aL p 12] (.cons (fun p0 =>
 .again [aI p0 0, .i (addA .i64 (gI p0 1) 1), aL p0 2, (gD p0 3), aI p0 4, aL p0 5, aB p0 6, aB p0 7, (gD p0 8), aL p0 9, aL p0 10, aL p0 11, aL p0 12])
 .nil))
 (.bad))
 (.out (0, [aB p 6, aB p 7, aL p 9, aL p 10, aL p 11, aL p 12]))
def J_facts_Facts_effect_0 (p0 : List D) : Sh :=
 .ask (bounds 1 (iL (gL p0 17)) (iL (gL p0 17)))
 (.call facts_Facts_At [(gD p0 6), aI p0 7, .l [aI p0 12, aI p0 13, aI p0 14, aI p0 15, aI p0 16, aL p0 17, aL p0 18]] 0 fun r1 _ =>
 .loop 8001 [.l (List.drop 1 (List.take (List.length (gL p0 17)) (gL p0 17))), aI p0 0, aI p0 1, aL p0 2, .i (iE r1), aI p0 3, aL p0 4, aI p0 5, .i 0, (gD p0 6), aI p0 7, aL p0 8, aB p0 9, aB p0 10, (gD p0 11), aL p0 19, aL p0 20, aL p0 21, aL p0 22, .l (D.els r1)] (.cons (fun p2 =>
 .again [aI p2 0, .i (addA .i64 (gI p2 1) 1), aL p2 2, aI p2 3, aL p2 4, aI p2 5, (gD p2 6), aI p2 7, aL p2 8, aB p2 9, aB p2 10, (gD p2 11), aL p2 12, aL p2 13, aL p2 14, aL p2 15])
 .nil))
 (.bad)
def J_facts_Facts_effect_1 (p0 : List D) : Sh :=
 .call facts_Facts_At [(gD p0 6), aI p0 7, .l [aI p0 12, aI p0 13, aI p0 14, aI p0 15, aI p0 16, aL p0 17, aL p0 18]] 0 fun r1 _ =>
 .loop 8001 [aL p0 17, aI p0 0, aI p0 1, aL p0 2, .i (iE r1), aI p0 3, aL p0 4, aI p0 5, .i 0, (gD p0 6), aI p0 7, aL p0 8, aB p0 9, aB p0 10, (gD p0 11), aL p0 19, aL p0 20, aL p0 21, aL p0 22, .l (D.els r1)] (.cons (fun p2 =>
 .again [aI p2 0, .i (addA .i64 (gI p2 1) 1), aL p2 2, aI p2 3, aL p2 4, aI p2 5, (gD p2 6), aI p2 7, aL p2 8, aB p2 9, aB p2 10, (gD p2 11), aL p2 12, aL p2 13, aL p2 14, aL p2 15])
 .nil)
def L_facts_Facts_effect_7002 (p : List D) : Sh :=
 .ask (ltI (gI p 1) (gI p 5))
 (.ask (within (gI p 1) (List.length (gL p 2)))
 (.ask (eqI (vI (gD (gL p 2) (tI p 1)) 0) 23)
 (.ask (eqI (vI (gD (gL p 2) (tI p 1)) 0) 25)
 (.ask (bounds 1 (iX (gD (gL p 2) (tI p 1)) 5) (iX (gD (gL p 2) (tI p 1)) 5))
 (.call facts_Facts_At [(gD p 6), aI p 7, .l [.i (vI (gD (gL p 2) (tI p 1)) 0), .i (vI (gD (gL p 2) (tI p 1)) 1), .i (vI (gD (gL p 2) (tI p 1)) 2), .i (vI (gD (gL p 2) (tI p 1)) 3), .i (vI (gD (gL p 2) (tI p 1)) 4), .l (eX (gD (gL p 2) (tI p 1)) 5), .l (eX (gD (gL p 2) (tI p 1)) 6)]] 0 fun r0 _ =>
 .loop 8001 [.l (List.drop 1 (List.take (nX (gD (gL p 2) (tI p 1)) 5) (eX (gD (gL p 2) (tI p 1)) 5))), aI p 0, aI p 1, aL p 2, .i (iE r0), aI p 3, aL p 4, aI p 5, .i 0, (gD p 6), aI p 7, aL p 8, aB p 9, .b true, (gD p 11), aL p 12, aL p 13, aL p 14, aL p 15, .l (D.els r0)] (.cons (fun p1 =>
 .again [aI p1 0, .i (addA .i64 (gI p1 1) 1), aL p1 2, aI p1 3, aL p1 4, aI p1 5, (gD p1 6), aI p1 7, aL p1 8, aB p1 9, aB p1 10, (gD p1 11), aL p1 12, aL p1 13, aL p1 14, aL p1 15])
 .nil))
 (.bad))
 (.call facts_Facts_At [(gD p 6), aI p 7, .l [.i (vI (gD (gL p 2) (tI p 1)) 0), .i (vI (gD (gL p 2) (tI p 1)) 1), .i (vI (gD (gL p 2) (tI p 1)) 2), .i (vI (gD (gL p 2) (tI p 1)) 3), .i (vI (gD (gL p 2) (tI p 1)) 4), .l (eX (gD (gL p 2) (tI p 1)) 5), .l (eX (gD (gL p 2) (tI p 1)) 6)]] 0 fun r0 _ =>
 .loop 8001 [.l (eX (gD (gL p 2) (tI p 1)) 5), aI p 0, aI p 1, aL p 2, .i (iE r0), aI p 3, aL p 4, aI p 5, .i 0, (gD p 6), aI p 7, aL p 8, aB p 9, .b true, (gD p 11), aL p 12, aL p 13, aL p 14, aL p 15, .l (D.els r0)] (.cons (fun p1 =>
 .again [aI p1 0, .i (addA .i64 (gI p1 1) 1), aL p1 2, aI p1 3, aL p1 4, aI p1 5, (gD p1 6), aI p1 7, aL p1 8, aB p1 9, aB p1 10, (gD p1 11), aL p1 12, aL p1 13, aL p1 14, aL p1 15])
 .nil)))
 (.ask (eqI (vI (gD (gL p 2) (tI p 1)) 0) 20)
 (.ask (within 0 (nX (gD (gL p 2) (tI p 1)) 5))
 (.ask (within (D.toI (gD (eX (gD (gL p 2) (tI p 1)) 5) 0)) (nX (gD p 11) 1))
 (.loop 9000 (let z0 := D.els (gD (eX (gD p 11) 1) (Int.toNat (D.toI (gD (eX (gD (gL p 2) (tI p 1)) 5) 0)))); [aI p 0, aI p 1, .i (iL z0), aL p 2, .l z0, aI p 3, .i 0, aL p 4, aI p 5, (gD p 6), aI p 7, aL p 8, aB p 9, aB p 10, (gD p 11), .i (vI (gD (gL p 2) (tI p 1)) 0), .i (vI (gD (gL p 2) (tI p 1)) 1), .i (vI (gD (gL p 2) (tI p 1)) 2), .i (vI (gD (gL p 2) (tI p 1)) 3), .i (vI (gD (gL p 2) (tI p 1)) 4), .l (eX (gD (gL p 2) (tI p 1)) 5), .l (eX (gD (gL p 2) (tI p 1)) 6), aL p 12, aL p 13, aL p 14, aL p 15]) (.cons (fun p0 =>
 .ask (eqI (gI p0 12) 25)
 (J_facts_Facts_effect_0 p0)
 (J_facts_Facts_effect_1 p0))
 .nil))
 (.bad))
 (.bad))
 (.ask (eqI (vI (gD (gL p 2) (tI p 1)) 0) 21)
 (.ask (within 0 (nX (gD (gL p 2) (tI p 1)) 5))
 (.ask (within (D.toI (gD (eX (gD (gL p 2) (tI p 1)) 5) 0)) (nX (gD p 11) 1))
 (.loop 10000 (let z0 := D.els (gD (eX (gD p 11) 1) (Int.toNat (D.toI (gD (eX (gD (gL p 2) (tI p 1)) 5) 0)))); [aI p 0, aI p 1, .i (iL z0), aL p 2, .l z0, aI p 3, .i 0, aL p 4, aI p 5, (gD p 6), aI p 7, aL p 8, aB p 9, aB p 10, (gD p 11), .i (vI (gD (gL p 2) (tI p 1)) 0), .i (vI (gD (gL p 2) (tI p 1)) 1), .i (vI (gD (gL p 2) (tI p 1)) 2), .i (vI (gD (gL p 2) (tI p 1)) 3), .i (vI (gD (gL p 2) (tI p 1)) 4), .l (eX (gD (gL p 2) (tI p 1)) 5), .l (eX (gD (gL p 2) (tI p 1)) 6), aL p 12, aL p 13, aL p 14, aL p 15]) (.cons (fun p0 =>
 .ask (eqI (gI p0 12) 25)
 (J_facts_Facts_effect_0 p0)
 (J_facts_Facts_effect_1 p0))
 .nil))
 (.bad))
 (.bad))
 (.ask (eqI (vI (gD (gL p 2) (tI p 1)) 0) 25)
 (.ask (bounds 1 (iX (gD (gL p 2) (tI p 1)) 5) (iX (gD (gL p 2) (tI p 1)) 5))
 (.call facts_Facts_At [(gD p 6), aI p 7, .l [.i (vI (gD (gL p 2) (tI p 1)) 0), .i (vI (gD (gL p 2) (tI p 1)) 1), .i (vI (gD (gL p 2) (tI p 1)) 2), .i (vI (gD (gL p 2) (tI p 1)) 3), .i (vI (gD (gL p 2) (tI p 1)) 4), .l (eX (gD (gL p 2) (tI p 1)) 5), .l (eX (gD (gL p 2) (tI p 1)) 6)]] 0 fun r0 _ =>
 .loop 8001 [.l (List.drop 1 (List.take (nX (gD (gL p 2) (tI p 1)) 5) (eX (gD (gL p 2) (tI p 1)) 5))), aI p 0, aI p 1, aL p 2, .i (iE r0), aI p 3, aL p 4, aI p 5, .i 0, (gD p 6), aI p 7, aL p 8, aB p 9, aB p 10, (gD p 11), aL p 12, aL p 13, aL p 14, aL p 15, .l (D.els r0)] (.cons (fun p1 =>
 .again [aI p1 0, .i (addA .i64 (gI p1 1) 1), aL p1 2, aI p1 3, aL p1 4, aI p1 5, (gD p1 6), aI p1 7, aL p1 8, aB p1 9, aB p1 10, (gD p1 11), aL p1 12, aL p1 13, aL p1 14, aL p1 15])
 .nil))
 (.bad))
 (.call facts_Facts_At [(gD p 6), aI p 7, .l [.i (vI (gD (gL p 2) (tI p 1)) 0), .i (vI (gD (gL p 2) (tI p 1)) 1), .i (vI (gD (gL p 2) (tI p 1)) 2), .i (vI (gD (gL p 2) (tI p 1)) 3), .i (vI (gD (gL p 2) (tI p 1)) 4), .l (eX (gD (gL p 2) (tI p 1)) 5), .l (eX (gD (gL p 2) (tI p 1)) 6)]] 0 fun r0 _ =>
 .loop 8001 [.l (eX (gD (gL p 2) (tI p 1)) 5), aI p 0, aI p 1, aL p 2, .i (iE r0), aI p 3, aL p 4, aI p 5, .i 0, (gD p 6), aI p 7, aL p 8, aB p 9, aB p 10, (gD p 11), aL p 12, aL p 13, aL p 14, aL p 15, .l (D.els r0)] (.cons (fun p1 =>
 .again [aI p1 0, .i (addA .i64 (gI p1 1) 1), aL p1 2, aI p1 3, aL p1 4, aI p1 5, (gD p1 6), aI p1 7, aL p1 8, aB p1 9, aB p1 10, (gD p1 11), aL p1 12, aL p1 13, aL p1 14, aL p1 15])
 .nil))))))
 (.bad))
 (.out (0, [aI p 0, aI p 3, aL p 4, (gD p 6), aI p 7, aL p 8, aB p 9, aB p 10, (gD p 11), aL p 12, aL p 13, aL p 14, aL p 15]))
def L_facts_Facts_effect_8001 (p : List D) : Sh :=
 .ask (ltI (gI p 8) (gI p 4))
 (.ask (within (gI p 8) (List.length (gL p 19)))
 (.ask (within (D.toI (gD (gL p 19) (tI p 8))) (List.length (gL p 11)))
 (.ask (lim ((List.length (gL p 15)) + (nX (gD (gL p 11) (Int.toNat (D.toI (gD (gL p 19) (tI p 8))))) 0)) 8)
 (.ask (lim ((List.length (gL p 16)) + (nX (gD (gL p 11) (Int.toNat (D.toI (gD (gL p 19) (tI p 8))))) 1)) 8)
 (.loop 8003 [aL p 0, aI p 1, .i (iX (gD (gL p 11) (Int.toNat (D.toI (gD (gL p 19) (tI p 8))))) 2), aI p 2, aL p 3, aI p 4, aI p 5, .i 0, aL p 6, .l (eX (gD (gL p 11) (Int.toNat (D.toI (gD (gL p 19) (tI p 8))))) 2), aI p 7, aI p 8, (gD p 9), aI p 10, aL p 11, aB p 12, .b ((gB p 13) || (vB (gD (gL p 11) (Int.toNat (D.toI (gD (gL p 19) (tI p 8))))) 4)), (gD p 14), .l (eX (gD (gL p 11) (Int.toNat (D.toI (gD (gL p 19) (tI p 8))))) 0), .l (eX (gD (gL p 11) (Int.toNat (D.toI (gD (gL p 19) (tI p 8))))) 1), .l (eX (gD (gL p 11) (Int.toNat (D.toI (gD (gL p 19) (tI p 8))))) 2), .l (eX (gD (gL p 11) (Int.toNat (D.toI (gD (gL p 19) (tI p 8))))) 3), .b (vB (gD (gL p 11) (Int.toNat (D.toI (gD (gL p 19) (tI p 8))))) 4), .l ((gL p 15) ++ (eX (gD (gL p 11) (Int.toNat (D.toI (gD (gL p 19) (tI p 8))))) 0)), .l ((gL p 16) ++ (eX (gD (gL p 11) (Int.toNat (D.toI (gD (gL p 19) (tI p 8))))) 1)), aL p 17, aL p 18, aL p 19] (.cons (fun p0 =>
 .loop 8005 [aL p0 0, aI p0 1, aI p0 2, .i (iL (gL p0 18)), aL p0 3, aI p0 4, aL p0 18, aI p0 5, aL p0 6, .i 0, aI p0 7, aI p0 8, (gD p0 9), aI p0 10, aL p0 11, aB p0 12, aB p0 13, (gD p0 14), aL p0 20, aL p0 21, aL p0 22, aL p0 23, aL p0 24] (.cons (fun p1 =>
 .again [aL p1 0, aI p1 1, aI p1 2, aL p1 3, aI p1 4, aI p1 5, aL p1 6, aI p1 7, .i (addA .i64 (gI p1 8) 1), (gD p1 9), aI p1 10, aL p1 11, aB p1 12, aB p1 13, (gD p1 14), aL p1 15, aL p1 16, aL p1 17, aL p1 18, aL p1 19])
 .nil))
 .nil))
 (.bad))
 (.bad))
 (.bad))
 (.bad))
 (.out (0, [aI p 1, aI p 2, aL p 3, aI p 5, aL p 6, aI p 7, (gD p 9), aI p 10, aL p 11, aB p 12, aB p 13, (gD p 14), aL p 15, aL p 16, aL p 17, aL p 18]))
def L_facts_Facts_effect_8003 (p : List D) : Sh :=
 .ask (ltI (gI p 7) (gI p 2))
 (.ask (within (gI p 7) (List.length (gL p 9)))
 (.ask (within (wrapA .i64 ((D.toI (gD (gL p 9) (tI p 7))) - 1)) (List.length (gL p 0)))
 (.ask (within (D.toI (gD (gL p 0) (Int.toNat (wrapA .i64 ((D.toI (gD (gL p 9) (tI p 7))) - 1))))) (nX (gD p 17) 1))
 (.loop 11000 (let z0 := D.els (gD (eX (gD p 17) 1) (Int.toNat (D.toI (gD (gL p 0) (Int.toNat (wrapA .i64 ((D.toI (gD (gL p 9) (tI p 7))) - 1))))))); [aL p 0, aI p 1, aI p 2, aI p 3, .i (iL z0), aL p 4, aI p 5, .l z0, aI p 6, aI p 7, .i 0, aL p 8, aL p 9, aI p 10, aI p 11, (gD p 12), aI p 13, aL p 14, aB p 15, aB p 16, (gD p 17), aL p 18, aL p 19, aL p 20, aL p 21, aB p 22, aL p 23, aL p 24, aL p 25, aL p 26, aL p 27]) (.cons (fun p0 =>
 .again [aL p0 0, aI p0 1, aI p0 2, aI p0 3, aL p0 4, aI p0 5, aI p0 6, .i (addA .i64 (gI p0 7) 1), aL p0 8, aL p0 9, aI p0 10, aI p0 11, (gD p0 12), aI p0 13, aL p0 14, aB p0 15, aB p0 16, (gD p0 17), aL p0 18, aL p0 19, aL p0 20, aL p0 21, aB p0 22, aL p0 23, aL p0 24, aL p0 25, aL p0 26, aL p0 27])
 .nil))
 (.bad))
 (.bad))
 (.bad))
 (.out (0, [aL p 0, aI p 1, aI p 3, aL p 4, aI p 5, aI p 6, aL p 8, aI p 10, aI p 11, (gD p 12), aI p 13, aL p 14, aB p 15, aB p 16, (gD p 17), aL p 18, aL p 19, aL p 20, aL p 21, aB p 22, aL p 23, aL p 24, aL p 25, aL p 26, aL p 27]))
def L_facts_Facts_effect_11000 (p : List D) : Sh :=
 .ask (ltI (gI p 10) (gI p 4))
 (.ask (within (gI p 10) (List.length (gL p 7)))
 (.ask (eqI (vI (gD (gL p 7) (tI p 10)) 0) 3)
 (.ask (lim ((List.length (gL p 26)) + 1) 8)
 (.again [aL p 0, aI p 1, aI p 2, aI p 3, aI p 4, aL p 5, aI p 6, aL p 7, aI p 8, aI p 9, .i (addA .i64 (gI p 10) 1), aL p 11, aL p 12, aI p 13, aI p 14, (gD p 15), aI p 16, aL p 17, aB p 18, aB p 19, (gD p 20), aL p 21, aL p 22, aL p 23, aL p 24, aB p 25, .l ((gL p 26) ++ [.i (vI (gD (gL p 7) (tI p 10)) 1)]), aL p 27, aL p 28, aL p 29, aL p 30])
 (.bad))
 (.ask (eqI (vI (gD (gL p 7) (tI p 10)) 0) 1)
 (.ask (lim ((List.length (gL p 28)) + 1) 8)
 (.again [aL p 0, aI p 1, aI p 2, aI p 3, aI p 4, aL p 5, aI p 6, aL p 7, aI p 8, aI p 9, .i (addA .i64 (gI p 10) 1), aL p 11, aL p 12, aI p 13, aI p 14, (gD p 15), aI p 16, aL p 17, aB p 18, aB p 19, (gD p 20), aL p 21, aL p 22, aL p 23, aL p 24, aB p 25, aL p 26, aL p 27, .l ((gL p 28) ++ [.i (vI (gD (gL p 7) (tI p 10)) 1)]), aL p 29, aL p 30])
 (.bad))
 (.again [aL p 0, aI p 1, aI p 2, aI p 3, aI p 4, aL p 5, aI p 6, aL p 7, aI p 8, aI p 9, .i (addA .i64 (gI p 10) 1), aL p 11, aL p 12, aI p 13, aI p 14, (gD p 15), aI p 16, aL p 17, aB p 18, aB p 19, (gD p 20), aL p 21, aL p 22, aL p 23, aL p 24, aB p 25, aL p 26, aL p 27, aL p 28, aL p 29, aL p 30])))
 (.bad))
 (.out (0, [aL p 0, aI p 1, aI p 2, aI p 3, aL p 5, aI p 6, aI p 8, aI p 9, aL p 11, aL p 12, aI p 13, aI p 14, (gD p 15), aI p 16, aL p 17, aB p 18, aB p 19, (gD p 20), aL p 21, aL p 22, aL p 23, aL p 24, aB p 25, aL p 26, aL p 27, aL p 28, aL p 29, aL p 30]))
def L_facts_Facts_effect_8005 (p : List D) : Sh :=
 .ask (ltI (gI p 9) (gI p 3))
 (.ask (within (gI p 9) (List.length (gL p 6)))
 (.ask (within (wrapA .i64 ((D.toI (gD (gL p 6) (tI p 9))) - 1)) (List.length (gL p 0)))
 (.ask (within (D.toI (gD (gL p 0) (Int.toNat (wrapA .i64 ((D.toI (gD (gL p 6) (tI p 9))) - 1))))) (nX (gD p 17) 1))
 (.loop 12000 (let z0 := D.els (gD (eX (gD p 17) 1) (Int.toNat (D.toI (gD (gL p 0) (Int.toNat (wrapA .i64 ((D.toI (gD (gL p 6) (tI p 9))) - 1))))))); [aL p 0, aI p 1, aI p 2, .i (iL z0), aI p 3, aL p 4, aI p 5, .l z0, aL p 6, aI p 7, .i 0, aL p 8, aI p 9, aI p 10, aI p 11, (gD p 12), aI p 13, aL p 14, aB p 15, aB p 16, (gD p 17), aL p 18, aL p 19, aL p 20, aL p 21, aL p 22]) (.cons (fun p0 =>
 .again [aL p0 0, aI p0 1, aI p0 2, aI p0 3, aL p0 4, aI p0 5, aL p0 6, aI p0 7, aL p0 8, .i (addA .i64 (gI p0 9) 1), aI p0 10, aI p0 11, (gD p0 12), aI p0 13, aL p0 14, aB p0 15, aB p0 16, (gD p0 17), aL p0 18, aL p0 19, aL p0 20, aL p0 21, aL p0 22])
 .nil))
 (.bad))
 (.bad))
 (.bad))
 (.out (0, [aL p 0, aI p 1, aI p 2, aL p 4, aI p 5, aI p 7, aL p 8, aI p 10, aI p 11, (gD p 12), aI p 13, aL p 14, aB p 15, aB p 16, (gD p 17), aL p 18, aL p 19, aL p 20, aL p 21, aL p 22]))
def L_facts_Facts_effect_12000 (p : List D) : Sh :=
 .ask (ltI (gI p 10) (gI p 3))
 (.ask (within (gI p 10) (List.length (gL p 7)))
 (.ask (eqI (vI (gD (gL p 7) (tI p 10)) 0) 3)
 (.ask (lim ((List.length (gL p 22)) + 1) 8)
 (.again [aL p 0, aI p 1, aI p 2, aI p 3, aI p 4, aL p 5, aI p 6, aL p 7, aL p 8, aI p 9, .i (addA .i64 (gI p 10) 1), aL p 11, aI p 12, aI p 13, aI p 14, (gD p 15), aI p 16, aL p 17, aB p 18, aB p 19, (gD p 20), aL p 21, .l ((gL p 22) ++ [.i (vI (gD (gL p 7) (tI p 10)) 1)]), aL p 23, aL p 24, aL p 25])
 (.bad))
 (.ask (eqI (vI (gD (gL p 7) (tI p 10)) 0) 1)
 (.ask (lim ((List.length (gL p 24)) + 1) 8)
 (.again [aL p 0, aI p 1, aI p 2, aI p 3, aI p 4, aL p 5, aI p 6, aL p 7, aL p 8, aI p 9, .i (addA .i64 (gI p 10) 1), aL p 11, aI p 12, aI p 13, aI p 14, (gD p 15), aI p 16, aL p 17, aB p 18, aB p 19, (gD p 20), aL p 21, aL p 22, aL p 23, .l ((gL p 24) ++ [.i (vI (gD (gL p 7) (tI p 10)) 1)]), aL p 25])
 (.bad))
 (.again [aL p 0, aI p 1, aI p 2, aI p 3, aI p 4, aL p 5, aI p 6, aL p 7, aL p 8, aI p 9, .i (addA .i64 (gI p 10) 1), aL p 11, aI p 12, aI p 13, aI p 14, (gD p 15), aI p 16, aL p 17, aB p 18, aB p 19, (gD p 20), aL p 21, aL p 22, aL p 23, aL p 24, aL p 25])))
 (.bad))
 (.out (0, [aL p 0, aI p 1, aI p 2, aI p 4, aL p 5, aI p 6, aL p 8, aI p 9, aL p 11, aI p 12, aI p 13, aI p 14, (gD p 15), aI p 16, aL p 17, aB p 18, aB p 19, (gD p 20), aL p 21, aL p 22, aL p 23, aL p 24, aL p 25]))
def L_facts_Facts_effect_9000 (p : List D) : Sh :=
 .ask (ltI (gI p 6) (gI p 2))
 (.ask (within (gI p 6) (List.length (gL p 4)))
 (.ask (eqI (vI (gD (gL p 4) (tI p 6)) 0) 3)
 (.ask (lim ((List.length (gL p 22)) + 1) 8)
 (.again [aI p 0, aI p 1, aI p 2, aL p 3, aL p 4, aI p 5, .i (addA .i64 (gI p 6) 1), aL p 7, aI p 8, (gD p 9), aI p 10, aL p 11, aB p 12, aB p 13, (gD p 14), aI p 15, aI p 16, aI p 17, aI p 18, aI p 19, aL p 20, aL p 21, .l ((gL p 22) ++ [.i (vI (gD (gL p 4) (tI p 6)) 1)]), aL p 23, aL p 24, aL p 25])
 (.bad))
 (.ask (eqI (vI (gD (gL p 4) (tI p 6)) 0) 1)
 (.ask (lim ((List.length (gL p 24)) + 1) 8)
 (.again [aI p 0, aI p 1, aI p 2, aL p 3, aL p 4, aI p 5, .i (addA .i64 (gI p 6) 1), aL p 7, aI p 8, (gD p 9), aI p 10, aL p 11, aB p 12, aB p 13, (gD p 14), aI p 15, aI p 16, aI p 17, aI p 18, aI p 19, aL p 20, aL p 21, aL p 22, aL p 23, .l ((gL p 24) ++ [.i (vI (gD (gL p 4) (tI p 6)) 1)]), aL p 25])
 (.bad))
 (.again [aI p 0, aI p 1, aI p 2, aL p 3, aL p 4, aI p 5, .i (addA .i64 (gI p 6) 1), aL p 7, aI p 8, (gD p 9), aI p 10, aL p 11, aB p 12, aB p 13, (gD p 14), aI p 15, aI p 16, aI p 17, aI p 18, aI p 19, aL p 20, aL p 21, aL p 22, aL p 23, aL p 24, aL p 25])))
 (.bad))
 (.out (0, [aI p 0, aI p 1, aL p 3, aI p 5, aL p 7, aI p 8, (gD p 9), aI p 10, aL p 11, aB p 12, aB p 13, (gD p 14), aI p 15, aI p 16, aI p 17, aI p 18, aI p 19, aL p 20, aL p 21, aL p 22, aL p 23, aL p 24, aL p 25]))
def L_facts_Facts_effect_10000 (p : List D) : Sh :=
 .ask (ltI (gI p 6) (gI p 2))
 (.ask (within (gI p 6) (List.length (gL p 4)))
 (.ask (eqI (vI (gD (gL p 4) (tI p 6)) 0) 3)
 (.ask (lim ((List.length (gL p 23)) + 1) 8)
 (.again [aI p 0, aI p 1, aI p 2, aL p 3, aL p 4, aI p 5, .i (addA .i64 (gI p 6) 1), aL p 7, aI p 8, (gD p 9), aI p 10, aL p 11, aB p 12, aB p 13, (gD p 14), aI p 15, aI p 16, aI p 17, aI p 18, aI p 19, aL p 20, aL p 21, aL p 22, .l ((gL p 23) ++ [.i (vI (gD (gL p 4) (tI p 6)) 1)]), aL p 24, aL p 25])
 (.bad))
 (.ask (eqI (vI (gD (gL p 4) (tI p 6)) 0) 1)
 (.ask (lim ((List.length (gL p 25)) + 1) 8)
 (.again [aI p 0, aI p 1, aI p 2, aL p 3, aL p 4, aI p 5, .i (addA .i64 (gI p 6) 1), aL p 7, aI p 8, (gD p 9), aI p 10, aL p 11, aB p 12, aB p 13, (gD p 14), aI p 15, aI p 16, aI p 17, aI p 18, aI p 19, aL p 20, aL p 21, aL p 22, aL p 23, aL p 24, .l ((gL p 25) ++ [.i (vI (gD (gL p 4) (tI p 6)) 1)])])
 (.bad))
 (.again [aI p 0, aI p 1, aI p 2, aL p 3, aL p 4, aI p 5, .i (addA .i64 (gI p 6) 1), aL p 7, aI p 8, (gD p 9), aI p 10, aL p 11, aB p 12, aB p 13, (gD p 14), aI p 15, aI p 16, aI p 17, aI p 18, aI p 19, aL p 20, aL p 21, aL p 22, aL p 23, aL p 24, aL p 25])))
 (.bad))
 (.out (0, [aI p 0, aI p 1, aL p 3, aI p 5, aL p 7, aI p 8, (gD p 9), aI p 10, aL p 11, aB p 12, aB p 13, (gD p 14), aI p 15, aI p 16, aI p 17, aI p 18, aI p 19, aL p 20, aL p 21, aL p 22, aL p 23, aL p 24, aL p 25]))
end
end Go.Eng.G
