/- Part of the proof. -/
import Derived.Test.YtpipdilhgmolhacGreatEngE
import Derived.Test.YtpipdilhgmolhacGreatProg
import Derived.KernelRfl

namespace Go.Eng.G
open Go.Proofs
noncomputable def y0 : List LT := [(.int .i64), (.int .i64), (.int .i64), (.int .i64), (.int .i64), (.sl false 3 [(.int .i64)]), (.sl false 3 [(.int .i64)])]
noncomputable def y1 : List LT := [(.int .i64), (.int .i64)]
noncomputable def y2 : List LT := [.str, .bool, (.sl false 3 [(.int .i64)]), (.int .i64), (.sl false 40 [(.sl false 26 y0)])]
noncomputable def y3 : List LT := [(.sl true 3 [(.int .i64)]), (.sl true 67 [(.sl true 66 y1)]), (.sl true 70 y1), (.sl true 26 y0)]
noncomputable def y4 : List LT := [(.sl false 3 [(.int .i64)]), (.sl false 3 [(.int .i64)]), (.sl false 3 [(.int .i64)]), (.sl false 3 [(.int .i64)]), .bool]
noncomputable def y5 : List LT := [(.sl true 88 [.str, (.sl true 3 [(.int .i64)]), (.int .i64)]), (.sl true 38 [.str, (.sl true 2 [(.int .i64)])]), (.sl true 84 [.str, (.sl true 3 [(.int .i64)])]), (.sl true 43 [.str, .bool, (.sl true 3 [(.int .i64)]), (.int .i64), (.sl true 40 [(.sl true 26 y0)])])]
noncomputable def y6 : List LT := [.str, (.sl false 3 [(.int .i64)]), (.int .i64)]
noncomputable def y7 : List LT := [(.sl true 3 [(.int .i64)]), (.sl true 3 [(.int .i64)]), (.sl true 3 [(.int .i64)]), (.sl true 3 [(.int .i64)]), .bool]
noncomputable def y8 : List LT := [(.sl true 3 [(.int .i64)])]
noncomputable def y9 : List LT := [(.sl false 3 [(.int .i64)]), (.sl false 67 [(.sl false 66 y1)]), (.sl false 70 y1), (.sl false 26 y0)]
noncomputable def y10 : List LT := [.str, (.sl false 2 [(.int .i64)])]
noncomputable def y11 : List LT := [.str, (.sl false 3 [(.int .i64)])]
noncomputable def y12 : List LT := [.str, .bool, (.sl false 3 [(.int .i64)]), (.int .i64), (.sl false 40 [(.sl false 26 y0)]), (.sl true 3 [(.int .i64)]), (.sl true 3 [(.int .i64)]), .bool]
noncomputable def y13 : List LT := [(.int .i64), (.int .i64), (.int .i64), (.int .i64), (.int .i64), (.sl true 3 [(.int .i64)]), (.sl true 3 [(.int .i64)])]
noncomputable def y14 : List LT := [.str, .bool, (.sl true 3 [(.int .i64)]), (.int .i64), (.sl true 40 [(.sl true 26 y0)])]
noncomputable def y15 : List LT := [(.sl false 3 [(.int .i64)])]
noncomputable def y16 : List LT := [(.sl false 88 y6), (.sl false 38 y10), (.sl false 84 y11), (.sl false 43 y2)]
noncomputable def types : BT TI := (.node 57 { agg := false, lv := [(.sl false 67 [(.sl false 66 y1)])], fs := [], e := 67, bytes := 24, sl := true, ek := 1 }
 (.node 28 { agg := false, lv := [(.sl false 88 y6)], fs := [], e := 88, bytes := 24, sl := true, ek := 3 }
 (.node 9 { agg := false, lv := [.str], fs := [], e := 0, bytes := 16 }
 (.node 4 { agg := false, lv := [.bool], fs := [], e := 0, bytes := 1 }
 (.node 3 { agg := false, lv := [(.int .i64)], fs := [], e := 0, bytes := 8 }
 (.node 2 { agg := false, lv := [(.int .i64)], fs := [], e := 0, bytes := 8 }
 .nil .nil) .nil) (.node 6 { agg := false, lv := [(.int .u8)], fs := [], e := 0, bytes := 1 }
 (.node 5 { agg := false, lv := [(.int .u8)], fs := [], e := 0, bytes := 1 }
 .nil .nil) .nil)) (.node 26 { agg := true, lv := y0, fs := [(0, 3), (1, 3), (2, 3), (3, 3), (4, 2), (5, 24), (6, 24)], e := 0, bytes := 88 }
 (.node 24 { agg := false, lv := y15, fs := [], e := 3, bytes := 24, sl := true, ek := 1 }
 (.node 22 { agg := false, lv := [(.sl false 2 [(.int .i64)])], fs := [], e := 2, bytes := 24, sl := true, ek := 1 }
 .nil .nil) .nil) (.node 27 { agg := false, lv := [(.sl false 26 y0)], fs := [], e := 26, bytes := 24, sl := true, ek := 7 }
 .nil .nil))) (.node 38 { agg := true, lv := y10, fs := [(0, 9), (1, 22)], e := 0, bytes := 40 }
 (.node 31 { agg := false, lv := [(.sl false 43 y2)], fs := [], e := 43, bytes := 24, sl := true, ek := 5 }
 (.node 30 { agg := false, lv := [(.sl false 84 y11)], fs := [], e := 84, bytes := 24, sl := true, ek := 2 }
 (.node 29 { agg := false, lv := [(.sl false 38 y10)], fs := [], e := 38, bytes := 24, sl := true, ek := 2 }
 .nil .nil) .nil) (.node 34 { agg := false, lv := [(.int .i64)], fs := [], e := 0, bytes := 8 }
 (.node 33 { agg := true, lv := y16, fs := [(0, 28), (1, 29), (2, 30), (3, 31)], e := 0, bytes := 96 }
 .nil .nil) .nil)) (.node 43 { agg := true, lv := y2, fs := [(0, 9), (1, 4), (2, 24), (3, 3), (4, 41)], e := 0, bytes := 80 }
 (.node 41 { agg := false, lv := [(.sl false 40 [(.sl false 26 y0)])], fs := [], e := 40, bytes := 24, sl := true, ek := 1 }
 (.node 40 { agg := true, lv := [(.sl false 26 y0)], fs := [(0, 27)], e := 0, bytes := 24 }
 .nil .nil) .nil) (.node 50 { agg := false, lv := [(.sl false 4 [.bool])], fs := [], e := 4, bytes := 24, sl := true, ek := 1 }
 .nil .nil)))) (.node 84 { agg := true, lv := y11, fs := [(0, 9), (1, 24)], e := 0, bytes := 40 }
 (.node 67 { agg := false, lv := [(.sl false 66 y1)], fs := [], e := 66, bytes := 24, sl := true, ek := 2 }
 (.node 61 { agg := false, lv := [(.sl false 60 y9)], fs := [], e := 60, bytes := 24, sl := true, ek := 4 }
 (.node 60 { agg := true, lv := y9, fs := [(0, 24), (1, 57), (2, 58), (3, 27)], e := 0, bytes := 96 }
 (.node 58 { agg := false, lv := [(.sl false 70 y1)], fs := [], e := 70, bytes := 24, sl := true, ek := 2 }
 .nil .nil) .nil) (.node 66 { agg := true, lv := y1, fs := [(0, 3), (1, 3)], e := 0, bytes := 16 }
 (.node 63 { agg := true, lv := [(.sl false 88 y6), (.sl false 38 y10), (.sl false 84 y11), (.sl false 43 y2), (.sl false 4 [.bool]), (.sl false 60 y9)], fs := [(0, 33), (4, 50), (5, 61)], e := 0, bytes := 144 }
 .nil .nil) .nil)) (.node 75 { agg := false, lv := [(.sl false 78 y4)], fs := [], e := 78, bytes := 24, sl := true, ek := 5 }
 (.node 74 { agg := false, lv := [(.sl false 24 y15)], fs := [], e := 24, bytes := 24, sl := true, ek := 1 }
 (.node 70 { agg := true, lv := y1, fs := [(0, 3), (1, 2)], e := 0, bytes := 16 }
 .nil .nil) .nil) (.node 78 { agg := true, lv := y4, fs := [(0, 24), (1, 24), (2, 24), (3, 24), (4, 4)], e := 0, bytes := 104 }
 .nil .nil))) (.node 139 { agg := false, lv := [(.int .u64)], fs := [], e := 0, bytes := 8 }
 (.node 108 { agg := false, lv := [(.sl false 50 [(.sl false 4 [.bool])])], fs := [], e := 50, bytes := 24, sl := true, ek := 1 }
 (.node 101 { agg := false, lv := [(.sl false 9 [.str])], fs := [], e := 9, bytes := 24, sl := true, ek := 1 }
 (.node 88 { agg := true, lv := y6, fs := [(0, 9), (1, 24), (2, 3)], e := 0, bytes := 48 }
 .nil .nil) .nil) (.node 130 { agg := true, lv := [.str, .bool, (.sl false 3 [(.int .i64)]), (.int .i64), (.sl false 40 [(.sl false 26 y0)]), (.sl false 3 [(.int .i64)]), (.sl false 3 [(.int .i64)]), .bool], fs := [(0, 43), (5, 24), (6, 24), (7, 4)], e := 0, bytes := 136 }
 .nil .nil)) (.node 158 { agg := false, lv := [(.int .u64)], fs := [], e := 0, bytes := 8 }
 (.node 156 { agg := false, lv := [(.int .u32)], fs := [], e := 0, bytes := 4 }
 (.node 149 { agg := false, lv := [(.int .i64)], fs := [], e := 0, bytes := 8 }
 .nil .nil) .nil) (.node 161 { agg := false, lv := [(.int .u64)], fs := [], e := 0, bytes := 8 }
 .nil .nil)))))
noncomputable def ptrs : BT TypeId := (.node 121 24
 (.node 56 60
 (.node 53 63
 .nil .nil) (.node 93 26
 .nil .nil)) (.node 165 3
 (.node 127 130
 .nil .nil) (.node 174 161
 .nil .nil)))
noncomputable def eqts : List Nat := [66]
noncomputable def maps : BT MI := (.node 102 { key := 9, el := 3, kk := .str, ek := (.int .i64) }
 (.node 92 { key := 3, el := 3, kk := (.int .i64), ek := (.int .i64) }
 .nil .nil) .nil)
noncomputable def sigs : BT Sig := (.node 54 { fn := 54, ps := [(67, .mv)], rs := [.val false [(.sl true 66 y1)]] }
 (.node 28 { fn := 28, ps := [(43, .ro)], rs := [.val false y8] }
 (.node 15 { fn := 15, ps := [(53, .rp), (3, .ro), (26, .ro)], rs := [.val false [.bool]] }
 (.node 9 { fn := 9, ps := [(50, .ro), (50, .ro)], rs := [.val false [.bool]] }
 (.node 6 { fn := 6, ps := [(33, .ro), (3, .ro)], rs := [.val false [(.int .i64)]] }
 (.node 4 { fn := 4, ps := [], rs := [.val false [.bool]] }
 (.node 3 { fn := 3, ps := [(22, .ro), (2, .ro), (4, .ro), (4, .ro)], rs := [.val false [.bool]] }
 .nil .nil) (.node 5 { fn := 5, ps := [(33, .ro)], rs := [.val true y5, .val false [(.int .i64)]] }
 .nil .nil)) (.node 8 { fn := 8, ps := [], rs := [.val true y16] }
 (.node 7 { fn := 7, ps := [(43, .ro), (3, .ro)], rs := [.val false [(.int .i64)], .val false [.bool]] }
 .nil .nil) .nil)) (.node 12 { fn := 12, ps := [(33, .ro)], rs := [.val false [(.int .i64)]] }
 (.node 11 { fn := 11, ps := [(33, .ro)], rs := [.val false [(.sl true 4 [.bool])]] }
 (.node 10 { fn := 10, ps := [(33, .ro)], rs := [.val false [(.sl true 4 [.bool])]] }
 .nil .nil) .nil) (.node 14 { fn := 14, ps := [(33, .ro)], rs := [.val true y5] }
 (.node 13 { fn := 13, ps := [(33, .ro)], rs := [.ptr [(.sl false 88 y6), (.sl false 38 y10), (.sl false 84 y11), (.sl false 43 y2), (.sl true 4 [.bool]), (.sl true 60 y3)]] }
 .nil .nil) .nil))) (.node 22 { fn := 22, ps := [(33, .ro)], rs := [.val false [.bool]] }
 (.node 19 { fn := 19, ps := [(53, .rp)], rs := [.val false [(.sl true 78 y7)]] }
 (.node 18 { fn := 18, ps := [(43, .ro), (3, .ro)], rs := [.val false [(.int .i64)], .val false [(.int .i64)]] }
 (.node 16 { fn := 16, ps := [(26, .ro), (2, .ro)], rs := [.val true y0] }
 .nil .nil) .nil) (.node 21 { fn := 21, ps := [(33, .ro)], rs := [.val false [.bool]] }
 (.node 20 { fn := 20, ps := [(3, .ro), (74, .ro)], rs := [.val false [(.sl true 4 [.bool])]] }
 .nil .nil) .nil)) (.node 25 { fn := 25, ps := [(43, .ro)], rs := [.val false [.bool]] }
 (.node 24 { fn := 24, ps := [(33, .ro)], rs := [.val false [.bool]] }
 (.node 23 { fn := 23, ps := [(33, .ro)], rs := [.val false [.bool]] }
 .nil .nil) .nil) (.node 27 { fn := 27, ps := [(33, .ro), (43, .ro)], rs := [.val false [.bool]] }
 (.node 26 { fn := 26, ps := [(43, .ro)], rs := [.val false [.bool]] }
 .nil .nil) .nil)))) (.node 42 { fn := 42, ps := [(3, .ro)], rs := [.val false [.bool]] }
 (.node 36 { fn := 36, ps := [(53, .rp), (3, .ro), (75, .ro)], rs := [.val true y7] }
 (.node 32 { fn := 32, ps := [(22, .ro)], rs := [.val false [(.sl true 2 [(.int .i64)])]] }
 (.node 30 { fn := 30, ps := [(56, .io y3)], rs := [] }
 (.node 29 { fn := 29, ps := [(56, .io y3), (43, .ro)], rs := [] }
 .nil .nil) (.node 31 { fn := 31, ps := [(24, .ro)], rs := [.val false y8] }
 .nil .nil)) (.node 35 { fn := 35, ps := [(93, .io y0)], rs := [] }
 (.node 33 { fn := 33, ps := [(43, .ro)], rs := [.val true y14] }
 .nil .nil) .nil)) (.node 39 { fn := 39, ps := [(3, .ro)], rs := [.val false [.bool]] }
 (.node 38 { fn := 38, ps := [(43, .ro)], rs := [.val false [(.int .i64)]] }
 (.node 37 { fn := 37, ps := [(78, .ro)], rs := [.val false [(.int .i64)]] }
 .nil .nil) .nil) (.node 41 { fn := 41, ps := [(9, .ro)], rs := [.val false [.bool]] }
 (.node 40 { fn := 40, ps := [(26, .ro)], rs := [.val false [.bool]] }
 .nil .nil) .nil))) (.node 48 { fn := 48, ps := [(43, .ro), (3, .ro)], rs := [.val false [(.int .i64)]] }
 (.node 45 { fn := 45, ps := [(43, .ro)], rs := [.val false [(.sl true 24 y8)]] }
 (.node 44 { fn := 44, ps := [(43, .ro)], rs := [.val false [(.sl true 4 [.bool])]] }
 (.node 43 { fn := 43, ps := [(50, .ro), (4, .ro)], rs := [.val false [.bool]] }
 .nil .nil) .nil) (.node 47 { fn := 47, ps := [(43, .ro)], rs := [.val false y8] }
 (.node 46 { fn := 46, ps := [(24, .ro), (24, .ro)], rs := [.val false [.bool]] }
 .nil .nil) .nil)) (.node 51 { fn := 51, ps := [(67, .ro)], rs := [.val false [(.sl true 66 y1)]] }
 (.node 50 { fn := 50, ps := [(57, .ro)], rs := [.val false [(.sl true 66 y1)]] }
 (.node 49 { fn := 49, ps := [(33, .ro), (43, .ro), (24, .ro), (26, .ro)], rs := [.val false [.bool]] }
 .nil .nil) .nil) (.node 53 { fn := 53, ps := [(66, .ro), (66, .ro)], rs := [.val false [(.int .i64)]] }
 (.node 52 { fn := 52, ps := [(67, .ro), (114, .fnv 53)], rs := [] }
 .nil .nil) .nil))))) (.node 84 { fn := 84, ps := [(24, .ro), (3, .ro)], rs := [.val false [.bool]] }
 (.node 71 { fn := 71, ps := [(43, .ro)], rs := [.val false [(.sl true 50 [(.sl true 4 [.bool])])]] }
 (.node 65 { fn := 65, ps := [(24, .mv)], rs := [.val false y8] }
 (.node 59 { fn := 59, ps := [(27, .ro), (3, .ro), (3, .ro)], rs := [.val false [(.sl true 26 y0)]] }
 (.node 56 { fn := 56, ps := [(26, .ro)], rs := [.val true y0] }
 (.node 55 { fn := 55, ps := [(56, .io y3), (3, .ro)], rs := [.val true y1] }
 .nil .nil) (.node 58 { fn := 58, ps := [(43, .ro), (3, .ro)], rs := [.val false [(.int .i64)], .val false [(.int .i64)]] }
 .nil .nil)) (.node 64 { fn := 64, ps := [(53, .rp), (3, .ro), (26, .ro)], rs := [.val false y8] }
 (.node 60 { fn := 60, ps := [(27, .ro), (3, .ro), (27, .ro)], rs := [.val false [(.sl true 26 y0)]] }
 .nil .nil) .nil)) (.node 68 { fn := 68, ps := [(43, .ro)], rs := [.ptr y12] }
 (.node 67 { fn := 67, ps := [(50, .ro), (4, .ro)], rs := [.val false [(.int .i64)]] }
 (.node 66 { fn := 66, ps := [(3, .ro)], rs := [.val false [(.int .i64)], .val false [(.int .i64)], .val false [.bool], .val false [.bool]] }
 .nil .nil) .nil) (.node 70 { fn := 70, ps := [(108, .ro)], rs := [.val false y8] }
 (.node 69 { fn := 69, ps := [(43, .ro), (3, .ro)], rs := [.val false y8] }
 .nil .nil) .nil))) (.node 77 { fn := 77, ps := [(56, .rp), (3, .ro)], rs := [.val false [(.int .i64)], .val false [.bool]] }
 (.node 74 { fn := 74, ps := [(67, .ro), (3, .ro)], rs := [.val false [(.sl false 66 y1)]] }
 (.node 73 { fn := 73, ps := [(24, .ro), (24, .ro), (24, .ro)], rs := [.val false [.bool]] }
 (.node 72 { fn := 72, ps := [(24, .ro), (24, .ro), (3, .ro)], rs := [.val false [.bool]] }
 .nil .nil) .nil) (.node 76 { fn := 76, ps := [(139, .ro)], rs := [.val false [(.int .i64)]] }
 (.node 75 { fn := 75, ps := [(67, .ro), (3, .ro), (3, .ro), (3, .ro), (114, .fnv 53)], rs := [] }
 .nil .nil) .nil)) (.node 81 { fn := 81, ps := [(24, .ro)], rs := [] }
 (.node 80 { fn := 80, ps := [(53, .rp), (3, .ro), (26, .ro), (43, .ro)], rs := [.val false [.bool]] }
 (.node 79 { fn := 79, ps := [(27, .ro), (3, .ro)], rs := [] }
 .nil .nil) .nil) (.node 83 { fn := 83, ps := [(127, .io y12), (3, .ro)], rs := [] }
 (.node 82 { fn := 82, ps := [(24, .mv)], rs := [.val false y8] }
 .nil .nil) .nil)))) (.node 107 { fn := 107, ps := [(24, .ro), (3, .ro), (3, .ro)], rs := [] }
 (.node 98 { fn := 98, ps := [(24, .ro), (3, .ro)], rs := [.val false [(.int .i64)]] }
 (.node 95 { fn := 95, ps := [(158, .ro)], rs := [.val false [(.int .i64)]] }
 (.node 86 { fn := 86, ps := [(67, .ro), (3, .ro), (3, .ro), (114, .fnv 53)], rs := [] }
 (.node 85 { fn := 85, ps := [(74, .ro), (3, .ro)], rs := [.val false [(.sl true 4 [.bool])]] }
 .nil .nil) (.node 94 { fn := 94, ps := [(156, .ro)], rs := [.val false [(.int .i64)]] }
 .nil .nil)) (.node 97 { fn := 97, ps := [(24, .ro), (3, .ro), (3, .ro), (3, .ro)], rs := [] }
 (.node 96 { fn := 96, ps := [(27, .ro), (3, .ro)], rs := [] }
 .nil .nil) .nil)) (.node 104 { fn := 104, ps := [(27, .ro)], rs := [] }
 (.node 101 { fn := 101, ps := [(174, .io [(.int .u64)])], rs := [.val false [(.int .u64)]] }
 (.node 100 { fn := 100, ps := [(3, .ro)], rs := [.val false [(.int .u64)]] }
 .nil .nil) .nil) (.node 106 { fn := 106, ps := [(24, .ro), (3, .ro), (3, .ro)], rs := [] }
 (.node 105 { fn := 105, ps := [(24, .ro), (3, .ro), (3, .ro)], rs := [] }
 .nil .nil) .nil))) (.node 113 { fn := 113, ps := [(24, .ro), (3, .ro), (3, .ro), (3, .ro)], rs := [.val false [(.int .i64)], .val false [.bool]] }
 (.node 110 { fn := 110, ps := [(24, .ro), (3, .ro), (3, .ro)], rs := [.val false [.bool]] }
 (.node 109 { fn := 109, ps := [(24, .ro), (3, .ro), (3, .ro)], rs := [] }
 (.node 108 { fn := 108, ps := [(24, .ro), (3, .ro), (3, .ro)], rs := [.val false [(.int .i64)], .val false [(.int .i64)]] }
 .nil .nil) .nil) (.node 112 { fn := 112, ps := [(24, .ro), (3, .ro), (3, .ro), (3, .ro)], rs := [.val false [(.int .i64)]] }
 (.node 111 { fn := 111, ps := [(3, .ro), (3, .ro)], rs := [.val false [.bool]] }
 .nil .nil) .nil)) (.node 117 { fn := 117, ps := [(24, .ro), (3, .ro), (3, .ro), (3, .ro), (165, .io [(.int .i64)])], rs := [.val false [(.int .i64)]] }
 (.node 116 { fn := 116, ps := [(24, .ro), (3, .ro), (165, .io [(.int .i64)])], rs := [.val false [(.int .i64)]] }
 (.node 115 { fn := 115, ps := [(24, .ro), (3, .ro), (3, .ro), (3, .ro)], rs := [] }
 .nil .nil) .nil) (.node 119 { fn := 119, ps := [(24, .ro), (3, .ro), (3, .ro), (165, .io [(.int .i64)])], rs := [.val false [(.int .i64)], .val false [(.int .i64)]] }
 (.node 118 { fn := 118, ps := [(3, .ro)], rs := [.val false [.bool]] }
 .nil .nil) .nil))))))
noncomputable def h3 : Hint := { inst := [], el := [(33, y0)], arr := [33], fzl := [58, 56, 53, 42, 36, 31], pfx := [], snap := [], heads := [], ends := [], ord := [], mids := [(10, { keep := [0, 1, 2, 3, 9], conv := [(9, .fzA 26 y0)], bconv := [] })] }
noncomputable def h4 : Hint := { inst := [], el := [], arr := [], fzl := [19, 13], pfx := [], snap := [], heads := [], ends := [], ord := [] }
noncomputable def h5 : Hint := { inst := [], el := [], arr := [], fzl := [], pfx := [], snap := [], heads := [(0, { keep := [1, 2, 5, 6, 7, 8, 35, 36, 37], conv := [], bconv := [] }), (2, { keep := [1, 2, 5, 6, 7, 8, 9, 10, 11, 12, 35, 36, 37, 55, 56], conv := [], bconv := [] }), (4, { keep := [1, 2, 5, 6, 7, 8, 9, 10, 11, 12, 13, 14, 35, 36, 37, 55, 56, 64, 65, 66], conv := [(14, .own 26 y0)], bconv := [] })], ends := [(0, { keep := [2, 3, 8], conv := [], bconv := [] }), (2, { keep := [1, 2, 3, 5, 6, 7, 8, 9, 11, 35, 36, 37], conv := [], bconv := [] }), (4, { keep := [1, 2, 3, 5, 6, 7, 8, 9, 10, 11, 12, 13, 14, 35, 36, 37, 55, 56], conv := [], bconv := [] })], ord := [(5, [0, 2, 1, 3, 4, 5]), (30, [0, 2, 1, 3, 4, 5, 6])], inl := [(163, { site := 0, base := 2000, live := [1, 2, 5, 6, 7, 8, 35, 36, 37, 159, 160, 161], old := [], ck := [(160, 31, 159)] })], nn := [27] }
noncomputable def h6 : Hint := { inst := [], el := [], arr := [], fzl := [], pfx := [], snap := [], heads := [(0, { keep := [1, 2, 5, 6], conv := [], bconv := [] }), (2, { keep := [1, 2, 5, 6, 7], conv := [], bconv := [] }), (4, { keep := [1, 2, 5, 6, 7, 8], conv := [], bconv := [] })], ends := [(0, { keep := [4, 5], conv := [], bconv := [] }), (2, { keep := [1, 2, 4, 5, 6], conv := [], bconv := [] }), (4, { keep := [1, 2, 4, 5, 6, 7], conv := [], bconv := [] })], ord := [] }
noncomputable def h7 : Hint := { inst := [], el := [], arr := [], fzl := [], pfx := [], snap := [], heads := [], ends := [], ord := [] }
noncomputable def h8 : Hint := { inst := [], el := [], arr := [], fzl := [16, 14, 12, 10, 8, 6, 3, 1], pfx := [], snap := [], heads := [], ends := [], ord := [] }
noncomputable def h9 : Hint := { inst := [], el := [], arr := [], fzl := [], pfx := [], snap := [], heads := [(0, { keep := [0, 1, 5], conv := [], bconv := [] })], ends := [(0, { keep := [4], conv := [], bconv := [] })], ord := [] }
noncomputable def h10 : Hint := { inst := [], el := [], arr := [], fzl := [], pfx := [], snap := [], heads := [(0, { keep := [1, 3, 11, 12, 13], conv := [(3, .own 24 y15)], bconv := [] })], ends := [(0, { keep := [1, 2, 3], conv := [], bconv := [] })], ord := [], mids := [(4, { keep := [1, 3, 11, 12, 13], conv := [(11, .fzA 78 y4)], bconv := [] })], nn := [10] }
noncomputable def h11 : Hint := { inst := [], el := [], arr := [], fzl := [], pfx := [], snap := [], heads := [(0, { keep := [1, 3, 11, 12, 13], conv := [(3, .own 24 y15)], bconv := [] })], ends := [(0, { keep := [1, 2, 3], conv := [], bconv := [] })], ord := [], mids := [(4, { keep := [1, 3, 11, 12, 13], conv := [(11, .fzA 78 y4)], bconv := [] })], nn := [10] }
noncomputable def h12 : Hint := { inst := [], el := [], arr := [], fzl := [], pfx := [], snap := [], heads := [(1, { keep := [1, 26, 27, 28], conv := [], bconv := [] }), (3, { keep := [1, 37, 38, 39], conv := [], bconv := [] }), (5, { keep := [1, 48, 49, 50], conv := [], bconv := [] })], ends := [(1, { keep := [1, 2], conv := [], bconv := [] }), (3, { keep := [1, 2], conv := [], bconv := [] }), (5, { keep := [2], conv := [], bconv := [] })], ord := [] }
noncomputable def h13 : Hint := { inst := [], el := [(59, y0)], arr := [], fzl := [], pfx := [], snap := [], heads := [(0, { keep := [1, 3, 23, 24, 25], conv := [], bconv := [] }), (2, { keep := [1, 3, 23, 24, 25, 30, 31, 32], conv := [], bconv := [] }), (4, { keep := [3, 47, 48, 49], conv := [], bconv := [(21, 5, .own 60 y3)] }), (6, { keep := [3, 9, 10, 47, 48, 49, 62, 63, 64], conv := [], bconv := [] }), (8, { keep := [3, 9, 10, 47, 48, 49, 62, 63, 64, 69, 70, 71], conv := [], bconv := [] })], ends := [(0, { keep := [1, 2, 3], conv := [], bconv := [] }), (2, { keep := [1, 2, 3, 23, 24, 25], conv := [], bconv := [] }), (4, { keep := [2, 3], conv := [], bconv := [] }), (6, { keep := [2, 3, 9, 10, 47, 48, 49], conv := [], bconv := [] }), (8, { keep := [2, 3, 9, 10, 47, 48, 49, 62, 63, 64], conv := [], bconv := [] })], ord := [] }
noncomputable def h14 : Hint := { inst := [], el := [], arr := [], fzl := [], pfx := [], snap := [], heads := [(0, { keep := [1, 2, 3, 13, 14, 15], conv := [], bconv := [(3, 0, .own 88 [.str, (.sl true 3 [(.int .i64)]), (.int .i64)])] }), (2, { keep := [1, 2, 3, 31, 32, 33], conv := [], bconv := [(3, 1, .own 38 [.str, (.sl true 2 [(.int .i64)])])] }), (4, { keep := [1, 2, 3, 49, 50, 51], conv := [], bconv := [(3, 2, .own 84 [.str, (.sl true 3 [(.int .i64)])])] }), (6, { keep := [2, 3, 67, 68, 69], conv := [], bconv := [(3, 3, .own 43 y14)] })], ends := [(0, { keep := [1, 2, 3], conv := [], bconv := [] }), (2, { keep := [1, 2, 3], conv := [], bconv := [] }), (4, { keep := [1, 2, 3], conv := [], bconv := [] }), (6, { keep := [2, 3], conv := [], bconv := [] })], ord := [] }
noncomputable def h15 : Hint := { inst := [], el := [], arr := [], fzl := [], pfx := [], snap := [], heads := [], ends := [], ord := [] }
noncomputable def h16 : Hint := { inst := [], el := [], arr := [], fzl := [9, 7], pfx := [], snap := [], heads := [], ends := [], ord := [], inl := [(15, { site := 4, base := 10000, live := [4], old := [] })] }
noncomputable def h18 : Hint := { inst := [], el := [], arr := [], fzl := [], pfx := [], snap := [], heads := [(0, { keep := [1, 2, 6], conv := [], bconv := [] }), (2, { keep := [1, 2, 6, 7], conv := [], bconv := [] })], ends := [(0, { keep := [4, 5], conv := [], bconv := [] }), (2, { keep := [1, 2, 4, 5, 6], conv := [], bconv := [] })], ord := [] }
noncomputable def h19 : Hint := { inst := [], el := [(13, y7)], arr := [], fzl := [], pfx := [], snap := [], heads := [(0, { keep := [0, 3, 4], conv := [], bconv := [] }), (2, { keep := [0, 3, 4, 16, 17], conv := [], bconv := [] })], ends := [(0, { keep := [2, 3], conv := [], bconv := [] }), (2, { keep := [0, 2, 3, 4], conv := [], bconv := [] })], ord := [(9, [2, 3, 4, 0, 5, 1, 6, 7])] }
noncomputable def h20 : Hint := { inst := [], el := [], arr := [], fzl := [], pfx := [], snap := [], heads := [(0, { keep := [1, 5, 14, 15], conv := [], bconv := [] }), (2, { keep := [5, 22, 23, 24], conv := [], bconv := [] }), (4, { keep := [5, 22, 23, 24, 28, 29, 30], conv := [], bconv := [] })], ends := [(0, { keep := [1, 4, 5], conv := [], bconv := [] }), (2, { keep := [4, 5], conv := [], bconv := [] }), (4, { keep := [4, 5, 22, 23, 24], conv := [], bconv := [] })], ord := [] }
noncomputable def h21 : Hint := { inst := [], el := [], arr := [], fzl := [], pfx := [], snap := [], heads := [(0, { keep := [1, 34, 35, 36], conv := [], bconv := [] }), (2, { keep := [1, 46, 47, 48], conv := [], bconv := [] }), (4, { keep := [1, 64, 65, 66], conv := [], bconv := [] }), (6, { keep := [82, 83, 84], conv := [], bconv := [] })], ends := [(0, { keep := [1, 2], conv := [], bconv := [] }), (2, { keep := [1, 2], conv := [], bconv := [] }), (4, { keep := [1, 2], conv := [], bconv := [] }), (6, { keep := [2], conv := [], bconv := [] })], ord := [] }
noncomputable def h22 : Hint := { inst := [], el := [], arr := [], fzl := [], pfx := [], snap := [], heads := [(0, { keep := [1, 16, 17, 18], conv := [], bconv := [] }), (2, { keep := [1, 4, 16, 17, 18, 23, 24, 25], conv := [], bconv := [] }), (4, { keep := [44, 45, 46], conv := [], bconv := [] }), (6, { keep := [8, 44, 45, 46, 69, 70, 71], conv := [], bconv := [] }), (8, { keep := [44, 45, 46, 92, 93, 94], conv := [], bconv := [] }), (10, { keep := [44, 45, 46, 92, 93, 94, 99, 100, 101], conv := [], bconv := [] })], ends := [(0, { keep := [1, 2], conv := [], bconv := [] }), (2, { keep := [1, 2, 4, 16, 17, 18], conv := [], bconv := [] }), (4, { keep := [2], conv := [], bconv := [] }), (6, { keep := [2, 8, 44, 45, 46], conv := [], bconv := [] }), (8, { keep := [2, 44, 45, 46], conv := [], bconv := [] }), (10, { keep := [2, 44, 45, 46, 92, 93, 94], conv := [], bconv := [] })], ord := [] }
noncomputable def h23 : Hint := { inst := [], el := [], arr := [], fzl := [], pfx := [], snap := [], heads := [(0, { keep := [1, 3, 16, 17, 18], conv := [(3, .own 9 [.str])], bconv := [] }), (2, { keep := [1, 3, 29, 30, 31], conv := [(3, .own 9 [.str])], bconv := [] }), (4, { keep := [1, 3, 42, 43, 44], conv := [(3, .own 9 [.str])], bconv := [] }), (6, { keep := [3, 55, 56, 57], conv := [(3, .own 9 [.str])], bconv := [] }), (8, { keep := [12, 68, 69, 70], conv := [], bconv := [] })], ends := [(0, { keep := [1, 2, 3], conv := [], bconv := [] }), (2, { keep := [1, 2, 3], conv := [], bconv := [] }), (4, { keep := [1, 2, 3], conv := [], bconv := [] }), (6, { keep := [2, 3], conv := [], bconv := [] }), (8, { keep := [2], conv := [], bconv := [] })], ord := [] }
noncomputable def h24 : Hint := { inst := [], el := [], arr := [], fzl := [], pfx := [], snap := [], heads := [(0, { keep := [1, 15, 16, 17], conv := [], bconv := [] }), (2, { keep := [1, 15, 16, 17, 22, 23, 24], conv := [], bconv := [] }), (4, { keep := [1, 40, 41, 42], conv := [], bconv := [] }), (6, { keep := [1, 40, 41, 42, 47, 48, 49], conv := [], bconv := [] }), (8, { keep := [1, 40, 41, 42, 47, 48, 49, 54, 55, 56], conv := [], bconv := [] })], ends := [(0, { keep := [1, 2], conv := [], bconv := [] }), (2, { keep := [1, 2, 15, 16, 17], conv := [], bconv := [] }), (4, { keep := [2], conv := [], bconv := [] }), (6, { keep := [1, 2, 40, 41, 42], conv := [], bconv := [] }), (8, { keep := [1, 2, 40, 41, 42, 47, 48, 49], conv := [], bconv := [] })], ord := [] }
noncomputable def h25 : Hint := { inst := [], el := [], arr := [], fzl := [], pfx := [], snap := [], heads := [(0, { keep := [1, 17, 18, 19], conv := [], bconv := [] }), (2, { keep := [1, 3, 4, 5, 17, 18, 19, 29, 30, 31], conv := [], bconv := [] }), (4, { keep := [1, 8, 17, 18, 19, 74, 75, 76], conv := [], bconv := [] }), (6, { keep := [11, 109, 110, 111], conv := [], bconv := [] }), (8, { keep := [11, 12, 109, 110, 111, 117, 118, 119], conv := [], bconv := [] })], ends := [(0, { keep := [1, 2], conv := [], bconv := [] }), (2, { keep := [1, 2, 4, 17, 18, 19], conv := [], bconv := [] }), (4, { keep := [1, 2, 8, 17, 18, 19], conv := [], bconv := [] }), (6, { keep := [2], conv := [], bconv := [] }), (8, { keep := [2, 11, 109, 110, 111], conv := [], bconv := [] })], ord := [(10, [0, 3, 4, 1, 5, 6, 7, 8, 2, 9, 10, 11, 12, 13, 14, 15, 16, 17, 18, 19, 20, 21])] }
noncomputable def h26 : Hint := { inst := [], el := [], arr := [], fzl := [], pfx := [], snap := [], heads := [(0, { keep := [1, 3, 4, 28, 29, 30], conv := [(4, .own 3 [(.int .i64)])], bconv := [] }), (2, { keep := [1, 3, 4, 5, 28, 29, 30, 36, 37, 38], conv := [(4, .own 3 [(.int .i64)])], bconv := [] }), (4, { keep := [1, 3, 4, 9, 10, 64, 65], conv := [], bconv := [] }), (6, { keep := [1, 3, 4, 9, 10, 11, 12, 64, 65], conv := [], bconv := [] }), (8, { keep := [1, 3, 4, 9, 90, 91, 92], conv := [], bconv := [] }), (10, { keep := [1, 3, 4, 9, 13, 15, 90, 91, 92, 108, 109, 110], conv := [], bconv := [] }), (12, { keep := [1, 3, 4, 9, 13, 15, 17, 90, 91, 92, 108, 109, 110, 115, 116, 117], conv := [], bconv := [] })], ends := [(0, { keep := [1, 2, 3, 4], conv := [], bconv := [] }), (2, { keep := [1, 2, 3, 4, 28, 29, 30], conv := [], bconv := [] }), (4, { keep := [1, 2, 3, 4, 9], conv := [], bconv := [] }), (6, { keep := [1, 2, 3, 4, 9, 10, 64, 65], conv := [], bconv := [] }), (8, { keep := [2], conv := [], bconv := [] }), (10, { keep := [1, 2, 3, 4, 9, 90, 91, 92], conv := [], bconv := [] }), (12, { keep := [1, 2, 3, 4, 9, 13, 15, 17, 90, 91, 92, 108, 109, 110], conv := [], bconv := [] })], ord := [] }
noncomputable def h27 : Hint := { inst := [], el := [], arr := [], fzl := [], pfx := [], snap := [], heads := [(0, { keep := [2, 3, 5, 13, 14, 15], conv := [], bconv := [] }), (2, { keep := [2, 3, 5, 13, 14, 15, 20, 21, 22], conv := [], bconv := [] })], ends := [(0, { keep := [4], conv := [], bconv := [] }), (2, { keep := [2, 3, 4, 5, 13, 14, 15], conv := [], bconv := [] })], ord := [] }
noncomputable def h28 : Hint := { inst := [], el := [], arr := [8], fzl := [], pfx := [], snap := [], heads := [(0, { keep := [3, 13, 14, 15], conv := [(3, .own 3 [(.int .i64)])], bconv := [] }), (2, { keep := [3, 13, 14, 15, 20, 21, 22], conv := [(3, .own 3 [(.int .i64)])], bconv := [] })], ends := [(0, { keep := [2, 3], conv := [], bconv := [] }), (2, { keep := [2, 3, 13, 14, 15], conv := [], bconv := [] })], ord := [] }
noncomputable def h29 : Hint := { inst := [], el := [], arr := [69, 63, 40], fzl := [104], pfx := [], snap := [], heads := [(0, { keep := [0, 22, 23, 24], conv := [], bconv := [] }), (2, { keep := [0, 6], conv := [], bconv := [] }), (4, { keep := [0, 6, 47, 48, 49], conv := [], bconv := [] }), (7, { keep := [0, 6, 7, 9, 47, 48, 49, 109, 110, 111], conv := [(9, .own 66 y1)], bconv := [] })], ends := [(0, { keep := [0], conv := [], bconv := [] }), (2, { keep := [0], conv := [], bconv := [] }), (4, { keep := [0, 6], conv := [], bconv := [] }), (7, { keep := [0, 6, 7, 9, 47, 48, 49], conv := [], bconv := [] })], ord := [] }
noncomputable def h30 : Hint := { inst := [], el := [], arr := [], fzl := [], pfx := [], snap := [], heads := [(0, { keep := [0, 16, 17], conv := [], bconv := [(500, 0, .own 3 [(.int .i64)]), (500, 1, .own 67 [(.sl true 66 y1)]), (500, 2, .own 70 y1), (500, 3, .own 26 y0)] })], ends := [(0, { keep := [0], conv := [], bconv := [] })], ord := [] }
noncomputable def h31 : Hint := { inst := [], el := [], arr := [5], fzl := [], pfx := [], snap := [], heads := [], ends := [], ord := [], fork := true }
noncomputable def h32 : Hint := { inst := [], el := [], arr := [5], fzl := [], pfx := [], snap := [], heads := [], ends := [], ord := [], fork := true }
noncomputable def h33 : Hint := { inst := [], el := [], arr := [], fzl := [], pfx := [], snap := [], heads := [(0, { keep := [1, 2, 16, 17, 18], conv := [], bconv := [(1, 4, .own 40 [(.sl true 26 y0)])] }), (2, { keep := [1, 2, 6, 16, 17, 18, 23, 24, 25], conv := [(6, .own 26 y0)], bconv := [] })], ends := [(0, { keep := [1, 2], conv := [], bconv := [] }), (2, { keep := [1, 2, 6, 16, 17, 18], conv := [], bconv := [] })], ord := [] }
noncomputable def h36 : Hint := { inst := [], el := [], arr := [], fzl := [], pfx := [], snap := [], heads := [], ends := [], ord := [(4, [0, 3, 1, 4, 2, 5, 6, 7, 8, 9]), (5, [0, 3, 1, 4, 2, 5, 6, 7, 8, 9])], inl := [(18, { site := 6, base := 14000, live := [6, 7], old := [] })], cks := [(21, [(23, 24, 22)]), (29, [(31, 24, 30)])] }
noncomputable def h37 : Hint := { inst := [], el := [], arr := [], fzl := [], pfx := [], snap := [], heads := [], ends := [], ord := [] }
noncomputable def h38 : Hint := { inst := [], el := [], arr := [], fzl := [], pfx := [], snap := [], heads := [(0, { keep := [3, 7, 8, 9], conv := [], bconv := [] })], ends := [(0, { keep := [2, 3], conv := [], bconv := [] })], ord := [] }
noncomputable def h39 : Hint := { inst := [], el := [], arr := [], fzl := [], pfx := [], snap := [], heads := [], ends := [], ord := [] }
noncomputable def h40 : Hint := { inst := [], el := [], arr := [], fzl := [], pfx := [], snap := [], heads := [], ends := [], ord := [] }
noncomputable def h41 : Hint := { inst := [], el := [], arr := [], fzl := [], pfx := [], snap := [], heads := [(0, { keep := [0, 15, 16], conv := [], bconv := [] })], ends := [(0, { keep := [2], conv := [], bconv := [] })], ord := [] }
noncomputable def h42 : Hint := { inst := [], el := [], arr := [], fzl := [], pfx := [], snap := [], heads := [], ends := [], ord := [] }
noncomputable def h43 : Hint := { inst := [], el := [], arr := [], fzl := [], pfx := [], snap := [], heads := [], ends := [], ord := [] }
noncomputable def h44 : Hint := { inst := [], el := [], arr := [], fzl := [], pfx := [], snap := [], heads := [(0, { keep := [4, 16, 17, 18], conv := [], bconv := [] })], ends := [(0, { keep := [2, 4], conv := [], bconv := [] })], ord := [] }
noncomputable def h45 : Hint := { inst := [], el := [], arr := [], fzl := [], pfx := [], snap := [], heads := [(0, { keep := [1, 3, 13, 14], conv := [], bconv := [] }), (2, { keep := [1, 3, 4, 13, 14, 19, 20, 21], conv := [], bconv := [] })], ends := [(0, { keep := [2, 3], conv := [], bconv := [] }), (2, { keep := [1, 2, 3, 13, 14], conv := [], bconv := [] })], ord := [] }
noncomputable def h47 : Hint := { inst := [], el := [], arr := [], fzl := [], pfx := [], snap := [], heads := [], ends := [], ord := [] }
noncomputable def h48 : Hint := { inst := [], el := [], arr := [], fzl := [], pfx := [], snap := [], heads := [(0, { keep := [5, 16, 17, 18], conv := [], bconv := [] }), (2, { keep := [5, 16, 17, 18, 23, 24, 25], conv := [], bconv := [] })], ends := [(0, { keep := [4, 5], conv := [], bconv := [] }), (2, { keep := [4, 5, 16, 17, 18], conv := [], bconv := [] })], ord := [] }
noncomputable def h49 : Hint := { inst := [], el := [], arr := [], fzl := [227, 211, 138, 127, 119, 107, 96], pfx := [], snap := [], heads := [], ends := [], ord := [] }
noncomputable def h51 : Hint := { inst := [], el := [], arr := [5], fzl := [], pfx := [], snap := [], heads := [], ends := [], ord := [], fork := true }
noncomputable def h52 : Hint := { inst := [], el := [], arr := [], fzl := [], pfx := [], snap := [], heads := [], ends := [], ord := [] }
noncomputable def h54 : Hint := { inst := [], el := [], arr := [], fzl := [], pfx := [28, 56], snap := [], heads := [(0, { keep := [0, 3], conv := [], bconv := [] }), (2, { keep := [0, 3, 4, 5], conv := [], bconv := [] })], ends := [(0, { keep := [0, 2], conv := [], bconv := [] }), (2, { keep := [0, 2, 3], conv := [], bconv := [] })], ord := [] }
noncomputable def h55 : Hint := { inst := [], el := [], arr := [], fzl := [], pfx := [], snap := [], heads := [], ends := [], ord := [] }
noncomputable def h56 : Hint := { inst := [], el := [], arr := [], fzl := [], pfx := [], snap := [], heads := [], ends := [], ord := [] }
noncomputable def h58 : Hint := { inst := [], el := [], arr := [], fzl := [], pfx := [], snap := [], heads := [(0, { keep := [1, 11, 12, 13], conv := [], bconv := [] }), (2, { keep := [1, 6, 11, 12, 13, 19, 20, 21], conv := [], bconv := [] })], ends := [(0, { keep := [4, 5], conv := [], bconv := [] }), (2, { keep := [1, 4, 5, 11, 12, 13], conv := [], bconv := [] })], ord := [] }
noncomputable def h64 : Hint := { inst := [], el := [], arr := [16], fzl := [], pfx := [], snap := [], heads := [(1, { keep := [0, 1, 5, 7, 23, 24, 25], conv := [(7, .own 3 [(.int .i64)])], bconv := [] })], ends := [(1, { keep := [6, 7], conv := [], bconv := [] })], ord := [] }
noncomputable def h65 : Hint := { inst := [], el := [], arr := [], fzl := [], pfx := [], snap := [], heads := [], ends := [], ord := [] }
noncomputable def h66 : Hint := { inst := [], el := [], arr := [], fzl := [], pfx := [], snap := [], heads := [], ends := [], ord := [] }
noncomputable def h67 : Hint := { inst := [], el := [], arr := [], fzl := [], pfx := [], snap := [], heads := [(0, { keep := [0, 1, 7, 8], conv := [], bconv := [] })], ends := [(0, { keep := [4], conv := [], bconv := [] })], ord := [] }
noncomputable def h68 : Hint := { inst := [], el := [], arr := [], fzl := [], pfx := [], snap := [], heads := [], ends := [], ord := [] }
noncomputable def h69 : Hint := { inst := [], el := [], arr := [], fzl := [], pfx := [], snap := [], heads := [(0, { keep := [2, 5, 55, 56, 57], conv := [(5, .own 3 [(.int .i64)])], bconv := [] })], ends := [(0, { keep := [4, 5], conv := [], bconv := [] })], ord := [] }
noncomputable def h70 : Hint := { inst := [], el := [], arr := [], fzl := [], pfx := [], snap := [], heads := [(0, { keep := [0, 3, 10, 11], conv := [], bconv := [] }), (2, { keep := [0, 3, 4, 10, 11, 18, 19], conv := [], bconv := [] })], ends := [(0, { keep := [2, 3], conv := [], bconv := [] }), (2, { keep := [0, 2, 3, 10, 11], conv := [], bconv := [] })], ord := [] }
noncomputable def h71 : Hint := { inst := [], el := [], arr := [], fzl := [], pfx := [], snap := [], heads := [(0, { keep := [1, 3, 4, 16, 17], conv := [], bconv := [] }), (2, { keep := [3, 4, 6, 7, 31, 32], conv := [], bconv := [] }), (4, { keep := [3, 4, 6, 7, 8, 9, 31, 32, 48, 49], conv := [], bconv := [] })], ends := [(0, { keep := [1, 2, 3, 4], conv := [], bconv := [] }), (2, { keep := [2, 7], conv := [], bconv := [] }), (4, { keep := [2, 3, 4, 6, 7, 31, 32], conv := [], bconv := [] })], ord := [] }
noncomputable def h73 : Hint := { inst := [], el := [], arr := [], fzl := [], pfx := [], snap := [], heads := [(0, { keep := [0, 2, 14, 15, 16], conv := [], bconv := [] })], ends := [(0, { keep := [6], conv := [], bconv := [] })], ord := [] }
noncomputable def h75 : Hint := { inst := [], el := [], arr := [], fzl := [], pfx := [], snap := [], heads := [(0, { keep := [0, 1, 2, 3, 4, 10, 11], conv := [], bconv := [] })], ends := [(0, { keep := [], conv := [], bconv := [] })], ord := [] }
noncomputable def h76 : Hint := { inst := [], el := [], arr := [], fzl := [], pfx := [], snap := [], heads := [], ends := [], ord := [] }
noncomputable def h77 : Hint := { inst := [], el := [], arr := [], fzl := [], pfx := [], snap := [], heads := [], ends := [], ord := [] }
noncomputable def h81 : Hint := { inst := [], el := [], arr := [], fzl := [], pfx := [], snap := [], heads := [], ends := [], ord := [] }
noncomputable def h82 : Hint := { inst := [], el := [], arr := [], fzl := [], pfx := [28, 56], snap := [], heads := [(0, { keep := [0, 3], conv := [], bconv := [] }), (2, { keep := [0, 3, 4, 5], conv := [], bconv := [] })], ends := [(0, { keep := [0, 2], conv := [], bconv := [] }), (2, { keep := [0, 2, 3], conv := [], bconv := [] })], ord := [] }
noncomputable def h83 : Hint := { inst := [], el := [], arr := [], fzl := [], pfx := [], snap := [], heads := [(0, { keep := [0, 1, 17, 18, 19], conv := [], bconv := [(500, 5, .own 3 [(.int .i64)]), (500, 6, .own 3 [(.int .i64)])] })], ends := [(0, { keep := [0, 1], conv := [], bconv := [] })], ord := [] }
noncomputable def h85 : Hint := { inst := [], el := [], arr := [], fzl := [], pfx := [], snap := [], heads := [(0, { keep := [0, 1, 5, 6], conv := [(6, .own 3 [(.int .i64)])], bconv := [] }), (2, { keep := [0, 1, 5, 6, 37, 38, 39], conv := [(6, .own 3 [(.int .i64)])], bconv := [] })], ends := [(0, { keep := [4, 5], conv := [], bconv := [] }), (2, { keep := [0, 1, 4, 5, 6], conv := [], bconv := [] })], ord := [] }
noncomputable def h86 : Hint := { inst := [], el := [], arr := [], fzl := [], pfx := [], snap := [], heads := [(0, { keep := [0, 1, 2, 3, 8], conv := [], bconv := [] }), (2, { keep := [0, 1, 2, 3, 8, 9], conv := [], bconv := [] })], ends := [(0, { keep := [], conv := [], bconv := [] }), (2, { keep := [0, 1, 2, 3, 8], conv := [], bconv := [] })], ord := [] }
noncomputable def h95 : Hint := { inst := [], el := [], arr := [], fzl := [], pfx := [], snap := [], heads := [], ends := [], ord := [] }
noncomputable def h97 : Hint := { inst := [], el := [], arr := [], fzl := [], pfx := [], snap := [], heads := [(0, { keep := [0, 1, 2, 3, 8, 9], conv := [], bconv := [] })], ends := [(0, { keep := [], conv := [], bconv := [] })], ord := [] }
noncomputable def h105 : Hint := { inst := [], el := [], arr := [], fzl := [], pfx := [], snap := [], heads := [(0, { keep := [0, 1, 2, 6], conv := [], bconv := [] }), (2, { keep := [0, 1, 2, 6, 7], conv := [], bconv := [] })], ends := [(0, { keep := [], conv := [], bconv := [] }), (2, { keep := [0, 1, 2, 6], conv := [], bconv := [] })], ord := [] }
noncomputable def sites : BT Site := (.node 6 { fn := 61, f := Tryz.f61, c := cd Tryz.f61, h := { inst := [], el := [], arr := [], fzl := [], pfx := [], snap := [], heads := [(0, { keep := [2, 18, 19, 20, 14006, 14007], conv := [], bconv := [(7, 0, .own 3 [(.int .i64)]), (7, 1, .own 3 [(.int .i64)]), (7, 2, .own 3 [(.int .i64)]), (7, 3, .own 3 [(.int .i64)])], nb := 13000 }), (2, { keep := [2, 18, 19, 20, 25, 26, 27, 14006, 14007], conv := [], bconv := [(7, 0, .own 3 [(.int .i64)]), (7, 1, .own 3 [(.int .i64)]), (7, 2, .own 3 [(.int .i64)]), (7, 3, .own 3 [(.int .i64)])], nb := 13000 })], ends := [(0, { keep := [14006, 14007], conv := [], bconv := [], nb := 13000 }), (2, { keep := [2, 18, 19, 20, 14006, 14007], conv := [], bconv := [], nb := 13000 })], ord := [], nb := 12400, inl := [(33, { site := 7, base := 16000, live := [2, 18, 19, 20, 25, 26, 27], old := [14006, 14007] })] }, np := 3 }
 (.node 3 { fn := 35, f := Tryz.f35, c := cd Tryz.f35, h := { inst := [], el := [], arr := [], fzl := [], pfx := [], snap := [], heads := [(0, { keep := [0, 2, 8001, 8002, 8003, 8004, 8005, 8007, 8023, 8024, 8033, 8034, 2001, 2002, 2005, 2006, 2007, 2008, 2035, 2036, 2037, 2159, 2160, 2161], conv := [], bconv := [], nb := 7000 }), (2, { keep := [0, 2, 3, 8001, 8002, 8003, 8004, 8005, 8007, 8023, 8024, 8033, 8034, 2001, 2002, 2005, 2006, 2007, 2008, 2035, 2036, 2037, 2159, 2160, 2161], conv := [], bconv := [], nb := 7000 })], ends := [(0, { keep := [0, 8001, 8002, 8003, 8004, 8005, 8007, 8023, 8024, 8033, 8034, 2001, 2002, 2005, 2006, 2007, 2008, 2035, 2036, 2037, 2159, 2160, 2161], conv := [], bconv := [], nb := 7000 }), (2, { keep := [0, 2, 8001, 8002, 8003, 8004, 8005, 8007, 8023, 8024, 8033, 8034, 2001, 2002, 2005, 2006, 2007, 2008, 2035, 2036, 2037, 2159, 2160, 2161], conv := [], bconv := [], nb := 7000 })], ord := [], nb := 6400 }, np := 1 }
 (.node 1 { fn := 33, f := Tryz.f33, c := cd Tryz.f33, h := { inst := [], el := [], arr := [], fzl := [], pfx := [], snap := [], heads := [(0, { keep := [1, 2, 16, 17, 18, 4001, 4002, 2001, 2002, 2005, 2006, 2007, 2008, 2035, 2036, 2037, 2159, 2160, 2161], conv := [], bconv := [(3001, 4, .own 40 [(.sl true 26 y13)])], nb := 3000 }), (2, { keep := [1, 2, 6, 16, 17, 18, 23, 24, 25, 4001, 4002, 2001, 2002, 2005, 2006, 2007, 2008, 2035, 2036, 2037, 2159, 2160, 2161], conv := [(6, .own 26 y13)], bconv := [], nb := 3000 })], ends := [(0, { keep := [1, 2, 4001, 4002, 2001, 2002, 2005, 2006, 2007, 2008, 2035, 2036, 2037, 2159, 2160, 2161], conv := [], bconv := [], nb := 3000 }), (2, { keep := [1, 2, 6, 16, 17, 18, 4001, 4002, 2001, 2002, 2005, 2006, 2007, 2008, 2035, 2036, 2037, 2159, 2160, 2161], conv := [], bconv := [], nb := 3000 })], ord := [], nb := 2400, inl := [(31, { site := 2, base := 6000, live := [1, 2, 16, 17, 18, 23, 24, 25, 29], old := [4001, 4002, 2001, 2002, 2005, 2006, 2007, 2008, 2035, 2036, 2037, 2159, 2160, 2161] })] }, np := 1 }
 (.node 0 { fn := 17, f := Tryz.f17, c := cd Tryz.f17, h := { inst := [], el := [], arr := [], fzl := [], pfx := [], snap := [], heads := [(0, { keep := [1, 2, 3, 4, 23, 24, 2001, 2002, 2005, 2006, 2007, 2008, 2035, 2036, 2037, 2159, 2160, 2161], conv := [], bconv := [], nb := 1000 }), (2, { keep := [1, 2, 3, 4, 5, 23, 24, 33, 34, 2001, 2002, 2005, 2006, 2007, 2008, 2035, 2036, 2037, 2159, 2160, 2161], conv := [], bconv := [], nb := 1000 }), (4, { keep := [1, 2, 3, 100, 101, 2001, 2002, 2005, 2006, 2007, 2008, 2035, 2036, 2037, 2159, 2160, 2161], conv := [], bconv := [], nb := 1000 }), (6, { keep := [1, 2, 3, 100, 101, 109, 110, 111, 2001, 2002, 2005, 2006, 2007, 2008, 2035, 2036, 2037, 2159, 2160, 2161], conv := [], bconv := [], nb := 1000 }), (8, { keep := [1, 2, 3, 12, 100, 101, 109, 110, 111, 116, 117, 118, 2001, 2002, 2005, 2006, 2007, 2008, 2035, 2036, 2037, 2159, 2160, 2161], conv := [], bconv := [], nb := 1000 })], ends := [(0, { keep := [1, 2, 3, 2001, 2002, 2005, 2006, 2007, 2008, 2035, 2036, 2037, 2159, 2160, 2161], conv := [], bconv := [], nb := 1000 }), (2, { keep := [1, 2, 3, 4, 23, 24, 2001, 2002, 2005, 2006, 2007, 2008, 2035, 2036, 2037, 2159, 2160, 2161], conv := [], bconv := [], nb := 1000 }), (4, { keep := [1, 2, 2001, 2002, 2005, 2006, 2007, 2008, 2035, 2036, 2037, 2159, 2160, 2161], conv := [], bconv := [(1001, 4, .frz 40 [(.sl true 26 y0)]), (1002, 4, .frz 40 [(.sl true 26 y0)])], nb := 1000 }), (6, { keep := [1, 2, 3, 100, 101, 2001, 2002, 2005, 2006, 2007, 2008, 2035, 2036, 2037, 2159, 2160, 2161], conv := [], bconv := [], nb := 1000 }), (8, { keep := [1, 2, 3, 100, 101, 109, 110, 111, 2001, 2002, 2005, 2006, 2007, 2008, 2035, 2036, 2037, 2159, 2160, 2161], conv := [], bconv := [], nb := 1000 })], ord := [], nb := 400, inl := [(16, { site := 1, base := 4000, live := [1, 2], old := [2001, 2002, 2005, 2006, 2007, 2008, 2035, 2036, 2037, 2159, 2160, 2161] }), (64, { site := 3, base := 8000, live := [1, 2, 3, 4, 5, 7, 23, 24, 33, 34], old := [2001, 2002, 2005, 2006, 2007, 2008, 2035, 2036, 2037, 2159, 2160, 2161] })] }, np := 1 }
 .nil .nil) (.node 2 { fn := 56, f := Tryz.f56, c := cd Tryz.f56, h := { inst := [], el := [], arr := [], fzl := [], pfx := [], snap := [], heads := [], ends := [], ord := [], nb := 4400 }, np := 1 }
 .nil .nil)) (.node 5 { fn := 57, f := Tryz.f57, c := cd Tryz.f57, h := { inst := [], el := [], arr := [], fzl := [11004], pfx := [], snap := [], heads := [], ends := [], ord := [], nb := 10400 }, np := 1 }
 (.node 4 { fn := 34, f := Tryz.f34, c := cd Tryz.f34, h := { inst := [], el := [], arr := [], fzl := [9082], pfx := [], snap := [], heads := [(0, { keep := [3, 6, 7, 9, 11, 12, 10004], conv := [], bconv := [], nb := 9000 })], ends := [(0, { keep := [3, 6, 7, 9, 11, 12, 10004], conv := [], bconv := [], nb := 9000 })], ord := [], nb := 8400, inl := [(14, { site := 5, base := 12000, live := [1, 2, 3, 6], old := [10004] })] }, np := 3 }
 .nil .nil) .nil)) (.node 9 { fn := 63, f := Tryz.f63, c := cd Tryz.f63, h := { inst := [], el := [], arr := [], fzl := [], pfx := [], snap := [], heads := [(0, { keep := [1, 2, 8, 9, 10, 20001, 20002, 20003, 20004, 20005, 20006, 16002, 16018, 16019, 16020, 16025, 16026, 16027, 14006, 14007], conv := [], bconv := [(7, 0, .own 3 [(.int .i64)]), (7, 1, .own 3 [(.int .i64)]), (7, 2, .own 3 [(.int .i64)]), (7, 3, .own 3 [(.int .i64)])], nb := 19000 })], ends := [(0, { keep := [1, 2, 20001, 20002, 20003, 20004, 20005, 20006, 16002, 16018, 16019, 16020, 16025, 16026, 16027, 14006, 14007], conv := [], bconv := [], nb := 19000 })], ord := [], nb := 18400 }, np := 3 }
 (.node 8 { fn := 63, f := Tryz.f63, c := cd Tryz.f63, h := { inst := [], el := [], arr := [], fzl := [], pfx := [], snap := [], heads := [(0, { keep := [1, 2, 8, 9, 10, 18001, 18002, 18003, 18004, 18005, 18006, 16002, 16018, 16019, 16020, 16025, 16026, 16027, 14006, 14007], conv := [], bconv := [(7, 0, .own 3 [(.int .i64)]), (7, 1, .own 3 [(.int .i64)]), (7, 2, .own 3 [(.int .i64)]), (7, 3, .own 3 [(.int .i64)])], nb := 17000 })], ends := [(0, { keep := [1, 2, 18001, 18002, 18003, 18004, 18005, 18006, 16002, 16018, 16019, 16020, 16025, 16026, 16027, 14006, 14007], conv := [], bconv := [], nb := 17000 })], ord := [], nb := 16400 }, np := 3 }
 (.node 7 { fn := 62, f := Tryz.f62, c := cd Tryz.f62, h := { inst := [], el := [], arr := [], fzl := [], pfx := [], snap := [], heads := [(1, { keep := [1, 2, 5, 7, 60, 61, 62, 16002, 16018, 16019, 16020, 16025, 16026, 16027, 14006, 14007], conv := [], bconv := [(7, 0, .own 3 [(.int .i64)]), (7, 1, .own 3 [(.int .i64)]), (7, 2, .own 3 [(.int .i64)]), (7, 3, .own 3 [(.int .i64)])], nb := 15000 }), (3, { keep := [1, 2, 5, 7, 10, 60, 61, 62, 90, 91, 92, 16002, 16018, 16019, 16020, 16025, 16026, 16027, 14006, 14007], conv := [], bconv := [(7, 0, .own 3 [(.int .i64)]), (7, 1, .own 3 [(.int .i64)]), (7, 2, .own 3 [(.int .i64)]), (7, 3, .own 3 [(.int .i64)])], nb := 15000 }), (5, { keep := [1, 2, 5, 7, 60, 61, 62, 112, 113, 114, 16002, 16018, 16019, 16020, 16025, 16026, 16027, 14006, 14007], conv := [], bconv := [(7, 0, .own 3 [(.int .i64)]), (7, 1, .own 3 [(.int .i64)]), (7, 2, .own 3 [(.int .i64)]), (7, 3, .own 3 [(.int .i64)])], nb := 15000 })], ends := [(1, { keep := [16002, 16018, 16019, 16020, 16025, 16026, 16027, 14006, 14007], conv := [], bconv := [], nb := 15000 }), (3, { keep := [1, 2, 5, 7, 10, 60, 61, 62, 16002, 16018, 16019, 16020, 16025, 16026, 16027, 14006, 14007], conv := [], bconv := [], nb := 15000 }), (5, { keep := [1, 2, 5, 7, 60, 61, 62, 16002, 16018, 16019, 16020, 16025, 16026, 16027, 14006, 14007], conv := [], bconv := [], nb := 15000 })], ord := [], nb := 14400, inl := [(34, { site := 8, base := 18000, live := [1, 2, 3, 4, 5, 6], old := [16002, 16018, 16019, 16020, 16025, 16026, 16027, 14006, 14007] }), (49, { site := 9, base := 20000, live := [1, 2, 3, 4, 5, 6], old := [16002, 16018, 16019, 16020, 16025, 16026, 16027, 14006, 14007] }), (109, { site := 10, base := 22000, live := [1, 2, 5, 7, 10, 60, 61, 62, 90, 91, 92], old := [16002, 16018, 16019, 16020, 16025, 16026, 16027, 14006, 14007] }), (131, { site := 11, base := 24000, live := [1, 2, 5, 7, 60, 61, 62, 112, 113, 114], old := [16002, 16018, 16019, 16020, 16025, 16026, 16027, 14006, 14007] })] }, np := 6 }
 .nil .nil) .nil) (.node 11 { fn := 63, f := Tryz.f63, c := cd Tryz.f63, h := { inst := [], el := [], arr := [], fzl := [], pfx := [], snap := [], heads := [(0, { keep := [1, 2, 8, 9, 10, 24001, 24002, 24005, 24007, 24060, 24061, 24062, 24112, 24113, 24114, 16002, 16018, 16019, 16020, 16025, 16026, 16027, 14006, 14007], conv := [], bconv := [(7, 0, .own 3 [(.int .i64)]), (7, 1, .own 3 [(.int .i64)]), (7, 2, .own 3 [(.int .i64)]), (7, 3, .own 3 [(.int .i64)])], nb := 23000 })], ends := [(0, { keep := [1, 2, 24001, 24002, 24005, 24007, 24060, 24061, 24062, 24112, 24113, 24114, 16002, 16018, 16019, 16020, 16025, 16026, 16027, 14006, 14007], conv := [], bconv := [], nb := 23000 })], ord := [], nb := 22400 }, np := 3 }
 (.node 10 { fn := 63, f := Tryz.f63, c := cd Tryz.f63, h := { inst := [], el := [], arr := [], fzl := [], pfx := [], snap := [], heads := [(0, { keep := [1, 2, 8, 9, 10, 22001, 22002, 22005, 22007, 22010, 22060, 22061, 22062, 22090, 22091, 22092, 16002, 16018, 16019, 16020, 16025, 16026, 16027, 14006, 14007], conv := [], bconv := [(7, 0, .own 3 [(.int .i64)]), (7, 1, .own 3 [(.int .i64)]), (7, 2, .own 3 [(.int .i64)]), (7, 3, .own 3 [(.int .i64)])], nb := 21000 })], ends := [(0, { keep := [1, 2, 22001, 22002, 22005, 22007, 22010, 22060, 22061, 22062, 22090, 22091, 22092, 16002, 16018, 16019, 16020, 16025, 16026, 16027, 14006, 14007], conv := [], bconv := [], nb := 21000 })], ord := [], nb := 20400 }, np := 3 }
 .nil .nil) .nil)))
noncomputable def bodies : Bodies := (.node 40 (Tryz.f40, h40)
 (.node 21 (Tryz.f21, h21)
 (.node 11 (Tryz.f11, h11)
 (.node 7 (Tryz.f7, h7)
 (.node 5 (Tryz.f5, h5)
 (.node 4 (Tryz.f4, h4)
 (.node 3 (Tryz.f3, h3)
 .nil .nil) .nil) (.node 6 (Tryz.f6, h6)
 .nil .nil)) (.node 9 (Tryz.f9, h9)
 (.node 8 (Tryz.f8, h8)
 .nil .nil) (.node 10 (Tryz.f10, h10)
 .nil .nil))) (.node 16 (Tryz.f16, h16)
 (.node 14 (Tryz.f14, h14)
 (.node 13 (Tryz.f13, h13)
 (.node 12 (Tryz.f12, h12)
 .nil .nil) .nil) (.node 15 (Tryz.f15, h15)
 .nil .nil)) (.node 19 (Tryz.f19, h19)
 (.node 18 (Tryz.f18, h18)
 .nil .nil) (.node 20 (Tryz.f20, h20)
 .nil .nil)))) (.node 30 (Tryz.f30, h30)
 (.node 26 (Tryz.f26, h26)
 (.node 24 (Tryz.f24, h24)
 (.node 23 (Tryz.f23, h23)
 (.node 22 (Tryz.f22, h22)
 .nil .nil) .nil) (.node 25 (Tryz.f25, h25)
 .nil .nil)) (.node 28 (Tryz.f28, h28)
 (.node 27 (Tryz.f27, h27)
 .nil .nil) (.node 29 (Tryz.f29, h29)
 .nil .nil))) (.node 36 (Tryz.f36, h36)
 (.node 32 (Tryz.f32, h32)
 (.node 31 (Tryz.f31, h31)
 .nil .nil) (.node 33 (Tryz.f33, h33)
 .nil .nil)) (.node 38 (Tryz.f38, h38)
 (.node 37 (Tryz.f37, h37)
 .nil .nil) (.node 39 (Tryz.f39, h39)
 .nil .nil))))) (.node 67 (Tryz.f67, h67)
 (.node 51 (Tryz.f51, h51)
 (.node 45 (Tryz.f45, h45)
 (.node 43 (Tryz.f43, h43)
 (.node 42 (Tryz.f42, h42)
 (.node 41 (Tryz.f41, h41)
 .nil .nil) .nil) (.node 44 (Tryz.f44, h44)
 .nil .nil)) (.node 48 (Tryz.f48, h48)
 (.node 47 (Tryz.f47, h47)
 .nil .nil) (.node 49 (Tryz.f49, h49)
 .nil .nil))) (.node 58 (Tryz.f58, h58)
 (.node 55 (Tryz.f55, h55)
 (.node 54 (Tryz.f54, h54)
 (.node 52 (Tryz.f52, h52)
 .nil .nil) .nil) (.node 56 (Tryz.f56, h56)
 .nil .nil)) (.node 65 (Tryz.f65, h65)
 (.node 64 (Tryz.f64, h64)
 .nil .nil) (.node 66 (Tryz.f66, h66)
 .nil .nil)))) (.node 81 (Tryz.f81, h81)
 (.node 73 (Tryz.f73, h73)
 (.node 70 (Tryz.f70, h70)
 (.node 69 (Tryz.f69, h69)
 (.node 68 (Tryz.f68, h68)
 .nil .nil) .nil) (.node 71 (Tryz.f71, h71)
 .nil .nil)) (.node 76 (Tryz.f76, h76)
 (.node 75 (Tryz.f75, h75)
 .nil .nil) (.node 77 (Tryz.f77, h77)
 .nil .nil))) (.node 86 (Tryz.f86, h86)
 (.node 83 (Tryz.f83, h83)
 (.node 82 (Tryz.f82, h82)
 .nil .nil) (.node 85 (Tryz.f85, h85)
 .nil .nil)) (.node 97 (Tryz.f97, h97)
 (.node 95 (Tryz.f95, h95)
 .nil .nil) (.node 105 (Tryz.f105, h105)
 .nil .nil))))))
noncomputable def E : Env := { tt := types, pt := ptrs, sg := sigs, eqt := eqts, mt := maps }
theorem env_ok : envB Tryz.prog E = true := by kernel_rfl
theorem env_sound : EnvOk Tryz.prog E := envB_sound env_ok
theorem mixed : Tryz.prog.follows .mixedOrders = true := by kernel_rfl
theorem bodies_ok : bodies.allB (fnB E) = true := by kernel_rfl
theorem sigs_ok : sigs.allB sgB = true := by kernel_rfl
theorem sites_ok : sites.allB (siteB E) = true := by kernel_rfl
theorem inOf {m : Nat} {f : Func} {s : Sig} (h1 : Tryz.prog.funcs[m]? = some f) (h2 : (f.name == "runtime.NumGoroutine") = false) (h3 : f.body.isNone = false) : FnIn Tryz.prog m s := ⟨f, h1, by simpa using h2, h3⟩
theorem in3 {s : Sig} : FnIn Tryz.prog 3 s := inOf Tryz.func3 (by kernel_rfl) (by kernel_rfl)
theorem in4 {s : Sig} : FnIn Tryz.prog 4 s := inOf Tryz.func4 (by kernel_rfl) (by kernel_rfl)
theorem in5 {s : Sig} : FnIn Tryz.prog 5 s := inOf Tryz.func5 (by kernel_rfl) (by kernel_rfl)
theorem in6 {s : Sig} : FnIn Tryz.prog 6 s := inOf Tryz.func6 (by kernel_rfl) (by kernel_rfl)
theorem in7 {s : Sig} : FnIn Tryz.prog 7 s := inOf Tryz.func7 (by kernel_rfl) (by kernel_rfl)
theorem in8 {s : Sig} : FnIn Tryz.prog 8 s := inOf Tryz.func8 (by kernel_rfl) (by kernel_rfl)
theorem in9 {s : Sig} : FnIn Tryz.prog 9 s := inOf Tryz.func9 (by kernel_rfl) (by kernel_rfl)
theorem in10 {s : Sig} : FnIn Tryz.prog 10 s := inOf Tryz.func10 (by kernel_rfl) (by kernel_rfl)
theorem in11 {s : Sig} : FnIn Tryz.prog 11 s := inOf Tryz.func11 (by kernel_rfl) (by kernel_rfl)
theorem in12 {s : Sig} : FnIn Tryz.prog 12 s := inOf Tryz.func12 (by kernel_rfl) (by kernel_rfl)
theorem in13 {s : Sig} : FnIn Tryz.prog 13 s := inOf Tryz.func13 (by kernel_rfl) (by kernel_rfl)
theorem in14 {s : Sig} : FnIn Tryz.prog 14 s := inOf Tryz.func14 (by kernel_rfl) (by kernel_rfl)
theorem in15 {s : Sig} : FnIn Tryz.prog 15 s := inOf Tryz.func15 (by kernel_rfl) (by kernel_rfl)
theorem in16 {s : Sig} : FnIn Tryz.prog 16 s := inOf Tryz.func16 (by kernel_rfl) (by kernel_rfl)
theorem in18 {s : Sig} : FnIn Tryz.prog 18 s := inOf Tryz.func18 (by kernel_rfl) (by kernel_rfl)
theorem in19 {s : Sig} : FnIn Tryz.prog 19 s := inOf Tryz.func19 (by kernel_rfl) (by kernel_rfl)
theorem in20 {s : Sig} : FnIn Tryz.prog 20 s := inOf Tryz.func20 (by kernel_rfl) (by kernel_rfl)
theorem in21 {s : Sig} : FnIn Tryz.prog 21 s := inOf Tryz.func21 (by kernel_rfl) (by kernel_rfl)
theorem in22 {s : Sig} : FnIn Tryz.prog 22 s := inOf Tryz.func22 (by kernel_rfl) (by kernel_rfl)
theorem in23 {s : Sig} : FnIn Tryz.prog 23 s := inOf Tryz.func23 (by kernel_rfl) (by kernel_rfl)
theorem in24 {s : Sig} : FnIn Tryz.prog 24 s := inOf Tryz.func24 (by kernel_rfl) (by kernel_rfl)
theorem in25 {s : Sig} : FnIn Tryz.prog 25 s := inOf Tryz.func25 (by kernel_rfl) (by kernel_rfl)
theorem in26 {s : Sig} : FnIn Tryz.prog 26 s := inOf Tryz.func26 (by kernel_rfl) (by kernel_rfl)
theorem in27 {s : Sig} : FnIn Tryz.prog 27 s := inOf Tryz.func27 (by kernel_rfl) (by kernel_rfl)
theorem in28 {s : Sig} : FnIn Tryz.prog 28 s := inOf Tryz.func28 (by kernel_rfl) (by kernel_rfl)
theorem in29 {s : Sig} : FnIn Tryz.prog 29 s := inOf Tryz.func29 (by kernel_rfl) (by kernel_rfl)
theorem in30 {s : Sig} : FnIn Tryz.prog 30 s := inOf Tryz.func30 (by kernel_rfl) (by kernel_rfl)
theorem in31 {s : Sig} : FnIn Tryz.prog 31 s := inOf Tryz.func31 (by kernel_rfl) (by kernel_rfl)
theorem in32 {s : Sig} : FnIn Tryz.prog 32 s := inOf Tryz.func32 (by kernel_rfl) (by kernel_rfl)
theorem in33 {s : Sig} : FnIn Tryz.prog 33 s := inOf Tryz.func33 (by kernel_rfl) (by kernel_rfl)
theorem in35 {s : Sig} : FnIn Tryz.prog 35 s := inOf Tryz.func35 (by kernel_rfl) (by kernel_rfl)
theorem in36 {s : Sig} : FnIn Tryz.prog 36 s := inOf Tryz.func36 (by kernel_rfl) (by kernel_rfl)
theorem in37 {s : Sig} : FnIn Tryz.prog 37 s := inOf Tryz.func37 (by kernel_rfl) (by kernel_rfl)
theorem in38 {s : Sig} : FnIn Tryz.prog 38 s := inOf Tryz.func38 (by kernel_rfl) (by kernel_rfl)
theorem in39 {s : Sig} : FnIn Tryz.prog 39 s := inOf Tryz.func39 (by kernel_rfl) (by kernel_rfl)
theorem in40 {s : Sig} : FnIn Tryz.prog 40 s := inOf Tryz.func40 (by kernel_rfl) (by kernel_rfl)
theorem in41 {s : Sig} : FnIn Tryz.prog 41 s := inOf Tryz.func41 (by kernel_rfl) (by kernel_rfl)
theorem in42 {s : Sig} : FnIn Tryz.prog 42 s := inOf Tryz.func42 (by kernel_rfl) (by kernel_rfl)
theorem in43 {s : Sig} : FnIn Tryz.prog 43 s := inOf Tryz.func43 (by kernel_rfl) (by kernel_rfl)
theorem in44 {s : Sig} : FnIn Tryz.prog 44 s := inOf Tryz.func44 (by kernel_rfl) (by kernel_rfl)
theorem in45 {s : Sig} : FnIn Tryz.prog 45 s := inOf Tryz.func45 (by kernel_rfl) (by kernel_rfl)
theorem in46 {s : Sig} : FnIn Tryz.prog 46 s := inOf Tryz.func46 (by kernel_rfl) (by kernel_rfl)
theorem in47 {s : Sig} : FnIn Tryz.prog 47 s := inOf Tryz.func47 (by kernel_rfl) (by kernel_rfl)
theorem in48 {s : Sig} : FnIn Tryz.prog 48 s := inOf Tryz.func48 (by kernel_rfl) (by kernel_rfl)
theorem in49 {s : Sig} : FnIn Tryz.prog 49 s := inOf Tryz.func49 (by kernel_rfl) (by kernel_rfl)
theorem in50 {s : Sig} : FnIn Tryz.prog 50 s := inOf Tryz.func50 (by kernel_rfl) (by kernel_rfl)
theorem in51 {s : Sig} : FnIn Tryz.prog 51 s := inOf Tryz.func51 (by kernel_rfl) (by kernel_rfl)
theorem in52 {s : Sig} : FnIn Tryz.prog 52 s := inOf Tryz.func52 (by kernel_rfl) (by kernel_rfl)
theorem in53 {s : Sig} : FnIn Tryz.prog 53 s := inOf Tryz.func53 (by kernel_rfl) (by kernel_rfl)
theorem in54 {s : Sig} : FnIn Tryz.prog 54 s := inOf Tryz.func54 (by kernel_rfl) (by kernel_rfl)
theorem in55 {s : Sig} : FnIn Tryz.prog 55 s := inOf Tryz.func55 (by kernel_rfl) (by kernel_rfl)
theorem in56 {s : Sig} : FnIn Tryz.prog 56 s := inOf Tryz.func56 (by kernel_rfl) (by kernel_rfl)
theorem in58 {s : Sig} : FnIn Tryz.prog 58 s := inOf Tryz.func58 (by kernel_rfl) (by kernel_rfl)
theorem in59 {s : Sig} : FnIn Tryz.prog 59 s := inOf Tryz.func59 (by kernel_rfl) (by kernel_rfl)
theorem in60 {s : Sig} : FnIn Tryz.prog 60 s := inOf Tryz.func60 (by kernel_rfl) (by kernel_rfl)
theorem in64 {s : Sig} : FnIn Tryz.prog 64 s := inOf Tryz.func64 (by kernel_rfl) (by kernel_rfl)
theorem in65 {s : Sig} : FnIn Tryz.prog 65 s := inOf Tryz.func65 (by kernel_rfl) (by kernel_rfl)
theorem in66 {s : Sig} : FnIn Tryz.prog 66 s := inOf Tryz.func66 (by kernel_rfl) (by kernel_rfl)
theorem in67 {s : Sig} : FnIn Tryz.prog 67 s := inOf Tryz.func67 (by kernel_rfl) (by kernel_rfl)
theorem in68 {s : Sig} : FnIn Tryz.prog 68 s := inOf Tryz.func68 (by kernel_rfl) (by kernel_rfl)
theorem in69 {s : Sig} : FnIn Tryz.prog 69 s := inOf Tryz.func69 (by kernel_rfl) (by kernel_rfl)
theorem in70 {s : Sig} : FnIn Tryz.prog 70 s := inOf Tryz.func70 (by kernel_rfl) (by kernel_rfl)
theorem in71 {s : Sig} : FnIn Tryz.prog 71 s := inOf Tryz.func71 (by kernel_rfl) (by kernel_rfl)
theorem in72 {s : Sig} : FnIn Tryz.prog 72 s := inOf Tryz.func72 (by kernel_rfl) (by kernel_rfl)
theorem in73 {s : Sig} : FnIn Tryz.prog 73 s := inOf Tryz.func73 (by kernel_rfl) (by kernel_rfl)
theorem in74 {s : Sig} : FnIn Tryz.prog 74 s := inOf Tryz.func74 (by kernel_rfl) (by kernel_rfl)
theorem in75 {s : Sig} : FnIn Tryz.prog 75 s := inOf Tryz.func75 (by kernel_rfl) (by kernel_rfl)
theorem in76 {s : Sig} : FnIn Tryz.prog 76 s := inOf Tryz.func76 (by kernel_rfl) (by kernel_rfl)
theorem in77 {s : Sig} : FnIn Tryz.prog 77 s := inOf Tryz.func77 (by kernel_rfl) (by kernel_rfl)
theorem in79 {s : Sig} : FnIn Tryz.prog 79 s := inOf Tryz.func79 (by kernel_rfl) (by kernel_rfl)
theorem in80 {s : Sig} : FnIn Tryz.prog 80 s := inOf Tryz.func80 (by kernel_rfl) (by kernel_rfl)
theorem in81 {s : Sig} : FnIn Tryz.prog 81 s := inOf Tryz.func81 (by kernel_rfl) (by kernel_rfl)
theorem in82 {s : Sig} : FnIn Tryz.prog 82 s := inOf Tryz.func82 (by kernel_rfl) (by kernel_rfl)
theorem in83 {s : Sig} : FnIn Tryz.prog 83 s := inOf Tryz.func83 (by kernel_rfl) (by kernel_rfl)
theorem in84 {s : Sig} : FnIn Tryz.prog 84 s := inOf Tryz.func84 (by kernel_rfl) (by kernel_rfl)
theorem in85 {s : Sig} : FnIn Tryz.prog 85 s := inOf Tryz.func85 (by kernel_rfl) (by kernel_rfl)
theorem in86 {s : Sig} : FnIn Tryz.prog 86 s := inOf Tryz.func86 (by kernel_rfl) (by kernel_rfl)
theorem in94 {s : Sig} : FnIn Tryz.prog 94 s := inOf Tryz.func94 (by kernel_rfl) (by kernel_rfl)
theorem in95 {s : Sig} : FnIn Tryz.prog 95 s := inOf Tryz.func95 (by kernel_rfl) (by kernel_rfl)
theorem in96 {s : Sig} : FnIn Tryz.prog 96 s := inOf Tryz.func96 (by kernel_rfl) (by kernel_rfl)
theorem in97 {s : Sig} : FnIn Tryz.prog 97 s := inOf Tryz.func97 (by kernel_rfl) (by kernel_rfl)
theorem in98 {s : Sig} : FnIn Tryz.prog 98 s := inOf Tryz.func98 (by kernel_rfl) (by kernel_rfl)
theorem in100 {s : Sig} : FnIn Tryz.prog 100 s := inOf Tryz.func100 (by kernel_rfl) (by kernel_rfl)
theorem in101 {s : Sig} : FnIn Tryz.prog 101 s := inOf Tryz.func101 (by kernel_rfl) (by kernel_rfl)
theorem in104 {s : Sig} : FnIn Tryz.prog 104 s := inOf Tryz.func104 (by kernel_rfl) (by kernel_rfl)
theorem in105 {s : Sig} : FnIn Tryz.prog 105 s := inOf Tryz.func105 (by kernel_rfl) (by kernel_rfl)
theorem in106 {s : Sig} : FnIn Tryz.prog 106 s := inOf Tryz.func106 (by kernel_rfl) (by kernel_rfl)
theorem in107 {s : Sig} : FnIn Tryz.prog 107 s := inOf Tryz.func107 (by kernel_rfl) (by kernel_rfl)
theorem in108 {s : Sig} : FnIn Tryz.prog 108 s := inOf Tryz.func108 (by kernel_rfl) (by kernel_rfl)
theorem in109 {s : Sig} : FnIn Tryz.prog 109 s := inOf Tryz.func109 (by kernel_rfl) (by kernel_rfl)
theorem in110 {s : Sig} : FnIn Tryz.prog 110 s := inOf Tryz.func110 (by kernel_rfl) (by kernel_rfl)
theorem in111 {s : Sig} : FnIn Tryz.prog 111 s := inOf Tryz.func111 (by kernel_rfl) (by kernel_rfl)
theorem in112 {s : Sig} : FnIn Tryz.prog 112 s := inOf Tryz.func112 (by kernel_rfl) (by kernel_rfl)
theorem in113 {s : Sig} : FnIn Tryz.prog 113 s := inOf Tryz.func113 (by kernel_rfl) (by kernel_rfl)
theorem in115 {s : Sig} : FnIn Tryz.prog 115 s := inOf Tryz.func115 (by kernel_rfl) (by kernel_rfl)
theorem in116 {s : Sig} : FnIn Tryz.prog 116 s := inOf Tryz.func116 (by kernel_rfl) (by kernel_rfl)
theorem in117 {s : Sig} : FnIn Tryz.prog 117 s := inOf Tryz.func117 (by kernel_rfl) (by kernel_rfl)
theorem in118 {s : Sig} : FnIn Tryz.prog 118 s := inOf Tryz.func118 (by kernel_rfl) (by kernel_rfl)
theorem in119 {s : Sig} : FnIn Tryz.prog 119 s := inOf Tryz.func119 (by kernel_rfl) (by kernel_rfl)
theorem sigs_in : AllP (FnIn Tryz.prog) sigs :=
  ⟨in54, ⟨in28, ⟨in15, ⟨in9, ⟨in6, ⟨in4, ⟨in3, trivial, trivial⟩, ⟨in5, trivial, trivial⟩⟩, ⟨in8, ⟨in7, trivial, trivial⟩, trivial⟩⟩, ⟨in12, ⟨in11, ⟨in10, trivial, trivial⟩, trivial⟩, ⟨in14, ⟨in13, trivial, trivial⟩, trivial⟩⟩⟩, ⟨in22, ⟨in19, ⟨in18, ⟨in16, trivial, trivial⟩, trivial⟩, ⟨in21, ⟨in20, trivial, trivial⟩, trivial⟩⟩, ⟨in25, ⟨in24, ⟨in23, trivial, trivial⟩, trivial⟩, ⟨in27, ⟨in26, trivial, trivial⟩, trivial⟩⟩⟩⟩, ⟨in42, ⟨in36, ⟨in32, ⟨in30, ⟨in29, trivial, trivial⟩, ⟨in31, trivial, trivial⟩⟩, ⟨in35, ⟨in33, trivial, trivial⟩, trivial⟩⟩, ⟨in39, ⟨in38, ⟨in37, trivial, trivial⟩, trivial⟩, ⟨in41, ⟨in40, trivial, trivial⟩, trivial⟩⟩⟩, ⟨in48, ⟨in45, ⟨in44, ⟨in43, trivial, trivial⟩, trivial⟩, ⟨in47, ⟨in46, trivial, trivial⟩, trivial⟩⟩, ⟨in51, ⟨in50, ⟨in49, trivial, trivial⟩, trivial⟩, ⟨in53, ⟨in52, trivial, trivial⟩, trivial⟩⟩⟩⟩⟩, ⟨in84, ⟨in71, ⟨in65, ⟨in59, ⟨in56, ⟨in55, trivial, trivial⟩, ⟨in58, trivial, trivial⟩⟩, ⟨in64, ⟨in60, trivial, trivial⟩, trivial⟩⟩, ⟨in68, ⟨in67, ⟨in66, trivial, trivial⟩, trivial⟩, ⟨in70, ⟨in69, trivial, trivial⟩, trivial⟩⟩⟩, ⟨in77, ⟨in74, ⟨in73, ⟨in72, trivial, trivial⟩, trivial⟩, ⟨in76, ⟨in75, trivial, trivial⟩, trivial⟩⟩, ⟨in81, ⟨in80, ⟨in79, trivial, trivial⟩, trivial⟩, ⟨in83, ⟨in82, trivial, trivial⟩, trivial⟩⟩⟩⟩, ⟨in107, ⟨in98, ⟨in95, ⟨in86, ⟨in85, trivial, trivial⟩, ⟨in94, trivial, trivial⟩⟩, ⟨in97, ⟨in96, trivial, trivial⟩, trivial⟩⟩, ⟨in104, ⟨in101, ⟨in100, trivial, trivial⟩, trivial⟩, ⟨in106, ⟨in105, trivial, trivial⟩, trivial⟩⟩⟩, ⟨in113, ⟨in110, ⟨in109, ⟨in108, trivial, trivial⟩, trivial⟩, ⟨in112, ⟨in111, trivial, trivial⟩, trivial⟩⟩, ⟨in117, ⟨in116, ⟨in115, trivial, trivial⟩, trivial⟩, ⟨in119, ⟨in118, trivial, trivial⟩, trivial⟩⟩⟩⟩⟩⟩
theorem bodies_in : AllP (BdIn Tryz.prog) bodies :=
  ⟨Tryz.func40, ⟨Tryz.func21, ⟨Tryz.func11, ⟨Tryz.func7, ⟨Tryz.func5, ⟨Tryz.func4, ⟨Tryz.func3, trivial, trivial⟩, trivial⟩, ⟨Tryz.func6, trivial, trivial⟩⟩, ⟨Tryz.func9, ⟨Tryz.func8, trivial, trivial⟩, ⟨Tryz.func10, trivial, trivial⟩⟩⟩, ⟨Tryz.func16, ⟨Tryz.func14, ⟨Tryz.func13, ⟨Tryz.func12, trivial, trivial⟩, trivial⟩, ⟨Tryz.func15, trivial, trivial⟩⟩, ⟨Tryz.func19, ⟨Tryz.func18, trivial, trivial⟩, ⟨Tryz.func20, trivial, trivial⟩⟩⟩⟩, ⟨Tryz.func30, ⟨Tryz.func26, ⟨Tryz.func24, ⟨Tryz.func23, ⟨Tryz.func22, trivial, trivial⟩, trivial⟩, ⟨Tryz.func25, trivial, trivial⟩⟩, ⟨Tryz.func28, ⟨Tryz.func27, trivial, trivial⟩, ⟨Tryz.func29, trivial, trivial⟩⟩⟩, ⟨Tryz.func36, ⟨Tryz.func32, ⟨Tryz.func31, trivial, trivial⟩, ⟨Tryz.func33, trivial, trivial⟩⟩, ⟨Tryz.func38, ⟨Tryz.func37, trivial, trivial⟩, ⟨Tryz.func39, trivial, trivial⟩⟩⟩⟩⟩, ⟨Tryz.func67, ⟨Tryz.func51, ⟨Tryz.func45, ⟨Tryz.func43, ⟨Tryz.func42, ⟨Tryz.func41, trivial, trivial⟩, trivial⟩, ⟨Tryz.func44, trivial, trivial⟩⟩, ⟨Tryz.func48, ⟨Tryz.func47, trivial, trivial⟩, ⟨Tryz.func49, trivial, trivial⟩⟩⟩, ⟨Tryz.func58, ⟨Tryz.func55, ⟨Tryz.func54, ⟨Tryz.func52, trivial, trivial⟩, trivial⟩, ⟨Tryz.func56, trivial, trivial⟩⟩, ⟨Tryz.func65, ⟨Tryz.func64, trivial, trivial⟩, ⟨Tryz.func66, trivial, trivial⟩⟩⟩⟩, ⟨Tryz.func81, ⟨Tryz.func73, ⟨Tryz.func70, ⟨Tryz.func69, ⟨Tryz.func68, trivial, trivial⟩, trivial⟩, ⟨Tryz.func71, trivial, trivial⟩⟩, ⟨Tryz.func76, ⟨Tryz.func75, trivial, trivial⟩, ⟨Tryz.func77, trivial, trivial⟩⟩⟩, ⟨Tryz.func86, ⟨Tryz.func83, ⟨Tryz.func82, trivial, trivial⟩, ⟨Tryz.func85, trivial, trivial⟩⟩, ⟨Tryz.func97, ⟨Tryz.func95, trivial, trivial⟩, ⟨Tryz.func105, trivial, trivial⟩⟩⟩⟩⟩⟩
theorem sites_in : AllP (SiteIn Tryz.prog) sites :=
  ⟨⟨Tryz.func61, by have h : (Tryz.f61.name == "runtime.NumGoroutine") = false := (by kernel_rfl); simpa using h, by kernel_rfl⟩, ⟨⟨Tryz.func35, by have h : (Tryz.f35.name == "runtime.NumGoroutine") = false := (by kernel_rfl); simpa using h, by kernel_rfl⟩, ⟨⟨Tryz.func33, by have h : (Tryz.f33.name == "runtime.NumGoroutine") = false := (by kernel_rfl); simpa using h, by kernel_rfl⟩, ⟨⟨Tryz.func17, by have h : (Tryz.f17.name == "runtime.NumGoroutine") = false := (by kernel_rfl); simpa using h, by kernel_rfl⟩, trivial, trivial⟩, ⟨⟨Tryz.func56, by have h : (Tryz.f56.name == "runtime.NumGoroutine") = false := (by kernel_rfl); simpa using h, by kernel_rfl⟩, trivial, trivial⟩⟩, ⟨⟨Tryz.func57, by have h : (Tryz.f57.name == "runtime.NumGoroutine") = false := (by kernel_rfl); simpa using h, by kernel_rfl⟩, ⟨⟨Tryz.func34, by have h : (Tryz.f34.name == "runtime.NumGoroutine") = false := (by kernel_rfl); simpa using h, by kernel_rfl⟩, trivial, trivial⟩, trivial⟩⟩, ⟨⟨Tryz.func63, by have h : (Tryz.f63.name == "runtime.NumGoroutine") = false := (by kernel_rfl); simpa using h, by kernel_rfl⟩, ⟨⟨Tryz.func63, by have h : (Tryz.f63.name == "runtime.NumGoroutine") = false := (by kernel_rfl); simpa using h, by kernel_rfl⟩, ⟨⟨Tryz.func62, by have h : (Tryz.f62.name == "runtime.NumGoroutine") = false := (by kernel_rfl); simpa using h, by kernel_rfl⟩, trivial, trivial⟩, trivial⟩, ⟨⟨Tryz.func63, by have h : (Tryz.f63.name == "runtime.NumGoroutine") = false := (by kernel_rfl); simpa using h, by kernel_rfl⟩, ⟨⟨Tryz.func63, by have h : (Tryz.f63.name == "runtime.NumGoroutine") = false := (by kernel_rfl); simpa using h, by kernel_rfl⟩, trivial, trivial⟩, trivial⟩⟩⟩
theorem sites_loops : ∀ q s, sites.look q = some s → LoopsAre s.c := fun q s h => AllP.look (Q := fun _ s => LoopsAre s.c) (show AllP (fun _ s => LoopsAre s.c) sites from ⟨⟨(loopsOf 0 (cd Tryz.f61)).map (fun q => q.1), by kernel_rfl, by kernel_rfl⟩, ⟨⟨(loopsOf 0 (cd Tryz.f35)).map (fun q => q.1), by kernel_rfl, by kernel_rfl⟩, ⟨⟨(loopsOf 0 (cd Tryz.f33)).map (fun q => q.1), by kernel_rfl, by kernel_rfl⟩, ⟨⟨(loopsOf 0 (cd Tryz.f17)).map (fun q => q.1), by kernel_rfl, by kernel_rfl⟩, trivial, trivial⟩, ⟨⟨(loopsOf 0 (cd Tryz.f56)).map (fun q => q.1), by kernel_rfl, by kernel_rfl⟩, trivial, trivial⟩⟩, ⟨⟨(loopsOf 0 (cd Tryz.f57)).map (fun q => q.1), by kernel_rfl, by kernel_rfl⟩, ⟨⟨(loopsOf 0 (cd Tryz.f34)).map (fun q => q.1), by kernel_rfl, by kernel_rfl⟩, trivial, trivial⟩, trivial⟩⟩, ⟨⟨(loopsOf 0 (cd Tryz.f63)).map (fun q => q.1), by kernel_rfl, by kernel_rfl⟩, ⟨⟨(loopsOf 0 (cd Tryz.f63)).map (fun q => q.1), by kernel_rfl, by kernel_rfl⟩, ⟨⟨(loopsOf 0 (cd Tryz.f62)).map (fun q => q.1), by kernel_rfl, by kernel_rfl⟩, trivial, trivial⟩, trivial⟩, ⟨⟨(loopsOf 0 (cd Tryz.f63)).map (fun q => q.1), by kernel_rfl, by kernel_rfl⟩, ⟨⟨(loopsOf 0 (cd Tryz.f63)).map (fun q => q.1), by kernel_rfl, by kernel_rfl⟩, trivial, trivial⟩, trivial⟩⟩⟩) h
theorem fns_ok (k N n : Nat) : ∀ m s, E.sg.look m = some s → psOk s.ps = true → FnOk Tryz.prog (lvE E k sites N) (ctxN (lvE E k sites N) bodies (fun _ => none) k n) m s := plain_ok env_sound mixed bodies_ok sigs_ok sigs_in bodies_in sites_ok sites_in N n
end Go.Eng.G
