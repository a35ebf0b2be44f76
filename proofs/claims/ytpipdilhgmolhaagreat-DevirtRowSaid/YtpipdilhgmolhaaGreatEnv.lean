/- Part of the proof. -/
import Derived.Test.YtpipdilhgmolhaaGreatEngE
import Derived.Test.YtpipdilhgmolhaaGreatProg
import Derived.KernelRfl

namespace Go.Eng.V
open Go.Proofs
noncomputable def y0 : List LT := [(.int .i64), (.int .i64), (.int .i64), (.int .i64), (.int .i64), (.sl false 3 [(.int .i64)]), (.sl false 3 [(.int .i64)])]
noncomputable def y1 : List LT := [(.sl false 84 [.str, (.sl false 3 [(.int .i64)]), (.int .i64)]), (.sl false 87 [.str, (.sl false 2 [(.int .i64)])]), (.sl false 50 [.str, (.sl false 3 [(.int .i64)])]), (.sl false 38 [.str, .bool, (.sl false 3 [(.int .i64)]), (.int .i64), (.sl false 35 [(.sl false 32 y0)])]), (.sl true 68 [(.sl true 2 [(.int .i64)])]), (.sl true 95 [(.int .i64), (.int .i64), (.int .i64), (.sl true 97 [(.int .i64), (.int .i64)]), (.int .i64)]), (.sl false 2 [(.int .i64)]), (.int .i64), (.int .i64), (.int .i64), (.int .i64), (.sl true 128 [.str, (.sl true 2 [(.int .i64)]), (.int .i64)])]
noncomputable def y2 : List LT := [(.int .i64), (.int .i64)]
noncomputable def y3 : List LT := [(.int .i64), (.int .i64), (.int .i64), (.int .i64), (.int .i64), (.sl true 3 [(.int .i64)]), (.sl true 3 [(.int .i64)])]
noncomputable def y4 : List LT := [(.sl true 84 [.str, (.sl true 3 [(.int .i64)]), (.int .i64)]), (.sl true 87 [.str, (.sl true 2 [(.int .i64)])]), (.sl true 50 [.str, (.sl true 3 [(.int .i64)])]), (.sl true 38 [.str, .bool, (.sl true 3 [(.int .i64)]), (.int .i64), (.sl true 35 [(.sl true 32 y3)])])]
noncomputable def y5 : List LT := [.str, .bool, (.sl false 3 [(.int .i64)]), (.int .i64), (.sl false 35 [(.sl false 32 y0)])]
noncomputable def y6 : List LT := [(.sl true 3 [(.int .i64)]), (.sl true 117 [(.sl true 116 y2)]), (.sl true 123 y2), (.sl true 32 y0)]
noncomputable def y7 : List LT := [.str, (.sl false 3 [(.int .i64)]), (.int .i64)]
noncomputable def y8 : List LT := [(.sl true 3 [(.int .i64)])]
noncomputable def y9 : List LT := [(.sl false 3 [(.int .i64)]), (.sl false 117 [(.sl false 116 y2)]), (.sl false 123 y2), (.sl false 32 y0)]
noncomputable def y10 : List LT := [.str, (.sl false 2 [(.int .i64)])]
noncomputable def y11 : List LT := [.str, (.sl false 3 [(.int .i64)])]
noncomputable def y12 : List LT := [.str, .bool, (.sl false 3 [(.int .i64)]), (.int .i64), (.sl false 35 [(.sl false 32 y0)]), (.sl true 3 [(.int .i64)]), (.sl true 3 [(.int .i64)]), .bool]
noncomputable def y13 : List LT := [.str, (.sl false 2 [(.int .i64)]), (.int .i64)]
noncomputable def y14 : List LT := [(.int .i64), (.int .i64), (.int .i64), (.sl false 97 y2), (.int .i64)]
noncomputable def y15 : List LT := [.str, .bool, (.sl true 3 [(.int .i64)]), (.int .i64), (.sl true 35 [(.sl true 32 y3)])]
noncomputable def y16 : List LT := [(.sl false 2 [(.int .i64)])]
noncomputable def types : BT TI := (.node 62 { agg := true, lv := [(.sl false 84 y7), (.sl false 87 y10), (.sl false 50 y11), (.sl false 38 y5), (.sl false 4 [.bool]), (.sl false 58 y9)], fs := [(0, 28), (4, 59), (5, 60)], e := 0, bytes := 144 }
 (.node 33 { agg := false, lv := [(.sl false 32 y0)], fs := [], e := 32, bytes := 24, sl := true, ek := 7 }
 (.node 23 { agg := false, lv := [(.sl false 84 y7)], fs := [], e := 84, bytes := 24, sl := true, ek := 3 }
 (.node 5 { agg := false, lv := [(.int .u8)], fs := [], e := 0, bytes := 1 }
 (.node 3 { agg := false, lv := [(.int .i64)], fs := [], e := 0, bytes := 8 }
 (.node 2 { agg := false, lv := [(.int .i64)], fs := [], e := 0, bytes := 8 }
 .nil .nil) (.node 4 { agg := false, lv := [.bool], fs := [], e := 0, bytes := 1 }
 .nil .nil)) (.node 9 { agg := false, lv := [.str], fs := [], e := 0, bytes := 16 }
 (.node 6 { agg := false, lv := [(.int .u8)], fs := [], e := 0, bytes := 1 }
 .nil .nil) .nil)) (.node 28 { agg := true, lv := [(.sl false 84 y7), (.sl false 87 y10), (.sl false 50 y11), (.sl false 38 y5)], fs := [(0, 23), (1, 24), (2, 25), (3, 26)], e := 0, bytes := 96 }
 (.node 25 { agg := false, lv := [(.sl false 50 y11)], fs := [], e := 50, bytes := 24, sl := true, ek := 2 }
 (.node 24 { agg := false, lv := [(.sl false 87 y10)], fs := [], e := 87, bytes := 24, sl := true, ek := 2 }
 .nil .nil) (.node 26 { agg := false, lv := [(.sl false 38 y5)], fs := [], e := 38, bytes := 24, sl := true, ek := 5 }
 .nil .nil)) (.node 32 { agg := true, lv := y0, fs := [(0, 3), (1, 3), (2, 3), (3, 3), (4, 2), (5, 30), (6, 30)], e := 0, bytes := 88 }
 (.node 30 { agg := false, lv := [(.sl false 3 [(.int .i64)])], fs := [], e := 3, bytes := 24, sl := true, ek := 1 }
 .nil .nil) .nil))) (.node 50 { agg := true, lv := y11, fs := [(0, 9), (1, 30)], e := 0, bytes := 40 }
 (.node 39 { agg := false, lv := [(.int .i64)], fs := [], e := 0, bytes := 8 }
 (.node 36 { agg := false, lv := [(.sl false 35 [(.sl false 32 y0)])], fs := [], e := 35, bytes := 24, sl := true, ek := 1 }
 (.node 35 { agg := true, lv := [(.sl false 32 y0)], fs := [(0, 33)], e := 0, bytes := 24 }
 .nil .nil) (.node 38 { agg := true, lv := y5, fs := [(0, 9), (1, 4), (2, 30), (3, 3), (4, 36)], e := 0, bytes := 80 }
 .nil .nil)) (.node 44 { agg := true, lv := [(.int .i64), (.int .i64), (.int .i64), (.int .i64), (.sl false 128 y13)], fs := [(0, 3), (1, 3), (2, 2), (3, 3), (4, 42)], e := 0, bytes := 56 }
 (.node 42 { agg := false, lv := [(.sl false 128 y13)], fs := [], e := 128, bytes := 24, sl := true, ek := 3 }
 .nil .nil) .nil)) (.node 58 { agg := true, lv := y9, fs := [(0, 30), (1, 55), (2, 56), (3, 33)], e := 0, bytes := 96 }
 (.node 56 { agg := false, lv := [(.sl false 123 y2)], fs := [], e := 123, bytes := 24, sl := true, ek := 2 }
 (.node 55 { agg := false, lv := [(.sl false 117 [(.sl false 116 y2)])], fs := [], e := 117, bytes := 24, sl := true, ek := 1 }
 .nil .nil) .nil) (.node 60 { agg := false, lv := [(.sl false 58 y9)], fs := [], e := 58, bytes := 24, sl := true, ek := 4 }
 (.node 59 { agg := false, lv := [(.sl false 4 [.bool])], fs := [], e := 4, bytes := 24, sl := true, ek := 1 }
 .nil .nil) .nil)))) (.node 116 { agg := true, lv := y2, fs := [(0, 3), (1, 3)], e := 0, bytes := 16 }
 (.node 87 { agg := true, lv := y10, fs := [(0, 9), (1, 68)], e := 0, bytes := 40 }
 (.node 75 { agg := false, lv := [(.sl false 95 y14)], fs := [], e := 95, bytes := 24, sl := true, ek := 5 }
 (.node 72 { agg := false, lv := [(.sl false 68 y16)], fs := [], e := 68, bytes := 24, sl := true, ek := 1 }
 (.node 68 { agg := false, lv := y16, fs := [], e := 2, bytes := 24, sl := true, ek := 1 }
 .nil .nil) (.node 74 { agg := true, lv := [(.sl false 68 y16)], fs := [(0, 72)], e := 0, bytes := 24 }
 .nil .nil)) (.node 84 { agg := true, lv := y7, fs := [(0, 9), (1, 30), (2, 3)], e := 0, bytes := 48 }
 (.node 77 { agg := true, lv := [(.sl false 84 y7), (.sl false 87 y10), (.sl false 50 y11), (.sl false 38 y5), (.sl false 68 y16), (.sl false 95 y14), (.sl false 2 [(.int .i64)]), (.int .i64), (.int .i64), (.int .i64), (.int .i64), (.sl false 128 y13)], fs := [(0, 28), (4, 74), (5, 75), (6, 68), (7, 44)], e := 0, bytes := 224 }
 .nil .nil) .nil)) (.node 104 { agg := false, lv := [(.sl false 9 [.str])], fs := [], e := 9, bytes := 24, sl := true, ek := 1 }
 (.node 95 { agg := true, lv := y14, fs := [(0, 3), (1, 3), (2, 3), (3, 92), (4, 3)], e := 0, bytes := 56 }
 (.node 92 { agg := false, lv := [(.sl false 97 y2)], fs := [], e := 97, bytes := 24, sl := true, ek := 2 }
 .nil .nil) (.node 97 { agg := true, lv := y2, fs := [(0, 2), (1, 3)], e := 0, bytes := 16 }
 .nil .nil)) (.node 112 { agg := false, lv := [(.sl false 59 [(.sl false 4 [.bool])])], fs := [], e := 59, bytes := 24, sl := true, ek := 1 }
 (.node 109 { agg := false, lv := [(.sl false 30 [(.sl false 3 [(.int .i64)])])], fs := [], e := 30, bytes := 24, sl := true, ek := 1 }
 .nil .nil) .nil))) (.node 151 { agg := false, lv := [(.sl false 153 y2)], fs := [], e := 153, bytes := 24, sl := true, ek := 2 }
 (.node 129 { agg := true, lv := [(.int .i64), (.int .i64), (.int .i64), (.int .i64), (.int .i64), (.int .i64)], fs := [(0, 97), (2, 97), (4, 97)], e := 0, bytes := 48, arr := true }
 (.node 123 { agg := true, lv := y2, fs := [(0, 3), (1, 2)], e := 0, bytes := 16 }
 (.node 117 { agg := false, lv := [(.sl false 116 y2)], fs := [], e := 116, bytes := 24, sl := true, ek := 2 }
 .nil .nil) (.node 128 { agg := true, lv := y13, fs := [(0, 9), (1, 68), (2, 2)], e := 0, bytes := 48 }
 .nil .nil)) (.node 149 { agg := false, lv := [(.int .u64)], fs := [], e := 0, bytes := 8 }
 (.node 140 { agg := true, lv := [.str, .bool, (.sl false 3 [(.int .i64)]), (.int .i64), (.sl false 35 [(.sl false 32 y0)]), (.sl false 3 [(.int .i64)]), (.sl false 3 [(.int .i64)]), .bool], fs := [(0, 38), (5, 30), (6, 30), (7, 4)], e := 0, bytes := 136 }
 .nil .nil) .nil)) (.node 168 { agg := false, lv := [(.int .u32)], fs := [], e := 0, bytes := 4 }
 (.node 160 { agg := false, lv := [(.int .i64)], fs := [], e := 0, bytes := 8 }
 (.node 153 { agg := true, lv := y2, fs := [(0, 3), (1, 3)], e := 0, bytes := 16, arr := true }
 .nil .nil) .nil) (.node 173 { agg := false, lv := [(.int .u64)], fs := [], e := 0, bytes := 8 }
 (.node 170 { agg := false, lv := [(.int .u64)], fs := [], e := 0, bytes := 8 }
 .nil .nil) .nil)))))
noncomputable def ptrs : BT TypeId := (.node 98 95
 (.node 69 77
 (.node 63 32
 (.node 52 62
 .nil .nil) .nil) (.node 90 58
 .nil .nil)) (.node 137 140
 (.node 126 74
 .nil .nil) (.node 181 173
 .nil .nil)))
noncomputable def eqts : List Nat := [116]
noncomputable def maps : BT MI := (.node 105 { key := 9, el := 3, kk := .str, ek := (.int .i64) }
 .nil .nil)
noncomputable def sigs : BT Sig := (.node 56 { fn := 56, ps := [(117, .mv)], rs := [.val false [(.sl true 116 y2)]] }
 (.node 26 { fn := 26, ps := [(90, .io y6)], rs := [] }
 (.node 14 { fn := 14, ps := [(52, .rp), (3, .ro), (32, .ro), (38, .ro)], rs := [.val false [.bool]] }
 (.node 8 { fn := 8, ps := [(28, .ro), (3, .ro)], rs := [.val false [(.int .i64)]] }
 (.node 5 { fn := 5, ps := [], rs := [.val true y4] }
 (.node 4 { fn := 4, ps := [], rs := [.val false [.bool]] }
 (.node 3 { fn := 3, ps := [(2, .ro), (4, .ro)], rs := [.val false [.bool]] }
 .nil .nil) .nil) (.node 7 { fn := 7, ps := [(28, .ro), (9, .ro), (68, .ro), (68, .ro), (3, .ro)], rs := [.val true [(.int .i64), (.int .i64), (.int .i64), (.int .i64), (.sl true 128 [.str, (.sl true 2 [(.int .i64)]), (.int .i64)])], .val false [(.int .i64)]] }
 (.node 6 { fn := 6, ps := [(28, .ro)], rs := [.val true y4, .val false [(.int .i64)]] }
 .nil .nil) .nil)) (.node 11 { fn := 11, ps := [(28, .ro)], rs := [.val true y4] }
 (.node 10 { fn := 10, ps := [(28, .ro)], rs := [.ptr [(.sl false 84 y7), (.sl false 87 y10), (.sl false 50 y11), (.sl false 38 y5), (.sl true 4 [.bool]), (.sl true 58 y6)]] }
 (.node 9 { fn := 9, ps := [(28, .ro)], rs := [.val false [(.int .i64)]] }
 .nil .nil) .nil) (.node 13 { fn := 13, ps := [(52, .rp), (3, .ro), (2, .ro)], rs := [.val false [(.int .i64)]] }
 (.node 12 { fn := 12, ps := [(90, .rp), (3, .ro)], rs := [.val false [(.int .i64)], .val false [.bool]] }
 .nil .nil) .nil))) (.node 20 { fn := 20, ps := [(28, .ro)], rs := [.val false [.bool]] }
 (.node 17 { fn := 17, ps := [(28, .ro)], rs := [.val false [.bool]] }
 (.node 16 { fn := 16, ps := [(69, .io y1)], rs := [.val false [.bool]] }
 (.node 15 { fn := 15, ps := [(28, .ro), (9, .ro), (68, .ro), (68, .ro)], rs := [.ptr y1, .val false [(.int .i64)]] }
 .nil .nil) .nil) (.node 19 { fn := 19, ps := [(28, .ro)], rs := [.val false [.bool]] }
 (.node 18 { fn := 18, ps := [(28, .ro)], rs := [.val false [.bool]] }
 .nil .nil) .nil)) (.node 23 { fn := 23, ps := [(28, .ro), (38, .ro)], rs := [.val false [.bool]] }
 (.node 22 { fn := 22, ps := [(38, .ro)], rs := [.val false [.bool]] }
 (.node 21 { fn := 21, ps := [(38, .ro)], rs := [.val false [.bool]] }
 .nil .nil) .nil) (.node 25 { fn := 25, ps := [(90, .io y6), (38, .ro)], rs := [] }
 (.node 24 { fn := 24, ps := [(38, .ro)], rs := [.val false y8] }
 .nil .nil) .nil)))) (.node 44 { fn := 44, ps := [(3, .ro)], rs := [.val false [.bool]] }
 (.node 33 { fn := 33, ps := [(69, .io y1)], rs := [] }
 (.node 29 { fn := 29, ps := [(38, .ro)], rs := [.val true y15] }
 (.node 28 { fn := 28, ps := [(68, .ro)], rs := [.val false [(.sl true 2 [(.int .i64)])]] }
 (.node 27 { fn := 27, ps := [(30, .ro)], rs := [.val false y8] }
 .nil .nil) .nil) (.node 32 { fn := 32, ps := [(38, .ro)], rs := [.val false [(.int .i64)]] }
 (.node 30 { fn := 30, ps := [(28, .ro)], rs := [.val false [(.int .i64)]] }
 .nil .nil) .nil)) (.node 41 { fn := 41, ps := [(3, .ro)], rs := [.val false [.bool]] }
 (.node 40 { fn := 40, ps := [(38, .ro)], rs := [.val false [(.int .i64)]] }
 (.node 38 { fn := 38, ps := [(69, .io y1), (3, .ro)], rs := [] }
 .nil .nil) .nil) (.node 43 { fn := 43, ps := [(9, .ro)], rs := [.val false [.bool]] }
 (.node 42 { fn := 42, ps := [(32, .ro)], rs := [.val false [.bool]] }
 .nil .nil) .nil))) (.node 50 { fn := 50, ps := [(38, .ro), (3, .ro)], rs := [.val false [(.int .i64)]] }
 (.node 47 { fn := 47, ps := [(38, .ro)], rs := [.val false [(.sl true 30 y8)]] }
 (.node 46 { fn := 46, ps := [(38, .ro)], rs := [.val false [(.sl true 4 [.bool])]] }
 (.node 45 { fn := 45, ps := [(59, .ro), (4, .ro)], rs := [.val false [.bool]] }
 .nil .nil) .nil) (.node 49 { fn := 49, ps := [(38, .ro)], rs := [.val false y8] }
 (.node 48 { fn := 48, ps := [(30, .ro), (30, .ro)], rs := [.val false [.bool]] }
 .nil .nil) .nil)) (.node 53 { fn := 53, ps := [(117, .ro)], rs := [.val false [(.sl true 116 y2)]] }
 (.node 52 { fn := 52, ps := [(55, .ro)], rs := [.val false [(.sl true 116 y2)]] }
 (.node 51 { fn := 51, ps := [(28, .ro), (38, .ro), (30, .ro), (32, .ro)], rs := [.val false [.bool]] }
 .nil .nil) .nil) (.node 55 { fn := 55, ps := [(116, .ro), (116, .ro)], rs := [.val false [(.int .i64)]] }
 (.node 54 { fn := 54, ps := [(117, .ro), (121, .fnv 55)], rs := [] }
 .nil .nil) .nil))))) (.node 82 { fn := 82, ps := [(32, .ro)], rs := [.val false [.bool]] }
 (.node 70 { fn := 70, ps := [(3, .ro)], rs := [.val false [(.int .i64)], .val false [(.int .i64)], .val false [.bool], .val false [.bool]] }
 (.node 62 { fn := 62, ps := [(28, .ro)], rs := [.val false [.bool]] }
 (.node 59 { fn := 59, ps := [(28, .ro)], rs := [.val false [.bool]] }
 (.node 58 { fn := 58, ps := [(32, .ro)], rs := [.val true y3] }
 (.node 57 { fn := 57, ps := [(90, .io y6), (3, .ro)], rs := [.val true y2] }
 .nil .nil) .nil) (.node 61 { fn := 61, ps := [(28, .ro)], rs := [.val false [.bool]] }
 (.node 60 { fn := 60, ps := [(28, .ro)], rs := [.val false [.bool]] }
 .nil .nil) .nil)) (.node 65 { fn := 65, ps := [(28, .ro), (38, .ro)], rs := [.val false [.bool]] }
 (.node 64 { fn := 64, ps := [(38, .ro)], rs := [.val false [.bool]] }
 (.node 63 { fn := 63, ps := [(38, .ro)], rs := [.val false [.bool]] }
 .nil .nil) .nil) (.node 69 { fn := 69, ps := [(3, .ro), (2, .ro), (2, .ro)], rs := [.val false [(.int .i64)], .val false [(.int .i64)]] }
 (.node 66 { fn := 66, ps := [(38, .ro)], rs := [.val false y8] }
 .nil .nil) .nil))) (.node 76 { fn := 76, ps := [(30, .ro), (30, .ro), (3, .ro)], rs := [.val false [.bool]] }
 (.node 73 { fn := 73, ps := [(38, .ro), (3, .ro)], rs := [.val false y8] }
 (.node 72 { fn := 72, ps := [(38, .ro)], rs := [.ptr y12] }
 (.node 71 { fn := 71, ps := [(59, .ro), (4, .ro)], rs := [.val false [(.int .i64)]] }
 .nil .nil) .nil) (.node 75 { fn := 75, ps := [(38, .ro)], rs := [.val false [(.sl true 59 [(.sl true 4 [.bool])])]] }
 (.node 74 { fn := 74, ps := [(112, .ro)], rs := [.val false y8] }
 .nil .nil) .nil)) (.node 79 { fn := 79, ps := [(117, .ro), (3, .ro), (3, .ro), (3, .ro), (121, .fnv 55)], rs := [] }
 (.node 78 { fn := 78, ps := [(117, .ro), (3, .ro)], rs := [.val false [(.sl false 116 y2)]] }
 (.node 77 { fn := 77, ps := [(30, .ro), (30, .ro), (30, .ro)], rs := [.val false [.bool]] }
 .nil .nil) .nil) (.node 81 { fn := 81, ps := [(38, .ro)], rs := [.val false [(.int .i64)]] }
 (.node 80 { fn := 80, ps := [(149, .ro)], rs := [.val false [(.int .i64)]] }
 .nil .nil) .nil)))) (.node 96 { fn := 96, ps := [(117, .ro), (3, .ro), (3, .ro), (121, .fnv 55)], rs := [] }
 (.node 89 { fn := 89, ps := [(38, .ro)], rs := [.val false [(.sl true 59 [(.sl true 4 [.bool])])]] }
 (.node 86 { fn := 86, ps := [(38, .ro)], rs := [.val false [(.sl true 30 y8)]] }
 (.node 85 { fn := 85, ps := [(38, .ro)], rs := [.val false [(.sl true 4 [.bool])]] }
 (.node 84 { fn := 84, ps := [(3, .ro)], rs := [.val false [.bool]] }
 .nil .nil) .nil) (.node 88 { fn := 88, ps := [(38, .ro)], rs := [.val false [(.sl true 153 y2)]] }
 (.node 87 { fn := 87, ps := [(30, .ro), (30, .ro)], rs := [.val false [.bool]] }
 .nil .nil) .nil)) (.node 93 { fn := 93, ps := [(137, .io y12), (3, .ro)], rs := [] }
 (.node 92 { fn := 92, ps := [(4, .ro)], rs := [.val false [(.int .i64)]] }
 (.node 90 { fn := 90, ps := [(28, .ro), (38, .ro), (32, .ro), (30, .ro)], rs := [.val false [.bool]] }
 .nil .nil) .nil) (.node 95 { fn := 95, ps := [(109, .ro), (3, .ro)], rs := [.val false [(.sl true 4 [.bool])]] }
 (.node 94 { fn := 94, ps := [(30, .ro), (3, .ro)], rs := [.val false [.bool]] }
 .nil .nil) .nil))) (.node 109 { fn := 109, ps := [(38, .ro), (3, .ro)], rs := [.val false y8] }
 (.node 106 { fn := 106, ps := [(3, .ro)], rs := [.val false [(.int .i64)], .val false [(.int .i64)], .val false [.bool], .val false [.bool]] }
 (.node 105 { fn := 105, ps := [(170, .ro)], rs := [.val false [(.int .i64)]] }
 (.node 104 { fn := 104, ps := [(168, .ro)], rs := [.val false [(.int .i64)]] }
 .nil .nil) .nil) (.node 108 { fn := 108, ps := [(38, .ro), (3, .ro), (3, .ro)], rs := [.val false [(.sl true 4 [.bool])]] }
 (.node 107 { fn := 107, ps := [(9, .ro)], rs := [.val false [.bool]] }
 .nil .nil) .nil)) (.node 113 { fn := 113, ps := [(181, .io [(.int .u64)])], rs := [.val false [(.int .u64)]] }
 (.node 112 { fn := 112, ps := [(3, .ro)], rs := [.val false [(.int .u64)]] }
 (.node 110 { fn := 110, ps := [(30, .ro), (3, .ro)], rs := [.val false [(.int .i64)]] }
 .nil .nil) .nil) (.node 117 { fn := 117, ps := [(30, .ro), (3, .ro)], rs := [.val false [.bool]] }
 (.node 116 { fn := 116, ps := [(38, .ro), (3, .ro)], rs := [.val true y0, .val false [.bool]] }
 .nil .nil) .nil))))))
noncomputable def h3 : Hint := { inst := [], el := [], arr := [40], fzl := [], pfx := [], snap := [], heads := [], ends := [], ord := [] }
noncomputable def h4 : Hint := { inst := [], el := [], arr := [], fzl := [], pfx := [], snap := [], heads := [], ends := [], ord := [] }
noncomputable def h5 : Hint := { inst := [], el := [], arr := [19, 17, 15, 12, 10, 7, 5, 3, 1], fzl := [], pfx := [], snap := [], heads := [], ends := [], ord := [] }
noncomputable def h6 : Hint := { inst := [], el := [], arr := [], fzl := [], pfx := [], snap := [], heads := [(0, { keep := [1, 2, 5, 6, 33, 34, 35], conv := [], bconv := [] }), (2, { keep := [1, 2, 5, 6, 7, 8, 9, 33, 34, 35, 51, 52, 53], conv := [], bconv := [] }), (4, { keep := [1, 2, 5, 6, 7, 8, 9, 11, 33, 34, 35, 51, 52, 53, 59, 60], conv := [], bconv := [] }), (6, { keep := [1, 2, 5, 6, 7, 9, 33, 34, 35, 131, 132, 133], conv := [], bconv := [] }), (8, { keep := [1, 2, 5, 6, 7, 9, 18, 33, 34, 35, 131, 132, 133, 139, 140], conv := [], bconv := [] })], ends := [(0, { keep := [2, 3, 6], conv := [], bconv := [] }), (2, { keep := [1, 2, 3, 5, 6, 7, 8, 9, 33, 34, 35], conv := [], bconv := [] }), (4, { keep := [1, 2, 3, 5, 6, 7, 8, 9, 33, 34, 35, 51, 52, 53], conv := [], bconv := [] }), (6, { keep := [1, 2, 3, 5, 6, 33, 34, 35], conv := [], bconv := [] }), (8, { keep := [1, 2, 3, 5, 6, 7, 9, 33, 34, 35, 131, 132, 133], conv := [], bconv := [] })], ord := [], nn := [29] }
noncomputable def h7 : Hint := { inst := [], el := [], arr := [], fzl := [], pfx := [], snap := [], heads := [(0, { keep := [4, 10, 12, 14], conv := [], bconv := [] })], ends := [(0, { keep := [10, 11, 12], conv := [], bconv := [] })], ord := [] }
noncomputable def h8 : Hint := { inst := [], el := [], arr := [], fzl := [], pfx := [], snap := [], heads := [(0, { keep := [1, 2, 5, 6], conv := [], bconv := [] }), (2, { keep := [1, 2, 5, 6, 7], conv := [], bconv := [] }), (4, { keep := [1, 2, 5, 6, 7, 8], conv := [], bconv := [] })], ends := [(0, { keep := [4, 5], conv := [], bconv := [] }), (2, { keep := [1, 2, 4, 5, 6], conv := [], bconv := [] }), (4, { keep := [1, 2, 4, 5, 6, 7], conv := [], bconv := [] })], ord := [] }
noncomputable def h9 : Hint := { inst := [], el := [], arr := [], fzl := [], pfx := [], snap := [], heads := [(1, { keep := [1, 26, 27, 28], conv := [], bconv := [] }), (3, { keep := [1, 37, 38, 39], conv := [], bconv := [] }), (5, { keep := [1, 48, 49, 50], conv := [], bconv := [] })], ends := [(1, { keep := [1, 2], conv := [], bconv := [] }), (3, { keep := [1, 2], conv := [], bconv := [] }), (5, { keep := [2], conv := [], bconv := [] })], ord := [] }
noncomputable def h10 : Hint := { inst := [], el := [(59, y0)], arr := [], fzl := [], pfx := [], snap := [], heads := [(0, { keep := [1, 3, 23, 24, 25], conv := [], bconv := [] }), (2, { keep := [1, 3, 23, 24, 25, 30, 31, 32], conv := [], bconv := [] }), (4, { keep := [3, 47, 48, 49], conv := [], bconv := [(21, 5, .own 58 y6)] }), (6, { keep := [3, 9, 10, 47, 48, 49, 62, 63, 64], conv := [], bconv := [] }), (8, { keep := [3, 9, 10, 47, 48, 49, 62, 63, 64, 69, 70, 71], conv := [], bconv := [] })], ends := [(0, { keep := [1, 2, 3], conv := [], bconv := [] }), (2, { keep := [1, 2, 3, 23, 24, 25], conv := [], bconv := [] }), (4, { keep := [2, 3], conv := [], bconv := [] }), (6, { keep := [2, 3, 9, 10, 47, 48, 49], conv := [], bconv := [] }), (8, { keep := [2, 3, 9, 10, 47, 48, 49, 62, 63, 64], conv := [], bconv := [] })], ord := [] }
noncomputable def h11 : Hint := { inst := [], el := [], arr := [], fzl := [], pfx := [], snap := [], heads := [(0, { keep := [1, 2, 3, 13, 14, 15], conv := [], bconv := [(3, 0, .own 84 [.str, (.sl true 3 [(.int .i64)]), (.int .i64)])] }), (2, { keep := [1, 2, 3, 31, 32, 33], conv := [], bconv := [(3, 1, .own 87 [.str, (.sl true 2 [(.int .i64)])])] }), (4, { keep := [1, 2, 3, 49, 50, 51], conv := [], bconv := [(3, 2, .own 50 [.str, (.sl true 3 [(.int .i64)])])] }), (6, { keep := [2, 3, 67, 68, 69], conv := [], bconv := [(3, 3, .own 38 y15)] })], ends := [(0, { keep := [1, 2, 3], conv := [], bconv := [] }), (2, { keep := [1, 2, 3], conv := [], bconv := [] }), (4, { keep := [1, 2, 3], conv := [], bconv := [] }), (6, { keep := [2, 3], conv := [], bconv := [] })], ord := [] }
noncomputable def h12 : Hint := { inst := [], el := [], arr := [], fzl := [], pfx := [], snap := [], heads := [], ends := [], ord := [] }
noncomputable def h13 : Hint := { inst := [], el := [], arr := [], fzl := [], pfx := [], snap := [], heads := [], ends := [], ord := [] }
noncomputable def h14 : Hint := { inst := [], el := [], arr := [], fzl := [], pfx := [], snap := [], heads := [(0, { keep := [0, 1, 6, 27, 28, 29], conv := [], bconv := [] })], ends := [(0, { keep := [8], conv := [], bconv := [] })], ord := [] }
noncomputable def h15 : Hint := { inst := [], el := [], arr := [59], fzl := [], pfx := [], snap := [], heads := [(0, { keep := [1, 2, 3, 4, 11, 12], conv := [], bconv := [] }), (2, { keep := [2, 4, 11, 13, 14], conv := [], bconv := [(63, 4, .own 68 [(.sl true 2 [(.int .i64)])])] }), (4, { keep := [2, 4, 11, 13, 15, 16], conv := [], bconv := [] })], ends := [(0, { keep := [2, 3, 4, 8, 9, 11], conv := [], bconv := [] }), (2, { keep := [2, 4, 8, 9, 11, 13], conv := [], bconv := [] }), (4, { keep := [8, 9, 13, 15], conv := [], bconv := [] })], ord := [(14, [2, 0, 1, 3, 4, 5, 6])], alts := [(14, ([0, 1, 3], [[2, 1, 0, 3, 4, 5, 6], [2, 1, 3, 0, 4, 5, 6]]))], mids := [(14, { keep := [2, 4, 11, 13], conv := [], bconv := [] })], inl := [(84, { site := 0, base := 2000, live := [2, 4, 11, 13, 14], old := [] })] }
noncomputable def h16 : Hint := { inst := [], el := [], arr := [], fzl := [], pfx := [], snap := [], heads := [], ends := [], ord := [], inl := [(71, { site := 1, base := 4000, live := [0], old := [] }), (77, { site := 2, base := 6000, live := [0], old := [] }), (86, { site := 3, base := 8000, live := [0], old := [] }), (112, { site := 4, base := 10000, live := [0], old := [] }), (118, { site := 5, base := 12000, live := [0], old := [] }), (64, { site := 6, base := 14000, live := [0], old := [] })] }
noncomputable def h17 : Hint := { inst := [], el := [], arr := [], fzl := [], pfx := [], snap := [], heads := [(0, { keep := [1, 34, 35, 36], conv := [], bconv := [] }), (2, { keep := [1, 46, 47, 48], conv := [], bconv := [] }), (4, { keep := [1, 64, 65, 66], conv := [], bconv := [] }), (6, { keep := [82, 83, 84], conv := [], bconv := [] })], ends := [(0, { keep := [1, 2], conv := [], bconv := [] }), (2, { keep := [1, 2], conv := [], bconv := [] }), (4, { keep := [1, 2], conv := [], bconv := [] }), (6, { keep := [2], conv := [], bconv := [] })], ord := [] }
noncomputable def h18 : Hint := { inst := [], el := [], arr := [], fzl := [], pfx := [], snap := [], heads := [(0, { keep := [1, 16, 17, 18], conv := [], bconv := [] }), (2, { keep := [1, 4, 16, 17, 18, 23, 24, 25], conv := [], bconv := [] }), (4, { keep := [44, 45, 46], conv := [], bconv := [] }), (6, { keep := [8, 44, 45, 46, 69, 70, 71], conv := [], bconv := [] }), (8, { keep := [44, 45, 46, 92, 93, 94], conv := [], bconv := [] }), (10, { keep := [44, 45, 46, 92, 93, 94, 99, 100, 101], conv := [], bconv := [] })], ends := [(0, { keep := [1, 2], conv := [], bconv := [] }), (2, { keep := [1, 2, 4, 16, 17, 18], conv := [], bconv := [] }), (4, { keep := [2], conv := [], bconv := [] }), (6, { keep := [2, 8, 44, 45, 46], conv := [], bconv := [] }), (8, { keep := [2, 44, 45, 46], conv := [], bconv := [] }), (10, { keep := [2, 44, 45, 46, 92, 93, 94], conv := [], bconv := [] })], ord := [] }
noncomputable def h19 : Hint := { inst := [], el := [], arr := [], fzl := [], pfx := [], snap := [], heads := [(0, { keep := [1, 3, 16, 17, 18], conv := [(3, .own 9 [.str])], bconv := [] }), (2, { keep := [1, 3, 29, 30, 31], conv := [(3, .own 9 [.str])], bconv := [] }), (4, { keep := [1, 3, 42, 43, 44], conv := [(3, .own 9 [.str])], bconv := [] }), (6, { keep := [3, 55, 56, 57], conv := [(3, .own 9 [.str])], bconv := [] }), (8, { keep := [12, 68, 69, 70], conv := [], bconv := [] })], ends := [(0, { keep := [1, 2, 3], conv := [], bconv := [] }), (2, { keep := [1, 2, 3], conv := [], bconv := [] }), (4, { keep := [1, 2, 3], conv := [], bconv := [] }), (6, { keep := [2, 3], conv := [], bconv := [] }), (8, { keep := [2], conv := [], bconv := [] })], ord := [] }
noncomputable def h20 : Hint := { inst := [], el := [], arr := [], fzl := [], pfx := [], snap := [], heads := [(0, { keep := [1, 15, 16, 17], conv := [], bconv := [] }), (2, { keep := [1, 15, 16, 17, 22, 23, 24], conv := [], bconv := [] }), (4, { keep := [1, 40, 41, 42], conv := [], bconv := [] }), (6, { keep := [1, 40, 41, 42, 47, 48, 49], conv := [], bconv := [] }), (8, { keep := [1, 40, 41, 42, 47, 48, 49, 54, 55, 56], conv := [], bconv := [] })], ends := [(0, { keep := [1, 2], conv := [], bconv := [] }), (2, { keep := [1, 2, 15, 16, 17], conv := [], bconv := [] }), (4, { keep := [2], conv := [], bconv := [] }), (6, { keep := [1, 2, 40, 41, 42], conv := [], bconv := [] }), (8, { keep := [1, 2, 40, 41, 42, 47, 48, 49], conv := [], bconv := [] })], ord := [] }
noncomputable def h21 : Hint := { inst := [], el := [], arr := [], fzl := [], pfx := [], snap := [], heads := [(0, { keep := [1, 17, 18, 19], conv := [], bconv := [] }), (2, { keep := [1, 3, 4, 5, 17, 18, 19, 29, 30, 31], conv := [], bconv := [] }), (4, { keep := [1, 8, 17, 18, 19, 74, 75, 76], conv := [], bconv := [] }), (6, { keep := [11, 109, 110, 111], conv := [], bconv := [] }), (8, { keep := [11, 12, 109, 110, 111, 117, 118, 119], conv := [], bconv := [] })], ends := [(0, { keep := [1, 2], conv := [], bconv := [] }), (2, { keep := [1, 2, 4, 17, 18, 19], conv := [], bconv := [] }), (4, { keep := [1, 2, 8, 17, 18, 19], conv := [], bconv := [] }), (6, { keep := [2], conv := [], bconv := [] }), (8, { keep := [2, 11, 109, 110, 111], conv := [], bconv := [] })], ord := [(10, [0, 3, 4, 1, 5, 6, 7, 8, 2, 9, 10, 11, 12, 13, 14, 15, 16, 17, 18, 19, 20, 21])] }
noncomputable def h22 : Hint := { inst := [], el := [], arr := [], fzl := [], pfx := [], snap := [], heads := [(0, { keep := [1, 3, 4, 28, 29, 30], conv := [(4, .own 3 [(.int .i64)])], bconv := [] }), (2, { keep := [1, 3, 4, 5, 28, 29, 30, 36, 37, 38], conv := [(4, .own 3 [(.int .i64)])], bconv := [] }), (4, { keep := [1, 3, 4, 9, 10, 64, 65], conv := [], bconv := [] }), (6, { keep := [1, 3, 4, 9, 10, 11, 12, 64, 65], conv := [], bconv := [] }), (8, { keep := [1, 3, 4, 9, 90, 91, 92], conv := [], bconv := [] }), (10, { keep := [1, 3, 4, 9, 13, 15, 90, 91, 92, 108, 109, 110], conv := [], bconv := [] }), (12, { keep := [1, 3, 4, 9, 13, 15, 17, 90, 91, 92, 108, 109, 110, 115, 116, 117], conv := [], bconv := [] })], ends := [(0, { keep := [1, 2, 3, 4], conv := [], bconv := [] }), (2, { keep := [1, 2, 3, 4, 28, 29, 30], conv := [], bconv := [] }), (4, { keep := [1, 2, 3, 4, 9], conv := [], bconv := [] }), (6, { keep := [1, 2, 3, 4, 9, 10, 64, 65], conv := [], bconv := [] }), (8, { keep := [2], conv := [], bconv := [] }), (10, { keep := [1, 2, 3, 4, 9, 90, 91, 92], conv := [], bconv := [] }), (12, { keep := [1, 2, 3, 4, 9, 13, 15, 17, 90, 91, 92, 108, 109, 110], conv := [], bconv := [] })], ord := [] }
noncomputable def h23 : Hint := { inst := [], el := [], arr := [], fzl := [], pfx := [], snap := [], heads := [(0, { keep := [2, 3, 5, 13, 14, 15], conv := [], bconv := [] }), (2, { keep := [2, 3, 5, 13, 14, 15, 20, 21, 22], conv := [], bconv := [] })], ends := [(0, { keep := [4], conv := [], bconv := [] }), (2, { keep := [2, 3, 4, 5, 13, 14, 15], conv := [], bconv := [] })], ord := [] }
noncomputable def h24 : Hint := { inst := [], el := [], arr := [8], fzl := [], pfx := [], snap := [], heads := [(0, { keep := [3, 13, 14, 15], conv := [(3, .own 3 [(.int .i64)])], bconv := [] }), (2, { keep := [3, 13, 14, 15, 20, 21, 22], conv := [(3, .own 3 [(.int .i64)])], bconv := [] })], ends := [(0, { keep := [2, 3], conv := [], bconv := [] }), (2, { keep := [2, 3, 13, 14, 15], conv := [], bconv := [] })], ord := [] }
noncomputable def h25 : Hint := { inst := [], el := [], arr := [69, 63, 40], fzl := [104], pfx := [], snap := [], heads := [(0, { keep := [0, 22, 23, 24], conv := [], bconv := [] }), (2, { keep := [0, 6], conv := [], bconv := [] }), (4, { keep := [0, 6, 47, 48, 49], conv := [], bconv := [] }), (7, { keep := [0, 6, 7, 9, 47, 48, 49, 109, 110, 111], conv := [(9, .own 116 y2)], bconv := [] })], ends := [(0, { keep := [0], conv := [], bconv := [] }), (2, { keep := [0], conv := [], bconv := [] }), (4, { keep := [0, 6], conv := [], bconv := [] }), (7, { keep := [0, 6, 7, 9, 47, 48, 49], conv := [], bconv := [] })], ord := [] }
noncomputable def h26 : Hint := { inst := [], el := [], arr := [], fzl := [], pfx := [], snap := [], heads := [(0, { keep := [0, 16, 17], conv := [], bconv := [(500, 0, .own 3 [(.int .i64)]), (500, 1, .own 117 [(.sl true 116 y2)]), (500, 2, .own 123 y2), (500, 3, .own 32 y0)] })], ends := [(0, { keep := [0], conv := [], bconv := [] })], ord := [] }
noncomputable def h27 : Hint := { inst := [], el := [], arr := [5], fzl := [], pfx := [], snap := [], heads := [], ends := [], ord := [], fork := true }
noncomputable def h28 : Hint := { inst := [], el := [], arr := [5], fzl := [], pfx := [], snap := [], heads := [], ends := [], ord := [], fork := true }
noncomputable def h29 : Hint := { inst := [], el := [], arr := [], fzl := [], pfx := [], snap := [], heads := [(0, { keep := [1, 2, 16, 17, 18], conv := [], bconv := [(1, 4, .own 35 [(.sl true 32 y3)])] }), (2, { keep := [1, 2, 6, 16, 17, 18, 23, 24, 25], conv := [(6, .own 32 y3)], bconv := [] })], ends := [(0, { keep := [1, 2], conv := [], bconv := [] }), (2, { keep := [1, 2, 6, 16, 17, 18], conv := [], bconv := [] })], ord := [] }
noncomputable def h30 : Hint := { inst := [], el := [], arr := [], fzl := [], pfx := [], snap := [], heads := [(0, { keep := [1, 3], conv := [], bconv := [] }), (2, { keep := [1, 4], conv := [], bconv := [] }), (4, { keep := [1, 5], conv := [], bconv := [] })], ends := [(0, { keep := [1, 2], conv := [], bconv := [] }), (2, { keep := [1, 2], conv := [], bconv := [] }), (4, { keep := [2], conv := [], bconv := [] })], ord := [] }
noncomputable def h32 : Hint := { inst := [], el := [], arr := [], fzl := [], pfx := [], snap := [], heads := [], ends := [], ord := [] }
noncomputable def h33 : Hint := { inst := [], el := [], arr := [], fzl := [], pfx := [], snap := [], heads := [(0, { keep := [0], conv := [], bconv := [] })], ends := [(0, { keep := [0], conv := [], bconv := [] })], ord := [] }
noncomputable def h38 : Hint := { inst := [], el := [], arr := [], fzl := [], pfx := [], snap := [], heads := [], ends := [], ord := [] }
noncomputable def h40 : Hint := { inst := [], el := [], arr := [], fzl := [], pfx := [], snap := [], heads := [(0, { keep := [3, 7, 8, 9], conv := [], bconv := [] })], ends := [(0, { keep := [2, 3], conv := [], bconv := [] })], ord := [] }
noncomputable def h41 : Hint := { inst := [], el := [], arr := [], fzl := [], pfx := [], snap := [], heads := [], ends := [], ord := [] }
noncomputable def h42 : Hint := { inst := [], el := [], arr := [], fzl := [], pfx := [], snap := [], heads := [], ends := [], ord := [] }
noncomputable def h43 : Hint := { inst := [], el := [], arr := [], fzl := [], pfx := [], snap := [], heads := [(0, { keep := [0, 15, 16], conv := [], bconv := [] })], ends := [(0, { keep := [2], conv := [], bconv := [] })], ord := [] }
noncomputable def h44 : Hint := { inst := [], el := [], arr := [], fzl := [], pfx := [], snap := [], heads := [], ends := [], ord := [] }
noncomputable def h45 : Hint := { inst := [], el := [], arr := [], fzl := [], pfx := [], snap := [], heads := [], ends := [], ord := [] }
noncomputable def h46 : Hint := { inst := [], el := [], arr := [], fzl := [], pfx := [], snap := [], heads := [(0, { keep := [4, 16, 17, 18], conv := [], bconv := [] })], ends := [(0, { keep := [2, 4], conv := [], bconv := [] })], ord := [] }
noncomputable def h47 : Hint := { inst := [], el := [], arr := [], fzl := [], pfx := [], snap := [], heads := [(0, { keep := [1, 3, 13, 14], conv := [], bconv := [] }), (2, { keep := [1, 3, 4, 13, 14, 19, 20, 21], conv := [], bconv := [] })], ends := [(0, { keep := [2, 3], conv := [], bconv := [] }), (2, { keep := [1, 2, 3, 13, 14], conv := [], bconv := [] })], ord := [] }
noncomputable def h48 : Hint := { inst := [], el := [], arr := [], fzl := [], pfx := [], snap := [], heads := [(0, { keep := [0, 1, 12, 13], conv := [], bconv := [] })], ends := [(0, { keep := [4], conv := [], bconv := [] })], ord := [] }
noncomputable def h49 : Hint := { inst := [], el := [], arr := [], fzl := [], pfx := [], snap := [], heads := [], ends := [], ord := [] }
noncomputable def h50 : Hint := { inst := [], el := [], arr := [], fzl := [], pfx := [], snap := [], heads := [(0, { keep := [5, 16, 17, 18], conv := [], bconv := [] }), (2, { keep := [5, 16, 17, 18, 23, 24, 25], conv := [], bconv := [] })], ends := [(0, { keep := [4, 5], conv := [], bconv := [] }), (2, { keep := [4, 5, 16, 17, 18], conv := [], bconv := [] })], ord := [] }
noncomputable def h51 : Hint := { inst := [], el := [], arr := [], fzl := [227, 211, 138, 127, 119, 107, 96], pfx := [], snap := [], heads := [], ends := [], ord := [] }
noncomputable def h52 : Hint := { inst := [], el := [], arr := [], fzl := [], pfx := [], snap := [], heads := [(0, { keep := [0, 3, 9, 10, 11], conv := [], bconv := [] }), (2, { keep := [6, 25, 26, 27], conv := [(6, .own 116 y2)], bconv := [] })], ends := [(0, { keep := [0, 2, 3], conv := [], bconv := [] }), (2, { keep := [2, 6], conv := [], bconv := [] })], ord := [] }
noncomputable def h53 : Hint := { inst := [], el := [], arr := [5], fzl := [], pfx := [], snap := [], heads := [], ends := [], ord := [], fork := true }
noncomputable def h54 : Hint := { inst := [], el := [], arr := [], fzl := [], pfx := [], snap := [], heads := [], ends := [], ord := [] }
noncomputable def h55 : Hint := { inst := [], el := [], arr := [], fzl := [], pfx := [], snap := [], heads := [], ends := [], ord := [] }
noncomputable def h56 : Hint := { inst := [], el := [], arr := [], fzl := [], pfx := [], snap := [], heads := [(0, { keep := [0, 3], conv := [], bconv := [] }), (2, { keep := [0, 3, 4, 5], conv := [], bconv := [] })], ends := [(0, { keep := [0, 2], conv := [], bconv := [] }), (2, { keep := [0, 2, 3], conv := [], bconv := [] })], ord := [] }
noncomputable def h57 : Hint := { inst := [], el := [], arr := [], fzl := [], pfx := [], snap := [], heads := [], ends := [], ord := [] }
noncomputable def h58 : Hint := { inst := [], el := [], arr := [], fzl := [], pfx := [], snap := [], heads := [], ends := [], ord := [] }
noncomputable def h59 : Hint := { inst := [], el := [], arr := [], fzl := [], pfx := [], snap := [], heads := [(0, { keep := [1, 3], conv := [], bconv := [] }), (2, { keep := [1, 4], conv := [], bconv := [] }), (4, { keep := [1, 6], conv := [], bconv := [] }), (6, { keep := [1, 8], conv := [], bconv := [] })], ends := [(0, { keep := [1, 2], conv := [], bconv := [] }), (2, { keep := [1, 2], conv := [], bconv := [] }), (4, { keep := [1, 2], conv := [], bconv := [] }), (6, { keep := [2], conv := [], bconv := [] })], ord := [] }
noncomputable def h60 : Hint := { inst := [], el := [], arr := [], fzl := [], pfx := [], snap := [], heads := [(0, { keep := [1, 3], conv := [], bconv := [] }), (2, { keep := [1, 3, 4, 5], conv := [], bconv := [] }), (4, { keep := [1, 6], conv := [], bconv := [] }), (6, { keep := [1, 6, 7, 8], conv := [], bconv := [] }), (8, { keep := [1, 6, 7, 9], conv := [], bconv := [] }), (10, { keep := [1, 6, 7, 9, 10], conv := [], bconv := [] })], ends := [(0, { keep := [1, 2], conv := [], bconv := [] }), (2, { keep := [1, 2, 3], conv := [], bconv := [] }), (4, { keep := [2], conv := [], bconv := [] }), (6, { keep := [1, 2, 6, 7], conv := [], bconv := [] }), (8, { keep := [1, 2, 6], conv := [], bconv := [] }), (10, { keep := [1, 2, 6, 7, 9], conv := [], bconv := [] })], ord := [] }
noncomputable def h61 : Hint := { inst := [], el := [], arr := [], fzl := [], pfx := [], snap := [], heads := [(0, { keep := [1, 3, 4, 5], conv := [], bconv := [] }), (2, { keep := [1, 3, 4, 6], conv := [], bconv := [] }), (4, { keep := [1, 3, 4, 7], conv := [], bconv := [] }), (6, { keep := [1, 3, 4, 8], conv := [], bconv := [] })], ends := [(0, { keep := [1, 2, 3, 4], conv := [], bconv := [] }), (2, { keep := [1, 2, 3, 4], conv := [], bconv := [] }), (4, { keep := [1, 2, 3, 4], conv := [], bconv := [] }), (6, { keep := [2, 4], conv := [], bconv := [] })], ord := [], inl := [(25, { site := 12, base := 26000, live := [1, 3, 5, 17], old := [] }), (42, { site := 13, base := 28000, live := [1, 3, 6, 34], old := [] }), (59, { site := 14, base := 30000, live := [1, 3, 7, 51], old := [] }), (76, { site := 15, base := 32000, live := [1, 3, 8, 68], old := [] })] }
noncomputable def h62 : Hint := { inst := [], el := [], arr := [], fzl := [], pfx := [], snap := [], heads := [(0, { keep := [1, 3], conv := [], bconv := [] }), (2, { keep := [1, 3, 4], conv := [], bconv := [] }), (4, { keep := [1, 6], conv := [], bconv := [] }), (6, { keep := [1, 6, 7], conv := [], bconv := [] }), (8, { keep := [1, 6, 7, 8], conv := [], bconv := [] })], ends := [(0, { keep := [1, 2], conv := [], bconv := [] }), (2, { keep := [1, 2, 3], conv := [], bconv := [] }), (4, { keep := [2], conv := [], bconv := [] }), (6, { keep := [1, 2, 6], conv := [], bconv := [] }), (8, { keep := [1, 2, 6, 7], conv := [], bconv := [] })], ord := [] }
noncomputable def h63 : Hint := { inst := [], el := [], arr := [], fzl := [], pfx := [], snap := [], heads := [(0, { keep := [1, 3], conv := [], bconv := [] }), (2, { keep := [1, 3, 4, 5], conv := [], bconv := [] }), (4, { keep := [1, 3, 6, 7], conv := [], bconv := [] }), (6, { keep := [1, 8, 9, 10], conv := [], bconv := [] }), (8, { keep := [1, 8, 9, 10, 11, 12], conv := [], bconv := [] })], ends := [(0, { keep := [1, 2], conv := [], bconv := [] }), (2, { keep := [1, 2, 3, 4], conv := [], bconv := [] }), (4, { keep := [1, 2, 3, 6], conv := [], bconv := [] }), (6, { keep := [2], conv := [], bconv := [] }), (8, { keep := [1, 2, 8, 9, 10], conv := [], bconv := [] })], ord := [(20, [0, 2, 1, 3, 4, 5])] }
noncomputable def h64 : Hint := { inst := [], el := [], arr := [], fzl := [], pfx := [], snap := [], heads := [(0, { keep := [1, 3, 4], conv := [], bconv := [] }), (2, { keep := [1, 3, 4, 5], conv := [], bconv := [] }), (4, { keep := [1, 3, 7, 8, 9], conv := [], bconv := [] }), (6, { keep := [1, 3, 7, 8, 9, 10], conv := [], bconv := [] }), (8, { keep := [1, 3, 7, 8, 9, 10, 11, 12], conv := [], bconv := [] })], ends := [(0, { keep := [1, 2, 3], conv := [], bconv := [] }), (2, { keep := [1, 2, 3, 4], conv := [], bconv := [] }), (4, { keep := [2], conv := [], bconv := [] }), (6, { keep := [1, 2, 3, 7, 8, 9], conv := [], bconv := [] }), (8, { keep := [1, 2, 3, 7, 8, 9, 10], conv := [], bconv := [] })], ord := [] }
noncomputable def h65 : Hint := { inst := [], el := [], arr := [], fzl := [], pfx := [], snap := [], heads := [(0, { keep := [2, 3, 5, 6], conv := [], bconv := [] }), (2, { keep := [2, 3, 5, 6, 7], conv := [], bconv := [] }), (4, { keep := [2, 3, 5, 6, 7, 8, 9, 10], conv := [(9, .own 3 [(.int .i64)])], bconv := [] })], ends := [(0, { keep := [4], conv := [], bconv := [] }), (2, { keep := [2, 3, 4, 5, 6], conv := [], bconv := [] }), (4, { keep := [2, 3, 4, 5, 6, 7, 8, 9], conv := [], bconv := [] })], ord := [] }
noncomputable def h66 : Hint := { inst := [], el := [], arr := [7], fzl := [], pfx := [], snap := [], heads := [(0, { keep := [1, 3, 4], conv := [(3, .own 3 [(.int .i64)])], bconv := [] }), (2, { keep := [1, 3, 4, 5], conv := [(3, .own 3 [(.int .i64)])], bconv := [] })], ends := [(0, { keep := [2, 3], conv := [], bconv := [] }), (2, { keep := [1, 2, 3, 4], conv := [], bconv := [] })], ord := [] }
noncomputable def h69 : Hint := { inst := [], el := [], arr := [], fzl := [], pfx := [], snap := [], heads := [], ends := [], ord := [] }
noncomputable def h70 : Hint := { inst := [], el := [], arr := [], fzl := [], pfx := [], snap := [], heads := [], ends := [], ord := [] }
noncomputable def h71 : Hint := { inst := [], el := [], arr := [], fzl := [], pfx := [], snap := [], heads := [(0, { keep := [0, 1, 7, 8], conv := [], bconv := [] })], ends := [(0, { keep := [4], conv := [], bconv := [] })], ord := [] }
noncomputable def h72 : Hint := { inst := [], el := [], arr := [], fzl := [], pfx := [], snap := [], heads := [], ends := [], ord := [] }
noncomputable def h73 : Hint := { inst := [], el := [], arr := [], fzl := [], pfx := [], snap := [], heads := [(0, { keep := [2, 5, 55, 56, 57], conv := [(5, .own 3 [(.int .i64)])], bconv := [] })], ends := [(0, { keep := [4, 5], conv := [], bconv := [] })], ord := [] }
noncomputable def h74 : Hint := { inst := [], el := [], arr := [], fzl := [], pfx := [], snap := [], heads := [(0, { keep := [0, 3, 10, 11], conv := [], bconv := [] }), (2, { keep := [0, 3, 4, 10, 11, 18, 19], conv := [], bconv := [] })], ends := [(0, { keep := [2, 3], conv := [], bconv := [] }), (2, { keep := [0, 2, 3, 10, 11], conv := [], bconv := [] })], ord := [] }
noncomputable def h75 : Hint := { inst := [], el := [], arr := [], fzl := [], pfx := [], snap := [], heads := [(0, { keep := [1, 3, 4, 16, 17], conv := [], bconv := [] }), (2, { keep := [3, 4, 6, 7, 31, 32], conv := [], bconv := [] }), (4, { keep := [3, 4, 6, 7, 8, 9, 31, 32, 48, 49], conv := [], bconv := [] })], ends := [(0, { keep := [1, 2, 3, 4], conv := [], bconv := [] }), (2, { keep := [2, 7], conv := [], bconv := [] }), (4, { keep := [2, 3, 4, 6, 7, 31, 32], conv := [], bconv := [] })], ord := [] }
noncomputable def h76 : Hint := { inst := [], el := [], arr := [], fzl := [], pfx := [], snap := [], heads := [(0, { keep := [0, 2, 9, 10, 11], conv := [], bconv := [] })], ends := [(0, { keep := [6], conv := [], bconv := [] })], ord := [] }
noncomputable def h77 : Hint := { inst := [], el := [], arr := [], fzl := [], pfx := [], snap := [], heads := [(0, { keep := [0, 2, 14, 15, 16], conv := [], bconv := [] })], ends := [(0, { keep := [6], conv := [], bconv := [] })], ord := [] }
noncomputable def h78 : Hint := { inst := [], el := [], arr := [], fzl := [], pfx := [], snap := [], heads := [], ends := [], ord := [] }
noncomputable def h79 : Hint := { inst := [], el := [], arr := [], fzl := [], pfx := [], snap := [], heads := [(0, { keep := [0, 1, 2, 3, 4, 10, 11], conv := [], bconv := [] })], ends := [(0, { keep := [], conv := [], bconv := [] })], ord := [] }
noncomputable def h80 : Hint := { inst := [], el := [], arr := [], fzl := [], pfx := [], snap := [], heads := [], ends := [], ord := [] }
noncomputable def h81 : Hint := { inst := [], el := [], arr := [], fzl := [], pfx := [], snap := [], heads := [(0, { keep := [1, 3, 4], conv := [], bconv := [] })], ends := [(0, { keep := [2, 3], conv := [], bconv := [] })], ord := [] }
noncomputable def h82 : Hint := { inst := [], el := [], arr := [], fzl := [], pfx := [], snap := [], heads := [], ends := [], ord := [] }
noncomputable def h84 : Hint := { inst := [], el := [], arr := [], fzl := [], pfx := [], snap := [], heads := [], ends := [], ord := [] }
noncomputable def h85 : Hint := { inst := [], el := [], arr := [], fzl := [], pfx := [], snap := [], heads := [], ends := [], ord := [] }
noncomputable def h86 : Hint := { inst := [], el := [], arr := [], fzl := [], pfx := [], snap := [], heads := [(0, { keep := [1, 3, 4], conv := [], bconv := [] }), (2, { keep := [1, 3, 4, 5, 6], conv := [], bconv := [] })], ends := [(0, { keep := [2, 3], conv := [], bconv := [] }), (2, { keep := [1, 2, 3, 4], conv := [], bconv := [] })], ord := [(9, [0, 1, 2, 3, 5, 6, 7, 8, 12, 4, 9, 10, 11, 13, 14, 15, 16])], cks := [(41, [(31, 3, 30)])] }
noncomputable def h87 : Hint := { inst := [], el := [], arr := [], fzl := [], pfx := [], snap := [], heads := [(0, { keep := [0, 1, 5], conv := [], bconv := [] })], ends := [(0, { keep := [4], conv := [], bconv := [] })], ord := [] }
noncomputable def h88 : Hint := { inst := [], el := [], arr := [], fzl := [], pfx := [], snap := [], heads := [(0, { keep := [1, 3, 4], conv := [], bconv := [] }), (2, { keep := [1, 3, 5, 6], conv := [], bconv := [] }), (4, { keep := [1, 3, 5, 6, 7], conv := [], bconv := [] })], ends := [(0, { keep := [1, 2, 3], conv := [], bconv := [] }), (2, { keep := [2, 3], conv := [], bconv := [] }), (4, { keep := [1, 2, 3, 5, 6], conv := [], bconv := [] })], ord := [] }
noncomputable def h89 : Hint := { inst := [], el := [], arr := [], fzl := [], pfx := [], snap := [], heads := [(0, { keep := [1, 3, 4, 5], conv := [], bconv := [] }), (2, { keep := [1, 3, 4, 5, 6, 7], conv := [], bconv := [] })], ends := [(0, { keep := [2, 3], conv := [], bconv := [] }), (2, { keep := [1, 2, 3, 4, 5], conv := [], bconv := [] })], ord := [] }
noncomputable def h90 : Hint := { inst := [], el := [], arr := [], fzl := [], pfx := [], snap := [], heads := [(1, { keep := [3, 6, 9], conv := [], bconv := [] })], ends := [(1, { keep := [8], conv := [], bconv := [] })], ord := [] }
noncomputable def h92 : Hint := { inst := [], el := [], arr := [], fzl := [], pfx := [], snap := [], heads := [], ends := [], ord := [] }
noncomputable def h93 : Hint := { inst := [], el := [], arr := [], fzl := [], pfx := [], snap := [], heads := [(0, { keep := [0, 1, 17, 18, 19], conv := [], bconv := [(500, 5, .own 3 [(.int .i64)]), (500, 6, .own 3 [(.int .i64)])] })], ends := [(0, { keep := [0, 1], conv := [], bconv := [] })], ord := [] }
noncomputable def h94 : Hint := { inst := [], el := [], arr := [], fzl := [], pfx := [], snap := [], heads := [], ends := [], ord := [] }
noncomputable def h95 : Hint := { inst := [], el := [], arr := [], fzl := [], pfx := [], snap := [], heads := [(0, { keep := [0, 1, 5, 6], conv := [(6, .own 3 [(.int .i64)])], bconv := [] }), (2, { keep := [0, 1, 5, 6, 37, 38, 39], conv := [(6, .own 3 [(.int .i64)])], bconv := [] })], ends := [(0, { keep := [4, 5], conv := [], bconv := [] }), (2, { keep := [0, 1, 4, 5, 6], conv := [], bconv := [] })], ord := [] }
noncomputable def h96 : Hint := { inst := [], el := [], arr := [], fzl := [], pfx := [], snap := [], heads := [(0, { keep := [0, 1, 2, 3, 8], conv := [], bconv := [] }), (2, { keep := [0, 1, 2, 3, 8, 9], conv := [], bconv := [] })], ends := [(0, { keep := [], conv := [], bconv := [] }), (2, { keep := [0, 1, 2, 3, 8], conv := [], bconv := [] })], ord := [] }
noncomputable def h104 : Hint := { inst := [], el := [], arr := [], fzl := [], pfx := [], snap := [], heads := [], ends := [], ord := [] }
noncomputable def h105 : Hint := { inst := [], el := [], arr := [], fzl := [], pfx := [], snap := [], heads := [], ends := [], ord := [] }
noncomputable def h106 : Hint := { inst := [], el := [], arr := [], fzl := [], pfx := [], snap := [], heads := [], ends := [], ord := [] }
noncomputable def h107 : Hint := { inst := [], el := [], arr := [], fzl := [], pfx := [], snap := [], heads := [(0, { keep := [0, 3], conv := [], bconv := [] })], ends := [(0, { keep := [2], conv := [], bconv := [] })], ord := [] }
noncomputable def h108 : Hint := { inst := [], el := [], arr := [], fzl := [], pfx := [], snap := [], heads := [(0, { keep := [2, 3, 7, 8], conv := [], bconv := [] }), (2, { keep := [2, 3, 7, 8, 9], conv := [], bconv := [] }), (4, { keep := [2, 3, 7, 8, 9, 10, 11], conv := [], bconv := [] })], ends := [(0, { keep := [6, 7], conv := [], bconv := [] }), (2, { keep := [2, 3, 6, 7, 8], conv := [], bconv := [] }), (4, { keep := [2, 3, 6, 7, 8, 9], conv := [], bconv := [] })], ord := [] }
noncomputable def h109 : Hint := { inst := [], el := [], arr := [], fzl := [], pfx := [], snap := [], heads := [(0, { keep := [2, 5, 7, 8], conv := [(7, .own 3 [(.int .i64)])], bconv := [] })], ends := [(0, { keep := [4, 7], conv := [], bconv := [] })], ord := [] }
noncomputable def h110 : Hint := { inst := [], el := [], arr := [], fzl := [], pfx := [], snap := [], heads := [(0, { keep := [0, 1, 7, 8], conv := [], bconv := [] })], ends := [(0, { keep := [4], conv := [], bconv := [] })], ord := [] }
noncomputable def h112 : Hint := { inst := [], el := [], arr := [], fzl := [], pfx := [], snap := [], heads := [], ends := [], ord := [] }
noncomputable def h113 : Hint := { inst := [], el := [], arr := [], fzl := [], pfx := [], snap := [], heads := [], ends := [], ord := [] }
noncomputable def h116 : Hint := { inst := [], el := [], arr := [], fzl := [], pfx := [], snap := [], heads := [], ends := [], ord := [] }
noncomputable def h117 : Hint := { inst := [], el := [], arr := [], fzl := [], pfx := [], snap := [], heads := [(0, { keep := [0, 1, 5], conv := [], bconv := [] })], ends := [(0, { keep := [4], conv := [], bconv := [] })], ord := [] }
noncomputable def sites : BT Site := (.node 8 { fn := 67, f := Tryz.f67, c := cd Tryz.f67, h := { inst := [], el := [], arr := [], fzl := [], pfx := [], snap := [], heads := [], ends := [], ord := [], nb := 16400, inl := [(14, { site := 9, base := 20000, live := [0, 1, 2, 10, 11], old := [18000, 18001, 18005, 18008, 18009, 14000] })] }, np := 3 }
 (.node 4 { fn := 36, f := Tryz.f36, c := cd Tryz.f36, h := { inst := [], el := [], arr := [], fzl := [], pfx := [], snap := [], heads := [(0, { keep := [1, 2, 6, 7, 8, 10000], conv := [(8, .own 97 y2)], bconv := [], nb := 9000 }), (2, { keep := [1, 2, 6, 7, 8, 9, 10000], conv := [(8, .own 97 y2)], bconv := [], nb := 9000 }), (4, { keep := [1, 2, 6, 7, 8, 10, 10000], conv := [], bconv := [], nb := 9000 })], ends := [(0, { keep := [1, 2, 6, 7, 8, 10000], conv := [], bconv := [], nb := 9000 }), (2, { keep := [1, 2, 6, 7, 8, 10000], conv := [], bconv := [], nb := 9000 }), (4, { keep := [1, 2, 7, 10000], conv := [], bconv := [], nb := 9000 })], ord := [], nb := 8400 }, np := 3 }
 (.node 2 { fn := 35, f := Tryz.f35, c := cd Tryz.f35, h := { inst := [], el := [], arr := [], fzl := [], pfx := [], snap := [], heads := [(0, { keep := [0, 1, 5, 6, 7, 6000], conv := [], bconv := [(5006, 1, .own 2 [(.int .i64)])], nb := 5000 })], ends := [(0, { keep := [0, 1, 5, 6, 6000], conv := [], bconv := [], nb := 5000 })], ord := [], nb := 4400 }, np := 3 }
 (.node 1 { fn := 34, f := Tryz.f34, c := cd Tryz.f34, h := { inst := [], el := [], arr := [], fzl := [], pfx := [], snap := [], heads := [(0, { keep := [0, 1, 5, 6, 7, 8, 9, 10, 4000], conv := [], bconv := [], nb := 3000 }), (2, { keep := [0, 1, 7, 11, 12, 4000], conv := [], bconv := [], nb := 3000 })], ends := [(0, { keep := [0, 1, 5, 6, 7, 9, 4000], conv := [], bconv := [], nb := 3000 }), (2, { keep := [0, 11, 4000], conv := [], bconv := [], nb := 3000 })], ord := [(14, [0, 1, 2, 3, 4, 6, 12, 5, 7, 8, 13, 9, 10, 11, 14, 15, 16])], nb := 2400, alts := [(14, ([9, 10, 11, 14, 15], [[0, 1, 2, 3, 4, 6, 12, 5, 7, 8, 13, 9, 10, 11, 15, 14, 16], [0, 1, 2, 3, 4, 6, 12, 5, 7, 8, 13, 9, 10, 15, 11, 14, 16], [0, 1, 2, 3, 4, 6, 12, 5, 7, 8, 13, 9, 15, 10, 11, 14, 16], [0, 1, 2, 3, 4, 6, 12, 5, 7, 8, 13, 15, 9, 10, 11, 14, 16]]))], mids := [(14, { keep := [0, 1, 7, 11, 4000], conv := [], bconv := [] })] }, np := 3 }
 (.node 0 { fn := 31, f := Tryz.f31, c := cd Tryz.f31, h := { inst := [], el := [], arr := [1010], fzl := [], pfx := [], snap := [], heads := [], ends := [], ord := [(1, [0, 1, 2, 3, 6, 4, 5, 7, 8, 9, 10, 11, 12])], nb := 400, cks := [(12, [(9, 72, 8)])] }, np := 2 }
 .nil .nil) .nil) (.node 3 { fn := 36, f := Tryz.f36, c := cd Tryz.f36, h := { inst := [], el := [], arr := [], fzl := [], pfx := [], snap := [], heads := [(0, { keep := [1, 2, 6, 7, 8, 8000], conv := [(8, .own 97 y2)], bconv := [], nb := 7000 }), (2, { keep := [1, 2, 6, 7, 8, 9, 8000], conv := [(8, .own 97 y2)], bconv := [], nb := 7000 }), (4, { keep := [1, 2, 6, 7, 8, 10, 8000], conv := [], bconv := [], nb := 7000 })], ends := [(0, { keep := [1, 2, 6, 7, 8, 8000], conv := [], bconv := [], nb := 7000 }), (2, { keep := [1, 2, 6, 7, 8, 8000], conv := [], bconv := [], nb := 7000 }), (4, { keep := [1, 2, 7, 8000], conv := [], bconv := [], nb := 7000 })], ord := [], nb := 6400 }, np := 3 }
 .nil .nil)) (.node 6 { fn := 39, f := Tryz.f39, c := cd Tryz.f39, h := { inst := [], el := [], arr := [], fzl := [], pfx := [], snap := [], heads := [(0, { keep := [0, 1, 5, 6, 7, 14000], conv := [], bconv := [], nb := 13000 })], ends := [(0, { keep := [0, 1, 5, 6, 14000], conv := [], bconv := [], nb := 13000 })], ord := [], nb := 12400, inl := [(67, { site := 7, base := 16000, live := [0, 1, 5, 8, 9], old := [14000] }), (94, { site := 8, base := 18000, live := [0, 1, 5, 8, 9], old := [14000] }), (115, { site := 10, base := 22000, live := [0, 1, 5, 8, 9], old := [14000] })] }, np := 3 }
 (.node 5 { fn := 37, f := Tryz.f37, c := cd Tryz.f37, h := { inst := [], el := [], arr := [], fzl := [], pfx := [], snap := [], heads := [], ends := [], ord := [(7, [0, 1, 2, 4, 5, 6, 3, 7, 8, 9, 10, 11])], nb := 10400, cks := [(5054, [(51, 2, 50)])] }, np := 3 }
 .nil .nil) (.node 7 { fn := 31, f := Tryz.f31, c := cd Tryz.f31, h := { inst := [], el := [], arr := [15010], fzl := [], pfx := [], snap := [], heads := [], ends := [], ord := [(1, [0, 1, 2, 3, 6, 4, 5, 7, 8, 9, 10, 11, 12])], nb := 14400, cks := [(12, [(9, 72, 8)])] }, np := 2 }
 .nil .nil))) (.node 12 { fn := 83, f := Tryz.f83, c := cd Tryz.f83, h := { inst := [], el := [], arr := [], fzl := [], pfx := [], snap := [], heads := [], ends := [], ord := [], nb := 24400 }, np := 2 }
 (.node 10 { fn := 68, f := Tryz.f68, c := cd Tryz.f68, h := { inst := [], el := [], arr := [], fzl := [], pfx := [], snap := [], heads := [], ends := [], ord := [], nb := 20400, inl := [(15, { site := 11, base := 24000, live := [0, 1, 2, 3, 11, 12], old := [22000, 22001, 22005, 22008, 22009, 14000] })] }, np := 4 }
 (.node 9 { fn := 91, f := Tryz.f91, c := cd Tryz.f91, h := { inst := [], el := [], arr := [], fzl := [], pfx := [], snap := [], heads := [], ends := [], ord := [], nb := 18400 }, np := 2 }
 .nil .nil) (.node 11 { fn := 91, f := Tryz.f91, c := cd Tryz.f91, h := { inst := [], el := [], arr := [], fzl := [], pfx := [], snap := [], heads := [], ends := [], ord := [], nb := 22400 }, np := 2 }
 .nil .nil)) (.node 14 { fn := 83, f := Tryz.f83, c := cd Tryz.f83, h := { inst := [], el := [], arr := [], fzl := [], pfx := [], snap := [], heads := [], ends := [], ord := [], nb := 28400 }, np := 2 }
 (.node 13 { fn := 83, f := Tryz.f83, c := cd Tryz.f83, h := { inst := [], el := [], arr := [], fzl := [], pfx := [], snap := [], heads := [], ends := [], ord := [], nb := 26400 }, np := 2 }
 .nil .nil) (.node 15 { fn := 83, f := Tryz.f83, c := cd Tryz.f83, h := { inst := [], el := [], arr := [], fzl := [], pfx := [], snap := [], heads := [], ends := [], ord := [], nb := 30400 }, np := 2 }
 .nil .nil))))
noncomputable def bodies : Bodies := (.node 57 (Tryz.f57, h57)
 (.node 26 (Tryz.f26, h26)
 (.node 14 (Tryz.f14, h14)
 (.node 8 (Tryz.f8, h8)
 (.node 5 (Tryz.f5, h5)
 (.node 4 (Tryz.f4, h4)
 (.node 3 (Tryz.f3, h3)
 .nil .nil) .nil) (.node 7 (Tryz.f7, h7)
 (.node 6 (Tryz.f6, h6)
 .nil .nil) .nil)) (.node 11 (Tryz.f11, h11)
 (.node 10 (Tryz.f10, h10)
 (.node 9 (Tryz.f9, h9)
 .nil .nil) .nil) (.node 13 (Tryz.f13, h13)
 (.node 12 (Tryz.f12, h12)
 .nil .nil) .nil))) (.node 20 (Tryz.f20, h20)
 (.node 17 (Tryz.f17, h17)
 (.node 16 (Tryz.f16, h16)
 (.node 15 (Tryz.f15, h15)
 .nil .nil) .nil) (.node 19 (Tryz.f19, h19)
 (.node 18 (Tryz.f18, h18)
 .nil .nil) .nil)) (.node 23 (Tryz.f23, h23)
 (.node 22 (Tryz.f22, h22)
 (.node 21 (Tryz.f21, h21)
 .nil .nil) .nil) (.node 25 (Tryz.f25, h25)
 (.node 24 (Tryz.f24, h24)
 .nil .nil) .nil)))) (.node 44 (Tryz.f44, h44)
 (.node 33 (Tryz.f33, h33)
 (.node 29 (Tryz.f29, h29)
 (.node 28 (Tryz.f28, h28)
 (.node 27 (Tryz.f27, h27)
 .nil .nil) .nil) (.node 32 (Tryz.f32, h32)
 (.node 30 (Tryz.f30, h30)
 .nil .nil) .nil)) (.node 41 (Tryz.f41, h41)
 (.node 40 (Tryz.f40, h40)
 (.node 38 (Tryz.f38, h38)
 .nil .nil) .nil) (.node 43 (Tryz.f43, h43)
 (.node 42 (Tryz.f42, h42)
 .nil .nil) .nil))) (.node 50 (Tryz.f50, h50)
 (.node 47 (Tryz.f47, h47)
 (.node 46 (Tryz.f46, h46)
 (.node 45 (Tryz.f45, h45)
 .nil .nil) .nil) (.node 49 (Tryz.f49, h49)
 (.node 48 (Tryz.f48, h48)
 .nil .nil) .nil)) (.node 54 (Tryz.f54, h54)
 (.node 53 (Tryz.f53, h53)
 (.node 51 (Tryz.f51, h51)
 .nil .nil) .nil) (.node 56 (Tryz.f56, h56)
 (.node 55 (Tryz.f55, h55)
 .nil .nil) .nil))))) (.node 84 (Tryz.f84, h84)
 (.node 71 (Tryz.f71, h71)
 (.node 63 (Tryz.f63, h63)
 (.node 60 (Tryz.f60, h60)
 (.node 59 (Tryz.f59, h59)
 (.node 58 (Tryz.f58, h58)
 .nil .nil) .nil) (.node 62 (Tryz.f62, h62)
 (.node 61 (Tryz.f61, h61)
 .nil .nil) .nil)) (.node 66 (Tryz.f66, h66)
 (.node 65 (Tryz.f65, h65)
 (.node 64 (Tryz.f64, h64)
 .nil .nil) .nil) (.node 70 (Tryz.f70, h70)
 (.node 69 (Tryz.f69, h69)
 .nil .nil) .nil))) (.node 77 (Tryz.f77, h77)
 (.node 74 (Tryz.f74, h74)
 (.node 73 (Tryz.f73, h73)
 (.node 72 (Tryz.f72, h72)
 .nil .nil) .nil) (.node 76 (Tryz.f76, h76)
 (.node 75 (Tryz.f75, h75)
 .nil .nil) .nil)) (.node 80 (Tryz.f80, h80)
 (.node 79 (Tryz.f79, h79)
 (.node 78 (Tryz.f78, h78)
 .nil .nil) .nil) (.node 82 (Tryz.f82, h82)
 (.node 81 (Tryz.f81, h81)
 .nil .nil) .nil)))) (.node 104 (Tryz.f104, h104)
 (.node 90 (Tryz.f90, h90)
 (.node 87 (Tryz.f87, h87)
 (.node 86 (Tryz.f86, h86)
 (.node 85 (Tryz.f85, h85)
 .nil .nil) .nil) (.node 89 (Tryz.f89, h89)
 (.node 88 (Tryz.f88, h88)
 .nil .nil) .nil)) (.node 94 (Tryz.f94, h94)
 (.node 93 (Tryz.f93, h93)
 (.node 92 (Tryz.f92, h92)
 .nil .nil) .nil) (.node 96 (Tryz.f96, h96)
 (.node 95 (Tryz.f95, h95)
 .nil .nil) .nil))) (.node 110 (Tryz.f110, h110)
 (.node 107 (Tryz.f107, h107)
 (.node 106 (Tryz.f106, h106)
 (.node 105 (Tryz.f105, h105)
 .nil .nil) .nil) (.node 109 (Tryz.f109, h109)
 (.node 108 (Tryz.f108, h108)
 .nil .nil) .nil)) (.node 116 (Tryz.f116, h116)
 (.node 113 (Tryz.f113, h113)
 (.node 112 (Tryz.f112, h112)
 .nil .nil) .nil) (.node 117 (Tryz.f117, h117)
 .nil .nil))))))
noncomputable def E : Env := { tt := types, pt := ptrs, sg := sigs, eqt := eqts, mt := maps }
theorem env_ok : envB Tryz.prog E = true := by kernel_rfl
theorem env_sound : EnvOk Tryz.prog E := envB_sound env_ok
theorem mixed : Tryz.prog.follows .mixedOrders = true := by kernel_rfl
theorem bodies_ok : bodies.allB (fnB E) = true := by kernel_rfl
theorem sigs_ok : sigs.allB sgB = true := by kernel_rfl
theorem sites_ok : sites.allB (siteB E) = true := by kernel_rfl
theorem inOf {m : Nat} {f : Func} {s : Sig} (h1 : Tryz.prog.funcs[m]? = some f) (h2 : (f.name == "runtime.NumGoroutine") = false) (h3 : f.body.isNone = false) : FnIn Tryz.prog m s := ⟨f, h1, by simpa using h2, h3⟩
theorem in3 {s : Sig} : FnIn Tryz.prog 3 s := inOf Tryz.func3 (by kernel_rfl) (by kernel_rfl)
theorem in4 {s : Sig} : FnIn Tryz.prog 4 s := inOf Tryz.func4 (by kernel_rfl) (by kernel_rfl)
theorem in5 {s : Sig} : FnIn Tryz.prog 5 s := inOf Tryz.func5 (by kernel_rfl) (by kernel_rfl)
theorem in6 {s : Sig} : FnIn Tryz.prog 6 s := inOf Tryz.func6 (by kernel_rfl) (by kernel_rfl)
theorem in7 {s : Sig} : FnIn Tryz.prog 7 s := inOf Tryz.func7 (by kernel_rfl) (by kernel_rfl)
theorem in8 {s : Sig} : FnIn Tryz.prog 8 s := inOf Tryz.func8 (by kernel_rfl) (by kernel_rfl)
theorem in9 {s : Sig} : FnIn Tryz.prog 9 s := inOf Tryz.func9 (by kernel_rfl) (by kernel_rfl)
theorem in10 {s : Sig} : FnIn Tryz.prog 10 s := inOf Tryz.func10 (by kernel_rfl) (by kernel_rfl)
theorem in11 {s : Sig} : FnIn Tryz.prog 11 s := inOf Tryz.func11 (by kernel_rfl) (by kernel_rfl)
theorem in12 {s : Sig} : FnIn Tryz.prog 12 s := inOf Tryz.func12 (by kernel_rfl) (by kernel_rfl)
theorem in13 {s : Sig} : FnIn Tryz.prog 13 s := inOf Tryz.func13 (by kernel_rfl) (by kernel_rfl)
theorem in14 {s : Sig} : FnIn Tryz.prog 14 s := inOf Tryz.func14 (by kernel_rfl) (by kernel_rfl)
theorem in15 {s : Sig} : FnIn Tryz.prog 15 s := inOf Tryz.func15 (by kernel_rfl) (by kernel_rfl)
theorem in16 {s : Sig} : FnIn Tryz.prog 16 s := inOf Tryz.func16 (by kernel_rfl) (by kernel_rfl)
theorem in17 {s : Sig} : FnIn Tryz.prog 17 s := inOf Tryz.func17 (by kernel_rfl) (by kernel_rfl)
theorem in18 {s : Sig} : FnIn Tryz.prog 18 s := inOf Tryz.func18 (by kernel_rfl) (by kernel_rfl)
theorem in19 {s : Sig} : FnIn Tryz.prog 19 s := inOf Tryz.func19 (by kernel_rfl) (by kernel_rfl)
theorem in20 {s : Sig} : FnIn Tryz.prog 20 s := inOf Tryz.func20 (by kernel_rfl) (by kernel_rfl)
theorem in21 {s : Sig} : FnIn Tryz.prog 21 s := inOf Tryz.func21 (by kernel_rfl) (by kernel_rfl)
theorem in22 {s : Sig} : FnIn Tryz.prog 22 s := inOf Tryz.func22 (by kernel_rfl) (by kernel_rfl)
theorem in23 {s : Sig} : FnIn Tryz.prog 23 s := inOf Tryz.func23 (by kernel_rfl) (by kernel_rfl)
theorem in24 {s : Sig} : FnIn Tryz.prog 24 s := inOf Tryz.func24 (by kernel_rfl) (by kernel_rfl)
theorem in25 {s : Sig} : FnIn Tryz.prog 25 s := inOf Tryz.func25 (by kernel_rfl) (by kernel_rfl)
theorem in26 {s : Sig} : FnIn Tryz.prog 26 s := inOf Tryz.func26 (by kernel_rfl) (by kernel_rfl)
theorem in27 {s : Sig} : FnIn Tryz.prog 27 s := inOf Tryz.func27 (by kernel_rfl) (by kernel_rfl)
theorem in28 {s : Sig} : FnIn Tryz.prog 28 s := inOf Tryz.func28 (by kernel_rfl) (by kernel_rfl)
theorem in29 {s : Sig} : FnIn Tryz.prog 29 s := inOf Tryz.func29 (by kernel_rfl) (by kernel_rfl)
theorem in30 {s : Sig} : FnIn Tryz.prog 30 s := inOf Tryz.func30 (by kernel_rfl) (by kernel_rfl)
theorem in32 {s : Sig} : FnIn Tryz.prog 32 s := inOf Tryz.func32 (by kernel_rfl) (by kernel_rfl)
theorem in33 {s : Sig} : FnIn Tryz.prog 33 s := inOf Tryz.func33 (by kernel_rfl) (by kernel_rfl)
theorem in38 {s : Sig} : FnIn Tryz.prog 38 s := inOf Tryz.func38 (by kernel_rfl) (by kernel_rfl)
theorem in40 {s : Sig} : FnIn Tryz.prog 40 s := inOf Tryz.func40 (by kernel_rfl) (by kernel_rfl)
theorem in41 {s : Sig} : FnIn Tryz.prog 41 s := inOf Tryz.func41 (by kernel_rfl) (by kernel_rfl)
theorem in42 {s : Sig} : FnIn Tryz.prog 42 s := inOf Tryz.func42 (by kernel_rfl) (by kernel_rfl)
theorem in43 {s : Sig} : FnIn Tryz.prog 43 s := inOf Tryz.func43 (by kernel_rfl) (by kernel_rfl)
theorem in44 {s : Sig} : FnIn Tryz.prog 44 s := inOf Tryz.func44 (by kernel_rfl) (by kernel_rfl)
theorem in45 {s : Sig} : FnIn Tryz.prog 45 s := inOf Tryz.func45 (by kernel_rfl) (by kernel_rfl)
theorem in46 {s : Sig} : FnIn Tryz.prog 46 s := inOf Tryz.func46 (by kernel_rfl) (by kernel_rfl)
theorem in47 {s : Sig} : FnIn Tryz.prog 47 s := inOf Tryz.func47 (by kernel_rfl) (by kernel_rfl)
theorem in48 {s : Sig} : FnIn Tryz.prog 48 s := inOf Tryz.func48 (by kernel_rfl) (by kernel_rfl)
theorem in49 {s : Sig} : FnIn Tryz.prog 49 s := inOf Tryz.func49 (by kernel_rfl) (by kernel_rfl)
theorem in50 {s : Sig} : FnIn Tryz.prog 50 s := inOf Tryz.func50 (by kernel_rfl) (by kernel_rfl)
theorem in51 {s : Sig} : FnIn Tryz.prog 51 s := inOf Tryz.func51 (by kernel_rfl) (by kernel_rfl)
theorem in52 {s : Sig} : FnIn Tryz.prog 52 s := inOf Tryz.func52 (by kernel_rfl) (by kernel_rfl)
theorem in53 {s : Sig} : FnIn Tryz.prog 53 s := inOf Tryz.func53 (by kernel_rfl) (by kernel_rfl)
theorem in54 {s : Sig} : FnIn Tryz.prog 54 s := inOf Tryz.func54 (by kernel_rfl) (by kernel_rfl)
theorem in55 {s : Sig} : FnIn Tryz.prog 55 s := inOf Tryz.func55 (by kernel_rfl) (by kernel_rfl)
theorem in56 {s : Sig} : FnIn Tryz.prog 56 s := inOf Tryz.func56 (by kernel_rfl) (by kernel_rfl)
theorem in57 {s : Sig} : FnIn Tryz.prog 57 s := inOf Tryz.func57 (by kernel_rfl) (by kernel_rfl)
theorem in58 {s : Sig} : FnIn Tryz.prog 58 s := inOf Tryz.func58 (by kernel_rfl) (by kernel_rfl)
theorem in59 {s : Sig} : FnIn Tryz.prog 59 s := inOf Tryz.func59 (by kernel_rfl) (by kernel_rfl)
theorem in60 {s : Sig} : FnIn Tryz.prog 60 s := inOf Tryz.func60 (by kernel_rfl) (by kernel_rfl)
theorem in61 {s : Sig} : FnIn Tryz.prog 61 s := inOf Tryz.func61 (by kernel_rfl) (by kernel_rfl)
theorem in62 {s : Sig} : FnIn Tryz.prog 62 s := inOf Tryz.func62 (by kernel_rfl) (by kernel_rfl)
theorem in63 {s : Sig} : FnIn Tryz.prog 63 s := inOf Tryz.func63 (by kernel_rfl) (by kernel_rfl)
theorem in64 {s : Sig} : FnIn Tryz.prog 64 s := inOf Tryz.func64 (by kernel_rfl) (by kernel_rfl)
theorem in65 {s : Sig} : FnIn Tryz.prog 65 s := inOf Tryz.func65 (by kernel_rfl) (by kernel_rfl)
theorem in66 {s : Sig} : FnIn Tryz.prog 66 s := inOf Tryz.func66 (by kernel_rfl) (by kernel_rfl)
theorem in69 {s : Sig} : FnIn Tryz.prog 69 s := inOf Tryz.func69 (by kernel_rfl) (by kernel_rfl)
theorem in70 {s : Sig} : FnIn Tryz.prog 70 s := inOf Tryz.func70 (by kernel_rfl) (by kernel_rfl)
theorem in71 {s : Sig} : FnIn Tryz.prog 71 s := inOf Tryz.func71 (by kernel_rfl) (by kernel_rfl)
theorem in72 {s : Sig} : FnIn Tryz.prog 72 s := inOf Tryz.func72 (by kernel_rfl) (by kernel_rfl)
theorem in73 {s : Sig} : FnIn Tryz.prog 73 s := inOf Tryz.func73 (by kernel_rfl) (by kernel_rfl)
theorem in74 {s : Sig} : FnIn Tryz.prog 74 s := inOf Tryz.func74 (by kernel_rfl) (by kernel_rfl)
theorem in75 {s : Sig} : FnIn Tryz.prog 75 s := inOf Tryz.func75 (by kernel_rfl) (by kernel_rfl)
theorem in76 {s : Sig} : FnIn Tryz.prog 76 s := inOf Tryz.func76 (by kernel_rfl) (by kernel_rfl)
theorem in77 {s : Sig} : FnIn Tryz.prog 77 s := inOf Tryz.func77 (by kernel_rfl) (by kernel_rfl)
theorem in78 {s : Sig} : FnIn Tryz.prog 78 s := inOf Tryz.func78 (by kernel_rfl) (by kernel_rfl)
theorem in79 {s : Sig} : FnIn Tryz.prog 79 s := inOf Tryz.func79 (by kernel_rfl) (by kernel_rfl)
theorem in80 {s : Sig} : FnIn Tryz.prog 80 s := inOf Tryz.func80 (by kernel_rfl) (by kernel_rfl)
theorem in81 {s : Sig} : FnIn Tryz.prog 81 s := inOf Tryz.func81 (by kernel_rfl) (by kernel_rfl)
theorem in82 {s : Sig} : FnIn Tryz.prog 82 s := inOf Tryz.func82 (by kernel_rfl) (by kernel_rfl)
theorem in84 {s : Sig} : FnIn Tryz.prog 84 s := inOf Tryz.func84 (by kernel_rfl) (by kernel_rfl)
theorem in85 {s : Sig} : FnIn Tryz.prog 85 s := inOf Tryz.func85 (by kernel_rfl) (by kernel_rfl)
theorem in86 {s : Sig} : FnIn Tryz.prog 86 s := inOf Tryz.func86 (by kernel_rfl) (by kernel_rfl)
theorem in87 {s : Sig} : FnIn Tryz.prog 87 s := inOf Tryz.func87 (by kernel_rfl) (by kernel_rfl)
theorem in88 {s : Sig} : FnIn Tryz.prog 88 s := inOf Tryz.func88 (by kernel_rfl) (by kernel_rfl)
theorem in89 {s : Sig} : FnIn Tryz.prog 89 s := inOf Tryz.func89 (by kernel_rfl) (by kernel_rfl)
theorem in90 {s : Sig} : FnIn Tryz.prog 90 s := inOf Tryz.func90 (by kernel_rfl) (by kernel_rfl)
theorem in92 {s : Sig} : FnIn Tryz.prog 92 s := inOf Tryz.func92 (by kernel_rfl) (by kernel_rfl)
theorem in93 {s : Sig} : FnIn Tryz.prog 93 s := inOf Tryz.func93 (by kernel_rfl) (by kernel_rfl)
theorem in94 {s : Sig} : FnIn Tryz.prog 94 s := inOf Tryz.func94 (by kernel_rfl) (by kernel_rfl)
theorem in95 {s : Sig} : FnIn Tryz.prog 95 s := inOf Tryz.func95 (by kernel_rfl) (by kernel_rfl)
theorem in96 {s : Sig} : FnIn Tryz.prog 96 s := inOf Tryz.func96 (by kernel_rfl) (by kernel_rfl)
theorem in104 {s : Sig} : FnIn Tryz.prog 104 s := inOf Tryz.func104 (by kernel_rfl) (by kernel_rfl)
theorem in105 {s : Sig} : FnIn Tryz.prog 105 s := inOf Tryz.func105 (by kernel_rfl) (by kernel_rfl)
theorem in106 {s : Sig} : FnIn Tryz.prog 106 s := inOf Tryz.func106 (by kernel_rfl) (by kernel_rfl)
theorem in107 {s : Sig} : FnIn Tryz.prog 107 s := inOf Tryz.func107 (by kernel_rfl) (by kernel_rfl)
theorem in108 {s : Sig} : FnIn Tryz.prog 108 s := inOf Tryz.func108 (by kernel_rfl) (by kernel_rfl)
theorem in109 {s : Sig} : FnIn Tryz.prog 109 s := inOf Tryz.func109 (by kernel_rfl) (by kernel_rfl)
theorem in110 {s : Sig} : FnIn Tryz.prog 110 s := inOf Tryz.func110 (by kernel_rfl) (by kernel_rfl)
theorem in112 {s : Sig} : FnIn Tryz.prog 112 s := inOf Tryz.func112 (by kernel_rfl) (by kernel_rfl)
theorem in113 {s : Sig} : FnIn Tryz.prog 113 s := inOf Tryz.func113 (by kernel_rfl) (by kernel_rfl)
theorem in116 {s : Sig} : FnIn Tryz.prog 116 s := inOf Tryz.func116 (by kernel_rfl) (by kernel_rfl)
theorem in117 {s : Sig} : FnIn Tryz.prog 117 s := inOf Tryz.func117 (by kernel_rfl) (by kernel_rfl)
theorem sigs_in : AllP (FnIn Tryz.prog) sigs :=
  ⟨in56, ⟨in26, ⟨in14, ⟨in8, ⟨in5, ⟨in4, ⟨in3, trivial, trivial⟩, trivial⟩, ⟨in7, ⟨in6, trivial, trivial⟩, trivial⟩⟩, ⟨in11, ⟨in10, ⟨in9, trivial, trivial⟩, trivial⟩, ⟨in13, ⟨in12, trivial, trivial⟩, trivial⟩⟩⟩, ⟨in20, ⟨in17, ⟨in16, ⟨in15, trivial, trivial⟩, trivial⟩, ⟨in19, ⟨in18, trivial, trivial⟩, trivial⟩⟩, ⟨in23, ⟨in22, ⟨in21, trivial, trivial⟩, trivial⟩, ⟨in25, ⟨in24, trivial, trivial⟩, trivial⟩⟩⟩⟩, ⟨in44, ⟨in33, ⟨in29, ⟨in28, ⟨in27, trivial, trivial⟩, trivial⟩, ⟨in32, ⟨in30, trivial, trivial⟩, trivial⟩⟩, ⟨in41, ⟨in40, ⟨in38, trivial, trivial⟩, trivial⟩, ⟨in43, ⟨in42, trivial, trivial⟩, trivial⟩⟩⟩, ⟨in50, ⟨in47, ⟨in46, ⟨in45, trivial, trivial⟩, trivial⟩, ⟨in49, ⟨in48, trivial, trivial⟩, trivial⟩⟩, ⟨in53, ⟨in52, ⟨in51, trivial, trivial⟩, trivial⟩, ⟨in55, ⟨in54, trivial, trivial⟩, trivial⟩⟩⟩⟩⟩, ⟨in82, ⟨in70, ⟨in62, ⟨in59, ⟨in58, ⟨in57, trivial, trivial⟩, trivial⟩, ⟨in61, ⟨in60, trivial, trivial⟩, trivial⟩⟩, ⟨in65, ⟨in64, ⟨in63, trivial, trivial⟩, trivial⟩, ⟨in69, ⟨in66, trivial, trivial⟩, trivial⟩⟩⟩, ⟨in76, ⟨in73, ⟨in72, ⟨in71, trivial, trivial⟩, trivial⟩, ⟨in75, ⟨in74, trivial, trivial⟩, trivial⟩⟩, ⟨in79, ⟨in78, ⟨in77, trivial, trivial⟩, trivial⟩, ⟨in81, ⟨in80, trivial, trivial⟩, trivial⟩⟩⟩⟩, ⟨in96, ⟨in89, ⟨in86, ⟨in85, ⟨in84, trivial, trivial⟩, trivial⟩, ⟨in88, ⟨in87, trivial, trivial⟩, trivial⟩⟩, ⟨in93, ⟨in92, ⟨in90, trivial, trivial⟩, trivial⟩, ⟨in95, ⟨in94, trivial, trivial⟩, trivial⟩⟩⟩, ⟨in109, ⟨in106, ⟨in105, ⟨in104, trivial, trivial⟩, trivial⟩, ⟨in108, ⟨in107, trivial, trivial⟩, trivial⟩⟩, ⟨in113, ⟨in112, ⟨in110, trivial, trivial⟩, trivial⟩, ⟨in117, ⟨in116, trivial, trivial⟩, trivial⟩⟩⟩⟩⟩⟩
theorem bodies_in : AllP (BdIn Tryz.prog) bodies :=
  ⟨Tryz.func57, ⟨Tryz.func26, ⟨Tryz.func14, ⟨Tryz.func8, ⟨Tryz.func5, ⟨Tryz.func4, ⟨Tryz.func3, trivial, trivial⟩, trivial⟩, ⟨Tryz.func7, ⟨Tryz.func6, trivial, trivial⟩, trivial⟩⟩, ⟨Tryz.func11, ⟨Tryz.func10, ⟨Tryz.func9, trivial, trivial⟩, trivial⟩, ⟨Tryz.func13, ⟨Tryz.func12, trivial, trivial⟩, trivial⟩⟩⟩, ⟨Tryz.func20, ⟨Tryz.func17, ⟨Tryz.func16, ⟨Tryz.func15, trivial, trivial⟩, trivial⟩, ⟨Tryz.func19, ⟨Tryz.func18, trivial, trivial⟩, trivial⟩⟩, ⟨Tryz.func23, ⟨Tryz.func22, ⟨Tryz.func21, trivial, trivial⟩, trivial⟩, ⟨Tryz.func25, ⟨Tryz.func24, trivial, trivial⟩, trivial⟩⟩⟩⟩, ⟨Tryz.func44, ⟨Tryz.func33, ⟨Tryz.func29, ⟨Tryz.func28, ⟨Tryz.func27, trivial, trivial⟩, trivial⟩, ⟨Tryz.func32, ⟨Tryz.func30, trivial, trivial⟩, trivial⟩⟩, ⟨Tryz.func41, ⟨Tryz.func40, ⟨Tryz.func38, trivial, trivial⟩, trivial⟩, ⟨Tryz.func43, ⟨Tryz.func42, trivial, trivial⟩, trivial⟩⟩⟩, ⟨Tryz.func50, ⟨Tryz.func47, ⟨Tryz.func46, ⟨Tryz.func45, trivial, trivial⟩, trivial⟩, ⟨Tryz.func49, ⟨Tryz.func48, trivial, trivial⟩, trivial⟩⟩, ⟨Tryz.func54, ⟨Tryz.func53, ⟨Tryz.func51, trivial, trivial⟩, trivial⟩, ⟨Tryz.func56, ⟨Tryz.func55, trivial, trivial⟩, trivial⟩⟩⟩⟩⟩, ⟨Tryz.func84, ⟨Tryz.func71, ⟨Tryz.func63, ⟨Tryz.func60, ⟨Tryz.func59, ⟨Tryz.func58, trivial, trivial⟩, trivial⟩, ⟨Tryz.func62, ⟨Tryz.func61, trivial, trivial⟩, trivial⟩⟩, ⟨Tryz.func66, ⟨Tryz.func65, ⟨Tryz.func64, trivial, trivial⟩, trivial⟩, ⟨Tryz.func70, ⟨Tryz.func69, trivial, trivial⟩, trivial⟩⟩⟩, ⟨Tryz.func77, ⟨Tryz.func74, ⟨Tryz.func73, ⟨Tryz.func72, trivial, trivial⟩, trivial⟩, ⟨Tryz.func76, ⟨Tryz.func75, trivial, trivial⟩, trivial⟩⟩, ⟨Tryz.func80, ⟨Tryz.func79, ⟨Tryz.func78, trivial, trivial⟩, trivial⟩, ⟨Tryz.func82, ⟨Tryz.func81, trivial, trivial⟩, trivial⟩⟩⟩⟩, ⟨Tryz.func104, ⟨Tryz.func90, ⟨Tryz.func87, ⟨Tryz.func86, ⟨Tryz.func85, trivial, trivial⟩, trivial⟩, ⟨Tryz.func89, ⟨Tryz.func88, trivial, trivial⟩, trivial⟩⟩, ⟨Tryz.func94, ⟨Tryz.func93, ⟨Tryz.func92, trivial, trivial⟩, trivial⟩, ⟨Tryz.func96, ⟨Tryz.func95, trivial, trivial⟩, trivial⟩⟩⟩, ⟨Tryz.func110, ⟨Tryz.func107, ⟨Tryz.func106, ⟨Tryz.func105, trivial, trivial⟩, trivial⟩, ⟨Tryz.func109, ⟨Tryz.func108, trivial, trivial⟩, trivial⟩⟩, ⟨Tryz.func116, ⟨Tryz.func113, ⟨Tryz.func112, trivial, trivial⟩, trivial⟩, ⟨Tryz.func117, trivial, trivial⟩⟩⟩⟩⟩⟩
theorem sites_in : AllP (SiteIn Tryz.prog) sites :=
  ⟨⟨Tryz.func67, by have h : (Tryz.f67.name == "runtime.NumGoroutine") = false := (by kernel_rfl); simpa using h, by kernel_rfl⟩, ⟨⟨Tryz.func36, by have h : (Tryz.f36.name == "runtime.NumGoroutine") = false := (by kernel_rfl); simpa using h, by kernel_rfl⟩, ⟨⟨Tryz.func35, by have h : (Tryz.f35.name == "runtime.NumGoroutine") = false := (by kernel_rfl); simpa using h, by kernel_rfl⟩, ⟨⟨Tryz.func34, by have h : (Tryz.f34.name == "runtime.NumGoroutine") = false := (by kernel_rfl); simpa using h, by kernel_rfl⟩, ⟨⟨Tryz.func31, by have h : (Tryz.f31.name == "runtime.NumGoroutine") = false := (by kernel_rfl); simpa using h, by kernel_rfl⟩, trivial, trivial⟩, trivial⟩, ⟨⟨Tryz.func36, by have h : (Tryz.f36.name == "runtime.NumGoroutine") = false := (by kernel_rfl); simpa using h, by kernel_rfl⟩, trivial, trivial⟩⟩, ⟨⟨Tryz.func39, by have h : (Tryz.f39.name == "runtime.NumGoroutine") = false := (by kernel_rfl); simpa using h, by kernel_rfl⟩, ⟨⟨Tryz.func37, by have h : (Tryz.f37.name == "runtime.NumGoroutine") = false := (by kernel_rfl); simpa using h, by kernel_rfl⟩, trivial, trivial⟩, ⟨⟨Tryz.func31, by have h : (Tryz.f31.name == "runtime.NumGoroutine") = false := (by kernel_rfl); simpa using h, by kernel_rfl⟩, trivial, trivial⟩⟩⟩, ⟨⟨Tryz.func83, by have h : (Tryz.f83.name == "runtime.NumGoroutine") = false := (by kernel_rfl); simpa using h, by kernel_rfl⟩, ⟨⟨Tryz.func68, by have h : (Tryz.f68.name == "runtime.NumGoroutine") = false := (by kernel_rfl); simpa using h, by kernel_rfl⟩, ⟨⟨Tryz.func91, by have h : (Tryz.f91.name == "runtime.NumGoroutine") = false := (by kernel_rfl); simpa using h, by kernel_rfl⟩, trivial, trivial⟩, ⟨⟨Tryz.func91, by have h : (Tryz.f91.name == "runtime.NumGoroutine") = false := (by kernel_rfl); simpa using h, by kernel_rfl⟩, trivial, trivial⟩⟩, ⟨⟨Tryz.func83, by have h : (Tryz.f83.name == "runtime.NumGoroutine") = false := (by kernel_rfl); simpa using h, by kernel_rfl⟩, ⟨⟨Tryz.func83, by have h : (Tryz.f83.name == "runtime.NumGoroutine") = false := (by kernel_rfl); simpa using h, by kernel_rfl⟩, trivial, trivial⟩, ⟨⟨Tryz.func83, by have h : (Tryz.f83.name == "runtime.NumGoroutine") = false := (by kernel_rfl); simpa using h, by kernel_rfl⟩, trivial, trivial⟩⟩⟩⟩
theorem sites_loops : ∀ q s, sites.look q = some s → LoopsAre s.c := fun q s h => AllP.look (Q := fun _ s => LoopsAre s.c) (show AllP (fun _ s => LoopsAre s.c) sites from ⟨⟨(loopsOf 0 (cd Tryz.f67)).map (fun q => q.1), by kernel_rfl, by kernel_rfl⟩, ⟨⟨(loopsOf 0 (cd Tryz.f36)).map (fun q => q.1), by kernel_rfl, by kernel_rfl⟩, ⟨⟨(loopsOf 0 (cd Tryz.f35)).map (fun q => q.1), by kernel_rfl, by kernel_rfl⟩, ⟨⟨(loopsOf 0 (cd Tryz.f34)).map (fun q => q.1), by kernel_rfl, by kernel_rfl⟩, ⟨⟨(loopsOf 0 (cd Tryz.f31)).map (fun q => q.1), by kernel_rfl, by kernel_rfl⟩, trivial, trivial⟩, trivial⟩, ⟨⟨(loopsOf 0 (cd Tryz.f36)).map (fun q => q.1), by kernel_rfl, by kernel_rfl⟩, trivial, trivial⟩⟩, ⟨⟨(loopsOf 0 (cd Tryz.f39)).map (fun q => q.1), by kernel_rfl, by kernel_rfl⟩, ⟨⟨(loopsOf 0 (cd Tryz.f37)).map (fun q => q.1), by kernel_rfl, by kernel_rfl⟩, trivial, trivial⟩, ⟨⟨(loopsOf 0 (cd Tryz.f31)).map (fun q => q.1), by kernel_rfl, by kernel_rfl⟩, trivial, trivial⟩⟩⟩, ⟨⟨(loopsOf 0 (cd Tryz.f83)).map (fun q => q.1), by kernel_rfl, by kernel_rfl⟩, ⟨⟨(loopsOf 0 (cd Tryz.f68)).map (fun q => q.1), by kernel_rfl, by kernel_rfl⟩, ⟨⟨(loopsOf 0 (cd Tryz.f91)).map (fun q => q.1), by kernel_rfl, by kernel_rfl⟩, trivial, trivial⟩, ⟨⟨(loopsOf 0 (cd Tryz.f91)).map (fun q => q.1), by kernel_rfl, by kernel_rfl⟩, trivial, trivial⟩⟩, ⟨⟨(loopsOf 0 (cd Tryz.f83)).map (fun q => q.1), by kernel_rfl, by kernel_rfl⟩, ⟨⟨(loopsOf 0 (cd Tryz.f83)).map (fun q => q.1), by kernel_rfl, by kernel_rfl⟩, trivial, trivial⟩, ⟨⟨(loopsOf 0 (cd Tryz.f83)).map (fun q => q.1), by kernel_rfl, by kernel_rfl⟩, trivial, trivial⟩⟩⟩⟩) h
theorem fns_ok (k N n : Nat) : ∀ m s, E.sg.look m = some s → psOk s.ps = true → FnOk Tryz.prog (lvE E k sites N) (ctxN (lvE E k sites N) bodies (fun _ => none) k n) m s := plain_ok env_sound mixed bodies_ok sigs_ok sigs_in bodies_in sites_ok sites_in N n
end Go.Eng.V
