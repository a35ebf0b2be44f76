/- Part of the proof. -/
import Derived.Test.YtpipdilhgmolhadGreatEngE
import Derived.Test.YtpipdilhgmolhadGreatProg
import Derived.KernelRfl

namespace Go.Eng.I
open Go.Proofs
noncomputable def y0 : List LT := [(.int .i64), (.int .i64), (.int .i64), (.int .i64), (.int .i64), (.sl false 3 [(.int .i64)]), (.sl false 3 [(.int .i64)])]
noncomputable def y1 : List LT := [(.int .i64), (.int .i64)]
noncomputable def y2 : List LT := [.str, .bool, (.sl false 3 [(.int .i64)]), (.int .i64), (.sl false 28 [(.sl false 25 y0)])]
noncomputable def y3 : List LT := [(.sl true 3 [(.int .i64)])]
noncomputable def y4 : List LT := [(.sl false 23 [(.sl false 3 [(.int .i64)])]), (.sl true 3 [(.int .i64)]), (.sl true 3 [(.int .i64)]), (.sl true 4 [.bool]), (.sl true 3 [(.int .i64)]), (.int .i64), (.sl true 3 [(.int .i64)]), (.int .i64)]
noncomputable def y5 : List LT := [(.sl true 3 [(.int .i64)]), (.sl true 108 [(.sl true 107 y1)]), (.sl true 114 y1), (.sl true 25 y0)]
noncomputable def y6 : List LT := [(.sl true 31 [.str, (.sl true 3 [(.int .i64)]), (.int .i64)]), (.sl true 35 [.str, (.sl true 2 [(.int .i64)])]), (.sl true 68 [.str, (.sl true 3 [(.int .i64)])]), (.sl true 38 [.str, .bool, (.sl true 3 [(.int .i64)]), (.int .i64), (.sl true 28 [(.sl true 25 y0)])])]
noncomputable def y7 : List LT := [.str, (.sl false 3 [(.int .i64)]), (.int .i64)]
noncomputable def y8 : List LT := [(.sl true 3 [(.int .i64)]), (.sl true 3 [(.int .i64)]), (.sl true 3 [(.int .i64)]), (.sl true 3 [(.int .i64)]), .bool]
noncomputable def y9 : List LT := [(.sl false 3 [(.int .i64)]), (.sl false 108 [(.sl false 107 y1)]), (.sl false 114 y1), (.sl false 25 y0)]
noncomputable def y10 : List LT := [(.sl false 3 [(.int .i64)])]
noncomputable def y11 : List LT := [.str, (.sl false 2 [(.int .i64)])]
noncomputable def y12 : List LT := [.str, (.sl false 3 [(.int .i64)])]
noncomputable def y13 : List LT := [.str, .bool, (.sl false 3 [(.int .i64)]), (.int .i64), (.sl false 28 [(.sl false 25 y0)]), (.sl true 3 [(.int .i64)]), (.sl true 3 [(.int .i64)]), .bool]
noncomputable def y14 : List LT := [(.sl false 3 [(.int .i64)]), (.sl false 3 [(.int .i64)]), (.sl false 3 [(.int .i64)]), (.sl false 3 [(.int .i64)]), .bool]
noncomputable def y15 : List LT := [(.int .i64), (.int .i64), (.int .i64), (.int .i64), (.int .i64), (.sl true 3 [(.int .i64)]), (.sl true 3 [(.int .i64)])]
noncomputable def y16 : List LT := [.str, .bool, (.sl true 3 [(.int .i64)]), (.int .i64), (.sl true 28 [(.sl true 25 y0)])]
noncomputable def y17 : List LT := [(.sl false 31 y7), (.sl false 35 y11), (.sl false 68 y12), (.sl false 38 y2)]
noncomputable def y18 : List LT := [(.sl true 53 [(.sl true 4 [.bool])])]
noncomputable def types : BT TI := (.node 64 { agg := false, lv := [(.sl false 73 y9)], fs := [], e := 73, bytes := 24, sl := true, ek := 4 }
 (.node 31 { agg := true, lv := y7, fs := [(0, 9), (1, 23), (2, 3)], e := 0, bytes := 48 }
 (.node 9 { agg := false, lv := [.str], fs := [], e := 0, bytes := 16 }
 (.node 5 { agg := false, lv := [(.int .u8)], fs := [], e := 0, bytes := 1 }
 (.node 3 { agg := false, lv := [(.int .i64)], fs := [], e := 0, bytes := 8 }
 (.node 2 { agg := false, lv := [(.int .i64)], fs := [], e := 0, bytes := 8 }
 .nil .nil) (.node 4 { agg := false, lv := [.bool], fs := [], e := 0, bytes := 1 }
 .nil .nil)) (.node 7 { agg := true, lv := [(.int .i64), (.int .i64), .bool, (.int .u8)], fs := [(0, 2), (1, 3), (2, 4), (3, 6)], e := 0, bytes := 24 }
 (.node 6 { agg := false, lv := [(.int .u8)], fs := [], e := 0, bytes := 1 }
 .nil .nil) .nil)) (.node 26 { agg := false, lv := [(.sl false 25 y0)], fs := [], e := 25, bytes := 24, sl := true, ek := 7 }
 (.node 25 { agg := true, lv := y0, fs := [(0, 3), (1, 3), (2, 3), (3, 3), (4, 2), (5, 23), (6, 23)], e := 0, bytes := 88 }
 (.node 23 { agg := false, lv := y10, fs := [], e := 3, bytes := 24, sl := true, ek := 1 }
 .nil .nil) .nil) (.node 29 { agg := false, lv := [(.sl false 28 [(.sl false 25 y0)])], fs := [], e := 28, bytes := 24, sl := true, ek := 1 }
 (.node 28 { agg := true, lv := [(.sl false 25 y0)], fs := [(0, 26)], e := 0, bytes := 24 }
 .nil .nil) .nil))) (.node 39 { agg := false, lv := [(.sl false 38 y2)], fs := [], e := 38, bytes := 24, sl := true, ek := 5 }
 (.node 35 { agg := true, lv := y11, fs := [(0, 9), (1, 33)], e := 0, bytes := 40 }
 (.node 33 { agg := false, lv := [(.sl false 2 [(.int .i64)])], fs := [], e := 2, bytes := 24, sl := true, ek := 1 }
 (.node 32 { agg := false, lv := [(.sl false 31 y7)], fs := [], e := 31, bytes := 24, sl := true, ek := 3 }
 .nil .nil) .nil) (.node 38 { agg := true, lv := y2, fs := [(0, 9), (1, 4), (2, 23), (3, 3), (4, 29)], e := 0, bytes := 80 }
 (.node 36 { agg := false, lv := [(.sl false 35 y11)], fs := [], e := 35, bytes := 24, sl := true, ek := 2 }
 .nil .nil) .nil)) (.node 43 { agg := false, lv := [(.int .i64)], fs := [], e := 0, bytes := 8 }
 (.node 42 { agg := true, lv := y17, fs := [(0, 32), (1, 36), (2, 40), (3, 39)], e := 0, bytes := 96 }
 (.node 40 { agg := false, lv := [(.sl false 68 y12)], fs := [], e := 68, bytes := 24, sl := true, ek := 2 }
 .nil .nil) .nil) (.node 57 { agg := false, lv := [(.sl false 53 [(.sl false 4 [.bool])])], fs := [], e := 53, bytes := 24, sl := true, ek := 1 }
 (.node 53 { agg := false, lv := [(.sl false 4 [.bool])], fs := [], e := 4, bytes := 24, sl := true, ek := 1 }
 .nil .nil) .nil)))) (.node 107 { agg := true, lv := y1, fs := [(0, 3), (1, 3)], e := 0, bytes := 16 }
 (.node 75 { agg := false, lv := [(.sl false 78 y14)], fs := [], e := 78, bytes := 24, sl := true, ek := 5 }
 (.node 70 { agg := false, lv := [(.sl false 108 [(.sl false 107 y1)])], fs := [], e := 108, bytes := 24, sl := true, ek := 1 }
 (.node 68 { agg := true, lv := y12, fs := [(0, 9), (1, 23)], e := 0, bytes := 40 }
 (.node 66 { agg := true, lv := [(.sl false 31 y7), (.sl false 35 y11), (.sl false 68 y12), (.sl false 38 y2), (.sl false 4 [.bool]), (.sl false 73 y9)], fs := [(0, 42), (4, 53), (5, 64)], e := 0, bytes := 144 }
 .nil .nil) .nil) (.node 73 { agg := true, lv := y9, fs := [(0, 23), (1, 70), (2, 71), (3, 26)], e := 0, bytes := 96 }
 (.node 71 { agg := false, lv := [(.sl false 114 y1)], fs := [], e := 114, bytes := 24, sl := true, ek := 2 }
 .nil .nil) .nil)) (.node 95 { agg := false, lv := [(.sl false 98 y1)], fs := [], e := 98, bytes := 24, sl := true, ek := 2 }
 (.node 92 { agg := false, lv := [(.sl false 23 y10)], fs := [], e := 23, bytes := 24, sl := true, ek := 1 }
 (.node 78 { agg := true, lv := y14, fs := [(0, 23), (1, 23), (2, 23), (3, 23), (4, 4)], e := 0, bytes := 104 }
 .nil .nil) .nil) (.node 100 { agg := false, lv := [(.sl false 9 [.str])], fs := [], e := 9, bytes := 24, sl := true, ek := 1 }
 (.node 98 { agg := true, lv := y1, fs := [(0, 3), (1, 3)], e := 0, bytes := 16, arr := true }
 .nil .nil) .nil))) (.node 163 { agg := false, lv := [(.int .u32)], fs := [], e := 0, bytes := 4 }
 (.node 135 { agg := true, lv := [.str, .bool, (.sl false 3 [(.int .i64)]), (.int .i64), (.sl false 28 [(.sl false 25 y0)]), (.sl false 3 [(.int .i64)]), (.sl false 3 [(.int .i64)]), .bool], fs := [(0, 38), (5, 23), (6, 23), (7, 4)], e := 0, bytes := 136 }
 (.node 114 { agg := true, lv := y1, fs := [(0, 3), (1, 2)], e := 0, bytes := 16 }
 (.node 108 { agg := false, lv := [(.sl false 107 y1)], fs := [], e := 107, bytes := 24, sl := true, ek := 2 }
 .nil .nil) .nil) (.node 156 { agg := false, lv := [(.int .i64)], fs := [], e := 0, bytes := 8 }
 (.node 142 { agg := false, lv := [(.int .u64)], fs := [], e := 0, bytes := 8 }
 .nil .nil) .nil)) (.node 172 { agg := false, lv := [(.int .u64)], fs := [], e := 0, bytes := 8 }
 (.node 169 { agg := true, lv := [(.sl false 23 y10), (.sl false 3 [(.int .i64)]), (.sl false 3 [(.int .i64)]), (.sl false 4 [.bool]), (.sl false 3 [(.int .i64)]), (.int .i64), (.sl false 3 [(.int .i64)]), (.int .i64)], fs := [(0, 92), (1, 23), (2, 23), (3, 53), (4, 23), (5, 3), (6, 23), (7, 3)], e := 0, bytes := 160 }
 (.node 165 { agg := false, lv := [(.int .u64)], fs := [], e := 0, bytes := 8 }
 .nil .nil) .nil) (.node 181 { agg := false, lv := [(.sl false 180 y1)], fs := [], e := 180, bytes := 24, sl := true, ek := 2 }
 (.node 180 { agg := true, lv := y1, fs := [(0, 3), (1, 3)], e := 0, bytes := 16 }
 .nil .nil) .nil)))))
noncomputable def ptrs : BT TypeId := (.node 146 23
 (.node 84 25
 (.node 56 38
 (.node 51 66
 .nil .nil) .nil) (.node 132 135
 (.node 105 73
 .nil .nil) .nil)) (.node 182 180
 (.node 176 3
 (.node 167 169
 .nil .nil) .nil) (.node 183 172
 .nil .nil)))
noncomputable def eqts : List Nat := [107]
noncomputable def maps : BT MI := (.node 88 { key := 9, el := 3, kk := .str, ek := (.int .i64) }
 (.node 83 { key := 3, el := 3, kk := (.int .i64), ek := (.int .i64) }
 .nil .nil) .nil)
noncomputable def sigs : BT Sig := (.node 70 { fn := 70, ps := [(105, .io y5), (3, .ro)], rs := [.val true y1] }
 (.node 36 { fn := 36, ps := [(51, .rp)], rs := [.val false [(.sl true 4 [.bool])]] }
 (.node 20 { fn := 20, ps := [(38, .ro)], rs := [.val false [.bool]] }
 (.node 11 { fn := 11, ps := [(42, .ro)], rs := [.ptr [(.sl false 31 y7), (.sl false 35 y11), (.sl false 68 y12), (.sl false 38 y2), (.sl true 4 [.bool]), (.sl true 73 y5)]] }
 (.node 7 { fn := 7, ps := [(42, .ro), (3, .ro)], rs := [.val false [(.int .i64)]] }
 (.node 5 { fn := 5, ps := [(42, .ro)], rs := [.val true y6, .val false [(.int .i64)]] }
 (.node 4 { fn := 4, ps := [], rs := [.val false [.bool]] }
 (.node 3 { fn := 3, ps := [(3, .ro), (3, .ro)], rs := [.val false [.bool]] }
 .nil .nil) .nil) (.node 6 { fn := 6, ps := [(42, .ro)], rs := [.val false [(.int .i64)]] }
 .nil .nil)) (.node 9 { fn := 9, ps := [(42, .ro)], rs := [.val false [(.int .i64)]] }
 (.node 8 { fn := 8, ps := [], rs := [.val true y17] }
 .nil .nil) (.node 10 { fn := 10, ps := [(42, .ro)], rs := [.val false [(.int .i64)]] }
 .nil .nil))) (.node 16 { fn := 16, ps := [(42, .ro)], rs := [.val false [.bool]] }
 (.node 13 { fn := 13, ps := [(42, .ro)], rs := [.val true y6] }
 (.node 12 { fn := 12, ps := [(51, .rp)], rs := [.val false [(.sl true 4 [.bool])]] }
 .nil .nil) (.node 14 { fn := 14, ps := [(51, .rp), (3, .ro), (53, .ro)], rs := [.val false y18] }
 .nil .nil)) (.node 18 { fn := 18, ps := [(42, .ro)], rs := [.val false [.bool]] }
 (.node 17 { fn := 17, ps := [(42, .ro)], rs := [.val false [.bool]] }
 .nil .nil) (.node 19 { fn := 19, ps := [(42, .ro)], rs := [.val false [.bool]] }
 .nil .nil)))) (.node 28 { fn := 28, ps := [(38, .ro)], rs := [.val false [.bool]] }
 (.node 24 { fn := 24, ps := [(42, .ro)], rs := [.val false [.bool]] }
 (.node 22 { fn := 22, ps := [(42, .ro), (38, .ro)], rs := [.val false [.bool]] }
 (.node 21 { fn := 21, ps := [(38, .ro)], rs := [.val false [.bool]] }
 .nil .nil) (.node 23 { fn := 23, ps := [(38, .ro)], rs := [.val false [(.int .i64)]] }
 .nil .nil)) (.node 26 { fn := 26, ps := [(42, .ro)], rs := [.val false [.bool]] }
 (.node 25 { fn := 25, ps := [(42, .ro)], rs := [.val false [.bool]] }
 .nil .nil) (.node 27 { fn := 27, ps := [(42, .ro)], rs := [.val false [.bool]] }
 .nil .nil))) (.node 32 { fn := 32, ps := [(105, .io y5), (38, .ro)], rs := [] }
 (.node 30 { fn := 30, ps := [(42, .ro), (38, .ro)], rs := [.val false [.bool]] }
 (.node 29 { fn := 29, ps := [(38, .ro)], rs := [.val false [.bool]] }
 .nil .nil) (.node 31 { fn := 31, ps := [(38, .ro)], rs := [.val false y3] }
 .nil .nil)) (.node 34 { fn := 34, ps := [(51, .rp)], rs := [.val false [(.sl true 78 y8)]] }
 (.node 33 { fn := 33, ps := [(105, .io y5)], rs := [] }
 .nil .nil) (.node 35 { fn := 35, ps := [(51, .rp)], rs := [.val false [(.sl false 4 [.bool])]] }
 .nil .nil))))) (.node 54 { fn := 54, ps := [(3, .ro)], rs := [.val false [.bool]] }
 (.node 46 { fn := 46, ps := [(38, .ro)], rs := [.val false [(.sl true 4 [.bool])]] }
 (.node 41 { fn := 41, ps := [(51, .rp), (3, .ro), (25, .ro), (53, .ro), (53, .ro)], rs := [.val false [.bool]] }
 (.node 39 { fn := 39, ps := [(38, .ro)], rs := [.val true y16] }
 (.node 38 { fn := 38, ps := [(33, .ro)], rs := [.val false [(.sl true 2 [(.int .i64)])]] }
 (.node 37 { fn := 37, ps := [(23, .ro)], rs := [.val false y3] }
 .nil .nil) .nil) (.node 40 { fn := 40, ps := [(51, .rp), (3, .ro)], rs := [.val false [(.sl false 4 [.bool])]] }
 .nil .nil)) (.node 43 { fn := 43, ps := [(25, .ro)], rs := [.val false [.bool]] }
 (.node 42 { fn := 42, ps := [(84, .io y0)], rs := [] }
 .nil .nil) (.node 45 { fn := 45, ps := [(3, .ro)], rs := [.val false [.bool]] }
 .nil .nil))) (.node 50 { fn := 50, ps := [(38, .ro)], rs := [.val false y18] }
 (.node 48 { fn := 48, ps := [(23, .ro), (23, .ro)], rs := [.val false [.bool]] }
 (.node 47 { fn := 47, ps := [(38, .ro)], rs := [.val false [(.sl true 23 y3)]] }
 .nil .nil) (.node 49 { fn := 49, ps := [(38, .ro)], rs := [.val false [(.sl true 98 y1)]] }
 .nil .nil)) (.node 52 { fn := 52, ps := [(42, .ro), (38, .ro), (25, .ro), (23, .ro)], rs := [.val false [.bool]] }
 (.node 51 { fn := 51, ps := [(38, .ro)], rs := [.val false y3] }
 .nil .nil) (.node 53 { fn := 53, ps := [(38, .ro)], rs := [.val false [(.int .i64)]] }
 .nil .nil)))) (.node 62 { fn := 62, ps := [(38, .ro)], rs := [.val false y3] }
 (.node 58 { fn := 58, ps := [(53, .ro), (4, .ro)], rs := [.val false [.bool]] }
 (.node 56 { fn := 56, ps := [(9, .ro)], rs := [.val false [.bool]] }
 (.node 55 { fn := 55, ps := [(25, .ro)], rs := [.val false [.bool]] }
 .nil .nil) (.node 57 { fn := 57, ps := [(3, .ro)], rs := [.val false [.bool]] }
 .nil .nil)) (.node 60 { fn := 60, ps := [(38, .ro)], rs := [.val false [(.sl true 23 y3)]] }
 (.node 59 { fn := 59, ps := [(38, .ro)], rs := [.val false [(.sl true 4 [.bool])]] }
 .nil .nil) (.node 61 { fn := 61, ps := [(23, .ro), (23, .ro)], rs := [.val false [.bool]] }
 .nil .nil))) (.node 66 { fn := 66, ps := [(108, .ro)], rs := [.val false [(.sl true 107 y1)]] }
 (.node 64 { fn := 64, ps := [(42, .ro), (38, .ro), (23, .ro), (25, .ro)], rs := [.val false [.bool]] }
 (.node 63 { fn := 63, ps := [(38, .ro), (3, .ro)], rs := [.val false [(.int .i64)]] }
 .nil .nil) (.node 65 { fn := 65, ps := [(70, .ro)], rs := [.val false [(.sl true 107 y1)]] }
 .nil .nil)) (.node 68 { fn := 68, ps := [(107, .ro), (107, .ro)], rs := [.val false [(.int .i64)]] }
 (.node 67 { fn := 67, ps := [(108, .ro), (112, .fnv 68)], rs := [] }
 .nil .nil) (.node 69 { fn := 69, ps := [(108, .mv)], rs := [.val false [(.sl true 107 y1)]] }
 .nil .nil)))))) (.node 110 { fn := 110, ps := [(38, .ro), (3, .ro)], rs := [.val true y0, .val false [.bool]] }
 (.node 90 { fn := 90, ps := [(3, .ro)], rs := [.val false [(.int .i64)], .val false [(.int .i64)], .val false [.bool], .val false [.bool]] }
 (.node 81 { fn := 81, ps := [(25, .ro)], rs := [.val true y0] }
 (.node 77 { fn := 77, ps := [(51, .rp)], rs := [.val false [(.sl false 23 y10)]] }
 (.node 75 { fn := 75, ps := [(51, .rp), (3, .ro), (25, .ro)], rs := [.val false [.bool]] }
 (.node 72 { fn := 72, ps := [(78, .ro)], rs := [.val false [(.int .i64)]] }
 (.node 71 { fn := 71, ps := [(51, .rp), (3, .ro), (75, .ro)], rs := [.val true y8] }
 .nil .nil) .nil) (.node 76 { fn := 76, ps := [(51, .rp), (3, .ro), (25, .ro)], rs := [.val false y3] }
 .nil .nil)) (.node 79 { fn := 79, ps := [(38, .ro)], rs := [.val false [.bool]] }
 (.node 78 { fn := 78, ps := [(92, .ro)], rs := [.val false y3] }
 .nil .nil) (.node 80 { fn := 80, ps := [(92, .ro), (3, .ro)], rs := [.val false [.bool]] }
 .nil .nil))) (.node 86 { fn := 86, ps := [(9, .ro)], rs := [.val false [.bool]] }
 (.node 84 { fn := 84, ps := [(51, .rp), (3, .ro), (25, .ro)], rs := [.val false [.bool]] }
 (.node 82 { fn := 82, ps := [(51, .rp), (3, .ro)], rs := [.val false [(.sl false 4 [.bool])]] }
 .nil .nil) (.node 85 { fn := 85, ps := [(3, .ro)], rs := [.val false [(.int .i64)], .val false [(.int .i64)], .val false [.bool], .val false [.bool]] }
 .nil .nil)) (.node 88 { fn := 88, ps := [(38, .ro), (3, .ro)], rs := [.val false y3] }
 (.node 87 { fn := 87, ps := [(38, .ro), (3, .ro), (3, .ro)], rs := [.val false [(.sl true 4 [.bool])]] }
 .nil .nil) (.node 89 { fn := 89, ps := [(38, .ro)], rs := [.val false [(.int .i64)]] }
 .nil .nil)))) (.node 98 { fn := 98, ps := [(108, .ro), (3, .ro)], rs := [.val false [(.sl false 107 y1)]] }
 (.node 94 { fn := 94, ps := [(57, .ro)], rs := [.val false y3] }
 (.node 92 { fn := 92, ps := [(38, .ro)], rs := [.ptr y13] }
 (.node 91 { fn := 91, ps := [(53, .ro), (4, .ro)], rs := [.val false [(.int .i64)]] }
 .nil .nil) (.node 93 { fn := 93, ps := [(38, .ro), (3, .ro)], rs := [.val false y3] }
 .nil .nil)) (.node 96 { fn := 96, ps := [(23, .ro), (23, .ro), (3, .ro)], rs := [.val false [.bool]] }
 (.node 95 { fn := 95, ps := [(38, .ro)], rs := [.val false y18] }
 .nil .nil) (.node 97 { fn := 97, ps := [(23, .ro), (23, .ro), (23, .ro)], rs := [.val false [.bool]] }
 .nil .nil))) (.node 104 { fn := 104, ps := [(23, .mv)], rs := [.val false y3] }
 (.node 100 { fn := 100, ps := [(142, .ro)], rs := [.val false [(.int .i64)]] }
 (.node 99 { fn := 99, ps := [(108, .ro), (3, .ro), (3, .ro), (3, .ro), (112, .fnv 68)], rs := [] }
 .nil .nil) (.node 101 { fn := 101, ps := [(105, .rp), (3, .ro)], rs := [.val false [(.int .i64)], .val false [.bool]] }
 .nil .nil)) (.node 106 { fn := 106, ps := [(51, .rp), (3, .ro), (25, .ro), (38, .ro)], rs := [.val false [.bool]] }
 (.node 105 { fn := 105, ps := [(51, .rp), (3, .ro), (2, .ro)], rs := [.val false [(.int .i64)]] }
 .nil .nil) (.node 108 { fn := 108, ps := [(92, .ro)], rs := [.val false [(.sl false 23 y10)]] }
 .nil .nil))))) (.node 136 { fn := 136, ps := [(167, .io y4), (3, .ro)], rs := [] }
 (.node 125 { fn := 125, ps := [(23, .ro)], rs := [] }
 (.node 114 { fn := 114, ps := [(92, .ro), (3, .ro)], rs := [.val false [(.sl true 4 [.bool])]] }
 (.node 112 { fn := 112, ps := [(132, .io y13), (3, .ro)], rs := [] }
 (.node 111 { fn := 111, ps := [(23, .ro), (3, .ro)], rs := [.val false [.bool]] }
 .nil .nil) (.node 113 { fn := 113, ps := [(23, .ro), (3, .ro)], rs := [.val false [.bool]] }
 .nil .nil)) (.node 123 { fn := 123, ps := [(163, .ro)], rs := [.val false [(.int .i64)]] }
 (.node 115 { fn := 115, ps := [(108, .ro), (3, .ro), (3, .ro), (112, .fnv 68)], rs := [] }
 .nil .nil) (.node 124 { fn := 124, ps := [(165, .ro)], rs := [.val false [(.int .i64)]] }
 .nil .nil))) (.node 129 { fn := 129, ps := [(23, .ro), (3, .ro)], rs := [.val false [(.int .i64)]] }
 (.node 127 { fn := 127, ps := [(167, .io y4), (3, .ro)], rs := [] }
 (.node 126 { fn := 126, ps := [(23, .mv)], rs := [.val false y3] }
 .nil .nil) (.node 128 { fn := 128, ps := [(167, .rp), (23, .ro), (53, .ro)], rs := [.val false [.bool]] }
 .nil .nil)) (.node 132 { fn := 132, ps := [(183, .io [(.int .u64)])], rs := [.val false [(.int .u64)]] }
 (.node 131 { fn := 131, ps := [(3, .ro)], rs := [.val false [(.int .u64)]] }
 .nil .nil) (.node 135 { fn := 135, ps := [(23, .ro), (3, .ro), (3, .ro), (3, .ro)], rs := [] }
 .nil .nil)))) (.node 145 { fn := 145, ps := [(3, .ro), (3, .ro)], rs := [.val false [.bool]] }
 (.node 141 { fn := 141, ps := [(23, .ro), (3, .ro), (3, .ro)], rs := [] }
 (.node 139 { fn := 139, ps := [(23, .ro), (3, .ro), (3, .ro)], rs := [] }
 (.node 137 { fn := 137, ps := [(167, .io y4), (3, .ro)], rs := [] }
 .nil .nil) (.node 140 { fn := 140, ps := [(23, .ro), (3, .ro), (3, .ro)], rs := [] }
 .nil .nil)) (.node 143 { fn := 143, ps := [(23, .ro), (3, .ro), (3, .ro)], rs := [] }
 (.node 142 { fn := 142, ps := [(23, .ro), (3, .ro), (3, .ro)], rs := [.val false [(.int .i64)], .val false [(.int .i64)]] }
 .nil .nil) (.node 144 { fn := 144, ps := [(23, .ro), (3, .ro), (3, .ro)], rs := [.val false [.bool]] }
 .nil .nil))) (.node 149 { fn := 149, ps := [(23, .ro), (3, .ro), (176, .io [(.int .i64)])], rs := [.val false [(.int .i64)]] }
 (.node 147 { fn := 147, ps := [(23, .ro), (3, .ro), (3, .ro), (3, .ro)], rs := [.val false [(.int .i64)], .val false [.bool]] }
 (.node 146 { fn := 146, ps := [(23, .ro), (3, .ro), (3, .ro), (3, .ro)], rs := [.val false [(.int .i64)]] }
 .nil .nil) (.node 148 { fn := 148, ps := [(23, .ro), (3, .ro), (3, .ro), (3, .ro)], rs := [] }
 .nil .nil)) (.node 151 { fn := 151, ps := [(3, .ro)], rs := [.val false [.bool]] }
 (.node 150 { fn := 150, ps := [(23, .ro), (3, .ro), (3, .ro), (3, .ro), (176, .io [(.int .i64)])], rs := [.val false [(.int .i64)]] }
 .nil .nil) (.node 152 { fn := 152, ps := [(23, .ro), (3, .ro), (3, .ro), (176, .io [(.int .i64)])], rs := [.val false [(.int .i64)], .val false [(.int .i64)]] }
 .nil .nil)))))))
noncomputable def h3 : Hint := { inst := [], el := [(34, y0), (38, [(.sl true 25 y0)])], arr := [38, 34], fzl := [105, 102, 100, 97, 96, 94, 93, 90, 86, 84, 75, 73, 71, 69, 66, 64, 62, 60, 56, 54, 52, 50, 48, 47, 45, 43, 41, 29, 26, 24, 22], pfx := [], snap := [], heads := [(1, { keep := [0, 1, 6, 7, 8], conv := [(7, .own 25 y0)], bconv := [] })], ends := [(1, { keep := [0, 1, 4, 6, 7], conv := [], bconv := [] })], ord := [], mids := [(8, { keep := [0, 1, 6], conv := [(6, .fzA 28 [(.sl false 25 y0)])], bconv := [] }), (20, { keep := [0, 1, 6, 7], conv := [(7, .fzA 25 y0)], bconv := [] })] }
noncomputable def h4 : Hint := { inst := [], el := [], arr := [], fzl := [], pfx := [], snap := [], heads := [], ends := [], ord := [] }
noncomputable def h5 : Hint := { inst := [], el := [], arr := [], fzl := [], pfx := [], snap := [], heads := [(0, { keep := [2, 5, 6, 7, 29, 30], conv := [], bconv := [] }), (2, { keep := [2, 5, 6, 7, 9, 29, 30, 40, 41, 42], conv := [], bconv := [] }), (4, { keep := [2, 5, 6, 7, 9, 10, 12, 29, 30, 40, 41, 42, 47, 48, 49], conv := [(12, .own 25 y0)], bconv := [] })], ends := [(0, { keep := [2, 3, 7], conv := [], bconv := [] }), (2, { keep := [2, 3, 5, 6, 7, 9, 29, 30], conv := [], bconv := [] }), (4, { keep := [2, 3, 5, 6, 7, 9, 10, 12, 29, 30, 40, 41, 42], conv := [], bconv := [] })], ord := [], inl := [(83, { site := 0, base := 2000, live := [2, 5, 6, 7, 29, 30, 79], old := [] })], nn := [22] }
noncomputable def h6 : Hint := { inst := [], el := [], arr := [], fzl := [], pfx := [], snap := [], heads := [(0, { keep := [1, 3], conv := [], bconv := [] }), (2, { keep := [1, 4], conv := [], bconv := [] }), (4, { keep := [1, 5], conv := [], bconv := [] })], ends := [(0, { keep := [1, 2], conv := [], bconv := [] }), (2, { keep := [1, 2], conv := [], bconv := [] }), (4, { keep := [2], conv := [], bconv := [] })], ord := [] }
noncomputable def h7 : Hint := { inst := [], el := [], arr := [], fzl := [], pfx := [], snap := [], heads := [(0, { keep := [1, 2, 5, 6], conv := [], bconv := [] }), (2, { keep := [1, 2, 5, 6, 7], conv := [], bconv := [] }), (4, { keep := [1, 2, 5, 6, 7, 8], conv := [], bconv := [] })], ends := [(0, { keep := [4, 5], conv := [], bconv := [] }), (2, { keep := [1, 2, 4, 5, 6], conv := [], bconv := [] }), (4, { keep := [1, 2, 4, 5, 6, 7], conv := [], bconv := [] })], ord := [] }
noncomputable def h8 : Hint := { inst := [], el := [], arr := [], fzl := [11, 9, 7, 4, 2, 1], pfx := [], snap := [], heads := [], ends := [], ord := [] }
noncomputable def h9 : Hint := { inst := [], el := [], arr := [], fzl := [], pfx := [], snap := [], heads := [(0, { keep := [1, 3, 4], conv := [], bconv := [] })], ends := [(0, { keep := [2, 3], conv := [], bconv := [] })], ord := [] }
noncomputable def h10 : Hint := { inst := [], el := [], arr := [], fzl := [], pfx := [], snap := [], heads := [(1, { keep := [1, 26, 27, 28], conv := [], bconv := [] }), (3, { keep := [1, 37, 38, 39], conv := [], bconv := [] }), (5, { keep := [1, 48, 49, 50], conv := [], bconv := [] })], ends := [(1, { keep := [1, 2], conv := [], bconv := [] }), (3, { keep := [1, 2], conv := [], bconv := [] }), (5, { keep := [2], conv := [], bconv := [] })], ord := [] }
noncomputable def h11 : Hint := { inst := [], el := [(59, y0)], arr := [], fzl := [], pfx := [], snap := [], heads := [(0, { keep := [1, 3, 23, 24, 25], conv := [], bconv := [] }), (2, { keep := [1, 3, 23, 24, 25, 30, 31, 32], conv := [], bconv := [] }), (4, { keep := [3, 47, 48, 49], conv := [], bconv := [(21, 5, .own 73 y5)] }), (6, { keep := [3, 9, 10, 47, 48, 49, 62, 63, 64], conv := [], bconv := [] }), (8, { keep := [3, 9, 10, 47, 48, 49, 62, 63, 64, 69, 70, 71], conv := [], bconv := [] })], ends := [(0, { keep := [1, 2, 3], conv := [], bconv := [] }), (2, { keep := [1, 2, 3, 23, 24, 25], conv := [], bconv := [] }), (4, { keep := [2, 3], conv := [], bconv := [] }), (6, { keep := [2, 3, 9, 10, 47, 48, 49], conv := [], bconv := [] }), (8, { keep := [2, 3, 9, 10, 47, 48, 49, 62, 63, 64], conv := [], bconv := [] })], ord := [] }
noncomputable def h12 : Hint := { inst := [], el := [], arr := [], fzl := [], pfx := [], snap := [], heads := [(0, { keep := [4, 5, 6, 22, 23, 24], conv := [], bconv := [] })], ends := [(0, { keep := [2, 6], conv := [], bconv := [] })], ord := [] }
noncomputable def h13 : Hint := { inst := [], el := [], arr := [], fzl := [], pfx := [], snap := [], heads := [(0, { keep := [1, 2, 3, 13, 14, 15], conv := [], bconv := [(3, 0, .own 31 [.str, (.sl true 3 [(.int .i64)]), (.int .i64)])] }), (2, { keep := [1, 2, 3, 31, 32, 33], conv := [], bconv := [(3, 1, .own 35 [.str, (.sl true 2 [(.int .i64)])])] }), (4, { keep := [1, 2, 3, 49, 50, 51], conv := [], bconv := [(3, 2, .own 68 [.str, (.sl true 3 [(.int .i64)])])] }), (6, { keep := [2, 3, 67, 68, 69], conv := [], bconv := [(3, 3, .own 38 y16)] })], ends := [(0, { keep := [1, 2, 3], conv := [], bconv := [] }), (2, { keep := [1, 2, 3], conv := [], bconv := [] }), (4, { keep := [1, 2, 3], conv := [], bconv := [] }), (6, { keep := [2, 3], conv := [], bconv := [] })], ord := [] }
noncomputable def h14 : Hint := { inst := [], el := [], arr := [], fzl := [], pfx := [], snap := [], heads := [(0, { keep := [0, 1, 2, 7, 8, 9, 10, 45, 46], conv := [], bconv := [] }), (2, { keep := [0, 1, 2, 7, 8, 9, 10, 12], conv := [], bconv := [] }), (4, { keep := [0, 1, 2, 7, 8, 9, 10, 12, 63, 64, 65], conv := [], bconv := [] }), (6, { keep := [0, 1, 2, 7, 8, 9, 10, 12, 13, 63, 64, 65, 71, 72, 73], conv := [], bconv := [] }), (8, { keep := [0, 1, 2, 7, 8, 9, 10, 12, 13, 63, 64, 65, 71, 72, 73, 114, 115, 116], conv := [], bconv := [] })], ends := [(0, { keep := [0, 1, 2, 6, 7, 8, 9, 10], conv := [], bconv := [] }), (2, { keep := [6, 10], conv := [], bconv := [] }), (4, { keep := [0, 1, 2, 6, 7, 8, 9, 10, 12], conv := [], bconv := [] }), (6, { keep := [0, 1, 2, 6, 7, 8, 9, 10, 12, 63, 64, 65], conv := [], bconv := [] }), (8, { keep := [0, 1, 2, 6, 7, 8, 9, 10, 12, 13, 63, 64, 65, 71, 72, 73], conv := [], bconv := [] })], ord := [] }
noncomputable def h16 : Hint := { inst := [], el := [], arr := [], fzl := [], pfx := [], snap := [], heads := [(0, { keep := [1, 3], conv := [], bconv := [] }), (2, { keep := [1, 4], conv := [], bconv := [] }), (4, { keep := [1, 6], conv := [], bconv := [] }), (6, { keep := [1, 8], conv := [], bconv := [] })], ends := [(0, { keep := [1, 2], conv := [], bconv := [] }), (2, { keep := [1, 2], conv := [], bconv := [] }), (4, { keep := [1, 2], conv := [], bconv := [] }), (6, { keep := [2], conv := [], bconv := [] })], ord := [] }
noncomputable def h17 : Hint := { inst := [], el := [], arr := [], fzl := [], pfx := [], snap := [], heads := [(0, { keep := [1, 3], conv := [], bconv := [] }), (2, { keep := [1, 3, 4, 5], conv := [], bconv := [] }), (4, { keep := [1, 6], conv := [], bconv := [] }), (6, { keep := [1, 6, 7, 8], conv := [], bconv := [] }), (8, { keep := [1, 6, 7, 9], conv := [], bconv := [] }), (10, { keep := [1, 6, 7, 9, 10], conv := [], bconv := [] })], ends := [(0, { keep := [1, 2], conv := [], bconv := [] }), (2, { keep := [1, 2, 3], conv := [], bconv := [] }), (4, { keep := [2], conv := [], bconv := [] }), (6, { keep := [1, 2, 6, 7], conv := [], bconv := [] }), (8, { keep := [1, 2, 6], conv := [], bconv := [] }), (10, { keep := [1, 2, 6, 7, 9], conv := [], bconv := [] })], ord := [] }
noncomputable def h18 : Hint := { inst := [], el := [], arr := [], fzl := [], pfx := [], snap := [], heads := [(0, { keep := [1, 3, 4, 5], conv := [], bconv := [] }), (2, { keep := [1, 3, 4, 6], conv := [], bconv := [] }), (4, { keep := [1, 3, 4, 7], conv := [], bconv := [] }), (6, { keep := [1, 3, 4, 8], conv := [], bconv := [] })], ends := [(0, { keep := [1, 2, 3, 4], conv := [], bconv := [] }), (2, { keep := [1, 2, 3, 4], conv := [], bconv := [] }), (4, { keep := [1, 2, 3, 4], conv := [], bconv := [] }), (6, { keep := [2, 4], conv := [], bconv := [] })], ord := [], inl := [(25, { site := 4, base := 10000, live := [1, 3, 5, 17], old := [] }), (42, { site := 5, base := 12000, live := [1, 3, 6, 34], old := [] }), (59, { site := 6, base := 14000, live := [1, 3, 7, 51], old := [] }), (76, { site := 7, base := 16000, live := [1, 3, 8, 68], old := [] })] }
noncomputable def h19 : Hint := { inst := [], el := [], arr := [], fzl := [], pfx := [], snap := [], heads := [(0, { keep := [1, 3], conv := [], bconv := [] }), (2, { keep := [1, 3, 4], conv := [], bconv := [] }), (4, { keep := [1, 6], conv := [], bconv := [] }), (6, { keep := [1, 6, 7], conv := [], bconv := [] }), (8, { keep := [1, 6, 7, 8], conv := [], bconv := [] })], ends := [(0, { keep := [1, 2], conv := [], bconv := [] }), (2, { keep := [1, 2, 3], conv := [], bconv := [] }), (4, { keep := [2], conv := [], bconv := [] }), (6, { keep := [1, 2, 6], conv := [], bconv := [] }), (8, { keep := [1, 2, 6, 7], conv := [], bconv := [] })], ord := [] }
noncomputable def h20 : Hint := { inst := [], el := [], arr := [], fzl := [], pfx := [], snap := [], heads := [(0, { keep := [1, 3], conv := [], bconv := [] }), (2, { keep := [1, 3, 4, 5], conv := [], bconv := [] }), (4, { keep := [1, 3, 6, 7], conv := [], bconv := [] }), (6, { keep := [1, 8, 9, 10], conv := [], bconv := [] }), (8, { keep := [1, 8, 9, 10, 11, 12], conv := [], bconv := [] })], ends := [(0, { keep := [1, 2], conv := [], bconv := [] }), (2, { keep := [1, 2, 3, 4], conv := [], bconv := [] }), (4, { keep := [1, 2, 3, 6], conv := [], bconv := [] }), (6, { keep := [2], conv := [], bconv := [] }), (8, { keep := [1, 2, 8, 9, 10], conv := [], bconv := [] })], ord := [(20, [0, 2, 1, 3, 4, 5])] }
noncomputable def h21 : Hint := { inst := [], el := [], arr := [], fzl := [], pfx := [], snap := [], heads := [(0, { keep := [1, 3, 4], conv := [], bconv := [] }), (2, { keep := [1, 3, 4, 5], conv := [], bconv := [] }), (4, { keep := [1, 3, 7, 8, 9], conv := [], bconv := [] }), (6, { keep := [1, 3, 7, 8, 9, 10], conv := [], bconv := [] }), (8, { keep := [1, 3, 7, 8, 9, 10, 11, 12], conv := [], bconv := [] })], ends := [(0, { keep := [1, 2, 3], conv := [], bconv := [] }), (2, { keep := [1, 2, 3, 4], conv := [], bconv := [] }), (4, { keep := [2], conv := [], bconv := [] }), (6, { keep := [1, 2, 3, 7, 8, 9], conv := [], bconv := [] }), (8, { keep := [1, 2, 3, 7, 8, 9, 10], conv := [], bconv := [] })], ord := [] }
noncomputable def h22 : Hint := { inst := [], el := [], arr := [], fzl := [], pfx := [], snap := [], heads := [(0, { keep := [2, 3, 5, 6], conv := [], bconv := [] }), (2, { keep := [2, 3, 5, 6, 7], conv := [], bconv := [] }), (4, { keep := [2, 3, 5, 6, 7, 8, 9, 10], conv := [(9, .own 3 [(.int .i64)])], bconv := [] })], ends := [(0, { keep := [4], conv := [], bconv := [] }), (2, { keep := [2, 3, 4, 5, 6], conv := [], bconv := [] }), (4, { keep := [2, 3, 4, 5, 6, 7, 8, 9], conv := [], bconv := [] })], ord := [] }
noncomputable def h23 : Hint := { inst := [], el := [], arr := [], fzl := [], pfx := [], snap := [], heads := [(0, { keep := [1, 3, 4], conv := [], bconv := [] })], ends := [(0, { keep := [2, 3], conv := [], bconv := [] })], ord := [] }
noncomputable def h24 : Hint := { inst := [], el := [], arr := [], fzl := [], pfx := [], snap := [], heads := [(0, { keep := [1, 34, 35, 36], conv := [], bconv := [] }), (2, { keep := [1, 46, 47, 48], conv := [], bconv := [] }), (4, { keep := [1, 64, 65, 66], conv := [], bconv := [] }), (6, { keep := [82, 83, 84], conv := [], bconv := [] })], ends := [(0, { keep := [1, 2], conv := [], bconv := [] }), (2, { keep := [1, 2], conv := [], bconv := [] }), (4, { keep := [1, 2], conv := [], bconv := [] }), (6, { keep := [2], conv := [], bconv := [] })], ord := [] }
noncomputable def h25 : Hint := { inst := [], el := [], arr := [], fzl := [], pfx := [], snap := [], heads := [(0, { keep := [1, 16, 17, 18], conv := [], bconv := [] }), (2, { keep := [1, 4, 16, 17, 18, 23, 24, 25], conv := [], bconv := [] }), (4, { keep := [44, 45, 46], conv := [], bconv := [] }), (6, { keep := [8, 44, 45, 46, 69, 70, 71], conv := [], bconv := [] }), (8, { keep := [44, 45, 46, 92, 93, 94], conv := [], bconv := [] }), (10, { keep := [44, 45, 46, 92, 93, 94, 99, 100, 101], conv := [], bconv := [] })], ends := [(0, { keep := [1, 2], conv := [], bconv := [] }), (2, { keep := [1, 2, 4, 16, 17, 18], conv := [], bconv := [] }), (4, { keep := [2], conv := [], bconv := [] }), (6, { keep := [2, 8, 44, 45, 46], conv := [], bconv := [] }), (8, { keep := [2, 44, 45, 46], conv := [], bconv := [] }), (10, { keep := [2, 44, 45, 46, 92, 93, 94], conv := [], bconv := [] })], ord := [] }
noncomputable def h26 : Hint := { inst := [], el := [], arr := [], fzl := [], pfx := [], snap := [], heads := [(0, { keep := [1, 3, 16, 17, 18], conv := [(3, .own 9 [.str])], bconv := [] }), (2, { keep := [1, 3, 29, 30, 31], conv := [(3, .own 9 [.str])], bconv := [] }), (4, { keep := [1, 3, 42, 43, 44], conv := [(3, .own 9 [.str])], bconv := [] }), (6, { keep := [3, 55, 56, 57], conv := [(3, .own 9 [.str])], bconv := [] }), (8, { keep := [12, 68, 69, 70], conv := [], bconv := [] })], ends := [(0, { keep := [1, 2, 3], conv := [], bconv := [] }), (2, { keep := [1, 2, 3], conv := [], bconv := [] }), (4, { keep := [1, 2, 3], conv := [], bconv := [] }), (6, { keep := [2, 3], conv := [], bconv := [] }), (8, { keep := [2], conv := [], bconv := [] })], ord := [] }
noncomputable def h27 : Hint := { inst := [], el := [], arr := [], fzl := [], pfx := [], snap := [], heads := [(0, { keep := [1, 15, 16, 17], conv := [], bconv := [] }), (2, { keep := [1, 15, 16, 17, 22, 23, 24], conv := [], bconv := [] }), (4, { keep := [1, 40, 41, 42], conv := [], bconv := [] }), (6, { keep := [1, 40, 41, 42, 47, 48, 49], conv := [], bconv := [] }), (8, { keep := [1, 40, 41, 42, 47, 48, 49, 54, 55, 56], conv := [], bconv := [] })], ends := [(0, { keep := [1, 2], conv := [], bconv := [] }), (2, { keep := [1, 2, 15, 16, 17], conv := [], bconv := [] }), (4, { keep := [2], conv := [], bconv := [] }), (6, { keep := [1, 2, 40, 41, 42], conv := [], bconv := [] }), (8, { keep := [1, 2, 40, 41, 42, 47, 48, 49], conv := [], bconv := [] })], ord := [] }
noncomputable def h28 : Hint := { inst := [], el := [], arr := [], fzl := [], pfx := [], snap := [], heads := [(0, { keep := [1, 17, 18, 19], conv := [], bconv := [] }), (2, { keep := [1, 3, 4, 5, 17, 18, 19, 29, 30, 31], conv := [], bconv := [] }), (4, { keep := [1, 8, 17, 18, 19, 74, 75, 76], conv := [], bconv := [] }), (6, { keep := [11, 109, 110, 111], conv := [], bconv := [] }), (8, { keep := [11, 12, 109, 110, 111, 117, 118, 119], conv := [], bconv := [] })], ends := [(0, { keep := [1, 2], conv := [], bconv := [] }), (2, { keep := [1, 2, 4, 17, 18, 19], conv := [], bconv := [] }), (4, { keep := [1, 2, 8, 17, 18, 19], conv := [], bconv := [] }), (6, { keep := [2], conv := [], bconv := [] }), (8, { keep := [2, 11, 109, 110, 111], conv := [], bconv := [] })], ord := [(10, [0, 3, 4, 1, 5, 6, 7, 8, 2, 9, 10, 11, 12, 13, 14, 15, 16, 17, 18, 19, 20, 21])] }
noncomputable def h29 : Hint := { inst := [], el := [], arr := [], fzl := [], pfx := [], snap := [], heads := [(0, { keep := [1, 3, 4, 28, 29, 30], conv := [(4, .own 3 [(.int .i64)])], bconv := [] }), (2, { keep := [1, 3, 4, 5, 28, 29, 30, 36, 37, 38], conv := [(4, .own 3 [(.int .i64)])], bconv := [] }), (4, { keep := [1, 3, 4, 9, 10, 64, 65], conv := [], bconv := [] }), (6, { keep := [1, 3, 4, 9, 10, 11, 12, 64, 65], conv := [], bconv := [] }), (8, { keep := [1, 3, 4, 9, 90, 91, 92], conv := [], bconv := [] }), (10, { keep := [1, 3, 4, 9, 13, 15, 90, 91, 92, 108, 109, 110], conv := [], bconv := [] }), (12, { keep := [1, 3, 4, 9, 13, 15, 17, 90, 91, 92, 108, 109, 110, 115, 116, 117], conv := [], bconv := [] })], ends := [(0, { keep := [1, 2, 3, 4], conv := [], bconv := [] }), (2, { keep := [1, 2, 3, 4, 28, 29, 30], conv := [], bconv := [] }), (4, { keep := [1, 2, 3, 4, 9], conv := [], bconv := [] }), (6, { keep := [1, 2, 3, 4, 9, 10, 64, 65], conv := [], bconv := [] }), (8, { keep := [2], conv := [], bconv := [] }), (10, { keep := [1, 2, 3, 4, 9, 90, 91, 92], conv := [], bconv := [] }), (12, { keep := [1, 2, 3, 4, 9, 13, 15, 17, 90, 91, 92, 108, 109, 110], conv := [], bconv := [] })], ord := [] }
noncomputable def h30 : Hint := { inst := [], el := [], arr := [], fzl := [], pfx := [], snap := [], heads := [(0, { keep := [2, 3, 5, 13, 14, 15], conv := [], bconv := [] }), (2, { keep := [2, 3, 5, 13, 14, 15, 20, 21, 22], conv := [], bconv := [] })], ends := [(0, { keep := [4], conv := [], bconv := [] }), (2, { keep := [2, 3, 4, 5, 13, 14, 15], conv := [], bconv := [] })], ord := [] }
noncomputable def h31 : Hint := { inst := [], el := [], arr := [8], fzl := [], pfx := [], snap := [], heads := [(0, { keep := [3, 13, 14, 15], conv := [(3, .own 3 [(.int .i64)])], bconv := [] }), (2, { keep := [3, 13, 14, 15, 20, 21, 22], conv := [(3, .own 3 [(.int .i64)])], bconv := [] })], ends := [(0, { keep := [2, 3], conv := [], bconv := [] }), (2, { keep := [2, 3, 13, 14, 15], conv := [], bconv := [] })], ord := [] }
noncomputable def h32 : Hint := { inst := [], el := [], arr := [69, 63, 40], fzl := [104], pfx := [], snap := [], heads := [(0, { keep := [0, 22, 23, 24], conv := [], bconv := [] }), (2, { keep := [0, 6], conv := [], bconv := [] }), (4, { keep := [0, 6, 47, 48, 49], conv := [], bconv := [] }), (7, { keep := [0, 6, 7, 9, 47, 48, 49, 109, 110, 111], conv := [(9, .own 107 y1)], bconv := [] })], ends := [(0, { keep := [0], conv := [], bconv := [] }), (2, { keep := [0], conv := [], bconv := [] }), (4, { keep := [0, 6], conv := [], bconv := [] }), (7, { keep := [0, 6, 7, 9, 47, 48, 49], conv := [], bconv := [] })], ord := [] }
noncomputable def h33 : Hint := { inst := [], el := [], arr := [], fzl := [], pfx := [], snap := [], heads := [(0, { keep := [0, 16, 17], conv := [], bconv := [(500, 0, .own 3 [(.int .i64)]), (500, 1, .own 108 [(.sl true 107 y1)]), (500, 2, .own 114 y1), (500, 3, .own 25 y0)] })], ends := [(0, { keep := [0], conv := [], bconv := [] })], ord := [] }
noncomputable def h34 : Hint := { inst := [], el := [(13, y8)], arr := [], fzl := [], pfx := [], snap := [], heads := [(0, { keep := [0, 3, 4], conv := [], bconv := [] }), (2, { keep := [0, 3, 4, 16, 17], conv := [], bconv := [] })], ends := [(0, { keep := [2, 3], conv := [], bconv := [] }), (2, { keep := [0, 2, 3, 4], conv := [], bconv := [] })], ord := [(9, [2, 3, 4, 0, 5, 1, 6, 7])] }
noncomputable def h35 : Hint := { inst := [], el := [], arr := [], fzl := [], pfx := [], snap := [], heads := [(0, { keep := [1, 3, 4], conv := [], bconv := [(3, 0, .own 4 [.bool])] }), (2, { keep := [1, 3, 4, 16, 17], conv := [], bconv := [(3, 0, .own 4 [.bool])] })], ends := [(0, { keep := [2, 3], conv := [], bconv := [] }), (2, { keep := [1, 2, 3, 4], conv := [], bconv := [] })], ord := [], inl := [(27, { site := 8, base := 18000, live := [1, 3, 4, 5, 6, 16, 17], old := [] })] }
noncomputable def h36 : Hint := { inst := [], el := [], arr := [], fzl := [], pfx := [], snap := [], heads := [(0, { keep := [0, 3, 4, 19, 20, 21], conv := [], bconv := [] }), (2, { keep := [0, 3, 4, 6, 19, 20, 21, 47, 48, 49], conv := [], bconv := [] })], ends := [(0, { keep := [2, 4], conv := [], bconv := [] }), (2, { keep := [0, 2, 3, 4, 19, 20, 21], conv := [], bconv := [] })], ord := [] }
noncomputable def h37 : Hint := { inst := [], el := [], arr := [5], fzl := [], pfx := [], snap := [], heads := [], ends := [], ord := [], fork := true }
noncomputable def h38 : Hint := { inst := [], el := [], arr := [5], fzl := [], pfx := [], snap := [], heads := [], ends := [], ord := [], fork := true }
noncomputable def h39 : Hint := { inst := [], el := [], arr := [], fzl := [], pfx := [], snap := [], heads := [(0, { keep := [1, 2, 16, 17, 18], conv := [], bconv := [(1, 4, .own 28 [(.sl true 25 y0)])] }), (2, { keep := [1, 2, 6, 16, 17, 18, 23, 24, 25], conv := [(6, .own 25 y0)], bconv := [] })], ends := [(0, { keep := [1, 2], conv := [], bconv := [] }), (2, { keep := [1, 2, 6, 16, 17, 18], conv := [], bconv := [] })], ord := [] }
noncomputable def h40 : Hint := { inst := [], el := [], arr := [], fzl := [], pfx := [], snap := [], heads := [(0, { keep := [0, 1, 5, 6, 7, 25, 26], conv := [], bconv := [(6, 0, .own 4 [.bool])] })], ends := [(0, { keep := [0, 1, 4, 5, 6], conv := [], bconv := [] })], ord := [], inl := [(52, { site := 10, base := 22000, live := [6], old := [] })] }
noncomputable def h41 : Hint := { inst := [], el := [], arr := [], fzl := [], pfx := [], snap := [], heads := [(1, { keep := [4, 46, 47, 48], conv := [], bconv := [] })], ends := [(1, { keep := [0, 1, 7, 10], conv := [], bconv := [] })], ord := [] }
noncomputable def h43 : Hint := { inst := [], el := [], arr := [], fzl := [], pfx := [], snap := [], heads := [], ends := [], ord := [] }
noncomputable def h45 : Hint := { inst := [], el := [], arr := [], fzl := [], pfx := [], snap := [], heads := [], ends := [], ord := [] }
noncomputable def h46 : Hint := { inst := [], el := [], arr := [], fzl := [], pfx := [], snap := [], heads := [], ends := [], ord := [] }
noncomputable def h47 : Hint := { inst := [], el := [], arr := [], fzl := [], pfx := [], snap := [], heads := [(0, { keep := [1, 3, 4], conv := [], bconv := [] }), (2, { keep := [1, 3, 4, 5, 6], conv := [], bconv := [] })], ends := [(0, { keep := [2, 3], conv := [], bconv := [] }), (2, { keep := [1, 2, 3, 4], conv := [], bconv := [] })], ord := [(9, [0, 1, 2, 3, 5, 6, 7, 8, 12, 4, 9, 10, 11, 13, 14, 15, 16])], cks := [(41, [(31, 3, 30)])] }
noncomputable def h48 : Hint := { inst := [], el := [], arr := [], fzl := [], pfx := [], snap := [], heads := [(0, { keep := [0, 1, 5], conv := [], bconv := [] })], ends := [(0, { keep := [4], conv := [], bconv := [] })], ord := [] }
noncomputable def h49 : Hint := { inst := [], el := [], arr := [], fzl := [], pfx := [], snap := [], heads := [(0, { keep := [1, 3, 4], conv := [], bconv := [] }), (2, { keep := [1, 3, 5, 6], conv := [], bconv := [] }), (4, { keep := [1, 3, 5, 6, 7], conv := [], bconv := [] })], ends := [(0, { keep := [1, 2, 3], conv := [], bconv := [] }), (2, { keep := [2, 3], conv := [], bconv := [] }), (4, { keep := [1, 2, 3, 5, 6], conv := [], bconv := [] })], ord := [] }
noncomputable def h50 : Hint := { inst := [], el := [], arr := [], fzl := [], pfx := [], snap := [], heads := [(0, { keep := [1, 3, 4, 5], conv := [], bconv := [] }), (2, { keep := [1, 3, 4, 5, 6, 7], conv := [], bconv := [] })], ends := [(0, { keep := [2, 3], conv := [], bconv := [] }), (2, { keep := [1, 2, 3, 4, 5], conv := [], bconv := [] })], ord := [] }
noncomputable def h51 : Hint := { inst := [], el := [], arr := [7], fzl := [], pfx := [], snap := [], heads := [(0, { keep := [1, 3, 4], conv := [(3, .own 3 [(.int .i64)])], bconv := [] }), (2, { keep := [1, 3, 4, 5], conv := [(3, .own 3 [(.int .i64)])], bconv := [] })], ends := [(0, { keep := [2, 3], conv := [], bconv := [] }), (2, { keep := [1, 2, 3, 4], conv := [], bconv := [] })], ord := [] }
noncomputable def h52 : Hint := { inst := [], el := [], arr := [], fzl := [], pfx := [], snap := [], heads := [(1, { keep := [3, 6, 9], conv := [], bconv := [] })], ends := [(1, { keep := [8], conv := [], bconv := [] })], ord := [] }
noncomputable def h53 : Hint := { inst := [], el := [], arr := [], fzl := [], pfx := [], snap := [], heads := [(0, { keep := [3, 7, 8, 9], conv := [], bconv := [] })], ends := [(0, { keep := [2, 3], conv := [], bconv := [] })], ord := [] }
noncomputable def h54 : Hint := { inst := [], el := [], arr := [], fzl := [], pfx := [], snap := [], heads := [], ends := [], ord := [] }
noncomputable def h55 : Hint := { inst := [], el := [], arr := [], fzl := [], pfx := [], snap := [], heads := [], ends := [], ord := [] }
noncomputable def h56 : Hint := { inst := [], el := [], arr := [], fzl := [], pfx := [], snap := [], heads := [(0, { keep := [0, 15, 16], conv := [], bconv := [] })], ends := [(0, { keep := [2], conv := [], bconv := [] })], ord := [] }
noncomputable def h57 : Hint := { inst := [], el := [], arr := [], fzl := [], pfx := [], snap := [], heads := [], ends := [], ord := [] }
noncomputable def h58 : Hint := { inst := [], el := [], arr := [], fzl := [], pfx := [], snap := [], heads := [], ends := [], ord := [] }
noncomputable def h59 : Hint := { inst := [], el := [], arr := [], fzl := [], pfx := [], snap := [], heads := [(0, { keep := [4, 16, 17, 18], conv := [], bconv := [] })], ends := [(0, { keep := [2, 4], conv := [], bconv := [] })], ord := [] }
noncomputable def h60 : Hint := { inst := [], el := [], arr := [], fzl := [], pfx := [], snap := [], heads := [(0, { keep := [1, 3, 13, 14], conv := [], bconv := [] }), (2, { keep := [1, 3, 4, 13, 14, 19, 20, 21], conv := [], bconv := [] })], ends := [(0, { keep := [2, 3], conv := [], bconv := [] }), (2, { keep := [1, 2, 3, 13, 14], conv := [], bconv := [] })], ord := [] }
noncomputable def h62 : Hint := { inst := [], el := [], arr := [], fzl := [], pfx := [], snap := [], heads := [], ends := [], ord := [] }
noncomputable def h63 : Hint := { inst := [], el := [], arr := [], fzl := [], pfx := [], snap := [], heads := [(0, { keep := [5, 16, 17, 18], conv := [], bconv := [] }), (2, { keep := [5, 16, 17, 18, 23, 24, 25], conv := [], bconv := [] })], ends := [(0, { keep := [4, 5], conv := [], bconv := [] }), (2, { keep := [4, 5, 16, 17, 18], conv := [], bconv := [] })], ord := [] }
noncomputable def h64 : Hint := { inst := [], el := [], arr := [], fzl := [227, 211, 138, 127, 119, 107, 96], pfx := [], snap := [], heads := [], ends := [], ord := [] }
noncomputable def h66 : Hint := { inst := [], el := [], arr := [5], fzl := [], pfx := [], snap := [], heads := [], ends := [], ord := [], fork := true }
noncomputable def h67 : Hint := { inst := [], el := [], arr := [], fzl := [], pfx := [], snap := [], heads := [], ends := [], ord := [] }
noncomputable def h69 : Hint := { inst := [], el := [], arr := [], fzl := [], pfx := [28, 56], snap := [], heads := [(0, { keep := [0, 3], conv := [], bconv := [] }), (2, { keep := [0, 3, 4, 5], conv := [], bconv := [] })], ends := [(0, { keep := [0, 2], conv := [], bconv := [] }), (2, { keep := [0, 2, 3], conv := [], bconv := [] })], ord := [] }
noncomputable def h70 : Hint := { inst := [], el := [], arr := [], fzl := [], pfx := [], snap := [], heads := [], ends := [], ord := [] }
noncomputable def h71 : Hint := { inst := [], el := [], arr := [], fzl := [], pfx := [], snap := [], heads := [], ends := [], ord := [(4, [0, 3, 1, 4, 2, 5, 6, 7, 8, 9]), (5, [0, 3, 1, 4, 2, 5, 6, 7, 8, 9])], inl := [(18, { site := 12, base := 26000, live := [6, 7], old := [] })], cks := [(21, [(23, 23, 22)]), (29, [(31, 23, 30)])] }
noncomputable def h72 : Hint := { inst := [], el := [], arr := [], fzl := [], pfx := [], snap := [], heads := [], ends := [], ord := [] }
noncomputable def h75 : Hint := { inst := [], el := [], arr := [], fzl := [], pfx := [], snap := [], heads := [], ends := [], ord := [] }
noncomputable def h76 : Hint := { inst := [], el := [], arr := [16], fzl := [], pfx := [], snap := [], heads := [(1, { keep := [0, 1, 5, 7, 23, 24, 25], conv := [(7, .own 3 [(.int .i64)])], bconv := [] })], ends := [(1, { keep := [6, 7], conv := [], bconv := [] })], ord := [] }
noncomputable def h77 : Hint := { inst := [], el := [], arr := [], fzl := [], pfx := [], snap := [], heads := [(0, { keep := [1, 3, 13, 14], conv := [], bconv := [(3, 0, .own 23 y3)] })], ends := [(0, { keep := [2, 3], conv := [], bconv := [] })], ord := [(6, [0, 1, 2, 3, 4, 5, 6, 7, 8])], inl := [(20, { site := 18, base := 38000, live := [1, 3, 4, 13, 14], old := [] })], take := [26], cks := [(27, [(21, 92, 3), (22, 3, 4)])] }
noncomputable def h78 : Hint := { inst := [], el := [], arr := [], fzl := [], pfx := [], snap := [], heads := [(0, { keep := [3, 7, 8, 9], conv := [(3, .own 3 [(.int .i64)])], bconv := [] })], ends := [(0, { keep := [2, 3], conv := [], bconv := [] })], ord := [] }
noncomputable def h79 : Hint := { inst := [], el := [], arr := [], fzl := [], pfx := [], snap := [], heads := [], ends := [], ord := [] }
noncomputable def h80 : Hint := { inst := [], el := [], arr := [22], fzl := [], pfx := [], snap := [], heads := [(0, { keep := [0, 1, 5, 6], conv := [(6, .own 3 [(.int .i64)])], bconv := [] }), (2, { keep := [0, 1, 5, 6, 40, 41, 42], conv := [(6, .own 3 [(.int .i64)])], bconv := [] })], ends := [(0, { keep := [4], conv := [], bconv := [] }), (2, { keep := [0, 1, 4, 5, 6], conv := [], bconv := [] })], ord := [] }
noncomputable def h81 : Hint := { inst := [], el := [], arr := [], fzl := [], pfx := [], snap := [], heads := [], ends := [], ord := [] }
noncomputable def h82 : Hint := { inst := [], el := [], arr := [], fzl := [], pfx := [], snap := [], heads := [], ends := [], ord := [], inl := [(22, { site := 20, base := 42000, live := [6], old := [] })] }
noncomputable def h84 : Hint := { inst := [], el := [], arr := [], fzl := [], pfx := [], snap := [], heads := [], ends := [], ord := [] }
noncomputable def h85 : Hint := { inst := [], el := [], arr := [], fzl := [], pfx := [], snap := [], heads := [], ends := [], ord := [] }
noncomputable def h86 : Hint := { inst := [], el := [], arr := [], fzl := [], pfx := [], snap := [], heads := [(0, { keep := [0, 3], conv := [], bconv := [] })], ends := [(0, { keep := [2], conv := [], bconv := [] })], ord := [] }
noncomputable def h87 : Hint := { inst := [], el := [], arr := [], fzl := [], pfx := [], snap := [], heads := [(0, { keep := [2, 3, 7, 8], conv := [], bconv := [] }), (2, { keep := [2, 3, 7, 8, 9], conv := [], bconv := [] }), (4, { keep := [2, 3, 7, 8, 9, 10, 11], conv := [], bconv := [] })], ends := [(0, { keep := [6, 7], conv := [], bconv := [] }), (2, { keep := [2, 3, 6, 7, 8], conv := [], bconv := [] }), (4, { keep := [2, 3, 6, 7, 8, 9], conv := [], bconv := [] })], ord := [] }
noncomputable def h88 : Hint := { inst := [], el := [], arr := [], fzl := [], pfx := [], snap := [], heads := [(0, { keep := [2, 5, 7, 8], conv := [(7, .own 3 [(.int .i64)])], bconv := [] })], ends := [(0, { keep := [4, 7], conv := [], bconv := [] })], ord := [] }
noncomputable def h89 : Hint := { inst := [], el := [], arr := [], fzl := [], pfx := [], snap := [], heads := [], ends := [], ord := [] }
noncomputable def h90 : Hint := { inst := [], el := [], arr := [], fzl := [], pfx := [], snap := [], heads := [], ends := [], ord := [] }
noncomputable def h91 : Hint := { inst := [], el := [], arr := [], fzl := [], pfx := [], snap := [], heads := [(0, { keep := [0, 1, 7, 8], conv := [], bconv := [] })], ends := [(0, { keep := [4], conv := [], bconv := [] })], ord := [] }
noncomputable def h92 : Hint := { inst := [], el := [], arr := [], fzl := [], pfx := [], snap := [], heads := [], ends := [], ord := [] }
noncomputable def h93 : Hint := { inst := [], el := [], arr := [], fzl := [], pfx := [], snap := [], heads := [(0, { keep := [2, 5, 55, 56, 57], conv := [(5, .own 3 [(.int .i64)])], bconv := [] })], ends := [(0, { keep := [4, 5], conv := [], bconv := [] })], ord := [] }
noncomputable def h94 : Hint := { inst := [], el := [], arr := [], fzl := [], pfx := [], snap := [], heads := [(0, { keep := [0, 3, 10, 11], conv := [], bconv := [] }), (2, { keep := [0, 3, 4, 10, 11, 18, 19], conv := [], bconv := [] })], ends := [(0, { keep := [2, 3], conv := [], bconv := [] }), (2, { keep := [0, 2, 3, 10, 11], conv := [], bconv := [] })], ord := [] }
noncomputable def h95 : Hint := { inst := [], el := [], arr := [], fzl := [], pfx := [], snap := [], heads := [(0, { keep := [1, 3, 4, 16, 17], conv := [], bconv := [] }), (2, { keep := [3, 4, 6, 7, 31, 32], conv := [], bconv := [] }), (4, { keep := [3, 4, 6, 7, 8, 9, 31, 32, 48, 49], conv := [], bconv := [] })], ends := [(0, { keep := [1, 2, 3, 4], conv := [], bconv := [] }), (2, { keep := [2, 7], conv := [], bconv := [] }), (4, { keep := [2, 3, 4, 6, 7, 31, 32], conv := [], bconv := [] })], ord := [] }
noncomputable def h96 : Hint := { inst := [], el := [], arr := [], fzl := [], pfx := [], snap := [], heads := [(0, { keep := [0, 2, 9, 10, 11], conv := [], bconv := [] })], ends := [(0, { keep := [6], conv := [], bconv := [] })], ord := [] }
noncomputable def h97 : Hint := { inst := [], el := [], arr := [], fzl := [], pfx := [], snap := [], heads := [(0, { keep := [0, 2, 14, 15, 16], conv := [], bconv := [] })], ends := [(0, { keep := [6], conv := [], bconv := [] })], ord := [] }
noncomputable def h99 : Hint := { inst := [], el := [], arr := [], fzl := [], pfx := [], snap := [], heads := [(0, { keep := [0, 1, 2, 3, 4, 10, 11], conv := [], bconv := [] })], ends := [(0, { keep := [], conv := [], bconv := [] })], ord := [] }
noncomputable def h100 : Hint := { inst := [], el := [], arr := [], fzl := [], pfx := [], snap := [], heads := [], ends := [], ord := [] }
noncomputable def h101 : Hint := { inst := [], el := [], arr := [], fzl := [], pfx := [], snap := [], heads := [], ends := [], ord := [] }
noncomputable def h104 : Hint := { inst := [], el := [], arr := [], fzl := [], pfx := [], snap := [], heads := [], ends := [], ord := [] }
noncomputable def h108 : Hint := { inst := [], el := [], arr := [], fzl := [], pfx := [], snap := [], heads := [(0, { keep := [0, 4, 27, 28], conv := [], bconv := [(25, 1, .own 3 [(.int .i64)]), (25, 2, .own 3 [(.int .i64)]), (25, 3, .own 4 [.bool]), (25, 4, .own 3 [(.int .i64)]), (25, 6, .own 3 [(.int .i64)])] }), (2, { keep := [0, 4, 6, 51, 52, 53], conv := [], bconv := [] }), (4, { keep := [0, 4, 6, 9, 10], conv := [(10, .own 23 y10)], bconv := [(25, 1, .own 3 [(.int .i64)]), (25, 2, .own 3 [(.int .i64)]), (25, 3, .own 4 [.bool]), (25, 4, .own 3 [(.int .i64)]), (25, 6, .own 3 [(.int .i64)])] }), (6, { keep := [0, 4, 6, 9, 10, 80, 81], conv := [(10, .own 23 y10)], bconv := [(25, 1, .own 3 [(.int .i64)]), (25, 2, .own 3 [(.int .i64)]), (25, 3, .own 4 [.bool]), (25, 4, .own 3 [(.int .i64)]), (25, 6, .own 3 [(.int .i64)])] })], ends := [(0, { keep := [0, 2, 4], conv := [], bconv := [] }), (2, { keep := [0, 2, 4, 6], conv := [], bconv := [] }), (4, { keep := [2, 10], conv := [], bconv := [] }), (6, { keep := [0, 2, 4, 6, 9, 10], conv := [], bconv := [] })], ord := [(2, [0, 1, 3, 5, 7, 2, 4, 6, 8, 9, 10, 11])], alts := [(2, ([2, 4, 6, 8], [[0, 1, 3, 5, 7, 2, 4, 8, 6, 9, 10, 11], [0, 1, 3, 5, 7, 2, 6, 4, 8, 9, 10, 11], [0, 1, 3, 5, 7, 2, 6, 8, 4, 9, 10, 11], [0, 1, 3, 5, 7, 2, 8, 4, 6, 9, 10, 11], [0, 1, 3, 5, 7, 2, 8, 6, 4, 9, 10, 11], [0, 1, 3, 5, 7, 4, 2, 6, 8, 9, 10, 11], [0, 1, 3, 5, 7, 4, 2, 8, 6, 9, 10, 11], [0, 1, 3, 5, 7, 4, 6, 2, 8, 9, 10, 11], [0, 1, 3, 5, 7, 4, 6, 8, 2, 9, 10, 11], [0, 1, 3, 5, 7, 4, 8, 2, 6, 9, 10, 11], [0, 1, 3, 5, 7, 4, 8, 6, 2, 9, 10, 11], [0, 1, 3, 5, 7, 6, 2, 4, 8, 9, 10, 11], [0, 1, 3, 5, 7, 6, 2, 8, 4, 9, 10, 11], [0, 1, 3, 5, 7, 6, 4, 2, 8, 9, 10, 11], [0, 1, 3, 5, 7, 6, 4, 8, 2, 9, 10, 11], [0, 1, 3, 5, 7, 6, 8, 2, 4, 9, 10, 11], [0, 1, 3, 5, 7, 6, 8, 4, 2, 9, 10, 11], [0, 1, 3, 5, 7, 8, 2, 4, 6, 9, 10, 11], [0, 1, 3, 5, 7, 8, 2, 6, 4, 9, 10, 11], [0, 1, 3, 5, 7, 8, 4, 2, 6, 9, 10, 11], [0, 1, 3, 5, 7, 8, 4, 6, 2, 9, 10, 11], [0, 1, 3, 5, 7, 8, 6, 2, 4, 9, 10, 11], [0, 1, 3, 5, 7, 8, 6, 4, 2, 9, 10, 11]]))], mids := [(15, { keep := [0, 4, 6, 9], conv := [(6, .fzA 23 y10)], bconv := [] }), (2, { keep := [0, 4], conv := [], bconv := [] })] }
noncomputable def h110 : Hint := { inst := [], el := [], arr := [], fzl := [], pfx := [], snap := [], heads := [], ends := [], ord := [] }
noncomputable def h111 : Hint := { inst := [], el := [], arr := [], fzl := [], pfx := [], snap := [], heads := [(0, { keep := [0, 1, 5], conv := [], bconv := [] })], ends := [(0, { keep := [4], conv := [], bconv := [] })], ord := [] }
noncomputable def h112 : Hint := { inst := [], el := [], arr := [], fzl := [], pfx := [], snap := [], heads := [(0, { keep := [0, 1, 17, 18, 19], conv := [], bconv := [(500, 5, .own 3 [(.int .i64)]), (500, 6, .own 3 [(.int .i64)])] })], ends := [(0, { keep := [0, 1], conv := [], bconv := [] })], ord := [] }
noncomputable def h113 : Hint := { inst := [], el := [], arr := [], fzl := [], pfx := [], snap := [], heads := [], ends := [], ord := [] }
noncomputable def h114 : Hint := { inst := [], el := [], arr := [], fzl := [], pfx := [], snap := [], heads := [(0, { keep := [0, 1, 5, 6], conv := [(6, .own 3 [(.int .i64)])], bconv := [] }), (2, { keep := [0, 1, 5, 6, 37, 38, 39], conv := [(6, .own 3 [(.int .i64)])], bconv := [] })], ends := [(0, { keep := [4, 5], conv := [], bconv := [] }), (2, { keep := [0, 1, 4, 5, 6], conv := [], bconv := [] })], ord := [] }
noncomputable def h115 : Hint := { inst := [], el := [], arr := [], fzl := [], pfx := [], snap := [], heads := [(0, { keep := [0, 1, 2, 3, 8], conv := [], bconv := [] }), (2, { keep := [0, 1, 2, 3, 8, 9], conv := [], bconv := [] })], ends := [(0, { keep := [], conv := [], bconv := [] }), (2, { keep := [0, 1, 2, 3, 8], conv := [], bconv := [] })], ord := [] }
noncomputable def h124 : Hint := { inst := [], el := [], arr := [], fzl := [], pfx := [], snap := [], heads := [], ends := [], ord := [] }
noncomputable def h125 : Hint := { inst := [], el := [], arr := [], fzl := [], pfx := [], snap := [], heads := [], ends := [], ord := [] }
noncomputable def h126 : Hint := { inst := [], el := [], arr := [], fzl := [], pfx := [28, 56], snap := [], heads := [(0, { keep := [0, 3], conv := [], bconv := [] }), (2, { keep := [0, 3, 4, 5], conv := [], bconv := [] })], ends := [(0, { keep := [0, 2], conv := [], bconv := [] }), (2, { keep := [0, 2, 3], conv := [], bconv := [] })], ord := [] }
noncomputable def h127 : Hint := { inst := [], el := [], arr := [11], fzl := [], pfx := [], snap := [], heads := [(0, { keep := [0, 4], conv := [(4, .own 180 y1)], bconv := [(500, 1, .own 3 [(.int .i64)]), (500, 2, .own 3 [(.int .i64)]), (500, 3, .own 4 [.bool]), (500, 4, .own 3 [(.int .i64)]), (500, 6, .own 3 [(.int .i64)])] }), (2, { keep := [0, 4, 5], conv := [(4, .own 180 y1)], bconv := [(500, 1, .own 3 [(.int .i64)]), (500, 2, .own 3 [(.int .i64)]), (500, 3, .own 4 [.bool]), (500, 4, .own 3 [(.int .i64)]), (500, 6, .own 3 [(.int .i64)])] })], ends := [(0, { keep := [0], conv := [], bconv := [] }), (2, { keep := [0, 4, 5], conv := [], bconv := [] })], ord := [] }
noncomputable def h128 : Hint := { inst := [], el := [], arr := [], fzl := [], pfx := [], snap := [], heads := [(0, { keep := [0, 2, 11, 12, 13], conv := [], bconv := [] }), (2, { keep := [0, 2, 8, 11, 12, 13, 23, 24, 25], conv := [], bconv := [] })], ends := [(0, { keep := [6], conv := [], bconv := [] }), (2, { keep := [0, 2, 6, 11, 12, 13], conv := [], bconv := [] })], ord := [] }
noncomputable def h129 : Hint := { inst := [], el := [], arr := [], fzl := [], pfx := [], snap := [], heads := [(0, { keep := [0, 1, 7, 8], conv := [], bconv := [] })], ends := [(0, { keep := [4], conv := [], bconv := [] })], ord := [] }
noncomputable def h135 : Hint := { inst := [], el := [], arr := [], fzl := [], pfx := [], snap := [], heads := [(0, { keep := [0, 1, 2, 3, 8, 9], conv := [], bconv := [] })], ends := [(0, { keep := [], conv := [], bconv := [] })], ord := [] }
noncomputable def h136 : Hint := { inst := [], el := [], arr := [], fzl := [], pfx := [], snap := [], heads := [], ends := [], ord := [] }
noncomputable def h137 : Hint := { inst := [], el := [], arr := [], fzl := [], pfx := [], snap := [], heads := [(0, { keep := [0, 1], conv := [], bconv := [(500, 4, .own 3 [(.int .i64)])] })], ends := [(0, { keep := [0], conv := [], bconv := [] })], ord := [] }
noncomputable def h139 : Hint := { inst := [], el := [], arr := [], fzl := [], pfx := [], snap := [], heads := [(0, { keep := [0, 1, 2, 6], conv := [], bconv := [] }), (2, { keep := [0, 1, 2, 6, 7], conv := [], bconv := [] })], ends := [(0, { keep := [], conv := [], bconv := [] }), (2, { keep := [0, 1, 2, 6], conv := [], bconv := [] })], ord := [] }
noncomputable def h145 : Hint := { inst := [], el := [], arr := [], fzl := [], pfx := [], snap := [], heads := [], ends := [], ord := [] }
noncomputable def h151 : Hint := { inst := [], el := [], arr := [], fzl := [], pfx := [], snap := [], heads := [], ends := [], ord := [] }
noncomputable def sites : BT Site := (.node 11 { fn := 83, f := Tryz.f83, c := cd Tryz.f83, h := { inst := [], el := [], arr := [], fzl := [], pfx := [], snap := [], heads := [(0, { keep := [2, 18, 19, 20, 24002, 24018, 24019, 24020, 24025, 24026, 24027, 22006], conv := [], bconv := [(6, 0, .own 4 [.bool])], nb := 23000 })], ends := [(0, { keep := [24002, 24018, 24019, 24020, 24025, 24026, 24027, 22006], conv := [], bconv := [], nb := 23000 })], ord := [], nb := 22400 }, np := 3 }
 (.node 5 { fn := 44, f := Tryz.f44, c := cd Tryz.f44, h := { inst := [], el := [], arr := [], fzl := [], pfx := [], snap := [], heads := [], ends := [], ord := [], nb := 10400 }, np := 2 }
 (.node 2 { fn := 81, f := Tryz.f81, c := cd Tryz.f81, h := { inst := [], el := [], arr := [], fzl := [], pfx := [], snap := [], heads := [], ends := [], ord := [], nb := 4400 }, np := 1 }
 (.node 1 { fn := 39, f := Tryz.f39, c := cd Tryz.f39, h := { inst := [], el := [], arr := [], fzl := [], pfx := [], snap := [], heads := [(0, { keep := [1, 2, 16, 17, 18, 4001, 4002, 2002, 2005, 2006, 2007, 2029, 2030, 2079], conv := [], bconv := [(3001, 4, .own 28 [(.sl true 25 y15)])], nb := 3000 }), (2, { keep := [1, 2, 6, 16, 17, 18, 23, 24, 25, 4001, 4002, 2002, 2005, 2006, 2007, 2029, 2030, 2079], conv := [(6, .own 25 y15)], bconv := [], nb := 3000 })], ends := [(0, { keep := [1, 2, 4001, 4002, 2002, 2005, 2006, 2007, 2029, 2030, 2079], conv := [], bconv := [], nb := 3000 }), (2, { keep := [1, 2, 6, 16, 17, 18, 4001, 4002, 2002, 2005, 2006, 2007, 2029, 2030, 2079], conv := [], bconv := [], nb := 3000 })], ord := [], nb := 2400, inl := [(31, { site := 2, base := 6000, live := [1, 2, 16, 17, 18, 23, 24, 25, 29], old := [4001, 4002, 2002, 2005, 2006, 2007, 2029, 2030, 2079] })] }, np := 1 }
 (.node 0 { fn := 15, f := Tryz.f15, c := cd Tryz.f15, h := { inst := [], el := [], arr := [], fzl := [], pfx := [], snap := [], heads := [(0, { keep := [1, 2, 3, 4, 23, 24, 2002, 2005, 2006, 2007, 2029, 2030, 2079], conv := [], bconv := [], nb := 1000 }), (2, { keep := [1, 2, 3, 4, 5, 23, 24, 33, 34, 2002, 2005, 2006, 2007, 2029, 2030, 2079], conv := [], bconv := [], nb := 1000 }), (4, { keep := [1, 2, 3, 100, 101, 2002, 2005, 2006, 2007, 2029, 2030, 2079], conv := [], bconv := [], nb := 1000 }), (6, { keep := [1, 2, 3, 100, 101, 109, 110, 111, 2002, 2005, 2006, 2007, 2029, 2030, 2079], conv := [], bconv := [], nb := 1000 }), (8, { keep := [1, 2, 3, 12, 100, 101, 109, 110, 111, 116, 117, 118, 2002, 2005, 2006, 2007, 2029, 2030, 2079], conv := [], bconv := [], nb := 1000 })], ends := [(0, { keep := [1, 2, 3, 2002, 2005, 2006, 2007, 2029, 2030, 2079], conv := [], bconv := [], nb := 1000 }), (2, { keep := [1, 2, 3, 4, 23, 24, 2002, 2005, 2006, 2007, 2029, 2030, 2079], conv := [], bconv := [], nb := 1000 }), (4, { keep := [1, 2, 2002, 2005, 2006, 2007, 2029, 2030, 2079], conv := [], bconv := [(1001, 4, .frz 28 [(.sl true 25 y0)]), (1002, 4, .frz 28 [(.sl true 25 y0)])], nb := 1000 }), (6, { keep := [1, 2, 3, 100, 101, 2002, 2005, 2006, 2007, 2029, 2030, 2079], conv := [], bconv := [], nb := 1000 }), (8, { keep := [1, 2, 3, 100, 101, 109, 110, 111, 2002, 2005, 2006, 2007, 2029, 2030, 2079], conv := [], bconv := [], nb := 1000 })], ord := [], nb := 400, inl := [(16, { site := 1, base := 4000, live := [1, 2], old := [2002, 2005, 2006, 2007, 2029, 2030, 2079] }), (64, { site := 3, base := 8000, live := [1, 2, 3, 4, 5, 7, 23, 24, 33, 34], old := [2002, 2005, 2006, 2007, 2029, 2030, 2079] })] }, np := 1 }
 .nil .nil) .nil) (.node 4 { fn := 44, f := Tryz.f44, c := cd Tryz.f44, h := { inst := [], el := [], arr := [], fzl := [], pfx := [], snap := [], heads := [], ends := [], ord := [], nb := 8400 }, np := 2 }
 (.node 3 { fn := 42, f := Tryz.f42, c := cd Tryz.f42, h := { inst := [], el := [], arr := [], fzl := [], pfx := [], snap := [], heads := [(0, { keep := [0, 2, 8001, 8002, 8003, 8004, 8005, 8007, 8023, 8024, 8033, 8034, 2002, 2005, 2006, 2007, 2029, 2030, 2079], conv := [], bconv := [], nb := 7000 }), (2, { keep := [0, 2, 3, 8001, 8002, 8003, 8004, 8005, 8007, 8023, 8024, 8033, 8034, 2002, 2005, 2006, 2007, 2029, 2030, 2079], conv := [], bconv := [], nb := 7000 })], ends := [(0, { keep := [0, 8001, 8002, 8003, 8004, 8005, 8007, 8023, 8024, 8033, 8034, 2002, 2005, 2006, 2007, 2029, 2030, 2079], conv := [], bconv := [], nb := 7000 }), (2, { keep := [0, 2, 8001, 8002, 8003, 8004, 8005, 8007, 8023, 8024, 8033, 8034, 2002, 2005, 2006, 2007, 2029, 2030, 2079], conv := [], bconv := [], nb := 7000 })], ord := [], nb := 6400 }, np := 1 }
 .nil .nil) .nil)) (.node 8 { fn := 73, f := Tryz.f73, c := cd Tryz.f73, h := { inst := [], el := [], arr := [], fzl := [], pfx := [], snap := [], heads := [(0, { keep := [2, 18, 19, 20, 18001, 18003, 18004, 18005, 18006, 18016, 18017], conv := [], bconv := [(3, 0, .own 4 [.bool])], nb := 17000 }), (2, { keep := [2, 18, 19, 20, 25, 26, 27, 18001, 18003, 18004, 18005, 18006, 18016, 18017], conv := [], bconv := [(3, 0, .own 4 [.bool])], nb := 17000 })], ends := [(0, { keep := [18001, 18003, 18004, 18005, 18006, 18016, 18017], conv := [], bconv := [], nb := 17000 }), (2, { keep := [2, 18, 19, 20, 18001, 18003, 18004, 18005, 18006, 18016, 18017], conv := [], bconv := [], nb := 17000 })], ord := [], nb := 16400, inl := [(33, { site := 9, base := 20000, live := [2, 18, 19, 20, 25, 26, 27], old := [18001, 18003, 18004, 18005, 18006, 18016, 18017] })] }, np := 3 }
 (.node 7 { fn := 44, f := Tryz.f44, c := cd Tryz.f44, h := { inst := [], el := [], arr := [], fzl := [], pfx := [], snap := [], heads := [], ends := [], ord := [], nb := 14400 }, np := 2 }
 (.node 6 { fn := 44, f := Tryz.f44, c := cd Tryz.f44, h := { inst := [], el := [], arr := [], fzl := [], pfx := [], snap := [], heads := [], ends := [], ord := [], nb := 12400 }, np := 2 }
 .nil .nil) .nil) (.node 10 { fn := 73, f := Tryz.f73, c := cd Tryz.f73, h := { inst := [], el := [], arr := [], fzl := [], pfx := [], snap := [], heads := [(0, { keep := [2, 18, 19, 20, 22006], conv := [], bconv := [(6, 0, .own 4 [.bool])], nb := 21000 }), (2, { keep := [2, 18, 19, 20, 25, 26, 27, 22006], conv := [], bconv := [(6, 0, .own 4 [.bool])], nb := 21000 })], ends := [(0, { keep := [22006], conv := [], bconv := [], nb := 21000 }), (2, { keep := [2, 18, 19, 20, 22006], conv := [], bconv := [], nb := 21000 })], ord := [], nb := 20400, inl := [(33, { site := 11, base := 24000, live := [2, 18, 19, 20, 25, 26, 27], old := [22006] })] }, np := 3 }
 (.node 9 { fn := 74, f := Tryz.f74, c := cd Tryz.f74, h := { inst := [], el := [], arr := [], fzl := [], pfx := [], snap := [], heads := [(0, { keep := [1, 4, 19, 20, 21, 20002, 20018, 20019, 20020, 20025, 20026, 20027, 18001, 18003, 18004, 18005, 18006, 18016, 18017], conv := [], bconv := [(3, 0, .own 4 [.bool])], nb := 19000 })], ends := [(0, { keep := [20002, 20018, 20019, 20020, 20025, 20026, 20027, 18001, 18003, 18004, 18005, 18006, 18016, 18017], conv := [], bconv := [], nb := 19000 })], ord := [], nb := 18400 }, np := 5 }
 .nil .nil) .nil))) (.node 17 { fn := 103, f := Tryz.f103, c := cd Tryz.f103, h := { inst := [], el := [], arr := [], fzl := [], pfx := [], snap := [], heads := [(0, { keep := [1, 2, 8, 9, 10, 36001, 36002, 36005, 36007, 36060, 36061, 36062, 36112, 36113, 36114, 28002, 28018, 28019, 28020, 28025, 28026, 28027, 26006, 26007], conv := [], bconv := [(7, 0, .own 3 [(.int .i64)]), (7, 1, .own 3 [(.int .i64)]), (7, 2, .own 3 [(.int .i64)]), (7, 3, .own 3 [(.int .i64)])], nb := 35000 })], ends := [(0, { keep := [1, 2, 36001, 36002, 36005, 36007, 36060, 36061, 36062, 36112, 36113, 36114, 28002, 28018, 28019, 28020, 28025, 28026, 28027, 26006, 26007], conv := [], bconv := [], nb := 35000 })], ord := [], nb := 34400 }, np := 3 }
 (.node 14 { fn := 103, f := Tryz.f103, c := cd Tryz.f103, h := { inst := [], el := [], arr := [], fzl := [], pfx := [], snap := [], heads := [(0, { keep := [1, 2, 8, 9, 10, 30001, 30002, 30003, 30004, 30005, 30006, 28002, 28018, 28019, 28020, 28025, 28026, 28027, 26006, 26007], conv := [], bconv := [(7, 0, .own 3 [(.int .i64)]), (7, 1, .own 3 [(.int .i64)]), (7, 2, .own 3 [(.int .i64)]), (7, 3, .own 3 [(.int .i64)])], nb := 29000 })], ends := [(0, { keep := [1, 2, 30001, 30002, 30003, 30004, 30005, 30006, 28002, 28018, 28019, 28020, 28025, 28026, 28027, 26006, 26007], conv := [], bconv := [], nb := 29000 })], ord := [], nb := 28400 }, np := 3 }
 (.node 13 { fn := 102, f := Tryz.f102, c := cd Tryz.f102, h := { inst := [], el := [], arr := [], fzl := [], pfx := [], snap := [], heads := [(1, { keep := [1, 2, 5, 7, 60, 61, 62, 28002, 28018, 28019, 28020, 28025, 28026, 28027, 26006, 26007], conv := [], bconv := [(7, 0, .own 3 [(.int .i64)]), (7, 1, .own 3 [(.int .i64)]), (7, 2, .own 3 [(.int .i64)]), (7, 3, .own 3 [(.int .i64)])], nb := 27000 }), (3, { keep := [1, 2, 5, 7, 10, 60, 61, 62, 90, 91, 92, 28002, 28018, 28019, 28020, 28025, 28026, 28027, 26006, 26007], conv := [], bconv := [(7, 0, .own 3 [(.int .i64)]), (7, 1, .own 3 [(.int .i64)]), (7, 2, .own 3 [(.int .i64)]), (7, 3, .own 3 [(.int .i64)])], nb := 27000 }), (5, { keep := [1, 2, 5, 7, 60, 61, 62, 112, 113, 114, 28002, 28018, 28019, 28020, 28025, 28026, 28027, 26006, 26007], conv := [], bconv := [(7, 0, .own 3 [(.int .i64)]), (7, 1, .own 3 [(.int .i64)]), (7, 2, .own 3 [(.int .i64)]), (7, 3, .own 3 [(.int .i64)])], nb := 27000 })], ends := [(1, { keep := [28002, 28018, 28019, 28020, 28025, 28026, 28027, 26006, 26007], conv := [], bconv := [], nb := 27000 }), (3, { keep := [1, 2, 5, 7, 10, 60, 61, 62, 28002, 28018, 28019, 28020, 28025, 28026, 28027, 26006, 26007], conv := [], bconv := [], nb := 27000 }), (5, { keep := [1, 2, 5, 7, 60, 61, 62, 28002, 28018, 28019, 28020, 28025, 28026, 28027, 26006, 26007], conv := [], bconv := [], nb := 27000 })], ord := [], nb := 26400, inl := [(34, { site := 14, base := 30000, live := [1, 2, 3, 4, 5, 6], old := [28002, 28018, 28019, 28020, 28025, 28026, 28027, 26006, 26007] }), (49, { site := 15, base := 32000, live := [1, 2, 3, 4, 5, 6], old := [28002, 28018, 28019, 28020, 28025, 28026, 28027, 26006, 26007] }), (109, { site := 16, base := 34000, live := [1, 2, 5, 7, 10, 60, 61, 62, 90, 91, 92], old := [28002, 28018, 28019, 28020, 28025, 28026, 28027, 26006, 26007] }), (131, { site := 17, base := 36000, live := [1, 2, 5, 7, 60, 61, 62, 112, 113, 114], old := [28002, 28018, 28019, 28020, 28025, 28026, 28027, 26006, 26007] })] }, np := 6 }
 (.node 12 { fn := 73, f := Tryz.f73, c := cd Tryz.f73, h := { inst := [], el := [], arr := [], fzl := [], pfx := [], snap := [], heads := [(0, { keep := [2, 18, 19, 20, 26006, 26007], conv := [], bconv := [(7, 0, .own 3 [(.int .i64)]), (7, 1, .own 3 [(.int .i64)]), (7, 2, .own 3 [(.int .i64)]), (7, 3, .own 3 [(.int .i64)])], nb := 25000 }), (2, { keep := [2, 18, 19, 20, 25, 26, 27, 26006, 26007], conv := [], bconv := [(7, 0, .own 3 [(.int .i64)]), (7, 1, .own 3 [(.int .i64)]), (7, 2, .own 3 [(.int .i64)]), (7, 3, .own 3 [(.int .i64)])], nb := 25000 })], ends := [(0, { keep := [26006, 26007], conv := [], bconv := [], nb := 25000 }), (2, { keep := [2, 18, 19, 20, 26006, 26007], conv := [], bconv := [], nb := 25000 })], ord := [], nb := 24400, inl := [(33, { site := 13, base := 28000, live := [2, 18, 19, 20, 25, 26, 27], old := [26006, 26007] })] }, np := 3 }
 .nil .nil) .nil) (.node 16 { fn := 103, f := Tryz.f103, c := cd Tryz.f103, h := { inst := [], el := [], arr := [], fzl := [], pfx := [], snap := [], heads := [(0, { keep := [1, 2, 8, 9, 10, 34001, 34002, 34005, 34007, 34010, 34060, 34061, 34062, 34090, 34091, 34092, 28002, 28018, 28019, 28020, 28025, 28026, 28027, 26006, 26007], conv := [], bconv := [(7, 0, .own 3 [(.int .i64)]), (7, 1, .own 3 [(.int .i64)]), (7, 2, .own 3 [(.int .i64)]), (7, 3, .own 3 [(.int .i64)])], nb := 33000 })], ends := [(0, { keep := [1, 2, 34001, 34002, 34005, 34007, 34010, 34060, 34061, 34062, 34090, 34091, 34092, 28002, 28018, 28019, 28020, 28025, 28026, 28027, 26006, 26007], conv := [], bconv := [], nb := 33000 })], ord := [], nb := 32400 }, np := 3 }
 (.node 15 { fn := 103, f := Tryz.f103, c := cd Tryz.f103, h := { inst := [], el := [], arr := [], fzl := [], pfx := [], snap := [], heads := [(0, { keep := [1, 2, 8, 9, 10, 32001, 32002, 32003, 32004, 32005, 32006, 28002, 28018, 28019, 28020, 28025, 28026, 28027, 26006, 26007], conv := [], bconv := [(7, 0, .own 3 [(.int .i64)]), (7, 1, .own 3 [(.int .i64)]), (7, 2, .own 3 [(.int .i64)]), (7, 3, .own 3 [(.int .i64)])], nb := 31000 })], ends := [(0, { keep := [1, 2, 32001, 32002, 32003, 32004, 32005, 32006, 28002, 28018, 28019, 28020, 28025, 28026, 28027, 26006, 26007], conv := [], bconv := [], nb := 31000 })], ord := [], nb := 30400 }, np := 3 }
 .nil .nil) .nil)) (.node 20 { fn := 73, f := Tryz.f73, c := cd Tryz.f73, h := { inst := [], el := [], arr := [], fzl := [], pfx := [], snap := [], heads := [(0, { keep := [2, 18, 19, 20, 42006], conv := [], bconv := [(6, 0, .own 4 [.bool])], nb := 41000 }), (2, { keep := [2, 18, 19, 20, 25, 26, 27, 42006], conv := [], bconv := [(6, 0, .own 4 [.bool])], nb := 41000 })], ends := [(0, { keep := [42006], conv := [], bconv := [], nb := 41000 }), (2, { keep := [2, 18, 19, 20, 42006], conv := [], bconv := [], nb := 41000 })], ord := [], nb := 40400, inl := [(33, { site := 21, base := 44000, live := [2, 18, 19, 20, 25, 26, 27], old := [42006] })] }, np := 3 }
 (.node 19 { fn := 107, f := Tryz.f107, c := cd Tryz.f107, h := { inst := [], el := [], arr := [], fzl := [], pfx := [], snap := [], heads := [], ends := [], ord := [(1, [0, 1, 2, 3, 4, 5, 6, 7, 8, 9, 10, 11, 12])], nb := 38400, cks := [(15, [(5, 92, 1), (6, 3, 2)])] }, np := 4 }
 (.node 18 { fn := 73, f := Tryz.f73, c := cd Tryz.f73, h := { inst := [], el := [], arr := [], fzl := [], pfx := [], snap := [], heads := [(0, { keep := [2, 18, 19, 20, 38001, 38003, 38004, 38013, 38014], conv := [], bconv := [(3, 0, .own 23 y3)], nb := 37000 }), (2, { keep := [2, 18, 19, 20, 25, 26, 27, 38001, 38003, 38004, 38013, 38014], conv := [], bconv := [(3, 0, .own 23 y3)], nb := 37000 })], ends := [(0, { keep := [38001, 38003, 38004, 38013, 38014], conv := [], bconv := [], nb := 37000 }), (2, { keep := [2, 18, 19, 20, 38001, 38003, 38004, 38013, 38014], conv := [], bconv := [], nb := 37000 })], ord := [], nb := 36400, inl := [(33, { site := 19, base := 40000, live := [2, 18, 19, 20, 25, 26, 27], old := [38001, 38003, 38004, 38013, 38014] })] }, np := 3 }
 .nil .nil) .nil) (.node 21 { fn := 109, f := Tryz.f109, c := cd Tryz.f109, h := { inst := [], el := [], arr := [], fzl := [], pfx := [], snap := [], heads := [(0, { keep := [1, 2, 17, 18, 19, 44002, 44018, 44019, 44020, 44025, 44026, 44027, 42006], conv := [], bconv := [(6, 0, .own 4 [.bool])], nb := 43000 }), (2, { keep := [1, 2, 17, 18, 19, 29, 30, 31, 44002, 44018, 44019, 44020, 44025, 44026, 44027, 42006], conv := [], bconv := [(6, 0, .own 4 [.bool])], nb := 43000 })], ends := [(0, { keep := [44002, 44018, 44019, 44020, 44025, 44026, 44027, 42006], conv := [], bconv := [], nb := 43000 }), (2, { keep := [1, 2, 17, 18, 19, 44002, 44018, 44019, 44020, 44025, 44026, 44027, 42006], conv := [], bconv := [], nb := 43000 })], ord := [], nb := 42400 }, np := 3 }
 .nil .nil))))
noncomputable def bodies : Bodies := (.node 60 (Tryz.f60, h60)
 (.node 31 (Tryz.f31, h31)
 (.node 17 (Tryz.f17, h17)
 (.node 9 (Tryz.f9, h9)
 (.node 6 (Tryz.f6, h6)
 (.node 4 (Tryz.f4, h4)
 (.node 3 (Tryz.f3, h3)
 .nil .nil) (.node 5 (Tryz.f5, h5)
 .nil .nil)) (.node 8 (Tryz.f8, h8)
 (.node 7 (Tryz.f7, h7)
 .nil .nil) .nil)) (.node 13 (Tryz.f13, h13)
 (.node 11 (Tryz.f11, h11)
 (.node 10 (Tryz.f10, h10)
 .nil .nil) (.node 12 (Tryz.f12, h12)
 .nil .nil)) (.node 16 (Tryz.f16, h16)
 (.node 14 (Tryz.f14, h14)
 .nil .nil) .nil))) (.node 24 (Tryz.f24, h24)
 (.node 21 (Tryz.f21, h21)
 (.node 19 (Tryz.f19, h19)
 (.node 18 (Tryz.f18, h18)
 .nil .nil) (.node 20 (Tryz.f20, h20)
 .nil .nil)) (.node 23 (Tryz.f23, h23)
 (.node 22 (Tryz.f22, h22)
 .nil .nil) .nil)) (.node 28 (Tryz.f28, h28)
 (.node 26 (Tryz.f26, h26)
 (.node 25 (Tryz.f25, h25)
 .nil .nil) (.node 27 (Tryz.f27, h27)
 .nil .nil)) (.node 30 (Tryz.f30, h30)
 (.node 29 (Tryz.f29, h29)
 .nil .nil) .nil)))) (.node 47 (Tryz.f47, h47)
 (.node 38 (Tryz.f38, h38)
 (.node 35 (Tryz.f35, h35)
 (.node 33 (Tryz.f33, h33)
 (.node 32 (Tryz.f32, h32)
 .nil .nil) (.node 34 (Tryz.f34, h34)
 .nil .nil)) (.node 37 (Tryz.f37, h37)
 (.node 36 (Tryz.f36, h36)
 .nil .nil) .nil)) (.node 43 (Tryz.f43, h43)
 (.node 40 (Tryz.f40, h40)
 (.node 39 (Tryz.f39, h39)
 .nil .nil) (.node 41 (Tryz.f41, h41)
 .nil .nil)) (.node 46 (Tryz.f46, h46)
 (.node 45 (Tryz.f45, h45)
 .nil .nil) .nil))) (.node 54 (Tryz.f54, h54)
 (.node 51 (Tryz.f51, h51)
 (.node 49 (Tryz.f49, h49)
 (.node 48 (Tryz.f48, h48)
 .nil .nil) (.node 50 (Tryz.f50, h50)
 .nil .nil)) (.node 53 (Tryz.f53, h53)
 (.node 52 (Tryz.f52, h52)
 .nil .nil) .nil)) (.node 57 (Tryz.f57, h57)
 (.node 56 (Tryz.f56, h56)
 (.node 55 (Tryz.f55, h55)
 .nil .nil) .nil) (.node 59 (Tryz.f59, h59)
 (.node 58 (Tryz.f58, h58)
 .nil .nil) .nil))))) (.node 94 (Tryz.f94, h94)
 (.node 79 (Tryz.f79, h79)
 (.node 70 (Tryz.f70, h70)
 (.node 66 (Tryz.f66, h66)
 (.node 63 (Tryz.f63, h63)
 (.node 62 (Tryz.f62, h62)
 .nil .nil) (.node 64 (Tryz.f64, h64)
 .nil .nil)) (.node 69 (Tryz.f69, h69)
 (.node 67 (Tryz.f67, h67)
 .nil .nil) .nil)) (.node 76 (Tryz.f76, h76)
 (.node 72 (Tryz.f72, h72)
 (.node 71 (Tryz.f71, h71)
 .nil .nil) (.node 75 (Tryz.f75, h75)
 .nil .nil)) (.node 78 (Tryz.f78, h78)
 (.node 77 (Tryz.f77, h77)
 .nil .nil) .nil))) (.node 87 (Tryz.f87, h87)
 (.node 84 (Tryz.f84, h84)
 (.node 81 (Tryz.f81, h81)
 (.node 80 (Tryz.f80, h80)
 .nil .nil) (.node 82 (Tryz.f82, h82)
 .nil .nil)) (.node 86 (Tryz.f86, h86)
 (.node 85 (Tryz.f85, h85)
 .nil .nil) .nil)) (.node 91 (Tryz.f91, h91)
 (.node 89 (Tryz.f89, h89)
 (.node 88 (Tryz.f88, h88)
 .nil .nil) (.node 90 (Tryz.f90, h90)
 .nil .nil)) (.node 93 (Tryz.f93, h93)
 (.node 92 (Tryz.f92, h92)
 .nil .nil) .nil)))) (.node 115 (Tryz.f115, h115)
 (.node 104 (Tryz.f104, h104)
 (.node 99 (Tryz.f99, h99)
 (.node 96 (Tryz.f96, h96)
 (.node 95 (Tryz.f95, h95)
 .nil .nil) (.node 97 (Tryz.f97, h97)
 .nil .nil)) (.node 101 (Tryz.f101, h101)
 (.node 100 (Tryz.f100, h100)
 .nil .nil) .nil)) (.node 112 (Tryz.f112, h112)
 (.node 110 (Tryz.f110, h110)
 (.node 108 (Tryz.f108, h108)
 .nil .nil) (.node 111 (Tryz.f111, h111)
 .nil .nil)) (.node 114 (Tryz.f114, h114)
 (.node 113 (Tryz.f113, h113)
 .nil .nil) .nil))) (.node 135 (Tryz.f135, h135)
 (.node 127 (Tryz.f127, h127)
 (.node 125 (Tryz.f125, h125)
 (.node 124 (Tryz.f124, h124)
 .nil .nil) (.node 126 (Tryz.f126, h126)
 .nil .nil)) (.node 129 (Tryz.f129, h129)
 (.node 128 (Tryz.f128, h128)
 .nil .nil) .nil)) (.node 139 (Tryz.f139, h139)
 (.node 137 (Tryz.f137, h137)
 (.node 136 (Tryz.f136, h136)
 .nil .nil) .nil) (.node 151 (Tryz.f151, h151)
 (.node 145 (Tryz.f145, h145)
 .nil .nil) .nil))))))
noncomputable def E : Env := { tt := types, pt := ptrs, sg := sigs, eqt := eqts, mt := maps }
theorem env_ok : envB Tryz.prog E = true := by kernel_rfl
theorem env_sound : EnvOk Tryz.prog E := envB_sound env_ok
theorem mixed : Tryz.prog.follows .mixedOrders = true := by kernel_rfl
theorem bodies_ok : bodies.allB (fnB E) = true := by kernel_rfl
theorem sigs_ok : sigs.allB sgB = true := by kernel_rfl
theorem sites_ok : sites.allB (siteB E) = true := by kernel_rfl
theorem inOf {m : Nat} {f : Func} {s : Sig} (h1 : Tryz.prog.funcs[m]? = some f) (h2 : (f.name == "runtime.NumGoroutine") = false) (h3 : f.body.isNone = false) : FnIn Tryz.prog m s := ⟨f, h1, by simpa using h2, h3⟩
theorem in3 {s : Sig} : FnIn Tryz.prog 3 s := inOf Tryz.func3 (by kernel_rfl) (by kernel_rfl)
theorem in4 {s : Sig} : FnIn Tryz.prog 4 s := inOf Tryz.func4 (by kernel_rfl) (by kernel_rfl)
theorem in5 {s : Sig} : FnIn Tryz.prog 5 s := inOf Tryz.func5 (by kernel_rfl) (by kernel_rfl)
theorem in6 {s : Sig} : FnIn Tryz.prog 6 s := inOf Tryz.func6 (by kernel_rfl) (by kernel_rfl)
theorem in7 {s : Sig} : FnIn Tryz.prog 7 s := inOf Tryz.func7 (by kernel_rfl) (by kernel_rfl)
theorem in8 {s : Sig} : FnIn Tryz.prog 8 s := inOf Tryz.func8 (by kernel_rfl) (by kernel_rfl)
theorem in9 {s : Sig} : FnIn Tryz.prog 9 s := inOf Tryz.func9 (by kernel_rfl) (by kernel_rfl)
theorem in10 {s : Sig} : FnIn Tryz.prog 10 s := inOf Tryz.func10 (by kernel_rfl) (by kernel_rfl)
theorem in11 {s : Sig} : FnIn Tryz.prog 11 s := inOf Tryz.func11 (by kernel_rfl) (by kernel_rfl)
theorem in12 {s : Sig} : FnIn Tryz.prog 12 s := inOf Tryz.func12 (by kernel_rfl) (by kernel_rfl)
theorem in13 {s : Sig} : FnIn Tryz.prog 13 s := inOf Tryz.func13 (by kernel_rfl) (by kernel_rfl)
theorem in14 {s : Sig} : FnIn Tryz.prog 14 s := inOf Tryz.func14 (by kernel_rfl) (by kernel_rfl)
theorem in16 {s : Sig} : FnIn Tryz.prog 16 s := inOf Tryz.func16 (by kernel_rfl) (by kernel_rfl)
theorem in17 {s : Sig} : FnIn Tryz.prog 17 s := inOf Tryz.func17 (by kernel_rfl) (by kernel_rfl)
theorem in18 {s : Sig} : FnIn Tryz.prog 18 s := inOf Tryz.func18 (by kernel_rfl) (by kernel_rfl)
theorem in19 {s : Sig} : FnIn Tryz.prog 19 s := inOf Tryz.func19 (by kernel_rfl) (by kernel_rfl)
theorem in20 {s : Sig} : FnIn Tryz.prog 20 s := inOf Tryz.func20 (by kernel_rfl) (by kernel_rfl)
theorem in21 {s : Sig} : FnIn Tryz.prog 21 s := inOf Tryz.func21 (by kernel_rfl) (by kernel_rfl)
theorem in22 {s : Sig} : FnIn Tryz.prog 22 s := inOf Tryz.func22 (by kernel_rfl) (by kernel_rfl)
theorem in23 {s : Sig} : FnIn Tryz.prog 23 s := inOf Tryz.func23 (by kernel_rfl) (by kernel_rfl)
theorem in24 {s : Sig} : FnIn Tryz.prog 24 s := inOf Tryz.func24 (by kernel_rfl) (by kernel_rfl)
theorem in25 {s : Sig} : FnIn Tryz.prog 25 s := inOf Tryz.func25 (by kernel_rfl) (by kernel_rfl)
theorem in26 {s : Sig} : FnIn Tryz.prog 26 s := inOf Tryz.func26 (by kernel_rfl) (by kernel_rfl)
theorem in27 {s : Sig} : FnIn Tryz.prog 27 s := inOf Tryz.func27 (by kernel_rfl) (by kernel_rfl)
theorem in28 {s : Sig} : FnIn Tryz.prog 28 s := inOf Tryz.func28 (by kernel_rfl) (by kernel_rfl)
theorem in29 {s : Sig} : FnIn Tryz.prog 29 s := inOf Tryz.func29 (by kernel_rfl) (by kernel_rfl)
theorem in30 {s : Sig} : FnIn Tryz.prog 30 s := inOf Tryz.func30 (by kernel_rfl) (by kernel_rfl)
theorem in31 {s : Sig} : FnIn Tryz.prog 31 s := inOf Tryz.func31 (by kernel_rfl) (by kernel_rfl)
theorem in32 {s : Sig} : FnIn Tryz.prog 32 s := inOf Tryz.func32 (by kernel_rfl) (by kernel_rfl)
theorem in33 {s : Sig} : FnIn Tryz.prog 33 s := inOf Tryz.func33 (by kernel_rfl) (by kernel_rfl)
theorem in34 {s : Sig} : FnIn Tryz.prog 34 s := inOf Tryz.func34 (by kernel_rfl) (by kernel_rfl)
theorem in35 {s : Sig} : FnIn Tryz.prog 35 s := inOf Tryz.func35 (by kernel_rfl) (by kernel_rfl)
theorem in36 {s : Sig} : FnIn Tryz.prog 36 s := inOf Tryz.func36 (by kernel_rfl) (by kernel_rfl)
theorem in37 {s : Sig} : FnIn Tryz.prog 37 s := inOf Tryz.func37 (by kernel_rfl) (by kernel_rfl)
theorem in38 {s : Sig} : FnIn Tryz.prog 38 s := inOf Tryz.func38 (by kernel_rfl) (by kernel_rfl)
theorem in39 {s : Sig} : FnIn Tryz.prog 39 s := inOf Tryz.func39 (by kernel_rfl) (by kernel_rfl)
theorem in40 {s : Sig} : FnIn Tryz.prog 40 s := inOf Tryz.func40 (by kernel_rfl) (by kernel_rfl)
theorem in41 {s : Sig} : FnIn Tryz.prog 41 s := inOf Tryz.func41 (by kernel_rfl) (by kernel_rfl)
theorem in42 {s : Sig} : FnIn Tryz.prog 42 s := inOf Tryz.func42 (by kernel_rfl) (by kernel_rfl)
theorem in43 {s : Sig} : FnIn Tryz.prog 43 s := inOf Tryz.func43 (by kernel_rfl) (by kernel_rfl)
theorem in45 {s : Sig} : FnIn Tryz.prog 45 s := inOf Tryz.func45 (by kernel_rfl) (by kernel_rfl)
theorem in46 {s : Sig} : FnIn Tryz.prog 46 s := inOf Tryz.func46 (by kernel_rfl) (by kernel_rfl)
theorem in47 {s : Sig} : FnIn Tryz.prog 47 s := inOf Tryz.func47 (by kernel_rfl) (by kernel_rfl)
theorem in48 {s : Sig} : FnIn Tryz.prog 48 s := inOf Tryz.func48 (by kernel_rfl) (by kernel_rfl)
theorem in49 {s : Sig} : FnIn Tryz.prog 49 s := inOf Tryz.func49 (by kernel_rfl) (by kernel_rfl)
theorem in50 {s : Sig} : FnIn Tryz.prog 50 s := inOf Tryz.func50 (by kernel_rfl) (by kernel_rfl)
theorem in51 {s : Sig} : FnIn Tryz.prog 51 s := inOf Tryz.func51 (by kernel_rfl) (by kernel_rfl)
theorem in52 {s : Sig} : FnIn Tryz.prog 52 s := inOf Tryz.func52 (by kernel_rfl) (by kernel_rfl)
theorem in53 {s : Sig} : FnIn Tryz.prog 53 s := inOf Tryz.func53 (by kernel_rfl) (by kernel_rfl)
theorem in54 {s : Sig} : FnIn Tryz.prog 54 s := inOf Tryz.func54 (by kernel_rfl) (by kernel_rfl)
theorem in55 {s : Sig} : FnIn Tryz.prog 55 s := inOf Tryz.func55 (by kernel_rfl) (by kernel_rfl)
theorem in56 {s : Sig} : FnIn Tryz.prog 56 s := inOf Tryz.func56 (by kernel_rfl) (by kernel_rfl)
theorem in57 {s : Sig} : FnIn Tryz.prog 57 s := inOf Tryz.func57 (by kernel_rfl) (by kernel_rfl)
theorem in58 {s : Sig} : FnIn Tryz.prog 58 s := inOf Tryz.func58 (by kernel_rfl) (by kernel_rfl)
theorem in59 {s : Sig} : FnIn Tryz.prog 59 s := inOf Tryz.func59 (by kernel_rfl) (by kernel_rfl)
theorem in60 {s : Sig} : FnIn Tryz.prog 60 s := inOf Tryz.func60 (by kernel_rfl) (by kernel_rfl)
theorem in61 {s : Sig} : FnIn Tryz.prog 61 s := inOf Tryz.func61 (by kernel_rfl) (by kernel_rfl)
theorem in62 {s : Sig} : FnIn Tryz.prog 62 s := inOf Tryz.func62 (by kernel_rfl) (by kernel_rfl)
theorem in63 {s : Sig} : FnIn Tryz.prog 63 s := inOf Tryz.func63 (by kernel_rfl) (by kernel_rfl)
theorem in64 {s : Sig} : FnIn Tryz.prog 64 s := inOf Tryz.func64 (by kernel_rfl) (by kernel_rfl)
theorem in65 {s : Sig} : FnIn Tryz.prog 65 s := inOf Tryz.func65 (by kernel_rfl) (by kernel_rfl)
theorem in66 {s : Sig} : FnIn Tryz.prog 66 s := inOf Tryz.func66 (by kernel_rfl) (by kernel_rfl)
theorem in67 {s : Sig} : FnIn Tryz.prog 67 s := inOf Tryz.func67 (by kernel_rfl) (by kernel_rfl)
theorem in68 {s : Sig} : FnIn Tryz.prog 68 s := inOf Tryz.func68 (by kernel_rfl) (by kernel_rfl)
theorem in69 {s : Sig} : FnIn Tryz.prog 69 s := inOf Tryz.func69 (by kernel_rfl) (by kernel_rfl)
theorem in70 {s : Sig} : FnIn Tryz.prog 70 s := inOf Tryz.func70 (by kernel_rfl) (by kernel_rfl)
theorem in71 {s : Sig} : FnIn Tryz.prog 71 s := inOf Tryz.func71 (by kernel_rfl) (by kernel_rfl)
theorem in72 {s : Sig} : FnIn Tryz.prog 72 s := inOf Tryz.func72 (by kernel_rfl) (by kernel_rfl)
theorem in75 {s : Sig} : FnIn Tryz.prog 75 s := inOf Tryz.func75 (by kernel_rfl) (by kernel_rfl)
theorem in76 {s : Sig} : FnIn Tryz.prog 76 s := inOf Tryz.func76 (by kernel_rfl) (by kernel_rfl)
theorem in77 {s : Sig} : FnIn Tryz.prog 77 s := inOf Tryz.func77 (by kernel_rfl) (by kernel_rfl)
theorem in78 {s : Sig} : FnIn Tryz.prog 78 s := inOf Tryz.func78 (by kernel_rfl) (by kernel_rfl)
theorem in79 {s : Sig} : FnIn Tryz.prog 79 s := inOf Tryz.func79 (by kernel_rfl) (by kernel_rfl)
theorem in80 {s : Sig} : FnIn Tryz.prog 80 s := inOf Tryz.func80 (by kernel_rfl) (by kernel_rfl)
theorem in81 {s : Sig} : FnIn Tryz.prog 81 s := inOf Tryz.func81 (by kernel_rfl) (by kernel_rfl)
theorem in82 {s : Sig} : FnIn Tryz.prog 82 s := inOf Tryz.func82 (by kernel_rfl) (by kernel_rfl)
theorem in84 {s : Sig} : FnIn Tryz.prog 84 s := inOf Tryz.func84 (by kernel_rfl) (by kernel_rfl)
theorem in85 {s : Sig} : FnIn Tryz.prog 85 s := inOf Tryz.func85 (by kernel_rfl) (by kernel_rfl)
theorem in86 {s : Sig} : FnIn Tryz.prog 86 s := inOf Tryz.func86 (by kernel_rfl) (by kernel_rfl)
theorem in87 {s : Sig} : FnIn Tryz.prog 87 s := inOf Tryz.func87 (by kernel_rfl) (by kernel_rfl)
theorem in88 {s : Sig} : FnIn Tryz.prog 88 s := inOf Tryz.func88 (by kernel_rfl) (by kernel_rfl)
theorem in89 {s : Sig} : FnIn Tryz.prog 89 s := inOf Tryz.func89 (by kernel_rfl) (by kernel_rfl)
theorem in90 {s : Sig} : FnIn Tryz.prog 90 s := inOf Tryz.func90 (by kernel_rfl) (by kernel_rfl)
theorem in91 {s : Sig} : FnIn Tryz.prog 91 s := inOf Tryz.func91 (by kernel_rfl) (by kernel_rfl)
theorem in92 {s : Sig} : FnIn Tryz.prog 92 s := inOf Tryz.func92 (by kernel_rfl) (by kernel_rfl)
theorem in93 {s : Sig} : FnIn Tryz.prog 93 s := inOf Tryz.func93 (by kernel_rfl) (by kernel_rfl)
theorem in94 {s : Sig} : FnIn Tryz.prog 94 s := inOf Tryz.func94 (by kernel_rfl) (by kernel_rfl)
theorem in95 {s : Sig} : FnIn Tryz.prog 95 s := inOf Tryz.func95 (by kernel_rfl) (by kernel_rfl)
theorem in96 {s : Sig} : FnIn Tryz.prog 96 s := inOf Tryz.func96 (by kernel_rfl) (by kernel_rfl)
theorem in97 {s : Sig} : FnIn Tryz.prog 97 s := inOf Tryz.func97 (by kernel_rfl) (by kernel_rfl)
theorem in98 {s : Sig} : FnIn Tryz.prog 98 s := inOf Tryz.func98 (by kernel_rfl) (by kernel_rfl)
theorem in99 {s : Sig} : FnIn Tryz.prog 99 s := inOf Tryz.func99 (by kernel_rfl) (by kernel_rfl)
theorem in100 {s : Sig} : FnIn Tryz.prog 100 s := inOf Tryz.func100 (by kernel_rfl) (by kernel_rfl)
theorem in101 {s : Sig} : FnIn Tryz.prog 101 s := inOf Tryz.func101 (by kernel_rfl) (by kernel_rfl)
theorem in104 {s : Sig} : FnIn Tryz.prog 104 s := inOf Tryz.func104 (by kernel_rfl) (by kernel_rfl)
theorem in105 {s : Sig} : FnIn Tryz.prog 105 s := inOf Tryz.func105 (by kernel_rfl) (by kernel_rfl)
theorem in106 {s : Sig} : FnIn Tryz.prog 106 s := inOf Tryz.func106 (by kernel_rfl) (by kernel_rfl)
theorem in108 {s : Sig} : FnIn Tryz.prog 108 s := inOf Tryz.func108 (by kernel_rfl) (by kernel_rfl)
theorem in110 {s : Sig} : FnIn Tryz.prog 110 s := inOf Tryz.func110 (by kernel_rfl) (by kernel_rfl)
theorem in111 {s : Sig} : FnIn Tryz.prog 111 s := inOf Tryz.func111 (by kernel_rfl) (by kernel_rfl)
theorem in112 {s : Sig} : FnIn Tryz.prog 112 s := inOf Tryz.func112 (by kernel_rfl) (by kernel_rfl)
theorem in113 {s : Sig} : FnIn Tryz.prog 113 s := inOf Tryz.func113 (by kernel_rfl) (by kernel_rfl)
theorem in114 {s : Sig} : FnIn Tryz.prog 114 s := inOf Tryz.func114 (by kernel_rfl) (by kernel_rfl)
theorem in115 {s : Sig} : FnIn Tryz.prog 115 s := inOf Tryz.func115 (by kernel_rfl) (by kernel_rfl)
theorem in123 {s : Sig} : FnIn Tryz.prog 123 s := inOf Tryz.func123 (by kernel_rfl) (by kernel_rfl)
theorem in124 {s : Sig} : FnIn Tryz.prog 124 s := inOf Tryz.func124 (by kernel_rfl) (by kernel_rfl)
theorem in125 {s : Sig} : FnIn Tryz.prog 125 s := inOf Tryz.func125 (by kernel_rfl) (by kernel_rfl)
theorem in126 {s : Sig} : FnIn Tryz.prog 126 s := inOf Tryz.func126 (by kernel_rfl) (by kernel_rfl)
theorem in127 {s : Sig} : FnIn Tryz.prog 127 s := inOf Tryz.func127 (by kernel_rfl) (by kernel_rfl)
theorem in128 {s : Sig} : FnIn Tryz.prog 128 s := inOf Tryz.func128 (by kernel_rfl) (by kernel_rfl)
theorem in129 {s : Sig} : FnIn Tryz.prog 129 s := inOf Tryz.func129 (by kernel_rfl) (by kernel_rfl)
theorem in131 {s : Sig} : FnIn Tryz.prog 131 s := inOf Tryz.func131 (by kernel_rfl) (by kernel_rfl)
theorem in132 {s : Sig} : FnIn Tryz.prog 132 s := inOf Tryz.func132 (by kernel_rfl) (by kernel_rfl)
theorem in135 {s : Sig} : FnIn Tryz.prog 135 s := inOf Tryz.func135 (by kernel_rfl) (by kernel_rfl)
theorem in136 {s : Sig} : FnIn Tryz.prog 136 s := inOf Tryz.func136 (by kernel_rfl) (by kernel_rfl)
theorem in137 {s : Sig} : FnIn Tryz.prog 137 s := inOf Tryz.func137 (by kernel_rfl) (by kernel_rfl)
theorem in139 {s : Sig} : FnIn Tryz.prog 139 s := inOf Tryz.func139 (by kernel_rfl) (by kernel_rfl)
theorem in140 {s : Sig} : FnIn Tryz.prog 140 s := inOf Tryz.func140 (by kernel_rfl) (by kernel_rfl)
theorem in141 {s : Sig} : FnIn Tryz.prog 141 s := inOf Tryz.func141 (by kernel_rfl) (by kernel_rfl)
theorem in142 {s : Sig} : FnIn Tryz.prog 142 s := inOf Tryz.func142 (by kernel_rfl) (by kernel_rfl)
theorem in143 {s : Sig} : FnIn Tryz.prog 143 s := inOf Tryz.func143 (by kernel_rfl) (by kernel_rfl)
theorem in144 {s : Sig} : FnIn Tryz.prog 144 s := inOf Tryz.func144 (by kernel_rfl) (by kernel_rfl)
theorem in145 {s : Sig} : FnIn Tryz.prog 145 s := inOf Tryz.func145 (by kernel_rfl) (by kernel_rfl)
theorem in146 {s : Sig} : FnIn Tryz.prog 146 s := inOf Tryz.func146 (by kernel_rfl) (by kernel_rfl)
theorem in147 {s : Sig} : FnIn Tryz.prog 147 s := inOf Tryz.func147 (by kernel_rfl) (by kernel_rfl)
theorem in148 {s : Sig} : FnIn Tryz.prog 148 s := inOf Tryz.func148 (by kernel_rfl) (by kernel_rfl)
theorem in149 {s : Sig} : FnIn Tryz.prog 149 s := inOf Tryz.func149 (by kernel_rfl) (by kernel_rfl)
theorem in150 {s : Sig} : FnIn Tryz.prog 150 s := inOf Tryz.func150 (by kernel_rfl) (by kernel_rfl)
theorem in151 {s : Sig} : FnIn Tryz.prog 151 s := inOf Tryz.func151 (by kernel_rfl) (by kernel_rfl)
theorem in152 {s : Sig} : FnIn Tryz.prog 152 s := inOf Tryz.func152 (by kernel_rfl) (by kernel_rfl)
theorem sigs_in : AllP (FnIn Tryz.prog) sigs :=
  ⟨in70, ⟨in36, ⟨in20, ⟨in11, ⟨in7, ⟨in5, ⟨in4, ⟨in3, trivial, trivial⟩, trivial⟩, ⟨in6, trivial, trivial⟩⟩, ⟨in9, ⟨in8, trivial, trivial⟩, ⟨in10, trivial, trivial⟩⟩⟩, ⟨in16, ⟨in13, ⟨in12, trivial, trivial⟩, ⟨in14, trivial, trivial⟩⟩, ⟨in18, ⟨in17, trivial, trivial⟩, ⟨in19, trivial, trivial⟩⟩⟩⟩, ⟨in28, ⟨in24, ⟨in22, ⟨in21, trivial, trivial⟩, ⟨in23, trivial, trivial⟩⟩, ⟨in26, ⟨in25, trivial, trivial⟩, ⟨in27, trivial, trivial⟩⟩⟩, ⟨in32, ⟨in30, ⟨in29, trivial, trivial⟩, ⟨in31, trivial, trivial⟩⟩, ⟨in34, ⟨in33, trivial, trivial⟩, ⟨in35, trivial, trivial⟩⟩⟩⟩⟩, ⟨in54, ⟨in46, ⟨in41, ⟨in39, ⟨in38, ⟨in37, trivial, trivial⟩, trivial⟩, ⟨in40, trivial, trivial⟩⟩, ⟨in43, ⟨in42, trivial, trivial⟩, ⟨in45, trivial, trivial⟩⟩⟩, ⟨in50, ⟨in48, ⟨in47, trivial, trivial⟩, ⟨in49, trivial, trivial⟩⟩, ⟨in52, ⟨in51, trivial, trivial⟩, ⟨in53, trivial, trivial⟩⟩⟩⟩, ⟨in62, ⟨in58, ⟨in56, ⟨in55, trivial, trivial⟩, ⟨in57, trivial, trivial⟩⟩, ⟨in60, ⟨in59, trivial, trivial⟩, ⟨in61, trivial, trivial⟩⟩⟩, ⟨in66, ⟨in64, ⟨in63, trivial, trivial⟩, ⟨in65, trivial, trivial⟩⟩, ⟨in68, ⟨in67, trivial, trivial⟩, ⟨in69, trivial, trivial⟩⟩⟩⟩⟩⟩, ⟨in110, ⟨in90, ⟨in81, ⟨in77, ⟨in75, ⟨in72, ⟨in71, trivial, trivial⟩, trivial⟩, ⟨in76, trivial, trivial⟩⟩, ⟨in79, ⟨in78, trivial, trivial⟩, ⟨in80, trivial, trivial⟩⟩⟩, ⟨in86, ⟨in84, ⟨in82, trivial, trivial⟩, ⟨in85, trivial, trivial⟩⟩, ⟨in88, ⟨in87, trivial, trivial⟩, ⟨in89, trivial, trivial⟩⟩⟩⟩, ⟨in98, ⟨in94, ⟨in92, ⟨in91, trivial, trivial⟩, ⟨in93, trivial, trivial⟩⟩, ⟨in96, ⟨in95, trivial, trivial⟩, ⟨in97, trivial, trivial⟩⟩⟩, ⟨in104, ⟨in100, ⟨in99, trivial, trivial⟩, ⟨in101, trivial, trivial⟩⟩, ⟨in106, ⟨in105, trivial, trivial⟩, ⟨in108, trivial, trivial⟩⟩⟩⟩⟩, ⟨in136, ⟨in125, ⟨in114, ⟨in112, ⟨in111, trivial, trivial⟩, ⟨in113, trivial, trivial⟩⟩, ⟨in123, ⟨in115, trivial, trivial⟩, ⟨in124, trivial, trivial⟩⟩⟩, ⟨in129, ⟨in127, ⟨in126, trivial, trivial⟩, ⟨in128, trivial, trivial⟩⟩, ⟨in132, ⟨in131, trivial, trivial⟩, ⟨in135, trivial, trivial⟩⟩⟩⟩, ⟨in145, ⟨in141, ⟨in139, ⟨in137, trivial, trivial⟩, ⟨in140, trivial, trivial⟩⟩, ⟨in143, ⟨in142, trivial, trivial⟩, ⟨in144, trivial, trivial⟩⟩⟩, ⟨in149, ⟨in147, ⟨in146, trivial, trivial⟩, ⟨in148, trivial, trivial⟩⟩, ⟨in151, ⟨in150, trivial, trivial⟩, ⟨in152, trivial, trivial⟩⟩⟩⟩⟩⟩⟩
theorem bodies_in : AllP (BdIn Tryz.prog) bodies :=
  ⟨Tryz.func60, ⟨Tryz.func31, ⟨Tryz.func17, ⟨Tryz.func9, ⟨Tryz.func6, ⟨Tryz.func4, ⟨Tryz.func3, trivial, trivial⟩, ⟨Tryz.func5, trivial, trivial⟩⟩, ⟨Tryz.func8, ⟨Tryz.func7, trivial, trivial⟩, trivial⟩⟩, ⟨Tryz.func13, ⟨Tryz.func11, ⟨Tryz.func10, trivial, trivial⟩, ⟨Tryz.func12, trivial, trivial⟩⟩, ⟨Tryz.func16, ⟨Tryz.func14, trivial, trivial⟩, trivial⟩⟩⟩, ⟨Tryz.func24, ⟨Tryz.func21, ⟨Tryz.func19, ⟨Tryz.func18, trivial, trivial⟩, ⟨Tryz.func20, trivial, trivial⟩⟩, ⟨Tryz.func23, ⟨Tryz.func22, trivial, trivial⟩, trivial⟩⟩, ⟨Tryz.func28, ⟨Tryz.func26, ⟨Tryz.func25, trivial, trivial⟩, ⟨Tryz.func27, trivial, trivial⟩⟩, ⟨Tryz.func30, ⟨Tryz.func29, trivial, trivial⟩, trivial⟩⟩⟩⟩, ⟨Tryz.func47, ⟨Tryz.func38, ⟨Tryz.func35, ⟨Tryz.func33, ⟨Tryz.func32, trivial, trivial⟩, ⟨Tryz.func34, trivial, trivial⟩⟩, ⟨Tryz.func37, ⟨Tryz.func36, trivial, trivial⟩, trivial⟩⟩, ⟨Tryz.func43, ⟨Tryz.func40, ⟨Tryz.func39, trivial, trivial⟩, ⟨Tryz.func41, trivial, trivial⟩⟩, ⟨Tryz.func46, ⟨Tryz.func45, trivial, trivial⟩, trivial⟩⟩⟩, ⟨Tryz.func54, ⟨Tryz.func51, ⟨Tryz.func49, ⟨Tryz.func48, trivial, trivial⟩, ⟨Tryz.func50, trivial, trivial⟩⟩, ⟨Tryz.func53, ⟨Tryz.func52, trivial, trivial⟩, trivial⟩⟩, ⟨Tryz.func57, ⟨Tryz.func56, ⟨Tryz.func55, trivial, trivial⟩, trivial⟩, ⟨Tryz.func59, ⟨Tryz.func58, trivial, trivial⟩, trivial⟩⟩⟩⟩⟩, ⟨Tryz.func94, ⟨Tryz.func79, ⟨Tryz.func70, ⟨Tryz.func66, ⟨Tryz.func63, ⟨Tryz.func62, trivial, trivial⟩, ⟨Tryz.func64, trivial, trivial⟩⟩, ⟨Tryz.func69, ⟨Tryz.func67, trivial, trivial⟩, trivial⟩⟩, ⟨Tryz.func76, ⟨Tryz.func72, ⟨Tryz.func71, trivial, trivial⟩, ⟨Tryz.func75, trivial, trivial⟩⟩, ⟨Tryz.func78, ⟨Tryz.func77, trivial, trivial⟩, trivial⟩⟩⟩, ⟨Tryz.func87, ⟨Tryz.func84, ⟨Tryz.func81, ⟨Tryz.func80, trivial, trivial⟩, ⟨Tryz.func82, trivial, trivial⟩⟩, ⟨Tryz.func86, ⟨Tryz.func85, trivial, trivial⟩, trivial⟩⟩, ⟨Tryz.func91, ⟨Tryz.func89, ⟨Tryz.func88, trivial, trivial⟩, ⟨Tryz.func90, trivial, trivial⟩⟩, ⟨Tryz.func93, ⟨Tryz.func92, trivial, trivial⟩, trivial⟩⟩⟩⟩, ⟨Tryz.func115, ⟨Tryz.func104, ⟨Tryz.func99, ⟨Tryz.func96, ⟨Tryz.func95, trivial, trivial⟩, ⟨Tryz.func97, trivial, trivial⟩⟩, ⟨Tryz.func101, ⟨Tryz.func100, trivial, trivial⟩, trivial⟩⟩, ⟨Tryz.func112, ⟨Tryz.func110, ⟨Tryz.func108, trivial, trivial⟩, ⟨Tryz.func111, trivial, trivial⟩⟩, ⟨Tryz.func114, ⟨Tryz.func113, trivial, trivial⟩, trivial⟩⟩⟩, ⟨Tryz.func135, ⟨Tryz.func127, ⟨Tryz.func125, ⟨Tryz.func124, trivial, trivial⟩, ⟨Tryz.func126, trivial, trivial⟩⟩, ⟨Tryz.func129, ⟨Tryz.func128, trivial, trivial⟩, trivial⟩⟩, ⟨Tryz.func139, ⟨Tryz.func137, ⟨Tryz.func136, trivial, trivial⟩, trivial⟩, ⟨Tryz.func151, ⟨Tryz.func145, trivial, trivial⟩, trivial⟩⟩⟩⟩⟩⟩
theorem sites_in : AllP (SiteIn Tryz.prog) sites :=
  ⟨⟨Tryz.func83, by have h : (Tryz.f83.name == "runtime.NumGoroutine") = false := (by kernel_rfl); simpa using h, by kernel_rfl⟩, ⟨⟨Tryz.func44, by have h : (Tryz.f44.name == "runtime.NumGoroutine") = false := (by kernel_rfl); simpa using h, by kernel_rfl⟩, ⟨⟨Tryz.func81, by have h : (Tryz.f81.name == "runtime.NumGoroutine") = false := (by kernel_rfl); simpa using h, by kernel_rfl⟩, ⟨⟨Tryz.func39, by have h : (Tryz.f39.name == "runtime.NumGoroutine") = false := (by kernel_rfl); simpa using h, by kernel_rfl⟩, ⟨⟨Tryz.func15, by have h : (Tryz.f15.name == "runtime.NumGoroutine") = false := (by kernel_rfl); simpa using h, by kernel_rfl⟩, trivial, trivial⟩, trivial⟩, ⟨⟨Tryz.func44, by have h : (Tryz.f44.name == "runtime.NumGoroutine") = false := (by kernel_rfl); simpa using h, by kernel_rfl⟩, ⟨⟨Tryz.func42, by have h : (Tryz.f42.name == "runtime.NumGoroutine") = false := (by kernel_rfl); simpa using h, by kernel_rfl⟩, trivial, trivial⟩, trivial⟩⟩, ⟨⟨Tryz.func73, by have h : (Tryz.f73.name == "runtime.NumGoroutine") = false := (by kernel_rfl); simpa using h, by kernel_rfl⟩, ⟨⟨Tryz.func44, by have h : (Tryz.f44.name == "runtime.NumGoroutine") = false := (by kernel_rfl); simpa using h, by kernel_rfl⟩, ⟨⟨Tryz.func44, by have h : (Tryz.f44.name == "runtime.NumGoroutine") = false := (by kernel_rfl); simpa using h, by kernel_rfl⟩, trivial, trivial⟩, trivial⟩, ⟨⟨Tryz.func73, by have h : (Tryz.f73.name == "runtime.NumGoroutine") = false := (by kernel_rfl); simpa using h, by kernel_rfl⟩, ⟨⟨Tryz.func74, by have h : (Tryz.f74.name == "runtime.NumGoroutine") = false := (by kernel_rfl); simpa using h, by kernel_rfl⟩, trivial, trivial⟩, trivial⟩⟩⟩, ⟨⟨Tryz.func103, by have h : (Tryz.f103.name == "runtime.NumGoroutine") = false := (by kernel_rfl); simpa using h, by kernel_rfl⟩, ⟨⟨Tryz.func103, by have h : (Tryz.f103.name == "runtime.NumGoroutine") = false := (by kernel_rfl); simpa using h, by kernel_rfl⟩, ⟨⟨Tryz.func102, by have h : (Tryz.f102.name == "runtime.NumGoroutine") = false := (by kernel_rfl); simpa using h, by kernel_rfl⟩, ⟨⟨Tryz.func73, by have h : (Tryz.f73.name == "runtime.NumGoroutine") = false := (by kernel_rfl); simpa using h, by kernel_rfl⟩, trivial, trivial⟩, trivial⟩, ⟨⟨Tryz.func103, by have h : (Tryz.f103.name == "runtime.NumGoroutine") = false := (by kernel_rfl); simpa using h, by kernel_rfl⟩, ⟨⟨Tryz.func103, by have h : (Tryz.f103.name == "runtime.NumGoroutine") = false := (by kernel_rfl); simpa using h, by kernel_rfl⟩, trivial, trivial⟩, trivial⟩⟩, ⟨⟨Tryz.func73, by have h : (Tryz.f73.name == "runtime.NumGoroutine") = false := (by kernel_rfl); simpa using h, by kernel_rfl⟩, ⟨⟨Tryz.func107, by have h : (Tryz.f107.name == "runtime.NumGoroutine") = false := (by kernel_rfl); simpa using h, by kernel_rfl⟩, ⟨⟨Tryz.func73, by have h : (Tryz.f73.name == "runtime.NumGoroutine") = false := (by kernel_rfl); simpa using h, by kernel_rfl⟩, trivial, trivial⟩, trivial⟩, ⟨⟨Tryz.func109, by have h : (Tryz.f109.name == "runtime.NumGoroutine") = false := (by kernel_rfl); simpa using h, by kernel_rfl⟩, trivial, trivial⟩⟩⟩⟩
theorem sites_loops : ∀ q s, sites.look q = some s → LoopsAre s.c := fun q s h => AllP.look (Q := fun _ s => LoopsAre s.c) (show AllP (fun _ s => LoopsAre s.c) sites from ⟨⟨(loopsOf 0 (cd Tryz.f83)).map (fun q => q.1), by kernel_rfl, by kernel_rfl⟩, ⟨⟨(loopsOf 0 (cd Tryz.f44)).map (fun q => q.1), by kernel_rfl, by kernel_rfl⟩, ⟨⟨(loopsOf 0 (cd Tryz.f81)).map (fun q => q.1), by kernel_rfl, by kernel_rfl⟩, ⟨⟨(loopsOf 0 (cd Tryz.f39)).map (fun q => q.1), by kernel_rfl, by kernel_rfl⟩, ⟨⟨(loopsOf 0 (cd Tryz.f15)).map (fun q => q.1), by kernel_rfl, by kernel_rfl⟩, trivial, trivial⟩, trivial⟩, ⟨⟨(loopsOf 0 (cd Tryz.f44)).map (fun q => q.1), by kernel_rfl, by kernel_rfl⟩, ⟨⟨(loopsOf 0 (cd Tryz.f42)).map (fun q => q.1), by kernel_rfl, by kernel_rfl⟩, trivial, trivial⟩, trivial⟩⟩, ⟨⟨(loopsOf 0 (cd Tryz.f73)).map (fun q => q.1), by kernel_rfl, by kernel_rfl⟩, ⟨⟨(loopsOf 0 (cd Tryz.f44)).map (fun q => q.1), by kernel_rfl, by kernel_rfl⟩, ⟨⟨(loopsOf 0 (cd Tryz.f44)).map (fun q => q.1), by kernel_rfl, by kernel_rfl⟩, trivial, trivial⟩, trivial⟩, ⟨⟨(loopsOf 0 (cd Tryz.f73)).map (fun q => q.1), by kernel_rfl, by kernel_rfl⟩, ⟨⟨(loopsOf 0 (cd Tryz.f74)).map (fun q => q.1), by kernel_rfl, by kernel_rfl⟩, trivial, trivial⟩, trivial⟩⟩⟩, ⟨⟨(loopsOf 0 (cd Tryz.f103)).map (fun q => q.1), by kernel_rfl, by kernel_rfl⟩, ⟨⟨(loopsOf 0 (cd Tryz.f103)).map (fun q => q.1), by kernel_rfl, by kernel_rfl⟩, ⟨⟨(loopsOf 0 (cd Tryz.f102)).map (fun q => q.1), by kernel_rfl, by kernel_rfl⟩, ⟨⟨(loopsOf 0 (cd Tryz.f73)).map (fun q => q.1), by kernel_rfl, by kernel_rfl⟩, trivial, trivial⟩, trivial⟩, ⟨⟨(loopsOf 0 (cd Tryz.f103)).map (fun q => q.1), by kernel_rfl, by kernel_rfl⟩, ⟨⟨(loopsOf 0 (cd Tryz.f103)).map (fun q => q.1), by kernel_rfl, by kernel_rfl⟩, trivial, trivial⟩, trivial⟩⟩, ⟨⟨(loopsOf 0 (cd Tryz.f73)).map (fun q => q.1), by kernel_rfl, by kernel_rfl⟩, ⟨⟨(loopsOf 0 (cd Tryz.f107)).map (fun q => q.1), by kernel_rfl, by kernel_rfl⟩, ⟨⟨(loopsOf 0 (cd Tryz.f73)).map (fun q => q.1), by kernel_rfl, by kernel_rfl⟩, trivial, trivial⟩, trivial⟩, ⟨⟨(loopsOf 0 (cd Tryz.f109)).map (fun q => q.1), by kernel_rfl, by kernel_rfl⟩, trivial, trivial⟩⟩⟩⟩) h
theorem fns_ok (k N n : Nat) : ∀ m s, E.sg.look m = some s → psOk s.ps = true → FnOk Tryz.prog (lvE E k sites N) (ctxN (lvE E k sites N) bodies (fun _ => none) k n) m s := plain_ok env_sound mixed bodies_ok sigs_ok sigs_in bodies_in sites_ok sites_in N n
end Go.Eng.I
