/- Part of the proof. -/
import Derived.Test.YtpipdilhgmolhabEngE
import Derived.Test.YtpipdilhgmolhabProg
import Derived.KernelRfl

namespace Go.Eng.A
noncomputable def types : BT TI := (.node 48 { agg := false, lv := [(.sl false 24 [(.sl false 3 [(.int .i64)])])], fs := [], e := 24, bytes := 24, sl := true, ek := 1 }
 (.node 28 { agg := false, lv := [(.sl false 38 [.str, (.sl false 3 [(.int .i64)]), (.int .i64)])], fs := [], e := 38, bytes := 24, sl := true, ek := 3 }
 (.node 9 { agg := false, lv := [.str], fs := [], e := 0, bytes := 16 }
 (.node 4 { agg := false, lv := [.bool], fs := [], e := 0, bytes := 1 }
 (.node 3 { agg := false, lv := [(.int .i64)], fs := [], e := 0, bytes := 8 }
 (.node 2 { agg := false, lv := [(.int .i64)], fs := [], e := 0, bytes := 8 }
 .nil .nil) .nil) (.node 6 { agg := false, lv := [(.int .u8)], fs := [], e := 0, bytes := 1 }
 (.node 5 { agg := false, lv := [(.int .u8)], fs := [], e := 0, bytes := 1 }
 .nil .nil) .nil)) (.node 25 { agg := false, lv := [(.int .u64)], fs := [], e := 0, bytes := 8 }
 (.node 24 { agg := false, lv := [(.sl false 3 [(.int .i64)])], fs := [], e := 3, bytes := 24, sl := true, ek := 1 }
 (.node 23 { agg := false, lv := [(.sl false 27 [(.int .i64), (.int .i64), (.int .i64), (.int .i64), (.int .i64), (.sl false 3 [(.int .i64)]), (.sl false 3 [(.int .i64)])])], fs := [], e := 27, bytes := 24, sl := true, ek := 7 }
 .nil .nil) .nil) (.node 27 { agg := true, lv := [(.int .i64), (.int .i64), (.int .i64), (.int .i64), (.int .i64), (.sl false 3 [(.int .i64)]), (.sl false 3 [(.int .i64)])], fs := [(0, 3), (1, 3), (2, 3), (3, 3), (4, 2), (5, 24), (6, 24)], e := 0, bytes := 88 }
 .nil .nil))) (.node 34 { agg := false, lv := [(.int .i64)], fs := [], e := 0, bytes := 8 }
 (.node 31 { agg := false, lv := [(.sl false 43 [.str, .bool, (.sl false 3 [(.int .i64)]), (.int .i64), (.sl false 40 [(.sl false 27 [(.int .i64), (.int .i64), (.int .i64), (.int .i64), (.int .i64), (.sl false 3 [(.int .i64)]), (.sl false 3 [(.int .i64)])])])])], fs := [], e := 43, bytes := 24, sl := true, ek := 5 }
 (.node 30 { agg := false, lv := [(.sl false 70 [.str, (.sl false 3 [(.int .i64)])])], fs := [], e := 70, bytes := 24, sl := true, ek := 2 }
 (.node 29 { agg := false, lv := [(.sl false 67 [.str, (.sl false 2 [(.int .i64)])])], fs := [], e := 67, bytes := 24, sl := true, ek := 2 }
 .nil .nil) .nil) (.node 33 { agg := true, lv := [(.sl false 38 [.str, (.sl false 3 [(.int .i64)]), (.int .i64)]), (.sl false 67 [.str, (.sl false 2 [(.int .i64)])]), (.sl false 70 [.str, (.sl false 3 [(.int .i64)])]), (.sl false 43 [.str, .bool, (.sl false 3 [(.int .i64)]), (.int .i64), (.sl false 40 [(.sl false 27 [(.int .i64), (.int .i64), (.int .i64), (.int .i64), (.int .i64), (.sl false 3 [(.int .i64)]), (.sl false 3 [(.int .i64)])])])])], fs := [(0, 28), (1, 29), (2, 30), (3, 31)], e := 0, bytes := 96 }
 .nil .nil)) (.node 41 { agg := false, lv := [(.sl false 40 [(.sl false 27 [(.int .i64), (.int .i64), (.int .i64), (.int .i64), (.int .i64), (.sl false 3 [(.int .i64)]), (.sl false 3 [(.int .i64)])])])], fs := [], e := 40, bytes := 24, sl := true, ek := 1 }
 (.node 40 { agg := true, lv := [(.sl false 27 [(.int .i64), (.int .i64), (.int .i64), (.int .i64), (.int .i64), (.sl false 3 [(.int .i64)]), (.sl false 3 [(.int .i64)])])], fs := [(0, 23)], e := 0, bytes := 24 }
 (.node 38 { agg := true, lv := [.str, (.sl false 3 [(.int .i64)]), (.int .i64)], fs := [(0, 9), (1, 24), (2, 3)], e := 0, bytes := 48 }
 .nil .nil) .nil) (.node 43 { agg := true, lv := [.str, .bool, (.sl false 3 [(.int .i64)]), (.int .i64), (.sl false 40 [(.sl false 27 [(.int .i64), (.int .i64), (.int .i64), (.int .i64), (.int .i64), (.sl false 3 [(.int .i64)]), (.sl false 3 [(.int .i64)])])])], fs := [(0, 9), (1, 4), (2, 24), (3, 3), (4, 41)], e := 0, bytes := 80 }
 .nil .nil)))) (.node 92 { agg := false, lv := [(.sl false 117 [(.int .i64), (.int .i64)])], fs := [], e := 117, bytes := 24, sl := true, ek := 2 }
 (.node 74 { agg := false, lv := [(.sl false 94 [(.sl false 3 [(.int .i64)]), (.sl false 111 [(.sl false 110 [(.int .i64), (.int .i64)])]), (.sl false 117 [(.int .i64), (.int .i64)]), (.sl false 27 [(.int .i64), (.int .i64), (.int .i64), (.int .i64), (.int .i64), (.sl false 3 [(.int .i64)]), (.sl false 3 [(.int .i64)])])])], fs := [], e := 94, bytes := 24, sl := true, ek := 4 }
 (.node 67 { agg := true, lv := [.str, (.sl false 2 [(.int .i64)])], fs := [(0, 9), (1, 65)], e := 0, bytes := 40 }
 (.node 65 { agg := false, lv := [(.sl false 2 [(.int .i64)])], fs := [], e := 2, bytes := 24, sl := true, ek := 1 }
 (.node 51 { agg := false, lv := [(.sl false 4 [.bool])], fs := [], e := 4, bytes := 24, sl := true, ek := 1 }
 .nil .nil) .nil) (.node 70 { agg := true, lv := [.str, (.sl false 3 [(.int .i64)])], fs := [(0, 9), (1, 24)], e := 0, bytes := 40 }
 .nil .nil)) (.node 87 { agg := false, lv := [(.sl false 51 [(.sl false 4 [.bool])])], fs := [], e := 51, bytes := 24, sl := true, ek := 1 }
 (.node 81 { agg := false, lv := [(.sl false 9 [.str])], fs := [], e := 9, bytes := 24, sl := true, ek := 1 }
 (.node 76 { agg := true, lv := [(.sl false 38 [.str, (.sl false 3 [(.int .i64)]), (.int .i64)]), (.sl false 67 [.str, (.sl false 2 [(.int .i64)])]), (.sl false 70 [.str, (.sl false 3 [(.int .i64)])]), (.sl false 43 [.str, .bool, (.sl false 3 [(.int .i64)]), (.int .i64), (.sl false 40 [(.sl false 27 [(.int .i64), (.int .i64), (.int .i64), (.int .i64), (.int .i64), (.sl false 3 [(.int .i64)]), (.sl false 3 [(.int .i64)])])])]), (.sl false 4 [.bool]), (.sl false 94 [(.sl false 3 [(.int .i64)]), (.sl false 111 [(.sl false 110 [(.int .i64), (.int .i64)])]), (.sl false 117 [(.int .i64), (.int .i64)]), (.sl false 27 [(.int .i64), (.int .i64), (.int .i64), (.int .i64), (.int .i64), (.sl false 3 [(.int .i64)]), (.sl false 3 [(.int .i64)])])])], fs := [(0, 33), (4, 51), (5, 74)], e := 0, bytes := 144 }
 .nil .nil) .nil) (.node 91 { agg := false, lv := [(.sl false 111 [(.sl false 110 [(.int .i64), (.int .i64)])])], fs := [], e := 111, bytes := 24, sl := true, ek := 1 }
 .nil .nil))) (.node 117 { agg := true, lv := [(.int .i64), (.int .i64)], fs := [(0, 3), (1, 2)], e := 0, bytes := 16 }
 (.node 110 { agg := true, lv := [(.int .i64), (.int .i64)], fs := [(0, 3), (1, 3)], e := 0, bytes := 16 }
 (.node 102 { agg := true, lv := [.str, .bool, (.sl false 3 [(.int .i64)]), (.int .i64), (.sl false 40 [(.sl false 27 [(.int .i64), (.int .i64), (.int .i64), (.int .i64), (.int .i64), (.sl false 3 [(.int .i64)]), (.sl false 3 [(.int .i64)])])]), (.sl false 3 [(.int .i64)]), (.sl false 3 [(.int .i64)]), .bool], fs := [(0, 43), (5, 24), (6, 24), (7, 4)], e := 0, bytes := 136 }
 (.node 94 { agg := true, lv := [(.sl false 3 [(.int .i64)]), (.sl false 111 [(.sl false 110 [(.int .i64), (.int .i64)])]), (.sl false 117 [(.int .i64), (.int .i64)]), (.sl false 27 [(.int .i64), (.int .i64), (.int .i64), (.int .i64), (.int .i64), (.sl false 3 [(.int .i64)]), (.sl false 3 [(.int .i64)])])], fs := [(0, 24), (1, 91), (2, 92), (3, 23)], e := 0, bytes := 96 }
 .nil .nil) .nil) (.node 111 { agg := false, lv := [(.sl false 110 [(.int .i64), (.int .i64)])], fs := [], e := 110, bytes := 24, sl := true, ek := 2 }
 .nil .nil)) (.node 138 { agg := false, lv := [(.int .u64)], fs := [], e := 0, bytes := 8 }
 (.node 136 { agg := false, lv := [(.int .u32)], fs := [], e := 0, bytes := 4 }
 (.node 129 { agg := false, lv := [(.int .i64)], fs := [], e := 0, bytes := 8 }
 .nil .nil) .nil) (.node 139 { agg := false, lv := [(.int .u64)], fs := [], e := 0, bytes := 8 }
 .nil .nil)))))
noncomputable def ptrs : BT TypeId := (.node 99 102
 (.node 56 27
 (.node 55 43
 .nil .nil) (.node 77 76
 .nil .nil)) (.node 145 139
 (.node 108 94
 .nil .nil) .nil))
noncomputable def eqts : List Nat := [110]
noncomputable def maps : BT MI := (.node 82 { key := 9, el := 3, kk := .str, ek := (.int .i64) }
 (.node 71 { key := 3, el := 3, kk := (.int .i64), ek := (.int .i64) }
 .nil .nil) .nil)
noncomputable def sigs : BT Sig := (.node 39 { fn := 39, ps := [(43, .ro)], rs := [.val false [(.sl true 24 [(.sl true 3 [(.int .i64)])])]] }
 (.node 21 { fn := 21, ps := [(33, .ro)], rs := [.val false [.bool]] }
 (.node 11 { fn := 11, ps := [(33, .ro)], rs := [.val false [(.sl true 4 [.bool])]] }
 (.node 7 { fn := 7, ps := [], rs := [.val true [(.sl true 38 [.str, (.sl true 3 [(.int .i64)]), (.int .i64)]), (.sl true 67 [.str, (.sl true 2 [(.int .i64)])]), (.sl true 70 [.str, (.sl true 3 [(.int .i64)])]), (.sl true 43 [.str, .bool, (.sl true 3 [(.int .i64)]), (.int .i64), (.sl true 40 [(.sl true 27 [(.int .i64), (.int .i64), (.int .i64), (.int .i64), (.int .i64), (.sl true 3 [(.int .i64)]), (.sl true 3 [(.int .i64)])])])])]] }
 (.node 5 { fn := 5, ps := [(33, .ro)], rs := [.val true [(.sl true 38 [.str, (.sl true 3 [(.int .i64)]), (.int .i64)]), (.sl true 67 [.str, (.sl true 2 [(.int .i64)])]), (.sl true 70 [.str, (.sl true 3 [(.int .i64)])]), (.sl true 43 [.str, .bool, (.sl true 3 [(.int .i64)]), (.int .i64), (.sl true 40 [(.sl true 27 [(.int .i64), (.int .i64), (.int .i64), (.int .i64), (.int .i64), (.sl true 3 [(.int .i64)]), (.sl true 3 [(.int .i64)])])])])], .val false [(.int .i64)]] }
 (.node 4 { fn := 4, ps := [], rs := [.val false [.bool]] }
 (.node 3 { fn := 3, ps := [(3, .ro)], rs := [.val false [.bool]] }
 .nil .nil) .nil) (.node 6 { fn := 6, ps := [(24, .ro), (24, .ro)], rs := [.val false [.bool]] }
 .nil .nil)) (.node 9 { fn := 9, ps := [(33, .ro)], rs := [.val false [(.sl true 24 [(.sl true 3 [(.int .i64)])])]] }
 (.node 8 { fn := 8, ps := [(48, .ro), (48, .ro)], rs := [.val false [.bool]] }
 .nil .nil) (.node 10 { fn := 10, ps := [(51, .ro), (51, .ro)], rs := [.val false [.bool]] }
 .nil .nil))) (.node 17 { fn := 17, ps := [(33, .ro)], rs := [.val false [(.sl true 4 [.bool])]] }
 (.node 14 { fn := 14, ps := [(24, .ro), (24, .ro)], rs := [.val false [(.sl true 3 [(.int .i64)])]] }
 (.node 13 { fn := 13, ps := [(33, .ro)], rs := [.val true [(.sl true 38 [.str, (.sl true 3 [(.int .i64)]), (.int .i64)]), (.sl true 67 [.str, (.sl true 2 [(.int .i64)])]), (.sl true 70 [.str, (.sl true 3 [(.int .i64)])]), (.sl true 43 [.str, .bool, (.sl true 3 [(.int .i64)]), (.int .i64), (.sl true 40 [(.sl true 27 [(.int .i64), (.int .i64), (.int .i64), (.int .i64), (.int .i64), (.sl true 3 [(.int .i64)]), (.sl true 3 [(.int .i64)])])])])]] }
 (.node 12 { fn := 12, ps := [(33, .ro)], rs := [.val false [(.int .i64)]] }
 .nil .nil) .nil) (.node 15 { fn := 15, ps := [(43, .ro)], rs := [.val true [.str, .bool, (.sl true 3 [(.int .i64)]), (.int .i64), (.sl true 40 [(.sl true 27 [(.int .i64), (.int .i64), (.int .i64), (.int .i64), (.int .i64), (.sl true 3 [(.int .i64)]), (.sl true 3 [(.int .i64)])])])]] }
 .nil .nil)) (.node 19 { fn := 19, ps := [(33, .ro)], rs := [.val false [.bool]] }
 (.node 18 { fn := 18, ps := [(43, .ro)], rs := [.val false [(.sl true 3 [(.int .i64)])]] }
 .nil .nil) (.node 20 { fn := 20, ps := [(33, .ro)], rs := [.val false [.bool]] }
 .nil .nil)))) (.node 30 { fn := 30, ps := [(33, .ro)], rs := [.ptr [(.sl false 38 [.str, (.sl false 3 [(.int .i64)]), (.int .i64)]), (.sl false 67 [.str, (.sl false 2 [(.int .i64)])]), (.sl false 70 [.str, (.sl false 3 [(.int .i64)])]), (.sl false 43 [.str, .bool, (.sl false 3 [(.int .i64)]), (.int .i64), (.sl false 40 [(.sl false 27 [(.int .i64), (.int .i64), (.int .i64), (.int .i64), (.int .i64), (.sl false 3 [(.int .i64)]), (.sl false 3 [(.int .i64)])])])]), (.sl true 4 [.bool]), (.sl true 94 [(.sl true 3 [(.int .i64)]), (.sl true 111 [(.sl true 110 [(.int .i64), (.int .i64)])]), (.sl true 117 [(.int .i64), (.int .i64)]), (.sl true 27 [(.int .i64), (.int .i64), (.int .i64), (.int .i64), (.int .i64), (.sl false 3 [(.int .i64)]), (.sl false 3 [(.int .i64)])])])]] }
 (.node 26 { fn := 26, ps := [(24, .ro)], rs := [.val false [(.sl true 3 [(.int .i64)])]] }
 (.node 24 { fn := 24, ps := [(43, .ro)], rs := [.val false [.bool]] }
 (.node 23 { fn := 23, ps := [(43, .ro)], rs := [.val false [.bool]] }
 (.node 22 { fn := 22, ps := [(33, .ro)], rs := [.val false [.bool]] }
 .nil .nil) .nil) (.node 25 { fn := 25, ps := [(33, .ro), (43, .ro)], rs := [.val false [.bool]] }
 .nil .nil)) (.node 28 { fn := 28, ps := [(43, .ro)], rs := [.val true [.str, .bool, (.sl true 3 [(.int .i64)]), (.int .i64), (.sl true 40 [(.sl true 27 [(.int .i64), (.int .i64), (.int .i64), (.int .i64), (.int .i64), (.sl true 3 [(.int .i64)]), (.sl true 3 [(.int .i64)])])])]] }
 (.node 27 { fn := 27, ps := [(65, .ro)], rs := [.val false [(.sl true 2 [(.int .i64)])]] }
 .nil .nil) (.node 29 { fn := 29, ps := [(56, .io [(.int .i64), (.int .i64), (.int .i64), (.int .i64), (.int .i64), (.sl true 3 [(.int .i64)]), (.sl true 3 [(.int .i64)])])], rs := [] }
 .nil .nil))) (.node 35 { fn := 35, ps := [(9, .ro)], rs := [.val false [.bool]] }
 (.node 33 { fn := 33, ps := [(3, .ro)], rs := [.val false [.bool]] }
 (.node 32 { fn := 32, ps := [(43, .ro)], rs := [.val false [(.int .i64)]] }
 (.node 31 { fn := 31, ps := [(43, .ro)], rs := [.val false [(.int .i64)]] }
 .nil .nil) .nil) (.node 34 { fn := 34, ps := [(27, .ro)], rs := [.val false [.bool]] }
 .nil .nil)) (.node 37 { fn := 37, ps := [(51, .ro), (4, .ro)], rs := [.val false [.bool]] }
 (.node 36 { fn := 36, ps := [(3, .ro)], rs := [.val false [.bool]] }
 .nil .nil) (.node 38 { fn := 38, ps := [(43, .ro)], rs := [.val false [(.sl true 4 [.bool])]] }
 .nil .nil))))) (.node 57 { fn := 57, ps := [(111, .ro)], rs := [.val false [(.sl true 110 [(.int .i64), (.int .i64)])]] }
 (.node 48 { fn := 48, ps := [(3, .ro)], rs := [.val false [(.int .i64)], .val false [(.int .i64)], .val false [.bool], .val false [.bool]] }
 (.node 44 { fn := 44, ps := [(33, .ro), (43, .ro), (24, .ro), (27, .ro)], rs := [.val false [.bool]] }
 (.node 42 { fn := 42, ps := [(43, .ro), (3, .ro)], rs := [.val false [(.int .i64)]] }
 (.node 41 { fn := 41, ps := [(43, .ro)], rs := [.val false [(.sl true 3 [(.int .i64)])]] }
 (.node 40 { fn := 40, ps := [(24, .ro), (24, .ro)], rs := [.val false [.bool]] }
 .nil .nil) .nil) (.node 43 { fn := 43, ps := [(43, .ro)], rs := [.val false [(.sl true 3 [(.int .i64)])]] }
 .nil .nil)) (.node 46 { fn := 46, ps := [(108, .io [(.sl true 3 [(.int .i64)]), (.sl true 111 [(.sl true 110 [(.int .i64), (.int .i64)])]), (.sl true 117 [(.int .i64), (.int .i64)]), (.sl true 27 [(.int .i64), (.int .i64), (.int .i64), (.int .i64), (.int .i64), (.sl false 3 [(.int .i64)]), (.sl false 3 [(.int .i64)])])]), (43, .ro)], rs := [] }
 (.node 45 { fn := 45, ps := [(27, .ro)], rs := [.val true [(.int .i64), (.int .i64), (.int .i64), (.int .i64), (.int .i64), (.sl true 3 [(.int .i64)]), (.sl true 3 [(.int .i64)])]] }
 .nil .nil) (.node 47 { fn := 47, ps := [(108, .io [(.sl true 3 [(.int .i64)]), (.sl true 111 [(.sl true 110 [(.int .i64), (.int .i64)])]), (.sl true 117 [(.int .i64), (.int .i64)]), (.sl true 27 [(.int .i64), (.int .i64), (.int .i64), (.int .i64), (.int .i64), (.sl false 3 [(.int .i64)]), (.sl false 3 [(.int .i64)])])])], rs := [] }
 .nil .nil))) (.node 53 { fn := 53, ps := [(43, .ro)], rs := [.val false [(.sl true 51 [(.sl true 4 [.bool])])]] }
 (.node 51 { fn := 51, ps := [(43, .ro), (3, .ro)], rs := [.val false [(.sl true 3 [(.int .i64)])]] }
 (.node 50 { fn := 50, ps := [(43, .ro)], rs := [.ptr [.str, .bool, (.sl false 3 [(.int .i64)]), (.int .i64), (.sl false 40 [(.sl false 27 [(.int .i64), (.int .i64), (.int .i64), (.int .i64), (.int .i64), (.sl false 3 [(.int .i64)]), (.sl false 3 [(.int .i64)])])]), (.sl true 3 [(.int .i64)]), (.sl true 3 [(.int .i64)]), .bool]] }
 (.node 49 { fn := 49, ps := [(51, .ro), (4, .ro)], rs := [.val false [(.int .i64)]] }
 .nil .nil) .nil) (.node 52 { fn := 52, ps := [(87, .ro)], rs := [.val false [(.sl true 3 [(.int .i64)])]] }
 .nil .nil)) (.node 55 { fn := 55, ps := [(24, .ro), (24, .ro), (24, .ro)], rs := [.val false [.bool]] }
 (.node 54 { fn := 54, ps := [(24, .ro), (24, .ro), (3, .ro)], rs := [.val false [.bool]] }
 .nil .nil) (.node 56 { fn := 56, ps := [(91, .ro)], rs := [.val false [(.sl true 110 [(.int .i64), (.int .i64)])]] }
 .nil .nil)))) (.node 66 { fn := 66, ps := [(111, .ro), (3, .ro), (3, .ro), (3, .ro), (115, .fnv 59)], rs := [] }
 (.node 62 { fn := 62, ps := [(99, .io [.str, .bool, (.sl false 3 [(.int .i64)]), (.int .i64), (.sl false 40 [(.sl false 27 [(.int .i64), (.int .i64), (.int .i64), (.int .i64), (.int .i64), (.sl false 3 [(.int .i64)]), (.sl false 3 [(.int .i64)])])]), (.sl true 3 [(.int .i64)]), (.sl true 3 [(.int .i64)]), .bool]), (3, .ro)], rs := [] }
 (.node 60 { fn := 60, ps := [(111, .mv)], rs := [.val false [(.sl true 110 [(.int .i64), (.int .i64)])]] }
 (.node 59 { fn := 59, ps := [(110, .ro), (110, .ro)], rs := [.val false [(.int .i64)]] }
 (.node 58 { fn := 58, ps := [(111, .ro), (115, .fnv 59)], rs := [] }
 .nil .nil) .nil) (.node 61 { fn := 61, ps := [(108, .io [(.sl true 3 [(.int .i64)]), (.sl true 111 [(.sl true 110 [(.int .i64), (.int .i64)])]), (.sl true 117 [(.int .i64), (.int .i64)]), (.sl true 27 [(.int .i64), (.int .i64), (.int .i64), (.int .i64), (.int .i64), (.sl false 3 [(.int .i64)]), (.sl false 3 [(.int .i64)])])]), (3, .ro)], rs := [.val true [(.int .i64), (.int .i64)]] }
 .nil .nil)) (.node 64 { fn := 64, ps := [(48, .ro), (3, .ro)], rs := [.val false [(.sl true 4 [.bool])]] }
 (.node 63 { fn := 63, ps := [(24, .ro), (3, .ro)], rs := [.val false [.bool]] }
 .nil .nil) (.node 65 { fn := 65, ps := [(111, .ro), (3, .ro)], rs := [.val false [(.sl false 110 [(.int .i64), (.int .i64)])]] }
 .nil .nil))) (.node 78 { fn := 78, ps := [(136, .ro)], rs := [.val false [(.int .i64)]] }
 (.node 69 { fn := 69, ps := [(24, .ro), (3, .ro)], rs := [.val false [(.int .i64)]] }
 (.node 68 { fn := 68, ps := [(108, .rp), (3, .ro)], rs := [.val false [(.int .i64)], .val false [.bool]] }
 (.node 67 { fn := 67, ps := [(25, .ro)], rs := [.val false [(.int .i64)]] }
 .nil .nil) .nil) (.node 70 { fn := 70, ps := [(111, .ro), (3, .ro), (3, .ro), (115, .fnv 59)], rs := [] }
 .nil .nil)) (.node 81 { fn := 81, ps := [(3, .ro)], rs := [.val false [(.int .u64)]] }
 (.node 79 { fn := 79, ps := [(138, .ro)], rs := [.val false [(.int .i64)]] }
 .nil .nil) (.node 82 { fn := 82, ps := [(145, .io [(.int .u64)])], rs := [.val false [(.int .u64)]] }
 .nil .nil))))))
noncomputable def h3 : Hint := { inst := [], el := [], arr := [69, 67, 64, 62, 59, 57, 51, 28], fzl := [], pfx := [], snap := [], heads := [(0, { keep := [0, 3, 4, 5, 6], conv := [(3, .own 27 [(.int .i64), (.int .i64), (.int .i64), (.int .i64), (.int .i64), (.sl true 3 [(.int .i64)]), (.sl true 3 [(.int .i64)])]), (4, .own 3 [(.int .i64)])], bconv := [] }), (2, { keep := [3, 4, 5, 7, 8], conv := [(7, .own 27 [(.int .i64), (.int .i64), (.int .i64), (.int .i64), (.int .i64), (.sl true 3 [(.int .i64)]), (.sl true 3 [(.int .i64)])])], bconv := [] })], ends := [(0, { keep := [2, 3, 4, 5], conv := [], bconv := [] }), (2, { keep := [2, 3, 4, 5, 7], conv := [], bconv := [] })], ord := [] }
noncomputable def h4 : Hint := { inst := [], el := [], arr := [], fzl := [79, 20, 14, 13], pfx := [], snap := [], heads := [], ends := [], ord := [] }
noncomputable def h5 : Hint := { inst := [], el := [], arr := [], fzl := [], pfx := [], snap := [], heads := [(0, { keep := [2, 5, 6, 7, 27, 28], conv := [], bconv := [] }), (2, { keep := [2, 5, 6, 7, 8, 9, 27, 28, 39, 40], conv := [], bconv := [] }), (4, { keep := [2, 5, 6, 7, 8, 9, 10, 27, 28, 39, 40, 51, 52], conv := [], bconv := [] })], ends := [(0, { keep := [2, 3, 7], conv := [], bconv := [] }), (2, { keep := [2, 3, 5, 6, 7, 8, 9, 27, 28], conv := [], bconv := [] }), (4, { keep := [2, 3, 5, 6, 7, 8, 9, 27, 28, 39, 40], conv := [], bconv := [] })], ord := [(4, [0, 2, 1, 3, 4, 5]), (27, [0, 2, 3, 4, 6, 7, 8, 1, 5, 9, 10, 11, 12, 13])], inl := [(131, { site := 0, base := 2000, live := [2, 5, 6, 7, 27, 28, 121, 122, 123], old := [], ck := [(122, 31, 121)] })] }
noncomputable def h6 : Hint := { inst := [], el := [], arr := [], fzl := [], pfx := [], snap := [], heads := [(0, { keep := [0, 1, 5], conv := [], bconv := [] })], ends := [(0, { keep := [4], conv := [], bconv := [] })], ord := [] }
noncomputable def h7 : Hint := { inst := [], el := [], arr := [17, 15, 13, 11, 10, 8, 6, 3, 1], fzl := [], pfx := [], snap := [], heads := [], ends := [], ord := [] }
noncomputable def h8 : Hint := { inst := [], el := [], arr := [], fzl := [], pfx := [], snap := [], heads := [(0, { keep := [0, 1, 5], conv := [], bconv := [] })], ends := [(0, { keep := [4], conv := [], bconv := [] })], ord := [] }
noncomputable def h9 : Hint := { inst := [], el := [], arr := [], fzl := [], pfx := [], snap := [], heads := [(0, { keep := [1, 3, 16, 17, 18], conv := [], bconv := [] }), (2, { keep := [1, 3, 4, 6, 16, 17, 18, 37, 38], conv := [], bconv := [] })], ends := [(0, { keep := [2, 3], conv := [], bconv := [] }), (2, { keep := [1, 2, 3, 16, 17, 18], conv := [], bconv := [] })], ord := [] }
noncomputable def h10 : Hint := { inst := [], el := [], arr := [], fzl := [], pfx := [], snap := [], heads := [(0, { keep := [0, 1, 5], conv := [], bconv := [] })], ends := [(0, { keep := [4], conv := [], bconv := [] })], ord := [] }
noncomputable def h11 : Hint := { inst := [], el := [], arr := [], fzl := [], pfx := [], snap := [], heads := [(0, { keep := [1, 3, 19, 20, 21], conv := [], bconv := [] }), (2, { keep := [3, 40, 41, 42], conv := [], bconv := [] }), (4, { keep := [3, 8, 40, 41, 42, 49, 50, 51], conv := [], bconv := [] }), (6, { keep := [3, 8, 40, 41, 42, 49, 50, 51, 56, 57, 58], conv := [], bconv := [] })], ends := [(0, { keep := [1, 2, 3], conv := [], bconv := [] }), (2, { keep := [2, 3], conv := [], bconv := [] }), (4, { keep := [2, 3, 40, 41, 42], conv := [], bconv := [] }), (6, { keep := [2, 3, 8, 40, 41, 42, 49, 50, 51], conv := [], bconv := [] })], ord := [] }
noncomputable def h12 : Hint := { inst := [], el := [], arr := [], fzl := [], pfx := [], snap := [], heads := [(1, { keep := [1, 26, 27, 28], conv := [], bconv := [] }), (3, { keep := [1, 37, 38, 39], conv := [], bconv := [] }), (5, { keep := [1, 48, 49, 50], conv := [], bconv := [] })], ends := [(1, { keep := [1, 2], conv := [], bconv := [] }), (3, { keep := [1, 2], conv := [], bconv := [] }), (5, { keep := [2], conv := [], bconv := [] })], ord := [] }
noncomputable def h13 : Hint := { inst := [], el := [], arr := [], fzl := [], pfx := [], snap := [], heads := [(0, { keep := [1, 2, 3, 13, 14, 15], conv := [], bconv := [(3, 0, .own 38 [.str, (.sl true 3 [(.int .i64)]), (.int .i64)])] }), (2, { keep := [1, 2, 3, 31, 32, 33], conv := [], bconv := [(3, 1, .own 67 [.str, (.sl true 2 [(.int .i64)])])] }), (4, { keep := [1, 2, 3, 49, 50, 51], conv := [], bconv := [(3, 2, .own 70 [.str, (.sl true 3 [(.int .i64)])])] }), (6, { keep := [2, 3, 67, 68, 69], conv := [], bconv := [(3, 3, .own 43 [.str, .bool, (.sl true 3 [(.int .i64)]), (.int .i64), (.sl true 40 [(.sl true 27 [(.int .i64), (.int .i64), (.int .i64), (.int .i64), (.int .i64), (.sl true 3 [(.int .i64)]), (.sl true 3 [(.int .i64)])])])])] })], ends := [(0, { keep := [1, 2, 3], conv := [], bconv := [] }), (2, { keep := [1, 2, 3], conv := [], bconv := [] }), (4, { keep := [1, 2, 3], conv := [], bconv := [] }), (6, { keep := [2, 3], conv := [], bconv := [] })], ord := [] }
noncomputable def h14 : Hint := { inst := [], el := [], arr := [], fzl := [], pfx := [], snap := [], heads := [(0, { keep := [1, 5, 6, 9, 10, 11], conv := [(5, .own 3 [(.int .i64)])], bconv := [] })], ends := [(0, { keep := [4, 5], conv := [], bconv := [] })], ord := [] }
noncomputable def h15 : Hint := { inst := [], el := [], arr := [], fzl := [], pfx := [], snap := [], heads := [(0, { keep := [1, 2, 3, 4, 23, 24], conv := [], bconv := [] }), (2, { keep := [1, 2, 3, 4, 5, 23, 24, 33, 34], conv := [], bconv := [] }), (4, { keep := [1, 2, 3, 100, 101], conv := [], bconv := [] }), (6, { keep := [1, 2, 3, 100, 101, 109, 110, 111], conv := [], bconv := [] }), (8, { keep := [1, 2, 3, 12, 100, 101, 109, 110, 111, 116, 117, 118], conv := [], bconv := [] })], ends := [(0, { keep := [1, 2, 3], conv := [], bconv := [] }), (2, { keep := [1, 2, 3, 4, 23, 24], conv := [], bconv := [] }), (4, { keep := [1, 2], conv := [], bconv := [] }), (6, { keep := [1, 2, 3, 100, 101], conv := [], bconv := [] }), (8, { keep := [1, 2, 3, 100, 101, 109, 110, 111], conv := [], bconv := [] })], ord := [] }
noncomputable def h17 : Hint := { inst := [], el := [], arr := [], fzl := [], pfx := [], snap := [], heads := [(0, { keep := [3, 12, 13, 14], conv := [], bconv := [] })], ends := [(0, { keep := [2, 3], conv := [], bconv := [] })], ord := [], nn := [7] }
noncomputable def h18 : Hint := { inst := [], el := [], arr := [], fzl := [], pfx := [], snap := [], heads := [(0, { keep := [3, 15, 16, 17], conv := [], bconv := [] }), (2, { keep := [3, 15, 16, 17, 22, 23, 24], conv := [], bconv := [] }), (4, { keep := [3, 15, 16, 17, 22, 23, 24, 29, 30, 31], conv := [], bconv := [] })], ends := [(0, { keep := [2, 3], conv := [], bconv := [] }), (2, { keep := [2, 3, 15, 16, 17], conv := [], bconv := [] }), (4, { keep := [2, 3, 15, 16, 17, 22, 23, 24], conv := [], bconv := [] })], ord := [] }
noncomputable def h19 : Hint := { inst := [], el := [], arr := [], fzl := [], pfx := [], snap := [], heads := [(0, { keep := [1, 34, 35, 36], conv := [], bconv := [] }), (2, { keep := [1, 46, 47, 48], conv := [], bconv := [] }), (4, { keep := [1, 64, 65, 66], conv := [], bconv := [] }), (6, { keep := [82, 83, 84], conv := [], bconv := [] })], ends := [(0, { keep := [1, 2], conv := [], bconv := [] }), (2, { keep := [1, 2], conv := [], bconv := [] }), (4, { keep := [1, 2], conv := [], bconv := [] }), (6, { keep := [2], conv := [], bconv := [] })], ord := [] }
noncomputable def h20 : Hint := { inst := [], el := [], arr := [], fzl := [], pfx := [], snap := [], heads := [(0, { keep := [1, 16, 17, 18], conv := [], bconv := [] }), (2, { keep := [1, 4, 16, 17, 18, 23, 24, 25], conv := [], bconv := [] }), (4, { keep := [44, 45, 46], conv := [], bconv := [] }), (6, { keep := [8, 44, 45, 46, 69, 70, 71], conv := [], bconv := [] }), (8, { keep := [44, 45, 46, 92, 93, 94], conv := [], bconv := [] }), (10, { keep := [44, 45, 46, 92, 93, 94, 99, 100, 101], conv := [], bconv := [] })], ends := [(0, { keep := [1, 2], conv := [], bconv := [] }), (2, { keep := [1, 2, 4, 16, 17, 18], conv := [], bconv := [] }), (4, { keep := [2], conv := [], bconv := [] }), (6, { keep := [2, 8, 44, 45, 46], conv := [], bconv := [] }), (8, { keep := [2, 44, 45, 46], conv := [], bconv := [] }), (10, { keep := [2, 44, 45, 46, 92, 93, 94], conv := [], bconv := [] })], ord := [] }
noncomputable def h21 : Hint := { inst := [], el := [], arr := [], fzl := [], pfx := [], snap := [], heads := [(0, { keep := [1, 3, 16, 17, 18], conv := [(3, .own 9 [.str])], bconv := [] }), (2, { keep := [1, 3, 29, 30, 31], conv := [(3, .own 9 [.str])], bconv := [] }), (4, { keep := [1, 3, 42, 43, 44], conv := [(3, .own 9 [.str])], bconv := [] }), (6, { keep := [3, 55, 56, 57], conv := [(3, .own 9 [.str])], bconv := [] }), (8, { keep := [12, 68, 69, 70], conv := [], bconv := [] })], ends := [(0, { keep := [1, 2, 3], conv := [], bconv := [] }), (2, { keep := [1, 2, 3], conv := [], bconv := [] }), (4, { keep := [1, 2, 3], conv := [], bconv := [] }), (6, { keep := [2, 3], conv := [], bconv := [] }), (8, { keep := [2], conv := [], bconv := [] })], ord := [] }
noncomputable def h22 : Hint := { inst := [], el := [], arr := [], fzl := [], pfx := [], snap := [], heads := [(0, { keep := [1, 15, 16, 17], conv := [], bconv := [] }), (2, { keep := [1, 15, 16, 17, 22, 23, 24], conv := [], bconv := [] }), (4, { keep := [1, 40, 41, 42], conv := [], bconv := [] }), (6, { keep := [1, 40, 41, 42, 47, 48, 49], conv := [], bconv := [] }), (8, { keep := [1, 40, 41, 42, 47, 48, 49, 54, 55, 56], conv := [], bconv := [] })], ends := [(0, { keep := [1, 2], conv := [], bconv := [] }), (2, { keep := [1, 2, 15, 16, 17], conv := [], bconv := [] }), (4, { keep := [2], conv := [], bconv := [] }), (6, { keep := [1, 2, 40, 41, 42], conv := [], bconv := [] }), (8, { keep := [1, 2, 40, 41, 42, 47, 48, 49], conv := [], bconv := [] })], ord := [] }
noncomputable def h23 : Hint := { inst := [], el := [], arr := [], fzl := [], pfx := [], snap := [], heads := [(0, { keep := [1, 17, 18, 19], conv := [], bconv := [] }), (2, { keep := [1, 3, 4, 5, 17, 18, 19, 29, 30, 31], conv := [], bconv := [] }), (4, { keep := [1, 8, 17, 18, 19, 74, 75, 76], conv := [], bconv := [] }), (6, { keep := [11, 109, 110, 111], conv := [], bconv := [] }), (8, { keep := [11, 12, 109, 110, 111, 117, 118, 119], conv := [], bconv := [] })], ends := [(0, { keep := [1, 2], conv := [], bconv := [] }), (2, { keep := [1, 2, 4, 17, 18, 19], conv := [], bconv := [] }), (4, { keep := [1, 2, 8, 17, 18, 19], conv := [], bconv := [] }), (6, { keep := [2], conv := [], bconv := [] }), (8, { keep := [2, 11, 109, 110, 111], conv := [], bconv := [] })], ord := [(10, [0, 3, 4, 1, 5, 6, 7, 8, 2, 9, 10, 11, 12, 13, 14, 15, 16, 17, 18, 19, 20, 21])] }
noncomputable def h24 : Hint := { inst := [], el := [], arr := [], fzl := [], pfx := [], snap := [], heads := [(0, { keep := [1, 3, 4, 28, 29, 30], conv := [(4, .own 3 [(.int .i64)])], bconv := [] }), (2, { keep := [1, 3, 4, 5, 28, 29, 30, 36, 37, 38], conv := [(4, .own 3 [(.int .i64)])], bconv := [] }), (4, { keep := [1, 3, 4, 9, 10, 64, 65], conv := [], bconv := [] }), (6, { keep := [1, 3, 4, 9, 10, 11, 12, 64, 65], conv := [], bconv := [] }), (8, { keep := [1, 3, 4, 9, 90, 91, 92], conv := [], bconv := [] }), (10, { keep := [1, 3, 4, 9, 13, 15, 90, 91, 92, 108, 109, 110], conv := [], bconv := [] }), (12, { keep := [1, 3, 4, 9, 13, 15, 17, 90, 91, 92, 108, 109, 110, 115, 116, 117], conv := [], bconv := [] })], ends := [(0, { keep := [1, 2, 3, 4], conv := [], bconv := [] }), (2, { keep := [1, 2, 3, 4, 28, 29, 30], conv := [], bconv := [] }), (4, { keep := [1, 2, 3, 4, 9], conv := [], bconv := [] }), (6, { keep := [1, 2, 3, 4, 9, 10, 64, 65], conv := [], bconv := [] }), (8, { keep := [2], conv := [], bconv := [] }), (10, { keep := [1, 2, 3, 4, 9, 90, 91, 92], conv := [], bconv := [] }), (12, { keep := [1, 2, 3, 4, 9, 13, 15, 17, 90, 91, 92, 108, 109, 110], conv := [], bconv := [] })], ord := [] }
noncomputable def h25 : Hint := { inst := [], el := [], arr := [], fzl := [], pfx := [], snap := [], heads := [(0, { keep := [2, 3, 5, 13, 14, 15], conv := [], bconv := [] }), (2, { keep := [2, 3, 5, 13, 14, 15, 20, 21, 22], conv := [], bconv := [] })], ends := [(0, { keep := [4], conv := [], bconv := [] }), (2, { keep := [2, 3, 4, 5, 13, 14, 15], conv := [], bconv := [] })], ord := [] }
noncomputable def h26 : Hint := { inst := [], el := [], arr := [5], fzl := [], pfx := [], snap := [], heads := [], ends := [], ord := [], fork := true }
noncomputable def h27 : Hint := { inst := [], el := [], arr := [5], fzl := [], pfx := [], snap := [], heads := [], ends := [], ord := [], fork := true }
noncomputable def h28 : Hint := { inst := [], el := [], arr := [], fzl := [], pfx := [], snap := [], heads := [(0, { keep := [1, 2, 16, 17, 18], conv := [], bconv := [(1, 4, .own 40 [(.sl true 27 [(.int .i64), (.int .i64), (.int .i64), (.int .i64), (.int .i64), (.sl true 3 [(.int .i64)]), (.sl true 3 [(.int .i64)])])])] }), (2, { keep := [1, 2, 6, 16, 17, 18, 23, 24, 25], conv := [(6, .own 27 [(.int .i64), (.int .i64), (.int .i64), (.int .i64), (.int .i64), (.sl true 3 [(.int .i64)]), (.sl true 3 [(.int .i64)])])], bconv := [] })], ends := [(0, { keep := [1, 2], conv := [], bconv := [] }), (2, { keep := [1, 2, 6, 16, 17, 18], conv := [], bconv := [] })], ord := [] }
noncomputable def h29 : Hint := { inst := [], el := [], arr := [], fzl := [], pfx := [], snap := [], heads := [(0, { keep := [0, 2], conv := [], bconv := [] }), (2, { keep := [0, 2, 3], conv := [], bconv := [] })], ends := [(0, { keep := [0], conv := [], bconv := [] }), (2, { keep := [0, 2], conv := [], bconv := [] })], ord := [] }
noncomputable def h30 : Hint := { inst := [], el := [(59, [(.int .i64), (.int .i64), (.int .i64), (.int .i64), (.int .i64), (.sl false 3 [(.int .i64)]), (.sl false 3 [(.int .i64)])])], arr := [], fzl := [], pfx := [], snap := [], heads := [(0, { keep := [1, 3, 23, 24, 25], conv := [], bconv := [] }), (2, { keep := [1, 3, 23, 24, 25, 30, 31, 32], conv := [], bconv := [] }), (4, { keep := [3, 47, 48, 49], conv := [], bconv := [(21, 5, .own 94 [(.sl true 3 [(.int .i64)]), (.sl true 111 [(.sl true 110 [(.int .i64), (.int .i64)])]), (.sl true 117 [(.int .i64), (.int .i64)]), (.sl true 27 [(.int .i64), (.int .i64), (.int .i64), (.int .i64), (.int .i64), (.sl false 3 [(.int .i64)]), (.sl false 3 [(.int .i64)])])])] }), (6, { keep := [3, 9, 10, 47, 48, 49, 62, 63, 64], conv := [], bconv := [] }), (8, { keep := [3, 9, 10, 47, 48, 49, 62, 63, 64, 69, 70, 71], conv := [], bconv := [] })], ends := [(0, { keep := [1, 2, 3], conv := [], bconv := [] }), (2, { keep := [1, 2, 3, 23, 24, 25], conv := [], bconv := [] }), (4, { keep := [2, 3], conv := [], bconv := [] }), (6, { keep := [2, 3, 9, 10, 47, 48, 49], conv := [], bconv := [] }), (8, { keep := [2, 3, 9, 10, 47, 48, 49, 62, 63, 64], conv := [], bconv := [] })], ord := [] }
noncomputable def h31 : Hint := { inst := [], el := [], arr := [], fzl := [], pfx := [], snap := [], heads := [], ends := [], ord := [] }
noncomputable def h32 : Hint := { inst := [], el := [], arr := [], fzl := [], pfx := [], snap := [], heads := [(0, { keep := [3, 7, 8, 9], conv := [], bconv := [] })], ends := [(0, { keep := [2, 3], conv := [], bconv := [] })], ord := [] }
noncomputable def h33 : Hint := { inst := [], el := [], arr := [], fzl := [], pfx := [], snap := [], heads := [], ends := [], ord := [] }
noncomputable def h34 : Hint := { inst := [], el := [], arr := [], fzl := [], pfx := [], snap := [], heads := [], ends := [], ord := [] }
noncomputable def h35 : Hint := { inst := [], el := [], arr := [], fzl := [], pfx := [], snap := [], heads := [(0, { keep := [0, 15, 16], conv := [], bconv := [] })], ends := [(0, { keep := [2], conv := [], bconv := [] })], ord := [] }
noncomputable def h36 : Hint := { inst := [], el := [], arr := [], fzl := [], pfx := [], snap := [], heads := [], ends := [], ord := [] }
noncomputable def h37 : Hint := { inst := [], el := [], arr := [], fzl := [], pfx := [], snap := [], heads := [], ends := [], ord := [] }
noncomputable def h38 : Hint := { inst := [], el := [], arr := [], fzl := [], pfx := [], snap := [], heads := [(0, { keep := [4, 16, 17, 18], conv := [], bconv := [] })], ends := [(0, { keep := [2, 4], conv := [], bconv := [] })], ord := [] }
noncomputable def h39 : Hint := { inst := [], el := [], arr := [], fzl := [], pfx := [], snap := [], heads := [(0, { keep := [1, 3, 13, 14], conv := [], bconv := [] }), (2, { keep := [1, 3, 4, 13, 14, 19, 20, 21], conv := [], bconv := [] })], ends := [(0, { keep := [2, 3], conv := [], bconv := [] }), (2, { keep := [1, 2, 3, 13, 14], conv := [], bconv := [] })], ord := [] }
noncomputable def h40 : Hint := { inst := [], el := [], arr := [], fzl := [], pfx := [], snap := [], heads := [(0, { keep := [0, 1, 12, 13], conv := [], bconv := [] })], ends := [(0, { keep := [4], conv := [], bconv := [] })], ord := [] }
noncomputable def h41 : Hint := { inst := [], el := [], arr := [], fzl := [], pfx := [], snap := [], heads := [], ends := [], ord := [] }
noncomputable def h42 : Hint := { inst := [], el := [], arr := [], fzl := [], pfx := [], snap := [], heads := [(0, { keep := [5, 16, 17, 18], conv := [], bconv := [] }), (2, { keep := [5, 16, 17, 18, 23, 24, 25], conv := [], bconv := [] })], ends := [(0, { keep := [4, 5], conv := [], bconv := [] }), (2, { keep := [4, 5, 16, 17, 18], conv := [], bconv := [] })], ord := [] }
noncomputable def h43 : Hint := { inst := [], el := [], arr := [8], fzl := [], pfx := [], snap := [], heads := [(0, { keep := [3, 13, 14, 15], conv := [(3, .own 3 [(.int .i64)])], bconv := [] }), (2, { keep := [3, 13, 14, 15, 20, 21, 22], conv := [(3, .own 3 [(.int .i64)])], bconv := [] })], ends := [(0, { keep := [2, 3], conv := [], bconv := [] }), (2, { keep := [2, 3, 13, 14, 15], conv := [], bconv := [] })], ord := [] }
noncomputable def h44 : Hint := { inst := [], el := [], arr := [], fzl := [227, 211, 138, 127, 119, 107, 96], pfx := [], snap := [], heads := [], ends := [], ord := [] }
noncomputable def h45 : Hint := { inst := [], el := [], arr := [], fzl := [], pfx := [], snap := [], heads := [], ends := [], ord := [] }
noncomputable def h46 : Hint := { inst := [], el := [], arr := [69, 63, 40], fzl := [104], pfx := [], snap := [], heads := [(0, { keep := [0, 22, 23, 24], conv := [], bconv := [] }), (2, { keep := [0, 6], conv := [], bconv := [] }), (4, { keep := [0, 6, 47, 48, 49], conv := [], bconv := [] }), (7, { keep := [0, 6, 7, 9, 47, 48, 49, 109, 110, 111], conv := [(9, .own 110 [(.int .i64), (.int .i64)])], bconv := [] })], ends := [(0, { keep := [0], conv := [], bconv := [] }), (2, { keep := [0], conv := [], bconv := [] }), (4, { keep := [0, 6], conv := [], bconv := [] }), (7, { keep := [0, 6, 7, 9, 47, 48, 49], conv := [], bconv := [] })], ord := [] }
noncomputable def h47 : Hint := { inst := [], el := [], arr := [], fzl := [], pfx := [], snap := [], heads := [(0, { keep := [0, 16, 17], conv := [], bconv := [(500, 0, .own 3 [(.int .i64)]), (500, 1, .own 111 [(.sl true 110 [(.int .i64), (.int .i64)])]), (500, 2, .own 117 [(.int .i64), (.int .i64)]), (500, 3, .own 27 [(.int .i64), (.int .i64), (.int .i64), (.int .i64), (.int .i64), (.sl false 3 [(.int .i64)]), (.sl false 3 [(.int .i64)])])] })], ends := [(0, { keep := [0], conv := [], bconv := [] })], ord := [] }
noncomputable def h48 : Hint := { inst := [], el := [], arr := [], fzl := [], pfx := [], snap := [], heads := [], ends := [], ord := [] }
noncomputable def h49 : Hint := { inst := [], el := [], arr := [], fzl := [], pfx := [], snap := [], heads := [(0, { keep := [0, 1, 7, 8], conv := [], bconv := [] })], ends := [(0, { keep := [4], conv := [], bconv := [] })], ord := [] }
noncomputable def h50 : Hint := { inst := [], el := [], arr := [], fzl := [], pfx := [], snap := [], heads := [], ends := [], ord := [] }
noncomputable def h51 : Hint := { inst := [], el := [], arr := [], fzl := [], pfx := [], snap := [], heads := [(0, { keep := [2, 5, 55, 56, 57], conv := [(5, .own 3 [(.int .i64)])], bconv := [] })], ends := [(0, { keep := [4, 5], conv := [], bconv := [] })], ord := [] }
noncomputable def h52 : Hint := { inst := [], el := [], arr := [], fzl := [], pfx := [], snap := [], heads := [(0, { keep := [0, 3, 10, 11], conv := [], bconv := [] }), (2, { keep := [0, 3, 4, 10, 11, 18, 19], conv := [], bconv := [] })], ends := [(0, { keep := [2, 3], conv := [], bconv := [] }), (2, { keep := [0, 2, 3, 10, 11], conv := [], bconv := [] })], ord := [] }
noncomputable def h53 : Hint := { inst := [], el := [], arr := [], fzl := [], pfx := [], snap := [], heads := [(0, { keep := [1, 3, 4, 16, 17], conv := [], bconv := [] }), (2, { keep := [3, 4, 6, 7, 31, 32], conv := [], bconv := [] }), (4, { keep := [3, 4, 6, 7, 8, 9, 31, 32, 48, 49], conv := [], bconv := [] })], ends := [(0, { keep := [1, 2, 3, 4], conv := [], bconv := [] }), (2, { keep := [2, 7], conv := [], bconv := [] }), (4, { keep := [2, 3, 4, 6, 7, 31, 32], conv := [], bconv := [] })], ord := [] }
noncomputable def h54 : Hint := { inst := [], el := [], arr := [], fzl := [], pfx := [], snap := [], heads := [(0, { keep := [0, 2, 9, 10, 11], conv := [], bconv := [] })], ends := [(0, { keep := [6], conv := [], bconv := [] })], ord := [] }
noncomputable def h55 : Hint := { inst := [], el := [], arr := [], fzl := [], pfx := [], snap := [], heads := [(0, { keep := [0, 2, 14, 15, 16], conv := [], bconv := [] })], ends := [(0, { keep := [6], conv := [], bconv := [] })], ord := [] }
noncomputable def h56 : Hint := { inst := [], el := [], arr := [], fzl := [], pfx := [], snap := [], heads := [(0, { keep := [0, 3, 9, 10, 11], conv := [], bconv := [] }), (2, { keep := [6, 25, 26, 27], conv := [(6, .own 110 [(.int .i64), (.int .i64)])], bconv := [] })], ends := [(0, { keep := [0, 2, 3], conv := [], bconv := [] }), (2, { keep := [2, 6], conv := [], bconv := [] })], ord := [] }
noncomputable def h57 : Hint := { inst := [], el := [], arr := [5], fzl := [], pfx := [], snap := [], heads := [], ends := [], ord := [], fork := true }
noncomputable def h58 : Hint := { inst := [], el := [], arr := [], fzl := [], pfx := [], snap := [], heads := [], ends := [], ord := [] }
noncomputable def h59 : Hint := { inst := [], el := [], arr := [], fzl := [], pfx := [], snap := [], heads := [], ends := [], ord := [] }
noncomputable def h60 : Hint := { inst := [], el := [], arr := [], fzl := [], pfx := [], snap := [], heads := [(0, { keep := [0, 3], conv := [], bconv := [] }), (2, { keep := [0, 3, 4, 5], conv := [], bconv := [] })], ends := [(0, { keep := [0, 2], conv := [], bconv := [] }), (2, { keep := [0, 2, 3], conv := [], bconv := [] })], ord := [] }
noncomputable def h61 : Hint := { inst := [], el := [], arr := [], fzl := [], pfx := [], snap := [], heads := [], ends := [], ord := [] }
noncomputable def h62 : Hint := { inst := [], el := [], arr := [], fzl := [], pfx := [], snap := [], heads := [(0, { keep := [0, 1, 17, 18, 19], conv := [], bconv := [(500, 5, .own 3 [(.int .i64)]), (500, 6, .own 3 [(.int .i64)])] })], ends := [(0, { keep := [0, 1], conv := [], bconv := [] })], ord := [] }
noncomputable def h63 : Hint := { inst := [], el := [], arr := [], fzl := [], pfx := [], snap := [], heads := [], ends := [], ord := [] }
noncomputable def h64 : Hint := { inst := [], el := [], arr := [], fzl := [], pfx := [], snap := [], heads := [(0, { keep := [0, 1, 5, 6], conv := [(6, .own 3 [(.int .i64)])], bconv := [] }), (2, { keep := [0, 1, 5, 6, 37, 38, 39], conv := [(6, .own 3 [(.int .i64)])], bconv := [] })], ends := [(0, { keep := [4, 5], conv := [], bconv := [] }), (2, { keep := [0, 1, 4, 5, 6], conv := [], bconv := [] })], ord := [] }
noncomputable def h65 : Hint := { inst := [], el := [], arr := [], fzl := [], pfx := [], snap := [], heads := [], ends := [], ord := [] }
noncomputable def h66 : Hint := { inst := [], el := [], arr := [], fzl := [], pfx := [], snap := [], heads := [(0, { keep := [0, 1, 2, 3, 4, 10, 11], conv := [], bconv := [] })], ends := [(0, { keep := [], conv := [], bconv := [] })], ord := [] }
noncomputable def h67 : Hint := { inst := [], el := [], arr := [], fzl := [], pfx := [], snap := [], heads := [], ends := [], ord := [] }
noncomputable def h68 : Hint := { inst := [], el := [], arr := [], fzl := [], pfx := [], snap := [], heads := [], ends := [], ord := [] }
noncomputable def h69 : Hint := { inst := [], el := [], arr := [], fzl := [], pfx := [], snap := [], heads := [(0, { keep := [0, 1, 7, 8], conv := [], bconv := [] })], ends := [(0, { keep := [4], conv := [], bconv := [] })], ord := [] }
noncomputable def h70 : Hint := { inst := [], el := [], arr := [], fzl := [], pfx := [], snap := [], heads := [(0, { keep := [0, 1, 2, 3, 8], conv := [], bconv := [] }), (2, { keep := [0, 1, 2, 3, 8, 9], conv := [], bconv := [] })], ends := [(0, { keep := [], conv := [], bconv := [] }), (2, { keep := [0, 1, 2, 3, 8], conv := [], bconv := [] })], ord := [] }
noncomputable def h78 : Hint := { inst := [], el := [], arr := [], fzl := [], pfx := [], snap := [], heads := [], ends := [], ord := [] }
noncomputable def h79 : Hint := { inst := [], el := [], arr := [], fzl := [], pfx := [], snap := [], heads := [], ends := [], ord := [] }
noncomputable def h81 : Hint := { inst := [], el := [], arr := [], fzl := [], pfx := [], snap := [], heads := [], ends := [], ord := [] }
noncomputable def h82 : Hint := { inst := [], el := [], arr := [], fzl := [], pfx := [], snap := [], heads := [], ends := [], ord := [] }
noncomputable def sites : BT Site := (.node 0 { fn := 16, f := Go.Proofs.Try.f16, c := cd Go.Proofs.Try.f16, h := { inst := [], el := [], arr := [], fzl := [], pfx := [], snap := [], heads := [(0, { keep := [1, 2, 4, 5, 6, 7, 8, 2002, 2005, 2006, 2007, 2027, 2028, 2121, 2122, 2123], conv := [], bconv := [], nb := 1000 }), (2, { keep := [1, 2, 4, 5, 52, 53, 54, 2002, 2005, 2006, 2007, 2027, 2028, 2121, 2122, 2123], conv := [], bconv := [], nb := 1000 }), (4, { keep := [1, 2, 4, 5, 52, 53, 54, 59, 60, 61, 2002, 2005, 2006, 2007, 2027, 2028, 2121, 2122, 2123], conv := [], bconv := [], nb := 1000 }), (6, { keep := [1, 2, 4, 5, 12, 52, 53, 54, 59, 60, 61, 66, 67, 68, 2002, 2005, 2006, 2007, 2027, 2028, 2121, 2122, 2123], conv := [], bconv := [], nb := 1000 })], ends := [(0, { keep := [1, 2, 4, 5, 2002, 2005, 2006, 2007, 2027, 2028, 2121, 2122, 2123], conv := [], bconv := [], nb := 1000 }), (2, { keep := [1, 2, 4, 2002, 2005, 2006, 2007, 2027, 2028, 2121, 2122, 2123], conv := [], bconv := [], nb := 1000 }), (4, { keep := [1, 2, 4, 5, 52, 53, 54, 2002, 2005, 2006, 2007, 2027, 2028, 2121, 2122, 2123], conv := [], bconv := [], nb := 1000 }), (6, { keep := [1, 2, 4, 5, 52, 53, 54, 59, 60, 61, 2002, 2005, 2006, 2007, 2027, 2028, 2121, 2122, 2123], conv := [], bconv := [], nb := 1000 })], ord := [], nb := 400 }, np := 2 }
 .nil .nil)
noncomputable def bodies : Bodies := (.node 39 (Go.Proofs.Try.f39, h39)
 (.node 21 (Go.Proofs.Try.f21, h21)
 (.node 11 (Go.Proofs.Try.f11, h11)
 (.node 7 (Go.Proofs.Try.f7, h7)
 (.node 5 (Go.Proofs.Try.f5, h5)
 (.node 4 (Go.Proofs.Try.f4, h4)
 (.node 3 (Go.Proofs.Try.f3, h3)
 .nil .nil) .nil) (.node 6 (Go.Proofs.Try.f6, h6)
 .nil .nil)) (.node 9 (Go.Proofs.Try.f9, h9)
 (.node 8 (Go.Proofs.Try.f8, h8)
 .nil .nil) (.node 10 (Go.Proofs.Try.f10, h10)
 .nil .nil))) (.node 17 (Go.Proofs.Try.f17, h17)
 (.node 14 (Go.Proofs.Try.f14, h14)
 (.node 13 (Go.Proofs.Try.f13, h13)
 (.node 12 (Go.Proofs.Try.f12, h12)
 .nil .nil) .nil) (.node 15 (Go.Proofs.Try.f15, h15)
 .nil .nil)) (.node 19 (Go.Proofs.Try.f19, h19)
 (.node 18 (Go.Proofs.Try.f18, h18)
 .nil .nil) (.node 20 (Go.Proofs.Try.f20, h20)
 .nil .nil)))) (.node 30 (Go.Proofs.Try.f30, h30)
 (.node 26 (Go.Proofs.Try.f26, h26)
 (.node 24 (Go.Proofs.Try.f24, h24)
 (.node 23 (Go.Proofs.Try.f23, h23)
 (.node 22 (Go.Proofs.Try.f22, h22)
 .nil .nil) .nil) (.node 25 (Go.Proofs.Try.f25, h25)
 .nil .nil)) (.node 28 (Go.Proofs.Try.f28, h28)
 (.node 27 (Go.Proofs.Try.f27, h27)
 .nil .nil) (.node 29 (Go.Proofs.Try.f29, h29)
 .nil .nil))) (.node 35 (Go.Proofs.Try.f35, h35)
 (.node 33 (Go.Proofs.Try.f33, h33)
 (.node 32 (Go.Proofs.Try.f32, h32)
 (.node 31 (Go.Proofs.Try.f31, h31)
 .nil .nil) .nil) (.node 34 (Go.Proofs.Try.f34, h34)
 .nil .nil)) (.node 37 (Go.Proofs.Try.f37, h37)
 (.node 36 (Go.Proofs.Try.f36, h36)
 .nil .nil) (.node 38 (Go.Proofs.Try.f38, h38)
 .nil .nil))))) (.node 58 (Go.Proofs.Try.f58, h58)
 (.node 48 (Go.Proofs.Try.f48, h48)
 (.node 44 (Go.Proofs.Try.f44, h44)
 (.node 42 (Go.Proofs.Try.f42, h42)
 (.node 41 (Go.Proofs.Try.f41, h41)
 (.node 40 (Go.Proofs.Try.f40, h40)
 .nil .nil) .nil) (.node 43 (Go.Proofs.Try.f43, h43)
 .nil .nil)) (.node 46 (Go.Proofs.Try.f46, h46)
 (.node 45 (Go.Proofs.Try.f45, h45)
 .nil .nil) (.node 47 (Go.Proofs.Try.f47, h47)
 .nil .nil))) (.node 53 (Go.Proofs.Try.f53, h53)
 (.node 51 (Go.Proofs.Try.f51, h51)
 (.node 50 (Go.Proofs.Try.f50, h50)
 (.node 49 (Go.Proofs.Try.f49, h49)
 .nil .nil) .nil) (.node 52 (Go.Proofs.Try.f52, h52)
 .nil .nil)) (.node 55 (Go.Proofs.Try.f55, h55)
 (.node 54 (Go.Proofs.Try.f54, h54)
 .nil .nil) (.node 57 (Go.Proofs.Try.f57, h57)
 .nil .nil)))) (.node 67 (Go.Proofs.Try.f67, h67)
 (.node 63 (Go.Proofs.Try.f63, h63)
 (.node 61 (Go.Proofs.Try.f61, h61)
 (.node 60 (Go.Proofs.Try.f60, h60)
 (.node 59 (Go.Proofs.Try.f59, h59)
 .nil .nil) .nil) (.node 62 (Go.Proofs.Try.f62, h62)
 .nil .nil)) (.node 65 (Go.Proofs.Try.f65, h65)
 (.node 64 (Go.Proofs.Try.f64, h64)
 .nil .nil) (.node 66 (Go.Proofs.Try.f66, h66)
 .nil .nil))) (.node 78 (Go.Proofs.Try.f78, h78)
 (.node 69 (Go.Proofs.Try.f69, h69)
 (.node 68 (Go.Proofs.Try.f68, h68)
 .nil .nil) (.node 70 (Go.Proofs.Try.f70, h70)
 .nil .nil)) (.node 81 (Go.Proofs.Try.f81, h81)
 (.node 79 (Go.Proofs.Try.f79, h79)
 .nil .nil) (.node 82 (Go.Proofs.Try.f82, h82)
 .nil .nil))))))
noncomputable def E : Env := { tt := types, pt := ptrs, sg := sigs, eqt := eqts, mt := maps }
theorem env_ok : envB Go.Proofs.Try.prog E = true := by kernel_rfl
theorem env_sound : EnvOk Go.Proofs.Try.prog E := envB_sound env_ok
theorem mixed : Go.Proofs.Try.prog.follows .mixedOrders = true := by kernel_rfl
theorem bodies_ok : bodies.allB (fnB E) = true := by kernel_rfl
theorem sigs_ok : sigs.allB sgB = true := by kernel_rfl
theorem sites_ok : sites.allB (siteB E) = true := by kernel_rfl
theorem in3 {s : Sig} : FnIn Go.Proofs.Try.prog 3 s := ⟨_, Go.Proofs.Try.func3, by have h : (Go.Proofs.Try.f3.name == "runtime.NumGoroutine") = false := (by kernel_rfl); simpa using h, by kernel_rfl⟩
theorem in4 {s : Sig} : FnIn Go.Proofs.Try.prog 4 s := ⟨_, Go.Proofs.Try.func4, by have h : (Go.Proofs.Try.f4.name == "runtime.NumGoroutine") = false := (by kernel_rfl); simpa using h, by kernel_rfl⟩
theorem in5 {s : Sig} : FnIn Go.Proofs.Try.prog 5 s := ⟨_, Go.Proofs.Try.func5, by have h : (Go.Proofs.Try.f5.name == "runtime.NumGoroutine") = false := (by kernel_rfl); simpa using h, by kernel_rfl⟩
theorem in6 {s : Sig} : FnIn Go.Proofs.Try.prog 6 s := ⟨_, Go.Proofs.Try.func6, by have h : (Go.Proofs.Try.f6.name == "runtime.NumGoroutine") = false := (by kernel_rfl); simpa using h, by kernel_rfl⟩
theorem in7 {s : Sig} : FnIn Go.Proofs.Try.prog 7 s := ⟨_, Go.Proofs.Try.func7, by have h : (Go.Proofs.Try.f7.name == "runtime.NumGoroutine") = false := (by kernel_rfl); simpa using h, by kernel_rfl⟩
theorem in8 {s : Sig} : FnIn Go.Proofs.Try.prog 8 s := ⟨_, Go.Proofs.Try.func8, by have h : (Go.Proofs.Try.f8.name == "runtime.NumGoroutine") = false := (by kernel_rfl); simpa using h, by kernel_rfl⟩
theorem in9 {s : Sig} : FnIn Go.Proofs.Try.prog 9 s := ⟨_, Go.Proofs.Try.func9, by have h : (Go.Proofs.Try.f9.name == "runtime.NumGoroutine") = false := (by kernel_rfl); simpa using h, by kernel_rfl⟩
theorem in10 {s : Sig} : FnIn Go.Proofs.Try.prog 10 s := ⟨_, Go.Proofs.Try.func10, by have h : (Go.Proofs.Try.f10.name == "runtime.NumGoroutine") = false := (by kernel_rfl); simpa using h, by kernel_rfl⟩
theorem in11 {s : Sig} : FnIn Go.Proofs.Try.prog 11 s := ⟨_, Go.Proofs.Try.func11, by have h : (Go.Proofs.Try.f11.name == "runtime.NumGoroutine") = false := (by kernel_rfl); simpa using h, by kernel_rfl⟩
theorem in12 {s : Sig} : FnIn Go.Proofs.Try.prog 12 s := ⟨_, Go.Proofs.Try.func12, by have h : (Go.Proofs.Try.f12.name == "runtime.NumGoroutine") = false := (by kernel_rfl); simpa using h, by kernel_rfl⟩
theorem in13 {s : Sig} : FnIn Go.Proofs.Try.prog 13 s := ⟨_, Go.Proofs.Try.func13, by have h : (Go.Proofs.Try.f13.name == "runtime.NumGoroutine") = false := (by kernel_rfl); simpa using h, by kernel_rfl⟩
theorem in14 {s : Sig} : FnIn Go.Proofs.Try.prog 14 s := ⟨_, Go.Proofs.Try.func14, by have h : (Go.Proofs.Try.f14.name == "runtime.NumGoroutine") = false := (by kernel_rfl); simpa using h, by kernel_rfl⟩
theorem in15 {s : Sig} : FnIn Go.Proofs.Try.prog 15 s := ⟨_, Go.Proofs.Try.func15, by have h : (Go.Proofs.Try.f15.name == "runtime.NumGoroutine") = false := (by kernel_rfl); simpa using h, by kernel_rfl⟩
theorem in17 {s : Sig} : FnIn Go.Proofs.Try.prog 17 s := ⟨_, Go.Proofs.Try.func17, by have h : (Go.Proofs.Try.f17.name == "runtime.NumGoroutine") = false := (by kernel_rfl); simpa using h, by kernel_rfl⟩
theorem in18 {s : Sig} : FnIn Go.Proofs.Try.prog 18 s := ⟨_, Go.Proofs.Try.func18, by have h : (Go.Proofs.Try.f18.name == "runtime.NumGoroutine") = false := (by kernel_rfl); simpa using h, by kernel_rfl⟩
theorem in19 {s : Sig} : FnIn Go.Proofs.Try.prog 19 s := ⟨_, Go.Proofs.Try.func19, by have h : (Go.Proofs.Try.f19.name == "runtime.NumGoroutine") = false := (by kernel_rfl); simpa using h, by kernel_rfl⟩
theorem in20 {s : Sig} : FnIn Go.Proofs.Try.prog 20 s := ⟨_, Go.Proofs.Try.func20, by have h : (Go.Proofs.Try.f20.name == "runtime.NumGoroutine") = false := (by kernel_rfl); simpa using h, by kernel_rfl⟩
theorem in21 {s : Sig} : FnIn Go.Proofs.Try.prog 21 s := ⟨_, Go.Proofs.Try.func21, by have h : (Go.Proofs.Try.f21.name == "runtime.NumGoroutine") = false := (by kernel_rfl); simpa using h, by kernel_rfl⟩
theorem in22 {s : Sig} : FnIn Go.Proofs.Try.prog 22 s := ⟨_, Go.Proofs.Try.func22, by have h : (Go.Proofs.Try.f22.name == "runtime.NumGoroutine") = false := (by kernel_rfl); simpa using h, by kernel_rfl⟩
theorem in23 {s : Sig} : FnIn Go.Proofs.Try.prog 23 s := ⟨_, Go.Proofs.Try.func23, by have h : (Go.Proofs.Try.f23.name == "runtime.NumGoroutine") = false := (by kernel_rfl); simpa using h, by kernel_rfl⟩
theorem in24 {s : Sig} : FnIn Go.Proofs.Try.prog 24 s := ⟨_, Go.Proofs.Try.func24, by have h : (Go.Proofs.Try.f24.name == "runtime.NumGoroutine") = false := (by kernel_rfl); simpa using h, by kernel_rfl⟩
theorem in25 {s : Sig} : FnIn Go.Proofs.Try.prog 25 s := ⟨_, Go.Proofs.Try.func25, by have h : (Go.Proofs.Try.f25.name == "runtime.NumGoroutine") = false := (by kernel_rfl); simpa using h, by kernel_rfl⟩
theorem in26 {s : Sig} : FnIn Go.Proofs.Try.prog 26 s := ⟨_, Go.Proofs.Try.func26, by have h : (Go.Proofs.Try.f26.name == "runtime.NumGoroutine") = false := (by kernel_rfl); simpa using h, by kernel_rfl⟩
theorem in27 {s : Sig} : FnIn Go.Proofs.Try.prog 27 s := ⟨_, Go.Proofs.Try.func27, by have h : (Go.Proofs.Try.f27.name == "runtime.NumGoroutine") = false := (by kernel_rfl); simpa using h, by kernel_rfl⟩
theorem in28 {s : Sig} : FnIn Go.Proofs.Try.prog 28 s := ⟨_, Go.Proofs.Try.func28, by have h : (Go.Proofs.Try.f28.name == "runtime.NumGoroutine") = false := (by kernel_rfl); simpa using h, by kernel_rfl⟩
theorem in29 {s : Sig} : FnIn Go.Proofs.Try.prog 29 s := ⟨_, Go.Proofs.Try.func29, by have h : (Go.Proofs.Try.f29.name == "runtime.NumGoroutine") = false := (by kernel_rfl); simpa using h, by kernel_rfl⟩
theorem in30 {s : Sig} : FnIn Go.Proofs.Try.prog 30 s := ⟨_, Go.Proofs.Try.func30, by have h : (Go.Proofs.Try.f30.name == "runtime.NumGoroutine") = false := (by kernel_rfl); simpa using h, by kernel_rfl⟩
theorem in31 {s : Sig} : FnIn Go.Proofs.Try.prog 31 s := ⟨_, Go.Proofs.Try.func31, by have h : (Go.Proofs.Try.f31.name == "runtime.NumGoroutine") = false := (by kernel_rfl); simpa using h, by kernel_rfl⟩
theorem in32 {s : Sig} : FnIn Go.Proofs.Try.prog 32 s := ⟨_, Go.Proofs.Try.func32, by have h : (Go.Proofs.Try.f32.name == "runtime.NumGoroutine") = false := (by kernel_rfl); simpa using h, by kernel_rfl⟩
theorem in33 {s : Sig} : FnIn Go.Proofs.Try.prog 33 s := ⟨_, Go.Proofs.Try.func33, by have h : (Go.Proofs.Try.f33.name == "runtime.NumGoroutine") = false := (by kernel_rfl); simpa using h, by kernel_rfl⟩
theorem in34 {s : Sig} : FnIn Go.Proofs.Try.prog 34 s := ⟨_, Go.Proofs.Try.func34, by have h : (Go.Proofs.Try.f34.name == "runtime.NumGoroutine") = false := (by kernel_rfl); simpa using h, by kernel_rfl⟩
theorem in35 {s : Sig} : FnIn Go.Proofs.Try.prog 35 s := ⟨_, Go.Proofs.Try.func35, by have h : (Go.Proofs.Try.f35.name == "runtime.NumGoroutine") = false := (by kernel_rfl); simpa using h, by kernel_rfl⟩
theorem in36 {s : Sig} : FnIn Go.Proofs.Try.prog 36 s := ⟨_, Go.Proofs.Try.func36, by have h : (Go.Proofs.Try.f36.name == "runtime.NumGoroutine") = false := (by kernel_rfl); simpa using h, by kernel_rfl⟩
theorem in37 {s : Sig} : FnIn Go.Proofs.Try.prog 37 s := ⟨_, Go.Proofs.Try.func37, by have h : (Go.Proofs.Try.f37.name == "runtime.NumGoroutine") = false := (by kernel_rfl); simpa using h, by kernel_rfl⟩
theorem in38 {s : Sig} : FnIn Go.Proofs.Try.prog 38 s := ⟨_, Go.Proofs.Try.func38, by have h : (Go.Proofs.Try.f38.name == "runtime.NumGoroutine") = false := (by kernel_rfl); simpa using h, by kernel_rfl⟩
theorem in39 {s : Sig} : FnIn Go.Proofs.Try.prog 39 s := ⟨_, Go.Proofs.Try.func39, by have h : (Go.Proofs.Try.f39.name == "runtime.NumGoroutine") = false := (by kernel_rfl); simpa using h, by kernel_rfl⟩
theorem in40 {s : Sig} : FnIn Go.Proofs.Try.prog 40 s := ⟨_, Go.Proofs.Try.func40, by have h : (Go.Proofs.Try.f40.name == "runtime.NumGoroutine") = false := (by kernel_rfl); simpa using h, by kernel_rfl⟩
theorem in41 {s : Sig} : FnIn Go.Proofs.Try.prog 41 s := ⟨_, Go.Proofs.Try.func41, by have h : (Go.Proofs.Try.f41.name == "runtime.NumGoroutine") = false := (by kernel_rfl); simpa using h, by kernel_rfl⟩
theorem in42 {s : Sig} : FnIn Go.Proofs.Try.prog 42 s := ⟨_, Go.Proofs.Try.func42, by have h : (Go.Proofs.Try.f42.name == "runtime.NumGoroutine") = false := (by kernel_rfl); simpa using h, by kernel_rfl⟩
theorem in43 {s : Sig} : FnIn Go.Proofs.Try.prog 43 s := ⟨_, Go.Proofs.Try.func43, by have h : (Go.Proofs.Try.f43.name == "runtime.NumGoroutine") = false := (by kernel_rfl); simpa using h, by kernel_rfl⟩
theorem in44 {s : Sig} : FnIn Go.Proofs.Try.prog 44 s := ⟨_, Go.Proofs.Try.func44, by have h : (Go.Proofs.Try.f44.name == "runtime.NumGoroutine") = false := (by kernel_rfl); simpa using h, by kernel_rfl⟩
theorem in45 {s : Sig} : FnIn Go.Proofs.Try.prog 45 s := ⟨_, Go.Proofs.Try.func45, by have h : (Go.Proofs.Try.f45.name == "runtime.NumGoroutine") = false := (by kernel_rfl); simpa using h, by kernel_rfl⟩
theorem in46 {s : Sig} : FnIn Go.Proofs.Try.prog 46 s := ⟨_, Go.Proofs.Try.func46, by have h : (Go.Proofs.Try.f46.name == "runtime.NumGoroutine") = false := (by kernel_rfl); simpa using h, by kernel_rfl⟩
theorem in47 {s : Sig} : FnIn Go.Proofs.Try.prog 47 s := ⟨_, Go.Proofs.Try.func47, by have h : (Go.Proofs.Try.f47.name == "runtime.NumGoroutine") = false := (by kernel_rfl); simpa using h, by kernel_rfl⟩
theorem in48 {s : Sig} : FnIn Go.Proofs.Try.prog 48 s := ⟨_, Go.Proofs.Try.func48, by have h : (Go.Proofs.Try.f48.name == "runtime.NumGoroutine") = false := (by kernel_rfl); simpa using h, by kernel_rfl⟩
theorem in49 {s : Sig} : FnIn Go.Proofs.Try.prog 49 s := ⟨_, Go.Proofs.Try.func49, by have h : (Go.Proofs.Try.f49.name == "runtime.NumGoroutine") = false := (by kernel_rfl); simpa using h, by kernel_rfl⟩
theorem in50 {s : Sig} : FnIn Go.Proofs.Try.prog 50 s := ⟨_, Go.Proofs.Try.func50, by have h : (Go.Proofs.Try.f50.name == "runtime.NumGoroutine") = false := (by kernel_rfl); simpa using h, by kernel_rfl⟩
theorem in51 {s : Sig} : FnIn Go.Proofs.Try.prog 51 s := ⟨_, Go.Proofs.Try.func51, by have h : (Go.Proofs.Try.f51.name == "runtime.NumGoroutine") = false := (by kernel_rfl); simpa using h, by kernel_rfl⟩
theorem in52 {s : Sig} : FnIn Go.Proofs.Try.prog 52 s := ⟨_, Go.Proofs.Try.func52, by have h : (Go.Proofs.Try.f52.name == "runtime.NumGoroutine") = false := (by kernel_rfl); simpa using h, by kernel_rfl⟩
theorem in53 {s : Sig} : FnIn Go.Proofs.Try.prog 53 s := ⟨_, Go.Proofs.Try.func53, by have h : (Go.Proofs.Try.f53.name == "runtime.NumGoroutine") = false := (by kernel_rfl); simpa using h, by kernel_rfl⟩
theorem in54 {s : Sig} : FnIn Go.Proofs.Try.prog 54 s := ⟨_, Go.Proofs.Try.func54, by have h : (Go.Proofs.Try.f54.name == "runtime.NumGoroutine") = false := (by kernel_rfl); simpa using h, by kernel_rfl⟩
theorem in55 {s : Sig} : FnIn Go.Proofs.Try.prog 55 s := ⟨_, Go.Proofs.Try.func55, by have h : (Go.Proofs.Try.f55.name == "runtime.NumGoroutine") = false := (by kernel_rfl); simpa using h, by kernel_rfl⟩
theorem in56 {s : Sig} : FnIn Go.Proofs.Try.prog 56 s := ⟨_, Go.Proofs.Try.func56, by have h : (Go.Proofs.Try.f56.name == "runtime.NumGoroutine") = false := (by kernel_rfl); simpa using h, by kernel_rfl⟩
theorem in57 {s : Sig} : FnIn Go.Proofs.Try.prog 57 s := ⟨_, Go.Proofs.Try.func57, by have h : (Go.Proofs.Try.f57.name == "runtime.NumGoroutine") = false := (by kernel_rfl); simpa using h, by kernel_rfl⟩
theorem in58 {s : Sig} : FnIn Go.Proofs.Try.prog 58 s := ⟨_, Go.Proofs.Try.func58, by have h : (Go.Proofs.Try.f58.name == "runtime.NumGoroutine") = false := (by kernel_rfl); simpa using h, by kernel_rfl⟩
theorem in59 {s : Sig} : FnIn Go.Proofs.Try.prog 59 s := ⟨_, Go.Proofs.Try.func59, by have h : (Go.Proofs.Try.f59.name == "runtime.NumGoroutine") = false := (by kernel_rfl); simpa using h, by kernel_rfl⟩
theorem in60 {s : Sig} : FnIn Go.Proofs.Try.prog 60 s := ⟨_, Go.Proofs.Try.func60, by have h : (Go.Proofs.Try.f60.name == "runtime.NumGoroutine") = false := (by kernel_rfl); simpa using h, by kernel_rfl⟩
theorem in61 {s : Sig} : FnIn Go.Proofs.Try.prog 61 s := ⟨_, Go.Proofs.Try.func61, by have h : (Go.Proofs.Try.f61.name == "runtime.NumGoroutine") = false := (by kernel_rfl); simpa using h, by kernel_rfl⟩
theorem in62 {s : Sig} : FnIn Go.Proofs.Try.prog 62 s := ⟨_, Go.Proofs.Try.func62, by have h : (Go.Proofs.Try.f62.name == "runtime.NumGoroutine") = false := (by kernel_rfl); simpa using h, by kernel_rfl⟩
theorem in63 {s : Sig} : FnIn Go.Proofs.Try.prog 63 s := ⟨_, Go.Proofs.Try.func63, by have h : (Go.Proofs.Try.f63.name == "runtime.NumGoroutine") = false := (by kernel_rfl); simpa using h, by kernel_rfl⟩
theorem in64 {s : Sig} : FnIn Go.Proofs.Try.prog 64 s := ⟨_, Go.Proofs.Try.func64, by have h : (Go.Proofs.Try.f64.name == "runtime.NumGoroutine") = false := (by kernel_rfl); simpa using h, by kernel_rfl⟩
theorem in65 {s : Sig} : FnIn Go.Proofs.Try.prog 65 s := ⟨_, Go.Proofs.Try.func65, by have h : (Go.Proofs.Try.f65.name == "runtime.NumGoroutine") = false := (by kernel_rfl); simpa using h, by kernel_rfl⟩
theorem in66 {s : Sig} : FnIn Go.Proofs.Try.prog 66 s := ⟨_, Go.Proofs.Try.func66, by have h : (Go.Proofs.Try.f66.name == "runtime.NumGoroutine") = false := (by kernel_rfl); simpa using h, by kernel_rfl⟩
theorem in67 {s : Sig} : FnIn Go.Proofs.Try.prog 67 s := ⟨_, Go.Proofs.Try.func67, by have h : (Go.Proofs.Try.f67.name == "runtime.NumGoroutine") = false := (by kernel_rfl); simpa using h, by kernel_rfl⟩
theorem in68 {s : Sig} : FnIn Go.Proofs.Try.prog 68 s := ⟨_, Go.Proofs.Try.func68, by have h : (Go.Proofs.Try.f68.name == "runtime.NumGoroutine") = false := (by kernel_rfl); simpa using h, by kernel_rfl⟩
theorem in69 {s : Sig} : FnIn Go.Proofs.Try.prog 69 s := ⟨_, Go.Proofs.Try.func69, by have h : (Go.Proofs.Try.f69.name == "runtime.NumGoroutine") = false := (by kernel_rfl); simpa using h, by kernel_rfl⟩
theorem in70 {s : Sig} : FnIn Go.Proofs.Try.prog 70 s := ⟨_, Go.Proofs.Try.func70, by have h : (Go.Proofs.Try.f70.name == "runtime.NumGoroutine") = false := (by kernel_rfl); simpa using h, by kernel_rfl⟩
theorem in78 {s : Sig} : FnIn Go.Proofs.Try.prog 78 s := ⟨_, Go.Proofs.Try.func78, by have h : (Go.Proofs.Try.f78.name == "runtime.NumGoroutine") = false := (by kernel_rfl); simpa using h, by kernel_rfl⟩
theorem in79 {s : Sig} : FnIn Go.Proofs.Try.prog 79 s := ⟨_, Go.Proofs.Try.func79, by have h : (Go.Proofs.Try.f79.name == "runtime.NumGoroutine") = false := (by kernel_rfl); simpa using h, by kernel_rfl⟩
theorem in81 {s : Sig} : FnIn Go.Proofs.Try.prog 81 s := ⟨_, Go.Proofs.Try.func81, by have h : (Go.Proofs.Try.f81.name == "runtime.NumGoroutine") = false := (by kernel_rfl); simpa using h, by kernel_rfl⟩
theorem in82 {s : Sig} : FnIn Go.Proofs.Try.prog 82 s := ⟨_, Go.Proofs.Try.func82, by have h : (Go.Proofs.Try.f82.name == "runtime.NumGoroutine") = false := (by kernel_rfl); simpa using h, by kernel_rfl⟩
theorem sigs_in : AllP (FnIn Go.Proofs.Try.prog) sigs :=
  ⟨in39, ⟨in21, ⟨in11, ⟨in7, ⟨in5, ⟨in4, ⟨in3, trivial, trivial⟩, trivial⟩, ⟨in6, trivial, trivial⟩⟩, ⟨in9, ⟨in8, trivial, trivial⟩, ⟨in10, trivial, trivial⟩⟩⟩, ⟨in17, ⟨in14, ⟨in13, ⟨in12, trivial, trivial⟩, trivial⟩, ⟨in15, trivial, trivial⟩⟩, ⟨in19, ⟨in18, trivial, trivial⟩, ⟨in20, trivial, trivial⟩⟩⟩⟩, ⟨in30, ⟨in26, ⟨in24, ⟨in23, ⟨in22, trivial, trivial⟩, trivial⟩, ⟨in25, trivial, trivial⟩⟩, ⟨in28, ⟨in27, trivial, trivial⟩, ⟨in29, trivial, trivial⟩⟩⟩, ⟨in35, ⟨in33, ⟨in32, ⟨in31, trivial, trivial⟩, trivial⟩, ⟨in34, trivial, trivial⟩⟩, ⟨in37, ⟨in36, trivial, trivial⟩, ⟨in38, trivial, trivial⟩⟩⟩⟩⟩, ⟨in57, ⟨in48, ⟨in44, ⟨in42, ⟨in41, ⟨in40, trivial, trivial⟩, trivial⟩, ⟨in43, trivial, trivial⟩⟩, ⟨in46, ⟨in45, trivial, trivial⟩, ⟨in47, trivial, trivial⟩⟩⟩, ⟨in53, ⟨in51, ⟨in50, ⟨in49, trivial, trivial⟩, trivial⟩, ⟨in52, trivial, trivial⟩⟩, ⟨in55, ⟨in54, trivial, trivial⟩, ⟨in56, trivial, trivial⟩⟩⟩⟩, ⟨in66, ⟨in62, ⟨in60, ⟨in59, ⟨in58, trivial, trivial⟩, trivial⟩, ⟨in61, trivial, trivial⟩⟩, ⟨in64, ⟨in63, trivial, trivial⟩, ⟨in65, trivial, trivial⟩⟩⟩, ⟨in78, ⟨in69, ⟨in68, ⟨in67, trivial, trivial⟩, trivial⟩, ⟨in70, trivial, trivial⟩⟩, ⟨in81, ⟨in79, trivial, trivial⟩, ⟨in82, trivial, trivial⟩⟩⟩⟩⟩⟩
theorem bodies_in : AllP (BdIn Go.Proofs.Try.prog) bodies :=
  ⟨Go.Proofs.Try.func39, ⟨Go.Proofs.Try.func21, ⟨Go.Proofs.Try.func11, ⟨Go.Proofs.Try.func7, ⟨Go.Proofs.Try.func5, ⟨Go.Proofs.Try.func4, ⟨Go.Proofs.Try.func3, trivial, trivial⟩, trivial⟩, ⟨Go.Proofs.Try.func6, trivial, trivial⟩⟩, ⟨Go.Proofs.Try.func9, ⟨Go.Proofs.Try.func8, trivial, trivial⟩, ⟨Go.Proofs.Try.func10, trivial, trivial⟩⟩⟩, ⟨Go.Proofs.Try.func17, ⟨Go.Proofs.Try.func14, ⟨Go.Proofs.Try.func13, ⟨Go.Proofs.Try.func12, trivial, trivial⟩, trivial⟩, ⟨Go.Proofs.Try.func15, trivial, trivial⟩⟩, ⟨Go.Proofs.Try.func19, ⟨Go.Proofs.Try.func18, trivial, trivial⟩, ⟨Go.Proofs.Try.func20, trivial, trivial⟩⟩⟩⟩, ⟨Go.Proofs.Try.func30, ⟨Go.Proofs.Try.func26, ⟨Go.Proofs.Try.func24, ⟨Go.Proofs.Try.func23, ⟨Go.Proofs.Try.func22, trivial, trivial⟩, trivial⟩, ⟨Go.Proofs.Try.func25, trivial, trivial⟩⟩, ⟨Go.Proofs.Try.func28, ⟨Go.Proofs.Try.func27, trivial, trivial⟩, ⟨Go.Proofs.Try.func29, trivial, trivial⟩⟩⟩, ⟨Go.Proofs.Try.func35, ⟨Go.Proofs.Try.func33, ⟨Go.Proofs.Try.func32, ⟨Go.Proofs.Try.func31, trivial, trivial⟩, trivial⟩, ⟨Go.Proofs.Try.func34, trivial, trivial⟩⟩, ⟨Go.Proofs.Try.func37, ⟨Go.Proofs.Try.func36, trivial, trivial⟩, ⟨Go.Proofs.Try.func38, trivial, trivial⟩⟩⟩⟩⟩, ⟨Go.Proofs.Try.func58, ⟨Go.Proofs.Try.func48, ⟨Go.Proofs.Try.func44, ⟨Go.Proofs.Try.func42, ⟨Go.Proofs.Try.func41, ⟨Go.Proofs.Try.func40, trivial, trivial⟩, trivial⟩, ⟨Go.Proofs.Try.func43, trivial, trivial⟩⟩, ⟨Go.Proofs.Try.func46, ⟨Go.Proofs.Try.func45, trivial, trivial⟩, ⟨Go.Proofs.Try.func47, trivial, trivial⟩⟩⟩, ⟨Go.Proofs.Try.func53, ⟨Go.Proofs.Try.func51, ⟨Go.Proofs.Try.func50, ⟨Go.Proofs.Try.func49, trivial, trivial⟩, trivial⟩, ⟨Go.Proofs.Try.func52, trivial, trivial⟩⟩, ⟨Go.Proofs.Try.func55, ⟨Go.Proofs.Try.func54, trivial, trivial⟩, ⟨Go.Proofs.Try.func57, trivial, trivial⟩⟩⟩⟩, ⟨Go.Proofs.Try.func67, ⟨Go.Proofs.Try.func63, ⟨Go.Proofs.Try.func61, ⟨Go.Proofs.Try.func60, ⟨Go.Proofs.Try.func59, trivial, trivial⟩, trivial⟩, ⟨Go.Proofs.Try.func62, trivial, trivial⟩⟩, ⟨Go.Proofs.Try.func65, ⟨Go.Proofs.Try.func64, trivial, trivial⟩, ⟨Go.Proofs.Try.func66, trivial, trivial⟩⟩⟩, ⟨Go.Proofs.Try.func78, ⟨Go.Proofs.Try.func69, ⟨Go.Proofs.Try.func68, trivial, trivial⟩, ⟨Go.Proofs.Try.func70, trivial, trivial⟩⟩, ⟨Go.Proofs.Try.func81, ⟨Go.Proofs.Try.func79, trivial, trivial⟩, ⟨Go.Proofs.Try.func82, trivial, trivial⟩⟩⟩⟩⟩⟩
theorem sites_in : AllP (SiteIn Go.Proofs.Try.prog) sites :=
  ⟨⟨Go.Proofs.Try.func16, by have h : (Go.Proofs.Try.f16.name == "runtime.NumGoroutine") = false := (by kernel_rfl); simpa using h, by kernel_rfl⟩, trivial, trivial⟩
theorem sites_loops : ∀ q s, sites.look q = some s → LoopsAre s.c := fun q s h => AllP.look (Q := fun _ s => LoopsAre s.c) (show AllP (fun _ s => LoopsAre s.c) sites from ⟨⟨(loopsOf 0 (cd Go.Proofs.Try.f16)).map (fun q => q.1), by kernel_rfl, by kernel_rfl⟩, trivial, trivial⟩) h
theorem fns_ok (k N n : Nat) : ∀ m s, E.sg.look m = some s → psOk s.ps = true → FnOk Go.Proofs.Try.prog (lvE E k sites N) (ctxN (lvE E k sites N) bodies (fun _ => none) k n) m s := plain_ok env_sound mixed bodies_ok sigs_ok sigs_in bodies_in sites_ok sites_in N n
end Go.Eng.A
