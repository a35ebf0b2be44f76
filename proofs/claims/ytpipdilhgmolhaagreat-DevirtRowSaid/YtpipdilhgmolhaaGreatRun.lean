/- What is copied by slices.Clone is what was given. -/
import Derived.Test.YtpipdilhgmolhaaGreatTrB
set_option linter.unusedSimpArgs false
set_option linter.unusedVariables false
namespace Go.Eng.V
open Go.Eng Go.Proofs
theorem ent_slices_Clone_Sint_int (x : D) (l : List D) : ∃ st, entry E 0 (sgOf sigs 27).ps [.l (x :: l)] { sl := .nil, bx := [], ar := [], ctr := 1 } = some st ∧ ∀ g, forkTo g st (st.sl.get 0) = g st :=
  ⟨(entry E 0 (sgOf sigs 27).ps [.l (x :: l)] { sl := .nil, bx := [], ar := [], ctr := 1 }).getD st0, by kernel_rfl, fun g => by kernel_rfl⟩
theorem nil_slices_Clone_Sint_int : FnA E bodies sites slices_Clone_Sint_int [.l []] (.l []) [] :=
  ⟨1, fun k n L hk hn hL => by
    obtain ⟨k, rfl⟩ : ∃ k', k = k' + 1 := ⟨k - 1, by omega⟩
    obtain ⟨n, rfl⟩ : ∃ k', n = k' + 1 := ⟨n - 1, by omega⟩
    obtain ⟨L, rfl⟩ : ∃ k', L = k' + 1 := ⟨L - 1, by omega⟩
    exact (show ctxN (lvE E (k + 1) sites (L + 1)) bodies noX (k + 1) (n + 1) slices_Clone_Sint_int [.l []] = some (.l [], []) by kernel_rfl)⟩
theorem ok_slices_Clone_Sint_int (l : List D) (h : lim l.length 8 = true) : FnA E bodies sites slices_Clone_Sint_int [.l l] (.l l) [] := by
  cases l with
  | nil => exact nil_slices_Clone_Sint_int
  | cons x l =>
    refine fn_fork c_slices_Clone_Sint_int rfl rfl rfl (fun st hs g => ?_) ?_
    · obtain ⟨st', h1, h2⟩ := ent_slices_Clone_Sint_int x l
      have e : st' = st := Option.some.inj (h1.symm.trans hs)
      subst e
      exact h2 g
    · show Ev _ _ (M_slices_Clone_Sint_int _) _
      unfold M_slices_Clone_Sint_int
      refine askF rfl (askF rfl (askT ?_ (retR rfl rfl)))
      show lim (0 + (x :: l).length) 8 = true
      rw [Nat.zero_add]
      exact h
theorem ent_slices_Clone_Sint64_int64 (x : D) (l : List D) : ∃ st, entry E 0 (sgOf sigs 28).ps [.l (x :: l)] { sl := .nil, bx := [], ar := [], ctr := 1 } = some st ∧ ∀ g, forkTo g st (st.sl.get 0) = g st :=
  ⟨(entry E 0 (sgOf sigs 28).ps [.l (x :: l)] { sl := .nil, bx := [], ar := [], ctr := 1 }).getD st0, by kernel_rfl, fun g => by kernel_rfl⟩
theorem nil_slices_Clone_Sint64_int64 : FnA E bodies sites slices_Clone_Sint64_int64 [.l []] (.l []) [] :=
  ⟨1, fun k n L hk hn hL => by
    obtain ⟨k, rfl⟩ : ∃ k', k = k' + 1 := ⟨k - 1, by omega⟩
    obtain ⟨n, rfl⟩ : ∃ k', n = k' + 1 := ⟨n - 1, by omega⟩
    obtain ⟨L, rfl⟩ : ∃ k', L = k' + 1 := ⟨L - 1, by omega⟩
    exact (show ctxN (lvE E (k + 1) sites (L + 1)) bodies noX (k + 1) (n + 1) slices_Clone_Sint64_int64 [.l []] = some (.l [], []) by kernel_rfl)⟩
theorem ok_slices_Clone_Sint64_int64 (l : List D) (h : lim l.length 8 = true) : FnA E bodies sites slices_Clone_Sint64_int64 [.l l] (.l l) [] := by
  cases l with
  | nil => exact nil_slices_Clone_Sint64_int64
  | cons x l =>
    refine fn_fork c_slices_Clone_Sint64_int64 rfl rfl rfl (fun st hs g => ?_) ?_
    · obtain ⟨st', h1, h2⟩ := ent_slices_Clone_Sint64_int64 x l
      have e : st' = st := Option.some.inj (h1.symm.trans hs)
      subst e
      exact h2 g
    · show Ev _ _ (M_slices_Clone_Sint64_int64 _) _
      unfold M_slices_Clone_Sint64_int64
      refine askF rfl (askF rfl (askT ?_ (retR rfl rfl)))
      show lim (0 + (x :: l).length) 8 = true
      rw [Nat.zero_add]
      exact h
theorem ent_slices_Clone_Sapi_Base_api_Base (x : D) (l : List D) : ∃ st, entry E 0 (sgOf sigs 53).ps [.l (x :: l)] { sl := .nil, bx := [], ar := [], ctr := 1 } = some st ∧ ∀ g, forkTo g st (st.sl.get 0) = g st :=
  ⟨(entry E 0 (sgOf sigs 53).ps [.l (x :: l)] { sl := .nil, bx := [], ar := [], ctr := 1 }).getD st0, by kernel_rfl, fun g => by kernel_rfl⟩
theorem nil_slices_Clone_Sapi_Base_api_Base : FnA E bodies sites slices_Clone_Sapi_Base_api_Base [.l []] (.l []) [] :=
  ⟨1, fun k n L hk hn hL => by
    obtain ⟨k, rfl⟩ : ∃ k', k = k' + 1 := ⟨k - 1, by omega⟩
    obtain ⟨n, rfl⟩ : ∃ k', n = k' + 1 := ⟨n - 1, by omega⟩
    obtain ⟨L, rfl⟩ : ∃ k', L = k' + 1 := ⟨L - 1, by omega⟩
    exact (show ctxN (lvE E (k + 1) sites (L + 1)) bodies noX (k + 1) (n + 1) slices_Clone_Sapi_Base_api_Base [.l []] = some (.l [], []) by kernel_rfl)⟩
theorem ok_slices_Clone_Sapi_Base_api_Base (l : List D) (h : lim l.length 16 = true) : FnA E bodies sites slices_Clone_Sapi_Base_api_Base [.l l] (.l l) [] := by
  cases l with
  | nil => exact nil_slices_Clone_Sapi_Base_api_Base
  | cons x l =>
    refine fn_fork c_slices_Clone_Sapi_Base_api_Base rfl rfl rfl (fun st hs g => ?_) ?_
    · obtain ⟨st', h1, h2⟩ := ent_slices_Clone_Sapi_Base_api_Base x l
      have e : st' = st := Option.some.inj (h1.symm.trans hs)
      subst e
      exact h2 g
    · show Ev _ _ (M_slices_Clone_Sapi_Base_api_Base _) _
      unfold M_slices_Clone_Sapi_Base_api_Base
      refine askF rfl (askF rfl (askT ?_ (retR rfl rfl)))
      show lim (0 + (x :: l).length) 16 = true
      rw [Nat.zero_add]
      exact h
def clones : List (Nat × Nat) := [(27, 8), (28, 8), (53, 16)]
def cloneX : Cl := fun m xs =>
  match look clones m with
  | some w => (match xs with
    | [.l l] => bif lim l.length w then some (.l l, []) else none
    | _ => none)
  | none => none
theorem cloneX_ok : ∀ m xs r, cloneX m xs = some r → FnA E bodies sites m xs r.1 r.2 := fun m xs r h => by
  unfold cloneX at h
  split at h
  · rename_i w hw
    split at h
    · rename_i l
      cases hl : lim l.length w with
      | false => rw [hl] at h; simp at h
      | true =>
        rw [hl] at h
        simp only [cond_true, Option.some.injEq] at h
        subst h
        simp only [clones, look] at hw
        cases h0 : Nat.beq 27 m with
        | true =>
          rw [h0] at hw
          simp only [cond_true, Option.some.injEq] at hw
          subst hw
          rw [← Nat.eq_of_beq_eq_true h0]
          exact ok_slices_Clone_Sint_int l hl
        | false =>
        rw [h0] at hw
        simp only [cond_false] at hw
        cases h1 : Nat.beq 28 m with
        | true =>
          rw [h1] at hw
          simp only [cond_true, Option.some.injEq] at hw
          subst hw
          rw [← Nat.eq_of_beq_eq_true h1]
          exact ok_slices_Clone_Sint64_int64 l hl
        | false =>
        rw [h1] at hw
        simp only [cond_false] at hw
        cases h2 : Nat.beq 53 m with
        | true =>
          rw [h2] at hw
          simp only [cond_true, Option.some.injEq] at hw
          subst hw
          rw [← Nat.eq_of_beq_eq_true h2]
          exact ok_slices_Clone_Sapi_Base_api_Base l hl
        | false =>
        rw [h2] at hw
        simp only [cond_false] at hw
        simp at hw
    · simp at h
  · simp at h
end Go.Eng.V

namespace Go.Eng.V
open Go.Eng Go.Proofs
theorem eqI_r (a : Int) : eqI a a = true := by cases a <;> simp [eqI]
mutual
theorem beqD_r : ∀ x : D, beqD x x = true
  | .i n => by simp only [beqD, eqI_r]
  | .b b => by cases b <;> rfl
  | .s s => by have h := (eqStr_iff s s).2 rfl; simp only [beqD, h]
  | .l l => by simp only [beqD, beqDs_r l]
theorem beqDs_r : ∀ x : List D, beqDs x x = true
  | [] => by simp only [beqDs]
  | x :: xs => by simp only [beqDs, beqD_r x, beqDs_r xs, Bool.and_self]
end
noncomputable section
def N_r10_Start (x : List D) : Sh :=
 .call r3_Check [.l [.l (eX (gD x 0) 0), .l (eX (gD x 0) 1), .l (eX (gD x 0) 2), .l (eX (gD x 0) 3)]] 0 fun r0 _ =>
 .ask (!(eqI (D.toI r0) 0))
 (.ret (.l [.l [], .i (D.toI r0)]) [])
 (.loop 0 [.s (D.toS (gD x 1)), .l (D.els (gD x 3)), .i (-1), .l (D.els (gD x 2)), .i 0, .l (eX (gD x 0) 0), .l (eX (gD x 0) 1), .l (eX (gD x 0) 2), .l (eX (gD x 0) 3)] (.cons (fun p1 =>
 .ask (ltI (gI p1 1) 0)
 (.ret (.l [.l [], .i 4]) [])
 (.ask (within (gI p1 1) (List.length (gL p1 6)))
 (.ask (!(eqI (iL (gL p1 2)) (iX (gD (gL p1 6) (tI p1 1)) 2)))
 (.ret (.l [.l [], .i 7]) [])
 (.ask (lim (0 + (List.length (gL p1 0))) 8)
 (.ask (lim (0 + (List.length (gL p1 0))) 8)
 (.ask true
 (.ask (lim (0 + (List.length (gL p1 0))) 8)
 (.ask true
 (.loop 2 [aI p1 1, aL p1 2, .i 0, aL p1 3, aL p1 4, aL p1 5, aL p1 6, aL p1 3, aL p1 4, aL p1 5, aL p1 6, .i 3, .i 0, .i 0, .i 0, aL p1 0, .l []] (.cons (fun p2 =>
 .ask (within (gI p2 0) (List.length (gL p2 5)))
 (.call r3_Values [.l [.s (D.toS (D.fld (gD (gL p2 5) (tI p2 0)) 0)), .b (vB (gD (gL p2 5) (tI p2 0)) 1), .l (eX (gD (gL p2 5) (tI p2 0)) 2), .i (vI (gD (gL p2 5) (tI p2 0)) 3), .l (eX (gD (gL p2 5) (tI p2 0)) 4)]] 0 fun r3 _ =>
 .ask ((leI 0 (addA .i64 (D.toI r3) 1)) && ((eqI (addA .i64 (D.toI r3) 1) (addA .i64 (D.toI r3) 1)) && (lim (Int.toNat (addA .i64 (D.toI r3) 1)) 16)))
 (.loop 4 [aI p2 0, aL p2 1, .i 0, aL p2 2, aL p2 3, aL p2 4, aL p2 5, aI p2 0, .i 0, .i 0, .i 0, aL p2 6, aL p2 7, aL p2 8, aL p2 9, aI p2 10, aI p2 11, aI p2 12, aI p2 13, aL p2 14, .l (List.replicate (Int.toNat (addA .i64 (D.toI r3) 1)) (D.l [.i 0, .i 0])), aL p2 15] (.cons (fun p4 =>
 .ret (.l [.l [], aI p4 0]) [])
 (.cons (fun p4 =>
 .ask (lim (0 + 1) 56)
 (.ret (.l [.l [.l [aL p4 4, aL p4 5, aL p4 6, aL p4 7, aL p4 14, .l [.l [aI p4 0, aI p4 1, aI p4 2, aL p4 13, aI p4 3]], aL p4 12, aI p4 8, aI p4 9, aI p4 10, aI p4 11, .l []]], .i 0]) [])
 (.bad))
 .nil)))
 (.bad))
 (.bad))
 .nil))
 (.bad))
 (.bad))
 (.bad))
 (.bad))
 (.bad)))
 (.bad)))
 .nil))

theorem eqM_r10_Start : M_r10_Start = N_r10_Start := by funext x; simp only [M_r10_Start, N_r10_Start, beqDs_r, eqI_r, Bool.and_self]
def G_r10_Start : Fn := { F_r10_Start with main := N_r10_Start }
theorem eqF_r10_Start : F_r10_Start = G_r10_Start := by simp only [G_r10_Start, ← eqM_r10_Start]; rfl
def progVw : BT Fn := (.node 61 F_r3_names (.node 32 F_r3_Values (.node 18 F_wf_formed (.node 12 F_facts_Func_Num (.node 9 F_wf_Check (.node 8 F_keep_Ops (.node 5 F_law29_table .nil .nil) .nil) (.node 11 F_ir_Copy (.node 10 F_facts_Of .nil .nil) .nil)) (.node 15 G_r10_Start (.node 14 F_facts_Facts_Fits (.node 13 F_facts_Facts_Entry .nil .nil) .nil) (.node 17 F_wf_small .nil .nil))) (.node 24 F_ir_Types (.node 21 F_wf_flows (.node 20 F_wf_known (.node 19 F_wf_named .nil .nil) .nil) (.node 23 F_wf_typed (.node 22 F_wf_used .nil .nil) .nil)) (.node 29 F_ir_copyFunc (.node 26 F_facts_Func_offs (.node 25 F_facts_Func_bases .nil .nil) .nil) (.node 30 F_r3_Check .nil .nil)))) (.node 48 F_slices_Equal_Sint_int (.node 43 F_wf_Name (.node 40 F_ir_Size (.node 38 F_r10_Machine_trap (.node 33 F_r10_Machine_Free .nil .nil) .nil) (.node 42 F_wf_shaped (.node 41 F_wf_scalar .nil .nil) .nil)) (.node 46 F_flow_Reach (.node 45 F_slices_Contains_Sbool_bool (.node 44 F_wf_Ends .nil .nil) .nil) (.node 47 F_flow_Prev .nil .nil))) (.node 56 F_slices_Compact_Sapi_Base_api_Base (.node 51 F_wf_fitting (.node 50 F_wf_ahead (.node 49 F_dom_Over .nil .nil) .nil) (.node 55 F_facts_lesser (.node 54 F_slices_SortFunc_Sapi_Base_api_Base .nil .nil) .nil)) (.node 59 F_r3_limits (.node 58 F_ir_copyIns (.node 57 F_facts_Func_off .nil .nil) .nil) (.node 60 F_r3_forms .nil .nil))))) (.node 86 F_r3_Prev (.node 74 F_dom_nearest (.node 69 F_r1_Do (.node 64 F_r3_uses (.node 63 F_r3_flows (.node 62 F_r3_syms .nil .nil) .nil) (.node 66 F_r3_Types (.node 65 F_r3_types .nil .nil) .nil)) (.node 72 F_flow_walked (.node 71 F_slices_Index_Sbool_bool (.node 70 F_wf_Mark .nil .nil) .nil) (.node 73 F_flow_Next .nil .nil))) (.node 80 F_math_bits_Len (.node 77 F_wf_rows (.node 76 F_wf_all (.node 75 F_dom_over .nil .nil) .nil) (.node 79 F_slices_pdqsortCmpFunc_api_Base (.node 78 F_slices_Grow_Sapi_Base_api_Base .nil .nil) .nil)) (.node 84 F_r3_Ends (.node 82 F_r3_form (.node 81 F_r3_Size .nil .nil) .nil) (.node 85 F_r3_Reach .nil .nil)))) (.node 105 F_math_bits_Len64 (.node 93 F_flow_walker_visit (.node 89 F_r3_Doms (.node 88 F_r3_Where (.node 87 F_r3_Ints .nil .nil) .nil) (.node 92 F_r1_bit (.node 90 F_r3_fits .nil .nil) .nil)) (.node 96 F_slices_insertionSortCmpFunc_api_Base (.node 95 F_dom_without (.node 94 F_slices_Contains_Sint_int .nil .nil) .nil) (.node 104 F_math_bits_Len32 .nil .nil))) (.node 110 F_slices_Index_Sint_int (.node 108 F_r3_from (.node 107 F_r3_Name (.node 106 F_r3_Mark .nil .nil) .nil) (.node 109 F_r3_Next .nil .nil)) (.node 116 F_r3_Last (.node 113 F_slices_xorshift_Next (.node 112 F_slices_nextPowerOfTwo .nil .nil) .nil) (.node 117 F_r3_In .nil .nil))))))
theorem progVw_eq : progV = progVw := by simp only [progV, progVw, eqF_r10_Start]
end
end Go.Eng.V

namespace Go.Eng.V
open Go.Eng
noncomputable def ms : List Nat := [3, 4, 6, 7, 16]
noncomputable def R (n : Nat) : Cl := runR progVw cloneX E bodies sites 300 ms 300 n
theorem runs0 : ∀ m xs r, R 40 m xs = some r → FnA E bodies sites m xs r.1 r.2 := runR_s (progVw_eq ▸ certAll_of progV_all) cloneX_ok 300 40
theorem r0t : R 40 3 [.i 0, .b true] = some (.b true, []) := by kernel_rfl
theorem r0f : R 40 3 [.i 0, .b false] = some (.b true, []) := by kernel_rfl
theorem rpt (n : Nat) : R 40 3 [.i (Int.ofNat (n + 1)), .b true] = some (.b true, []) := by kernel_rfl
theorem rpf (n : Nat) : R 40 3 [.i (Int.ofNat (n + 1)), .b false] = some (.b true, []) := by kernel_rfl
theorem rnt (n : Nat) : R 40 3 [.i (Int.negSucc n), .b true] = some (.b true, []) := by kernel_rfl
theorem rnf (n : Nat) : R 40 3 [.i (Int.negSucc n), .b false] = some (.b true, []) := by kernel_rfl
theorem law_ok (a : Int) (b : Bool) : FnA E bodies sites 3 [.i a, .b b] (.b true) [] := by
  refine runs0 3 _ (.b true, []) ?_
  cases a with
  | ofNat n =>
    cases n with
    | zero => cases b with
      | true => exact r0t
      | false => exact r0f
    | succ n => cases b with
      | true => exact rpt n
      | false => exact rpf n
  | negSucc n => cases b with
    | true => exact rnt n
    | false => exact rnf n
end Go.Eng.V
