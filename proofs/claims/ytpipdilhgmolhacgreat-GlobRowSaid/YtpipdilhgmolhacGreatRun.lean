/- What is copied by slices.Clone is what was given. -/
import Derived.Test.YtpipdilhgmolhacGreatTrB
set_option linter.unusedSimpArgs false
set_option linter.unusedVariables false
namespace Go.Eng.G
open Go.Eng
theorem ent_slices_Clone_Sint_int (x : D) (l : List D) : ∃ st, entry E 0 (sgOf sigs 31).ps [.l (x :: l)] { sl := .nil, bx := [], ar := [], ctr := 1 } = some st ∧ ∀ g, forkTo g st (st.sl.get 0) = g st :=
  ⟨(entry E 0 (sgOf sigs 31).ps [.l (x :: l)] { sl := .nil, bx := [], ar := [], ctr := 1 }).getD st0, by kernel_rfl, fun g => by kernel_rfl⟩
theorem nil_slices_Clone_Sint_int : FnA E bodies sites slices_Clone_Sint_int [.l []] (.l []) [] :=
  ⟨1, fun k n L hk hn hL => by
    obtain ⟨k, rfl⟩ : ∃ k', k = k' + 1 := ⟨k - 1, by omega⟩
    obtain ⟨n, rfl⟩ : ∃ k', n = k' + 1 := ⟨n - 1, by omega⟩
    obtain ⟨L, rfl⟩ : ∃ k', L = k' + 1 := ⟨L - 1, by omega⟩
    exact (show ctxN (lvE E (k + 1) sites (L + 1)) bodies noX (k + 1) (n + 1) slices_Clone_Sint_int [.l []] = some (.l [], []) by kernel_rfl)⟩
theorem ok_slices_Clone_Sint_int (l : List D) (h : lim l.length 8 = true) : FnA E bodies sites slices_Clone_Sint_int [.l l] (.l l) [] := by
  cases l with
  | nil => exact nil_slices_Clone_Sint_int
  | cons x l =>
    refine fn_fork c_slices_Clone_Sint_int rfl rfl rfl (fun st hs g => ?_) ?_
    · obtain ⟨st', h1, h2⟩ := ent_slices_Clone_Sint_int x l
      have e : st' = st := Option.some.inj (h1.symm.trans hs)
      subst e
      exact h2 g
    · show Ev _ _ (M_slices_Clone_Sint_int _) _
      unfold M_slices_Clone_Sint_int
      refine askF rfl (askF rfl (askT ?_ (retR rfl rfl)))
      show lim (0 + (x :: l).length) 8 = true
      rw [Nat.zero_add]
      exact h
theorem ent_slices_Clone_Sint64_int64 (x : D) (l : List D) : ∃ st, entry E 0 (sgOf sigs 32).ps [.l (x :: l)] { sl := .nil, bx := [], ar := [], ctr := 1 } = some st ∧ ∀ g, forkTo g st (st.sl.get 0) = g st :=
  ⟨(entry E 0 (sgOf sigs 32).ps [.l (x :: l)] { sl := .nil, bx := [], ar := [], ctr := 1 }).getD st0, by kernel_rfl, fun g => by kernel_rfl⟩
theorem nil_slices_Clone_Sint64_int64 : FnA E bodies sites slices_Clone_Sint64_int64 [.l []] (.l []) [] :=
  ⟨1, fun k n L hk hn hL => by
    obtain ⟨k, rfl⟩ : ∃ k', k = k' + 1 := ⟨k - 1, by omega⟩
    obtain ⟨n, rfl⟩ : ∃ k', n = k' + 1 := ⟨n - 1, by omega⟩
    obtain ⟨L, rfl⟩ : ∃ k', L = k' + 1 := ⟨L - 1, by omega⟩
    exact (show ctxN (lvE E (k + 1) sites (L + 1)) bodies noX (k + 1) (n + 1) slices_Clone_Sint64_int64 [.l []] = some (.l [], []) by kernel_rfl)⟩
theorem ok_slices_Clone_Sint64_int64 (l : List D) (h : lim l.length 8 = true) : FnA E bodies sites slices_Clone_Sint64_int64 [.l l] (.l l) [] := by
  cases l with
  | nil => exact nil_slices_Clone_Sint64_int64
  | cons x l =>
    refine fn_fork c_slices_Clone_Sint64_int64 rfl rfl rfl (fun st hs g => ?_) ?_
    · obtain ⟨st', h1, h2⟩ := ent_slices_Clone_Sint64_int64 x l
      have e : st' = st := Option.some.inj (h1.symm.trans hs)
      subst e
      exact h2 g
    · show Ev _ _ (M_slices_Clone_Sint64_int64 _) _
      unfold M_slices_Clone_Sint64_int64
      refine askF rfl (askF rfl (askT ?_ (retR rfl rfl)))
      show lim (0 + (x :: l).length) 8 = true
      rw [Nat.zero_add]
      exact h
theorem ent_slices_Clone_Sapi_Base_api_Base (x : D) (l : List D) : ∃ st, entry E 0 (sgOf sigs 51).ps [.l (x :: l)] { sl := .nil, bx := [], ar := [], ctr := 1 } = some st ∧ ∀ g, forkTo g st (st.sl.get 0) = g st :=
  ⟨(entry E 0 (sgOf sigs 51).ps [.l (x :: l)] { sl := .nil, bx := [], ar := [], ctr := 1 }).getD st0, by kernel_rfl, fun g => by kernel_rfl⟩
theorem nil_slices_Clone_Sapi_Base_api_Base : FnA E bodies sites slices_Clone_Sapi_Base_api_Base [.l []] (.l []) [] :=
  ⟨1, fun k n L hk hn hL => by
    obtain ⟨k, rfl⟩ : ∃ k', k = k' + 1 := ⟨k - 1, by omega⟩
    obtain ⟨n, rfl⟩ : ∃ k', n = k' + 1 := ⟨n - 1, by omega⟩
    obtain ⟨L, rfl⟩ : ∃ k', L = k' + 1 := ⟨L - 1, by omega⟩
    exact (show ctxN (lvE E (k + 1) sites (L + 1)) bodies noX (k + 1) (n + 1) slices_Clone_Sapi_Base_api_Base [.l []] = some (.l [], []) by kernel_rfl)⟩
theorem ok_slices_Clone_Sapi_Base_api_Base (l : List D) (h : lim l.length 16 = true) : FnA E bodies sites slices_Clone_Sapi_Base_api_Base [.l l] (.l l) [] := by
  cases l with
  | nil => exact nil_slices_Clone_Sapi_Base_api_Base
  | cons x l =>
    refine fn_fork c_slices_Clone_Sapi_Base_api_Base rfl rfl rfl (fun st hs g => ?_) ?_
    · obtain ⟨st', h1, h2⟩ := ent_slices_Clone_Sapi_Base_api_Base x l
      have e : st' = st := Option.some.inj (h1.symm.trans hs)
      subst e
      exact h2 g
    · show Ev _ _ (M_slices_Clone_Sapi_Base_api_Base _) _
      unfold M_slices_Clone_Sapi_Base_api_Base
      refine askF rfl (askF rfl (askT ?_ (retR rfl rfl)))
      show lim (0 + (x :: l).length) 16 = true
      rw [Nat.zero_add]
      exact h
def clones : List (Nat × Nat) := [(31, 8), (32, 8), (51, 16)]
def cloneX : Cl := fun m xs =>
  match look clones m with
  | some w => (match xs with
    | [.l l] => bif lim l.length w then some (.l l, []) else none
    | _ => none)
  | none => none
theorem cloneX_ok : ∀ m xs r, cloneX m xs = some r → FnA E bodies sites m xs r.1 r.2 := fun m xs r h => by
  unfold cloneX at h
  split at h
  · rename_i w hw
    split at h
    · rename_i l
      cases hl : lim l.length w with
      | false => rw [hl] at h; simp at h
      | true =>
        rw [hl] at h
        simp only [cond_true, Option.some.injEq] at h
        subst h
        simp only [clones, look] at hw
        cases h0 : Nat.beq 31 m with
        | true =>
          rw [h0] at hw
          simp only [cond_true, Option.some.injEq] at hw
          subst hw
          rw [← Nat.eq_of_beq_eq_true h0]
          exact ok_slices_Clone_Sint_int l hl
        | false =>
        rw [h0] at hw
        simp only [cond_false] at hw
        cases h1 : Nat.beq 32 m with
        | true =>
          rw [h1] at hw
          simp only [cond_true, Option.some.injEq] at hw
          subst hw
          rw [← Nat.eq_of_beq_eq_true h1]
          exact ok_slices_Clone_Sint64_int64 l hl
        | false =>
        rw [h1] at hw
        simp only [cond_false] at hw
        cases h2 : Nat.beq 51 m with
        | true =>
          rw [h2] at hw
          simp only [cond_true, Option.some.injEq] at hw
          subst hw
          rw [← Nat.eq_of_beq_eq_true h2]
          exact ok_slices_Clone_Sapi_Base_api_Base l hl
        | false =>
        rw [h2] at hw
        simp only [cond_false] at hw
        simp at hw
    · simp at h
  · simp at h
end Go.Eng.G

namespace Go.Eng.G
open Go.Eng
def ms0 : List Nat := [4, 5, 10, 11, 12, 14, 15, 16, 21, 54, 82]
noncomputable def R0 (n : Nat) : Cl := runR progG cloneX E bodies sites 300 ms0 300 n
theorem runs0 : ∀ m xs r, R0 40 m xs = some r → FnA E bodies sites m xs r.1 r.2 := runR_s (certAll_of progG_all) cloneX_ok 300 40
theorem first_run : R0 40 4 [] = some (.b true, []) := by kernel_rfl
def firstX : Cl := fun m xs => bif Nat.beq m 4 then (match xs with | [] => some (.b true, []) | _ => none) else cloneX m xs
theorem firstX_ok : ∀ m xs r, firstX m xs = some r → FnA E bodies sites m xs r.1 r.2 := fun m xs r h => by
  unfold firstX at h
  cases hm : Nat.beq m 4 with
  | false => rw [hm] at h; exact cloneX_ok m xs r h
  | true =>
    rw [hm] at h
    simp only [cond_true] at h
    rw [← Nat.eq_of_beq_eq_true (show Nat.beq 4 m = true by rw [Nat.eq_of_beq_eq_true hm]; rfl)]
    split at h
    · injection h with h; subst h; exact runs0 _ _ _ first_run
    · simp at h
def msG : List Nat := [14, 16, 54, 82]
noncomputable def PL : Cl := runR progG firstX E bodies sites 300 msG 300 40
theorem PL_ok : ∀ m xs r, PL m xs = some r → FnA E bodies sites m xs r.1 r.2 := runR_s (certAll_of progG_all) firstX_ok 300 40
/-- what slices.Clone gives, if there is room -/
def XT : ClT := fun m xs => bif Nat.beq m 32 then (match xs with | [.l l] => some ((.l l, []), [lim l.length 8]) | _ => none) else none
theorem XT_ok : ∀ m xs r, XT m xs = some r → allTrue r.2 = true → FnA E bodies sites m xs r.1.1 r.1.2 := fun m xs r h ho => by
  unfold XT at h
  cases hm : Nat.beq m 32 with
  | false => rw [hm] at h; simp at h
  | true =>
    rw [hm] at h
    simp only [cond_true] at h
    split at h
    · rename_i l
      injection h with h
      subst h
      simp only [allTrue, Bool.and_true] at ho
      have e : m = slices_Clone_Sint64_int64 := Nat.eq_of_beq_eq_true hm
      rw [e]
      exact ok_slices_Clone_Sint64_int64 l ho
    · simp at h
noncomputable def RT (t3 t5 : Tp) (m : Nat) (xs : List D) : Option Told := runP E bodies sites 300 [(3, t3), (5, t5), (15, []), (10, []), (11, []), (12, []), (14, []), (21, [(4, false)])] XT PL 40 m xs
theorem RT_ok {t3 t5 : Tp} {m : Nat} {xs : List D} {r : Told} (h : RT t3 t5 m xs = some r) (ho : allTrue r.2 = true) : FnA E bodies sites m xs r.1.1 r.1.2 := runP_s XT_ok PL_ok 40 m xs r h ho
/-- none, or more than may be -/
def oA (cs : List D) : Bool := bif eqI (cs.length : Int) 0 then true else ltI 16 (cs.length : Int)
def oB (cs : List D) : Bool := bif ltI (cs.length : Int) 1 then true else ltI 16 (cs.length : Int)
/-- within -/
def oC (cs : List D) (at' : Int) : Bool := bif leI 0 at' then ltI at' (cs.length : Int) else false
def cellAt (cs : List D) (a : Nat) : Int := (cs.getD a (.i 0)).toI
end Go.Eng.G

namespace Go.Eng.G
open Go.Eng
theorem qA (cs : List D) (a : Int) (b c : Bool) : RT [(1, true)] [] 3 [.l cs, .i a, .b b, .b c] =
    some ((.b true, []), [obl true (oA cs)]) := by kernel_rfl
theorem q_in10 (cs : List D) (a : Nat) : RT [(1, false), (4, false), (6, true)] [(30, true), (10, true)] 3 [.l cs, .i (Int.ofNat a), .b true, .b false] =
    some ((.b (eqI (cellAt cs a) (cellAt cs a)), []), [obl false (oA cs), obl false (oB cs), obl false (oB cs), obl false (oB cs), lim cs.length 8, obl true (oC cs (Int.ofNat a)), obl true (within (Int.ofNat a) cs.length), obl false (!oC cs (Int.ofNat a)), obl true (within (Int.ofNat a) cs.length)]) := by kernel_rfl
theorem q_in11 (cs : List D) (a : Nat) : RT [(1, false)] [(30, true), (12, true)] 3 [.l cs, .i (Int.ofNat a), .b true, .b true] =
    some ((.b true, []), [obl false (oA cs), obl false (oB cs), obl false (oB cs), obl false (oB cs), lim cs.length 8, obl true (oC cs (Int.ofNat a)), obl true (oC cs (Int.ofNat a))]) := by kernel_rfl
theorem q_in01 (cs : List D) (a : Nat) : RT [(1, false), (5, false)] [(30, true)] 3 [.l cs, .i (Int.ofNat a), .b false, .b true] =
    some ((.b true, []), [obl false (oA cs), obl false (oB cs), obl false (oB cs), obl false (oB cs), lim cs.length 8, obl true (oC cs (Int.ofNat a)), obl false (!oC cs (Int.ofNat a))]) := by kernel_rfl
end Go.Eng.G

namespace Go.Eng.G
open Go.Eng
theorem q_00 (cs : List D) (a : Nat) : RT [(1, false)] [] 3 [.l cs, .i (Int.ofNat a), .b false, .b false] =
    some ((.b true, []), [obl false (oA cs), obl false (oB cs), obl false (oB cs), obl false (oB cs), lim cs.length 8]) := by kernel_rfl
theorem q_out10 (cs : List D) (a : Nat) : RT [(1, false), (4, true)] [(30, false)] 3 [.l cs, .i (Int.ofNat a), .b true, .b false] =
    some ((.b true, []), [obl false (oA cs), obl false (oB cs), obl false (oB cs), obl false (oB cs), lim cs.length 8, obl false (oC cs (Int.ofNat a)), obl true (!oC cs (Int.ofNat a))]) := by kernel_rfl
theorem q_out11 (cs : List D) (a : Nat) : RT [(1, false)] [(30, false), (5, false)] 3 [.l cs, .i (Int.ofNat a), .b true, .b true] =
    some ((.b true, []), [obl false (oA cs), obl false (oB cs), obl false (oB cs), obl false (oB cs), lim cs.length 8, obl false (oC cs (Int.ofNat a)), obl false (oC cs (Int.ofNat a))]) := by kernel_rfl
theorem q_out01 (cs : List D) (a : Nat) : RT [(1, false), (5, true)] [(30, false)] 3 [.l cs, .i (Int.ofNat a), .b false, .b true] =
    some ((.b true, []), [obl false (oA cs), obl false (oB cs), obl false (oB cs), obl false (oB cs), lim cs.length 8, obl false (oC cs (Int.ofNat a)), obl true (!oC cs (Int.ofNat a))]) := by kernel_rfl
end Go.Eng.G

namespace Go.Eng.G
open Go.Eng
theorem q_neg00 (cs : List D) (a : Nat) : RT [(1, false)] [] 3 [.l cs, .i (Int.negSucc a), .b false, .b false] =
    some ((.b true, []), [obl false (oA cs), obl false (oB cs), obl false (oB cs), obl false (oB cs), lim cs.length 8]) := by kernel_rfl
theorem q_neg01 (cs : List D) (a : Nat) : RT [(1, false)] [] 3 [.l cs, .i (Int.negSucc a), .b false, .b true] =
    some ((.b true, []), [obl false (oA cs), obl false (oB cs), obl false (oB cs), obl false (oB cs), lim cs.length 8]) := by kernel_rfl
theorem q_neg10 (cs : List D) (a : Nat) : RT [(1, false)] [] 3 [.l cs, .i (Int.negSucc a), .b true, .b false] =
    some ((.b true, []), [obl false (oA cs), obl false (oB cs), obl false (oB cs), obl false (oB cs), lim cs.length 8]) := by kernel_rfl
theorem q_neg11 (cs : List D) (a : Nat) : RT [(1, false)] [] 3 [.l cs, .i (Int.negSucc a), .b true, .b true] =
    some ((.b true, []), [obl false (oA cs), obl false (oB cs), obl false (oB cs), obl false (oB cs), lim cs.length 8]) := by kernel_rfl
end Go.Eng.G

namespace Go.Eng.G
open Go.Eng
theorem eqI_self (a : Int) : eqI a a = true := (eqI_iff a a).2 rfl
theorem oA_false {cs : List D} (h : oA cs = false) : 1 ≤ cs.length ∧ cs.length ≤ 16 := by
  unfold oA at h
  cases h1 : eqI (cs.length : Int) 0 with
  | true => rw [h1] at h; simp at h
  | false =>
    rw [h1] at h
    simp only [cond_false] at h
    have h2 : ¬ ((cs.length : Int) = 0) := fun e => by rw [(eqI_iff _ _).2 e] at h1; simp at h1
    have h3 : leI (cs.length : Int) 16 = true := by unfold ltI at h; simpa using h
    have h4 := (leI_iff _ _).1 h3
    omega
theorem oB_of {cs : List D} (h1 : 1 ≤ cs.length) (h2 : cs.length ≤ 16) : oB cs = false := by
  have g1 : leI 1 (cs.length : Int) = true := (leI_iff _ _).2 (by omega)
  have g2 : leI (cs.length : Int) 16 = true := (leI_iff _ _).2 (by omega)
  unfold oB ltI
  rw [g1, g2]
  rfl
theorem lim_of {cs : List D} (h2 : cs.length ≤ 16) : lim cs.length 8 = true := by
  unfold lim
  rw [Nat.ble_eq_true_of_le (by omega), Nat.ble_eq_true_of_le (by omega)]
  rfl
theorem within_oC (cs : List D) (a : Int) : within a cs.length = oC cs a := by
  unfold within oC
  cases leI 0 a <;> rfl
theorem law_ok (cs : List D) (a : Int) (b c : Bool) : FnA E bodies sites 3 [.l cs, .i a, .b b, .b c] (.b true) [] := by
  cases hA : oA cs with
  | true => exact RT_ok (qA cs a b c) (by simp [allTrue, obl, hA])
  | false =>
    obtain ⟨h1, h2⟩ := oA_false hA
    have hB := oB_of h1 h2
    have hl := lim_of h2
    cases a with
    | ofNat a =>
      have hW := within_oC cs (Int.ofNat a)
      cases hC : oC cs (Int.ofNat a) with
      | true =>
        rw [hC] at hW
        cases b with
        | true => cases c with
          | true => exact RT_ok (q_in11 cs a) (by simp only [allTrue, obl, hA, hB, hl, hC, cond_true, cond_false, Bool.not_true, Bool.not_false, Bool.and_self])
          | false =>
            have h := RT_ok (q_in10 cs a) (by simp only [allTrue, obl, hA, hB, hl, hC, hW, cond_true, cond_false, Bool.not_true, Bool.not_false, Bool.and_self])
            simp only [eqI_self] at h
            exact h
        | false => cases c with
          | true => exact RT_ok (q_in01 cs a) (by simp only [allTrue, obl, hA, hB, hl, hC, cond_true, cond_false, Bool.not_true, Bool.not_false, Bool.and_self])
          | false => exact RT_ok (q_00 cs a) (by simp only [allTrue, obl, hA, hB, hl, cond_true, cond_false, Bool.not_true, Bool.not_false, Bool.and_self])
      | false =>
        cases b with
        | true => cases c with
          | true => exact RT_ok (q_out11 cs a) (by simp only [allTrue, obl, hA, hB, hl, hC, cond_true, cond_false, Bool.not_true, Bool.not_false, Bool.and_self])
          | false => exact RT_ok (q_out10 cs a) (by simp only [allTrue, obl, hA, hB, hl, hC, cond_true, cond_false, Bool.not_true, Bool.not_false, Bool.and_self])
        | false => cases c with
          | true => exact RT_ok (q_out01 cs a) (by simp only [allTrue, obl, hA, hB, hl, hC, cond_true, cond_false, Bool.not_true, Bool.not_false, Bool.and_self])
          | false => exact RT_ok (q_00 cs a) (by simp only [allTrue, obl, hA, hB, hl, cond_true, cond_false, Bool.not_true, Bool.not_false, Bool.and_self])
    | negSucc a => cases b with
      | true => cases c with
        | true => exact RT_ok (q_neg11 cs a) (by simp only [allTrue, obl, hA, hB, hl, cond_true, cond_false, Bool.not_true, Bool.not_false, Bool.and_self])
        | false => exact RT_ok (q_neg10 cs a) (by simp only [allTrue, obl, hA, hB, hl, cond_true, cond_false, Bool.not_true, Bool.not_false, Bool.and_self])
      | false => cases c with
        | true => exact RT_ok (q_neg01 cs a) (by simp only [allTrue, obl, hA, hB, hl, cond_true, cond_false, Bool.not_true, Bool.not_false, Bool.and_self])
        | false => exact RT_ok (q_neg00 cs a) (by simp only [allTrue, obl, hA, hB, hl, cond_true, cond_false, Bool.not_true, Bool.not_false, Bool.and_self])
end Go.Eng.G
