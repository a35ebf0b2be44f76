/- What is copied by slices.Clone is what was given. -/
import Derived.Test.YtpipdilhgmolhadGreatTrB
set_option linter.unusedSimpArgs false
set_option linter.unusedVariables false
namespace Go.Eng.I
open Go.Eng
theorem ent_slices_Clone_Sint_int (x : D) (l : List D) : ∃ st, entry E 0 (sgOf sigs 37).ps [.l (x :: l)] { sl := .nil, bx := [], ar := [], ctr := 1 } = some st ∧ ∀ g, forkTo g st (st.sl.get 0) = g st :=
  ⟨(entry E 0 (sgOf sigs 37).ps [.l (x :: l)] { sl := .nil, bx := [], ar := [], ctr := 1 }).getD st0, by kernel_rfl, fun g => by kernel_rfl⟩
theorem nil_slices_Clone_Sint_int : FnA E bodies sites slices_Clone_Sint_int [.l []] (.l []) [] :=
  ⟨1, fun k n L hk hn hL => by
    obtain ⟨k, rfl⟩ : ∃ k', k = k' + 1 := ⟨k - 1, by omega⟩
    obtain ⟨n, rfl⟩ : ∃ k', n = k' + 1 := ⟨n - 1, by omega⟩
    obtain ⟨L, rfl⟩ : ∃ k', L = k' + 1 := ⟨L - 1, by omega⟩
    exact (show ctxN (lvE E (k + 1) sites (L + 1)) bodies noX (k + 1) (n + 1) slices_Clone_Sint_int [.l []] = some (.l [], []) by kernel_rfl)⟩
theorem ok_slices_Clone_Sint_int (l : List D) (h : lim l.length 8 = true) : FnA E bodies sites slices_Clone_Sint_int [.l l] (.l l) [] := by
  cases l with
  | nil => exact nil_slices_Clone_Sint_int
  | cons x l =>
    refine fn_fork c_slices_Clone_Sint_int rfl rfl rfl (fun st hs g => ?_) ?_
    · obtain ⟨st', h1, h2⟩ := ent_slices_Clone_Sint_int x l
      have e : st' = st := Option.some.inj (h1.symm.trans hs)
      subst e
      exact h2 g
    · show Ev _ _ (M_slices_Clone_Sint_int _) _
      unfold M_slices_Clone_Sint_int
      refine askF rfl (askF rfl (askT ?_ (retR rfl rfl)))
      show lim (0 + (x :: l).length) 8 = true
      rw [Nat.zero_add]
      exact h
theorem ent_slices_Clone_Sint64_int64 (x : D) (l : List D) : ∃ st, entry E 0 (sgOf sigs 38).ps [.l (x :: l)] { sl := .nil, bx := [], ar := [], ctr := 1 } = some st ∧ ∀ g, forkTo g st (st.sl.get 0) = g st :=
  ⟨(entry E 0 (sgOf sigs 38).ps [.l (x :: l)] { sl := .nil, bx := [], ar := [], ctr := 1 }).getD st0, by kernel_rfl, fun g => by kernel_rfl⟩
theorem nil_slices_Clone_Sint64_int64 : FnA E bodies sites slices_Clone_Sint64_int64 [.l []] (.l []) [] :=
  ⟨1, fun k n L hk hn hL => by
    obtain ⟨k, rfl⟩ : ∃ k', k = k' + 1 := ⟨k - 1, by omega⟩
    obtain ⟨n, rfl⟩ : ∃ k', n = k' + 1 := ⟨n - 1, by omega⟩
    obtain ⟨L, rfl⟩ : ∃ k', L = k' + 1 := ⟨L - 1, by omega⟩
    exact (show ctxN (lvE E (k + 1) sites (L + 1)) bodies noX (k + 1) (n + 1) slices_Clone_Sint64_int64 [.l []] = some (.l [], []) by kernel_rfl)⟩
theorem ok_slices_Clone_Sint64_int64 (l : List D) (h : lim l.length 8 = true) : FnA E bodies sites slices_Clone_Sint64_int64 [.l l] (.l l) [] := by
  cases l with
  | nil => exact nil_slices_Clone_Sint64_int64
  | cons x l =>
    refine fn_fork c_slices_Clone_Sint64_int64 rfl rfl rfl (fun st hs g => ?_) ?_
    · obtain ⟨st', h1, h2⟩ := ent_slices_Clone_Sint64_int64 x l
      have e : st' = st := Option.some.inj (h1.symm.trans hs)
      subst e
      exact h2 g
    · show Ev _ _ (M_slices_Clone_Sint64_int64 _) _
      unfold M_slices_Clone_Sint64_int64
      refine askF rfl (askF rfl (askT ?_ (retR rfl rfl)))
      show lim (0 + (x :: l).length) 8 = true
      rw [Nat.zero_add]
      exact h
theorem ent_slices_Clone_Sapi_Base_api_Base (x : D) (l : List D) : ∃ st, entry E 0 (sgOf sigs 66).ps [.l (x :: l)] { sl := .nil, bx := [], ar := [], ctr := 1 } = some st ∧ ∀ g, forkTo g st (st.sl.get 0) = g st :=
  ⟨(entry E 0 (sgOf sigs 66).ps [.l (x :: l)] { sl := .nil, bx := [], ar := [], ctr := 1 }).getD st0, by kernel_rfl, fun g => by kernel_rfl⟩
theorem nil_slices_Clone_Sapi_Base_api_Base : FnA E bodies sites slices_Clone_Sapi_Base_api_Base [.l []] (.l []) [] :=
  ⟨1, fun k n L hk hn hL => by
    obtain ⟨k, rfl⟩ : ∃ k', k = k' + 1 := ⟨k - 1, by omega⟩
    obtain ⟨n, rfl⟩ : ∃ k', n = k' + 1 := ⟨n - 1, by omega⟩
    obtain ⟨L, rfl⟩ : ∃ k', L = k' + 1 := ⟨L - 1, by omega⟩
    exact (show ctxN (lvE E (k + 1) sites (L + 1)) bodies noX (k + 1) (n + 1) slices_Clone_Sapi_Base_api_Base [.l []] = some (.l [], []) by kernel_rfl)⟩
theorem ok_slices_Clone_Sapi_Base_api_Base (l : List D) (h : lim l.length 16 = true) : FnA E bodies sites slices_Clone_Sapi_Base_api_Base [.l l] (.l l) [] := by
  cases l with
  | nil => exact nil_slices_Clone_Sapi_Base_api_Base
  | cons x l =>
    refine fn_fork c_slices_Clone_Sapi_Base_api_Base rfl rfl rfl (fun st hs g => ?_) ?_
    · obtain ⟨st', h1, h2⟩ := ent_slices_Clone_Sapi_Base_api_Base x l
      have e : st' = st := Option.some.inj (h1.symm.trans hs)
      subst e
      exact h2 g
    · show Ev _ _ (M_slices_Clone_Sapi_Base_api_Base _) _
      unfold M_slices_Clone_Sapi_Base_api_Base
      refine askF rfl (askF rfl (askT ?_ (retR rfl rfl)))
      show lim (0 + (x :: l).length) 16 = true
      rw [Nat.zero_add]
      exact h
def clones : List (Nat × Nat) := [(37, 8), (38, 8), (66, 16)]
def cloneX : Cl := fun m xs =>
  match look clones m with
  | some w => (match xs with
    | [.l l] => bif lim l.length w then some (.l l, []) else none
    | _ => none)
  | none => none
theorem cloneX_ok : ∀ m xs r, cloneX m xs = some r → FnA E bodies sites m xs r.1 r.2 := fun m xs r h => by
  unfold cloneX at h
  split at h
  · rename_i w hw
    split at h
    · rename_i l
      cases hl : lim l.length w with
      | false => rw [hl] at h; simp at h
      | true =>
        rw [hl] at h
        simp only [cond_true, Option.some.injEq] at h
        subst h
        simp only [clones, look] at hw
        cases h0 : Nat.beq 37 m with
        | true =>
          rw [h0] at hw
          simp only [cond_true, Option.some.injEq] at hw
          subst hw
          rw [← Nat.eq_of_beq_eq_true h0]
          exact ok_slices_Clone_Sint_int l hl
        | false =>
        rw [h0] at hw
        simp only [cond_false] at hw
        cases h1 : Nat.beq 38 m with
        | true =>
          rw [h1] at hw
          simp only [cond_true, Option.some.injEq] at hw
          subst hw
          rw [← Nat.eq_of_beq_eq_true h1]
          exact ok_slices_Clone_Sint64_int64 l hl
        | false =>
        rw [h1] at hw
        simp only [cond_false] at hw
        cases h2 : Nat.beq 66 m with
        | true =>
          rw [h2] at hw
          simp only [cond_true, Option.some.injEq] at hw
          subst hw
          rw [← Nat.eq_of_beq_eq_true h2]
          exact ok_slices_Clone_Sapi_Base_api_Base l hl
        | false =>
        rw [h2] at hw
        simp only [cond_false] at hw
        simp at hw
    · simp at h
  · simp at h
end Go.Eng.I

namespace Go.Eng.I
open Go.Eng
def ms : List Nat := [4, 5, 11, 14, 16, 17, 24, 25, 35, 40, 69, 77, 82, 108, 124, 126, 127, 135]
noncomputable def R0 (n : Nat) : Cl := runR progI cloneX E bodies sites 300 ms 300 n
theorem runs0 : ∀ m xs r, R0 40 m xs = some r → FnA E bodies sites m xs r.1 r.2 := runR_s (certAll_of progI_all) cloneX_ok 300 40
theorem first_run : R0 40 4 [] = some (.b true, []) := by kernel_rfl
def firstX : Cl := fun m xs => bif Nat.beq m 4 then (match xs with | [] => some (.b true, []) | _ => none) else cloneX m xs
theorem firstX_ok : ∀ m xs r, firstX m xs = some r → FnA E bodies sites m xs r.1 r.2 := fun m xs r h => by
  unfold firstX at h
  cases hm : Nat.beq m 4 with
  | false => rw [hm] at h; exact cloneX_ok m xs r h
  | true =>
    rw [hm] at h
    simp only [cond_true] at h
    rw [← Nat.eq_of_beq_eq_true (show Nat.beq 4 m = true by rw [Nat.eq_of_beq_eq_true hm]; rfl)]
    split at h
    · injection h with h; subst h; exact runs0 _ _ _ first_run
    · simp at h
/-- the chapter's example is not run again -/
def ms1 : List Nat := [5, 11, 14, 16, 17, 24, 25, 35, 40, 69, 77, 82, 108, 124, 126, 127, 135]
noncomputable def R1 (n : Nat) : Cl := runR progI firstX E bodies sites 300 ms1 300 n
theorem runs1 : ∀ m xs r, R1 40 m xs = some r → FnA E bodies sites m xs r.1 r.2 := runR_s (certAll_of progI_all) firstX_ok 300 40
end Go.Eng.I
