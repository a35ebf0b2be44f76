/- What is copied by slices.Clone is what was given. -/
import Derived.Test.YtpipdilhgmolhabTrB
set_option linter.unusedSimpArgs false
set_option linter.unusedVariables false
namespace Go.Eng.A
open Go.Eng
theorem ent_slices_Clone_Sint_int (x : D) (l : List D) : ∃ st, entry E 0 (sgOf sigs 26).ps [.l (x :: l)] { sl := .nil, bx := [], ar := [], ctr := 1 } = some st ∧ ∀ g, forkTo g st (st.sl.get 0) = g st :=
  ⟨(entry E 0 (sgOf sigs 26).ps [.l (x :: l)] { sl := .nil, bx := [], ar := [], ctr := 1 }).getD st0, by kernel_rfl, fun g => by kernel_rfl⟩
theorem nil_slices_Clone_Sint_int : FnA E bodies sites slices_Clone_Sint_int [.l []] (.l []) [] :=
  ⟨1, fun k n L hk hn hL => by
    obtain ⟨k, rfl⟩ : ∃ k', k = k' + 1 := ⟨k - 1, by omega⟩
    obtain ⟨n, rfl⟩ : ∃ k', n = k' + 1 := ⟨n - 1, by omega⟩
    obtain ⟨L, rfl⟩ : ∃ k', L = k' + 1 := ⟨L - 1, by omega⟩
    exact (show ctxN (lvE E (k + 1) sites (L + 1)) bodies noX (k + 1) (n + 1) slices_Clone_Sint_int [.l []] = some (.l [], []) by kernel_rfl)⟩
theorem ok_slices_Clone_Sint_int (l : List D) (h : lim l.length 8 = true) : FnA E bodies sites slices_Clone_Sint_int [.l l] (.l l) [] := by
  cases l with
  | nil => exact nil_slices_Clone_Sint_int
  | cons x l =>
    refine fn_fork c_slices_Clone_Sint_int rfl rfl rfl (fun st hs g => ?_) ?_
    · obtain ⟨st', h1, h2⟩ := ent_slices_Clone_Sint_int x l
      have e : st' = st := Option.some.inj (h1.symm.trans hs)
      subst e
      exact h2 g
    · show Ev _ _ (M_slices_Clone_Sint_int _) _
      unfold M_slices_Clone_Sint_int
      refine askF rfl (askF rfl (askT ?_ (retR rfl rfl)))
      show lim (0 + (x :: l).length) 8 = true
      rw [Nat.zero_add]
      exact h
theorem ent_slices_Clone_Sint64_int64 (x : D) (l : List D) : ∃ st, entry E 0 (sgOf sigs 27).ps [.l (x :: l)] { sl := .nil, bx := [], ar := [], ctr := 1 } = some st ∧ ∀ g, forkTo g st (st.sl.get 0) = g st :=
  ⟨(entry E 0 (sgOf sigs 27).ps [.l (x :: l)] { sl := .nil, bx := [], ar := [], ctr := 1 }).getD st0, by kernel_rfl, fun g => by kernel_rfl⟩
theorem nil_slices_Clone_Sint64_int64 : FnA E bodies sites slices_Clone_Sint64_int64 [.l []] (.l []) [] :=
  ⟨1, fun k n L hk hn hL => by
    obtain ⟨k, rfl⟩ : ∃ k', k = k' + 1 := ⟨k - 1, by omega⟩
    obtain ⟨n, rfl⟩ : ∃ k', n = k' + 1 := ⟨n - 1, by omega⟩
    obtain ⟨L, rfl⟩ : ∃ k', L = k' + 1 := ⟨L - 1, by omega⟩
    exact (show ctxN (lvE E (k + 1) sites (L + 1)) bodies noX (k + 1) (n + 1) slices_Clone_Sint64_int64 [.l []] = some (.l [], []) by kernel_rfl)⟩
theorem ok_slices_Clone_Sint64_int64 (l : List D) (h : lim l.length 8 = true) : FnA E bodies sites slices_Clone_Sint64_int64 [.l l] (.l l) [] := by
  cases l with
  | nil => exact nil_slices_Clone_Sint64_int64
  | cons x l =>
    refine fn_fork c_slices_Clone_Sint64_int64 rfl rfl rfl (fun st hs g => ?_) ?_
    · obtain ⟨st', h1, h2⟩ := ent_slices_Clone_Sint64_int64 x l
      have e : st' = st := Option.some.inj (h1.symm.trans hs)
      subst e
      exact h2 g
    · show Ev _ _ (M_slices_Clone_Sint64_int64 _) _
      unfold M_slices_Clone_Sint64_int64
      refine askF rfl (askF rfl (askT ?_ (retR rfl rfl)))
      show lim (0 + (x :: l).length) 8 = true
      rw [Nat.zero_add]
      exact h
def clones : List (Nat × Nat) := [(26, 8), (27, 8)]
def cloneX : Cl := fun m xs =>
  match look clones m with
  | some w => (match xs with
    | [.l l] => bif lim l.length w then some (.l l, []) else none
    | _ => none)
  | none => none
theorem cloneX_ok : ∀ m xs r, cloneX m xs = some r → FnA E bodies sites m xs r.1 r.2 := fun m xs r h => by
  unfold cloneX at h
  split at h
  · rename_i w hw
    split at h
    · rename_i l
      cases hl : lim l.length w with
      | false => rw [hl] at h; simp at h
      | true =>
        rw [hl] at h
        simp only [cond_true, Option.some.injEq] at h
        subst h
        simp only [clones, look] at hw
        cases h0 : Nat.beq 26 m with
        | true =>
          rw [h0] at hw
          simp only [cond_true, Option.some.injEq] at hw
          subst hw
          rw [← Nat.eq_of_beq_eq_true h0]
          exact ok_slices_Clone_Sint_int l hl
        | false =>
        rw [h0] at hw
        simp only [cond_false] at hw
        cases h1 : Nat.beq 27 m with
        | true =>
          rw [h1] at hw
          simp only [cond_true, Option.some.injEq] at hw
          subst hw
          rw [← Nat.eq_of_beq_eq_true h1]
          exact ok_slices_Clone_Sint64_int64 l hl
        | false =>
        rw [h1] at hw
        simp only [cond_false] at hw
        simp at hw
    · simp at h
  · simp at h
end Go.Eng.A

namespace Go.Eng.A
open Go.Eng
theorem runs0 : ∀ m xs r, runF progA cloneX 3000 60 m xs = some r → FnA E bodies sites m xs r.1 r.2 := runF_s (certAll_of progA_all) cloneX_ok 3000 60
theorem first_ok : FnA E bodies sites law28_first [] (.b true) [] :=
  raw_rule (f := Go.Proofs.Try.f4) (hh := h4) (c := cd Go.Proofs.Try.f4) (s := sgOf sigs 4) (by kernel_rfl) (by kernel_rfl) (by kernel_rfl) (by kernel_rfl) (by kernel_rfl) sites_loops runs0 (by kernel_rfl)
def firstX : Cl := fun m xs => bif Nat.beq m law28_first then (match xs with | [] => some (.b true, []) | _ => none) else cloneX m xs
theorem firstX_ok : ∀ m xs r, firstX m xs = some r → FnA E bodies sites m xs r.1 r.2 := fun m xs r h => by
  unfold firstX at h
  cases hm : Nat.beq m law28_first with
  | false => rw [hm] at h; exact cloneX_ok m xs r h
  | true =>
    rw [hm] at h
    simp only [cond_true] at h
    rw [Nat.eq_of_beq_eq_true hm]
    split at h
    · injection h with h; subst h; exact first_ok
    · simp at h
theorem runs1 : ∀ m xs r, runF progA firstX 3000 60 m xs = some r → FnA E bodies sites m xs r.1 r.2 := runF_s (certAll_of progA_all) firstX_ok 3000 60
end Go.Eng.A

namespace Go.Eng.A
open Go.Eng
theorem run_0 : runF progA firstX 3000 60 law28_ArgsRow [.i 0] = some (.b true, []) := by kernel_rfl
theorem run_1 : runF progA firstX 3000 60 law28_ArgsRow [.i 1] = some (.b true, []) := by kernel_rfl
theorem run_2 : runF progA firstX 3000 60 law28_ArgsRow [.i 2] = some (.b true, []) := by kernel_rfl
theorem run_3 : runF progA firstX 3000 60 law28_ArgsRow [.i 3] = some (.b true, []) := by kernel_rfl
theorem run_4 : runF progA firstX 3000 60 law28_ArgsRow [.i 4] = some (.b true, []) := by kernel_rfl
theorem run_5 : runF progA firstX 3000 60 law28_ArgsRow [.i 5] = some (.b true, []) := by kernel_rfl
theorem run_6 : runF progA firstX 3000 60 law28_ArgsRow [.i 6] = some (.b true, []) := by kernel_rfl
theorem run_7 : runF progA firstX 3000 60 law28_ArgsRow [.i 7] = some (.b true, []) := by kernel_rfl
theorem run_8 : runF progA firstX 3000 60 law28_ArgsRow [.i 8] = some (.b true, []) := by kernel_rfl
theorem run_9 : runF progA firstX 3000 60 law28_ArgsRow [.i 9] = some (.b true, []) := by kernel_rfl
theorem run_10 : runF progA firstX 3000 60 law28_ArgsRow [.i 10] = some (.b true, []) := by kernel_rfl
theorem run_11 : runF progA firstX 3000 60 law28_ArgsRow [.i 11] = some (.b true, []) := by kernel_rfl
theorem run_12 : runF progA firstX 3000 60 law28_ArgsRow [.i 12] = some (.b true, []) := by kernel_rfl
theorem run_13 : runF progA firstX 3000 60 law28_ArgsRow [.i 13] = some (.b true, []) := by kernel_rfl
theorem run_14 : runF progA firstX 3000 60 law28_ArgsRow [.i 14] = some (.b true, []) := by kernel_rfl
theorem run_15 : runF progA firstX 3000 60 law28_ArgsRow [.i 15] = some (.b true, []) := by kernel_rfl
theorem run_16 : runF progA firstX 3000 60 law28_ArgsRow [.i 16] = some (.b true, []) := by kernel_rfl
theorem run_17 : runF progA firstX 3000 60 law28_ArgsRow [.i 17] = some (.b true, []) := by kernel_rfl
theorem run_18 : runF progA firstX 3000 60 law28_ArgsRow [.i 18] = some (.b true, []) := by kernel_rfl
theorem run_19 : runF progA firstX 3000 60 law28_ArgsRow [.i 19] = some (.b true, []) := by kernel_rfl
theorem run_20 : runF progA firstX 3000 60 law28_ArgsRow [.i 20] = some (.b true, []) := by kernel_rfl
theorem run_21 : runF progA firstX 3000 60 law28_ArgsRow [.i 21] = some (.b true, []) := by kernel_rfl
theorem run_22 : runF progA firstX 3000 60 law28_ArgsRow [.i 22] = some (.b true, []) := by kernel_rfl
theorem run_23 : runF progA firstX 3000 60 law28_ArgsRow [.i 23] = some (.b true, []) := by kernel_rfl
theorem run_24 : runF progA firstX 3000 60 law28_ArgsRow [.i 24] = some (.b true, []) := by kernel_rfl
theorem run_25 : runF progA firstX 3000 60 law28_ArgsRow [.i 25] = some (.b true, []) := by kernel_rfl
theorem run_26 : runF progA firstX 3000 60 law28_ArgsRow [.i 26] = some (.b true, []) := by kernel_rfl
theorem run_27 : runF progA firstX 3000 60 law28_ArgsRow [.i 27] = some (.b true, []) := by kernel_rfl
theorem run_28 : runF progA firstX 3000 60 law28_ArgsRow [.i 28] = some (.b true, []) := by kernel_rfl
theorem run_29 : runF progA firstX 3000 60 law28_ArgsRow [.i 29] = some (.b true, []) := by kernel_rfl
theorem run_30 : runF progA firstX 3000 60 law28_ArgsRow [.i 30] = some (.b true, []) := by kernel_rfl
theorem run_31 : runF progA firstX 3000 60 law28_ArgsRow [.i 31] = some (.b true, []) := by kernel_rfl
theorem run_all (w : Nat) (h : w < 32) : runF progA firstX 3000 60 law28_ArgsRow [.i (Int.ofNat w)] = some (.b true, []) :=
  match w, h with
  | 0, _ => run_0
  | 1, _ => run_1
  | 2, _ => run_2
  | 3, _ => run_3
  | 4, _ => run_4
  | 5, _ => run_5
  | 6, _ => run_6
  | 7, _ => run_7
  | 8, _ => run_8
  | 9, _ => run_9
  | 10, _ => run_10
  | 11, _ => run_11
  | 12, _ => run_12
  | 13, _ => run_13
  | 14, _ => run_14
  | 15, _ => run_15
  | 16, _ => run_16
  | 17, _ => run_17
  | 18, _ => run_18
  | 19, _ => run_19
  | 20, _ => run_20
  | 21, _ => run_21
  | 22, _ => run_22
  | 23, _ => run_23
  | 24, _ => run_24
  | 25, _ => run_25
  | 26, _ => run_26
  | 27, _ => run_27
  | 28, _ => run_28
  | 29, _ => run_29
  | 30, _ => run_30
  | 31, _ => run_31
  | n + 32, h => absurd h (by omega)
end Go.Eng.A

namespace Go.Eng.A
open Go.Eng
theorem run_eq (n : Int) : runF progA firstX 3000 60 law28_ArgsRow [.i n] = retG (goT (runF progA firstX 3000 59) (runLp (runF progA firstX 3000 59) F_law28_ArgsRow 3000) (M_law28_ArgsRow [.i n])) := by kernel_rfl
theorem and31 (n : Int) : ∃ w : Nat, w < 32 ∧ bitsA .and .i64 n 31 = Int.ofNat w ∧ bitsA .and .i64 (Int.ofNat w) 31 = Int.ofNat w := by
  have key : ∀ a : Int, bitsA .and .i64 a 31 = Int.ofNat ((BitVec.ofInt 64 a).toNat % 32) := fun a => by
    simp only [bitsA]
    have e : (BitVec.ofInt IntKind.i64.bits a &&& BitVec.ofInt IntKind.i64.bits 31).toNat = (BitVec.ofInt 64 a).toNat % 32 := by
      have h31 : (BitVec.ofInt IntKind.i64.bits 31).toNat = 31 := by decide
      rw [BitVec.toNat_and, h31]
      exact Nat.and_two_pow_sub_one_eq_mod _ 5
    rw [e]
    have hlt : (BitVec.ofInt 64 a).toNat % 32 < 32 := Nat.mod_lt _ (by omega)
    generalize (BitVec.ofInt 64 a).toNat % 32 = r at hlt
    exact wrap_in .i64 _ (by simp [loK]) (by simp [hiK]; omega)
  refine ⟨(BitVec.ofInt 64 n).toNat % 32, Nat.mod_lt _ (by omega), key n, ?_⟩
  rw [key]
  have hlt : (BitVec.ofInt 64 n).toNat % 32 < 32 := Nat.mod_lt _ (by omega)
  generalize (BitVec.ofInt 64 n).toNat % 32 = r at hlt
  rw [BitVec.toNat_ofInt]
  congr 1
  show (((r : Int) % ((2 ^ 64 : Nat) : Int)).toNat) % 32 = r
  omega
theorem run_any (n : Int) : runF progA firstX 3000 60 law28_ArgsRow [.i n] = some (.b true, []) := by
  obtain ⟨w, h0, h1, h2⟩ := and31 n
  have e : M_law28_ArgsRow [.i n] = M_law28_ArgsRow [.i (Int.ofNat w)] := by
    unfold M_law28_ArgsRow
    simp only [gD_0, toI_i, h1, h2]
  rw [run_eq, e, ← run_eq]
  exact run_all w h0
theorem law_ok (n : Int) : FnA E bodies sites law28_ArgsRow [.i n] (.b true) [] := runs1 _ _ _ (run_any n)
end Go.Eng.A
