/- DceIdle: the law answers true, whatever it is given. -/
import Derived.Test.YtpipdilhgmolhadGreatRunY
set_option linter.unusedVariables false
namespace Go.Eng.I
open Go.Eng
theorem gd1 (x y : D) : gD [x, y] 1 = y := rfl
theorem run_eq (a b : Int) : R1 40 3 [.i a, .i b] = retG (goT (R1 39) (runLp (R1 39) F_law21_DceIdle 300) (M_law21_DceIdle [.i a, .i b])) := by kernel_rfl
theorem and255 (a : Int) : bitsA .and .i64 a 255 = Int.ofNat ((BitVec.ofInt 64 a).toNat % 256) := by
  simp only [bitsA]
  have e : (BitVec.ofInt IntKind.i64.bits a &&& BitVec.ofInt IntKind.i64.bits 255).toNat = (BitVec.ofInt 64 a).toNat % 256 := by
    have h255 : (BitVec.ofInt IntKind.i64.bits 255).toNat = 255 := by decide
    rw [BitVec.toNat_and, h255]
    exact Nat.and_two_pow_sub_one_eq_mod _ 8
  rw [e]
  have hlt : (BitVec.ofInt 64 a).toNat % 256 < 256 := Nat.mod_lt _ (by omega)
  generalize (BitVec.ofInt 64 a).toNat % 256 = r at hlt
  exact wrap_in .i64 _ (by simp [loK]) (by simp [hiK]; omega)
theorem mod5 (n : Int) : ∃ w : Nat, w < 5 ∧ Int.tmod (bitsA .and .i64 n 255) 5 = Int.ofNat w ∧ Int.tmod (bitsA .and .i64 (Int.ofNat w) 255) 5 = Int.ofNat w := by
  have key : ∀ m : Nat, Int.tmod (Int.ofNat m) 5 = Int.ofNat (m % 5) := fun m => rfl
  refine ⟨(BitVec.ofInt 64 n).toNat % 256 % 5, Nat.mod_lt _ (by omega), by rw [and255, key], ?_⟩
  rw [and255, key]
  have hlt : (BitVec.ofInt 64 n).toNat % 256 % 5 < 5 := Nat.mod_lt _ (by omega)
  generalize (BitVec.ofInt 64 n).toNat % 256 % 5 = r at hlt
  rw [BitVec.toNat_ofInt]
  congr 1
  show (((r : Int) % ((2 ^ 64 : Nat) : Int)).toNat) % 256 % 5 = r
  omega
theorem run_all (w t : Nat) (hw : w < 5) (ht : t < 5) : R1 40 3 [.i (Int.ofNat w), .i (Int.ofNat t)] = some (.b true, []) := by
  match w, t, hw, ht with
  | 0, 0, _, _ => exact r00
  | 0, 1, _, _ => exact r01
  | 0, 2, _, _ => exact r02
  | 0, 3, _, _ => exact r03
  | 0, 4, _, _ => exact r04
  | 1, 0, _, _ => exact r10
  | 1, 1, _, _ => exact r11
  | 1, 2, _, _ => exact r12
  | 1, 3, _, _ => exact r13
  | 1, 4, _, _ => exact r14
  | 2, 0, _, _ => exact r20
  | 2, 1, _, _ => exact r21
  | 2, 2, _, _ => exact r22
  | 2, 3, _, _ => exact r23
  | 2, 4, _, _ => exact r24
  | 3, 0, _, _ => exact r30
  | 3, 1, _, _ => exact r31
  | 3, 2, _, _ => exact r32
  | 3, 3, _, _ => exact r33
  | 3, 4, _, _ => exact r34
  | 4, 0, _, _ => exact r40
  | 4, 1, _, _ => exact r41
  | 4, 2, _, _ => exact r42
  | 4, 3, _, _ => exact r43
  | 4, 4, _, _ => exact r44
  | w + 5, _, hw, _ => omega
  | _, t + 5, _, ht => omega
theorem run_any (a b : Int) : R1 40 3 [.i a, .i b] = some (.b true, []) := by
  obtain ⟨w, h0, h1, h2⟩ := mod5 a
  obtain ⟨t, g0, g1, g2⟩ := mod5 b
  have e : M_law21_DceIdle [.i a, .i b] = M_law21_DceIdle [.i (Int.ofNat w), .i (Int.ofNat t)] := by
    unfold M_law21_DceIdle
    simp only [gD_0, gd1, toI_i, h1, h2, g1, g2]
  rw [run_eq, e, ← run_eq]
  exact run_all w t h0 g0
theorem law_ok (a b : Int) : FnA E bodies sites 3 [.i a, .i b] (.b true) [] := runs1 _ _ _ (run_any a b)
end Go.Eng.I
