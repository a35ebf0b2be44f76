/- The call of DceIdle answers true for every argument, and its arguments read as they did. No condition. -/
import Derived.Test.YtpipdilhgmolhadGreatRunZ
import Derived.Test.YtpipdilhgmolhadGreatRows
import Derived.ProofKit

namespace Go.Eng.I
open Go.Proofs
noncomputable def st3 (a0 : Int) (a1 : Int) : St := ((st00.put 0 (.int .i64 a0)).put 1 (.int .i64 a1))
theorem entry3 (a0 : Int) (a1 : Int) : entry E 0 (sgOf sigs 3).ps [.i a0, .i a1] st00 = some (st3 a0 a1) := by kernel_rfl
theorem get3_0 (a0 : Int) (a1 : Int) : (st3 a0 a1).sl.get 0 = .int .i64 a0 := by kernel_rfl
theorem get3_1 (a0 : Int) (a1 : Int) : (st3 a0 a1).sl.get 1 = .int .i64 a1 := by kernel_rfl
theorem bx3 (a0 : Int) (a1 : Int) : (st3 a0 a1).bx = [] := by kernel_rfl
theorem ar3 (a0 : Int) (a1 : Int) : (st3 a0 a1).ar = [] := by kernel_rfl
theorem f3_ok (k N n : Nat) : FnOk Tryz.prog (lvE E k sites N) (ctxN (lvE E k sites N) bodies noX k n) 3 (sgOf sigs 3) := fns_ok k N n 3 (sgOf sigs 3) (by kernel_rfl) (by kernel_rfl)
theorem rs3 : (sgOf sigs 3).rs = [.val false [.bool]] := by kernel_rfl
theorem fn3 : (sgOf sigs 3).fn = 3 := by kernel_rfl
theorem len3 : (sgOf sigs 3).ps.length = 2 := by kernel_rfl
theorem walk3 (a0 : Int) (a1 : Int) (w : World) (ha0 : loK .i64 ≤ a0 ∧ a0 ≤ hiK .i64) (ha1 : loK .i64 ≤ a1 ∧ a1 ≤ hiK .i64) :
    Calls Tryz.prog (sgOf sigs 3).fn ⟨[.int .i64 a0, .int .i64 a1]⟩ w fun e w' => e = .returned (.bool true) ∧ Go.RowKit.Below w.heap.size w w' := by
  refine calls_of_fnA f3_ok rs3 (law_ok a0 a1) (len3.symm ▸ rfl) ⟨st3 a0 a1, entry3 a0 a1, bx3 a0 a1, ar3 a0 a1, fun t v hv => ?_⟩
  match t with
  | 0 => rw [get3_0]; simp at hv; subst hv; exact ⟨rfl, ha0.1, ha0.2⟩
  | 1 => rw [get3_1]; simp at hv; subst hv; exact ⟨rfl, ha1.1, ha1.2⟩
  | t + 2 => simp at hv
end Go.Eng.I
namespace Go.Proofs.YtpipdilhgmolhadGreat
open Go.ChangeShapes Go.WideShapes Go.ChangeAt Go.RowKit
theorem Tryz.own : ownKnob Tryz.prog.godebug = none := by kernel_rfl
theorem Tryz.laidOut : laidOutB Tryz.prog = true := by kernel_rfl
theorem kept_of_below {w w' : World} (h : Below w.heap.size w w') (may : MemPlace → Prop) : w.keptBut w' may := by
  refine ⟨h.os, h.output, fun i hi => ?_⟩
  rw [h.block i hi]
  cases w.heap[i]? with
  | none => rfl
  | some o => cases o <;> first | exact ⟨rfl, rfl, rfl, fun _ _ => rfl⟩ | exact .inr ⟨rfl, rfl⟩ | rfl
theorem wf_range {n : Int} (h : (Lit.int .i64 n).wf = true) : Go.Eng.loK .i64 ≤ n ∧ n ≤ Go.Eng.hiK .i64 := by
  simp only [Lit.wf, Bool.and_eq_true, decide_eq_true_eq] at h
  exact h
theorem walk (a0 : Int) (a1 : Int) (w : World) (ha0 : (Lit.int .i64 a0).wf = true) (ha1 : (Lit.int .i64 a1).wf = true) :
    Calls Tryz.prog 3 #[.int .i64 a0, .int .i64 a1] w fun e w' => e = .returned (.bool true) ∧ Below w.heap.size w w' := by
  have h := Go.Eng.I.walk3 a0 a1 w (wf_range ha0) (wf_range ha1)
  rw [Go.Eng.I.fn3] at h
  exact h
set_option maxRecDepth 100000 in
theorem lifted (os : Os) (started : os.Started) (H : Type) (enc : TypeId × Value → H) :
    ReturnsInHanded {} Tryz.checked os 3 .any (Rows.dceIdleSpec.pre6 enc Tryz.prog Tryz.f3 Rows.dceIdleRow.domain false) (Rows.dceIdleSpec.post enc Tryz.prog Tryz.f3 false true false false) := by
  refine returnsInHanded_of_change (C := Tryz.checked) Tryz.own started (by kernel_rfl) Tryz.func3
    (ChangeSpec.witness6 (enc := enc) (C := Tryz.checked) false ⟨#[], #[.int .i64 0, .int .i64 0], []⟩ 8 (by kernel_rfl) (by kernel_rfl) (by kernel_rfl) (by kernel_rfl)) ?_
  intro W base args ds gs before hval0 hW hcnd _
  have hval : ∀ (j : Nat) t v, Tryz.f3.params[j]? = some t → args[j]? = some v → Value.okWide Tryz.prog W .any base t v := hval0
  have hW' := hW
  obtain ⟨p, q, hA0, hV, rfl, hfz, hnd⟩ := hW
  have hA : DataW.TrodAll enc Tryz.prog W 0 (fun _ => true) true Tryz.f3.params.toList args.toList ds p := hA0
  rw [Tryz.params3] at hA hval
  obtain ⟨v0, v1, d0, d1, p0, p1, rfl, rfl, rfl, h0, h1⟩ := trodAll_two hA
  obtain ⟨rfl, rfl⟩ := trodVars_none hV
  obtain ⟨a0, rfl, rfl, rfl, wa0⟩ := open_int Tryz.underlying3 (hval 0 3 v0 rfl rfl) h0
  obtain ⟨a1, rfl, rfl, rfl, wa1⟩ := open_int Tryz.underlying3 (hval 1 3 v1 rfl rfl) h1
  clear hA0 hval0
  simp only [List.append_nil] at hW'
  refine (walk a0 a1 W wa0 wa1).mono fun e W' ⟨he, hb⟩ => ?_
  subst he
  refine ⟨_, rfl, _, _, _, [], [], [], hW', trodAll_mk1 (shut_bool Tryz.underlying4 true), trodAll_mk2 (shut_int Tryz.underlying3 wa0) (shut_int Tryz.underlying3 wa1), rfl, kept_of_below hb _, fun h => by cases h⟩
theorem dceIdle_holds : Rows.DceIdleSaid :=
  OpenClaim.holds_of_wide 3 Tryz.f3 rfl rfl rfl rfl rfl rfl rfl ⟨rfl, rfl, rfl, rfl, rfl⟩ rfl rfl rfl rfl rfl (by kernel_rfl) Tryz.func3 (by kernel_rfl)
    (of_decide_eq_true (by kernel_rfl)) (by unfold Func.isWrapper; first | (rw [if_pos (by decide +kernel)]; kernel_rfl) | (rw [if_neg (by decide +kernel)]; exact ⟨rfl, rfl⟩))
    (fun os started H enc _ => lifted os started H enc)
end Go.Proofs.YtpipdilhgmolhadGreat
