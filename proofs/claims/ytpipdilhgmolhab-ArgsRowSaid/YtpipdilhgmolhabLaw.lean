/- The call of ArgsRow answers true for every argument, and its arguments read as they did. No condition. -/
import Derived.Test.YtpipdilhgmolhabRun
import Derived.Test.YtpipdilhgmolhabRows
import Derived.ProofKit

namespace Go.Eng.A
open Go.Proofs
noncomputable def st3 (a0 : Int) : St := (st00.put 0 (.int .i64 a0))
theorem entry3 (a0 : Int) : entry E 0 (sgOf sigs 3).ps [.i a0] st00 = some (st3 a0) := by kernel_rfl
theorem get3_0 (a0 : Int) : (st3 a0).sl.get 0 = .int .i64 a0 := by kernel_rfl
theorem bx3 (a0 : Int) : (st3 a0).bx = [] := by kernel_rfl
theorem ar3 (a0 : Int) : (st3 a0).ar = [] := by kernel_rfl
theorem f3_ok (k N n : Nat) : FnOk Try.prog (lvE E k sites N) (ctxN (lvE E k sites N) bodies noX k n) 3 (sgOf sigs 3) := fns_ok k N n 3 (sgOf sigs 3) (by kernel_rfl) (by kernel_rfl)
theorem rs3 : (sgOf sigs 3).rs = [.val false [.bool]] := by kernel_rfl
theorem fn3 : (sgOf sigs 3).fn = 3 := by kernel_rfl
theorem len3 : (sgOf sigs 3).ps.length = 1 := by kernel_rfl
theorem walk3 (a0 : Int) (w : World) (ha0 : loK .i64 ≤ a0 ∧ a0 ≤ hiK .i64) :
    Calls Try.prog (sgOf sigs 3).fn ⟨[.int .i64 a0]⟩ w fun e w' => e = .returned (.bool true) ∧ Go.RowKit.Below w.heap.size w w' := by
  refine calls_of_fnA f3_ok rs3 (law_ok a0) (len3.symm ▸ rfl) ⟨st3 a0, entry3 a0, bx3 a0, ar3 a0, fun t v hv => ?_⟩
  match t with
  | 0 => rw [get3_0]; simp at hv; subst hv; exact ⟨rfl, ha0.1, ha0.2⟩
  | t + 1 => simp at hv
end Go.Eng.A
namespace Go.Proofs.Ytpipdilhgmolhab
open Go.ChangeShapes Go.WideShapes Go.ChangeAt Go.RowKit
theorem Try.own : ownKnob Try.prog.godebug = none := by kernel_rfl
theorem Try.laidOut : laidOutB Try.prog = true := by kernel_rfl
theorem kept_of_below {w w' : World} (h : Below w.heap.size w w') (may : MemPlace → Prop) : w.keptBut w' may := by
  refine ⟨h.os, h.output, fun i hi => ?_⟩
  rw [h.block i hi]
  cases w.heap[i]? with
  | none => rfl
  | some o => cases o <;> first | exact ⟨rfl, rfl, rfl, fun _ _ => rfl⟩ | exact .inr ⟨rfl, rfl⟩ | rfl
theorem wf_range {n : Int} (h : (Lit.int .i64 n).wf = true) : Go.Eng.loK .i64 ≤ n ∧ n ≤ Go.Eng.hiK .i64 := by
  simp only [Lit.wf, Bool.and_eq_true, decide_eq_true_eq] at h
  exact h
theorem walk (a0 : Int) (w : World) (ha0 : (Lit.int .i64 a0).wf = true) :
    Calls Try.prog 3 #[.int .i64 a0] w fun e w' => e = .returned (.bool true) ∧ Below w.heap.size w w' := by
  have h := Go.Eng.A.walk3 a0 w (wf_range ha0)
  rw [Go.Eng.A.fn3] at h
  exact h
set_option maxRecDepth 100000 in
theorem lifted (os : Os) (started : os.Started) (H : Type) (enc : TypeId × Value → H) :
    ReturnsInHanded {} Try.checked os 3 .any (Rows.argsRowSpec.pre6 enc Try.prog Try.f3 Rows.argsRowRow.domain false) (Rows.argsRowSpec.post enc Try.prog Try.f3 false true false false) := by
  refine returnsInHanded_of_change (C := Try.checked) Try.own started (by kernel_rfl) Try.func3
    (ChangeSpec.witness6 (enc := enc) (C := Try.checked) false ⟨#[], #[.int .i64 0], []⟩ 8 (by kernel_rfl) (by kernel_rfl) (by kernel_rfl) (by kernel_rfl)) ?_
  intro W base args ds gs before hval0 hW hcnd _
  have hval : ∀ (j : Nat) t v, Try.f3.params[j]? = some t → args[j]? = some v → Value.okWide Try.prog W .any base t v := hval0
  have hW' := hW
  obtain ⟨p, q, hA0, hV, rfl, hfz, hnd⟩ := hW
  have hA : DataW.TrodAll enc Try.prog W 0 (fun _ => true) true Try.f3.params.toList args.toList ds p := hA0
  rw [Try.params3] at hA hval
  obtain ⟨v0, d0, rfl, rfl, h0⟩ := trodAll_one hA
  obtain ⟨rfl, rfl⟩ := trodVars_none hV
  obtain ⟨a0, rfl, rfl, rfl, wa0⟩ := open_int Try.underlying3 (hval 0 3 v0 rfl rfl) h0
  clear hA0 hval0
  simp only [List.append_nil] at hW'
  refine (walk a0 W wa0).mono fun e W' ⟨he, hb⟩ => ?_
  subst he
  refine ⟨_, rfl, _, _, _, [], [], [], hW', trodAll_mk1 (shut_bool Try.underlying4 true), trodAll_mk1 (shut_int Try.underlying3 wa0), rfl, kept_of_below hb _, fun h => by cases h⟩
theorem argsRow_holds : Rows.ArgsRowSaid :=
  OpenClaim.holds_of_wide 3 Try.f3 rfl rfl rfl rfl rfl rfl rfl ⟨rfl, rfl, rfl, rfl, rfl⟩ rfl rfl rfl rfl rfl (by kernel_rfl) Try.func3 (by kernel_rfl)
    (of_decide_eq_true (by kernel_rfl)) (by unfold Func.isWrapper; first | (rw [if_pos (by decide +kernel)]; kernel_rfl) | (rw [if_neg (by decide +kernel)]; exact ⟨rfl, rfl⟩))
    (fun os started H enc _ => lifted os started H enc)
end Go.Proofs.Ytpipdilhgmolhab
