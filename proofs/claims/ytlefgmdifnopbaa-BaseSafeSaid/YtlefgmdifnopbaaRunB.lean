/- Part of the proof. -/
import Derived.Test.YtlefgmdifnopbaaRunA

namespace Go.Eng.S
open Go.Proofs
theorem sig3_look : E.sg.look 3 = some (sig 3) := by kernel_rfl
theorem sig3_ps : psOk (sig 3).ps = true := by kernel_rfl
theorem sig3_rs : (sig 3).rs = [.val false [.bool]] := by kernel_rfl
theorem sig3_fn : (sig 3).fn = 3 := by kernel_rfl
theorem sig3_len : (sig 3).ps.length = 4 := by kernel_rfl
theorem f3_ok : FnOk Try.prog E (K 40) 3 (sig 3) := fns_ok 3000 40 3 (sig 3) sig3_look sig3_ps
end Go.Eng.S

namespace Go.Eng.S
open Go.Proofs
noncomputable def st3 (c x y : Int) (g : Bool) : St := (((st00.put 0 (.int .i64 c)).put 1 (.int .i64 x)).put 2 (.int .i64 y)).put 3 (.bool g)
theorem entry3 (c x y : Int) (g : Bool) : entry E 0 (sig 3).ps [.i c, .i x, .i y, .b g] st00 = some (st3 c x y g) := by kernel_rfl
theorem get3 (c x y : Int) (g : Bool) : (st3 c x y g).sl.get 0 = .int .i64 c ∧ (st3 c x y g).sl.get 1 = .int .i64 x ∧ (st3 c x y g).sl.get 2 = .int .i64 y ∧ (st3 c x y g).sl.get 3 = .bool g :=
  ⟨by kernel_rfl, by kernel_rfl, by kernel_rfl, by kernel_rfl⟩
theorem bx3 (c x y : Int) (g : Bool) : (st3 c x y g).bx = [] := by kernel_rfl
theorem ar3 (c x y : Int) (g : Bool) : (st3 c x y g).ar = [] := by kernel_rfl
theorem walk3 (c x y : Int) (g : Bool) (w : World) (h1 : loK .i64 ≤ c ∧ c ≤ hiK .i64) (h2 : loK .i64 ≤ x ∧ x ≤ hiK .i64) (h3 : loK .i64 ≤ y ∧ y ≤ hiK .i64) :
    Calls Try.prog (sig 3).fn ⟨[.int .i64 c, .int .i64 x, .int .i64 y, .bool g]⟩ w fun e w' => e = .returned (.bool true) ∧ Go.RowKit.Below w.heap.size w w' := by
  have hr := run_ok c x y g h2.1 h2.2
  refine law_sound f3_ok sig3_rs hr (sig3_len.symm ▸ rfl) fun st0 he => ?_
  rw [entry3] at he
  obtain ⟨g0, g1, g2, g3⟩ := get3 c x y g
  have hb := bx3 c x y g
  have ha := ar3 c x y g
  generalize st3 c x y g = s at he g0 g1 g2 g3 hb ha
  injection he with he
  subst he
  refine ⟨hb, ha, fun t v hv => ?_⟩
  match t with
  | 0 => rw [g0]; simp at hv; subst hv; exact ⟨rfl, h1.1, h1.2⟩
  | 1 => rw [g1]; simp at hv; subst hv; exact ⟨rfl, h2.1, h2.2⟩
  | 2 => rw [g2]; simp at hv; subst hv; exact ⟨rfl, h3.1, h3.2⟩
  | 3 => rw [g3]; simp at hv; subst hv; exact rfl
  | t + 4 => simp at hv
end Go.Eng.S
