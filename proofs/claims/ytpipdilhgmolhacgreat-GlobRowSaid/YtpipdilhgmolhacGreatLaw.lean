/- The call of GlobRow answers true for every argument, and its arguments read as they did. No condition. -/
import Derived.Test.YtpipdilhgmolhacGreatRun
import Derived.Test.YtpipdilhgmolhacGreatRows
import Derived.ProofKit

namespace Go.Eng.G
open Go.Proofs
noncomputable def st3 (xs : List D) (a1 : Int) (a2 a3 : Bool) : St := ((((st00.put 0 (.fz [] 2 [.int .i64] xs)).put 1 (.int .i64 a1)).put 2 (.bool a2)).put 3 (.bool a3))
theorem entry3 (xs : List D) (a1 : Int) (a2 a3 : Bool) : entry E 0 (sgOf sigs 3).ps [.l xs, .i a1, .b a2, .b a3] st00 = some (st3 xs a1 a2 a3) := by kernel_rfl
theorem get3_0 (xs : List D) (a1 : Int) (a2 a3 : Bool) : (st3 xs a1 a2 a3).sl.get 0 = .fz [] 2 [.int .i64] xs := by kernel_rfl
theorem get3_1 (xs : List D) (a1 : Int) (a2 a3 : Bool) : (st3 xs a1 a2 a3).sl.get 1 = .int .i64 a1 := by kernel_rfl
theorem get3_2 (xs : List D) (a1 : Int) (a2 a3 : Bool) : (st3 xs a1 a2 a3).sl.get 2 = .bool a2 := by kernel_rfl
theorem get3_3 (xs : List D) (a1 : Int) (a2 a3 : Bool) : (st3 xs a1 a2 a3).sl.get 3 = .bool a3 := by kernel_rfl
theorem bx3 (xs : List D) (a1 : Int) (a2 a3 : Bool) : (st3 xs a1 a2 a3).bx = [] := by kernel_rfl
theorem ar3 (xs : List D) (a1 : Int) (a2 a3 : Bool) : (st3 xs a1 a2 a3).ar = [] := by kernel_rfl
theorem f3_ok (k N n : Nat) : FnOk Tryz.prog (lvE E k sites N) (ctxN (lvE E k sites N) bodies noX k n) 3 (sgOf sigs 3) := fns_ok k N n 3 (sgOf sigs 3) (by kernel_rfl) (by kernel_rfl)
theorem rs3 : (sgOf sigs 3).rs = [.val false [.bool]] := by kernel_rfl
theorem fn3 : (sgOf sigs 3).fn = 3 := by kernel_rfl
theorem len3 : (sgOf sigs 3).ps.length = 4 := by kernel_rfl
/-- a row of whole numbers that is handed in -/
theorem fz_ints {w : World} {a : Option Addr} {n c : Nat} {zs : List Int} (hn : zs.length = n) (hc : n ≤ c) (hm : c ≤ maxLen) (ha : a = none → c = 0)
    (hcell : ∀ ad, a = some ad → 0 < n → ad.spot = none ∧ ∀ i, i < n → w.cell? ⟨ad.block, ad.off + i, none⟩ = some (.int .i64 (zs.getD i 0))) (hw : ∀ z ∈ zs, loK .i64 ≤ z ∧ z ≤ hiK .i64) :
    FzL w (okD (Gh.top w) []) (.sl false 2 [.int .i64]) (.slice a n c) (.l (zs.map D.i)) := by
  refine ⟨a, n, c, rfl, by simpa using hn, hc, hm, ha, fun ad had hpos => ?_⟩
  obtain ⟨h1, h2⟩ := hcell ad had hpos
  refine ⟨h1, fun i hi => ?_⟩
  have hcl := h2 i hi
  have hblk : ad.block < w.heap.size := by
    rcases Nat.lt_or_ge ad.block w.heap.size with h' | h'
    · exact h'
    · simp [World.cell?, Array.getElem?_eq_none h'] at hcl
  have hg : (D.l (zs.map D.i)).els.getD i (.i 0) = .i (zs.getD i 0) := by
    show (zs.map D.i).getD i (.i 0) = _
    have hi' : i < zs.length := by omega
    simp [List.getD, hi']
  have hmem : zs.getD i 0 ∈ zs := by
    have hi' : i < zs.length := by omega
    simp [List.getD, hi']
  refine ⟨.inl (by simp [Gh.top, hblk]), ⟨.int .i64 (zs.getD i 0), ?_, ?_⟩, trivial⟩
  · simpa using hcl
  · rw [hg]
    exact ⟨rfl, hw _ hmem⟩
theorem walk3 (zs : List Int) (v : Value) (a1 : Int) (a2 a3 : Bool) (w : World) (h0 : FzL w (okD (Gh.top w) []) (.sl false 2 [.int .i64]) v (.l (zs.map D.i))) (ha1 : loK .i64 ≤ a1 ∧ a1 ≤ hiK .i64) :
    Calls Tryz.prog (sgOf sigs 3).fn ⟨[v, .int .i64 a1, .bool a2, .bool a3]⟩ w fun e w' => e = .returned (.bool true) ∧ Go.RowKit.Below w.heap.size w w' := by
  refine calls_of_fnA f3_ok rs3 (law_ok (zs.map D.i) a1 a2 a3) (len3.symm ▸ rfl) ⟨st3 (zs.map D.i) a1 a2 a3, entry3 _ a1 a2 a3, bx3 _ a1 a2 a3, ar3 _ a1 a2 a3, fun t u hv => ?_⟩
  match t with
  | 0 => rw [get3_0]; simp at hv; subst hv; exact ⟨fun d hd => (by cases hd), fun _ => h0⟩
  | 1 => rw [get3_1]; simp at hv; subst hv; exact ⟨rfl, ha1.1, ha1.2⟩
  | 2 => rw [get3_2]; simp at hv; subst hv; exact rfl
  | 3 => rw [get3_3]; simp at hv; subst hv; exact rfl
  | t + 4 => simp at hv
end Go.Eng.G
namespace Go.Proofs.YtpipdilhgmolhacGreat
open Go.ChangeShapes Go.WideShapes Go.ChangeAt Go.RowKit
theorem Tryz.own : ownKnob Tryz.prog.godebug = none := by kernel_rfl
theorem Tryz.laidOut : laidOutB Tryz.prog = true := by kernel_rfl
theorem cells2 : Tryz.prog.cellsOf 2 = 1 := by kernel_rfl
theorem kept_of_below {w w' : World} (h : Below w.heap.size w w') (may : MemPlace → Prop) : w.keptBut w' may := by
  refine ⟨h.os, h.output, fun i hi => ?_⟩
  rw [h.block i hi]
  cases w.heap[i]? with
  | none => rfl
  | some o => cases o <;> first | exact ⟨rfl, rfl, rfl, fun _ _ => rfl⟩ | exact .inr ⟨rfl, rfl⟩ | rfl
theorem wf_range {n : Int} (h : (Lit.int .i64 n).wf = true) : Go.Eng.loK .i64 ≤ n ∧ n ≤ Go.Eng.hiK .i64 := by
  simp only [Lit.wf, Bool.and_eq_true, decide_eq_true_eq] at h
  exact h
theorem walk (zs : List Int) (v : Value) (a1 : Int) (a2 a3 : Bool) (w : World) (h0 : Go.Eng.FzL w (Go.Eng.okD (Go.Eng.Gh.top w) []) (.sl false 2 [.int .i64]) v (.l (zs.map Go.Eng.D.i))) (ha1 : (Lit.int .i64 a1).wf = true) :
    Calls Tryz.prog 3 #[v, .int .i64 a1, .bool a2, .bool a3] w fun e w' => e = .returned (.bool true) ∧ Below w.heap.size w w' := by
  have h := Go.Eng.G.walk3 zs v a1 a2 a3 w h0 (wf_range ha1)
  rw [Go.Eng.G.fn3] at h
  exact h
set_option maxRecDepth 100000 in
theorem lifted (os : Os) (started : os.Started) (H : Type) (enc : TypeId × Value → H) :
    ReturnsInHanded {} Tryz.checked os 3 .any (Rows.globRowSpec.pre6 enc Tryz.prog Tryz.f3 Rows.globRowRow.domain false) (Rows.globRowSpec.post enc Tryz.prog Tryz.f3 false true false false) := by
  refine returnsInHanded_of_change (C := Tryz.checked) Tryz.own started (by kernel_rfl) Tryz.func3
    (ChangeSpec.witness6 (enc := enc) (C := Tryz.checked) false ⟨#[], #[.slice none 0 0, .int .i64 0, .bool true, .bool true], []⟩ 8 (by kernel_rfl) (by kernel_rfl) (by kernel_rfl) (by kernel_rfl)) ?_
  intro W base args ds gs before hval0 hW hcnd _
  have hval : ∀ (j : Nat) t v, Tryz.f3.params[j]? = some t → args[j]? = some v → Value.okWide Tryz.prog W .any base t v := hval0
  have hW' := hW
  obtain ⟨p, q, hA0, hV, rfl, hfz, hnd⟩ := hW
  have hA : DataW.TrodAll enc Tryz.prog W 0 (fun _ => true) true Tryz.f3.params.toList args.toList ds p := hA0
  rw [Tryz.params3] at hA hval
  obtain ⟨v0, v1, v2, v3, d0, d1, d2, d3, p0, p1, p2, p3, rfl, rfl, rfl, h0, h1, h2, h3⟩ := trodAll_four hA
  obtain ⟨rfl, rfl⟩ := trodVars_none hV
  obtain ⟨a1, rfl, rfl, rfl, wa1⟩ := open_int Tryz.underlying2 (hval 1 2 v1 rfl rfl) h1
  obtain ⟨a2, rfl, rfl, rfl⟩ := open_bool Tryz.underlying4 (hval 2 4 v2 rfl rfl) h2
  obtain ⟨a3, rfl, rfl, rfl⟩ := open_bool Tryz.underlying4 (hval 3 4 v3 rfl rfl) h3
  obtain ⟨aa, len, cap, rfl⟩ := okWide_slice Tryz.underlying22 (hval 0 22 v0 rfl rfl)
  have h0k := h0
  obtain ⟨fuel, hf⟩ := h0
  clear hA0 hval0
  simp only [List.append_nil] at hW'
  have hlt : ∀ y ∈ p0, y.block < W.heap.size := fun y hy => by simpa using hW'.lt y (by simp [hy])
  have key : ∃ zs : List Int, Go.Eng.FzL W (Go.Eng.okD (Go.Eng.Gh.top W) []) (.sl false 2 [.int .i64]) (.slice aa len cap) (.l (zs.map Go.Eng.D.i)) := by
    rcases open_ints Tryz.underlying22 Tryz.underlying2 cells2 hf with ⟨hcs, hx⟩ | ⟨a, len', cap', zs, hcs, _, hl, hmx, hz, hx, hcell, hwz⟩
    · simp [Value.cells] at hcs
      obtain ⟨rfl, rfl, rfl⟩ := hcs
      exact ⟨[], Go.Eng.G.fz_ints rfl (Nat.le_refl _) (by unfold maxLen; omega) (fun _ => rfl) (fun ad h => by cases h) (fun z hz => by cases hz)⟩
    · simp [Value.cells] at hcs
      obtain ⟨rfl, rfl, rfl⟩ := hcs
      simp only [if_true] at hz
      have hlz : len ≤ zs.length := by omega
      refine ⟨zs.take len, Go.Eng.G.fz_ints (by simp; omega) hl hmx (fun h => by cases h) (fun ad had hpos => ?_) (fun z hz' => wf_range (hwz z (List.mem_of_mem_take hz')))⟩
      injection had with had
      subst had
      obtain ⟨b, off, spot⟩ := a
      have hspot : spot = none := by simpa [Addr.add] using World.cell?_spot (hcell 0 (by omega))
      subst hspot
      refine ⟨rfl, fun i hi => ?_⟩
      have hc1 := hcell i (by omega)
      rw [add_plain] at hc1
      rw [hc1]
      have hg : (zs.take len).getD i 0 = zs.getD i 0 := by simp [List.getD, hi]
      rw [hg]
  obtain ⟨zs, hz⟩ := key
  refine (walk zs (.slice aa len cap) a1 a2 a3 W hz wa1).mono fun e W' ⟨he, hb⟩ => ?_
  subst he
  exact ⟨_, rfl, _, _, _, [], _, [], hW', trodAll_mk1 (shut_bool Tryz.underlying4 true),
    trodAll_mk4 (Below.trod Tryz.laidOut (by kernel_rfl) (of_decide_eq_true (by kernel_rfl)) h0k hb hlt) (shut_int Tryz.underlying2 wa1) (shut_bool Tryz.underlying4 a2) (shut_bool Tryz.underlying4 a3), rfl, kept_of_below hb _, fun h => by cases h⟩
theorem globRow_holds : Rows.GlobRowSaid :=
  OpenClaim.holds_of_wide 3 Tryz.f3 rfl rfl rfl rfl rfl rfl rfl ⟨rfl, rfl, rfl, rfl, rfl⟩ rfl rfl rfl rfl rfl (by kernel_rfl) Tryz.func3 (by kernel_rfl)
    (of_decide_eq_true (by kernel_rfl)) (by unfold Func.isWrapper; first | (rw [if_pos (by decide +kernel)]; kernel_rfl) | (rw [if_neg (by decide +kernel)]; exact ⟨rfl, rfl⟩))
    (fun os started H enc _ => lifted os started H enc)
end Go.Proofs.YtpipdilhgmolhacGreat
