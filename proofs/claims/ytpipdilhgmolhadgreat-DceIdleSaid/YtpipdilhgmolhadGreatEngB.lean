/- Composed values. -/
import Derived.Test.YtpipdilhgmolhadGreatEngA
import Derived.Laws.Tables
import Derived.Laws.CopyRow
import Derived.Laws.MakeOwn
set_option linter.unusedSimpArgs false
set_option linter.unusedVariables false
namespace Go.Eng
section
variable {P : Program} {w : World} {G : Gh} {st : St} {act : Act} {sl : Nat → Option Value}
theorem AOKs_set {l : List A} {vs : List Value} (h : AOKs w G st l vs) {i : Nat} {a : A} {v : Value} (ha : AOK w G st a v) : AOKs w G st (l.set i a) (vs.set i v) := by
  obtain ⟨h1, h2⟩ := AOKs_iff.1 h
  refine AOKs_iff.2 ⟨by simp [h1], fun j b u hb hu => ?_⟩
  rw [List.getElem?_set] at hb hu
  by_cases hij : i = j
  · subst hij
    simp only [if_true] at hb hu
    split at hb
    · split at hu
      · injection hb with hb; injection hu with hu; subst hb; subst hu; exact ha
      · simp at hu
    · simp at hb
  · simp only [hij, if_false] at hb hu
    exact h2 j b u hb hu
def setVs (l : List Value) : Nat → List Value → List Value
  | _, [] => l
  | j, v :: vs => setVs (l.set j v) (j + 1) vs
theorem setVs_length : ∀ (vs l : List Value) (j : Nat), (setVs l j vs).length = l.length
  | [], _, _ => rfl
  | v :: vs, l, j => by rw [setVs, setVs_length vs]; simp
theorem setFrom_length : ∀ (as l : List A) (j : Nat), (setFrom l j as).length = l.length
  | [], _, _ => rfl
  | v :: vs, l, j => by rw [setFrom, setFrom_length vs]; simp
theorem setFrom_sound : ∀ {as : List A} {us : List Value} {l : List A} {vs : List Value} (j : Nat), AOKs w G st as us → AOKs w G st l vs → AOKs w G st (setFrom l j as) (setVs vs j us)
  | [], us, l, vs, j, h, hl => by
    have : us = [] := h
    subst this
    exact hl
  | a :: as, us, l, vs, j, ⟨u, us', e, h1, h2⟩, hl => by
    subst e
    exact setFrom_sound (j + 1) h2 (AOKs_set hl h1)
theorem foldl_setVs : ∀ (us : List Value) (off k : Nat) (cs : Array Value), (us.zipIdx k).foldl (fun cs p => cs.setIfInBounds (off + p.2) p.1) cs = ⟨setVs cs.toList (off + k) us⟩
  | [], _, _, _ => rfl
  | u :: us, off, k, cs => by
    simp only [List.zipIdx_cons, List.foldl_cons]
    rw [foldl_setVs us off (k + 1)]
    simp [setVs, Nat.add_assoc]
theorem storable_leaf (hR : Rel w G st sl) {a : A} {v : Value} (hs : (storable a && valid st a) = true) (h : AOK w G st a v) : v.cells = #[v] ∧ v.oneCell' = true := by
  simp only [Bool.and_eq_true] at hs
  obtain ⟨hs, hv⟩ := hs
  cases a with
  | int k n => rw [h.1]; exact ⟨rfl, rfl⟩
  | bool b => rw [show v = _ from h]; exact ⟨rfl, rfl⟩
  | str s => rw [h.1]; exact ⟨rfl, rfl⟩
  | nils => rw [show v = _ from h]; exact ⟨rfl, rfl⟩
  | nilp => rw [show v = _ from h]; exact ⟨rfl, rfl⟩
  | fz dep e el xs => obtain ⟨a, n, c, h1, _⟩ := h.2 hv; rw [h1]; exact ⟨rfl, rfl⟩
  | vw r u p =>
    simp only [valid] at hv
    cases ha : arrOf st r u p with
    | none => simp [ha] at hv
    | some a =>
      obtain ⟨ad, n, c, h1⟩ := hR.hdr r p
      rw [(h.2 a (arrOf_some ha)).1, h1]; exact ⟨rfl, rfl⟩
  | px r u n =>
    simp only [valid] at hv
    cases ha : arrOf st r u [] with
    | none => simp [ha] at hv
    | some a => obtain ⟨ad, m, c, _, _, h3⟩ := h.2 a (arrOf_some ha); rw [h3]; exact ⟨rfl, rfl⟩
  | sx r u k n lo =>
    simp only [valid] at hv
    cases ha : arrOf st r u [] with
    | none => simp [ha] at hv
    | some a => obtain ⟨_, ad, m, c, _, _, h3⟩ := h.2 a (arrOf_some ha); rw [h3]; exact ⟨rfl, rfl⟩
  | sb b u k n =>
    simp only [valid] at hv
    cases hb : boxOf st b u with
    | none => simp [hb] at hv
    | some l =>
      obtain ⟨y, g1, g2, g3⟩ := boxOf_some hb
      rw [(h.2 y g1 g2).1]; exact ⟨rfl, rfl⟩
  | pb b u off =>
    obtain ⟨b', o', e1, _⟩ := addOff_sound (n := 0) hv h rfl
    rw [e1]; exact ⟨rfl, rfl⟩
  | pa r u p k i off =>
    obtain ⟨b', o', e1, _⟩ := addOff_sound (n := 0) hv h rfl
    rw [e1]; exact ⟨rfl, rfl⟩
  | pz dep el x off =>
    obtain ⟨b', o', e1, _⟩ := addOff_sound (n := 0) hv h rfl
    rw [e1]; exact ⟨rfl, rfl⟩
  | agg _ => simp [storable] at hs
  | mp _ _ => simp [storable] at hs
  | ez => simp [storable] at hs
  | tup _ => simp [storable] at hs
  | undef => simp [storable] at hs
  | fn f caps => obtain ⟨vs, h1, _⟩ := h; rw [h1]; exact ⟨rfl, rfl⟩
theorem storables_mem {l : List A} (h : storables st l = true) : ∀ a, a ∈ l → (storable a && valid st a) = true := by
  unfold storables at h
  simp only [Bool.not_eq_true'] at h
  intro a ha
  induction l with
  | nil => simp at ha
  | cons b l ih =>
    simp only [anyL, Bool.or_eq_false_iff, Bool.not_eq_false'] at h
    rcases List.mem_cons.1 ha with rfl | ha
    · exact h.1
    · exact ih h.2 ha
/-- a value's cells -/
theorem leaves_sound (hR : Rel w G st sl) {a : A} {v : Value} (hs : storables st (leavesOf a) = true) (h : AOK w G st a v) : ∃ vs, v.cells = ⟨vs⟩ ∧ AOKs w G st (leavesOf a) vs := by
  by_cases hag : ∃ xs, a = .agg xs
  · obtain ⟨xs, rfl⟩ := hag
    obtain ⟨vs, h1, h2⟩ := h
    exact ⟨vs, by rw [h1]; rfl, h2⟩
  · have hl : leavesOf a = [a] := by
      cases a <;> first | rfl | (exact absurd ⟨_, rfl⟩ hag)
    rw [hl] at hs ⊢
    have := storable_leaf hR (storables_mem hs a (by simp)) h
    exact ⟨[v], this.1, v, [], rfl, h, rfl⟩
theorem fillA_sound (hR : Rel w G st sl) {place : Nat → M (Nat × Nat)} {mp : Nat → Option (Nat × Nat)} (hp : ∀ i q, place i = some q → mp i = some q) :
    ∀ (parts : List (Nat × Operand)) (l : List A) (cells : Array Value) (r : List A), (∀ p ∈ parts, AOK w G st (evO st.sl p.2) (act.eval p.2)) → AOKs w G st l cells.toList → fillA place st parts l = some r →
      ∃ cells', Instr.fill mp cells (parts.map fun (i, x) => (i, act.eval x)) = some cells' ∧ AOKs w G st r cells'.toList ∧ r.length = l.length
  | [], l, cells, r, _, hl, h => by
    simp [fillA, ok] at h
    subst h
    exact ⟨cells, rfl, hl, rfl⟩
  | (i, x) :: ps, l, cells, r, hx, hl, h => by
    simp only [fillA] at h
    obtain ⟨q, h1, h2⟩ := bind_some h
    cases hc : (storables st (leavesOf (evO st.sl x)) && (Nat.beq (leavesOf (evO st.sl x)).length q.2 && Nat.ble (q.1 + q.2) l.length)) with
    | false => simp [hc, fail] at h2
    | true =>
      simp only [hc, cond_true] at h2
      simp only [Bool.and_eq_true] at hc
      obtain ⟨c1, c2, c3⟩ := hc
      have c2 := Nat.eq_of_beq_eq_true c2
      have c3 := Nat.le_of_ble_eq_true c3
      obtain ⟨us, g1, g2⟩ := leaves_sound hR c1 (hx (i, x) (by simp))
      have hul := (AOKs_iff.1 g2).1
      have hcl := (AOKs_iff.1 hl).1
      have hset := setFrom_sound q.1 g2 hl
      obtain ⟨cells', k1, k2, k3⟩ := fillA_sound hR hp ps _ ⟨setVs cells.toList q.1 us⟩ r (fun p hp => hx p (by simp [hp])) hset h2
      refine ⟨cells', ?_, k2, by rw [k3, setFrom_length]⟩
      have hsz : (⟨us⟩ : Array Value).size = q.2 := by simp; omega
      have hcs : cells.size = l.length := by simpa using hcl
      have hfold : (⟨us⟩ : Array Value).zipIdx.foldl (fun cs x => cs.setIfInBounds (q.1 + x.2) x.1) cells = ⟨setVs cells.toList q.1 us⟩ := by
        rw [← Array.foldl_toList, Array.toList_zipIdx]
        have := foldl_setVs us q.1 0 cells
        simpa using this
      simp only [List.map_cons, Instr.fill, hp i q h1, g1, hsz]
      rw [if_neg (by simp; omega)]
      rw [hfold]
      exact k1
theorem zerosA_length : ∀ ts : List LT, (zerosA ts).length = ts.length
  | [] => rfl
  | _ :: ts => congrArg (· + 1) (zerosA_length ts)
theorem zeros_sound : ∀ ts : List LT, AOKs w G st (zerosA ts) (ts.map zeroV)
  | [] => rfl
  | t :: ts => by
    refine ⟨_, _, rfl, ?_, zeros_sound ts⟩
    cases t with
    | int k => exact ⟨rfl, lo_le_zero k, zero_le_hi k⟩
    | bool => rfl
    | str => exact ⟨rfl, Nat.zero_le _⟩
    | sl o e el => rfl
theorem places_of (fs : List Field) (h : ∀ (j : Nat) (fd : Field), fs[j]? = some fd → ∃ i, P.info? fd.type = some i) :
    ∃ places, fs.mapM (fun f => (P.info? f.type).map fun i => (f.offset, i.size)) = some places ∧ ∀ (j : Nat) (fd : Field) i, fs[j]? = some fd → P.info? fd.type = some i → places[j]? = some (fd.offset, i.size) := by
  induction fs with
  | nil => exact ⟨[], rfl, by simp⟩
  | cons f fs ih =>
    obtain ⟨i, hi⟩ := h 0 f rfl
    obtain ⟨pl, h1, h2⟩ := ih (fun j fd hj => h (j + 1) fd (by simpa using hj))
    refine ⟨(f.offset, i.size) :: pl, by simp [List.mapM_cons, hi, h1], fun j fd i' hj hi' => ?_⟩
    cases j with
    | zero => simp at hj; subst hj; rw [hi] at hi'; injection hi' with hi'; subst hi'; rfl
    | succ j => exact h2 j fd i' (by simpa using hj) hi'
theorem gives_build {E : Env} (hE : EnvOk P E) (hR : Rel w G st sl) {t : TypeId} {ti : TI} (hT : TIok P t ti) {parts : Array (Nat × Operand)} (hx : ∀ p ∈ parts.toList, AOK w G st (evO st.sl p.2) (act.eval p.2)) {r : A}
    (h : opBuild E st parts ti = some r) : Gives P w G st act (.build t parts) r := by
  intro ot ho
  suffices hs : ∃ cells, P.built t ((parts.map fun (i, x) => (i, act.eval x)).toList) = some cells ∧ AOK w G st r (.agg cells) by
    obtain ⟨cells, h1, h2⟩ := hs
    exact ⟨.agg cells, fun w' => by simp [execOp, ho, run_build w' t _ cells h1], h2⟩
  obtain ⟨d, i, z, g1, g2, g3, g4, g5, g6, g7, g8⟩ := hT.ex
  have hz : AOKs w G st (zerosA ti.lv) z.cells.toList := by rw [g6]; exact zeros_sound _
  have hmap : (parts.map fun (i, x) => (i, act.eval x)).toList = parts.toList.map fun (i, x) => (i, act.eval x) := by simp
  unfold opBuild at h
  cases har : ti.arr with
  | true =>
    simp only [har, cond_true] at h
    unfold buildArr at h
    split at h
    · rename_i off et fs hfs
      obtain ⟨te, h1, h2⟩ := bind_some h
      obtain ⟨l, h3, h4⟩ := bind_some h2
      simp [ok] at h4
      subst h4
      have hTe := hE.types _ _ h1
      obtain ⟨n, e, hd⟩ := hT.arr har
      rw [hd] at g1
      injection g1 with g1
      subst g1
      obtain ⟨m1, m2⟩ := g8
      have := m2 0 off et (by simp [hfs])
      subst this
      obtain ⟨d', i', z', k1, k2, k3, k4, k5, k6, k7, k8⟩ := hTe.ex
      obtain ⟨cells, e1, e2, e3⟩ := fillA_sound hR (act := act) (place := elemPl te.lv.length) (mp := fun i => some (i * i'.size, i'.size)) (fun j q hq => by simp [elemPl, ok] at hq; rw [k3, hq]) parts.toList _ z.cells l hx hz h3
      refine ⟨cells, ?_, cells.toList, by simp, e2⟩
      rw [hmap]
      simp only [Program.built, g2, hd, g5, k2, e1]
    · simp [fail] at h
  | false =>
    simp only [har, cond_false] at h
    cases hag : ti.agg with
    | false => simp [hag, fail] at h
    | true =>
      simp only [hag, cond_true] at h
      obtain ⟨l, h3, h4⟩ := bind_some h
      simp [ok] at h4
      subst h4
      obtain ⟨fs, hfs⟩ := hT.struct hag har
      rw [hfs] at g1
      injection g1 with g1
      subst g1
      obtain ⟨pl, p1, p2⟩ := places_of (P := P) fs.toList (fun j fd hj => hT.parts fs hfs j fd (by simpa using hj))
      obtain ⟨cells, e1, e2, e3⟩ := fillA_sound hR (act := act) (place := fieldPl E ti) (mp := (pl.toArray[·]?)) (fun j q hq => by
        unfold fieldPl at hq
        obtain ⟨a, q1, q2⟩ := bind_some hq
        obtain ⟨fi, q3, q4⟩ := bind_some q2
        simp [ok] at q4
        subst q4
        obtain ⟨fd, f1, f2, f3, _⟩ := g8 j a.1 a.2 q1
        have hF := hE.types _ _ q3
        obtain ⟨d', i', z', k1, k2, k3, k4, k5, k6, k7, k8⟩ := hF.ex
        rw [← f3] at k2
        have := p2 j fd i' (by simpa using f1) k2
        simp [this, f2, k3]) parts.toList _ z.cells l hx hz h3
      refine ⟨cells, ?_, cells.toList, by simp, e2⟩
      rw [hmap]
      simp only [Program.built, g2, hfs, g5, p1, e1]
end
end Go.Eng

namespace Go.Eng
/-! ### Slots, rows, boxes by name -/
theorem Tr.get_nil (n : Nat) : Tr.get .nil n = .undef := by unfold Tr.get; rfl
theorem beqf {n m : Nat} (h : n ≠ m) : Nat.beq n m = false := by
  cases hb : Nat.beq n m with
  | false => rfl
  | true => exact absurd (Nat.eq_of_beq_eq_true hb) h
theorem beqt (n : Nat) : Nat.beq n n = true := Nat.beq_refl n
theorem Tr.get_setF : ∀ (f : Nat) (t : Tr) (n : Nat) (v : A) (m : Nat), n < f → (Tr.setF f t n v).get m = if m = n then v else t.get m
  | 0, _, _, _, _, h => absurd h (Nat.not_lt_zero _)
  | f + 1, t, n, v, m, h => by
    have key : ∀ (a : A) (l r : Tr), (bif Nat.beq n 0 then Tr.node v l r else bif Nat.beq (n % 2) 1 then .node a (Tr.setF f l (n / 2) v) r else .node a l (Tr.setF f r (n / 2 - 1) v)).get m = if m = n then v else (Tr.node a l r).get m := by
      intro a l r
      by_cases hn : n = 0
      · subst hn
        simp only [beqt, cond_true]
        by_cases hm : m = 0
        · subst hm; simp [Tr.get]
        · simp [Tr.get, beqf hm, hm]
      · simp only [beqf hn, cond_false]
        by_cases h2 : n % 2 = 1
        · simp only [h2, beqt, cond_true]
          by_cases hm : m = 0
          · subst hm; simp [Tr.get]; omega
          · simp only [Tr.get, beqf hm, cond_false]
            by_cases hm2 : m % 2 = 1
            · simp only [hm2, beqt, cond_true]
              rw [Tr.get_setF f l (n / 2) v (m / 2) (by omega)]
              by_cases hmn : m = n
              · subst hmn; simp
              · rw [if_neg hmn, if_neg (by omega)]
            · simp only [beqf hm2, cond_false]
              rw [if_neg (by intro e; subst e; exact hm2 h2)]
        · simp only [beqf h2, cond_false]
          by_cases hm : m = 0
          · subst hm; simp [Tr.get]; omega
          · simp only [Tr.get, beqf hm, cond_false]
            by_cases hm2 : m % 2 = 1
            · simp only [hm2, beqt, cond_true]
              rw [if_neg (by intro e; subst e; exact h2 hm2)]
            · simp only [beqf hm2, cond_false]
              rw [Tr.get_setF f r (n / 2 - 1) v (m / 2 - 1) (by omega)]
              by_cases hmn : m = n
              · subst hmn; simp
              · rw [if_neg hmn, if_neg (by omega)]
    cases t with
    | node a l r => exact key a l r
    | nil =>
      have := key .undef .nil .nil
      have e : (Tr.node .undef .nil .nil).get m = Tr.get .nil m := by
        by_cases hm : m = 0
        · subst hm; simp [Tr.get]
        · simp only [Tr.get, beqf hm, cond_false]
          cases Nat.beq (m % 2) 1 <;> simp [Tr.get]
      rw [e] at this
      exact this
theorem Tr.get_set (t : Tr) (n : Nat) (v : A) (m : Nat) : (t.set n v).get m = if m = n then v else t.get m := Tr.get_setF (n + 1) t n v m (Nat.lt_succ_self n)
section
variable {α : Type}
theorem look_dropA (l : List (Nat × α)) (n m : Nat) : look (dropA l n) m = if m = n then none else look l m := by
  induction l with
  | nil => simp [dropA, look]
  | cons p l ih =>
    obtain ⟨k, a⟩ := p
    by_cases hk : k = n
    · subst hk
      simp only [dropA, beqt, cond_true, ih]
      by_cases hm : m = k
      · subst hm; simp
      · rw [if_neg hm, if_neg hm]; simp [look, beqf (Ne.symm hm)]
    · simp only [dropA, beqf hk, cond_false, look]
      by_cases hm : k = m
      · subst hm; simp [hk]
      · simp only [beqf hm, cond_false, ih]
theorem look_putA (l : List (Nat × α)) (n : Nat) (b : α) (m : Nat) : look (putA l n b) m = if m = n then some b else look l m := by
  by_cases hm : m = n
  · subst hm; simp [putA, look]
  · simp only [putA, look, beqf (Ne.symm hm), cond_false, look_dropA, if_neg hm]
end
/-! ### A row moved: another world, other tags -/
theorem Row_mono {w w' : World} {G G' : Gh} {S S' : List Path} {r r' : Nat} {e : TypeId} {el : List LT} {p p' : Path} {v : Value} {data : List D}
    (hfz : ∀ b, G.own b = .fz → G'.own b = .fz ∧ w'.heap[b]? = w.heap[b]?)
    (hp : ∀ q, q = [] ∨ p ++ q ∉ S → (∃ s, s ≠ [] ∧ s <+: q ∧ p' ++ s ∈ S') ∨ (G'.H r' (p' ++ q) = G.H r (p ++ q) ∧ ∀ b, G.own b = .arr r (p ++ q) → G'.own b = .arr r' (p' ++ q) ∧ w'.heap[b]? = w.heap[b]?))
    (hs : ∀ q, q ≠ [] → p ++ q ∈ S → p' ++ q ∈ S') (h : Row w G S r e el p v data) : Row w' G' S' r' e el p' v data := by
  obtain ⟨a, n, c, h1, h2, h3, h4, h5, h6⟩ := h
  rcases hp [] (.inl rfl) with ⟨s, h, h', _⟩ | ⟨hH, hb⟩
  · exact absurd (List.prefix_nil.1 h') h
  refine ⟨a, n, c, h1, h2, h3, h4, h5, fun ad ha => ?_⟩
  obtain ⟨g1, g2, cs, e0, g3, g4, g5⟩ := h6 ad ha
  obtain ⟨k1, k2⟩ := hb ad.block (by simpa using g2)
  refine ⟨g1, by simpa using k1, cs, e0, k2.trans g3, g4, fun i hi => ?_⟩
  refine ArC_mono hfz el p p' i i _ _ _ _ _ (fun j' => cell_of_heap k2 _) (fun j q hq => ?_) (fun j q hq => hs _ (by simp) hq) (g5 i hi)
  rcases hp ((i, j) :: q) (.inr hq) with ⟨s, h, h', h''⟩ | h
  · cases s with
    | nil => exact absurd rfl h
    | cons c s =>
      obtain ⟨rfl, h3⟩ := List.cons_prefix_cons.1 h'
      exact .inl ⟨s, h3, h''⟩
  · exact .inr h
/-- nothing of the row has changed -/
theorem Row_same {w w' : World} {G G' : Gh} {S : List Path} {r : Nat} {e : TypeId} {el : List LT} {p : Path} {v : Value} {data : List D}
    (hfz : ∀ b, G.own b = .fz → G'.own b = .fz ∧ w'.heap[b]? = w.heap[b]?)
    (hH : ∀ p, G'.H r p = G.H r p) (hb : ∀ b p, G.own b = .arr r p → G'.own b = .arr r p ∧ w'.heap[b]? = w.heap[b]?) (h : Row w G S r e el p v data) : Row w' G' S r e el p v data :=
  Row_mono hfz (fun q _ => .inr ⟨hH _, fun b hq => hb b _ hq⟩) (fun _ _ h => h) h
/-! ### One step -/
/-- the frame of a step -/
structure Fr (w : World) (G : Gh) (w' : World) (G' : Gh) : Prop where
  os : w'.os = w.os
  tape : w'.tape = w.tape
  output : w'.output = w.output
  size : w.heap.size ≤ w'.heap.size
  block : ∀ b, b < w.heap.size → (G.own b = .out ∨ G.own b = .fz) → w'.heap[b]? = w.heap[b]? ∧ G'.own b = G.own b
  B : ∀ b, 500 ≤ b → b < 600 → G'.B b = G.B b
theorem Fr.refl (w : World) (G : Gh) : Fr w G w G := ⟨rfl, rfl, rfl, Nat.le_refl _, fun _ _ _ => ⟨rfl, rfl⟩, fun _ _ _ => rfl⟩
theorem Fr.trans {w1 w2 w3 : World} {G1 G2 G3 : Gh} (h : Fr w1 G1 w2 G2) (k : Fr w2 G2 w3 G3) : Fr w1 G1 w3 G3 :=
  ⟨k.os.trans h.os, k.tape.trans h.tape, k.output.trans h.output, Nat.le_trans h.size k.size, fun b hb ho => by
    obtain ⟨h1, h2⟩ := h.block b hb ho
    obtain ⟨k1, k2⟩ := k.block b (Nat.lt_of_lt_of_le hb h.size) (by rw [h2]; exact ho)
    exact ⟨k1.trans h1, k2.trans h2⟩, fun b h1 h2 => (k.B b h1 h2).trans (h.B b h1 h2)⟩
section
variable {w w' : World} {G G' : Gh} {st st' : St} {sl sl' : Nat → Option Value}
def BoxNew (w : World) (G : Gh) (st : St) (b : Nat) (x : Bx) : Prop :=
  x.uid < st.ctr ∧ G.own (G.B b).1 = .box ∧ CellsB w G st (G.B b) x
def ArrNew (w : World) (G : Gh) (st : St) (r : Nat) (a : Arr) : Prop :=
  a.uid < st.ctr ∧ a.dv < st.ctr ∧ (a.hv.length = 4 ∧ ∀ u, u ∈ a.hv → u < st.ctr) ∧ Row w G a.stale r a.e a.el [] (G.H r []) a.data
theorem Rel.step (hR : Rel w G st sl) (hL : Le w G st w' G' st')
    (hslots : ∀ t v, sl' t = some v → AOK w' G' st' (st'.sl.get t) v)
    (hboxes : ∀ b x, look st'.bx b = some x → (look st.bx b = some x ∧ G'.B b = G.B b ∧ w'.heap[(G.B b).1]? = w.heap[(G.B b).1]? ∧ G'.own (G.B b).1 = .box) ∨ BoxNew w' G' st' b x)
    (hap : ∀ b b' x x', look st'.bx b = some x → look st'.bx b' = some x' → b ≠ b' → (G'.B b).1 ≠ (G'.B b').1)
    (harrs : ∀ r a, look st'.ar r = some a → (look st.ar r = some a ∧ (∀ p, G'.H r p = G.H r p) ∧ ∀ b p, G.own b = .arr r p → G'.own b = .arr r p ∧ w'.heap[b]? = w.heap[b]?) ∨ ArrNew w' G' st' r a)
    (hlive : ∀ b, G'.own b ≠ .out → b < w'.heap.size) (hhdr : ∀ r p, ∃ a n c, G'.H r p = .slice a n c) : Rel w' G' st' sl' := by
  refine ⟨hslots, fun b x hx => ?_, hap, fun r a ha => ?_, hlive, hhdr⟩
  · rcases hboxes b x hx with ⟨h1, h2, h3, h4⟩ | h
    · obtain ⟨g1, g2, g3⟩ := hR.boxes b x h1
      rw [h2]
      exact ⟨Nat.lt_of_lt_of_le g1 hL.ctr, h4, g3.step h3 rfl rfl fun j hj v k2 => AOK_mono hL _ _ k2⟩
    · exact h
  · rcases harrs r a ha with ⟨h1, h2, h3⟩ | h
    · obtain ⟨g1, g2, g3, g4⟩ := hR.arrs r a h1
      refine ⟨Nat.lt_of_lt_of_le g1 hL.ctr, Nat.lt_of_lt_of_le g2 hL.ctr, ⟨g3.1, fun u hu => Nat.lt_of_lt_of_le (g3.2 u hu) hL.ctr⟩, ?_⟩
      rw [h2]
      exact Row_same hL.fz h2 h3 g4
    · exact h
theorem Le.refl (w : World) (G : Gh) (st : St) : Le w G st w G st :=
  ⟨Nat.le_refl _, fun r u p a' _ h => ⟨a', h, rfl, rfl, rfl, fun h => h⟩, fun b x' _ h => ⟨x', h, rfl, rfl⟩, fun r a' _ h => ⟨a', h, rfl, fun b p hb => ⟨⟨p, hb⟩, rfl⟩⟩, fun b hb => ⟨hb, rfl⟩⟩
/-- a slot written -/
theorem Le.put (w : World) (G : Gh) (st : St) (d : Nat) (a : A) : Le w G st w G (st.put d a) :=
  ⟨Nat.le_refl _, fun r u p a' _ h => ⟨a', h, rfl, rfl, rfl, fun h => h⟩, fun b x' _ h => ⟨x', h, rfl, rfl⟩, fun r a' _ h => ⟨a', h, rfl, fun b p hb => ⟨⟨p, hb⟩, rfl⟩⟩, fun b hb => ⟨hb, rfl⟩⟩
def updV (sl : Nat → Option Value) (d : Nat) (v : Value) : Nat → Option Value := fun t => if t = d then some v else sl t
theorem Rel.put (hR : Rel w G st sl) {d : Nat} {a : A} {v : Value} (ha : AOK w G st a v) : Rel w G (st.put d a) (updV sl d v) := by
  refine hR.step (Le.put w G st d a) (fun t v' hv' => ?_) (fun b x hx => .inl ⟨hx, rfl, rfl, (hR.boxes b x hx).2.1⟩) (fun b b' x x' h h' hne => hR.apartB b b' x x' h h' hne) (fun r a ha => .inl ⟨ha, fun _ => rfl, fun b p h => ⟨h, rfl⟩⟩) hR.live hR.hdr
  refine AOK_mono (Le.put w G st d a) _ _ ?_
  simp only [St.put, Tr.get_set]
  simp only [updV] at hv'
  split at hv'
  · rename_i e
    injection hv' with hv'
    subst hv'
    rw [if_pos e]
    exact ha
  · rename_i e
    rw [if_neg e]
    exact hR.slots t v' hv'
end
end Go.Eng

namespace Go.Eng
def Gh.tag (G : Gh) (n : Nat) (T : Tag) : Gh := { G with own := fun b => if b = n then T else G.own b }
def Gh.box (G : Gh) (d : Nat) (x : Nat × Nat) : Gh := { G with B := fun b => if b = d then x else G.B b }
def Gh.hdr (G : Gh) (r : Nat) (f : Path → Value) : Gh := { G with H := fun q => if q = r then f else G.H q }
section
variable {P : Program} {w w' w'' : World} {G G' G'' : Gh} {st st' st'' : St} {sl : Nat → Option Value} {act : Act}
theorem Le.trans (h : Le w G st w' G' st') (k : Le w' G' st' w'' G'' st'') : Le w G st w'' G'' st'' := by
  refine ⟨Nat.le_trans h.ctr k.ctr, fun r u p a' hu ha => ?_, fun b x' hu hx => ?_, fun r a' hu ha => ?_, fun b hb => ?_⟩
  · obtain ⟨a1, g1, g2, g3, g4, g5⟩ := k.vw r u p a' (Nat.lt_of_lt_of_le hu h.ctr) ha
    obtain ⟨a2, m1, m2, m3, m4, m5⟩ := h.vw r u p a1 hu g1
    exact ⟨a2, m1, g2.trans m2, g3.trans m3, g4.trans m4, fun hh => g5 (m5 hh)⟩
  · obtain ⟨x1, g1, g2, g3⟩ := k.bx b x' (Nat.lt_of_lt_of_le hu h.ctr) hx
    obtain ⟨x2, m1, m2, m3⟩ := h.bx b x1 (by rw [g2]; exact hu) g1
    exact ⟨x2, m1, m2.trans g2, g3.trans m3⟩
  · obtain ⟨a1, g1, g2, g3⟩ := k.dep r a' (Nat.lt_of_lt_of_le hu h.ctr) ha
    obtain ⟨a2, m1, m2, m3⟩ := h.dep r a1 (by rw [g2]; exact hu) g1
    refine ⟨a2, m1, m2.trans g2, fun b p hb => ?_⟩
    obtain ⟨⟨p1, n1⟩, n2⟩ := m3 b p hb
    obtain ⟨⟨p2, o1⟩, o2⟩ := g3 b p1 n1
    exact ⟨⟨p2, o1⟩, o2.trans n2⟩
  · obtain ⟨g1, g2⟩ := h.fz b hb
    obtain ⟨m1, m2⟩ := k.fz b g1
    exact ⟨m1, m2.trans g2⟩
/-- worlds that agree on what is ours, tags the same there -/
theorem Le.world (hb : ∀ b, G.own b ≠ .out → G'.own b = G.own b ∧ w'.heap[b]? = w.heap[b]?) (hH : ∀ r p, G'.H r p = G.H r p) (hB : ∀ b, G'.B b = G.B b) : Le w G st w' G' st :=
  ⟨Nat.le_refl _, fun r u p a' _ h => ⟨a', h, rfl, rfl, hH r p, fun h => h⟩, fun b x' _ h => ⟨x', h, rfl, hB b⟩, fun r a' _ h => ⟨a', h, rfl, fun b p hp => by
    obtain ⟨h1, h2⟩ := hb b (by rw [hp]; simp)
    exact ⟨⟨p, h1.trans hp⟩, h2⟩⟩, fun b hz => by
    obtain ⟨h1, h2⟩ := hb b (by rw [hz]; simp)
    exact ⟨h1.trans hz, h2⟩⟩
theorem Rel.world (hR : Rel w G st sl) (hb : ∀ b, G.own b ≠ .out → G'.own b = G.own b ∧ w'.heap[b]? = w.heap[b]?) (hH : ∀ r p, G'.H r p = G.H r p) (hB : ∀ b, G'.B b = G.B b)
    (hlive : ∀ b, G'.own b ≠ .out → b < w'.heap.size) : Rel w' G' st sl := by
  have hL : Le w G st w' G' st := Le.world hb hH hB
  refine hR.step hL (fun t v hv => AOK_mono hL _ _ (hR.slots t v hv)) (fun b x hx => ?_) (fun b b' x x' h h' hne => by rw [hB, hB]; exact hR.apartB b b' x x' h h' hne)
    (fun r a ha => .inl ⟨ha, hH r, fun b p hp => by obtain ⟨h1, h2⟩ := hb b (by rw [hp]; simp); exact ⟨h1.trans hp, h2⟩⟩) hlive (fun r p => by rw [hH]; exact hR.hdr r p)
  have h1 := (hR.boxes b x hx).2.1
  obtain ⟨h2, h3⟩ := hb (G.B b).1 (by rw [h1]; simp)
  exact .inl ⟨hx, hB b, h3, h2.trans h1⟩
/-! ### A new block -/
theorem Ext.alloc (w : World) (o : Obj) : Ext w (w.alloc o) := ⟨by simp, fun b hb => heap_alloc_old w o b hb⟩
theorem alloc_facts (hR : Rel w G st sl) (o : Obj) (T : Tag) : (∀ b, G.own b ≠ .out → (G.tag w.heap.size T).own b = G.own b ∧ (w.alloc o).heap[b]? = w.heap[b]?) ∧ ∀ b, (G.tag w.heap.size T).own b ≠ .out → b < (w.alloc o).heap.size := by
  refine ⟨fun b hb => ?_, fun b hb => ?_⟩
  · have := hR.live b hb
    exact ⟨by simp [Gh.tag, Nat.ne_of_lt this], heap_alloc_old w o b this⟩
  · simp only [Gh.tag] at hb
    rw [World.size_alloc]
    split at hb
    · omega
    · have := hR.live b hb; omega
theorem Rel.alloc (hR : Rel w G st sl) (o : Obj) (T : Tag) : Rel (w.alloc o) (G.tag w.heap.size T) st sl :=
  hR.world (alloc_facts hR o T).1 (fun _ _ => rfl) (fun _ => rfl) (alloc_facts hR o T).2
theorem Le.alloc (hR : Rel w G st sl) (o : Obj) (T : Tag) : Le w G st (w.alloc o) (G.tag w.heap.size T) st :=
  Le.world (alloc_facts hR o T).1 (fun _ _ => rfl) (fun _ => rfl)
theorem Fr.alloc (w : World) (G : Gh) (o : Obj) (T : Tag) : Fr w G (w.alloc o) (G.tag w.heap.size T) :=
  ⟨rfl, rfl, rfl, by simp, fun b hb _ => ⟨heap_alloc_old w o b hb, by simp [Gh.tag, Nat.ne_of_lt hb]⟩, fun _ _ _ => rfl⟩
theorem Rel.drew (hR : Rel w G st sl) : Rel w.drew G st sl := hR.world (fun b _ => ⟨rfl, rfl⟩) (fun _ _ => rfl) (fun _ => rfl) hR.live
theorem Le.drew : Le w G st w.drew G st := Le.world (fun b _ => ⟨rfl, rfl⟩) (fun _ _ => rfl) (fun _ => rfl)
theorem Fr.drew (w : World) (G : Gh) : Fr w G w.drew G := ⟨rfl, rfl, rfl, Nat.le_refl _, fun _ _ _ => ⟨rfl, rfl⟩, fun _ _ _ => rfl⟩
/-! ### A new variable -/
theorem Le.newBox (w : World) (G : Gh) (st : St) (d : Nat) (x : Nat × Nat) (l : List A) : Le w G st w (G.box d x) (st.newBox d l) := by
  refine ⟨Nat.le_succ _, fun r u p a' hu h => ⟨a', h, rfl, rfl, rfl, fun h => h⟩, fun b x' hu hx => ?_, fun r a' _ h => ⟨a', h, rfl, fun b p hb => ⟨⟨p, hb⟩, rfl⟩⟩, fun b hb => ⟨hb, rfl⟩⟩
  simp only [St.newBox, look_putA] at hx
  split at hx
  · injection hx with hx
    subst hx
    exact absurd hu (Nat.lt_irrefl _)
  · rename_i hbd
    exact ⟨x', hx, rfl, by simp [Gh.box, hbd]⟩
/-- the cells of the new block stand for l -/
theorem Rel.newBox (hR : Rel w G st sl) {d b o : Nat} {l : List A} {cs : Array Value} {e : TypeId} (hown : G.own b = .box) (hb : w.heap[b]? = some (.cells cs e (0, 0))) (hsz : o + l.length ≤ cs.size)
    (hl : ∀ j, j < l.length → ∃ v, cs[o + j]? = some v ∧ AOK w G st (l.getD j .undef) v)
    (hap : ∀ b' x', look st.bx b' = some x' → b' ≠ d → (G.B b').1 ≠ b) : Rel w (G.box d (b, o)) (st.newBox d l) sl := by
  have hL := Le.newBox w G st d (b, o) l
  refine hR.step hL (fun t v hv => AOK_mono hL _ _ (hR.slots t v hv)) (fun b' x hx => ?_) (fun b1 b2 x1 x2 h1 h2 hne => ?_) (fun r a ha => .inl ⟨ha, fun _ => rfl, fun b p h => ⟨h, rfl⟩⟩) hR.live hR.hdr
  · simp only [St.newBox, look_putA] at hx
    split at hx
    · rename_i hbd
      subst hbd
      injection hx with hx
      subst hx
      have hB : (G.box b' (b, o)).B b' = (b, o) := by simp [Gh.box]
      refine .inr ⟨Nat.lt_succ_self _, ?_⟩
      rw [hB]
      exact ⟨hown, CellsB.of_cells rfl ⟨cs, e, hb, hsz, fun j hj => by obtain ⟨v, g1, g2⟩ := hl j hj; exact ⟨v, g1, AOK_mono hL _ _ g2⟩⟩⟩
    · rename_i hbd
      exact .inl ⟨hx, by simp [Gh.box, hbd], rfl, (hR.boxes b' x hx).2.1⟩
  · simp only [St.newBox, look_putA] at h1 h2
    simp only [Gh.box]
    by_cases e1 : b1 = d
    · by_cases e2 : b2 = d
      · exact absurd (e1.trans e2.symm) hne
      · rw [if_neg e2] at h2
        rw [if_pos e1, if_neg e2]
        exact Ne.symm (hap b2 x2 h2 e2)
    · rw [if_neg e1] at h1
      by_cases e2 : b2 = d
      · rw [if_neg e1, if_pos e2]
        exact hap b1 x1 h1 e1
      · rw [if_neg e2] at h2
        rw [if_neg e1, if_neg e2]
        exact hR.apartB b1 b2 x1 x2 h1 h2 hne
theorem AOK_newBox (w : World) (G : Gh) (st : St) (d b : Nat) (l : List A) : AOK w (G.box d (b, 0)) (st.newBox d l) (.pb d st.ctr 0) (.pointer (some ⟨b, 0, none⟩)) := by
  refine ⟨Nat.lt_succ_self _, fun x hx hu => ?_⟩
  simp [Gh.box]
/-- a new block, a variable in it -/
theorem newVar_sound (hR : Rel w G st sl) {d : Nat} (hd5 : d < 500 ∨ 600 ≤ d) {l : List A} {vs : List Value} (e : TypeId) (hl : AOKs w G st l vs) : ∃ w' G', w' = w.alloc (.cells ⟨vs⟩ e) ∧ Fr w G w' G' ∧ Le w G st w' G' (st.newBox d l) ∧
    Rel w' G' (st.newBox d l) sl ∧ G'.B d = (w.heap.size, 0) := by
  let o : Obj := .cells ⟨vs⟩ e
  have hL := Le.alloc hR o .box
  have h1 := hR.alloc o .box
  have hll := (AOKs_iff.1 hl).1
  refine ⟨w.alloc o, (G.tag w.heap.size .box).box d (w.heap.size, 0), rfl, ?_, hL.trans (Le.newBox _ _ _ _ _ _), ?_, by simp [Gh.box]⟩
  · exact Fr.trans (Fr.alloc w G o .box) ⟨rfl, rfl, rfl, Nat.le_refl _, fun _ _ _ => ⟨rfl, rfl⟩, fun b h1 h2 => by simp [Gh.box, show b ≠ d by omega]⟩
  · refine h1.newBox (cs := ⟨vs⟩) (e := e) (by simp [Gh.tag]) (heap_alloc_new w o) (by simp; omega) (fun j hj => ?_) (fun b' x' hx hne => ?_)
    · have hj' : j < vs.length := by omega
      refine ⟨vs[j], by simp [hj'], AOK_mono hL _ _ ?_⟩
      exact (AOKs_iff.1 hl).2 j _ _ (by simp [List.getD, hj]) (by simp [hj'])
    · have := hR.live (G.B b').1 (by rw [(hR.boxes b' x' hx).2.1]; simp)
      simp only [Gh.tag]
      omega
/-! ### What an operation does -/
/-- u is what the slot holds thereafter -/
def After (w : World) (G : Gh) (st : St) (sl : Nat → Option Value) (d : Nat) (u : Value) (w' : World) (G' : Gh) : Res → Prop
  | .val a => Le w G st w' G' st ∧ Rel w' G' st sl ∧ AOK w' G' st a u
  | .st s => Le w G st w' G' s ∧ Rel w' G' s (updV sl d u)
def Leaves (nx : Next) (u : Value) : Prop := nx = .value u ∨ (nx = .skip ∧ u = undef)
def Does (P : Program) (w : World) (G : Gh) (st : St) (sl : Nat → Option Value) (act : Act) (d : Nat) (o : Op) (r : Res) : Prop :=
  ∀ ot : Oper, ot.op = o → ∃ nx u w' G', (execOp act.eval ot).run P w = .ok nx w' ∧ Leaves nx u ∧ Ext w w' ∧ Fr w G w' G' ∧ After w G st sl d u w' G' r
theorem does_alloc (hR : Rel w G st sl) {t : TypeId} {ti : TI} (hT : TIok P t ti) {d : Nat} (hd5 : d < 500 ∨ 600 ≤ d) {r : St} (h : opAlloc st d ti = some r) : Does P w G st sl act d (.alloc t) (.st r) := by
  intro ot ho
  simp [opAlloc, ok] at h
  subst h
  obtain ⟨dd, i, z, g1, g2, g3, g4, g5, g6, g7, g8⟩ := hT.ex
  obtain ⟨w', G', e, hF, hL, hR', hB⟩ := newVar_sound hR hd5 t (zeros_sound (w := w) (G := G) (st := st) ti.lv)
  refine ⟨.value (.pointer (some ⟨w.heap.size, 0, none⟩)), _, w', G', ?_, .inl rfl, by rw [e]; exact Ext.alloc _ _, hF, hL.trans (Le.put _ _ _ _ _), hR'.put ?_⟩
  · rw [e]
    have hz : z.cells = ⟨ti.lv.map zeroV⟩ := by rw [← g6]
    simp [execOp, ho, Instr.alloc, zeroValue, typeInfo, g2, g5, newVar, newRow, hz]
  · refine ⟨Nat.lt_succ_self _, fun x hx hu => ?_⟩
    rw [hB]
theorem does_allocP (hR : Rel w G st sl) {t e : TypeId} (hT : P.underlying t = some (.pointer e) ∧ ∃ i, P.info? t = some i ∧ i.size = 1 ∧ i.zero = some (.pointer none)) {d : Nat} (hd5 : d < 500 ∨ 600 ≤ d) {r : St} (h : ok ((st.newBox d [.nilp]).put d (.pb d st.ctr 0)) = some r) : Does P w G st sl act d (.alloc t) (.st r) := by
  intro ot ho
  simp [ok] at h
  subst h
  obtain ⟨_, i, g2, g3, g5⟩ := hT
  obtain ⟨w', G', e, hF, hL, hR', hB⟩ := newVar_sound hR hd5 t (show AOKs w G st [.nilp] [.pointer none] from ⟨_, _, rfl, rfl, rfl⟩)
  refine ⟨.value (.pointer (some ⟨w.heap.size, 0, none⟩)), _, w', G', ?_, .inl rfl, by rw [e]; exact Ext.alloc _ _, hF, hL.trans (Le.put _ _ _ _ _), hR'.put ?_⟩
  · rw [e]
    simp [execOp, ho, Instr.alloc, zeroValue, typeInfo, g2, g5, newVar, newRow, Value.cells]
  · refine ⟨Nat.lt_succ_self _, fun x hx hu => ?_⟩
    rw [hB]
theorem does_box (hR : Rel w G st sl) {t : TypeId} {x : Operand} (hx : AOK w G st (evO st.sl x) (act.eval x)) {d : Nat} (hd5 : d < 500 ∨ 600 ≤ d) {r : St} (h : opBox st d (evO st.sl x) = some r) : Does P w G st sl act d (.box t x) (.st r) := by
  intro ot ho
  unfold opBox at h
  cases hs : storables st (leavesOf (evO st.sl x)) with
  | false => simp [hs, fail] at h
  | true =>
    simp [hs, ok] at h
    subst h
    obtain ⟨vs, g1, g2⟩ := leaves_sound hR hs hx
    obtain ⟨w', G', e, hF, hL, hR', hB⟩ := newVar_sound hR hd5 t g2
    refine ⟨.value (.pointer (some ⟨w.heap.size, 0, none⟩)), _, w', G', ?_, .inl rfl, by rw [e]; exact Ext.alloc _ _, hF, hL.trans (Le.put _ _ _ _ _), hR'.put ?_⟩
    · rw [e]
      simp [execOp, ho, Instr.box, newVar, newRow, g1]
    · refine ⟨Nat.lt_succ_self _, fun x hx hu => ?_⟩
      rw [hB]
end
end Go.Eng

namespace Go.Eng
mutual
theorem LT.beq_eq : ∀ (t u : LT), t.beq u = true → t = u
  | .int k, .int k', h => by simp only [LT.beq] at h; rw [(kindEq_iff k k').1 h]
  | .bool, .bool, _ => rfl
  | .str, .str, _ => rfl
  | .sl o e el, .sl o' e' el', h => by
    simp only [LT.beq, Bool.and_eq_true] at h
    obtain ⟨h1, h2, h3⟩ := h
    rw [eqBo_eq] at h1
    rw [eq_of_beq h1, Nat.eq_of_beq_eq_true h2, beqL_eq el el' h3]
  | .int _, .bool, h => by simp [LT.beq] at h
  | .int _, .str, h => by simp [LT.beq] at h
  | .int _, .sl .., h => by simp [LT.beq] at h
  | .bool, .int _, h => by simp [LT.beq] at h
  | .bool, .str, h => by simp [LT.beq] at h
  | .bool, .sl .., h => by simp [LT.beq] at h
  | .str, .int _, h => by simp [LT.beq] at h
  | .str, .bool, h => by simp [LT.beq] at h
  | .str, .sl .., h => by simp [LT.beq] at h
  | .sl .., .int _, h => by simp [LT.beq] at h
  | .sl .., .bool, h => by simp [LT.beq] at h
  | .sl .., .str, h => by simp [LT.beq] at h
theorem beqL_eq : ∀ (l m : List LT), beqL l m = true → l = m
  | [], [], _ => rfl
  | t :: ts, u :: us, h => by
    simp only [beqL, Bool.and_eq_true] at h
    rw [LT.beq_eq t u h.1, beqL_eq ts us h.2]
  | [], _ :: _, h => by simp [beqL] at h
  | _ :: _, [], h => by simp [beqL] at h
end
theorem FzC_of {w : World} {okb : Nat → Prop} {b o k : Nat} {x : D} (hb : okb b) : ∀ (ts : List LT) (j0 : Nat), (∀ (j : Nat) (t : LT), ts[j]? = some t → ∃ v, w.cell? ⟨b, o + (j0 + j), none⟩ = some v ∧ FzL w okb t v (lf k x (j0 + j))) → FzC w okb ts b o k x j0
  | [], _, _ => trivial
  | t :: ts, j0, h => by
    refine ⟨hb, ?_, FzC_of hb ts (j0 + 1) (fun j t ht => ?_)⟩
    · have := h 0 t rfl
      simpa using this
    · have := h (j + 1) t (by simpa using ht)
      rwa [show j0 + (j + 1) = j0 + 1 + j by omega] at this
theorem lf_mkE {k : Nat} {l : List D} (hl : l.length = k) (j : Nat) (hj : j < k) : lf k (mkE l) j = l.getD j (.i 0) := by
  unfold lf
  by_cases hk : k = 1
  · subst hk
    simp only [beqt, cond_true]
    match l, hl with
    | [x], _ =>
      have : j = 0 := by omega
      subst this
      rfl
  · simp only [beqf hk, cond_false]
    match l, hl with
    | [], hl =>
      have hl' : 0 = k := hl
      omega
    | [x], hl => exact absurd hl.symm hk
    | x :: y :: l, _ => rfl
theorem chunks_length (k : Nat) : ∀ (n : Nat) (l : List D), (chunks k n l).length = n
  | 0, _ => rfl
  | n + 1, l => by simp [chunks, chunks_length k n]
theorem chunks_get (k : Nat) : ∀ (n : Nat) (l : List D) (i : Nat), i < n → (chunks k n l).getD i (.i 0) = mkE (takeN k (l.drop (i * k)))
  | 0, _, _, h => absurd h (Nat.not_lt_zero _)
  | n + 1, l, 0, _ => by simp [chunks, List.getD]
  | n + 1, l, i + 1, h => by
    have := chunks_get k n (dropN k l) i (by omega)
    simp only [chunks, List.getD_cons_succ]
    rw [this, dropN_eq, List.drop_drop]
    congr 3
    rw [Nat.add_mul, Nat.one_mul, Nat.add_comm]
theorem repT_get (l : List LT) : ∀ (n i j : Nat), i < n → j < l.length → (repT l n)[i * l.length + j]? = l[j]?
  | 0, _, _, h, _ => absurd h (Nat.not_lt_zero _)
  | n + 1, 0, j, _, hj => by simp [repT, List.getElem?_append_left hj]
  | n + 1, i + 1, j, h, hj => by
    have := repT_get l n i j (by omega) hj
    have e : (i + 1) * l.length + j = l.length + (i * l.length + j) := by rw [Nat.add_mul]; omega
    rw [e, repT, List.getElem?_append_right (by omega)]
    simpa using this
theorem repT_length (l : List LT) : ∀ n : Nat, (repT l n).length = n * l.length
  | 0 => by simp [repT]
  | n + 1 => by simp [repT, repT_length l n, Nat.add_mul]; omega
theorem setOwn_get {l : List LT} (h : setOwnL false l = l) : ∀ (j : Nat) (t : LT), l[j]? = some t → t.setOwn false = t := by
  induction l with
  | nil => intro j t ht; simp at ht
  | cons u us ih =>
    simp only [setOwnL, List.cons.injEq] at h
    intro j t ht
    cases j with
    | zero => simp at ht; subst ht; exact h.1
    | succ j => exact ih h.2 j t (by simpa using ht)
section
variable {P : Program} {w : World} {G : Gh} {st : St} {sl : Nat → Option Value}
theorem okD_left {ds es : List (Nat × Nat)} {b : Nat} (h : okD G ds b) : okD G (ds ++ es) b := by
  rcases h with h | ⟨d, hd, h⟩
  · exact .inl h
  · exact .inr ⟨d, by simp [hd], h⟩
theorem okD_right {ds es : List (Nat × Nat)} {b : Nat} (h : okD G es b) : okD G (ds ++ es) b := by
  rcases h with h | ⟨d, hd, h⟩
  · exact .inl h
  · exact .inr ⟨d, by simp [hd], h⟩
theorem fz_nil {okb : Nat → Prop} {o : Bool} {e : TypeId} {el : List LT} : FzL w okb (.sl o e el) (.slice none 0 0) (.l []) :=
  ⟨none, 0, 0, rfl, rfl, Nat.le_refl _, Nat.zero_le _, fun _ => rfl, fun ad h => by simp at h⟩
theorem bif_some' {α : Type} {c : Bool} {x : M α} {s : String} {y : α} (h : (bif c then fail s else x) = some y) : c = false ∧ x = some y := by
  cases c with
  | true => simp [fail] at h
  | false => exact ⟨rfl, h⟩
theorem bif_some {α : Type} {c : Bool} {x : M α} {s : String} {y : α} (h : (bif c then x else fail s) = some y) : c = true ∧ x = some y := by
  cases c with
  | false => simp [fail] at h
  | true => exact ⟨rfl, h⟩
theorem outLeaf_fz (hR : Rel w G st sl) {t : LT} {a : A} {v : Value} {r : Out D} (h : outLeaf st t a = some r) (ht : t.setOwn false = t) (ha : AOK w G st a v) :
    r.os = [] ∧ (∀ d, d ∈ r.ds → d.2 < st.ctr) ∧ FzL w (okD G r.ds) t v r.x := by
  unfold outLeaf at h
  split at h
  · rename_i k k' n
    obtain ⟨h1, h2⟩ := bif_some h
    simp [ok] at h2
    subst h2
    have := (kindEq_iff k k').1 h1
    subst this
    exact ⟨rfl, by simp, ha⟩
  · simp [ok] at h; subst h; exact ⟨rfl, by simp, ha⟩
  · simp [ok] at h; subst h; exact ⟨rfl, by simp, ha⟩
  · simp [ok] at h; subst h
    rw [show v = _ from ha]
    exact ⟨rfl, by simp, fz_nil⟩
  · simp [LT.setOwn] at ht
  · rename_i e el dep e' el' xs
    obtain ⟨h1, h2⟩ := bif_some h
    simp [ok] at h2
    subst h2
    simp only [Bool.and_eq_true] at h1
    obtain ⟨h1, h3, h4⟩ := h1
    have := beqL_eq _ _ h4
    subst this
    exact ⟨rfl, ha.1, ha.2 h1⟩
  · rename_i e el r' u p
    obtain ⟨q, h1, h2⟩ := bind_some h
    obtain ⟨h3, h4⟩ := bif_some h2
    simp [ok] at h4
    subst h4
    simp only [Bool.and_eq_true] at h3
    obtain ⟨g1, g2⟩ := rowOf_fz hR ha h1
    have := beqL_eq _ _ h3.2
    subst this
    exact ⟨rfl, by simpa using g1, g2⟩
  · simp [fail] at h
theorem outLeaves_fz (hR : Rel w G st sl) : ∀ {lv : List LT} {l : List A} {vs : List Value} {r : Out (List D)}, outLeaves st lv l = some r → (∀ (j : Nat) (t : LT), lv[j]? = some t → t.setOwn false = t) → AOKs w G st l vs →
    r.os = [] ∧ (∀ d, d ∈ r.ds → d.2 < st.ctr) ∧ r.x.length = lv.length ∧ vs.length = lv.length ∧ ∀ (j : Nat) (t : LT) (v : Value), lv[j]? = some t → vs[j]? = some v → FzL w (okD G r.ds) t v (r.x.getD j (.i 0))
  | [], [], vs, r, h, _, hv => by
    simp [outLeaves, ok] at h
    subst h
    have : vs = [] := hv
    subst this
    exact ⟨rfl, by simp, rfl, rfl, by simp⟩
  | t :: ts, a :: as, vs, r, h, ht, ⟨v, vs', e, hv, hvs⟩ => by
    simp only [outLeaves] at h
    obtain ⟨p, h1, h2⟩ := bind_some h
    obtain ⟨q, h3, h4⟩ := bind_some h2
    simp [ok] at h4
    subst h4; subst e
    obtain ⟨a1, a2, a3⟩ := outLeaf_fz hR h1 (ht 0 t rfl) hv
    obtain ⟨b1, b2, b3, b4, b5⟩ := outLeaves_fz hR h3 (fun j t hj => ht (j + 1) t (by simpa using hj)) hvs
    refine ⟨by simp [a1, b1], fun d hd => ?_, by simp [b3], by simp [b4], fun j t' u hj hu => ?_⟩
    · simp at hd
      rcases hd with hd | hd
      · exact a2 d hd
      · exact b2 d hd
    · cases j with
      | zero =>
        simp at hj hu
        subst hj; subst hu
        exact FzL_mono (fun b hb => ⟨okD_left hb, rfl⟩) _ _ _ a3
      | succ j =>
        have := b5 j t' u (by simpa using hj) (by simpa using hu)
        simp only [List.getD_cons_succ]
        exact FzL_mono (fun b hb => ⟨okD_right hb, rfl⟩) _ _ _ this
  | [], _ :: _, _, _, h, _, _ => by simp [outLeaves, fail] at h
  | _ :: _, [], _, _, h, _, _ => by simp [outLeaves, fail] at h
theorem encL_sound (hR : Rel w G st sl) {lv : List LT} {l : List A} {vs : List Value} {r : List (Nat × Nat) × List D} (h : encL st lv l = some r) (hf : ∀ (j : Nat) (t : LT), lv[j]? = some t → t.setOwn false = t) (hv : AOKs w G st l vs) :
    (∀ d, d ∈ r.1 → d.2 < st.ctr) ∧ r.2.length = lv.length ∧ vs.length = lv.length ∧ ∀ (j : Nat) (t : LT) (v : Value), lv[j]? = some t → vs[j]? = some v → FzL w (okD G r.1) t v (r.2.getD j (.i 0)) := by
  obtain ⟨p, h1, h2⟩ := bind_some h
  simp [ok] at h2
  subst h2
  obtain ⟨_, a2, a3, a4, a5⟩ := outLeaves_fz hR h1 hf hv
  exact ⟨a2, a3, a4, a5⟩
/-- n elements of k cells in a block: what is read of them -/
theorem fz_rows {okb : Nat → Prop} {e : TypeId} {el : List LT} {b o n c : Nat} {vs : List Value} {xs : List D} (hb : okb b) (hc : n ≤ c) (hm : c ≤ maxLen) (hl : vs.length = n * el.length) (hx : xs.length = n * el.length)
    (hcell : ∀ (j : Nat) (v : Value), vs[j]? = some v → w.cell? ⟨b, o + j, none⟩ = some v) (hv : ∀ (j : Nat) (t : LT) (v : Value), (repT el n)[j]? = some t → vs[j]? = some v → FzL w okb t v (xs.getD j (.i 0))) (ow : Bool) :
    FzL w okb (.sl ow e el) (.slice (some ⟨b, o, none⟩) n c) (.l (chunks el.length n xs)) := by
  refine ⟨_, n, c, rfl, chunks_length _ _ _, hc, hm, by simp, fun ad had hn => ?_⟩
  injection had with had
  subst had
  refine ⟨rfl, fun i hi => ?_⟩
  have e1 : (D.l (chunks el.length n xs)).els.getD i (.i 0) = mkE (takeN el.length (xs.drop (i * el.length))) := chunks_get _ n xs i hi
  rw [e1]
  have hle : (i + 1) * el.length ≤ n * el.length := Nat.mul_le_mul_right _ hi
  rw [Nat.add_mul, Nat.one_mul] at hle
  refine FzC_of hb el 0 (fun j t ht => ?_)
  have hj : j < el.length := (List.getElem?_eq_some_iff.1 ht).1
  have hlt : i * el.length + j < vs.length := by omega
  refine ⟨vs[i * el.length + j], ?_, ?_⟩
  · have := hcell (i * el.length + j) vs[i * el.length + j] (by simp [hlt])
    simpa [Nat.add_assoc] using this
  · have := hv (i * el.length + j) t vs[i * el.length + j] (by rw [repT_get el n i j hi hj, ht]) (by simp [hlt])
    rw [Nat.zero_add, lf_mkE (by rw [takeN_eq]; simp; omega) j hj]
    have e2 : (takeN el.length (xs.drop (i * el.length))).getD j (.i 0) = xs.getD (i * el.length + j) (.i 0) := by
      rw [takeN_eq]
      simp only [List.getD, List.getElem?_take, List.getElem?_drop, if_pos hj]
    rw [e2]
    exact this
/-- the cells of a literal -/
theorem rep2_length (l : List A) : ∀ n : Nat, (rep2 l n).length = n * l.length
  | 0 => by simp [rep2]
  | n + 1 => by simp [rep2, rep2_length l n, Nat.add_mul]; omega
theorem AOKs_append {l m : List A} {vs us : List Value} (h : AOKs w G st l vs) (k : AOKs w G st m us) : AOKs w G st (l ++ m) (vs ++ us) := by
  induction l generalizing vs with
  | nil => have : vs = [] := h; subst this; exact k
  | cons a l ih => obtain ⟨v, vs', rfl, h1, h2⟩ := h; exact ⟨v, vs' ++ us, rfl, h1, ih h2⟩
def repV (l : List Value) : Nat → List Value
  | 0 => []
  | n + 1 => l ++ repV l n
theorem rep2_sound {l : List A} {vs : List Value} (h : AOKs w G st l vs) : ∀ n : Nat, AOKs w G st (rep2 l n) (repV vs n)
  | 0 => rfl
  | n + 1 => AOKs_append h (rep2_sound h n)
theorem repV_length (l : List Value) : ∀ n : Nat, (repV l n).length = n * l.length
  | 0 => by simp [repV]
  | n + 1 => by simp [repV, repV_length l n, Nat.add_mul]; omega
theorem repV_get (l : List Value) : ∀ (n i : Nat), i < n * l.length → (repV l n)[i]? = l[i % l.length]?
  | 0, i, h => by simp at h
  | n + 1, i, h => by
    rw [repV]
    by_cases hi : i < l.length
    · rw [List.getElem?_append_left hi, Nat.mod_eq_of_lt hi]
    · rw [List.getElem?_append_right (by omega), repV_get l n (i - l.length) (by rw [Nat.add_mul] at h; omega), ← Nat.mod_eq_sub_mod (by omega)]
theorem repV_made (z : Array Value) (n : Nat) : (⟨repV z.toList n⟩ : Array Value) = (Array.range (n * z.size)).map (z[· % z.size]!) := by
  apply Array.ext'
  apply List.ext_getElem?
  intro i
  by_cases hi : i < n * z.size
  · have hz : 0 < z.size := Nat.pos_of_ne_zero (fun h => by rw [h] at hi; simp at hi)
    have := repV_get z.toList n i (by simpa using hi)
    simp only [this]
    have hm : i % z.size < z.size := Nat.mod_lt _ hz
    simp [Array.toList_map, hi, hm, Array.getElem!_eq_getD]
  · have h1 : (repV z.toList n)[i]? = none := List.getElem?_eq_none (by rw [repV_length]; simp; omega)
    simp only [h1]
    rw [List.getElem?_eq_none (by simp; omega)]
theorem buildSlice_run (hR : Rel w G st sl) {act : Act} {t : TypeId} {ti te : TI} (hT : TIok P t ti) (hTe : TIok P ti.e te) (hsl : ti.sl = true) {len : Nat} {parts : Array (Nat × Operand)} (hx : ∀ p ∈ parts.toList, AOK w G st (evO st.sl p.2) (act.eval p.2))
    (hn : len * te.lv.length ≤ 16777216) {l : List A} (hl : cellsOf st len parts te = some l) :
    ∃ cells : Array Value, (Instr.buildSlice t len (parts.map fun (i, x) => (i, act.eval x))).run P w = .ok (.slice (some ⟨w.heap.size, 0, none⟩) len len) (w.alloc (.cells cells ti.e)) ∧ AOKs w G st l cells.toList ∧ l.length = len * te.lv.length := by
  obtain ⟨i0, e1, e2, e3⟩ := hT.sl hsl
  obtain ⟨d, i, z, g1, g2, g3, g4, g5, g6, g7, g8⟩ := hTe.ex
  have hzs : z.cells.size = te.lv.length := by
    have : z.cells.toList.length = te.lv.length := by rw [g6]; simp
    simpa using this
  have hz : AOKs w G st (rep2 (zerosA te.lv) len) (repV z.cells.toList len) := by rw [g6]; exact rep2_sound (zeros_sound _) len
  obtain ⟨cells, c1, c2, c3⟩ := fillA_sound hR (act := act) (place := elemPl te.lv.length) (mp := fun j => some (j * te.lv.length, te.lv.length)) (fun j q hq => by simp [elemPl, ok] at hq; rw [hq]) parts.toList _ ⟨repV z.cells.toList len⟩ l hx hz hl
  refine ⟨cells, ?_, c2, by rw [c3, rep2_length, zerosA_length]⟩
  rw [repV_made] at c1
  rw [hzs] at c1
  have hmap : (parts.map fun (i, x) => (i, act.eval x)).toList = parts.toList.map fun (i, x) => (i, act.eval x) := by simp
  have hno : ¬ (len * te.lv.length > 2 ^ 24) := by omega
  by_cases h0 : len * te.lv.length = 0
  · rw [h0] at c1
    simp only [Array.range_zero', List.map_nil, Array.map_empty] at c1
    simp only [Instr.buildSlice, Sem.run_bind, run_underlying e1, Result.andThen_ok, hTe.sizeOf, h0, if_true, hmap]
    simp [c1, newRow, show Array.range 0 = #[] from rfl]
  · simp only [Instr.buildSlice, Sem.run_bind, run_underlying e1, Result.andThen_ok, hTe.sizeOf, h0, if_false, if_neg hno, hmap, zeroValue, typeInfo]
    simp [g2, g5, hzs, c1, newRow]
theorem does_lit (hR : Rel w G st sl) {act : Act} {t : TypeId} {ti te : TI} (hT : TIok P t ti) (hTe : TIok P ti.e te) {len : Nat} {parts : Array (Nat × Operand)} (hx : ∀ p ∈ parts.toList, AOK w G st (evO st.sl p.2) (act.eval p.2)) {d : Nat} {r : A}
    (h : opLit st len parts ti te = some r) : Does P w G st sl act d (.buildSlice t len parts) (.val r) := by
  intro ot ho
  obtain ⟨h1, h2⟩ := bif_some h
  simp only [Bool.and_eq_true] at h1
  obtain ⟨l, h3, h4⟩ := bind_some h2
  obtain ⟨p, h5, h6⟩ := bind_some h4
  simp [ok] at h6
  subst h6
  have hn := Nat.le_of_ble_eq_true h1.2.2
  obtain ⟨cells, c1, c2, c3⟩ := buildSlice_run hR hT hTe h1.1 hx hn h3
  have hrf : ∀ (j : Nat) (t : LT), (repT te.lv len)[j]? = some t → t.setOwn false = t := fun j t ht => by
    have hj : j < len * te.lv.length := by have := (List.getElem?_eq_some_iff.1 ht).1; rwa [repT_length] at this
    have hk : 0 < te.lv.length := Nat.pos_of_ne_zero (fun h => by rw [h] at hj; simp at hj)
    have e := Nat.div_add_mod j te.lv.length
    have hi : j / te.lv.length < len := Nat.div_lt_of_lt_mul (by rw [Nat.mul_comm]; exact hj)
    have := repT_get te.lv len (j / te.lv.length) (j % te.lv.length) hi (Nat.mod_lt _ hk)
    rw [Nat.mul_comm, e, ht] at this
    exact setOwn_get hTe.lvF _ t this.symm
  obtain ⟨f1, f2, f3, f4⟩ := encL_sound hR h5 hrf c2
  rw [repT_length] at f2 f3
  let o : Obj := .cells cells ti.e
  have hL := Le.alloc hR o .fz
  refine ⟨.value (.slice (some ⟨w.heap.size, 0, none⟩) len len), _, w.alloc o, G.tag w.heap.size .fz, ?_, .inl rfl, Ext.alloc _ _, Fr.alloc w G o .fz, hL, hR.alloc o .fz, ?_⟩
  · simp [execOp, ho, c1]; rfl
  · refine ⟨f1, fun hd => ?_⟩
    obtain ⟨_, hk⟩ := hL.depOk f1 hd
    refine fz_rows (vs := cells.toList) (.inl (by simp [Gh.tag])) (Nat.le_refl _) ?_ (by rw [f3]) (by rw [f2]) (fun j v hv => ?_) (fun j t v ht hv => ?_) false
    · have := Nat.le_of_ble_eq_true h1.2.1
      unfold maxLen
      omega
    · rw [Nat.zero_add, World.cell?_alloc_new]
      simpa using hv
    · exact FzL_mono hk _ _ _ (f4 j t v ht hv)
end
end Go.Eng

namespace Go.Eng
/-- a piece of a list replaced -/
def segV {α : Type} (l : List α) (i : Nat) (vs : List α) : List α := l.take i ++ vs ++ l.drop (i + vs.length)
theorem segV_get {α : Type} {l vs : List α} {i : Nat} (h : i + vs.length ≤ l.length) (k : Nat) : (segV l i vs)[k]? = if i ≤ k ∧ k < i + vs.length then vs[k - i]? else l[k]? := by
  unfold segV
  by_cases h1 : k < i
  · rw [List.append_assoc, List.getElem?_append_left (by simp; omega), List.getElem?_take, if_pos h1, if_neg (by omega)]
  · by_cases h2 : k < i + vs.length
    · rw [List.append_assoc, List.getElem?_append_right (by simp; omega), List.getElem?_append_left (by simp; omega), if_pos (by omega)]
      congr 1
      simp; omega
    · rw [List.getElem?_append_right (by simp; omega), List.getElem?_drop, if_neg (by omega)]
      congr 1
      simp; omega
theorem segV_length {α : Type} {l vs : List α} {i : Nat} (h : i + vs.length ≤ l.length) : (segV l i vs).length = l.length := by
  simp [segV]; omega
theorem setFrom_get : ∀ (as l : List A) (j k : Nat), j + as.length ≤ l.length → (setFrom l j as)[k]? = if j ≤ k ∧ k < j + as.length then as[k - j]? else l[k]?
  | [], l, j, k, _ => by rw [if_neg (by simp)]; rfl
  | a :: as, l, j, k, h => by
    simp only [List.length_cons] at h
    rw [setFrom, setFrom_get as (l.set j a) (j + 1) k (by simp; omega)]
    by_cases h1 : j + 1 ≤ k ∧ k < j + 1 + as.length
    · rw [if_pos h1, if_pos (by simp; omega)]
      rw [show k - j = k - (j + 1) + 1 by omega]
      simp
    · rw [if_neg h1, List.getElem?_set]
      by_cases h2 : j = k
      · subst h2
        simp
        omega
      · rw [if_neg h2, if_neg (by simp; omega)]
section
variable {P : Program} {w w' : World} {G : Gh} {st : St} {sl : Nat → Option Value} {act : Act}
theorem leaves_one (hR : Rel w G st sl) {l : List A} {vs : List Value} (hs : storables st l = true) (h : AOKs w G st l vs) : ∀ v, v ∈ vs → v.oneCell' = true := by
  intro v hv
  obtain ⟨j, hj, rfl⟩ := List.getElem_of_mem hv
  obtain ⟨h1, h2⟩ := AOKs_iff.1 h
  have hj' : j < l.length := by omega
  exact (storable_leaf hR (storables_mem hs l[j] (List.getElem_mem hj')) (h2 j _ _ (by simp [hj']) (by simp [hj]))).2
theorem Le.heap (hb : ∀ b, (G.own b = .fz ∨ ∃ r p, G.own b = .arr r p) → w'.heap[b]? = w.heap[b]?) : Le w G st w' G st :=
  ⟨Nat.le_refl _, fun r u p a' _ h => ⟨a', h, rfl, rfl, rfl, fun h => h⟩, fun b x' _ h => ⟨x', h, rfl, rfl⟩, fun r a' _ h => ⟨a', h, rfl, fun b p hp => ⟨⟨p, hp⟩, hb b (.inr ⟨r, p, hp⟩)⟩⟩, fun b hz => ⟨hz, hb b (.inl hz)⟩⟩
/-- other leaves in a variable -/
theorem Le.bxPut {b : Nat} {x : Bx} (hx : look st.bx b = some x) (lv : List A) : Le w G st w G { st with bx := putA st.bx b { uid := x.uid, lv := lv } } := by
  refine ⟨Nat.le_refl _, fun r u p a' _ h => ⟨a', h, rfl, rfl, rfl, fun h => h⟩, fun b' x' _ h => ?_, fun r a' _ h => ⟨a', h, rfl, fun b p hp => ⟨⟨p, hp⟩, rfl⟩⟩, fun b hz => ⟨hz, rfl⟩⟩
  simp only [look_putA] at h
  split at h
  · rename_i e
    subst e
    injection h with h
    subst h
    exact ⟨x, hx, rfl, rfl⟩
  · exact ⟨x', h, rfl, rfl⟩
theorem setBox_sound (hR : Rel w G st sl) {b u off : Nat} {l : List A} {vs : List Value} {s : St} (h : setBox st b u off l = some s) (hl : AOKs w G st l vs) :
    ∃ w', (∀ P : Program, (storeCells ⟨(G.B b).1, (G.B b).2 + off, none⟩ vs).run P w = .ok () w') ∧ Fr w G w' G ∧ Le w G st w' G s ∧ Rel w' G s sl := by
  obtain ⟨lv, h1, h2⟩ := bind_some h
  obtain ⟨x, g1, g2, g3⟩ := boxOf_some h1
  subst g3
  obtain ⟨h3, h4⟩ := chk_true h2
  subst h4
  simp only [Bool.and_eq_true] at h3
  have hle := Nat.le_of_ble_eq_true h3.2
  obtain ⟨k1, k2, hcs⟩ := hR.boxes b x g1
  obtain ⟨cs, e, k3, k4, k5⟩ := hcs.cells (boxOf_mp h1 g1)
  have hlen := (AOKs_iff.1 hl).1
  have hseg : (G.B b).2 + off + vs.length ≤ cs.toList.length := by simp; omega
  let cs' : Array Value := (segV cs.toList ((G.B b).2 + off) vs).toArray
  let w' : World := w.setRow (G.B b).1 cs'
  have hother : ∀ k, k ≠ (G.B b).1 → w'.heap[k]? = w.heap[k]? := fun k hk => setRow_other w (G.B b).1 k cs' hk
  have hsame : w'.heap[(G.B b).1]? = some (.cells cs' e (0, 0)) := setRow_heap w (G.B b).1 cs cs' e (0, 0) k3
  have hne : ∀ k, G.own k ≠ .box → k ≠ (G.B b).1 := fun k hk e => hk (by rw [e]; exact k2)
  have hL1 : Le w G st w' G st := Le.heap (fun k hk => hother k (hne k (by rcases hk with hk | ⟨r, p, hk⟩ <;> rw [hk] <;> simp)))
  have hL : Le w G st w' G { st with bx := putA st.bx b { uid := u, lv := setFrom x.lv off l } } := by
    subst g2
    exact hL1.trans (Le.bxPut g1 _)
  refine ⟨w', fun P => ?_, ⟨rfl, rfl, rfl, by simp [w'], fun k _ hk => ⟨hother k (hne k (by rcases hk with hk | hk <;> rw [hk] <;> simp)), rfl⟩, fun _ _ _ => rfl⟩, hL, ?_⟩
  · have := run_storeCells_at (P := P) (G.B b).1 ((G.B b).2 + off) e vs 0 cs w k3 (by simpa using hseg) (leaves_one hR h3.1 hl)
    simpa [w', cs', segV] using this
  · refine hR.step hL (fun t v hv => AOK_mono hL _ _ (hR.slots t v hv)) (fun b' x' hx' => ?_) (fun b1 b2 x1 x2 e1 e2 hne' => ?_)
      (fun r a ha => .inl ⟨ha, fun _ => rfl, fun k p hp => ⟨hp, hother k (hne k (by rw [hp]; simp))⟩⟩) (fun k hk => by simp [w']; exact hR.live k hk) hR.hdr
    · simp only [look_putA] at hx'
      split at hx'
      · rename_i e'
        subst e'
        injection hx' with hx'
        subst hx'
        right
        refine ⟨by subst g2; exact k1, k2, CellsB.of_cells rfl ⟨cs', e, hsame, ?_, fun j hj => ?_⟩⟩
        · simp only [setFrom_length]
          show _ ≤ (segV cs.toList ((G.B b').2 + off) vs).length
          rw [segV_length hseg]; simpa using k4
        · simp only [setFrom_length] at hj
          have hget : cs'[(G.B b').2 + j]? = (segV cs.toList ((G.B b').2 + off) vs)[(G.B b').2 + j]? := by simp [cs']
          rw [hget, segV_get hseg]
          simp only [List.getD, setFrom_get l x.lv off j (by omega)]
          by_cases hc : off ≤ j ∧ j < off + l.length
          · rw [if_pos hc, if_pos (by omega)]
            have hj' : j - off < vs.length := by omega
            refine ⟨vs[j - off], by rw [show (G.B b').2 + j - ((G.B b').2 + off) = j - off by omega]; simp [hj'], ?_⟩
            exact AOK_mono hL _ _ ((AOKs_iff.1 hl).2 (j - off) _ _ (by simp [show j - off < l.length by omega]) (by simp [hj']))
          · rw [if_neg hc, if_neg (by omega)]
            obtain ⟨v, m1, m2⟩ := k5 j hj
            exact ⟨v, by simpa using m1, AOK_mono hL _ _ m2⟩
      · rename_i e'
        obtain ⟨q1, q2, _⟩ := hR.boxes b' x' hx'
        by_cases hb : (G.B b').1 = (G.B b).1
        · exact absurd hb.symm (hR.apartB b b' x x' g1 hx' (Ne.symm e'))
        · exact .inl ⟨hx', rfl, hother _ hb, q2⟩
    · simp only [look_putA] at e1 e2
      have hlen' : ∀ (b' : Nat) (x' : Bx), (if b' = b then some { uid := u, lv := setFrom x.lv off l } else look st.bx b') = some x' → ∃ y, look st.bx b' = some y ∧ x'.lv.length = y.lv.length := fun b' x' hx' => by
        split at hx'
        · rename_i e'
          injection hx' with hx'
          subst hx'
          exact ⟨x, by rw [e']; exact g1, by simp [setFrom_length]⟩
        · exact ⟨x', hx', rfl⟩
      obtain ⟨y1, m1, m2⟩ := hlen' b1 x1 e1
      obtain ⟨y2, n1, n2⟩ := hlen' b2 x2 e2
      exact hR.apartB b1 b2 y1 y2 m1 n1 hne'
end
end Go.Eng

namespace Go.Eng
theorem setPad_get : ∀ (l : List D) (j : Nat) (y : D) (j' : Nat), (setPad l j y).getD j' (.i 0) = if j' = j then y else l.getD j' (.i 0)
  | [], 0, y, 0 => rfl
  | [], 0, y, j' + 1 => rfl
  | [], j + 1, y, 0 => rfl
  | [], j + 1, y, j' + 1 => by
    rw [setPad, List.getD_cons_succ, setPad_get [] j y j']
    by_cases h : j' = j
    · subst h; simp
    · rw [if_neg h, if_neg (by omega)]; rfl
  | x :: l, 0, y, 0 => rfl
  | x :: l, 0, y, j' + 1 => rfl
  | x :: l, j + 1, y, 0 => rfl
  | x :: l, j + 1, y, j' + 1 => by
    rw [setPad, List.getD_cons_succ, setPad_get l j y j', List.getD_cons_succ]
    by_cases h : j' = j
    · subst h; simp
    · rw [if_neg h, if_neg (by omega)]
theorem lf_setLf {k : Nat} {x y : D} {j j' : Nat} (hj : j < k) (hj' : j' < k) : lf k (setLf k x j y) j' = if j' = j then y else lf k x j' := by
  unfold lf setLf
  by_cases hk : k = 1
  · subst hk
    rw [if_pos (by omega)]
    simp [beqt]
  · simp only [beqf hk, cond_false]
    exact setPad_get x.els j y j'
theorem ArC_of {w : World} {G : Gh} {S : List Path} {r : Nat} {p : Path} {i b o k : Nat} {x : D} : ∀ (ts : List LT) (j0 : Nat), (∀ (j : Nat) (t : LT), ts[j]? = some t → ∃ v, w.cell? ⟨b, o + (j0 + j), none⟩ = some v ∧ ArL w G S r t (p ++ [(i, j0 + j)]) v (lf k x (j0 + j))) → ArC w G S r ts p i b o k x j0
  | [], _, _ => trivial
  | t :: ts, j0, h => by
    refine ⟨?_, ArC_of ts (j0 + 1) (fun j t ht => ?_)⟩
    · have := h 0 t rfl
      simpa using this
    · have := h (j + 1) t (by simpa using ht)
      rwa [show j0 + (j + 1) = j0 + 1 + j by omega] at this
theorem idx_ne {k i i' j j' : Nat} (hj : j < k) (hj' : j' < k) (h : ¬ (i = i' ∧ j = j')) : i * k + j ≠ i' * k + j' := by
  intro e
  have h1 : (i * k + j) / k = i := by rw [Nat.mul_comm, Nat.mul_add_div (by omega), Nat.div_eq_of_lt hj]; omega
  have h2 : (i' * k + j') / k = i' := by rw [Nat.mul_comm, Nat.mul_add_div (by omega), Nat.div_eq_of_lt hj']; omega
  have h3 : i = i' := by rw [← h1, e, h2]
  subst h3
  exact h ⟨rfl, by omega⟩
theorem prefix_snoc_ne {p q : Path} {c d : Nat × Nat} (h : c ≠ d) : ¬ (p ++ [c]) <+: (p ++ d :: q) := by
  rw [List.prefix_append_right_inj]
  intro hh
  obtain ⟨t, ht⟩ := hh
  simp at ht
  exact h ht.1
theorem prefix_len {p q : Path} (h : p <+: q) : p.length ≤ q.length := h.length_le
section
variable {w w' : World} {G G' : Gh} {S S' : List Path} {r : Nat}
/-- what lies beside a changed row is as it was -/
structure Beside (w : World) (G : Gh) (S : List Path) (r : Nat) (tgt : Path) (w' : World) (G' : Gh) (S' : List Path) : Prop where
  fz : ∀ b, G.own b = .fz → G'.own b = .fz ∧ w'.heap[b]? = w.heap[b]?
  H : ∀ q, ¬ tgt <+: q → G'.H r q = G.H r q
  own : ∀ q, ¬ tgt <+: q → ∀ b, G.own b = .arr r q → G'.own b = .arr r q ∧ w'.heap[b]? = w.heap[b]?
  stale : ∀ q, ¬ tgt <+: q → q ∈ S → q ∈ S'
  Htgt : G'.H r tgt = G.H r tgt
theorem not_prefix_of_short {p : Path} {q : Path} (h : q.length < p.length) : ¬ p <+: q := fun hh => by have := prefix_len hh; omega
theorem Row_upd (p : Path) : ∀ (p0 : Path) (e : TypeId) (el : List LT) (data : List D) (q : TypeId × List LT × List D) (f : List D → List D), Beside w G S r (p0 ++ p) w' G' S' →
    Row w G S r e el p0 (G.H r p0) data → rowAt e el data p = some q → InR el data p → (∀ s, s ∈ S → p0.length + p.length < s.length) →
    Row w' G' S' r q.1 q.2.1 (p0 ++ p) (G.H r (p0 ++ p)) (f q.2.2) → Row w' G' S' r e el p0 (G.H r p0) (updRow el data p f) := by
  induction p with
  | nil =>
    intro p0 e el data q f hB hr hq _ _ ht
    simp [rowAt] at hq
    subst hq
    simpa [updRow] using ht
  | cons c p ih =>
    obtain ⟨i, j⟩ := c
    intro p0 e el data q f hB hr hq hin hS ht
    obtain ⟨ad, n, cp, h1, h2, h3, h4, h5, h6⟩ := hr
    simp only [rowAt] at hq
    obtain ⟨hi, hin⟩ := hin
    cases htj : el[j]? with
    | none => simp [htj] at hq
    | some t =>
      cases t with
      | int k => simp [htj] at hq
      | bool => simp [htj] at hq
      | str => simp [htj] at hq
      | sl own e' el' =>
        cases own with
        | false => simp [htj] at hq
        | true =>
          simp only [htj] at hq hin
          have hjl : j < el.length := (List.getElem?_eq_some_iff.1 htj).1
          have hn : 0 < n := by omega
          have hp0 : ¬ (p0 ++ (i, j) :: p) <+: p0 := not_prefix_of_short (by simp)
          refine ⟨ad, n, cp, h1, ?_, h3, h4, h5, fun a ha => ?_⟩
          · simp only [updRow, htj]
            simpa using h2
          obtain ⟨g1, g2, cs, e0, g3, g4, g5⟩ := h6 a ha
          obtain ⟨k1, k2⟩ := hB.own p0 hp0 a.block g2
          refine ⟨g1, k1, cs, e0, k2.trans g3, g4, fun i' hi' => ?_⟩
          have hdat : (updRow el data ((i, j) :: p) f).getD i' (.i 0) = if i' = i then setLf el.length (data.getD i (.i 0)) j (.l (updRow el' (lf el.length (data.getD i (.i 0)) j).els p f)) else data.getD i' (.i 0) := by
            simp only [updRow, htj, List.getD, List.getElem?_set]
            by_cases hii : i = i'
            · subst hii
              simp [hi]
            · rw [if_neg hii, if_neg (Ne.symm hii)]
          rw [hdat]
          have hel := ArC_get (g5 i' hi')
          refine ArC_of el 0 (fun j' t' ht' => ?_)
          have hjl' : j' < el.length := (List.getElem?_eq_some_iff.1 ht').1
          obtain ⟨v, m1, m2⟩ := hel j' t' ht'
          simp only [Nat.zero_add] at m1 m2 ⊢
          refine ⟨v, (cell_of_heap k2 _).trans m1, ?_⟩
          by_cases hc : i' = i ∧ j' = j
          · obtain ⟨rfl, rfl⟩ := hc
            rw [if_pos rfl, lf_setLf hjl hjl, if_pos rfl]
            rw [htj] at ht'
            injection ht' with ht'
            subst ht'
            have hns : p0 ++ [(i', j')] ∉ S := fun hs => by have := hS _ hs; simp at this
            rcases ArL_own.1 m2 with hs | ⟨m3, m4⟩
            · exact absurd hs hns
            · refine ArL_own.2 (.inr ⟨?_, ?_⟩)
              · rw [m3]
                by_cases hpn : p = []
                · subst hpn; exact hB.Htgt.symm
                · refine (hB.H _ (not_prefix_of_short ?_)).symm
                  cases p with
                  | nil => exact absurd rfl hpn
                  | cons _ _ => simp
              · rw [m3] at m4 ⊢
                have e1 : p0 ++ (i', j') :: p = (p0 ++ [(i', j')]) ++ p := by simp
                exact ih (p0 ++ [(i', j')]) e' el' _ q f (by rw [← e1]; exact hB) m4 hq hin (fun s hs => by have := hS s hs; simp at this ⊢; omega) (by rw [← e1]; exact ht)
          · have hlf : lf el.length (if i' = i then setLf el.length (data.getD i (.i 0)) j (.l (updRow el' (lf el.length (data.getD i (.i 0)) j).els p f)) else data.getD i' (.i 0)) j' = lf el.length (data.getD i' (.i 0)) j' := by
              by_cases hii : i' = i
              · subst hii
                rw [if_pos rfl, lf_setLf hjl hjl', if_neg (fun h => hc ⟨rfl, h⟩)]
              · rw [if_neg hii]
            rw [hlf]
            have hnp : ∀ s, ¬ (p0 ++ (i, j) :: p) <+: (p0 ++ [(i', j')] ++ s) := fun s => by
              rw [List.append_assoc, List.prefix_append_right_inj]
              rintro ⟨t, ht⟩
              simp at ht
              exact hc ⟨ht.1.1.symm, ht.1.2.symm⟩
            exact ArL_mono hB.fz t' _ _ v _ (fun s _ => .inr ⟨hB.H _ (hnp s), hB.own _ (hnp s)⟩) (fun s hs => hB.stale _ (hnp s) hs) m2
/-- what lies beside a changed leaf is as it was -/
structure BesideLeaf (w : World) (G : Gh) (S : List Path) (r : Nat) (tgt : Path) (c : Nat × Nat) (w' : World) (G' : Gh) (S' : List Path) : Prop where
  fz : ∀ b, G.own b = .fz → G'.own b = .fz ∧ w'.heap[b]? = w.heap[b]?
  H : ∀ q, ¬ (tgt ++ [c]) <+: q → G'.H r q = G.H r q
  own : ∀ q, q ≠ tgt → ¬ (tgt ++ [c]) <+: q → ∀ b, G.own b = .arr r q → G'.own b = .arr r q ∧ w'.heap[b]? = w.heap[b]?
  ownT : ∀ b, G.own b = .arr r tgt → G'.own b = .arr r tgt
  stale : ∀ q, ¬ (tgt ++ [c]) <+: q → q ∈ S → q ∈ S'
theorem BesideLeaf.row {tgt : Path} {c : Nat × Nat} (h : BesideLeaf w G S r tgt c w' G' S') : Beside w G S r tgt w' G' S' := by
  have hn : ∀ q, ¬ tgt <+: q → ¬ (tgt ++ [c]) <+: q := fun q hq hh => hq ((List.prefix_append _ _).trans hh)
  exact ⟨h.fz, fun q hq => h.H q (hn q hq), fun q hq => h.own q (fun e => hq (by rw [e]; exact List.prefix_refl _)) (hn q hq), fun q hq => h.stale q (hn q hq), h.H tgt (not_prefix_of_short (by simp))⟩
/-- the row itself: leaf j of element i is written -/
theorem Row_set {e : TypeId} {el : List LT} {tgt : Path} {data : List D} {i j : Nat} {t : LT} {v : Value} {d : D} {b o n c : Nat} {cs cs' : Array Value} {e0 : TypeId} (hB : BesideLeaf w G S r tgt (i, j) w' G' S')
    (hH : G.H r tgt = .slice (some ⟨b, o, none⟩) n c) (hrow : Row w G S r e el tgt (G.H r tgt) data) (hb : w.heap[b]? = some (.cells cs e0 (0, 0))) (hb' : w'.heap[b]? = some (.cells cs' e0 (0, 0)))
    (hsz : cs'.size = cs.size) (hi : i < data.length) (ht : el[j]? = some t) (hnew : cs'[o + i * el.length + j]? = some v) (hold : ∀ m, m ≠ o + i * el.length + j → cs'[m]? = cs[m]?)
    (hv : ArL w' G' S' r t (tgt ++ [(i, j)]) v d) : Row w' G' S' r e el tgt (G.H r tgt) (data.set i (setLf el.length (data.getD i (.i 0)) j d)) := by
  obtain ⟨ad, n', cp, h1, h2, h3, h4, h5, h6⟩ := hrow
  have hjl : j < el.length := (List.getElem?_eq_some_iff.1 ht).1
  rw [hH] at h1
  injection h1 with a1 a2 a3
  subst a1; subst a2; subst a3
  refine ⟨_, n, c, hH, by simpa using h2, h3, h4, by simp, fun a ha => ?_⟩
  injection ha with ha
  subst ha
  obtain ⟨g1, g2, cs2, e2, g3, g4, g5⟩ := h6 _ rfl
  simp only at g2 g3 g4 g5 ⊢
  rw [hb] at g3
  injection g3 with g3
  injection g3 with g3a g3b
  subst g3a
  refine ⟨trivial, hB.ownT b g2, cs', e0, hb', by rw [hsz]; exact g4, fun i' hi' => ?_⟩
  have hdat : (data.set i (setLf el.length (data.getD i (.i 0)) j d)).getD i' (.i 0) = if i' = i then setLf el.length (data.getD i (.i 0)) j d else data.getD i' (.i 0) := by
    simp only [List.getD, List.getElem?_set]
    by_cases hii : i = i'
    · subst hii
      simp [hi]
    · rw [if_neg hii, if_neg (Ne.symm hii)]
  rw [hdat]
  have hel := ArC_get (g5 i' hi')
  refine ArC_of el 0 (fun j' t' ht' => ?_)
  have hjl' : j' < el.length := (List.getElem?_eq_some_iff.1 ht').1
  obtain ⟨u, m1, m2⟩ := hel j' t' ht'
  simp only [Nat.zero_add] at m1 m2 ⊢
  have hcell' : ∀ m, w'.cell? ⟨b, m, none⟩ = cs'[m]? := fun m => by simp [World.cell?, hb']
  have hcell : ∀ m, w.cell? ⟨b, m, none⟩ = cs[m]? := fun m => by simp [World.cell?, hb]
  by_cases hc : i' = i ∧ j' = j
  · obtain ⟨rfl, rfl⟩ := hc
    rw [if_pos rfl, lf_setLf hjl hjl, if_pos rfl]
    rw [ht] at ht'
    injection ht' with ht'
    subst ht'
    exact ⟨v, by rw [hcell']; exact hnew, hv⟩
  · refine ⟨u, ?_, ?_⟩
    · rw [hcell', hold _ (by have := idx_ne hjl' hjl hc; omega), ← hcell]; exact m1
    · have hlf : lf el.length (if i' = i then setLf el.length (data.getD i (.i 0)) j d else data.getD i' (.i 0)) j' = lf el.length (data.getD i' (.i 0)) j' := by
        by_cases hii : i' = i
        · subst hii
          rw [if_pos rfl, lf_setLf hjl hjl', if_neg (fun h => hc ⟨rfl, h⟩)]
        · rw [if_neg hii]
      rw [hlf]
      have hnp : ∀ s, ¬ (tgt ++ [(i, j)]) <+: (tgt ++ [(i', j')] ++ s) := fun s => by
        rw [List.append_assoc, List.prefix_append_right_inj]
        rintro ⟨t, ht⟩
        simp at ht
        exact hc ⟨ht.1.1.symm, ht.1.2.symm⟩
      have hne : ∀ s : Path, tgt ++ [(i', j')] ++ s ≠ tgt := fun s e => by
        have := congrArg List.length e
        simp at this
      exact ArL_mono hB.fz t' _ _ u _ (fun s _ => .inr ⟨hB.H _ (hnp s), hB.own _ (hne s) (hnp s)⟩) (fun s hs => hB.stale _ (hnp s) hs) m2
end
/-! ### The state -/
theorem bumpH_get (v : Nat) : ∀ (n : Nat) (l : List Nat) (m : Nat), (bumpH v n l)[m]? = if m < n then l[m]? else (l[m]?).map fun _ => v
  | n, [], m => by simp [bumpH]
  | 0, x :: l, 0 => by simp [bumpH]
  | 0, x :: l, m + 1 => by simp [bumpH, bumpH_get v 0 l m]
  | n + 1, x :: l, 0 => by simp [bumpH]
  | n + 1, x :: l, m + 1 => by simp [bumpH, bumpH_get v n l m]
theorem bumpH_length (v : Nat) : ∀ (n : Nat) (l : List Nat), (bumpH v n l).length = l.length
  | _, [] => by simp [bumpH]
  | 0, x :: l => by simp [bumpH, bumpH_length v 0 l]
  | n + 1, x :: l => by simp [bumpH, bumpH_length v n l]
theorem bumpH_mem {v : Nat} {n : Nat} {l : List Nat} {u : Nat} (h : u ∈ bumpH v n l) : u = v ∨ u ∈ l := by
  obtain ⟨m, hm, rfl⟩ := List.getElem_of_mem h
  have h1 := bumpH_get v n l m
  rw [List.getElem?_eq_getElem hm] at h1
  split at h1
  · exact .inr (List.mem_of_getElem? h1.symm)
  · cases hl : l[m]? with
    | none => simp [hl] at h1
    | some z => simp [hl] at h1; exact .inl h1
theorem InR_upd (tgt : Path) : ∀ (e : TypeId) (el : List LT) (data : List D) (q : TypeId × List LT × List D) (f : List D → List D) (p' : Path), rowAt e el data tgt = some q → InR el data tgt → InR el data p' →
    (∀ s, p' = tgt ++ s → InR q.2.1 q.2.2 s → InR q.2.1 (f q.2.2) s) → InR el (updRow el data tgt f) p' := by
  induction tgt with
  | nil =>
    intro e el data q f p' hq _ hp hf
    simp [rowAt] at hq
    subst hq
    exact hf p' rfl hp
  | cons c tgt ih =>
    obtain ⟨i, j⟩ := c
    intro e el data q f p' hq hin hp hf
    cases p' with
    | nil => exact trivial
    | cons c' s' =>
      obtain ⟨i', j'⟩ := c'
      simp only [rowAt] at hq
      obtain ⟨hi, hin⟩ := hin
      obtain ⟨hi', hp⟩ := hp
      cases htj : el[j]? with
      | none => simp [htj] at hq
      | some t =>
        cases t with
        | int k => simp [htj] at hq
        | bool => simp [htj] at hq
        | str => simp [htj] at hq
        | sl own e' el' =>
          cases own with
          | false => simp [htj] at hq
          | true =>
            simp only [htj] at hq hin
            have hjl : j < el.length := (List.getElem?_eq_some_iff.1 htj).1
            simp only [updRow, htj]
            refine ⟨by simpa using hi', ?_⟩
            cases htj' : el[j']? with
            | none => simp [htj'] at hp
            | some t' =>
              have hjl' : j' < el.length := (List.getElem?_eq_some_iff.1 htj').1
              cases t' with
              | int k => simp [htj'] at hp
              | bool => simp [htj'] at hp
              | str => simp [htj'] at hp
              | sl own' e2 el2 =>
                cases own' with
                | false => simp [htj'] at hp
                | true =>
                  simp only [htj'] at hp
                  simp only
                  have hdat : (data.set i (setLf el.length (data.getD i (.i 0)) j (.l (updRow el' (lf el.length (data.getD i (.i 0)) j).els tgt f)))).getD i' (.i 0) = if i' = i then setLf el.length (data.getD i (.i 0)) j (.l (updRow el' (lf el.length (data.getD i (.i 0)) j).els tgt f)) else data.getD i' (.i 0) := by
                    simp only [List.getD, List.getElem?_set]
                    by_cases hii : i = i'
                    · subst hii
                      simp [hi]
                    · rw [if_neg hii, if_neg (Ne.symm hii)]
                  rw [hdat]
                  by_cases hc : i' = i ∧ j' = j
                  · obtain ⟨rfl, rfl⟩ := hc
                    rw [if_pos rfl, lf_setLf hjl hjl, if_pos rfl]
                    rw [htj] at htj'
                    injection htj' with htj'
                    injection htj' with _ h2 h3
                    subst h2; subst h3
                    exact ih e' el' _ q f s' hq hin hp (fun s hs => hf s (by rw [hs]; rfl))
                  · have hlf : lf el.length (if i' = i then setLf el.length (data.getD i (.i 0)) j (.l (updRow el' (lf el.length (data.getD i (.i 0)) j).els tgt f)) else data.getD i' (.i 0)) j' = lf el.length (data.getD i' (.i 0)) j' := by
                      by_cases hii : i' = i
                      · subst hii
                        rw [if_pos rfl, lf_setLf hjl hjl', if_neg (fun h => hc ⟨rfl, h⟩)]
                      · rw [if_neg hii]
                    rw [hlf]
                    exact hp
def ownLT : LT → Bool
  | .sl true _ _ => true
  | _ => false
theorem InR_set {el : List LT} {data : List D} {i j : Nat} {d : D} {s : Path} (hi : i < data.length) {t : LT} (ht : el[j]? = some t) (h : InR el data s) (hs : ownLT t = false ∨ s = []) :
    InR el (data.set i (setLf el.length (data.getD i (.i 0)) j d)) s := by
  cases s with
  | nil => exact trivial
  | cons c s =>
    obtain ⟨i', j'⟩ := c
    obtain ⟨hi', hp⟩ := h
    refine ⟨by simpa using hi', ?_⟩
    cases htj' : el[j']? with
    | none => simp [htj'] at hp
    | some t' =>
      have hjl' : j' < el.length := (List.getElem?_eq_some_iff.1 htj').1
      have hjl : j < el.length := (List.getElem?_eq_some_iff.1 ht).1
      cases t' with
      | int k => simp [htj'] at hp
      | bool => simp [htj'] at hp
      | str => simp [htj'] at hp
      | sl own' e2 el2 =>
        cases own' with
        | false => simp [htj'] at hp
        | true =>
          simp only [htj'] at hp
          simp only
          have hdat : (data.set i (setLf el.length (data.getD i (.i 0)) j d)).getD i' (.i 0) = if i' = i then setLf el.length (data.getD i (.i 0)) j d else data.getD i' (.i 0) := by
            simp only [List.getD, List.getElem?_set]
            by_cases hii : i = i'
            · subst hii
              simp [hi]
            · rw [if_neg hii, if_neg (Ne.symm hii)]
          rw [hdat]
          by_cases hc : i' = i ∧ j' = j
          · obtain ⟨rfl, rfl⟩ := hc
            rw [ht] at htj'
            injection htj' with htj'
            subst htj'
            simp [ownLT] at hs
          · have hlf : lf el.length (if i' = i then setLf el.length (data.getD i (.i 0)) j d else data.getD i' (.i 0)) j' = lf el.length (data.getD i' (.i 0)) j' := by
              by_cases hii : i' = i
              · subst hii
                rw [if_pos rfl, lf_setLf hjl hjl', if_neg (fun h => hc ⟨rfl, h⟩)]
              · rw [if_neg hii]
            rw [hlf]
            exact hp
section
variable {w w' : World} {G G' : Gh} {st stg : St} {sl : Nat → Option Value}
theorem leaf_step (hR : Rel w G st sl) {r : Nat} {a : Arr} (hV : look st.ar r = some a) {p : Path} {i j : Nat} {d : D} {hdr : Bool} {q : TypeId × List LT × List D} {t : LT}
    (hg : stg.bx = st.bx ∧ stg.sl = st.sl ∧ stg.ctr = st.ctr)
    (harO : ∀ r', r' ≠ r → ∀ a', look stg.ar r' = some a' → look st.ar r' = some a' ∧ (∀ p, G'.H r' p = G.H r' p) ∧ ∀ b p, G.own b = .arr r' p → G'.own b = .arr r' p ∧ w'.heap[b]? = w.heap[b]?)
    (hBx : ∀ b, G.own b = .box → G'.own b = .box ∧ w'.heap[b]? = w.heap[b]?) (hB : ∀ b, G'.B b = G.B b)
    (hfz : ∀ b, G.own b = .fz → G'.own b = .fz ∧ w'.heap[b]? = w.heap[b]?) (hH : ∀ s, ¬ (p ++ [(i, j)]) <+: s → G'.H r s = G.H r s) (hHf : hdr = false → ∀ s, G'.H r s = G.H r s)
    (hq : rowAt a.e a.el a.data p = some q) (hin : InR a.el a.data p) (hi : i < q.2.2.length) (ht : q.2.1[j]? = some t) (hflat : hdr = false → ownLT t = false)
    (hrow : Row w' G' (bif hdr then [] else a.stale) r a.e a.el [] (G'.H r []) (updRow a.el a.data p fun data => data.set i (setLf q.2.1.length (data.getD i (.i 0)) j d)))
    (hlive : ∀ b, G'.own b ≠ .out → b < w'.heap.size) (hhdr : ∀ r p, ∃ a n c, G'.H r p = .slice a n c) :
    Le w G st w' G' (setRow stg r a p i j q.2.1.length d hdr) ∧ Rel w' G' (setRow stg r a p i j q.2.1.length d hdr) sl := by
  obtain ⟨g1, g2, g3⟩ := hg
  obtain ⟨k1, k2, k3, k4⟩ := hR.arrs r a hV
  have hL : Le w G st w' G' (setRow stg r a p i j q.2.1.length d hdr) := by
    refine ⟨by show st.ctr ≤ stg.ctr + 1; omega, fun r' u p' a' hu ha => ?_, fun b x' hu hx => ⟨x', by rw [← g1]; exact hx, rfl, hB b⟩, fun r' a' hu ha => ?_, hfz⟩
    · obtain ⟨h1, h2, h3⟩ := ha
      simp only [setRow, look_putA] at h1
      split at h1
      · rename_i e
        subst e
        injection h1 with h1
        subst h1
        have key : stampAt a p' = u ∧ (hdr = true → p'.length ≤ p.length) := by
          cases p' with
          | nil => exact ⟨h3, fun _ => Nat.zero_le _⟩
          | cons c p'' =>
            cases hdr with
            | false => exact ⟨h3, by simp⟩
            | true =>
              simp only [stampAt, cond_true, List.getD, bumpH_get] at h3
              simp only [List.length_cons] at h2
              split at h3
              · rename_i hlt
                exact ⟨by simp only [stampAt, List.getD]; exact h3, fun _ => by simp; omega⟩
              · have : p''.length < a.hv.length := by rw [k3.1]; omega
                simp [this] at h3
                omega
        refine ⟨a, ⟨hV, h2, key.1⟩, rfl, rfl, ?_, fun hi' => ?_⟩
        · cases hdr with
          | false => exact hHf rfl p'
          | true => exact hH p' (not_prefix_of_short (by have := key.2 rfl; simp; omega))
        · refine InR_upd p a.e a.el a.data q _ p' hq hin hi' (fun s hs hs' => InR_set hi ht hs' ?_)
          cases hdr with
          | false => exact .inl (hflat rfl)
          | true =>
            right
            have := key.2 rfl
            rw [hs] at this
            simp at this
            exact List.eq_nil_of_length_eq_zero (by omega)
      · rename_i e
        obtain ⟨m1, m2, _⟩ := harO r' e a' h1
        exact ⟨a', ⟨m1, h2, h3⟩, rfl, rfl, m2 p', fun h => h⟩
    · simp only [setRow, look_putA] at ha
      split at ha
      · injection ha with ha
        subst ha
        simp only at hu
        omega
      · rename_i e
        obtain ⟨m1, _, m3⟩ := harO r' e a' ha
        exact ⟨a', m1, rfl, fun b p hp => by obtain ⟨n1, n2⟩ := m3 b p hp; exact ⟨⟨p, n1⟩, n2⟩⟩
  refine ⟨hL, hR.step hL (fun t v hv => ?_) (fun b x hx => ?_) (fun b b' x x' h h' hne => ?_) (fun r' a' ha => ?_) hlive hhdr⟩
  · show AOK _ _ _ (stg.sl.get t) _
    rw [g2]
    exact AOK_mono hL _ _ (hR.slots t v hv)
  · have hx' : look st.bx b = some x := by rw [← g1]; exact hx
    obtain ⟨m1, m2⟩ := hBx _ (hR.boxes b x hx').2.1
    exact .inl ⟨hx', hB b, m2, m1⟩
  · rw [hB, hB]
    exact hR.apartB b b' x x' (by rw [← g1]; exact h) (by rw [← g1]; exact h') hne
  · simp only [setRow, look_putA] at ha
    split at ha
    · rename_i e
      subst e
      injection ha with ha
      subst ha
      refine .inr ⟨?_, ?_, ⟨?_, fun u hu => ?_⟩, hrow⟩
      · show a.uid < stg.ctr + 1; omega
      · show stg.ctr < stg.ctr + 1; omega
      · cases hdr
        · exact k3.1
        · simp only [cond_true, bumpH_length]; exact k3.1
      · show u < stg.ctr + 1
        cases hdr with
        | false => have := k3.2 u hu; omega
        | true =>
          simp only [cond_true] at hu
          rcases bumpH_mem hu with rfl | hu
          · omega
          · have := k3.2 u hu; omega
    · rename_i e
      exact .inl (harO r' e a' ha)
end
end Go.Eng

namespace Go.Eng
def strip : Path → Path → Option Path
  | [], s => some s
  | _ :: _, [] => none
  | c :: p, d :: s => if c = d then strip p s else none
theorem strip_app : ∀ (p s : Path), strip p (p ++ s) = some s
  | [], _ => rfl
  | c :: p, s => by simp [strip, strip_app p s]
theorem strip_none : ∀ (p s : Path), ¬ p <+: s → strip p s = none
  | [], s, h => absurd (List.nil_prefix) h
  | _ :: _, [], _ => rfl
  | c :: p, d :: s, h => by
    simp only [strip]
    split
    · rename_i e
      subst e
      exact strip_none p s (fun hh => h (by simpa using hh))
    · rfl
/-- array q becomes what lies at p in r -/
def Gh.into (G : Gh) (q r : Nat) (p : Path) : Gh :=
  { own := fun b => match G.own b with
      | .arr r1 s => if r1 = q then .arr r (p ++ s) else .arr r1 s
      | T => T
    H := fun r1 s => if r1 = r then (match strip p s with | some s' => G.H q s' | none => G.H r s) else G.H r1 s
    B := G.B }
section
variable {P : Program} {w w' : World} {G G' : Gh} {st : St} {sl : Nat → Option Value}
theorem cell_store (P : Program) {g i : Nat} {cur : Array Value} {t : TypeId} {v : Value} (hg : w.heap[g]? = some (.cells cur t (0, 0))) (hi : i < cur.size) (h1 : v.oneCell' = true) :
    (store ⟨g, i, none⟩ v).run P w = .ok () (w.setRow g (cur.setIfInBounds i v)) := by
  have hcell : w.cell? ⟨g, i, none⟩ = some cur[i] := by simp [World.cell?, hg, hi]
  have hfro : w.frozen? ⟨g, i, none⟩ = false := by simp [World.frozen?, hg]
  rw [run_store P w _ v _ h1, hcell]
  simp [hfro, setCell_eq_setRow w g i cur t (0, 0) v hg]
/-- a place in a row of ours -/
structure Place (G : Gh) (st : St) (r u : Nat) (p : Path) (k i : Nat) (b o : Nat) : Prop where
  ex : ∃ a t, Valid st r u p a ∧ tyAt a.e a.el p = some t ∧ InR a.el a.data p ∧ k = t.2.length ∧ ∃ n c, G.H r p = .slice (some ⟨b, o, none⟩) n c ∧ i < n
theorem fill_eq {p : Path} {S : List Path} (h : fill p S = true) : S = [] ∨ S = [p] := by
  unfold fill at h
  split at h
  · exact .inl rfl
  · rename_i q
    right
    have : ∀ (a b : Path), samePos a b = true → a = b := by
      intro a
      induction a with
      | nil => intro b hb; cases b with
        | nil => rfl
        | cons _ _ => simp [samePos] at hb
      | cons c a ih =>
        intro b hb
        cases b with
        | nil => simp [samePos] at hb
        | cons d b =>
          obtain ⟨c1, c2⟩ := c
          obtain ⟨d1, d2⟩ := d
          simp only [samePos, Bool.and_eq_true] at hb
          rw [Nat.eq_of_beq_eq_true hb.1, Nat.eq_of_beq_eq_true hb.2.1, ih b hb.2.2]
    rw [this p q h]
  · simp at h
theorem wr_core (hR : Rel w G st sl) {r u k : Nat} {p : Path} {i j : Nat} {b o : Nat} (hP : Place G st r u p k i b o) {a : Arr} {q : TypeId × List LT × List D} {t : LT} {v : Value} {d : D} {hdr : Bool} {stg : St}
    (hV : Valid st r u p a) (hab : ∀ s, s ∈ a.stale → p.length < s.length) (hq : rowAt a.e a.el a.data p = some q) (ht : q.2.1[j]? = some t) (h1 : v.oneCell' = true)
    (hg : stg.bx = st.bx ∧ stg.sl = st.sl ∧ stg.ctr = st.ctr)
    (hstg : ∀ r', r' ≠ r → ∀ a', look stg.ar r' = some a' → look st.ar r' = some a' ∧ (∀ p, G'.H r' p = G.H r' p) ∧ ∀ b p, G.own b = .arr r' p → G'.own b = .arr r' p)
    (hB : ∀ b, G'.B b = G.B b) (hown : ∀ b, (∀ r p, G.own b ≠ .arr r p) → G'.own b = G.own b) (hownr : ∀ b p, G.own b = .arr r p → G'.own b = .arr r p) (harr : ∀ b r p, G.own b = .arr r p → ∃ r' p', G'.own b = .arr r' p')
    (hH : ∀ s, ¬ (p ++ [(i, j)]) <+: s → G'.H r s = G.H r s) (hHf : hdr = false → ∀ s, G'.H r s = G.H r s)
    (hst : hdr = true → ∀ s, s ∈ a.stale → (p ++ [(i, j)]) <+: s) (hflat : hdr = false → ownLT t = false) (hhdr : ∀ r p, ∃ a n c, G'.H r p = .slice a n c)
    (hv : ∀ w', (∀ b, G.own b ≠ .arr r p → w'.heap[b]? = w.heap[b]?) → ArL w' G' (bif hdr then [] else a.stale) r t (p ++ [(i, j)]) v d) :
    ∃ w', (∀ P : Program, (store ⟨b, o + i * k + j, none⟩ v).run P w = .ok () w') ∧ Fr w G w' G' ∧ Le w G st w' G' (setRow stg r a p i j q.2.1.length d hdr) ∧ Rel w' G' (setRow stg r a p i j q.2.1.length d hdr) sl ∧
      Place G' (setRow stg r a p i j q.2.1.length d hdr) r (stampOf (setRow stg r a p i j q.2.1.length d hdr) r p) p k i b o := by
  obtain ⟨a', t', e1, e2, e3, e4, n, c, e5, e6⟩ := hP.ex
  have : a' = a := by have h1 := e1.1; rw [hV.1] at h1; injection h1 with h1; exact h1.symm
  subst this
  have hty := rowAt_ty hq
  rw [e2] at hty
  have hk : k = q.2.1.length := by rw [e4]; injection hty with hty; rw [hty]
  obtain ⟨k1, k2, k3, k4⟩ := hR.arrs r a' hV.1
  have hrow := row_at k4 hq e3 (fun s hs => by have := hab s hs; simp; exact this)
  simp only [List.nil_append] at hrow
  have hrow0 := hrow
  obtain ⟨ad, n', c', m1, m2, m3, m4, m5, m6⟩ := hrow
  rw [e5] at m1
  injection m1 with m1a m1b m1c
  subst m1a; subst m1b; subst m1c
  obtain ⟨f1, f2, cs, e0, f3, f4, f5⟩ := m6 _ rfl
  simp only at f2 f3 f4
  have hjl : j < q.2.1.length := (List.getElem?_eq_some_iff.1 ht).1
  have hidx : o + i * k + j < cs.size := by
    have h1 : (i + 1) * q.2.1.length ≤ c * q.2.1.length := Nat.mul_le_mul_right _ (by omega)
    rw [Nat.add_mul, Nat.one_mul] at h1
    rw [hk]
    omega
  have hother : ∀ m, m ≠ b → (w.setRow b (cs.setIfInBounds (o + i * k + j) v)).heap[m]? = w.heap[m]? := fun m hm => setRow_other w b m _ hm
  have hsame := setRow_heap w b cs (cs.setIfInBounds (o + i * k + j) v) e0 (0, 0) f3
  have hnb : ∀ m, G.own m ≠ .arr r p → m ≠ b := fun m hm e => hm (by rw [e]; exact f2)
  have hheap : ∀ m, G.own m ≠ .arr r p → (w.setRow b (cs.setIfInBounds (o + i * k + j) v)).heap[m]? = w.heap[m]? := fun m hm => hother m (hnb m hm)
  have hfz : ∀ b', G.own b' = .fz → G'.own b' = .fz ∧ (w.setRow b (cs.setIfInBounds (o + i * k + j) v)).heap[b']? = w.heap[b']? := fun b' hb' => ⟨(hown b' (by rw [hb']; simp)).trans hb', hheap b' (by rw [hb']; simp)⟩
  have hBL : BesideLeaf w G a'.stale r p (i, j) (w.setRow b (cs.setIfInBounds (o + i * k + j) v)) G' (bif hdr then [] else a'.stale) := by
    refine ⟨hfz, hH, fun s hs hns b' hb' => ⟨hownr b' s hb', hheap b' (by rw [hb']; intro e; injection e with _ e; exact hs e)⟩, fun b' hb' => hownr b' p hb', fun s hs hm => ?_⟩
    cases hdr with
    | false => exact hm
    | true => exact absurd (hst rfl s hm) hs
  have hset := Row_set (e := q.1) (d := d) hBL e5 hrow0 f3 hsame (by simp) (by omega) ht (v := v) (by rw [← hk]; simp [hidx]) (fun m hm => by rw [← hk] at hm; simp [Ne.symm hm]) (hv _ hheap)
  have hH0 : G'.H r [] = G.H r [] := hH [] (not_prefix_of_short (by simp))
  have hupd := Row_upd p [] a'.e a'.el a'.data q (fun data => data.set i (setLf q.2.1.length (data.getD i (.i 0)) j d)) (by simpa using hBL.row) k4 hq e3 (fun s hs => by have := hab s hs; simp; exact this) (by simpa using hset)
  rw [← hH0] at hupd
  obtain ⟨hL, hR'⟩ := leaf_step hR hV.1 (stg := stg) (d := d) (hdr := hdr) hg (fun r' hr' a1 ha1 => by
      obtain ⟨n1, n2, n3⟩ := hstg r' hr' a1 ha1
      exact ⟨n1, n2, fun b' p' hb' => ⟨n3 b' p' hb', hheap b' (by rw [hb']; intro e; injection e with e; exact hr' e)⟩⟩)
    (fun b' hb' => ⟨(hown b' (by rw [hb']; simp)).trans hb', hheap b' (by rw [hb']; simp)⟩) hB hfz hH hHf hq e3 (by omega) ht hflat hupd
    (fun b' hb' => by
      rw [size_setRow]
      refine hR.live b' (fun ho => hb' ?_)
      rw [hown b' (by rw [ho]; simp), ho]) hhdr
  refine ⟨_, fun P => cell_store P f3 hidx h1, ⟨rfl, rfl, rfl, by simp, fun b' _ hb' => ⟨hheap b' (by rcases hb' with hb' | hb' <;> rw [hb'] <;> simp), hown b' (by rcases hb' with hb' | hb' <;> rw [hb'] <;> simp)⟩, fun b _ _ => hB b⟩, hL, hR', ?_⟩
  refine ⟨{ a' with data := updRow a'.el a'.data p (fun data => data.set i (setLf q.2.1.length (data.getD i (.i 0)) j d)), stale := bif hdr then [] else a'.stale, dv := stg.ctr, hv := bif hdr then bumpH stg.ctr p.length a'.hv else a'.hv }, t', ⟨by simp [setRow, look_putA], hV.2.1, ?_⟩, e2, ?_, e4, n, c, ?_, e6⟩
  · simp [stampOf, setRow, look_putA]
  · exact InR_upd p a'.e a'.el a'.data q _ p hq e3 e3 (fun s hs hs' => InR_set (by omega) ht hs' (.inr (by
      have := congrArg List.length hs
      simp at this
      exact this)))
  · rw [hH p (not_prefix_of_short (by simp))]
    exact e5
/-- the same, where the tags stay -/
theorem wr_flat (hR : Rel w G st sl) {r u k : Nat} {p : Path} {i j : Nat} {b o : Nat} (hP : Place G st r u p k i b o) {a : Arr} {q : TypeId × List LT × List D} {t : LT} {v : Value} {d : D}
    (hV : Valid st r u p a) (hab : ∀ s, s ∈ a.stale → p.length < s.length) (hq : rowAt a.e a.el a.data p = some q) (ht : q.2.1[j]? = some t) (h1 : v.oneCell' = true) (hflat : ownLT t = false)
    (hv : ∀ w', (∀ b, G.own b = .fz → w'.heap[b]? = w.heap[b]?) → FzL w' (fun b => G.own b = .fz) t v d) :
    ∃ w' G', (∀ P : Program, (store ⟨b, o + i * k + j, none⟩ v).run P w = .ok () w') ∧ Fr w G w' G' ∧ Le w G st w' G' (setRow st r a p i j q.2.1.length d false) ∧ Rel w' G' (setRow st r a p i j q.2.1.length d false) sl ∧
      Place G' (setRow st r a p i j q.2.1.length d false) r (stampOf (setRow st r a p i j q.2.1.length d false) r p) p k i b o := by
  obtain ⟨w', h⟩ := wr_core (G' := G) (stg := st) (hdr := false) hR hP (d := d) hV hab hq ht h1 ⟨rfl, rfl, rfl⟩ (fun r' _ a' h => ⟨h, fun _ => rfl, fun _ _ h => h⟩) (fun _ => rfl) (fun _ _ => rfl) (fun _ _ h => h) (fun b r p h => ⟨r, p, h⟩) (fun _ _ => rfl) (fun _ _ => rfl)
    (by simp) (fun _ => hflat) hR.hdr (fun w' hw' => by
      have := hv w' (fun b hb => hw' b (by rw [hb]; simp))
      cases t with
      | int k => exact this
      | bool => exact this
      | str => exact this
      | sl ow e el =>
        cases ow with
        | false => exact this
        | true => simp [ownLT] at hflat)
  exact ⟨w', G, h⟩
theorem into_hdr (hR : Rel w G st sl) (q r : Nat) (p : Path) : ∀ r1 s, ∃ a n c, (G.into q r p).H r1 s = .slice a n c := by
  intro r1 s
  simp only [Gh.into]
  split
  · split
    · exact hR.hdr _ _
    · exact hR.hdr _ _
  · exact hR.hdr _ _
theorem wrLeaf_sound (hR : Rel w G st sl) {r u k : Nat} {p : Path} {i j : Nat} {b o : Nat} (hP : Place G st r u p k i b o) {x : A} {v : Value} (hx : AOK w G st x v) {s : St} (h : wrLeaf st r u p i j x = some s) :
    ∃ w' G', (∀ P : Program, (store ⟨b, o + i * k + j, none⟩ v).run P w = .ok () w') ∧ Fr w G w' G' ∧ Le w G st w' G' s ∧ Rel w' G' s sl ∧ Place G' s r (stampOf s r p) p k i b o := by
  obtain ⟨a, h1, h2⟩ := bind_some h
  have hV := arrOf_some h1
  cases hab0 : above p.length a.stale with
  | false => simp [hab0, fail] at h2
  | true =>
  have hab := above_mem hab0
  simp only [hab0, Bool.not_true, cond_false] at h2
  obtain ⟨q, h3, h4⟩ := bind_some h2
  have hq : rowAt a.e a.el a.data p = some q := h3
  split at h4
  · rename_i k0 k' n e1
    obtain ⟨g1, g2⟩ := bif_some h4
    simp [ok] at g2
    subst g2
    have := (kindEq_iff k0 k').1 g1
    subst this
    obtain ⟨hx1, hx2⟩ := hx
    subst hx1
    exact wr_flat hR hP hV hab hq e1 rfl rfl (fun w' _ => ⟨rfl, hx2⟩)
  · rename_i bb e1
    simp [ok] at h4
    subst h4
    have hx' : v = .bool bb := hx
    subst hx'
    exact wr_flat hR hP hV hab hq e1 rfl rfl (fun w' _ => rfl)
  · rename_i ss e1
    simp [ok] at h4
    subst h4
    obtain ⟨hx1, hx2⟩ := hx
    subst hx1
    exact wr_flat hR hP hV hab hq e1 rfl rfl (fun w' _ => ⟨rfl, hx2⟩)
  · rename_i e el e' el' xs e1
    obtain ⟨g1, g2⟩ := bif_some h4
    simp [ok] at g2
    subst g2
    simp only [Bool.and_eq_true] at g1
    have := beqL_eq _ _ g1.2
    subst this
    have hf := hx.2 rfl
    have h1c : v.oneCell' = true := by obtain ⟨a', n, c, e, _⟩ := hf; rw [e]; rfl
    exact wr_flat hR hP hV hab hq e1 h1c rfl (fun w' hw' => FzL_mono (fun b hb => by
      have hb' := (okD_nil b).1 hb
      exact ⟨hb', hw' b hb'⟩) _ _ _ hf)
  · rename_i e el e1
    simp [ok] at h4
    subst h4
    have hx' : v = .slice none 0 0 := hx
    subst hx'
    exact wr_flat hR hP hV hab hq e1 rfl rfl (fun w' _ => fz_nil)
  · rename_i e el e1
    obtain ⟨g1, g2⟩ := chk_true h4
    subst g2
    have hx' : v = .slice none 0 0 := hx
    subst hx'
    have hs := fill_eq g1
    have hG : ∀ s, ¬ (p ++ [(i, j)]) <+: s → (if s = p ++ [(i, j)] then Value.slice none 0 0 else G.H r s) = G.H r s := fun s hs => if_neg (fun e => hs (by rw [e]; exact List.prefix_refl _))
    obtain ⟨w', hh⟩ := wr_core (G' := G.hdr r (fun s => if s = p ++ [(i, j)] then .slice none 0 0 else G.H r s)) (stg := st) (hdr := true) hR hP (d := .l []) hV hab hq e1 rfl ⟨rfl, rfl, rfl⟩
      (fun r' hr' a' h => ⟨h, fun _ => by simp [Gh.hdr, hr'], fun _ _ h => h⟩) (fun _ => rfl) (fun _ _ => rfl) (fun _ _ h => h) (fun b r p h => ⟨r, p, h⟩)
      (fun s hs => by simp only [Gh.hdr, if_true]; exact hG s hs) (by simp)
      (fun _ s hm => by
        rcases hs with hs | hs
        · rw [hs] at hm; simp at hm
        · rw [hs] at hm; simp at hm; rw [hm]; exact List.prefix_refl _) (by simp) (fun r1 s => by
        by_cases hr1 : r1 = r
        · by_cases hss : s = p ++ [(i, j)]
          · exact ⟨none, 0, 0, by simp [Gh.hdr, hr1, hss]⟩
          · obtain ⟨a', n', c', e⟩ := hR.hdr r s
            exact ⟨a', n', c', by simp [Gh.hdr, hr1, hss, e]⟩
        · obtain ⟨a', n', c', e⟩ := hR.hdr r1 s
          exact ⟨a', n', c', by simp [Gh.hdr, hr1, e]⟩) (fun w' _ => ArL_own.2 (.inr ⟨by simp [Gh.hdr], none, 0, 0, rfl, rfl, Nat.le_refl _, Nat.zero_le _, fun _ => rfl, by simp⟩))
    exact ⟨w', _, hh⟩
  · rename_i e el q' u' e1
    cases hqr : Nat.beq q' r with
    | true => simp [hqr, fail] at h4
    | false =>
      have hqr' : q' ≠ r := fun e => by rw [e, beqt] at hqr; simp at hqr
      simp only [hqr, cond_false] at h4
      obtain ⟨bq, g1, g2⟩ := bind_some h4
      obtain ⟨g3, g4⟩ := bif_some g2
      have hVq := arrOf_some g1
      cases hst : bq.stale with
      | cons _ _ => simp [hst, fail] at g4
      | nil =>
        simp only [hst] at g4
        obtain ⟨g5, g6⟩ := chk_true g4
        subst g6
        simp only [Bool.and_eq_true] at g3
        have he := Nat.eq_of_beq_eq_true g3.1
        have hel := beqL_eq _ _ g3.2
        have hs := fill_eq g5
        obtain ⟨_, hx2⟩ := hx
        obtain ⟨hv, _, _⟩ := hx2 bq hVq
        obtain ⟨_, _, _, hrowq⟩ := hR.arrs q' bq hVq.1
        rw [hst] at hrowq
        have h1c : v.oneCell' = true := by obtain ⟨a', n, c, e⟩ := hR.hdr q' []; rw [hv, e]; rfl
        have hHin : ∀ s, (G.into q' r (p ++ [(i, j)])).H r (p ++ [(i, j)] ++ s) = G.H q' s := fun s => by simp only [Gh.into, if_true, strip_app]
        obtain ⟨w', hh⟩ := wr_core (G' := G.into q' r (p ++ [(i, j)])) (stg := st.gone q') (hdr := true) hR hP (d := .l bq.data) hV hab hq e1 h1c ⟨rfl, rfl, rfl⟩
          (fun r' hr' a' h => by
            simp only [St.gone, look_dropA] at h
            split at h
            · simp at h
            · rename_i hne
              exact ⟨h, fun _ => by simp [Gh.into, hr'], fun b s hb => by simp [Gh.into, hb, hne]⟩) (fun _ => rfl)
          (fun b' hb' => by
            cases ho : G.own b' with
            | arr r1 s => exact absurd ho (hb' r1 s)
            | out => simp [Gh.into, ho]
            | fz => simp [Gh.into, ho]
            | box => simp [Gh.into, ho])
          (fun b' s hb' => by simp [Gh.into, hb', Ne.symm hqr'])
          (fun b' r1 s hb' => by
            simp only [Gh.into, hb']
            split
            · exact ⟨_, _, rfl⟩
            · exact ⟨_, _, rfl⟩)
          (fun s hs => by simp only [Gh.into, if_true, strip_none _ _ hs]) (by simp)
          (fun _ s hm => by
            rcases hs with hs | hs
            · rw [hs] at hm; simp at hm
            · rw [hs] at hm; simp at hm; rw [hm]; exact List.prefix_refl _) (by simp) (into_hdr hR q' r _)
          (fun w' hw' => by
            refine ArL_own.2 (.inr ⟨?_, ?_⟩)
            · have := hHin []
              rw [List.append_nil] at this
              rw [this]; exact hv
            · have hrow' : Row w' (G.into q' r (p ++ [(i, j)])) [] r bq.e bq.el (p ++ [(i, j)]) (G.H q' []) bq.data := by
                refine Row_mono (r := q') (p := []) (fun b' hb' => ⟨by simp [Gh.into, hb'], hw' b' (by rw [hb']; simp)⟩) (fun s _ => .inr ⟨hHin s, fun b' hb' => ⟨?_, hw' b' ?_⟩⟩) (by simp) hrowq
                · have hb'' : G.own b' = .arr q' s := by simpa using hb'
                  simp [Gh.into, hb'']
                · rw [show G.own b' = .arr q' s by simpa using hb']
                  intro e
                  injection e with e
                  exact hqr' e
              rw [hv, ← he, hel]
              exact hrow')
        exact ⟨w', _, hh⟩
  · simp [fail] at h4
theorem wrLeaves_sound {r k : Nat} {p : Path} {i b o off : Nat} : ∀ {l : List A} {vs : List Value} {w : World} {G : Gh} {st : St} {u : Nat} {s : St} (idx : Nat), Rel w G st sl → Place G st r u p k i b o → AOKs w G st l vs →
    wrLeaves st r u p i (off + idx) l = some s → ∃ w' G', (∀ P : Program, (storeCells ⟨b, o + i * k + off, none⟩ vs idx).run P w = .ok () w') ∧ Fr w G w' G' ∧ Le w G st w' G' s ∧ Rel w' G' s sl ∧ Place G' s r (stampOf s r p) p k i b o
  | [], vs, w, G, st, u, s, idx, hR, hP, hl, h => by
    have : vs = [] := hl
    subst this
    simp [wrLeaves, ok] at h
    subst h
    refine ⟨w, G, fun P => rfl, Fr.refl w G, Le.refl w G st, hR, ?_⟩
    obtain ⟨a, t, e1, e2⟩ := hP.ex
    exact ⟨a, t, ⟨e1.1, e1.2.1, by simp [stampOf, e1.1]⟩, e2⟩
  | x :: l, vs, w, G, st, u, s, idx, hR, hP, ⟨v, vs', e, hx, hl⟩, h => by
    subst e
    simp only [wrLeaves] at h
    obtain ⟨s1, h1, h2⟩ := bind_some h
    obtain ⟨w1, G1, g1, g2, g3, g4, g5⟩ := wrLeaf_sound hR hP hx h1
    obtain ⟨w2, G2, k1, k2, k3, k4, k5⟩ := wrLeaves_sound (idx + 1) g4 g5 (AOKs_mono g3 _ _ hl) (by rw [← Nat.add_assoc]; exact h2)
    refine ⟨w2, G2, fun P => ?_, g2.trans k2, g3.trans k3, k4, k5⟩
    have := g1 P
    simp only [storeCells, Sem.run_bind, add_none, ← Nat.add_assoc] at this ⊢
    rw [this]
    exact k1 P
theorem does_store {E : Env} (hE : EnvOk P E) (hR : Rel w G st sl) {act : Act} {t : TypeId} {p x : Operand} (hp : AOK w G st (evO st.sl p) (act.eval p)) (hx : AOK w G st (evO st.sl x) (act.eval x)) {d : Nat} {s : St}
    (h : ((sizeTy E t).bind fun n => opStore st n (evO st.sl p) (evO st.sl x)) = some s) : ∀ ot : Oper, ot.op = .store t p x → ∃ w' G', (execOp act.eval ot).run P w = .ok .skip w' ∧ Fr w G w' G' ∧ Le w G st w' G' s ∧ Rel w' G' s sl := by
  intro ot ho
  obtain ⟨n, h1, h2⟩ := bind_some h
  have hsz : (sizeOf t).run P w = .ok n w := by
    unfold sizeTy at h1
    split at h1
    · rename_i ti hti
      simp [ok] at h1
      subst h1
      exact (hE.types t ti hti).sizeOf
    · obtain ⟨e, h3, h4⟩ := bind_some h1
      simp [ok] at h4
      subst h4
      obtain ⟨i, g1, g2⟩ := (hE.ptrs t e h3).2
      simp [sizeOf, typeInfo, g1, g2]
  unfold opStore at h2
  obtain ⟨h3, h4⟩ := bif_some h2
  simp only [Bool.and_eq_true] at h3
  obtain ⟨hv, h5⟩ := valid_of h4
  have hlen := Nat.eq_of_beq_eq_true h3.2
  obtain ⟨vs, g1, g2⟩ := leaves_sound hR h3.1 hx
  have hvl := (AOKs_iff.1 g2).1
  have hrun : ∀ (a : Addr) (w' : World), act.eval p = .pointer (some a) → (storeCells a vs).run P w = .ok () w' → (execOp act.eval ot).run P w = .ok .skip w' := fun a w' ha hr => by
    have hn : ¬ ((⟨vs⟩ : Array Value).size ≠ n) := by simp; omega
    simp [execOp, ho, Instr.storeAt, ha, Instr.sureAddr, storeVar, g1, hsz, hr]
    omega
  cases hpe : evO st.sl p with
  | pb b u off =>
    rw [hpe] at h5 hp
    simp only [storeA] at h5
    obtain ⟨w', k1, k2, k3, k4⟩ := setBox_sound hR h5 g2
    obtain ⟨lv, m1, _⟩ := bind_some h5
    obtain ⟨y, n1, n2, _⟩ := boxOf_some m1
    have := hp.2 y n1 n2
    exact ⟨w', G, hrun _ w' this (k1 P), k2, k3, k4⟩
  | pa r u q k i off =>
    rw [hpe] at h5 hp hv
    simp only [storeA] at h5
    simp only [valid] at hv
    cases ha : arrOf st r u q with
    | none => simp [ha] at hv
    | some a =>
      have hV := arrOf_some ha
      obtain ⟨t', e1, e2, e3, b, o, n', c, e4, e5, e6⟩ := hp.2 a hV
      obtain ⟨w', G', k1, k2, k3, k4, _⟩ := wrLeaves_sound (off := off) 0 hR ⟨a, t', hV, e1, e2, e3, n', c, e4, e5⟩ g2 h5
      exact ⟨w', G', hrun _ w' e6 (k1 P), k2, k3, k4⟩
  | _ => rw [hpe] at h5; simp [storeA, fail] at h5
end
end Go.Eng

namespace Go.Eng
theorem hv4_get (u n : Nat) (h : n < 4) : (hv4 u).getD n 0 = u := by
  match n, h with
  | 0, _ => rfl
  | 1, _ => rfl
  | 2, _ => rfl
  | 3, _ => rfl
  | n + 4, h => omega
section
variable {P : Program} {w w' : World} {G G' : Gh} {st stg : St} {sl : Nat → Option Value}
/-- n' elements, from the l-th on, of a row: their cells lie in w' from o' on in block b' -/
theorem Row_copy {r d : Nat} {p : Path} {e e1 : TypeId} {el : List LT} {v : Value} {data data' : List D} {l n' c' b' o' : Nat} {cs' : Array Value} {e0' : TypeId}
    (hrow : Row w G [] r e el p v data) (hl : data'.length = n') (hle : l + n' ≤ data.length) (hdat : ∀ i, i < n' → data'.getD i (.i 0) = data.getD (l + i) (.i 0))
    (hc : n' ≤ c') (hm : c' ≤ maxLen) (hb' : w'.heap[b']? = some (.cells cs' e0' (0, 0))) (hown : G'.own b' = .arr d []) (hsz : o' + c' * el.length ≤ cs'.size)
    (hcell : ∀ b o n c, v = .slice (some ⟨b, o, none⟩) n c → ∀ m, m < n' * el.length → cs'[o' + m]? = (w.cell? ⟨b, o + l * el.length + m, none⟩))
    (hfz : ∀ b, G.own b = .fz → G'.own b = .fz ∧ w'.heap[b]? = w.heap[b]?)
    (hsub : ∀ i j q, i < n' → G'.H d ((i, j) :: q) = G.H r (p ++ (l + i, j) :: q) ∧ ∀ b, G.own b = .arr r (p ++ (l + i, j) :: q) → G'.own b = .arr d ((i, j) :: q) ∧ w'.heap[b]? = w.heap[b]?) :
    Row w' G' [] d e1 el [] (.slice (some ⟨b', o', none⟩) n' c') data' := by
  obtain ⟨a, n, c, h1, h2, h3, h4, h5, h6⟩ := hrow
  refine ⟨_, n', c', rfl, hl, hc, hm, by simp, fun ad had => ?_⟩
  injection had with had
  subst had
  refine ⟨rfl, hown, cs', e0', hb', hsz, fun i hi => ?_⟩
  cases a with
  | none => have := h5 rfl; omega
  | some ad =>
    obtain ⟨g1, g2, cs, e0, g3, g4, g5⟩ := h6 ad rfl
    obtain ⟨b, o, sp⟩ := ad
    simp only at g1
    subst g1
    simp only at g2 g3 g4 g5 ⊢
    have hel := ArC_get (g5 (l + i) (by omega))
    refine ArC_of el 0 (fun j t ht => ?_)
    have hj : j < el.length := (List.getElem?_eq_some_iff.1 ht).1
    obtain ⟨u, m1, m2⟩ := hel j t ht
    simp only [Nat.zero_add] at m1 m2 ⊢
    refine ⟨u, ?_, ?_⟩
    · have hlt : i * el.length + j < n' * el.length := by
        have : (i + 1) * el.length ≤ n' * el.length := Nat.mul_le_mul_right _ hi
        rw [Nat.add_mul, Nat.one_mul] at this
        omega
      have := hcell b o n c h1 _ hlt
      have hx : w'.cell? ⟨b', o' + i * el.length + j, none⟩ = cs'[o' + (i * el.length + j)]? := by simp [World.cell?, hb', Nat.add_assoc]
      rw [hx, this, ← m1, Nat.add_mul]
      congr 2
      omega
    · rw [hdat i hi]
      refine ArL_mono hfz t (p ++ [(l + i, j)]) ([] ++ [(i, j)]) u _ (fun q _ => .inr ?_) (by simp) m2
      have := hsub i j q hi
      simpa using this
/-- what has become of another array -/
structure Left (w : World) (G : Gh) (st : St) (w' : World) (G' : Gh) (stg : St) (r : Nat) (a' : Arr) : Prop where
  ex : ∃ a, look st.ar r = some a ∧ a'.e = a.e ∧ a'.el = a.el ∧ a'.uid < stg.ctr ∧ (a'.hv.length = 4 ∧ ∀ u, u ∈ a'.hv → u < stg.ctr) ∧ a'.dv < stg.ctr ∧ st.ctr ≤ a'.dv ∧
    (∀ u p, u < st.ctr → p.length ≤ 4 → stampAt a' p = u → stampAt a p = u ∧ G'.H r p = G.H r p ∧ (InR a.el a.data p → InR a'.el a'.data p)) ∧ Row w' G' a'.stale r a'.e a'.el [] (G'.H r []) a'.data
theorem newArr_step (hR : Rel w G st sl) {d : Nat} {e : TypeId} {el : List LT} {data : List D} (hg : stg.bx = st.bx ∧ stg.sl = st.sl ∧ st.ctr ≤ stg.ctr)
    (harO : ∀ r, r ≠ d → ∀ a, look stg.ar r = some a → (look st.ar r = some a ∧ (∀ p, G'.H r p = G.H r p) ∧ ∀ b p, G.own b = .arr r p → G'.own b = .arr r p ∧ w'.heap[b]? = w.heap[b]?) ∨ Left w G st w' G' stg r a)
    (hBx : ∀ b, G.own b = .box → G'.own b = .box ∧ w'.heap[b]? = w.heap[b]?) (hB : ∀ b, G'.B b = G.B b)
    (hfz : ∀ b, G.own b = .fz → G'.own b = .fz ∧ w'.heap[b]? = w.heap[b]?) (hrow : Row w' G' [] d e el [] (G'.H d []) data)
    (hlive : ∀ b, G'.own b ≠ .out → b < w'.heap.size) (hhdr : ∀ r p, ∃ a n c, G'.H r p = .slice a n c) :
    Le w G st w' G' (stg.newArr d e el data) ∧ Rel w' G' (stg.newArr d e el data) sl := by
  obtain ⟨g1, g2, g3⟩ := hg
  have hL : Le w G st w' G' (stg.newArr d e el data) := by
    refine ⟨by show st.ctr ≤ stg.ctr + 1; omega, fun r u p a' hu ha => ?_, fun b x' hu hx => ⟨x', by rw [← g1]; exact hx, rfl, hB b⟩, fun r a' hu ha => ?_, hfz⟩
    · obtain ⟨h1, h2, h3⟩ := ha
      simp only [St.newArr, look_putA] at h1
      split at h1
      · injection h1 with h1
        subst h1
        exfalso
        cases p with
        | nil => simp only [stampAt] at h3; omega
        | cons c p =>
          simp only [stampAt] at h3
          simp only [List.length_cons] at h2
          have h4 := hv4_get stg.ctr p.length (by omega)
          omega
      · rename_i hne
        rcases harO r hne a' h1 with ⟨m1, m2, m3⟩ | hh
        · exact ⟨a', ⟨m1, h2, h3⟩, rfl, rfl, m2 p, fun h => h⟩
        · obtain ⟨a, m1, m2, m3, m4, m5, m6, m7, m8, m9⟩ := hh.ex
          obtain ⟨n1, n2, n3⟩ := m8 u p hu h2 h3
          exact ⟨a, ⟨m1, h2, n1⟩, m2, m3, n2, n3⟩
    · simp only [St.newArr, look_putA] at ha
      split at ha
      · injection ha with ha
        subst ha
        simp only at hu
        omega
      · rename_i hne
        rcases harO r hne a' ha with ⟨m1, m2, m3⟩ | hh
        · exact ⟨a', m1, rfl, fun b p hp => by obtain ⟨n1, n2⟩ := m3 b p hp; exact ⟨⟨p, n1⟩, n2⟩⟩
        · obtain ⟨a, m1, m2, m3, m4, m5, m6, m7, m8, m9⟩ := hh.ex
          omega
  refine ⟨hL, hR.step hL (fun t v hv => ?_) (fun b x hx => ?_) (fun b b' x x' h h' hne => ?_) (fun r a ha => ?_) hlive hhdr⟩
  · show AOK _ _ _ (stg.sl.get t) _
    rw [g2]
    exact AOK_mono hL _ _ (hR.slots t v hv)
  · have hx' : look st.bx b = some x := by rw [← g1]; exact hx
    obtain ⟨m1, m2⟩ := hBx _ (hR.boxes b x hx').2.1
    exact .inl ⟨hx', hB b, m2, m1⟩
  · rw [hB, hB]
    exact hR.apartB b b' x x' (by rw [← g1]; exact h) (by rw [← g1]; exact h') hne
  · simp only [St.newArr, look_putA] at ha
    split at ha
    · rename_i e
      subst e
      injection ha with ha
      subst ha
      exact .inr ⟨Nat.lt_succ_self _, Nat.lt_succ_self _, ⟨rfl, fun u hu => by simp [hv4] at hu; subst hu; exact Nat.lt_succ_self _⟩, hrow⟩
    · rename_i hne
      rcases harO r hne a ha with h | hh
      · exact .inl h
      · obtain ⟨a0, m1, m2, m3, m4, m5, m6, m7, m8, m9⟩ := hh.ex
        exact .inr ⟨Nat.lt_succ_of_lt m4, Nat.lt_succ_of_lt m6, ⟨m5.1, fun u hu => Nat.lt_succ_of_lt (m5.2 u hu)⟩, m9⟩
/-- the view of a new array -/
theorem view_ok {d : Nat} {a : Arr} (ha : look stg.ar d = some a) (hu : a.uid < stg.ctr) : AOK w G stg (.vw d (stampOf stg d []) []) (G.H d []) := by
  refine ⟨by simp only [stampOf, ha, stampAt]; exact hu, fun a' _ => ⟨rfl, ⟨_, rfl⟩, trivial⟩⟩
theorem newArr_view {d : Nat} {e : TypeId} {el : List LT} {data : List D} : AOK w G (stg.newArr d e el data) (.vw d (stampOf (stg.newArr d e el data) d []) []) (G.H d []) :=
  view_ok (a := { e := e, el := el, data := data, uid := stg.ctr, hv := hv4 stg.ctr, dv := stg.ctr }) (by simp [St.newArr, look_putA]) (Nat.lt_succ_self _)
end
end Go.Eng

namespace Go.Eng
/-- what lay at p in r, from its l-th element on, is now array d, whose header is v -/
def Gh.ren (G : Gh) (r : Nat) (p : Path) (d l : Nat) (v : Value) : Gh :=
  { own := fun b => match G.own b with
      | .arr r1 s => if r1 = r then (match strip p s with
          | some [] => .arr d []
          | some ((i, j) :: q) => if l ≤ i then .arr d ((i - l, j) :: q) else .arr r1 s
          | none => .arr r1 s) else .arr r1 s
      | T => T
    H := fun r1 s => if r1 = d then (match s with | [] => v | (i, j) :: q => G.H r (p ++ (l + i, j) :: q)) else G.H r1 s
    B := G.B }
section
variable {P : Program} {w w' : World} {G G' : Gh} {st : St} {sl : Nat → Option Value}
theorem ren_own {r d l : Nat} {p : Path} {v : Value} (b : Nat) (h : ∀ r p, G.own b ≠ .arr r p) : (G.ren r p d l v).own b = G.own b := by
  cases ho : G.own b with
  | arr r1 s => exact absurd ho (h r1 s)
  | out => simp [Gh.ren, ho]
  | fz => simp [Gh.ren, ho]
  | box => simp [Gh.ren, ho]
theorem ren_out {r d l : Nat} {p : Path} {v : Value} (b : Nat) (h : (G.ren r p d l v).own b ≠ .out) : G.own b ≠ .out := fun ho => h (by simp [Gh.ren, ho])
theorem ren_other {r d l r1 : Nat} {p s : Path} {v : Value} (b : Nat) (hr : r1 ≠ r) (h : G.own b = .arr r1 s) : (G.ren r p d l v).own b = .arr r1 s := by simp [Gh.ren, h, hr]
theorem ren_beside {r d l : Nat} {p s : Path} {v : Value} (b : Nat) (hs : ¬ p <+: s) (h : G.own b = .arr r s) : (G.ren r p d l v).own b = .arr r s := by simp [Gh.ren, h, strip_none p s hs]
theorem ren_in {r d l i j : Nat} {p q : Path} {v : Value} (b : Nat) (h : G.own b = .arr r (p ++ (l + i, j) :: q)) : (G.ren r p d l v).own b = .arr d ((i, j) :: q) := by
  simp [Gh.ren, h, strip_app]
theorem ren_top {r d l : Nat} {p : Path} {v : Value} (b : Nat) (h : G.own b = .arr r p) : (G.ren r p d l v).own b = .arr d [] := by
  have := strip_app p []
  simp at this
  simp [Gh.ren, h, this]
theorem ren_hdr (hR : Rel w G st sl) {r d l : Nat} {p : Path} {v : Value} (hv : ∃ a n c, v = .slice a n c) : ∀ r1 s, ∃ a n c, (G.ren r p d l v).H r1 s = .slice a n c := by
  intro r1 s
  by_cases h : r1 = d
  · cases s with
    | nil => obtain ⟨a, n, c, e⟩ := hv; exact ⟨a, n, c, by simp [Gh.ren, h, e]⟩
    | cons x q => obtain ⟨a, n, c, e⟩ := hR.hdr r (p ++ (l + x.1, x.2) :: q); exact ⟨a, n, c, by simp [Gh.ren, h, e]⟩
  · obtain ⟨a, n, c, e⟩ := hR.hdr r1 s; exact ⟨a, n, c, by simp [Gh.ren, h, e]⟩
/-- the other arrays, when r's row at p is left to d; w': a world in which what is ours has not changed but for the blocks tagged (r, p) -/
theorem leave_left (hR : Rel w G st sl) {r u d l : Nat} {p : Path} {v : Value} {a : Arr} (hV : Valid st r u p a) (hst : a.stale = []) (hin : InR a.el a.data p) {s1 : St} (h : leave st d r p = some s1)
    (hG : ∀ b, G'.own b = (G.ren r p d l v).own b ∨ G.own b = .out) (hH : ∀ r1, r1 ≠ d → ∀ s, G'.H r1 s = G.H r1 s)
    (hw : ∀ b, G.own b ≠ .out → G.own b ≠ .arr r p → w'.heap[b]? = w.heap[b]?) :
    (s1.bx = st.bx ∧ s1.sl = st.sl ∧ st.ctr ≤ s1.ctr) ∧
    ∀ r', r' ≠ d → ∀ a', look s1.ar r' = some a' → (look st.ar r' = some a' ∧ (∀ p, G'.H r' p = G.H r' p) ∧ ∀ b p, G.own b = .arr r' p → G'.own b = .arr r' p ∧ w'.heap[b]? = w.heap[b]?) ∨ Left w G st w' G' s1 r' a' := by
  have hG' : ∀ b r1 s, G.own b = .arr r1 s → G'.own b = (G.ren r p d l v).own b := fun b r1 s hb => by
    rcases hG b with h | h
    · exact h
    · rw [hb] at h; simp at h
  have hother : ∀ r', r' ≠ r → ∀ b p', G.own b = .arr r' p' → G'.own b = .arr r' p' ∧ w'.heap[b]? = w.heap[b]? := fun r' hr b p' hb =>
    ⟨by rw [hG' b r' p' hb]; exact ren_other b hr hb, hw b (by rw [hb]; simp) (by rw [hb]; intro e; injection e with e; exact hr e)⟩
  unfold leave at h
  split at h
  · simp [ok] at h
    subst h
    refine ⟨⟨rfl, rfl, Nat.le_refl _⟩, fun r' hd a' ha => .inl ?_⟩
    simp only [St.gone, look_dropA] at ha
    split at ha
    · simp at ha
    · rename_i hne
      exact ⟨ha, hH r' hd, hother r' hne⟩
  · rename_i c p
    cases hrd : Nat.beq r d with
    | true => simp [hrd, fail] at h
    | false =>
      have hrd' : r ≠ d := fun e => by rw [e, beqt] at hrd; simp at hrd
      simp only [hrd, cond_false, ofO] at h
      obtain ⟨a0, h1, h2⟩ := bind_some h
      rw [hV.1] at h1
      injection h1 with h1
      subst h1
      simp [ok] at h2
      subst h2
      refine ⟨⟨rfl, rfl, Nat.le_succ _⟩, fun r' hd a' ha => ?_⟩
      simp only [look_putA] at ha
      split at ha
      · rename_i hrr
        subst hrr
        injection ha with ha
        subst ha
        right
        obtain ⟨k1, k2, k3, k4⟩ := hR.arrs r' a hV.1
        rw [hst] at k4
        have hfz : ∀ b, G.own b = .fz → G'.own b = .fz ∧ w'.heap[b]? = w.heap[b]? := fun b hb => by
          refine ⟨?_, hw b (by rw [hb]; simp) (by rw [hb]; simp)⟩
          rcases hG b with h | h
          · rw [h, ren_own b (by rw [hb]; simp), hb]
          · rw [hb] at h; simp at h
        refine ⟨a, hV.1, rfl, rfl, Nat.lt_succ_of_lt k1, ⟨by simp only [bumpH_length]; exact k3.1, fun x hx => ?_⟩, Nat.lt_succ_self _, Nat.le_refl _, fun x q hx hq hs => ?_, ?_⟩
        · show x < st.ctr + 1
          rcases bumpH_mem hx with rfl | hx
          · omega
          · have := k3.2 x hx; omega
        · cases q with
          | nil => exact ⟨hs, hH r' hd [], fun h => h⟩
          | cons c' q =>
            refine ⟨?_, hH r' hd _, fun h => h⟩
            simp only [stampAt, List.getD, bumpH_get, List.length_cons] at hs hq ⊢
            split at hs
            · exact hs
            · have : q.length < a.hv.length := by rw [k3.1]; omega
              simp [this] at hs
              omega
        · have hH0 : G'.H r' [] = G.H r' [] := hH r' hd []
          rw [hH0]
          refine Row_mono (r := r') (p := []) (p' := []) hfz (fun q _ => ?_) (by simp) k4
          simp only [List.nil_append]
          by_cases hpq : (c :: p) <+: q
          · exact .inl ⟨c :: p, by simp, hpq, by simp⟩
          · refine .inr ⟨hH r' hd q, fun b hb => ⟨by rw [hG' b r' q hb]; exact ren_beside b hpq hb, hw b (by rw [hb]; simp) ?_⟩⟩
            rw [hb]
            intro e
            injection e with _ e
            exact hpq (by rw [e]; exact List.prefix_refl _)
      · rename_i hne
        exact .inl ⟨ha, hH r' hd, hother r' hne⟩
end
end Go.Eng

namespace Go.Eng
section
variable {P : Program} {w w' : World} {G G' : Gh} {st : St} {sl : Nat → Option Value} {act : Act}
theorem Rel.view {s : St} (hR : Rel w G s sl) {d : Nat} (hv : AOK w G s (.vw d (stampOf s d []) []) (G.H d [])) : Rel w G (s.view d) (updV sl d (G.H d [])) ∧ Le w G s w G (s.view d) :=
  ⟨hR.put hv, Le.put _ _ _ _ _⟩
theorem ren_facts (hR : Rel w G st sl) {r d l : Nat} {p : Path} {v : Value} : (∀ b, G.own b = .box → (G.ren r p d l v).own b = .box ∧ w.heap[b]? = w.heap[b]?) ∧ (∀ b, G.own b = .fz → (G.ren r p d l v).own b = .fz ∧ w.heap[b]? = w.heap[b]?) ∧
    (∀ b, (G.ren r p d l v).own b ≠ .out → b < w.heap.size) ∧ Fr w G w (G.ren r p d l v) :=
  ⟨fun b hb => ⟨by rw [ren_own b (by rw [hb]; simp), hb], rfl⟩, fun b hb => ⟨by rw [ren_own b (by rw [hb]; simp), hb], rfl⟩, fun b hb => hR.live b (ren_out b hb),
    ⟨rfl, rfl, rfl, Nat.le_refl _, fun b _ hb => ⟨rfl, ren_own b (by rcases hb with hb | hb <;> rw [hb] <;> simp)⟩, fun _ _ _ => rfl⟩⟩
theorem cut_sound (hR : Rel w G st sl) {t : TypeId} {ti : TI} (hT : TIok P t ti) (hsl : ti.sl = true) {lo hi : Option Operand} {l h : Option Int} (hl : OptOk act lo l) (hh : OptOk act hi h) {r u d : Nat} {p : Path} {v : Value}
    (hx : AOK w G st (.vw r u p) v) {s : St} (hr : cutA st d ti.ek r u p l h = some s) :
    ∃ nv G', (∀ w', (Instr.sliceAt t v (lo.map act.eval) (hi.map act.eval) none).run P w' = .ok nv w') ∧ Fr w G w G' ∧ Le w G st w G' s ∧ Rel w G' s (updV sl d nv) := by
  obtain ⟨q, h1, h2⟩ := bind_some hr
  obtain ⟨h3, h4⟩ := bif_some h2
  obtain ⟨s1, h5, h6⟩ := bind_some h4
  simp [ok] at h6
  subst h6
  simp only [Bool.and_eq_true] at h3
  have hek := Nat.eq_of_beq_eq_true h3.2
  obtain ⟨a, g1, g2, g3, g4, g5, g6, g7, hrow⟩ := rowOf_sound hR hx h1
  have hrow0 := hrow
  obtain ⟨ad, n, c, k1, k2, k3, k4, k5, k6⟩ := hrow
  obtain ⟨b1, b2, b3⟩ := (bounds_iff _ _ _).1 h3.1
  obtain ⟨i, e1, e2, e3⟩ := hT.sl hsl
  have hb := h3.1
  clear hr h2 h4
  rw [k2] at hb b2 b3 ⊢
  have hrun := fun w => sliceBounds_sound (P := P) (w := w) true hl hh n c k3 hb
  generalize hL0 : (l.getD 0).toNat = L at *
  generalize hH0 : (h.getD (n : Int)).toNat = H at *
  have hLH : L ≤ H := by omega
  have hHn : H ≤ n := by omega
  let nv : Value := .slice (if c = L then ad else ad.map (·.add (L * q.2.2.1.length))) (H - L) (c - L)
  obtain ⟨f1, f2, f3, f4⟩ := ren_facts hR (r := r) (d := d) (l := L) (p := p) (v := nv)
  obtain ⟨hleft1, hleft2⟩ := leave_left hR (w' := w) (G' := G.ren r p d L nv) (v := nv) (l := L) g1 g2 g6 h5 (fun b => .inl rfl) (fun r1 h1 s => by simp [Gh.ren, h1]) (fun _ _ _ => rfl)
  have hnv : ∀ w', (Instr.sliceAt t v (lo.map act.eval) (hi.map act.eval) none).run P w' = .ok nv w' := by
    intro w'
    rw [k1]
    simp [Instr.sliceAt, Instr.slice, run_underlying e1, hrun, Go.sizeOf, typeInfo, e2, e3, hek, nv]
  have hHd : (G.ren r p d L nv).H d [] = nv := by simp [Gh.ren]
  have hnew : Row w (G.ren r p d L nv) [] d q.2.1 q.2.2.1 [] ((G.ren r p d L nv).H d []) ((q.2.2.2.take H).drop L) := by
    rw [hHd]
    have hlen : ((q.2.2.2.take H).drop L).length = H - L := by simp; omega
    cases ad with
    | none =>
      have hc0 := k5 rfl
      refine ⟨none, H - L, c - L, by simp [nv], hlen, by omega, by omega, fun _ => by omega, by simp⟩
    | some ad =>
      obtain ⟨m1, m2, cs, e0, m3, m4, m5⟩ := k6 ad rfl
      obtain ⟨b, o, sp⟩ := ad
      simp only at m1
      subst m1
      simp only at m2 m3 m4 m5
      have hnv' : nv = .slice (some ⟨b, if c = L then o else o + L * q.2.2.1.length, none⟩) (H - L) (c - L) := by
        simp only [nv]
        split <;> simp [add_none]
      rw [hnv']
      have hmul : (c - L) * q.2.2.1.length + L * q.2.2.1.length = c * q.2.2.1.length := by rw [← Nat.add_mul]; congr 1; omega
      refine Row_copy (l := L) hrow0 hlen (by omega) (fun i hi => ?_) (by omega) (by omega) m3 (ren_top b m2) ?_ (fun b' o' n' c' hv' m hm => ?_) f2 (fun i j s hi => ⟨by simp [Gh.ren], fun b' hb' => ⟨ren_in b' hb', rfl⟩⟩)
      · simp only [List.getD, List.getElem?_drop, List.getElem?_take]
        rw [if_pos (by omega)]
      · split
        · rename_i hcl
          have : c - L = 0 := by omega
          rw [this]
          omega
        · omega
      · rw [k1] at hv'
        injection hv' with hv'
        injection hv' with hv'
        injection hv' with hv1 hv2
        subst hv1; subst hv2
        have hne : ¬ c = L := fun e => by
          have : H - L = 0 := by omega
          rw [this] at hm; simp at hm
        simp [World.cell?, m3, hne]
  obtain ⟨hL, hR'⟩ := newArr_step hR (d := d) (e := q.2.1) (el := q.2.2.1) (data := (q.2.2.2.take H).drop L) hleft1 hleft2 f1 (fun _ => rfl) f2 hnew f3 (ren_hdr hR ⟨_, _, _, rfl⟩)
  obtain ⟨v1, v2⟩ := hR'.view (newArr_view (w := w) (G := G.ren r p d L nv) (stg := s1) (d := d) (e := q.2.1) (el := q.2.2.1) (data := (q.2.2.2.take H).drop L))
  rw [hHd] at v1
  exact ⟨nv, _, hnv, f4, hL.trans v2, v1⟩
theorem take_sound (hR : Rel w G st sl) {a : A} {d : Nat} {v : Value} (hx : AOK w G st a v) {s : St} (hr : cutAll st d a = some s) :
    ∃ G', Fr w G w G' ∧ Le w G st w G' s ∧ Rel w G' s (updV sl d v) := by
  unfold cutAll at hr
  split at hr
  · rename_i r u p
    obtain ⟨q, h1, h2⟩ := bind_some hr
    obtain ⟨s1, h5, h6⟩ := bind_some h2
    simp [ok] at h6
    subst h6
    obtain ⟨a, g1, g2, g3, g4, g5, g6, g7, hrow⟩ := rowOf_sound hR hx h1
    have hrow0 := hrow
    obtain ⟨ad, n, c, k1, k2, k3, k4, k5, k6⟩ := hrow
    clear hr h2
    obtain ⟨f1, f2, f3, f4⟩ := ren_facts hR (r := r) (d := d) (l := 0) (p := p) (v := v)
    obtain ⟨hleft1, hleft2⟩ := leave_left hR (w' := w) (G' := G.ren r p d 0 v) (v := v) (l := 0) g1 g2 g6 h5 (fun b => .inl rfl) (fun r1 h1 s => by simp [Gh.ren, h1]) (fun _ _ _ => rfl)
    have hHd : (G.ren r p d 0 v).H d [] = v := by simp [Gh.ren]
    have hnew : Row w (G.ren r p d 0 v) [] d q.2.1 q.2.2.1 [] ((G.ren r p d 0 v).H d []) q.2.2.2 := by
      rw [hHd]
      rw [k1] at hrow0 ⊢
      cases ad with
      | none =>
        have hc0 := k5 rfl
        exact ⟨none, n, c, rfl, k2, k3, k4, fun _ => hc0, by simp⟩
      | some ad =>
        obtain ⟨m1, m2, cs, e0, m3, m4, m5⟩ := k6 ad rfl
        obtain ⟨b, o, sp⟩ := ad
        simp only at m1
        subst m1
        simp only at m2 m3 m4 m5
        refine Row_copy (l := 0) hrow0 k2 (by omega) (fun i hi => by rw [Nat.zero_add]) (by omega) (by omega) m3 (ren_top b m2) ?_ (fun b' o' n' c' hv' m hm => ?_) f2 (fun i j s hi => ⟨by simp [Gh.ren], fun b' hb' => ⟨ren_in b' hb', rfl⟩⟩)
        · omega
        · injection hv' with hv'
          injection hv' with hv'
          injection hv' with hv1 hv2
          subst hv1; subst hv2
          simp [World.cell?, m3]
    obtain ⟨hL, hR'⟩ := newArr_step hR (d := d) (e := q.2.1) (el := q.2.2.1) (data := q.2.2.2) hleft1 hleft2 f1 (fun _ => rfl) f2 hnew f3 (ren_hdr hR ⟨_, _, _, k1⟩)
    obtain ⟨v1, v2⟩ := hR'.view (newArr_view (w := w) (G := G.ren r p d 0 v) (stg := s1) (d := d) (e := q.2.1) (el := q.2.2.1) (data := q.2.2.2))
    rw [hHd] at v1
    exact ⟨_, f4, hL.trans v2, v1⟩
  · simp [fail] at hr
end
end Go.Eng

namespace Go.Eng
theorem zeroV_own (o : Bool) (t : LT) : zeroV (t.setOwn o) = zeroV t := by cases t <;> rfl
theorem zero_own (o : Bool) (t : LT) : (t.setOwn o).zero = t.zero := by cases t <;> rfl
theorem setOwnL_map (o : Bool) : ∀ ts : List LT, setOwnL o ts = ts.map (LT.setOwn o)
  | [] => rfl
  | t :: ts => by simp [setOwnL, setOwnL_map o ts]
theorem zerosD_get : ∀ (ts : List LT) (j : Nat) (t : LT), ts[j]? = some t → (zerosD ts).getD j (.i 0) = t.zero
  | [], _, _, h => by simp at h
  | u :: us, 0, t, h => by simp at h; subst h; rfl
  | u :: us, j + 1, t, h => by rw [zerosD, List.getD_cons_succ]; exact zerosD_get us j t (by simpa using h)
theorem zerosD_length : ∀ ts : List LT, (zerosD ts).length = ts.length
  | [] => rfl
  | _ :: ts => congrArg (· + 1) (zerosD_length ts)
theorem zero_ArL {w : World} {G : Gh} {S : List Path} {r : Nat} {p : Path} (t : LT) (h : G.H r p = .slice none 0 0) : ArL w G S r t p (zeroV t) t.zero := by
  cases t with
  | int k => exact ⟨rfl, lo_le_zero k, zero_le_hi k⟩
  | bool => rfl
  | str => exact ⟨rfl, Nat.zero_le _⟩
  | sl ow e el =>
    cases ow with
    | false => exact fz_nil (o := false) (e := e)
    | true => exact ArL_own.2 (.inr ⟨h.symm, none, 0, 0, rfl, rfl, Nat.le_refl _, Nat.zero_le _, fun _ => rfl, by simp⟩)
/-- an element of zeros -/
theorem zero_ArC {w : World} {G : Gh} {S : List Path} {r : Nat} {p : Path} {i b o : Nat} {el : List LT} (hH : ∀ j, G.H r (p ++ [(i, j)]) = .slice none 0 0)
    (hc : ∀ j t, el[j]? = some t → w.cell? ⟨b, o + j, none⟩ = some (zeroV t)) : ArC w G S r el p i b o el.length (mkE (zerosD el)) 0 := by
  refine ArC_of el 0 (fun j t ht => ?_)
  have hj : j < el.length := (List.getElem?_eq_some_iff.1 ht).1
  rw [Nat.zero_add, lf_mkE (zerosD_length el) j hj, zerosD_get el j t ht]
  exact ⟨_, hc j t ht, zero_ArL t (hH j)⟩
def Gh.fresh (G : Gh) (n d : Nat) (v : Value) : Gh :=
  { own := fun b => if b = n then .arr d [] else G.own b
    H := fun r s => if r = d then (match s with | [] => v | _ :: _ => .slice none 0 0) else G.H r s
    B := G.B }
section
variable {P : Program} {w w' : World} {G G' : Gh} {st : St} {sl : Nat → Option Value} {act : Act}
theorem fresh_hdr (hR : Rel w G st sl) {n d : Nat} {v : Value} (hv : ∃ a n c, v = .slice a n c) : ∀ r1 s, ∃ a m c, (G.fresh n d v).H r1 s = .slice a m c := by
  intro r1 s
  by_cases h : r1 = d
  · cases s with
    | nil => obtain ⟨a, n, c, e⟩ := hv; exact ⟨a, n, c, by simp [Gh.fresh, h, e]⟩
    | cons x q => exact ⟨none, 0, 0, by simp [Gh.fresh, h]⟩
  · obtain ⟨a, n, c, e⟩ := hR.hdr r1 s; exact ⟨a, n, c, by simp [Gh.fresh, h, e]⟩
/-- a new array in a new block -/
theorem fresh_step (hR : Rel w G st sl) (o : Obj) {d : Nat} {e : TypeId} {el : List LT} {data : List D} {v : Value} (hv : ∃ a n c, v = .slice a n c)
    (hrow : Row (w.alloc o) (G.fresh w.heap.size d v) [] d e el [] v data) :
    Fr w G (w.alloc o) (G.fresh w.heap.size d v) ∧ Le w G st (w.alloc o) (G.fresh w.heap.size d v) (st.newArr d e el data) ∧ Rel (w.alloc o) (G.fresh w.heap.size d v) (st.newArr d e el data) sl := by
  have hown : ∀ b, G.own b ≠ .out → (G.fresh w.heap.size d v).own b = G.own b ∧ (w.alloc o).heap[b]? = w.heap[b]? := fun b hb => by
    have := hR.live b hb
    exact ⟨by simp [Gh.fresh, Nat.ne_of_lt this], heap_alloc_old w o b this⟩
  have hHd : (G.fresh w.heap.size d v).H d [] = v := by simp [Gh.fresh]
  obtain ⟨h1, h2⟩ := newArr_step hR (stg := st) (d := d) (e := e) (el := el) (data := data) (w' := w.alloc o) (G' := G.fresh w.heap.size d v) ⟨rfl, rfl, Nat.le_refl _⟩
    (fun r hr a ha => .inl ⟨ha, fun p => by simp [Gh.fresh, hr], fun b p hb => by obtain ⟨g1, g2⟩ := hown b (by rw [hb]; simp); exact ⟨g1.trans hb, g2⟩⟩)
    (fun b hb => by obtain ⟨g1, g2⟩ := hown b (by rw [hb]; simp); exact ⟨g1.trans hb, g2⟩) (fun _ => rfl) (fun b hb => by obtain ⟨g1, g2⟩ := hown b (by rw [hb]; simp); exact ⟨g1.trans hb, g2⟩)
    (by rw [hHd]; exact hrow) (fun b hb => by
      rw [World.size_alloc]
      simp only [Gh.fresh] at hb
      split at hb
      · omega
      · have := hR.live b hb; omega) (fresh_hdr hR hv)
  exact ⟨⟨rfl, rfl, rfl, by simp, fun b hb _ => ⟨heap_alloc_old w o b hb, by simp [Gh.fresh, Nat.ne_of_lt hb]⟩, fun _ _ _ => rfl⟩, h1, h2⟩
theorem lim_iff {n bytes : Nat} (h : lim n bytes = true) : n ≤ 281474976710656 ∧ n * bytes ≤ 140737488355328 := by
  simp only [lim, Bool.and_eq_true] at h
  exact ⟨Nat.le_of_ble_eq_true h.1, Nat.le_of_ble_eq_true h.2⟩
theorem make_sound (hR : Rel w G st sl) {h : Hint} {t : TypeId} {ti te : TI} (hT : TIok P t ti) (hTe : TIok P ti.e te) {n m : Int} {d : Nat} {s : St} (hr : opMake2 h st d n m ti te = some s) :
    ∃ nv w' G', (Instr.makeSlice t (.int .i64 n) (.int .i64 m)).run P w = .ok nv w' ∧ Ext w w' ∧ Fr w G w' G' ∧ Le w G st w' G' s ∧ Rel w' G' s (updV sl d nv) := by
  obtain ⟨h1, h2⟩ := bif_some hr
  simp [ok] at h2
  subst h2
  simp only [Bool.and_eq_true, leI_iff, eqI_iff] at h1
  obtain ⟨hsl, hn, hnm, hlim, hbeq⟩ := h1
  subst hnm
  obtain ⟨l1, l2⟩ := lim_iff hlim
  have hel := beqL_eq _ _ hbeq
  obtain ⟨i0, e1, e2, e3⟩ := hT.sl hsl
  obtain ⟨dd, i, z, g1, g2, g3, g4, g5, g6, g7, g8⟩ := hTe.ex
  have hzs : z.cells.size = te.lv.length := by
    have : z.cells.toList.length = te.lv.length := by rw [g6]; simp
    simpa using this
  have hell : (makeEl h d te).length = te.lv.length := by rw [← hel, setOwnL_length]
  have hrun := run_make (P := P) w t ti.e i z e1 g2 g5 .i64 .i64 n n hn (Int.le_refl _) (by
    rw [g4]
    have : ((te.bytes * n.toNat : Nat) : Int) ≤ 281474976710656 := by rw [Nat.mul_comm]; omega
    rw [Int.natCast_mul, Int.toNat_of_nonneg hn] at this
    exact this) (by omega)
  rw [g3] at hrun
  let o : Obj := .cells (madeCells z.cells (n.toNat * te.lv.length)) ti.e
  let nv : Value := .slice (some ⟨w.heap.size, 0, none⟩) n.toNat n.toNat
  have hcells : madeCells z.cells (n.toNat * te.lv.length) = ⟨repV z.cells.toList n.toNat⟩ := by
    rw [repV_made, hzs]
    unfold madeCells
    rw [hzs]
  have hrow : Row (w.alloc o) (G.fresh w.heap.size d nv) [] d ti.e (makeEl h d te) [] nv (List.replicate n.toNat (mkE (zerosD te.lv))) := by
    refine ⟨_, _, _, rfl, by simp, Nat.le_refl _, by unfold maxLen; omega, by simp, fun ad had => ?_⟩
    injection had with had
    subst had
    refine ⟨rfl, by simp [Gh.fresh], _, _, heap_alloc_new w o, by rw [size_madeCells, hell]; simp, fun i' hi' => ?_⟩
    have hdat : (List.replicate n.toNat (mkE (zerosD te.lv))).getD i' (.i 0) = mkE (zerosD (makeEl h d te)) := by
      have hz : ∀ (ts us : List LT), setOwnL false ts = us → zerosD us = zerosD ts := by
        intro ts
        induction ts with
        | nil => intro us hu; subst hu; rfl
        | cons t ts ih => intro us hu; subst hu; simp [setOwnL, zerosD, zero_own, ih _ rfl]
      simp [List.getD, hi', hz _ _ hel]
    rw [hdat]
    refine zero_ArC (fun j => by simp [Gh.fresh]) (fun j t' ht' => ?_)
    have hj : j < te.lv.length := by rw [← hell]; exact (List.getElem?_eq_some_iff.1 ht').1
    have hlt : i' * te.lv.length + j < n.toNat * te.lv.length := by
      have : (i' + 1) * te.lv.length ≤ n.toNat * te.lv.length := Nat.mul_le_mul_right _ hi'
      rw [Nat.add_mul, Nat.one_mul] at this
      omega
    rw [hell, Nat.zero_add, World.cell?_alloc_new, hcells]
    have h1 := repV_get z.cells.toList n.toNat (i' * te.lv.length + j) (by simpa [hzs] using hlt)
    have h2 : (i' * te.lv.length + j) % z.cells.toList.length = j := by
      rw [show z.cells.toList.length = te.lv.length by simpa using hzs, Nat.mul_comm, Nat.mul_add_mod, Nat.mod_eq_of_lt hj]
    rw [h2] at h1
    have h4 : z.cells.toList[j]? = (te.lv.map zeroV)[j]? := by rw [g6]
    rw [h4] at h1
    have h3 : te.lv[j]? = some (t'.setOwn false) := by rw [← hel, setOwnL_map]; simp [ht']
    simp only [List.getElem?_toArray]
    rw [h1]
    simp [h3, zeroV_own]
  obtain ⟨k1, k2, k3⟩ := fresh_step hR o ⟨_, _, _, rfl⟩ hrow
  obtain ⟨v1, v2⟩ := k3.view (newArr_view (stg := st) (d := d) (e := ti.e) (el := makeEl h d te))
  have hHd : (G.fresh w.heap.size d nv).H d [] = nv := by simp [Gh.fresh]
  rw [hHd] at v1
  exact ⟨nv, _, _, hrun, Ext.alloc _ _, k1, k2.trans v2, v1⟩
end
end Go.Eng
