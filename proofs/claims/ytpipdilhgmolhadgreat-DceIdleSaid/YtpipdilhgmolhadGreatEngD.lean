/- What is done at the head of a loop and behind it: slots that are not needed go, stamps are set anew, rows and variables that nothing leads to go, rows take the names that they have at every round. -/
import Derived.Test.YtpipdilhgmolhadGreatEngC
import Derived.Scope
import Derived.Laws.Sem
import Derived.KernelRfl
import Derived.Below
set_option linter.unusedSimpArgs false
set_option linter.unusedVariables false
namespace Go.Eng
section
variable {ext : Nat → Value} {w w' : World} {G G' : Gh} {st st' : St}
def basicA : A → Bool
  | .agg _ => false | .tup _ => false | .fn _ _ => false | _ => true
mutual
theorem AOK_mapR {f : A → A} (hf : ∀ a v, basicA a = true → AOK w G st a v → AOK w' G' st' (f a) v) : ∀ (a : A) (v : Value), AOK w G st a v → AOK w' G' st' (a.mapR f) v
  | .agg xs, _, ⟨vs, h1, h2⟩ => ⟨vs, h1, AOKs_mapR hf xs vs h2⟩
  | .tup xs, _, ⟨vs, h1, h2⟩ => ⟨vs, h1, AOKs_mapR hf xs vs h2⟩
  | .fn g xs, _, ⟨vs, h1, h2⟩ => ⟨vs, h1, AOKs_mapR hf xs vs h2⟩
  | .int _ _, _, h => h
  | .bool _, _, h => h
  | .undef, _, _ => trivial
  | .str s, v, h => hf (.str s) v rfl h
  | .nils, v, h => hf .nils v rfl h
  | .ez, v, h => hf .ez v rfl h
  | .fz dep e el xs, v, h => hf (.fz dep e el xs) v rfl h
  | .vw r u p, v, h => hf (.vw r u p) v rfl h
  | .px r u n, v, h => hf (.px r u n) v rfl h
  | .sx r u k n lo, v, h => hf (.sx r u k n lo) v rfl h
  | .sb b u k n, v, h => hf (.sb b u k n) v rfl h
  | .pa r u p k i off, v, h => hf (.pa r u p k i off) v rfl h
  | .pb b u off, v, h => hf (.pb b u off) v rfl h
  | .mp b u, v, h => hf (.mp b u) v rfl h
  | .pz dep el x off, v, h => hf (.pz dep el x off) v rfl h
  | .nilp, v, h => hf .nilp v rfl h
theorem AOKs_mapR {f : A → A} (hf : ∀ a v, basicA a = true → AOK w G st a v → AOK w' G' st' (f a) v) : ∀ (l : List A) (vs : List Value), AOKs w G st l vs → AOKs w' G' st' (mapR f l) vs
  | [], _, h => h
  | a :: l, _, ⟨v, vs', h1, h2, h3⟩ => ⟨v, vs', h1, AOK_mapR hf a v h2, AOKs_mapR hf l vs' h3⟩
end
mutual
theorem AOK_any {f : A → Bool} (hf : ∀ a v, basicA a = true → f a = false → AOK w G st a v → AOK w' G' st' a v) : ∀ (a : A) (v : Value), a.any f = false → AOK w G st a v → AOK w' G' st' a v
  | .agg xs, _, ha, ⟨vs, h1, h2⟩ => ⟨vs, h1, AOKs_any hf xs vs ha h2⟩
  | .tup xs, _, ha, ⟨vs, h1, h2⟩ => ⟨vs, h1, AOKs_any hf xs vs ha h2⟩
  | .fn g xs, _, ha, ⟨vs, h1, h2⟩ => ⟨vs, h1, AOKs_any hf xs vs ha h2⟩
  | .int _ _, _, _, h => h
  | .bool _, _, _, h => h
  | .undef, _, _, _ => trivial
  | .str s, v, ha, h => hf (.str s) v rfl ha h
  | .nils, v, ha, h => hf .nils v rfl ha h
  | .ez, v, ha, h => hf .ez v rfl ha h
  | .fz dep e el xs, v, ha, h => hf (.fz dep e el xs) v rfl ha h
  | .vw r u p, v, ha, h => hf (.vw r u p) v rfl ha h
  | .px r u n, v, ha, h => hf (.px r u n) v rfl ha h
  | .sx r u k n lo, v, ha, h => hf (.sx r u k n lo) v rfl ha h
  | .sb b u k n, v, ha, h => hf (.sb b u k n) v rfl ha h
  | .pa r u p k i off, v, ha, h => hf (.pa r u p k i off) v rfl ha h
  | .pb b u off, v, ha, h => hf (.pb b u off) v rfl ha h
  | .mp b u, v, ha, h => hf (.mp b u) v rfl ha h
  | .pz dep el x off, v, ha, h => hf (.pz dep el x off) v rfl ha h
  | .nilp, v, ha, h => hf .nilp v rfl ha h
theorem AOKs_any {f : A → Bool} (hf : ∀ a v, basicA a = true → f a = false → AOK w G st a v → AOK w' G' st' a v) : ∀ (l : List A) (vs : List Value), anyA f l = false → AOKs w G st l vs → AOKs w' G' st' l vs
  | [], _, _, h => h
  | a :: l, _, ha, ⟨v, vs', h1, h2, h3⟩ => by
    simp only [anyA, Bool.or_eq_false_iff] at ha
    exact ⟨v, vs', h1, AOK_any hf a v ha.1 h2, AOKs_any hf l vs' ha.2 h3⟩
end
theorem mapR_length (f : A → A) : ∀ l : List A, (mapR f l).length = l.length
  | [] => rfl
  | _ :: l => congrArg (· + 1) (mapR_length f l)
theorem mapR_get (f : A → A) : ∀ (l : List A) (j : Nat), (mapR f l).getD j .undef = (l.getD j .undef).mapR f
  | [], j => by simp [mapR, A.mapR]
  | a :: l, 0 => rfl
  | a :: l, j + 1 => by simpa [mapR] using mapR_get f l j
/-- a state whose variables hold the same, seen otherwise -/
theorem Rel.remap {sl : Nat → Option Value} (hR : Rel w G st sl) {f : A → A} (hf : ∀ a v, basicA a = true → AOK w G st a v → AOK w' G' st' (f a) v)
    (hb : ∀ b x', look st'.bx b = some x' → ∃ x, look st.bx b = some x ∧ (x'.lv = mapR f x.lv ∧ x'.mp = x.mp) ∧ x'.uid < st'.ctr ∧ G'.B b = G.B b) (hown : ∀ b, G.own b = .box → G'.own b = .box ∧ w'.heap[b]? = w.heap[b]?)
    (ha : ∀ r a', look st'.ar r = some a' → a'.uid < st'.ctr ∧ a'.dv < st'.ctr ∧ (a'.hv.length = 4 ∧ ∀ u, u ∈ a'.hv → u < st'.ctr) ∧ Row w' G' a'.stale r a'.e a'.el [] (G'.H r []) a'.data)
    (hlive : ∀ b, G'.own b ≠ .out → b < w'.heap.size) (hhdr : ∀ r p, ∃ a n c, G'.H r p = .slice a n c) : Rel w' G' st' (fun _ => Option.none) := by
  refine ⟨fun _ _ h => by simp at h, fun b x' hx => ?_, fun b1 b2 x1 x2 h1 h2 hne => ?_, ha, hlive, hhdr⟩
  · obtain ⟨x, k1, k2, k3, k4⟩ := hb b x' hx
    obtain ⟨g1, g2, hcs⟩ := hR.boxes b x k1
    have hl : x'.lv.length = x.lv.length := by rw [k2.1, mapR_length]
    rw [k4]
    exact ⟨k3, (hown _ g2).1, hcs.step (hown _ g2).2 k2.2 hl fun j hj v m2 => by rw [k2.1, mapR_get]; exact AOK_mapR hf _ _ m2⟩
  · obtain ⟨y1, k1, k2, _, k4⟩ := hb b1 x1 h1
    obtain ⟨y2, m1, m2, _, m4⟩ := hb b2 x2 h2
    rw [k4, m4]
    exact hR.apartB b1 b2 y1 y2 k1 m1 hne
/-! ### Slots -/
theorem keepT_get (f : A → A) (t : Tr) (m : Nat) : ∀ (ks : List Nat) (acc : Tr), (keepT f t ks acc).get m = if m ∈ ks then (t.get m).mapR f else acc.get m
  | [], acc => by simp [keepT]
  | k :: ks, acc => by
    rw [keepT, keepT_get f t m ks]
    by_cases h : m ∈ ks
    · simp [h]
    · by_cases e : m = k
      · subst e; simp [h, Tr.get_set]
      · simp [h, e, Tr.get_set]
theorem renT_get (f : A → A) (t : Tr) (m : Nat) : ∀ (ks : List Nat) (acc : Tr), (renT f t ks acc).get m = if m ∈ ks then (t.get m).mapR f else acc.get m
  | [], acc => by simp [renT]
  | k :: ks, acc => by
    rw [renT, renT_get f t m ks]
    by_cases h : m ∈ ks
    · simp [h]
    · by_cases e : m = k
      · subst e; simp [h, Tr.get_set]
      · simp [h, e, Tr.get_set]
/-! ### Stamps anew -/
theorem look_restampB (st : St) (b : Nat) : ∀ l : List (Nat × Bx), look (restampB st l) b = (look l b).map fun x => { x with uid := 0, lv := mapR (restamp st) x.lv }
  | [] => rfl
  | (m, x) :: l => by
    simp only [restampB, look_cons]
    by_cases h : m = b
    · simp [h]
    · simp [h, look_restampB st b l]
theorem look_restampA (r : Nat) : ∀ l : List (Nat × Arr), look (restampA l) r = (look l r).map fun a => { a with uid := 0, hv := hv4 0, dv := 0 }
  | [] => rfl
  | (m, x) :: l => by
    simp only [restampA, look_cons]
    by_cases h : m = r
    · simp [h]
    · simp [h, look_restampA r l]
theorem mem_zeroDep {d : Nat × Nat} : ∀ {l : List (Nat × Nat)}, d ∈ zeroDep l → d.2 = 0 ∧ ∃ u, (d.1, u) ∈ l
  | [], h => by simp [zeroDep] at h
  | (r, v) :: l, h => by
    simp only [zeroDep, List.mem_cons] at h
    rcases h with rfl | h
    · exact ⟨rfl, v, by simp⟩
    · obtain ⟨h1, u, h2⟩ := mem_zeroDep h
      exact ⟨h1, u, by simp [h2]⟩
theorem zeroDep_mem {r v : Nat} : ∀ {l : List (Nat × Nat)}, (r, v) ∈ l → (r, 0) ∈ zeroDep l
  | [], h => by simp at h
  | (r', v') :: l, h => by
    simp only [zeroDep, List.mem_cons]
    rcases List.mem_cons.1 h with h | h
    · injection h with h1 h2; subst h1; exact .inl rfl
    · exact .inr (zeroDep_mem h)
theorem okD_zero {G : Gh} {dep : List (Nat × Nat)} (b : Nat) (h : okD G dep b) : okD G (zeroDep dep) b := by
  rcases h with h | ⟨d, hd, p, hp⟩
  · exact .inl h
  · exact .inr ⟨(d.1, 0), zeroDep_mem (v := d.2) hd, p, hp⟩
theorem keep_valid {ks : List Nat} {r u : Nat} {p : Path} {a' : Arr} (h : Valid (st.keep ks) r u p a') : ∃ a, look st.ar r = some a ∧ a'.e = a.e ∧ a'.el = a.el ∧ a'.data = a.data ∧ a'.stale = a.stale := by
  obtain ⟨h1, h2, h3⟩ := h
  simp only [St.keep, look_restampA] at h1
  cases hl : look st.ar r with
  | none => simp [hl] at h1
  | some a => simp [hl] at h1; subst h1; exact ⟨a, rfl, rfl, rfl, rfl, rfl⟩
theorem valid_look {r u : Nat} {p : Path} {a b : Arr} (h : Valid st r u p a) (h' : look st.ar r = some b) : Valid st r u p b := by
  have := h.1
  rw [h'] at this
  injection this with this
  subst this
  exact h
theorem aok_restamp (ks : List Nat) : ∀ (a : A) (v : Value), basicA a = true → AOK w G st a v → AOK w G (st.keep ks) (restamp st a) v := by
  intro a v hba h
  have hz : 0 < (st.keep ks).ctr := Nat.lt_succ_self 0
  have hdep : ∀ dep : List (Nat × Nat), ∀ d, d ∈ zeroDep dep → d.2 < (st.keep ks).ctr := fun dep d hd => by rw [(mem_zeroDep hd).1]; exact hz
  cases a with
  | fz dep e el xs =>
    simp only [restamp]
    cases hd : depOk st dep with
    | false => exact trivial
    | true => exact ⟨hdep dep, fun _ => FzL_mono (fun b hb => ⟨okD_zero b hb, rfl⟩) _ _ _ (h.2 hd)⟩
  | vw r u p =>
    simp only [restamp]
    cases ha : arrOf st r u p with
    | none => exact trivial
    | some a0 =>
      refine ⟨hz, fun a' hV => ?_⟩
      obtain ⟨a, k1, k2, k3, k4, _⟩ := keep_valid hV
      obtain ⟨g1, g2, g3⟩ := h.2 a (valid_look (arrOf_some ha) k1)
      exact ⟨g1, by rw [k2, k3]; exact g2, by rw [k3, k4]; exact g3⟩
  | px r u n =>
    simp only [restamp]
    cases ha : arrOf st r u [] with
    | none => exact trivial
    | some a0 =>
      refine ⟨hz, fun a' hV => ?_⟩
      obtain ⟨a, k1, _⟩ := keep_valid hV
      exact h.2 a (valid_look (arrOf_some ha) k1)
  | sx r u k n lo =>
    simp only [restamp]
    cases ha : arrOf st r u [] with
    | none => exact trivial
    | some a0 =>
      refine ⟨hz, fun a' hV => ?_⟩
      obtain ⟨a, k1, k2, k3, k4, _⟩ := keep_valid hV
      rw [k3]
      exact h.2 a (valid_look (arrOf_some ha) k1)
  | sb b u k n =>
    simp only [restamp]
    cases ha : boxOf st b u with
    | none => exact trivial
    | some l =>
      obtain ⟨x, g1, g2, _⟩ := boxOf_some ha
      exact ⟨hz, fun x' _ _ => h.2 x g1 g2⟩
  | pa r u p k i off =>
    simp only [restamp]
    cases ha : arrOf st r u p with
    | none => exact trivial
    | some a0 =>
      refine ⟨hz, fun a' hV => ?_⟩
      obtain ⟨a, k1, k2, k3, k4, _⟩ := keep_valid hV
      obtain ⟨t, g1, g2, g3⟩ := h.2 a (valid_look (arrOf_some ha) k1)
      exact ⟨t, by rw [k2, k3]; exact g1, by rw [k3, k4]; exact g2, g3⟩
  | pb b u off =>
    simp only [restamp]
    cases ha : boxOf st b u with
    | none => exact trivial
    | some l =>
      obtain ⟨x, g1, g2, _⟩ := boxOf_some ha
      exact ⟨hz, fun x' _ _ => h.2 x g1 g2⟩
  | mp b u =>
    simp only [restamp]
    cases ha : mapOf st b u with
    | none => exact trivial
    | some l =>
      obtain ⟨x, g1, g2, _⟩ := mapOf_some ha
      exact ⟨hz, fun x' _ _ => h.2 x g1 g2⟩
  | pz dep el x off =>
    simp only [restamp]
    cases hd : depOk st dep with
    | false => exact trivial
    | true =>
      refine ⟨hdep dep, fun _ => ?_⟩
      obtain ⟨b, o, k1, k2⟩ := h.2 hd
      exact ⟨b, o, k1, FzC_mono (fun b hb => ⟨okD_zero b hb, rfl⟩) _ _ _ _ _ _ k2⟩
  | agg xs => simp [basicA] at hba
  | tup xs => simp [basicA] at hba
  | fn f xs => simp [basicA] at hba
  | _ => exact h
/-- slots outside ks hold nothing -/
def SlotsIn (ks : List Nat) (st : St) : Prop := ∀ t, t ∉ ks → st.sl.get t = .undef
theorem RelS.keep {nt : Nat} {act : Act} (h : RelS ext nt w G st act) (ks : List Nat) : RelS ext nt w G (st.keep ks) act ∧ SlotsIn ks (st.keep ks) := by
  have hg : ∀ t, (st.keep ks).sl.get t = if t ∈ ks then (st.sl.get t).mapR (restamp st) else .undef := fun t => by
    show (keepT (restamp st) st.sl ks .nil).get t = _
    rw [keepT_get]
    simp [Tr.get_nil]
  refine ⟨⟨?_, fun t => ?_, h.size, h.defers⟩, fun t ht => by rw [hg, if_neg ht]⟩
  · refine h.rel.remap (f := restamp st) (aok_restamp ks) (fun b x' hx => ?_) (fun b hb => ⟨hb, rfl⟩) (fun r a' ha => ?_) h.rel.live h.rel.hdr
    · simp only [St.keep, look_restampB] at hx
      cases hl : look st.bx b with
      | none => simp [hl] at hx
      | some x => simp [hl] at hx; subst hx; exact ⟨x, rfl, ⟨rfl, rfl⟩, Nat.lt_succ_self 0, rfl⟩
    · simp only [St.keep, look_restampA] at ha
      cases hl : look st.ar r with
      | none => simp [hl] at ha
      | some a =>
        simp [hl] at ha
        subst ha
        exact ⟨Nat.lt_succ_self 0, Nat.lt_succ_self 0, ⟨rfl, fun u hu => by simp [hv4] at hu; subst hu; exact Nat.lt_succ_self 0⟩, (h.rel.arrs r a hl).2.2.2⟩
  · rw [hg]
    split
    · exact AOK_mapR (aok_restamp ks) _ _ (h.slots t)
    · exact trivial
/-! ### A part of a state -/
theorem Le.sub {bx : List (Nat × Bx)} {ar : List (Nat × Arr)} (hb : ∀ b x, look bx b = some x → look st.bx b = some x) (ha : ∀ r a, look ar r = some a → look st.ar r = some a) : Le w G st w G { st with bx := bx, ar := ar } :=
  ⟨Nat.le_refl _, fun r u p a' _ h => ⟨a', ⟨ha r a' h.1, h.2⟩, rfl, rfl, rfl, fun h => h⟩, fun b x' _ h => ⟨x', hb b x' h, rfl, rfl⟩, fun r a' _ h => ⟨a', ha r a' h, rfl, fun b p hb => ⟨⟨p, hb⟩, rfl⟩⟩, fun b hb => ⟨hb, rfl⟩⟩
theorem RelS.sub {nt : Nat} {act : Act} (h : RelS ext nt w G st act) {bx : List (Nat × Bx)} {ar : List (Nat × Arr)} (hb : ∀ b x, look bx b = some x → look st.bx b = some x) (ha : ∀ r a, look ar r = some a → look st.ar r = some a) :
    RelS ext nt w G { st with bx := bx, ar := ar } act := by
  have hL := Le.sub (w := w) (G := G) hb ha
  refine ⟨?_, fun t => AOK_mono hL _ _ (h.slots t), h.size, h.defers⟩
  exact h.rel.step hL (fun _ _ h => by simp at h) (fun b x hx => .inl ⟨hb b x hx, rfl, rfl, (h.rel.boxes b x (hb b x hx)).2.1⟩) (fun b b' x x' h1 h2 hne => h.rel.apartB b b' x x' (hb b x h1) (hb b' x' h2) hne) (fun r a hr => .inl ⟨ha r a hr, fun _ => rfl, fun b p h => ⟨h, rfl⟩⟩) h.rel.live h.rel.hdr
theorem gcB_none (ks : List Nat) (st : St) {b : Nat} (h : (anyT (refB b) st.sl ks || anyB (refB b) b st.bx) = false) : ∀ l : List (Nat × Bx), look (gcB ks st l) b = none
  | [] => rfl
  | (m, x) :: l => by
    simp only [gcB]
    by_cases e : m = b
    · subst e; rw [h]; exact gcB_none ks st h l
    · cases (anyT (refB m) st.sl ks || anyB (refB m) m st.bx) with
      | true => simp only [cond_true, look_cons, if_neg e]; exact gcB_none ks st h l
      | false => exact gcB_none ks st h l
theorem gcB_sub (ks : List Nat) (st : St) {b : Nat} {x : Bx} : ∀ l : List (Nat × Bx), look (gcB ks st l) b = some x → look l b = some x
  | [], h => by simp [gcB, look] at h
  | (m, y) :: l, h => by
    simp only [gcB] at h
    rw [look_cons]
    by_cases e : m = b
    · subst e
      cases hc : (anyT (refB m) st.sl ks || anyB (refB m) m st.bx) with
      | true => rw [hc] at h; simpa [look_cons] using h
      | false => rw [hc] at h; simp only [cond_false] at h; rw [gcB_none ks st hc l] at h; simp at h
    · rw [if_neg e]
      cases hc : (anyT (refB m) st.sl ks || anyB (refB m) m st.bx) with
      | true => rw [hc] at h; simp only [cond_true, look_cons, if_neg e] at h; exact gcB_sub ks st l h
      | false => rw [hc] at h; exact gcB_sub ks st l h
theorem gcR_none (ks : List Nat) (st : St) {b : Nat} (h : (anyT (refR b) st.sl ks || anyBx (refR b) st.bx) = false) : ∀ l : List (Nat × Arr), look (gcR ks st l) b = none
  | [] => rfl
  | (m, x) :: l => by
    simp only [gcR]
    by_cases e : m = b
    · subst e; rw [h]; exact gcR_none ks st h l
    · cases (anyT (refR m) st.sl ks || anyBx (refR m) st.bx) with
      | true => simp only [cond_true, look_cons, if_neg e]; exact gcR_none ks st h l
      | false => exact gcR_none ks st h l
theorem gcR_sub (ks : List Nat) (st : St) {b : Nat} {x : Arr} : ∀ l : List (Nat × Arr), look (gcR ks st l) b = some x → look l b = some x
  | [], h => by simp [gcR, look] at h
  | (m, y) :: l, h => by
    simp only [gcR] at h
    rw [look_cons]
    by_cases e : m = b
    · subst e
      cases hc : (anyT (refR m) st.sl ks || anyBx (refR m) st.bx) with
      | true => rw [hc] at h; simpa [look_cons] using h
      | false => rw [hc] at h; simp only [cond_false] at h; rw [gcR_none ks st hc l] at h; simp at h
    · rw [if_neg e]
      cases hc : (anyT (refR m) st.sl ks || anyBx (refR m) st.bx) with
      | true => rw [hc] at h; simp only [cond_true, look_cons, if_neg e] at h; exact gcR_sub ks st l h
      | false => rw [hc] at h; exact gcR_sub ks st l h
theorem RelS.gcb {nt : Nat} {act : Act} (h : RelS ext nt w G st act) (ks : List Nat) : RelS ext nt w G (st.gcb ks) act := h.sub (bx := gcB ks st st.bx) (ar := st.ar) (fun b x hx => gcB_sub ks st _ hx) (fun _ _ h => h)
theorem look_insK {α : Type} (p : Nat × α) (b : Nat) : ∀ l : List (Nat × α), look (insK p l) b = if p.1 = b then some p.2 else look l b
  | [] => by
    simp only [insK, look]
    by_cases h : p.1 = b
    · subst h; simp [beqt]
    · simp [beqf h, h]
  | q :: l => by
    simp only [insK]
    cases hc : Nat.ble p.1 q.1 with
    | true =>
      simp only [cond_true, look]
      by_cases h : p.1 = b
      · subst h; simp [beqt]
      · simp [beqf h, h]
    | false =>
      simp only [cond_false, look]
      rw [look_insK p b l]
      by_cases h : p.1 = b
      · have : q.1 ≠ b := by
          intro e
          have : Nat.ble p.1 q.1 = true := by rw [Nat.ble_eq]; omega
          rw [this] at hc
          simp at hc
        simp [beqf this, h]
      · simp [h]
theorem look_srtK {α : Type} (b : Nat) : ∀ l : List (Nat × α), look (srtK l) b = look l b
  | [] => rfl
  | p :: l => by
    simp only [srtK, look_insK, look_srtK b l, look]
    by_cases h : p.1 = b
    · subst h; simp [beqt]
    · simp [beqf h, h]
theorem RelS.gc {nt : Nat} {act : Act} (h : RelS ext nt w G st act) (ks : List Nat) : RelS ext nt w G (st.gc ks) act := by
  have h2 := (h.gcb ks).gcb ks
  exact h2.sub (bx := srtK ((st.gcb ks).gcb ks).bx) (ar := srtK (gcR ks ((st.gcb ks).gcb ks) ((st.gcb ks).gcb ks).ar)) (fun b x hx => by rw [look_srtK] at hx; exact hx) (fun r a ha => by rw [look_srtK] at ha; exact gcR_sub ks _ _ ha)
theorem gc_slots (ks : List Nat) : (st.gc ks).sl = st.sl := rfl
end
end Go.Eng

namespace Go.Eng
def Gh.moved (G : Gh) (q r : Nat) : Gh :=
  { own := fun b => match G.own b with
      | .arr r' p => if r' = q then .arr r p else if r' = r then .out else .arr r' p
      | t => t
    H := fun m => if m = r then G.H q else G.H m
    B := G.B }
section
variable {ext : Nat → Value} {w : World} {G : Gh} {st : St} {act : Act} {nt : Nat}
theorem moved_own {q r : Nat} (b : Nat) (h : ∀ r p, G.own b ≠ .arr r p) : (G.moved q r).own b = G.own b := by
  cases ho : G.own b with
  | arr r1 s => exact absurd ho (h r1 s)
  | _ => simp [Gh.moved, ho]
theorem moved_q {q r : Nat} {b : Nat} {p : Path} (h : G.own b = .arr q p) : (G.moved q r).own b = .arr r p := by simp [Gh.moved, h]
theorem moved_other {q r m : Nat} {b : Nat} {p : Path} (h : G.own b = .arr m p) (h1 : m ≠ q) (h2 : m ≠ r) : (G.moved q r).own b = .arr m p := by simp [Gh.moved, h, h1, h2]
theorem moved_out {q r : Nat} {b : Nat} (h : (G.moved q r).own b ≠ .out) : G.own b ≠ .out := fun e => h (by simp [Gh.moved, e])
theorem moved_fr (q r : Nat) : Fr w G w (G.moved q r) :=
  ⟨rfl, rfl, rfl, Nat.le_refl _, fun b _ hb => ⟨rfl, moved_own b (by rcases hb with hb | hb <;> rw [hb] <;> simp)⟩, fun _ _ _ => rfl⟩
theorem look_renK {q r : Nat} (hne : q ≠ r) (m : Nat) : ∀ l : List (Nat × Arr), look (renK q r l) m = if m = r then look l q else if m = q then none else look l m
  | [] => by simp [renK, look]
  | (k, a) :: l => by
    simp only [renK]
    by_cases hk : k = r
    · subst hk
      simp only [beqt, cond_true]
      rw [look_renK hne m l]
      by_cases hm : m = k
      · subst hm; simp [look_cons, Ne.symm hne]
      · simp [look_cons, hm, Ne.symm hm]
    · simp only [beqf hk, cond_false]
      by_cases hq : k = q
      · subst hq
        simp only [beqt, cond_true, look_cons]
        rw [look_renK hne m l]
        by_cases hm : m = r
        · subst hm; simp
        · simp only [Ne.symm hm, if_false, hm]
          by_cases h3 : m = k
          · subst h3; simp
          · simp [h3, Ne.symm h3]
      · simp only [beqf hq, cond_false, look_cons]
        rw [look_renK hne m l]
        by_cases hm : k = m
        · subst hm; simp [hk, hq]
        · simp only [hm, if_false]
          by_cases h3 : m = r
          · subst h3; simp [hq]
          · simp [h3]
theorem look_renB (q r b : Nat) : ∀ l : List (Nat × Bx), look (renB q r l) b = (look l b).map fun x => { x with lv := mapR (renA q r) x.lv }
  | [] => rfl
  | (m, x) :: l => by
    simp only [renB, look_cons]
    by_cases h : m = b
    · simp [h]
    · simp [h, look_renB q r b l]
theorem aok_ren {ks : List Nat} {q r : Nat} (hne : q ≠ r) : ∀ (a : A) (v : Value), basicA a = true → AOK w G st a v → AOK w (G.moved q r) (St.rename ks st q r) (renA q r a) v := by
  intro a v hba h
  have hst : St.rename ks st q r = { st with sl := renT (renA q r) st.sl ks .nil, bx := renB q r st.bx, ar := renK q r st.ar } := by simp [St.rename, beqf hne]
  have hV : ∀ {m u p a'}, Valid (St.rename ks st q r) m u p a' → m ≠ q → m ≠ r → Valid st m u p a' := fun {m u p a'} hv h1 h2 => by
    rw [hst] at hv
    have := hv.1
    simp only [look_renK hne, if_neg h1, if_neg h2] at this
    exact ⟨this, hv.2⟩
  have hVr : ∀ {u p a'}, Valid (St.rename ks st q r) r u p a' → Valid st q u p a' := fun {u p a'} hv => by
    rw [hst] at hv
    have := hv.1
    simp only [look_renK hne, if_true] at this
    exact ⟨this, hv.2⟩
  have hVq : ∀ {u p a'}, ¬ Valid (St.rename ks st q r) q u p a' := fun {u p a'} hv => by
    rw [hst] at hv
    have := hv.1
    simp [look_renK hne, hne] at this
  have hctr : (St.rename ks st q r).ctr = st.ctr := by rw [hst]
  have hHr : ∀ p, (G.moved q r).H r p = G.H q p := fun p => by simp [Gh.moved]
  have hHo : ∀ m p, m ≠ r → (G.moved q r).H m p = G.H m p := fun m p hm => by simp [Gh.moved, hm]
  have hbx : ∀ b x', look (St.rename ks st q r).bx b = some x' → ∃ x, look st.bx b = some x ∧ x.uid = x'.uid := fun b x' hx => by
    rw [hst] at hx
    simp only [look_renB] at hx
    cases hl : look st.bx b with
    | none => simp [hl] at hx
    | some x => simp [hl] at hx; subst hx; exact ⟨x, rfl, rfl⟩
  have hfz : ∀ b, okD G [] b → okD (G.moved q r) [] b ∧ w.heap[b]? = w.heap[b]? := fun b hb => by
    rw [okD_nil] at hb ⊢
    exact ⟨by rw [moved_own b (by rw [hb]; simp), hb], rfl⟩
  cases a with
  | vw m u p =>
    simp only [renA]
    by_cases h1 : m = q
    · subst h1
      simp only [beqt, cond_true]
      refine ⟨by rw [hctr]; exact h.1, fun a' ha' => ?_⟩
      obtain ⟨k1, k2, k3⟩ := h.2 a' (hVr ha')
      exact ⟨by rw [hHr]; exact k1, k2, k3⟩
    · simp only [beqf h1, cond_false]
      by_cases h2 : m = r
      · subst h2; simp only [beqt, cond_true]; exact trivial
      · simp only [beqf h2, cond_false]
        refine ⟨by rw [hctr]; exact h.1, fun a' ha' => ?_⟩
        obtain ⟨k1, k2, k3⟩ := h.2 a' (hV ha' h1 h2)
        exact ⟨by rw [hHo m _ h2]; exact k1, k2, k3⟩
  | px m u n =>
    simp only [renA]
    by_cases h1 : m = q
    · subst h1
      simp only [beqt, cond_true]
      exact ⟨by rw [hctr]; exact h.1, fun a' ha' => by rw [hHr]; exact h.2 a' (hVr ha')⟩
    · simp only [beqf h1, cond_false]
      by_cases h2 : m = r
      · subst h2; simp only [beqt, cond_true]; exact trivial
      · simp only [beqf h2, cond_false]
        exact ⟨by rw [hctr]; exact h.1, fun a' ha' => by rw [hHo m _ h2]; exact h.2 a' (hV ha' h1 h2)⟩
  | sx m u k n lo =>
    simp only [renA]
    by_cases h1 : m = q
    · subst h1
      simp only [beqt, cond_true]
      exact ⟨by rw [hctr]; exact h.1, fun a' ha' => by rw [hHr]; exact h.2 a' (hVr ha')⟩
    · simp only [beqf h1, cond_false]
      by_cases h2 : m = r
      · subst h2; simp only [beqt, cond_true]; exact trivial
      · simp only [beqf h2, cond_false]
        exact ⟨by rw [hctr]; exact h.1, fun a' ha' => by rw [hHo m _ h2]; exact h.2 a' (hV ha' h1 h2)⟩
  | pa m u p k i off =>
    simp only [renA]
    by_cases h1 : m = q
    · subst h1
      simp only [beqt, cond_true]
      exact ⟨by rw [hctr]; exact h.1, fun a' ha' => by rw [hHr]; exact h.2 a' (hVr ha')⟩
    · simp only [beqf h1, cond_false]
      by_cases h2 : m = r
      · subst h2; simp only [beqt, cond_true]; exact trivial
      · simp only [beqf h2, cond_false]
        exact ⟨by rw [hctr]; exact h.1, fun a' ha' => by rw [hHo m _ h2]; exact h.2 a' (hV ha' h1 h2)⟩
  | fz dep e el xs =>
    cases dep with
    | nil => exact ⟨by simp, fun _ => FzL_mono hfz _ _ _ (h.2 rfl)⟩
    | cons _ _ => exact trivial
  | pz dep el x off =>
    cases dep with
    | nil =>
      refine ⟨by simp, fun _ => ?_⟩
      obtain ⟨b, o, k1, k2⟩ := h.2 rfl
      exact ⟨b, o, k1, FzC_mono hfz _ _ _ _ _ _ k2⟩
    | cons _ _ => exact trivial
  | sb b u k n =>
    refine ⟨by rw [hctr]; exact h.1, fun x' hx hu => ?_⟩
    obtain ⟨x, k1, k2⟩ := hbx b x' hx
    exact h.2 x k1 (k2.trans hu)
  | pb b u off =>
    refine ⟨by rw [hctr]; exact h.1, fun x' hx hu => ?_⟩
    obtain ⟨x, k1, k2⟩ := hbx b x' hx
    exact h.2 x k1 (k2.trans hu)
  | mp b u =>
    refine ⟨by rw [hctr]; exact h.1, fun x' hx hu => ?_⟩
    obtain ⟨x, k1, k2⟩ := hbx b x' hx
    exact h.2 x k1 (k2.trans hu)
  | agg xs => simp [basicA] at hba
  | tup xs => simp [basicA] at hba
  | fn f xs => simp [basicA] at hba
  | _ => exact h
theorem RelS.ren (h : RelS ext nt w G st act) {ks : List Nat} {q r : Nat} (hne : q ≠ r) (hs : SlotsIn ks st) : RelS ext nt w (G.moved q r) (St.rename ks st q r) act ∧ SlotsIn ks (St.rename ks st q r) ∧ (St.rename ks st q r).ctr = st.ctr := by
  have hst : St.rename ks st q r = { st with sl := renT (renA q r) st.sl ks .nil, bx := renB q r st.bx, ar := renK q r st.ar } := by simp [St.rename, beqf hne]
  have hg : ∀ t, (St.rename ks st q r).sl.get t = if t ∈ ks then (st.sl.get t).mapR (renA q r) else .undef := fun t => by
    rw [hst]
    show (renT (renA q r) st.sl ks .nil).get t = _
    rw [renT_get]
    simp [Tr.get_nil]
  have hfz : ∀ b, G.own b = .fz → (G.moved q r).own b = .fz ∧ w.heap[b]? = w.heap[b]? := fun b hb => ⟨by rw [moved_own b (by rw [hb]; simp), hb], rfl⟩
  refine ⟨⟨?_, fun t => ?_, h.size, h.defers⟩, fun t ht => by rw [hg, if_neg ht], by rw [hst]⟩
  · refine h.rel.remap (f := renA q r) (aok_ren hne) (fun b x' hx => ?_) (fun b hb => ⟨by rw [moved_own b (by rw [hb]; simp), hb], rfl⟩) (fun m a' ha => ?_) (fun b hb => h.rel.live b (moved_out hb)) (fun m p => ?_)
    · rw [hst] at hx ⊢
      simp only [look_renB] at hx
      cases hl : look st.bx b with
      | none => simp [hl] at hx
      | some x => simp [hl] at hx; subst hx; exact ⟨x, rfl, ⟨rfl, rfl⟩, (h.rel.boxes b x hl).1, rfl⟩
    · rw [hst] at ha ⊢
      simp only [look_renK hne] at ha
      by_cases e1 : m = r
      · subst e1
        rw [if_pos rfl] at ha
        obtain ⟨k1, k2, k3, k4⟩ := h.rel.arrs q a' ha
        refine ⟨k1, k2, k3, ?_⟩
        have hH : (G.moved q m).H m [] = G.H q [] := by simp [Gh.moved]
        rw [hH]
        exact Row_mono hfz (fun s _ => .inr ⟨by simp [Gh.moved], fun b hb => ⟨moved_q hb, rfl⟩⟩) (fun _ _ h => h) k4
      · rw [if_neg e1] at ha
        by_cases e2 : m = q
        · simp [e2] at ha
        · rw [if_neg e2] at ha
          obtain ⟨k1, k2, k3, k4⟩ := h.rel.arrs m a' ha
          refine ⟨k1, k2, k3, ?_⟩
          have hH : ∀ p, (G.moved q r).H m p = G.H m p := fun p => by simp [Gh.moved, e1]
          rw [hH]
          exact Row_same hfz hH (fun b p hb => ⟨moved_other hb e2 e1, rfl⟩) k4
    · by_cases e1 : m = r
      · obtain ⟨a, n, c, e⟩ := h.rel.hdr q p; exact ⟨a, n, c, by simp [Gh.moved, e1, e]⟩
      · obtain ⟨a, n, c, e⟩ := h.rel.hdr m p; exact ⟨a, n, c, by simp [Gh.moved, e1, e]⟩
  · rw [hg]
    split
    · exact AOK_mapR (aok_ren hne) _ _ (h.slots t)
    · exact trivial
/-! ### A new row of nothing -/
def Gh.nilAt (G : Gh) (r : Nat) : Gh := { G with H := fun m p => if m = r ∧ p = [] then .slice none 0 0 else G.H m p }
theorem hasDep_false {r : Nat} : ∀ {dep : List (Nat × Nat)}, hasDep r dep = false → ∀ d ∈ dep, d.1 ≠ r
  | [], _, _, h => absurd h (by simp)
  | (m, v) :: l, h, d, hd => by
    simp only [hasDep] at h
    by_cases e : m = r
    · subst e; simp [beqt] at h
    · simp only [beqf e, cond_false] at h
      rcases List.mem_cons.1 hd with rfl | hd
      · exact e
      · exact hasDep_false h d hd
theorem depOk_other {r : Nat} {a0 : Arr} : ∀ {dep : List (Nat × Nat)}, (∀ d ∈ dep, d.1 ≠ r) → depOk { st with ar := putA st.ar r a0 } dep = depOk st dep
  | [], _ => rfl
  | (m, v) :: l, h => by
    have hm := h (m, v) (by simp)
    simp only at hm
    simp only [depOk, look_putA, if_neg hm]
    rw [depOk_other (fun d hd => h d (by simp [hd]))]
theorem aok_new {r : Nat} {a0 : Arr} : ∀ (a : A) (v : Value), basicA a = true → refR r a = false → AOK w G st a v → AOK w (G.nilAt r) { st with ar := putA st.ar r a0 } a v := by
  intro a v hba hr h
  have hV : ∀ {m u p a'}, Valid { st with ar := putA st.ar r a0 } m u p a' → m ≠ r → Valid st m u p a' := fun {m u p a'} hv h1 => by
    have := hv.1
    simp only [look_putA, if_neg h1] at this
    exact ⟨this, hv.2⟩
  have hH : ∀ m p, m ≠ r → (G.nilAt r).H m p = G.H m p := fun m p hm => by simp [Gh.nilAt, hm]
  cases a with
  | vw m u p =>
    have hm : m ≠ r := fun e => by subst e; simp [refR, beqt] at hr
    refine ⟨h.1, fun a' ha' => ?_⟩
    obtain ⟨k1, k2, k3⟩ := h.2 a' (hV ha' hm)
    exact ⟨by rw [hH m _ hm]; exact k1, k2, k3⟩
  | px m u n =>
    have hm : m ≠ r := fun e => by subst e; simp [refR, beqt] at hr
    exact ⟨h.1, fun a' ha' => by rw [hH m _ hm]; exact h.2 a' (hV ha' hm)⟩
  | sx m u k n lo =>
    have hm : m ≠ r := fun e => by subst e; simp [refR, beqt] at hr
    exact ⟨h.1, fun a' ha' => by rw [hH m _ hm]; exact h.2 a' (hV ha' hm)⟩
  | pa m u p k i off =>
    have hm : m ≠ r := fun e => by subst e; simp [refR, beqt] at hr
    exact ⟨h.1, fun a' ha' => by rw [hH m _ hm]; exact h.2 a' (hV ha' hm)⟩
  | fz dep e el xs =>
    have hd := hasDep_false (r := r) (dep := dep) hr
    exact ⟨h.1, fun h' => h.2 (by rw [← depOk_other (st := st) (a0 := a0) hd]; exact h')⟩
  | pz dep el x off =>
    have hd := hasDep_false (r := r) (dep := dep) hr
    exact ⟨h.1, fun h' => h.2 (by rw [← depOk_other (st := st) (a0 := a0) hd]; exact h')⟩
  | agg xs => simp [basicA] at hba
  | tup xs => simp [basicA] at hba
  | fn f xs => simp [basicA] at hba
  | _ => exact h
theorem anyT_false {f : A → Bool} {t : Tr} : ∀ {ks : List Nat}, anyT f t ks = false → ∀ k ∈ ks, (t.get k).any f = false
  | [], _, _, h => absurd h (by simp)
  | k :: ks, h, k', hk => by
    simp only [anyT, Bool.or_eq_false_iff] at h
    rcases List.mem_cons.1 hk with rfl | hk
    · exact h.1
    · exact anyT_false h.2 k' hk
theorem anyBx_false {f : A → Bool} {b : Nat} {x : Bx} : ∀ {l : List (Nat × Bx)}, anyBx f l = false → look l b = some x → anyA f x.lv = false
  | [], _, h => by simp [look] at h
  | (m, y) :: l, h, hl => by
    simp only [anyBx, Bool.or_eq_false_iff] at h
    rw [look_cons] at hl
    split at hl
    · injection hl with hl; subst hl; exact h.1
    · exact anyBx_false h.2 hl
theorem anyA_get {f : A → Bool} : ∀ {l : List A} {j : Nat}, anyA f l = false → (l.getD j .undef).any f = false
  | [], j, _ => by simp [A.any]
  | a :: l, 0, h => by simp only [anyA, Bool.or_eq_false_iff] at h; exact h.1
  | a :: l, j + 1, h => by
    simp only [anyA, Bool.or_eq_false_iff] at h
    rw [List.getD_cons_succ]
    exact anyA_get h.2
theorem RelS.new (h : RelS ext nt w G st act) {ks : List Nat} {r : Nat} {e : TypeId} {el : List LT} (hs : SlotsIn ks st) (hc : 0 < st.ctr) (hn : (anyT (refR r) st.sl ks || anyBx (refR r) st.bx) = false) :
    RelS ext nt w (G.nilAt r) { st with ar := putA st.ar r { e := e, el := el, data := [], uid := 0, hv := hv4 0, dv := 0 } } act := by
  simp only [Bool.or_eq_false_iff] at hn
  have hH : ∀ m p, m ≠ r → (G.nilAt r).H m p = G.H m p := fun m p hm => by simp [Gh.nilAt, hm]
  refine ⟨⟨fun _ _ h => by simp at h, fun b x hx => ?_, h.rel.apartB, fun m a ha => ?_, h.rel.live, fun m p => ?_⟩, fun t => ?_, h.size, h.defers⟩
  · obtain ⟨g1, g2, g3⟩ := h.rel.boxes b x hx
    exact ⟨g1, g2, g3.step rfl rfl rfl fun j hj v m2 => AOK_any (f := refR r) aok_new _ _ (anyA_get (anyBx_false hn.2 hx)) m2⟩
  · simp only [look_putA] at ha
    by_cases e1 : m = r
    · subst e1
      rw [if_pos rfl] at ha
      injection ha with ha
      subst ha
      refine ⟨hc, hc, ⟨rfl, fun u hu => by simp [hv4] at hu; subst hu; exact hc⟩, ?_⟩
      have : (G.nilAt m).H m [] = .slice none 0 0 := by simp [Gh.nilAt]
      rw [this]
      exact ⟨none, 0, 0, rfl, rfl, Nat.le_refl _, Nat.zero_le _, fun _ => rfl, by simp⟩
    · rw [if_neg e1] at ha
      obtain ⟨k1, k2, k3, k4⟩ := h.rel.arrs m a ha
      refine ⟨k1, k2, k3, ?_⟩
      rw [hH m _ e1]
      exact Row_same (G := G) (G' := G.nilAt r) (fun b hb => ⟨hb, rfl⟩) (fun p => hH m p e1) (fun b p hb => ⟨hb, rfl⟩) k4
  · by_cases e1 : m = r ∧ p = []
    · exact ⟨none, 0, 0, by simp [Gh.nilAt, e1]⟩
    · obtain ⟨a, n, c, e2⟩ := h.rel.hdr m p
      exact ⟨a, n, c, by simp only [Gh.nilAt, if_neg e1]; exact e2⟩
  · show AOK w (G.nilAt r) _ (st.sl.get t) _
    by_cases ht : t ∈ ks
    · exact AOK_any (f := refR r) aok_new _ _ (anyT_false hn.1 t ht) (h.slots t)
    · rw [hs t ht]; exact trivial
/-! ### Inner rows that become only read -/
def frzAt : List LT → List LT → Path → Bool
  | _, _, [] => false
  | el, el', (_, j) :: s => match el[j]?, el'[j]? with
    | some (.sl true _ x), some (.sl true _ x') => frzAt x x' s
    | some (.sl true _ _), some (.sl false _ _) => true
    | _, _ => false
def frzT : LT → LT → Path → Bool
  | .sl true _ el, .sl true _ el', s => frzAt el el' s
  | .sl true _ _, .sl false _ _, _ => true
  | _, _, _ => false
def Gh.frz (G : Gh) (q : Nat) (el el' : List LT) : Gh :=
  { own := fun b => match G.own b with
      | .arr r p => if r = q ∧ frzAt el el' p = true then .fz else .arr r p
      | t => t
    H := G.H
    B := G.B }
theorem frz_fz {q : Nat} {el el' : List LT} {b : Nat} (h : G.own b = .fz) : (G.frz q el el').own b = .fz := by simp [Gh.frz, h]
theorem frz_arr {q r : Nat} {el el' : List LT} {b : Nat} {p : Path} (h : G.own b = .arr r p) : (G.frz q el el').own b = if r = q ∧ frzAt el el' p = true then .fz else .arr r p := by simp [Gh.frz, h]
theorem frz_box {q : Nat} {el el' : List LT} {b : Nat} (h : G.own b = .box) : (G.frz q el el').own b = .box := by simp [Gh.frz, h]
theorem frz_out {q : Nat} {el el' : List LT} {b : Nat} (h : G.own b = .out) : (G.frz q el el').own b = .out := by simp [Gh.frz, h]
mutual
theorem ArL_toFz {G' : Gh} {q : Nat} (hfz : ∀ b, G.own b = .fz → G'.own b = .fz) : ∀ (t : LT) (p : Path) (v : Value) (x : D), (∀ s b, G.own b = .arr q (p ++ s) → G'.own b = .fz) → ArL w G [] q t p v x → FzL w (fun b => G'.own b = .fz) t v x
  | .sl true e el, p, v, x, hk, h => by
    rcases ArL_own.1 h with h | ⟨h1, a, n, c, h2, h3, h4, h5, h6, h7⟩
    · simp at h
    · refine ⟨a, n, c, h2, h3, h4, h5, h6, fun ad ha hn => ?_⟩
      obtain ⟨g1, g2, cs, e0, g3, g4, g5⟩ := h7 ad ha
      exact ⟨g1, fun i hi => ArC_toFz hfz el p i _ _ _ _ 0 (hk [] _ (by simpa using g2)) (fun j s b hb => hk ((i, j) :: s) b hb) (g5 i hi)⟩
  | .sl false e el, p, v, x, hk, h => FzL_mono (fun b hb => ⟨hfz b hb, rfl⟩) _ v x h
  | .int k, p, v, x, hk, h => FzL_mono (fun b hb => ⟨hfz b hb, rfl⟩) _ v x h
  | .bool, p, v, x, hk, h => FzL_mono (fun b hb => ⟨hfz b hb, rfl⟩) _ v x h
  | .str, p, v, x, hk, h => FzL_mono (fun b hb => ⟨hfz b hb, rfl⟩) _ v x h
theorem ArC_toFz {G' : Gh} {q : Nat} (hfz : ∀ b, G.own b = .fz → G'.own b = .fz) : ∀ (ts : List LT) (p : Path) (i b o k : Nat) (x : D) (j : Nat), G'.own b = .fz → (∀ j s b, G.own b = .arr q (p ++ (i, j) :: s) → G'.own b = .fz) → ArC w G [] q ts p i b o k x j → FzC w (fun b => G'.own b = .fz) ts b o k x j
  | [], _, _, _, _, _, _, _, _, _, _ => trivial
  | t :: ts, p, i, b, o, k, x, j, hb, hk, ⟨⟨v, h1, h2⟩, h3⟩ => ⟨hb, ⟨v, h1, ArL_toFz hfz t _ v _ (fun s b hb => hk j s b (by simpa using hb)) h2⟩, ArC_toFz hfz ts p i b o k x (j + 1) hb hk h3⟩
end
theorem frz_leaf (t t' : LT) (s : Path) : (match some t, some t' with
    | some (.sl true _ x), some (.sl true _ x') => frzAt x x' s
    | some (.sl true _ _), some (.sl false _ _) => true
    | _, _ => false) = frzT t t' s := by
  cases t with
  | sl o1 e1 x1 => cases t' with
    | sl o2 e2 x2 => cases o1 <;> cases o2 <;> rfl
    | _ => cases o1 <;> rfl
  | _ => rfl
theorem frzLs_len : ∀ {el el' : List LT}, frzLs el el' = true → el'.length = el.length
  | [], [], _ => rfl
  | [], _ :: _, h => by simp [frzLs] at h
  | _ :: _, [], h => by simp [frzLs] at h
  | t :: ts, t' :: ts', h => by
    simp only [frzLs, Bool.and_eq_true] at h
    simp [frzLs_len h.2]
mutual
theorem ArL_frz {G' : Gh} {q : Nat} (hfz : ∀ b, G.own b = .fz → G'.own b = .fz) (hH : ∀ p, G'.H q p = G.H q p) : ∀ (t t' : LT) (p : Path) (v : Value) (x : D), frzL t t' = true → (∀ s b, G.own b = .arr q (p ++ s) → G'.own b = if frzT t t' s = true then .fz else .arr q (p ++ s)) → ArL w G [] q t p v x → ArL w G' [] q t' p v x
  | .sl true e el, t', p, v, x, hf, hk, h => by
    cases t' with
    | sl o' e' el' =>
      cases o' with
      | true =>
        simp only [frzL, Bool.and_eq_true] at hf
        have he := Nat.eq_of_beq_eq_true hf.1
        subst he
        rcases ArL_own.1 h with h | ⟨h1, a, n, c, h2, h3, h4, h5, h6, h7⟩
        · simp at h
        · refine ArL_own.2 (.inr ⟨by rw [hH]; exact h1, a, n, c, h2, h3, h4, h5, h6, fun ad ha => ?_⟩)
          obtain ⟨g1, g2, cs, e0, g3, g4, g5⟩ := h7 ad ha
          have hb := hk [] ad.block (by simpa using g2)
          simp only [frzT, frzAt, Bool.false_eq_true, if_false, List.append_nil] at hb
          rw [frzLs_len hf.2]
          exact ⟨g1, hb, cs, e0, g3, g4, fun i hi => ArC_frz hfz hH el el' p i _ _ _ _ 0 hf.2 (fun m t t' hm hm' s b hb => by
            have := hk ((i, m) :: s) b (by simpa using hb)
            have e1 : frzT (.sl true e el) (.sl true e el') ((i, m) :: s) = frzT t t' s := by
              simp only [frzT, frzAt, hm, hm']
              exact frz_leaf t t' s
            rw [e1] at this
            simpa using this) (g5 i hi)⟩
      | false =>
        simp only [frzL, Bool.and_eq_true] at hf
        have he := Nat.eq_of_beq_eq_true hf.1
        subst he
        have hel := beqL_eq _ _ hf.2
        subst hel
        have h1 := ArL_toFz (G' := G') hfz (.sl true e el) p v x (fun s b hb => by have := hk s b hb; simpa [frzT] using this) h
        exact (FzL_setOwn false (.sl true e el) v x).2 h1
    | int k => simp [frzL] at hf
    | bool => simp [frzL] at hf
    | str => simp [frzL] at hf
  | .sl false e el, t', p, v, x, hf, hk, h => by
    have := LT.beq_eq _ _ (show (LT.sl false e el).beq t' = true from by simpa [frzL] using hf)
    subst this
    exact FzL_mono (fun b hb => ⟨hfz b hb, rfl⟩) _ v x h
  | .int k, t', p, v, x, hf, hk, h => by
    have := LT.beq_eq _ _ (show (LT.int k).beq t' = true from by simpa [frzL] using hf)
    subst this
    exact FzL_mono (fun b hb => ⟨hfz b hb, rfl⟩) _ v x h
  | .bool, t', p, v, x, hf, hk, h => by
    have := LT.beq_eq _ _ (show LT.bool.beq t' = true from by simpa [frzL] using hf)
    subst this
    exact FzL_mono (fun b hb => ⟨hfz b hb, rfl⟩) _ v x h
  | .str, t', p, v, x, hf, hk, h => by
    have := LT.beq_eq _ _ (show LT.str.beq t' = true from by simpa [frzL] using hf)
    subst this
    exact FzL_mono (fun b hb => ⟨hfz b hb, rfl⟩) _ v x h
theorem ArC_frz {G' : Gh} {q : Nat} (hfz : ∀ b, G.own b = .fz → G'.own b = .fz) (hH : ∀ p, G'.H q p = G.H q p) : ∀ (ts ts' : List LT) (p : Path) (i b o k : Nat) (x : D) (j : Nat), frzLs ts ts' = true →
    (∀ (m : Nat) (t t' : LT), ts[m]? = some t → ts'[m]? = some t' → ∀ s b, G.own b = .arr q (p ++ (i, j + m) :: s) → G'.own b = if frzT t t' s = true then .fz else .arr q (p ++ (i, j + m) :: s)) → ArC w G [] q ts p i b o k x j → ArC w G' [] q ts' p i b o k x j
  | [], [], _, _, _, _, _, _, _, _, _, _ => trivial
  | [], _ :: _, _, _, _, _, _, _, _, hf, _, _ => by simp [frzLs] at hf
  | _ :: _, [], _, _, _, _, _, _, _, hf, _, _ => by simp [frzLs] at hf
  | t :: ts, t' :: ts', p, i, b, o, k, x, j, hf, hk, ⟨⟨v, h1, h2⟩, h3⟩ => by
    simp only [frzLs, Bool.and_eq_true] at hf
    refine ⟨⟨v, h1, ArL_frz hfz hH t t' _ v _ hf.1 (fun s b hb => ?_) h2⟩, ArC_frz hfz hH ts ts' p i b o k x (j + 1) hf.2 (fun m t1 t1' hm hm' s b hb => ?_) h3⟩
    · have := hk 0 t t' rfl rfl s b (by simpa using hb)
      simpa using this
    · have := hk (m + 1) t1 t1' (by simpa using hm) (by simpa using hm') s b (by rw [show j + (m + 1) = j + 1 + m by omega]; exact hb)
      rw [show j + (m + 1) = j + 1 + m by omega] at this
      exact this
end
theorem any_none : ∀ (l : List A), anyA (fun _ => false) l = false
  | [] => rfl
  | x :: xs => by
    have h1 : x.any (fun _ => false) = false := any_none1 x
    simp only [anyA, h1, any_none xs, Bool.or_self]
where any_none1 : ∀ a : A, a.any (fun _ => false) = false
  | .agg xs => any_none xs
  | .tup xs => any_none xs
  | .fn _ xs => any_none xs
  | .int _ _ => rfl
  | .bool _ => rfl
  | .undef => rfl
  | .str _ => rfl
  | .nils => rfl
  | .fz .. => rfl
  | .vw .. => rfl
  | .px .. => rfl
  | .sx .. => rfl
  | .sb .. => rfl
  | .pa .. => rfl
  | .pb .. => rfl
  | .mp .. => rfl
  | .ez => rfl
  | .pz .. => rfl
  | .nilp => rfl
/-- the state with the inner rows of q only read -/
theorem RelS.frz (h : RelS ext nt w G st act) {ks : List Nat} (hs : SlotsIn ks st) {q : Nat} {a : Arr} {el' : List LT} (ha : look st.ar q = some a) (hst : a.stale = []) (hf : frzLs a.el el' = true) :
    Fr w G w (G.frz q a.el el') ∧ RelS ext nt w (G.frz q a.el el') { st with ar := putA st.ar q { a with el := el', hv := hv4 st.ctr }, ctr := st.ctr + 1 } act ∧
      SlotsIn ks { st with ar := putA st.ar q { a with el := el', hv := hv4 st.ctr }, ctr := st.ctr + 1 } ∧ ∀ (x : A) (v : Value), basicA x = true → AOK w G st x v → AOK w (G.frz q a.el el') { st with ar := putA st.ar q { a with el := el', hv := hv4 st.ctr }, ctr := st.ctr + 1 } x v := by
  let st' : St := { st with ar := putA st.ar q { a with el := el', hv := hv4 st.ctr }, ctr := st.ctr + 1 }
  have hfz : ∀ b, G.own b = .fz → (G.frz q a.el el').own b = .fz := fun b hb => frz_fz hb
  have hlen := frzLs_len hf
  have hdep : ∀ dep : List (Nat × Nat), depOk st' dep = depOk st dep := by
    intro dep
    induction dep with
    | nil => rfl
    | cons d l ih =>
      obtain ⟨m, v⟩ := d
      simp only [depOk, st', look_putA] at ih ⊢
      rw [ih]
      by_cases e1 : m = q
      · subst e1; rw [if_pos rfl, ha]
      · rw [if_neg e1]
  have hV : ∀ {m u p a'}, Valid st' m u p a' → u < st.ctr → (m ≠ q ∧ Valid st m u p a') ∨ (m = q ∧ p = [] ∧ Valid st q u [] a ∧ a' = { a with el := el', hv := hv4 st.ctr }) := fun {m u p a'} hv hu => by
    obtain ⟨h1, h2, h3⟩ := hv
    simp only [st', look_putA] at h1
    by_cases e1 : m = q
    · subst e1
      rw [if_pos rfl] at h1
      injection h1 with h1
      subst h1
      cases p with
      | nil => exact .inr ⟨rfl, rfl, ⟨ha, Nat.zero_le _, h3⟩, rfl⟩
      | cons x p =>
        exfalso
        simp only [stampAt, hv4] at h3
        simp only [List.length_cons] at h2
        have : p.length = 0 ∨ p.length = 1 ∨ p.length = 2 ∨ p.length = 3 := by omega
        rcases this with e | e | e | e <;> rw [e] at h3 <;> simp at h3 <;> omega
    · rw [if_neg e1] at h1
      exact .inl ⟨e1, h1, h2, h3⟩
  have aok : ∀ (x : A) (v : Value), basicA x = true → AOK w G st x v → AOK w (G.frz q a.el el') st' x v := by
    intro x v hba h
    have hok : ∀ dep b, okD G dep b → okD (G.frz q a.el el') dep b := fun dep b hb => by
      rcases hb with hb | ⟨d, hd, p, hb⟩
      · exact .inl (hfz b hb)
      · rw [okD, frz_arr hb]
        split
        · exact .inl rfl
        · exact .inr ⟨d, hd, p, rfl⟩
    cases x with
    | vw m u p =>
      refine ⟨Nat.lt_succ_of_lt h.1, fun a' ha' => ?_⟩
      rcases hV ha' h.1 with ⟨_, k⟩ | ⟨rfl, rfl, k, rfl⟩
      · exact h.2 a' k
      · exact ⟨(h.2 a k).1, ⟨_, rfl⟩, trivial⟩
    | px m u n =>
      refine ⟨Nat.lt_succ_of_lt h.1, fun a' ha' => ?_⟩
      rcases hV ha' h.1 with ⟨_, k⟩ | ⟨rfl, _, k, rfl⟩
      · exact h.2 a' k
      · exact h.2 a k
    | sx m u kk n lo =>
      refine ⟨Nat.lt_succ_of_lt h.1, fun a' ha' => ?_⟩
      rcases hV ha' h.1 with ⟨_, k⟩ | ⟨rfl, _, k, rfl⟩
      · exact h.2 a' k
      · obtain ⟨k1, k2⟩ := h.2 a k
        exact ⟨by simp only; rw [hlen]; exact k1, k2⟩
    | pa m u p k i off =>
      refine ⟨Nat.lt_succ_of_lt h.1, fun a' ha' => ?_⟩
      rcases hV ha' h.1 with ⟨_, k⟩ | ⟨rfl, rfl, k, rfl⟩
      · exact h.2 a' k
      · obtain ⟨t, k1, k2, k3, k4⟩ := h.2 a k
        simp only [tyAt, Option.some.injEq] at k1
        subst k1
        exact ⟨_, rfl, trivial, by simp only at k3 ⊢; rw [hlen]; exact k3, k4⟩
    | fz dep e el xs => exact ⟨fun d hd => Nat.lt_succ_of_lt (h.1 d hd), fun h' => FzL_mono (fun b hb => ⟨hok dep b hb, rfl⟩) _ _ _ (h.2 (by rw [← hdep]; exact h'))⟩
    | pz dep el x off =>
      refine ⟨fun d hd => Nat.lt_succ_of_lt (h.1 d hd), fun h' => ?_⟩
      obtain ⟨b, o, k1, k2⟩ := h.2 (by rw [← hdep]; exact h')
      exact ⟨b, o, k1, FzC_mono (fun b hb => ⟨hok dep b hb, rfl⟩) _ _ _ _ _ _ k2⟩
    | sb b u k n => exact ⟨Nat.lt_succ_of_lt h.1, h.2⟩
    | pb b u off => exact ⟨Nat.lt_succ_of_lt h.1, h.2⟩
    | mp b u => exact ⟨Nat.lt_succ_of_lt h.1, h.2⟩
    | agg xs => simp [basicA] at hba
    | tup xs => simp [basicA] at hba
    | fn f xs => simp [basicA] at hba
    | _ => exact h
  have aokAll : ∀ (x : A) (v : Value), AOK w G st x v → AOK w (G.frz q a.el el') st' x v := fun x v h => AOK_any (f := fun _ => false) (fun x v h1 _ h2 => aok x v h1 h2) x v (any_none.any_none1 x) h
  refine ⟨⟨rfl, rfl, rfl, Nat.le_refl _, fun b _ hb => ⟨rfl, by rcases hb with hb | hb <;> rw [hb] <;> first | exact frz_out hb | exact frz_fz hb⟩, fun _ _ _ => rfl⟩, ⟨⟨fun _ _ h => by simp at h, fun b x hx => ?_, h.rel.apartB, fun m x hx => ?_, fun b hb => h.rel.live b (fun e => hb (frz_out e)), h.rel.hdr⟩, fun t => aokAll _ _ (h.slots t), h.size, h.defers⟩, hs, aok⟩
  · obtain ⟨g1, g2, g3⟩ := h.rel.boxes b x hx
    exact ⟨Nat.lt_succ_of_lt g1, frz_box g2, g3.step rfl rfl rfl fun j hj v m2 => aokAll _ _ m2⟩
  · simp only [look_putA] at hx
    by_cases e1 : m = q
    · subst e1
      rw [if_pos rfl] at hx
      injection hx with hx
      subst hx
      obtain ⟨k1, k2, k3, k4⟩ := h.rel.arrs m a ha
      refine ⟨Nat.lt_succ_of_lt k1, Nat.lt_succ_of_lt k2, ⟨rfl, fun u hu => by simp [hv4] at hu; subst hu; exact Nat.lt_succ_self _⟩, ?_⟩
      rw [hst] at k4
      simp only [hst]
      obtain ⟨ad, n, c, r1, r2, r3, r4, r5, r6⟩ := k4
      refine ⟨ad, n, c, r1, r2, r3, r4, r5, fun x hx => ?_⟩
      obtain ⟨g1, g2, cs, e0, g3, g4, g5⟩ := r6 x hx
      rw [hlen]
      refine ⟨g1, ?_, cs, e0, g3, g4, fun i hi => ArC_frz hfz (fun _ => rfl) a.el el' [] i _ _ _ _ 0 hf (fun k t t' hk hk' s b hb => ?_) (g5 i hi)⟩
      · rw [frz_arr g2]; simp [frzAt]
      · rw [frz_arr hb]
        have e2 : frzAt a.el el' ([] ++ (i, 0 + k) :: s) = frzT t t' s := by
          simp only [List.nil_append, frzAt, Nat.zero_add, hk, hk']
          exact frz_leaf t t' s
        rw [e2]
        simp
    · rw [if_neg e1] at hx
      obtain ⟨k1, k2, k3, k4⟩ := h.rel.arrs m x hx
      refine ⟨Nat.lt_succ_of_lt k1, Nat.lt_succ_of_lt k2, ⟨k3.1, fun u hu => Nat.lt_succ_of_lt (k3.2 u hu)⟩, ?_⟩
      exact Row_same (G := G) (G' := G.frz q a.el el') (fun b hb => ⟨hfz b hb, rfl⟩) (fun p => rfl) (fun b p hb => ⟨by rw [frz_arr hb, if_neg (fun h => e1 h.1)], rfl⟩) k4
def Gh.fzAll (G : Gh) (q : Nat) : Gh :=
  { own := fun b => match G.own b with
      | .arr r p => if r = q then .fz else .arr r p
      | t => t
    H := G.H
    B := G.B }
theorem fzAll_arr {q r : Nat} {b : Nat} {p : Path} (h : G.own b = .arr r p) : (G.fzAll q).own b = if r = q then .fz else .arr r p := by simp [Gh.fzAll, h]
theorem fzAll_of {q : Nat} {b : Nat} (h : ∀ r p, G.own b ≠ .arr r p) : (G.fzAll q).own b = G.own b := by
  unfold Gh.fzAll
  cases e : G.own b with
  | arr r p => exact absurd e (h r p)
  | _ => simp [e]
/-- the state with q only read -/
theorem RelS.fzA (h : RelS ext nt w G st act) {ks : List Nat} (hs : SlotsIn ks st) {q : Nat} {a : Arr} (ha : look st.ar q = some a) (hst : a.stale = []) :
    Fr w G w (G.fzAll q) ∧ RelS ext nt w (G.fzAll q) { st with ar := dropA st.ar q } act ∧ SlotsIn ks { st with ar := dropA st.ar q } ∧
      AOK w (G.fzAll q) { st with ar := dropA st.ar q } (.fz [] a.e (setOwnL false a.el) a.data) (G.H q []) := by
  let st' : St := { st with ar := dropA st.ar q }
  have hfz : ∀ b, G.own b = .fz → (G.fzAll q).own b = .fz := fun b hb => by rw [fzAll_of (by rw [hb]; simp)]; exact hb
  have hbox : ∀ b, G.own b = .box → (G.fzAll q).own b = .box := fun b hb => by rw [fzAll_of (by rw [hb]; simp)]; exact hb
  have hout : ∀ b, G.own b = .out → (G.fzAll q).own b = .out := fun b hb => by rw [fzAll_of (by rw [hb]; simp)]; exact hb
  have hL : Le w G st w (G.fzAll q) st' := by
    refine ⟨Nat.le_refl _, fun r u p a' _ hv => ?_, fun b x' _ hx => ⟨x', hx, rfl, rfl⟩, fun r a' _ hx => ?_, fun b hb => ⟨hfz b hb, rfl⟩⟩
    · obtain ⟨h1, h2, h3⟩ := hv
      simp only [st', look_dropA] at h1
      split at h1
      · simp at h1
      · exact ⟨a', ⟨h1, h2, h3⟩, rfl, rfl, rfl, fun h => h⟩
    · simp only [st', look_dropA] at hx
      split at hx
      · simp at hx
      · rename_i hne
        exact ⟨a', hx, rfl, fun b p hb => ⟨⟨p, by rw [fzAll_arr hb, if_neg hne]⟩, rfl⟩⟩
  have aok : ∀ (x : A) (v : Value), AOK w G st x v → AOK w (G.fzAll q) st' x v := fun x v hx => AOK_mono hL x v hx
  refine ⟨⟨rfl, rfl, rfl, Nat.le_refl _, fun b _ hb => ⟨rfl, by rcases hb with hb | hb <;> rw [hb] <;> first | exact hout b hb | exact hfz b hb⟩, fun _ _ _ => rfl⟩,
    ⟨⟨fun _ _ h => by simp at h, fun b x hx => ?_, h.rel.apartB, fun m x hx => ?_, fun b hb => h.rel.live b (fun e => hb (hout b e)), h.rel.hdr⟩, fun t => aok _ _ (h.slots t), h.size, h.defers⟩, hs, ?_⟩
  · obtain ⟨g1, g2, g3⟩ := h.rel.boxes b x hx
    exact ⟨g1, hbox _ g2, g3.step rfl rfl rfl fun j hj v m2 => aok _ _ m2⟩
  · simp only [look_dropA] at hx
    split at hx
    · simp at hx
    · rename_i e1
      obtain ⟨k1, k2, k3, k4⟩ := h.rel.arrs m x hx
      refine ⟨k1, k2, k3, ?_⟩
      exact Row_same (G := G) (G' := G.fzAll q) (fun b hb => ⟨hfz b hb, rfl⟩) (fun p => rfl) (fun b p hb => ⟨by rw [fzAll_arr hb, if_neg e1], rfl⟩) k4
  · obtain ⟨_, _, _, k4⟩ := h.rel.arrs q a ha
    rw [hst] at k4
    obtain ⟨ad, n, c, r1, r2, r3, r4, r5, r6⟩ := k4
    refine ⟨by simp, fun _ => ⟨ad, n, c, r1, r2, r3, r4, r5, fun x hx hn => ?_⟩⟩
    obtain ⟨g1, g2, cs, e0, g3, g4, g5⟩ := r6 x hx
    refine ⟨g1, fun i hi => ?_⟩
    rw [setOwnL_length, FzC_setOwn]
    refine FzC_mono (ok1 := fun b => (G.fzAll q).own b = .fz) (fun b hb => ⟨.inl hb, rfl⟩) _ _ _ _ _ _ (ArC_toFz (G' := G.fzAll q) (q := q) hfz a.el [] i _ _ _ _ 0 (by rw [fzAll_arr g2, if_pos rfl]) (fun j s b hb => by rw [fzAll_arr hb, if_pos rfl]) (g5 i hi))
/-! ### A place that holds a slice -/
theorem convA_sound (h : RelS ext nt w G st act) {ks : List Nat} (hs : SlotsIn ks st) (hc : 0 < st.ctr) {nmx : Nat} {c : Conv} {a a' : A} {v : Value} (ha : AOK w G st a v) {st' : St} (hr : convA ks nmx c a st = some (st', a')) :
    ∃ G', Fr w G w G' ∧ (∀ b, G'.B b = G.B b) ∧ RelS ext nt w G' st' act ∧ SlotsIn ks st' ∧ 0 < st'.ctr ∧ AOK w G' st' a' v := by
  unfold convA at hr
  split at hr
  · rename_i e el
    cases hn : (anyT (refR nmx) st.sl ks || anyBx (refR nmx) st.bx) with
    | true => simp [hn, fail] at hr
    | false =>
      simp [hn, ok] at hr
      obtain ⟨rfl, rfl⟩ := hr
      refine ⟨G.nilAt nmx, ⟨rfl, rfl, rfl, Nat.le_refl _, fun _ _ _ => ⟨rfl, rfl⟩, fun _ _ _ => rfl⟩, fun _ => rfl, h.new hs hc hn, hs, hc, hc, fun a' ha' => ⟨?_, ⟨_, rfl⟩, trivial⟩⟩
      have hv : v = .slice none 0 0 := ha
      rw [hv]
      simp [Gh.nilAt]
  · rename_i e el q
    simp [ok] at hr
    obtain ⟨rfl, rfl⟩ := hr
    by_cases hq : q = nmx
    · subst hq
      have : St.rename ks st q q = st := by simp [St.rename, beqt]
      rw [this]
      exact ⟨G, Fr.refl w G, fun _ => rfl, h, hs, hc, ha⟩
    · obtain ⟨k1, k2, k3⟩ := h.ren hq hs
      refine ⟨G.moved q nmx, moved_fr q nmx, fun _ => rfl, k1, k2, by rw [k3]; exact hc, ?_⟩
      have := aok_ren (ks := ks) hq (.vw q 0 []) v rfl ha
      simpa [renA, beqt] using this
  · rename_i e el
    simp [ok] at hr
    obtain ⟨rfl, rfl⟩ := hr
    have hv : v = .slice none 0 0 := ha
    exact ⟨G, Fr.refl w G, fun _ => rfl, h, hs, hc, by simp, fun _ => ⟨none, 0, 0, hv, rfl, Nat.le_refl _, Nat.zero_le _, fun _ => rfl, by simp⟩⟩
  · simp [ok] at hr
    obtain ⟨rfl, rfl⟩ := hr
    exact ⟨G, Fr.refl w G, fun _ => rfl, h, hs, hc, ha⟩
  · simp [ok] at hr
    obtain ⟨rfl, rfl⟩ := hr
    exact ⟨G, Fr.refl w G, fun _ => rfl, h, hs, hc, ha⟩
  · rename_i e el q
    obtain ⟨x, h1, h2⟩ := bind_some hr
    simp only [ofO] at h1
    split at h2
    · rename_i hst
      obtain ⟨h3, h4⟩ := bif_some h2
      simp only [ok, Option.some.injEq, Prod.mk.injEq] at h4
      obtain ⟨rfl, rfl⟩ := h4
      simp only [Bool.and_eq_true] at h3
      obtain ⟨k1, k2, k3, k4⟩ := h.frz hs h1 hst h3.2.2
      exact ⟨_, k1, fun _ => rfl, k2, k3, Nat.succ_pos _, k4 _ _ rfl ha⟩
    · simp [fail] at h2
  · simp [ok] at hr
    obtain ⟨rfl, rfl⟩ := hr
    have hv : v = .slice none 0 0 := ha
    exact ⟨G, Fr.refl w G, fun _ => rfl, h, hs, hc, by simp, fun _ => ⟨none, 0, 0, hv, rfl, Nat.le_refl _, Nat.zero_le _, fun _ => rfl, by simp⟩⟩
  · simp [ok] at hr
    obtain ⟨rfl, rfl⟩ := hr
    exact ⟨G, Fr.refl w G, fun _ => rfl, h, hs, hc, ha⟩
  · rename_i e el q
    obtain ⟨x, h1, h2⟩ := bind_some hr
    simp only [ofO] at h1
    split at h2
    · rename_i hst
      obtain ⟨h3, h4⟩ := bif_some h2
      simp only [ok, Option.some.injEq, Prod.mk.injEq] at h4
      obtain ⟨rfl, rfl⟩ := h4
      simp only [Bool.and_eq_true] at h3
      obtain ⟨k1, k2, k3, k4⟩ := h.fzA hs h1 hst
      refine ⟨_, k1, fun _ => rfl, k2, k3, hc, ?_⟩
      rw [(ha.2 x ⟨h1, Nat.zero_le _, Nat.eq_of_beq_eq_true h3.1⟩).1, beqL_eq _ _ h3.2.2, ← Nat.eq_of_beq_eq_true h3.2.1]
      exact k4
    · simp [fail] at h2
  · simp [fail] at hr
theorem RelS.put (h : RelS ext nt w G st act) {t : Nat} {a : A} (ha : AOK w G st a (tv ext act t)) : RelS ext nt w G (st.put t a) act := by
  refine ⟨h.rel.slotsTo _, fun t' => ?_, h.size, h.defers⟩
  refine AOK_slots.2 ?_
  simp only [St.put, Tr.get_set]
  split
  · rename_i e; subst e; exact ha
  · exact h.slots t'
theorem has_iff {n : Nat} : ∀ {l : List Nat}, has l n = true ↔ n ∈ l
  | [] => by simp [has]
  | m :: l => by
    by_cases h : m = n
    · subst h; simp [has, beqt]
    · simp [has, beqf h, has_iff (l := l), Ne.symm h]
theorem SlotsIn.put {ks : List Nat} (hs : SlotsIn ks st) {t : Nat} (ht : t ∈ ks) (a : A) : SlotsIn ks (st.put t a) := fun t' ht' => by
  have : t' ≠ t := fun e => ht' (e ▸ ht)
  simp [St.put, Tr.get_set, this, hs t' ht']
theorem convs_sound {ks : List Nat} {nb : Nat} : ∀ (l : List (Nat × Conv)) {G : Gh} {st st' : St}, RelS ext nt w G st act → SlotsIn ks st → 0 < st.ctr → convs ks nb l st = some st' → ∃ G', Fr w G w G' ∧ RelS ext nt w G' st' act ∧ SlotsIn ks st' ∧ 0 < st'.ctr
  | [], G, st, st', h, hs, hc, hr => by
    simp [convs, ok] at hr
    subst hr
    exact ⟨G, Fr.refl w G, h, hs, hc⟩
  | (t, c) :: l, G, st, st', h, hs, hc, hr => by
    simp only [convs] at hr
    obtain ⟨h1, h2⟩ := bif_some hr
    obtain ⟨q, h3, h4⟩ := bind_some h2
    obtain ⟨G1, k1, _, k2, k3, k4, k5⟩ := convA_sound h hs hc (h.slots t) h3
    obtain ⟨G2, m1, m2⟩ := convs_sound l (k2.put k5) (k3.put (has_iff.1 h1) _) k4 h4
    exact ⟨G2, k1.trans m1, m2⟩
/-- a leaf of a variable, seen otherwise -/
theorem RelS.setLeaf (h : RelS ext nt w G st act) {b j : Nat} {x : Bx} {a : A} (hx : look st.bx b = some x) (hmp : x.mp = none) (ha : ∀ cs e, w.heap[(G.B b).1]? = some (.cells cs e (0, 0)) → ∀ v, cs[(G.B b).2 + j]? = some v → AOK w G st a v) :
    RelS ext nt w G { st with bx := putA st.bx b { uid := x.uid, lv := x.lv.set j a } } act := by
  have hL := Le.bxPut (w := w) (G := G) hx (x.lv.set j a)
  refine ⟨?_, fun t => AOK_mono hL _ _ (h.slots t), h.size, h.defers⟩
  obtain ⟨g1, g2, hcs⟩ := h.rel.boxes b x hx
  obtain ⟨cs, e, g3, g4, g5⟩ := hcs.cells hmp
  refine h.rel.step hL (fun _ _ h => by simp at h) (fun b' x' hx' => ?_) (fun b1 b2 x1 x2 e1 e2 hne => ?_) (fun r a ha => .inl ⟨ha, fun _ => rfl, fun b p h => ⟨h, rfl⟩⟩) h.rel.live h.rel.hdr
  · simp only [look_putA] at hx'
    by_cases hb : b' = b
    · rw [if_pos hb] at hx'
      injection hx' with hx'
      subst hx'; subst hb
      refine .inr ⟨g1, g2, CellsB.of_cells rfl ⟨cs, e, g3, by simpa using g4, fun j' hj' => ?_⟩⟩
      simp only [List.length_set] at hj'
      obtain ⟨v, m1, m2⟩ := g5 j' hj'
      refine ⟨v, m1, AOK_mono hL _ _ ?_⟩
      by_cases hjj : j' = j
      · subst hjj
        have : (x.lv.set j' a).getD j' .undef = a := by simp [List.getD, hj']
        rw [this]
        exact ha cs e g3 v m1
      · have : (x.lv.set j a).getD j' .undef = x.lv.getD j' .undef := by simp [List.getD, List.getElem?_set, Ne.symm hjj]
        rw [this]
        exact m2
    · rw [if_neg hb] at hx'
      exact .inl ⟨hx', rfl, rfl, (h.rel.boxes b' x' hx').2.1⟩
  · simp only [look_putA] at e1 e2
    have hlen : ∀ b' x', (if b' = b then some ({ uid := x.uid, lv := x.lv.set j a } : Bx) else look st.bx b') = some x' → ∃ y, look st.bx b' = some y ∧ y.lv.length = x'.lv.length := fun b' x' hh => by
      split at hh
      · rename_i hb
        injection hh with hh
        subst hh; subst hb
        exact ⟨x, hx, by simp⟩
      · exact ⟨x', hh, rfl⟩
    obtain ⟨y1, k1, k2⟩ := hlen b1 x1 e1
    obtain ⟨y2, m1, m2⟩ := hlen b2 x2 e2
    exact h.rel.apartB b1 b2 y1 y2 k1 m1 hne
theorem bconvs_sound {ks : List Nat} : ∀ (l : List (Nat × Nat × Conv)) {G : Gh} {st st' : St}, RelS ext nt w G st act → SlotsIn ks st → 0 < st.ctr → bconvs ks l st = some st' → ∃ G', Fr w G w G' ∧ RelS ext nt w G' st' act ∧ SlotsIn ks st' ∧ 0 < st'.ctr
  | [], G, st, st', h, hs, hc, hr => by
    simp [bconvs, ok] at hr
    subst hr
    exact ⟨G, Fr.refl w G, h, hs, hc⟩
  | (b, j, c) :: l, G, st, st', h, hs, hc, hr => by
    simp only [bconvs] at hr
    cases hx : look st.bx b with
    | none => simp only [hx] at hr; exact bconvs_sound l h hs hc hr
    | some x =>
      simp only [hx] at hr
      obtain ⟨q, h3, h4⟩ := bind_some hr
      obtain ⟨x2, h5, h6⟩ := bind_some h4
      simp only [ofO] at h5
      obtain ⟨g1, g2, hcs⟩ := h.rel.boxes b x hx
      by_cases hj : j < x.lv.length
      · have hmp : x.mp = none := hcs.noMap hj
        obtain ⟨cs, e, g3, g4, g5⟩ := hcs.cells hmp
        obtain ⟨v, m1, m2⟩ := g5 j hj
        obtain ⟨G1, k1, k0, k2, k3, k4, k5⟩ := convA_sound h hs hc m2 h3
        have hset := k2.setLeaf (j := j) (a := q.2) h5 ((k2.rel.boxes b x2 h5).2.2.noMap' (by rw [k0]; exact g3)) (fun cs' e' hcs v' hv' => by
          rw [k0] at hcs hv'
          rw [g3] at hcs
          injection hcs with hcs
          injection hcs with hcs
          subst hcs
          rw [m1] at hv'
          injection hv' with hv'
          subst hv'
          exact k5)
        obtain ⟨G2, n1, n2⟩ := bconvs_sound l hset k3 k4 h6
        exact ⟨G2, k1.trans n1, n2⟩
      · have : x.lv.getD j .undef = .undef := by
          simp only [List.getD]
          rw [List.getElem?_eq_none (by omega)]
          rfl
        rw [this] at h3
        unfold convA at h3
        split at h3 <;> first | (rename_i e0; simp at e0; done) | (simp [fail] at h3; done) | (simp_all; done)
theorem canon_sound (h : RelS ext nt w G st act) {a : Option Ann} {st' : St} (hr : canon a st = some st') : ∃ G', Fr w G w G' ∧ RelS ext nt w G' st' act := by
  cases a with
  | none => simp [canon, ok] at hr; subst hr; exact ⟨G, Fr.refl w G, h⟩
  | some a =>
    obtain ⟨k1, k2⟩ := h.keep a.keep
    have k3 := k1.gc a.keep
    have k4 : SlotsIn a.keep ((st.keep a.keep).gc a.keep) := k2
    have k5 : 0 < ((st.keep a.keep).gc a.keep).ctr := Nat.lt_succ_self 0
    simp only [canon] at hr
    split at hr
    · simp [ok] at hr; subst hr; exact ⟨G, Fr.refl w G, k3⟩
    · obtain ⟨s1, h1, h2⟩ := bind_some hr
      obtain ⟨s2, h3, h4⟩ := bind_some h2
      simp [ok] at h4
      subst h4
      obtain ⟨G1, m1, m2, m3, m4⟩ := convs_sound _ k3 k4 k5 h1
      obtain ⟨G2, n1, n2, n3, n4⟩ := bconvs_sound _ m2 m3 m4 h3
      exact ⟨G2, m1.trans n1, n2.gc _⟩
end
end Go.Eng

namespace Go.Eng
def toExit : Ex → Exit
  | .norm => .normal
  | .ret => .ret
  | .exit id => .exit id
def codeOk (E : Env) (h : Hint) (nt : Nat) : Code → Bool
  | .skip => true
  | .region id ops draw => regOk E h nt id ops draw
  | .seq x y => codeOk E h nt x && codeOk E h nt y
  | .cond _ x y => codeOk E h nt x && codeOk E h nt y
  | .block _ x => codeOk E h nt x
  | .loop x => codeOk E h nt x
  | .exit _ => true
  | .ret => true
  | .label _ => true
  | .scope x => codeOk E h nt x
  | _ => false
section
variable {ext : Nat → Value} {P : Program} {nt : Nat}
theorem least {p : Nat → Prop} (h : ∃ n, p n) : ∃ n, p n ∧ ∀ m, p m → n ≤ m := by
  obtain ⟨n, hn⟩ := h
  induction n using Nat.strongRecOn with
  | _ n ih =>
    by_cases hm : ∃ m, m < n ∧ p m
    · obtain ⟨m, h1, h2⟩ := hm
      exact ih m h1 h2
    · exact ⟨n, hn, fun m hp => by
        rcases Nat.lt_or_ge m n with h | h
        · exact absurd ⟨m, h, hp⟩ hm
        · exact h⟩
theorem loop_sound {x : Code} {f : St → M (Ex × St)} {hd : St → M St} {Q : Exit → Act → World → Prop} {w0 : World} {G0 : Gh} {ex : Ex} {st1 : St}
    (hf : ∀ {w : World} {G : Gh} {st : St} {act : Act} {e : Ex} {st' : St}, RelS ext nt w G st act → f st = some (e, st') → ∀ Q : Exit → Act → World → Prop, (∀ c a a' w, Q (.panic c) a w → Q (.panic c) a' w) → (∀ w' G' act', Fr w G w' G' → RelS ext nt w' G' st' act' → Q (toExit e) act' w') → x.wp P Q act w)
    (hhd : ∀ {w : World} {G : Gh} {st st' : St} {act : Act}, RelS ext nt w G st act → hd st = some st' → ∃ G', Fr w G w G' ∧ RelS ext nt w G' st' act)
    (hQ : ∀ c a a' w, Q (.panic c) a w → Q (.panic c) a' w) (hK : ∀ w' G' act', Fr w0 G0 w' G' → RelS ext nt w' G' st1 act' → Q (toExit ex) act' w')
    {k : Nat} {st : St} {act : Act} (h : RelS ext nt w0 G0 st act) (hr : loopA f hd k st = some (ex, st1)) : (Code.loop x).wp P Q act w0 := by
  classical
  let J : Nat → Act → World → Prop := fun n a w => ∃ G st, Fr w0 G0 w G ∧ RelS ext nt w G st a ∧ loopA f hd n st = some (ex, st1)
  let I : Act → World → Prop := fun a w => ∃ n, J n a w
  let μ : Act → World → Nat := fun a w => if hI : I a w then Classical.choose (least hI) else 0
  have hμ : ∀ n a w, J n a w → μ a w ≤ n := fun n a w hj => by
    have hI : I a w := ⟨n, hj⟩
    simp only [μ, dif_pos hI]
    exact (Classical.choose_spec (least hI)).2 n hj
  refine wp_loop I μ ⟨k, G0, st, Fr.refl w0 G0, h, hr⟩ fun a w hI => ?_
  have hj : J (μ a w) a w := by
    simp only [μ, dif_pos hI]
    exact (Classical.choose_spec (least hI)).1
  obtain ⟨G, st2, h1, h2, h3⟩ := hj
  cases hn : μ a w with
  | zero => rw [hn] at h3; simp [loopA, fail] at h3
  | succ n =>
    rw [hn] at h3
    simp only [loopA] at h3
    obtain ⟨st3, h4, h5⟩ := bind_some h3
    obtain ⟨r, h6, h7⟩ := bind_some h5
    obtain ⟨e, st4⟩ := r
    obtain ⟨G2, k1, k2⟩ := hhd h2 h4
    refine hf k2 h6 _ (fun c a a' w hh => hQ c a a' w hh) (fun w' G' act' hF hS => ?_)
    cases e with
    | norm =>
      simp only [againA] at h7
      have hj' : J n act' w' := ⟨G', st4, (h1.trans k1).trans hF, hS, h7⟩
      exact ⟨⟨n, hj'⟩, Nat.lt_succ_of_le (hμ n act' w' hj')⟩
    | ret =>
      simp [againA, ok] at h7
      obtain ⟨rfl, rfl⟩ := h7
      exact hK w' G' act' ((h1.trans k1).trans hF) hS
    | exit id =>
      simp [againA, ok] at h7
      obtain ⟨rfl, rfl⟩ := h7
      exact hK w' G' act' ((h1.trans k1).trans hF) hS
theorem aev_sound {E : Env} {hh : Hint} {ctx : Ctx} (hE : EnvOk P E) (hC : CallsOk P E ctx) (hm : P.follows .mixedOrders = true) (h500 : nt ≤ 500) (k : Nat) : ∀ (c : Code) (b : Nat), codeOk E hh nt c = true →
    ∀ {w : World} {G : Gh} {st : St} {act : Act} {ex : Ex} {st' : St}, RelS ext nt w G st act → aev E hh ctx k b c st = some (ex, st') →
      ∀ Q : Exit → Act → World → Prop, (∀ c a a' w, Q (.panic c) a w → Q (.panic c) a' w) → (∀ w' G' act', Fr w G w' G' → RelS ext nt w' G' st' act' → Q (toExit ex) act' w') → c.wp P Q act w
  | .skip, b, _, w, G, st, act, ex, st', hS, h, Q, hQ, hK => by
    simp [aev, ok] at h
    obtain ⟨rfl, rfl⟩ := h
    exact wp_skip (hK w G act (Fr.refl w G) hS)
  | .region id ops draw, b, hc, w, G, st, act, ex, st', hS, h, Q, hQ, hK => by
    simp only [aev] at h
    refine regs_sound hE hC hm h500 hc hS (fun hR hmd => ?_) h hQ (fun w' G' act' he hF hS' => ?_)
    · unfold midA at hmd
      split at hmd
      · simp only [ok, Option.some.injEq, Prod.mk.injEq] at hmd
        obtain ⟨rfl, rfl⟩ := hmd
        exact ⟨rfl, _, Fr.refl _ _, hR⟩
      · unfold endA at hmd
        obtain ⟨s2, h3, h4⟩ := bind_some hmd
        simp only [ok, Option.some.injEq, Prod.mk.injEq] at h4
        obtain ⟨rfl, rfl⟩ := h4
        obtain ⟨G2, k1, k2⟩ := canon_sound hR h3
        exact ⟨rfl, G2, k1, k2⟩
    · have := hK w' G' act' hF hS'
      rw [he] at this
      exact this
  | .seq x y, b, hc, w, G, st, act, ex, st', hS, h, Q, hQ, hK => by
    simp only [codeOk, Bool.and_eq_true] at hc
    simp only [aev] at h
    obtain ⟨r, h1, h2⟩ := bind_some h
    obtain ⟨e1, st1⟩ := r
    refine wp_seq (aev_sound hE hC hm h500 k x b hc.1 hS h1 _ (fun c a a' w hh => hQ c a a' w hh) (fun w' G' act' hF hS' => ?_))
    cases e1 with
    | norm =>
      simp only [thenA] at h2
      exact aev_sound hE hC hm h500 k y b hc.2 hS' h2 Q hQ (fun w2 G2 act2 hF2 hS2 => hK w2 G2 act2 (hF.trans hF2) hS2)
    | ret =>
      simp [thenA, ok] at h2
      obtain ⟨rfl, rfl⟩ := h2
      exact hK w' G' act' hF hS'
    | exit id =>
      simp [thenA, ok] at h2
      obtain ⟨rfl, rfl⟩ := h2
      exact hK w' G' act' hF hS'
  | .cond c x y, b, hc, w, G, st, act, ex, st', hS, h, Q, hQ, hK => by
    simp only [codeOk, Bool.and_eq_true] at hc
    simp only [aev] at h
    have hv := evO_sound (w := w) (G := G) (st := st) (act := act) hS.slots c
    unfold condA at h
    split at h
    · rename_i t he
      rw [he] at hv
      refine wp_cond (t := t) hv ?_
      cases t with
      | true => exact aev_sound hE hC hm h500 k x b hc.1 hS (by simpa using h) Q hQ hK
      | false => exact aev_sound hE hC hm h500 k y b hc.2 hS (by simpa using h) Q hQ hK
    · simp [fail] at h
  | .block id x, b, hc, w, G, st, act, ex, st', hS, h, Q, hQ, hK => by
    simp only [codeOk] at hc
    simp only [aev] at h
    obtain ⟨r, h1, h2⟩ := bind_some h
    obtain ⟨e1, st1⟩ := r
    refine wp_block (aev_sound hE hC hm h500 k x id hc hS h1 _ (fun c a a' w hh => hQ c a a' w hh) (fun w' G' act' hF hS' => ?_))
    cases e1 with
    | norm => simp [outOf, ok] at h2; obtain ⟨rfl, rfl⟩ := h2; exact hK w' G' act' hF hS'
    | ret => simp [outOf, ok] at h2; obtain ⟨rfl, rfl⟩ := h2; exact hK w' G' act' hF hS'
    | exit i =>
      simp only [outOf] at h2
      show if i = id then Q .normal act' w' else Q (.exit i) act' w'
      by_cases e : i = id
      · subst e
        simp [beqt, ok] at h2
        obtain ⟨rfl, rfl⟩ := h2
        rw [if_pos rfl]
        exact hK w' G' act' hF hS'
      · simp [beqf e, ok] at h2
        obtain ⟨rfl, rfl⟩ := h2
        rw [if_neg e]
        exact hK w' G' act' hF hS'
  | .loop x, b, hc, w, G, st, act, ex, st', hS, h, Q, hQ, hK => by
    simp only [codeOk] at hc
    simp only [aev] at h
    obtain ⟨r, h1, h2⟩ := bind_some h
    obtain ⟨e1, st1⟩ := r
    obtain ⟨s2, h3, h4⟩ := bind_some h2
    simp [ok] at h4
    obtain ⟨rfl, rfl⟩ := h4
    exact loop_sound (f := aev E hh ctx k b x) (hd := canon (look hh.heads b)) (fun hS' h' Q' hQ' hK' => aev_sound hE hC hm h500 k x b hc hS' h' Q' hQ' hK') (fun hS' h' => canon_sound hS' h') hQ
      (fun w' G' act' hF hS' => by obtain ⟨G2, k1, k2⟩ := canon_sound hS' h3; exact hK w' G2 act' (hF.trans k1) k2) hS h1
  | .exit id, b, _, w, G, st, act, ex, st', hS, h, Q, hQ, hK => by
    simp [aev, ok] at h
    obtain ⟨rfl, rfl⟩ := h
    exact wp_exit (hK w G act (Fr.refl w G) hS)
  | .ret, b, _, w, G, st, act, ex, st', hS, h, Q, hQ, hK => by
    simp [aev, ok] at h
    obtain ⟨rfl, rfl⟩ := h
    exact wp_ret (hK w G act (Fr.refl w G) hS)
  | .rangeFunc .., _, hc, _, _, _, _, _, _, _, _, _, _, _ => by simp [codeOk] at hc
  | .scope x, b, hc, w, G, st, act, ex, st', hS, h, Q, hQ, hK => by
    simp only [codeOk] at hc
    simp only [aev] at h
    refine wp_scope_straight (aev_sound hE hC hm h500 k x b hc hS h _ (fun c a a' w hh => hQ c a a' w hh) (fun w' G' act' hF hS' => ?_))
    have := hK w' G' act' hF hS'
    cases ex <;> exact this
  | .label _, b, _, w, G, st, act, ex, st', hS, h, Q, hQ, hK => by
    simp [aev, ok] at h
    obtain ⟨rfl, rfl⟩ := h
    exact wp_label (hK w G act (Fr.refl w G) hS)
  | .goto _, _, hc, _, _, _, _, _, _, _, _, _, _, _ => by simp [codeOk] at hc
  | .refuse _, _, hc, _, _, _, _, _, _, _, _, _, _, _ => by simp [codeOk] at hc
end
end Go.Eng

namespace Go.Eng
/-- a cell that is handed over; n: the name of the row behind it -/
def HandL (w : World) (G : Gh) (ds : List (Nat × Nat)) : LT → Value → D → Option Nat → Prop
  | .sl true e el, v, x, some m => Row w G [] m e el [] v x.els
  | .sl true _ _, v, x, none => v = .slice none 0 0 ∧ x.els = []
  | .sl false e el, v, x, n => n = none ∧ FzL w (okD G ds) (.sl false e el) v x
  | .int k, v, x, n => n = none ∧ FzL w (okD G ds) (.int k) v x
  | .bool, v, x, n => n = none ∧ FzL w (okD G ds) .bool v x
  | .str, v, x, n => n = none ∧ FzL w (okD G ds) .str v x
def HandC (w : World) (G : Gh) (ds : List (Nat × Nat)) : List LT → List Value → Nat → D → Nat → List (Option Nat) → Prop
  | [], vs, _, _, _, ns => vs = [] ∧ ns = []
  | t :: ts, vs, k, x, j, ns => ∃ v vs' n ns', vs = v :: vs' ∧ ns = n :: ns' ∧ HandL w G ds t v (lf k x j) n ∧ HandC w G ds ts vs' k x (j + 1) ns'
def namesOf : List (Option Nat) → List Nat
  | [] => []
  | none :: l => namesOf l
  | some m :: l => m :: namesOf l
theorem HandC.length {w : World} {G : Gh} {ds : List (Nat × Nat)} : ∀ {ts : List LT} {vs : List Value} {k : Nat} {x : D} {j : Nat} {ns : List (Option Nat)}, HandC w G ds ts vs k x j ns → vs.length = ts.length
  | [], _, _, _, _, _, ⟨h, _⟩ => by rw [h]; rfl
  | _ :: _, _, _, _, _, _, ⟨v, vs', n, ns', h1, _, _, h2⟩ => by rw [h1]; simp [h2.length]
section
variable {w : World} {G : Gh} {st : St} {sl : Nat → Option Value}
theorem okD_sub {ds ds' : List (Nat × Nat)} (h : ∀ d, d ∈ ds → d ∈ ds') (b : Nat) (hb : okD G ds b) : okD G ds' b := by
  rcases hb with hb | ⟨d, hd, p, hp⟩
  · exact .inl hb
  · exact .inr ⟨d, h d hd, p, hp⟩
theorem hand_fz {ds : List (Nat × Nat)} {t : LT} {v : Value} {x : D} (ht : ownLT t = false) (h : FzL w (okD G ds) t v x) : HandL w G ds t v x none := by
  cases t with
  | sl o e el => cases o with
    | true => simp [ownLT] at ht
    | false => exact ⟨rfl, h⟩
  | int k => exact ⟨rfl, h⟩
  | bool => exact ⟨rfl, h⟩
  | str => exact ⟨rfl, h⟩
/-- one cell goes out -/
theorem outLeaf_sound (hR : Rel w G st sl) {t : LT} {a : A} {v : Value} {r : Out D} (h : outLeaf st t a = some r) (ha : AOK w G st a v) {ds : List (Nat × Nat)} (hds : ∀ d, d ∈ r.ds → d ∈ ds) :
    ∃ n, HandL w G ds t v r.x n ∧ r.os = namesOf [n] := by
  unfold outLeaf at h
  split at h
  · rename_i k k' n
    obtain ⟨h1, h2⟩ := bif_some h
    simp [ok] at h2
    subst h2
    have := (kindEq_iff k k').1 h1
    subst this
    exact ⟨none, ⟨rfl, ha⟩, rfl⟩
  · simp [ok] at h; subst h; exact ⟨none, ⟨rfl, ha⟩, rfl⟩
  · simp [ok] at h; subst h; exact ⟨none, ⟨rfl, ha⟩, rfl⟩
  · rename_i o e el
    simp [ok] at h; subst h
    have hv : v = .slice none 0 0 := ha
    cases o with
    | true => exact ⟨none, ⟨hv, rfl⟩, rfl⟩
    | false => exact ⟨none, ⟨rfl, by rw [hv]; exact fz_nil⟩, rfl⟩
  · rename_i e el r' u
    obtain ⟨a', h1, h2⟩ := bind_some h
    split at h2
    · rename_i hst
      obtain ⟨h3, h4⟩ := bif_some h2
      simp [ok] at h4
      subst h4
      simp only [Bool.and_eq_true] at h3
      have e1 := Nat.eq_of_beq_eq_true h3.1
      have e2 := beqL_eq _ _ h3.2
      subst e1; subst e2
      have hV := arrOf_some h1
      obtain ⟨k1, _, _⟩ := ha.2 a' hV
      have hrow := (hR.arrs r' a' hV.1).2.2.2
      rw [hst] at hrow
      exact ⟨some r', by rw [k1]; exact hrow, rfl⟩
    · simp [fail] at h2
  · rename_i e el dep e' el' xs
    obtain ⟨h1, h2⟩ := bif_some h
    simp [ok] at h2
    subst h2
    simp only [Bool.and_eq_true] at h1
    obtain ⟨h1, h3, h4⟩ := h1
    have := beqL_eq _ _ h4
    subst this
    exact ⟨none, ⟨rfl, FzL_mono (fun b hb => ⟨okD_sub hds b hb, rfl⟩) _ _ _ (ha.2 h1)⟩, rfl⟩
  · rename_i e el r' u p
    obtain ⟨q, h1, h2⟩ := bind_some h
    obtain ⟨h3, h4⟩ := bif_some h2
    simp [ok] at h4
    subst h4
    simp only [Bool.and_eq_true] at h3
    have e2 := beqL_eq _ _ h3.2
    obtain ⟨k1, k2⟩ := rowOf_fz hR ha h1
    subst e2
    exact ⟨none, ⟨rfl, FzL_mono (fun b hb => ⟨okD_sub hds b hb, rfl⟩) _ _ _ k2⟩, rfl⟩
  · simp [fail] at h
theorem namesOf_append (l m : List (Option Nat)) : namesOf (l ++ m) = namesOf l ++ namesOf m := by
  induction l with
  | nil => rfl
  | cons a l ih => cases a <;> simp [namesOf, ih]
theorem outLeaves_sound (hR : Rel w G st sl) {ds : List (Nat × Nat)} {k : Nat} {x : D} : ∀ {lv : List LT} {l : List A} {vs : List Value} {r : Out (List D)} (j : Nat), outLeaves st lv l = some r → AOKs w G st l vs → (∀ d, d ∈ r.ds → d ∈ ds) →
    (∀ j' y, r.x[j']? = some y → lf k x (j + j') = y) → ∃ ns, HandC w G ds lv vs k x j ns ∧ r.os = namesOf ns ∧ r.x.length = lv.length
  | [], [], vs, r, j, h, hv, _, _ => by
    simp [outLeaves, ok] at h
    subst h
    exact ⟨[], ⟨hv, rfl⟩, rfl, rfl⟩
  | t :: ts, a :: l, vs, r, j, h, hv, hds, hx => by
    simp only [outLeaves] at h
    obtain ⟨p, h1, h2⟩ := bind_some h
    obtain ⟨q, h3, h4⟩ := bind_some h2
    simp [ok] at h4
    subst h4
    obtain ⟨v, vs', rfl, hv1, hv2⟩ := hv
    obtain ⟨n, g1, g2⟩ := outLeaf_sound hR h1 hv1 (ds := ds) (fun d hd => hds d (by simp [hd]))
    obtain ⟨ns, k1, k2, k3⟩ := outLeaves_sound hR (j + 1) h3 hv2 (fun d hd => hds d (by simp [hd])) (fun j' y hy => by
      have := hx (j' + 1) y (by simpa using hy)
      rw [← this]
      congr 1
      omega)
    have hx0 := hx 0 p.x rfl
    refine ⟨n :: ns, ⟨v, vs', n, ns, rfl, rfl, by rw [Nat.add_zero] at hx0; rw [hx0]; exact g1, k1⟩, ?_, by simp [k3]⟩
    have : n :: ns = [n] ++ ns := rfl
    simp only
    rw [this, namesOf_append, g2, k2]
  | [], _ :: _, _, _, _, h, _, _, _ => by simp [outLeaves, fail] at h
  | _ :: _, [], _, _, _, h, _, _, _ => by simp [outLeaves, fail] at h
theorem outLeaves_length {st : St} : ∀ {lv : List LT} {l : List A} {r : Out (List D)}, outLeaves st lv l = some r → r.x.length = lv.length
  | [], [], r, h => by simp [outLeaves, ok] at h; subst h; rfl
  | t :: ts, a :: l, r, h => by
    simp only [outLeaves] at h
    obtain ⟨p, h1, h2⟩ := bind_some h
    obtain ⟨q, h3, h4⟩ := bind_some h2
    simp [ok] at h4
    subst h4
    simp [outLeaves_length h3]
  | [], _ :: _, _, h => by simp [outLeaves, fail] at h
  | _ :: _, [], _, h => by simp [outLeaves, fail] at h
theorem out_mkE (hR : Rel w G st sl) {ds : List (Nat × Nat)} {lv : List LT} {l : List A} {vs : List Value} {r : Out (List D)} (h : outLeaves st lv l = some r) (hv : AOKs w G st l vs) (hds : ∀ d, d ∈ r.ds → d ∈ ds) :
    ∃ ns, HandC w G ds lv vs lv.length (mkE r.x) 0 ns ∧ r.os = namesOf ns := by
  have hlen := outLeaves_length h
  obtain ⟨ns, h1, h2, _⟩ := outLeaves_sound (k := lv.length) (x := mkE r.x) hR 0 h hv hds (fun j' y hy => by
    have hj := (List.getElem?_eq_some_iff.1 hy).1
    rw [Nat.zero_add, lf_mkE hlen j' (by omega)]
    simp [List.getD, hy])
  exact ⟨ns, h1, h2⟩
end
/-! ### Rows in which nothing is only read -/
def Gh.noFz (G : Gh) : Gh := { G with own := fun b => match G.own b with | .fz => .out | t => t }
theorem noFz_arr {G : Gh} {b r : Nat} {p : Path} : G.noFz.own b = .arr r p ↔ G.own b = .arr r p := by
  simp only [Gh.noFz]
  cases G.own b <;> simp
mutual
theorem ArL_noFz {w : World} {G : Gh} {S : List Path} {r : Nat} : ∀ (t : LT) (p : Path) (v : Value) (x : D), t.noFz = true → ArL w G S r t p v x → ArL w G.noFz S r t p v x
  | .sl true e el, p, v, x, hn, h => by
    simp only [LT.noFz, Bool.true_and] at hn
    rcases h with h | ⟨h1, a, n, c, h2, h3, h4, h5, h6, h7⟩
    · exact .inl h
    · refine .inr ⟨h1, a, n, c, h2, h3, h4, h5, h6, fun ad ha => ?_⟩
      obtain ⟨g1, g2, cs, e0, g3, g4, g5⟩ := h7 ad ha
      exact ⟨g1, noFz_arr.2 g2, cs, e0, g3, g4, fun i hi => ArC_noFz el p i _ _ _ _ _ hn (g5 i hi)⟩
  | .sl false e el, p, v, x, hn, h => by simp [LT.noFz] at hn
  | .int k, _, v, x, _, h => h
  | .bool, _, v, x, _, h => h
  | .str, _, v, x, _, h => h
theorem ArC_noFz {w : World} {G : Gh} {S : List Path} {r : Nat} : ∀ (ts : List LT) (p : Path) (i b o k : Nat) (x : D) (j : Nat), noFzL ts = true → ArC w G S r ts p i b o k x j → ArC w G.noFz S r ts p i b o k x j
  | [], _, _, _, _, _, _, _, _, _ => trivial
  | t :: ts, p, i, b, o, k, x, j, hn, ⟨⟨v, h1, h2⟩, h3⟩ => by
    simp only [noFzL, Bool.and_eq_true] at hn
    exact ⟨⟨v, h1, ArL_noFz t _ v _ hn.1 h2⟩, ArC_noFz ts p i b o k x (j + 1) hn.2 h3⟩
end
theorem Row_noFz {w : World} {G : Gh} {S : List Path} {r : Nat} {e : TypeId} {el : List LT} {p : Path} {v : Value} {data : List D} (hn : noFzL el = true) (h : Row w G S r e el p v data) : Row w G.noFz S r e el p v data := by
  obtain ⟨a, n, c, h1, h2, h3, h4, h5, h6⟩ := h
  refine ⟨a, n, c, h1, h2, h3, h4, h5, fun ad ha => ?_⟩
  obtain ⟨g1, g2, cs, e0, g3, g4, g5⟩ := h6 ad ha
  exact ⟨g1, noFz_arr.2 g2, cs, e0, g3, g4, fun i hi => ArC_noFz el p i _ _ _ _ _ hn (g5 i hi)⟩
/-! ### A row that is taken over -/
def Gh.adopt (Gm Gx : Gh) (rx d : Nat) (v : Value) : Gh :=
  { own := fun b => match Gx.own b with
      | .arr r p => if r = rx then .arr d p else Gm.own b
      | _ => Gm.own b
    H := fun m p => if m = d then (match p with | [] => v | _ :: _ => Gx.H rx p) else Gm.H m p
    B := Gm.B }
theorem adopt_own {Gm Gx : Gh} {rx d : Nat} {v : Value} {b : Nat} (h : ∀ p, Gx.own b ≠ .arr rx p) : (Gm.adopt Gx rx d v).own b = Gm.own b := by
  simp only [Gh.adopt]
  cases ho : Gx.own b with
  | arr r p =>
    have : r ≠ rx := fun e => h p (by rw [ho, e])
    simp [this]
  | _ => rfl
theorem adopt_in {Gm Gx : Gh} {rx d : Nat} {v : Value} {b : Nat} {p : Path} (h : Gx.own b = .arr rx p) : (Gm.adopt Gx rx d v).own b = .arr d p := by simp [Gh.adopt, h]
theorem adopt_sound {w : World} {Gm Gx : Gh} {st : St} {sl : Nat → Option Value} (hR : Rel w Gm st sl) {rx d : Nat} {e : TypeId} {el : List LT} {v : Value} {data : List D} (hrow : Row w Gx [] rx e el [] v data)
    (hfree : ∀ b p, Gx.own b = .arr rx p → Gm.own b = .out) (hfz : (∀ b, Gx.own b = .fz → Gm.own b = .fz) ∨ noFzL el = true) (hlive : ∀ b, Gx.own b ≠ .out → b < w.heap.size) (hhdr : ∀ r p, ∃ a n c, Gx.H r p = .slice a n c) :
    Le w Gm st w (Gm.adopt Gx rx d v) (st.newArr d e el data) ∧ Rel w (Gm.adopt Gx rx d v) (st.newArr d e el data) sl ∧ AOK w (Gm.adopt Gx rx d v) (st.newArr d e el data) (.vw d st.ctr []) v := by
  have hv : ∃ a n c, v = .slice a n c := by obtain ⟨a, n, c, h, _⟩ := hrow; exact ⟨a, n, c, h⟩
  have hkeep : ∀ b T, Gm.own b = T → T ≠ .out → (Gm.adopt Gx rx d v).own b = T := fun b T hb hne => by
    rw [adopt_own (fun p hp => hne (by rw [← hb]; exact hfree b p hp)), hb]
  have hHd : (Gm.adopt Gx rx d v).H d [] = v := by simp [Gh.adopt]
  have hrow' : Row w (Gm.adopt Gx rx d v) [] d e el [] v data := by
    have key : ∀ G0 : Gh, (∀ b p, G0.own b = .arr rx p → Gx.own b = .arr rx p) → (∀ p, G0.H rx p = Gx.H rx p) → (∀ b, G0.own b = .fz → (Gm.adopt Gx rx d v).own b = .fz) → Row w G0 [] rx e el [] v data → Row w (Gm.adopt Gx rx d v) [] d e el [] v data := fun G0 h1 h2 h3 h4 => by
      obtain ⟨a, n, c, k1, k2, k3, k4, k5, k6⟩ := h4
      refine ⟨a, n, c, k1, k2, k3, k4, k5, fun ad ha => ?_⟩
      obtain ⟨g1, g2, cs, e0, g3, g4, g5⟩ := k6 ad ha
      refine ⟨g1, adopt_in (h1 _ _ g2), cs, e0, g3, g4, fun i hi => ?_⟩
      refine ArC_mono (fun b hb => ⟨h3 b hb, rfl⟩) el [] [] i i _ _ _ _ _ (fun _ => rfl) (fun j q _ => .inr ⟨?_, fun b hb => ⟨adopt_in (h1 _ _ hb), rfl⟩⟩) (fun j q hq => by simp at hq) (g5 i hi)
      simp only [List.nil_append]
      simp [Gh.adopt, h2]
    rcases hfz with hfz | hfz
    · exact key Gx (fun _ _ h => h) (fun _ => rfl) (fun b hb => hkeep b .fz (hfz b hb) (by simp)) hrow
    · exact key Gx.noFz (fun b p h => noFz_arr.1 h) (fun _ => rfl) (fun b hb => by
        simp only [Gh.noFz] at hb
        cases ho : Gx.own b <;> simp [ho] at hb) (Row_noFz hfz hrow)
  obtain ⟨k1, k2⟩ := newArr_step hR (stg := st) (d := d) (e := e) (el := el) (data := data) (w' := w) (G' := Gm.adopt Gx rx d v) ⟨rfl, rfl, Nat.le_refl _⟩
    (fun r hr a ha => .inl ⟨ha, fun p => by simp [Gh.adopt, hr], fun b p hb => ⟨hkeep b _ hb (by simp), rfl⟩⟩) (fun b hb => ⟨hkeep b _ hb (by simp), rfl⟩) (fun _ => rfl) (fun b hb => ⟨hkeep b _ hb (by simp), rfl⟩)
    (by rw [hHd]; exact hrow') (fun b hb => by
      by_cases h : ∃ p, Gx.own b = .arr rx p
      · obtain ⟨p, h⟩ := h
        exact hlive b (by rw [h]; simp)
      · rw [adopt_own (fun p hp => h ⟨p, hp⟩)] at hb
        exact hR.live b hb) (fun r p => by
      by_cases hr : r = d
      · cases p with
        | nil => obtain ⟨a, n, c, e⟩ := hv; exact ⟨a, n, c, by simp [Gh.adopt, hr, e]⟩
        | cons x q => obtain ⟨a, n, c, e⟩ := hhdr rx (x :: q); exact ⟨a, n, c, by simp [Gh.adopt, hr, e]⟩
      · obtain ⟨a, n, c, e⟩ := hR.hdr r p; exact ⟨a, n, c, by simp [Gh.adopt, hr, e]⟩)
  refine ⟨k1, k2, ?_⟩
  have := newArr_view (w := w) (G := Gm.adopt Gx rx d v) (stg := st) (d := d) (e := e) (el := el) (data := data)
  rw [hHd] at this
  have hs : stampOf (st.newArr d e el data) d [] = st.ctr := by simp [stampOf, St.newArr, look_putA, stampAt]
  rw [hs] at this
  exact this
/-- a row of nothing, under a new name -/
theorem nilArr_sound {w : World} {G : Gh} {st : St} {sl : Nat → Option Value} (hR : Rel w G st sl) {d : Nat} {e : TypeId} {el : List LT} :
    Le w G st w (G.nilAt d) (st.newArr d e el []) ∧ Rel w (G.nilAt d) (st.newArr d e el []) sl ∧ AOK w (G.nilAt d) (st.newArr d e el []) (.vw d st.ctr []) (.slice none 0 0) := by
  have hHd : (G.nilAt d).H d [] = .slice none 0 0 := by simp [Gh.nilAt]
  obtain ⟨k1, k2⟩ := newArr_step hR (stg := st) (d := d) (e := e) (el := el) (data := []) (w' := w) (G' := G.nilAt d) ⟨rfl, rfl, Nat.le_refl _⟩
    (fun r hr a ha => .inl ⟨ha, fun p => by simp [Gh.nilAt, hr], fun b p hb => ⟨hb, rfl⟩⟩) (fun b hb => ⟨hb, rfl⟩) (fun _ => rfl) (fun b hb => ⟨hb, rfl⟩)
    (by rw [hHd]; exact ⟨none, 0, 0, rfl, rfl, Nat.le_refl _, Nat.zero_le _, fun _ => rfl, by simp⟩) hR.live (fun r p => by
      by_cases e1 : r = d ∧ p = []
      · exact ⟨none, 0, 0, by simp [Gh.nilAt, e1]⟩
      · obtain ⟨a, n, c, e2⟩ := hR.hdr r p
        exact ⟨a, n, c, by simp only [Gh.nilAt, if_neg e1]; exact e2⟩)
  refine ⟨k1, k2, ?_⟩
  have := newArr_view (w := w) (G := G.nilAt d) (stg := st) (d := d) (e := e) (el := el) (data := [])
  rw [hHd] at this
  have hs : stampOf (st.newArr d e el []) d [] = st.ctr := by simp [stampOf, St.newArr, look_putA, stampAt]
  rw [hs] at this
  exact this
/-! ### Leaves that come in -/
/-- the tags that coming in leaves alone -/
structure Into (Gx Gm Gm' : Gh) (ns : List Nat) : Prop where
  own : ∀ b, (∀ n p, n ∈ ns → Gx.own b ≠ .arr n p) → Gm'.own b = Gm.own b
  arr : ∀ b n p, n ∈ ns → Gx.own b = .arr n p → ∃ r q, Gm'.own b = .arr r q
  B : ∀ b, Gm'.B b = Gm.B b
theorem intoFrom_sl (dep : List (Nat × Nat)) (nb k : Nat) (x : D) : ∀ (ts : List LT) (j : Nat) (st : St), (intoFrom dep nb k x j ts st).1.sl = st.sl ∧ (intoFrom dep nb k x j ts st).1.bx = st.bx
  | [], j, st => ⟨rfl, rfl⟩
  | .sl true e el :: ts, j, st => by
    simp only [intoFrom]
    exact intoFrom_sl dep nb k x ts (j + 1) (st.newArr (nb + j) e el (lf k x j).els)
  | .sl false e el :: ts, j, st => by simp only [intoFrom]; exact intoFrom_sl dep nb k x ts (j + 1) st
  | .int k' :: ts, j, st => by simp only [intoFrom]; exact intoFrom_sl dep nb k x ts (j + 1) st
  | .bool :: ts, j, st => by simp only [intoFrom]; exact intoFrom_sl dep nb k x ts (j + 1) st
  | .str :: ts, j, st => by simp only [intoFrom]; exact intoFrom_sl dep nb k x ts (j + 1) st
theorem intoFrom_fz {dep : List (Nat × Nat)} {nb k : Nat} {x : D} {j : Nat} {t : LT} {ts : List LT} {st : St} (ht : ownLT t = false) :
    intoFrom dep nb k x j (t :: ts) st = ((intoFrom dep nb k x (j + 1) ts st).1, decL dep t (lf k x j) :: (intoFrom dep nb k x (j + 1) ts st).2) := by
  cases t with
  | sl o e el => cases o with
    | true => simp [ownLT] at ht
    | false => rfl
  | _ => rfl
theorem into_sound {w : World} {Gx : Gh} {ds dep : List (Nat × Nat)} {nb k : Nat} {x : D} (hlive : ∀ b, Gx.own b ≠ .out → b < w.heap.size) (hhdr : ∀ r p, ∃ a n c, Gx.H r p = .slice a n c) :
    ∀ {ts : List LT} {vs : List Value} {j : Nat} {ns : List (Option Nat)} {Gm : Gh} {st : St} {sl : Nat → Option Value}, HandC w Gx ds ts vs k x j ns → Rel w Gm st sl → (namesOf ns).Nodup → (∀ n ∈ namesOf ns, ∀ d ∈ ds, d.1 ≠ n) →
      (∀ n ∈ namesOf ns, ∀ b p, Gx.own b = .arr n p → Gm.own b = .out) → ((∀ b, okD Gx ds b → okD Gm dep b) ∨ noFzL ts = true) → (∀ d, d ∈ dep → d.2 < st.ctr) → ((∀ b, Gx.own b = .fz → Gm.own b = .fz) ∨ ∀ t ∈ ts, leafSafe t = true) →
      ∃ Gm', Into Gx Gm Gm' (namesOf ns) ∧ Le w Gm st w Gm' (intoFrom dep nb k x j ts st).1 ∧ Rel w Gm' (intoFrom dep nb k x j ts st).1 sl ∧ AOKs w Gm' (intoFrom dep nb k x j ts st).1 (intoFrom dep nb k x j ts st).2 vs
  | [], vs, j, ns, Gm, st, sl, ⟨h1, h2⟩, hR, _, _, _, _, _, _ => by
    subst h1; subst h2
    exact ⟨Gm, ⟨fun _ _ => rfl, fun b n p hn => by simp [namesOf] at hn, fun _ => rfl⟩, Le.refl w Gm st, hR, rfl⟩
  | t :: ts, vs, j, ns, Gm, st, sl, ⟨v, vs', n, ns', h1, h2, h3, h4⟩, hR, hnd, hap, hfree, hok, hdep, hfz => by
    subst h1; subst h2
    by_cases ht : ownLT t = true
    · obtain ⟨e, el, rfl⟩ : ∃ e el, t = .sl true e el := by
        cases t with
        | sl o e el => cases o with
          | true => exact ⟨e, el, rfl⟩
          | false => simp [ownLT] at ht
        | _ => simp [ownLT] at ht
      have hfz1 : (∀ b, Gx.own b = .fz → Gm.own b = .fz) ∨ noFzL el = true := by
        rcases hfz with h | h
        · exact .inl h
        · exact .inr (by have := h (.sl true e el) (by simp); simpa [leafSafe] using this)
      cases n with
      | some m =>
        simp only [namesOf] at hnd hap hfree ⊢
        obtain ⟨k1, k2, k3⟩ := adopt_sound (d := nb + j) hR h3 (hfree m (by simp)) hfz1 hlive hhdr
        have hkeep : ∀ b, (∀ p, Gx.own b ≠ .arr m p) → (Gm.adopt Gx m (nb + j) v).own b = Gm.own b := fun b hb => adopt_own hb
        obtain ⟨Gm', q1, q2, q3, q4⟩ := into_sound hlive hhdr (dep := dep) (nb := nb) (ns := ns') (j := j + 1) h4 k2 (List.nodup_cons.1 hnd).2 (fun n hn => hap n (by simp [hn]))
          (fun n hn b p hb => by
            rw [hkeep b (fun p' hp' => by rw [hb] at hp'; injection hp' with hp'; exact (List.nodup_cons.1 hnd).1 (hp' ▸ hn))]
            exact hfree n (by simp [hn]) b p hb)
          (by
            rcases hok with hok | hok
            · left
              intro b hb
              have hne : ∀ p, Gx.own b ≠ .arr m p := fun p hp => by
                rcases hb with hb | ⟨d, hd, p', hb⟩
                · rw [hp] at hb; simp at hb
                · rw [hp] at hb; injection hb with hb; exact hap m (by simp) d hd hb.symm
              have := hok b hb
              unfold okD at this ⊢
              rw [hkeep b hne]
              exact this
            · exact .inr (by simp only [noFzL, Bool.and_eq_true] at hok; exact hok.2))
          (fun d hd => Nat.lt_succ_of_lt (hdep d hd))
          (by
            rcases hfz with h | h
            · left
              intro b hb
              rw [hkeep b (fun p hp => by rw [hb] at hp; simp at hp)]
              exact h b hb
            · exact .inr fun t ht => h t (by simp [ht]))
        refine ⟨Gm', ⟨fun b hb => ?_, fun b n p hn hb => ?_, fun b => q1.B b⟩, ?_, ?_, ?_⟩
        · rw [q1.own b (fun n p hn => hb n p (by simp [hn])), hkeep b (fun p => hb m p (by simp))]
        · by_cases hnn : n ∈ namesOf ns'
          · exact q1.arr b n p hnn hb
          · have : n = m := by
              rcases List.mem_cons.1 hn with h | h
              · exact h
              · exact absurd h hnn
            subst this
            refine ⟨nb + j, p, ?_⟩
            rw [q1.own b (fun n' p' hn' hb' => by rw [hb] at hb'; injection hb' with hb'; exact hnn (hb' ▸ hn'))]
            exact adopt_in hb
        · exact k1.trans q2
        · exact q3
        · exact ⟨v, vs', rfl, AOK_mono q2 _ _ k3, q4⟩
      | none =>
        simp only [namesOf] at hnd hap hfree ⊢
        obtain ⟨hv, hx0⟩ := h3
        subst hv
        obtain ⟨k1, k2, k3⟩ := nilArr_sound (d := nb + j) (e := e) (el := el) hR
        obtain ⟨Gm', q1, q2, q3, q4⟩ := into_sound hlive hhdr (dep := dep) (nb := nb) (ns := ns') (j := j + 1) h4 k2 hnd hap hfree (hok.imp id fun h => by simp only [noFzL, Bool.and_eq_true] at h; exact h.2) (fun d hd => Nat.lt_succ_of_lt (hdep d hd))
          (hfz.imp id fun h t ht => h t (by simp [ht]))
        have he : (intoFrom dep nb k x j (.sl true e el :: ts) st) = ((intoFrom dep nb k x (j + 1) ts (st.newArr (nb + j) e el [])).1, .vw (nb + j) st.ctr [] :: (intoFrom dep nb k x (j + 1) ts (st.newArr (nb + j) e el [])).2) := by
          simp only [intoFrom, hx0]
        rw [he]
        exact ⟨Gm', ⟨q1.own, q1.arr, q1.B⟩, k1.trans q2, q3, _, vs', rfl, AOK_mono q2 _ _ k3, q4⟩
    · have ht' : ownLT t = false := by simpa using ht
      have hh : n = none ∧ FzL w (okD Gx ds) t v (lf k x j) := by
        cases t with
        | sl o e el => cases o with
          | true => simp [ownLT] at ht
          | false => exact h3
        | int k => exact h3
        | bool => exact h3
        | str => exact h3
      obtain ⟨rfl, hF⟩ := hh
      simp only [namesOf] at hnd hap hfree ⊢
      obtain ⟨Gm', q1, q2, q3, q4⟩ := into_sound hlive hhdr (dep := dep) (nb := nb) (ns := ns') (j := j + 1) h4 hR hnd hap hfree (hok.imp id fun h => by simp only [noFzL, Bool.and_eq_true] at h; exact h.2) hdep (hfz.imp id fun h t ht => h t (by simp [ht]))
      rw [intoFrom_fz ht']
      refine ⟨Gm', q1, q2, q3, v, vs', rfl, ?_, q4⟩
      have hd : AOK w Gm st (decL dep t (lf k x j)) v := by
        rcases hok with hok | hok
        · exact AOK_decL hdep (FzL_mono (fun b hb => ⟨hok b hb, rfl⟩) _ _ _ hF)
        · simp only [noFzL, Bool.and_eq_true] at hok
          exact AOK_decL hdep (FzL_any (fun o e el he => by
            subst he
            have := hok.1
            cases o with
            | true => simp [ownLT] at ht'
            | false => simp [LT.noFz] at this) hF)
      exact AOK_mono q2 _ _ hd
end Go.Eng

namespace Go.Eng
/-- the callee's tags, out of the caller's: ds is read, the rows gs and the variables bn are lent -/
structure Imp (G : Gh) (st : St) (ds : List (Nat × Nat)) (gs bn : List Nat) (Gk : Gh) : Prop where
  fz : ∀ b, G.own b = .fz → Gk.own b = .fz
  dep : ∀ b d p, d ∈ ds → G.own b = .arr d.1 p → Gk.own b = .fz
  rp : ∀ n x u, look st.bx n = some x → (markB n, u) ∈ ds → Gk.own (G.B n).1 = .fz
  free : ∀ b r p, G.own b = .arr r p → (∀ d ∈ ds, d.1 ≠ r) → r ∉ gs → Gk.own b = .out
  box : ∀ b, G.own b = .box → (∀ n x, look st.bx n = some x → (G.B n).1 = b → (∀ u, (markB n, u) ∉ ds) ∧ n ∉ bn) → Gk.own b = .out
  out : ∀ b, G.own b = .out → Gk.own b = .out
/-- what is only read, for the callee -/
def okI (G : Gh) (st : St) (ds : List (Nat × Nat)) (b : Nat) : Prop := okD G ds b ∨ ∃ n x u, look st.bx n = some x ∧ (markB n, u) ∈ ds ∧ b = (G.B n).1
theorem Imp.okI {G Gk : Gh} {st : St} {ds : List (Nat × Nat)} {gs bn : List Nat} (h : Imp G st ds gs bn Gk) {b : Nat} (hb : okI G st ds b) : okD Gk [] b := by
  rw [okD_nil]
  rcases hb with (hb | ⟨d, hd, p, hb⟩) | ⟨n, x, u, h1, h2, rfl⟩
  · exact h.fz b hb
  · exact h.dep b d p hd hb
  · exact h.rp n x u h1 h2
section
variable {P : Program} {w : World} {G : Gh} {st : St} {slc : Nat → Option Value} {E : Env} {ds : List (Nat × Nat)}
/-- the leaves of a value that is handed in to be read -/
theorem encA_sound (hE : EnvOk P E) (hR : Rel w G st slc) {t : TypeId} {ti : TI} (ht : E.tt.look t = some ti) {a : A} {v : Value} (ha : AOK w G st a v) {p : List (Nat × Nat) × D} (h : encA E st ti a = some p) (hds : ∀ d, d ∈ p.1 → d ∈ ds) :
    ∃ vs, (if ti.agg then v = .agg ⟨vs⟩ else vs = [v]) ∧ vs.length = ti.lv.length ∧ ∀ (j : Nat) (t : LT) (u : Value), ti.lv[j]? = some t → vs[j]? = some u → FzL w (okI G st ds) t u (lf ti.lv.length p.2 j) := by
  have hT := hE.types _ _ ht
  have gen : ∀ (a : A), AOK w G st a v → eqBo (isAggA a) ti.agg = true → ∀ q, encL st ti.lv (leavesOf a) = some q → q.1 = p.1 → mkE q.2 = p.2 →
      ∃ vs, (if ti.agg then v = .agg ⟨vs⟩ else vs = [v]) ∧ vs.length = ti.lv.length ∧ ∀ (j : Nat) (t : LT) (u : Value), ti.lv[j]? = some t → vs[j]? = some u → FzL w (okI G st ds) t u (lf ti.lv.length p.2 j) := by
    intro a ha hag q hq e1 e2
    have hag' : isAggA a = ti.agg := by cases h1 : isAggA a <;> cases h2 : ti.agg <;> simp_all [eqBo]
    obtain ⟨vs, g1, g2⟩ : ∃ vs, (if ti.agg then v = .agg ⟨vs⟩ else vs = [v]) ∧ AOKs w G st (leavesOf a) vs := by
      rw [← hag']
      cases a with
      | agg xs => obtain ⟨vs, k1, k2⟩ := ha; exact ⟨vs, k1, k2⟩
      | _ => exact ⟨[v], rfl, v, [], rfl, ha, rfl⟩
    obtain ⟨f1, f2, f3, f4⟩ := encL_sound hR hq (fun j t hj => setOwn_get hT.lvF j t hj) g2
    refine ⟨vs, g1, f3, fun j t u hj hu => ?_⟩
    have hjl : j < ti.lv.length := (List.getElem?_eq_some_iff.1 hj).1
    rw [← e2, lf_mkE f2 j hjl]
    exact FzL_mono (fun b hb => ⟨.inl (okD_sub (by rw [e1]; exact hds) b hb), rfl⟩) _ _ _ (f4 j t u hj hu)
  unfold encA at h
  split at h
  · rename_i b u k n
    unfold encSb at h
    obtain ⟨te, h1, h2⟩ := bind_some h
    obtain ⟨l, h3, h4⟩ := bind_some h2
    obtain ⟨h5, h6⟩ := bif_some h4
    obtain ⟨q, h7, h8⟩ := bind_some h6
    simp [ok] at h8
    subst h8
    simp only [Bool.and_eq_true, Bool.not_eq_true'] at h5
    obtain ⟨g1, g2, g3, g4, g5⟩ := h5
    have hk := Nat.eq_of_beq_eq_true g2
    have hlv := beqL_eq _ _ g4
    have hle := Nat.le_of_ble_eq_true g5
    simp only [ofO] at h1
    have hTe := hE.types _ _ h1
    obtain ⟨x, m1, m2, m3⟩ := boxOf_some h3
    subst m3
    obtain ⟨hv, hn⟩ := ha.2 x m1 m2
    obtain ⟨_, _, hcs⟩ := hR.boxes b x m1
    obtain ⟨cs, e, k3, k4, k5⟩ := hcs.cells (boxOf_mp h3 m1)
    -- the cells
    have hcells : ∃ vs : List Value, AOKs w G st (takeN (k * n) x.lv) vs ∧ ∀ j v, vs[j]? = some v → w.cell? ⟨(G.B b).1, (G.B b).2 + j, none⟩ = some v := by
      refine ⟨(List.range (takeN (k * n) x.lv).length).map fun j => (cs[(G.B b).2 + j]?).getD undef, AOKs_iff.2 ⟨by simp, fun j a v ha hv' => ?_⟩, fun j v hv' => ?_⟩
      · have hj := (List.getElem?_eq_some_iff.1 ha).1
        rw [List.getElem?_map, List.getElem?_range hj] at hv'
        rw [takeN_eq, List.getElem?_take] at ha
        split at ha
        · have hjx : j < x.lv.length := (List.getElem?_eq_some_iff.1 ha).1
          obtain ⟨v0, q1, q2⟩ := k5 j hjx
          simp [q1] at hv'
          subst hv'
          simpa [List.getD, ha] using q2
        · simp at ha
      · have hj : j < (takeN (k * n) x.lv).length := by have := (List.getElem?_eq_some_iff.1 hv').1; simpa using this
        rw [List.getElem?_map, List.getElem?_range hj] at hv'
        have hjx : j < x.lv.length := by rw [takeN_eq] at hj; simp at hj; omega
        obtain ⟨v0, q1, q2⟩ := k5 j hjx
        simp [q1] at hv'
        subst hv'
        simp [World.cell?, k3, q1]
    obtain ⟨vs, v1, v2⟩ := hcells
    have hrf : ∀ (j : Nat) (t : LT), (repT te.lv n)[j]? = some t → t.setOwn false = t := fun j t ht => by
      have hj : j < n * te.lv.length := by have := (List.getElem?_eq_some_iff.1 ht).1; rwa [repT_length] at this
      have hkp : 0 < te.lv.length := Nat.pos_of_ne_zero (fun h => by rw [h] at hj; simp at hj)
      have e := Nat.div_add_mod j te.lv.length
      have hi : j / te.lv.length < n := Nat.div_lt_of_lt_mul (by rw [Nat.mul_comm]; exact hj)
      have := repT_get te.lv n (j / te.lv.length) (j % te.lv.length) hi (Nat.mod_lt _ hkp)
      rw [Nat.mul_comm, e, ht] at this
      exact setOwn_get hTe.lvF _ t this.symm
    obtain ⟨f1, f2, f3, f4⟩ := encL_sound hR h7 hrf v1
    rw [repT_length] at f2 f3
    refine ⟨[v], by rw [g3]; rfl, by rw [hlv]; rfl, fun j t u hj hu => ?_⟩
    have hj0 : j = 0 := by have := (List.getElem?_eq_some_iff.1 hu).1; simp at this; omega
    subst hj0
    rw [hlv] at hj ⊢
    simp at hj hu
    subst hj; subst hu
    have hd2 : ∀ d, d ∈ q.1 → d ∈ ds := fun d hd => hds d (by simp [hd])
    have := fz_rows (w := w) (okb := okI G st ds) (e := ti.e) (el := te.lv) (b := (G.B b).1) (o := (G.B b).2) (n := n) (c := n) (vs := vs) (xs := q.2) (.inr ⟨b, x, 0, m1, hds _ (by simp), rfl⟩) (Nat.le_refl _) hn (by rw [f3]) (by rw [f2])
      v2 (fun j t v hj hv => FzL_mono (fun b hb => ⟨.inl (okD_sub hd2 b hb), rfl⟩) _ _ _ (f4 j t v hj hv)) false
    rw [hv]
    rw [hk]
    simpa [lf] using this
  · rename_i a' hns
    obtain ⟨h1, h2⟩ := bif_some h
    obtain ⟨q, h3, h4⟩ := bind_some h2
    simp [ok] at h4
    exact gen a ha h1 q h3 (by rw [← h4]) (by rw [← h4])
/-- what a pointer that is handed in to be read points to -/
theorem argRp_sound (hE : EnvOk P E) (hR : Rel w G st slc) {te : TI} (hT : setOwnL false te.lv = te.lv) {a : A} {v : Value} (ha : AOK w G st a v) {u : Arg} (h : argRp st te a = some u) (hds : ∀ d, d ∈ u.ds → d ∈ ds) :
    u.os = [] ∧ u.gs = [] ∧ ∃ b o, v = .pointer (some ⟨b, o, none⟩) ∧ FzC w (okI G st ds) te.lv b o te.lv.length u.x 0 := by
  unfold argRp at h
  split at h
  · rename_i dep el x
    obtain ⟨h1, h2⟩ := bif_some h
    simp [ok] at h2
    subst h2
    simp only [Bool.and_eq_true] at h1
    have hlv := beqL_eq _ _ h1.2
    obtain ⟨b, o, k1, k2⟩ := ha.2 h1.1
    refine ⟨rfl, rfl, b, o, k1, ?_⟩
    rw [hlv, FzC_setOwn, setOwnL_length]
    exact FzC_mono (fun b hb => ⟨.inl (okD_sub hds b hb), rfl⟩) _ _ _ _ _ _ k2
  · rename_i b u' off
    obtain ⟨l, h1, h2⟩ := bind_some h
    obtain ⟨q, h3, h4⟩ := bind_some h2
    simp [ok] at h4
    subst h4
    obtain ⟨x, m1, m2, m3⟩ := boxOf_some h1
    subst m3
    have hv := ha.2 x m1 m2
    obtain ⟨_, _, hcs⟩ := hR.boxes b x m1
    obtain ⟨cs, e, k3, k4, k5⟩ := hcs.cells (boxOf_mp h1 m1)
    have hlen : (takeN te.lv.length (dropN off x.lv)).length = te.lv.length := by
      obtain ⟨pp, e1, _⟩ := bind_some h3
      have := outLeaves_length e1
      have h5 : ∀ {lv : List LT} {l : List A} {r : Out (List D)}, outLeaves st lv l = some r → l.length = lv.length := by
        intro lv
        induction lv with
        | nil => intro l r hh; cases l with
          | nil => rfl
          | cons _ _ => simp [outLeaves, fail] at hh
        | cons t ts ih => intro l r hh; cases l with
          | nil => simp [outLeaves, fail] at hh
          | cons a l =>
            simp only [outLeaves] at hh
            obtain ⟨p1, _, hh2⟩ := bind_some hh
            obtain ⟨p2, hh3, _⟩ := bind_some hh2
            simp [ih hh3]
      exact h5 e1
    have hget : ∀ j, j < te.lv.length → off + j < x.lv.length ∧ (takeN te.lv.length (dropN off x.lv))[j]? = x.lv[off + j]? := fun j hj => by
      rw [getElem?_takeDrop, if_pos hj]
      rw [takeN_eq, dropN_eq] at hlen
      simp at hlen
      exact ⟨by omega, rfl⟩
    have hcells : ∃ vs : List Value, AOKs w G st (takeN te.lv.length (dropN off x.lv)) vs ∧ ∀ j v, vs[j]? = some v → w.cell? ⟨(G.B b).1, (G.B b).2 + off + j, none⟩ = some v := by
      refine ⟨(List.range te.lv.length).map fun j => (cs[(G.B b).2 + (off + j)]?).getD undef, AOKs_iff.2 ⟨by simp [hlen], fun j a v ha hv' => ?_⟩, fun j v hv' => ?_⟩
      · have hj : j < te.lv.length := by have := (List.getElem?_eq_some_iff.1 ha).1; omega
        obtain ⟨hjx, e1⟩ := hget j hj
        rw [e1] at ha
        obtain ⟨v0, q1, q2⟩ := k5 (off + j) hjx
        rw [List.getElem?_map, List.getElem?_range hj] at hv'
        simp [q1] at hv'
        subst hv'
        simpa [List.getD, ha] using q2
      · have hj : j < te.lv.length := by have := (List.getElem?_eq_some_iff.1 hv').1; simpa using this
        obtain ⟨hjx, e1⟩ := hget j hj
        obtain ⟨v0, q1, q2⟩ := k5 (off + j) hjx
        rw [List.getElem?_map, List.getElem?_range hj] at hv'
        simp [q1] at hv'
        subst hv'
        simp [World.cell?, k3, Nat.add_assoc, q1]
    obtain ⟨vs, v1, v2⟩ := hcells
    obtain ⟨f1, f2, f3, f4⟩ := encL_sound hR h3 (fun j t hj => setOwn_get hT j t hj) v1
    refine ⟨rfl, rfl, _, _, hv, FzC_of (.inr ⟨b, x, 0, m1, hds _ (by simp), rfl⟩) te.lv 0 (fun j t hj => ?_)⟩
    have hjl : j < te.lv.length := (List.getElem?_eq_some_iff.1 hj).1
    have hvj : vs[j]? = some vs[j] := by simp [show j < vs.length by omega]
    rw [Nat.zero_add, lf_mkE f2 j hjl]
    exact ⟨_, v2 j _ hvj, FzL_mono (fun b hb => ⟨.inl (okD_sub (fun d hd => hds d (by simp [hd])) b hb), rfl⟩) _ _ _ (f4 j t _ hj hvj)⟩
  · rename_i r u' p k i
    obtain ⟨q, h1, h2⟩ := bind_some h
    obtain ⟨h3, h4⟩ := bif_some h2
    simp [ok] at h4
    subst h4
    have hlv := beqL_eq _ _ h3
    obtain ⟨a0, v0, _, v1, v2⟩ := rowOf_some h1
    obtain ⟨t, g1, g2, g3, b, o, n, c, g4, g5, g6⟩ := ha.2 a0 v0
    have hvw : AOK w G st (.vw r u' p) (G.H r p) := ⟨ha.1, fun a' ha' => by
      have := valid_look ha' v0.1
      obtain ⟨t', g1', g2', _⟩ := ha.2 a' ha'
      exact ⟨rfl, ⟨t', g1'⟩, g2'⟩⟩
    obtain ⟨_, hF⟩ := rowOf_fz hR hvw h1
    obtain ⟨a, n', c', e1, e2, e3, e4, e5, e6⟩ := hF
    rw [g4] at e1
    injection e1 with e1a e1b e1c
    subst e1a; subst e1b; subst e1c
    obtain ⟨_, hC⟩ := e6 _ rfl (by omega)
    have hty := rowAt_ty v1
    rw [g1] at hty
    have hk : k = q.2.2.1.length := by rw [g3]; injection hty with hty; rw [hty]
    refine ⟨rfl, rfl, b, o + i * k + 0, g6, ?_⟩
    have := hC i g5
    rw [setOwnL_length] at this
    rw [hlv, setOwnL_length, Nat.add_zero, hk]
    exact FzC_mono (fun b hb => ⟨.inl (okD_sub hds b hb), rfl⟩) _ _ _ _ _ _ this
  · simp [fail] at h
end
end Go.Eng

namespace Go.Eng
section
variable {P : Program} {w : World} {G Gk : Gh} {st stk : St} {slc sl : Nat → Option Value} {E : Env} {ds : List (Nat × Nat)} {os0 : List Nat}
theorem dec_sound {dep : List (Nat × Nat)} (hdep : ∀ d, d ∈ dep → d.2 < stk.ctr) {k : Nat} {x : D} : ∀ (ts : List LT) (j0 : Nat) (vs : List Value), vs.length = ts.length → (∀ (j : Nat) (t : LT) (u : Value), ts[j]? = some t → vs[j]? = some u → FzL w (okD Gk dep) t u (lf k x (j0 + j))) →
    AOKs w Gk stk (decFrom dep k x j0 ts) vs
  | [], _, vs, hl, _ => by
    have : vs = [] := List.eq_nil_of_length_eq_zero hl
    exact this
  | t :: ts, j0, [], hl, _ => by simp at hl
  | t :: ts, j0, v :: vs, hl, h => by
    refine ⟨v, vs, rfl, AOK_decL hdep (by have := h 0 t v rfl rfl; simpa using this), dec_sound hdep ts (j0 + 1) vs (by simpa using hl) (fun j t u hj hu => ?_)⟩
    have := h (j + 1) t u (by simpa using hj) (by simpa using hu)
    rwa [show j0 + (j + 1) = j0 + 1 + j by omega] at this
theorem aggOf_sound {agg : Bool} {n : Nat} {l : List A} {a : A} {v : Value} {vs : List Value} (h : aggOf agg n l = some a) (hv : if agg then v = .agg ⟨vs⟩ else vs = [v]) (hl : AOKs w Gk stk l vs) : AOK w Gk stk a v := by
  obtain ⟨_, h2⟩ := aggOf_some h
  cases agg with
  | true =>
    simp only [if_true] at h2 hv
    subst h2; subst hv
    exact ⟨vs, rfl, hl⟩
  | false =>
    simp only [Bool.false_eq_true, if_false] at h2 hv
    subst h2; subst hv
    obtain ⟨v', vs', e, h3, h4⟩ := hl
    injection e with e1 e2
    subst e1
    exact h3
/-- tags that change at blocks of the caller's that nothing is said of -/
theorem Imp.change {gs0 bn0 gs1 bn1 : List Nat} {Gk' : Gh} (hR : Rel w G st slc) (hi : Imp G st ds gs0 bn0 Gk) (hsub : ∀ n, n ∈ gs0 → n ∈ gs1) (hsubb : ∀ n, n ∈ bn0 → n ∈ bn1) (h : ∀ b, Gk'.own b = Gk.own b ∨ (∃ r p, G.own b = .arr r p ∧ r ∈ gs1 ∧ ∀ d ∈ ds, d.1 ≠ r) ∨ (∃ n x, look st.bx n = some x ∧ b = (G.B n).1 ∧ n ∈ bn1 ∧ ∀ u, (markB n, u) ∉ ds)) : Imp G st ds gs1 bn1 Gk' := by
  refine ⟨fun b hb => ?_, fun b d p hd hb => ?_, fun n x u hx hm => ?_, fun b r p hb hd ho => ?_, fun b hb hh => ?_, fun b hb => ?_⟩
  · rcases h b with h | ⟨r, p, h, _⟩ | ⟨n, x, h1, h2, _⟩
    · rw [h]; exact hi.fz b hb
    · rw [hb] at h; simp at h
    · have := (hR.boxes n x h1).2.1; rw [← h2, hb] at this; simp at this
  · rcases h b with h | ⟨r, q, h, _, h2⟩ | ⟨n, x, h1, h2, _⟩
    · rw [h]; exact hi.dep b d p hd hb
    · rw [hb] at h; injection h with h; exact absurd h (h2 d hd)
    · have := (hR.boxes n x h1).2.1; rw [← h2, hb] at this; simp at this
  · rcases h (G.B n).1 with h | ⟨r, q, h, _, h2⟩ | ⟨n', x', h1, h2, _, h3⟩
    · rw [h]; exact hi.rp n x u hx hm
    · have := (hR.boxes n x hx).2.1; rw [h] at this; simp at this
    · by_cases e : n = n'
      · subst e; exact absurd hm (h3 u)
      · exact absurd h2 (hR.apartB n n' x x' hx h1 e)
  · rcases h b with h | ⟨r', q, h, h1, h2⟩ | ⟨n, x, h1, h2, _⟩
    · rw [h]; exact hi.free b r p hb hd (fun hm => ho (hsub r hm))
    · rw [hb] at h; injection h with h; exact absurd (h ▸ h1) ho
    · have := (hR.boxes n x h1).2.1; rw [← h2, hb] at this; simp at this
  · rcases h b with h | ⟨r', q, h, h1, h2⟩ | ⟨n, x, h1, h2, h3, _⟩
    · rw [h]; exact hi.box b hb (fun n x hx hn => ⟨(hh n x hx hn).1, fun hm => (hh n x hx hn).2 (hsubb _ hm)⟩)
    · rw [hb] at h; simp at h
    · exact absurd h3 (hh n x h1 h2.symm).2
  · rcases h b with h | ⟨r', q, h, h1, h2⟩ | ⟨n, x, h1, h2, _⟩
    · rw [h]; exact hi.out b hb
    · rw [hb] at h; simp at h
    · have := (hR.boxes n x h1).2.1; rw [← h2, hb] at this; simp at this
theorem nodup_app_not {l m : List Nat} (h : (l ++ m).Nodup) : ∀ n ∈ l, n ∉ m := fun n hn hm => (List.nodup_append.1 h).2.2 n hn n hm rfl
theorem outLeaves_len {st : St} : ∀ {lv : List LT} {l : List A} {r : Out (List D)}, outLeaves st lv l = some r → l.length = lv.length
  | [], [], _, _ => rfl
  | t :: ts, a :: l, r, h => by
    simp only [outLeaves] at h
    obtain ⟨p, _, h2⟩ := bind_some h
    obtain ⟨q, h3, _⟩ := bind_some h2
    simp [outLeaves_len h3]
  | [], _ :: _, _, h => by simp [outLeaves, fail] at h
  | _ :: _, [], _, h => by simp [outLeaves, fail] at h
/-- the cells of a variable -/
theorem box_cells (hR : Rel w G st slc) {n : Nat} {x : Bx} (hx : look st.bx n = some x) (hmp : x.mp = none) : ∃ cs e vs, w.heap[(G.B n).1]? = some (.cells cs e (0, 0)) ∧ (G.B n).2 + x.lv.length ≤ cs.size ∧ AOKs w G st x.lv vs ∧ ∀ j v, vs[j]? = some v → cs[(G.B n).2 + j]? = some v := by
  obtain ⟨_, _, hcs⟩ := hR.boxes n x hx
  obtain ⟨cs, e, k3, k4, k5⟩ := hcs.cells hmp
  refine ⟨cs, e, (List.range x.lv.length).map fun j => (cs[(G.B n).2 + j]?).getD undef, k3, k4, AOKs_iff.2 ⟨by simp, fun j a v ha hv' => ?_⟩, fun j v hv' => ?_⟩
  · have hj := (List.getElem?_eq_some_iff.1 ha).1
    obtain ⟨v0, q1, q2⟩ := k5 j hj
    rw [List.getElem?_map, List.getElem?_range hj] at hv'
    simp [q1] at hv'
    subst hv'
    simpa [List.getD, ha] using q2
  · have hj : j < x.lv.length := by have := (List.getElem?_eq_some_iff.1 hv').1; simpa using this
    obtain ⟨v0, q1, q2⟩ := k5 j hj
    rw [List.getElem?_map, List.getElem?_range hj] at hv'
    simp [q1] at hv'
    subst hv'
    exact q1
/-- a variable in a block that had no owner -/
theorem var_sound {Gx : Gh} (hk : Rel w Gk stk sl) {d b o : Nat} {l : List A} {cs : Array Value} {e : TypeId} {vs : List Value} (hown : Gk.own b = .out) (hb : w.heap[b]? = some (.cells cs e (0, 0))) (hsz : o + l.length ≤ cs.size) (hl : AOKs w Gk stk l vs)
    (hcs : ∀ j v, vs[j]? = some v → cs[o + j]? = some v) : Le w Gk stk w ((Gk.tag b .box).box d (b, o)) (stk.newBox d l) ∧ Rel w ((Gk.tag b .box).box d (b, o)) (stk.newBox d l) sl ∧ AOK w ((Gk.tag b .box).box d (b, o)) (stk.newBox d l) (.pb d stk.ctr 0) (.pointer (some ⟨b, o, none⟩)) := by
  have h1 : ∀ b', Gk.own b' ≠ .out → (Gk.tag b .box).own b' = Gk.own b' ∧ w.heap[b']? = w.heap[b']? := fun b' hb' => by
    have : b' ≠ b := fun e => hb' (by rw [e]; exact hown)
    exact ⟨by simp [Gh.tag, this], rfl⟩
  have h2 : ∀ b', (Gk.tag b .box).own b' ≠ .out → b' < w.heap.size := fun b' hb' => by
    simp only [Gh.tag] at hb'
    split at hb'
    · rename_i e1; rw [e1]; exact (Array.getElem?_eq_some_iff.1 hb).1
    · exact hk.live b' hb'
  have hL1 := Le.world (st := stk) h1 (fun _ _ => rfl) (fun _ => rfl)
  have hR1 := hk.world h1 (fun _ _ => rfl) (fun _ => rfl) h2
  have hll := (AOKs_iff.1 hl).1
  refine ⟨hL1.trans (Le.newBox _ _ _ _ _ _), hR1.newBox (cs := cs) (e := e) (by simp [Gh.tag]) hb hsz (fun j hj => ?_) (fun b' x' hx hne => ?_), ?_⟩
  · have hj' : j < vs.length := by omega
    have hvj : vs[j]? = some vs[j] := by simp [hj']
    exact ⟨vs[j], hcs j _ hvj, AOK_mono hL1 _ _ ((AOKs_iff.1 hl).2 j _ _ (by simp [List.getD, hj]) hvj)⟩
  · intro e1
    have := (hk.boxes b' x' hx).2.1
    have e2 : (Gk.B b').1 = b := e1
    rw [e2, hown] at this
    simp at this
  · exact ⟨Nat.lt_succ_self _, fun x hx hu => by simp [Gh.box]⟩
def lentB : TypeId × PM → A → List Nat
  | (_, .io _), .pb n _ _ => [n]
  | _, _ => []
def lentBs : List (TypeId × PM) → List A → List Nat
  | p :: ps, a :: as => lentB p a ++ lentBs ps as
  | _, _ => []
theorem arg_sound (hE : EnvOk P E) (hR : Rel w G st slc) {all : List A} {p : TypeId × PM} {a : A} {v : Value} {u : Arg} {i : Nat} {ps : List (TypeId × PM)} {xs : List D} {st0 : St} (h : argA E st all p a = some u) (ha : AOK w G st a v) (hds : ∀ d, d ∈ u.ds → d ∈ ds)
    (hnd : (u.os ++ os0).Nodup) (hap : ∀ n ∈ u.os, ∀ d ∈ ds, d.1 ≠ n) (hpl : psOk [p] = true) {gs0 bn0 : List Nat} (hgs : ∀ r, r ∈ gs0 → r ∈ os0) (hbn : ∀ n, n ∈ bn0 → markB n ∈ os0) (hk : Rel w Gk stk sl) (hi : Imp G st ds gs0 bn0 Gk) (hent : entry E i (p :: ps) (u.x :: xs) stk = some st0) :
    ∃ Gk' stk' a', entry E (i + 1) ps xs (stk'.put i a') = some st0 ∧ Rel w Gk' stk' sl ∧ AOK w Gk' stk' a' v ∧ Imp G st ds (u.gs ++ gs0) (lentB p a ++ bn0) Gk' ∧ (∀ r, r ∈ u.gs → r ∈ u.os) ∧ ∀ n, n ∈ lentB p a → markB n ∈ u.os := by
  obtain ⟨t, m⟩ := p
  cases m with
  | ro =>
    simp only [argA] at h
    obtain ⟨ti, h1, h2⟩ := bind_some h
    obtain ⟨q, h3, h4⟩ := bind_some h2
    simp [ok] at h4
    subst h4
    simp only [ofO] at h1
    obtain ⟨vs, g1, g2, g3⟩ := encA_sound hE hR h1 ha h3 (ds := ds) hds
    simp only [entry, ofO, h1, Option.bind_some] at hent
    obtain ⟨a', h5, h6⟩ := bind_some hent
    have hdec := dec_sound (w := w) (Gk := Gk) (stk := stk) (dep := []) (by simp) (k := ti.lv.length) (x := q.2) ti.lv 0 vs g2 (fun j t u hj hu => by
      rw [Nat.zero_add]
      exact FzL_mono (fun b hb => ⟨hi.okI hb, rfl⟩) _ _ _ (g3 j t u hj hu))
    exact ⟨Gk, stk, a', h6, hk, aggOf_sound h5 g1 hdec, by simpa [lentB] using hi, by simp, by simp [lentB]⟩
  | rp =>
    simp only [argA, argPtr] at h
    obtain ⟨e, h1, h2⟩ := bind_some h
    obtain ⟨te, h3, h4⟩ := bind_some h2
    simp only [ofO] at h1 h3
    obtain ⟨g1, g1', b, o, g2, g3⟩ := argRp_sound hE hR (hE.types _ _ h3).lvF ha h4 (ds := ds) hds
    simp only [entry, ofO, h1, Option.bind_some, h3] at hent
    refine ⟨Gk, stk, .pz [] te.lv u.x 0, hent, hk, ⟨by simp, fun _ => ⟨b, o, g2, ?_⟩⟩, by rw [g1']; simpa [lentB] using hi, by rw [g1']; simp, by simp [lentB]⟩
    exact FzC_mono (fun b hb => ⟨hi.okI hb, rfl⟩) _ _ _ _ _ _ g3
  | fnv f =>
    cases a <;> simp only [argA, fail] at h <;> (try cases h)
    rename_i g caps
    cases caps with
    | cons _ _ => simp [argA, fail] at h
    | nil =>
      simp only [argA] at h
      obtain ⟨h1, h2⟩ := bif_some (s := "") h
      simp [ok] at h2
      subst h2
      have := Nat.eq_of_beq_eq_true h1
      subst this
      simp only [entry] at hent
      obtain ⟨vs, e1, e2⟩ := ha
      exact ⟨Gk, stk, .fn f [], hent, hk, ⟨vs, e1, e2⟩, by simpa [lentB] using hi, by simp, by simp [lentB]⟩
  | mv =>
    cases a <;> simp only [argA, fail] at h <;> (try cases h)
    · simp only [entry] at hent
      obtain ⟨ti, h1, h2⟩ := bind_some hent
      obtain ⟨te, h3, h4⟩ := bind_some h2
      obtain ⟨k1, k2, k3⟩ := nilArr_sound (d := 500 + i) (e := ti.e) (el := setOwnL true te.lv) hk
      have hv : v = .slice none 0 0 := ha
      subst hv
      exact ⟨_, _, _, h4, k2, k3, by simpa [lentB] using hi.change (Gk' := Gk.nilAt (500 + i)) hR (fun n hn => hn) (fun n hn => hn) (fun b => .inl rfl), by simp, by simp [lentB]⟩
    · rename_i r u' p
      cases p with
      | cons _ _ => simp [argA, fail] at h
      | nil =>
        simp only [argA] at h
        obtain ⟨q, h1, h2⟩ := bind_some h
        obtain ⟨ti, te, h3, h4, h5⟩ := tyE_some h2
        obtain ⟨h6, h7⟩ := bif_some (s := "") h5
        simp [ok] at h7
        subst h7
        simp only [Bool.and_eq_true] at h6
        have e1 := Nat.eq_of_beq_eq_true h6.1
        have e2 := beqL_eq _ _ h6.2
        obtain ⟨a', g1, g2, g3, g4, g5, g6, g7, hrow⟩ := rowOf_sound hR ha h1
        simp only [entry, ofO, h3, Option.bind_some, h4] at hent
        have hr1 : ∀ d ∈ ds, d.1 ≠ r := hap r (by simp)
        have hr2 : r ∉ gs0 := fun hm => nodup_app_not hnd r (by simp) (hgs r hm)
        obtain ⟨k1, k2, k3⟩ := adopt_sound (d := 500 + i) hk hrow (fun b p hb => hi.free b r p hb hr1 hr2) (.inl hi.fz) hR.live hR.hdr
        rw [e1, e2] at k2 k3
        refine ⟨_, _, _, hent, k2, k3, hi.change hR (fun n hn => by simp [hn]) (fun n hn => by simp [hn]) (fun b => ?_), by simp, by simp [lentB]⟩
        by_cases hb : ∃ p, G.own b = .arr r p
        · obtain ⟨p, hb⟩ := hb
          exact .inr (.inl ⟨r, p, hb, by simp, hr1⟩)
        · exact .inl (adopt_own (fun p hp => hb ⟨p, hp⟩))
  | io el =>
    simp only [argA] at h
    unfold argPtr at h
    split at h
    · rename_i hh; simp at hh
    · rename_i el' n u' hel
      injection hel with hel
      subst hel
      obtain ⟨l, h1, h2⟩ := bind_some h
      obtain ⟨q, h3, h4⟩ := bind_some h2
      simp [ok] at h4
      subst h4
      obtain ⟨x, m1, m2, m3⟩ := boxOf_some h1
      subst m3
      have hv := ha.2 x m1 m2
      obtain ⟨cs, e, vs, c1, c2, c3, c4⟩ := box_cells hR m1 (boxOf_mp h1 m1)
      have hlen := outLeaves_len h3
      obtain ⟨ns, g1, g2⟩ := out_mkE hR h3 c3 (ds := ds) hds
      simp only at hnd hap
      have hmark : markB n ∈ marks n 0 1 ++ q.os := by simp [marks, markB]
      have hnames : ∀ m ∈ namesOf ns, m ∈ marks n 0 1 ++ q.os := fun m hm => by rw [g2]; simp [hm]
      have hmd : ∀ u, (markB n, u) ∉ ds := fun u hu => hap _ hmark _ hu rfl
      have hm0 : n ∉ bn0 := fun hm => nodup_app_not hnd _ hmark (hbn n hm)
      have hblk := (hR.boxes n x m1).2.1
      simp only [entry] at hent
      obtain ⟨Gk1, q1, q2, q3, q4⟩ := into_sound (nb := nm (500 + i) 0) (dep := []) hR.live hR.hdr g1 hk (by
          have := (List.nodup_append.1 (List.nodup_append.1 hnd).1).2.1
          rw [g2] at this
          exact this) (fun m hm => hap m (hnames m hm)) (fun m hm b p hb => hi.free b m p hb (hap m (hnames m hm)) (fun hg => nodup_app_not hnd m (hnames m hm) (hgs m hg)))
        (.inl fun b hb => hi.okI (.inl hb)) (by simp) (.inl hi.fz)
      have hout : Gk1.own (G.B n).1 = .out := by
        rw [q1.own _ (fun m p _ hp => by rw [hblk] at hp; simp at hp)]
        exact hi.box _ hblk (fun n' x' hx' hn' => by
          by_cases e1 : n' = n
          · subst e1; exact ⟨hmd, hm0⟩
          · exact absurd hn' (hR.apartB n' n x' x hx' m1 e1))
      have hl2 := (AOKs_iff.1 q4).1
      have hl1 := (AOKs_iff.1 c3).1
      obtain ⟨k1, k2, k3⟩ := var_sound (Gx := G) (d := 500 + i) (o := (G.B n).2) q3 hout c1 (by omega) q4 c4
      refine ⟨_, _, _, hent, k2, by rw [hv]; exact k3, hi.change hR (fun m hm => by simp [hm]) (fun m hm => by simp [hm]) (fun b => ?_), fun r hr => by simp at hr ⊢; exact .inr hr, fun m hm => by simp [lentB] at hm; subst hm; exact hmark⟩
      by_cases hb : b = (G.B n).1
      · exact .inr (.inr ⟨n, x, m1, hb, by simp [lentB], hmd⟩)
      · have e1 : ((Gk1.tag (G.B n).1 .box).box (500 + i) ((G.B n).1, (G.B n).2)).own b = Gk1.own b := by simp [Gh.box, Gh.tag, hb]
        by_cases hb2 : ∃ m p, m ∈ namesOf ns ∧ G.own b = .arr m p
        · obtain ⟨m, p, hm, hb2⟩ := hb2
          exact .inr (.inl ⟨m, p, hb2, by rw [g2]; simp [hm], hap m (hnames m hm)⟩)
        · exact .inl (by
            show ((Gk1.tag (G.B n).1 .box).box (500 + i) ((G.B n).1, (G.B n).2)).own b = _
            rw [e1]
            exact q1.own b (fun m p hm hp => hb2 ⟨m, p, hm, hp⟩))
    · simp [fail] at h
  | sio lv => simp [psOk] at hpl
  | sub j leaf k => simp [psOk] at hpl
  | clo f ms => simp [psOk] at hpl
end
end Go.Eng

namespace Go.Eng
/-- a variable and what it holds, handed over -/
def VarOk (w : World) (G : Gh) (ds : List (Nat × Nat)) (el : List LT) (b o : Nat) (y : D) (os : List (Option Nat)) : Prop :=
  G.own b = .box ∧ ∃ cs e vs, w.heap[b]? = some (.cells cs e (0, 0)) ∧ o + el.length ≤ cs.size ∧ (∀ (j : Nat) (v : Value), vs[j]? = some v → cs[o + j]? = some v) ∧ HandC w G ds el vs el.length y 0 os
def ResOk (w : World) (G : Gh) (ds : List (Nat × Nat)) : RM → Value → D → List Nat → List Nat → Prop
  | .val agg lv, u, x, ns, bs => bs = [] ∧ ∃ vs os, (if agg then u = .agg ⟨vs⟩ else vs = [u]) ∧ HandC w G ds lv vs lv.length x 0 os ∧ ns = namesOf os
  | .ptr el, u, x, ns, bs => (x.els = [] ∧ u = .pointer none ∧ ns = [] ∧ bs = []) ∨
      ∃ y ys b o os, x.els = y :: ys ∧ u = .pointer (some ⟨b, o, none⟩) ∧ VarOk w G ds el b o y os ∧ ns = namesOf os ∧ bs = [b]
def RessOk (w : World) (G : Gh) (ds : List (Nat × Nat)) : List RM → List Value → D → Nat → List Nat → List Nat → Prop
  | [], us, _, _, ns, bs => us = [] ∧ ns = [] ∧ bs = []
  | m :: ms, us, x, c, ns, bs => ∃ u us' n1 n2 b1 b2, us = u :: us' ∧ ns = n1 ++ n2 ∧ bs = b1 ++ b2 ∧ ResOk w G ds m u (x.fld c) n1 b1 ∧ RessOk w G ds ms us' x (c + 1) n2 b2
def OutsOk (w : World) (G : Gh) (ds : List (Nat × Nat)) : List RM → Value → D → List Nat → List Nat → Prop
  | [], v, _, ns, bs => v = .tuple #[] ∧ ns = [] ∧ bs = []
  | [m], v, x, ns, bs => ResOk w G ds m v x ns bs
  | ms, v, x, ns, bs => ∃ us, v = .tuple ⟨us⟩ ∧ RessOk w G ds ms us x 0 ns bs
def BackOk (w : World) (G : Gh) (ds : List (Nat × Nat)) : List (TypeId × PM) → List Value → List D → List Nat → List Nat → Prop
  | [], vs, xs, ns, bs => vs = [] ∧ xs = [] ∧ ns = [] ∧ bs = []
  | (_, .io el) :: ps, vs, xs, ns, bs => ∃ v vs' x xs' b o os n2 b2, vs = v :: vs' ∧ xs = x :: xs' ∧ v = .pointer (some ⟨b, o, none⟩) ∧ VarOk w G ds el b o x os ∧ ns = namesOf os ++ n2 ∧ bs = b :: b2 ∧ BackOk w G ds ps vs' xs' n2 b2
  | _ :: ps, vs, xs, ns, bs => ∃ v vs', vs = v :: vs' ∧ BackOk w G ds ps vs' xs ns bs
/-- what a call leaves behind -/
structure Post (w : World) (G : Gh) (s : Sig) (vs : List Value) (r : D × List D) (v : Value) : Prop where
  ex : ∃ ds n1 b1 n2 b2, OutsOk w G ds s.rs v r.1 n1 b1 ∧ BackOk w G ds s.ps vs r.2 n2 b2 ∧ (n2 ++ n1).Nodup ∧ (b2 ++ b1).Nodup ∧ ∀ n ∈ n2 ++ n1, ∀ d ∈ ds, d.1 ≠ n
  live : ∀ b, G.own b ≠ .out → b < w.heap.size
  hdr : ∀ r p, ∃ a n c, G.H r p = .slice a n c
def st00 : St := { sl := .nil, bx := [], ar := [], ctr := 1 }
/-- what is asked of function m of the environment -/
def FnOk (P : Program) (E : Env) (ctx : Ctx) (m : Nat) (s : Sig) : Prop :=
  ∀ xs r, ctx m xs = some r → ∃ st0, entry E 0 s.ps xs st00 = some st0 ∧
    ∀ w G vs, vs.length = s.ps.length → Rel w G st0 (fun i => vs[i]?) → Calls P s.fn ⟨vs⟩ w (fun e w' => ∃ v G', e = .returned v ∧ Fr w G w' G' ∧ Post w' G' s vs r v)
section
variable {P : Program} {w : World} {G Gk : Gh} {st stk : St} {slc sl : Nat → Option Value} {E : Env} {ds : List (Nat × Nat)} {os0 : List Nat}
theorem Imp.sub {gs0 bn0 gs1 bn1 : List Nat} (hi : Imp G st ds gs0 bn0 Gk) (h : ∀ n, n ∈ gs0 → n ∈ gs1) (h' : ∀ n, n ∈ bn0 → n ∈ bn1) : Imp G st ds gs1 bn1 Gk :=
  ⟨hi.fz, hi.dep, hi.rp, fun b r p hb hd ho => hi.free b r p hb hd (fun hm => ho (h r hm)), fun b hb hh => hi.box b hb (fun n x hx hn => ⟨(hh n x hx hn).1, fun hm => (hh n x hx hn).2 (h' _ hm)⟩), hi.out⟩
def slotsFrom (sl : Nat → Option Value) : Nat → List Value → Nat → Option Value
  | _, [] => sl
  | i, v :: vs => slotsFrom (updV sl i v) (i + 1) vs
theorem slotsFrom_get : ∀ (vs : List Value) (sl : Nat → Option Value) (i t : Nat), slotsFrom sl i vs t = if i ≤ t ∧ t < i + vs.length then vs[t - i]? else sl t
  | [], sl, i, t => by rw [slotsFrom, if_neg (by simp)]
  | v :: vs, sl, i, t => by
    rw [slotsFrom, slotsFrom_get vs]
    simp only [List.length_cons, updV]
    by_cases h1 : i + 1 ≤ t ∧ t < i + 1 + vs.length
    · rw [if_pos h1, if_pos (by omega), show t - i = t - (i + 1) + 1 by omega]
      simp
    · rw [if_neg h1]
      by_cases h2 : t = i
      · subst h2; simp
      · rw [if_neg h2, if_neg (by omega)]
theorem args_sound (hE : EnvOk P E) (hR : Rel w G st slc) {all : List A} : ∀ (ps : List (TypeId × PM)) {as : List A} {vs : List Value} {i : Nat} {u : List Nat × List Nat × List (Nat × Nat) × List D} {stk st0 : St} {Gk : Gh} {sl : Nat → Option Value} {os0 gs0 bn0 : List Nat}, argsA E st all ps as = some u → AOKs w G st as vs →
    (∀ d, d ∈ u.2.2.1 → d ∈ ds) → (u.1 ++ os0).Nodup → (∀ n ∈ u.1, ∀ d ∈ ds, d.1 ≠ n) → psOk ps = true → (∀ r, r ∈ gs0 → r ∈ os0) → (∀ n, n ∈ bn0 → markB n ∈ os0) → Rel w Gk stk sl → Imp G st ds gs0 bn0 Gk → entry E i ps u.2.2.2 stk = some st0 →
      vs.length = ps.length ∧ ∃ Gc, Rel w Gc st0 (slotsFrom sl i vs) ∧ Imp G st ds (u.2.1 ++ gs0) (lentBs ps as ++ bn0) Gc ∧ (∀ r, r ∈ u.2.1 → r ∈ u.1) ∧ ∀ n, n ∈ lentBs ps as → markB n ∈ u.1
  | [], [], vs, i, u, stk, st0, Gk, sl, os0, gs0, bn0, h, hv, _, _, _, _, _, _, hk, hi, hent => by
    simp [argsA, ok] at h
    subst h
    simp [entry, ok] at hent
    subst hent
    have : vs = [] := hv
    subst this
    exact ⟨rfl, Gk, hk, by simpa [lentBs] using hi, by simp, by simp [lentBs]⟩
  | p :: ps, a :: as, vs, i, u, stk, st0, Gk, sl, os0, gs0, bn0, h, hv, hds, hnd, hap, hps, hgs, hbn, hk, hi, hent => by
    simp only [argsA] at h
    obtain ⟨u1, h1, h2⟩ := bind_some h
    obtain ⟨u2, h3, h4⟩ := bind_some h2
    simp [ok] at h4
    subst h4
    obtain ⟨v, vs', rfl, hv1, hv2⟩ := hv
    simp only at hds hnd hap hent
    have hpl : psOk [p] = true := by
      obtain ⟨t, m⟩ := p
      cases m <;> simp_all [psOk]
    have hps' : psOk ps = true := by
      obtain ⟨t, m⟩ := p
      cases m <;> simp_all [psOk]
    have hnd' : (u2.1 ++ (u1.os ++ os0)).Nodup := by
      refine List.Perm.nodup ?_ hnd
      rw [List.append_assoc]
      exact (List.perm_append_comm_assoc _ _ _).symm.trans (List.Perm.refl _) |>.symm.symm.symm
    obtain ⟨Gk', stk', a', k1, k2, k3, k4, k6, k7⟩ := arg_sound hE hR h1 hv1 (fun d hd => hds d (by simp [hd])) (by
      refine (List.nodup_append.1 hnd').2.1) (fun n hn => hap n (by simp [hn])) hpl hgs hbn hk hi hent
    have k5 := k2.put (d := i) k3
    obtain ⟨g1, Gc, g2, g3, g4, g5⟩ := args_sound hE hR ps (stk := stk'.put i a') (i := i + 1) (os0 := u1.os ++ os0) h3 hv2 (fun d hd => hds d (by simp [hd])) hnd' (fun n hn => hap n (by simp [hn])) hps'
      (fun r hr => by simp only [List.mem_append] at hr ⊢; exact hr.imp (k6 r) (hgs r)) (fun n hn => by simp only [List.mem_append] at hn ⊢; exact hn.imp (k7 n) (hbn n)) k5 k4 k1
    refine ⟨by simp [g1], Gc, g2, g3.sub (fun n hn => ?_) (fun n hn => ?_), fun r hr => ?_, fun n hn => ?_⟩
    · simp only [List.mem_append] at hn ⊢
      rcases hn with h | h | h
      · exact .inl (.inr h)
      · exact .inl (.inl h)
      · exact .inr h
    · simp only [lentBs, List.mem_append] at hn ⊢
      rcases hn with h | h | h
      · exact .inl (.inr h)
      · exact .inl (.inl h)
      · exact .inr h
    · simp only [List.mem_append] at hr ⊢
      exact hr.imp (k6 r) (g4 r)
    · simp only [lentBs, List.mem_append] at hn ⊢
      exact hn.imp (k7 n) (g5 n)
  | [], _ :: _, _, _, _, _, _, _, _, _, _, _, h, _, _, _, _, _, _, _, _, _, _ => by simp [argsA, fail] at h
  | _ :: _, [], _, _, _, _, _, _, _, _, _, _, h, _, _, _, _, _, _, _, _, _, _ => by simp [argsA, fail] at h
/-! ### Before the first argument -/
open Classical in
noncomputable def Gh.base (G : Gh) (st : St) (ds : List (Nat × Nat)) : Gh :=
  { own := fun b => match G.own b with
      | .fz => .fz
      | .arr r _ => if ∃ d ∈ ds, d.1 = r then .fz else .out
      | .box => if ∃ n x u, look st.bx n = some x ∧ (markB n, u) ∈ ds ∧ (G.B n).1 = b then .fz else .out
      | .out => .out
    H := G.H
    B := G.B }
theorem base_imp (G : Gh) (st : St) (hb : ∀ n x, look st.bx n = some x → G.own (G.B n).1 = .box) (ds : List (Nat × Nat)) : Imp G st ds [] [] (G.base st ds) := by
  refine ⟨fun b h => by simp [Gh.base, h], fun b d p hd h => ?_, fun n x u hx hm => ?_, fun b r p h hd _ => ?_, fun b h hh => ?_, fun b h => by simp [Gh.base, h]⟩
  · simp only [Gh.base, h]
    rw [if_pos ⟨d, hd, rfl⟩]
  · simp only [Gh.base, hb n x hx]
    rw [if_pos ⟨n, x, u, hx, hm, rfl⟩]
  · simp only [Gh.base, h]
    rw [if_neg (by rintro ⟨d, h1, h2⟩; exact hd d h1 h2)]
  · simp only [Gh.base, h]
    rw [if_neg (by rintro ⟨n, x, u, h1, h2, h3⟩; exact (hh n x h1 h3).1 u h2)]
theorem base_live {b : Nat} (h : (G.base st ds).own b ≠ .out) : G.own b ≠ .out := fun e => h (by simp [Gh.base, e])
theorem base_rel (hR : Rel w G st slc) : Rel w (G.base st ds) st00 (fun _ => none) :=
  ⟨fun _ _ h => by simp at h, fun b x h => by simp [st00, look] at h, fun b b' x x' h => by simp [st00, look] at h, fun r a h => by simp [st00, look] at h, fun b hb => hR.live b (base_live hb), hR.hdr⟩
end
end Go.Eng

namespace Go.Eng
open Classical in
/-- the caller's tags, before anything comes back: n: how many blocks there were at the call -/
noncomputable def Gh.merge (G Gx : Gh) (n : Nat) (gs : List Nat) (ds' : List (Nat × Nat)) : Gh :=
  { own := fun b => if b < n ∧ ¬ ∃ r p, G.own b = .arr r p ∧ r ∈ gs then G.own b else
      match Gx.own b with
      | .fz => .fz
      | .arr rx _ => if ∃ d ∈ ds', d.1 = rx then .fz else .out
      | _ => .out
    H := G.H
    B := G.B }
section
variable {w w' : World} {G Gc Gx : Gh} {st : St} {slc : Nat → Option Value} {ds ds' : List (Nat × Nat)} {gs bn : List Nat}
theorem look_goneAll : ∀ (gs : List Nat) (st : St) (r : Nat), look (goneAll gs st).ar r = if r ∈ gs then none else look st.ar r
  | [], st, r => by simp [goneAll]
  | g :: gs, st, r => by
    rw [goneAll, look_goneAll gs]
    simp only [St.gone, look_dropA, List.mem_cons]
    by_cases h : r ∈ gs
    · simp [h]
    · by_cases e : r = g
      · simp [e]
      · simp [h, e]
theorem goneAll_same : ∀ (gs : List Nat) (st : St), (goneAll gs st).bx = st.bx ∧ (goneAll gs st).sl = st.sl ∧ (goneAll gs st).ctr = st.ctr
  | [], st => ⟨rfl, rfl, rfl⟩
  | g :: gs, st => goneAll_same gs (st.gone g)
theorem undefs_length : ∀ n, (undefs n).length = n
  | 0 => rfl
  | n + 1 => congrArg (· + 1) (undefs_length n)
theorem undefs_get : ∀ (n j : Nat), (undefs n).getD j .undef = .undef
  | 0, j => by simp [undefs]
  | n + 1, 0 => rfl
  | n + 1, j + 1 => by rw [undefs, List.getD_cons_succ]; exact undefs_get n j
theorem look_blankB (st : St) (b n : Nat) : look (blankB st b).bx n = if n = b then (look st.bx n).map (fun x => { uid := x.uid, lv := undefs x.lv.length }) else look st.bx n := by
  unfold blankB
  cases h : look st.bx b with
  | none =>
    by_cases e : n = b
    · subst e; simp [h]
    · simp [e]
  | some x =>
    simp only [look_putA]
    by_cases e : n = b
    · subst e; simp [h]
    · simp [e]
theorem blankB_same (st : St) (b : Nat) : (blankB st b).ar = st.ar ∧ (blankB st b).sl = st.sl ∧ (blankB st b).ctr = st.ctr := by
  unfold blankB
  cases look st.bx b <;> exact ⟨rfl, rfl, rfl⟩
theorem blanks_eq : ∀ (ps : List (TypeId × PM)) (as : List A) (st : St), (blanks ps as st).ar = st.ar ∧ (blanks ps as st).sl = st.sl ∧ (blanks ps as st).ctr = st.ctr ∧
    ∀ n, (n ∉ lentBs ps as → look (blanks ps as st).bx n = look st.bx n) ∧ (n ∈ lentBs ps as → look (blanks ps as st).bx n = (look st.bx n).map (fun x => { uid := x.uid, lv := undefs x.lv.length }))
  | [], as, st => by
    have : blanks [] as st = st := by cases as <;> rfl
    rw [this]
    exact ⟨rfl, rfl, rfl, fun n => ⟨fun _ => rfl, fun h => by simp [lentBs] at h⟩⟩
  | p :: ps, [], st => by
    have : blanks (p :: ps) [] st = st := by obtain ⟨t, m⟩ := p; cases m <;> rfl
    rw [this]
    exact ⟨rfl, rfl, rfl, fun n => ⟨fun _ => rfl, fun h => by simp [lentBs] at h⟩⟩
  | p :: ps, a :: as, st => by
    by_cases hb : ∃ b, lentB p a = [b]
    · obtain ⟨b, hb⟩ := hb
      have he : blanks (p :: ps) (a :: as) st = blanks ps as (blankB st b) := by
        obtain ⟨t, m⟩ := p
        cases m <;> cases a <;> simp [lentB] at hb
        subst hb
        rfl
      rw [he]
      obtain ⟨h1, h2, h3, h4⟩ := blanks_eq ps as (blankB st b)
      obtain ⟨g1, g2, g3⟩ := blankB_same st b
      refine ⟨h1.trans g1, h2.trans g2, h3.trans g3, fun n => ⟨fun hn => ?_, fun hn => ?_⟩⟩
      · simp only [lentBs, hb, List.mem_append, List.mem_singleton, not_or] at hn
        rw [(h4 n).1 hn.2, look_blankB, if_neg hn.1]
      · simp only [lentBs, hb, List.mem_append, List.mem_singleton] at hn
        by_cases hn2 : n ∈ lentBs ps as
        · rw [(h4 n).2 hn2, look_blankB]
          split
          · cases look st.bx n <;> simp [undefs_length]
          · rfl
        · rw [(h4 n).1 hn2, look_blankB]
          have : n = b := hn.resolve_right hn2
          rw [if_pos this]
    · have hnil : lentB p a = [] := by
        obtain ⟨t, m⟩ := p
        cases m <;> cases a <;> first | rfl | exact absurd ⟨_, rfl⟩ hb
      have he : blanks (p :: ps) (a :: as) st = blanks ps as st := by
        obtain ⟨t, m⟩ := p
        cases m <;> cases a <;> first | rfl | (simp [lentB] at hnil)
      rw [he]
      have := blanks_eq ps as st
      simpa [lentBs, hnil] using this
theorem merge_keep {b : Nat} {n : Nat} (hb : b < n) (h : ∀ r p, G.own b = .arr r p → r ∉ gs) : (G.merge Gx n gs ds').own b = G.own b := by
  simp only [Gh.merge]
  rw [if_pos ⟨hb, fun ⟨r, p, h1, h2⟩ => h r p h1 h2⟩]
/-- a block that nothing was lent of -/
theorem unlent (hR : Rel w G st slc) (hI : Imp G st ds gs bn Gc) {b : Nat} (h : ∀ r p, G.own b = .arr r p → r ∉ gs) (hbn : ∀ n x, look st.bx n = some x → (G.B n).1 = b → n ∉ bn) : Gc.own b = .out ∨ Gc.own b = .fz := by
  cases ho : G.own b with
  | out => exact .inl (hI.out b ho)
  | fz => exact .inr (hI.fz b ho)
  | arr r p =>
    by_cases hd : ∃ d ∈ ds, d.1 = r
    · obtain ⟨d, h1, rfl⟩ := hd; exact .inr (hI.dep b d p h1 ho)
    · exact .inl (hI.free b r p ho (fun d h1 h2 => hd ⟨d, h1, h2⟩) (h r p ho))
  | box =>
    by_cases hd : ∃ n x u, look st.bx n = some x ∧ (markB n, u) ∈ ds ∧ (G.B n).1 = b
    · obtain ⟨n, x, u, h1, h2, rfl⟩ := hd; exact .inr (hI.rp n x u h1 h2)
    · exact .inl (hI.box b ho (fun n x hx hn => ⟨fun u hu => hd ⟨n, x, u, hx, hu, hn⟩, hbn n x hx hn⟩))
/-- the caller's state, when the callee has come back, without what was lent -/
theorem stage1 (hR : Rel w G st slc) (hI : Imp G st ds gs bn Gc) (hF : Fr w Gc w' Gx) (hlive : ∀ b, Gx.own b ≠ .out → b < w'.heap.size) {ps : List (TypeId × PM)} {as : List A} (hbn : bn = lentBs ps as)
    (hbox : ∀ n x, look st.bx n = some x → n ∈ bn → ∃ cs e, w'.heap[(G.B n).1]? = some (.cells cs e (0, 0)) ∧ (G.B n).2 + x.lv.length ≤ cs.size) :
    Le w G st w' (G.merge Gx w.heap.size gs ds') (blanks ps as (goneAll gs st)) ∧ Rel w' (G.merge Gx w.heap.size gs ds') (blanks ps as (goneAll gs st)) (fun _ => none) := by
  subst hbn
  obtain ⟨e1, e2, e3⟩ := goneAll_same gs st
  obtain ⟨f1, f2, f3, f4⟩ := blanks_eq ps as (goneAll gs st)
  have har : ∀ r a, look (blanks ps as (goneAll gs st)).ar r = some a → look st.ar r = some a ∧ r ∉ gs := fun r a h => by
    rw [f1, look_goneAll] at h
    split at h
    · simp at h
    · rename_i hn; exact ⟨h, hn⟩
  have hbx : ∀ n x', look (blanks ps as (goneAll gs st)).bx n = some x' → ∃ x, look st.bx n = some x ∧ x.uid = x'.uid ∧ x.lv.length = x'.lv.length ∧ (n ∉ lentBs ps as → x' = x) ∧ (n ∈ lentBs ps as → x'.lv = undefs x.lv.length ∧ x'.mp = none) := fun n x' h => by
    by_cases hn : n ∈ lentBs ps as
    · rw [(f4 n).2 hn, e1] at h
      cases hl : look st.bx n with
      | none => simp [hl] at h
      | some x => simp [hl] at h; subst h; exact ⟨x, rfl, rfl, by simp [undefs_length], fun h => absurd hn h, fun _ => ⟨rfl, rfl⟩⟩
    · rw [(f4 n).1 hn, e1] at h
      exact ⟨x', h, rfl, rfl, fun _ => rfl, fun h => absurd h hn⟩
  have hctr : (blanks ps as (goneAll gs st)).ctr = st.ctr := f3.trans e3
  -- blocks that are as they were
  have hsame : ∀ b, b < w.heap.size → (∀ r p, G.own b = .arr r p → r ∉ gs) → (∀ n x, look st.bx n = some x → (G.B n).1 = b → n ∉ lentBs ps as) → w'.heap[b]? = w.heap[b]? := fun b hb h1 h2 => (hF.block b hb (unlent hR hI h1 h2)).1
  have hfz : ∀ b, G.own b = .fz → (G.merge Gx w.heap.size gs ds').own b = .fz ∧ w'.heap[b]? = w.heap[b]? := fun b hb => by
    have hlt := hR.live b (by rw [hb]; simp)
    refine ⟨by rw [merge_keep hlt (fun r p h => by rw [hb] at h; simp at h), hb], hsame b hlt (fun r p h => by rw [hb] at h; simp at h) (fun n x hx hn => ?_)⟩
    have := (hR.boxes n x hx).2.1
    rw [hn, hb] at this
    simp at this
  have hrow : ∀ r, r ∉ gs → ∀ b p, G.own b = .arr r p → (G.merge Gx w.heap.size gs ds').own b = .arr r p ∧ w'.heap[b]? = w.heap[b]? := fun r hr b p hb => by
    have hlt := hR.live b (by rw [hb]; simp)
    have h1 : ∀ r' p', G.own b = .arr r' p' → r' ∉ gs := fun r' p' h => by rw [hb] at h; injection h with h; exact h ▸ hr
    refine ⟨by rw [merge_keep hlt h1, hb], hsame b hlt h1 (fun n x hx hn => ?_)⟩
    have := (hR.boxes n x hx).2.1
    rw [hn, hb] at this
    simp at this
  have hL : Le w G st w' (G.merge Gx w.heap.size gs ds') (blanks ps as (goneAll gs st)) := by
    refine ⟨by rw [hctr]; exact Nat.le_refl _, fun r u p a' _ h => ?_, fun n x' _ hx => ?_, fun r a' _ h => ?_, hfz⟩
    · exact ⟨a', ⟨(har r a' h.1).1, h.2⟩, rfl, rfl, rfl, fun h => h⟩
    · obtain ⟨x, g1, g2, _⟩ := hbx n x' hx
      exact ⟨x, g1, g2, rfl⟩
    · obtain ⟨g1, g2⟩ := har r a' h
      exact ⟨a', g1, rfl, fun b p hb => by obtain ⟨k1, k2⟩ := hrow r g2 b p hb; exact ⟨⟨p, k1⟩, k2⟩⟩
  refine ⟨hL, fun _ _ h => by simp at h, fun n x' hx => ?_, fun n n' x x' h1 h2 hne => ?_, fun r a ha => ?_, fun b hb => ?_, hR.hdr⟩
  · obtain ⟨x, g1, g2, g3, g4, g5⟩ := hbx n x' hx
    obtain ⟨k1, k2, hcs⟩ := hR.boxes n x g1
    have hlt := hR.live (G.B n).1 (by rw [k2]; simp)
    have hown : (G.merge Gx w.heap.size gs ds').own (G.B n).1 = .box := by rw [merge_keep hlt (fun r p h => by rw [k2] at h; simp at h), k2]
    by_cases hn : n ∈ lentBs ps as
    · obtain ⟨cs', e', m1, m2⟩ := hbox n x g1 hn
      refine ⟨by rw [hctr, ← g2]; exact k1, hown, CellsB.of_cells (g5 hn).2 ⟨cs', e', m1, by rw [← g3]; exact m2, fun j hj => ?_⟩⟩
      have hlt' : (G.B n).2 + j < cs'.size := by omega
      refine ⟨cs'[(G.B n).2 + j], Array.getElem?_eq_getElem hlt', ?_⟩
      rw [(g5 hn).1, undefs_get]
      exact trivial
    · have hx' := g4 hn
      subst hx'
      refine ⟨by rw [hctr]; exact k1, hown, hcs.step ?_ rfl rfl fun j hj v m2 => AOK_mono hL _ _ m2⟩
      exact hsame (G.B n).1 hlt (fun r p h => by rw [k2] at h; simp at h) (fun n' y hy hn' => by
          by_cases e' : n' = n
          · subst e'; exact hn
          · exact absurd hn' (hR.apartB n' n y x' hy g1 e'))
  · obtain ⟨y, g1, _⟩ := hbx n x h1
    obtain ⟨y', g2, _⟩ := hbx n' x' h2
    exact hR.apartB n n' y y' g1 g2 hne
  · obtain ⟨g1, g2⟩ := har r a ha
    obtain ⟨k1, k2, k3, k4⟩ := hR.arrs r a g1
    rw [hctr]
    exact ⟨k1, k2, k3, Row_same hfz (fun _ => rfl) (fun b p hb => hrow r g2 b p hb) k4⟩
  · simp only [Gh.merge] at hb
    split at hb
    · rename_i h; exact Nat.lt_of_lt_of_le h.1 hF.size
    · refine hlive b (fun e => ?_)
      rw [e] at hb
      simp at hb
end
end Go.Eng

namespace Go.Eng
section
variable {w w' : World} {G Gc Gx Gm : Gh} {st s : St} {slc sl : Nat → Option Value} {ds ds' : List (Nat × Nat)} {gs bn : List Nat}
/-- what is known of the tags, at the return -/
structure Ret (w : World) (G Gc : Gh) (st : St) (ds : List (Nat × Nat)) (gs bn : List Nat) (w' : World) (Gx : Gh) : Prop where
  imp : Imp G st ds gs bn Gc
  fr : Fr w Gc w' Gx
  rel : ∃ sl, Rel w G st sl
  box : ∀ n x, look st.bx n = some x → n ∈ bn → Gx.own (G.B n).1 = .box
theorem Ret.unlent (h : Ret w G Gc st ds gs bn w' Gx) {b : Nat} (hb : b < w.heap.size) (h1 : ∀ r p, G.own b = .arr r p → r ∉ gs) (h2 : Gx.own b ≠ .box ∨ ∀ n x, look st.bx n = some x → (G.B n).1 = b → n ∉ bn) : Gx.own b = Gc.own b ∧ (Gc.own b = .out ∨ Gc.own b = .fz) := by
  obtain ⟨sl, hR⟩ := h.rel
  have h3 : ∀ n x, look st.bx n = some x → (G.B n).1 = b → n ∉ bn := by
    rcases h2 with h2 | h2
    · intro n x hx hn hm
      have := h.box n x hx hm
      rw [hn] at this
      exact h2 this
    · exact h2
  have := Go.Eng.unlent hR h.imp h1 h3
  exact ⟨(h.fr.block b hb this).2, this⟩
theorem merge_split (b : Nat) : (b < w.heap.size ∧ (∀ r p, G.own b = .arr r p → r ∉ gs) ∧ (G.merge Gx w.heap.size gs ds').own b = G.own b) ∨
    ((G.merge Gx w.heap.size gs ds').own b = match Gx.own b with | .fz => .fz | .arr rx _ => (open Classical in if ∃ d ∈ ds', d.1 = rx then .fz else .out) | _ => .out) := by
  by_cases h : b < w.heap.size ∧ ¬ ∃ r p, G.own b = .arr r p ∧ r ∈ gs
  · left
    refine ⟨h.1, fun r p h1 h2 => h.2 ⟨r, p, h1, h2⟩, ?_⟩
    simp only [Gh.merge]
    rw [if_pos h]
  · right
    simp only [Gh.merge]
    rw [if_neg h]
    try (cases Gx.own b <;> simp)
theorem Ret.arr (h : Ret w G Gc st ds gs bn w' Gx) {b n : Nat} {p : Path} (hb : Gx.own b = .arr n p) : (G.merge Gx w.heap.size gs ds').own b = if ∃ d ∈ ds', d.1 = n then .fz else .out := by
  rcases merge_split (w := w) (G := G) (Gx := Gx) (gs := gs) (ds' := ds') b with ⟨h1, h2, h3⟩ | h1
  · obtain ⟨h4, h5⟩ := h.unlent h1 h2 (.inl (by rw [hb]; simp))
    rw [hb] at h4
    rw [← h4] at h5
    simp at h5
  · rw [h1, hb]
theorem Ret.free (h : Ret w G Gc st ds gs bn w' Gx) {b n : Nat} {p : Path} (hb : Gx.own b = .arr n p) (hn : ∀ d ∈ ds', d.1 ≠ n) : (G.merge Gx w.heap.size gs ds').own b = .out := by
  rw [h.arr hb, if_neg (by rintro ⟨d, h1, h2⟩; exact hn d h1 h2)]
theorem Ret.ptr (h : Ret w G Gc st ds gs bn w' Gx) {b : Nat} (hb : Gx.own b = .box) (hn : ∀ n x, look st.bx n = some x → (G.B n).1 = b → n ∉ bn) : (G.merge Gx w.heap.size gs ds').own b = .out := by
  rcases merge_split (w := w) (G := G) (Gx := Gx) (gs := gs) (ds' := ds') b with ⟨h1, h2, h3⟩ | h1
  · obtain ⟨h4, h5⟩ := h.unlent h1 h2 (.inr hn)
    rw [hb] at h4
    rw [← h4] at h5
    simp at h5
  · rw [h1, hb]
theorem hasMark_mem {d : Nat × Nat} : ∀ {l : List (Nat × Nat)}, hasMark l = false → d ∈ l → d.1 < 1000000000000
  | [], _, h => by simp at h
  | (r, v) :: l, h, hd => by
    simp only [hasMark, Bool.or_eq_false_iff] at h
    rcases List.mem_cons.1 hd with rfl | hd
    · have := h.1
      rcases Nat.lt_or_ge r 1000000000000 with h | h
      · exact h
      · exact absurd (Nat.ble_eq_true_of_le h) (by simp [this])
    · exact hasMark_mem h.2 hd
theorem Ret.read (h : Ret w G Gc st ds gs bn w' Gx) (hm : hasMark ds = false) {b : Nat} (hb : okD Gx ds' b) : okD (G.merge Gx w.heap.size gs ds') ds b := by
  rcases hb with hb | ⟨d, hd, p, hb⟩
  · rcases merge_split (w := w) (G := G) (Gx := Gx) (gs := gs) (ds' := ds') b with ⟨h1, h2, h3⟩ | h1
    · obtain ⟨h4, h5⟩ := h.unlent h1 h2 (.inl (by rw [hb]; simp))
      rw [hb] at h4
      unfold okD
      rw [h3]
      cases ho : G.own b with
      | out => have := h.imp.out b ho; rw [← h4] at this; simp at this
      | fz => exact .inl rfl
      | arr r p =>
        by_cases hd : ∃ d ∈ ds, d.1 = r
        · obtain ⟨d, g1, rfl⟩ := hd; exact .inr ⟨d, g1, p, rfl⟩
        · have := h.imp.free b r p ho (fun d g1 g2 => hd ⟨d, g1, g2⟩) (h2 r p ho)
          rw [← h4] at this
          simp at this
      | box =>
        have := h.imp.box b ho (fun n x hx hn => ⟨fun u hu => by have := hasMark_mem hm hu; simp [markB] at this; omega, fun hmm => by
          have := h.box n x hx hmm
          rw [hn, hb] at this
          simp at this⟩)
        rw [← h4] at this
        simp at this
    · left
      rw [h1, hb]
  · left
    rw [h.arr hb, if_pos ⟨d, hd, rfl⟩]
/-- the tags in between -/
structure Mg (Gx Gm0 Gm : Gh) (done bdone : List Nat) : Prop where
  own : ∀ b, (∀ n p, n ∈ done → Gx.own b ≠ .arr n p) → b ∉ bdone → Gm.own b = Gm0.own b
theorem Mg.refl (Gx Gm0 : Gh) : Mg Gx Gm0 Gm0 [] [] := ⟨fun _ _ _ => rfl⟩
theorem Mg.into {Gm0 Gm' : Gh} {done bdone ns : List Nat} (h : Mg Gx Gm0 Gm done bdone) (k : Into Gx Gm Gm' ns) : Mg Gx Gm0 Gm' (ns ++ done) bdone :=
  ⟨fun b h1 h2 => by
    rw [k.own b (fun n p hn => h1 n p (by simp [hn]))]
    exact h.own b (fun n p hn => h1 n p (by simp [hn])) h2⟩
/-- rows and what is read, as they come in at some point -/
structure Can (Gx Gm0 : Gh) (ds ds' : List (Nat × Nat)) (names blocks : List Nat) : Prop where
  free : ∀ n ∈ names, ∀ b p, Gx.own b = .arr n p → Gm0.own b = .out
  ptr : ∀ b ∈ blocks, Gm0.own b = .out
  pbox : ∀ b ∈ blocks, Gx.own b = .box
  read : hasMark ds = false → ∀ b, okD Gx ds' b → okD Gm0 ds b
  ap : ∀ n ∈ names, ∀ d ∈ ds', d.1 ≠ n
theorem into_at {Gm0 : Gh} {names blocks done bdone : List Nat} (hc : Can Gx Gm0 ds ds' names blocks) (hmg : Mg Gx Gm0 Gm done bdone) (hbd : ∀ b ∈ bdone, Gx.own b = .box) (hR : Rel w' Gm s sl) (hlive : ∀ b, Gx.own b ≠ .out → b < w'.heap.size) (hhdr : ∀ r p, ∃ a n c, Gx.H r p = .slice a n c)
    {ts : List LT} {vs : List Value} {k nb : Nat} {x : D} {os : List (Option Nat)} {dep : List (Nat × Nat)} (h : HandC w' Gx ds' ts vs k x 0 os) (hnd : (namesOf os ++ done).Nodup) (hin : ∀ n ∈ namesOf os, n ∈ names) (hdn : ∀ n ∈ done, n ∈ names)
    (hdep : (dep = ds ∧ hasMark ds = false) ∨ ds = [] ∨ noFzL ts = true) (hds : ∀ d, d ∈ dep → d.2 < s.ctr) (hsafe : ds = [] ∨ ∀ t ∈ ts, leafSafe t = true) :
    ∃ Gm', Mg Gx Gm0 Gm' (namesOf os ++ done) bdone ∧ Le w' Gm s w' Gm' (intoFrom dep nb k x 0 ts s).1 ∧ Rel w' Gm' (intoFrom dep nb k x 0 ts s).1 sl ∧ AOKs w' Gm' (intoFrom dep nb k x 0 ts s).1 (intoFrom dep nb k x 0 ts s).2 vs ∧ ∀ b, Gm'.B b = Gm.B b := by
  have hcur : ∀ b, (∀ n p, n ∈ done → Gx.own b ≠ .arr n p) → Gx.own b ≠ .box → Gm.own b = Gm0.own b := fun b h1 h2 => hmg.own b h1 (fun hm => h2 (hbd b hm))
  have hread : ∀ (dep : List (Nat × Nat)), (∀ b, okD Gx ds' b → okD Gm0 dep b) → ∀ b, okD Gx ds' b → okD Gm dep b := fun dep hd b hb => by
    have := hd b hb
    unfold okD at this ⊢
    rw [hcur b (fun n p hn hp => by
      rcases hb with hb | ⟨d, hd, p', hb⟩
      · rw [hp] at hb; simp at hb
      · rw [hp] at hb; injection hb with hb; exact hc.ap n (hdn n hn) d hd hb.symm) (fun hp => by
      rcases hb with hb | ⟨d, hd, p', hb⟩
      · rw [hp] at hb; simp at hb
      · rw [hp] at hb; simp at hb)]
    exact this
  obtain ⟨Gm', q1, q2, q3, q4⟩ := into_sound (nb := nb) (dep := dep) hlive hhdr h hR (List.nodup_append.1 hnd).1 (fun n hn => hc.ap n (hin n hn)) (fun n hn b p hb => by
      rw [hcur b (fun n' p' hn' hp' => by
        rw [hb] at hp'
        injection hp' with hp'
        exact nodup_app_not hnd n hn (hp' ▸ hn')) (by rw [hb]; simp)]
      exact hc.free n (hin n hn) b p hb)
    (by
      rcases hdep with ⟨h1, h2⟩ | h1 | h1
      · subst h1
        exact .inl (hread dep (fun b hb => hc.read h2 b hb))
      · subst h1
        refine .inl (hread dep (fun b hb => ?_))
        have := hc.read rfl b hb
        exact okD_sub (ds := []) (by simp) b this
      · exact .inr h1) hds (by
      rcases hsafe with h1 | h1
      · left
        subst h1
        intro b hb
        have := hread [] (fun b hb => hc.read rfl b hb) b (.inl hb)
        exact (okD_nil b).1 this
      · exact .inr h1)
  exact ⟨Gm', hmg.into q1, q2, q3, q4, q1.B⟩
/-- a variable gets other contents, that its cells hold already -/
theorem setVar (hR : Rel w Gm s sl) {b : Nat} {x : Bx} {l : List A} {cs : Array Value} {e : TypeId} {vs : List Value} (hx : look s.bx b = some x) (hb : w.heap[(Gm.B b).1]? = some (.cells cs e (0, 0))) (hsz : (Gm.B b).2 + l.length ≤ cs.size) (hl : AOKs w Gm s l vs)
    (hcs : ∀ (j : Nat) (v : Value), vs[j]? = some v → cs[(Gm.B b).2 + j]? = some v) : Le w Gm s w Gm { s with bx := putA s.bx b { uid := x.uid, lv := l } } ∧ Rel w Gm { s with bx := putA s.bx b { uid := x.uid, lv := l } } sl := by
  have hL := Le.bxPut (w := w) (G := Gm) hx l
  have hll := (AOKs_iff.1 hl).1
  obtain ⟨g1, g2, _⟩ := hR.boxes b x hx
  refine ⟨hL, hR.step hL (fun t v hv => AOK_mono hL _ _ (hR.slots t v hv)) (fun b' x' hx' => ?_) (fun b1 b2 x1 x2 e1 e2 hne => ?_) (fun r a ha => .inl ⟨ha, fun _ => rfl, fun b p h => ⟨h, rfl⟩⟩) hR.live hR.hdr⟩
  · simp only [look_putA] at hx'
    by_cases hbb : b' = b
    · rw [if_pos hbb] at hx'
      injection hx' with hx'
      subst hx'; subst hbb
      refine .inr ⟨g1, g2, CellsB.of_cells rfl ⟨cs, e, hb, hsz, fun j hj => ?_⟩⟩
      have hj' : j < vs.length := by simp only at hj; omega
      have hvj : vs[j]? = some vs[j] := by simp [hj']
      refine ⟨vs[j], hcs j _ hvj, AOK_mono hL _ _ ?_⟩
      exact (AOKs_iff.1 hl).2 j _ _ (by simp only at hj; simp [List.getD, hj]) hvj
    · rw [if_neg hbb] at hx'
      exact .inl ⟨hx', rfl, rfl, (hR.boxes b' x' hx').2.1⟩
  · simp only [look_putA] at e1 e2
    have hex : ∀ b' x', (if b' = b then some ({ uid := x.uid, lv := l } : Bx) else look s.bx b') = some x' → ∃ y, look s.bx b' = some y := fun b' x' hh => by
      split at hh
      · rename_i h; exact ⟨x, h ▸ hx⟩
      · exact ⟨x', hh⟩
    obtain ⟨y1, k1⟩ := hex b1 x1 e1
    obtain ⟨y2, k2⟩ := hex b2 x2 e2
    exact hR.apartB b1 b2 y1 y2 k1 k2 hne
theorem setFrom_all {l m : List A} (h : l.length = m.length) : setFrom m 0 l = l := by
  apply List.ext_getElem?
  intro j
  rw [setFrom_get l m 0 j (by omega)]
  by_cases hj : j < l.length
  · rw [if_pos (by omega)]; rfl
  · rw [if_neg (by omega), List.getElem?_eq_none (by omega), List.getElem?_eq_none (by omega)]
/-- what was lent comes back -/
theorem giveBack_sound {Gm0 : Gh} {names blocks : List Nat} (hc : Can Gx Gm0 ds ds' names blocks) (hlive : ∀ b, Gx.own b ≠ .out → b < w'.heap.size) (hhdr : ∀ r p, ∃ a n c, Gx.H r p = .slice a n c) :
    ∀ (ps : List (TypeId × PM)) {as : List A} {vs : List Value} {xs : List D} {n2 b2 done : List Nat} {Gm : Gh} {s s2 : St}, BackOk w' Gx ds' ps vs xs n2 b2 → AOKs w G st as vs → Le w G st w' Gm s → giveBack ps as xs s = some s2 → Rel w' Gm s sl → Mg Gx Gm0 Gm done [] →
      (∀ n, Gm.B n = G.B n) → (n2 ++ done).Nodup → (∀ n ∈ n2, n ∈ names) → (∀ n ∈ done, n ∈ names) → (ds = [] ∨ psSafe ps = true) → psOk ps = true →
      ∃ Gm2, Mg Gx Gm0 Gm2 (n2 ++ done) [] ∧ Le w' Gm s w' Gm2 s2 ∧ Rel w' Gm2 s2 sl ∧ ∀ n, Gm2.B n = G.B n
  | [], as, vs, xs, n2, b2, done, Gm, s, s2, ⟨h1, h2, h3, h4⟩, hv, hL, hg, hR, hmg, hB, _, _, _, _, _ => by
    subst h1; subst h2; subst h3
    have : as = [] := by
      cases as with
      | nil => rfl
      | cons a as => obtain ⟨v, vs', e, _⟩ := hv; simp at e
    subst this
    simp [giveBack, ok] at hg
    subst hg
    exact ⟨Gm, hmg, Le.refl w' Gm s, hR, hB⟩
  | p :: ps, [], vs, xs, n2, b2, done, Gm, s, s2, hb, hv, hL, hg, hR, hmg, hB, _, _, _, _, hok => by
    obtain ⟨t, m⟩ := p
    cases m <;> simp_all [giveBack, fail, psOk]
  | p :: ps, a :: as, vs, xs, n2, b2, done, Gm, s, s2, hb, hv, hL, hg, hR, hmg, hB, hnd, hin, hdn, hsafe, hok => by
    obtain ⟨v, vs', rfl, hv1, hv2⟩ := hv
    have hok' : psOk ps = true := by
      obtain ⟨t, m⟩ := p
      cases m <;> simp_all [psOk]
    by_cases hio : ∃ t el, p = (t, .io el)
    · obtain ⟨t, el, rfl⟩ := hio
      obtain ⟨v', vs'', x, xs', b, o, os, n3, b3, e1, e2, e3, h1, e4, e5, h2⟩ := hb
      injection e1 with e1a e1b
      subst e1a; subst e1b; subst e2; subst e4; subst e5
      simp only [giveBack] at hg
      obtain ⟨s1, g1, g2⟩ := bind_some hg
      have hsafe1 : ds = [] ∨ noFzL el = true := hsafe.imp id fun h => by simp only [psSafe, Bool.and_eq_true] at h; exact h.1
      have hsafe2 : ds = [] ∨ psSafe ps = true := hsafe.imp id fun h => by simp only [psSafe, Bool.and_eq_true] at h; exact h.2
      unfold backPtr at g1
      split at g1
      · rename_i n u
        obtain ⟨lv, g3, g4⟩ := bind_some g1
        obtain ⟨g5, g6⟩ := bif_some g4
        have hlen := Nat.eq_of_beq_eq_true g5
        obtain ⟨y, y1, y2, y3⟩ := boxOf_some g3
        -- where the variable lies
        have hvv : v = .pointer (some ⟨(G.B n).1, (G.B n).2 + 0, none⟩) := by
          obtain ⟨y0, k1, k2, _⟩ := hL.bx n y (by rw [y2]; exact hv1.1) y1
          exact hv1.2 y0 k1 (k2.trans y2)
        rw [e3] at hvv
        injection hvv with hvv
        injection hvv with hvv
        injection hvv with hb1 hb2
        subst hb1
        rw [Nat.add_zero] at hb2
        subst hb2
        obtain ⟨q1, cs, e, us, q2, q3, q4, q5⟩ := h1
        have hnd1 : (namesOf os ++ done).Nodup := by
          exact (List.Sublist.append (List.sublist_append_left (namesOf os) n3) (List.Sublist.refl done)).nodup hnd
        obtain ⟨Gm1, r1, r2, r3, r4, r5⟩ := into_at (nb := nm n 0) (dep := []) hc hmg (by simp) hR hlive hhdr q5 hnd1 (fun m hm => hin m (by simp [hm])) hdn (by
            rcases hsafe1 with h | h
            · exact .inr (.inl h)
            · exact .inr (.inr h)) (by simp) (by
            rcases hsafe1 with h | h
            · exact .inl h
            · right
              have : ∀ (ts : List LT), noFzL ts = true → ∀ t ∈ ts, leafSafe t = true := by
                intro ts
                induction ts with
                | nil => intro _ t ht; simp at ht
                | cons t0 ts ih =>
                  intro hn t ht
                  simp only [noFzL, Bool.and_eq_true] at hn
                  rcases List.mem_cons.1 ht with rfl | ht
                  · cases t with
                    | sl o e el => cases o with
                      | true => simpa [leafSafe, LT.noFz] using hn.1
                      | false => rfl
                    | _ => rfl
                  · exact ih hn.2 t ht
              exact this el h)
        unfold setBox at g6
        obtain ⟨lv2, g7, g8⟩ := bind_some g6
        obtain ⟨z, z1, z2, z3⟩ := boxOf_some g7
        obtain ⟨g9, g10⟩ := chk_true g8
        have hbx := (intoFrom_sl [] (nm n 0) el.length x el 0 s).2
        rw [hbx, y1] at z1
        injection z1 with z1
        subst z1
        rw [y3] at z3
        subst z3
        have hl4 := (AOKs_iff.1 r4).1
        have hl5 := q5.length
        rw [setFrom_all (by omega)] at g10
        have hyl : look (intoFrom [] (nm n 0) el.length x 0 el s).1.bx n = some y := by rw [hbx]; exact y1
        have hBn : Gm1.B n = G.B n := (r5 n).trans (hB n)
        obtain ⟨m1, m2⟩ := setVar (cs := cs) (e := e) r3 hyl (by rw [hBn]; exact q2) (by rw [hBn]; omega) r4 (by rw [hBn]; exact q4)
        rw [← y2] at g10
        rw [g10] at m1 m2
        have hnd2 : (n3 ++ (namesOf os ++ done)).Nodup := by
          refine List.Perm.nodup ?_ hnd
          rw [List.append_assoc]
          exact (List.perm_append_comm_assoc _ _ _)
        obtain ⟨Gm2, t1, t2, t3, t4⟩ := giveBack_sound hc hlive hhdr ps (done := namesOf os ++ done) h2 hv2 ((hL.trans r2).trans m1) g2 m2 r1 (fun n => (r5 n).trans (hB n)) hnd2 (fun m hm => hin m (by simp [hm])) (fun m hm => by
          rcases List.mem_append.1 hm with h | h
          · exact hin m (by simp [h])
          · exact hdn m h) hsafe2 hok'
        refine ⟨Gm2, ⟨fun b h1 h2 => t1.own b (fun n p hn => h1 n p ?_) h2⟩, (r2.trans m1).trans t2, t3, t4⟩
        simp only [List.mem_append] at hn ⊢
        rcases hn with h | h | h
        · exact .inl (.inr h)
        · exact .inl (.inl h)
        · exact .inr h
      · simp [fail] at g1
    · have hb' : ∃ v' vs'', v :: vs' = v' :: vs'' ∧ BackOk w' Gx ds' ps vs'' xs n2 b2 := by
        obtain ⟨t, m⟩ := p
        cases m with
        | io el => exact absurd ⟨t, el, rfl⟩ hio
        | _ => exact hb
      obtain ⟨v', vs'', e1, hb⟩ := hb'
      injection e1 with e1a e1b
      subst e1a; subst e1b
      have hg' : giveBack ps as xs s = some s2 := by
        obtain ⟨t, m⟩ := p
        cases m with
        | io el => exact absurd ⟨t, el, rfl⟩ hio
        | sio lv => simp [psOk] at hok
        | sub j leaf k => simp [psOk] at hok
        | clo f ms => simp [psOk] at hok
        | _ => cases xs <;> simpa [giveBack] using hg
      have hsafe2 : ds = [] ∨ psSafe ps = true := hsafe.imp id fun h => by
        obtain ⟨t, m⟩ := p
        cases m <;> simp_all [psSafe]
      exact giveBack_sound hc hlive hhdr ps hb hv2 hL hg' hR hmg hB hnd hin hdn hsafe2 hok'
end
end Go.Eng

namespace Go.Eng
section
variable {w w' : World} {G Gc Gx Gm : Gh} {st s : St} {slc sl : Nat → Option Value} {ds ds' : List (Nat × Nat)} {gs bn : List Nat}
/-- what is asked of a result, where something was read -/
def resFine (ds : List (Nat × Nat)) (m : RM) : Prop := ds = [] ∨ (hasMark ds = false ∧ resSafe [m] = true) ∨ resFlat [m] = true
theorem noFz_safe : ∀ (ts : List LT), noFzL ts = true → ∀ t ∈ ts, leafSafe t = true
  | [], _, t, ht => by simp at ht
  | t0 :: ts, hn, t, ht => by
    simp only [noFzL, Bool.and_eq_true] at hn
    rcases List.mem_cons.1 ht with rfl | ht
    · cases t with
      | sl o e el => cases o with
        | true => simpa [leafSafe, LT.noFz] using hn.1
        | false => rfl
      | _ => rfl
    · exact noFz_safe ts hn.2 t ht
theorem allL_mem {α : Type} {f : α → Bool} : ∀ {l : List α}, allL f l = true → ∀ a ∈ l, f a = true
  | [], _, _, h => absurd h (by simp)
  | b :: l, h, a, ha => by
    simp only [allL, Bool.and_eq_true] at h
    rcases List.mem_cons.1 ha with rfl | ha
    · exact h.1
    · exact allL_mem h.2 a ha
theorem resOne_sound {Gm0 : Gh} {names blocks done bdone : List Nat} (hc : Can Gx Gm0 ds ds' names blocks) (hlive : ∀ b, Gx.own b ≠ .out → b < w'.heap.size) (hhdr : ∀ r p, ∃ a n c, Gx.H r p = .slice a n c) {m : RM} {u : Value} {x : D} {n1 b1 : List Nat} {d c : Nat} {s2 : St} {a : A}
    (h : ResOk w' Gx ds' m u x n1 b1) (hr : resOne ds d c x m s = some (s2, a)) (hR : Rel w' Gm s sl) (hmg : Mg Gx Gm0 Gm done bdone) (hbd : ∀ b ∈ bdone, Gx.own b = .box) (hnd : (n1 ++ done).Nodup) (hbnd : (b1 ++ bdone).Nodup) (hin : ∀ n ∈ n1, n ∈ names) (hbin : ∀ b ∈ b1, b ∈ blocks)
    (hdn : ∀ n ∈ done, n ∈ names) (hds : ∀ p, p ∈ ds → p.2 < s.ctr) (hf : resFine ds m) :
    ∃ Gm2, Mg Gx Gm0 Gm2 (n1 ++ done) (b1 ++ bdone) ∧ Le w' Gm s w' Gm2 s2 ∧ Rel w' Gm2 s2 sl ∧ AOK w' Gm2 s2 a u ∧ ∀ n, n ≠ d → Gm2.B n = Gm.B n := by
  cases m with
  | val agg lv =>
    obtain ⟨rfl, vs, os, h1, h2, rfl⟩ := h
    simp only [resOne] at hr
    obtain ⟨a', h3, h4⟩ := bind_some hr
    simp [ok] at h4
    obtain ⟨rfl, rfl⟩ := h4
    obtain ⟨Gm2, k1, k2, k3, k4, k5⟩ := into_at (nb := nm d (64 * c)) (dep := ds) hc hmg hbd hR hlive hhdr h2 hnd hin hdn (by
        rcases hf with h | h | h
        · exact .inr (.inl h)
        · exact .inl ⟨rfl, h.1⟩
        · exact .inr (.inr (by simp only [resFlat, Bool.and_eq_true] at h; exact h.1))) hds (by
        rcases hf with h | h | h
        · exact .inl h
        · exact .inr (by have h2 := h.2; simp only [resSafe, Bool.and_eq_true] at h2; exact allL_mem h2.1)
        · exact .inr (by simp only [resFlat, Bool.and_eq_true] at h; exact noFz_safe _ h.1))
    exact ⟨Gm2, by simpa using k1, k2, k3, aggOf_sound h3 h1 k4, fun n _ => k5 n⟩
  | ptr el =>
    rcases h with ⟨h1, rfl, rfl, rfl⟩ | ⟨y, ys, b, o, os, h1, rfl, ⟨q1, cs, e, us, q2, q3, q4, q5⟩, rfl, rfl⟩
    · simp only [resOne, h1] at hr
      simp [ok] at hr
      obtain ⟨rfl, rfl⟩ := hr
      exact ⟨Gm, by simpa using hmg, Le.refl w' Gm s, hR, rfl, fun _ _ => rfl⟩
    · simp only [resOne, h1] at hr
      simp [ok] at hr
      obtain ⟨rfl, rfl⟩ := hr
      have hno : ds = [] ∨ noFzL el = true := by
        rcases hf with h | h | h
        · exact .inl h
        · exact .inr (by have h2 := h.2; simp only [resSafe, Bool.and_eq_true] at h2; exact h2.1)
        · exact .inr (by simp only [resFlat, Bool.and_eq_true] at h; exact h.1)
      obtain ⟨Gm2, k1, k2, k3, k4, k5⟩ := into_at (nb := nm d (64 * c)) (dep := []) hc hmg hbd hR hlive hhdr q5 hnd hin hdn (by
          rcases hno with h | h
          · exact .inr (.inl h)
          · exact .inr (.inr h)) (by simp) (hno.imp id (noFz_safe el))
      have hbb : b ∉ bdone := by simp only [List.singleton_append, List.nodup_cons] at hbnd; exact hbnd.1
      have hout : Gm2.own b = .out := by
        rw [k1.own b (fun n p hn hp => by rw [q1] at hp; simp at hp) hbb]
        exact hc.ptr b (hbin b (by simp))
      have hl4 := (AOKs_iff.1 k4).1
      have hl5 := q5.length
      obtain ⟨m1, m2, m3⟩ := var_sound (Gx := Gx) (d := d) (o := o) k3 hout q2 (by omega) k4 q4
      refine ⟨_, ⟨fun b' h1 h2 => ?_⟩, k2.trans m1, m2, m3, fun n hn => by simp [Gh.box, Gh.tag, hn, k5]⟩
      simp only [List.singleton_append, List.mem_cons, not_or] at h2
      have : ((Gm2.tag b .box).box d (b, o)).own b' = Gm2.own b' := by simp [Gh.box, Gh.tag, h2.1]
      rw [this]
      exact k1.own b' h1 h2.2
theorem resAll_sound {Gm0 : Gh} {names blocks : List Nat} (hc : Can Gx Gm0 ds ds' names blocks) (hlive : ∀ b, Gx.own b ≠ .out → b < w'.heap.size) (hhdr : ∀ r p, ∃ a n c, Gx.H r p = .slice a n c) {x : D} {d : Nat} :
    ∀ (ms : List RM) {us : List Value} {c : Nat} {n1 b1 done bdone : List Nat} {Gm : Gh} {s s2 : St} {l : List A}, RessOk w' Gx ds' ms us x c n1 b1 → resAll ds d x c ms s = some (s2, l) → Rel w' Gm s sl → Mg Gx Gm0 Gm done bdone → (∀ b ∈ bdone, Gx.own b = .box) → (n1 ++ done).Nodup → (b1 ++ bdone).Nodup →
      (∀ n ∈ n1, n ∈ names) → (∀ b ∈ b1, b ∈ blocks) → (∀ n ∈ done, n ∈ names) → (∀ p, p ∈ ds → p.2 < s.ctr) → (∀ m ∈ ms, resFine ds m) →
        ∃ Gm2, Mg Gx Gm0 Gm2 (n1 ++ done) (b1 ++ bdone) ∧ Le w' Gm s w' Gm2 s2 ∧ Rel w' Gm2 s2 sl ∧ AOKs w' Gm2 s2 l us ∧ ∀ n, n ≠ d → Gm2.B n = Gm.B n
  | [], us, c, n1, b1, done, bdone, Gm, s, s2, l, ⟨h1, h2, h3⟩, hr, hR, hmg, _, _, _, _, _, _, _, _ => by
    subst h1; subst h2; subst h3
    simp [resAll, ok] at hr
    obtain ⟨rfl, rfl⟩ := hr
    exact ⟨Gm, by simpa using hmg, Le.refl w' Gm s, hR, rfl, fun _ _ => rfl⟩
  | m :: ms, us, c, n1, b1, done, bdone, Gm, s, s2, l, ⟨u, us', na, nb, ba, bb, h1, h2, h3, h4, h5⟩, hr, hR, hmg, hbd, hnd, hbnd, hin, hbin, hdn, hds, hf => by
    subst h1; subst h2; subst h3
    simp only [resAll] at hr
    obtain ⟨q1, g1, g2⟩ := bind_some hr
    obtain ⟨q2, g3, g4⟩ := bind_some g2
    simp [ok] at g4
    obtain ⟨rfl, rfl⟩ := g4
    obtain ⟨s1, a1⟩ := q1
    obtain ⟨s3, l3⟩ := q2
    have hnd1 : (na ++ done).Nodup := (List.Sublist.append (List.sublist_append_left na nb) (List.Sublist.refl done)).nodup hnd
    have hbnd1 : (ba ++ bdone).Nodup := (List.Sublist.append (List.sublist_append_left ba bb) (List.Sublist.refl bdone)).nodup hbnd
    obtain ⟨Gm1, k1, k2, k3, k4, k5⟩ := resOne_sound hc hlive hhdr h4 g1 hR hmg hbd hnd1 hbnd1 (fun n hn => hin n (by simp [hn])) (fun b hb => hbin b (by simp [hb])) hdn hds (hf m (by simp))
    have hnd2 : (nb ++ (na ++ done)).Nodup := by
      refine List.Perm.nodup ?_ hnd
      rw [List.append_assoc]
      exact List.perm_append_comm_assoc _ _ _
    have hbnd2 : (bb ++ (ba ++ bdone)).Nodup := by
      refine List.Perm.nodup ?_ hbnd
      rw [List.append_assoc]
      exact List.perm_append_comm_assoc _ _ _
    have hbox1 : ∀ b ∈ ba ++ bdone, Gx.own b = .box := fun b hb => by
      rcases List.mem_append.1 hb with h | h
      · exact hc.pbox b (hbin b (by simp [h]))
      · exact hbd b h
    obtain ⟨Gm2, m1, m2, m3, m4, m5⟩ := resAll_sound hc hlive hhdr ms h5 g3 k3 k1 hbox1 hnd2 hbnd2 (fun n hn => hin n (by simp [hn])) (fun b hb => hbin b (by simp [hb])) (fun n hn => by
      rcases List.mem_append.1 hn with h | h
      · exact hin n (by simp [h])
      · exact hdn n h) (fun p hp => Nat.lt_of_lt_of_le (hds p hp) k2.ctr) (fun m hm => hf m (by simp [hm]))
    refine ⟨Gm2, ⟨fun b h1 h2 => m1.own b (fun n p hn => h1 n p ?_) (fun hb => h2 ?_)⟩, k2.trans m2, m3, ⟨u, us', rfl, AOK_mono m2 _ _ k4, m4⟩, fun n hn => (m5 n hn).trans (k5 n hn)⟩
    · simp only [List.mem_append] at hn ⊢
      rcases hn with h | h | h
      · exact .inl (.inr h)
      · exact .inl (.inl h)
      · exact .inr h
    · simp only [List.mem_append] at hb ⊢
      rcases hb with h | h | h
      · exact .inl (.inr h)
      · exact .inl (.inl h)
      · exact .inr h
end
end Go.Eng

namespace Go.Eng
section
variable {P : Program} {E : Env} {ctx : Ctx} {w w' : World} {G Gc Gx Gm : Gh} {st s : St} {sl : Nat → Option Value} {ds ds' : List (Nat × Nat)} {gs bn : List Nat}
/-! ### What is read, and when it was so -/
theorem outLeaf_dep (hR : Rel w G st sl) {t : LT} {a : A} {v : Value} {r : Out D} (h : outLeaf st t a = some r) (ha : AOK w G st a v) : ∀ d, d ∈ r.ds → d.2 < st.ctr := by
  unfold outLeaf at h
  split at h
  · obtain ⟨_, h2⟩ := bif_some h; simp [ok] at h2; subst h2; simp
  · simp [ok] at h; subst h; simp
  · simp [ok] at h; subst h; simp
  · simp [ok] at h; subst h; simp
  · obtain ⟨a', _, h2⟩ := bind_some h
    split at h2
    · obtain ⟨_, h4⟩ := bif_some h2; simp [ok] at h4; subst h4; simp
    · simp [fail] at h2
  · obtain ⟨_, h2⟩ := bif_some h; simp [ok] at h2; subst h2; exact ha.1
  · obtain ⟨q, h1, h2⟩ := bind_some h
    obtain ⟨_, h4⟩ := bif_some h2
    simp [ok] at h4
    subst h4
    intro d hd
    simp at hd
    subst hd
    exact (rowOf_fz hR ha h1).1
  · simp [fail] at h
theorem outLeaves_dep (hR : Rel w G st sl) : ∀ {lv : List LT} {l : List A} {vs : List Value} {r : Out (List D)}, outLeaves st lv l = some r → AOKs w G st l vs → ∀ d, d ∈ r.ds → d.2 < st.ctr
  | [], [], vs, r, h, _, d, hd => by simp [outLeaves, ok] at h; subst h; simp at hd
  | t :: ts, a :: l, vs, r, h, hv, d, hd => by
    simp only [outLeaves] at h
    obtain ⟨p, h1, h2⟩ := bind_some h
    obtain ⟨q, h3, h4⟩ := bind_some h2
    simp [ok] at h4
    subst h4
    obtain ⟨v, vs', _, hv1, hv2⟩ := hv
    simp only [List.mem_append] at hd
    rcases hd with hd | hd
    · exact outLeaf_dep hR h1 hv1 d hd
    · exact outLeaves_dep hR h3 hv2 d hd
  | [], _ :: _, _, _, h, _, _, _ => by simp [outLeaves, fail] at h
  | _ :: _, [], _, _, h, _, _, _ => by simp [outLeaves, fail] at h
theorem encL_dep (hR : Rel w G st sl) {lv : List LT} {l : List A} {vs : List Value} {r : List (Nat × Nat) × List D} (h : encL st lv l = some r) (hv : AOKs w G st l vs) : ∀ d, d ∈ r.1 → d.2 < st.ctr := by
  obtain ⟨p, h1, h2⟩ := bind_some h
  simp [ok] at h2
  subst h2
  exact outLeaves_dep hR h1 hv
theorem AOKs_takeN {l : List A} {vs : List Value} (h : AOKs w G st l vs) (n : Nat) : AOKs w G st (takeN n l) (vs.take n) := by
  obtain ⟨h1, h2⟩ := AOKs_iff.1 h
  refine AOKs_iff.2 ⟨by rw [takeN_eq]; simp [h1], fun j a v ha hv => ?_⟩
  rw [takeN_eq, List.getElem?_take] at ha
  rw [List.getElem?_take] at hv
  split at ha
  · rename_i hj
    rw [if_pos hj] at hv
    exact h2 j a v ha hv
  · simp at ha
theorem AOKs_dropN {l : List A} {vs : List Value} (h : AOKs w G st l vs) (n : Nat) : AOKs w G st (dropN n l) (vs.drop n) := by
  obtain ⟨h1, h2⟩ := AOKs_iff.1 h
  refine AOKs_iff.2 ⟨by rw [dropN_eq]; simp [h1], fun j a v ha hv => ?_⟩
  rw [dropN_eq, List.getElem?_drop] at ha
  rw [List.getElem?_drop] at hv
  exact h2 _ a v ha hv
theorem leavesOf_ok {a : A} {v : Value} (h : AOK w G st a v) : ∃ vs, AOKs w G st (leavesOf a) vs := by
  cases a with
  | agg xs => obtain ⟨vs, _, k2⟩ := h; exact ⟨vs, k2⟩
  | _ => exact ⟨[v], v, [], rfl, h, rfl⟩
theorem arg_dep (hR : Rel w G st sl) {all : List A} {p : TypeId × PM} {a : A} {v : Value} {u : Arg} (h : argA E st all p a = some u) (ha : AOK w G st a v) (hpl : psOk [p] = true) : (∀ d, d ∈ u.ds → d.2 < st.ctr) ∧ (lendsNone [p] = true → u.os = []) := by
  obtain ⟨t, m⟩ := p
  have hctr : ∀ {b u' l}, boxOf st b u' = some l → 0 < st.ctr ∧ ∃ vs, AOKs w G st l vs := fun {b u' l} hb => by
    obtain ⟨x, k1, k2, k3⟩ := boxOf_some hb
    subst k3
    obtain ⟨_, _, vs, _, _, k4, _⟩ := box_cells hR k1 (boxOf_mp hb k1)
    exact ⟨Nat.lt_of_le_of_lt (Nat.zero_le _) (hR.boxes b x k1).1, vs, k4⟩
  cases m with
  | ro =>
    simp only [argA] at h
    obtain ⟨ti, h1, h2⟩ := bind_some h
    obtain ⟨q, h3, h4⟩ := bind_some h2
    simp [ok] at h4
    subst h4
    refine ⟨?_, fun _ => rfl⟩
    unfold encA at h3
    split at h3
    · unfold encSb at h3
      obtain ⟨te, _, h5⟩ := bind_some h3
      obtain ⟨l, h6, h7⟩ := bind_some h5
      obtain ⟨_, h8⟩ := bif_some h7
      obtain ⟨qq, h9, h10⟩ := bind_some h8
      simp [ok] at h10
      subst h10
      obtain ⟨c1, vs, c2⟩ := hctr h6
      intro d hd
      simp only [List.mem_cons] at hd
      rcases hd with rfl | hd
      · exact c1
      · exact encL_dep hR h9 (AOKs_takeN c2 _) d hd
    · obtain ⟨_, h5⟩ := bif_some h3
      obtain ⟨qq, h6, h7⟩ := bind_some h5
      simp [ok] at h7
      subst h7
      obtain ⟨vs, c2⟩ := leavesOf_ok ha
      exact encL_dep hR h6 c2
  | rp =>
    simp only [argA, argPtr] at h
    obtain ⟨e, h1, h2⟩ := bind_some h
    obtain ⟨te, h3, h4⟩ := bind_some h2
    unfold argRp at h4
    split at h4
    · obtain ⟨_, h5⟩ := bif_some h4; simp [ok] at h5; subst h5; exact ⟨ha.1, fun _ => rfl⟩
    · obtain ⟨l, h5, h6⟩ := bind_some h4
      obtain ⟨q, h7, h8⟩ := bind_some h6
      simp [ok] at h8
      subst h8
      obtain ⟨c1, vs, c2⟩ := hctr h5
      refine ⟨fun d hd => ?_, fun _ => rfl⟩
      simp only [List.mem_cons] at hd
      rcases hd with rfl | hd
      · exact c1
      · exact encL_dep hR h7 (AOKs_takeN (AOKs_dropN c2 _) _) d hd
    · rename_i r u' p k i
      obtain ⟨q, h5, h6⟩ := bind_some h4
      obtain ⟨_, h7⟩ := bif_some h6
      simp [ok] at h7
      subst h7
      refine ⟨fun d hd => ?_, fun _ => rfl⟩
      simp at hd
      subst hd
      obtain ⟨a0, v0, _, _, v1⟩ := rowOf_some h5
      rw [v1]
      exact (hR.arrs r a0 v0.1).2.1
    · simp [fail] at h4
  | fnv f =>
    cases a <;> simp only [argA, fail] at h <;> (try cases h)
    rename_i g caps
    cases caps with
    | cons _ _ => simp [argA, fail] at h
    | nil =>
      simp only [argA] at h
      obtain ⟨_, h2⟩ := bif_some (s := "") h
      simp [ok] at h2
      subst h2
      exact ⟨by simp, fun _ => rfl⟩
  | mv =>
    cases a <;> simp only [argA, fail] at h <;> (try cases h)
    · exact ⟨by simp, fun hh => by simp [lendsNone] at hh⟩
    · rename_i r u' p
      cases p with
      | cons _ _ => simp [argA, fail] at h
      | nil =>
        simp only [argA] at h
        obtain ⟨q, h1, h2⟩ := bind_some h
        obtain ⟨ti, te, h3, h4, h5⟩ := tyE_some h2
        obtain ⟨_, h7⟩ := bif_some (s := "") h5
        simp [ok] at h7
        subst h7
        exact ⟨by simp, fun hh => by simp [lendsNone] at hh⟩
  | io el =>
    simp only [argA] at h
    unfold argPtr at h
    split at h
    · rename_i hh; simp at hh
    · rename_i el' n u' hel
      injection hel with hel
      subst hel
      obtain ⟨l, h1, h2⟩ := bind_some h
      obtain ⟨q, h3, h4⟩ := bind_some h2
      simp [ok] at h4
      subst h4
      obtain ⟨_, vs, c2⟩ := hctr h1
      exact ⟨outLeaves_dep hR h3 c2, fun hh => by simp [lendsNone] at hh⟩
    · simp [fail] at h
  | sio lv => simp [psOk] at hpl
  | sub j leaf k => simp [psOk] at hpl
  | clo f ms => simp [psOk] at hpl
theorem psOk_split {p : TypeId × PM} {ps : List (TypeId × PM)} (h : psOk (p :: ps) = true) : psOk [p] = true ∧ psOk ps = true := by
  obtain ⟨t, m⟩ := p
  cases m <;> simp_all [psOk]
theorem lendsNone_split {p : TypeId × PM} {ps : List (TypeId × PM)} (h : lendsNone (p :: ps) = true) : lendsNone [p] = true ∧ lendsNone ps = true := by
  obtain ⟨t, m⟩ := p
  cases m <;> simp_all [lendsNone]
theorem args_dep (hR : Rel w G st sl) {all : List A} : ∀ (ps : List (TypeId × PM)) {as : List A} {vs : List Value} {u : List Nat × List Nat × List (Nat × Nat) × List D}, argsA E st all ps as = some u → AOKs w G st as vs → psOk ps = true → (∀ d, d ∈ u.2.2.1 → d.2 < st.ctr) ∧ (lendsNone ps = true → u.1 = [])
  | [], [], vs, u, h, _, _ => by simp [argsA, ok] at h; subst h; exact ⟨by simp, fun _ => rfl⟩
  | p :: ps, a :: as, vs, u, h, hv, hp => by
    simp only [argsA] at h
    obtain ⟨u1, h1, h2⟩ := bind_some h
    obtain ⟨u2, h3, h4⟩ := bind_some h2
    simp [ok] at h4
    subst h4
    obtain ⟨v, vs', _, hv1, hv2⟩ := hv
    obtain ⟨p1, p2⟩ := psOk_split hp
    obtain ⟨g1, g2⟩ := arg_dep hR h1 hv1 p1
    obtain ⟨g3, g4⟩ := args_dep hR ps h3 hv2 p2
    refine ⟨fun d hd => ?_, fun hl => ?_⟩
    · simp only [List.mem_append] at hd
      exact hd.elim (g1 d) (g3 d)
    · obtain ⟨l1, l2⟩ := lendsNone_split hl
      simp [g2 l1, g4 l2]
  | [], _ :: _, _, _, h, _, _ => by simp [argsA, fail] at h
  | _ :: _, [], _, _, h, _, _ => by simp [argsA, fail] at h
/-! ### Variables that were lent -/
theorem back_box (hR : Rel w G st sl) {all : List A} : ∀ (ps : List (TypeId × PM)) {as : List A} {vs : List Value} {u : List Nat × List Nat × List (Nat × Nat) × List D} {xs : List D} {n2 b2 : List Nat}, argsA E st all ps as = some u → AOKs w G st as vs → BackOk w' Gx ds' ps vs xs n2 b2 →
    ∀ n, n ∈ lentBs ps as → ∃ x, look st.bx n = some x ∧ Gx.own (G.B n).1 = .box ∧ (G.B n).1 ∈ b2 ∧ ∃ cs e, w'.heap[(G.B n).1]? = some (.cells cs e (0, 0)) ∧ (G.B n).2 + x.lv.length ≤ cs.size
  | [], as, vs, u, xs, n2, b2, _, _, _, n, hn => by cases as <;> simp [lentBs] at hn
  | p :: ps, [], vs, u, xs, n2, b2, _, _, _, n, hn => by simp [lentBs] at hn
  | p :: ps, a :: as, vs, u, xs, n2, b2, h, hv, hb, n, hn => by
    simp only [argsA] at h
    obtain ⟨u1, h1, h2⟩ := bind_some h
    obtain ⟨u2, h3, h4⟩ := bind_some h2
    simp [ok] at h4
    subst h4
    obtain ⟨v, vs', rfl, hv1, hv2⟩ := hv
    obtain ⟨t, m⟩ := p
    cases m with
    | io el =>
      obtain ⟨v', vs'', x', xs', b, o, os, n3, b3, e1, e2, e3, hq, e4, e5, hrest⟩ := hb
      injection e1 with e1a e1b
      subst e1a; subst e1b; subst e2; subst e4; subst e5
      simp only [lentBs, List.mem_append] at hn
      rcases hn with hn | hn
      · cases a <;> simp [lentB] at hn
        rename_i n' u' off
        subst hn
        simp only [argA] at h1
        unfold argPtr at h1
        split at h1
        · rename_i hh; simp at hh
        · rename_i el' n' u'' hel ha
          injection hel with hel
          subst hel
          injection ha with ha1 ha2 ha3
          subst ha1; subst ha2; subst ha3
          obtain ⟨l, h5, h6⟩ := bind_some h1
          obtain ⟨q, h7, _⟩ := bind_some h6
          obtain ⟨x, m1, m2, m3⟩ := boxOf_some h5
          subst m3
          have hvv := hv1.2 x m1 m2
          rw [e3] at hvv
          injection hvv with hvv
          injection hvv with hvv
          injection hvv with hb1 hb2
          subst hb1
          rw [Nat.add_zero] at hb2
          subst hb2
          obtain ⟨q1, cs, e, us, q2, q3, _⟩ := hq
          have := outLeaves_len h7
          exact ⟨x, m1, q1, by simp, cs, e, q2, by omega⟩
        · simp [fail] at h1
      · obtain ⟨x, g1, g2, g3, g4⟩ := back_box hR ps h3 hv2 hrest n hn
        exact ⟨x, g1, g2, by simp [g3], g4⟩
    | _ =>
      obtain ⟨v', vs'', e1, hrest⟩ := hb
      injection e1 with e1a e1b
      subst e1a; subst e1b
      have hn' : n ∈ lentBs ps as := by
        simp only [lentBs, List.mem_append] at hn
        rcases hn with hn | hn
        · cases a <;> simp [lentB] at hn
        · exact hn
      exact back_box hR ps h3 hv2 hrest n hn'
theorem res_box {m : RM} {u : Value} {x : D} {n1 b1 : List Nat} (h : ResOk w' Gx ds' m u x n1 b1) : ∀ b ∈ b1, Gx.own b = .box := by
  cases m with
  | val agg lv => obtain ⟨rfl, _⟩ := h; simp
  | ptr el =>
    rcases h with ⟨_, _, _, rfl⟩ | ⟨y, ys, b, o, os, _, _, hq, _, rfl⟩
    · simp
    · intro b' hb'; simp at hb'; subst hb'; exact hq.1
theorem ress_box : ∀ {ms : List RM} {us : List Value} {x : D} {c : Nat} {n1 b1 : List Nat}, RessOk w' Gx ds' ms us x c n1 b1 → ∀ b ∈ b1, Gx.own b = .box
  | [], _, _, _, _, _, ⟨_, _, h⟩, b, hb => by subst h; simp at hb
  | m :: ms, _, _, _, _, _, ⟨u, us', na, nb, ba, bb, _, _, h3, h4, h5⟩, b, hb => by
    subst h3
    simp only [List.mem_append] at hb
    exact hb.elim (res_box h4 b) (ress_box h5 b)
theorem outs_box {rs : List RM} {v : Value} {x : D} {n1 b1 : List Nat} (h : OutsOk w' Gx ds' rs v x n1 b1) : ∀ b ∈ b1, Gx.own b = .box := by
  unfold OutsOk at h
  split at h
  · obtain ⟨_, _, rfl⟩ := h; simp
  · exact res_box h
  · obtain ⟨us, _, h⟩ := h; exact ress_box h
theorem nodup_sound : ∀ {l : List Nat}, nodup l = true → l.Nodup
  | [], _ => List.nodup_nil
  | m :: l, h => by
    simp only [nodup, Bool.and_eq_true, Bool.not_eq_true'] at h
    refine List.nodup_cons.2 ⟨fun hm => ?_, nodup_sound h.2⟩
    rw [has_iff.2 hm] at h
    exact absurd h.1 (by simp)
theorem apart_sound {l : List Nat} : ∀ {m : List (Nat × Nat)}, apart l m = true → ∀ n ∈ l, ∀ d ∈ m, d.1 ≠ n
  | [], _, _, _, d, hd => by simp at hd
  | (r, v) :: m, h, n, hn, d, hd => by
    simp only [apart, Bool.and_eq_true, Bool.not_eq_true'] at h
    rcases List.mem_cons.1 hd with rfl | hd
    · intro e
      simp only at e
      subst e
      rw [has_iff.2 hn] at h
      simp at h
    · exact apart_sound h.2 n hn d hd
theorem keeps_fine {s : Sig} {ds : List (Nat × Nat)} (h : keepsNone s ds = true) : (ds = [] ∨ psSafe s.ps = true) ∧ ∀ m ∈ s.rs, resFine ds m := by
  cases ds with
  | nil => exact ⟨.inl rfl, fun _ _ => .inl rfl⟩
  | cons p l =>
    simp only [keepsNone, Bool.and_eq_true] at h
    refine ⟨.inr h.2, fun m hm => ?_⟩
    have hflat : ∀ (rs : List RM), resFlat rs = true → ∀ m ∈ rs, resFlat [m] = true := by
      intro rs
      induction rs with
      | nil => intro _ m hm; simp at hm
      | cons m0 rs ih =>
        intro hh m hm
        rcases List.mem_cons.1 hm with rfl | hm
        · cases m <;> simp_all [resFlat]
        · exact ih (by cases m0 <;> simp_all [resFlat]) m hm
    have hsafe : ∀ (rs : List RM), resSafe rs = true → ∀ m ∈ rs, resSafe [m] = true := by
      intro rs
      induction rs with
      | nil => intro _ m hm; simp at hm
      | cons m0 rs ih =>
        intro hh m hm
        rcases List.mem_cons.1 hm with rfl | hm
        · cases m <;> simp_all [resSafe]
        · exact ih (by cases m0 <;> simp_all [resSafe]) m hm
    cases hmk : hasMark (p :: l) with
    | true => rw [hmk] at h; exact .inr (.inr (hflat _ h.1 m hm))
    | false => rw [hmk] at h; exact .inr (.inl ⟨hmk, hsafe _ h.1 m hm⟩)
theorem slots_vs (vs : List Value) : slotsFrom (fun _ => none) 0 vs = fun i => vs[i]? := by
  funext t
  rw [slotsFrom_get]
  by_cases h : t < vs.length
  · rw [if_pos (by omega)]; rfl
  · rw [if_neg (by omega), List.getElem?_eq_none (by omega)]
/-- what is asked of a function that sorts a row where it stands -/
def SrtOk (P : Program) (ctx : Ctx) (m : Nat) (s : Sig) (e : TypeId) (el : List LT) (f : Nat) : Prop :=
  ∀ data q x, ctx m [.l data, .l []] = some (q, [x]) → s.rs = [] → ∀ {w : World} {G : Gh} {st : St} {sl : Nat → Option Value} {r : Nat} {a : Arr}, Rel w G st sl → look st.ar r = some a → a.stale = [] → a.e = e → a.el = el → a.data = data →
    Calls P s.fn ⟨[G.H r [], .func (.func f) #[] #[]]⟩ w (fun en w' => en = .returned (.tuple #[]) ∧ w'.os = w.os ∧ w'.tape = w.tape ∧ w'.output = w.output ∧ w.heap.size ≤ w'.heap.size ∧ (∀ b, b < w.heap.size → G.own b ≠ .arr r [] → w'.heap[b]? = w.heap[b]?) ∧ Row w' G [] r e el [] (G.H r []) x.els)
theorem Row_flat {r : Nat} {e : TypeId} {el : List LT} {v : Value} {data : List D} (hf : flatLT el = true) (h : Row w G [] r e el [] v data) {w2 : World} {G2 : Gh} (h2 : ∀ b, G.own b = .arr r [] → G2.own b = .arr r [] ∧ w2.heap[b]? = w.heap[b]?) : Row w2 G2 [] r e el [] v data := by
  obtain ⟨a, n, c, h3, h4, h5, h6, h7, h8⟩ := h
  refine ⟨a, n, c, h3, h4, h5, h6, h7, fun ad ha => ?_⟩
  obtain ⟨g1, g2, cs, e0, g3, g4, g5⟩ := h8 ad ha
  obtain ⟨k1, k2⟩ := h2 ad.block g2
  refine ⟨g1, k1, cs, e0, k2.trans g3, g4, fun i hi => ArC_of el 0 (fun j t ht => ?_)⟩
  obtain ⟨v', m1, m2⟩ := ArC_get (g5 i hi) j t ht
  refine ⟨v', (cell_of_heap k2 _).trans m1, ?_⟩
  have hn := flatLT_get hf j t ht
  cases t with
  | int k => exact m2
  | bool => exact m2
  | str => exact m2
  | sl o e' el' => exact absurd rfl (hn o e' el')
theorem sort_sound {m : Nat} {s : Sig} {e : TypeId} {el : List LT} {f d : Nat} (hs : SrtOk P ctx m s e el f) (hrs : s.rs = []) {as : List A} {vs : List Value} {st' : St} (hR : Rel w G st sl) (hv : AOKs w G st as vs)
    (h : ((sortArg st e el f as).bind fun q => (ofO "sort: answer" (ctx m [.l q.2.data, .l []])).bind (sortEnd st d q.1 q.2)) = some st') :
    Calls P s.fn ⟨vs⟩ w (fun e w' => ∃ v G', e = .returned v ∧ Fr w G w' G' ∧ Le w G st w' G' st' ∧ Rel w' G' st' (updV sl d v)) := by
  obtain ⟨q, h1, h2⟩ := bind_some h
  obtain ⟨ans, h3, h4⟩ := bind_some h2
  simp only [ofO] at h3
  unfold sortArg at h1
  split at h1
  · rename_i r u g
    obtain ⟨h5, h6⟩ := bif_some h1
    simp only [Bool.and_eq_true] at h5
    have := Nat.eq_of_beq_eq_true h5.1
    subst this
    obtain ⟨a, h7, h8⟩ := bind_some h6
    split at h8
    · rename_i hst
      obtain ⟨h9, h10⟩ := bif_some h8
      simp [ok] at h10
      subst h10
      simp only [Bool.and_eq_true] at h9
      have e1 := Nat.eq_of_beq_eq_true h9.1
      have e2 := beqL_eq _ _ h9.2
      have hV := arrOf_some h7
      obtain ⟨v1, vs1, rfl, hv1, v2, vs2, rfl, hv2, hv3⟩ := hv
      have : vs2 = [] := hv3
      subst this
      obtain ⟨k1, _, _⟩ := hv1.2 a hV
      obtain ⟨us, k2, k3⟩ := hv2
      have : us = [] := k3
      subst this
      subst k1; subst k2
      unfold sortEnd at h4
      split at h4
      · rename_i y x
        simp [ok] at h4
        subst h4
        refine Calls.mono (hs a.data y x h3 hrs hR hV.1 hst e1 e2.symm rfl) fun en w' he => ?_
        obtain ⟨rfl, o1, o2, o3, o4, o5, o6⟩ := he
        obtain ⟨f1, f2, f3⟩ := reData_sound (data := x.els) hR hV.1 hst ⟨o1, o2, o3⟩ o4 o5 (by rw [e1, ← e2]; exact o6)
        exact ⟨_, G, rfl, f1, f2.trans (Le.put _ _ _ _ _), f3.put ⟨[], rfl, rfl⟩⟩
      · simp [fail] at h4
    · simp [fail] at h8
  · simp [fail] at h1
/-- what the caller makes of a callee's return -/
theorem call_sound (hE : EnvOk P E) {m : Nat} {s : Sig} (hf : psOk s.ps = true → FnOk P E ctx m s) (hsr : ∀ e el f, sortPat s.ps = some (e, el, f) → s.rs = [] ∧ SrtOk P ctx m s e el f) {d : Nat} (hd5 : d < 500 ∨ 600 ≤ d) {as : List A} {vs : List Value} {st' : St} (hR : Rel w G st sl) (hv : AOKs w G st as vs) (h : callS E ctx st d m s as = some st') :
    Calls P s.fn ⟨vs⟩ w (fun e w' => ∃ v G', e = .returned v ∧ (lendsNone s.ps = true → Ext w w') ∧ Fr w G w' G' ∧ Le w G st w' G' st' ∧ Rel w' G' st' (updV sl d v)) := by
  unfold callS at h
  cases hp : sortPat s.ps with
  | some q =>
    obtain ⟨e, el, f⟩ := q
    rw [hp] at h
    obtain ⟨h1, h2⟩ := hsr e el f hp
    refine Calls.mono (sort_sound h2 h1 hR hv h) fun en w' he => ?_
    obtain ⟨v, G', g1, g2, g3, g4⟩ := he
    refine ⟨v, G', g1, fun hl => ?_, g2, g3, g4⟩
    unfold sortPat at hp
    split at hp
    · rename_i hps; rw [hps] at hl; simp [lendsNone] at hl
    · simp at hp
  | none =>
  rw [hp] at h
  simp only at h
  obtain ⟨u, h1, h2⟩ := bind_some h
  obtain ⟨hc, h3⟩ := bif_some h2
  obtain ⟨r, h4, h5⟩ := bind_some h3
  obtain ⟨s2, h6, h7⟩ := bind_some h5
  simp only [Bool.and_eq_true] at hc
  obtain ⟨hps, hnd, hap, hkeep⟩ := hc
  have hnd := nodup_sound hnd
  have hap := apart_sound hap
  simp only [ofO] at h4
  obtain ⟨os, gs, ds, xs⟩ := u
  simp only at h4 h6 h7 hnd hap hkeep
  obtain ⟨st0, hent, hcon⟩ := hf hps xs r h4
  obtain ⟨hlen, Gc, k1, k2, k3, k4⟩ := args_sound hE hR s.ps (stk := st00) (os0 := []) (gs0 := []) (bn0 := []) h1 hv (ds := ds) (fun d hd => hd) (by simpa using hnd) hap hps (by simp) (by simp) (base_rel (ds := ds) hR) (base_imp G st (fun n x hx => (hR.boxes n x hx).2.1) ds) hent
  simp only [List.append_nil] at k2 k3
  rw [slots_vs] at k1
  obtain ⟨hdep, hlend⟩ := args_dep hR s.ps h1 hv hps
  simp only at hdep hlend
  refine Calls.mono (hcon w Gc vs hlen k1) fun e w' he => ?_
  obtain ⟨v, Gx, rfl, hF, hP⟩ := he
  obtain ⟨ds', n1, b1, n2, b2, o1, o2, o3, o4, o5⟩ := hP.ex
  have hbb := back_box (w' := w') (Gx := Gx) (ds' := ds') hR s.ps h1 hv o2
  have hret : Ret w G Gc st ds gs (lentBs s.ps as) w' Gx := ⟨k2, hF, ⟨sl, hR⟩, fun n x hx hn => by obtain ⟨x', g1, g2, _⟩ := hbb n hn; exact g2⟩
  obtain ⟨l1, l2⟩ := stage1 (ds' := ds') hR k2 hF hP.live rfl (fun n x hx hn => by
    obtain ⟨x', g1, _, _, g4⟩ := hbb n hn
    rw [hx] at g1
    injection g1 with g1
    subst g1
    exact g4)
  have hobox := outs_box o1
  have hcan : Can Gx (G.merge Gx w.heap.size gs ds') ds ds' (n2 ++ n1) b1 := by
    refine ⟨fun n hn b p hb => hret.free hb (fun d hd => o5 n hn d hd), fun b hb => hret.ptr (hobox b hb) (fun n x hx hn hm => ?_), hobox, fun hm b hb => hret.read hm hb, fun n hn d hd => o5 n hn d hd⟩
    obtain ⟨_, _, _, g3, _⟩ := hbb n hm
    rw [hn] at g3
    exact nodup_app_not o4 b g3 hb
  obtain ⟨f1, f2⟩ := keeps_fine hkeep
  obtain ⟨e1, e2, e3⟩ := goneAll_same gs st
  obtain ⟨e4, e5, e6, _⟩ := blanks_eq s.ps as (goneAll gs st)
  have l3 : Rel w' (G.merge Gx w.heap.size gs ds') (blanks s.ps as (goneAll gs st)) sl := l2.withSlots fun t v' hv' => by
    rw [e5, e2]
    exact AOK_mono l1 _ _ (hR.slots t v' hv')
  have hn2 : (n2 ++ []).Nodup := by simpa using (List.nodup_append.1 o3).1
  obtain ⟨Gm2, m1, m2, m3, m4⟩ := giveBack_sound hcan hP.live hP.hdr s.ps (done := []) o2 hv l1 h6 l3 (Mg.refl _ _) (fun _ => rfl) hn2 (fun n hn => by simp [hn]) (by simp) f1 hps
  simp only [List.append_nil] at m1
  have hn3 : (n1 ++ n2).Nodup := List.Perm.nodup List.perm_append_comm o3
  have hb3 : (b1 ++ []).Nodup := by simpa using (List.nodup_append.1 o4).2.1
  have hds2 : ∀ p, p ∈ ds → p.2 < s2.ctr := fun p hp => Nat.lt_of_lt_of_le (hdep p hp) (l1.trans m2).ctr
  -- the end, whatever the results
  have fin : ∀ (Gf : Gh) (sf : St) (a : A), Mg Gx (G.merge Gx w.heap.size gs ds') Gf (n1 ++ n2) (b1 ++ []) → Le w' Gm2 s2 w' Gf sf → Rel w' Gf sf sl → AOK w' Gf sf a v → (∀ n, n ≠ d → Gf.B n = Gm2.B n) →
      (lendsNone s.ps = true → Ext w w') ∧ Fr w G w' Gf ∧ Le w G st w' Gf (sf.put d a) ∧ Rel w' Gf (sf.put d a) (updV sl d v) := by
    intro Gf sf a q1 q2 q3 q4 q5
    refine ⟨fun hl => ⟨hF.size, fun b hb => ?_⟩, ⟨hF.os, hF.tape, hF.output, hF.size, fun b hb ho => ?_, fun n hn1 hn2 => ?_⟩, ((l1.trans m2).trans q2).trans (Le.put _ _ _ _ _), q3.put q4⟩
    · have hos := hlend hl
      subst hos
      have hgs : gs = [] := List.eq_nil_iff_forall_not_mem.2 fun r hr => by simpa using k3 r hr
      have hbn : lentBs s.ps as = [] := List.eq_nil_iff_forall_not_mem.2 fun n hn => by simpa using k4 n hn
      refine (hF.block b hb (Go.Eng.unlent hR k2 (fun r p _ => by rw [hgs]; simp) (fun n x _ _ => by rw [hbn]; simp))).1
    · have hGc : Gc.own b = G.own b := by
        rcases ho with ho | ho
        · rw [ho]; exact k2.out b ho
        · rw [ho]; exact k2.fz b ho
      obtain ⟨t1, t2⟩ := hF.block b hb (by rw [hGc]; exact ho)
      refine ⟨t1, ?_⟩
      have hx : Gx.own b = G.own b := t2.trans hGc
      rw [q1.own b (fun n p _ hp => by rw [hx] at hp; rcases ho with ho | ho <;> rw [ho] at hp <;> simp at hp) (fun hm => by
        have := hobox b (by simpa using hm)
        rw [hx] at this
        rcases ho with ho | ho <;> rw [ho] at this <;> simp at this)]
      exact merge_keep hb (fun r p hp => by rcases ho with ho | ho <;> rw [ho] at hp <;> simp at hp)
    · rw [q5 n (by omega), m4 n]
  cases hrs : s.rs with
  | nil =>
    rw [hrs] at o1 h7
    obtain ⟨rfl, rfl, rfl⟩ := o1
    simp [ok] at h7
    subst h7
    exact ⟨_, Gm2, rfl, fin Gm2 s2 (.tup []) (by simpa using m1) (Le.refl _ _ _) m3 ⟨[], rfl, rfl⟩ (fun _ _ => rfl)⟩
  | cons m0 ms =>
    cases ms with
    | nil =>
      rw [hrs] at o1 h7 f2
      simp only [OutsOk] at o1
      obtain ⟨q, h8, h9⟩ := bind_some h7
      simp [ok] at h9
      subst h9
      obtain ⟨sf, a⟩ := q
      obtain ⟨Gf, q1, q2, q3, q4, q5⟩ := resOne_sound hcan hP.live hP.hdr o1 h8 m3 m1 (by simp) hn3 hb3 (fun n hn => by simp [hn]) (fun b hb => hb) (fun n hn => by simp [hn]) hds2 (f2 m0 (by simp))
      exact ⟨v, Gf, rfl, fin Gf sf a q1 q2 q3 q4 q5⟩
    | cons m1' ms =>
      rw [hrs] at o1 h7 f2
      simp only [OutsOk] at o1
      obtain ⟨us, rfl, o1⟩ := o1
      obtain ⟨q, h8, h9⟩ := bind_some h7
      simp [ok] at h9
      subst h9
      obtain ⟨sf, l⟩ := q
      obtain ⟨Gf, q1, q2, q3, q4, q5⟩ := resAll_sound hcan hP.live hP.hdr (m0 :: m1' :: ms) o1 h8 m3 m1 (by simp) hn3 hb3 (fun n hn => by simp [hn]) (fun b hb => hb) (fun n hn => by simp [hn]) hds2 f2
      exact ⟨_, Gf, rfl, fin Gf sf (.tup l) q1 q2 q3 ⟨us, rfl, q4⟩ q5⟩
end
end Go.Eng

namespace Go.Eng
section
variable {P : Program} {E : Env} {ctx : Ctx} {w w' : World} {G Gc Gx Gm : Gh} {st : St} {sl : Nat → Option Value} {ds ds' : List (Nat × Nat)}
theorem blanks_nil : ∀ (ps : List (TypeId × PM)) (as : List A) (st : St), lentBs ps as = [] → blanks ps as st = st
  | [], as, st, _ => by cases as <;> rfl
  | p :: ps, [], st, _ => by obtain ⟨t, m⟩ := p; cases m <;> rfl
  | p :: ps, a :: as, st, h => by
    simp only [lentBs, List.append_eq_nil_iff] at h
    have he : blanks (p :: ps) (a :: as) st = blanks ps as st := by
      obtain ⟨t, m⟩ := p
      cases m <;> cases a <;> first | rfl | (simp [lentB] at h)
    rw [he]
    exact blanks_nil ps as st h.2
theorem hand_read {t : LT} {v : Value} {x : D} {n : Option Nat} {ds2 : List (Nat × Nat)} (h : HandL w' Gx ds' t v x n) (h1 : ∀ d, d ∈ ds' → d ∈ ds2) (h2 : ∀ m, n = some m → ∃ u, (m, u) ∈ ds2) : FzL w' (okD Gx ds2) t v x := by
  have hm : ∀ t, FzL w' (okD Gx ds') t v x → FzL w' (okD Gx ds2) t v x := fun t ht => FzL_mono (fun b hb => ⟨okD_sub h1 b hb, rfl⟩) t v x ht
  cases t with
  | int k => exact hm _ h.2
  | bool => exact hm _ h.2
  | str => exact hm _ h.2
  | sl o e el =>
    cases o with
    | false => exact hm _ h.2
    | true =>
      cases n with
      | none =>
        obtain ⟨rfl, hx⟩ := h
        exact ⟨none, 0, 0, rfl, by rw [hx]; rfl, Nat.le_refl _, Nat.zero_le _, fun _ => rfl, by simp⟩
      | some m =>
        obtain ⟨u, hu⟩ := h2 m rfl
        have := FzL_mono (fun b hb => ⟨okD_sub (ds' := ds2) (by intro d hd; simp at hd; subst hd; exact hu) b (okR_okD (v := u) hb), rfl⟩) _ _ _ (Row_Fz (show Row w' Gx [] m e el [] v x.els from h))
        exact this
theorem handC_read {ds2 : List (Nat × Nat)} (h1 : ∀ d, d ∈ ds' → d ∈ ds2) : ∀ {ts : List LT} {vs : List Value} {k : Nat} {x : D} {j : Nat} {ns : List (Option Nat)}, HandC w' Gx ds' ts vs k x j ns → (∀ m, m ∈ namesOf ns → ∃ u, (m, u) ∈ ds2) →
    ∀ (i : Nat) (t : LT) (u : Value), ts[i]? = some t → vs[i]? = some u → FzL w' (okD Gx ds2) t u (lf k x (j + i))
  | [], _, _, _, _, _, _, _, i, t, u, h, _ => by simp at h
  | t0 :: ts, vs, k, x, j, ns, ⟨v, vs', n, ns', e1, e2, g1, g2⟩, hn, i, t, u, ht, hu => by
    subst e1; subst e2
    cases i with
    | zero =>
      simp at ht hu
      subst ht; subst hu
      exact hand_read g1 h1 (fun m hm => hn m (by subst hm; simp [namesOf]))
    | succ i =>
      have := handC_read h1 g2 (fun m hm => hn m (by cases n <;> simp [namesOf, hm])) i t u (by simpa using ht) (by simpa using hu)
      rwa [show j + 1 + i = j + (i + 1) by omega] at this
theorem gd_sound (hE : EnvOk P E) {m : Nat} {s : Sig} (hf : FnOk P E ctx m s) {as : List A} {vs : List Value} {agg : Bool} {lv : List LT} {gs : List Nat} {xs : List D} {r : Res} (hrs : s.rs = [.val agg lv]) (hR : Rel w G st sl) (hv : AOKs w G st as vs)
    (h1 : argsA E st as s.ps as = some ([], gs, ds, xs)) (hps : psOk s.ps = true) (hmk : hasMark ds = false ∨ flatLT lv = true) (h : gdCall ctx true m agg lv ds xs = some r) :
    ∃ a, r = .val a ∧ Calls P s.fn ⟨vs⟩ w (fun e w' => ∃ v G', e = .returned v ∧ Ext w w' ∧ Fr w G w' G' ∧ Le w G st w' G' st ∧ Rel w' G' st sl ∧ AOK w' G' st a v) := by
  obtain ⟨q, h2, h3⟩ := bind_some h
  simp only [ofO, cond_true] at h2
  split at h3
  · rename_i hq
    obtain ⟨a, h4, rfl⟩ := rv_some h3
    refine ⟨a, rfl, ?_⟩
    obtain ⟨st0, hent, hcon⟩ := hf xs q h2
    obtain ⟨hlen, Gc, k1, k2, k3, k4⟩ := args_sound hE hR s.ps (stk := st00) (os0 := []) (gs0 := []) (bn0 := []) h1 hv (ds := ds) (fun d hd => hd) (by simp) (by simp) hps (by simp) (by simp) (base_rel (ds := ds) hR) (base_imp G st (fun n x hx => (hR.boxes n x hx).2.1) ds) hent
    simp only [List.append_nil] at k2 k3
    rw [slots_vs] at k1
    obtain ⟨hdep, hlend⟩ := args_dep hR s.ps h1 hv hps
    simp only at hdep hlend
    have hgs : gs = [] := List.eq_nil_iff_forall_not_mem.2 fun r hr => by simpa using k3 r hr
    have hbn : lentBs s.ps as = [] := List.eq_nil_iff_forall_not_mem.2 fun n hn => by simpa using k4 n hn
    subst hgs
    rw [hbn] at k2
    refine Calls.mono (hcon w Gc vs hlen k1) fun e w' he => ?_
    obtain ⟨v, Gx, rfl, hF, hP⟩ := he
    obtain ⟨ds', n1, b1, n2, b2, o1, o2, o3, o4, o5⟩ := hP.ex
    rw [hrs] at o1
    obtain ⟨_, us, os, p1, p2, p3⟩ := o1
    have hret : Ret w G Gc st ds [] [] w' Gx := ⟨k2, hF, ⟨sl, hR⟩, fun n x hx hn => by simp at hn⟩
    let ds2 : List (Nat × Nat) := ds' ++ n1.map fun n => (n, 0)
    obtain ⟨l1, l2⟩ := stage1 (ds' := ds2) (ps := s.ps) (as := as) hR k2 hF hP.live hbn.symm (fun n x hx hn => by simp at hn)
    have hst : blanks s.ps as (goneAll [] st) = st := blanks_nil s.ps as st hbn
    rw [hst] at l1 l2
    have hul : ∀ b, b < w.heap.size → Gc.own b = .out ∨ Gc.own b = .fz := fun b hb => Go.Eng.unlent hR k2 (fun r p _ => by simp) (fun n x _ _ => by simp)
    have l3 := l2.withSlots (sl' := sl) fun t v' hv' => AOK_mono l1 _ _ (hR.slots t v' hv')
    refine ⟨v, G.merge Gx w.heap.size [] ds2, rfl, ⟨hF.size, fun b hb => (hF.block b hb (hul b hb)).1⟩, ⟨hF.os, hF.tape, hF.output, hF.size, fun b hb ho => ⟨(hF.block b hb (hul b hb)).1, merge_keep hb (fun r p _ => by simp)⟩, fun _ _ _ => rfl⟩, l1, l3, ?_⟩
    have hfz := handC_read (ds2 := ds2) (fun d hd => by simp [ds2, hd]) p2 (fun m hm => ⟨0, by simp [ds2, p3, hm]⟩)
    refine aggOf_sound h4 p1 (dec_sound hdep lv 0 us p2.length (fun j t u hj hu => ?_))
    have h5 := hfz j t u hj hu
    rcases hmk with hmk | hmk
    · exact FzL_mono (fun b hb => ⟨hret.read hmk hb, rfl⟩) _ _ _ h5
    · exact FzL_any (flatLT_get hmk j t hj) h5
  · simp [fail] at h3
end
end Go.Eng

namespace Go.Eng
section
variable {ext : Nat → Value} {P : Program} {E : Env} {ctx : Ctx} {w w' : World} {G : Gh} {st : St} {sl : Nat → Option Value} {act : Act} {nt : Nat}
/-! ### Results -/
theorem loadAt_var {t : TypeId} {v u : Value} (h : (Instr.loadAt t v).run P w = .ok u w) : (do loadVar t (← asAddr v) : Sem Value).run P w = .ok u w := by
  cases v with
  | pointer a =>
    cases a with
    | none => simp [Instr.loadAt, Instr.sureAddr] at h
    | some a => simpa [Instr.loadAt, Instr.sureAddr, asAddr] using h
  | _ => simp [Instr.loadAt, Instr.sureAddr] at h
theorem resVals_sound (hE : EnvOk P E) (hS : RelS ext nt w G st act) : ∀ (l : List ResultVar) {as : List A}, resVals E st l = some as → ∃ us, (l.mapM (m := Sem) (fun
    | .tmp t => pure (act.tmps.getD t undef)
    | .cell a t => do loadVar t (← asAddr (act.tmps.getD a undef)))).run P w = .ok us w ∧ AOKs w G st as us
  | [], as, h => by
    simp [resVals, ok] at h
    subst h
    exact ⟨[], rfl, rfl⟩
  | .tmp t :: l, as, h => by
    simp only [resVals] at h
    obtain ⟨q, h1, h2⟩ := bind_some h
    simp [ok] at h2
    subst h2
    obtain ⟨us, g1, g2⟩ := resVals_sound hE hS l h1
    refine ⟨act.tmps.getD t undef :: us, ?_, _, us, rfl, evO_tmp (hS.slots t), g2⟩
    rw [List.mapM_cons]
    simp only [Sem.run_bind, Sem.run_pure, Result.andThen_ok, g1]
  | .cell t ty :: l, as, h => by
    simp only [resVals] at h
    obtain ⟨ti, h1, h2⟩ := bind_some h
    obtain ⟨a, h3, h4⟩ := bind_some h2
    obtain ⟨q, h5, h6⟩ := bind_some h4
    simp [ok] at h6
    subst h6
    obtain ⟨us, g1, g2⟩ := resVals_sound hE hS l h5
    obtain ⟨u, k1, k2⟩ := load_sound (P := P) (hE.types _ _ h1) hS.rel (evO_tmp (hS.slots t)) h3
    refine ⟨u :: us, ?_, u, us, rfl, k2, g2⟩
    have := loadAt_var (k1 w (Ext.refl w))
    rw [List.mapM_cons]
    simp only [Sem.run_bind] at this ⊢
    rw [this]
    simp only [Result.andThen_ok, g1, Sem.run_pure]
theorem results_sound (hE : EnvOk P E) (hS : RelS ext nt w G st act) {f : Func} {as : List A} (h : resVals E st f.results.toList = some as) : ∃ us, (results f act.tmps).run P w = .ok (if us.length = 1 then us.getD 0 undef else .tuple ⟨us⟩) w ∧ AOKs w G st as us := by
  obtain ⟨us, g1, g2⟩ := resVals_sound hE hS _ h
  refine ⟨us, ?_, g2⟩
  unfold results
  rw [Array.mapM_eq_mapM_toList]
  rw [Sem.run_bind, Sem.run_map]
  erw [g1]
  simp only [Result.andThen_ok, Sem.run_pure]
  by_cases hl : us.length = 1
  · match us, hl with
    | [u], _ => rfl
  · have : ¬ (us.toArray.size = 1) := by simpa using hl
    rw [if_neg hl]
    simp [hl]
/-! ### What goes out -/
structure Going (w : World) (G : Gh) (st : St) (bl : List Nat) : Prop where
  ex : ∀ n ∈ bl, ∃ x, look st.bx n = some x
theorem outRes_sound (hR : Rel w G st sl) {m : RM} {a : A} {v : Value} {r : Out D} (h : outRes st m a = some r) (ha : AOK w G st a v) {ds : List (Nat × Nat)} (hds : ∀ d, d ∈ r.ds → d ∈ ds) :
    ∃ ns bl, ResOk w G ds m v r.x ns (bl.map fun n => (G.B n).1) ∧ r.os.Perm (bl.map markB ++ ns) ∧ Going w G st bl := by
  unfold outRes at h
  split at h
  · rename_i lv l
    obtain ⟨p, h1, h2⟩ := bind_some h
    simp [ok] at h2
    subst h2
    obtain ⟨vs, rfl, hvs⟩ := ha
    obtain ⟨ns, g1, g2⟩ := out_mkE hR h1 hvs hds
    exact ⟨namesOf ns, [], ⟨rfl, vs, ns, rfl, g1, rfl⟩, by simp only [List.map_nil, List.nil_append]; rw [g2], ⟨by simp⟩⟩
  · rename_i lv a
    obtain ⟨p, h1, h2⟩ := bind_some h
    simp [ok] at h2
    subst h2
    obtain ⟨ns, g1, g2⟩ := out_mkE (vs := [v]) hR h1 ⟨v, [], rfl, ha, rfl⟩ hds
    exact ⟨namesOf ns, [], ⟨rfl, [v], ns, rfl, g1, rfl⟩, by simp only [List.map_nil, List.nil_append]; rw [g2], ⟨by simp⟩⟩
  · simp [ok] at h
    subst h
    exact ⟨[], [], .inl ⟨rfl, ha, rfl, rfl⟩, by simp, ⟨by simp⟩⟩
  · rename_i el b u
    obtain ⟨l, h1, h2⟩ := bind_some h
    obtain ⟨p, h3, h4⟩ := bind_some h2
    simp [ok] at h4
    subst h4
    obtain ⟨x, m1, m2, m3⟩ := boxOf_some h1
    subst m3
    have hv := ha.2 x m1 m2
    obtain ⟨cs, e, vs, c1, c2, c3, c4⟩ := box_cells hR m1 (boxOf_mp h1 m1)
    obtain ⟨ns, g1, g2⟩ := out_mkE hR h3 c3 hds
    have hlen := outLeaves_len h3
    refine ⟨namesOf ns, [b], .inr ⟨mkE p.x, [], (G.B b).1, (G.B b).2, ns, rfl, by rw [hv]; rfl, ⟨(hR.boxes b x m1).2.1, cs, e, vs, c1, by omega, c4, g1⟩, rfl, rfl⟩, ?_, ⟨fun n hn => by simp at hn; subst hn; exact ⟨x, m1⟩⟩⟩
    simp only [List.map_cons, List.map_nil]
    rw [g2]
    exact List.Perm.refl _
  · simp [fail] at h
theorem perm_mix {α : Type} {a b c d e f : List α} (h1 : a.Perm (b ++ c)) (h2 : d.Perm (e ++ f)) : (a ++ d).Perm ((b ++ e) ++ (c ++ f)) := by
  refine (List.Perm.append h1 h2).trans ?_
  rw [List.append_assoc, List.append_assoc]
  refine List.Perm.append_left b ?_
  rw [← List.append_assoc, ← List.append_assoc]
  exact List.Perm.append_right f List.perm_append_comm
theorem outAll_sound (hR : Rel w G st sl) {ds : List (Nat × Nat)} {X : D} : ∀ {ms : List RM} {l : List A} {us : List Value} {r : Out (List D)} (c : Nat), outAll st ms l = some r → AOKs w G st l us → (∀ d, d ∈ r.ds → d ∈ ds) → (∀ j y, r.x[j]? = some y → X.fld (c + j) = y) →
    ∃ ns bl, RessOk w G ds ms us X c ns (bl.map fun n => (G.B n).1) ∧ r.os.Perm (bl.map markB ++ ns) ∧ Going w G st bl
  | [], [], us, r, c, h, hv, _, _ => by
    simp [outAll, ok] at h
    subst h
    exact ⟨[], [], ⟨hv, rfl, rfl⟩, by simp, ⟨by simp⟩⟩
  | m :: ms, a :: l, us, r, c, h, hv, hds, hx => by
    simp only [outAll] at h
    obtain ⟨p, h1, h2⟩ := bind_some h
    obtain ⟨q, h3, h4⟩ := bind_some h2
    simp [ok] at h4
    subst h4
    obtain ⟨v, vs', rfl, hv1, hv2⟩ := hv
    obtain ⟨n1, b1, g1, g2, g3⟩ := outRes_sound hR h1 hv1 (ds := ds) (fun d hd => hds d (by simp [hd]))
    obtain ⟨n2, b2, k1, k2, k3⟩ := outAll_sound hR (c + 1) h3 hv2 (fun d hd => hds d (by simp [hd])) (fun j y hy => by
      have := hx (j + 1) y (by simpa using hy)
      rwa [show c + (j + 1) = c + 1 + j by omega] at this)
    have hx0 : X.fld c = p.x := by have := hx 0 p.x rfl; simpa using this
    refine ⟨n1 ++ n2, b1 ++ b2, ⟨v, vs', n1, n2, b1.map fun n => (G.B n).1, b2.map fun n => (G.B n).1, rfl, rfl, by simp, by rw [hx0]; exact g1, k1⟩, ?_, ⟨fun n hn => ?_⟩⟩
    · simp only [List.map_append]
      exact perm_mix g2 k2
    · rcases List.mem_append.1 hn with h | h
      · exact g3.ex n h
      · exact k3.ex n h
  | [], _ :: _, _, _, _, h, _, _, _ => by simp [outAll, fail] at h
  | _ :: _, [], _, _, _, h, _, _, _ => by simp [outAll, fail] at h
/-- the variables that were lent -/
theorem outIo_sound (hR : Rel w G st sl) {ds : List (Nat × Nat)} : ∀ {ps : List (TypeId × PM)} {vs : List Value} {r : Out (List D)} (i : Nat), outIo st i ps = some r → psOk ps = true → vs.length = ps.length → (∀ d, d ∈ r.ds → d ∈ ds) →
    (∀ (k : Nat) (t : TypeId) (el : List LT) (v : Value), ps[k]? = some (t, PM.io el) → vs[k]? = some v → v = .pointer (some ⟨(G.B (500 + (i + k))).1, (G.B (500 + (i + k))).2, none⟩)) →
      ∃ ns bl, BackOk w G ds ps vs r.x ns (bl.map fun n => (G.B n).1) ∧ r.os.Perm (bl.map markB ++ ns) ∧ Going w G st bl
  | [], vs, r, i, h, _, hl, _, _ => by
    simp [outIo, ok] at h
    subst h
    have : vs = [] := List.eq_nil_of_length_eq_zero (by simpa using hl)
    subst this
    exact ⟨[], [], ⟨rfl, rfl, rfl, rfl⟩, by simp, ⟨by simp⟩⟩
  | p :: ps, [], r, i, h, _, hl, _, _ => by simp at hl
  | p :: ps, v :: vs, r, i, h, hp, hl, hds, hio => by
    obtain ⟨p1, p2⟩ := psOk_split hp
    by_cases hb : ∃ t el, p = (t, .io el)
    · obtain ⟨t, el, rfl⟩ := hb
      simp only [outIo] at h
      obtain ⟨q, h1, h2⟩ := bind_some h
      obtain ⟨q2, h3, h4⟩ := bind_some h2
      simp [ok] at h4
      subst h4
      unfold outBox at h1
      obtain ⟨x, h5, h6⟩ := bind_some h1
      split at h6
      case h_2 => simp [fail] at h6
      rename_i hmp
      obtain ⟨pp, h7, h8⟩ := bind_some h6
      simp [ok] at h8
      subst h8
      simp only [ofO] at h5
      obtain ⟨cs, e, us, c1, c2, c3, c4⟩ := box_cells hR h5 hmp
      obtain ⟨ns, g1, g2⟩ := out_mkE hR h7 c3 (ds := ds) (fun d hd => hds d (by simp [hd]))
      have hlen := outLeaves_len h7
      have hv := hio 0 t el v rfl rfl
      simp only [Nat.add_zero] at hv
      obtain ⟨n2, b2, k1, k2, k3⟩ := outIo_sound hR (i + 1) h3 p2 (by simpa using hl) (fun d hd => hds d (by simp [hd])) (fun k t el v hk hv => by
        have := hio (k + 1) t el v (by simpa using hk) (by simpa using hv)
        rwa [show i + (k + 1) = i + 1 + k by omega] at this)
      refine ⟨namesOf ns ++ n2, (500 + i) :: b2, ⟨v, vs, mkE pp.x, q2.x, _, _, ns, n2, _, rfl, rfl, hv, ⟨(hR.boxes _ x h5).2.1, cs, e, us, c1, by omega, c4, g1⟩, rfl, by simp, k1⟩, ?_, ⟨fun n hn => ?_⟩⟩
      · have h9 : (marks (500 + i) 0 1 ++ pp.os).Perm ([500 + i].map markB ++ namesOf ns) := by rw [g2]; exact List.Perm.refl _
        exact perm_mix h9 k2
      · rcases List.mem_cons.1 hn with rfl | hn
        · exact ⟨x, h5⟩
        · exact k3.ex n hn
    · have h' : outIo st (i + 1) ps = some r := by
        obtain ⟨t, m⟩ := p
        cases m with
        | io el => exact absurd ⟨t, el, rfl⟩ hb
        | sio lv => simp [psOk] at p1
        | sub j leaf k => simp [psOk] at p1
        | clo f ms => simp [psOk] at p1
        | _ => simpa [outIo] using h
      obtain ⟨n2, b2, k1, k2, k3⟩ := outIo_sound hR (i + 1) h' p2 (by simpa using hl) hds (fun k t el v hk hv => by
        have := hio (k + 1) t el v (by simpa using hk) (by simpa using hv)
        rwa [show i + (k + 1) = i + 1 + k by omega] at this)
      refine ⟨n2, b2, ?_, k2, k3⟩
      obtain ⟨t, m⟩ := p
      cases m with
      | io el => exact absurd ⟨t, el, rfl⟩ hb
      | _ => exact ⟨v, vs, rfl, k1⟩
theorem blocks_nodup (hR : Rel w G st sl) {bl : List Nat} (hg : Going w G st bl) (h : bl.Nodup) : (bl.map fun n => (G.B n).1).Nodup := by
  induction bl with
  | nil => exact List.nodup_nil
  | cons b bl ih =>
    simp only [List.map_cons, List.nodup_cons] at h ⊢
    refine ⟨fun hm => ?_, ih ⟨fun n hn => hg.ex n (by simp [hn])⟩ h.2⟩
    obtain ⟨n, h1, h2⟩ := List.mem_map.1 hm
    obtain ⟨x, hx⟩ := hg.ex n (by simp [h1])
    obtain ⟨y, hy⟩ := hg.ex b (by simp)
    exact hR.apartB n b x y hx hy (fun e => h.1 (e ▸ h1)) h2
/-! ### The entry -/
theorem entry_keep : ∀ (ps : List (TypeId × PM)) {i : Nat} {xs : List D} {st st0 : St}, psOk ps = true → entry E i ps xs st = some st0 → (∀ t, t < i ∨ i + ps.length ≤ t → st0.sl.get t = st.sl.get t) ∧ ∀ n, n < 500 + i → look st0.bx n = look st.bx n
  | [], i, xs, st, st0, _, h => by
    cases xs with
    | nil => simp [entry, ok] at h; subst h; exact ⟨fun _ _ => rfl, fun _ _ => rfl⟩
    | cons _ _ => simp [entry, fail] at h
  | p :: ps, i, xs, st, st0, hp, h => by
    obtain ⟨p1, p2⟩ := psOk_split hp
    have key : ∀ {xs : List D} {st1 : St} {a : A}, st1.sl = st.sl → (∀ n, n < 500 + i → look st1.bx n = look st.bx n) → entry E (i + 1) ps xs (st1.put i a) = some st0 →
        (∀ t, t < i ∨ i + (p :: ps).length ≤ t → st0.sl.get t = st.sl.get t) ∧ ∀ n, n < 500 + i → look st0.bx n = look st.bx n := fun {xs st1 a} h1 h2 h3 => by
      obtain ⟨g1, g2⟩ := entry_keep ps p2 h3
      refine ⟨fun t ht => ?_, fun n hn => ?_⟩
      · simp only [List.length_cons] at ht
        rw [g1 t (by omega)]
        simp only [St.put, Tr.get_set]
        rw [if_neg (by omega), h1]
      · rw [g2 n (by omega)]
        exact h2 n hn
    obtain ⟨t, m⟩ := p
    cases m with
    | ro =>
      cases xs with
      | nil => simp [entry, fail] at h
      | cons x xs =>
        simp only [entry] at h
        obtain ⟨ti, _, h2⟩ := bind_some h
        obtain ⟨a, _, h4⟩ := bind_some h2
        exact key rfl (fun _ _ => rfl) h4
    | rp =>
      cases xs with
      | nil => simp [entry, fail] at h
      | cons x xs =>
        simp only [entry] at h
        obtain ⟨e, _, h2⟩ := bind_some h
        obtain ⟨te, _, h4⟩ := bind_some h2
        exact key rfl (fun _ _ => rfl) h4
    | fnv f =>
      cases xs with
      | nil => simp [entry, fail] at h
      | cons x xs => simp only [entry] at h; exact key rfl (fun _ _ => rfl) h
    | mv =>
      cases xs with
      | nil => simp [entry, fail] at h
      | cons x xs =>
        simp only [entry] at h
        obtain ⟨ti, _, h2⟩ := bind_some h
        obtain ⟨te, _, h4⟩ := bind_some h2
        exact key (st1 := st.newArr (500 + i) ti.e (setOwnL true te.lv) x.els) rfl (fun _ _ => rfl) h4
    | io el =>
      cases xs with
      | nil => simp [entry, fail] at h
      | cons x xs =>
        simp only [entry] at h
        obtain ⟨g1, g2⟩ := intoFrom_sl [] (nm (500 + i) 0) el.length x el 0 st
        refine key (st1 := (intoFrom [] (nm (500 + i) 0) el.length x 0 el st).1.newBox (500 + i) (intoFrom [] (nm (500 + i) 0) el.length x 0 el st).2) g1 (fun n hn => ?_) h
        simp only [St.newBox, look_putA]
        rw [if_neg (by omega), g2]
    | sio lv => simp [psOk] at p1
    | sub j leaf k => simp [psOk] at p1
    | clo f ms => simp [psOk] at p1
theorem entry_io : ∀ (ps : List (TypeId × PM)) {i : Nat} {xs : List D} {st st0 : St}, psOk ps = true → entry E i ps xs st = some st0 → ∀ (k : Nat) (t : TypeId) (el : List LT), ps[k]? = some (t, .io el) →
    ∃ c x, st0.sl.get (i + k) = .pb (500 + (i + k)) c 0 ∧ look st0.bx (500 + (i + k)) = some x ∧ x.uid = c
  | [], i, xs, st, st0, _, _, k, t, el, hk => by simp at hk
  | p :: ps, i, xs, st, st0, hp, h, k, t, el, hk => by
    obtain ⟨p1, p2⟩ := psOk_split hp
    have hx : ∃ xs' st1, entry E (i + 1) ps xs' st1 = some st0 := by
      obtain ⟨t', m⟩ := p
      cases xs with
      | nil => cases m <;> simp [entry, fail] at h
      | cons x xs =>
        cases m with
        | ro =>
          simp only [entry] at h
          obtain ⟨ti, _, h2⟩ := bind_some h
          obtain ⟨a, _, h4⟩ := bind_some h2
          exact ⟨_, _, h4⟩
        | rp =>
          simp only [entry] at h
          obtain ⟨e, _, h2⟩ := bind_some h
          obtain ⟨te, _, h4⟩ := bind_some h2
          exact ⟨_, _, h4⟩
        | fnv f => simp only [entry] at h; exact ⟨_, _, h⟩
        | mv =>
          simp only [entry] at h
          obtain ⟨ti, _, h2⟩ := bind_some h
          obtain ⟨te, _, h4⟩ := bind_some h2
          exact ⟨_, _, h4⟩
        | io el => simp only [entry] at h; exact ⟨_, _, h⟩
        | sio lv => simp [psOk] at p1
        | sub j leaf k => simp [psOk] at p1
        | clo f ms => simp [psOk] at p1
    cases k with
    | zero =>
      simp at hk
      subst hk
      cases xs with
      | nil => simp [entry, fail] at h
      | cons x xs =>
        simp only [entry] at h
        obtain ⟨g1, g2⟩ := entry_keep ps p2 h
        simp only [Nat.add_zero]
        rw [g1 i (by omega), g2 (500 + i) (by omega)]
        refine ⟨(intoFrom [] (nm (500 + i) 0) el.length x 0 el st).1.ctr, { uid := (intoFrom [] (nm (500 + i) 0) el.length x 0 el st).1.ctr, lv := (intoFrom [] (nm (500 + i) 0) el.length x 0 el st).2 }, ?_, ?_, rfl⟩
        · simp [St.put, Tr.get_set]
        · simp [St.put, St.newBox, look_putA]
    | succ k =>
      obtain ⟨xs', st1, h'⟩ := hx
      have := entry_io ps p2 h' k t el (by simpa using hk)
      rwa [show i + 1 + k = i + (k + 1) by omega] at this
end
end Go.Eng

namespace Go.Eng
section
variable {P : Program} {E : Env} {ctx : Ctx}
theorem tmps_get {vs : List Value} {n t : Nat} (hn : vs.length ≤ n) : ((⟨vs⟩ : Array Value) ++ Array.replicate (n - vs.length) undef).getD t undef = (vs[t]?).getD undef := by
  rw [Array.getD_eq_getD_getElem?]
  by_cases h : t < vs.length
  · rw [Array.getElem?_append_left (by simpa using h)]
    simp
  · rw [Array.getElem?_append_right (by simpa using h), List.getElem?_eq_none (by omega)]
    simp only [Array.getElem?_replicate, Option.getD_none]
    split <;> rfl
theorem tv_undef {act : Act} {t : Nat} (h : act.tmps.size ≤ 1000) : tv (fun _ => undef) act t = act.tmps.getD t undef := by
  unfold tv
  split
  · rfl
  · rw [Array.getD_eq_getD_getElem?, Array.getElem?_eq_none (by omega)]
    rfl
theorem from_sound (hE : EnvOk P E) (hC : CallsOk P E ctx) (hmx : P.follows .mixedOrders = true) {f : Func} {c : Code} {s : Sig} {h : Hint} {k m : Nat} (hf : P.funcs[s.fn]? = some f) (hb : f.body = some c)
    (hok : codeOk E h f.ntmps c = true) (h500 : f.ntmps ≤ 500) (hlen : s.ps.length ≤ f.ntmps) (h100 : s.ps.length ≤ 100) (hps : psOk s.ps = true) {st0 : St} {r : D × List D} (h2 : bodyFrom E ctx k f c s h st0 = some r)
    (ek1 : ∀ t, s.ps.length ≤ t → st0.sl.get t = .undef)
    (eio : ∀ (kk : Nat) (t : TypeId) (el : List LT), s.ps[kk]? = some (t, PM.io el) → ∃ cc x, st0.sl.get kk = .pb (500 + kk) cc 0 ∧ look st0.bx (500 + kk) = some x ∧ x.uid = cc)
    (w : World) (G : Gh) (vs : List Value) (hvl : vs.length = s.ps.length) (hrel : Rel w G st0 (fun i => vs[i]?)) :
    Calls P s.fn ⟨vs⟩ w (fun e w' => ∃ v G', e = .returned v ∧ Fr w G w' G' ∧ Post w' G' s vs r v) := by
  unfold bodyFrom at h2
  obtain ⟨re, h3, h4⟩ := bind_some h2
  obtain ⟨ex, st1⟩ := re
  -- the end of the body
  have hend : (ex = .norm ∨ ex = .ret) ∧ ∃ as u v, resVals E st1 f.results.toList = some as ∧ outAll st1 s.rs as = some u ∧ outIo st1 0 s.ps = some v ∧ nodup (u.os ++ v.os) = true ∧ apart (u.os ++ v.os) (u.ds ++ v.ds) = true ∧ r = ((match u.x with | [x] => x | xs => .l xs), v.x) := by
    have key : ∀ {X : M (D × List D)}, X = some r → X = ((resVals E st1 f.results.toList).bind fun vs => (outAll st1 s.rs vs).bind fun u => (outIo st1 0 s.ps).bind fun v =>
        bif nodup (u.os ++ v.os) && apart (u.os ++ v.os) (u.ds ++ v.ds) then ok ((match u.x with | [x] => x | xs => .l xs), v.x) else fail "result: shared") →
        ∃ as u v, resVals E st1 f.results.toList = some as ∧ outAll st1 s.rs as = some u ∧ outIo st1 0 s.ps = some v ∧ nodup (u.os ++ v.os) = true ∧ apart (u.os ++ v.os) (u.ds ++ v.ds) = true ∧ r = ((match u.x with | [x] => x | xs => .l xs), v.x) := by
      intro X hX he
      subst he
      obtain ⟨as, g1, g2⟩ := bind_some hX
      obtain ⟨u, g3, g4⟩ := bind_some g2
      obtain ⟨v, g5, g6⟩ := bind_some g4
      obtain ⟨g7, g8⟩ := bif_some g6
      simp only [Bool.and_eq_true] at g7
      simp only [ok, Option.some.injEq] at g8
      exact ⟨as, u, v, g1, g3, g5, g7.1, g7.2, g8.symm⟩
    cases ex with
    | norm => exact ⟨.inl rfl, key h4 rfl⟩
    | ret => exact ⟨.inr rfl, key h4 rfl⟩
    | exit id => simp [fail] at h4
  obtain ⟨hex, as, u, v, g1, g2, g3, g4, g5, g6⟩ := hend
  have hS : RelS (fun _ => undef) f.ntmps w G st0 { tmps := (⟨vs⟩ : Array Value) ++ Array.replicate (f.ntmps - vs.length) undef, defers := [] } := by
    refine ⟨hrel.none, fun t => ?_, ?_, rfl⟩
    · rw [tv_undef (by simp; omega)]
      show AOK w G st0 (st0.sl.get t) (((⟨vs⟩ : Array Value) ++ Array.replicate (f.ntmps - vs.length) undef).getD t undef)
      rw [tmps_get (by omega)]
      cases hv : vs[t]? with
      | some v' => exact hrel.slots t v' hv
      | none =>
        have : vs.length ≤ t := List.getElem?_eq_none_iff.1 hv
        rw [ek1 t (by omega)]
        exact trivial
    · show ((⟨vs⟩ : Array Value) ++ Array.replicate (f.ntmps - vs.length) undef).size = f.ntmps
      simp
      omega
  refine calls_of_wp hf hb ?_
  refine aev_sound hE hC hmx h500 k c 0 hok hS h3 _ (fun ch a a' w' hh => ?_) (fun w' G' act' hF hS' => ?_)
  · obtain ⟨_, v', Gx, hv', _⟩ := hh
    simp at hv'
  · -- what is asked at the return
    have main : act'.defers = [] ∧ ∃ v', (results f act'.tmps).run P w' = .ok v' w' ∧ ∃ v2 Gx, Ending.returned v' = .returned v2 ∧ Fr w G w' Gx ∧ Post w' Gx s vs r v2 := by
      refine ⟨hS'.defers, ?_⟩
      obtain ⟨us, k1, k2⟩ := results_sound (P := P) hE hS' g1
      refine ⟨_, k1, _, G', rfl, hF, ?_⟩
      -- the variables that were lent
      obtain ⟨n2, bl2, o1, o2, o3⟩ := outIo_sound (ds := u.ds ++ v.ds) hS'.rel 0 g3 hps hvl (fun d hd => by simp [hd]) (fun kk t el vv hk hv => by
        obtain ⟨cc, x, e1, e2, e3⟩ := eio kk t el hk
        simp only [Nat.zero_add] at ⊢
        have := hrel.slots kk vv hv
        rw [e1] at this
        have hv2 := this.2 x e2 e3
        have hkl : kk < 100 := by
          have := (List.getElem?_eq_some_iff.1 hk).1
          omega
        rw [hF.B (500 + kk) (by omega) (by omega)]
        exact hv2)
      have hnd := nodup_sound g4
      have hap := apart_sound g5
      have hgo : ∀ (n1 bl1 : List Nat) (vv : Value), OutsOk w' G' (u.ds ++ v.ds) s.rs vv r.1 n1 (bl1.map fun n => (G'.B n).1) → u.os.Perm (bl1.map markB ++ n1) → Going w' G' st1 bl1 → Post w' G' s vs r vv := by
        intro n1 bl1 vv q1 q2 q3
        have hp := perm_mix q2 o2
        have hn := hp.nodup hnd
        obtain ⟨m1, m2, m3⟩ := List.nodup_append.1 hn
        rw [← List.map_append] at m1
        have hbl : (bl1 ++ bl2).Nodup := by
          have hinj : ∀ l : List Nat, (l.map markB).Nodup → l.Nodup := by
            intro l
            induction l with
            | nil => intro _; exact List.nodup_nil
            | cons a l ih =>
              intro hh
              simp only [List.map_cons, List.nodup_cons] at hh
              exact List.nodup_cons.2 ⟨fun hm => hh.1 (List.mem_map_of_mem hm), ih hh.2⟩
          exact hinj _ m1
        have hblk := blocks_nodup hS'.rel ⟨fun n hn => (List.mem_append.1 hn).elim (q3.ex n) (o3.ex n)⟩ hbl
        rw [List.map_append] at hblk
        refine ⟨⟨u.ds ++ v.ds, n1, _, n2, _, q1, by rw [g6]; exact o1, List.perm_append_comm.nodup m2, List.perm_append_comm.nodup hblk, fun n hn d hd => hap n ?_ d hd⟩, hS'.rel.live, hS'.rel.hdr⟩
        refine hp.mem_iff.2 ?_
        simp only [List.mem_append] at hn ⊢
        exact .inr hn.symm
      cases hrs : s.rs with
      | nil =>
        rw [hrs] at g2
        cases as with
        | cons _ _ => simp [outAll, fail] at g2
        | nil =>
          simp [outAll, ok] at g2
          have : us = [] := k2
          subst this
          refine hgo [] [] _ ?_ (by rw [← g2]; simp) ⟨by simp⟩
          rw [hrs]
          exact ⟨rfl, rfl, rfl⟩
      | cons m0 ms =>
        cases ms with
        | nil =>
          rw [hrs] at g2
          cases as with
          | nil => simp [outAll, fail] at g2
          | cons a as =>
            cases as with
            | cons _ _ =>
              simp only [outAll] at g2
              obtain ⟨p, _, h6⟩ := bind_some g2
              simp [fail] at h6
            | nil =>
              simp only [outAll] at g2
              obtain ⟨p, h5, h6⟩ := bind_some g2
              simp [ok] at h6
              obtain ⟨v0, vs0, e1, e2, e3⟩ := k2
              have : vs0 = [] := e3
              subst this
              subst e1
              obtain ⟨n1, bl1, q1, q2, q3⟩ := outRes_sound (ds := u.ds ++ v.ds) hS'.rel h5 e2 (fun d hd => by rw [← h6]; simp [hd])
              refine hgo n1 bl1 _ ?_ (by rw [← h6]; simpa using q2) q3
              have hr1 : r.1 = p.x := by rw [g6, ← h6]
              rw [hrs, hr1]
              simpa [OutsOk] using q1
        | cons m1 ms =>
          have hlen : us.length = as.length := (AOKs_iff.1 k2).1
          have hout := g2
          rw [hrs] at hout
          have hxl : ∀ {ms : List RM} {l : List A} {r : Out (List D)}, outAll st1 ms l = some r → r.x.length = ms.length ∧ l.length = ms.length := by
            intro ms
            induction ms with
            | nil => intro l r hh; cases l with
              | nil => simp [outAll, ok] at hh; subst hh; exact ⟨rfl, rfl⟩
              | cons _ _ => simp [outAll, fail] at hh
            | cons m ms ih => intro l r hh; cases l with
              | nil => simp [outAll, fail] at hh
              | cons a l =>
                simp only [outAll] at hh
                obtain ⟨p, _, h6⟩ := bind_some hh
                obtain ⟨q, h7, h8⟩ := bind_some h6
                simp [ok] at h8
                subst h8
                obtain ⟨i1, i2⟩ := ih h7
                exact ⟨by simp [i1], by simp [i2]⟩
          obtain ⟨x1, x2⟩ := hxl hout
          have hus : ¬ us.length = 1 := by rw [hlen, x2]; simp
          rw [if_neg hus]
          have hr1 : r.1 = .l u.x := by
            rw [g6]
            cases hux : u.x with
            | nil => rfl
            | cons y ys =>
              cases ys with
              | nil => rw [hux] at x1; simp at x1
              | cons _ _ => rfl
          obtain ⟨n1, bl1, q1, q2, q3⟩ := outAll_sound (ds := u.ds ++ v.ds) (X := .l u.x) hS'.rel 0 hout k2 (fun d hd => by simp [hd]) (fun j y hy => by
            simp only [D.fld, D.els, Nat.zero_add, List.getD, hy]; rfl)
          refine hgo n1 bl1 _ ?_ q2 q3
          rw [hrs, hr1]
          exact ⟨us, rfl, q1⟩
    rcases hex with rfl | rfl
    · exact main
    · exact main
/-- every callee is as asked: calls are as asked -/
theorem body_sound (hE : EnvOk P E) (hC : CallsOk P E ctx) (hmx : P.follows .mixedOrders = true) {f : Func} {c : Code} {s : Sig} {h : Hint} {k m : Nat} {ctx' : Ctx} (hctx : ∀ xs, ctx' m xs = bodyA E ctx k f c s h xs) (hf : P.funcs[s.fn]? = some f) (hb : f.body = some c)
    (hok : codeOk E h f.ntmps c = true) (h500 : f.ntmps ≤ 500) (hlen : s.ps.length ≤ f.ntmps) (h100 : s.ps.length ≤ 100) (hps : psOk s.ps = true) : FnOk P E ctx' m s := by
  intro xs r hr
  rw [hctx] at hr
  obtain ⟨st0, h1, h2⟩ := bind_some hr
  obtain ⟨ek1, ek2⟩ := entry_keep s.ps hps h1
  refine ⟨st0, h1, fun w G vs hvl hrel => from_sound (m := m) hE hC hmx hf hb hok h500 hlen h100 hps h2 (fun t ht => ?_) (fun kk t el hk => ?_) w G vs hvl hrel⟩
  · rw [ek1 t (by omega)]
    simp only [Tr.get_nil]
  · obtain ⟨cc, x, e1, e2, e3⟩ := entry_io s.ps hps h1 kk t el hk
    simp only [Nat.zero_add] at e1 e2
    exact ⟨cc, x, e1, e2, e3⟩
/-- a row of none may be nil or not -/
theorem fork_sound (hE : EnvOk P E) (hC : CallsOk P E ctx) (hmx : P.follows .mixedOrders = true) {f : Func} {c : Code} {s : Sig} {h : Hint} {k m : Nat} {ctx' : Ctx} (hctx : ∀ xs, ctx' m xs = forkA E ctx k f c s h xs) (hf : P.funcs[s.fn]? = some f) (hb : f.body = some c)
    (hok : codeOk E h f.ntmps c = true) (h500 : f.ntmps ≤ 500) (hlen : s.ps.length ≤ f.ntmps) (h100 : s.ps.length ≤ 100) (hps : psOk s.ps = true) : FnOk P E ctx' m s := by
  intro xs r hr
  rw [hctx] at hr
  unfold forkA at hr
  split at hr
  case h_2 => simp [fail] at hr
  rename_i t0 hps1
  obtain ⟨st0, h1, h2⟩ := bind_some hr
  obtain ⟨ek1, ek2⟩ := entry_keep s.ps hps h1
  have eio : ∀ (st : St) (kk : Nat) (t : TypeId) (el : List LT), s.ps[kk]? = some (t, PM.io el) → ∃ cc x, st.sl.get kk = .pb (500 + kk) cc 0 ∧ look st.bx (500 + kk) = some x ∧ x.uid = cc := fun st kk t el hk => by
    rw [hps1] at hk
    cases kk with
    | zero => simp at hk
    | succ n => simp at hk
  have hl1 : s.ps.length = 1 := by rw [hps1]; rfl
  refine ⟨st0, h1, fun w G vs hvl hrel => ?_⟩
  unfold forkTo at h2
  split at h2
  · rename_i e el hsl
    obtain ⟨r1, h3, h4⟩ := bind_some h2
    obtain ⟨r2, h5, h6⟩ := bind_some h4
    obtain ⟨r3, h7, h8⟩ := bind_some h6
    have n1 : r1 = (.l [], []) := by
      unfold noneD at h5
      split at h5
      · rfl
      · simp [fail] at h5
    have n2 : r3 = (.l [], []) ∧ r = (.l [], []) := by
      unfold noneD at h8
      split at h8
      · simp [ok] at h8; exact ⟨rfl, h8.symm⟩
      · simp [fail] at h8
    obtain ⟨rfl, rfl⟩ := n2
    subst n1
    obtain ⟨v, rfl⟩ : ∃ v, vs = [v] := by
      rw [hl1] at hvl
      exact List.length_eq_one_iff.1 hvl
    · have hv := hrel.slots 0 v rfl
      rw [hsl] at hv
      obtain ⟨a, n, cp, g1, g2, g3, g4, g5, g6⟩ := hv.2 rfl
      have hn : n = 0 := by simpa [D.els] using g2.symm
      subst hn
      have hu : updV (fun i => ([v] : List Value)[i]?) 0 v = fun i => ([v] : List Value)[i]? := by
        funext i
        cases i with
        | zero => rfl
        | succ i => rfl
      have hk : ∀ (x : A) t, s.ps.length ≤ t → (st0.put 0 x).sl.get t = .undef := fun x t ht => by
        show (st0.sl.set 0 x).get t = _
        rw [Tr.get_set, if_neg (by omega), ek1 t (by omega)]
        simp only [Tr.get_nil]
      cases a with
      | none =>
        have hc := g5 rfl
        subst hc
        have hR := hrel.put (d := 0) (a := .nils) (v := v) g1
        rw [hu] at hR
        exact from_sound (m := m) hE hC hmx hf hb hok h500 hlen h100 hps h3 (hk _) (eio _) w G [v] hl1.symm hR
      | some ad =>
        have hR := hrel.put (d := 0) (a := .ez) (v := v) ⟨ad, cp, g1⟩
        rw [hu] at hR
        exact from_sound (m := m) hE hC hmx hf hb hok h500 hlen h100 hps h7 (hk _) (eio _) w G [v] hl1.symm hR
  · exact from_sound (m := m) hE hC hmx hf hb hok h500 hlen h100 hps h2 (fun t ht => by rw [ek1 t (by omega)]; simp only [Tr.get_nil]) (eio _) w G vs hvl hrel
theorem calls_ok (hE : EnvOk P E) (hfn : ∀ m s, E.sg.look m = some s → ∃ f, P.funcs[s.fn]? = some f ∧ f.name ≠ "runtime.NumGoroutine" ∧ f.body.isNone = false) (hf : ∀ m s, E.sg.look m = some s → psOk s.ps = true → FnOk P E ctx m s)
    (hsr : ∀ m s e el f, E.sg.look m = some s → sortPat s.ps = some (e, el, f) → s.rs = [] ∧ SrtOk P ctx m s e el f) (hic : ∀ q g, E.ic ctx q = some g → InlOk P g) : CallsOk P E ctx :=
  ⟨hfn, fun hd5 hm hR hv h => call_sound hE (hf _ _ hm) (fun e el f => hsr _ _ e el f hm) hd5 hR hv h, fun hm hrs hR hv h1 hps hmk h => gd_sound hE (hf _ _ hm hps) hrs hR hv h1 hps hmk h, hic⟩
/-! ### Calls in place -/
def tupA : List A → A
  | [a] => a
  | l => .tup l
/-- what is carried out in place, and how -/
structure Site where
  fn : FuncId
  f : Func
  c : Code
  h : Hint
  np : Nat
def inlRun (E : Env) (ctx : Ctx) (k : Nat) (s : Site) (st : St) : M (A × St) :=
  (aev E s.h ctx k 0 s.c st).bind fun r => match r.1 with
    | .exit _ => fail "exit out of the body"
    | _ => (resVals E r.2 s.f.results.toList).bind fun vs => ok (tupA vs, r.2)
def icOf (E : Env) (k : Nat) (T : BT Site) : Ctx → Nat → Option Ifn := fun ctx q => (T.look q).map fun s => { fn := s.fn, np := s.np, run := inlRun E ctx k s }
/-- environments by levels: calls in place may hold calls in place -/
def lvE (E : Env) (k : Nat) (T : BT Site) : Nat → Env
  | 0 => { E with ic := fun _ _ => none }
  | n + 1 => { E with ic := icOf (lvE E k T n) k T }
structure SiteOk (P : Program) (E : Env) (s : Site) : Prop where
  func : P.funcs[s.fn]? = some s.f
  name : s.f.name ≠ "runtime.NumGoroutine"
  body : s.f.body = some s.c
  code : codeOk E s.h s.f.ntmps s.c = true
  tmps : s.f.ntmps ≤ 500
  np : s.np ≤ s.f.ntmps
theorem tupA_sound {w : World} {G : Gh} {st : St} {as : List A} {us : List Value} (h : AOKs w G st as us) : AOK w G st (tupA as) (if us.length = 1 then us.getD 0 undef else .tuple ⟨us⟩) := by
  match as, us, h with
  | [], us, h =>
    have h : us = [] := h
    subst h
    exact ⟨[], rfl, rfl⟩
  | [a], us, h =>
    obtain ⟨v, vs, rfl, h1, h2⟩ := h
    have h2 : vs = [] := h2
    subst h2
    simpa [tupA] using h1
  | a :: a' :: as, us, h =>
    have h0 := h
    obtain ⟨v, vs, rfl, h1, h2⟩ := h
    obtain ⟨v', vs', rfl, h3, h4⟩ := h2
    rw [if_neg (by simp)]
    exact ⟨v :: v' :: vs', rfl, h0⟩
theorem inl_ok {E : Env} {ctx : Ctx} (hE : EnvOk P E) (hC : CallsOk P E ctx) (hmx : P.follows .mixedOrders = true) {k : Nat} {s : Site} (hs : SiteOk P E s) : InlOk P { fn := s.fn, np := s.np, run := inlRun E ctx k s } := by
  refine ⟨⟨s.f, hs.func, hs.name, by rw [hs.body]; rfl⟩, ?_⟩
  intro w G st st' a vs ext hr hvl hnp hrel hlo hhi
  simp only at hr hvl hnp
  unfold inlRun at hr
  obtain ⟨re, h3, h4⟩ := bind_some hr
  obtain ⟨ex, st1⟩ := re
  have hend : (ex = .norm ∨ ex = .ret) ∧ ∃ as, resVals E st1 s.f.results.toList = some as ∧ a = tupA as ∧ st' = st1 := by
    have key : ((resVals E st1 s.f.results.toList).bind fun vs => ok (tupA vs, st1)) = some (a, st') → ∃ as, resVals E st1 s.f.results.toList = some as ∧ a = tupA as ∧ st' = st1 := by
      intro h
      obtain ⟨as, g1, g2⟩ := bind_some h
      simp only [ok, Option.some.injEq, Prod.mk.injEq] at g2
      exact ⟨as, g1, g2.1.symm, g2.2.symm⟩
    cases ex with
    | norm => exact ⟨.inl rfl, key h4⟩
    | ret => exact ⟨.inr rfl, key h4⟩
    | exit id => simp [fail] at h4
  obtain ⟨hex, as, g1, rfl, rfl⟩ := hend
  have hn : vs.length ≤ s.f.ntmps := by rw [hvl]; exact hs.np
  have hS : RelS ext s.f.ntmps w G st { tmps := (⟨vs⟩ : Array Value) ++ Array.replicate (s.f.ntmps - vs.length) undef, defers := [] } := by
    refine ⟨hrel, fun t => ?_, by simp; omega, rfl⟩
    unfold tv
    split
    · rename_i ht
      show AOK w G st (st.sl.get t) (((⟨vs⟩ : Array Value) ++ Array.replicate (s.f.ntmps - vs.length) undef).getD t undef)
      rw [tmps_get hn]
      exact hlo t ht
    · exact hhi t (by omega)
  refine calls_of_wp hs.func hs.body ?_
  refine aev_sound hE hC hmx hs.tmps k s.c 0 hs.code hS h3 _ (fun ch a a' w' hh => ?_) (fun w' G' act' hF hS' => ?_)
  · obtain ⟨_, v', Gx, hv', _⟩ := hh
    simp at hv'
  · have main : act'.defers = [] ∧ ∃ v', (results s.f act'.tmps).run P w' = .ok v' w' ∧ ∃ v2 Gx, Ending.returned v' = .returned v2 ∧ Fr w G w' Gx ∧ Rel w' Gx st' (fun _ => none) ∧ AOK w' Gx st' (tupA as) v2 ∧ ∀ t, 1000 ≤ t → AOK w' Gx st' (st'.sl.get t) (ext t) := by
      refine ⟨hS'.defers, ?_⟩
      obtain ⟨us, k1, k2⟩ := results_sound (P := P) hE hS' g1
      exact ⟨_, k1, _, G', rfl, hF, hS'.rel, tupA_sound k2, fun t ht => by
        have := hS'.slots t
        unfold tv at this
        rwa [if_neg (by omega)] at this⟩
    rcases hex with rfl | rfl
    · exact main
    · exact main
theorem callS_lv (E : Env) (k : Nat) (T : BT Site) : ∀ n, callS (lvE E k T n) = callS E
  | 0 => by kernel_rfl
  | n + 1 => by kernel_rfl
theorem argsA_lv (E : Env) (k : Nat) (T : BT Site) : ∀ n, argsA (lvE E k T n) = argsA E
  | 0 => by kernel_rfl
  | n + 1 => by kernel_rfl
theorem sg_lv (E : Env) (k : Nat) (T : BT Site) : ∀ n, (lvE E k T n).sg = E.sg
  | 0 => rfl
  | n + 1 => rfl
theorem entry_lv (E : Env) (k : Nat) (T : BT Site) : ∀ n, entry (lvE E k T n) = entry E
  | 0 => by kernel_rfl
  | n + 1 => by kernel_rfl
/-- what is known of an environment without calls in place serves all levels -/
theorem lv_ok {E : Env} {ctx : Ctx} {k : Nat} {T : BT Site} (hmx : P.follows .mixedOrders = true) (hE : ∀ n, EnvOk P (lvE E k T n)) (h0 : CallsOk P (lvE E k T 0) ctx) (hT : ∀ n q s, T.look q = some s → SiteOk P (lvE E k T n) s) : ∀ n, CallsOk P (lvE E k T n) ctx
  | 0 => h0
  | n + 1 => by
    have ih := lv_ok hmx hE h0 hT n
    refine ⟨fun m s hm => h0.fn m s (by rw [sg_lv] at hm ⊢; exact hm), fun hd hm hR hv h => ?_, fun hm hrs hR hv h1 hps hmk h => ?_, fun q g hq => ?_⟩
    · have := h0.call hd (by rw [sg_lv] at hm ⊢; exact hm) hR hv (by rw [callS_lv] at h ⊢; exact h)
      exact this
    · exact h0.gd (by rw [sg_lv] at hm ⊢; exact hm) hrs hR hv (by rw [argsA_lv] at h1 ⊢; exact h1) hps hmk h
    simp only [lvE, icOf, Option.map_eq_some_iff] at hq
    obtain ⟨s, h1, rfl⟩ := hq
    exact inl_ok (hE n) ih hmx (hT n q s h1)
end
end Go.Eng

namespace Go.Eng
/-! ### Types -/
def zeroB : LT → Value → Bool
  | .int k, .int k' n => kindEq k k' && eqI n 0
  | .bool, .bool b => !b
  | .str, .string s => Nat.beq s.data.size 0
  | .sl .., .slice none 0 0 => true
  | _, _ => false
def zerosB : List LT → List Value → Bool
  | [], [] => true
  | t :: ts, v :: vs => zeroB t v && zerosB ts vs
  | _, _ => false
theorem zeroB_sound {t : LT} {v : Value} (h : zeroB t v = true) : v = zeroV t := by
  unfold zeroB at h
  split at h
  · simp only [Bool.and_eq_true, eqI_iff] at h
    rw [(kindEq_iff _ _).1 h.1, h.2]
    rfl
  · simp only [Bool.not_eq_true'] at h; rw [h]; rfl
  · rename_i s
    have := Nat.eq_of_beq_eq_true h
    cases s with
    | mk d => simp only at this; rw [Array.eq_empty_of_size_eq_zero this]; rfl
  · rfl
  · simp at h
theorem zerosB_sound : ∀ {ts : List LT} {vs : List Value}, zerosB ts vs = true → vs = ts.map zeroV
  | [], [], _ => rfl
  | t :: ts, v :: vs, h => by
    simp only [zerosB, Bool.and_eq_true] at h
    rw [zeroB_sound h.1, zerosB_sound h.2]
    rfl
  | [], _ :: _, h => by simp [zerosB] at h
  | _ :: _, [], h => by simp [zerosB] at h
def fieldsB (P : Program) : List (Nat × TypeId) → List Field → Bool
  | [], _ => true
  | (off, ft) :: l, fd :: m => Nat.beq fd.offset off && (Nat.beq fd.type ft && ((match P.info? ft with | some j => !Nat.beq j.size 0 | none => false) && fieldsB P l m))
  | _ :: _, [] => false
def infosB (P : Program) : List Field → Bool
  | [] => true
  | fd :: m => (match P.info? fd.type with | some _ => true | none => false) && infosB P m
def sameT : List (Nat × TypeId) → TypeId → Bool
  | [], _ => true
  | (_, ft) :: l, e => Nat.beq ft e && sameT l e
def descB (P : Program) (ti : TI) : TypeDesc → Bool
  | .struct fs => fieldsB P ti.fs fs.toList
  | .array n e => Nat.beq ti.fs.length n && sameT ti.fs e
  | .slice e => Nat.beq ti.e e && Nat.beq ti.lv.length 1
  | .int k => match ti.lv with | [.int k'] => kindEq k k' | _ => false
  | .bool => match ti.lv with | [.bool] => true | _ => false
  | .string => match ti.lv with | [.str] => true | _ => false
  | _ => true
theorem fieldsB_sound {P : Program} : ∀ {l : List (Nat × TypeId)} {m : List Field}, fieldsB P l m = true → ∀ (f off : Nat) (ft : TypeId), l[f]? = some (off, ft) → ∃ fd : Field, m[f]? = some fd ∧ fd.offset = off ∧ fd.type = ft ∧ ∃ j, P.info? ft = some j ∧ j.size ≠ 0
  | [], _, _, f, off, ft, h => by simp at h
  | (o, t) :: l, fd :: m, h, f, off, ft, hf => by
    simp only [fieldsB, Bool.and_eq_true] at h
    cases f with
    | zero =>
      simp at hf
      obtain ⟨rfl, rfl⟩ := hf
      refine ⟨fd, rfl, Nat.eq_of_beq_eq_true h.1, Nat.eq_of_beq_eq_true h.2.1, ?_⟩
      have h3 := h.2.2.1
      split at h3
      · rename_i j hj
        refine ⟨j, hj, fun e => ?_⟩
        rw [e] at h3
        simp at h3
      · simp at h3
    | succ f => exact fieldsB_sound h.2.2.2 f off ft (by simpa using hf)
  | _ :: _, [], h, _, _, _, _ => by simp [fieldsB] at h
theorem infosB_sound {P : Program} : ∀ {m : List Field}, infosB P m = true → ∀ (j : Nat) (fd : Field), m[j]? = some fd → ∃ i, P.info? fd.type = some i
  | [], _, j, fd, h => by simp at h
  | fd' :: m, h, j, fd, hj => by
    simp only [infosB, Bool.and_eq_true] at h
    cases j with
    | zero =>
      simp at hj
      subst hj
      have h1 := h.1
      split at h1
      · rename_i i hi; exact ⟨i, hi⟩
      · simp at h1
    | succ j => exact infosB_sound h.2 j fd (by simpa using hj)
theorem sameT_sound : ∀ {l : List (Nat × TypeId)} {e : TypeId}, sameT l e = true → ∀ (i off : Nat) (ft : TypeId), l[i]? = some (off, ft) → ft = e
  | [], _, _, i, off, ft, h => by simp at h
  | (o, t) :: l, e, h, i, off, ft, hi => by
    simp only [sameT, Bool.and_eq_true] at h
    cases i with
    | zero => simp at hi; rw [← hi.2]; exact Nat.eq_of_beq_eq_true h.1
    | succ i => exact sameT_sound h.2 i off ft (by simpa using hi)
theorem descB_sound {P : Program} {ti : TI} {d : TypeDesc} (h : descB P ti d = true) : DescOk P ti d := by
  unfold descB at h
  split at h
  · rename_i fs
    intro f off ft hf
    obtain ⟨fd, h1, h2⟩ := fieldsB_sound h f off ft hf
    exact ⟨fd, by simpa using h1, h2⟩
  · simp only [Bool.and_eq_true] at h
    exact ⟨Nat.eq_of_beq_eq_true h.1, sameT_sound h.2⟩
  · simp only [Bool.and_eq_true] at h
    exact ⟨Nat.eq_of_beq_eq_true h.1, Nat.eq_of_beq_eq_true h.2⟩
  · rename_i k
    split at h
    · rename_i k' e
      have := (kindEq_iff _ _).1 h
      subst this
      exact e
    · simp at h
  · split at h
    · rename_i e; exact e
    · simp at h
  · split at h
    · rename_i e; exact e
    · simp at h
  · rename_i h1 h2 h3 h4 h5 h6
    unfold DescOk
    split
    · exact (h1 _ rfl).elim
    · exact (h2 _ _ rfl).elim
    · exact (h3 _ rfl).elim
    · exact (h4 _ rfl).elim
    · exact (h5 rfl).elim
    · exact (h6 rfl).elim
    · trivial
/-- a type whose cells are of one kind alone is of that kind -/
def kindB (ti : TI) (d : TypeDesc) : Bool :=
  match ti.agg, ti.lv with
  | false, [.int k] => match d with | .int k' => kindEq k k' | _ => false
  | false, [.bool] => match d with | .bool => true | _ => false
  | false, [.str] => match d with | .string => true | _ => false
  | _, _ => true
def slB (P : Program) (ti : TI) : TypeDesc → Bool
  | .slice e => Nat.beq e ti.e && (match P.info? e with | some j => Nat.beq j.size ti.ek | none => false)
  | _ => false
def partsB (P : Program) : TypeDesc → Bool
  | .struct fs => infosB P fs.toList
  | _ => true
def arrB : TypeDesc → Bool
  | .array _ _ => true
  | _ => false
def structB : TypeDesc → Bool
  | .struct _ => true
  | _ => false
def zeroOf (ti : TI) (z : Option Value) : Bool :=
  match z with
  | some z => zerosB ti.lv z.cells.toList
  | none => false
def tiB (P : Program) (t : TypeId) (ti : TI) : Bool :=
  match P.underlying t, P.info? t with
  | some d, some i => zeroOf ti i.zero && (Nat.beq i.size ti.lv.length && (Nat.beq i.bytes ti.bytes && (eqBo (aggD d) ti.agg && (descB P ti d && (kindB ti d && (beqL (setOwnL false ti.lv) ti.lv &&
      (partsB P d && ((!ti.arr || arrB d) && ((!(ti.agg && !ti.arr) || structB d) && (!ti.sl || slB P ti d))))))))))
  | _, _ => false
theorem tiB_sound {P : Program} {t : TypeId} {ti : TI} (h : tiB P t ti = true) : TIok P t ti := by
  unfold tiB at h
  split at h
  · rename_i d i hd hi
    simp only [Bool.and_eq_true] at h
    obtain ⟨h1, h2, h3, h4, h5, h6, h7, h8, h9, h10, h11⟩ := h
    have hz : ∃ z, i.zero = some z ∧ z.cells.toList = ti.lv.map zeroV := by
      unfold zeroOf at h1
      split at h1
      · rename_i z hz; exact ⟨z, hz, zerosB_sound h1⟩
      · simp at h1
    obtain ⟨z, z1, z2⟩ := hz
    have hagg : aggD d = ti.agg := by cases ha : aggD d <;> cases hb : ti.agg <;> simp_all [eqBo]
    refine ⟨⟨d, i, z, hd, hi, Nat.eq_of_beq_eq_true h2, Nat.eq_of_beq_eq_true h3, z1, z2, hagg, descB_sound h5⟩, fun ha k hl => ?_, fun ha hl => ?_, beqL_eq _ _ h7, fun fs hfs j fd hj => ?_, fun ha hl => ?_, fun ha => ?_, fun ha hb => ?_, fun hs => ?_⟩
    · simp only [kindB, ha, hl] at h6
      split at h6
      · rename_i k'
        have := (kindEq_iff _ _).1 h6
        subst this
        exact hd
      · simp at h6
    · simp only [kindB, ha, hl] at h6
      split at h6
      · exact hd
      · simp at h6
    · rw [hd] at hfs
      injection hfs with hfs
      subst hfs
      exact infosB_sound h8 j fd (by simpa using hj)
    · simp only [kindB, ha, hl] at h6
      split at h6
      · exact hd
      · simp at h6
    · simp only [ha, Bool.not_true, Bool.false_or] at h9
      cases d <;> simp [arrB] at h9
      exact ⟨_, _, hd⟩
    · simp only [ha, hb, Bool.not_false, Bool.and_self, Bool.not_true, Bool.false_or] at h10
      cases d <;> simp [structB] at h10
      exact ⟨_, hd⟩
    · simp only [hs, Bool.not_true, Bool.false_or] at h11
      unfold slB at h11
      split at h11
      · rename_i e
        simp only [Bool.and_eq_true] at h11
        have he := Nat.eq_of_beq_eq_true h11.1
        subst he
        have h12 := h11.2
        split at h12
        · rename_i j hj; exact ⟨j, hd, hj, Nat.eq_of_beq_eq_true h12⟩
        · simp at h12
      · simp at h11
  · simp at h
def BT.allB {α : Type} (f : Nat → α → Bool) : BT α → Bool
  | .nil => true
  | .node k v l r => f k v && (l.allB f && r.allB f)
theorem BT.look_all {α : Type} {f : Nat → α → Bool} : ∀ {t : BT α} {n : Nat} {v : α}, t.allB f = true → t.look n = some v → f n v = true
  | .nil, n, v, _, h => by simp [BT.look] at h
  | .node k x l r, n, v, h, hl => by
    simp only [BT.allB, Bool.and_eq_true] at h
    simp only [BT.look] at hl
    cases hb : Nat.beq n k with
    | true =>
      rw [hb] at hl
      simp at hl
      subst hl
      rw [Nat.eq_of_beq_eq_true hb]
      exact h.1
    | false =>
      rw [hb] at hl
      simp only [cond_false] at hl
      cases hc : Nat.ble n k with
      | true => rw [hc] at hl; exact BT.look_all h.2.1 hl
      | false => rw [hc] at hl; exact BT.look_all h.2.2 hl
def ptB (P : Program) (t e : TypeId) : Bool :=
  (match P.underlying t with | some (.pointer e') => Nat.beq e' e | _ => false) && (match P.info? t with | some i => Nat.beq i.size 1 && (match i.zero with | some (.pointer none) => true | _ => false) | none => false)
def eqFB (P : Program) : Nat → List Field → Bool
  | _, [] => true
  | j, fd :: l => (!(fd.name == "_")) && (Nat.beq fd.offset j && ((match P.underlying fd.type with | some (.int _) => true | _ => false) && eqFB P (j + 1) l))
def eqB (P : Program) (t : TypeId) : Bool :=
  match P.underlying t, P.info? t with
  | some (.struct fs), some i => Nat.beq i.size fs.size && (!P.stoodInHeld t && (!P.eqGuardType P.depth t && eqFB P 0 fs.toList))
  | _, _ => false
theorem eqFB_sound {P : Program} : ∀ {l : List Field} {n : Nat}, eqFB P n l = true → ∀ (j : Nat) (fd : Field), l[j]? = some fd → fd.name ≠ "_" ∧ fd.offset = n + j ∧ ∃ k, P.underlying fd.type = some (.int k)
  | [], _, _, j, fd, h => by simp at h
  | f :: l, n, h, j, fd, hj => by
    simp only [eqFB, Bool.and_eq_true, Bool.not_eq_true'] at h
    cases j with
    | zero =>
      simp at hj
      subst hj
      refine ⟨fun e => ?_, Nat.eq_of_beq_eq_true h.2.1, ?_⟩
      · have := h.1
        rw [e] at this
        simp at this
      · have h3 := h.2.2.1
        split at h3
        · rename_i k hk; exact ⟨k, hk⟩
        · simp at h3
    | succ j =>
      obtain ⟨g1, g2, g3⟩ := eqFB_sound h.2.2.2 j fd (by simpa using hj)
      exact ⟨g1, by omega, g3⟩
theorem eqB_sound {P : Program} {t : TypeId} (h : eqB P t = true) : EqOk P t := by
  unfold eqB at h
  split at h
  · rename_i fs i h1 h2
    simp only [Bool.and_eq_true, Bool.not_eq_true'] at h
    obtain ⟨g1, g2, g3, g4⟩ := h
    refine ⟨fs, i, h1, h2, Nat.eq_of_beq_eq_true g1, g2, g3, fun j fd hj => ?_⟩
    obtain ⟨k1, k2, k3⟩ := eqFB_sound g4 j fd (by simpa using hj)
    exact ⟨k1, by omega, k3⟩
  · simp at h
/-- all of it -/
def keyB : LT → TypeDesc → Bool
  | .str, .string => true
  | .int k, .int k' => kindEq k k'
  | _, _ => false
def mapB (P : Program) (t : TypeId) (mi : MI) : Bool :=
  (match P.underlying t with | some (.map k e) => Nat.beq k mi.key && Nat.beq e mi.el | _ => false) && ((match P.underlying mi.key with | some d => keyB mi.kk d | _ => false) &&
    (match P.info? mi.el with | some i => (match i.zero with | some z => zeroB mi.ek z | none => false) | none => false))
theorem mapB_sound {P : Program} {t : TypeId} {mi : MI} (h : mapB P t mi = true) : ∃ d, P.underlying t = some (.map mi.key mi.el) ∧ keyDesc mi.kk = some d ∧ P.underlying mi.key = some d ∧ ∃ i, P.info? mi.el = some i ∧ i.zero = some (zeroV mi.ek) := by
  simp only [mapB, Bool.and_eq_true] at h
  obtain ⟨h1, h2, h3⟩ := h
  have e1 : P.underlying t = some (.map mi.key mi.el) := by
    split at h1
    · rename_i k e he
      simp only [Bool.and_eq_true] at h1
      rw [he, Nat.eq_of_beq_eq_true h1.1, Nat.eq_of_beq_eq_true h1.2]
    · simp at h1
  have e3 : ∃ i, P.info? mi.el = some i ∧ i.zero = some (zeroV mi.ek) := by
    split at h3
    · rename_i i hi
      split at h3
      · rename_i z hz
        exact ⟨i, hi, by rw [hz, zeroB_sound h3]⟩
      · simp at h3
    · simp at h3
  split at h2
  · rename_i d hd
    refine ⟨d, e1, ?_, hd, e3⟩
    cases hk : mi.kk <;> rw [hk] at h2 <;> cases d <;> simp [keyB] at h2 <;> simp [keyDesc]
    exact (kindEq_iff _ _).1 h2
  · simp at h2
def envB (P : Program) (E : Env) : Bool := E.mt.allB (mapB P) && (E.tt.allB (tiB P) && (E.pt.allB (ptB P) && allB (eqB P) E.eqt))
theorem envB_sound {P : Program} {E : Env} (h : envB P E = true) : EnvOk P E := by
  simp only [envB, Bool.and_eq_true] at h
  obtain ⟨h0, h1, h2, h3⟩ := h
  refine ⟨fun t mi ht => mapB_sound (BT.look_all h0 ht), fun t ti ht => tiB_sound (BT.look_all h1 ht), fun t e ht => ?_, fun t ht => eqB_sound (allB_mem h3 t (has_iff.1 ht))⟩
  have := BT.look_all h2 ht
  simp only [ptB, Bool.and_eq_true] at this
  obtain ⟨g1, g2⟩ := this
  constructor
  · split at g1
    · rename_i e' he
      rw [he, Nat.eq_of_beq_eq_true g1]
    · simp at g1
  · split at g2
    · rename_i i hi
      simp only [Bool.and_eq_true] at g2
      refine ⟨i, hi, Nat.eq_of_beq_eq_true g2.1, ?_⟩
      have g3 := g2.2
      split at g3
      · assumption
      · simp at g3
    · simp at g2
/-! ### Functions -/
/-- of each function of the environment: its text, its hints -/
abbrev Bodies := BT (Func × Hint)
abbrev Exts := Nat → Option (List D → Option (D × List D))
def ctxN (E : Env) (B : Bodies) (X : Exts) (k : Nat) : Nat → Ctx
  | 0 => fun m xs => match X m with
    | some f => f xs
    | none => none
  | n + 1 => fun m xs => match X m with
    | some f => f xs
    | none => match B.look m, E.sg.look m with
      | some b, some s => match b.1.body with
        | some c => bif b.2.fork then forkA E (ctxN E B X k n) k b.1 c s b.2 xs else bodyA E (ctxN E B X k n) k b.1 c s b.2 xs
        | none => none
      | _, _ => none
/-- the program's function, in the environment -/
def fnB (E : Env) (m : Nat) (b : Func × Hint) : Bool :=
  match b.1.body, E.sg.look m with
  | some c, some s => codeOk E b.2 b.1.ntmps c && (Nat.ble b.1.ntmps 500 && (Nat.ble s.ps.length b.1.ntmps && Nat.ble s.ps.length 100))
  | _, _ => true
/-- of the functions that are called: they have bodies -/
def FnsIn (P : Program) (E : Env) (B : Bodies) (X : Exts) : Prop :=
  (∀ m s, E.sg.look m = some s → ∃ f, P.funcs[s.fn]? = some f ∧ f.name ≠ "runtime.NumGoroutine" ∧ f.body.isNone = false) ∧
  ∀ m s b, X m = none → E.sg.look m = some s → B.look m = some b → P.funcs[s.fn]? = some b.1
theorem ctx_ok {P : Program} {E : Env} {B : Bodies} {X : Exts} {k : Nat} (hE : EnvOk P E) (hmx : P.follows .mixedOrders = true) (hF : FnsIn P E B X) (hB : B.allB (fnB E) = true)
    (hcl : ∀ ctx : Ctx, (∀ m s, E.sg.look m = some s → psOk s.ps = true → FnOk P E ctx m s) → (∀ m s e el f, E.sg.look m = some s → sortPat s.ps = some (e, el, f) → s.rs = [] ∧ SrtOk P ctx m s e el f) → CallsOk P E ctx)
    (hX : ∀ m s f, X m = some f → E.sg.look m = some s → psOk s.ps = true → ∀ ctx : Ctx, (∀ xs, ctx m xs = f xs) → FnOk P E ctx m s)
    (hS : ∀ m s e el f, E.sg.look m = some s → sortPat s.ps = some (e, el, f) → s.rs = [] ∧ ∃ F, X m = some F ∧ ∀ ctx : Ctx, (∀ xs, ctx m xs = F xs) → SrtOk P ctx m s e el f) : ∀ n m s, E.sg.look m = some s → psOk s.ps = true → FnOk P E (ctxN E B X k n) m s := by
  intro n
  induction n with
  | zero =>
    intro m s hm hps
    cases hx : X m with
    | some f => exact hX m s f hx hm hps _ (fun xs => by simp only [ctxN, hx])
    | none => intro xs r hr; simp [ctxN, hx] at hr
  | succ n ih =>
    intro m s hm hps
    cases hx : X m with
    | some f => exact hX m s f hx hm hps _ (fun xs => by simp only [ctxN, hx])
    | none =>
      cases hb : B.look m with
      | none => intro xs r hr; simp [ctxN, hx, hb] at hr
      | some b =>
        cases hc : b.1.body with
        | none => intro xs r hr; simp [ctxN, hx, hb, hm, hc] at hr
        | some c =>
          have hok := BT.look_all hB hb
          simp only [fnB, hc, hm, Bool.and_eq_true] at hok
          obtain ⟨g1, g2, g3, g4⟩ := hok
          have hC : CallsOk P E (ctxN E B X k n) := hcl _ ih fun m' s' e el f hm' hp => by
            obtain ⟨g1, F, g2, g3⟩ := hS m' s' e el f hm' hp
            exact ⟨g1, g3 _ fun xs => by cases n <;> simp only [ctxN, g2]⟩
          cases hfk : b.2.fork with
          | true =>
            refine fork_sound (k := k) (h := b.2) hE hC hmx (fun xs => ?_) (hF.2 m s b hx hm hb) hc g1 (Nat.le_of_ble_eq_true g2) (Nat.le_of_ble_eq_true g3) (Nat.le_of_ble_eq_true g4) hps
            simp only [ctxN, hx, hb, hm, hc, hfk, cond_true]
          | false =>
            refine body_sound (k := k) (h := b.2) hE hC hmx (fun xs => ?_) (hF.2 m s b hx hm hb) hc g1 (Nat.le_of_ble_eq_true g2) (Nat.le_of_ble_eq_true g3) (Nat.le_of_ble_eq_true g4) hps
            simp only [ctxN, hx, hb, hm, hc, hfk, cond_false]
end Go.Eng

namespace Go.Eng
/-- all that there is, is only read -/
noncomputable def Gh.top (w : World) : Gh := { own := fun b => if b < w.heap.size then .fz else .out, H := fun _ _ => .slice none 0 0, B := fun _ => (0, 0) }
theorem Rel.top {w : World} {st : St} {sl : Nat → Option Value} (hb : st.bx = []) (ha : st.ar = []) (hs : ∀ t v, sl t = some v → AOK w (Gh.top w) st (st.sl.get t) v) : Rel w (Gh.top w) st sl :=
  ⟨hs, fun b x h => by rw [hb] at h; simp [look] at h, fun b b' x x' h => by rw [hb] at h; simp [look] at h, fun r a h => by rw [ha] at h; simp [look] at h, fun b hb => by
    simp only [Gh.top] at hb
    split at hb
    · assumption
    · exact absurd rfl hb, fun _ _ => ⟨Option.none, 0, 0, rfl⟩⟩
theorem Fr.below {w w' : World} {G' : Gh} (h : Fr w (Gh.top w) w' G') : Go.RowKit.Below w.heap.size w w' :=
  ⟨h.os, h.tape, h.output, h.size, fun k hk => (h.block k hk (.inr (by simp [Gh.top, hk]))).1⟩
/-! ### Of every row of a table -/
def AllP {α : Type} (Q : Nat → α → Prop) : BT α → Prop
  | .nil => True
  | .node k v l r => Q k v ∧ AllP Q l ∧ AllP Q r
theorem AllP.look {α : Type} {Q : Nat → α → Prop} : ∀ {t : BT α} {n : Nat} {v : α}, AllP Q t → t.look n = some v → Q n v
  | .nil, n, v, _, h => by simp [BT.look] at h
  | .node k x l r, n, v, ⟨h1, h2, h3⟩, h => by
    simp only [BT.look] at h
    cases he : Nat.beq n k with
    | true =>
      rw [he] at h
      simp at h
      subst h
      rw [Nat.eq_of_beq_eq_true he]
      exact h1
    | false =>
      rw [he] at h
      simp only [cond_false] at h
      cases hc : Nat.ble n k with
      | true => rw [hc] at h; exact AllP.look h2 h
      | false => rw [hc] at h; exact AllP.look h3 h
/-- the functions' numbers are those of the table; nothing is sorted in place -/
def sgB (m : Nat) (s : Sig) : Bool := Nat.beq s.fn m && (sortPat s.ps).isNone
def FnIn (P : Program) (m : Nat) (_ : Sig) : Prop := ∃ f, P.funcs[m]? = some f ∧ f.name ≠ "runtime.NumGoroutine" ∧ f.body.isNone = false
def BdIn (P : Program) (m : Nat) (b : Func × Hint) : Prop := P.funcs[m]? = some b.1
theorem codeOk_lv (E : Env) (k : Nat) (T : BT Site) : ∀ n, codeOk (lvE E k T n) = codeOk E
  | 0 => by kernel_rfl
  | n + 1 => by kernel_rfl
theorem fnB_lv (E : Env) (k : Nat) (T : BT Site) : ∀ n, fnB (lvE E k T n) = fnB E
  | 0 => by kernel_rfl
  | n + 1 => by kernel_rfl
theorem env_lv {P : Program} {E : Env} (k : Nat) (T : BT Site) (hE : EnvOk P E) : ∀ n, EnvOk P (lvE E k T n)
  | 0 => ⟨hE.maps, hE.types, hE.ptrs, hE.eqs⟩
  | n + 1 => ⟨hE.maps, hE.types, hE.ptrs, hE.eqs⟩
theorem fnOk_lv {P : Program} {E : Env} {k : Nat} {T : BT Site} {ctx : Ctx} {m : Nat} {s : Sig} (n : Nat) : FnOk P (lvE E k T n) ctx m s ↔ FnOk P E ctx m s := by
  unfold FnOk
  rw [entry_lv]
/-- what is carried out in place: it is in the program; it may be -/
def SiteIn (P : Program) (_ : Nat) (s : Site) : Prop := P.funcs[s.fn]? = some s.f ∧ s.f.name ≠ "runtime.NumGoroutine" ∧ s.f.body = some s.c
def siteB (E : Env) (_ : Nat) (s : Site) : Bool := codeOk E s.h s.f.ntmps s.c && (Nat.ble s.f.ntmps 500 && Nat.ble s.np s.f.ntmps)
theorem plain_ok {P : Program} {E : Env} {B : Bodies} {T : BT Site} {k : Nat} (hE : EnvOk P E) (hmx : P.follows .mixedOrders = true) (hB : B.allB (fnB E) = true) (hs : E.sg.allB sgB = true) (h1 : AllP (FnIn P) E.sg) (h2 : AllP (BdIn P) B) (hT : T.allB (siteB E) = true) (hTi : AllP (SiteIn P) T) (N : Nat) :
    ∀ n m s, E.sg.look m = some s → psOk s.ps = true → FnOk P (lvE E k T N) (ctxN (lvE E k T N) B (fun _ => none) k n) m s := by
  have hfn : ∀ m s, E.sg.look m = some s → s.fn = m ∧ sortPat s.ps = none := fun m s h => by
    have := BT.look_all hs h
    simp only [sgB, Bool.and_eq_true] at this
    exact ⟨Nat.eq_of_beq_eq_true this.1, Option.isNone_iff_eq_none.1 this.2⟩
  have hin : ∀ m s, E.sg.look m = some s → ∃ f, P.funcs[s.fn]? = some f ∧ f.name ≠ "runtime.NumGoroutine" ∧ f.body.isNone = false := fun m s h => by
    rw [(hfn m s h).1]
    exact AllP.look h1 h
  have hcl : ∀ ctx : Ctx, (∀ m s, (lvE E k T N).sg.look m = some s → psOk s.ps = true → FnOk P (lvE E k T N) ctx m s) → (∀ m s e el f, (lvE E k T N).sg.look m = some s → sortPat s.ps = some (e, el, f) → s.rs = [] ∧ SrtOk P ctx m s e el f) → CallsOk P (lvE E k T N) ctx := by
    intro ctx hf hsr
    rw [sg_lv] at hf hsr
    have h0 : CallsOk P (lvE E k T 0) ctx := by
      refine calls_ok (env_lv k T hE 0) (by rw [sg_lv]; exact hin) (fun m s hm hps => ?_) (by rw [sg_lv]; exact hsr) (fun q g hq => by simp [lvE] at hq)
      rw [sg_lv] at hm
      exact (fnOk_lv 0).2 ((fnOk_lv N).1 (hf m s hm hps))
    refine lv_ok hmx (env_lv k T hE) h0 (fun n q s hq => ?_) N
    have hb := BT.look_all hT hq
    obtain ⟨g1, g2, g3⟩ := AllP.look hTi hq
    simp only [siteB, Bool.and_eq_true] at hb
    exact ⟨g1, g2, g3, by rw [codeOk_lv]; exact hb.1, Nat.le_of_ble_eq_true hb.2.1, Nat.le_of_ble_eq_true hb.2.2⟩
  intro n m s hm hps
  refine ctx_ok (env_lv k T hE N) hmx ⟨?_, fun m s b _ h hb => ?_⟩ (by rw [fnB_lv]; exact hB) hcl (fun m s f h => by simp at h) (fun m s e el f h hp => ?_) n m s (by rw [sg_lv]; exact hm) hps
  · rw [sg_lv]; exact hin
  · rw [sg_lv] at h
    rw [(hfn m s h).1]
    exact AllP.look h2 hb
  · rw [sg_lv] at h
    rw [(hfn m s h).2] at hp
    simp at hp
theorem law_sound {P : Program} {E : Env} {ctx : Ctx} {m : Nat} {s : Sig} (hF : FnOk P E ctx m s) (hrs : s.rs = [.val false [.bool]]) {xs : List D} {q : Bool} (hr : ctx m xs = some (.b q, [])) {w : World} {vs : List Value} (hl : vs.length = s.ps.length)
    (hst : ∀ st0, entry E 0 s.ps xs st00 = some st0 → st0.bx = [] ∧ st0.ar = [] ∧ ∀ t v, vs[t]? = some v → AOK w (Gh.top w) st0 (st0.sl.get t) v) :
    Calls P s.fn ⟨vs⟩ w (fun e w' => e = .returned (.bool q) ∧ Go.RowKit.Below w.heap.size w w') := by
  obtain ⟨st0, h1, h2⟩ := hF xs _ hr
  obtain ⟨g1, g2, g3⟩ := hst st0 h1
  refine (h2 w (Gh.top w) vs hl (Rel.top g1 g2 g3)).mono fun e w' he => ?_
  obtain ⟨v, G', rfl, hf, hp⟩ := he
  refine ⟨?_, hf.below⟩
  obtain ⟨ds, n1, b1, n2, b2, o1, _⟩ := hp.ex
  rw [hrs] at o1
  obtain ⟨_, us, os, k1, k2, _⟩ := o1
  simp only [Bool.false_eq_true, if_false] at k1
  subst k1
  obtain ⟨v0, rest, n, ns', e1, e2, e3, e4⟩ := k2
  injection e1 with e1 e5
  subst e1
  have : v = .bool q := e3.2
  rw [this]
end Go.Eng
