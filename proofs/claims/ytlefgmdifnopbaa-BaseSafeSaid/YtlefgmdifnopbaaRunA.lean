/- Part of the proof. -/
import Derived.Test.YtlefgmdifnopbaaEnv

namespace Go.Eng.S
noncomputable def K (n : Nat) : Ctx := ctxN E bodies (fun _ => none) 3000 n
noncomputable def N (c : Int) : Int := wrapA .i64 (1 + wrapA .i64 ((wrapA .u64 c).tmod 16))
def ins (op ty to sy : Int) (nu : Int) (l : List D) : D := .l [.i op, .i ty, .i to, .i sy, .i nu, .l l, .l []]
def mod (k : Nat) (a : D) (x y : Int) : D := .l [.l [], .l [.l [.s [103], .l (List.replicate k (.i 0))]], .l [], .l [.l [.s [102], .b false, .l [], .i 0, .l [.l
  [a, ins 1 1 2 0 x [], ins 19 3 3 0 0 [.i 1, .i 2], ins 1 1 4 0 y [], ins 19 3 5 0 0 [.i 3, .i 4], ins 20 1 6 0 0 [.i 3], ins 20 1 7 0 0 [.i 5], ins 29 0 0 0 0 []]]]]]
def fst (g : Bool) (n : Int) : D := bif g then ins 3 3 1 0 0 [] else ins 18 3 1 0 n []
noncomputable def sig (n : Nat) : Sig := match sigs.look n with | some s => s | none => { fn := 0, ps := [], rs := [] }
noncomputable def cd (f : Func) : Code := match f.body with | some c => c | none => .skip
noncomputable def I (f : Func) (h : Hint) (n : Nat) (xs : List D) : IT (D × List D) := bodyI E h 3000 f (cd f) (sig n) xs
theorem run_of {n m : Nat} {f : Func} {h : Hint} {xs : List D} {tape : List (Nat × An)} {r : D × List D} {obs : List Ob} (hs : K (n + 1) m xs = bodyA E (K n) 3000 f (cd f) (sig m) h xs) (ht : tp (K n) (I f h m xs) 0 tape [] = some (r, obs))
    (ho : ∀ o ∈ obs, o.ok (K n)) : K (n + 1) m xs = some r := hs.trans (body_tape (K n) ht ho)
def inR (x n : Int) : Bool := bif leI 0 x then ltI x n else false
def b6 (a5 : Bool) (x n : Int) : Bool := eqBo a5 (inR x n)
def tape3 (s : Int) (a5 a7 : Bool) : List (Nat × An) := [(0, .r (.b true, [])), (2, .t), (4, .r (.l [.i s, .i 0], [])), (5, .r (.b a5, [])), (6, .t), (7, .r (.b a7, [])), (8, .t), (9, .r (.b false, [])), (10, .t), (11, .r (.b false, []))]
def resOf (r : Option ((D × List D) × List Ob)) : Option (D × List D) := r.map (·.1)
theorem top_true (c x y s : Int) (a5 a7 : Bool) : resOf (tp (K 39) (I Go.Proofs.Try.f3 h3 3 [.i c, .i x, .i y, .b true]) 0 (tape3 s a5 a7) []) =
   some (.b (bif (bif (bif b6 a5 x (N c) then eqBo a7 (inR s (N c)) else false) then true else false) then true else false), []) := by kernel_rfl
end Go.Eng.S

namespace Go.Eng.S
open Go.Proofs.Try
theorem sixteen {p : Int → Nat → Prop} (h : ∀ k : Fin 16, p (Int.ofNat (k.val + 1)) (k.val + 1)) {n : Int} (h1 : 1 ≤ n) (h2 : n ≤ 16) : p n n.toNat := by
  have := h ⟨(n - 1).toNat, by omega⟩
  simp only at this
  rw [show (n - 1).toNat + 1 = n.toNat by omega, show Int.ofNat n.toNat = n by simp; omega] at this
  exact this
theorem shaped_room : ∀ k : Fin 16, K 35 28 [fst false (Int.ofNat (k.val + 1))] = some (.b true, []) := by
  intro k
  obtain ⟨k, hk⟩ := k
  rcases k with _ | _ | _ | _ | _ | _ | _ | _ | _ | _ | _ | _ | _ | _ | _ | _ | k
  all_goals first | exact absurd hk (by omega) | kernel_rfl
theorem shaped_glob (n : Int) : K 35 28 [fst true n] = some (.b true, []) := by kernel_rfl
theorem shaped_ok (g : Bool) {n : Int} (h1 : 1 ≤ n) (h2 : n ≤ 16) : K 35 28 [fst g n] = some (.b true, []) := by
  cases g with
  | true => exact shaped_glob n
  | false => exact sixteen (p := fun n _ => K 35 28 [fst false n] = some (.b true, [])) shaped_room h1 h2
theorem formed_ok (g : Bool) {n : Int} (k : Nat) (x y : Int) (h1 : 1 ≤ n) (h2 : n ≤ 16) : K 36 17 [mod k (fst g n) x y] = some (.b true, []) := by
  refine run_of (f := f17) (h := h17) (tape := [(7, .r (.b true, []))]) (obs := [.cl 28 [fst g n] (.b true, [])]) (by kernel_rfl) (by cases g <;> kernel_rfl) fun o ho => ?_
  simp only [List.mem_singleton] at ho
  subst ho
  exact shaped_ok g h1 h2
end Go.Eng.S

namespace Go.Eng.S
open Go.Proofs.Try
theorem small_room (g : Bool) (x y m : Int) : ∀ k : Fin 16, K 36 16 [mod (k.val + 1) (fst g m) x y] = some (.b true, []) := by
  intro k
  obtain ⟨k, hk⟩ := k
  rcases k with _ | _ | _ | _ | _ | _ | _ | _ | _ | _ | _ | _ | _ | _ | _ | _ | k
  all_goals first | exact absurd hk (by omega) | (cases g <;> kernel_rfl)
theorem small_ok (g : Bool) {n : Int} (x y : Int) (h1 : 1 ≤ n) (h2 : n ≤ 16) : K 36 16 [mod n.toNat (fst g n) x y] = some (.b true, []) :=
  sixteen (p := fun _ k => K 36 16 [mod k (fst g n) x y] = some (.b true, [])) (small_room g x y n) h1 h2
theorem check_ok (g : Bool) {n : Int} (x y : Int) (h1 : 1 ≤ n) (h2 : n ≤ 16) : K 37 14 [mod n.toNat (fst g n) x y] = some (.i 0, []) := by
  refine run_of (f := f14) (h := h14) (tape := [(0, .r (.b true, [])), (2, .r (.b true, []))]) (obs := [.cl 17 [mod n.toNat (fst g n) x y] (.b true, []), .cl 16 [mod n.toNat (fst g n) x y] (.b true, [])]) (by kernel_rfl) (by cases g <;> kernel_rfl) fun o ho => ?_
  simp only [List.mem_cons, List.not_mem_nil, or_false] at ho
  rcases ho with rfl | rfl
  · exact formed_ok g _ x y h1 h2
  · exact small_ok g x y h1 h2
noncomputable def x1 (x : Int) : Int := wrapA .i64 (0 + x)
noncomputable def x2 (x y : Int) : Int := wrapA .i64 (x1 x + y)
def bas (g : Bool) : D := .l [.l [bif g then .l [.i 3, .i 0] else .l [.i 2, .i 1]]]
def base1 (g : Bool) : D := .l [bif g then .l [.i 3, .i 0] else .l [.i 2, .i 1]]
noncomputable def facts (k : Nat) (g : Bool) (n x y : Int) : D := .l [.l [], .l [.l [.s [103], .l (List.replicate k (.i 0))]], .l [], .l [.l [.s [102], .b false, .l [], .i 0, .l [.l
  [fst g n, ins 1 1 2 0 x [], ins 19 3 3 0 0 [.i 1, .i 2], ins 1 1 4 0 y [], ins 19 3 5 0 0 [.i 3, .i 4], ins 20 1 6 0 0 [.i 3], ins 20 1 7 0 0 [.i 5], ins 29 0 0 0 0 []]]]], .l [.b false],
  .l [.l [.l [.i 0, .i 3, .i 1, .i 3, .i 1, .i 3, .i 1, .i 1], .l [.l [], base1 g, .l [], base1 g, .l [], base1 g, .l [], .l []],
    .l [.l [.i 0, .i 0], .l [.i 1, .i 0], .l [.i 0, .i 0], .l [.i 1, .i (x1 x)], .l [.i 0, .i 0], .l [.i 1, .i (x2 x y)], .l [.i 0, .i 0], .l [.i 0, .i 0]],
    .l [ins 0 0 0 0 0 [], fst g n, ins 1 1 2 0 x [], ins 19 3 3 0 0 [.i 1, .i 2], ins 1 1 4 0 y [], ins 19 3 5 0 0 [.i 3, .i 4], ins 20 1 6 0 0 [.i 3], ins 20 1 7 0 0 [.i 5]]]]]
theorem facts_ok (k : Nat) (g : Bool) (n x y : Int) : K 37 15 [mod k (fst g n) x y] = some (.l [facts k g n x y], []) := by
  cases g <;> kernel_rfl
end Go.Eng.S

namespace Go.Eng.S
open Go.Proofs.Try
theorem known_ok (g : Bool) {n : Int} (x y : Int) (h1 : 1 ≤ n) (h2 : n ≤ 16) : K 38 11 [mod n.toNat (fst g n) x y, .i 0] = some (.l [facts n.toNat g n x y], []) := by
  refine run_of (f := f11) (h := h11) (tape := [(0, .r (.i 0, [])), (2, .r (.l [facts n.toNat g n x y], []))]) (obs := [.cl 15 [mod n.toNat (fst g n) x y] (.l [facts n.toNat g n x y], []), .cl 14 [mod n.toNat (fst g n) x y] (.i 0, [])]) (by kernel_rfl) (by cases g <;> kernel_rfl) fun o ho => ?_
  simp only [List.mem_cons, List.not_mem_nil, or_false] at ho
  rcases ho with rfl | rfl
  · exact facts_ok _ g n x y
  · exact check_ok g x y h1 h2
noncomputable def sz (g : Bool) (k : Nat) (n : Int) : Int := bif g then Int.ofNat (List.replicate k (D.i 0)).length else n
theorem s12_5 (k : Nat) (g : Bool) (n x y : Int) : K 38 12 [facts k g n x y, .i 0, ins 20 1 6 0 0 [.i 3]] = some (.b (inR (x1 x) (sz g k n)), []) := by
  cases g <;> kernel_rfl
theorem s12_6 (k : Nat) (g : Bool) (n x y : Int) : K 38 12 [facts k g n x y, .i 0, ins 20 1 7 0 0 [.i 5]] = some (.b (inR (x2 x y) (sz g k n)), []) := by
  cases g <;> kernel_rfl
theorem s12_4 (k : Nat) (g : Bool) (n x y : Int) : K 38 12 [facts k g n x y, .i 0, ins 19 3 5 0 0 [.i 3, .i 4]] = some (.b false, []) := by
  cases g <;> kernel_rfl
theorem safe_of (g : Bool) {n : Int} (x y : Int) (h1 : 1 ≤ n) (h2 : n ≤ 16) (q : Bool) (i : Int) (a : D)
    (hs : K 39 6 [mod n.toNat (fst g n) x y, .i 0, .i 0, .i i] = bodyA E (K 38) 3000 f6 (cd f6) (sig 6) h6 [mod n.toNat (fst g n) x y, .i 0, .i 0, .i i])
    (ht : tp (K 38) (I f6 h6 6 [mod n.toNat (fst g n) x y, .i 0, .i 0, .i i]) 0 [(0, .r (.l [facts n.toNat g n x y], [])), (2, .r (.b q, []))] [] = some ((.b q, []), [.cl 12 [facts n.toNat g n x y, .i 0, a] (.b q, []), .cl 11 [mod n.toNat (fst g n) x y, .i 0] (.l [facts n.toNat g n x y], [])]))
    (h12 : K 38 12 [facts n.toNat g n x y, .i 0, a] = some (.b q, [])) : K 39 6 [mod n.toNat (fst g n) x y, .i 0, .i 0, .i i] = some (.b q, []) := by
  refine run_of hs ht fun o ho => ?_
  simp only [List.mem_cons, List.not_mem_nil, or_false] at ho
  rcases ho with rfl | rfl
  · exact h12
  · exact known_ok g x y h1 h2
theorem safe5 (g : Bool) {n : Int} (x y : Int) (h1 : 1 ≤ n) (h2 : n ≤ 16) : K 39 6 [mod n.toNat (fst g n) x y, .i 0, .i 0, .i 5] = some (.b (inR (x1 x) (sz g n.toNat n)), []) :=
  safe_of g x y h1 h2 _ 5 (ins 20 1 6 0 0 [.i 3]) (by kernel_rfl) (by cases g <;> kernel_rfl) (s12_5 _ g n x y)
theorem safe6 (g : Bool) {n : Int} (x y : Int) (h1 : 1 ≤ n) (h2 : n ≤ 16) : K 39 6 [mod n.toNat (fst g n) x y, .i 0, .i 0, .i 6] = some (.b (inR (x2 x y) (sz g n.toNat n)), []) :=
  safe_of g x y h1 h2 _ 6 (ins 20 1 7 0 0 [.i 5]) (by kernel_rfl) (by cases g <;> kernel_rfl) (s12_6 _ g n x y)
theorem safe4 (g : Bool) {n : Int} (x y : Int) (h1 : 1 ≤ n) (h2 : n ≤ 16) : K 39 6 [mod n.toNat (fst g n) x y, .i 0, .i 0, .i 4] = some (.b false, []) :=
  safe_of g x y h1 h2 _ 4 (ins 19 3 5 0 0 [.i 3, .i 4]) (by kernel_rfl) (by cases g <;> kernel_rfl) (s12_4 _ g n x y)
theorem safe9 (g : Bool) {n : Int} (x y : Int) (h1 : 1 ≤ n) (h2 : n ≤ 16) : K 39 6 [mod n.toNat (fst g n) x y, .i 0, .i 0, .i 9] = some (.b false, []) := by
  refine run_of (f := f6) (h := h6) (tape := [(0, .r (.l [facts n.toNat g n x y], []))]) (obs := [.cl 11 [mod n.toNat (fst g n) x y, .i 0] (.l [facts n.toNat g n x y], [])]) (by kernel_rfl) (by cases g <;> kernel_rfl) fun o ho => ?_
  simp only [List.mem_cons, List.not_mem_nil, or_false] at ho
  rcases ho with rfl
  exact known_ok g x y h1 h2
theorem do_ok (x y : Int) : K 39 5 [.i 4, .i x, .i y] = some (.l [.i (wrapA .i64 (x + y)), .i 0], []) := by kernel_rfl
end Go.Eng.S

namespace Go.Eng.S
theorem first_ok : K 39 4 [] = some (.b true, []) := by kernel_rfl
end Go.Eng.S

namespace Go.Eng.S
open Go.Proofs.Try
theorem N_range (c : Int) : 1 ≤ N c ∧ N c ≤ 16 := by
  have h1 : 0 ≤ wrapA .u64 c := by
    rw [wrapA_eq]
    have := (wrap_range .u64 c).1
    simpa [loK] using this
  have h2 : 0 ≤ (wrapA .u64 c).tmod 16 := Int.tmod_nonneg _ h1
  have h3 : (wrapA .u64 c).tmod 16 < 16 := Int.tmod_lt_of_pos _ (by omega)
  have h4 : wrapA .i64 ((wrapA .u64 c).tmod 16) = (wrapA .u64 c).tmod 16 := by
    rw [wrapA_eq, wrap_in .i64 _ (by simp [loK]; omega) (by simp [hiK]; omega)]
  have h5 : N c = 1 + (wrapA .u64 c).tmod 16 := by
    unfold N
    rw [h4, wrapA_eq, wrap_in .i64 _ (by simp [loK]; omega) (by simp [hiK]; omega)]
  omega
theorem x1_eq {x : Int} (h1 : loK .i64 ≤ x) (h2 : x ≤ hiK .i64) : x1 x = x := by
  unfold x1
  rw [Int.zero_add, wrapA_eq, wrap_in .i64 x h1 h2]
theorem sz_eq (g : Bool) {n : Int} (h : 0 ≤ n) : sz g n.toNat n = n := by
  cases g with
  | false => rfl
  | true =>
    simp only [sz, cond_true, List.length_replicate]
    simp
    omega
noncomputable def sizeOk (n : Int) : Bool := true && (leI 0 n && (eqI n n && (lim n.toNat 8 && true)))
noncomputable def e8 (q5 q6 : Bool) (x s n : Int) : Bool := bif b6 q5 x n then eqBo q6 (inR s n) else false
theorem top_run (g : Bool) (c x y s : Int) (q5 q6 : Bool) : tp (K 39) (I f3 h3 3 [.i c, .i x, .i y, .b g]) 0 (tape3 s q5 q6) [] =
   some ((.b (bif (bif e8 q5 q6 x s (N c) then true else false) then true else false), []),
    [.cl 6 [mod (N c).toNat (fst g (N c)) x y, .i 0, .i 0, .i 9] (.b false, []), .br (bif (bif e8 q5 q6 x s (N c) then true else false) then true else false) true,
     .cl 6 [mod (N c).toNat (fst g (N c)) x y, .i 0, .i 0, .i 4] (.b false, []), .br (bif e8 q5 q6 x s (N c) then true else false) true,
     .cl 6 [mod (N c).toNat (fst g (N c)) x y, .i 0, .i 0, .i 6] (.b q6, []), .br (bif b6 q5 x (N c) then true else false) true,
     .cl 6 [mod (N c).toNat (fst g (N c)) x y, .i 0, .i 0, .i 5] (.b q5, []), .cl 5 [.i 4, .i x, .i y] (.l [.i s, .i 0], []), .br (sizeOk (N c)) true, .cl 4 [] (.b true, [])]) := by
  cases g <;> kernel_rfl
theorem run_ok (c x y : Int) (g : Bool) (h1 : loK .i64 ≤ x) (h2 : x ≤ hiK .i64) : K 40 3 [.i c, .i x, .i y, .b g] = some (.b true, []) := by
  obtain ⟨n1, n2⟩ := N_range c
  have hz := sz_eq g (n := N c) (by omega)
  have hx1 := x1_eq h1 h2
  have hx2 : x2 x y = wrapA .i64 (x + y) := by unfold x2; rw [hx1]
  have hb6 : b6 (inR (x1 x) (sz g (N c).toNat (N c))) x (N c) = true := by
    rw [hx1, hz]
    unfold b6
    cases inR x (N c) <;> rfl
  have he8 : e8 (inR (x1 x) (sz g (N c).toNat (N c))) (inR (x2 x y) (sz g (N c).toNat (N c))) x (wrapA .i64 (x + y)) (N c) = true := by
    unfold e8
    rw [hb6, hx2, hz]
    cases inR (wrapA .i64 (x + y)) (N c) <;> rfl
  have hr := top_run g c x y (wrapA .i64 (x + y)) (inR (x1 x) (sz g (N c).toNat (N c))) (inR (x2 x y) (sz g (N c).toNat (N c)))
  rw [he8] at hr
  refine run_of (f := f3) (h := h3) (by kernel_rfl) hr fun o ho => ?_
  simp only [List.mem_cons, List.not_mem_nil, or_false] at ho
  rcases ho with rfl | rfl | rfl | rfl | rfl | rfl | rfl | rfl | rfl | rfl
  · exact safe9 g x y n1 n2
  · rfl
  · exact safe4 g x y n1 n2
  · rfl
  · exact safe6 g x y n1 n2
  · show (bif b6 _ x (N c) then true else false) = true
    rw [hb6]
    rfl
  · exact safe5 g x y n1 n2
  · exact do_ok x y
  · obtain ⟨m, hm⟩ : ∃ m : Nat, N c = Int.ofNat m := ⟨(N c).toNat, by simp; omega⟩
    have hm16 : m ≤ 16 := by rw [hm] at n2; simp at n2; omega
    show sizeOk (N c) = true
    rw [hm]
    have : m < 17 := by omega
    rcases m with _ | _ | _ | _ | _ | _ | _ | _ | _ | _ | _ | _ | _ | _ | _ | _ | _ | m
    all_goals first | (exfalso; omega) | rfl
  · exact first_ok
end Go.Eng.S
