
/-
  Goroutine 0 beside leavers: Spread, of whose list, where it is empty, nothing need be known. Goroutine 0 beside leavers: the reference, Spread.
  Conditions: stated lemma by lemma.
-/
import Derived.Test.YtboiolnnhmlieaaGc8
import Derived.Test.YtboiolnnhmlieaaGz3
import Derived.Test.YtboiolnnhmlieaaGz1
import Derived.Lib.Hide
namespace Go.Proofs.Ytboiolnnhmlieaa.Gang
open Go.Conc Go.ConcN Go.RowKit Go.Conc.Lib Go.ConcR.Gen Go.ConcN.Gen
set_option linter.unusedVariables false
set_option linter.unusedSimpArgs false
open Go.ConcR (wgBlock WgAt stA smA rd wr KK)
section
variable {X : Cx} {T : Nat} {x : Tl} {w : World}
set_option maxRecDepth 100000 in
set_option maxHeartbeats 4000000 in
theorem find_loop0 (xs : List (Int × Int)) (sl : Option Addr) (cap : Nat) (hlen : xs.length ≤ 4611686018427387904) {b : Frame} {a : Act} {K : List Item} {cs : List Frame} {ops : Array Oper} {i : Nat} {rest : List Nat} : ∀ (m k : Nat), k + m = xs.length → ∀ (X : Cx) (w : World), X.ok w → StepsAt sl xs w → (xs ≠ [] → X.reads sl) →
    (∀ w' (r : Int), Off w.heap.size w w' → decide (0 ≤ r) = (xs.drop k).any bad → Run Try.prog (X.up w'.heap.size) (G (b.at (a.put ((ops[i]?).bind (·.dst)) (.int .i64 r)) (.inRegion ops rest :: K)) cs) w') → ∀ (y4 y5 y6 y9 y10 y11 y12 y13 y14 y15 y16 y17 y18 : Value),
    Run Try.prog X (G ((base 39).at ⟨#[.slice sl xs.length cap, .func (.func 26) #[] #[], undef, undef, y4, y5, y6, .int .i64 (xs.length : Int), .int .i64 (k : Int), y9, y10, y11, y12, y13, y14, y15, y16, y17, y18], []⟩ [.code loop39, .inLoop loop39, .inBlock 0, .code tail39]) (b.at a (.inRegion ops (i :: rest) :: K) :: cs)) w := by
  intro m
  induction m with
  | zero =>
    intro k hk X w hX hst hrd hK y4 y5 y6 y9 y10 y11 y12 y13 y14 y15 y16 y17 y18
    have hlt : decide ((k : Int) < (xs.length : Int)) = false := decide_eq_false (by omega)
    have hlt' : decide (k < xs.length) = false := decide_eq_false (by omega)
    have hK := hK w (-1) (Off.refl _ w) (by rw [List.drop_of_length_le (by omega)]; rfl)
    clear hst hrd
    simp only [loop39, tail39, Try.f39, Option.getD_some]
    repeat first
      | refine Run.seq ?_
      | refine Run.skip ?_
      | refine Run.regionEnd ?_
      | refine Run.block ?_
      | refine Run.inBlock ?_
      | (refine Run.region ?_; simp only [List.size_toArray, List.length_cons, List.length_nil, Nat.reduceAdd, Nat.zero_add, List.range, List.range.loop])
      | (refine Run.cond rfl ?_; simp only [if_true, if_false, Bool.false_eq_true, ↓reduceIte])
      | (refine Run.unwanted rfl rfl ?_; walk_nrm)
      | (refine Run.op0 rfl rfl (by k_ne) (fun d K hK => by go_simp; exact hK) (fun d => by first | (simp [go_sem, *] <;> fail) | fail) ?_; try w_num)
      | refine Run.ret ?_
      | refine Run.fin ?_
      | refine Run.exit rfl ?_
    refine Run.leave1 rfl rfl Try.func39 rfl ?_
    exact Run.up _ hK
  | succ m ih =>
    intro k hk X w hX hst hrd hK y4 y5 y6 y9 y10 y11 y12 y13 y14 y15 y16 y17 y18
    have hkn : k < xs.length := by omega
    have hlt : decide ((k : Int) < (xs.length : Int)) = true := decide_eq_true (by omega)
    have hlt' : decide (k < xs.length) = true := decide_eq_true hkn
    have hu' : (k : Int) < (xs.length : Int) := by omega
    obtain ⟨ar, off, rfl, har, hcs⟩ := hst (by intro e; subst e; simp at hkn)
    obtain ⟨c0, c1⟩ := hcs k hkn
    have hfr : X.free ar := hrd (by intro e; subst e; simp at hkn) ar off rfl
    have hI := ih (k + 1) (by omega)
    have ew : IntKind.i64.wrap ((k : Int) + 1) = ((k + 1 : Nat) : Int) := by
      rw [IntKind.wrap_i64]
      omega
    simp only [loop39, tail39, Try.f39, Option.getD_some] at hI ⊢
    repeat first
      | refine Run.seq ?_
      | refine Run.skip ?_
      | refine Run.regionEnd ?_
      | refine Run.block ?_
      | refine Run.inBlock ?_
      | (refine Run.region ?_; simp only [List.size_toArray, List.length_cons, List.length_nil, Nat.reduceAdd, Nat.zero_add, List.range, List.range.loop])
      | (refine Run.cond rfl ?_; simp only [if_true, if_false, Bool.false_eq_true, ↓reduceIte])
      | (refine Run.unwanted rfl rfl ?_; walk_nrm)
      | (refine Run.op0 rfl rfl (by k_ne) (fun d K hK => by go_simp; exact hK) (fun d => by first | (simp [go_sem, *] <;> fail) | fail) ?_; try w_num)
      | refine Run.ret ?_
      | refine Run.fin ?_
      | refine Run.exit rfl ?_
    refine Run.op w rfl rfl (by k_ne) (fun d K hK => by go_simp; exact hK) (fun d e he => by
      simp [go_sem, *] at he
      rcases he with he | he <;> (subst he; exact evL_free hfr)) ?_
    try w_num
    refine Run.callv rfl rfl (by k_ne) rfl rfl Try.func26 nm26 rfl ?_
    walk_nrmf Try.f26
    have hW := fun (b1 : Frame) (a1 : Act) (k1 : List Item) (cs1 : List Frame) (ops1 : Array Oper) (m1 : Nat) (rest1 : List Nat) => wrong_con (w := w) (X := X) hX (xs[k]).1 (xs[k]).2 (b := b1) (a := a1) (k := k1) (cs := cs1) (ops := ops1) (m := m1) (rest := rest1)
    simp only [Try.f26, Option.getD_some] at hW
    refine hW _ _ _ _ _ _ _ (fun w' hO hs => ?_)
    clear hW
    have hX' : (X.up (w.heap.size + 1)).ok w' := ⟨hX.hears, fun b hb => hX.new b (by omega), by rw [hs]; exact Nat.max_le.2 ⟨by have := hX.low; omega, Nat.le_refl _⟩⟩
    have hup : ∀ w'', Off w'.heap.size w' w'' → (X.up (w.heap.size + 1)).up w''.heap.size = X.up w''.heap.size := fun w'' h => X.up_up (by have := h.size; omega)
    have hdr : (xs.drop k).any bad = (bad xs[k] || (xs.drop (k + 1)).any bad) := by
      rw [List.drop_eq_getElem_cons hkn]; rfl
    have hOO : ∀ w'', Off w'.heap.size w' w'' → Off w.heap.size w w'' := fun w'' h => hO.trans h.any
    have hK1 : bad xs[k] = true → Run Try.prog (X.up (w.heap.size + 1)) (G (b.at (a.put ((ops[i]?).bind (·.dst)) (.int .i64 (k : Int))) (.inRegion ops rest :: K)) cs) w' := fun hb => by
      have := hK w' (k : Int) hO (by rw [hdr, hb]; simp)
      rwa [hs] at this
    have hI := hI (X.up (w.heap.size + 1)) w' hX' (StepsAt.keep hst hO.size (fun ar' off' e => hO.block ar' (by obtain ⟨_, _, e', h', _⟩ := hst (by intro e; subst e; simp at hkn); cases e; cases e'; exact h') (by obtain ⟨_, _, e', h', _⟩ := hst (by intro e; subst e; simp at hkn); cases e; cases e'; omega))) (fun hne ar' off' e => Cx.free_up (hrd hne ar' off' e))
    have hI2 := fun hb : bad xs[k] = false => hI (fun w'' r h1 h2 => by
      rw [hup w'' h1]
      exact hK w'' r (hOO w'' h1) (by rw [h2, hdr, hb]; simp))
    clear hI hOO hdr hup hX' hO hs hcs hst hrd hK hX
    walk_nrm
    cases hb : bad xs[k] with
    | true =>
      have hK1 := hK1 hb
      clear hI2
      repeat first
        | refine Run.seq ?_
        | refine Run.skip ?_
        | refine Run.regionEnd ?_
        | refine Run.block ?_
        | refine Run.inBlock ?_
        | (refine Run.region ?_; simp only [List.size_toArray, List.length_cons, List.length_nil, Nat.reduceAdd, Nat.zero_add, List.range, List.range.loop])
        | (refine Run.cond rfl ?_; simp only [if_true, if_false, Bool.false_eq_true, ↓reduceIte])
        | (refine Run.unwanted rfl rfl ?_; walk_nrm)
        | (refine Run.op0 rfl rfl (by k_ne) (fun d K hK => by go_simp; exact hK) (fun d => by first | (simp [go_sem, *] <;> fail) | fail) ?_; try w_num)
        | refine Run.ret ?_
        | refine Run.fin ?_
        | refine Run.exit rfl ?_
      refine Run.leave1 rfl rfl Try.func39 rfl ?_
      exact hK1
    | false =>
      have hI2 := hI2 hb
      clear hK1
      repeat first
        | refine Run.seq ?_
        | refine Run.skip ?_
        | refine Run.regionEnd ?_
        | refine Run.block ?_
        | refine Run.inBlock ?_
        | (refine Run.region ?_; simp only [List.size_toArray, List.length_cons, List.length_nil, Nat.reduceAdd, Nat.zero_add, List.range, List.range.loop])
        | (refine Run.cond rfl ?_; simp only [if_true, if_false, Bool.false_eq_true, ↓reduceIte])
        | (refine Run.unwanted rfl rfl ?_; walk_nrm)
        | (refine Run.op0 rfl rfl (by k_ne) (fun d K hK => by go_simp; exact hK) (fun d => by first | (simp [go_sem, *] <;> fail) | fail) ?_; try w_num)
        | refine Run.ret ?_
        | refine Run.fin ?_
        | refine Run.exit rfl ?_
      first | rw [ew] | rw [show (k : Int) + 1 = ((k + 1 : Nat) : Int) by omega]
      refine Run.inLoop ?_
      exact hI2 _ _ _ _ _ _ _ _ _ _ _ _ _
set_option maxRecDepth 100000 in
set_option maxHeartbeats 4000000 in
theorem index_con0 (xs : List (Int × Int)) (sl : Option Addr) (cap : Nat) (hlen : xs.length ≤ 4611686018427387904) (hX : X.ok w) (hst : StepsAt sl xs w) (hrd : xs ≠ [] → X.reads sl) :
    Con Try.prog X 39 #[.slice sl xs.length cap, .func (.func 26) #[] #[]] w (fun X' v w' => ∃ r : Int, X' = X.up w'.heap.size ∧ v = .int .i64 r ∧ Off w.heap.size w w' ∧ decide (0 ≤ r) = xs.any bad) := by
  refine ⟨Try.f39, _, Try.func39, nm39, rfl, fun b₀ a₀ ops₀ n₀ rest₀ k₀ cs hK => ?_⟩
  walk_nrmf Try.f39
  have hL := find_loop0 xs sl cap hlen (b := b₀) (a := a₀) (K := k₀) (cs := cs) (ops := ops₀) (i := n₀) (rest := rest₀) xs.length 0 (by omega) X w hX hst hrd (fun w' r h1 h2 => hK _ _ _ ⟨r, rfl, rfl, h1, by rw [h2]; rfl⟩)
  clear hK hX hst hrd
  simp only [loop39, tail39, Try.f39, Option.getD_some] at hL
  repeat first
    | refine Run.seq ?_
    | refine Run.skip ?_
    | refine Run.regionEnd ?_
    | refine Run.block ?_
    | refine Run.inBlock ?_
    | (refine Run.region ?_; simp only [List.size_toArray, List.length_cons, List.length_nil, Nat.reduceAdd, Nat.zero_add, List.range, List.range.loop])
    | (refine Run.cond rfl ?_; simp only [if_true, if_false, Bool.false_eq_true, ↓reduceIte])
    | (refine Run.unwanted rfl rfl ?_; walk_nrm)
    | (refine Run.op0 rfl rfl (by k_ne) (fun d K hK => by go_simp; exact hK) (fun d => by first | (simp [go_sem, *] <;> fail) | fail) ?_; try w_num)
    | refine Run.ret ?_
    | refine Run.fin ?_
    | refine Run.exit rfl ?_
  refine Run.loop ?_
  exact hL _ _ _ _ _ _ _ _ _ _ _ _ _
set_option maxRecDepth 100000 in
set_option maxHeartbeats 4000000 in
theorem contains_con0 (xs : List (Int × Int)) (sl : Option Addr) (cap : Nat) (hlen : xs.length ≤ 4611686018427387904) (hX : X.ok w) (hst : StepsAt sl xs w) (hrd : xs ≠ [] → X.reads sl) :
    Con Try.prog X 27 #[.slice sl xs.length cap, .func (.func 26) #[] #[]] w (fun X' v w' => X' = X.up w'.heap.size ∧ v = .bool (xs.any bad) ∧ Off w.heap.size w w') := by
  have hI := index_con0 xs sl cap hlen hX hst hrd
  refine ⟨Try.f27, _, Try.func27, nm27, rfl, fun b₀ a₀ ops₀ n₀ rest₀ k₀ cs hK => ?_⟩
  walk_nrmf Try.f27
  clear hX hst hrd
  repeat first
    | refine Run.seq ?_
    | refine Run.skip ?_
    | refine Run.regionEnd ?_
    | refine Run.block ?_
    | refine Run.inBlock ?_
    | (refine Run.region ?_; simp only [List.size_toArray, List.length_cons, List.length_nil, Nat.reduceAdd, Nat.zero_add, List.range, List.range.loop])
    | (refine Run.cond rfl ?_; simp only [if_true, if_false, Bool.false_eq_true, ↓reduceIte])
    | (refine Run.unwanted rfl rfl ?_; walk_nrm)
    | (refine Run.op0 rfl rfl (by k_ne) (fun d K hK => by go_simp; exact hK) (fun d => by first | (simp [go_sem, *] <;> fail) | fail) ?_; try w_num)
    | refine Run.ret ?_
    | refine Run.fin ?_
    | refine Run.exit rfl ?_
  refine Run.con hI rfl rfl (by k_ne) rfl (by simp only [List.map_toArray, List.map_cons, List.map_nil]; rfl) (fun X' v w' hr => ?_)
  obtain ⟨r, rfl, rfl, h1, h2⟩ := hr
  have hK := hK _ _ _ ⟨rfl, rfl, h1⟩
  rw [← h2] at hK
  clear h1 h2 hI
  walk_nrm
  repeat first
    | refine Run.seq ?_
    | refine Run.skip ?_
    | refine Run.regionEnd ?_
    | refine Run.block ?_
    | refine Run.inBlock ?_
    | (refine Run.region ?_; simp only [List.size_toArray, List.length_cons, List.length_nil, Nat.reduceAdd, Nat.zero_add, List.range, List.range.loop])
    | (refine Run.cond rfl ?_; simp only [if_true, if_false, Bool.false_eq_true, ↓reduceIte])
    | (refine Run.unwanted rfl rfl ?_; walk_nrm)
    | (refine Run.op0 rfl rfl (by k_ne) (fun d K hK => by go_simp; exact hK) (fun d => by first | (simp [go_sem, *] <;> fail) | fail) ?_; try w_num)
    | refine Run.ret ?_
    | refine Run.fin ?_
    | refine Run.exit rfl ?_
  refine Run.leave1 rfl rfl Try.func27 rfl ?_
  exact hK
set_option maxRecDepth 100000 in
set_option maxHeartbeats 8000000 in
theorem spread_hi0 (xs : List (Int × Int)) {N : Nat} {sl : Option Addr} {cap : Nat} {n : Nat} (hn1 : 1 ≤ n) (hn16 : n ≤ 16) (hlen : xs.length ≤ 1152921504606846976) (hX : X.ok w) (hm : ∀ l : Loc, l.isMemory = false → X.Sh l) (hT : X.free T) (hN : N + 2 < w.heap.size) (hTN : T < N) (hTl : TlAt T x w) (hwf : ∀ c, w64 (x.cs c) = x.cs c) (hst : StepsAt sl xs w) (hrd : xs ≠ [] → X.reads sl) (hna : xs ≠ [] → ∀ ar off, sl = some ⟨ar, off, none⟩ → ar ≠ T)
    (hB : Boxes T N sl xs.length cap n w) (g1 : X.free N) (g2 : X.free (N + 1)) (g3 : X.free (N + 2)) {b : Frame} {a : Act} {k : List Item} {cs : List Frame} {ops : Array Oper} {i : Nat} {rest : List Nat}
    (hK1 : ∀ w', xs.any bad = true → Off w.heap.size w w' → Run Try.prog (X.up w'.heap.size) (G (b.at (a.put ((ops[i]?).bind (·.dst)) (.int .i64 1)) (.inRegion ops rest :: k)) cs) w')
    (hK2 : ∀ X' w', xs.any bad = false → X.Next w X' w' → Off T w w' → TlAt T (x.spread xs) w' → Run Try.prog X' (G (b.at (a.put ((ops[i]?).bind (·.dst)) (.int .i64 0)) (.inRegion ops rest :: k)) cs) w') :
    Run Try.prog X (G ((base 12).at ⟨#[.pointer (some ⟨T, 0, none⟩), .slice sl xs.length cap, .int .i64 (n : Int), .pointer (some ⟨N, 0, none⟩), .pointer (some ⟨N + 1, 0, none⟩), .pointer (some ⟨N + 2, 0, none⟩), .int .i64 0, .func (.func 26) #[] #[], undef, undef, undef, undef, undef, undef, undef, undef, undef, undef, undef, undef, undef, undef, undef, undef, undef, undef, undef, undef, undef, undef, undef, undef, undef], []⟩ [.code code12, .code more12]) (b.at a (.inRegion ops (i :: rest) :: k) :: cs)) w := by
  have evn := ev_nilptr ⟨T, 0, none⟩
  have hC := contains_con0 xs sl cap (by omega) hX hst hrd
  have d1 : decide ((n : Int) < 1) = false := decide_eq_false (by omega)
  have d2 : decide ((16 : Int) < (n : Int)) = false := decide_eq_false (by omega)
  obtain ⟨c1, c2, c3⟩ := id hB
  simp only [code12, more12, Try.f12, Option.getD_some]
  repeat first
    | refine Run.seq ?_
    | refine Run.skip ?_
    | refine Run.regionEnd ?_
    | refine Run.block ?_
    | refine Run.inBlock ?_
    | (refine Run.region ?_; simp only [List.size_toArray, List.length_cons, List.length_nil, Nat.reduceAdd, Nat.zero_add, List.range, List.range.loop])
    | (refine Run.cond rfl ?_; simp only [if_true, if_false, Bool.false_eq_true, ↓reduceIte])
    | (refine Run.unwanted rfl rfl ?_; walk_nrm)
    | (refine Run.op0 rfl rfl (by k_ne) (fun d K hK => by go_simp; exact hK) (fun d => by first | (simp [go_sem, *] <;> fail) | fail) ?_; try w_num)
    | refine Run.ret ?_
    | refine Run.fin ?_
    | refine Run.exit rfl ?_
    | ((refine Run.op w rfl rfl (by k_ne) (fun d K hK => by go_simp; exact hK) (fun d e he => by simp [go_sem, *] at he; subst he; first | exact evL_free g1 | exact evL_free g2 | exact evL_free g3) ?_; try w_num))
  refine Run.con hC rfl rfl (by k_ne) rfl (by simp only [List.map_toArray, List.map_cons, List.map_nil]; rfl) (fun X' v w1 hr => ?_)
  obtain ⟨rfl, rfl, hO⟩ := hr
  have hK1 := fun hb => hK1 w1 hb hO
  walk_nrm
  cases hb : xs.any bad with
  | true =>
    have hK1 := hK1 hb
    clear hK2 hO hC hst hrd hX hTl hwf hB c1 c2 c3
    repeat first
      | refine Run.seq ?_
      | refine Run.skip ?_
      | refine Run.regionEnd ?_
      | refine Run.block ?_
      | refine Run.inBlock ?_
      | (refine Run.region ?_; simp only [List.size_toArray, List.length_cons, List.length_nil, Nat.reduceAdd, Nat.zero_add, List.range, List.range.loop])
      | (refine Run.cond rfl ?_; simp only [if_true, if_false, Bool.false_eq_true, ↓reduceIte])
      | (refine Run.unwanted rfl rfl ?_; walk_nrm)
      | (refine Run.op0 rfl rfl (by k_ne) (fun d K hK => by go_simp; exact hK) (fun d => by first | (simp [go_sem, *] <;> fail) | fail) ?_; try w_num)
      | refine Run.ret ?_
      | refine Run.fin ?_
      | refine Run.exit rfl ?_
    refine Run.leave1 rfl rfl Try.func12 rfl ?_
    exact hK1
  | false =>
    clear hK1 hC
    have hB1 : Boxes T N sl xs.length cap n w1 := hB.keep fun b _ h => hO.block b (by omega) (by omega)
    obtain ⟨e1, e2, e3⟩ := id hB1
    have k3 : (X.up w1.heap.size).free (N + 2) := Cx.free_up g3
    repeat first
      | refine Run.seq ?_
      | refine Run.skip ?_
      | refine Run.regionEnd ?_
      | refine Run.block ?_
      | refine Run.inBlock ?_
      | (refine Run.region ?_; simp only [List.size_toArray, List.length_cons, List.length_nil, Nat.reduceAdd, Nat.zero_add, List.range, List.range.loop])
      | (refine Run.cond rfl ?_; simp only [if_true, if_false, Bool.false_eq_true, ↓reduceIte])
      | (refine Run.unwanted rfl rfl ?_; walk_nrm)
      | (refine Run.op0 rfl rfl (by k_ne) (fun d K hK => by go_simp; exact hK) (fun d => by first | (simp [go_sem, *] <;> fail) | fail) ?_; try w_num)
      | refine Run.ret ?_
      | refine Run.fin ?_
      | refine Run.exit rfl ?_
    refine Run.op (w1.alloc (wgBlock 76 0 0)) rfl rfl (by k_ne) (fun d K hK => by go_simp; exact hK) (fun d e he => by simp [go_sem] at he) ?_
    have sz2 : (w1.alloc (wgBlock 76 0 0)).heap.size = w1.heap.size + 1 := World.size_alloc ..
    have hw2 : WgAt 76 w1.heap.size (w1.alloc (wgBlock 76 0 0)) 0 0 := by
      unfold WgAt World.alloc
      simp
    have lo2 : ∀ b, b < w1.heap.size → (w1.alloc (wgBlock 76 0 0)).heap[b]? = w1.heap[b]? := fun b h => Below.heap_alloc _ _ _ h
    have hB2 : Boxes T N sl xs.length cap n (w1.alloc (wgBlock 76 0 0)) := hB1.keep fun b _ h => lo2 b (by have := hO.size; omega)
    have so2 : SameOut w1 (w1.alloc (wgBlock 76 0 0)) := ⟨rfl, rfl, rfl⟩
    generalize w1.alloc (wgBlock 76 0 0) = w2 at sz2 hw2 lo2 hB2 so2 ⊢
    obtain ⟨f1, f2, f3⟩ := id hB2
    try walk_nrm
    repeat first
      | refine Run.seq ?_
      | refine Run.skip ?_
      | refine Run.regionEnd ?_
      | refine Run.block ?_
      | refine Run.inBlock ?_
      | (refine Run.region ?_; simp only [List.size_toArray, List.length_cons, List.length_nil, Nat.reduceAdd, Nat.zero_add, List.range, List.range.loop])
      | (refine Run.cond rfl ?_; simp only [if_true, if_false, Bool.false_eq_true, ↓reduceIte])
      | (refine Run.unwanted rfl rfl ?_; walk_nrm)
      | (refine Run.op0 rfl rfl (by k_ne) (fun d K hK => by go_simp; exact hK) (fun d => by first | (simp [go_sem, *] <;> fail) | fail) ?_; try w_num)
      | refine Run.ret ?_
      | refine Run.fin ?_
      | refine Run.exit rfl ?_
      | (refine Run.op w2 rfl rfl (by k_ne) (fun d K hK => by go_simp; exact hK) (fun d e he => by simp [go_sem, *] at he; subst he; exact evL_free k3) ?_; try w_num)
    refine Run.loop ?_
    have hle := hO.size
    have hlow := hX.low
    have hTB := hT.1
    have hg1 := g1.1
    have hg3 := g3.1
    have hpre : SpPre (X.up w1.heap.size) T w2.heap.size n w1.heap.size (nats xs) w2 N (N + 1) (N + 2) sl cap := {
      n1 := hn1
      n16 := hn16
      len := by rw [nats_len]; exact hlen
      h8 := fun s hs => by
        obtain ⟨j, hj, rfl⟩ := List.getElem_of_mem hs
        exact (nats_get hb hj (by rwa [nats_len] at hj)).2.2
      size := rfl
      tT := by omega
      tW := by omega
      ne := by omega
      clean := hT.2
      mem := hm
      box := fun c hc => ⟨by omega, by omega, by omega, by rcases hc with rfl | rfl | rfl <;> first | exact g1.2 | exact g2.2 | exact g3.2⟩
      ct := f1
      csl := by rw [nats_len]; exact f2
      cn := f3
      new := fun c hc o => hX.new c (by omega) o
      lent := fun hne => by
        obtain ⟨ar, off, e, har, hcs⟩ := hst (by intro h; subst h; exact hne rfl)
        have hfr := hrd (by intro h; subst h; exact hne rfl) ar off e
        refine ⟨ar, off, e, by omega, hna (by intro h; subst h; exact hne rfl) ar off e, by omega, hfr.2, fun j hj => ?_⟩
        have hj' : j < xs.length := by rwa [nats_len] at hj
        obtain ⟨m1, m2, _⟩ := nats_get hb hj hj'
        have hh : w2.heap[ar]? = w.heap[ar]? := (lo2 ar (by omega)).trans (hO.block ar har (by omega))
        rw [m1, m2]
        exact ⟨(cell_heap hh).trans (hcs j hj').1, (cell_heap hh).trans (hcs j hj').2⟩ }
    have hKp : ∀ d, Kp T w2.heap.size w1.heap.size w2 0 (w2.at d) := fun d => ⟨SameOut.at _ _, rfl, ⟨_, _, hw2⟩, fun _ _ _ => rfl⟩
    have hL := fun d => spLoop (r := x.rest) (x := ⟨x.cs, x.most⟩) (b₀ := b) (a₀ := a) (ops₀ := ops) (n₀ := i) (rest₀ := rest) (k₀ := k) (cs := cs) hpre n 0 (by omega) (w2.at d) (hKp d)
    simp only [if_pos (show 0 < n by omega), loop12, rest12, Try.f12, Option.getD_some] at hL
    refine Run.phase (spFit (r := x.rest) (x := ⟨x.cs, x.most⟩) (b₀ := b) (a₀ := a) (ops₀ := ops) (n₀ := i) (rest₀ := rest) (k₀ := k) (cs := cs) hpre) (x0 := ⟨x.cs, x.most⟩) hX.hears rfl (fun l hl => ?_) (fun l hl => .inl hl) ?_ ?_ (fun w' hw' => ?_) ⟨by
      have e : ((0 : Nat) : Int) * KK + ((0 : Nat) : Int) = 0 := by simp
      show WgAt 76 w1.heap.size w2 (((0 : Nat) : Int) * KK + ((0 : Nat) : Int)) _
      rw [e]
      exact hw2, ?_⟩ (spStart hn1 hwf) (fun a' w' x' h1 h2 h3 h4 => ?_)
    · rcases hl with hl | ⟨c, e, he⟩
      · exact .inl hl
      · exact .inr ⟨c, e, by rw [he]; exact Nat.max_le.2 ⟨by omega, Nat.le_refl _⟩⟩
    · exact Nat.max_le.2 ⟨by show X.B ≤ w1.heap.size; omega, Nat.le_refl _⟩
    · exact Nat.max_le.2 ⟨by show X.B ≤ w2.heap.size + n; omega, by show w1.heap.size ≤ w2.heap.size + n; omega⟩
    · obtain ⟨d, rfl⟩ := hw'
      exact hL d _ _ _ _ _ _ _ _ _ _ _ _ _ _ _ _ _ _ _ _ _ _ _ _ _ _ _
    · show TalAt 67 T x.rest ⟨x.cs, x.most⟩ w2
      unfold TalAt
      rw [lo2 T (by omega), hO.block T (by omega) (by omega)]
      exact hTl
    · obtain ⟨⟨v, rfl⟩, hK⟩ := h4
      obtain ⟨q1, q2⟩ := spEnds h3
      have hx : x' = ⟨spGoal (nats xs) ⟨x.cs, x.most⟩, spTop (nats xs) ⟨x.cs, x.most⟩⟩ := by
        cases x'
        simp only at q1 q2
        subst q1
        congr 1
        exact funext q2
      subst hx
      have hsz := hK.size
      have hK2 := hK2 { X.up w1.heap.size with Sh := fun l => X.Sh l ∨ ∃ c : Addr, l = .cell c ∧ c.block = w1.heap.size, B := w2.heap.size + n, c := X.c + n } w' hb ⟨rfl, hX.hears, hsz.symm, fun l hl => by
          rcases hl with hl | ⟨c, e, he⟩
          · exact .inl hl
          · exact .inr ⟨c, e, by omega, by omega⟩, fun l hl => .inl hl, by omega⟩
        ⟨hK.out.tape.trans (so2.tape.trans hO.tape), hK.out.os.trans (so2.os.trans hO.os), hK.out.output.trans (so2.output.trans hO.output), by omega, fun c hc hn => (hK.low c (by omega) (by omega)).trans ((lo2 c (by omega)).trans (hO.block c hc (by omega)))⟩ h2.2
      rw [T33_set]
      simp only [ops11, tail12, rest12, Try.f12, Option.getD_some]
      clear hK hsz h3 hL hKp hpre h2 hst hrd hX hTl hwf hB hB1 hB2 hO lo2 so2 hw2 c1 c2 c3 e1 e2 e3 f1 f2 f3
      repeat first
        | refine Run.seq ?_
        | refine Run.skip ?_
        | refine Run.regionEnd ?_
        | refine Run.block ?_
        | refine Run.inBlock ?_
        | (refine Run.region ?_; simp only [List.size_toArray, List.length_cons, List.length_nil, Nat.reduceAdd, Nat.zero_add, List.range, List.range.loop])
        | (refine Run.cond rfl ?_; simp only [if_true, if_false, Bool.false_eq_true, ↓reduceIte])
        | (refine Run.unwanted rfl rfl ?_; walk_nrm)
        | (refine Run.op0 rfl rfl (by k_ne) (fun d K hK => by go_simp; exact hK) (fun d => by first | (simp [go_sem, *] <;> fail) | fail) ?_; try w_num)
        | refine Run.ret ?_
        | refine Run.fin ?_
        | refine Run.exit rfl ?_
      refine Run.leave1 rfl rfl Try.func12 rfl ?_
      exact hK2
set_option maxRecDepth 100000 in
set_option maxHeartbeats 8000000 in
theorem spread_con0 (xs : List (Int × Int)) {sl : Option Addr} {cap : Nat} {n : Int} (hlen : xs.length ≤ 1152921504606846976) (hX : X.ok w) (hm : ∀ l : Loc, l.isMemory = false → X.Sh l) (hT : X.free T) (hTl : TlAt T x w) (hwf : ∀ c, w64 (x.cs c) = x.cs c) (hst : StepsAt sl xs w) (hrd : xs ≠ [] → X.reads sl) (hna : xs ≠ [] → ∀ ar off, sl = some ⟨ar, off, none⟩ → ar ≠ T) :
    Con Try.prog X 12 #[.pointer (some ⟨T, 0, none⟩), .slice sl xs.length cap, .int .i64 n] w (fun X' v w' => X.Next w X' w' ∧ Off T w w' ∧ ((SpreadOk xs n ∧ v = .int .i64 0 ∧ TlAt T (x.spread xs) w') ∨ (¬ SpreadOk xs n ∧ v = .int .i64 1 ∧ TlAt T x w'))) := by
  have hlow := hX.low
  have hTB := hT.1
  refine ⟨Try.f12, _, Try.func12, nm12, rfl, fun b₀ a₀ ops₀ n₀ rest₀ k₀ cs hK => ?_⟩
  walk_nrmf Try.f12
  refine Run.up (w.heap.size + 3) ?_
  have Y0 : (X.up (w.heap.size + 3)).B = w.heap.size + 3 := Nat.max_eq_right (by omega)
  have g1 : (X.up (w.heap.size + 3)).free w.heap.size := ⟨by rw [Y0]; omega, hX.new _ (Nat.le_refl _)⟩
  have g2 : (X.up (w.heap.size + 3)).free (w.heap.size + 1) := ⟨by rw [Y0]; omega, hX.new _ (by omega)⟩
  have g3 : (X.up (w.heap.size + 3)).free (w.heap.size + 2) := ⟨by rw [Y0]; omega, hX.new _ (by omega)⟩
  refine Run.seq ?_
  refine Run.region ?_
  simp only [List.size_toArray, List.length_cons, List.length_nil, Nat.reduceAdd, Nat.zero_add, List.range, List.range.loop]
  refine Run.op (w.alloc (.cells #[.pointer (some ⟨T, 0, none⟩)] 24)) rfl rfl (by k_ne) (fun d K hK => by go_simp; exact hK) (fun d e he => by simp [go_sem] at he) ?_
  try w_num
  refine Run.op ((w.alloc (.cells #[.pointer (some ⟨T, 0, none⟩)] 24)).alloc (.cells #[.slice sl xs.length cap] 32)) rfl rfl (by k_ne) (fun d K hK => by go_simp; exact hK) (fun d e he => by simp [go_sem] at he) ?_
  try w_num
  refine Run.op (((w.alloc (.cells #[.pointer (some ⟨T, 0, none⟩)] 24)).alloc (.cells #[.slice sl xs.length cap] 32)).alloc (.cells #[.int .i64 n] 3)) rfl rfl (by k_ne) (fun d K hK => by go_simp; exact hK) (fun d e he => by simp [go_sem] at he) ?_
  try w_num
  have hBx := Boxes.new T sl xs.length cap n w
  have hO : Off w.heap.size w (((w.alloc (.cells #[.pointer (some ⟨T, 0, none⟩)] 24)).alloc (.cells #[.slice sl xs.length cap] 32)).alloc (.cells #[.int .i64 n] 3)) := (Off.alloc _ w _).trans ((Off.alloc _ _ _).trans (Off.alloc _ _ _))
  have hs : (((w.alloc (.cells #[.pointer (some ⟨T, 0, none⟩)] 24)).alloc (.cells #[.slice sl xs.length cap] 32)).alloc (.cells #[.int .i64 n] 3)).heap.size = w.heap.size + 3 := by rw [World.size_alloc, World.size_alloc, World.size_alloc]
  try simp only [World.size_alloc]
  generalize (((w.alloc (.cells #[.pointer (some ⟨T, 0, none⟩)] 24)).alloc (.cells #[.slice sl xs.length cap] 32)).alloc (.cells #[.int .i64 n] 3)) = w3 at hBx hO hs ⊢
  have hX3 : (X.up (w.heap.size + 3)).ok w3 := ⟨hX.hears, fun b hb o => hX.new b (by omega) o, by rw [Y0]; omega⟩
  have hTl3 : TlAt T x w3 := by
    unfold TlAt TalAt
    rw [hO.block T (by omega) (by omega)]
    exact hTl
  have hst3 := hst.off hO
  have hrd3 : xs ≠ [] → (X.up (w.heap.size + 3)).reads sl := fun hne ar off e => Cx.free_up (hrd hne ar off e)
  refine Run.op0 rfl rfl (by k_ne) (fun d K hK => by go_simp; exact hK) (fun d => by simp [go_sem]) ?_
  try w_num
  refine Run.regionEnd ?_
  refine Run.seq ?_
  refine Run.region ?_
  simp only [List.size_toArray, List.length_cons, List.length_nil, Nat.reduceAdd, Nat.zero_add, List.range, List.range.loop]
  refine Run.op0 rfl rfl (by k_ne) (fun d K hK => by go_simp; exact hK) (fun d => by simp [go_sem]) ?_
  try w_num
  refine Run.regionEnd ?_
  refine Run.seq ?_
  have hup : ∀ w' : World, w3.heap.size ≤ w'.heap.size → (X.up (w.heap.size + 3)).up w'.heap.size = X.up w'.heap.size := fun w' h => X.up_up (by omega)
  have hOT : ∀ w', Off w3.heap.size w3 w' → Off T w w' := fun w' h => (hO.more h).any
  by_cases hn : n < 1 ∨ 16 < n
  · have hno : ¬ SpreadOk xs n := fun h => by obtain ⟨h1, h2, _⟩ := h; omega
    have hL := spread_lo (X := X.up (w.heap.size + 3)) xs hn hBx g1 g2 g3 (b := b₀) (a := a₀) (k := k₀) (cs := cs) (ops := ops₀) (i := n₀) (rest := rest₀) (by
      rw [show w.heap.size + 3 = w3.heap.size from hs.symm]
      exact hK _ _ _ ⟨Cx.next_up hX (by omega), hO.any, .inr ⟨hno, rfl, hTl3⟩⟩)
    simp only [code12, more12, Try.f12, Option.getD_some] at hL
    exact hL
  · obtain ⟨m, rfl⟩ : ∃ m : Nat, n = m := ⟨n.toNat, by omega⟩
    have hL := spread_hi0 (X := X.up (w.heap.size + 3)) (w := w3) (x := x) xs (N := w.heap.size) (n := m) (by omega) (by omega) hlen hX3 hm (Cx.free_up hT) (by omega) (by omega) hTl3 hwf hst3 hrd3 hna hBx g1 g2 g3 (b := b₀) (a := a₀) (k := k₀) (cs := cs) (ops := ops₀) (i := n₀) (rest := rest₀)
      (fun w' hb hO' => by
        have hle := hO'.size
        rw [hup w' hle]
        exact hK _ _ _ ⟨Cx.next_up hX (by omega), hOT w' hO', .inr ⟨(fun h => by rw [h.2.2] at hb; cases hb), rfl, by
          unfold TlAt TalAt
          rw [hO'.block T (by omega) (by omega)]
          exact hTl3⟩⟩)
      (fun X' w' hb hN hO' ht => hK _ _ _ ⟨⟨hN.post, hN.d, hN.B, fun l hl => by
          rcases hN.sh l hl with h | ⟨a, e, h1, h2⟩
          · exact .inl h
          · exact .inr ⟨a, e, by omega, h2⟩, hN.sub, by have := hN.le; omega⟩, hO.any.trans hO', .inl ⟨⟨by omega, by omega, hb⟩, rfl, ht⟩⟩)
    simp only [code12, more12, Try.f12, Option.getD_some] at hL
    exact hL
end
end Go.Proofs.Ytboiolnnhmlieaa.Gang
namespace Go.Proofs.Ytboiolnnhmlieaa.Gang
open Go.Conc Go.ConcN Go.RowKit Go.Conc.Lib Go.ConcR.Gen Go.ConcN.Gen
set_option linter.unusedVariables false
set_option linter.unusedSimpArgs false
noncomputable def loops13 : Code → List Code
  | .seq a b => loops13 a ++ loops13 b
  | .block _ (.loop c) => [c]
  | _ => []
noncomputable def l13a : Code := (loops13 (Try.f13.body.getD .skip)).getD 0 .skip
noncomputable def l13b : Code := (loops13 (Try.f13.body.getD .skip)).getD 1 .skip
/-- the first k steps added, one by one -/
def spk (x : Tl) (xs : List (Int × Int)) (k : Nat) : Tl := { x with cs := fun c => w64 (x.cs c + lsum c ((nats xs).take k)), most := lmax x.most ((nats xs).take k) }
theorem spk_zero {x : Tl} (hwf : ∀ c, w64 (x.cs c) = x.cs c) (xs : List (Int × Int)) : spk x xs 0 = x := by
  obtain ⟨cs, m, t, d, wd⟩ := x
  unfold spk
  congr 1
  funext c
  show w64 (cs c + 0) = cs c
  rw [Int.add_zero]
  exact hwf c
theorem spk_all (x : Tl) (xs : List (Int × Int)) : spk x xs xs.length = x.spread xs := by
  unfold spk
  rw [← nats_len xs, List.take_length]
  rfl
theorem lsum_appr (c : Nat) : ∀ (a b : List (Nat × Int)), lsum c (a ++ b) = lsum c a + lsum c b
  | [], b => by simp [lsum]
  | s :: a, b => by
    rw [List.cons_append, lsum, lsum, lsum_appr c a b]
    omega
theorem spk_succ (x : Tl) {xs : List (Int × Int)} (hb : xs.any bad = false) {k : Nat} (h : k < xs.length) :
    ({ spk x xs k with cs := fun a => if a = (xs[k]).1.toNat then w64 ((spk x xs k).cs (xs[k]).1.toNat + (xs[k]).2) else (spk x xs k).cs a, most := if (xs[k]).2 ≤ (spk x xs k).most then (spk x xs k).most else (xs[k]).2 } : Tl) = spk x xs (k + 1) := by
  have hk : k < (nats xs).length := by rw [nats_len]; exact h
  obtain ⟨g1, g2, g3⟩ := nats_get hb hk h
  have e1 : (xs[k]).1.toNat = ((nats xs)[k]).1 := by omega
  unfold spk
  rw [List.take_succ_eq_append_getElem hk, lmax_snoc, e1, ← g2]
  dsimp only
  congr 1
  · funext a
    rw [lsum_appr, lsum, lsum]
    by_cases ha : a = ((nats xs)[k]).1
    · rw [if_pos ha, ha, if_pos rfl, Int.add_zero, ← Int.add_assoc]
      exact w64_add _ _
    · rw [if_neg ha, if_neg (fun e => ha e.symm)]
      simp
  · by_cases hle : ((nats xs)[k]).2 ≤ lmax x.most ((nats xs).take k)
    · rw [if_pos hle, if_neg (by omega)]
    · rw [if_neg hle, if_pos (by omega)]
section
variable {X : Cx} {R : Nat} {x : Tl} {w : World}
set_option maxRecDepth 100000 in
set_option maxHeartbeats 8000000 in
theorem chk_loop (xs : List (Int × Int)) {sl : Option Addr} {cap : Nat} {n : Int} (hlen : xs.length ≤ 1048576) {b : Frame} {a : Act} {kk : List Item} {cs : List Frame} {ops : Array Oper} {i : Nat} {rest : List Nat} {K : List Item} : ∀ (m k : Nat), k + m = xs.length → ∀ (X : Cx) (w : World), X.ok w → StepsAt sl xs w → (xs ≠ [] → X.reads sl) →
    (∀ w', (xs.drop k).any bad = true → Off w.heap.size w w' → Run Try.prog (X.up w'.heap.size) (G (b.at (a.put ((ops[i]?).bind (·.dst)) (.int .i64 1)) (.inRegion ops rest :: kk)) cs) w') →
    (∀ (w' : World) (y3 y4 y5 y8 y9 y10 y11 y12 y13 y14 y15 y16 y17 y18 y19 y20 y21 y22 y23 y24 y25 y26 y27 y28 y29 y30 y31 y32 y33 y34 y35 y36 y37 y38 : Value), (xs.drop k).any bad = false → Off w.heap.size w w' → Run Try.prog (X.up w'.heap.size) (G ((base 13).at ⟨#[.pointer (some ⟨R, 0, none⟩), .slice sl xs.length cap, .int .i64 n, y3, y4, y5, .int .i64 0, .int .i64 (xs.length : Int), y8, y9, y10, y11, y12, y13, y14, y15, y16, y17, y18, y19, y20, y21, y22, y23, y24, y25, y26, y27, y28, y29, y30, y31, y32, y33, y34, y35, y36, y37, y38], []⟩ K) (b.at a (.inRegion ops (i :: rest) :: kk) :: cs)) w') → ∀ (y3 y4 y5 y8 y9 y10 y11 y12 y13 y14 y15 y16 y17 y18 y19 y20 y21 y22 y23 y24 y25 y26 y27 y28 y29 y30 y31 y32 y33 y34 y35 y36 y37 y38 : Value),
    Run Try.prog X (G ((base 13).at ⟨#[.pointer (some ⟨R, 0, none⟩), .slice sl xs.length cap, .int .i64 n, y3, y4, y5, .int .i64 0, .int .i64 (k : Int), y8, y9, y10, y11, y12, y13, y14, y15, y16, y17, y18, y19, y20, y21, y22, y23, y24, y25, y26, y27, y28, y29, y30, y31, y32, y33, y34, y35, y36, y37, y38], []⟩ (.code l13a :: .inLoop l13a :: .inBlock 0 :: K)) (b.at a (.inRegion ops (i :: rest) :: kk) :: cs)) w := by
  intro m
  induction m with
  | zero =>
    intro k hk X w hX hst hrd hB hK y3 y4 y5 y8 y9 y10 y11 y12 y13 y14 y15 y16 y17 y18 y19 y20 y21 y22 y23 y24 y25 y26 y27 y28 y29 y30 y31 y32 y33 y34 y35 y36 y37 y38
    obtain rfl : k = xs.length := by omega
    replace hK := Lib.hid (fun y3 y4 y5 y8 y9 y10 y11 y12 y13 y14 y15 y16 y17 y18 y19 y20 y21 y22 y23 y24 y25 y26 y27 y28 y29 y30 y31 y32 y33 y34 y35 y36 y37 y38 => hK w y3 y4 y5 y8 y9 y10 y11 y12 y13 y14 y15 y16 y17 y18 y19 y20 y21 y22 y23 y24 y25 y26 y27 y28 y29 y30 y31 y32 y33 y34 y35 y36 y37 y38 (by rw [List.drop_length]; rfl) (Off.refl _ w))
    clear hst hrd hB hX
    simp only [l13a, loops13, Try.f13, Option.getD_some, List.nil_append, List.append_nil, List.cons_append, List.getD_cons_zero, List.getD_cons_succ]
    repeat first
      | refine Run.seq ?_
      | refine Run.skip ?_
      | refine Run.regionEnd ?_
      | refine Run.block ?_
      | refine Run.inBlock ?_
      | (refine Run.region ?_; simp only [List.size_toArray, List.length_cons, List.length_nil, Nat.reduceAdd, Nat.zero_add, List.range, List.range.loop])
      | (refine Run.cond rfl ?_; simp only [if_true, if_false, Bool.false_eq_true, ↓reduceIte])
      | (refine Run.unwanted rfl rfl ?_; walk_nrm)
      | (refine Run.op0 rfl rfl (by k_ne) (fun d K hK => by go_simp; exact hK) (fun d => by first | (simp [go_sem, *] <;> fail) | fail) ?_; try w_num)
      | refine Run.ret ?_
      | refine Run.fin ?_
      | refine Run.exit rfl ?_
    exact Run.up _ (hK.out _ _ _ _ _ _ _ _ _ _ _ _ _ _ _ _ _ _ _ _ _ _ _ _ _ _ _ _ _ _ _ _ _ _)
  | succ m ih =>
    intro k hk X w hX hst hrd hB hK y3 y4 y5 y8 y9 y10 y11 y12 y13 y14 y15 y16 y17 y18 y19 y20 y21 y22 y23 y24 y25 y26 y27 y28 y29 y30 y31 y32 y33 y34 y35 y36 y37 y38
    have hkn : k < xs.length := by omega
    have hlt : decide ((k : Int) < (xs.length : Int)) = true := decide_eq_true (by omega)
    have hlt' : decide (k < xs.length) = true := decide_eq_true hkn
    have hki : (k : Int) < (xs.length : Int) := by omega
    have ew : IntKind.i64.wrap ((k : Int) + 1) = ((k + 1 : Nat) : Int) := by rw [IntKind.wrap_i64]; omega
    have hne : xs ≠ [] := by intro e; subst e; simp at hkn
    obtain ⟨ar, off, rfl, har, hcs⟩ := hst hne
    obtain ⟨c0, c1⟩ := hcs k hkn
    have hfr : X.free ar := hrd hne ar off rfl
    have hC := right25_con hX (xs[k]).1 (xs[k]).2
    have hdr : (xs.drop k).any bad = (bad xs[k] || (xs.drop (k + 1)).any bad) := by
      rw [List.drop_eq_getElem_cons hkn]; rfl
    replace hst := Lib.hid hst
    replace hB := Lib.hid hB
    replace hK := Lib.hid hK
    replace ih := Lib.hid (fun (X' : Cx) (w' : World) => ih (k + 1) (by omega) X' w')
    replace hdr := Lib.hid hdr
    clear hcs
    simp only [l13a, loops13, Try.f13, Option.getD_some, List.nil_append, List.append_nil, List.cons_append, List.getD_cons_zero, List.getD_cons_succ] at ih ⊢
    repeat first
      | refine Run.seq ?_
      | refine Run.skip ?_
      | refine Run.regionEnd ?_
      | refine Run.block ?_
      | refine Run.inBlock ?_
      | (refine Run.region ?_; simp only [List.size_toArray, List.length_cons, List.length_nil, Nat.reduceAdd, Nat.zero_add, List.range, List.range.loop])
      | (refine Run.cond rfl ?_; simp only [if_true, if_false, Bool.false_eq_true, ↓reduceIte])
      | (refine Run.unwanted rfl rfl ?_; walk_nrm)
      | (refine Run.op0 rfl rfl (by k_ne) (fun d K hK => by go_simp; exact hK) (fun d => by first | (simp [go_sem, *] <;> fail) | fail) ?_; try w_num)
      | refine Run.ret ?_
      | refine Run.fin ?_
      | refine Run.exit rfl ?_
    refine Run.op w rfl rfl (by k_ne) (fun d K hK => by go_simp; exact hK) (fun d e he => by
      simp [go_sem, *] at he
      rcases he with he | he <;> (subst he; exact evL_free hfr)) ?_
    try w_num
    refine Run.con hC rfl rfl (by k_ne) rfl (by first | (simp only [List.map_toArray, List.map_cons, List.map_nil]; done) | (simp only [List.map_toArray, List.map_cons, List.map_nil]; rfl)) (fun X1 v w1 hr => ?_)
    obtain ⟨rfl, rfl, o1⟩ := hr
    have hP1 := Cx.next_up (w' := w1) hX o1.size
    have hX1 := hP1.ok hX
    have hst1 : StepsAt (some ⟨ar, off, none⟩) xs w1 := hst.out.off o1
    clear hC c0 c1
    cases hok : okStep (xs[k]).1 (xs[k]).2 with
    | false =>
      have hbk : bad xs[k] = true := by simp [bad, hok]
      replace hB := Lib.hid (hB.out w1 (by rw [hdr.out, hbk]; rfl) o1)
      clear hst1 hX1 hP1 hK ih
      walk_nrm
      repeat first
        | refine Run.seq ?_
        | refine Run.skip ?_
        | refine Run.regionEnd ?_
        | refine Run.block ?_
        | refine Run.inBlock ?_
        | (refine Run.region ?_; simp only [List.size_toArray, List.length_cons, List.length_nil, Nat.reduceAdd, Nat.zero_add, List.range, List.range.loop])
        | (refine Run.cond rfl ?_; simp only [if_true, if_false, Bool.false_eq_true, ↓reduceIte])
        | (refine Run.unwanted rfl rfl ?_; walk_nrm)
        | (refine Run.op0 rfl rfl (by k_ne) (fun d K hK => by go_simp; exact hK) (fun d => by first | (simp [go_sem, *] <;> fail) | fail) ?_; try w_num)
        | refine Run.ret ?_
        | refine Run.fin ?_
        | refine Run.exit rfl ?_
      refine Run.leave1 rfl rfl Try.func13 rfl ?_
      exact hB.out
    | true =>
      have hbk : bad xs[k] = false := by simp [bad, hok]
      have hup : ∀ w'' : World, w1.heap.size ≤ w''.heap.size → (X.up w1.heap.size).up w''.heap.size = X.up w''.heap.size := fun w'' h => X.up_up h
      replace ih := Lib.hid (ih.out (X.up w1.heap.size) w1 hX1 hst1 (fun hne ar off e => hP1.free hX (hrd hne ar off e)) (fun w'' hb ho => by
        rw [hup w'' ho.size]
        exact hB.out w'' (by rw [hdr.out, hbk]; exact hb) (o1.trans ho.any)) (fun w'' y3 y4 y5 y8 y9 y10 y11 y12 y13 y14 y15 y16 y17 y18 y19 y20 y21 y22 y23 y24 y25 y26 y27 y28 y29 y30 y31 y32 y33 y34 y35 y36 y37 y38 hb ho => by
        rw [hup w'' ho.size]
        exact hK.out w'' y3 y4 y5 y8 y9 y10 y11 y12 y13 y14 y15 y16 y17 y18 y19 y20 y21 y22 y23 y24 y25 y26 y27 y28 y29 y30 y31 y32 y33 y34 y35 y36 y37 y38 (by rw [hdr.out, hbk]; exact hb) (o1.trans ho.any)))
      clear hst1 hX1 hP1 hK hB hup
      walk_nrm
      repeat first
        | refine Run.seq ?_
        | refine Run.skip ?_
        | refine Run.regionEnd ?_
        | refine Run.block ?_
        | refine Run.inBlock ?_
        | (refine Run.region ?_; simp only [List.size_toArray, List.length_cons, List.length_nil, Nat.reduceAdd, Nat.zero_add, List.range, List.range.loop])
        | (refine Run.cond rfl ?_; simp only [if_true, if_false, Bool.false_eq_true, ↓reduceIte])
        | (refine Run.unwanted rfl rfl ?_; walk_nrm)
        | (refine Run.op0 rfl rfl (by k_ne) (fun d K hK => by go_simp; exact hK) (fun d => by first | (simp [go_sem, *] <;> fail) | fail) ?_; try w_num)
        | refine Run.ret ?_
        | refine Run.fin ?_
        | refine Run.exit rfl ?_
      first | rw [ew] | rw [show (k : Int) + 1 = ((k + 1 : Nat) : Int) by omega]
      refine Run.inLoop ?_
      exact ih.out _ _ _ _ _ _ _ _ _ _ _ _ _ _ _ _ _ _ _ _ _ _ _ _ _ _ _ _ _ _ _ _ _ _
set_option maxRecDepth 100000 in
set_option maxHeartbeats 8000000 in
theorem radd_loop (xs : List (Int × Int)) {sl : Option Addr} {cap : Nat} {n : Int} (hlen : xs.length ≤ 1048576) (hbad : xs.any bad = false) (x : Tl) {R : Nat} (hna : xs ≠ [] → ∀ ar off, sl = some ⟨ar, off, none⟩ → ar ≠ R) {b : Frame} {a : Act} {kk : List Item} {cs : List Frame} {ops : Array Oper} {i : Nat} {rest : List Nat} {K : List Item} : ∀ (m k : Nat), k + m = xs.length → ∀ (X : Cx) (w : World), X.ok w → X.free R → R < w.heap.size → RefAt R (spk x xs k) w → StepsAt sl xs w → (xs ≠ [] → X.reads sl) →
    (∀ (w' : World) (y3 y4 y5 y7 y9 y10 y11 y12 y13 y14 y15 y16 y17 y18 y19 y20 y21 y22 y23 y24 y25 y26 y27 y28 y29 y30 y31 y32 y33 y34 y35 y36 y37 y38 : Value), RefAt R (x.spread xs) w' → Off R w w' → Run Try.prog (X.up w'.heap.size) (G ((base 13).at ⟨#[.pointer (some ⟨R, 0, none⟩), .slice sl xs.length cap, .int .i64 n, y3, y4, y5, .int .i64 0, y7, .int .i64 (xs.length : Int), y9, y10, y11, y12, y13, y14, y15, y16, y17, y18, y19, y20, y21, y22, y23, y24, y25, y26, y27, y28, y29, y30, y31, y32, y33, y34, y35, y36, y37, y38], []⟩ K) (b.at a (.inRegion ops (i :: rest) :: kk) :: cs)) w') → ∀ (y3 y4 y5 y7 y9 y10 y11 y12 y13 y14 y15 y16 y17 y18 y19 y20 y21 y22 y23 y24 y25 y26 y27 y28 y29 y30 y31 y32 y33 y34 y35 y36 y37 y38 : Value),
    Run Try.prog X (G ((base 13).at ⟨#[.pointer (some ⟨R, 0, none⟩), .slice sl xs.length cap, .int .i64 n, y3, y4, y5, .int .i64 0, y7, .int .i64 (k : Int), y9, y10, y11, y12, y13, y14, y15, y16, y17, y18, y19, y20, y21, y22, y23, y24, y25, y26, y27, y28, y29, y30, y31, y32, y33, y34, y35, y36, y37, y38], []⟩ (.code l13b :: .inLoop l13b :: .inBlock 2 :: K)) (b.at a (.inRegion ops (i :: rest) :: kk) :: cs)) w := by
  intro m
  induction m with
  | zero =>
    intro k hk X w hX hR hRs h hst hrd hK y3 y4 y5 y7 y9 y10 y11 y12 y13 y14 y15 y16 y17 y18 y19 y20 y21 y22 y23 y24 y25 y26 y27 y28 y29 y30 y31 y32 y33 y34 y35 y36 y37 y38
    obtain rfl : k = xs.length := by omega
    replace hK := Lib.hid (fun y3 y4 y5 y7 y9 y10 y11 y12 y13 y14 y15 y16 y17 y18 y19 y20 y21 y22 y23 y24 y25 y26 y27 y28 y29 y30 y31 y32 y33 y34 y35 y36 y37 y38 => hK w y3 y4 y5 y7 y9 y10 y11 y12 y13 y14 y15 y16 y17 y18 y19 y20 y21 y22 y23 y24 y25 y26 y27 y28 y29 y30 y31 y32 y33 y34 y35 y36 y37 y38 (by rw [← spk_all]; exact h) (Off.refl _ w))
    clear hst hrd hX h
    simp only [l13b, loops13, Try.f13, Option.getD_some, List.nil_append, List.append_nil, List.cons_append, List.getD_cons_zero, List.getD_cons_succ]
    repeat first
      | refine Run.seq ?_
      | refine Run.skip ?_
      | refine Run.regionEnd ?_
      | refine Run.block ?_
      | refine Run.inBlock ?_
      | (refine Run.region ?_; simp only [List.size_toArray, List.length_cons, List.length_nil, Nat.reduceAdd, Nat.zero_add, List.range, List.range.loop])
      | (refine Run.cond rfl ?_; simp only [if_true, if_false, Bool.false_eq_true, ↓reduceIte])
      | (refine Run.unwanted rfl rfl ?_; walk_nrm)
      | (refine Run.op0 rfl rfl (by k_ne) (fun d K hK => by go_simp; exact hK) (fun d => by first | (simp [go_sem, *] <;> fail) | fail) ?_; try w_num)
      | refine Run.ret ?_
      | refine Run.fin ?_
      | refine Run.exit rfl ?_
    exact Run.up _ (hK.out _ _ _ _ _ _ _ _ _ _ _ _ _ _ _ _ _ _ _ _ _ _ _ _ _ _ _ _ _ _ _ _ _ _)
  | succ m ih =>
    intro k hk X w hX hR hRs h hst hrd hK y3 y4 y5 y7 y9 y10 y11 y12 y13 y14 y15 y16 y17 y18 y19 y20 y21 y22 y23 y24 y25 y26 y27 y28 y29 y30 y31 y32 y33 y34 y35 y36 y37 y38
    have hkn : k < xs.length := by omega
    have hlt : decide ((k : Int) < (xs.length : Int)) = true := decide_eq_true (by omega)
    have hlt' : decide (k < xs.length) = true := decide_eq_true hkn
    have hki : (k : Int) < (xs.length : Int) := by omega
    have ew : IntKind.i64.wrap ((k : Int) + 1) = ((k + 1 : Nat) : Int) := by rw [IntKind.wrap_i64]; omega
    have hne : xs ≠ [] := by intro e; subst e; simp at hkn
    obtain ⟨ar, off, rfl, har, hcs⟩ := hst hne
    obtain ⟨c0, c1⟩ := hcs k hkn
    have hfr : X.free ar := hrd hne ar off rfl
    have harR : ar ≠ R := hna hne ar off rfl
    have hC := radd_con hX hR hRs h (xs[k]).1 (xs[k]).2
    have hok : okStep (xs[k]).1 (xs[k]).2 = true := by
      have := List.any_eq_false.1 hbad _ (List.getElem_mem hkn)
      simpa [bad] using this
    rw [spk_succ x hbad hkn] at hC
    replace hC := Lib.hid hC
    replace hst := Lib.hid hst
    replace hK := Lib.hid hK
    replace ih := Lib.hid (fun (X' : Cx) (w' : World) => ih (k + 1) (by omega) X' w')
    clear hcs h
    simp only [l13b, loops13, Try.f13, Option.getD_some, List.nil_append, List.append_nil, List.cons_append, List.getD_cons_zero, List.getD_cons_succ] at ih ⊢
    repeat first
      | refine Run.seq ?_
      | refine Run.skip ?_
      | refine Run.regionEnd ?_
      | refine Run.block ?_
      | refine Run.inBlock ?_
      | (refine Run.region ?_; simp only [List.size_toArray, List.length_cons, List.length_nil, Nat.reduceAdd, Nat.zero_add, List.range, List.range.loop])
      | (refine Run.cond rfl ?_; simp only [if_true, if_false, Bool.false_eq_true, ↓reduceIte])
      | (refine Run.unwanted rfl rfl ?_; walk_nrm)
      | (refine Run.op0 rfl rfl (by k_ne) (fun d K hK => by go_simp; exact hK) (fun d => by first | (simp [go_sem, *] <;> fail) | fail) ?_; try w_num)
      | refine Run.ret ?_
      | refine Run.fin ?_
      | refine Run.exit rfl ?_
    refine Run.op w rfl rfl (by k_ne) (fun d K hK => by go_simp; exact hK) (fun d e he => by
      simp [go_sem, *] at he
      rcases he with he | he <;> (subst he; exact evL_free hfr)) ?_
    try w_num
    refine Run.con hC.out rfl rfl (by k_ne) rfl (by first | (simp only [List.map_toArray, List.map_cons, List.map_nil]; done) | (simp only [List.map_toArray, List.map_cons, List.map_nil]; rfl)) (fun X1 v w1 hr => ?_)
    obtain ⟨rfl, o1, ⟨-, rfl, h1⟩ | ⟨hno, _, _⟩⟩ := hr
    rotate_left
    · rw [hok] at hno; cases hno
    have hP1 := Cx.next_up (w' := w1) hX o1.size
    have hX1 := hP1.ok hX
    have hst1 : StepsAt (some ⟨ar, off, none⟩) xs w1 := hst.out.keep o1.size (fun ar' off' e => by cases e; exact o1.block ar har harR)
    have hup : ∀ w'' : World, w1.heap.size ≤ w''.heap.size → (X.up w1.heap.size).up w''.heap.size = X.up w''.heap.size := fun w'' h => X.up_up h
    replace ih := Lib.hid (ih.out (X.up w1.heap.size) w1 hX1 (hP1.free hX hR) (Nat.lt_of_lt_of_le hRs o1.size) h1 hst1 (fun hne ar off e => hP1.free hX (hrd hne ar off e)) (fun w'' y3 y4 y5 y7 y9 y10 y11 y12 y13 y14 y15 y16 y17 y18 y19 y20 y21 y22 y23 y24 y25 y26 y27 y28 y29 y30 y31 y32 y33 y34 y35 y36 y37 y38 hh ho => by
      rw [hup w'' ho.size]
      exact hK.out w'' y3 y4 y5 y7 y9 y10 y11 y12 y13 y14 y15 y16 y17 y18 y19 y20 y21 y22 y23 y24 y25 y26 y27 y28 y29 y30 y31 y32 y33 y34 y35 y36 y37 y38 hh (o1.trans ho)))
    clear hst1 hX1 hP1 hK hup c0 c1 hC h1 o1
    walk_nrm
    repeat first
      | refine Run.seq ?_
      | refine Run.skip ?_
      | refine Run.regionEnd ?_
      | refine Run.block ?_
      | refine Run.inBlock ?_
      | (refine Run.region ?_; simp only [List.size_toArray, List.length_cons, List.length_nil, Nat.reduceAdd, Nat.zero_add, List.range, List.range.loop])
      | (refine Run.cond rfl ?_; simp only [if_true, if_false, Bool.false_eq_true, ↓reduceIte])
      | (refine Run.unwanted rfl rfl ?_; walk_nrm)
      | (refine Run.op0 rfl rfl (by k_ne) (fun d K hK => by go_simp; exact hK) (fun d => by first | (simp [go_sem, *] <;> fail) | fail) ?_; try w_num)
      | refine Run.ret ?_
      | refine Run.fin ?_
      | refine Run.exit rfl ?_
    first | rw [ew] | rw [show (k : Int) + 1 = ((k + 1 : Nat) : Int) by omega]
    refine Run.inLoop ?_
    exact ih.out _ _ _ _ _ _ _ _ _ _ _ _ _ _ _ _ _ _ _ _ _ _ _ _ _ _ _ _ _ _ _ _ _ _
set_option maxRecDepth 100000 in
set_option maxHeartbeats 8000000 in
theorem rspread_con (xs : List (Int × Int)) {sl : Option Addr} {cap : Nat} {n : Int} (hlen : xs.length ≤ 1048576) (hX : X.ok w) (hR : X.free R) (hRs : R < w.heap.size) (h : RefAt R x w) (hwf : ∀ c, w64 (x.cs c) = x.cs c) (hst : StepsAt sl xs w) (hrd : xs ≠ [] → X.reads sl) (hna : xs ≠ [] → ∀ ar off, sl = some ⟨ar, off, none⟩ → ar ≠ R) :
    Con Try.prog X 13 #[.pointer (some ⟨R, 0, none⟩), .slice sl xs.length cap, .int .i64 n] w (fun X' v w' => X' = X.up w'.heap.size ∧ Off R w w' ∧ ((SpreadOk xs n ∧ v = .int .i64 0 ∧ RefAt R (x.spread xs) w') ∨ (¬ SpreadOk xs n ∧ v = .int .i64 1 ∧ RefAt R x w'))) := by
  refine ⟨Try.f13, _, Try.func13, nm13, rfl, fun b₀ a₀ ops₀ n₀ rest₀ k₀ cs hK => ?_⟩
  walk_nrmf Try.f13
  have hNo := Lib.hid (fun (w' : World) (hno : ¬ SpreadOk xs n) (ho : Off R w w') (hr : RefAt R x w') => hK (X.up w'.heap.size) (.int .i64 1) w' ⟨rfl, ho, .inr ⟨hno, rfl, hr⟩⟩)
  have hYes := Lib.hid (fun (w' : World) (hok : SpreadOk xs n) (ho : Off R w w') (hr : RefAt R (x.spread xs) w') => hK (X.up w'.heap.size) (.int .i64 0) w' ⟨rfl, ho, .inl ⟨hok, rfl, hr⟩⟩)
  clear hK
  have hCk := Lib.hid (fun (K : List Item) hB hK => chk_loop (n := n) (cap := cap) xs hlen (b := b₀) (a := a₀) (kk := k₀) (cs := cs) (ops := ops₀) (i := n₀) (rest := rest₀) (R := R) (K := K) xs.length 0 (by omega) X w hX hst hrd hB hK)
  have hAd := Lib.hid (fun (hbad : xs.any bad = false) (K : List Item) (X' : Cx) (w' : World) => radd_loop (n := n) (cap := cap) xs hlen hbad x hna (b := b₀) (a := a₀) (kk := k₀) (cs := cs) (ops := ops₀) (i := n₀) (rest := rest₀) (K := K) xs.length 0 (by omega) X' w')
  by_cases d1 : n < 1
  · have hd1 : decide (n < 1) = true := decide_eq_true d1
    replace hNo := Lib.hid (hNo.out w (fun hh => by have := hh.1; omega) (Off.refl _ _) h)
    clear hCk hAd hYes hst hrd hna h hX hwf d1
    repeat first
      | refine Run.seq ?_
      | refine Run.skip ?_
      | refine Run.regionEnd ?_
      | refine Run.block ?_
      | refine Run.inBlock ?_
      | (refine Run.region ?_; simp only [List.size_toArray, List.length_cons, List.length_nil, Nat.reduceAdd, Nat.zero_add, List.range, List.range.loop])
      | (refine Run.cond rfl ?_; simp only [if_true, if_false, Bool.false_eq_true, ↓reduceIte])
      | (refine Run.unwanted rfl rfl ?_; walk_nrm)
      | (refine Run.op0 rfl rfl (by k_ne) (fun d K hK => by go_simp; exact hK) (fun d => by first | (simp [go_sem, *] <;> fail) | fail) ?_; try w_num)
      | refine Run.ret ?_
      | refine Run.fin ?_
      | refine Run.exit rfl ?_
    refine Run.leave1 rfl rfl Try.func13 rfl ?_
    exact Run.up _ hNo.out
  have hd1 : decide (n < 1) = false := decide_eq_false d1
  by_cases d2 : 16 < n
  · have hd2 : decide (16 < n) = true := decide_eq_true d2
    replace hNo := Lib.hid (hNo.out w (fun hh => by have := hh.2.1; omega) (Off.refl _ _) h)
    clear hCk hAd hYes hst hrd hna h hX hwf d1 d2
    repeat first
      | refine Run.seq ?_
      | refine Run.skip ?_
      | refine Run.regionEnd ?_
      | refine Run.block ?_
      | refine Run.inBlock ?_
      | (refine Run.region ?_; simp only [List.size_toArray, List.length_cons, List.length_nil, Nat.reduceAdd, Nat.zero_add, List.range, List.range.loop])
      | (refine Run.cond rfl ?_; simp only [if_true, if_false, Bool.false_eq_true, ↓reduceIte])
      | (refine Run.unwanted rfl rfl ?_; walk_nrm)
      | (refine Run.op0 rfl rfl (by k_ne) (fun d K hK => by go_simp; exact hK) (fun d => by first | (simp [go_sem, *] <;> fail) | fail) ?_; try w_num)
      | refine Run.ret ?_
      | refine Run.fin ?_
      | refine Run.exit rfl ?_
    refine Run.leave1 rfl rfl Try.func13 rfl ?_
    exact Run.up _ hNo.out
  have hd2 : decide (16 < n) = false := decide_eq_false d2
  have hst' := Lib.hid hst
  replace hCk := hCk.out
  simp only [l13a, loops13, Try.f13, Option.getD_some, List.nil_append, List.append_nil, List.cons_append, List.getD_cons_zero, List.getD_cons_succ] at hCk
  replace hCk := Lib.hid hCk
  replace hAd := hAd.out
  simp only [l13b, loops13, Try.f13, Option.getD_some, List.nil_append, List.append_nil, List.cons_append, List.getD_cons_zero, List.getD_cons_succ] at hAd
  replace hAd := Lib.hid hAd
  replace h := Lib.hid h
  replace hwf := Lib.hid hwf
  clear hst
  repeat first
    | refine Run.seq ?_
    | refine Run.skip ?_
    | refine Run.regionEnd ?_
    | refine Run.block ?_
    | refine Run.inBlock ?_
    | (refine Run.region ?_; simp only [List.size_toArray, List.length_cons, List.length_nil, Nat.reduceAdd, Nat.zero_add, List.range, List.range.loop])
    | (refine Run.cond rfl ?_; simp only [if_true, if_false, Bool.false_eq_true, ↓reduceIte])
    | (refine Run.unwanted rfl rfl ?_; walk_nrm)
    | (refine Run.op0 rfl rfl (by k_ne) (fun d K hK => by go_simp; exact hK) (fun d => by first | (simp [go_sem, *] <;> fail) | fail) ?_; try w_num)
    | refine Run.ret ?_
    | refine Run.fin ?_
    | refine Run.exit rfl ?_
  refine Run.loop ?_
  refine hCk.out _ ?_ ?_ _ _ _ _ _ _ _ _ _ _ _ _ _ _ _ _ _ _ _ _ _ _ _ _ _ _ _ _ _ _ _ _ _ _
  · intro w' hb ho
    have hO : Off R w w' := ho.any
    exact hNo.out w' (fun hh => by have hb : xs.any bad = true := hb; rw [hh.2.2] at hb; cases hb) hO (h.out.block (ho.block R hRs (by omega)))
  · intro w' y3 y4 y5 y8 y9 y10 y11 y12 y13 y14 y15 y16 y17 y18 y19 y20 y21 y22 y23 y24 y25 y26 y27 y28 y29 y30 y31 y32 y33 y34 y35 y36 y37 y38 hb ho
    have hO : Off R w w' := ho.any
    have hP := Cx.next_up (w' := w') hX ho.size
    have hup : ∀ w'' : World, w'.heap.size ≤ w''.heap.size → (X.up w'.heap.size).up w''.heap.size = X.up w''.heap.size := fun w'' h => X.up_up h
    replace hAd := Lib.hid (fun (K : List Item) (hK) => hAd.out hb K (X.up w'.heap.size) w' (hP.ok hX) (hP.free hX hR) (Nat.lt_of_lt_of_le hRs ho.size) (by rw [spk_zero hwf.out]; exact h.out.block (ho.block R hRs (by omega))) (hst'.out.off ho) (fun hne ar off e => hP.free hX (hrd hne ar off e)) hK)
    replace hYes := Lib.hid (fun (w'' : World) (hr : RefAt R (x.spread xs) w'') (ho2 : Off R w' w'') => (by
      have := hYes.out w'' ⟨by omega, by omega, hb⟩ (hO.trans ho2) hr
      rw [← hup w'' ho2.size] at this
      exact this : Run Try.prog ((X.up w'.heap.size).up w''.heap.size) _ w''))
    clear hCk hNo hP hup hX hrd hna
    repeat first
      | refine Run.seq ?_
      | refine Run.skip ?_
      | refine Run.regionEnd ?_
      | refine Run.block ?_
      | refine Run.inBlock ?_
      | (refine Run.region ?_; simp only [List.size_toArray, List.length_cons, List.length_nil, Nat.reduceAdd, Nat.zero_add, List.range, List.range.loop])
      | (refine Run.cond rfl ?_; simp only [if_true, if_false, Bool.false_eq_true, ↓reduceIte])
      | (refine Run.unwanted rfl rfl ?_; walk_nrm)
      | (refine Run.op0 rfl rfl (by k_ne) (fun d K hK => by go_simp; exact hK) (fun d => by first | (simp [go_sem, *] <;> fail) | fail) ?_; try w_num)
      | refine Run.ret ?_
      | refine Run.fin ?_
      | refine Run.exit rfl ?_
    refine Run.loop ?_
    refine hAd.out _ ?_ _ _ _ _ _ _ _ _ _ _ _ _ _ _ _ _ _ _ _ _ _ _ _ _ _ _ _ _ _ _ _ _ _ _
    intro w'' y3 y4 y5 y7 y9 y10 y11 y12 y13 y14 y15 y16 y17 y18 y19 y20 y21 y22 y23 y24 y25 y26 y27 y28 y29 y30 y31 y32 y33 y34 y35 y36 y37 y38 hr ho2
    replace hYes := Lib.hid (hYes.out w'' hr ho2)
    clear hAd hr ho2
    repeat first
      | refine Run.seq ?_
      | refine Run.skip ?_
      | refine Run.regionEnd ?_
      | refine Run.block ?_
      | refine Run.inBlock ?_
      | (refine Run.region ?_; simp only [List.size_toArray, List.length_cons, List.length_nil, Nat.reduceAdd, Nat.zero_add, List.range, List.range.loop])
      | (refine Run.cond rfl ?_; simp only [if_true, if_false, Bool.false_eq_true, ↓reduceIte])
      | (refine Run.unwanted rfl rfl ?_; walk_nrm)
      | (refine Run.op0 rfl rfl (by k_ne) (fun d K hK => by go_simp; exact hK) (fun d => by first | (simp [go_sem, *] <;> fail) | fail) ?_; try w_num)
      | refine Run.ret ?_
      | refine Run.fin ?_
      | refine Run.exit rfl ?_
    refine Run.leave1 rfl rfl Try.func13 rfl ?_
    exact hYes.out
end
end Go.Proofs.Ytboiolnnhmlieaa.Gang
