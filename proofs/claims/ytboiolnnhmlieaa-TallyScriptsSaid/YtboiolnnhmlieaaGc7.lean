
/-
  Goroutine 0 beside leavers: slices.ContainsFunc with the closure that finds a wrong step; New.
  Conditions: stated lemma by lemma.
-/
import Derived.Test.YtboiolnnhmlieaaGc6
namespace Go.Proofs.Ytboiolnnhmlieaa.Gang
open Go.Conc Go.ConcN Go.RowKit Go.Conc.Lib Go.ConcR.Gen Go.ConcN.Gen
set_option linter.unusedVariables false
set_option linter.unusedSimpArgs false
theorem nm26 : (Try.f26.name == "runtime.NumGoroutine") = false := by kernel_rfl
theorem nm27 : (Try.f27.name == "runtime.NumGoroutine") = false := by kernel_rfl
theorem nm39 : (Try.f39.name == "runtime.NumGoroutine") = false := by kernel_rfl
/-- a list of steps in memory -/
def StepsAt (sl : Option Addr) (xs : List (Int × Int)) (w : World) : Prop :=
  xs ≠ [] → ∃ ar off, sl = some ⟨ar, off, none⟩ ∧ ar < w.heap.size ∧ ∀ j (h : j < xs.length), w.cell? ⟨ar, off + j * 2, none⟩ = some (.int .i64 (xs[j]).1) ∧ w.cell? ⟨ar, off + j * 2 + 1, none⟩ = some (.int .i64 (xs[j]).2)
theorem StepsAt.keep {sl : Option Addr} {xs : List (Int × Int)} {w w' : World} (h : StepsAt sl xs w) (hs : w.heap.size ≤ w'.heap.size) (hk : ∀ ar off, sl = some ⟨ar, off, none⟩ → w'.heap[ar]? = w.heap[ar]?) : StepsAt sl xs w' := fun hx => by
  obtain ⟨ar, off, e, h1, h2⟩ := h hx
  exact ⟨ar, off, e, by omega, fun j hj => ⟨(cell_heap (hk ar off e)).trans (h2 j hj).1, (cell_heap (hk ar off e)).trans (h2 j hj).2⟩⟩
/-- the block where the steps lie may be read -/
def Cx.reads (X : Cx) (sl : Option Addr) : Prop := ∀ ar off, sl = some ⟨ar, off, none⟩ → X.free ar
def bad (s : Int × Int) : Bool := !okStep s.1 s.2
theorem Off.any {T : Nat} {w w' : World} (h : Off w.heap.size w w') : Off T w w' := ⟨h.tape, h.os, h.output, h.size, fun b hb _ => h.block b hb (by omega)⟩
section
variable {X : Cx} {w : World}
theorem Cx.free_up {b n : Nat} (h : X.free b) : (X.up n).free b := ⟨Nat.lt_of_lt_of_le h.1 (X.up_le _), h.2⟩
set_option maxRecDepth 100000 in
set_option maxHeartbeats 4000000 in
theorem wrong_con (hX : X.ok w) (i n : Int) {b : Frame} {a : Act} {k : List Item} {cs : List Frame} {ops : Array Oper} {m : Nat} {rest : List Nat}
    (hK : ∀ w', Off w.heap.size w w' → w'.heap.size = w.heap.size + 1 → Run Try.prog (X.up (w.heap.size + 1)) (G (b.at (a.put ((ops[m]?).bind (·.dst)) (.bool (bad (i, n)))) (.inRegion ops rest :: k)) cs) w') :
    Run Try.prog X (G ((base 26).at ⟨#[.agg #[.int .i64 i, .int .i64 n], undef, undef, undef, undef, undef, undef, undef, undef], []⟩ [.code (Try.f26.body.getD .skip)]) (b.at a (.inRegion ops (m :: rest) :: k) :: cs)) w := by
  simp only [Try.f26, Option.getD_some]
  refine Run.up (w.heap.size + 1) ?_
  have h2 : (X.up (w.heap.size + 1)).free w.heap.size := ⟨X.lt_up (by omega), hX.new _ (Nat.le_refl _)⟩
  repeat (refine Run.seq ?_)
  refine Run.region ?_
  simp only [List.size_toArray, List.length_cons, List.length_nil, Nat.reduceAdd, Nat.zero_add, List.range, List.range.loop]
  refine Run.op (w.alloc (.cells #[.int .i64 i, .int .i64 n] 31)) rfl rfl (by k_ne) (fun d K hK => by go_simp; exact hK) (fun d e he => by simp [go_sem, *] at he) ?_
  try w_num
  have c0 : (w.alloc (.cells #[.int .i64 i, .int .i64 n] 31)).cell? ⟨w.heap.size, 0, none⟩ = some (.int .i64 i) := cell_alloc w _ _ rfl
  have c1 : (w.alloc (.cells #[.int .i64 i, .int .i64 n] 31)).cell? ⟨w.heap.size, 1, none⟩ = some (.int .i64 n) := by
    unfold World.cell?
    rw [show (w.alloc (.cells #[.int .i64 i, .int .i64 n] 31)).heap[w.heap.size]? = some (.cells #[.int .i64 i, .int .i64 n] 31) from by unfold World.alloc; simp]
    rfl
  have so : Off w.heap.size w (w.alloc (.cells #[.int .i64 i, .int .i64 n] 31)) := Off.alloc _ w _
  have sz : (w.alloc (.cells #[.int .i64 i, .int .i64 n] 31)).heap.size = w.heap.size + 1 := World.size_alloc ..
  replace hK := hK _ so sz
  clear so sz hX
  generalize w.alloc (.cells #[.int .i64 i, .int .i64 n] 31) = wb at c0 c1 hK ⊢
  generalize X.up (w.heap.size + 1) = Y at h2 hK ⊢
  generalize w.heap.size = N at c0 c1 h2 ⊢
  try walk_nrm
  repeat first
    | refine Run.seq ?_
    | refine Run.skip ?_
    | refine Run.regionEnd ?_
    | refine Run.block ?_
    | refine Run.inBlock ?_
    | (refine Run.region ?_; simp only [List.size_toArray, List.length_cons, List.length_nil, Nat.reduceAdd, Nat.zero_add, List.range, List.range.loop])
    | (refine Run.cond rfl ?_; simp only [if_true, if_false, Bool.false_eq_true, ↓reduceIte])
    | (refine Run.unwanted rfl rfl ?_; walk_nrm)
    | (refine Run.op0 rfl rfl (by k_ne) (fun d K hK => by go_simp; exact hK) (fun d => by first | (simp [go_sem, *] <;> fail) | fail) ?_; try w_num)
    | refine Run.ret ?_
    | refine Run.fin ?_
    | refine Run.exit rfl ?_
    | (refine Run.op wb rfl rfl (by k_ne) (fun d K hK => by go_simp; exact hK) (fun d e he => by simp [go_sem, *] at he; subst he; exact evL_free h2) ?_; try w_num)
  refine Run.con (right_con i n) rfl rfl (by k_ne) rfl (by simp only [List.map_toArray, List.map_cons, List.map_nil]; rfl) (fun X' v w'' hr => ?_)
  obtain ⟨rfl, rfl, rfl⟩ := hr
  walk_nrm
  repeat first
    | refine Run.seq ?_
    | refine Run.skip ?_
    | refine Run.regionEnd ?_
    | refine Run.block ?_
    | refine Run.inBlock ?_
    | (refine Run.region ?_; simp only [List.size_toArray, List.length_cons, List.length_nil, Nat.reduceAdd, Nat.zero_add, List.range, List.range.loop])
    | (refine Run.cond rfl ?_; simp only [if_true, if_false, Bool.false_eq_true, ↓reduceIte])
    | (refine Run.unwanted rfl rfl ?_; walk_nrm)
    | (refine Run.op0 rfl rfl (by k_ne) (fun d K hK => by go_simp; exact hK) (fun d => by first | (simp [go_sem, *] <;> fail) | fail) ?_; try w_num)
    | refine Run.ret ?_
    | refine Run.fin ?_
    | refine Run.exit rfl ?_
    | (refine Run.op wb rfl rfl (by k_ne) (fun d K hK => by go_simp; exact hK) (fun d e he => by simp [go_sem, *] at he; subst he; exact evL_free h2) ?_; try w_num)
  refine Run.leave1 rfl rfl Try.func26 rfl ?_
  exact hK
noncomputable def loop39 : Code := match Try.f39.body.getD .skip with | .seq _ (.seq (.seq _ (.block _ (.loop c))) _) => c | _ => .skip
noncomputable def tail39 : Code := match Try.f39.body.getD .skip with | .seq _ (.seq _ c) => c | _ => .skip
set_option maxRecDepth 100000 in
set_option maxHeartbeats 4000000 in
theorem find_loop (xs : List (Int × Int)) (sl : Option Addr) (cap : Nat) (hlen : xs.length ≤ 4611686018427387904) {b : Frame} {a : Act} {K : List Item} {cs : List Frame} {ops : Array Oper} {i : Nat} {rest : List Nat} : ∀ (m k : Nat), k + m = xs.length → ∀ (X : Cx) (w : World), X.ok w → StepsAt sl xs w → X.reads sl →
    (∀ w' (r : Int), Off w.heap.size w w' → decide (0 ≤ r) = (xs.drop k).any bad → Run Try.prog (X.up w'.heap.size) (G (b.at (a.put ((ops[i]?).bind (·.dst)) (.int .i64 r)) (.inRegion ops rest :: K)) cs) w') → ∀ (y4 y5 y6 y9 y10 y11 y12 y13 y14 y15 y16 y17 y18 : Value),
    Run Try.prog X (G ((base 39).at ⟨#[.slice sl xs.length cap, .func (.func 26) #[] #[], undef, undef, y4, y5, y6, .int .i64 (xs.length : Int), .int .i64 (k : Int), y9, y10, y11, y12, y13, y14, y15, y16, y17, y18], []⟩ [.code loop39, .inLoop loop39, .inBlock 0, .code tail39]) (b.at a (.inRegion ops (i :: rest) :: K) :: cs)) w := by
  intro m
  induction m with
  | zero =>
    intro k hk X w hX hst hrd hK y4 y5 y6 y9 y10 y11 y12 y13 y14 y15 y16 y17 y18
    have hlt : decide ((k : Int) < (xs.length : Int)) = false := decide_eq_false (by omega)
    have hlt' : decide (k < xs.length) = false := decide_eq_false (by omega)
    have hK := hK w (-1) (Off.refl _ w) (by rw [List.drop_of_length_le (by omega)]; rfl)
    clear hst hrd
    simp only [loop39, tail39, Try.f39, Option.getD_some]
    repeat first
      | refine Run.seq ?_
      | refine Run.skip ?_
      | refine Run.regionEnd ?_
      | refine Run.block ?_
      | refine Run.inBlock ?_
      | (refine Run.region ?_; simp only [List.size_toArray, List.length_cons, List.length_nil, Nat.reduceAdd, Nat.zero_add, List.range, List.range.loop])
      | (refine Run.cond rfl ?_; simp only [if_true, if_false, Bool.false_eq_true, ↓reduceIte])
      | (refine Run.unwanted rfl rfl ?_; walk_nrm)
      | (refine Run.op0 rfl rfl (by k_ne) (fun d K hK => by go_simp; exact hK) (fun d => by first | (simp [go_sem, *] <;> fail) | fail) ?_; try w_num)
      | refine Run.ret ?_
      | refine Run.fin ?_
      | refine Run.exit rfl ?_
    refine Run.leave1 rfl rfl Try.func39 rfl ?_
    exact Run.up _ hK
  | succ m ih =>
    intro k hk X w hX hst hrd hK y4 y5 y6 y9 y10 y11 y12 y13 y14 y15 y16 y17 y18
    have hkn : k < xs.length := by omega
    have hlt : decide ((k : Int) < (xs.length : Int)) = true := decide_eq_true (by omega)
    have hlt' : decide (k < xs.length) = true := decide_eq_true hkn
    have hu' : (k : Int) < (xs.length : Int) := by omega
    obtain ⟨ar, off, rfl, har, hcs⟩ := hst (by intro e; subst e; simp at hkn)
    obtain ⟨c0, c1⟩ := hcs k hkn
    have hfr : X.free ar := hrd ar off rfl
    have hI := ih (k + 1) (by omega)
    have ew : IntKind.i64.wrap ((k : Int) + 1) = ((k + 1 : Nat) : Int) := by
      rw [IntKind.wrap_i64]
      omega
    simp only [loop39, tail39, Try.f39, Option.getD_some] at hI ⊢
    repeat first
      | refine Run.seq ?_
      | refine Run.skip ?_
      | refine Run.regionEnd ?_
      | refine Run.block ?_
      | refine Run.inBlock ?_
      | (refine Run.region ?_; simp only [List.size_toArray, List.length_cons, List.length_nil, Nat.reduceAdd, Nat.zero_add, List.range, List.range.loop])
      | (refine Run.cond rfl ?_; simp only [if_true, if_false, Bool.false_eq_true, ↓reduceIte])
      | (refine Run.unwanted rfl rfl ?_; walk_nrm)
      | (refine Run.op0 rfl rfl (by k_ne) (fun d K hK => by go_simp; exact hK) (fun d => by first | (simp [go_sem, *] <;> fail) | fail) ?_; try w_num)
      | refine Run.ret ?_
      | refine Run.fin ?_
      | refine Run.exit rfl ?_
    refine Run.op w rfl rfl (by k_ne) (fun d K hK => by go_simp; exact hK) (fun d e he => by
      simp [go_sem, *] at he
      rcases he with he | he <;> (subst he; exact evL_free hfr)) ?_
    try w_num
    refine Run.callv rfl rfl (by k_ne) rfl rfl Try.func26 nm26 rfl ?_
    walk_nrmf Try.f26
    have hW := fun (b1 : Frame) (a1 : Act) (k1 : List Item) (cs1 : List Frame) (ops1 : Array Oper) (m1 : Nat) (rest1 : List Nat) => wrong_con (w := w) (X := X) hX (xs[k]).1 (xs[k]).2 (b := b1) (a := a1) (k := k1) (cs := cs1) (ops := ops1) (m := m1) (rest := rest1)
    simp only [Try.f26, Option.getD_some] at hW
    refine hW _ _ _ _ _ _ _ (fun w' hO hs => ?_)
    clear hW
    have hX' : (X.up (w.heap.size + 1)).ok w' := ⟨hX.hears, fun b hb => hX.new b (by omega), by rw [hs]; exact Nat.max_le.2 ⟨by have := hX.low; omega, Nat.le_refl _⟩⟩
    have hup : ∀ w'', Off w'.heap.size w' w'' → (X.up (w.heap.size + 1)).up w''.heap.size = X.up w''.heap.size := fun w'' h => X.up_up (by have := h.size; omega)
    have hdr : (xs.drop k).any bad = (bad xs[k] || (xs.drop (k + 1)).any bad) := by
      rw [List.drop_eq_getElem_cons hkn]; rfl
    have hOO : ∀ w'', Off w'.heap.size w' w'' → Off w.heap.size w w'' := fun w'' h => hO.trans h.any
    have hK1 : bad xs[k] = true → Run Try.prog (X.up (w.heap.size + 1)) (G (b.at (a.put ((ops[i]?).bind (·.dst)) (.int .i64 (k : Int))) (.inRegion ops rest :: K)) cs) w' := fun hb => by
      have := hK w' (k : Int) hO (by rw [hdr, hb]; simp)
      rwa [hs] at this
    have hI := hI (X.up (w.heap.size + 1)) w' hX' (StepsAt.keep hst hO.size (fun ar' off' e => hO.block ar' (by obtain ⟨_, _, e', h', _⟩ := hst (by intro e; subst e; simp at hkn); cases e; cases e'; exact h') (by obtain ⟨_, _, e', h', _⟩ := hst (by intro e; subst e; simp at hkn); cases e; cases e'; omega))) (fun ar' off' e => Cx.free_up (hrd ar' off' e))
    have hI2 := fun hb : bad xs[k] = false => hI (fun w'' r h1 h2 => by
      rw [hup w'' h1]
      exact hK w'' r (hOO w'' h1) (by rw [h2, hdr, hb]; simp))
    clear hI hOO hdr hup hX' hO hs hcs hst hrd hK hX
    walk_nrm
    cases hb : bad xs[k] with
    | true =>
      have hK1 := hK1 hb
      clear hI2
      repeat first
        | refine Run.seq ?_
        | refine Run.skip ?_
        | refine Run.regionEnd ?_
        | refine Run.block ?_
        | refine Run.inBlock ?_
        | (refine Run.region ?_; simp only [List.size_toArray, List.length_cons, List.length_nil, Nat.reduceAdd, Nat.zero_add, List.range, List.range.loop])
        | (refine Run.cond rfl ?_; simp only [if_true, if_false, Bool.false_eq_true, ↓reduceIte])
        | (refine Run.unwanted rfl rfl ?_; walk_nrm)
        | (refine Run.op0 rfl rfl (by k_ne) (fun d K hK => by go_simp; exact hK) (fun d => by first | (simp [go_sem, *] <;> fail) | fail) ?_; try w_num)
        | refine Run.ret ?_
        | refine Run.fin ?_
        | refine Run.exit rfl ?_
      refine Run.leave1 rfl rfl Try.func39 rfl ?_
      exact hK1
    | false =>
      have hI2 := hI2 hb
      clear hK1
      repeat first
        | refine Run.seq ?_
        | refine Run.skip ?_
        | refine Run.regionEnd ?_
        | refine Run.block ?_
        | refine Run.inBlock ?_
        | (refine Run.region ?_; simp only [List.size_toArray, List.length_cons, List.length_nil, Nat.reduceAdd, Nat.zero_add, List.range, List.range.loop])
        | (refine Run.cond rfl ?_; simp only [if_true, if_false, Bool.false_eq_true, ↓reduceIte])
        | (refine Run.unwanted rfl rfl ?_; walk_nrm)
        | (refine Run.op0 rfl rfl (by k_ne) (fun d K hK => by go_simp; exact hK) (fun d => by first | (simp [go_sem, *] <;> fail) | fail) ?_; try w_num)
        | refine Run.ret ?_
        | refine Run.fin ?_
        | refine Run.exit rfl ?_
      first | rw [ew] | rw [show (k : Int) + 1 = ((k + 1 : Nat) : Int) by omega]
      refine Run.inLoop ?_
      exact hI2 _ _ _ _ _ _ _ _ _ _ _ _ _
set_option maxRecDepth 100000 in
set_option maxHeartbeats 4000000 in
theorem index_con (xs : List (Int × Int)) (sl : Option Addr) (cap : Nat) (hlen : xs.length ≤ 4611686018427387904) (hX : X.ok w) (hst : StepsAt sl xs w) (hrd : X.reads sl) :
    Con Try.prog X 39 #[.slice sl xs.length cap, .func (.func 26) #[] #[]] w (fun X' v w' => ∃ r : Int, X' = X.up w'.heap.size ∧ v = .int .i64 r ∧ Off w.heap.size w w' ∧ decide (0 ≤ r) = xs.any bad) := by
  refine ⟨Try.f39, _, Try.func39, nm39, rfl, fun b₀ a₀ ops₀ n₀ rest₀ k₀ cs hK => ?_⟩
  walk_nrmf Try.f39
  have hL := find_loop xs sl cap hlen (b := b₀) (a := a₀) (K := k₀) (cs := cs) (ops := ops₀) (i := n₀) (rest := rest₀) xs.length 0 (by omega) X w hX hst hrd (fun w' r h1 h2 => hK _ _ _ ⟨r, rfl, rfl, h1, by rw [h2]; rfl⟩)
  clear hK hX hst hrd
  simp only [loop39, tail39, Try.f39, Option.getD_some] at hL
  repeat first
    | refine Run.seq ?_
    | refine Run.skip ?_
    | refine Run.regionEnd ?_
    | refine Run.block ?_
    | refine Run.inBlock ?_
    | (refine Run.region ?_; simp only [List.size_toArray, List.length_cons, List.length_nil, Nat.reduceAdd, Nat.zero_add, List.range, List.range.loop])
    | (refine Run.cond rfl ?_; simp only [if_true, if_false, Bool.false_eq_true, ↓reduceIte])
    | (refine Run.unwanted rfl rfl ?_; walk_nrm)
    | (refine Run.op0 rfl rfl (by k_ne) (fun d K hK => by go_simp; exact hK) (fun d => by first | (simp [go_sem, *] <;> fail) | fail) ?_; try w_num)
    | refine Run.ret ?_
    | refine Run.fin ?_
    | refine Run.exit rfl ?_
  refine Run.loop ?_
  exact hL _ _ _ _ _ _ _ _ _ _ _ _ _
set_option maxRecDepth 100000 in
set_option maxHeartbeats 4000000 in
theorem contains_con (xs : List (Int × Int)) (sl : Option Addr) (cap : Nat) (hlen : xs.length ≤ 4611686018427387904) (hX : X.ok w) (hst : StepsAt sl xs w) (hrd : X.reads sl) :
    Con Try.prog X 27 #[.slice sl xs.length cap, .func (.func 26) #[] #[]] w (fun X' v w' => X' = X.up w'.heap.size ∧ v = .bool (xs.any bad) ∧ Off w.heap.size w w') := by
  have hI := index_con xs sl cap hlen hX hst hrd
  refine ⟨Try.f27, _, Try.func27, nm27, rfl, fun b₀ a₀ ops₀ n₀ rest₀ k₀ cs hK => ?_⟩
  walk_nrmf Try.f27
  clear hX hst hrd
  repeat first
    | refine Run.seq ?_
    | refine Run.skip ?_
    | refine Run.regionEnd ?_
    | refine Run.block ?_
    | refine Run.inBlock ?_
    | (refine Run.region ?_; simp only [List.size_toArray, List.length_cons, List.length_nil, Nat.reduceAdd, Nat.zero_add, List.range, List.range.loop])
    | (refine Run.cond rfl ?_; simp only [if_true, if_false, Bool.false_eq_true, ↓reduceIte])
    | (refine Run.unwanted rfl rfl ?_; walk_nrm)
    | (refine Run.op0 rfl rfl (by k_ne) (fun d K hK => by go_simp; exact hK) (fun d => by first | (simp [go_sem, *] <;> fail) | fail) ?_; try w_num)
    | refine Run.ret ?_
    | refine Run.fin ?_
    | refine Run.exit rfl ?_
  refine Run.con hI rfl rfl (by k_ne) rfl (by simp only [List.map_toArray, List.map_cons, List.map_nil]; rfl) (fun X' v w' hr => ?_)
  obtain ⟨r, rfl, rfl, h1, h2⟩ := hr
  have hK := hK _ _ _ ⟨rfl, rfl, h1⟩
  rw [← h2] at hK
  clear h1 h2 hI
  walk_nrm
  repeat first
    | refine Run.seq ?_
    | refine Run.skip ?_
    | refine Run.regionEnd ?_
    | refine Run.block ?_
    | refine Run.inBlock ?_
    | (refine Run.region ?_; simp only [List.size_toArray, List.length_cons, List.length_nil, Nat.reduceAdd, Nat.zero_add, List.range, List.range.loop])
    | (refine Run.cond rfl ?_; simp only [if_true, if_false, Bool.false_eq_true, ↓reduceIte])
    | (refine Run.unwanted rfl rfl ?_; walk_nrm)
    | (refine Run.op0 rfl rfl (by k_ne) (fun d K hK => by go_simp; exact hK) (fun d => by first | (simp [go_sem, *] <;> fail) | fail) ?_; try w_num)
    | refine Run.ret ?_
    | refine Run.fin ?_
    | refine Run.exit rfl ?_
  refine Run.leave1 rfl rfl Try.func27 rfl ?_
  exact hK
theorem bt67 : Try.prog.built 67 (#[] : Array (Nat × Value)).toList = some #[.int .i64 0, .int .i64 0, .int .i64 0, .int .i64 0, .int .i64 0, .int .i64 0, .int .i64 0, .int .i64 0, .int .i64 0, .int .i64 0, .int .u32 0, .int .i32 0, .int .u32 0, .int .i64 0] := by kernel_rfl
theorem ev_build67 (w : World) (es : Array Event) : (Instr.build 67 #[]).events Try.prog w es = es := by
  unfold Instr.build
  simp [go_sem]
set_option maxRecDepth 100000 in
set_option maxHeartbeats 4000000 in
theorem new_con (hX : X.ok w) : Con Try.prog X 9 #[] w (fun X' v w' => X' = X.up w'.heap.size ∧ v = .pointer (some ⟨w.heap.size, 0, none⟩) ∧ Off w.heap.size w w' ∧ w'.heap.size = w.heap.size + 1 ∧ TlAt w.heap.size ⟨fun _ => 0, 0, 0, false, 0⟩ w') := by
  have rb := fun w₁ => run_build (P := Try.prog) w₁ 67 #[] _ bt67
  have eb := ev_build67
  refine ⟨Try.f9, _, Try.func9, nm9, rfl, fun b₀ a₀ ops₀ n₀ rest₀ k₀ cs hK => ?_⟩
  walk_nrmf Try.f9
  repeat first
    | refine Run.seq ?_
    | refine Run.skip ?_
    | refine Run.regionEnd ?_
    | refine Run.block ?_
    | refine Run.inBlock ?_
    | (refine Run.region ?_; simp only [List.size_toArray, List.length_cons, List.length_nil, Nat.reduceAdd, Nat.zero_add, List.range, List.range.loop])
    | (refine Run.cond rfl ?_; simp only [if_true, if_false, Bool.false_eq_true, ↓reduceIte])
    | (refine Run.unwanted rfl rfl ?_; walk_nrm)
    | (refine Run.op0 rfl rfl (by k_ne) (fun d K hK => by go_simp; exact hK) (fun d => by first | (simp [go_sem, *] <;> fail) | fail) ?_; try w_num)
    | refine Run.ret ?_
    | refine Run.fin ?_
    | refine Run.exit rfl ?_
  refine Run.op (w.alloc (.cells #[.int .i64 0, .int .i64 0, .int .i64 0, .int .i64 0, .int .i64 0, .int .i64 0, .int .i64 0, .int .i64 0, .int .i64 0, .int .i64 0, .int .u32 0, .int .i32 0, .int .u32 0, .int .i64 0] 67)) rfl rfl (by k_ne) (fun d K hK => by go_simp; exact hK) (fun d e he => by simp [go_sem] at he) ?_
  have hK := hK (X.up (w.alloc (.cells #[.int .i64 0, .int .i64 0, .int .i64 0, .int .i64 0, .int .i64 0, .int .i64 0, .int .i64 0, .int .i64 0, .int .i64 0, .int .i64 0, .int .u32 0, .int .i32 0, .int .u32 0, .int .i64 0] 67)).heap.size) (.pointer (some ⟨w.heap.size, 0, none⟩)) (w.alloc (.cells #[.int .i64 0, .int .i64 0, .int .i64 0, .int .i64 0, .int .i64 0, .int .i64 0, .int .i64 0, .int .i64 0, .int .i64 0, .int .i64 0, .int .u32 0, .int .i32 0, .int .u32 0, .int .i64 0] 67)) ⟨rfl, rfl, Off.alloc _ w _, World.size_alloc .., by
    unfold TlAt TalAt World.alloc
    simp [Tl.rest]⟩
  clear hX
  refine Run.up (w.alloc (.cells #[.int .i64 0, .int .i64 0, .int .i64 0, .int .i64 0, .int .i64 0, .int .i64 0, .int .i64 0, .int .i64 0, .int .i64 0, .int .i64 0, .int .u32 0, .int .i32 0, .int .u32 0, .int .i64 0] 67)).heap.size ?_
  generalize X.up (w.alloc (.cells #[.int .i64 0, .int .i64 0, .int .i64 0, .int .i64 0, .int .i64 0, .int .i64 0, .int .i64 0, .int .i64 0, .int .i64 0, .int .i64 0, .int .u32 0, .int .i32 0, .int .u32 0, .int .i64 0] 67)).heap.size = Y at hK ⊢
  generalize w.alloc (.cells #[.int .i64 0, .int .i64 0, .int .i64 0, .int .i64 0, .int .i64 0, .int .i64 0, .int .i64 0, .int .i64 0, .int .i64 0, .int .i64 0, .int .u32 0, .int .i32 0, .int .u32 0, .int .i64 0] 67) = w2 at hK ⊢
  generalize w.heap.size = N at hK ⊢
  try walk_nrm
  repeat first
    | refine Run.seq ?_
    | refine Run.skip ?_
    | refine Run.regionEnd ?_
    | refine Run.block ?_
    | refine Run.inBlock ?_
    | (refine Run.region ?_; simp only [List.size_toArray, List.length_cons, List.length_nil, Nat.reduceAdd, Nat.zero_add, List.range, List.range.loop])
    | (refine Run.cond rfl ?_; simp only [if_true, if_false, Bool.false_eq_true, ↓reduceIte])
    | (refine Run.unwanted rfl rfl ?_; walk_nrm)
    | (refine Run.op0 rfl rfl (by k_ne) (fun d K hK => by go_simp; exact hK) (fun d => by first | (simp [go_sem, *] <;> fail) | fail) ?_; try w_num)
    | refine Run.ret ?_
    | refine Run.fin ?_
    | refine Run.exit rfl ?_
  refine Run.leave1 rfl rfl Try.func9 rfl ?_
  exact hK
end
end Go.Proofs.Ytboiolnnhmlieaa.Gang
