
/-
  Goroutine 0 beside leavers: Draw.
  Conditions: stated lemma by lemma.
-/
import Derived.Test.YtboiolnnhmlieaaGc12
import Derived.Test.YtboiolnnhmlieaaGb18
import Derived.Conc.AppendWalk
namespace Go.Proofs.Ytboiolnnhmlieaa.Gang
open Go.Conc Go.ConcN Go.RowKit Go.Conc.Lib Go.ConcR.Gen Go.ConcN.Gen
set_option linter.unusedVariables false
set_option linter.unusedSimpArgs false
open Go.ConcR (wgBlock WgAt stA smA rd wr KK)
theorem nm17 : (Try.f17.name == "runtime.NumGoroutine") = false := by kernel_rfl
theorem made_ofFn (n : Nat) : madeCells #[Value.int .i64 0] n = Array.ofFn (n := n) fun _ => Value.int .i64 0 := by
  apply Array.ext'
  rw [toList_madeCells_one]
  apply List.ext_getElem <;> simp
theorem info2 : Try.prog.info? 2 = some Try.t2 := by kernel_rfl
theorem mk41 (w : World) {NN : Nat} (h : NN ≤ 16000) : (Instr.makeSlice 41 (.int .i64 (NN : Int)) (.int .i64 (NN : Int))).run Try.prog w = .ok (.slice (some ⟨w.heap.size, 0, none⟩) NN NN) (w.alloc (.cells (Array.ofFn (n := NN) fun _ => Value.int .i64 0) 2)) := by
  have := run_makeSlice (P := Try.prog) w 41 2 _ (.int .i64 0) Try.underlying41 info2 rfl .i64 .i64 (NN : Int) (NN : Int) (by omega) (Int.le_refl _) (by show (NN : Int).toNat * 1 ≤ _; omega) (by show (8 : Int) * _ ≤ _; omega) (by omega)
  rw [this]
  show Result.ok (Value.slice (some ⟨w.heap.size, 0, none⟩) (NN : Int).toNat (NN : Int).toNat) (w.alloc (.cells (madeCells #[Value.int .i64 0] ((NN : Int).toNat * 1)) 2)) = _
  rw [Int.toNat_natCast, Nat.mul_one, made_ofFn]
theorem ev41 (w : World) {NN : Nat} (h : NN ≤ 16000) (es : Array Event) : (Instr.makeSlice 41 (.int .i64 (NN : Int)) (.int .i64 (NN : Int))).events Try.prog w es = es :=
  events_make w 41 2 _ (.int .i64 0) Try.underlying41 info2 rfl .i64 .i64 (NN : Int) (NN : Int) (by omega) (Int.le_refl _) (by show (8 : Int) * _ ≤ _; omega) (by omega) (by show (NN : Int).toNat * 8 ≤ _; omega) es
theorem Con.upped {X : Cx} {f : FuncId} {args : Array Value} {w : World} {R : Value → World → Prop} (h : Con Try.prog X f args w (fun X' v w' => X' = X ∧ R v w')) : Con Try.prog X f args w (fun X' v w' => X' = X.up w'.heap.size ∧ R v w') := by
  obtain ⟨fn, c, h1, h2, h3, h4⟩ := h
  exact ⟨fn, c, h1, h2, h3, fun b₀ a₀ ops n rest k cs hK => h4 b₀ a₀ ops n rest k cs (fun X' v w' ⟨e, hr⟩ => by subst e; exact Run.up w'.heap.size (hK _ v w' ⟨rfl, hr⟩))⟩
/-- the array, its box, the group: new -/
structure Laid (NN : Nat) (w w4 : World) : Prop where
  size : w4.heap.size = w.heap.size + 3
  arr : ArrAt w.heap.size NN (fun _ => 0) w4
  box : w4.cell? ⟨w.heap.size + 1, 0, none⟩ = some (.slice (some ⟨w.heap.size, 0, none⟩) NN NN)
  wg : WgAt 76 (w.heap.size + 2) w4 0 0
  low : ∀ b, b < w.heap.size → w4.heap[b]? = w.heap[b]?
  out : SameOut w w4
theorem laid (NN : Nat) (w : World) : Laid NN w ((((w.alloc (.cells (Array.ofFn (n := NN) fun _ => Value.int .i64 0) 2)).alloc (.cells #[.slice none 0 0] 41)).setCell ⟨w.heap.size + 1, 0, none⟩ (.slice (some ⟨w.heap.size, 0, none⟩) NN NN)).alloc (wgBlock 76 0 0)) := by
  have s1 : ((w.alloc (.cells (Array.ofFn (n := NN) fun _ => Value.int .i64 0) 2)).alloc (.cells #[.slice none 0 0] 41)).heap.size = w.heap.size + 2 := by rw [World.size_alloc, World.size_alloc]
  have s2 : (((w.alloc (.cells (Array.ofFn (n := NN) fun _ => Value.int .i64 0) 2)).alloc (.cells #[.slice none 0 0] 41)).setCell ⟨w.heap.size + 1, 0, none⟩ (.slice (some ⟨w.heap.size, 0, none⟩) NN NN)).heap.size = w.heap.size + 2 := by rw [← s1]; simp only [World.setCell, Array.size_modify]
  refine ⟨by rw [World.size_alloc, s2], ?_, ?_, ?_, fun b hb => ?_, ⟨rfl, rfl, rfl⟩⟩
  · unfold ArrAt
    rw [Below.heap_alloc _ _ _ (by omega), Below.heap_setCell _ _ _ _ (by show w.heap.size ≠ w.heap.size + 1; omega), Below.heap_alloc _ _ _ (by rw [World.size_alloc]; omega)]
    unfold World.alloc
    simp
  · rw [cell_heap (Below.heap_alloc _ _ _ (by rw [s2]; show w.heap.size + 1 < _; omega))]
    have := cell_alloc (w.alloc (.cells (Array.ofFn (n := NN) fun _ => Value.int .i64 0) 2)) #[.slice none 0 0] 41 (v := .slice none 0 0) rfl
    rw [World.size_alloc] at this
    exact World.cell?_setCell_same _ _ _ this
  · unfold WgAt
    have := (show ∀ (u : World) (o : Obj), (u.alloc o).heap[u.heap.size]? = some o from fun u o => by unfold World.alloc; simp) (((w.alloc (.cells (Array.ofFn (n := NN) fun _ => Value.int .i64 0) 2)).alloc (.cells #[.slice none 0 0] 41)).setCell ⟨w.heap.size + 1, 0, none⟩ (.slice (some ⟨w.heap.size, 0, none⟩) NN NN)) (wgBlock 76 0 0)
    rw [s2] at this
    exact this
  · rw [Below.heap_alloc _ _ _ (by omega), Below.heap_setCell _ _ _ _ (by show b ≠ w.heap.size + 1; omega), Below.heap_alloc _ _ _ (by rw [World.size_alloc]; omega), Below.heap_alloc _ _ _ hb]
section
variable {X : Cx} {T : Nat} {x : Tl} {w : World}
/-- the two boxes -/
structure Boxes2 (T N : Nat) (e : Int) (w : World) : Prop where
  t : w.cell? ⟨N, 0, none⟩ = some (.pointer (some ⟨T, 0, none⟩))
  e : w.cell? ⟨N + 1, 0, none⟩ = some (.int .i64 e)
theorem Boxes2.new (T : Nat) (e : Int) (w : World) : Boxes2 T w.heap.size e ((w.alloc (.cells #[.pointer (some ⟨T, 0, none⟩)] 24)).alloc (.cells #[.int .i64 e] 3)) := by
  refine ⟨?_, ?_⟩
  · rw [cell_heap (Below.heap_alloc _ _ _ (by rw [World.size_alloc]; show w.heap.size < _; omega))]
    exact cell_alloc w _ _ rfl
  · have := cell_alloc (w.alloc (.cells #[.pointer (some ⟨T, 0, none⟩)] 24)) #[.int .i64 e] 3 (v := .int .i64 e) rfl
    rwa [World.size_alloc] at this
theorem Boxes2.keep {N : Nat} {e : Int} {w w' : World} (h : Boxes2 T N e w) (hk : ∀ b, N ≤ b → b < N + 2 → w'.heap[b]? = w.heap[b]?) : Boxes2 T N e w' :=
  ⟨(cell_heap (hk N (Nat.le_refl _) (by omega))).trans h.t, (cell_heap (hk (N + 1) (by omega) (by omega))).trans h.e⟩
noncomputable def code17 : Code := match Try.f17.body.getD .skip with | .seq _ (.seq c _) => c | _ => .skip
noncomputable def more17 : Code := match Try.f17.body.getD .skip with | .seq _ (.seq _ c) => c | _ => .skip
set_option maxRecDepth 100000 in
set_option maxHeartbeats 8000000 in
theorem draw_lo {N : Nat} {n e : Int} (hn : n < 1 ∨ 16 < n ∨ e < 0 ∨ 1000 < e) (hB : Boxes2 T N e w) (g1 : X.free N) (g2 : X.free (N + 1)) {b : Frame} {a : Act} {k : List Item} {cs : List Frame} {ops : Array Oper} {i : Nat} {rest : List Nat}
    (hK : Run Try.prog X (G (b.at (a.put ((ops[i]?).bind (·.dst)) (.tuple #[.slice none 0 0, .int .i64 1])) (.inRegion ops rest :: k)) cs) w) :
    Run Try.prog X (G ((base 17).at ⟨#[.pointer (some ⟨T, 0, none⟩), .int .i64 n, .int .i64 e, .pointer (some ⟨N, 0, none⟩), undef, .pointer (some ⟨N + 1, 0, none⟩), .slice none 0 0, .int .i64 0, undef, undef, undef, undef, undef, undef, undef, undef, undef, undef, undef, undef, undef, undef, undef, undef, undef, undef, undef, undef, undef, undef, undef, undef, undef, undef, undef, undef, undef, undef, undef, undef, undef, undef, undef, undef], []⟩ [.code code17, .code more17]) (b.at a (.inRegion ops (i :: rest) :: k) :: cs)) w := by
  have evn := ev_nilptr ⟨T, 0, none⟩
  obtain ⟨c1, c2⟩ := hB
  simp only [code17, more17, Try.f17, Option.getD_some]
  by_cases h1 : n < 1
  · have d1 : decide (n < 1) = true := decide_eq_true h1
    clear hn h1
    repeat first
      | refine Run.seq ?_
      | refine Run.skip ?_
      | refine Run.regionEnd ?_
      | refine Run.block ?_
      | refine Run.inBlock ?_
      | (refine Run.region ?_; simp only [List.size_toArray, List.length_cons, List.length_nil, Nat.reduceAdd, Nat.zero_add, List.range, List.range.loop])
      | (refine Run.cond rfl ?_; simp only [if_true, if_false, Bool.false_eq_true, ↓reduceIte])
      | (refine Run.unwanted rfl rfl ?_; walk_nrm)
      | (refine Run.op0 rfl rfl (by k_ne) (fun d K hK => by go_simp; exact hK) (fun d => by first | (simp [go_sem, *] <;> fail) | fail) ?_; try w_num)
      | refine Run.ret ?_
      | refine Run.fin ?_
      | refine Run.exit rfl ?_
      | ((refine Run.op w rfl rfl (by k_ne) (fun d K hK => by go_simp; exact hK) (fun d e he => by simp [go_sem, *] at he; subst he; first | exact evL_free g1 | exact evL_free g2) ?_; try w_num))
    refine Run.leave2 rfl rfl Try.func17 rfl ?_
    exact hK
  · have d1 : decide (n < 1) = false := decide_eq_false h1
    by_cases h2 : 16 < n
    · have d2 : decide (16 < n) = true := decide_eq_true h2
      clear hn h1 h2
      repeat first
        | refine Run.seq ?_
        | refine Run.skip ?_
        | refine Run.regionEnd ?_
        | refine Run.block ?_
        | refine Run.inBlock ?_
        | (refine Run.region ?_; simp only [List.size_toArray, List.length_cons, List.length_nil, Nat.reduceAdd, Nat.zero_add, List.range, List.range.loop])
        | (refine Run.cond rfl ?_; simp only [if_true, if_false, Bool.false_eq_true, ↓reduceIte])
        | (refine Run.unwanted rfl rfl ?_; walk_nrm)
        | (refine Run.op0 rfl rfl (by k_ne) (fun d K hK => by go_simp; exact hK) (fun d => by first | (simp [go_sem, *] <;> fail) | fail) ?_; try w_num)
        | refine Run.ret ?_
        | refine Run.fin ?_
        | refine Run.exit rfl ?_
        | ((refine Run.op w rfl rfl (by k_ne) (fun d K hK => by go_simp; exact hK) (fun d e he => by simp [go_sem, *] at he; subst he; first | exact evL_free g1 | exact evL_free g2) ?_; try w_num))
      refine Run.leave2 rfl rfl Try.func17 rfl ?_
      exact hK
    · have d2 : decide (16 < n) = false := decide_eq_false h2
      by_cases h3 : e < 0
      · have d3 : decide (e < 0) = true := decide_eq_true h3
        clear hn h1 h2 h3
        repeat first
          | refine Run.seq ?_
          | refine Run.skip ?_
          | refine Run.regionEnd ?_
          | refine Run.block ?_
          | refine Run.inBlock ?_
          | (refine Run.region ?_; simp only [List.size_toArray, List.length_cons, List.length_nil, Nat.reduceAdd, Nat.zero_add, List.range, List.range.loop])
          | (refine Run.cond rfl ?_; simp only [if_true, if_false, Bool.false_eq_true, ↓reduceIte])
          | (refine Run.unwanted rfl rfl ?_; walk_nrm)
          | (refine Run.op0 rfl rfl (by k_ne) (fun d K hK => by go_simp; exact hK) (fun d => by first | (simp [go_sem, *] <;> fail) | fail) ?_; try w_num)
          | refine Run.ret ?_
          | refine Run.fin ?_
          | refine Run.exit rfl ?_
          | ((refine Run.op w rfl rfl (by k_ne) (fun d K hK => by go_simp; exact hK) (fun d e he => by simp [go_sem, *] at he; subst he; first | exact evL_free g1 | exact evL_free g2) ?_; try w_num))
        refine Run.leave2 rfl rfl Try.func17 rfl ?_
        exact hK
      · have d3 : decide (e < 0) = false := decide_eq_false h3
        have d4 : decide (1000 < e) = true := decide_eq_true (by omega)
        clear hn h1 h2 h3
        repeat first
          | refine Run.seq ?_
          | refine Run.skip ?_
          | refine Run.regionEnd ?_
          | refine Run.block ?_
          | refine Run.inBlock ?_
          | (refine Run.region ?_; simp only [List.size_toArray, List.length_cons, List.length_nil, Nat.reduceAdd, Nat.zero_add, List.range, List.range.loop])
          | (refine Run.cond rfl ?_; simp only [if_true, if_false, Bool.false_eq_true, ↓reduceIte])
          | (refine Run.unwanted rfl rfl ?_; walk_nrm)
          | (refine Run.op0 rfl rfl (by k_ne) (fun d K hK => by go_simp; exact hK) (fun d => by first | (simp [go_sem, *] <;> fail) | fail) ?_; try w_num)
          | refine Run.ret ?_
          | refine Run.fin ?_
          | refine Run.exit rfl ?_
          | ((refine Run.op w rfl rfl (by k_ne) (fun d K hK => by go_simp; exact hK) (fun d e he => by simp [go_sem, *] at he; subst he; first | exact evL_free g1 | exact evL_free g2) ?_; try w_num))
        refine Run.leave2 rfl rfl Try.func17 rfl ?_
        exact hK
/-- slices.Sort serves on block A -/
def SortsAt (A N : Nat) : Prop := ∀ (Y : Cx) (w1 : World) (f : Nat → Int), Y.ok w1 → Y.free A → ArrAt A N f w1 → Con Try.prog Y 36 #[.slice (some ⟨A, 0, none⟩) N N] w1 (fun Y' v w2 => Y' = Y.up w2.heap.size ∧ ∃ g, ArrAt A N g w2 ∧ Off A w1 w2 ∧ Rise g (N - 1) ∧ ∀ u, isum N (fun a => hit u (g a)) = isum N (fun a => hit u (f a)))
theorem sorts6 (A : Nat) : SortsAt A 6 := fun Y w1 f hY hA h => (Con.upped (sort6_con (cap := 6) hA f h)).mono fun Y' v w2 ⟨e, h2, s2⟩ => ⟨e, isort 5 f, h2, Off.of_aside s2, isort_rise 5, fun u => isort_sum u 5 (by omega)⟩
theorem ArrAt.cellsz {A N : Nat} {f : Nat → Int} {w : World} (h : ArrAt A N f w) : A < w.heap.size := (Array.getElem?_eq_some_iff.1 h).1
theorem ArrAt.congr {A N : Nat} {f g : Nat → Int} {w : World} (h : ArrAt A N f w) (e : ∀ i, i < N → f i = g i) : ArrAt A N g w := by
  unfold ArrAt at h ⊢
  rw [h]
  congr 2
  apply Array.ext_getElem?
  intro i
  by_cases hi : i < N
  · simp [Array.getElem?_ofFn, hi, e i hi]
  · simp [Array.getElem?_ofFn, hi]
set_option maxRecDepth 100000 in
set_option maxHeartbeats 8000000 in
theorem draw_hi {N n each : Nat} (hn1 : 1 ≤ n) (hn16 : n ≤ 16) (he : each ≤ 1000) (hX : X.ok w) (hm : ∀ l : Loc, l.isMemory = false → X.Sh l) (hT : X.free T) (hN : N + 1 < w.heap.size) (hTN : T < N) (hTl : TlAt T x w) (ht0 : 0 ≤ x.tick) (ht1 : x.tick + (n * each : Nat) ≤ 4611686018427387904)
    (hB : Boxes2 T N each w) (g1 : X.free N) (g2 : X.free (N + 1)) {b : Frame} {a : Act} {k : List Item} {cs : List Frame} {ops : Array Oper} {i : Nat} {rest : List Nat} (hS : SortsAt w.heap.size (n * each))
    (hKK : ∀ (Y : Cx) (w' : World), X.Next w Y w' → Y.free w.heap.size → Off T w w' → TlAt T { x with tick := x.tick + (n * each : Nat) } w' → ArrAt w.heap.size (n * each) (fun a => x.tick + 1 + a) w' → Run Try.prog Y (G (b.at (a.put ((ops[i]?).bind (·.dst)) (.tuple #[.slice (some ⟨w.heap.size, 0, none⟩) (n * each) (n * each), .int .i64 0])) (.inRegion ops rest :: k)) cs) w') :
    Run Try.prog X (G ((base 17).at ⟨#[.pointer (some ⟨T, 0, none⟩), .int .i64 (n : Int), .int .i64 (each : Int), .pointer (some ⟨N, 0, none⟩), undef, .pointer (some ⟨N + 1, 0, none⟩), .slice none 0 0, .int .i64 0, undef, undef, undef, undef, undef, undef, undef, undef, undef, undef, undef, undef, undef, undef, undef, undef, undef, undef, undef, undef, undef, undef, undef, undef, undef, undef, undef, undef, undef, undef, undef, undef, undef, undef, undef, undef], []⟩ [.code code17, .code more17]) (b.at a (.inRegion ops (i :: rest) :: k) :: cs)) w := by
  have evn := ev_nilptr ⟨T, 0, none⟩
  have d1 : decide ((n : Int) < 1) = false := decide_eq_false (by omega)
  have d2 : decide ((16 : Int) < (n : Int)) = false := decide_eq_false (by omega)
  have d3 : decide ((each : Int) < 0) = false := decide_eq_false (by omega)
  have d4 : decide ((1000 : Int) < (each : Int)) = false := decide_eq_false (by omega)
  obtain ⟨c1, c2⟩ := id hB
  obtain ⟨NN, hNN⟩ : ∃ NN, n * each = NN := ⟨_, rfl⟩
  have hNb : NN ≤ 16000 := by rw [← hNN]; exact Nat.mul_le_mul hn16 he
  have hw : IntKind.i64.wrap ((n : Int) * (each : Int)) = (NN : Int) := by
    rw [show (n : Int) * (each : Int) = ((n * each : Nat) : Int) from (Int.natCast_mul n each).symm, hNN, IntKind.wrap_i64]
    omega
  simp only [code17, more17, Try.f17, Option.getD_some]
  have mk := fun w₁ => mk41 w₁ hNb
  have ev := fun w₁ => ev41 w₁ hNb
  refine Run.up (w.heap.size + 2) ?_
  have Y0 : (X.up (w.heap.size + 2)).B = w.heap.size + 2 := Nat.max_eq_right (by have := hX.low; omega)
  have k1 : (X.up (w.heap.size + 2)).free N := Cx.free_up g1
  have k2 : (X.up (w.heap.size + 2)).free (N + 1) := Cx.free_up g2
  have k3 : (X.up (w.heap.size + 2)).free (w.heap.size + 1) := ⟨by rw [Y0]; omega, hX.new _ (by omega)⟩
  repeat first
    | refine Run.seq ?_
    | refine Run.skip ?_
    | refine Run.regionEnd ?_
    | refine Run.block ?_
    | refine Run.inBlock ?_
    | (refine Run.region ?_; simp only [List.size_toArray, List.length_cons, List.length_nil, Nat.reduceAdd, Nat.zero_add, List.range, List.range.loop])
    | (refine Run.cond rfl ?_; simp only [if_true, if_false, Bool.false_eq_true, ↓reduceIte])
    | (refine Run.unwanted rfl rfl ?_; walk_nrm)
    | (refine Run.op0 rfl rfl (by k_ne) (fun d K hK => by go_simp; exact hK) (fun d => by first | (simp [go_sem, *] <;> fail) | fail) ?_; try w_num)
    | refine Run.ret ?_
    | refine Run.fin ?_
    | refine Run.exit rfl ?_
    | ((refine Run.op w rfl rfl (by k_ne) (fun d K hK => by go_simp; exact hK) (fun d e he => by simp [go_sem, *] at he; subst he; first | exact evL_free k1 | exact evL_free k2) ?_; try w_num))
  refine Run.op (w.alloc (.cells (Array.ofFn (n := NN) fun _ => Value.int .i64 0) 2)) rfl rfl (by k_ne) (fun d K hK => by go_simp; exact hK) (fun d e he => by simp [go_sem, *] at he) ?_
  try w_num
  refine Run.op ((w.alloc (.cells (Array.ofFn (n := NN) fun _ => Value.int .i64 0) 2)).alloc (.cells #[.slice none 0 0] 41)) rfl rfl (by k_ne) (fun d K hK => by go_simp; exact hK) (fun d e he => by simp [go_sem] at he) ?_
  try w_num
  try simp only [World.size_alloc]
  have hL := laid NN w
  have hbb : ((w.alloc (.cells (Array.ofFn (n := NN) fun _ => Value.int .i64 0) 2)).alloc (.cells #[.slice none 0 0] 41)).heap[w.heap.size + 1]? = some (.cells #[.slice none 0 0] 41) := by
    have := (show ∀ (u : World) (o : Obj), (u.alloc o).heap[u.heap.size]? = some o from fun u o => by unfold World.alloc; simp) (w.alloc (.cells (Array.ofFn (n := NN) fun _ => Value.int .i64 0) 2)) (.cells #[.slice none 0 0] 41)
    rwa [World.size_alloc] at this
  have hbc : ((w.alloc (.cells (Array.ofFn (n := NN) fun _ => Value.int .i64 0) 2)).alloc (.cells #[.slice none 0 0] 41)).cell? ⟨w.heap.size + 1, 0, none⟩ = some (.slice none 0 0) := by unfold World.cell?; rw [hbb]; rfl
  have hbf : ((w.alloc (.cells (Array.ofFn (n := NN) fun _ => Value.int .i64 0) 2)).alloc (.cells #[.slice none 0 0] 41)).frozen? ⟨w.heap.size + 1, 0, none⟩ = false := by unfold World.frozen?; rw [hbb]; rfl
  have hbs : ((w.alloc (.cells (Array.ofFn (n := NN) fun _ => Value.int .i64 0) 2)).alloc (.cells #[.slice none 0 0] 41)).heap.size = w.heap.size + 2 := by rw [World.size_alloc, World.size_alloc]
  generalize (w.alloc (.cells (Array.ofFn (n := NN) fun _ => Value.int .i64 0) 2)).alloc (.cells #[.slice none 0 0] 41) = wb at hL hbb hbc hbf hbs ⊢
  clear hbb mk ev hw
  refine Run.op (wb.setCell ⟨w.heap.size + 1, 0, none⟩ (.slice (some ⟨w.heap.size, 0, none⟩) NN NN)) rfl rfl (by k_ne) (fun d K hK => by go_simp; exact hK) (fun d e he => by simp [go_sem, *] at he; subst he; exact evL_free k3) ?_
  have hcs : (wb.setCell ⟨w.heap.size + 1, 0, none⟩ (.slice (some ⟨w.heap.size, 0, none⟩) NN NN)).heap.size = w.heap.size + 2 := by rw [← hbs]; simp only [World.setCell, Array.size_modify]
  generalize wb.setCell ⟨w.heap.size + 1, 0, none⟩ (.slice (some ⟨w.heap.size, 0, none⟩) NN NN) = wc at hL hcs ⊢
  clear hbc hbf hbs
  try walk_nrm
  repeat first
    | refine Run.seq ?_
    | refine Run.skip ?_
    | refine Run.regionEnd ?_
    | refine Run.block ?_
    | refine Run.inBlock ?_
    | (refine Run.region ?_; simp only [List.size_toArray, List.length_cons, List.length_nil, Nat.reduceAdd, Nat.zero_add, List.range, List.range.loop])
    | (refine Run.cond rfl ?_; simp only [if_true, if_false, Bool.false_eq_true, ↓reduceIte])
    | (refine Run.unwanted rfl rfl ?_; walk_nrm)
    | (refine Run.op0 rfl rfl (by k_ne) (fun d K hK => by go_simp; exact hK) (fun d => by first | (simp [go_sem, *] <;> fail) | fail) ?_; try w_num)
    | refine Run.ret ?_
    | refine Run.fin ?_
    | refine Run.exit rfl ?_
  refine Run.op (wc.alloc (wgBlock 76 0 0)) rfl rfl (by k_ne) (fun d K hK => by go_simp; exact hK) (fun d e he => by simp [go_sem] at he) ?_
  try simp only [hcs]
  generalize wc.alloc (wgBlock 76 0 0) = w4 at hL ⊢
  clear hcs
  obtain ⟨hs4, har, hbx, hwg, hlo, hou⟩ := hL
  have hB4 : Boxes2 T N each w4 := hB.keep fun b _ h => hlo b (by omega)
  try walk_nrm
  repeat first
    | refine Run.seq ?_
    | refine Run.skip ?_
    | refine Run.regionEnd ?_
    | refine Run.block ?_
    | refine Run.inBlock ?_
    | (refine Run.region ?_; simp only [List.size_toArray, List.length_cons, List.length_nil, Nat.reduceAdd, Nat.zero_add, List.range, List.range.loop])
    | (refine Run.cond rfl ?_; simp only [if_true, if_false, Bool.false_eq_true, ↓reduceIte])
    | (refine Run.unwanted rfl rfl ?_; walk_nrm)
    | (refine Run.op0 rfl rfl (by k_ne) (fun d K hK => by go_simp; exact hK) (fun d => by first | (simp [go_sem, *] <;> fail) | fail) ?_; try w_num)
    | refine Run.ret ?_
    | refine Run.fin ?_
    | refine Run.exit rfl ?_
  refine Run.loop ?_
  have hlow := hX.low
  have hTB := hT.1
  have hg1 := g1.1
  have hg2 := g2.1
  obtain ⟨A, hA⟩ : ∃ A, w.heap.size = A := ⟨_, rfl⟩
  rw [hA] at hs4 har hbx hwg k3 Y0 ⊢
  have hpre : DrPre (X.up (A + 2)) T A (A + 3) n each (A + 2) (A + 1) x w4 (N + 1) N (some ⟨A, 0, none⟩) NN := {
    n1 := hn1
    n16 := hn16
    e1 := he
    t0 := ht0
    t1 := ht1
    size := hs4
    tT := by omega
    tA := by omega
    tW := by omega
    ne := by omega
    nA := by omega
    nT := by omega
    clean := hT.2
    cleanA := hX.new A (by omega)
    mem := hm
    box := fun c hc => by
      rcases hc with rfl | rfl | rfl
      · exact ⟨by omega, by omega, by omega, by omega, g2.2⟩
      · exact ⟨by omega, by omega, by omega, by omega, g1.2⟩
      · exact ⟨by omega, by omega, by omega, by omega, hX.new _ (by omega)⟩
    ce := hB4.e
    ct := hB4.t
    ca := by rw [hNN]; exact hbx
    new := fun c hc o => hX.new c (by omega) o
    lent := fun _ => rfl }
  have hKp : ∀ d, Kd T A (A + 3) (A + 2) w4 0 (w4.at d) := fun d => ⟨SameOut.at _ _, hs4, ⟨_, _, hwg⟩, fun _ _ _ => rfl⟩
  have hLL := fun d => drStarts (b₀ := b) (a₀ := a) (ops₀ := ops) (n₀ := i) (rest₀ := rest) (k₀ := k) (cs := cs) hpre n 0 (by omega) (w4.at d) (hKp d)
  simp only [if_pos (show 0 < n by omega), loop17, rest17, Try.f17, Option.getD_some] at hLL
  refine Run.phase (drFit (b₀ := b) (a₀ := a) (ops₀ := ops) (n₀ := i) (rest₀ := rest) (k₀ := k) (cs := cs) hpre) (x0 := ⟨x.tick, fun _ => 0⟩) hX.hears rfl (fun l hl => ?_) (fun l hl => .inl hl) ?_ ?_ (fun w' hw' => ?_) ⟨by
    have e : ((0 : Nat) : Int) * KK + ((0 : Nat) : Int) = 0 := by simp
    show WgAt 76 (A + 2) w4 (((0 : Nat) : Int) * KK + ((0 : Nat) : Int)) _
    rw [e]
    exact hwg, ?_, ?_⟩ (drawStart ht0) (fun a' w' x' h1 h2 h3 h4 => ?_)
  · rcases hl with hl | ⟨c, e, hc⟩
    · exact .inl hl
    · exact .inr ⟨c, e, by rw [hc, Y0]; exact Nat.le_refl _⟩
  · rw [Y0]; exact Nat.le_refl _
  · rw [Y0]; show A + 2 ≤ A + 3 + n; omega
  · obtain ⟨d, rfl⟩ := hw'
    exact hLL d _ _ _ _ _ _ _ _ _ _ _ _ _ _ _ _ _ _ _ _ _ _ _ _ _ _ _ _ _ _ _ _ _ _ _ _ _ _
  · show TlAt T { x with tick := x.tick } w4
    unfold TlAt TalAt
    rw [hlo T (by omega)]
    exact hTl
  · show ArrAt A (n * each) (fun _ => 0) w4
    rw [hNN]
    exact har
  · obtain ⟨⟨v, h8, rfl⟩, hK⟩ := h4
    obtain ⟨q1, q2⟩ := drawEnds h3
    rw [T44_set]
    simp only [ops17, tail17, rest17, Try.f17, Option.getD_some, h8]
    clear hLL
    have hK1 : w'.heap.size = A + 3 + n := hK.size
    have hcb : w'.cell? ⟨A + 1, 0, none⟩ = some (.slice (some ⟨A, 0, none⟩) NN NN) := (cell_heap (hK.low (A + 1) (by omega) (by omega))).trans hbx
    refine (?_ : ∀ Y : Cx, X.Next w Y w' → Y.free (A + 1) → Y.free A → Run Try.prog Y _ w') _ ⟨rfl, hX.hears, hK1.symm, fun l hl => ?_, fun l hl => .inl hl, by omega⟩ ⟨by show A + 1 < A + 3 + n; omega, fun o hs => ?_⟩ ⟨by show A < A + 3 + n; omega, fun o hs => ?_⟩
    rotate_left
    · rcases hl with hl | ⟨c, e, hc⟩
      · exact .inl hl
      · exact .inr ⟨c, e, by omega, by omega⟩
    · rcases hs with hs | ⟨c, e, hc⟩
      · exact hX.new (A + 1) (by omega) o hs
      · cases e
        have hc : A + 1 = A + 2 := hc
        omega
    · rcases hs with hs | ⟨c, e, hc⟩
      · exact hX.new A (by omega) o hs
      · cases e
        have hc : A = A + 2 := hc
        omega
    · intro Y hn y1 y2
      obtain ⟨q3, q4⟩ := h2.2
      have hOf : Off T w w' := ⟨hK.out.tape.trans hou.tape, hK.out.os.trans hou.os, hK.out.output.trans hou.output, by omega, fun c hc hne => (hK.low c (by omega) (by omega)).trans (hlo c hc)⟩
      have q4 : ArrAt A NN x'.arr w' := by rw [← hNN]; exact q4
      have q3 : TlAt T { x with tick := x'.tick } w' := q3
      rw [q1, hNN] at q3
      have hC := hS Y w' x'.arr (hn.ok hX) (by rw [hA]; exact y2) (by rw [hA, hNN]; exact q4)
      rw [hA, hNN] at hC
      rw [hA, hNN] at hKK
      clear hKp hpre h2 h3 hwg har hB4 k1 k2 k3 hB c1 c2 hS q4 hbx
      repeat first
        | refine Run.seq ?_
        | refine Run.skip ?_
        | refine Run.regionEnd ?_
        | refine Run.block ?_
        | refine Run.inBlock ?_
        | (refine Run.region ?_; simp only [List.size_toArray, List.length_cons, List.length_nil, Nat.reduceAdd, Nat.zero_add, List.range, List.range.loop])
        | (refine Run.cond rfl ?_; simp only [if_true, if_false, Bool.false_eq_true, ↓reduceIte])
        | (refine Run.unwanted rfl rfl ?_; walk_nrm)
        | (refine Run.op0 rfl rfl (by k_ne) (fun d K hK => by go_simp; exact hK) (fun d => by first | (simp [go_sem, *] <;> fail) | fail) ?_; try w_num)
        | refine Run.ret ?_
        | refine Run.fin ?_
        | refine Run.exit rfl ?_
      refine Run.op w' rfl rfl (by k_ne) (fun d K hK => by go_simp; exact hK) (fun d e he => by simp [go_sem, *] at he; subst he; exact evL_free y1) ?_
      try w_num
      refine Run.con hC rfl rfl (by k_ne) rfl (by simp only [List.map_toArray, List.map_cons, List.map_nil]; rfl) (fun Y' u w2 hr => ?_)
      obtain ⟨rfl, g, r1, r2, r3, r4⟩ := hr
      have hcb2 : w2.cell? ⟨A + 1, 0, none⟩ = some (.slice (some ⟨A, 0, none⟩) NN NN) := (cell_heap (r2.block (A + 1) (by omega) (by show A + 1 ≠ A; omega))).trans hcb
      have hr2s := r2.size
      have hg : ∀ a, a < NN → g a = x.tick + 1 + a := tickRuns r3 (fun u => by
        rw [r4 u]
        have := q2 u
        rw [hNN, q1, hNN] at this
        exact this)
      have y3 : (Y.up w2.heap.size).free (A + 1) := Cx.free_up y1
      have hK3 := hKK (Y.up w2.heap.size) w2 (hn.trans (Cx.next_up (hn.ok hX) hr2s)) (Cx.free_up y2) ⟨r2.tape.trans hOf.tape, r2.os.trans hOf.os, r2.output.trans hOf.output, by omega, fun c hc hne => (r2.block c (by omega) (by omega)).trans (hOf.block c hc hne)⟩ (by
        unfold TlAt TalAt at q3 ⊢
        rw [r2.block T (by omega) (by omega)]
        exact q3) (r1.congr hg)
      clear hg r1 r2 r3 r4 hC hKK hOf q3 hn
      walk_nrm
      repeat first
        | refine Run.seq ?_
        | refine Run.skip ?_
        | refine Run.regionEnd ?_
        | refine Run.block ?_
        | refine Run.inBlock ?_
        | (refine Run.region ?_; simp only [List.size_toArray, List.length_cons, List.length_nil, Nat.reduceAdd, Nat.zero_add, List.range, List.range.loop])
        | (refine Run.cond rfl ?_; simp only [if_true, if_false, Bool.false_eq_true, ↓reduceIte])
        | (refine Run.unwanted rfl rfl ?_; walk_nrm)
        | (refine Run.op0 rfl rfl (by k_ne) (fun d K hK => by go_simp; exact hK) (fun d => by first | (simp [go_sem, *] <;> fail) | fail) ?_; try w_num)
        | refine Run.ret ?_
        | refine Run.fin ?_
        | refine Run.exit rfl ?_
      refine Run.op w2 rfl rfl (by k_ne) (fun d K hK => by go_simp; exact hK) (fun d e he => by simp [go_sem, *] at he; subst he; exact evL_free y3) ?_
      try w_num
      repeat first
        | refine Run.seq ?_
        | refine Run.skip ?_
        | refine Run.regionEnd ?_
        | refine Run.block ?_
        | refine Run.inBlock ?_
        | (refine Run.region ?_; simp only [List.size_toArray, List.length_cons, List.length_nil, Nat.reduceAdd, Nat.zero_add, List.range, List.range.loop])
        | (refine Run.cond rfl ?_; simp only [if_true, if_false, Bool.false_eq_true, ↓reduceIte])
        | (refine Run.unwanted rfl rfl ?_; walk_nrm)
        | (refine Run.op0 rfl rfl (by k_ne) (fun d K hK => by go_simp; exact hK) (fun d => by first | (simp [go_sem, *] <;> fail) | fail) ?_; try w_num)
        | refine Run.ret ?_
        | refine Run.fin ?_
        | refine Run.exit rfl ?_
      refine Run.leave2 rfl rfl Try.func17 rfl ?_
      exact hK3
/-- Draw takes them -/
def DrawOk (n e : Int) : Prop := 1 ≤ n ∧ n ≤ 16 ∧ 0 ≤ e ∧ e ≤ 1000
set_option maxRecDepth 100000 in
set_option maxHeartbeats 8000000 in
theorem draw_con {n e : Int} (hX : X.ok w) (hm : ∀ l : Loc, l.isMemory = false → X.Sh l) (hT : X.free T) (hTl : TlAt T x w) (ht0 : 0 ≤ x.tick) (ht1 : x.tick ≤ 2305843009213693952) (hS : DrawOk n e → ∀ A, SortsAt A (n.toNat * e.toNat)) :
    Con Try.prog X 17 #[.pointer (some ⟨T, 0, none⟩), .int .i64 n, .int .i64 e] w (fun X' v w' => X.Next w X' w' ∧ Off T w w' ∧
      ((DrawOk n e ∧ ∃ A, w.heap.size ≤ A ∧ A < w'.heap.size ∧ X'.free A ∧ v = .tuple #[.slice (some ⟨A, 0, none⟩) (n.toNat * e.toNat) (n.toNat * e.toNat), .int .i64 0] ∧ TlAt T { x with tick := x.tick + (n.toNat * e.toNat : Nat) } w' ∧ ArrAt A (n.toNat * e.toNat) (fun a => x.tick + 1 + a) w') ∨
       (¬ DrawOk n e ∧ v = .tuple #[.slice none 0 0, .int .i64 1] ∧ TlAt T x w'))) := by
  have hlow := hX.low
  have hTB := hT.1
  refine ⟨Try.f17, _, Try.func17, nm17, rfl, fun b₀ a₀ ops₀ n₀ rest₀ k₀ cs hK => ?_⟩
  walk_nrmf Try.f17
  refine Run.up (w.heap.size + 2) ?_
  have Y0 : (X.up (w.heap.size + 2)).B = w.heap.size + 2 := Nat.max_eq_right (by omega)
  have g1 : (X.up (w.heap.size + 2)).free w.heap.size := ⟨by rw [Y0]; omega, hX.new _ (Nat.le_refl _)⟩
  have g2 : (X.up (w.heap.size + 2)).free (w.heap.size + 1) := ⟨by rw [Y0]; omega, hX.new _ (by omega)⟩
  refine Run.seq ?_
  refine Run.region ?_
  simp only [List.size_toArray, List.length_cons, List.length_nil, Nat.reduceAdd, Nat.zero_add, List.range, List.range.loop]
  refine Run.op (w.alloc (.cells #[.pointer (some ⟨T, 0, none⟩)] 24)) rfl rfl (by k_ne) (fun d K hK => by go_simp; exact hK) (fun d e he => by simp [go_sem] at he) ?_
  try w_num
  refine Run.op ((w.alloc (.cells #[.pointer (some ⟨T, 0, none⟩)] 24)).alloc (.cells #[.int .i64 e] 3)) rfl rfl (by k_ne) (fun d K hK => by go_simp; exact hK) (fun d e he => by simp [go_sem] at he) ?_
  try w_num
  have hBx := Boxes2.new T e w
  have hO : Off w.heap.size w ((w.alloc (.cells #[.pointer (some ⟨T, 0, none⟩)] 24)).alloc (.cells #[.int .i64 e] 3)) := (Off.alloc _ w _).trans (Off.alloc _ _ _)
  have hs : ((w.alloc (.cells #[.pointer (some ⟨T, 0, none⟩)] 24)).alloc (.cells #[.int .i64 e] 3)).heap.size = w.heap.size + 2 := by rw [World.size_alloc, World.size_alloc]
  try simp only [World.size_alloc]
  generalize ((w.alloc (.cells #[.pointer (some ⟨T, 0, none⟩)] 24)).alloc (.cells #[.int .i64 e] 3)) = w3 at hBx hO hs ⊢
  have hX3 : (X.up (w.heap.size + 2)).ok w3 := ⟨hX.hears, fun b hb o => hX.new b (by omega) o, by rw [Y0]; omega⟩
  have hTl3 : TlAt T x w3 := by
    unfold TlAt TalAt
    rw [hO.block T (by omega) (by omega)]
    exact hTl
  refine Run.op0 rfl rfl (by k_ne) (fun d K hK => by go_simp; exact hK) (fun d => by simp [go_sem]) ?_
  try w_num
  refine Run.op0 rfl rfl (by k_ne) (fun d K hK => by go_simp; exact hK) (fun d => by simp [go_sem]) ?_
  try w_num
  refine Run.regionEnd ?_
  refine Run.seq ?_
  by_cases hn : n < 1 ∨ 16 < n ∨ e < 0 ∨ 1000 < e
  · have hno : ¬ DrawOk n e := fun h => by obtain ⟨h1, h2, h3, h4⟩ := h; omega
    have hL := draw_lo (X := X.up (w.heap.size + 2)) hn hBx g1 g2 (b := b₀) (a := a₀) (k := k₀) (cs := cs) (ops := ops₀) (i := n₀) (rest := rest₀) (by
      rw [show w.heap.size + 2 = w3.heap.size from hs.symm]
      exact hK _ _ _ ⟨Cx.next_up hX (by omega), hO.any, .inr ⟨hno, rfl, hTl3⟩⟩)
    simp only [code17, more17, Try.f17, Option.getD_some] at hL
    exact hL
  · have hyes : DrawOk n e := ⟨by omega, by omega, by omega, by omega⟩
    obtain ⟨m, rfl⟩ : ∃ m : Nat, n = m := ⟨n.toNat, by omega⟩
    obtain ⟨q, rfl⟩ : ∃ q : Nat, e = q := ⟨e.toNat, by omega⟩
    have hS := hS hyes
    simp only [Int.toNat_natCast] at hS hK
    have hmq : m * q ≤ 16000 := Nat.mul_le_mul (show m ≤ 16 by omega) (show q ≤ 1000 by omega)
    have hL := draw_hi (X := X.up (w.heap.size + 2)) (w := w3) (x := x) (N := w.heap.size) (n := m) (each := q) (by omega) (by omega) (by omega) hX3 hm (Cx.free_up hT) (by omega) (by omega) hTl3 ht0 (by omega) hBx g1 g2 (b := b₀) (a := a₀) (k := k₀) (cs := cs) (ops := ops₀) (i := n₀) (rest := rest₀) (hS _)
      (fun Y w' hN hF hO' ht hA => hK _ _ _ ⟨⟨hN.post, hN.d, hN.B, fun l hl => by
          rcases hN.sh l hl with h | ⟨a, e, h1, h2⟩
          · exact .inl h
          · exact .inr ⟨a, e, by omega, h2⟩, hN.sub, by have := hN.le; omega⟩, hO.any.trans hO', .inl ⟨hyes, w3.heap.size, by omega, by
            have hh := hA.cellsz
            exact hh, hF, rfl, ht, hA⟩⟩)
    simp only [code17, more17, Try.f17, Option.getD_some] at hL
    exact hL
end
end Go.Proofs.Ytboiolnnhmlieaa.Gang
