
/-
  Goroutine 0 beside leavers: Do of a once, and First.
  Conditions: stated lemma by lemma.
-/
import Derived.Test.YtboiolnnhmlieaaGc5
namespace Go.Proofs.Ytboiolnnhmlieaa.Gang
open Go.Conc Go.ConcN Go.RowKit Go.Conc.Lib Go.ConcR.Gen Go.ConcN.Gen
set_option linter.unusedVariables false
set_option linter.unusedSimpArgs false
section
variable {X : Cx} {T : Nat} {x : Tl} {w : World}
/-- whatever else lay there is as it was -/
structure Off (T : Nat) (w w' : World) : Prop where
  tape : w'.tape = w.tape
  os : w'.os = w.os
  output : w'.output = w.output
  size : w.heap.size ≤ w'.heap.size
  block : ∀ b, b < w.heap.size → b ≠ T → w'.heap[b]? = w.heap[b]?
theorem Off.refl (T : Nat) (w : World) : Off T w w := ⟨rfl, rfl, rfl, Nat.le_refl _, fun _ _ _ => rfl⟩
theorem Off.trans {T : Nat} {a b c : World} (h : Off T a b) (k : Off T b c) : Off T a c := ⟨k.tape.trans h.tape, k.os.trans h.os, k.output.trans h.output, Nat.le_trans h.size k.size, fun i hi hn => (k.block i (Nat.lt_of_lt_of_le hi h.size) hn).trans (h.block i hi hn)⟩
theorem Off.of_aside {T : Nat} {w w' : World} (h : Aside T w w') : Off T w w' := ⟨h.tape, h.os, h.output, by rw [h.size]; exact Nat.le_refl _, fun b _ hb => h.block b hb⟩
theorem Off.alloc (T : Nat) (w : World) (o : Obj) : Off T w (w.alloc o) := ⟨rfl, rfl, rfl, by rw [World.size_alloc]; omega, fun b hb _ => Below.heap_alloc w o b hb⟩
theorem cell_alloc (w : World) (cs : Array Value) (ty : TypeId) {v : Value} (h : cs[0]? = some v) : (w.alloc (.cells cs ty)).cell? ⟨w.heap.size, 0, none⟩ = some v := by
  unfold World.cell?
  rw [show (w.alloc (.cells cs ty)).heap[w.heap.size]? = some (.cells cs ty) from by unfold World.alloc; simp]
  simpa using h
def Cx.up (X : Cx) (n : Nat) : Cx := { X with B := max X.B n }
theorem Cx.up_le (X : Cx) (n : Nat) : X.B ≤ (X.up n).B := Nat.le_max_left _ _
theorem Cx.lt_up (X : Cx) {n b : Nat} (h : b < n) : b < (X.up n).B := Nat.lt_of_lt_of_le h (Nat.le_max_right _ _)
theorem Cx.up_up (X : Cx) {n m : Nat} (h : n ≤ m) : (X.up n).up m = X.up m := by
  unfold Cx.up
  simp only [Nat.max_assoc, Nat.max_eq_right h]
theorem Run.up {P : Program} {g : Goroutine} (n : Nat) (h : Run P (X.up n) g w) : Run P X g w := Run.raise (X.up_le n) h
/-- goroutine 0 hears, and no new block is shunned -/
structure Cx.ok (X : Cx) (w : World) : Prop where
  hears : X.d = 0
  new : ∀ b, w.heap.size ≤ b → ∀ o, ¬ X.Sh (.cell ⟨b, o, none⟩)
  low : X.B ≤ w.heap.size
theorem TlM.off {st : Int} {w' : World} {U : Nat} (h : TlM T x st w) (hU : U ≠ T) (k : Aside U w w') : TlM T x st w' := by
  unfold TlM TalAt at h ⊢
  rw [k.block T (fun e => hU e.symm)]; exact h
set_option maxRecDepth 100000 in
set_option maxHeartbeats 4000000 in
theorem slow_con {b3 b2 : Nat} {n : Int} (h3 : X.free b3) (h2 : X.free b2) (hT : X.free T) (n3 : b3 ≠ T) (n2 : b2 ≠ T) (c3 : w.cell? ⟨b3, 0, none⟩ = some (.int .i64 n)) (c2 : w.cell? ⟨b2, 0, none⟩ = some (.pointer (some ⟨T, 0, none⟩))) (h : TlM T x 0 w) (hx : x.done = false) :
    Con Try.prog X 59 #[.pointer (some ⟨T, 10, none⟩), .func (.func 33) #[] #[.pointer (some ⟨b3, 0, none⟩), .pointer (some ⟨b2, 0, none⟩)]] w (fun X' v w' => X' = X ∧ v = .tuple #[] ∧ TlM T { x with done := true, word := n } 0 w' ∧ Aside T w w') := by
  refine ⟨Try.f59, _, Try.func59, nm59, rfl, fun b₀ a₀ ops₀ n₀ rest₀ k₀ cs hK => ?_⟩
  walk_nrmf Try.f59
  repeat first
    | refine Run.seq ?_
    | refine Run.skip ?_
    | refine Run.regionEnd ?_
    | refine Run.block ?_
    | refine Run.inBlock ?_
    | (refine Run.region ?_; simp only [List.size_toArray, List.length_cons, List.length_nil, Nat.reduceAdd, Nat.zero_add, List.range, List.range.loop])
    | (refine Run.cond rfl ?_; simp only [if_true, if_false, Bool.false_eq_true, ↓reduceIte])
    | (refine Run.unwanted rfl rfl ?_; walk_nrm)
    | (refine Run.op0 rfl rfl (by k_ne) (fun d K hK => by go_simp; exact hK) (fun d => by first | (simp [go_sem, *] <;> fail) | fail) ?_; try w_num)
    | refine Run.ret ?_
    | refine Run.fin ?_
    | refine Run.exit rfl ?_
  refine Run.con (lock_con hT.1 h) rfl rfl (by k_ne) rfl (by simp only [List.map_toArray, List.map_cons, List.map_nil]; rfl) (fun X' v w' hr => ?_)
  obtain ⟨rfl, hw1⟩ := hr
  have m1 : TlM T x 1 w' := hw1 ▸ h.setState 1
  have s1 : Aside T w w' := hw1 ▸ aside_setCell w ⟨T, 11, none⟩ _
  clear hw1
  walk_nrm
  repeat first
    | refine Run.seq ?_
    | refine Run.skip ?_
    | refine Run.regionEnd ?_
    | refine Run.block ?_
    | refine Run.inBlock ?_
    | (refine Run.region ?_; simp only [List.size_toArray, List.length_cons, List.length_nil, Nat.reduceAdd, Nat.zero_add, List.range, List.range.loop])
    | (refine Run.cond rfl ?_; simp only [if_true, if_false, Bool.false_eq_true, ↓reduceIte])
    | (refine Run.unwanted rfl rfl ?_; walk_nrm)
    | (refine Run.defer rfl rfl (by k_ne) rfl ?_; walk_nrm)
    | (refine Run.op0 rfl rfl (by k_ne) (fun d K hK => by go_simp; exact hK) (fun d => by first | (simp [go_sem, *] <;> fail) | fail) ?_; try w_num)
    | refine Run.ret ?_
    | refine Run.fin ?_
    | refine Run.exit rfl ?_
  refine Run.con (flag_con hT.1 m1) rfl rfl (by k_ne) rfl (by simp only [List.map_toArray, List.map_cons, List.map_nil]; rfl) (fun X' v w'' hr => ?_)
  obtain ⟨rfl, rfl, rfl⟩ := hr
  rw [hx]
  walk_nrm
  repeat first
    | refine Run.seq ?_
    | refine Run.skip ?_
    | refine Run.regionEnd ?_
    | refine Run.block ?_
    | refine Run.inBlock ?_
    | (refine Run.region ?_; simp only [List.size_toArray, List.length_cons, List.length_nil, Nat.reduceAdd, Nat.zero_add, List.range, List.range.loop])
    | (refine Run.cond rfl ?_; simp only [if_true, if_false, Bool.false_eq_true, ↓reduceIte])
    | (refine Run.unwanted rfl rfl ?_; walk_nrm)
    | (refine Run.defer rfl rfl (by k_ne) rfl ?_; walk_nrm)
    | (refine Run.op0 rfl rfl (by k_ne) (fun d K hK => by go_simp; exact hK) (fun d => by first | (simp [go_sem, *] <;> fail) | fail) ?_; try w_num)
    | refine Run.ret ?_
    | refine Run.fin ?_
    | refine Run.exit rfl ?_
  refine Run.callv rfl rfl (by k_ne) rfl rfl Try.func33 nm33 rfl ?_
  simp only [List.map_toArray, List.map_cons, List.map_nil]
  refine word_con h3 h2 hT ((cell_heap (s1.block _ n3)).trans c3) ((cell_heap (s1.block _ n2)).trans c2) m1 ?_
  have m2 := m1.setWord n
  have s2 := aside_trans s1 (aside_setCell w'' ⟨T, 13, none⟩ (.int .i64 n))
  generalize w''.setCell ⟨T, 13, none⟩ (.int .i64 n) = w2 at m2 s2 ⊢
  clear m1 s1 c3 c2
  walk_nrm
  repeat first
    | refine Run.seq ?_
    | refine Run.skip ?_
    | refine Run.regionEnd ?_
    | refine Run.block ?_
    | refine Run.inBlock ?_
    | (refine Run.region ?_; simp only [List.size_toArray, List.length_cons, List.length_nil, Nat.reduceAdd, Nat.zero_add, List.range, List.range.loop])
    | (refine Run.cond rfl ?_; simp only [if_true, if_false, Bool.false_eq_true, ↓reduceIte])
    | (refine Run.unwanted rfl rfl ?_; walk_nrm)
    | (refine Run.op0 rfl rfl (by k_ne) (fun d K hK => by go_simp; exact hK) (fun d => by first | (simp [go_sem, *] <;> fail) | fail) ?_; try w_num)
    | refine Run.ret ?_
    | refine Run.fin ?_
    | refine Run.exit rfl ?_
  refine store_con hT.1 m2 rfl ?_
  have m3 := m2.setDone
  have s3 := aside_trans s2 (aside_setCell w2 ⟨T, 10, none⟩ (.int .u32 1))
  generalize w2.setCell ⟨T, 10, none⟩ (.int .u32 1) = w3 at m3 s3 ⊢
  refine unlock_def hT m3 rfl ?_
  refine Run.leave0 rfl rfl Try.func59 rfl ?_
  exact hK _ _ _ ⟨rfl, rfl, m3.setState 0, aside_trans s3 (aside_setCell w3 ⟨T, 11, none⟩ (.int .i32 0))⟩
set_option maxRecDepth 100000 in
set_option maxHeartbeats 4000000 in
theorem do_new {b3 b2 : Nat} {n : Int} (h3 : X.free b3) (h2 : X.free b2) (hT : X.free T) (n3 : b3 ≠ T) (n2 : b2 ≠ T) (c3 : w.cell? ⟨b3, 0, none⟩ = some (.int .i64 n)) (c2 : w.cell? ⟨b2, 0, none⟩ = some (.pointer (some ⟨T, 0, none⟩))) (h : TlM T x 0 w) (hx : x.done = false) :
    Con Try.prog X 32 #[.pointer (some ⟨T, 10, none⟩), .func (.func 33) #[] #[.pointer (some ⟨b3, 0, none⟩), .pointer (some ⟨b2, 0, none⟩)]] w (fun X' v w' => X' = X ∧ v = .tuple #[] ∧ TlM T { x with done := true, word := n } 0 w' ∧ Aside T w w') := by
  refine ⟨Try.f32, _, Try.func32, nm32, rfl, fun b₀ a₀ ops₀ n₀ rest₀ k₀ cs hK => ?_⟩
  walk_nrmf Try.f32
  repeat first
    | refine Run.seq ?_
    | refine Run.skip ?_
    | refine Run.regionEnd ?_
    | refine Run.block ?_
    | refine Run.inBlock ?_
    | (refine Run.region ?_; simp only [List.size_toArray, List.length_cons, List.length_nil, Nat.reduceAdd, Nat.zero_add, List.range, List.range.loop])
    | (refine Run.cond rfl ?_; simp only [if_true, if_false, Bool.false_eq_true, ↓reduceIte])
    | (refine Run.unwanted rfl rfl ?_; walk_nrm)
    | (refine Run.op0 rfl rfl (by k_ne) (fun d K hK => by go_simp; exact hK) (fun d => by first | (simp [go_sem, *] <;> fail) | fail) ?_; try w_num)
    | refine Run.ret ?_
    | refine Run.fin ?_
    | refine Run.exit rfl ?_
  refine Run.con (flag_con hT.1 h) rfl rfl (by k_ne) rfl (by simp only [List.map_toArray, List.map_cons, List.map_nil]; rfl) (fun X' v w'' hr => ?_)
  obtain ⟨rfl, rfl, rfl⟩ := hr
  rw [hx]
  walk_nrm
  repeat first
    | refine Run.seq ?_
    | refine Run.skip ?_
    | refine Run.regionEnd ?_
    | refine Run.block ?_
    | refine Run.inBlock ?_
    | (refine Run.region ?_; simp only [List.size_toArray, List.length_cons, List.length_nil, Nat.reduceAdd, Nat.zero_add, List.range, List.range.loop])
    | (refine Run.cond rfl ?_; simp only [if_true, if_false, Bool.false_eq_true, ↓reduceIte])
    | (refine Run.unwanted rfl rfl ?_; walk_nrm)
    | (refine Run.op0 rfl rfl (by k_ne) (fun d K hK => by go_simp; exact hK) (fun d => by first | (simp [go_sem, *] <;> fail) | fail) ?_; try w_num)
    | refine Run.ret ?_
    | refine Run.fin ?_
    | refine Run.exit rfl ?_
  refine Run.con (slow_con h3 h2 hT n3 n2 c3 c2 h hx) rfl rfl (by k_ne) rfl (by simp only [List.map_toArray, List.map_cons, List.map_nil]; rfl) (fun X' v w'' hr => ?_)
  obtain ⟨rfl, rfl, m, s⟩ := hr
  walk_nrm
  repeat first
    | refine Run.seq ?_
    | refine Run.skip ?_
    | refine Run.regionEnd ?_
    | refine Run.block ?_
    | refine Run.inBlock ?_
    | (refine Run.region ?_; simp only [List.size_toArray, List.length_cons, List.length_nil, Nat.reduceAdd, Nat.zero_add, List.range, List.range.loop])
    | (refine Run.cond rfl ?_; simp only [if_true, if_false, Bool.false_eq_true, ↓reduceIte])
    | (refine Run.unwanted rfl rfl ?_; walk_nrm)
    | (refine Run.op0 rfl rfl (by k_ne) (fun d K hK => by go_simp; exact hK) (fun d => by first | (simp [go_sem, *] <;> fail) | fail) ?_; try w_num)
    | refine Run.ret ?_
    | refine Run.fin ?_
    | refine Run.exit rfl ?_
  refine Run.leave0 rfl rfl Try.func32 rfl ?_
  exact hK _ _ _ ⟨rfl, rfl, m, s⟩
set_option maxRecDepth 100000 in
set_option maxHeartbeats 4000000 in
theorem do_old {b3 b2 : Nat} {n : Int} (h3 : X.free b3) (h2 : X.free b2) (hT : X.free T) (n3 : b3 ≠ T) (n2 : b2 ≠ T) (c3 : w.cell? ⟨b3, 0, none⟩ = some (.int .i64 n)) (c2 : w.cell? ⟨b2, 0, none⟩ = some (.pointer (some ⟨T, 0, none⟩))) (h : TlM T x 0 w) (hx : x.done = true) :
    Con Try.prog X 32 #[.pointer (some ⟨T, 10, none⟩), .func (.func 33) #[] #[.pointer (some ⟨b3, 0, none⟩), .pointer (some ⟨b2, 0, none⟩)]] w (fun X' v w' => X' = X ∧ v = .tuple #[] ∧ w' = w) := by
  refine ⟨Try.f32, _, Try.func32, nm32, rfl, fun b₀ a₀ ops₀ n₀ rest₀ k₀ cs hK => ?_⟩
  walk_nrmf Try.f32
  repeat first
    | refine Run.seq ?_
    | refine Run.skip ?_
    | refine Run.regionEnd ?_
    | refine Run.block ?_
    | refine Run.inBlock ?_
    | (refine Run.region ?_; simp only [List.size_toArray, List.length_cons, List.length_nil, Nat.reduceAdd, Nat.zero_add, List.range, List.range.loop])
    | (refine Run.cond rfl ?_; simp only [if_true, if_false, Bool.false_eq_true, ↓reduceIte])
    | (refine Run.unwanted rfl rfl ?_; walk_nrm)
    | (refine Run.op0 rfl rfl (by k_ne) (fun d K hK => by go_simp; exact hK) (fun d => by first | (simp [go_sem, *] <;> fail) | fail) ?_; try w_num)
    | refine Run.ret ?_
    | refine Run.fin ?_
    | refine Run.exit rfl ?_
  refine Run.con (flag_con hT.1 h) rfl rfl (by k_ne) rfl (by simp only [List.map_toArray, List.map_cons, List.map_nil]; rfl) (fun X' v w'' hr => ?_)
  obtain ⟨rfl, rfl, rfl⟩ := hr
  rw [hx]
  walk_nrm
  repeat first
    | refine Run.seq ?_
    | refine Run.skip ?_
    | refine Run.regionEnd ?_
    | refine Run.block ?_
    | refine Run.inBlock ?_
    | (refine Run.region ?_; simp only [List.size_toArray, List.length_cons, List.length_nil, Nat.reduceAdd, Nat.zero_add, List.range, List.range.loop])
    | (refine Run.cond rfl ?_; simp only [if_true, if_false, Bool.false_eq_true, ↓reduceIte])
    | (refine Run.unwanted rfl rfl ?_; walk_nrm)
    | (refine Run.op0 rfl rfl (by k_ne) (fun d K hK => by go_simp; exact hK) (fun d => by first | (simp [go_sem, *] <;> fail) | fail) ?_; try w_num)
    | refine Run.ret ?_
    | refine Run.fin ?_
    | refine Run.exit rfl ?_
  refine Run.leave0 rfl rfl Try.func32 rfl ?_
  exact hK _ _ _ ⟨rfl, rfl, rfl⟩
set_option maxRecDepth 100000 in
set_option maxHeartbeats 4000000 in
theorem first_new {n : Int} (hX : X.ok w) (hT : X.free T) (hTs : T < w.heap.size) (h : TlM T x 0 w) (hx : x.done = false) :
    Con Try.prog X 14 #[.pointer (some ⟨T, 0, none⟩), .int .i64 n] w (fun X' v w' => X' = X.up w'.heap.size ∧ v = .int .i64 n ∧ TlM T { x with done := true, word := n } 0 w' ∧ Off T w w') := by
  have evn := ev_nilptr ⟨T, 0, none⟩
  refine ⟨Try.f14, _, Try.func14, nm14, rfl, fun b₀ a₀ ops₀ n₀ rest₀ k₀ cs hK => ?_⟩
  walk_nrmf Try.f14
  refine Run.up (w.heap.size + 2) ?_
  have hT' : (X.up (w.heap.size + 2)).free T := ⟨Nat.lt_of_lt_of_le hT.1 (X.up_le _), hT.2⟩
  have h2 : (X.up (w.heap.size + 2)).free w.heap.size := ⟨X.lt_up (by omega), hX.new _ (Nat.le_refl _)⟩
  have h3 : (X.up (w.heap.size + 2)).free (w.heap.size + 1) := ⟨X.lt_up (by omega), hX.new _ (by omega)⟩
  repeat (refine Run.seq ?_)
  refine Run.region ?_
  simp only [List.size_toArray, List.length_cons, List.length_nil, Nat.reduceAdd, Nat.zero_add, List.range, List.range.loop]
  refine Run.op (w.alloc (.cells #[.pointer (some ⟨T, 0, none⟩)] 24)) rfl rfl (by k_ne) (fun d K hK => by go_simp; exact hK) (fun d e he => by simp [go_sem, *] at he) ?_
  try w_num
  refine Run.op ((w.alloc (.cells #[.pointer (some ⟨T, 0, none⟩)] 24)).alloc (.cells #[.int .i64 n] 2)) rfl rfl (by k_ne) (fun d K hK => by go_simp; exact hK) (fun d e he => by simp [go_sem, *] at he) ?_
  try w_num
  have hm : TlM T x 0 ((w.alloc (.cells #[.pointer (some ⟨T, 0, none⟩)] 24)).alloc (.cells #[.int .i64 n] 2)) := by
    unfold TlM TalAt at h ⊢
    rw [Below.heap_alloc _ _ _ (by rw [World.size_alloc]; omega), Below.heap_alloc _ _ _ hTs]; exact h
  have c2 : ((w.alloc (.cells #[.pointer (some ⟨T, 0, none⟩)] 24)).alloc (.cells #[.int .i64 n] 2)).cell? ⟨w.heap.size, 0, none⟩ = some (.pointer (some ⟨T, 0, none⟩)) := by
    rw [cell_heap (Below.heap_alloc _ _ _ (by rw [World.size_alloc]; exact Nat.lt_succ_self _))]
    exact cell_alloc w _ _ rfl
  have c3 : ((w.alloc (.cells #[.pointer (some ⟨T, 0, none⟩)] 24)).alloc (.cells #[.int .i64 n] 2)).cell? ⟨w.heap.size + 1, 0, none⟩ = some (.int .i64 n) := by
    have := cell_alloc (w.alloc (.cells #[.pointer (some ⟨T, 0, none⟩)] 24)) (#[.int .i64 n]) 2 (v := .int .i64 n) rfl
    rw [World.size_alloc] at this
    exact this
  have so : Off T w ((w.alloc (.cells #[.pointer (some ⟨T, 0, none⟩)] 24)).alloc (.cells #[.int .i64 n] 2)) := (Off.alloc T w _).trans (Off.alloc T _ _)
  have sz : ((w.alloc (.cells #[.pointer (some ⟨T, 0, none⟩)] 24)).alloc (.cells #[.int .i64 n] 2)).heap.size = w.heap.size + 2 := by rw [World.size_alloc, World.size_alloc]
  try simp only [World.size_alloc]
  generalize (w.alloc (.cells #[.pointer (some ⟨T, 0, none⟩)] 24)).alloc (.cells #[.int .i64 n] 2) = wb at hm c2 c3 so sz ⊢
  obtain ⟨N, hN⟩ : ∃ N, N = w.heap.size := ⟨_, rfl⟩
  have n2 : N ≠ T := by omega
  have n3 : N + 1 ≠ T := by omega
  rw [← hN] at h2 h3 hT' c2 c3 sz ⊢
  obtain ⟨Y, hY⟩ : ∃ Y, Y = X.up (N + 2) := ⟨_, rfl⟩
  rw [← hY] at h2 h3 hT' ⊢
  clear hN h hTs hX hT
  try walk_nrm
  repeat first
    | refine Run.seq ?_
    | refine Run.skip ?_
    | refine Run.regionEnd ?_
    | refine Run.block ?_
    | refine Run.inBlock ?_
    | (refine Run.region ?_; simp only [List.size_toArray, List.length_cons, List.length_nil, Nat.reduceAdd, Nat.zero_add, List.range, List.range.loop])
    | (refine Run.cond rfl ?_; simp only [if_true, if_false, Bool.false_eq_true, ↓reduceIte])
    | (refine Run.unwanted rfl rfl ?_; walk_nrm)
    | (refine Run.op0 rfl rfl (by k_ne) (fun d K hK => by go_simp; exact hK) (fun d => by first | (simp [go_sem, *] <;> fail) | fail) ?_; try w_num)
    | refine Run.ret ?_
    | refine Run.fin ?_
    | refine Run.exit rfl ?_
  refine Run.op wb rfl rfl (by k_ne) (fun d K hK => by go_simp; exact hK) (fun d e he => by simp [go_sem, *] at he; subst he; exact evL_free h2) ?_
  try w_num
  repeat first
    | refine Run.seq ?_
    | refine Run.skip ?_
    | refine Run.regionEnd ?_
    | refine Run.block ?_
    | refine Run.inBlock ?_
    | (refine Run.region ?_; simp only [List.size_toArray, List.length_cons, List.length_nil, Nat.reduceAdd, Nat.zero_add, List.range, List.range.loop])
    | (refine Run.cond rfl ?_; simp only [if_true, if_false, Bool.false_eq_true, ↓reduceIte])
    | (refine Run.unwanted rfl rfl ?_; walk_nrm)
    | (refine Run.op0 rfl rfl (by k_ne) (fun d K hK => by go_simp; exact hK) (fun d => by first | (simp [go_sem, *] <;> fail) | fail) ?_; try w_num)
    | refine Run.ret ?_
    | refine Run.fin ?_
    | refine Run.exit rfl ?_
  refine Run.op wb rfl rfl (by k_ne) (fun d K hK => by go_simp; exact hK) (fun d e he => by simp [go_sem, *] at he; subst he; exact evL_free h2) ?_
  try w_num
  repeat first
    | refine Run.seq ?_
    | refine Run.skip ?_
    | refine Run.regionEnd ?_
    | refine Run.block ?_
    | refine Run.inBlock ?_
    | (refine Run.region ?_; simp only [List.size_toArray, List.length_cons, List.length_nil, Nat.reduceAdd, Nat.zero_add, List.range, List.range.loop])
    | (refine Run.cond rfl ?_; simp only [if_true, if_false, Bool.false_eq_true, ↓reduceIte])
    | (refine Run.unwanted rfl rfl ?_; walk_nrm)
    | (refine Run.op0 rfl rfl (by k_ne) (fun d K hK => by go_simp; exact hK) (fun d => by first | (simp [go_sem, *] <;> fail) | fail) ?_; try w_num)
    | refine Run.ret ?_
    | refine Run.fin ?_
    | refine Run.exit rfl ?_
  refine Run.con (do_new h3 h2 hT' n3 n2 c3 c2 hm hx) rfl rfl (by k_ne) rfl (by simp only [List.map_toArray, List.map_cons, List.map_nil]; rfl) (fun X' v w'' hr => ?_)
  obtain ⟨rfl, rfl, m, s⟩ := hr
  have c2' := (cell_heap (s.block N n2)).trans c2
  have cw := m.cellWord
  simp only at cw
  have so' := so.trans (Off.of_aside s)
  have sz' := s.size.trans sz
  clear c2 c3 hm so sz s
  walk_nrm
  repeat first
    | refine Run.seq ?_
    | refine Run.skip ?_
    | refine Run.regionEnd ?_
    | refine Run.block ?_
    | refine Run.inBlock ?_
    | (refine Run.region ?_; simp only [List.size_toArray, List.length_cons, List.length_nil, Nat.reduceAdd, Nat.zero_add, List.range, List.range.loop])
    | (refine Run.cond rfl ?_; simp only [if_true, if_false, Bool.false_eq_true, ↓reduceIte])
    | (refine Run.unwanted rfl rfl ?_; walk_nrm)
    | (refine Run.op0 rfl rfl (by k_ne) (fun d K hK => by go_simp; exact hK) (fun d => by first | (simp [go_sem, *] <;> fail) | fail) ?_; try w_num)
    | refine Run.ret ?_
    | refine Run.fin ?_
    | refine Run.exit rfl ?_
  refine Run.op w'' rfl rfl (by k_ne) (fun d K hK => by go_simp; exact hK) (fun d e he => by simp [go_sem, *] at he; subst he; exact evL_free h2) ?_
  try w_num
  repeat first
    | refine Run.seq ?_
    | refine Run.skip ?_
    | refine Run.regionEnd ?_
    | refine Run.block ?_
    | refine Run.inBlock ?_
    | (refine Run.region ?_; simp only [List.size_toArray, List.length_cons, List.length_nil, Nat.reduceAdd, Nat.zero_add, List.range, List.range.loop])
    | (refine Run.cond rfl ?_; simp only [if_true, if_false, Bool.false_eq_true, ↓reduceIte])
    | (refine Run.unwanted rfl rfl ?_; walk_nrm)
    | (refine Run.op0 rfl rfl (by k_ne) (fun d K hK => by go_simp; exact hK) (fun d => by first | (simp [go_sem, *] <;> fail) | fail) ?_; try w_num)
    | refine Run.ret ?_
    | refine Run.fin ?_
    | refine Run.exit rfl ?_
  refine Run.op w'' rfl rfl (by k_ne) (fun d K hK => by go_simp; exact hK) (fun d e he => by simp [go_sem, *] at he; subst he; exact evL_free hT') ?_
  try w_num
  repeat first
    | refine Run.seq ?_
    | refine Run.skip ?_
    | refine Run.regionEnd ?_
    | refine Run.block ?_
    | refine Run.inBlock ?_
    | (refine Run.region ?_; simp only [List.size_toArray, List.length_cons, List.length_nil, Nat.reduceAdd, Nat.zero_add, List.range, List.range.loop])
    | (refine Run.cond rfl ?_; simp only [if_true, if_false, Bool.false_eq_true, ↓reduceIte])
    | (refine Run.unwanted rfl rfl ?_; walk_nrm)
    | (refine Run.op0 rfl rfl (by k_ne) (fun d K hK => by go_simp; exact hK) (fun d => by first | (simp [go_sem, *] <;> fail) | fail) ?_; try w_num)
    | refine Run.ret ?_
    | refine Run.fin ?_
    | refine Run.exit rfl ?_
  refine Run.leave1 rfl rfl Try.func14 rfl ?_
  exact hK _ _ _ ⟨by rw [sz', hY], rfl, m, so'⟩
set_option maxRecDepth 100000 in
set_option maxHeartbeats 4000000 in
theorem first_old {n : Int} (hX : X.ok w) (hT : X.free T) (hTs : T < w.heap.size) (h : TlM T x 0 w) (hx : x.done = true) :
    Con Try.prog X 14 #[.pointer (some ⟨T, 0, none⟩), .int .i64 n] w (fun X' v w' => X' = X.up w'.heap.size ∧ v = .int .i64 x.word ∧ TlM T x 0 w' ∧ Off T w w') := by
  have evn := ev_nilptr ⟨T, 0, none⟩
  refine ⟨Try.f14, _, Try.func14, nm14, rfl, fun b₀ a₀ ops₀ n₀ rest₀ k₀ cs hK => ?_⟩
  walk_nrmf Try.f14
  refine Run.up (w.heap.size + 2) ?_
  have hT' : (X.up (w.heap.size + 2)).free T := ⟨Nat.lt_of_lt_of_le hT.1 (X.up_le _), hT.2⟩
  have h2 : (X.up (w.heap.size + 2)).free w.heap.size := ⟨X.lt_up (by omega), hX.new _ (Nat.le_refl _)⟩
  have h3 : (X.up (w.heap.size + 2)).free (w.heap.size + 1) := ⟨X.lt_up (by omega), hX.new _ (by omega)⟩
  repeat (refine Run.seq ?_)
  refine Run.region ?_
  simp only [List.size_toArray, List.length_cons, List.length_nil, Nat.reduceAdd, Nat.zero_add, List.range, List.range.loop]
  refine Run.op (w.alloc (.cells #[.pointer (some ⟨T, 0, none⟩)] 24)) rfl rfl (by k_ne) (fun d K hK => by go_simp; exact hK) (fun d e he => by simp [go_sem, *] at he) ?_
  try w_num
  refine Run.op ((w.alloc (.cells #[.pointer (some ⟨T, 0, none⟩)] 24)).alloc (.cells #[.int .i64 n] 2)) rfl rfl (by k_ne) (fun d K hK => by go_simp; exact hK) (fun d e he => by simp [go_sem, *] at he) ?_
  try w_num
  have hm : TlM T x 0 ((w.alloc (.cells #[.pointer (some ⟨T, 0, none⟩)] 24)).alloc (.cells #[.int .i64 n] 2)) := by
    unfold TlM TalAt at h ⊢
    rw [Below.heap_alloc _ _ _ (by rw [World.size_alloc]; omega), Below.heap_alloc _ _ _ hTs]; exact h
  have c2 : ((w.alloc (.cells #[.pointer (some ⟨T, 0, none⟩)] 24)).alloc (.cells #[.int .i64 n] 2)).cell? ⟨w.heap.size, 0, none⟩ = some (.pointer (some ⟨T, 0, none⟩)) := by
    rw [cell_heap (Below.heap_alloc _ _ _ (by rw [World.size_alloc]; exact Nat.lt_succ_self _))]
    exact cell_alloc w _ _ rfl
  have c3 : ((w.alloc (.cells #[.pointer (some ⟨T, 0, none⟩)] 24)).alloc (.cells #[.int .i64 n] 2)).cell? ⟨w.heap.size + 1, 0, none⟩ = some (.int .i64 n) := by
    have := cell_alloc (w.alloc (.cells #[.pointer (some ⟨T, 0, none⟩)] 24)) (#[.int .i64 n]) 2 (v := .int .i64 n) rfl
    rw [World.size_alloc] at this
    exact this
  have so : Off T w ((w.alloc (.cells #[.pointer (some ⟨T, 0, none⟩)] 24)).alloc (.cells #[.int .i64 n] 2)) := (Off.alloc T w _).trans (Off.alloc T _ _)
  have sz : ((w.alloc (.cells #[.pointer (some ⟨T, 0, none⟩)] 24)).alloc (.cells #[.int .i64 n] 2)).heap.size = w.heap.size + 2 := by rw [World.size_alloc, World.size_alloc]
  try simp only [World.size_alloc]
  generalize (w.alloc (.cells #[.pointer (some ⟨T, 0, none⟩)] 24)).alloc (.cells #[.int .i64 n] 2) = wb at hm c2 c3 so sz ⊢
  obtain ⟨N, hN⟩ : ∃ N, N = w.heap.size := ⟨_, rfl⟩
  have n2 : N ≠ T := by omega
  have n3 : N + 1 ≠ T := by omega
  rw [← hN] at h2 h3 hT' c2 c3 sz ⊢
  obtain ⟨Y, hY⟩ : ∃ Y, Y = X.up (N + 2) := ⟨_, rfl⟩
  rw [← hY] at h2 h3 hT' ⊢
  clear hN h hTs hX hT
  try walk_nrm
  repeat first
    | refine Run.seq ?_
    | refine Run.skip ?_
    | refine Run.regionEnd ?_
    | refine Run.block ?_
    | refine Run.inBlock ?_
    | (refine Run.region ?_; simp only [List.size_toArray, List.length_cons, List.length_nil, Nat.reduceAdd, Nat.zero_add, List.range, List.range.loop])
    | (refine Run.cond rfl ?_; simp only [if_true, if_false, Bool.false_eq_true, ↓reduceIte])
    | (refine Run.unwanted rfl rfl ?_; walk_nrm)
    | (refine Run.op0 rfl rfl (by k_ne) (fun d K hK => by go_simp; exact hK) (fun d => by first | (simp [go_sem, *] <;> fail) | fail) ?_; try w_num)
    | refine Run.ret ?_
    | refine Run.fin ?_
    | refine Run.exit rfl ?_
  refine Run.op wb rfl rfl (by k_ne) (fun d K hK => by go_simp; exact hK) (fun d e he => by simp [go_sem, *] at he; subst he; exact evL_free h2) ?_
  try w_num
  repeat first
    | refine Run.seq ?_
    | refine Run.skip ?_
    | refine Run.regionEnd ?_
    | refine Run.block ?_
    | refine Run.inBlock ?_
    | (refine Run.region ?_; simp only [List.size_toArray, List.length_cons, List.length_nil, Nat.reduceAdd, Nat.zero_add, List.range, List.range.loop])
    | (refine Run.cond rfl ?_; simp only [if_true, if_false, Bool.false_eq_true, ↓reduceIte])
    | (refine Run.unwanted rfl rfl ?_; walk_nrm)
    | (refine Run.op0 rfl rfl (by k_ne) (fun d K hK => by go_simp; exact hK) (fun d => by first | (simp [go_sem, *] <;> fail) | fail) ?_; try w_num)
    | refine Run.ret ?_
    | refine Run.fin ?_
    | refine Run.exit rfl ?_
  refine Run.op wb rfl rfl (by k_ne) (fun d K hK => by go_simp; exact hK) (fun d e he => by simp [go_sem, *] at he; subst he; exact evL_free h2) ?_
  try w_num
  repeat first
    | refine Run.seq ?_
    | refine Run.skip ?_
    | refine Run.regionEnd ?_
    | refine Run.block ?_
    | refine Run.inBlock ?_
    | (refine Run.region ?_; simp only [List.size_toArray, List.length_cons, List.length_nil, Nat.reduceAdd, Nat.zero_add, List.range, List.range.loop])
    | (refine Run.cond rfl ?_; simp only [if_true, if_false, Bool.false_eq_true, ↓reduceIte])
    | (refine Run.unwanted rfl rfl ?_; walk_nrm)
    | (refine Run.op0 rfl rfl (by k_ne) (fun d K hK => by go_simp; exact hK) (fun d => by first | (simp [go_sem, *] <;> fail) | fail) ?_; try w_num)
    | refine Run.ret ?_
    | refine Run.fin ?_
    | refine Run.exit rfl ?_
  refine Run.con (do_old h3 h2 hT' n3 n2 c3 c2 hm hx) rfl rfl (by k_ne) rfl (by simp only [List.map_toArray, List.map_cons, List.map_nil]; rfl) (fun X' v w'' hr => ?_)
  obtain ⟨rfl, rfl, hw⟩ := hr
  subst hw
  have c2' := c2
  have cw := hm.cellWord
  have so' := so
  have sz' := sz
  have m := hm
  clear c2 c3 hm so sz
  walk_nrm
  repeat first
    | refine Run.seq ?_
    | refine Run.skip ?_
    | refine Run.regionEnd ?_
    | refine Run.block ?_
    | refine Run.inBlock ?_
    | (refine Run.region ?_; simp only [List.size_toArray, List.length_cons, List.length_nil, Nat.reduceAdd, Nat.zero_add, List.range, List.range.loop])
    | (refine Run.cond rfl ?_; simp only [if_true, if_false, Bool.false_eq_true, ↓reduceIte])
    | (refine Run.unwanted rfl rfl ?_; walk_nrm)
    | (refine Run.op0 rfl rfl (by k_ne) (fun d K hK => by go_simp; exact hK) (fun d => by first | (simp [go_sem, *] <;> fail) | fail) ?_; try w_num)
    | refine Run.ret ?_
    | refine Run.fin ?_
    | refine Run.exit rfl ?_
  refine Run.op w'' rfl rfl (by k_ne) (fun d K hK => by go_simp; exact hK) (fun d e he => by simp [go_sem, *] at he; subst he; exact evL_free h2) ?_
  try w_num
  repeat first
    | refine Run.seq ?_
    | refine Run.skip ?_
    | refine Run.regionEnd ?_
    | refine Run.block ?_
    | refine Run.inBlock ?_
    | (refine Run.region ?_; simp only [List.size_toArray, List.length_cons, List.length_nil, Nat.reduceAdd, Nat.zero_add, List.range, List.range.loop])
    | (refine Run.cond rfl ?_; simp only [if_true, if_false, Bool.false_eq_true, ↓reduceIte])
    | (refine Run.unwanted rfl rfl ?_; walk_nrm)
    | (refine Run.op0 rfl rfl (by k_ne) (fun d K hK => by go_simp; exact hK) (fun d => by first | (simp [go_sem, *] <;> fail) | fail) ?_; try w_num)
    | refine Run.ret ?_
    | refine Run.fin ?_
    | refine Run.exit rfl ?_
  refine Run.op w'' rfl rfl (by k_ne) (fun d K hK => by go_simp; exact hK) (fun d e he => by simp [go_sem, *] at he; subst he; exact evL_free hT') ?_
  try w_num
  repeat first
    | refine Run.seq ?_
    | refine Run.skip ?_
    | refine Run.regionEnd ?_
    | refine Run.block ?_
    | refine Run.inBlock ?_
    | (refine Run.region ?_; simp only [List.size_toArray, List.length_cons, List.length_nil, Nat.reduceAdd, Nat.zero_add, List.range, List.range.loop])
    | (refine Run.cond rfl ?_; simp only [if_true, if_false, Bool.false_eq_true, ↓reduceIte])
    | (refine Run.unwanted rfl rfl ?_; walk_nrm)
    | (refine Run.op0 rfl rfl (by k_ne) (fun d K hK => by go_simp; exact hK) (fun d => by first | (simp [go_sem, *] <;> fail) | fail) ?_; try w_num)
    | refine Run.ret ?_
    | refine Run.fin ?_
    | refine Run.exit rfl ?_
  refine Run.leave1 rfl rfl Try.func14 rfl ?_
  exact hK _ _ _ ⟨by rw [sz', hY], rfl, m, so'⟩
end
end Go.Proofs.Ytboiolnnhmlieaa.Gang
