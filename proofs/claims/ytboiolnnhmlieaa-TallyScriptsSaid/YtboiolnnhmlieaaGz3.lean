
/-
  Goroutine 0 beside leavers: the reference, its small methods. Goroutine 0 beside leavers: the reference, Add. Goroutine 0 beside leavers: same.
  Conditions: stated lemma by lemma.
-/
import Derived.Test.YtboiolnnhmlieaaGc13
import Derived.Lib.Hide
import Derived.Test.YtboiolnnhmlieaaGc9
namespace Go.Proofs.Ytboiolnnhmlieaa.Gang
open Go.Conc Go.ConcN Go.RowKit Go.Conc.Lib Go.ConcR.Gen Go.ConcN.Gen
set_option linter.unusedVariables false
set_option linter.unusedSimpArgs false
theorem nm11 : (Try.f11.name == "runtime.NumGoroutine") = false := by kernel_rfl
theorem nm13 : (Try.f13.name == "runtime.NumGoroutine") = false := by kernel_rfl
theorem nm15 : (Try.f15.name == "runtime.NumGoroutine") = false := by kernel_rfl
theorem nm18 : (Try.f18.name == "runtime.NumGoroutine") = false := by kernel_rfl
theorem nm20 : (Try.f20.name == "runtime.NumGoroutine") = false := by kernel_rfl
theorem nm25 : (Try.f25.name == "runtime.NumGoroutine") = false := by kernel_rfl
/-- the reference's tally in memory -/
def RefAt (R : Nat) (x : Tl) (w : World) : Prop := w.heap[R]? = some (.cells #[.int .i64 (x.cs 0), .int .i64 (x.cs 1), .int .i64 (x.cs 2), .int .i64 (x.cs 3), .int .i64 (x.cs 4), .int .i64 (x.cs 5), .int .i64 (x.cs 6), .int .i64 (x.cs 7), .int .i64 x.most, .bool x.done, .int .i64 x.word, .int .i64 x.tick] 29)
section
variable {X : Cx} {R : Nat} {x : Tl} {w : World}
theorem RefAt.cell (h : RefAt R x w) (k : Nat) : w.cell? ⟨R, k, none⟩ = (#[.int .i64 (x.cs 0), .int .i64 (x.cs 1), .int .i64 (x.cs 2), .int .i64 (x.cs 3), .int .i64 (x.cs 4), .int .i64 (x.cs 5), .int .i64 (x.cs 6), .int .i64 (x.cs 7), .int .i64 x.most, .bool x.done, .int .i64 x.word, .int .i64 x.tick] : Array Value)[k]? := by
  unfold World.cell?
  unfold RefAt at h
  rw [h]
  rfl
theorem RefAt.slot (h : RefAt R x w) {c : Nat} (hc : c < 8) : w.cell? ⟨R, c, none⟩ = some (.int .i64 (x.cs c)) := by
  rw [h.cell]
  rcases (by omega : c = 0 ∨ c = 1 ∨ c = 2 ∨ c = 3 ∨ c = 4 ∨ c = 5 ∨ c = 6 ∨ c = 7) with rfl | rfl | rfl | rfl | rfl | rfl | rfl | rfl <;> rfl
theorem RefAt.cMost (h : RefAt R x w) : w.cell? ⟨R, 8, none⟩ = some (.int .i64 x.most) := by rw [h.cell]; rfl
theorem RefAt.cDone (h : RefAt R x w) : w.cell? ⟨R, 9, none⟩ = some (.bool x.done) := by rw [h.cell]; rfl
theorem RefAt.cWord (h : RefAt R x w) : w.cell? ⟨R, 10, none⟩ = some (.int .i64 x.word) := by rw [h.cell]; rfl
theorem RefAt.cTick (h : RefAt R x w) : w.cell? ⟨R, 11, none⟩ = some (.int .i64 x.tick) := by rw [h.cell]; rfl
theorem RefAt.thaw (h : RefAt R x w) (k : Nat) : w.frozen? ⟨R, k, none⟩ = false := by
  unfold World.frozen?
  unfold RefAt at h
  rw [h]
  simp
theorem RefAt.block {w' : World} (h : RefAt R x w) (hb : w'.heap[R]? = w.heap[R]?) : RefAt R x w' := by
  unfold RefAt at h ⊢
  rw [hb]
  exact h
theorem RefAt.put (h : RefAt R x w) (k : Nat) (v : Value) : (w.setCell ⟨R, k, none⟩ v).heap[R]? = some (.cells ((#[.int .i64 (x.cs 0), .int .i64 (x.cs 1), .int .i64 (x.cs 2), .int .i64 (x.cs 3), .int .i64 (x.cs 4), .int .i64 (x.cs 5), .int .i64 (x.cs 6), .int .i64 (x.cs 7), .int .i64 x.most, .bool x.done, .int .i64 x.word, .int .i64 x.tick] : Array Value).setIfInBounds k v) 29) := by
  unfold RefAt at h
  rw [setCell_eq_setRow w R k _ 29 (0, 0) _ h, setRow_heap w R _ _ 29 _ h]
theorem RefAt.setSlot (h : RefAt R x w) {c : Nat} (hc : c < 8) (v : Int) : RefAt R { x with cs := fun a => if a = c then v else x.cs a } (w.setCell ⟨R, c, none⟩ (.int .i64 v)) := by
  unfold RefAt
  rw [h.put]
  rcases (by omega : c = 0 ∨ c = 1 ∨ c = 2 ∨ c = 3 ∨ c = 4 ∨ c = 5 ∨ c = 6 ∨ c = 7) with rfl | rfl | rfl | rfl | rfl | rfl | rfl | rfl <;> rfl
theorem RefAt.setMost (h : RefAt R x w) (v : Int) : RefAt R { x with most := v } (w.setCell ⟨R, 8, none⟩ (.int .i64 v)) := by
  unfold RefAt
  rw [h.put]
  rfl
theorem RefAt.setDone (h : RefAt R x w) (v : Bool) : RefAt R { x with done := v } (w.setCell ⟨R, 9, none⟩ (.bool v)) := by
  unfold RefAt
  rw [h.put]
  rfl
theorem RefAt.setWord (h : RefAt R x w) (v : Int) : RefAt R { x with word := v } (w.setCell ⟨R, 10, none⟩ (.int .i64 v)) := by
  unfold RefAt
  rw [h.put]
  rfl
theorem RefAt.setTick (h : RefAt R x w) (v : Int) : RefAt R { x with tick := v } (w.setCell ⟨R, 11, none⟩ (.int .i64 v)) := by
  unfold RefAt
  rw [h.put]
  rfl
theorem ev_slot27 {c : Nat} (hc : c < 8) (w : World) (es : Array Event) : (Instr.indexAt 27 (.pointer (some ⟨R, 0, none⟩)) (.int .i64 (c : Int))).events Try.prog w es = es := events_indexAt_array 27 2 8 _ _ _ Try.underlying27 ⟨by omega, by omega⟩
theorem cells2r {w : World} {b : Nat} {x y : Int} {e : TypeId} (h : w.heap[b]? = some (.cells #[.int .i64 x, .int .i64 y] e)) : w.cell? ⟨b, 0, none⟩ = some (.int .i64 x) ∧ w.cell? ⟨b, 1, none⟩ = some (.int .i64 y) := by
  unfold World.cell?
  simp only [h]
  exact ⟨rfl, rfl⟩
theorem ev_storeb {w : World} {a : Addr} {b : Bool} {u : Value} (hu : w.cell? a = some u) (hz : w.frozen? a = false) (es : Array Event) : (store a (.bool b)).events Try.prog w es = es.push ⟨.cell a, true, false⟩ := by
  simp [store, Sem.events, Sem.runT, hu, hz]
  rfl
theorem alloc_newr (w : World) (o : Obj) : (w.alloc o).heap[w.heap.size]? = some o := by unfold World.alloc; simp
set_option maxRecDepth 100000 in
set_option maxHeartbeats 8000000 in
theorem right25_con (hX : X.ok w) (i n : Int) : Con Try.prog X 25 #[.agg #[.int .i64 i, .int .i64 n]] w (fun X' v w' => X' = X.up w'.heap.size ∧ v = .bool (okStep i n) ∧ Off w.heap.size w w') := by
  refine ⟨Try.f25, _, Try.func25, nm25, rfl, fun b₀ a₀ ops₀ n₀ rest₀ k₀ cs hK => ?_⟩
  walk_nrmf Try.f25
  repeat first
    | refine Run.seq ?_
    | refine Run.skip ?_
    | refine Run.regionEnd ?_
    | refine Run.block ?_
    | refine Run.inBlock ?_
    | (refine Run.region ?_; simp only [List.size_toArray, List.length_cons, List.length_nil, Nat.reduceAdd, Nat.zero_add, List.range, List.range.loop])
    | (refine Run.cond rfl ?_; simp only [if_true, if_false, Bool.false_eq_true, ↓reduceIte])
    | (refine Run.unwanted rfl rfl ?_; walk_nrm)
    | (refine Run.op0 rfl rfl (by k_ne) (fun d K hK => by go_simp; exact hK) (fun d => by first | (simp [go_sem, *] <;> fail) | fail) ?_; try w_num)
    | refine Run.ret ?_
    | refine Run.fin ?_
    | refine Run.exit rfl ?_
  refine Run.op (w.alloc (.cells #[.int .i64 i, .int .i64 n] 31)) rfl rfl (by k_ne) (fun d K hK => by go_simp; exact hK) (fun d e he => by simp [go_sem, *] at he) ?_
  try w_num
  obtain ⟨N, hN⟩ : ∃ N, w.heap.size = N := ⟨_, rfl⟩
  have hbx : (w.alloc (.cells #[.int .i64 i, .int .i64 n] 31)).heap[N]? = some (.cells #[.int .i64 i, .int .i64 n] 31) := by rw [← hN]; exact alloc_newr w _
  have so : Off w.heap.size w (w.alloc (.cells #[.int .i64 i, .int .i64 n] 31)) := Off.alloc _ w _
  have sz : (w.alloc (.cells #[.int .i64 i, .int .i64 n] 31)).heap.size = N + 1 := by rw [World.size_alloc, hN]
  simp only [hN]
  generalize w.alloc (.cells #[.int .i64 i, .int .i64 n] 31) = wb at hbx so sz ⊢
  refine Run.up wb.heap.size ?_
  have hPb := Cx.next_up (w' := wb) hX (by omega)
  have hF : (X.up wb.heap.size).free N := ⟨by rw [hPb.B]; omega, hX.new N (by omega)⟩
  have c0 := (cells2r hbx).1
  have c1 := (cells2r hbx).2
  have hK := Lib.hid (fun v (hv : v = .bool (okStep i n)) => hK (X.up wb.heap.size) v wb ⟨rfl, hv, so⟩)
  clear hbx so hPb hX
  cases d0 : decide (0 ≤ i) with
  | false =>
    repeat first
      | refine Run.seq ?_
      | refine Run.skip ?_
      | refine Run.regionEnd ?_
      | refine Run.block ?_
      | refine Run.inBlock ?_
      | (refine Run.region ?_; simp only [List.size_toArray, List.length_cons, List.length_nil, Nat.reduceAdd, Nat.zero_add, List.range, List.range.loop])
      | (refine Run.cond rfl ?_; simp only [if_true, if_false, Bool.false_eq_true, ↓reduceIte])
      | (refine Run.unwanted rfl rfl ?_; walk_nrm)
      | (refine Run.op0 rfl rfl (by k_ne) (fun d K hK => by go_simp; exact hK) (fun d => by first | (simp [go_sem, *] <;> fail) | fail) ?_; try w_num)
      | refine Run.ret ?_
      | refine Run.fin ?_
      | refine Run.exit rfl ?_
      | ((refine Run.op wb rfl rfl (by k_ne) (fun d K hK => by go_simp; exact hK) (fun d e he => by simp [go_sem, *] at he; subst he; exact evL_free hF) ?_; try w_num))
    refine Run.leave1 rfl rfl Try.func25 rfl ?_
    exact hK.out _ (by simp [okStep, d0])
  | true =>
    cases d1 : decide (i < 8) with
    | false =>
      repeat first
        | refine Run.seq ?_
        | refine Run.skip ?_
        | refine Run.regionEnd ?_
        | refine Run.block ?_
        | refine Run.inBlock ?_
        | (refine Run.region ?_; simp only [List.size_toArray, List.length_cons, List.length_nil, Nat.reduceAdd, Nat.zero_add, List.range, List.range.loop])
        | (refine Run.cond rfl ?_; simp only [if_true, if_false, Bool.false_eq_true, ↓reduceIte])
        | (refine Run.unwanted rfl rfl ?_; walk_nrm)
        | (refine Run.op0 rfl rfl (by k_ne) (fun d K hK => by go_simp; exact hK) (fun d => by first | (simp [go_sem, *] <;> fail) | fail) ?_; try w_num)
        | refine Run.ret ?_
        | refine Run.fin ?_
        | refine Run.exit rfl ?_
        | ((refine Run.op wb rfl rfl (by k_ne) (fun d K hK => by go_simp; exact hK) (fun d e he => by simp [go_sem, *] at he; subst he; exact evL_free hF) ?_; try w_num))
      refine Run.leave1 rfl rfl Try.func25 rfl ?_
      exact hK.out _ (by simp [okStep, d0, d1])
    | true =>
      cases d2 : decide (0 ≤ n) with
      | false =>
        repeat first
          | refine Run.seq ?_
          | refine Run.skip ?_
          | refine Run.regionEnd ?_
          | refine Run.block ?_
          | refine Run.inBlock ?_
          | (refine Run.region ?_; simp only [List.size_toArray, List.length_cons, List.length_nil, Nat.reduceAdd, Nat.zero_add, List.range, List.range.loop])
          | (refine Run.cond rfl ?_; simp only [if_true, if_false, Bool.false_eq_true, ↓reduceIte])
          | (refine Run.unwanted rfl rfl ?_; walk_nrm)
          | (refine Run.op0 rfl rfl (by k_ne) (fun d K hK => by go_simp; exact hK) (fun d => by first | (simp [go_sem, *] <;> fail) | fail) ?_; try w_num)
          | refine Run.ret ?_
          | refine Run.fin ?_
          | refine Run.exit rfl ?_
          | ((refine Run.op wb rfl rfl (by k_ne) (fun d K hK => by go_simp; exact hK) (fun d e he => by simp [go_sem, *] at he; subst he; exact evL_free hF) ?_; try w_num))
        refine Run.leave1 rfl rfl Try.func25 rfl ?_
        exact hK.out _ (by simp [okStep, d0, d1, d2])
      | true =>
        repeat first
          | refine Run.seq ?_
          | refine Run.skip ?_
          | refine Run.regionEnd ?_
          | refine Run.block ?_
          | refine Run.inBlock ?_
          | (refine Run.region ?_; simp only [List.size_toArray, List.length_cons, List.length_nil, Nat.reduceAdd, Nat.zero_add, List.range, List.range.loop])
          | (refine Run.cond rfl ?_; simp only [if_true, if_false, Bool.false_eq_true, ↓reduceIte])
          | (refine Run.unwanted rfl rfl ?_; walk_nrm)
          | (refine Run.op0 rfl rfl (by k_ne) (fun d K hK => by go_simp; exact hK) (fun d => by first | (simp [go_sem, *] <;> fail) | fail) ?_; try w_num)
          | refine Run.ret ?_
          | refine Run.fin ?_
          | refine Run.exit rfl ?_
          | ((refine Run.op wb rfl rfl (by k_ne) (fun d K hK => by go_simp; exact hK) (fun d e he => by simp [go_sem, *] at he; subst he; exact evL_free hF) ?_; try w_num))
        refine Run.leave1 rfl rfl Try.func25 rfl ?_
        exact hK.out _ (by simp [okStep, d0, d1, d2])
set_option maxRecDepth 100000 in
set_option maxHeartbeats 8000000 in
theorem rfirst_con (hR : X.free R) (h : RefAt R x w) (n : Int) : Con Try.prog X 15 #[.pointer (some ⟨R, 0, none⟩), .int .i64 n] w (fun X' v w' => X' = X ∧ v = .int .i64 (if x.done then x.word else n) ∧ RefAt R (if x.done then x else { x with done := true, word := n }) w' ∧ Aside R w w') := by
  refine ⟨Try.f15, _, Try.func15, nm15, rfl, fun b₀ a₀ ops₀ n₀ rest₀ k₀ cs hK => ?_⟩
  walk_nrmf Try.f15
  have cd := h.cDone
  have cw := h.cWord
  have tk := h.thaw
  cases hd : x.done with
  | true =>
    rw [hd] at hK cd
    simp only [if_true] at hK
    replace hK := Lib.hid (hK X _ w ⟨rfl, rfl, h, Aside.refl R w⟩)
    clear h hd
    repeat first
      | refine Run.seq ?_
      | refine Run.skip ?_
      | refine Run.regionEnd ?_
      | refine Run.block ?_
      | refine Run.inBlock ?_
      | (refine Run.region ?_; simp only [List.size_toArray, List.length_cons, List.length_nil, Nat.reduceAdd, Nat.zero_add, List.range, List.range.loop])
      | (refine Run.cond rfl ?_; simp only [if_true, if_false, Bool.false_eq_true, ↓reduceIte])
      | (refine Run.unwanted rfl rfl ?_; walk_nrm)
      | (refine Run.op0 rfl rfl (by k_ne) (fun d K hK => by go_simp; exact hK) (fun d => by first | (simp [go_sem, *] <;> fail) | fail) ?_; try w_num)
      | refine Run.ret ?_
      | refine Run.fin ?_
      | refine Run.exit rfl ?_
      | ((refine Run.op w rfl rfl (by k_ne) (fun d K hK => by go_simp; exact hK) (fun d e he => by simp [go_sem, *] at he; subst he; exact evL_free hR) ?_; try w_num))
    refine Run.leave1 rfl rfl Try.func15 rfl ?_
    exact hK.out
  | false =>
    rw [hd] at hK cd
    simp only [Bool.false_eq_true, if_false] at hK
    have h2 := (h.setDone true).setWord n
    have a2 : Aside R w ((w.setCell ⟨R, 9, none⟩ (.bool true)).setCell ⟨R, 10, none⟩ (.int .i64 n)) := aside_trans (aside_setCell w ⟨R, 9, none⟩ _) (aside_setCell _ ⟨R, 10, none⟩ _)
    have t1 := (h.setDone true).thaw
    have eb := fun (d : Nat) (es : Array Event) => ev_storeb (w := w.at d) (a := ⟨R, 9, none⟩) (b := true) cd (tk 9) es
    have w1 := (h.setDone true).cWord
    have w2 := h2.cWord
    replace hK := Lib.hid (hK X _ _ ⟨rfl, rfl, h2, a2⟩)
    clear h h2 a2 hd
    repeat first
      | refine Run.seq ?_
      | refine Run.skip ?_
      | refine Run.regionEnd ?_
      | refine Run.block ?_
      | refine Run.inBlock ?_
      | (refine Run.region ?_; simp only [List.size_toArray, List.length_cons, List.length_nil, Nat.reduceAdd, Nat.zero_add, List.range, List.range.loop])
      | (refine Run.cond rfl ?_; simp only [if_true, if_false, Bool.false_eq_true, ↓reduceIte])
      | (refine Run.unwanted rfl rfl ?_; walk_nrm)
      | (refine Run.op0 rfl rfl (by k_ne) (fun d K hK => by go_simp; exact hK) (fun d => by first | (simp [go_sem, *] <;> fail) | fail) ?_; try w_num)
      | refine Run.ret ?_
      | refine Run.fin ?_
      | refine Run.exit rfl ?_
      | ((refine Run.op w rfl rfl (by k_ne) (fun d K hK => by go_simp; exact hK) (fun d e he => by simp [go_sem, *] at he; subst he; exact evL_free hR) ?_; try w_num))
      | ((refine Run.op (w.setCell ⟨R, 9, none⟩ (.bool true)) rfl rfl (by k_ne) (fun d K hK => by go_simp; exact hK) (fun d e he => by simp [go_sem, *] at he; subst he; exact evL_free hR) ?_; try w_num))
      | ((refine Run.op ((w.setCell ⟨R, 9, none⟩ (.bool true)).setCell ⟨R, 10, none⟩ (.int .i64 n)) rfl rfl (by k_ne) (fun d K hK => by go_simp; exact hK) (fun d e he => by simp [go_sem, *] at he; subst he; exact evL_free hR) ?_; try w_num))
    refine Run.leave1 rfl rfl Try.func15 rfl ?_
    exact hK.out
end
end Go.Proofs.Ytboiolnnhmlieaa.Gang
namespace Go.Proofs.Ytboiolnnhmlieaa.Gang
open Go.Conc Go.ConcN Go.RowKit Go.Conc.Lib Go.ConcR.Gen Go.ConcN.Gen
set_option linter.unusedVariables false
set_option linter.unusedSimpArgs false
section
variable {X : Cx} {R : Nat} {x : Tl} {w : World}
set_option maxRecDepth 100000 in
set_option maxHeartbeats 8000000 in
theorem radd_con (hX : X.ok w) (hR : X.free R) (hRs : R < w.heap.size) (h : RefAt R x w) (i n : Int) : Con Try.prog X 11 #[.pointer (some ⟨R, 0, none⟩), .agg #[.int .i64 i, .int .i64 n]] w (fun X' v w' => X' = X.up w'.heap.size ∧ Off R w w' ∧
    ((okStep i n = true ∧ v = .int .i64 0 ∧ RefAt R { x with cs := fun a => if a = i.toNat then w64 (x.cs i.toNat + n) else x.cs a, most := if n ≤ x.most then x.most else n } w') ∨ (okStep i n = false ∧ v = .int .i64 1 ∧ RefAt R x w'))) := by
  refine ⟨Try.f11, _, Try.func11, nm11, rfl, fun b₀ a₀ ops₀ n₀ rest₀ k₀ cs hK => ?_⟩
  walk_nrmf Try.f11
  repeat first
    | refine Run.seq ?_
    | refine Run.skip ?_
    | refine Run.regionEnd ?_
    | refine Run.block ?_
    | refine Run.inBlock ?_
    | (refine Run.region ?_; simp only [List.size_toArray, List.length_cons, List.length_nil, Nat.reduceAdd, Nat.zero_add, List.range, List.range.loop])
    | (refine Run.cond rfl ?_; simp only [if_true, if_false, Bool.false_eq_true, ↓reduceIte])
    | (refine Run.unwanted rfl rfl ?_; walk_nrm)
    | (refine Run.op0 rfl rfl (by k_ne) (fun d K hK => by go_simp; exact hK) (fun d => by first | (simp [go_sem, *] <;> fail) | fail) ?_; try w_num)
    | refine Run.ret ?_
    | refine Run.fin ?_
    | refine Run.exit rfl ?_
  refine Run.op (w.alloc (.cells #[.int .i64 i, .int .i64 n] 31)) rfl rfl (by k_ne) (fun d K hK => by go_simp; exact hK) (fun d e he => by simp [go_sem, *] at he) ?_
  try w_num
  obtain ⟨N, hN⟩ : ∃ N, w.heap.size = N := ⟨_, rfl⟩
  have hbx : (w.alloc (.cells #[.int .i64 i, .int .i64 n] 31)).heap[N]? = some (.cells #[.int .i64 i, .int .i64 n] 31) := by rw [← hN]; exact alloc_newr w _
  have so : Off w.heap.size w (w.alloc (.cells #[.int .i64 i, .int .i64 n] 31)) := Off.alloc _ w _
  have sz : (w.alloc (.cells #[.int .i64 i, .int .i64 n] 31)).heap.size = N + 1 := by rw [World.size_alloc, hN]
  simp only [hN]
  generalize w.alloc (.cells #[.int .i64 i, .int .i64 n] 31) = wb at hbx so sz ⊢
  refine Run.up wb.heap.size ?_
  have hPb := Cx.next_up (w' := wb) hX (by omega)
  have hF : (X.up wb.heap.size).free N := ⟨by rw [hPb.B]; omega, hX.new N (by omega)⟩
  have c0 := (cells2r hbx).1
  have c1 := (cells2r hbx).2
  have hXb := hPb.ok hX
  have hRb := hPb.free hX hR
  have hrb : RefAt R x wb := h.block (so.block R hRs (by omega))
  have hC := right25_con hXb i n
  have hup : ∀ w' : World, wb.heap.size ≤ w'.heap.size → (X.up wb.heap.size).up w'.heap.size = X.up w'.heap.size := fun w' hh => X.up_up hh
  generalize hXe : X.up wb.heap.size = Xb at hXb hRb hF hC hPb hup ⊢
  repeat first
    | refine Run.seq ?_
    | refine Run.skip ?_
    | refine Run.regionEnd ?_
    | refine Run.block ?_
    | refine Run.inBlock ?_
    | (refine Run.region ?_; simp only [List.size_toArray, List.length_cons, List.length_nil, Nat.reduceAdd, Nat.zero_add, List.range, List.range.loop])
    | (refine Run.cond rfl ?_; simp only [if_true, if_false, Bool.false_eq_true, ↓reduceIte])
    | (refine Run.unwanted rfl rfl ?_; walk_nrm)
    | (refine Run.op0 rfl rfl (by k_ne) (fun d K hK => by go_simp; exact hK) (fun d => by first | (simp [go_sem, *] <;> fail) | fail) ?_; try w_num)
    | refine Run.ret ?_
    | refine Run.fin ?_
    | refine Run.exit rfl ?_
  refine Run.op wb rfl rfl (by k_ne) (fun d K hK => by go_simp; exact hK) (fun d e he => by
    simp [go_sem, *] at he
    rcases he with he | he <;> (subst he; exact evL_free hF)) ?_
  try w_num
  refine Run.con hC rfl rfl (by k_ne) rfl (by first | (simp only [List.map_toArray, List.map_cons, List.map_nil]; done) | (simp only [List.map_toArray, List.map_cons, List.map_nil]; rfl)) (fun X1 v w1 hr => ?_)
  obtain ⟨rfl, rfl, o1⟩ := hr
  have hP1 := Cx.next_up (w' := w1) hXb o1.size
  have hR1 := hP1.free hXb hRb
  have hF1 := hP1.free hXb hF
  have hr1 : RefAt R x w1 := hrb.block (o1.block R (by have := so.size; omega) (by have := so.size; omega))
  have hbx1 : w1.heap[N]? = some (.cells #[.int .i64 i, .int .i64 n] 31) := (o1.block N (by omega) (by omega)).trans hbx
  have hO1 : Off R w w1 := ⟨o1.tape.trans so.tape, o1.os.trans so.os, o1.output.trans so.output, Nat.le_trans so.size o1.size, fun b hb hne => (o1.block b (by have := so.size; omega) (by have := so.size; omega)).trans (so.block b hb (by omega))⟩
  have hX1 : Xb.up w1.heap.size = X.up w1.heap.size := hup w1 o1.size
  rw [hX1] at hR1 hF1 ⊢
  have hNR : R ≠ N := by omega
  clear c0 c1 hbx so hXb hRb hrb hC hup o1 hP1 hF hPb hX1 hXe
  have c0 := (cells2r hbx1).1
  have c1 := (cells2r hbx1).2
  cases hok : okStep i n with
  | false =>
    replace hK := Lib.hid (hK _ _ w1 ⟨rfl, hO1, .inr ⟨hok, rfl, hr1⟩⟩)
    clear hr1 hO1 hbx1 h hX
    walk_nrm
    repeat first
      | refine Run.seq ?_
      | refine Run.skip ?_
      | refine Run.regionEnd ?_
      | refine Run.block ?_
      | refine Run.inBlock ?_
      | (refine Run.region ?_; simp only [List.size_toArray, List.length_cons, List.length_nil, Nat.reduceAdd, Nat.zero_add, List.range, List.range.loop])
      | (refine Run.cond rfl ?_; simp only [if_true, if_false, Bool.false_eq_true, ↓reduceIte])
      | (refine Run.unwanted rfl rfl ?_; walk_nrm)
      | (refine Run.op0 rfl rfl (by k_ne) (fun d K hK => by go_simp; exact hK) (fun d => by first | (simp [go_sem, *] <;> fail) | fail) ?_; try w_num)
      | refine Run.ret ?_
      | refine Run.fin ?_
      | refine Run.exit rfl ?_
    refine Run.leave1 rfl rfl Try.func11 rfl ?_
    exact hK.out
  | true =>
    obtain ⟨c, rfl, hc⟩ : ∃ c : Nat, i = (c : Int) ∧ c < 8 := by
      simp only [okStep, Bool.and_eq_true, decide_eq_true_eq] at hok
      exact ⟨i.toNat, by omega, by omega⟩
    have hci : (c : Int) < 8 := by omega
    have evi := fun (w : World) es => ev_slot27 (R := R) hc w es
    have cc := hr1.slot hc
    have tc := hr1.thaw c
    have cm := hr1.cMost
    have h2 := hr1.setSlot hc (w64 (x.cs c + n))
    have a2 : Aside R w1 (w1.setCell ⟨R, c, none⟩ (.int .i64 (w64 (x.cs c + n)))) := aside_setCell w1 ⟨R, c, none⟩ _
    have ewn : IntKind.i64.wrap (x.cs c + n) = w64 (x.cs c + n) := wrap_w64 _
    have hO2 : Off R w (w1.setCell ⟨R, c, none⟩ (.int .i64 (w64 (x.cs c + n)))) := hO1.trans (Off.of_aside a2)
    have b2 : (w1.setCell ⟨R, c, none⟩ (.int .i64 (w64 (x.cs c + n)))).heap[N]? = some (.cells #[.int .i64 (c : Int), .int .i64 n] 31) := (a2.block N (fun e => hNR e.symm)).trans hbx1
    have sz2 : (w1.setCell ⟨R, c, none⟩ (.int .i64 (w64 (x.cs c + n)))).heap.size = w1.heap.size := a2.size
    walk_nrm
    repeat first
      | refine Run.seq ?_
      | refine Run.skip ?_
      | refine Run.regionEnd ?_
      | refine Run.block ?_
      | refine Run.inBlock ?_
      | (refine Run.region ?_; simp only [List.size_toArray, List.length_cons, List.length_nil, Nat.reduceAdd, Nat.zero_add, List.range, List.range.loop])
      | (refine Run.cond rfl ?_; simp only [if_true, if_false, Bool.false_eq_true, ↓reduceIte])
      | (refine Run.unwanted rfl rfl ?_; walk_nrm)
      | (refine Run.op0 rfl rfl (by k_ne) (fun d K hK => by go_simp; exact hK) (fun d => by first | (simp [go_sem, *] <;> fail) | fail) ?_; try w_num)
      | refine Run.ret ?_
      | refine Run.fin ?_
      | refine Run.exit rfl ?_
    refine Run.drawS (by k_ne) rfl (fun a' w' => w' = w1.setCell ⟨R, c, none⟩ (.int .i64 (w64 (x.cs c + n))) ∧ ∃ (y2 y5 y6 y7 y8 y9 y10 y11 y12 y13 y14 y15 y16 y17 y18 y19 y20 y21 y22 y23 y24 y25 y26 y27 y28 y29 y30 y31 y32 y33 y34 y35 : Value), a' = ⟨#[.pointer (some ⟨R, 0, none⟩), .agg #[.int .i64 (c : Int), .int .i64 n], y2, .pointer (some ⟨N, 0, none⟩), .int .i64 0, y5, y6, y7, y8, y9, y10, y11, y12, y13, y14, y15, y16, y17, y18, y19, y20, y21, y22, y23, y24, y25, y26, y27, y28, y29, y30, y31, y32, y33, y34, y35], []⟩) (Til 16 (fun w2 => w2 = w1)) ?_ (fun a' w' hq => ?_)
    · simp only [List.size_toArray, List.length_cons, List.length_nil, Nat.reduceAdd, Nat.zero_add]
      refine anyS_take (i' := 0) rfl (by kernel_rfl) (by kernel_rfl) (by kernel_rfl) (by kernel_rfl) rfl (by kernel_rfl) (fun lst w => Til.mono (by decide) lst w) (fun l' w' hg hp hs => by
        skip
        exact .inl ⟨rfl, fun d => ⟨by go_simp; rfl, fun e he => by simp [go_sem, *] at he⟩⟩) ?_
      walk_nrm
      refine anyS_take (i' := 1) rfl (by kernel_rfl) (by kernel_rfl) (by kernel_rfl) (by kernel_rfl) rfl (by kernel_rfl) (fun lst w => Til.mono (by decide) lst w) (fun l' w' hg hp hs => by
        skip
        exact .inl ⟨rfl, fun d => ⟨by go_simp; rfl, fun e he => by simp [go_sem, *] at he⟩⟩) ?_
      walk_nrm
      refine anyS_take (i' := 2) rfl (by kernel_rfl) (by kernel_rfl) (by kernel_rfl) (by kernel_rfl) rfl (by kernel_rfl) (fun lst w => Til.mono (by decide) lst w) (fun l' w' hg hp hs => by
        have hs := hs.get hg (by decide) hp (by kernel_rfl)
        have k1 : w'.cell? ⟨N, 0, none⟩ = some (.int .i64 (c : Int)) := by rw [hs]; exact c0
        have k2 : w'.cell? ⟨N, 1, none⟩ = some (.int .i64 n) := by rw [hs]; exact c1
        have k3 : w'.cell? ⟨R, c, none⟩ = some (.int .i64 (x.cs c)) := by rw [hs]; exact cc
        exact .inl ⟨rfl, fun d => ⟨by go_simp; rfl, fun e he => by simp [go_sem, *] at he; subst he; exact evL_free hF1⟩⟩) ?_
      walk_nrm
      refine anyS_take (i' := 3) rfl (by kernel_rfl) (by kernel_rfl) (by kernel_rfl) (by kernel_rfl) rfl (by kernel_rfl) (fun lst w => Til.mono (by decide) lst w) (fun l' w' hg hp hs => by
        skip
        exact .inl ⟨rfl, fun d => ⟨by go_simp; rfl, fun e he => by simp [go_sem, *] at he⟩⟩) ?_
      walk_nrm
      refine anyS_take (i' := 4) rfl (by kernel_rfl) (by kernel_rfl) (by kernel_rfl) (by kernel_rfl) rfl (by kernel_rfl) (fun lst w => Til.mono (by decide) lst w) (fun l' w' hg hp hs => by
        skip
        exact .inl ⟨rfl, fun d => ⟨by go_simp; rfl, fun e he => by simp [go_sem, *] at he⟩⟩) ?_
      walk_nrm
      refine anyS_take (i' := 5) rfl (by kernel_rfl) (by kernel_rfl) (by kernel_rfl) (by kernel_rfl) rfl (by kernel_rfl) (fun lst w => Til.mono (by decide) lst w) (fun l' w' hg hp hs => by
        have hs := hs.get hg (by decide) hp (by kernel_rfl)
        have k1 : w'.cell? ⟨N, 0, none⟩ = some (.int .i64 (c : Int)) := by rw [hs]; exact c0
        have k2 : w'.cell? ⟨N, 1, none⟩ = some (.int .i64 n) := by rw [hs]; exact c1
        have k3 : w'.cell? ⟨R, c, none⟩ = some (.int .i64 (x.cs c)) := by rw [hs]; exact cc
        exact .inl ⟨rfl, fun d => ⟨by go_simp; rfl, fun e he => by simp [go_sem, *] at he; subst he; exact evL_free hF1⟩⟩) ?_
      walk_nrm
      refine anyS_take (i' := 6) rfl (by kernel_rfl) (by kernel_rfl) (by kernel_rfl) (by kernel_rfl) rfl (by kernel_rfl) (fun lst w => Til.mono (by decide) lst w) (fun l' w' hg hp hs => by
        skip
        exact .inl ⟨rfl, fun d => ⟨by go_simp; rfl, fun e he => by simp [go_sem, *] at he⟩⟩) ?_
      walk_nrm
      refine anyS_take (i' := 7) rfl (by kernel_rfl) (by kernel_rfl) (by kernel_rfl) (by kernel_rfl) rfl (by kernel_rfl) (fun lst w => Til.mono (by decide) lst w) (fun l' w' hg hp hs => by
        skip
        exact .inl ⟨rfl, fun d => ⟨by go_simp; rfl, fun e he => by simp [go_sem, *] at he⟩⟩) ?_
      walk_nrm
      refine anyS_take (i' := 8) rfl (by kernel_rfl) (by kernel_rfl) (by kernel_rfl) (by kernel_rfl) rfl (by kernel_rfl) (fun lst w => Til.mono (by decide) lst w) (fun l' w' hg hp hs => by
        skip
        exact .inl ⟨rfl, fun d => ⟨by go_simp; rfl, fun e he => by simp [go_sem, *] at he⟩⟩) ?_
      walk_nrm
      refine anyS_take (i' := 9) rfl (by kernel_rfl) (by kernel_rfl) (by kernel_rfl) (by kernel_rfl) rfl (by kernel_rfl) (fun lst w => Til.mono (by decide) lst w) (fun l' w' hg hp hs => by
        have hs := hs.get hg (by decide) hp (by kernel_rfl)
        have k1 : w'.cell? ⟨N, 0, none⟩ = some (.int .i64 (c : Int)) := by rw [hs]; exact c0
        have k2 : w'.cell? ⟨N, 1, none⟩ = some (.int .i64 n) := by rw [hs]; exact c1
        have k3 : w'.cell? ⟨R, c, none⟩ = some (.int .i64 (x.cs c)) := by rw [hs]; exact cc
        exact .inl ⟨rfl, fun d => ⟨by go_simp; rfl, fun e he => by simp [go_sem, *] at he; subst he; exact evL_free hR1⟩⟩) ?_
      walk_nrm
      refine anyS_take (i' := 10) rfl (by kernel_rfl) (by kernel_rfl) (by kernel_rfl) (by kernel_rfl) rfl (by kernel_rfl) (fun lst w => Til.mono (by decide) lst w) (fun l' w' hg hp hs => by
        skip
        exact .inl ⟨rfl, fun d => ⟨by go_simp; rfl, fun e he => by simp [go_sem, *] at he⟩⟩) ?_
      walk_nrm
      refine anyS_take (i' := 11) rfl (by kernel_rfl) (by kernel_rfl) (by kernel_rfl) (by kernel_rfl) rfl (by kernel_rfl) (fun lst w => Til.mono (by decide) lst w) (fun l' w' hg hp hs => by
        have hs := hs.get hg (by decide) hp (by kernel_rfl)
        have k1 : w'.cell? ⟨N, 0, none⟩ = some (.int .i64 (c : Int)) := by rw [hs]; exact c0
        have k2 : w'.cell? ⟨N, 1, none⟩ = some (.int .i64 n) := by rw [hs]; exact c1
        have k3 : w'.cell? ⟨R, c, none⟩ = some (.int .i64 (x.cs c)) := by rw [hs]; exact cc
        exact .inl ⟨rfl, fun d => ⟨by go_simp; rfl, fun e he => by simp [go_sem, *] at he; subst he; exact evL_free hF1⟩⟩) ?_
      walk_nrm
      refine anyS_take (i' := 12) rfl (by kernel_rfl) (by kernel_rfl) (by kernel_rfl) (by kernel_rfl) rfl (by kernel_rfl) (fun lst w => Til.mono (by decide) lst w) (fun l' w' hg hp hs => by
        skip
        exact .inl ⟨rfl, fun d => ⟨by go_simp; rfl, fun e he => by simp [go_sem, *] at he⟩⟩) ?_
      walk_nrm
      refine anyS_take (i' := 13) rfl (by kernel_rfl) (by kernel_rfl) (by kernel_rfl) (by kernel_rfl) rfl (by kernel_rfl) (fun lst w => Til.mono (by decide) lst w) (fun l' w' hg hp hs => by
        skip
        exact .inl ⟨rfl, fun d => ⟨by go_simp; rfl, fun e he => by simp [go_sem, *] at he⟩⟩) ?_
      walk_nrm
      refine anyS_take (i' := 14) rfl (by kernel_rfl) (by kernel_rfl) (by kernel_rfl) (by kernel_rfl) rfl (by kernel_rfl) (fun lst w => Til.mono (by decide) lst w) (fun l' w' hg hp hs => by
        skip
        exact .inl ⟨rfl, fun d => ⟨by go_simp; rfl, fun e he => by simp [go_sem, *] at he⟩⟩) ?_
      walk_nrm
      refine anyS_take (i' := 15) rfl (by kernel_rfl) (by kernel_rfl) (by kernel_rfl) (by kernel_rfl) rfl (by kernel_rfl) (fun lst w => Til.mono (by decide) lst w) (fun l' w' hg hp hs => by
        skip
        exact .inl ⟨rfl, fun d => ⟨by go_simp; rfl, fun e he => by simp [go_sem, *] at he⟩⟩) ?_
      walk_nrm
      try rw [ewn]
      refine anyS_store (j := 16) (w2 := w1.setCell ⟨R, c, none⟩ (.int .i64 (w64 (x.cs c + n)))) rfl (by kernel_rfl) (by kernel_rfl) (fun _ => rfl) rfl (fun d => ⟨by go_simp; rfl, fun e he => by simp [go_sem, *] at he; subst he; exact evL_free hR1⟩) ?_
      exact anyS_done (by kernel_rfl) (fun e => by cases e) ⟨rfl, _, _, _, _, _, _, _, _, _, _, _, _, _, _, _, _, _, _, _, _, _, _, _, _, _, _, _, _, _, _, _, _, rfl⟩
    · obtain ⟨rfl, z2, z5, z6, z7, z8, z9, z10, z11, z12, z13, z14, z15, z16, z17, z18, z19, z20, z21, z22, z23, z24, z25, z26, z27, z28, z29, z30, z31, z32, z33, z34, z35, rfl⟩ := hq
      clear cc tc cm c0 c1 evi ewn
      generalize w1.setCell ⟨R, c, none⟩ (.int .i64 (w64 (x.cs c + n))) = w2 at h2 hO2 b2 sz2 ⊢
      clear a2 hbx1 hr1 hO1
      have c0 := (cells2r b2).1
      have c1 := (cells2r b2).2
      have cm : w2.cell? ⟨R, 8, none⟩ = some (.int .i64 x.most) := h2.cMost
      repeat first
        | refine Run.seq ?_
        | refine Run.skip ?_
        | refine Run.regionEnd ?_
        | refine Run.block ?_
        | refine Run.inBlock ?_
        | (refine Run.region ?_; simp only [List.size_toArray, List.length_cons, List.length_nil, Nat.reduceAdd, Nat.zero_add, List.range, List.range.loop])
        | (refine Run.cond rfl ?_; simp only [if_true, if_false, Bool.false_eq_true, ↓reduceIte])
        | (refine Run.unwanted rfl rfl ?_; walk_nrm)
        | (refine Run.op0 rfl rfl (by k_ne) (fun d K hK => by go_simp; exact hK) (fun d => by first | (simp [go_sem, *] <;> fail) | fail) ?_; try w_num)
        | refine Run.ret ?_
        | refine Run.fin ?_
        | refine Run.exit rfl ?_
      refine Run.drawS (by k_ne) rfl (fun a' w' => w' = w2 ∧ ∃ (y2 y5 y6 y7 y8 y9 y10 y11 y12 y13 y14 y15 y16 y17 y18 y19 y20 y21 y22 y23 y24 y25 y26 y27 y28 y29 y31 y32 y33 y34 y35 : Value), a' = ⟨#[.pointer (some ⟨R, 0, none⟩), .agg #[.int .i64 (c : Int), .int .i64 n], y2, .pointer (some ⟨N, 0, none⟩), .int .i64 0, y5, y6, y7, y8, y9, y10, y11, y12, y13, y14, y15, y16, y17, y18, y19, y20, y21, y22, y23, y24, y25, y26, y27, y28, y29, .bool (decide (x.most < n)), y31, y32, y33, y34, y35], []⟩) (fun _ w' => w' = w2) ?_ (fun a' w' hq => ?_)
      · simp only [List.size_toArray, List.length_cons, List.length_nil, Nat.reduceAdd, Nat.zero_add]
        refine anyS_take (i' := 0) rfl (by kernel_rfl) (by kernel_rfl) (by kernel_rfl) (by kernel_rfl) rfl (by kernel_rfl) (fun _ _ h => h) (fun l' w' hg hp hs => by
          skip
          exact .inl ⟨rfl, fun d => ⟨by go_simp; rfl, fun e he => by simp [go_sem, *] at he⟩⟩) ?_
        walk_nrm
        refine anyS_take (i' := 1) rfl (by kernel_rfl) (by kernel_rfl) (by kernel_rfl) (by kernel_rfl) rfl (by kernel_rfl) (fun _ _ h => h) (fun l' w' hg hp hs => by
          have k2 : w'.cell? ⟨N, 1, none⟩ = some (.int .i64 n) := by rw [show w' = w2 from hs]; exact c1
          have k3 : w'.cell? ⟨R, 8, none⟩ = some (.int .i64 x.most) := by rw [show w' = w2 from hs]; exact cm
          exact .inl ⟨rfl, fun d => ⟨by go_simp; rfl, fun e he => by simp [go_sem, *] at he; subst he; exact evL_free hF1⟩⟩) ?_
        walk_nrm
        refine anyS_take (i' := 2) rfl (by kernel_rfl) (by kernel_rfl) (by kernel_rfl) (by kernel_rfl) rfl (by kernel_rfl) (fun _ _ h => h) (fun l' w' hg hp hs => by
          skip
          exact .inl ⟨rfl, fun d => ⟨by go_simp; rfl, fun e he => by simp [go_sem, *] at he⟩⟩) ?_
        walk_nrm
        refine anyS_take (i' := 3) rfl (by kernel_rfl) (by kernel_rfl) (by kernel_rfl) (by kernel_rfl) rfl (by kernel_rfl) (fun _ _ h => h) (fun l' w' hg hp hs => by
          skip
          exact .inl ⟨rfl, fun d => ⟨by go_simp; rfl, fun e he => by simp [go_sem, *] at he⟩⟩) ?_
        walk_nrm
        refine anyS_take (i' := 4) rfl (by kernel_rfl) (by kernel_rfl) (by kernel_rfl) (by kernel_rfl) rfl (by kernel_rfl) (fun _ _ h => h) (fun l' w' hg hp hs => by
          skip
          exact .inl ⟨rfl, fun d => ⟨by go_simp; rfl, fun e he => by simp [go_sem, *] at he⟩⟩) ?_
        walk_nrm
        refine anyS_take (i' := 5) rfl (by kernel_rfl) (by kernel_rfl) (by kernel_rfl) (by kernel_rfl) rfl (by kernel_rfl) (fun _ _ h => h) (fun l' w' hg hp hs => by
          have k2 : w'.cell? ⟨N, 1, none⟩ = some (.int .i64 n) := by rw [show w' = w2 from hs]; exact c1
          have k3 : w'.cell? ⟨R, 8, none⟩ = some (.int .i64 x.most) := by rw [show w' = w2 from hs]; exact cm
          exact .inl ⟨rfl, fun d => ⟨by go_simp; rfl, fun e he => by simp [go_sem, *] at he; subst he; exact evL_free hR1⟩⟩) ?_
        walk_nrm
        refine anyS_take (i' := 6) rfl (by kernel_rfl) (by kernel_rfl) (by kernel_rfl) (by kernel_rfl) rfl (by kernel_rfl) (fun _ _ h => h) (fun l' w' hg hp hs => by
          skip
          exact .inl ⟨rfl, fun d => ⟨by go_simp; rfl, fun e he => by simp [go_sem, *] at he⟩⟩) ?_
        walk_nrm
        exact anyS_done (by kernel_rfl) rfl ⟨rfl, _, _, _, _, _, _, _, _, _, _, _, _, _, _, _, _, _, _, _, _, _, _, _, _, _, _, _, _, _, _, _, rfl⟩
      · obtain ⟨rfl, z2, z5, z6, z7, z8, z9, z10, z11, z12, z13, z14, z15, z16, z17, z18, z19, z20, z21, z22, z23, z24, z25, z26, z27, z28, z29, z31, z32, z33, z34, z35, rfl⟩ := hq
        by_cases hm : n ≤ x.most
        · have hdm : decide (x.most < n) = false := decide_eq_false (by omega)
          replace hK := Lib.hid (hK (X.up w1.heap.size) _ _ ⟨by rw [sz2], hO2, .inl ⟨hok, rfl, by rw [if_pos hm]; exact h2⟩⟩)
          rw [hdm]
          clear h2 hO2 b2 sz2 h hX hm
          repeat first
            | refine Run.seq ?_
            | refine Run.skip ?_
            | refine Run.regionEnd ?_
            | refine Run.block ?_
            | refine Run.inBlock ?_
            | (refine Run.region ?_; simp only [List.size_toArray, List.length_cons, List.length_nil, Nat.reduceAdd, Nat.zero_add, List.range, List.range.loop])
            | (refine Run.cond rfl ?_; simp only [if_true, if_false, Bool.false_eq_true, ↓reduceIte])
            | (refine Run.unwanted rfl rfl ?_; walk_nrm)
            | (refine Run.op0 rfl rfl (by k_ne) (fun d K hK => by go_simp; exact hK) (fun d => by first | (simp [go_sem, *] <;> fail) | fail) ?_; try w_num)
            | refine Run.ret ?_
            | refine Run.fin ?_
            | refine Run.exit rfl ?_
          refine Run.leave1 rfl rfl Try.func11 rfl ?_
          exact hK.out
        · have hdm : decide (x.most < n) = true := decide_eq_true (by omega)
          have h3 := h2.setMost n
          have a3 := aside_setCell w' ⟨R, 8, none⟩ (.int .i64 n)
          have tm := h2.thaw 8
          replace hK := Lib.hid (hK (X.up w1.heap.size) _ (w'.setCell ⟨R, 8, none⟩ (.int .i64 n)) ⟨by rw [← sz2]; exact congrArg X.up a3.size.symm, hO2.trans (Off.of_aside a3), .inl ⟨hok, rfl, by rw [if_neg hm]; exact h3⟩⟩)
          rw [hdm]
          clear h2 h3 a3 hO2 b2 sz2 h hX hm
          repeat first
            | refine Run.seq ?_
            | refine Run.skip ?_
            | refine Run.regionEnd ?_
            | refine Run.block ?_
            | refine Run.inBlock ?_
            | (refine Run.region ?_; simp only [List.size_toArray, List.length_cons, List.length_nil, Nat.reduceAdd, Nat.zero_add, List.range, List.range.loop])
            | (refine Run.cond rfl ?_; simp only [if_true, if_false, Bool.false_eq_true, ↓reduceIte])
            | (refine Run.unwanted rfl rfl ?_; walk_nrm)
            | (refine Run.op0 rfl rfl (by k_ne) (fun d K hK => by go_simp; exact hK) (fun d => by first | (simp [go_sem, *] <;> fail) | fail) ?_; try w_num)
            | refine Run.ret ?_
            | refine Run.fin ?_
            | refine Run.exit rfl ?_
            | ((refine Run.op w' rfl rfl (by k_ne) (fun d K hK => by go_simp; exact hK) (fun d e he => by simp [go_sem, *] at he; subst he; exact evL_free hF1) ?_; try w_num))
            | ((refine Run.op (w'.setCell ⟨R, 8, none⟩ (.int .i64 n)) rfl rfl (by k_ne) (fun d K hK => by go_simp; exact hK) (fun d e he => by simp [go_sem, *] at he; subst he; exact evL_free hR1) ?_; try w_num))
          refine Run.leave1 rfl rfl Try.func11 rfl ?_
          exact hK.out
end
end Go.Proofs.Ytboiolnnhmlieaa.Gang
namespace Go.Proofs.Ytboiolnnhmlieaa.Gang
open Go.Conc Go.ConcN Go.RowKit Go.Conc.Lib Go.ConcR.Gen Go.ConcN.Gen
set_option linter.unusedVariables false
set_option linter.unusedSimpArgs false
noncomputable def loops20 : Code → List Code
  | .seq a b => loops20 a ++ loops20 b
  | .block _ (.loop c) => [c]
  | _ => []
noncomputable def l20 : Code := (loops20 (Try.f20.body.getD .skip)).getD 0 .skip
section
variable {X : Cx} {T R : Nat} {x : Tl} {w : World}
set_option maxRecDepth 100000 in
set_option maxHeartbeats 8000000 in
theorem same_loop (hT : T < X.B) (hR : X.free R) (ht : TlAt T x w) (hr : RefAt R x w) {b : Frame} {a : Act} {kk : List Item} {cs : List Frame} {ops : Array Oper} {i : Nat} {rest : List Nat} {K : List Item} (hK : ∀ (y2 y3 y6 y7 y8 y9 y10 y11 y12 y13 y14 y15 y16 y17 y18 y19 y20 y21 y22 y23 y24 y25 y26 y27 y28 y29 y30 y31 y32 y33 y34 y35 y36 : Value), Run Try.prog X (G ((base 20).at ⟨#[.pointer (some ⟨T, 0, none⟩), .pointer (some ⟨R, 0, none⟩), y2, y3, .bool false, .int .i64 8, y6, y7, y8, y9, y10, y11, y12, y13, y14, y15, y16, y17, y18, y19, y20, y21, y22, y23, y24, y25, y26, y27, y28, y29, y30, y31, y32, y33, y34, y35, y36], []⟩ K) (b.at a (.inRegion ops (i :: rest) :: kk) :: cs)) w) : ∀ (m k : Nat), k + m = 8 → ∀ (y2 y3 y6 y7 y8 y9 y10 y11 y12 y13 y14 y15 y16 y17 y18 y19 y20 y21 y22 y23 y24 y25 y26 y27 y28 y29 y30 y31 y32 y33 y34 y35 y36 : Value),
    Run Try.prog X (G ((base 20).at ⟨#[.pointer (some ⟨T, 0, none⟩), .pointer (some ⟨R, 0, none⟩), y2, y3, .bool false, .int .i64 (k : Int), y6, y7, y8, y9, y10, y11, y12, y13, y14, y15, y16, y17, y18, y19, y20, y21, y22, y23, y24, y25, y26, y27, y28, y29, y30, y31, y32, y33, y34, y35, y36], []⟩ (.code l20 :: .inLoop l20 :: .inBlock 0 :: K)) (b.at a (.inRegion ops (i :: rest) :: kk) :: cs)) w := by
  replace hK := Lib.hid hK
  intro m
  induction m with
  | zero =>
    intro k hk y2 y3 y6 y7 y8 y9 y10 y11 y12 y13 y14 y15 y16 y17 y18 y19 y20 y21 y22 y23 y24 y25 y26 y27 y28 y29 y30 y31 y32 y33 y34 y35 y36
    obtain rfl : k = 8 := by omega
    simp only [l20, loops20, Try.f20, Option.getD_some, List.nil_append, List.append_nil, List.cons_append, List.getD_cons_zero, List.getD_cons_succ]
    clear ht hr
    repeat first
      | refine Run.seq ?_
      | refine Run.skip ?_
      | refine Run.regionEnd ?_
      | refine Run.block ?_
      | refine Run.inBlock ?_
      | (refine Run.region ?_; simp only [List.size_toArray, List.length_cons, List.length_nil, Nat.reduceAdd, Nat.zero_add, List.range, List.range.loop])
      | (refine Run.cond rfl ?_; simp only [if_true, if_false, Bool.false_eq_true, ↓reduceIte])
      | (refine Run.unwanted rfl rfl ?_; walk_nrm)
      | (refine Run.op0 rfl rfl (by k_ne) (fun d K hK => by go_simp; exact hK) (fun d => by first | (simp [go_sem, *] <;> fail) | fail) ?_; try w_num)
      | refine Run.ret ?_
      | refine Run.fin ?_
      | refine Run.exit rfl ?_
    exact hK.out _ _ _ _ _ _ _ _ _ _ _ _ _ _ _ _ _ _ _ _ _ _ _ _ _ _ _ _ _ _ _ _ _
  | succ m ih =>
    intro k hk y2 y3 y6 y7 y8 y9 y10 y11 y12 y13 y14 y15 y16 y17 y18 y19 y20 y21 y22 y23 y24 y25 y26 y27 y28 y29 y30 y31 y32 y33 y34 y35 y36
    have hkN : k < 8 := by omega
    have hki : (k : Int) < 8 := by omega
    have hlt : decide ((k : Int) < 8) = true := decide_eq_true (by omega)
    have ew : IntKind.i64.wrap ((k : Int) + 1) = ((k + 1 : Nat) : Int) := by rw [IntKind.wrap_i64]; omega
    have hC := get_mid hT ht hkN
    have evi := fun (w : World) es => ev_slot27 (R := R) hkN w es
    have cs := hr.slot hkN
    generalize x.cs k = Z at hC cs
    replace ih := Lib.hid (ih (k + 1) (by omega))
    simp only [l20, loops20, Try.f20, Option.getD_some, List.nil_append, List.append_nil, List.cons_append, List.getD_cons_zero, List.getD_cons_succ] at ih ⊢
    clear ht hr
    repeat first
      | refine Run.seq ?_
      | refine Run.skip ?_
      | refine Run.regionEnd ?_
      | refine Run.block ?_
      | refine Run.inBlock ?_
      | (refine Run.region ?_; simp only [List.size_toArray, List.length_cons, List.length_nil, Nat.reduceAdd, Nat.zero_add, List.range, List.range.loop])
      | (refine Run.cond rfl ?_; simp only [if_true, if_false, Bool.false_eq_true, ↓reduceIte])
      | (refine Run.unwanted rfl rfl ?_; walk_nrm)
      | (refine Run.op0 rfl rfl (by k_ne) (fun d K hK => by go_simp; exact hK) (fun d => by first | (simp [go_sem, *] <;> fail) | fail) ?_; try w_num)
      | refine Run.ret ?_
      | refine Run.fin ?_
      | refine Run.exit rfl ?_
    refine Run.draw (by k_ne) rfl (fun a' w' => w' = w ∧ ∃ (y2 y3 y6 y7 y8 y9 y10 y11 y12 y13 y14 y15 y16 y17 y18 y20 y21 y22 y23 y24 y25 y26 y27 y28 y29 y30 y31 y32 y33 y34 y35 y36 : Value), a' = ⟨#[.pointer (some ⟨T, 0, none⟩), .pointer (some ⟨R, 0, none⟩), y2, y3, .bool false, .int .i64 (k : Int), y6, y7, y8, y9, y10, y11, y12, y13, y14, y15, y16, y17, y18, .bool false, y20, y21, y22, y23, y24, y25, y26, y27, y28, y29, y30, y31, y32, y33, y34, y35, y36], []⟩) (fun w' => w' = w) ?_ (fun a' w' hq => ?_)
    · simp only [List.size_toArray, List.length_cons, List.length_nil, Nat.reduceAdd, Nat.zero_add]
      refine anyR_take (i' := 0) rfl (by kernel_rfl) (by kernel_rfl) (by kernel_rfl) (by kernel_rfl) (fun w' hS => by
        skip
        exact .inl ⟨rfl, fun d => ⟨by go_simp; rfl, fun e he => by simp [go_sem, *] at he⟩⟩) ?_
      walk_nrm
      refine anyR_take (i' := 1) rfl (by kernel_rfl) (by kernel_rfl) (by kernel_rfl) (by kernel_rfl) (fun w' hS => by
        skip
        exact .inl ⟨rfl, fun d => ⟨by go_simp; rfl, fun e he => by simp [go_sem, *] at he⟩⟩) ?_
      walk_nrm
      refine anyR_take (i' := 3) rfl (by kernel_rfl) (by kernel_rfl) (by kernel_rfl) (by kernel_rfl) (fun w' hS => by
        skip
        exact .inl ⟨rfl, fun d => ⟨by go_simp; rfl, fun e he => by simp [go_sem, *] at he⟩⟩) ?_
      walk_nrm
      refine anyR_take (i' := 4) rfl (by kernel_rfl) (by kernel_rfl) (by kernel_rfl) (by kernel_rfl) (fun w' hS => by
        skip
        exact .inl ⟨rfl, fun d => ⟨by go_simp; rfl, fun e he => by simp [go_sem, *] at he⟩⟩) ?_
      walk_nrm
      refine anyR_take (i' := 5) rfl (by kernel_rfl) (by kernel_rfl) (by kernel_rfl) (by kernel_rfl) (fun w' hS => by
        skip
        exact .inl ⟨rfl, fun d => ⟨by go_simp; rfl, fun e he => by simp [go_sem, *] at he⟩⟩) ?_
      walk_nrm
      refine anyR_take (i' := 6) rfl (by kernel_rfl) (by kernel_rfl) (by kernel_rfl) (by kernel_rfl) (fun w' hS => by
        skip
        exact .inl ⟨rfl, fun d => ⟨by go_simp; rfl, fun e he => by simp [go_sem, *] at he⟩⟩) ?_
      walk_nrm
      refine anyR_take (i' := 7) rfl (by kernel_rfl) (by kernel_rfl) (by kernel_rfl) (by kernel_rfl) (fun w' hS => by
        skip
        exact .inl ⟨rfl, fun d => ⟨by go_simp; rfl, fun e he => by simp [go_sem, *] at he⟩⟩) ?_
      walk_nrm
      refine anyR_take (i' := 8) rfl (by kernel_rfl) (by kernel_rfl) (by kernel_rfl) (by kernel_rfl) (fun w' hS => by
        have k1 : w'.cell? ⟨R, k, none⟩ = some (.int .i64 Z) := by rw [show w' = w from hS]; exact cs
        exact .inl ⟨rfl, fun d => ⟨by go_simp; rfl, fun e he => by simp [go_sem, *] at he; subst he; exact evL_free hR⟩⟩) ?_
      walk_nrm
      refine anyR_call (j := 2) hC rfl (by kernel_rfl) (by kernel_rfl) rfl rfl rfl (by first | (simp only [List.map_toArray, List.map_cons, List.map_nil]; done) | (simp only [List.map_toArray, List.map_cons, List.map_nil]; rfl)) (fun X' v w' hr => ?_)
      obtain ⟨rfl, rfl, rfl⟩ := hr
      refine ⟨rfl, ?_⟩
      walk_nrm
      refine anyR_take (i' := 9) rfl (by kernel_rfl) (by kernel_rfl) (by kernel_rfl) (by kernel_rfl) (fun w' hS => by
        skip
        exact .inl ⟨rfl, fun d => ⟨by go_simp; rfl, fun e he => by simp [go_sem, *] at he⟩⟩) ?_
      walk_nrm
      exact anyR_done (by kernel_rfl) rfl ⟨rfl, _, _, _, _, _, _, _, _, _, _, _, _, _, _, _, _, _, _, _, _, _, _, _, _, _, _, _, _, _, _, _, _, rfl⟩
    · obtain ⟨rfl, z2, z3, z6, z7, z8, z9, z10, z11, z12, z13, z14, z15, z16, z17, z18, z20, z21, z22, z23, z24, z25, z26, z27, z28, z29, z30, z31, z32, z33, z34, z35, z36, rfl⟩ := hq
      repeat first
        | refine Run.seq ?_
        | refine Run.skip ?_
        | refine Run.regionEnd ?_
        | refine Run.block ?_
        | refine Run.inBlock ?_
        | (refine Run.region ?_; simp only [List.size_toArray, List.length_cons, List.length_nil, Nat.reduceAdd, Nat.zero_add, List.range, List.range.loop])
        | (refine Run.cond rfl ?_; simp only [if_true, if_false, Bool.false_eq_true, ↓reduceIte])
        | (refine Run.unwanted rfl rfl ?_; walk_nrm)
        | (refine Run.op0 rfl rfl (by k_ne) (fun d K hK => by go_simp; exact hK) (fun d => by first | (simp [go_sem, *] <;> fail) | fail) ?_; try w_num)
        | refine Run.ret ?_
        | refine Run.fin ?_
        | refine Run.exit rfl ?_
      first | rw [ew] | rw [show (k : Int) + 1 = ((k + 1 : Nat) : Int) by omega]
      refine Run.inLoop ?_
      exact ih.out _ _ _ _ _ _ _ _ _ _ _ _ _ _ _ _ _ _ _ _ _ _ _ _ _ _ _ _ _ _ _ _ _
set_option maxRecDepth 100000 in
set_option maxHeartbeats 8000000 in
theorem same_con (hT : T < X.B) (hR : X.free R) (ht : TlAt T x w) (hr : RefAt R x w) : Con Try.prog X 20 #[.pointer (some ⟨T, 0, none⟩), .pointer (some ⟨R, 0, none⟩)] w (fun X' v w' => X' = X ∧ w' = w ∧ v = .bool true) := by
  refine ⟨Try.f20, _, Try.func20, nm20, rfl, fun b₀ a₀ ops₀ n₀ rest₀ k₀ cs hK => ?_⟩
  walk_nrmf Try.f20
  have hLp := fun (K : List Item) hK => same_loop hT hR ht hr (b := b₀) (a := a₀) (kk := k₀) (cs := cs) (ops := ops₀) (i := n₀) (rest := rest₀) (K := K) hK 8 0 (by omega)
  simp only [l20, loops20, Try.f20, Option.getD_some, List.nil_append, List.append_nil, List.cons_append, List.getD_cons_zero, List.getD_cons_succ] at hLp
  replace hLp := Lib.hid hLp
  have hM := most_con hT ht
  have hG1 := get_con hT ht (-1)
  have hG8 := get_con hT ht 8
  rw [if_neg (by omega)] at hG1 hG8
  have cm := hr.cMost
  generalize x.most = M at hM cm
  replace hK := Lib.hid (hK X (.bool true) w ⟨rfl, rfl, rfl⟩)
  clear ht hr
  repeat first
    | refine Run.seq ?_
    | refine Run.skip ?_
    | refine Run.regionEnd ?_
    | refine Run.block ?_
    | refine Run.inBlock ?_
    | (refine Run.region ?_; simp only [List.size_toArray, List.length_cons, List.length_nil, Nat.reduceAdd, Nat.zero_add, List.range, List.range.loop])
    | (refine Run.cond rfl ?_; simp only [if_true, if_false, Bool.false_eq_true, ↓reduceIte])
    | (refine Run.unwanted rfl rfl ?_; walk_nrm)
    | (refine Run.op0 rfl rfl (by k_ne) (fun d K hK => by go_simp; exact hK) (fun d => by first | (simp [go_sem, *] <;> fail) | fail) ?_; try w_num)
    | refine Run.ret ?_
    | refine Run.fin ?_
    | refine Run.exit rfl ?_
  refine Run.loop ?_
  refine hLp.out _ ?_ _ _ _ _ _ _ _ _ _ _ _ _ _ _ _ _ _ _ _ _ _ _ _ _ _ _ _ _ _ _ _ _ _
  clear hLp
  intro y2 y3 y6 y7 y8 y9 y10 y11 y12 y13 y14 y15 y16 y17 y18 y19 y20 y21 y22 y23 y24 y25 y26 y27 y28 y29 y30 y31 y32 y33 y34 y35 y36
  repeat first
    | refine Run.seq ?_
    | refine Run.skip ?_
    | refine Run.regionEnd ?_
    | refine Run.block ?_
    | refine Run.inBlock ?_
    | (refine Run.region ?_; simp only [List.size_toArray, List.length_cons, List.length_nil, Nat.reduceAdd, Nat.zero_add, List.range, List.range.loop])
    | (refine Run.cond rfl ?_; simp only [if_true, if_false, Bool.false_eq_true, ↓reduceIte])
    | (refine Run.unwanted rfl rfl ?_; walk_nrm)
    | (refine Run.op0 rfl rfl (by k_ne) (fun d K hK => by go_simp; exact hK) (fun d => by first | (simp [go_sem, *] <;> fail) | fail) ?_; try w_num)
    | refine Run.ret ?_
    | refine Run.fin ?_
    | refine Run.exit rfl ?_
  refine Run.draw (by k_ne) rfl (fun a' w' => w' = w ∧ ∃ (y2 y3 y6 y7 y8 y9 y10 y11 y12 y13 y14 y15 y16 y17 y18 y19 y20 y21 y22 y23 y24 y25 y26 y27 y28 y29 y30 y31 y32 y33 y34 y35 y36 : Value), a' = ⟨#[.pointer (some ⟨T, 0, none⟩), .pointer (some ⟨R, 0, none⟩), y2, y3, .bool true, .int .i64 8, y6, y7, y8, y9, y10, y11, y12, y13, y14, y15, y16, y17, y18, y19, y20, y21, y22, y23, y24, y25, y26, y27, y28, y29, y30, y31, y32, y33, y34, y35, y36], []⟩) (fun w' => w' = w) ?_ (fun a' w' hq => ?_)
  · simp only [List.size_toArray, List.length_cons, List.length_nil, Nat.reduceAdd, Nat.zero_add]
    refine anyR_take (i' := 0) rfl (by kernel_rfl) (by kernel_rfl) (by kernel_rfl) (by kernel_rfl) (fun w' hS => by
      skip
      exact .inl ⟨rfl, fun d => ⟨by go_simp; rfl, fun e he => by simp [go_sem, *] at he⟩⟩) ?_
    walk_nrm
    refine anyR_take (i' := 2) rfl (by kernel_rfl) (by kernel_rfl) (by kernel_rfl) (by kernel_rfl) (fun w' hS => by
      skip
      exact .inl ⟨rfl, fun d => ⟨by go_simp; rfl, fun e he => by simp [go_sem, *] at he⟩⟩) ?_
    walk_nrm
    refine anyR_take (i' := 3) rfl (by kernel_rfl) (by kernel_rfl) (by kernel_rfl) (by kernel_rfl) (fun w' hS => by
      skip
      exact .inl ⟨rfl, fun d => ⟨by go_simp; rfl, fun e he => by simp [go_sem, *] at he⟩⟩) ?_
    walk_nrm
    refine anyR_take (i' := 4) rfl (by kernel_rfl) (by kernel_rfl) (by kernel_rfl) (by kernel_rfl) (fun w' hS => by
      skip
      exact .inl ⟨rfl, fun d => ⟨by go_simp; rfl, fun e he => by simp [go_sem, *] at he⟩⟩) ?_
    walk_nrm
    refine anyR_take (i' := 5) rfl (by kernel_rfl) (by kernel_rfl) (by kernel_rfl) (by kernel_rfl) (fun w' hS => by
      have k1 : w'.cell? ⟨R, 8, none⟩ = some (.int .i64 M) := by rw [show w' = w from hS]; exact cm
      exact .inl ⟨rfl, fun d => ⟨by go_simp; rfl, fun e he => by simp [go_sem, *] at he; subst he; exact evL_free hR⟩⟩) ?_
    walk_nrm
    refine anyR_call (j := 1) hM rfl (by kernel_rfl) (by kernel_rfl) rfl rfl rfl (by first | (simp only [List.map_toArray, List.map_cons, List.map_nil]; done) | (simp only [List.map_toArray, List.map_cons, List.map_nil]; rfl)) (fun X' v w' hr => ?_)
    obtain ⟨rfl, rfl, rfl⟩ := hr
    refine ⟨rfl, ?_⟩
    walk_nrm
    refine anyR_take (i' := 6) rfl (by kernel_rfl) (by kernel_rfl) (by kernel_rfl) (by kernel_rfl) (fun w' hS => by
      skip
      exact .inl ⟨rfl, fun d => ⟨by go_simp; rfl, fun e he => by simp [go_sem, *] at he⟩⟩) ?_
    walk_nrm
    refine anyR_take (i' := 7) rfl (by kernel_rfl) (by kernel_rfl) (by kernel_rfl) (by kernel_rfl) (fun w' hS => by
      skip
      exact .inl ⟨rfl, fun d => ⟨by go_simp; rfl, fun e he => by simp [go_sem, *] at he⟩⟩) ?_
    walk_nrm
    refine anyR_take (i' := 8) rfl (by kernel_rfl) (by kernel_rfl) (by kernel_rfl) (by kernel_rfl) (fun w' hS => by
      skip
      exact .inl ⟨rfl, fun d => ⟨by go_simp; rfl, fun e he => by simp [go_sem, *] at he⟩⟩) ?_
    walk_nrm
    refine anyR_call (j := 9) hG1 rfl (by kernel_rfl) (by kernel_rfl) rfl rfl rfl (by first | (simp only [List.map_toArray, List.map_cons, List.map_nil]; done) | (simp only [List.map_toArray, List.map_cons, List.map_nil]; rfl)) (fun X' v w' hr => ?_)
    obtain ⟨rfl, rfl, rfl⟩ := hr
    refine ⟨rfl, ?_⟩
    walk_nrm
    refine anyR_take (i' := 10) rfl (by kernel_rfl) (by kernel_rfl) (by kernel_rfl) (by kernel_rfl) (fun w' hS => by
      skip
      exact .inl ⟨rfl, fun d => ⟨by go_simp; rfl, fun e he => by simp [go_sem, *] at he⟩⟩) ?_
    walk_nrm
    refine anyR_take (i' := 11) rfl (by kernel_rfl) (by kernel_rfl) (by kernel_rfl) (by kernel_rfl) (fun w' hS => by
      skip
      exact .inl ⟨rfl, fun d => ⟨by go_simp; rfl, fun e he => by simp [go_sem, *] at he⟩⟩) ?_
    walk_nrm
    refine anyR_take (i' := 12) rfl (by kernel_rfl) (by kernel_rfl) (by kernel_rfl) (by kernel_rfl) (fun w' hS => by
      skip
      exact .inl ⟨rfl, fun d => ⟨by go_simp; rfl, fun e he => by simp [go_sem, *] at he⟩⟩) ?_
    walk_nrm
    refine anyR_take (i' := 13) rfl (by kernel_rfl) (by kernel_rfl) (by kernel_rfl) (by kernel_rfl) (fun w' hS => by
      skip
      exact .inl ⟨rfl, fun d => ⟨by go_simp; rfl, fun e he => by simp [go_sem, *] at he⟩⟩) ?_
    walk_nrm
    refine anyR_call (j := 14) hG8 rfl (by kernel_rfl) (by kernel_rfl) rfl rfl rfl (by first | (simp only [List.map_toArray, List.map_cons, List.map_nil]; done) | (simp only [List.map_toArray, List.map_cons, List.map_nil]; rfl)) (fun X' v w' hr => ?_)
    obtain ⟨rfl, rfl, rfl⟩ := hr
    refine ⟨rfl, ?_⟩
    walk_nrm
    refine anyR_take (i' := 15) rfl (by kernel_rfl) (by kernel_rfl) (by kernel_rfl) (by kernel_rfl) (fun w' hS => by
      skip
      exact .inl ⟨rfl, fun d => ⟨by go_simp; rfl, fun e he => by simp [go_sem, *] at he⟩⟩) ?_
    walk_nrm
    refine anyR_take (i' := 16) rfl (by kernel_rfl) (by kernel_rfl) (by kernel_rfl) (by kernel_rfl) (fun w' hS => by
      skip
      exact .inl ⟨rfl, fun d => ⟨by go_simp; rfl, fun e he => by simp [go_sem, *] at he⟩⟩) ?_
    walk_nrm
    refine anyR_take (i' := 17) rfl (by kernel_rfl) (by kernel_rfl) (by kernel_rfl) (by kernel_rfl) (fun w' hS => by
      skip
      exact .inl ⟨rfl, fun d => ⟨by go_simp; rfl, fun e he => by simp [go_sem, *] at he⟩⟩) ?_
    walk_nrm
    exact anyR_done (by kernel_rfl) rfl ⟨rfl, _, _, _, _, _, _, _, _, _, _, _, _, _, _, _, _, _, _, _, _, _, _, _, _, _, _, _, _, _, _, _, _, _, rfl⟩
  · obtain ⟨rfl, z2, z3, z6, z7, z8, z9, z10, z11, z12, z13, z14, z15, z16, z17, z18, z19, z20, z21, z22, z23, z24, z25, z26, z27, z28, z29, z30, z31, z32, z33, z34, z35, z36, rfl⟩ := hq
    repeat first
      | refine Run.seq ?_
      | refine Run.skip ?_
      | refine Run.regionEnd ?_
      | refine Run.block ?_
      | refine Run.inBlock ?_
      | (refine Run.region ?_; simp only [List.size_toArray, List.length_cons, List.length_nil, Nat.reduceAdd, Nat.zero_add, List.range, List.range.loop])
      | (refine Run.cond rfl ?_; simp only [if_true, if_false, Bool.false_eq_true, ↓reduceIte])
      | (refine Run.unwanted rfl rfl ?_; walk_nrm)
      | (refine Run.op0 rfl rfl (by k_ne) (fun d K hK => by go_simp; exact hK) (fun d => by first | (simp [go_sem, *] <;> fail) | fail) ?_; try w_num)
      | refine Run.ret ?_
      | refine Run.fin ?_
      | refine Run.exit rfl ?_
    refine Run.leave1 rfl rfl Try.func20 rfl ?_
    exact hK.out
end
end Go.Proofs.Ytboiolnnhmlieaa.Gang
